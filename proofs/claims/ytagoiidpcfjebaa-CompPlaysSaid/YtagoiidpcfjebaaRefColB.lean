/- tocsinref11.Add: what is refused. -/
import Derived.Test.YtagoiidpcfjebaaRefColA
import Derived.Test.YtagoiidpcfjebaaCompC
namespace Go.Proofs.Ytagoiidpcfjebaa
open Go.RowKit Go.Lib

set_option maxRecDepth 100000 in
set_option maxHeartbeats 2000000 in
theorem radd_bad (a : Option Addr) (n cap : Nat) (win l k fr cy cr cl : Int) (w : World) (h : takesB l k fr cy cr cl = false) :
    Calls Try.prog 12 #[.slice a n cap, .int .i64 win, .int .i64 l, .agg #[.int .i64 k, .int .i64 fr, .int .i64 cy, .int .u32 cr, .int .i64 cl]] w fun e w' =>
      e = .returned (.tuple #[.slice a n cap, .int .i64 0, .int .i64 1]) ∧ w.grownBy w' none := by
  unfold takesB at h
  by_cases hl : l < -1125899906842624 ∨ 1125899906842624 < l
  · clear h
    rcases hl with hl | hl
    · go_enter Try.func12, Try.ntmps12
      go_wp2_with fail
      exact bodyPost_ret (v := .tuple #[.slice a n cap, .int .i64 0, .int .i64 1]) (by simp [results, Try.results12, go_sem]) rfl ⟨rfl, gr_alloc (gr_refl w none) _⟩
    · have hl' : ¬ l < -1125899906842624 := by omega
      go_enter Try.func12, Try.ntmps12
      go_wp2_with fail
      exact bodyPost_ret (v := .tuple #[.slice a n cap, .int .i64 0, .int .i64 1]) (by simp [results, Try.results12, go_sem]) rfl ⟨rfl, gr_alloc (gr_refl w none) _⟩
  · have h1 : ¬ l < -1125899906842624 := by omega
    have h2 : ¬ 1125899906842624 < l := by omega
    have HR := hid (rright_any k fr cy cr cl)
    cases hr : rightB k fr cy cr cl with
    | false =>
      rw [hr] at HR
      clear h hr hl
      go_enter Try.func12, Try.ntmps12
      go_wp2_with fail
      refine (HR.out _).mono ?_
      rintro e w1 ⟨rfl, g1⟩
      have G1 := hid (bx_gr g1)
      clear g1
      go_wp2_with fail
      exact bodyPost_ret (v := .tuple #[.slice a n cap, .int .i64 0, .int .i64 1]) (by simp [results, Try.results12, go_sem]) rfl ⟨rfl, G1.out⟩
    | true =>
      have h3 : ¬ (k = 1 ∧ fr < 6) := by
        intro h4
        rw [hr] at h
        simp [h4] at h
        omega
      rw [hr] at HR
      clear h hr hl
      by_cases hk : k = 1
      · subst hk
        have hf : 5 < fr := by omega
        clear h3
        go_enter Try.func12, Try.ntmps12
        go_wp2_with fail
        refine (HR.out _).mono ?_
        rintro e w1 ⟨rfl, g1⟩
        have b0 := bx_cell g1 0 (.int .i64 1) rfl
        have b1 := bx_cell g1 1 (.int .i64 fr) rfl
        have G1 := hid (bx_gr g1)
        clear g1
        go_wp2_with fail
        exact bodyPost_ret (v := .tuple #[.slice a n cap, .int .i64 0, .int .i64 1]) (by simp [results, Try.results12, go_sem]) rfl ⟨rfl, G1.out⟩
      · clear h3
        go_enter Try.func12, Try.ntmps12
        go_wp2_with fail
        refine (HR.out _).mono ?_
        rintro e w1 ⟨rfl, g1⟩
        have b0 := bx_cell g1 0 (.int .i64 k) rfl
        have b1 := bx_cell g1 1 (.int .i64 fr) rfl
        have G1 := hid (bx_gr g1)
        clear g1
        go_wp2_with fail
        exact bodyPost_ret (v := .tuple #[.slice a n cap, .int .i64 0, .int .i64 1]) (by simp [results, Try.results12, go_sem]) rfl ⟨rfl, G1.out⟩

set_option maxRecDepth 100000 in
set_option maxHeartbeats 2000000 in
theorem radd_range (base : Nat) (v : Value) (ls : List CI) (win l h cy cr cl first : Int) (w : World) (hk : KR w base v ls) (h1 : 0 < ls.length) (hfirst : (cith ls 0).l = first) (hl : -1125899906842624 ≤ l ∧ l ≤ 1125899906842624) (hf : -1125899906842624 ≤ first ∧ first ≤ 1125899906842624)
    (hr : rightB 1 h cy cr cl = true) (hh : h < 6) (hout : l < first ∨ first + win < l) (hw : 0 ≤ win ∧ win ≤ 1048576) :
    Calls Try.prog 12 #[v, .int .i64 win, .int .i64 l, .agg #[.int .i64 1, .int .i64 h, .int .i64 cy, .int .u32 cr, .int .i64 cl]] w fun e w' =>
      e = .returned (.tuple #[v, .int .i64 0, .int .i64 4]) ∧ w.grownBy w' none := by
  obtain ⟨g, cap, rfl, hcap, ⟨hg0, hg1⟩, hcell⟩ := hk.cells h1
  obtain ⟨n, hn⟩ : ∃ n, Hid (ls.length = n) := ⟨_, hid rfl⟩
  rw [hn.out] at h1
  rw [hn.out]
  have HR := hid (rright_any 1 h cy cr cl)
  rw [hr] at HR
  obtain ⟨l0, l1⟩ := hl
  obtain ⟨f0, f1⟩ := hf
  obtain ⟨w0, w1'⟩ := hw
  have hw1 : IntKind.i64.wrap (l - first) = l - first := by rw [IntKind.wrap_i64]; omega
  have hf5 : ¬ 5 < h := by omega
  have HC := hid (fun W' (e : W'.heap[g]? = w.heap[g]?) => (hcell W' e 0 (by rw [hn.out]; exact h1)).1)
  rw [hfirst] at HC
  clear hcell hk hr
  have hn0 : (0 : Int) < (n : Int) := by omega
  rcases hout with ho | ho
  · go_enter Try.func12, Try.ntmps12
    go_wp2_with fail
    refine (HR.out _).mono ?_
    rintro e w1 ⟨rfl, g1⟩
    have b0 := bx_cell g1 0 (.int .i64 1) rfl
    have b1 := bx_cell g1 1 (.int .i64 h) rfl
    have G1 := hid (bx_gr g1)
    have c0 := HC.out w1 (G1.out.block g hg1 (by simp))
    rw [Nat.zero_mul] at c0
    clear g1
    go_wp2_with fail
    exact bodyPost_ret (v := .tuple #[.slice (some ⟨g, 0, none⟩) n cap, .int .i64 0, .int .i64 4]) (by simp [results, Try.results12, go_sem]) rfl ⟨rfl, G1.out⟩
  · have ho1 : ¬ l < first := by omega
    have ho2 : win < l - first := by omega
    go_enter Try.func12, Try.ntmps12
    go_wp2_with fail
    refine (HR.out _).mono ?_
    rintro e w1 ⟨rfl, g1⟩
    have b0 := bx_cell g1 0 (.int .i64 1) rfl
    have b1 := bx_cell g1 1 (.int .i64 h) rfl
    have G1 := hid (bx_gr g1)
    have c0 := HC.out w1 (G1.out.block g hg1 (by simp))
    rw [Nat.zero_mul] at c0
    clear g1
    go_wp2_with fail
    exact bodyPost_ret (v := .tuple #[.slice (some ⟨g, 0, none⟩) n cap, .int .i64 0, .int .i64 4]) (by simp [results, Try.results12, go_sem]) rfl ⟨rfl, G1.out⟩
end Go.Proofs.Ytagoiidpcfjebaa
