/- Lemmas: The document's collection: its frames as they lie; its own RightControl. tocsinref11.Add: what is refused. -/
import Derived.Test.YtckoaeoecjphiaaGreatK05
import Derived.Test.YtckoaeoecjphiaaGreatK13
import Derived.Deep.QuietTactic
import Derived.BigQuiet
import Derived.Maps.AppendAt
import Derived.Test.YtckoaeoecjphiaaGreatK20

/- The document's collection: its frames as they lie; its own RightControl. -/
namespace Go.Proofs.YtckoaeoecjphiaaGreat
open Go.RowKit Go.Lib

theorem kcell {w : World} {b : Nat} {cells : Array Value} {t : TypeId} (h : w.heap[b]? = some (.cells cells t)) (i : Nat) (v : Value) (hv : cells[i]? = some v) : w.cell? ⟨b, i, none⟩ = some v := by simp [World.cell?, h, hv]
structure CI where
  l : Int
  h : Nat
  cy : Int
  cr : Int
  cl : Int
def cith (ls : List CI) (i : Nat) : CI := ls[i]?.getD ⟨0, 0, 0, 0, 0⟩
def cC (x : CI) : List Value := [.int .i64 x.l, .int .i64 1, .int .i64 (x.h : Int), .int .i64 x.cy, .int .u32 x.cr, .int .i64 x.cl]
theorem cC_length (x : CI) : (cC x).length = 6 := rfl
def flatK (xs : List CI) : List Value := xs.flatMap cC
theorem flatK_snoc (xs : List CI) (x : CI) : flatK (xs ++ [x]) = flatK xs ++ cC x := by simp [flatK]
theorem flatK_at {xs : List CI} {i c : Nat} (hi : i < xs.length) (hc : c < 6) : (flatK xs)[i * 6 + c]? = (cC (cith xs i))[c]? := by
  induction xs generalizing i with
  | nil => simp at hi
  | cons x l ih =>
    have e : flatK (x :: l) = cC x ++ flatK l := by simp [flatK]
    rw [e]
    cases i with
    | zero =>
      rw [List.getElem?_append_left (by rw [cC_length]; omega)]
      simp [cith]
    | succ i =>
      rw [List.getElem?_append_right (by rw [cC_length]; omega), cC_length]
      have e2 : (i + 1) * 6 + c - 6 = i * 6 + c := by omega
      rw [e2, ih (by simpa using hi)]
      simp [cith]
/-- The collection's row, its own. -/
abbrev KR (W : World) (base : Nat) (v : Value) (ls : List CI) : Prop := W.ownsRow base 207 6 v ls.length (flatK ls)
theorem KR.slice {W : World} {base : Nat} {v : Value} {ls : List CI} (h : KR W base v ls) : ∃ a cap, v = .slice a ls.length cap := by
  rcases h.2 with ⟨rfl, h0⟩ | ⟨g, cap, cur, rfl, _⟩
  · rw [h0]; exact ⟨_, _, rfl⟩
  · exact ⟨_, _, rfl⟩
theorem KR.cells {W : World} {base : Nat} {v : Value} {ls : List CI} (h : KR W base v ls) (h1 : 0 < ls.length) : ∃ g cap, v = .slice (some ⟨g, 0, none⟩) ls.length cap ∧ ls.length ≤ cap ∧ (base ≤ g ∧ g < W.heap.size) ∧ ∀ W' : World, W'.heap[g]? = W.heap[g]? → ∀ i, i < ls.length →
    (W'.cell? ⟨g, i * 6, none⟩ = some (.int .i64 (cith ls i).l) ∧ W'.cell? ⟨g, i * 6 + 1, none⟩ = some (.int .i64 1) ∧ W'.cell? ⟨g, i * 6 + 2, none⟩ = some (.int .i64 ((cith ls i).h : Int)) ∧ W'.cell? ⟨g, i * 6 + 3, none⟩ = some (.int .i64 (cith ls i).cy)) := by
  rcases h.2 with ⟨rfl, h0⟩ | ⟨g, cap, cur, rfl, hb, hh, hn, _⟩
  · omega
  · refine ⟨g, cap, rfl, hn, h.lt g rfl, fun W' hW i hi => ?_⟩
    have key : ∀ c, c < 6 → W'.cell? ⟨g, i * 6 + c, none⟩ = (cC (cith ls i))[c]? := fun c hc => by
      have := h.cellAt (i * 6 + c) (by omega)
      rw [← flatK_at hi hc, ← this]
      simp only [World.cell?, hW]
    exact ⟨key 0 (by omega), key 1 (by omega), key 2 (by omega), key 3 (by omega)⟩

set_option maxRecDepth 100000 in
set_option maxHeartbeats 4000000 in
theorem rright_any (k fr cy cr cl : Int) (w : World) :
    Calls Tryz.prog 138 #[.agg #[.int .i64 k, .int .i64 fr, .int .i64 cy, .int .u32 cr, .int .i64 cl]] w fun e w' => e = .returned (.bool (rightB k fr cy cr cl)) ∧ w.grownBy w' none := by
  obtain ⟨r, hr⟩ : ∃ r, Hid (rightB k fr cy cr cl = r) := ⟨_, hid rfl⟩
  rw [hr.out]
  go_enter Tryz.func138, Tryz.ntmps138
  go_wp2_with fail
  all_goals
    go_ret
    refine ⟨?_, gr_alloc (gr_refl w none) _⟩
    rw [← hr.out]
    congr 2
    simp only [rightB, inB]
    first
      | (simp_all; done)
      | (simp_all; omega)
end Go.Proofs.YtckoaeoecjphiaaGreat

/- tocsinref11.Add: what is refused. -/
namespace Go.Proofs.YtckoaeoecjphiaaGreat
open Go.RowKit Go.Lib

set_option maxRecDepth 100000 in
set_option maxHeartbeats 2000000 in
theorem radd_bad (a : Option Addr) (n cap : Nat) (win l k fr cy cr cl : Int) (w : World) (h : takesB l k fr cy cr cl = false) :
    Calls Tryz.prog 89 #[.slice a n cap, .int .i64 win, .int .i64 l, .agg #[.int .i64 k, .int .i64 fr, .int .i64 cy, .int .u32 cr, .int .i64 cl]] w fun e w' =>
      e = .returned (.tuple #[.slice a n cap, .int .i64 0, .int .i64 1]) ∧ w.grownBy w' none := by
  unfold takesB at h
  by_cases hl : l < -1125899906842624 ∨ 1125899906842624 < l
  · clear h
    rcases hl with hl | hl
    · go_enter Tryz.func89, Tryz.ntmps89
      go_wp2_with fail
      exact bodyPost_ret (v := .tuple #[.slice a n cap, .int .i64 0, .int .i64 1]) (by simp [results, Tryz.results89, go_sem]) rfl ⟨rfl, gr_alloc (gr_refl w none) _⟩
    · have hl' : ¬ l < -1125899906842624 := by omega
      go_enter Tryz.func89, Tryz.ntmps89
      go_wp2_with fail
      exact bodyPost_ret (v := .tuple #[.slice a n cap, .int .i64 0, .int .i64 1]) (by simp [results, Tryz.results89, go_sem]) rfl ⟨rfl, gr_alloc (gr_refl w none) _⟩
  · have h1 : ¬ l < -1125899906842624 := by omega
    have h2 : ¬ 1125899906842624 < l := by omega
    have HR := hid (rright_any k fr cy cr cl)
    cases hr : rightB k fr cy cr cl with
    | false =>
      rw [hr] at HR
      clear h hr hl
      go_enter Tryz.func89, Tryz.ntmps89
      go_wp2_with fail
      refine (HR.out _).mono ?_
      rintro e w1 ⟨rfl, g1⟩
      have G1 := hid (bx_gr g1)
      clear g1
      go_wp2_with fail
      exact bodyPost_ret (v := .tuple #[.slice a n cap, .int .i64 0, .int .i64 1]) (by simp [results, Tryz.results89, go_sem]) rfl ⟨rfl, G1.out⟩
    | true =>
      have h3 : ¬ (k = 1 ∧ fr < 6) := by
        intro h4
        rw [hr] at h
        simp [h4] at h
        omega
      rw [hr] at HR
      clear h hr hl
      by_cases hk : k = 1
      · subst hk
        have hf : 5 < fr := by omega
        clear h3
        go_enter Tryz.func89, Tryz.ntmps89
        go_wp2_with fail
        refine (HR.out _).mono ?_
        rintro e w1 ⟨rfl, g1⟩
        have b0 := bx_cell g1 0 (.int .i64 1) rfl
        have b1 := bx_cell g1 1 (.int .i64 fr) rfl
        have G1 := hid (bx_gr g1)
        clear g1
        go_wp2_with fail
        exact bodyPost_ret (v := .tuple #[.slice a n cap, .int .i64 0, .int .i64 1]) (by simp [results, Tryz.results89, go_sem]) rfl ⟨rfl, G1.out⟩
      · clear h3
        go_enter Tryz.func89, Tryz.ntmps89
        go_wp2_with fail
        refine (HR.out _).mono ?_
        rintro e w1 ⟨rfl, g1⟩
        have b0 := bx_cell g1 0 (.int .i64 k) rfl
        have b1 := bx_cell g1 1 (.int .i64 fr) rfl
        have G1 := hid (bx_gr g1)
        clear g1
        go_wp2_with fail
        exact bodyPost_ret (v := .tuple #[.slice a n cap, .int .i64 0, .int .i64 1]) (by simp [results, Tryz.results89, go_sem]) rfl ⟨rfl, G1.out⟩

set_option maxRecDepth 100000 in
set_option maxHeartbeats 2000000 in
theorem radd_range (base : Nat) (v : Value) (ls : List CI) (win l h cy cr cl first : Int) (w : World) (hk : KR w base v ls) (h1 : 0 < ls.length) (hfirst : (cith ls 0).l = first) (hl : -1125899906842624 ≤ l ∧ l ≤ 1125899906842624) (hf : -1125899906842624 ≤ first ∧ first ≤ 1125899906842624)
    (hr : rightB 1 h cy cr cl = true) (hh : h < 6) (hout : l < first ∨ first + win < l) (hw : 0 ≤ win ∧ win ≤ 1048576) :
    Calls Tryz.prog 89 #[v, .int .i64 win, .int .i64 l, .agg #[.int .i64 1, .int .i64 h, .int .i64 cy, .int .u32 cr, .int .i64 cl]] w fun e w' =>
      e = .returned (.tuple #[v, .int .i64 0, .int .i64 4]) ∧ w.grownBy w' none := by
  obtain ⟨g, cap, rfl, hcap, ⟨hg0, hg1⟩, hcell⟩ := hk.cells h1
  obtain ⟨n, hn⟩ : ∃ n, Hid (ls.length = n) := ⟨_, hid rfl⟩
  rw [hn.out] at h1
  rw [hn.out]
  have HR := hid (rright_any 1 h cy cr cl)
  rw [hr] at HR
  obtain ⟨l0, l1⟩ := hl
  obtain ⟨f0, f1⟩ := hf
  obtain ⟨w0, w1'⟩ := hw
  have hw1 : IntKind.i64.wrap (l - first) = l - first := by rw [IntKind.wrap_i64]; omega
  have hf5 : ¬ 5 < h := by omega
  have HC := hid (fun W' (e : W'.heap[g]? = w.heap[g]?) => (hcell W' e 0 (by rw [hn.out]; exact h1)).1)
  rw [hfirst] at HC
  clear hcell hk hr
  have hn0 : (0 : Int) < (n : Int) := by omega
  rcases hout with ho | ho
  · go_enter Tryz.func89, Tryz.ntmps89
    go_wp2_with fail
    refine (HR.out _).mono ?_
    rintro e w1 ⟨rfl, g1⟩
    have b0 := bx_cell g1 0 (.int .i64 1) rfl
    have b1 := bx_cell g1 1 (.int .i64 h) rfl
    have G1 := hid (bx_gr g1)
    have c0 := HC.out w1 (G1.out.block g hg1 (by simp))
    rw [Nat.zero_mul] at c0
    clear g1
    go_wp2_with fail
    exact bodyPost_ret (v := .tuple #[.slice (some ⟨g, 0, none⟩) n cap, .int .i64 0, .int .i64 4]) (by simp [results, Tryz.results89, go_sem]) rfl ⟨rfl, G1.out⟩
  · have ho1 : ¬ l < first := by omega
    have ho2 : win < l - first := by omega
    go_enter Tryz.func89, Tryz.ntmps89
    go_wp2_with fail
    refine (HR.out _).mono ?_
    rintro e w1 ⟨rfl, g1⟩
    have b0 := bx_cell g1 0 (.int .i64 1) rfl
    have b1 := bx_cell g1 1 (.int .i64 h) rfl
    have G1 := hid (bx_gr g1)
    have c0 := HC.out w1 (G1.out.block g hg1 (by simp))
    rw [Nat.zero_mul] at c0
    clear g1
    go_wp2_with fail
    exact bodyPost_ret (v := .tuple #[.slice (some ⟨g, 0, none⟩) n cap, .int .i64 0, .int .i64 4]) (by simp [results, Tryz.results89, go_sem]) rfl ⟨rfl, G1.out⟩
end Go.Proofs.YtckoaeoecjphiaaGreat
