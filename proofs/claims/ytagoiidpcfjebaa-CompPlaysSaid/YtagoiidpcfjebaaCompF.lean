/- comp.Add: behind the window, or there already. -/
import Derived.Test.YtagoiidpcfjebaaCompC
namespace Go.Proofs.Ytagoiidpcfjebaa
open Go.RowKit Go.Lib

set_option maxRecDepth 100000 in
set_option maxHeartbeats 4000000 in
theorem add_range (b : Nat) (win first : Int) (vr vc : Value) (cm : Nat) (l fr cy cr cl : Int) (h : Nat) (hfr : fr = (h : Int)) (hh : h < 6) (w : World)
    (hc : Cmp w b win true first vr vc cm) (hr : rightB 1 fr cy cr cl = true) (hl : -1125899906842624 ≤ l ∧ l ≤ 1125899906842624)
    (hout : l < first ∨ first + win < l) (hf : -1125899906842624 ≤ first ∧ first ≤ 1125899906842624) (hw : 0 ≤ win ∧ win ≤ 1048576) :
    Calls Try.prog 11 #[.pointer (some ⟨b, 0, none⟩), .int .i64 l, ctl 1 fr cy cr cl] w fun e w' => e = .returned (.tuple #[.int .i64 0, .int .i64 4]) ∧ w.grownBy w' none := by
  subst hfr
  have Hr := hid hr
  have Hc := hid hc
  have Hout := hid hout
  clear hr hc hout
  obtain ⟨l0, l1⟩ := hl
  obtain ⟨f0, f1⟩ := hf
  obtain ⟨m0, m1⟩ := hw
  go_enter Try.func11, Try.ntmps11
  go_wp2_with fail
  refine (control_ok 1 h cy cr cl _ Hr.out).mono ?_
  rintro e w1 ⟨⟨vv, rfl⟩, g1⟩
  have Hc1 := hid (Hc.out.kept (bx_gr g1) (by simp))
  have c0 := Hc1.out.c0
  have c1 := Hc1.out.c1
  have c2 := Hc1.out.c2
  have d0 : w1.cell? ⟨w.heap.size, 0, none⟩ = some (.int .i64 1) := bx_cell g1 0 _ rfl
  have d1 : w1.cell? ⟨w.heap.size, 1, none⟩ = some (.int .i64 (h : Int)) := bx_cell g1 1 _ rfl
  have wf : IntKind.i64.wrap (first + win) = first + win := by rw [IntKind.wrap_i64]; omega
  have G1 := hid g1
  clear g1
  go_wp2_with fail
  by_cases h1 : l < first
  · go_quiet (fail)
    go_wp2_with fail
    go_ret2
    exact ⟨rfl, gr_drewN (bx_gr G1.out) _⟩
  · have h2 : first + win < l := by rcases Hout.out with h | h <;> omega
    go_quiet (fail)
    go_wp2_with fail
    go_ret2
    exact ⟨rfl, gr_drewN (bx_gr G1.out) _⟩

set_option maxRecDepth 100000 in
set_option maxHeartbeats 4000000 in
theorem add_there (b : Nat) (win first : Int) (vr vc : Value) (cm : Nat) (l fr cy cr cl : Int) (h : Nat) (hfr : fr = (h : Int)) (hh : h < 6) (w : World)
    (hc : Cmp w b win true first vr vc cm) (hcm : cm < 64) (hr : rightB 1 fr cy cr cl = true) (hl : -1125899906842624 ≤ l ∧ l ≤ 1125899906842624)
    (hin : first ≤ l ∧ l ≤ first + win) (hf : -1125899906842624 ≤ first ∧ first ≤ 1125899906842624) (hw : 0 ≤ win ∧ win ≤ 1048576) (hyes : hasB cm h = true) :
    Calls Try.prog 11 #[.pointer (some ⟨b, 0, none⟩), .int .i64 l, ctl 1 fr cy cr cl] w fun e w' => e = .returned (.tuple #[.int .i64 0, .int .i64 7]) ∧ w.grownBy w' none := by
  subst hfr
  have Hr := hid hr
  have Hc := hid hc
  clear hr hc
  obtain ⟨l0, l1⟩ := hl
  obtain ⟨n0, n1⟩ := hin
  obtain ⟨f0, f1⟩ := hf
  obtain ⟨m0, m1⟩ := hw
  go_enter Try.func11, Try.ntmps11
  go_wp2_with fail
  refine (control_ok 1 h cy cr cl _ Hr.out).mono ?_
  rintro e w1 ⟨⟨vv, rfl⟩, g1⟩
  have Hc1 := hid (Hc.out.kept (bx_gr g1) (by simp))
  have c0 := Hc1.out.c0
  have c1 := Hc1.out.c1
  have c2 := Hc1.out.c2
  have d0 : w1.cell? ⟨w.heap.size, 0, none⟩ = some (.int .i64 1) := bx_cell g1 0 _ rfl
  have d1 : w1.cell? ⟨w.heap.size, 1, none⟩ = some (.int .i64 (h : Int)) := bx_cell g1 1 _ rfl
  have D1 := hid d1
  have wf : IntKind.i64.wrap (first + win) = first + win := by rw [IntKind.wrap_i64]; omega
  have G1 := hid g1
  clear g1
  go_wp2_with fail
  go_quiet (fail)
  obtain ⟨w2, hw2⟩ : ∃ w2, w1.drewN nq = w2 := ⟨_, rfl⟩
  have G2 : w1.grownBy w2 none := hw2 ▸ gr_drewN (gr_refl w1 none) nq
  rw [hw2]
  clear hw2 c0 c1 c2 d0 d1 nq
  have Hc2 := hid (Hc1.out.kept G2 (by simp))
  have c5 := Hc2.out.c5
  have d1 := gr_cell G2 D1.out
  have HG2 := hid G2
  clear G2
  go_wp2_with fail
  go_quiet ((go_at_call 21; exact Calls.quiet_of_same (has_same _ _ hcm hh _)))
  rw [hyes]
  go_wp2_with fail
  go_ret2
  exact ⟨rfl, gr_drewN (gr_trans (bx_gr G1.out) HG2.out) _⟩
end Go.Proofs.Ytagoiidpcfjebaa
