/- comp.Add: what is refused. -/
import Derived.Test.YtagoiidpcfjebaaCompB
namespace Go.Proofs.Ytagoiidpcfjebaa
open Go.RowKit Go.Lib

/-- Is it a frame that a collection takes, at such a time? -/
def takesB (l k fr cy cr cl : Int) : Bool := rightB k fr cy cr cl && (decide (-1125899906842624 ≤ l ∧ l ≤ 1125899906842624) && decide (k = 1 ∧ fr < 6))

set_option maxRecDepth 100000 in
set_option maxHeartbeats 2000000 in
theorem add_nil (l k fr cy cr cl : Int) (w : World) :
    Calls Try.prog 11 #[.pointer none, .int .i64 l, ctl k fr cy cr cl] w fun e w' => e = .returned (.tuple #[.int .i64 0, .int .i64 1]) ∧ w.grownBy w' none := by
  cases hr : rightB k fr cy cr cl
  · have Hr := hid hr; clear hr
    go_enter Try.func11, Try.ntmps11
    go_wp2_with fail
    refine (control_bad k fr cy cr cl _ Hr.out).mono ?_
    rintro e w1 ⟨rfl, g1⟩
    go_wp2_with fail
    all_goals go_ret2
    all_goals exact ⟨rfl, bx_gr g1⟩
  · have Hr := hid hr; clear hr
    go_enter Try.func11, Try.ntmps11
    go_wp2_with fail
    refine (control_ok k fr cy cr cl _ Hr.out).mono ?_
    rintro e w1 ⟨⟨vv, rfl⟩, g1⟩
    go_wp2_with fail
    all_goals go_ret2
    all_goals exact ⟨rfl, bx_gr g1⟩

set_option maxRecDepth 100000 in
set_option maxHeartbeats 2000000 in
theorem add_bad (b : Nat) (l k fr cy cr cl : Int) (w : World) (h : takesB l k fr cy cr cl = false) :
    Calls Try.prog 11 #[.pointer (some ⟨b, 0, none⟩), .int .i64 l, ctl k fr cy cr cl] w fun e w' => e = .returned (.tuple #[.int .i64 0, .int .i64 1]) ∧ w.grownBy w' none := by
  unfold takesB at h
  cases hr : rightB k fr cy cr cl
  · have Hr := hid hr; clear hr h
    by_cases h0 : l < -1125899906842624 ∨ 1125899906842624 < l
    · have H0 := hid h0
      go_enter Try.func11, Try.ntmps11
      go_wp2_with fail
      refine (control_bad k fr cy cr cl _ Hr.out).mono ?_
      rintro e w1 ⟨rfl, g1⟩
      go_wp2_with fail
      all_goals go_ret2
      all_goals exact ⟨rfl, bx_gr g1⟩
    · have h1 : -1125899906842624 ≤ l := by omega
      have h2 : l ≤ 1125899906842624 := by omega
      clear h0
      go_enter Try.func11, Try.ntmps11
      go_wp2_with fail
      refine (control_bad k fr cy cr cl _ Hr.out).mono ?_
      rintro e w1 ⟨rfl, g1⟩
      go_wp2_with fail
      all_goals go_ret2
      all_goals exact ⟨rfl, bx_gr g1⟩
  · rw [hr] at h
    have Hr := hid hr; clear hr
    simp only [Bool.true_and, Bool.and_eq_false_iff, decide_eq_false_iff_not] at h
    have H := hid h
    clear h
    go_enter Try.func11, Try.ntmps11
    go_wp2_with fail
    refine (control_ok k fr cy cr cl _ Hr.out).mono ?_
    rintro e w1 ⟨⟨vv, rfl⟩, g1⟩
    have d0 : w1.cell? ⟨w.heap.size, 0, none⟩ = some (.int .i64 k) := bx_cell g1 0 _ rfl
    have d1 : w1.cell? ⟨w.heap.size, 1, none⟩ = some (.int .i64 fr) := bx_cell g1 1 _ rfl
    rcases H.out with h' | h'
    · by_cases h0 : l < -1125899906842624
      · go_wp2_with fail
        all_goals go_ret2
        all_goals exact ⟨rfl, bx_gr g1⟩
      · have h1 : 1125899906842624 < l := by omega
        go_wp2_with fail
        all_goals go_ret2
        all_goals exact ⟨rfl, bx_gr g1⟩
    · by_cases h0 : l < -1125899906842624
      · go_wp2_with fail
        all_goals go_ret2
        all_goals exact ⟨rfl, bx_gr g1⟩
      · by_cases h1 : 1125899906842624 < l
        · go_wp2_with fail
          all_goals go_ret2
          all_goals exact ⟨rfl, bx_gr g1⟩
        · by_cases hk : k = 1
          · have hfr : 6 ≤ fr := by omega
            subst hk
            go_wp2_with fail
            all_goals go_ret2
            all_goals exact ⟨rfl, bx_gr g1⟩
          · go_wp2_with fail
            all_goals go_ret2
            all_goals exact ⟨rfl, bx_gr g1⟩
end Go.Proofs.Ytagoiidpcfjebaa
