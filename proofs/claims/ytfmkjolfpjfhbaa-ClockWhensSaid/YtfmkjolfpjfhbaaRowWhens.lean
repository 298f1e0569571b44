/- ClockWhens: for every start and every number the law answers true: the time that is told for a number is the first one at which the clock shows it, or more. No condition. -/
import Derived.Test.YtfmkjolfpjfhbaaOpen
import Derived.Test.YtfmkjolfpjfhbaaWhens
namespace Go.Proofs.Ytfmkjolfpjfhbaa
open Go.ChangeShapes Go.WideShapes Go.ChangeAt Go.RowKit
open Go.ChangeMaps (open_string shut_string)
set_option linter.unusedVariables false

theorem whens_walk (m ba r : Int) (bm : -9223372036854775808 ≤ m ∧ m ≤ 9223372036854775807) (bb : -9223372036854775808 ≤ ba ∧ ba ≤ 9223372036854775807) (br : -9223372036854775808 ≤ r ∧ r ≤ 9223372036854775807) (n : Int) (bn : -9223372036854775808 ≤ n ∧ n ≤ 9223372036854775807) (w : World) :
    Calls Try.prog 5 #[.agg #[.int .i64 m, .int .i64 ba, .int .i64 r], .int .i64 n] w fun e w' => e = .returned (.bool true) ∧ Below w.heap.size w w' := by
  cases h : newB m ba r
  · exact whens_new_bad m ba r n w h
  · by_cases h0 : clockAt m ba r 1125899906842624 < n
    · exact whens_none m ba r n w h h0
    · have hm := realB_iff.1 (newB_parts h).1
      obtain ⟨t, ht⟩ := IsWhen.exists (m := m) (ba := ba) (r := r) (n := n) hm.2 (by omega)
      by_cases h1 : m < t
      · exact whens_later m ba r n t w h ht h1
      · have h2 := ht.lo
        obtain rfl : t = m := by omega
        exact whens_mark t ba r n w h ht

set_option maxRecDepth 100000 in
theorem clockWhens_lifted (os : Os) (started : os.Started) (H : Type) (enc : TypeId × Value → H) :
    ReturnsInHanded {} Try.checked os 5 .any (Rows.clockWhensSpec.pre6 enc Try.prog Try.f5 Rows.clockWhensRow.domain false) (Rows.clockWhensSpec.post enc Try.prog Try.f5 false true false false) := by
  refine returnsInHanded_of_change (C := Try.checked) own_none started (by kernel_rfl) Try.func5
    (ChangeSpec.witness6 (enc := enc) (C := Try.checked) false ⟨#[], #[.agg #[.int .i64 0, .int .i64 0, .int .i64 0], .int .i64 0], []⟩ 8 (by kernel_rfl) (by kernel_rfl) (by kernel_rfl) (by kernel_rfl)) ?_
  intro W base args ds gs before hval0 hW hcnd _
  have hval : ∀ (j : Nat) t v, Try.f5.params[j]? = some t → args[j]? = some v → Value.okWide Try.prog W .any base t v := hval0
  have hW' := hW
  obtain ⟨p, q, hA0, hV, rfl, hfz, hnd⟩ := hW
  have hA : DataW.TrodAll enc Try.prog W 0 (fun _ => true) true Try.f5.params.toList args.toList ds p := hA0
  rw [Try.params5] at hA hval
  obtain ⟨v0, vs0, d0, ds0, p0, q0, hargs, rfl, rfl, h0, r0⟩ := trodAll_cons hA
  obtain ⟨v1, vs1, d1, ds1, p1, q1, rfl, rfl, rfl, h1, r1⟩ := trodAll_cons r0
  obtain ⟨rfl, rfl, rfl⟩ := trodAll_nil r1
  obtain rfl : args = #[v0, v1] := by cases args; simp_all
  obtain ⟨rfl, rfl⟩ := trodVars_none hV
  have k0 := h0
  have lt0 : ∀ x ∈ p0, x.block < W.heap.size := by obtain ⟨m, hm⟩ := k0; exact DataW.trod_lt m _ _ _ hm
  have k1 := h1
  have lt1 : ∀ x ∈ p1, x.block < W.heap.size := by obtain ⟨m, hm⟩ := k1; exact DataW.trod_lt m _ _ _ hm
  obtain ⟨a0_0, a0_1, a0_2, rfl, b0_0, b0_1, b0_2⟩ := open_arr3 Try.underlying22 Try.underlying2 (by kernel_rfl) (by kernel_rfl) (hval 0 22 v0 rfl rfl) h0
  obtain ⟨a1, rfl, b1⟩ := open_i64 Try.underlying2 (hval 1 2 v1 rfl rfl) h1
  clear hA0 hval0
  refine (whens_walk a0_0 a0_1 a0_2 b0_0 b0_1 b0_2 a1 b1 W).mono fun e W' ⟨he, bel⟩ => ?_
  subst he
  exact ⟨_, rfl, _, _, _, [], _, [], hW', trodAll_mk1 (shut_bool Try.underlying4 _), (trodAll_cons_mk (Below.trod laid_out (by kernel_rfl) (of_decide_eq_true (by kernel_rfl)) k0 bel lt0) (trodAll_cons_mk (Below.trod laid_out (by kernel_rfl) (of_decide_eq_true (by kernel_rfl)) k1 bel lt1) trodAll_mk0)), rfl, bel.frame _, fun h => by cases h⟩

theorem clockWhens_holds : Rows.ClockWhensSaid :=
  OpenClaim.holds_of_wide 5 Try.f5 rfl rfl rfl rfl rfl rfl rfl ⟨rfl, rfl, rfl, rfl, rfl⟩ rfl rfl rfl rfl rfl (by kernel_rfl) Try.func5 (by kernel_rfl)
    (of_decide_eq_true (by kernel_rfl)) (by unfold Func.isWrapper; rw [if_neg (of_decide_eq_false (by kernel_rfl))]; exact ⟨rfl, rfl⟩)
    (fun os started H enc _ => clockWhens_lifted os started H enc)

#print axioms clockWhens_holds
end Go.Proofs.Ytfmkjolfpjfhbaa
