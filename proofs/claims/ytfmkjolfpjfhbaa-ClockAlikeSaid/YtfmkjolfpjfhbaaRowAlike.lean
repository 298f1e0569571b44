/- ClockAlike: for every start, every two times and every float64 the law answers true: two clocks that are made alike show the same; a drift is a whole rate, or refused; a nil clock. No condition. -/
import Derived.Test.YtfmkjolfpjfhbaaOpen
import Derived.Test.YtfmkjolfpjfhbaaAlike
namespace Go.Proofs.Ytfmkjolfpjfhbaa
open Go.ChangeShapes Go.WideShapes Go.ChangeAt Go.RowKit
open Go.ChangeMaps (open_string shut_string)
set_option linter.unusedVariables false

theorem alike_walk (m ba r : Int) (bm : -9223372036854775808 ≤ m ∧ m ≤ 9223372036854775807) (bb : -9223372036854775808 ≤ ba ∧ ba ≤ 9223372036854775807) (br : -9223372036854775808 ≤ r ∧ r ≤ 9223372036854775807) (x y : Int) (bx : -9223372036854775808 ≤ x ∧ x ≤ 9223372036854775807) (by_ : -9223372036854775808 ≤ y ∧ y ≤ 9223372036854775807) (f : Nat) (w : World) :
    Calls Try.prog 7 #[.agg #[.int .i64 m, .int .i64 ba, .int .i64 r], .agg #[.int .i64 x, .int .i64 y], .float .f64 f] w fun e w' => e = .returned (.bool true) ∧ Below w.heap.size w w' := by
  cases h : newB m ba r
  · exact alike_new_bad m ba r x y f w h
  · exact alike_new_ok m ba r x y f w h

set_option maxRecDepth 100000 in
theorem clockAlike_lifted (os : Os) (started : os.Started) (H : Type) (enc : TypeId × Value → H) :
    ReturnsInHanded {} Try.checked os 7 .any (Rows.clockAlikeSpec.pre6 enc Try.prog Try.f7 Rows.clockAlikeRow.domain false) (Rows.clockAlikeSpec.post enc Try.prog Try.f7 false true false false) := by
  refine returnsInHanded_of_change (C := Try.checked) own_none started (by kernel_rfl) Try.func7
    (ChangeSpec.witness6 (enc := enc) (C := Try.checked) false ⟨#[], #[.agg #[.int .i64 0, .int .i64 0, .int .i64 0], .agg #[.int .i64 0, .int .i64 0], .float .f64 0], []⟩ 8 (by kernel_rfl) (by kernel_rfl) (by kernel_rfl) (by kernel_rfl)) ?_
  intro W base args ds gs before hval0 hW hcnd _
  have hval : ∀ (j : Nat) t v, Try.f7.params[j]? = some t → args[j]? = some v → Value.okWide Try.prog W .any base t v := hval0
  have hW' := hW
  obtain ⟨p, q, hA0, hV, rfl, hfz, hnd⟩ := hW
  have hA : DataW.TrodAll enc Try.prog W 0 (fun _ => true) true Try.f7.params.toList args.toList ds p := hA0
  rw [Try.params7] at hA hval
  obtain ⟨v0, vs0, d0, ds0, p0, q0, hargs, rfl, rfl, h0, r0⟩ := trodAll_cons hA
  obtain ⟨v1, vs1, d1, ds1, p1, q1, rfl, rfl, rfl, h1, r1⟩ := trodAll_cons r0
  obtain ⟨v2, vs2, d2, ds2, p2, q2, rfl, rfl, rfl, h2, r2⟩ := trodAll_cons r1
  obtain ⟨rfl, rfl, rfl⟩ := trodAll_nil r2
  obtain rfl : args = #[v0, v1, v2] := by cases args; simp_all
  obtain ⟨rfl, rfl⟩ := trodVars_none hV
  have k0 := h0
  have lt0 : ∀ x ∈ p0, x.block < W.heap.size := by obtain ⟨m, hm⟩ := k0; exact DataW.trod_lt m _ _ _ hm
  have k1 := h1
  have lt1 : ∀ x ∈ p1, x.block < W.heap.size := by obtain ⟨m, hm⟩ := k1; exact DataW.trod_lt m _ _ _ hm
  have k2 := h2
  have lt2 : ∀ x ∈ p2, x.block < W.heap.size := by obtain ⟨m, hm⟩ := k2; exact DataW.trod_lt m _ _ _ hm
  obtain ⟨a0_0, a0_1, a0_2, rfl, b0_0, b0_1, b0_2⟩ := open_arr3 Try.underlying22 Try.underlying2 (by kernel_rfl) (by kernel_rfl) (hval 0 22 v0 rfl rfl) h0
  obtain ⟨a1_0, a1_1, rfl, b1_0, b1_1⟩ := open_arr2 Try.underlying45 Try.underlying2 (by kernel_rfl) (by kernel_rfl) (hval 1 45 v1 rfl rfl) h1
  obtain ⟨a2, rfl, _, _, b2⟩ := open_float Try.underlying46 (hval 2 46 v2 rfl rfl) h2
  clear hA0 hval0
  refine (alike_walk a0_0 a0_1 a0_2 b0_0 b0_1 b0_2 a1_0 a1_1 b1_0 b1_1 a2 W).mono fun e W' ⟨he, bel⟩ => ?_
  subst he
  exact ⟨_, rfl, _, _, _, [], _, [], hW', trodAll_mk1 (shut_bool Try.underlying4 _), (trodAll_cons_mk (Below.trod laid_out (by kernel_rfl) (of_decide_eq_true (by kernel_rfl)) k0 bel lt0) (trodAll_cons_mk (Below.trod laid_out (by kernel_rfl) (of_decide_eq_true (by kernel_rfl)) k1 bel lt1) (trodAll_cons_mk (Below.trod laid_out (by kernel_rfl) (of_decide_eq_true (by kernel_rfl)) k2 bel lt2) trodAll_mk0))), rfl, bel.frame _, fun h => by cases h⟩

theorem clockAlike_holds : Rows.ClockAlikeSaid :=
  OpenClaim.holds_of_wide 7 Try.f7 rfl rfl rfl rfl rfl rfl rfl ⟨rfl, rfl, rfl, rfl, rfl⟩ rfl rfl rfl rfl rfl (by kernel_rfl) Try.func7 (by kernel_rfl)
    (of_decide_eq_true (by kernel_rfl)) (by unfold Func.isWrapper; rw [if_neg (of_decide_eq_false (by kernel_rfl))]; exact ⟨rfl, rfl⟩)
    (fun os started H enc _ => clockAlike_lifted os started H enc)

#print axioms clockAlike_holds
end Go.Proofs.Ytfmkjolfpjfhbaa
