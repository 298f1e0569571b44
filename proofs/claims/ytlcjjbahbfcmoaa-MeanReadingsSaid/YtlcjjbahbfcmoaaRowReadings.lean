/- MeanReadings: for every slice the law answers true: the tolerant mean, the middle and the spread of any readings are as the document says. No condition. -/
import Derived.Test.YtlcjjbahbfcmoaaOpen
import Derived.Test.YtlcjjbahbfcmoaaOpenN
import Derived.Test.YtlcjjbahbfcmoaaRefSpread
namespace Go.Proofs.Ytlcjjbahbfcmoaa
open Go.ChangeShapes Go.WideShapes Go.ChangeAt Go.RowKit
open Go.ChangeMaps (open_string shut_string)
set_option linter.unusedVariables false


set_option maxRecDepth 100000 in
theorem meanReadings_lifted (os : Os) (started : os.Started) (H : Type) (enc : TypeId × Value → H) :
    ReturnsInHanded {} Try.checked os 3 .any (Rows.meanReadingsSpec.pre6 enc Try.prog Try.f3 Rows.meanReadingsRow.domain false) (Rows.meanReadingsSpec.post enc Try.prog Try.f3 false true false false) := by
  refine returnsInHanded_of_change_sized (C := Try.checked) own_none started (by kernel_rfl) Try.func3
    (ChangeSpec.witness6 (enc := enc) (C := Try.checked) false ⟨#[], #[.slice none 0 0], []⟩ 8 (by kernel_rfl) (by kernel_rfl) (by kernel_rfl) (by kernel_rfl)) ?_
  intro W base args ds gs before hval0 hW hcnd hsz0 _
  have hsz : (DataW.weightsEach Try.prog (Try.f3.params.toList ++ Rows.meanReadingsSpec.plain.varTypes Try.prog) (ds ++ gs)).all (· ≤ reachBytes) = true := hsz0
  clear hsz0
  have hval : ∀ (j : Nat) t v, Try.f3.params[j]? = some t → args[j]? = some v → Value.okWide Try.prog W .any base t v := hval0
  have hW' := hW
  obtain ⟨p, q, hA0, hV, rfl, hfz, hnd⟩ := hW
  have hA : DataW.TrodAll enc Try.prog W 0 (fun _ => true) true Try.f3.params.toList args.toList ds p := hA0
  rw [Try.params3] at hA hval hsz
  obtain ⟨v0, vs0, d0, ds0, p0, q0, hargs, rfl, rfl, h0, r0⟩ := trodAll_cons hA
  obtain ⟨rfl, rfl, rfl⟩ := trodAll_nil r0
  obtain rfl : args = #[v0] := by cases args; simp_all
  obtain ⟨rfl, rfl⟩ := trodVars_none hV
  have k0 := h0
  have lt0 : ∀ x ∈ p0, x.block < W.heap.size := by obtain ⟨m, hm⟩ := k0; exact DataW.trod_lt m _ _ _ hm
  have cp0 := open_cap Try.underlying22 h0
  obtain ⟨a0, cap0, zs0, rfl, I0, b0, n0, hd0⟩ := open_nums Try.underlying22 (by kernel_rfl) (by kernel_rfl) (hval 0 22 v0 rfl rfl) h0
  have z0 := rows_sized hsz (j := 0) rfl rfl Try.underlying22 (B := 8) (by kernel_rfl) hd0
  replace cp0 := cp0 _ _ _ rfl
  clear hA0 hval0
  refine (readings_walk a0 zs0 cap0 (Nat.le_trans z0 (by decide)) b0 cp0 I0).mono fun e W' ⟨he, bel⟩ => ?_
  subst he
  exact ⟨_, rfl, _, _, _, [], _, [], hW', trodAll_mk1 (shut_bool Try.underlying4 _), (trodAll_cons_mk (Below.trod laid_out (by kernel_rfl) (of_decide_eq_true (by kernel_rfl)) k0 bel lt0) trodAll_mk0), rfl, bel.frame _, fun h => by cases h⟩

theorem meanReadings_holds : Rows.MeanReadingsSaid :=
  OpenClaim.holds_of_wide 3 Try.f3 rfl rfl rfl rfl rfl rfl rfl ⟨rfl, rfl, rfl, rfl, rfl⟩ rfl rfl rfl rfl rfl (by kernel_rfl) Try.func3 (by kernel_rfl)
    (of_decide_eq_true (by kernel_rfl)) (by unfold Func.isWrapper; rw [if_neg (of_decide_eq_false (by kernel_rfl))]; exact ⟨rfl, rfl⟩)
    (fun os started H enc _ => meanReadings_lifted os started H enc)

#print axioms meanReadings_holds
end Go.Proofs.Ytlcjjbahbfcmoaa
