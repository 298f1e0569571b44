/- CompPlays: for every window and script the law answers true: every answer of every script of a compression is as the document says. No condition. -/
import Derived.Test.YtagoiidpcfjebaaOpen
import Derived.Test.YtagoiidpcfjebaaOpen
import Derived.Test.YtagoiidpcfjebaaLeaves
import Derived.Test.YtagoiidpcfjebaaRowsInt
import Derived.Test.YtagoiidpcfjebaaRefPlE
namespace Go.Proofs.Ytagoiidpcfjebaa
open Go.ChangeShapes Go.WideShapes Go.ChangeAt Go.RowKit
open Go.ChangeMaps (open_string shut_string)
set_option linter.unusedVariables false

theorem cplays_all (win : Int) (_ : -9223372036854775808 ≤ win ∧ win ≤ 9223372036854775807) (a : Option Addr) (len cap : Nat) (V : Nat → Nat → Value) (hlen : len ≤ 140737488351232) {w : World} (hs : RowsOf w a len cpLeaves V) :
    Calls Try.prog 3 #[.int .i64 win, .slice a len cap] w fun e w' => e = .returned (.bool true) ∧ Below w.heap.size w w' := cplays_walk win a len cap V hlen w hs

set_option maxRecDepth 100000 in
theorem compPlays_lifted (os : Os) (started : os.Started) (H : Type) (enc : TypeId × Value → H) :
    ReturnsInHanded {} Try.checked os 3 .any (Rows.compPlaysSpec.pre6 enc Try.prog Try.f3 Rows.compPlaysRow.domain false) (Rows.compPlaysSpec.post enc Try.prog Try.f3 false true false false) := by
  refine returnsInHanded_of_change_sized (C := Try.checked) own_none started (by kernel_rfl) Try.func3
    (ChangeSpec.witness6 (enc := enc) (C := Try.checked) false ⟨#[], #[.int .i64 0, .slice none 0 0], []⟩ 8 (by kernel_rfl) (by kernel_rfl) (by kernel_rfl) (by kernel_rfl)) ?_
  intro W base args ds gs before hval0 hW hcnd hsz0 _
  have hsz : (DataW.weightsEach Try.prog (Try.f3.params.toList ++ Rows.compPlaysSpec.plain.varTypes Try.prog) (ds ++ gs)).all (· ≤ reachBytes) = true := hsz0
  clear hsz0
  have hval : ∀ (j : Nat) t v, Try.f3.params[j]? = some t → args[j]? = some v → Value.okWide Try.prog W .any base t v := hval0
  have hW' := hW
  obtain ⟨p, q, hA0, hV, rfl, hfz, hnd⟩ := hW
  have hA : DataW.TrodAll enc Try.prog W 0 (fun _ => true) true Try.f3.params.toList args.toList ds p := hA0
  rw [Try.params3] at hA hval hsz
  obtain ⟨v0, vs0, d0, ds0, p0, q0, hargs, rfl, rfl, h0, r0⟩ := trodAll_cons hA
  obtain ⟨v1, vs1, d1, ds1, p1, q1, rfl, rfl, rfl, h1, r1⟩ := trodAll_cons r0
  obtain ⟨rfl, rfl, rfl⟩ := trodAll_nil r1
  obtain rfl : args = #[v0, v1] := by cases args; simp_all
  obtain ⟨rfl, rfl⟩ := trodVars_none hV
  have k0 := h0
  have lt0 : ∀ x ∈ p0, x.block < W.heap.size := by obtain ⟨m, hm⟩ := k0; exact DataW.trod_lt m _ _ _ hm
  have k1 := h1
  have lt1 : ∀ x ∈ p1, x.block < W.heap.size := by obtain ⟨m, hm⟩ := k1; exact DataW.trod_lt m _ _ _ hm
  obtain ⟨a0, rfl, b0⟩ := open_i64 Try.underlying2 (hval 0 2 v0 rfl rfl) h0
  obtain ⟨a1, n1, cap1, V1, rfl, b1, hd1⟩ := open_rows (n := 3) (ls := cpLeaves) Try.underlying22 (by kernel_rfl) (by decide) (by kernel_rfl) (hval 1 22 v1 rfl rfl) h1
  have z1 := rows_sized hsz (j := 1) rfl rfl Try.underlying22 (B := 56) (by kernel_rfl) hd1
  clear hA0 hval0
  refine (cplays_all a0 b0 a1 n1 cap1 V1 (by omega) b1).mono fun e W' ⟨he, bel⟩ => ?_
  subst he
  exact ⟨_, rfl, _, _, _, [], _, [], hW', trodAll_mk1 (shut_bool Try.underlying4 _), (trodAll_cons_mk (Below.trod laid_out (by kernel_rfl) (of_decide_eq_true (by kernel_rfl)) k0 bel lt0) (trodAll_cons_mk (Below.trod laid_out (by kernel_rfl) (of_decide_eq_true (by kernel_rfl)) k1 bel lt1) trodAll_mk0)), rfl, bel.frame _, fun h => by cases h⟩

theorem compPlays_holds : Rows.CompPlaysSaid :=
  OpenClaim.holds_of_wide 3 Try.f3 rfl rfl rfl rfl rfl rfl rfl ⟨rfl, rfl, rfl, rfl, rfl⟩ rfl rfl rfl rfl rfl (by kernel_rfl) Try.func3 (by kernel_rfl)
    (of_decide_eq_true (by kernel_rfl)) (by unfold Func.isWrapper; rw [if_neg (of_decide_eq_false (by kernel_rfl))]; exact ⟨rfl, rfl⟩)
    (fun os started H enc _ => compPlays_lifted os started H enc)

#print axioms compPlays_holds
end Go.Proofs.Ytagoiidpcfjebaa
