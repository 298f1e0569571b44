/- PermPlays: for every delay, start and script the law answers true: every answer of every script of a hold, by a clock whose rate changes, is as the document says. No condition. -/
import Derived.Test.YtkcgpbehicjidaaOpen
import Derived.Test.YtkcgpbehicjidaaOpen
import Derived.Test.YtkcgpbehicjidaaLeaves
import Derived.Test.YtkcgpbehicjidaaRowsInt
import Derived.Test.YtkcgpbehicjidaaPlyH
namespace Go.Proofs.Ytkcgpbehicjidaa
open Go.ChangeShapes Go.WideShapes Go.ChangeAt Go.RowKit
open Go.ChangeMaps (open_string shut_string)
set_option linter.unusedVariables false

theorem pplays_all (dl : Int) (_ : -9223372036854775808 ≤ dl ∧ dl ≤ 9223372036854775807) (m ba r : Int) (_ : -9223372036854775808 ≤ m ∧ m ≤ 9223372036854775807) (_ : -9223372036854775808 ≤ ba ∧ ba ≤ 9223372036854775807) (_ : -9223372036854775808 ≤ r ∧ r ≤ 9223372036854775807) (a : Option Addr) (len cap : Nat) (V : Nat → Nat → Value) (hlen : len ≤ 140737488351232) {w : World} (hs : RowsOf w a len opLeaves V) :
    Calls Try.prog 7 #[.int .i64 dl, .agg #[.int .i64 m, .int .i64 ba, .int .i64 r], .slice a len cap] w fun e w' => e = .returned (.bool true) ∧ Below w.heap.size w w' := pplays_walk dl m ba r a len cap V hlen w hs

set_option maxRecDepth 100000 in
theorem permPlays_lifted (os : Os) (started : os.Started) (H : Type) (enc : TypeId × Value → H) :
    ReturnsInHanded {} Try.checked os 7 .any (Rows.permPlaysSpec.pre6 enc Try.prog Try.f7 Rows.permPlaysRow.domain false) (Rows.permPlaysSpec.post enc Try.prog Try.f7 false true false false) := by
  refine returnsInHanded_of_change_sized (C := Try.checked) own_none started (by kernel_rfl) Try.func7
    (ChangeSpec.witness6 (enc := enc) (C := Try.checked) false ⟨#[], #[.int .i64 0, .agg #[.int .i64 0, .int .i64 0, .int .i64 0], .slice none 0 0], []⟩ 8 (by kernel_rfl) (by kernel_rfl) (by kernel_rfl) (by kernel_rfl)) ?_
  intro W base args ds gs before hval0 hW hcnd hsz0 _
  have hsz : (DataW.weightsEach Try.prog (Try.f7.params.toList ++ Rows.permPlaysSpec.plain.varTypes Try.prog) (ds ++ gs)).all (· ≤ reachBytes) = true := hsz0
  clear hsz0
  have hval : ∀ (j : Nat) t v, Try.f7.params[j]? = some t → args[j]? = some v → Value.okWide Try.prog W .any base t v := hval0
  have hW' := hW
  obtain ⟨p, q, hA0, hV, rfl, hfz, hnd⟩ := hW
  have hA : DataW.TrodAll enc Try.prog W 0 (fun _ => true) true Try.f7.params.toList args.toList ds p := hA0
  rw [Try.params7] at hA hval hsz
  obtain ⟨v0, vs0, d0, ds0, p0, q0, hargs, rfl, rfl, h0, r0⟩ := trodAll_cons hA
  obtain ⟨v1, vs1, d1, ds1, p1, q1, rfl, rfl, rfl, h1, r1⟩ := trodAll_cons r0
  obtain ⟨v2, vs2, d2, ds2, p2, q2, rfl, rfl, rfl, h2, r2⟩ := trodAll_cons r1
  obtain ⟨rfl, rfl, rfl⟩ := trodAll_nil r2
  obtain rfl : args = #[v0, v1, v2] := by cases args; simp_all
  obtain ⟨rfl, rfl⟩ := trodVars_none hV
  have k0 := h0
  have lt0 : ∀ x ∈ p0, x.block < W.heap.size := by obtain ⟨m, hm⟩ := k0; exact DataW.trod_lt m _ _ _ hm
  have k1 := h1
  have lt1 : ∀ x ∈ p1, x.block < W.heap.size := by obtain ⟨m, hm⟩ := k1; exact DataW.trod_lt m _ _ _ hm
  have k2 := h2
  have lt2 : ∀ x ∈ p2, x.block < W.heap.size := by obtain ⟨m, hm⟩ := k2; exact DataW.trod_lt m _ _ _ hm
  obtain ⟨a0, rfl, b0⟩ := open_i64 Try.underlying2 (hval 0 2 v0 rfl rfl) h0
  obtain ⟨a1_0, a1_1, a1_2, rfl, b1_0, b1_1, b1_2⟩ := open_arr3 Try.underlying50 Try.underlying2 (by kernel_rfl) (by kernel_rfl) (hval 1 50 v1 rfl rfl) h1
  obtain ⟨a2, n2, cap2, V2, rfl, b2, hd2⟩ := open_rows (n := 3) (ls := opLeaves) Try.underlying51 (by kernel_rfl) (by decide) (by kernel_rfl) (hval 2 51 v2 rfl rfl) h2
  have z2 := rows_sized hsz (j := 2) rfl rfl Try.underlying51 (B := 64) (by kernel_rfl) hd2
  clear hA0 hval0
  refine (pplays_all a0 b0 a1_0 a1_1 a1_2 b1_0 b1_1 b1_2 a2 n2 cap2 V2 (by omega) b2).mono fun e W' ⟨he, bel⟩ => ?_
  subst he
  exact ⟨_, rfl, _, _, _, [], _, [], hW', trodAll_mk1 (shut_bool Try.underlying4 _), (trodAll_cons_mk (Below.trod laid_out (by kernel_rfl) (of_decide_eq_true (by kernel_rfl)) k0 bel lt0) (trodAll_cons_mk (Below.trod laid_out (by kernel_rfl) (of_decide_eq_true (by kernel_rfl)) k1 bel lt1) (trodAll_cons_mk (Below.trod laid_out (by kernel_rfl) (of_decide_eq_true (by kernel_rfl)) k2 bel lt2) trodAll_mk0))), rfl, bel.frame _, fun h => by cases h⟩

theorem permPlays_holds : Rows.PermPlaysSaid :=
  OpenClaim.holds_of_wide 7 Try.f7 rfl rfl rfl rfl rfl rfl rfl ⟨rfl, rfl, rfl, rfl, rfl⟩ rfl rfl rfl rfl rfl (by kernel_rfl) Try.func7 (by kernel_rfl)
    (of_decide_eq_true (by kernel_rfl)) (by unfold Func.isWrapper; rw [if_neg (of_decide_eq_false (by kernel_rfl))]; exact ⟨rfl, rfl⟩)
    (fun os started H enc _ => permPlays_lifted os started H enc)

#print axioms permPlays_holds
end Go.Proofs.Ytkcgpbehicjidaa
