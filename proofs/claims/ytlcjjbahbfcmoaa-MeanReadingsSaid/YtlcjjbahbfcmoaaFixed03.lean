/- The chapter's examples of the means: they hold. -/
import Derived.Test.YtlcjjbahbfcmoaaSpread
import Derived.Test.YtlcjjbahbfcmoaaRatesB
import Derived.Test.YtlcjjbahbfcmoaaSortLaw
namespace Go.Proofs.Ytlcjjbahbfcmoaa
open Go.RowKit Go.Lib

theorem Ints.lit (w : World) (t : TypeId) (zs : List Int) :
    Ints (w.alloc (.cells (zs.map (Value.int .i64)).toArray t)).heap.size (w.alloc (.cells (zs.map (Value.int .i64)).toArray t)) (.slice (some ⟨w.heap.size, 0, none⟩) zs.length zs.length) zs := by
  refine .inr ⟨w.heap.size, 0, zs.length, rfl, by simp, fun j hj => ?_⟩
  rw [Nat.zero_add, World.cell?_alloc_new]
  simp [hj]
theorem Flts.lit (w : World) (t : TypeId) (zs : List Nat) :
    Flts (w.alloc (.cells (zs.map (Value.float .f64)).toArray t)).heap.size (w.alloc (.cells (zs.map (Value.float .f64)).toArray t)) (.slice (some ⟨w.heap.size, 0, none⟩) zs.length zs.length) zs := by
  refine .inr ⟨w.heap.size, 0, zs.length, rfl, by simp, fun j hj => ?_⟩
  rw [Nat.zero_add, World.cell?_alloc_new]
  simp [hj]

theorem nan_word (w : World) : Calls Try.prog 23 #[] w fun e w' => e = .returned (.float .f64 9221120237041090561) ∧ w = w' := by
  have hf := frombits_run
  go_enter Try.func23, Try.ntmps23
  go_wp2_with fail
  go_ret
  exact ⟨rfl, rfl⟩

theorem inf_word (w : World) : Calls Try.prog 24 #[.int .i64 1] w fun e w' => e = .returned (.float .f64 9218868437227405312) ∧ w = w' := by
  have hf := frombits_run
  go_enter Try.func24, Try.ntmps24
  go_wp2_with fail
  go_ret
  exact ⟨rfl, rfl⟩

theorem tol_a : tolL [9, 1, 1000] = 9 := by unfold tolL; rw [sortL_eq (t := [1, 9, 1000]) (by decide) (by decide)]; decide
theorem tol_b : tolL [1, 2, 50, 8, 900] = 26 := by unfold tolL; rw [sortL_eq (t := [1, 2, 8, 50, 900]) (by decide) (by decide)]; decide
theorem mid_c : midL [1, 2, 900] = 2 := by unfold midL; rw [sortL_eq (t := [1, 2, 900]) (by decide) (by decide)]; decide
theorem rates_good : [4607182418800017408, 9221120237041090561, 4613937818241073152, 9218868437227405312].filter goodB = [4607182418800017408, 4613937818241073152] := by kernel_rfl
theorem rates_w : rateW [4607182418800017408, 9221120237041090561, 4613937818241073152, 9218868437227405312] = 4611686018427387904 := by kernel_rfl
theorem words_d : Words [4607182418800017408, 9221120237041090561, 4613937818241073152, 9218868437227405312] := by unfold Words; decide
theorem order_two : (FloatKind.f64.format.order 4611686018427387904 4611686018427387904 == some .eq) = true := by kernel_rfl

set_option maxRecDepth 100000 in
set_option maxHeartbeats 2000000 in
theorem fixed_true (w : World) : Calls Try.prog 11 #[] w fun e w' => e = .returned (.bool true) ∧ w.grownBy w' none := by
  have ho := order_two
  go_enter Try.func11, Try.ntmps11
  go_wp2_with fail
  refine (tolerant_any _ 3 3 [9, 1, 1000] (by decide) (by unfold In64; decide) _ (Ints.lit w _ [9, 1, 1000])).mono ?_
  rintro e w1 ⟨rfl, g1⟩
  rw [if_neg (by simp), tol_a]
  go_wp2_with fail
  refine (tolerant_any _ 5 5 [1, 2, 50, 8, 900] (by decide) (by unfold In64; decide) _ (Ints.lit w1 _ [1, 2, 50, 8, 900])).mono ?_
  rintro e w2 ⟨rfl, g2⟩
  rw [if_neg (by simp), tol_b]
  go_wp2_with fail
  refine (middle_any _ 3 3 [1, 2, 900] (by decide) (by unfold In64; decide) _ (Ints.lit w2 _ [1, 2, 900])).mono ?_
  rintro e w3 ⟨rfl, g3⟩
  rw [if_neg (by simp), mid_c]
  go_wp2_with fail
  refine (tolerant_any none 0 0 [] (by decide) (by unfold In64; decide) _ (.inl ⟨none, 0, rfl, rfl⟩)).mono ?_
  rintro e w4 ⟨rfl, g4⟩
  rw [if_pos rfl]
  go_wp2_with fail
  refine (nan_word _).mono ?_
  rintro e w' ⟨rfl, rfl⟩
  go_wp2_with fail
  refine (inf_word _).mono ?_
  rintro e w' ⟨rfl, rfl⟩
  go_wp2_with fail
  refine (rates_any _ 4 4 _ [4607182418800017408, 9221120237041090561, 4613937818241073152, 9218868437227405312] (by decide) words_d _ (Nat.le_refl _) (Flts.lit w4 _ [4607182418800017408, 9221120237041090561, 4613937818241073152, 9218868437227405312])).mono ?_
  rintro e w5 ⟨rfl, g5⟩
  rw [rates_w, rates_good]
  go_wp2_with fail
  refine (spread_any _ 2 2 [-9223372036854775808, 9223372036854775807] (by decide) (by unfold In64; decide) _ _ (Ints.lit w5 _ [-9223372036854775808, 9223372036854775807])).mono ?_
  rintro e w' ⟨rfl, rfl⟩
  rw [show maxL [-9223372036854775808, 9223372036854775807] - minL [-9223372036854775808, 9223372036854775807] = 18446744073709551615 from by decide]
  go_wp2_with fail
  go_ret
  exact ⟨rfl, gr_alloc (gr_trans (gr_trans (gr_trans (gr_trans (bx_gr g1) (bx_gr g2)) (bx_gr g3)) g4) (bx_gr g5)) _⟩
end Go.Proofs.Ytlcjjbahbfcmoaa
