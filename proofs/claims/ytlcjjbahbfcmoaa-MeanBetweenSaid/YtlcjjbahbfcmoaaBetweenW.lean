/- tocsinlaw03.MeanBetween, walked. -/
import Derived.Test.YtlcjjbahbfcmoaaTwinsW
import Derived.Test.YtlcjjbahbfcmoaaRefSorted
namespace Go.Proofs.Ytlcjjbahbfcmoaa
open Go.RowKit Go.Lib

theorem tolL_three (zs : List Int) (h : zs.length = 3) : tolL zs = nth (sortL zs) 1 := by
  unfold tolL
  rw [if_neg (by omega), if_neg (by omega), h]
  show (nth (sortL zs) 1 + nth (sortL zs) 1) / 2 = _
  omega
theorem midL_three (zs : List Int) (h : zs.length = 3) : midL zs = nth (sortL zs) 1 := by
  unfold midL
  rw [h]
  show (nth (sortL zs) 1 + nth (sortL zs) 1) / 2 = _
  omega

set_option maxRecDepth 100000 in
set_option maxHeartbeats 2000000 in
theorem between_walk (a : Int) (ba : -9223372036854775808 ≤ a ∧ a ≤ 9223372036854775807) (b : Int) (bb : -9223372036854775808 ≤ b ∧ b ≤ 9223372036854775807) (c : Int) (bc : -9223372036854775808 ≤ c ∧ c ≤ 9223372036854775807) (w : World) :
    Calls Try.prog 10 #[.int .i64 a, .int .i64 b, .int .i64 c] w fun e w' => e = .returned (.bool true) ∧ Below w.heap.size w w' := by
  have H64 : Hid (In64 [a, b, c]) := hid (by intro x hx; simp at hx; rcases hx with rfl | rfl | rfl <;> assumption)
  clear ba bb bc
  have Hne : Hid ([a, b, c] ≠ []) := hid (by simp)
  have Ht : Hid (tolL [a, b, c] = midL [a, b, c]) := hid (by rw [tolL_three _ rfl, midL_three _ rfl])
  have Hs : Hid (nth (sortL [a, b, c]) 1 = midL [a, b, c]) := hid (by rw [midL_three _ rfl])
  obtain ⟨r, hr⟩ : ∃ r, Hid (midL [a, b, c] = r) := ⟨_, hid rfl⟩
  go_enter Try.func10, Try.ntmps10
  go_wp2_with fail
  refine (fixed_true _).mono ?_
  rintro e w1 ⟨rfl, g1⟩
  have HI : Hid (Ints (w1.alloc (.cells #[.int .i64 a, .int .i64 b, .int .i64 c] 2)).heap.size (w1.alloc (.cells #[.int .i64 a, .int .i64 b, .int .i64 c] 2)) (.slice (some ⟨w1.heap.size, 0, none⟩) 3 3) [a, b, c]) := hid (Ints.lit w1 2 [a, b, c])
  have HB1 : Hid (Below w.heap.size w (w1.alloc (.cells #[.int .i64 a, .int .i64 b, .int .i64 c] 2))) := hid ((gr_below g1 (Nat.le_refl _) (by simp)).alloc g1.size _)
  go_wp2_with fail
  refine (tolerant_any (some ⟨w1.heap.size, 0, none⟩) 3 3 [a, b, c] (by simp) H64.out _ HI.out).mono ?_
  rintro e w2 ⟨rfl, g2⟩
  rw [if_neg Hne.out, Ht.out, hr.out]
  have HI2 := hid ((HI.out.below (gr_below g2 (Nat.le_refl _) (by simp))).mono g2.size)
  have HB2 := hid (HB1.out.trans (gr_below g2 HB1.out.size (by simp)))
  clear HI HB1 g2
  go_wp2_with fail
  refine (middle_any (some ⟨w1.heap.size, 0, none⟩) 3 3 [a, b, c] (by simp) H64.out _ HI2.out).mono ?_
  rintro e w3 ⟨rfl, g3⟩
  rw [if_neg Hne.out, hr.out]
  have HI3 := hid ((HI2.out.below (gr_below g3 (Nat.le_refl _) (by simp))).mono g3.size)
  have HB3 := hid (HB2.out.trans (gr_below g3 HB2.out.size (by simp)))
  clear HI2 HB2 g3
  go_wp2_with fail
  refine (rsorted_any _ 3 [a, b, c] rfl (by omega) (some ⟨w1.heap.size, 0, none⟩) 3 _ (Nat.le_refl _) (Nat.le_refl _) HI3.out).mono ?_
  rintro e w4 ⟨v, rfl, hown, hB4⟩
  obtain ⟨g, cg, rfl, hg, hcells⟩ := own_cells hown (by rw [(sortL_perm _).length_eq]) (by simp)
  have hc1 := hcells 1 (by simp)
  rw [Hs.out, hr.out] at hc1
  have HB4 := hid (HB3.out.trans (hB4.mono HB3.out.size))
  clear hcells hown hB4 hg
  go_wp2_with fail
  go_ret
  exact ⟨rfl, HB4.out⟩
end Go.Proofs.Ytlcjjbahbfcmoaa
