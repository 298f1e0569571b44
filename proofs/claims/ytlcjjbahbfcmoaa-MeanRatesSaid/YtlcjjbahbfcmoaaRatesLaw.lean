/- tocsinlaw03.MeanRates, walked. A slice of float64, opened. -/
import Derived.Test.YtlcjjbahbfcmoaaRefRates
import Derived.Test.YtlcjjbahbfcmoaaOpenN
namespace Go.Proofs.Ytlcjjbahbfcmoaa
open Go.RowKit Go.Lib

set_option maxRecDepth 100000 in
set_option maxHeartbeats 2000000 in
theorem rates_walk (a : Option Addr) (bs : List Nat) (cap : Nat) (hreach : bs.length * 8 ≤ 140737488351232) (hw : Words bs) (w : World) (hI : Flts w.heap.size w (.slice a bs.length cap) bs) :
    Calls Try.prog 4 #[.slice a bs.length cap] w fun e w' => e = .returned (.bool true) ∧ Below w.heap.size w w' := by
  have HI := hid hI
  have Hr := hid hreach
  have Hw := hid hw
  clear hI hreach hw
  have hfb := bits_run
  obtain ⟨r, hr⟩ : ∃ r, Hid (rateW bs = r) := ⟨_, hid rfl⟩
  obtain ⟨c, hc⟩ : ∃ c : Nat, Hid ((bs.filter goodB).length = c) := ⟨_, hid rfl⟩
  go_enter Try.func4, Try.ntmps4
  go_wp2_with fail
  refine (fixed_true _).mono ?_
  rintro e w1 ⟨rfl, g1⟩
  have HI1 := hid (HI.out.below (gr_below g1 (Nat.le_refl _) (by simp)))
  go_wp2_with fail
  refine (rates_any a bs.length cap _ bs Hr.out Hw.out _ g1.size HI1.out).mono ?_
  rintro e w2 ⟨rfl, g2⟩
  have HI2 := hid (HI1.out.below (gr_below g2 g1.size (by simp)))
  rw [hr.out, hc.out]
  go_wp2_with fail
  refine (refrates_any a bs.length cap _ bs Hr.out Hw.out _ (Nat.le_trans g1.size g2.size) HI2.out).mono ?_
  rintro e w3 ⟨rfl, g3⟩
  rw [hr.out, hc.out]
  go_wp2_with fail
  go_ret
  exact ⟨rfl, gr_below (gr_trans (gr_trans g1 g2) g3) (Nat.le_refl _) (by simp)⟩
end Go.Proofs.Ytlcjjbahbfcmoaa
