/- The chapter's examples of a clock: they hold. -/
import Derived.Test.YtfmkjolfpjfhbaaDrift
namespace Go.Proofs.Ytfmkjolfpjfhbaa
open Go.RowKit Go.Lib

set_option maxHeartbeats 1000000 in
theorem fixed_true (w : World) : Calls Try.prog 9 #[] w fun e w' => e = .returned (.bool true) ∧ w.grownBy w' none := by
  go_enter Try.func9, Try.ntmps9
  go_wp2_with fail
  refine (new_ok 0 0 100000 _ (hid (by decide)) (hid (by decide)) (hid (by decide))).mono ?_
  rintro e w1 ⟨rfl, hc1, g1⟩
  go_wp2_with fail
  refine (new_ok 0 0 (-1) _ (hid (by decide)) (hid (by decide)) (hid (by decide))).mono ?_
  rintro e w2 ⟨rfl, hd2, g2⟩
  go_wp2_with fail
  refine (new_bad (-1) 0 0 _ (by decide)).mono ?_
  rintro e w' ⟨rfl, rfl⟩
  have hc2 := hc1.kept g2 (by simp)
  have l1 : w.heap.size < w1.heap.size := hc1.lt
  obtain ⟨b, hb⟩ : ∃ b, Hid (w.heap.size = b) := ⟨_, hid rfl⟩
  obtain ⟨d, hd⟩ : ∃ d, Hid (w1.heap.size = d) := ⟨_, hid rfl⟩
  rw [hb.out] at l1 hc1 hc2
  rw [hd.out] at l1 hd2
  rw [hb.out, hd.out]
  have g20 := gr_trans g1 g2
  clear g1 g2 hc1
  go_wp2_with fail
  refine (now_ok b 0 0 100000 10000 10001 _ hc2 ⟨by omega, by omega, by omega, by omega, by omega, by omega⟩ (by decide) (hid (by decide))).mono ?_
  rintro e w3 ⟨rfl, g3⟩
  have hc3 := hc2.kept g3 (by simp)
  have hd3 := hd2.kept g3 (by simp)
  go_wp2_with fail
  refine (when_ok d 0 0 (-1) 5 6 _ hd3 ⟨by omega, by omega, by omega, by omega, by omega, by omega⟩ ⟨by omega, by omega, by decide, fun s h0 h1 => by unfold clockAt; omega⟩).mono ?_
  rintro e w4 ⟨rfl, g4⟩
  have hc4 := hc3.kept g4 (by simp)
  go_wp2_with fail
  refine (drift_half _).mono ?_
  rintro e w' ⟨rfl, rfl⟩
  go_wp2_with fail
  refine (nan_word _).mono ?_
  rintro e w' ⟨rfl, rfl⟩
  go_wp2_with fail
  refine (drift_none _).mono ?_
  rintro e w5 ⟨rfl, g5⟩
  have hc5 := hc4.kept g5 (by simp)
  go_wp2_with fail
  refine (set_ok b 0 0 100000 20000 7 _ hc5 (by decide) (by decide)).mono ?_
  rintro e w6 ⟨rfl, hc6, g6⟩
  go_wp2_with fail
  refine (rate_ok b 20000 7 100000 20001 0 _ hc6 ⟨by omega, by omega, by omega, by omega, by omega, by omega⟩ (by decide) (by decide)).mono ?_
  rintro e w7 ⟨rfl, hc7, g7⟩
  rw [show clockAt 20000 7 100000 20001 = 8 from by decide] at hc7
  go_wp2_with fail
  refine (mark_ok b 20001 8 0 _ hc7).mono ?_
  rintro e w8 ⟨rfl, g8⟩
  go_wp2_with fail
  go_ret
  refine ⟨rfl, ?_⟩
  have hbw : w.heap.size ≤ b := by have := hb.out; omega
  exact gr_trans (gr_own (gr_own (gr_trans (gr_trans (gr_trans g20 g3) g4) g5) g6 hbw) g7 hbw) g8

end Go.Proofs.Ytfmkjolfpjfhbaa
