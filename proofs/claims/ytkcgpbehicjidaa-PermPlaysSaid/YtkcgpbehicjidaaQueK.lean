/- tocsinlaw10.fixed: the chapter's examples hold. -/
import Derived.Test.YtkcgpbehicjidaaQueJ
namespace Go.Proofs.Ytkcgpbehicjidaa
open Go.RowKit Go.Lib

theorem clockAt_zero (t : Int) : clockAt 0 0 0 t = t := by simp [clockAt]
theorem when_zero {n : Int} (h0 : 0 ≤ n) (h1 : n ≤ 1125899906842624) : IsWhen 0 0 0 n n := ⟨h0, h1, by rw [clockAt_zero]; exact Int.le_refl _, fun s _ h => by rw [clockAt_zero]; exact h⟩
theorem clockOk_zero : ClockOk 0 0 0 := ⟨by omega, by omega, by omega, by omega, by omega, by omega⟩

set_option maxRecDepth 100000 in
set_option maxHeartbeats 4000000 in
theorem fixed_true (w : World) : Calls Try.prog 8 #[] w fun e w' => e = .returned (.bool true) ∧ w.grownBy w' none := by
  go_enter Try.func8, Try.ntmps8
  go_wp2_with fail
  refine (new_ok 0 0 0 w (hid (by decide)) (hid (by decide)) (hid (by decide))).mono ?_
  rintro e w1 ⟨rfl, hc, g1⟩
  obtain ⟨b, hb⟩ : ∃ b, Hid (w.heap.size = b) := ⟨_, hid rfl⟩
  rw [hb.out] at hc
  rw [hb.out]
  have Hc := hid hc
  have G1 := hid g1
  clear hc g1
  go_wp2_with fail
  obtain ⟨q, hq⟩ : ∃ q, Hid (w1.heap.size = q) := ⟨_, hid rfl⟩
  refine (pnew_at 2000 w1 (by omega)).mono ?_
  rintro e w2 ⟨rfl, hQ, hH, g2, hs2⟩
  rw [hq.out] at hQ hH hs2
  rw [hq.out]
  have hbq : b < q := by rw [← hq.out]; exact Hc.out.lt
  have Hbq := hid hbq
  have HH := hid (show Hld w2 (q + 1) q 2000 from hH)
  have Hc2 := hid (Hc.out.kept g2 (by simp))
  have HQ0 : Hid (QS (fun k => k < q ∨ k = q + 1) w2 (q + 2) q 0 []) := hid ⟨_, hQ, World.ownsRow_nil _ _ _ _, by simp [Value.ownBlock], by omega, fun k hk => ⟨by rcases hk with h | rfl <;> omega, by rcases hk with h | rfl <;> omega, by simp [Value.ownBlock]⟩⟩
  have G2 := hid (gr_trans G1.out g2)
  have Hwq : Hid (w.heap.size ≤ q) := hid (by rw [← hq.out]; exact G1.out.size)
  clear hQ hH g2 hs2 hbq Hc
  go_wp2_with fail
  refine (take_keep _ b (q + 2) (q + 1) q 0 0 0 2000 1500 1 0 0 0 1500 1500 2000 0 [] w2 HH.out Hc2.out clockOk_zero (by decide) (clockAt_zero _) (by omega) (by decide) (by omega) (when_zero (by omega) (by omega)) HQ0.out (by simp) (by omega) (.inl rfl)).mono ?_
  rintro e w3 ⟨rfl, hQ3, hK3⟩
  have HQ3 := hid hQ3
  have HK3 := hid hK3
  have HH3 : Hid (Hld w3 (q + 1) q 2000) := hid ((hK3.block (q + 1) (.inr rfl)).trans HH.out)
  have Hc3 : Hid (Clk w3 b 0 0 0) := hid ((hK3.block b (.inl Hbq.out)).trans Hc2.out)
  clear hQ3 hK3
  go_wp2_with fail
  refine (take_keep _ b (q + 2) (q + 1) q 0 0 0 2000 300 1 1 0 0 200 300 2100 1 _ w3 HH3.out Hc3.out clockOk_zero (by decide) (clockAt_zero _) (by omega) (by decide) (by omega) (when_zero (by omega) (by omega)) HQ3.out (by simp) (by omega) (.inr (by decide))).mono ?_
  rintro e w4 ⟨rfl, hQ4, hK4⟩
  have HQ4 : Hid (QS (fun k => k < q ∨ k = q + 1) w4 (q + 2) q 2 [⟨2000, 0, 0, 1, 1, 0, 0, 0, 1500⟩, ⟨2100, 1, 0, 2, 1, 1, 0, 0, 200⟩]) := hid hQ4
  have HK4 := hid (HK3.out.trans hK4)
  have HH4 : Hid (Hld w4 (q + 1) q 2000) := hid ((hK4.block (q + 1) (.inr rfl)).trans HH3.out)
  have Hc4 : Hid (Clk w4 b 0 0 0) := hid ((hK4.block b (.inl Hbq.out)).trans Hc3.out)
  clear hQ4 hK4
  go_wp2_with fail
  refine (take_range b (q + 1) q 2000 300 1 1 0 0 2001 w4 HH4.out (by decide) (by omega)).mono ?_
  rintro e w5 ⟨rfl, g5⟩
  have HQ5 := hid (HQ4.out.grown g5)
  have HH5 := hid (HH4.out.gr g5)
  have Hc5 := hid (Hc4.out.kept g5 (by simp))
  have HK5 := hid (HK4.out.trans (Keeps.of_gr g5 fun k hk => ⟨HQ4.out.lt k hk, by simp⟩))
  clear g5
  go_wp2_with fail
  refine (next_first _ (q + 2) (q + 1) q 2000 2 _ ⟨2000, 0, 0, 1, 1, 0, 0, 0, 1500⟩ w5 HH5.out HQ5.out (by simp) (by simp) rfl).mono ?_
  rintro e w6 ⟨rfl, g6⟩
  have HQ6 := hid (HQ5.out.grown g6)
  have HH6 := hid (HH5.out.gr g6)
  have Hc6 := hid (Hc5.out.kept g6 (by simp))
  have HK6 := hid (HK5.out.trans (Keeps.of_gr g6 fun k hk => ⟨HQ5.out.lt k hk, by simp⟩))
  clear g6
  go_wp2_with fail
  refine (give_late _ (q + 2) (q + 1) q 2000 2 1999 _ ⟨2000, 0, 0, 1, 1, 0, 0, 0, 1500⟩ w6 HH6.out HQ6.out (by simp) (by simp) rfl (by decide)).mono ?_
  rintro e w7 ⟨rfl, g7⟩
  have g7' := gr_alloc g7 (.cells #[.int .i64 0, .int .i64 0, .int .i64 0, .int .u32 0, .int .i64 0] 37)
  have HQ7 := hid (HQ6.out.grown g7')
  have HH7 := hid (HH6.out.gr g7')
  have Hc7 := hid (Hc6.out.kept g7' (by simp))
  have HK7 := hid (HK6.out.trans (Keeps.of_gr g7' fun k hk => ⟨HQ6.out.lt k hk, by simp⟩))
  clear g7 g7'
  go_wp2_with fail
  refine (give_ok _ (q + 2) (q + 1) q 2000 2 2000 _ ⟨2000, 0, 0, 1, 1, 0, 0, 0, 1500⟩ (fun ys => ys = [⟨2100, 1, 0, 2, 1, 1, 0, 0, 200⟩]) _ HH7.out HQ7.out (by simp) (by simp) rfl (by simp) ?_).mono ?_
  · intro P' W hQ
    obtain ⟨a, cap, hq⟩ := hQ.slice
    refine (sink_small q 2 a _ cap W hq (by simp [popL_length])).mono ?_
    rintro e W' ⟨rfl, rfl⟩
    exact ⟨rfl, ⟨_, rfl, hQ⟩, Keeps.rfl'⟩
  rintro e w8 ⟨rfl, ⟨ys, rfl, hQ8⟩, hK8⟩
  have A8 := gr_alloc (gr_refl w8 none) (.cells #[.int .i64 1, .int .i64 0, .int .i64 0, .int .u32 0, .int .i64 1500] 37)
  have HQ8 := hid (hQ8.grown A8)
  have HH8 : Hid (Hld _ (q + 1) q 2000) := hid (Hld.gr ((hK8.block (q + 1) (.inr rfl)).trans HH7.out) A8)
  have Hc8 : Hid (Clk (w8.alloc (.cells #[.int .i64 1, .int .i64 0, .int .i64 0, .int .u32 0, .int .i64 1500] 37)) b 0 0 0) := hid (Clk.kept ((hK8.block b (.inl Hbq.out)).trans Hc7.out) A8 (by simp))
  have HK8 := hid ((HK7.out.trans hK8).trans (Keeps.of_gr A8 fun k hk => ⟨hQ8.lt k hk, by simp⟩))
  clear hQ8 hK8 A8
  go_wp2_with fail
  refine (due_ok b 0 0 0 5 1 10 5 14 _ Hc8.out clockOk_zero (by decide) (clockAt_zero _) (by omega) (by omega) (when_zero (by omega) (by omega))).mono ?_
  rintro e w9 ⟨rfl, g9⟩
  have F := gr_heap g9 (heap_alloc_new w8 _) (by simp)
  have b4 := cell_of F 4 (.int .i64 1500) rfl
  have HQ9 := hid (HQ8.out.grown g9)
  have HH9 := hid (HH8.out.gr g9)
  have HK9 := hid (HK8.out.trans (Keeps.of_gr g9 fun k hk => ⟨HQ8.out.lt k hk, by simp⟩))
  clear g9 F
  go_wp2_with fail
  refine (len_at _ (q + 2) (q + 1) q 2000 2 _ _ HH9.out HQ9.out).mono ?_
  rintro e w10 ⟨rfl, rfl⟩
  go_wp2_with fail
  go_ret
  refine ⟨rfl, ⟨HK9.out.os.trans G2.out.os, HK9.out.tape.trans G2.out.tape, HK9.out.output.trans G2.out.output, Nat.le_trans G2.out.size HK9.out.size, fun k hk _ => (HK9.out.block k (.inl (by have := Hwq.out; omega))).trans (G2.out.block k hk (by simp))⟩⟩
end Go.Proofs.Ytkcgpbehicjidaa
