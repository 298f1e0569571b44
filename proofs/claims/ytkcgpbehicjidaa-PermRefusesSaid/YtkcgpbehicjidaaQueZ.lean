/- tocsinlaw10.PermRefuses, walked. -/
import Derived.Test.YtkcgpbehicjidaaQueY
namespace Go.Proofs.Ytkcgpbehicjidaa
open Go.RowKit Go.Lib

set_option maxRecDepth 100000 in
set_option maxHeartbeats 4000000 in
theorem prefuses_walk (k fr cy cr cl : Int)
    (t : Int) (_ : -9223372036854775808 ≤ t ∧ t ≤ 9223372036854775807) (nn : Int) (bn : 0 ≤ nn ∧ nn ≤ 255) (w : World) :
    Calls Try.prog 5 #[.agg #[.int .i64 k, .int .i64 fr, .int .i64 cy, .int .u32 cr, .int .i64 cl], .int .i64 t, .int .u8 nn] w fun e w' => e = .returned (.bool true) ∧ Below w.heap.size w w' := by
  obtain ⟨N, hN⟩ : ∃ N : Nat, Hid (nn % 80 = (N : Int)) := ⟨(nn % 80).toNat, hid (by omega)⟩
  obtain ⟨n0, n1⟩ := bn
  have hmod : nn.tmod 80 = (N : Int) := by rw [Int.tmod_eq_emod_of_nonneg n0, hN.out]
  have hN80 : N < 80 := by have := hN.out; omega
  go_enter Try.func5, Try.ntmps5
  go_wp2_with fail
  refine (fixed_true _).mono ?_
  rintro e w1 ⟨rfl, g1⟩
  have D1 := hid (gr_heap g1 (heap_alloc_new w _) (by simp))
  have G1 := hid (bx_gr g1)
  clear g1
  go_wp2_with fail
  obtain ⟨b, hb⟩ : ∃ b, Hid (w1.heap.size = b) := ⟨_, hid rfl⟩
  refine (new_ok 0 0 0 w1 (hid (by decide)) (hid (by decide)) (hid (by decide))).mono ?_
  rintro e w2 ⟨rfl, hc, g2⟩
  rw [hb.out] at hc
  rw [hb.out]
  have Hc2 := hid hc
  have D2 := hid (gr_heap g2 D1.out (by simp))
  have G2 := hid (gr_trans G1.out g2)
  clear hc g2 D1
  go_wp2_with fail
  obtain ⟨q, hq⟩ : ∃ q, Hid (w2.heap.size = q) := ⟨_, hid rfl⟩
  refine (pnew_at 500 w2 (by omega)).mono ?_
  rintro e w3 ⟨rfl, hQ, hH, g3, hs3⟩
  rw [hq.out] at hQ hH hs3
  rw [hq.out]
  obtain ⟨B, hB⟩ : ∃ B, Hid (w3.heap.size = B) := ⟨_, hid rfl⟩
  have HH3 := hid (show Hld w3 (q + 1) q 500 from hH)
  have HqB : Hid (b < q ∧ q + 1 < B ∧ w.heap.size < q) := hid (by
    have h1 := hB.out
    have h2 := hq.out
    have h3 := Hc2.out.lt
    have h4 := lt_of_block D2.out
    omega)
  have HQ3 : Hid (QS (fun k => k < B ∧ k ≠ q) w3 B q 0 []) := hid ⟨_, hQ, World.ownsRow_nil _ _ _ _, by simp [Value.ownBlock], by rw [hB.out]; exact Nat.le_refl _, fun k hk => ⟨by rw [hB.out]; exact hk.1, hk.2, by simp [Value.ownBlock]⟩⟩
  have Hc3 := hid (Hc2.out.kept g3 (by simp))
  have D3 := hid (gr_heap g3 D2.out (by simp))
  have G3 := hid (gr_trans G2.out g3)
  clear hQ hH g3 hs3 Hc2 D2
  go_wp2_with fail
  go_loopw [38] (fun vi wr => ∃ i : Nat, vi = .int .i64 i ∧ i ≤ N ∧ Hid (∃ ys, (ys.length = min i 64 ∧ IsHeap ys) ∧ QS (fun k => k < B ∧ k ≠ q) wr B q (min i 64 : Nat) ys) ∧ Hid (Keeps (fun k => k < B ∧ k ≠ q) w3 wr)) (fun vi _ => N - (intOf vi).toNat)
  case atStart => exact ⟨0, rfl, Nat.zero_le _, hid ⟨[], ⟨rfl, by intro j _ hj; simp at hj⟩, HQ3.out⟩, hid Keeps.rfl'⟩
  case round =>
    obtain ⟨i, rfl, hi, HE, HK⟩ := hrel
    have HHr : Hid (Hld wr (q + 1) q 500) := hid ((HK.out.block (q + 1) ⟨by have := HqB.out; omega, by omega⟩).trans HH3.out)
    have Hcr : Hid (Clk wr b 0 0 0) := hid ((HK.out.block b ⟨by have := HqB.out; omega, by have := HqB.out; omega⟩).trans Hc3.out)
    obtain ⟨ys, ⟨hlen, hheap⟩, hqs⟩ := HE.out
    have Hh := hid hheap
    have HQ := hid hqs
    have Hl := hid hlen
    clear hheap hqs hlen
    by_cases hin : i < N
    · by_cases h64 : i < 64
      · have ht : Hid (Took 0 0 0 i 500 2 0 0 0 0 ys.length (i + 500) 0) := hid (by
          refine .ok (by decide) (by decide) _ (.ok ?_ _ ?_) (by rw [Hl.out]; omega)
          · exact dueB_iff.2 ⟨nowB_at (by omega) (by omega), by decide, by decide⟩
          · rw [clockAt_zero]
            have e1 : (i : Int) + 500 - 0 = i + 500 := by omega
            rw [e1]
            exact when_zero (by omega) (by omega))
        go_wp2_with fail
        refine (take_all _ b B (q + 1) q 0 0 0 500 i 2 0 0 0 0 (min i 64 : Nat) (i + 500) 0 ys wr HHr.out Hcr.out clockOk_zero (by omega) HQ.out (by omega) Hh.out ht.out).mono ?_
        rintro e w4 ⟨rfl, ⟨zs, ⟨hp, hh⟩, hQ⟩, hK⟩
        have HE4 : Hid (∃ ys, (ys.length = min (i + 1) 64 ∧ IsHeap ys) ∧ QS (fun k => k < B ∧ k ≠ q) w4 B q (min (i + 1) 64 : Nat) ys) := hid (by
          rw [if_pos rfl] at hp hQ
          refine ⟨zs, ⟨by rw [hp.length_eq]; simp [Hl.out]; omega, hh⟩, ?_⟩
          have e1 : ((min (i + 1) 64 : Nat) : Int) = (min i 64 : Nat) + 1 := by omega
          rw [e1]
          exact hQ)
        have HK4 := hid (HK.out.trans hK)
        clear hp hh hQ hK HE HQ Hh HHr Hcr ht
        go_wp2_with fail
        go_roundw
        case rel => exact ⟨i + 1, by go_num, by omega, HE4, HK4⟩
        case measure => simp [intOf]; omega
      · have ht : Hid (Took 0 0 0 i 500 2 0 0 0 0 ys.length 0 6) := hid (by
          refine .full (by decide) (by decide) (i + 500) (.ok ?_ _ ?_) (by rw [Hl.out]; omega)
          · exact dueB_iff.2 ⟨nowB_at (by omega) (by omega), by decide, by decide⟩
          · rw [clockAt_zero]
            have e1 : (i : Int) + 500 - 0 = i + 500 := by omega
            rw [e1]
            exact when_zero (by omega) (by omega))
        go_wp2_with fail
        refine (take_all _ b B (q + 1) q 0 0 0 500 i 2 0 0 0 0 (min i 64 : Nat) 0 6 ys wr HHr.out Hcr.out clockOk_zero (by omega) HQ.out (by omega) Hh.out ht.out).mono ?_
        rintro e w4 ⟨rfl, ⟨zs, ⟨hp, hh⟩, hQ⟩, hK⟩
        have HE4 : Hid (∃ ys, (ys.length = min (i + 1) 64 ∧ IsHeap ys) ∧ QS (fun k => k < B ∧ k ≠ q) w4 B q (min (i + 1) 64 : Nat) ys) := hid (by
          rw [if_neg (by decide)] at hp hQ
          refine ⟨zs, ⟨by rw [hp.length_eq, Hl.out]; omega, hh⟩, ?_⟩
          have e1 : min (i + 1) 64 = min i 64 := by omega
          rw [e1]
          exact hQ)
        have HK4 := hid (HK.out.trans hK)
        clear hp hh hQ hK HE HQ Hh HHr Hcr ht
        go_wp2_with fail
        go_roundw
        case rel => exact ⟨i + 1, by go_num, by omega, HE4, HK4⟩
        case measure => simp [intOf]; omega
    · obtain rfl : i = N := by omega
      have D4 := (HK.out.block w.heap.size ⟨by have := HqB.out; omega, by have := HqB.out; omega⟩).trans D3.out
      have b0 := cell_of D4 0 (.int .i64 k) rfl
      have b1 := cell_of D4 1 (.int .i64 fr) rfl
      have b2 := cell_of D4 2 (.int .i64 cy) rfl
      have b3 := cell_of D4 3 (.int .u32 cr) rfl
      have b4 := cell_of D4 4 (.int .i64 cl) rfl
      obtain ⟨L, hL⟩ : ∃ L, Hid (ys.length = L) := ⟨_, hid rfl⟩
      have hL64 : L ≤ 64 := by have := hL.out; have := Hl.out; omega
      clear D4 HE
      go_wp2_with fail
      refine (len_at _ B (q + 1) q 500 _ ys wr HHr.out HQ.out).mono ?_
      rintro e w4 ⟨rfl, rfl⟩
      rw [hL.out]
      obtain ⟨v, f, ht⟩ := Took.exists clockOk_zero t 500 k fr cy cr cl (len := L) hL64
      have Ht := hid ht
      clear ht
      go_wp2_with fail
      refine (take_all _ b B (q + 1) q 0 0 0 500 t k fr cy cr cl _ v f ys w4 HHr.out Hcr.out clockOk_zero (by omega) HQ.out (by omega) Hh.out (by rw [hL.out]; exact Ht.out)).mono ?_
      rintro e w5 ⟨rfl, ⟨zs, ⟨hp, hh⟩, hQ⟩, hK⟩
      have HQ5 := hid hQ
      have HK5 := hid (HK.out.trans hK)
      have HH5 : Hid (Hld w5 (q + 1) q 500) := hid ((HK5.out.block (q + 1) ⟨by have := HqB.out; omega, by omega⟩).trans HH3.out)
      have G5 : Hid (w.grownBy w5 none) := hid ⟨HK5.out.os.trans G3.out.os, HK5.out.tape.trans G3.out.tape, HK5.out.output.trans G3.out.output, Nat.le_trans G3.out.size HK5.out.size, fun k hk _ => (HK5.out.block k ⟨by have := HqB.out; omega, by have := HqB.out; omega⟩).trans (G3.out.block k hk (by simp))⟩
      by_cases hf : f = 0
      · subst hf
        rw [if_pos rfl] at hp
        have hl5 : zs.length = L + 1 := by rw [hp.length_eq, ← hL.out]; simp
        have Hl5 := hid hl5
        clear hp hh hQ hK hl5 b0 b1 b2 b3 b4 HQ Hh HHr Hcr
        go_wp2_with fail
        refine (len_at _ B (q + 1) q 500 _ zs w5 HH5.out HQ5.out).mono ?_
        rintro e w6 ⟨rfl, rfl⟩
        rw [Hl5.out]
        go_wp2_with fail
        refine (take_nil b 0 1 0 0 0 0 _).mono ?_
        rintro e w7 ⟨rfl, g7⟩
        have G7 := hid (gr_trans G5.out g7)
        clear g7
        go_wp2_with fail
        refine (pnext_nil _).mono ?_
        rintro e w8 ⟨rfl, g8⟩
        have G8 := hid (gr_trans G7.out g8)
        clear g8
        go_wp2_with fail
        refine (give_nil 5 _).mono ?_
        rintro e w9 ⟨rfl, g9⟩
        have G9 := hid (gr_trans G8.out g9)
        clear g9
        go_wp2_with fail
        refine (len_nil _).mono ?_
        rintro e w10 ⟨rfl, rfl⟩
        go_wp2_with fail
        go_ret
        exact ⟨rfl, gr_below (gr_alloc G9.out _) (Nat.le_refl _) (by simp)⟩
      · rw [if_neg hf] at hp
        have hl5 : zs.length = L := by rw [hp.length_eq, hL.out]
        have Hl5 := hid hl5
        clear hp hh hQ hK hl5 b0 b1 b2 b3 b4 HQ Hh HHr Hcr
        go_wp2_with fail
        refine (len_at _ B (q + 1) q 500 _ zs w5 HH5.out HQ5.out).mono ?_
        rintro e w6 ⟨rfl, rfl⟩
        rw [Hl5.out]
        go_wp2_with fail
        refine (take_nil b 0 1 0 0 0 0 _).mono ?_
        rintro e w7 ⟨rfl, g7⟩
        have G7 := hid (gr_trans G5.out g7)
        clear g7
        go_wp2_with fail
        refine (pnext_nil _).mono ?_
        rintro e w8 ⟨rfl, g8⟩
        have G8 := hid (gr_trans G7.out g8)
        clear g8
        go_wp2_with fail
        refine (give_nil 5 _).mono ?_
        rintro e w9 ⟨rfl, g9⟩
        have G9 := hid (gr_trans G8.out g9)
        clear g9
        go_wp2_with fail
        refine (len_nil _).mono ?_
        rintro e w10 ⟨rfl, rfl⟩
        go_wp2_with fail
        go_ret
        exact ⟨rfl, gr_below (gr_alloc G9.out _) (Nat.le_refl _) (by simp)⟩
end Go.Proofs.Ytkcgpbehicjidaa
