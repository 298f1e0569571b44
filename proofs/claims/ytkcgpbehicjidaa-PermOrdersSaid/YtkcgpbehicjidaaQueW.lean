/- tocsinlaw10.PermOrders, walked. -/
import Derived.Test.YtkcgpbehicjidaaQueV
namespace Go.Proofs.Ytkcgpbehicjidaa
open Go.RowKit Go.Lib

set_option maxRecDepth 100000 in
set_option maxHeartbeats 4000000 in
theorem porders_walk (dl : Int) (bd : -9223372036854775808 ≤ dl ∧ dl ≤ 9223372036854775807)
    (a1 : Option Addr) (gs : List Int) (c1 : Nat) (hr1 : gs.length * 2 ≤ 140737488355328) (g16 : InS gs) (hc1 : gs.length ≤ c1) {w : World} (hI1 : Shorts w.heap.size w (.slice a1 gs.length c1) gs)
    (a2 : Option Addr) (ts : List Int) (c2 : Nat) (hr2 : ts.length * 2 ≤ 140737488355328) (t16 : InS ts) (_ : ts.length ≤ c2) (hI2 : Shorts w.heap.size w (.slice a2 ts.length c2) ts) :
    Calls Try.prog 3 #[.int .i64 dl, .slice a1 gs.length c1, .slice a2 ts.length c2] w fun e w' => e = .returned (.bool true) ∧ Below w.heap.size w w' := by
  have HI1 := hid hI1
  have HI2 := hid hI2
  have G16 := hid g16
  have T16 := hid t16
  clear hI1 hI2 g16 t16
  obtain ⟨i0, hi, hz0, hz1, hz2⟩ := info_parts Try.info_i64
  by_cases hd : 0 ≤ dl ∧ dl ≤ 1048576
  case neg =>
    have Hd := hid hd
    clear hd
    go_enter Try.func3, Try.ntmps3
    go_wp2_with fail
    refine (fixed_true _).mono ?_
    rintro e w1 ⟨rfl, g1⟩
    have G1 := hid g1
    clear g1
    go_wp2_with fail
    refine (pnew_bad dl w1 (by have := Hd.out; omega)).mono ?_
    rintro e w2 ⟨rfl, rfl⟩
    go_wp2_with fail
    refine (new_ok 0 0 0 w1 (hid (by decide)) (hid (by decide)) (hid (by decide))).mono ?_
    rintro e w3 ⟨rfl, hc, g3⟩
    have G3 := hid (gr_trans G1.out g3)
    clear hc g3
    go_wp2_with fail
    go_ret
    exact ⟨rfl, gr_below G3.out (Nat.le_refl _) (by simp)⟩
  case pos =>
    obtain ⟨d0, d1⟩ := hd
    obtain ⟨n, hn⟩ : ∃ n, Hid (min (min gs.length ts.length) 60 = n) := ⟨_, hid rfl⟩
    have hn60 : n ≤ 60 := by have := hn.out; omega
    have hng : n ≤ gs.length := by have := hn.out; omega
    have hnt : n ≤ ts.length := by have := hn.out; omega
    have hnc : n ≤ c1 := by omega
    obtain ⟨m2, hm2⟩ : ∃ m2, Hid (min gs.length ts.length = m2) := ⟨_, hid rfl⟩
    have hmin1 : (if ts.length < gs.length then (ts.length : Int) else (gs.length : Int)) = (m2 : Int) := by have := hm2.out; split <;> omega
    have hmin2 : min (m2 : Int) 60 = (n : Int) := by have := hm2.out; have := hn.out; omega
    have hmin3 : (if 60 < (m2 : Int) then 60 else (m2 : Int)) = (n : Int) := by have := hm2.out; have := hn.out; split <;> omega
    go_enter Try.func3, Try.ntmps3
    go_wp2_with fail
    refine (fixed_true _).mono ?_
    rintro e w1 ⟨rfl, g1⟩
    have G1 := hid g1
    clear g1
    go_wp2_with fail
    obtain ⟨q, hq⟩ : ∃ q, Hid (w1.heap.size = q) := ⟨_, hid rfl⟩
    refine (pnew_at dl w1 (by omega)).mono ?_
    rintro e w2 ⟨rfl, hQ, hH, g2, hs2⟩
    rw [hq.out] at hQ hH hs2
    rw [hq.out]
    have HH2 := hid (show Hld w2 (q + 1) q dl from hH)
    have HQ2 := hid hQ
    have G2 := hid (gr_trans G1.out g2)
    have Hs2 := hid hs2
    clear hQ hH g2 hs2
    go_wp2_with fail
    obtain ⟨b, hb⟩ : ∃ b, Hid (w2.heap.size = b) := ⟨_, hid rfl⟩
    refine (new_ok 0 0 0 w2 (hid (by decide)) (hid (by decide)) (hid (by decide))).mono ?_
    rintro e w3 ⟨rfl, hc, g3⟩
    rw [hb.out] at hc
    rw [hb.out]
    obtain ⟨B, hB⟩ : ∃ B, Hid (w3.heap.size = B) := ⟨_, hid rfl⟩
    have Hc3 := hid hc
    have HH3 := hid (HH2.out.gr g3)
    have hqB : q < b ∧ q + 1 < b ∧ b < B := by
      have h1 := Hs2.out
      have h2 := hb.out
      have h3 := hc.lt
      have h4 := hB.out
      omega
    have HqB := hid hqB
    have HQ3 : Hid (QS (fun k => (k < B ∧ k ≠ q) ∨ (Value.slice none 0 0).ownBlock = some k) w3 B q 0 []) := hid (by
      refine ⟨_, HQ2.out.kept g3 (by simp), World.ownsRow_nil _ _ _ _, by simp [Value.ownBlock], by rw [hB.out]; exact Nat.le_refl _, ?_⟩
      rintro k (hk | hk)
      · exact ⟨by rw [hB.out]; exact hk.1, hk.2, by simp [Value.ownBlock]⟩
      · simp [Value.ownBlock] at hk)
    have G3 := hid (gr_trans G2.out g3)
    have Hwq : Hid (w.heap.size ≤ q) := hid (by rw [← hq.out]; exact G1.out.size)
    clear hc g3 hqB HQ2 HH2
    go_wp2_with fail
    go_loopw [11, 13, 47] (fun vat vl vi wr => ∃ k : Nat, vi = .int .i64 k ∧ k ≤ n ∧ vat = .int .i64 (pat gs k) ∧ Hid (∃ ys, (ys.Perm (pits dl gs ts 0 k) ∧ IsHeap ys) ∧ QS (fun k => (k < B ∧ k ≠ q) ∨ vl.ownBlock = some k) wr B q k ys) ∧ Hid (wr.ownsRow B 2 1 vl k ((List.range k).map fun j => Value.int .i64 (pat gs (j + 1)))) ∧ Hid (Keeps (fun k => k < B ∧ k ≠ q) w3 wr)) (fun _ _ vi _ => n - (intOf vi).toNat)
    case atStart => exact ⟨0, rfl, Nat.zero_le _, rfl, hid ⟨[], ⟨List.Perm.refl _, by intro j _ hj; simp at hj⟩, HQ3.out⟩, hid (World.ownsRow_nil _ _ _ _), hid Keeps.rfl'⟩
    case round =>
      obtain ⟨k, rfl, hk, rfl, HE, Hor, HK⟩ := hrel
      by_cases hlt : k < n
      · rcases HI1.out with ⟨_, _, _, hz⟩ | ⟨x1, o1, d1', e, hx1, hcell1⟩
        · exfalso; rw [hz] at hng; simp at hng; omega
        rcases HI2.out with ⟨_, _, _, hz⟩ | ⟨x2, o2, d2', e2, hx2, hcell2⟩
        · exfalso; rw [hz] at hnt; simp at hnt; omega
        have e' : a1 = some ⟨x1, o1, none⟩ := by simpa using (Value.slice.inj e).1
        have e2' : a2 = some ⟨x2, o2, none⟩ := by simpa using (Value.slice.inj e2).1
        subst e' e2'
        have old : ∀ (y o j : Nat) (v : Value), y < w.heap.size → w.cell? ⟨y, o + j, none⟩ = some v → wr.cell? ⟨y, o + j, none⟩ = some v := fun y o j v hy hc => by
          have h3 := gr_cell G3.out hc
          have hb := HK.out.block y ⟨by have := Hwq.out; have := HqB.out; omega, by have := Hwq.out; omega⟩
          simp only [World.cell?, hb]
          exact h3
        have r1 := old _ _ _ _ hx1 (hcell1 k (by omega))
        have r2 := old _ _ _ _ hx2 (hcell2 k (by omega))
        clear old hcell1 hcell2 e e2
        obtain ⟨x, hx⟩ : ∃ x, Hid (nth gs k = x) := ⟨_, hid rfl⟩
        obtain ⟨y, hy⟩ : ∃ y, Hid (nth ts k = y) := ⟨_, hid rfl⟩
        obtain ⟨A, hA⟩ : ∃ A, Hid (pat gs k = A) := ⟨_, hid rfl⟩
        obtain ⟨sp, hsp'⟩ : ∃ sp, Hid (min y dl = sp) := ⟨_, hid rfl⟩
        have hsp : (if dl < y then dl else y) = sp := by have := hsp'.out; split <;> omega
        have bx := G16.out.nth k
        have by' := T16.out.nth k
        have bA := pat_bd G16.out k
        rw [hx.out] at r1 bx
        rw [hy.out] at r2 by'
        rw [hA.out] at bA
        rw [hA.out]
        obtain ⟨bx0, bx1⟩ := bx
        obtain ⟨by0, by1⟩ := by'
        obtain ⟨bA0, bA1⟩ := bA
        have sp0 : 0 ≤ sp := by have := hsp'.out; omega
        have sp1 : sp ≤ dl := by have := hsp'.out; omega
        have Htak := hid (And.intro bx0 (And.intro bx1 (And.intro bA0 bA1)))
        obtain ⟨ys, ⟨hperm, hheap⟩, hqs⟩ := HE.out
        have Hp := hid hperm
        have Hh := hid hheap
        have HQ := hid hqs
        have Hl : Hid (ys.length = k) := hid (by rw [hperm.length_eq, pits_length])
        have HHr : Hid (Hld wr (q + 1) q dl) := hid ((HK.out.block (q + 1) ⟨by have := HqB.out; omega, by omega⟩).trans HH3.out)
        have Hcr : Hid (Clk wr b 0 0 0) := hid ((HK.out.block b ⟨by have := HqB.out; omega, by have := HqB.out; omega⟩).trans Hc3.out)
        have HW : Hid (IsWhen 0 0 0 (A + x + sp + dl - sp) (A + x + dl)) := hid (by
          have e1 : A + x + sp + dl - sp = A + x + dl := by omega
          rw [e1]
          exact when_zero (by omega) (by omega))
        clear HE hperm hheap hqs
        go_wp2_with fail
        refine (take_any _ b B (q + 1) q 0 0 0 dl (A + x + sp) 1 0 k 0 sp (A + x + sp) (A + x + dl) k ys wr HHr.out Hcr.out clockOk_zero (nowB_of (by omega) (by omega)) (clockAt_zero _) (by omega) (right_num (by omega) sp0 (by omega)) (by omega) HW.out HQ.out (by have := Hl.out; omega) (by omega) Hh.out).mono ?_
        rintro e w4 ⟨rfl, ⟨zs, ⟨hperm4, hheap4⟩, hQ4⟩, hK4⟩
        have eA : pat gs (k + 1) = A + x := by show pat gs k + nth gs k = _; rw [hA.out, hx.out]
        have HP4 : Hid (zs.Perm (pits dl gs ts 0 (k + 1))) := hid (by
          have ep : pit dl gs ts k = ⟨A + x + dl, 0, 0, (k : Int) + 1, 1, 0, (k : Int), 0, sp⟩ := by unfold pit; rw [eA, hy.out, hsp'.out]
          rw [pits_snoc, ep]
          exact hperm4.trans (List.Perm.append_right _ Hp.out))
        have Hh4 := hid hheap4
        have HQ4 := hid hQ4
        have HK4 : Hid (Keeps (fun k => k < B ∧ k ≠ q) w3 w4) := hid (HK.out.trans (hK4.weaken fun k hk => .inl hk))
        have Hor4 : Hid (w4.ownsRow B 2 1 u13 k ((List.range k).map fun j => Value.int .i64 (pat gs (j + 1)))) := hid (own_same Hor.out fun k hk => hK4.block k (.inr hk))
        have HBw : Hid (B ≤ w4.heap.size) := hid (by have := HK4.out.size; have := hB.out; omega)
        have HeA := hid eA
        clear hperm4 hheap4 hQ4 hK4 eA Hor HHr Hcr HQ Hh Hp r1 r2
        go_wp2_with (at_builtin; refine wpList_append_own_at _ rfl (.tmp 84) (.tmp 86) 31 rfl B 2 i0 (.int .i64 0) 1 8 Try.underlying31 hi hz0 hz1 hz2 rfl (by decide) _ _ _ rfl (Hor4.out.alloc _) ⟨w4.heap.size, 0, none⟩ 1 1 [.int .i64 (A + x)] rfl rfl (cell_one_new _ _ _) (by simp [Value.oneCell']) (by unfold maxLen; omega) (by omega) (by have := HBw.out; simp; omega) ?_; intro v2 w5 hown5 hg5 _ hat5; have HQ5 := hid (HQ4.out.away hg5 hat5 (fun q hq => (hown5.lt q hq).2)); have Hor5 : Hid (w5.ownsRow B 2 1 v2 (k + 1) ((List.range (k + 1)).map fun j => Value.int .i64 (pat gs (j + 1)))) := hid (by rw [List.range_succ, List.map_append, List.map_singleton, HeA.out]; exact hown5); have HK5 := hid (HK4.out.trans (Keeps.of_alloc_gr hg5 fun k hk => ⟨HQ4.out.lt k (.inl hk), fun e => by have := (Hor4.out.lt k e).1; omega⟩)); clear hown5 hg5 hat5)
        go_roundw
        case rel => exact ⟨k + 1, by go_num, by omega, by rw [HeA.out], hid ⟨zs, ⟨HP4.out, Hh4.out⟩, HQ5.out⟩, Hor5, HK5⟩
        case measure => simp [intOf]; omega
      · obtain rfl : k = n := by omega
        obtain ⟨ta, tc, hu⟩ : ∃ a cap, u13 = .slice a k cap := by
          rcases Hor.out.2 with ⟨e, h0⟩ | ⟨g, cap, cur, e, _⟩
          · exact ⟨none, 0, by rw [e, h0]⟩
          · exact ⟨_, _, e⟩
        subst hu
        go_wp2_with fail
        go_loopw [12, 91] (fun vlast vi wr => ∃ (j : Nat) (L : Int), vi = .int .i64 j ∧ j ≤ k ∧ vlast = .int .i64 L ∧ Hid (L ≤ pat gs j + dl) ∧ Hid (∃ ys, (ys.Perm (pits dl gs ts j (k - j)) ∧ IsHeap ys) ∧ QS (fun k' => (k' < B ∧ k' ≠ q) ∨ (Value.slice ta k tc).ownBlock = some k') wr B q k ys) ∧ Hid (wr.ownsRow B 2 1 (.slice ta k tc) k ((List.range k).map fun j => Value.int .i64 (pat gs (j + 1)))) ∧ Hid (Keeps (fun k => k < B ∧ k ≠ q) w3 wr)) (fun _ vi _ => k - (intOf vi).toNat)
        case atStart => exact ⟨0, -1, rfl, Nat.zero_le _, rfl, hid (by show (-1 : Int) ≤ 0 + dl; omega), HE, Hor, HK⟩
        case round =>
          obtain ⟨j, L, rfl, hj, rfl, HL, HE2, Hor2, HK2⟩ := hrel
          obtain ⟨ys, ⟨hperm, hheap⟩, hqs⟩ := HE2.out
          by_cases hjk : j < k
          · obtain ⟨m, hm⟩ : ∃ m, k - j = m + 1 := ⟨k - j - 1, by omega⟩
            rw [hm] at hperm
            obtain ⟨hfst, hrest⟩ := pits_first G16.out hperm hheap
            obtain ⟨g, cg, hta⟩ : ∃ g cap, Value.slice ta k tc = .slice (some ⟨g, 0, none⟩) k cap := by
              rcases Hor2.out.2 with ⟨e, h0⟩ | ⟨g, cap, cur, e, _⟩
              · omega
              · exact ⟨_, _, e⟩
            obtain ⟨rfl, _, rfl⟩ := Value.slice.inj hta
            have tj : wr.cell? ⟨g, j, none⟩ = some (.int .i64 (pat gs (j + 1))) := by
              rw [Hor2.out.cellAt j (by simp; omega)]
              simp [hjk]
            obtain ⟨A, hA⟩ : ∃ A, Hid (pat gs (j + 1) = A) := ⟨_, hid rfl⟩
            have bA := pat_bd G16.out (j + 1)
            have hLA := pat_mono G16.out j 1
            rw [hA.out] at tj bA hLA
            have hL := HL.out
            obtain ⟨bA0, bA1⟩ := bA
            have hLA' : L ≤ A + dl := by omega
            have hx : ith ys 0 = ⟨A + dl, 0, 0, (j : Int) + 1, 1, 0, (j : Int), 0, min (nth ts j) dl⟩ := by rw [hfst]; unfold pit; rw [hA.out]
            have Hx := hid hx
            have Hl : Hid (ys.length = m + 1) := hid (by rw [hperm.length_eq, pits_length])
            have Hrest := hid hrest
            have Hh := hid hheap
            have HQ := hid hqs
            have HHr : Hid (Hld wr (q + 1) q dl) := hid ((HK2.out.block (q + 1) ⟨by have := HqB.out; omega, by omega⟩).trans HH3.out)
            obtain ⟨sp, hsp⟩ : ∃ sp, Hid (min (nth ts j) dl = sp) := ⟨_, hid rfl⟩
            rw [hsp.out] at Hx
            clear hperm hheap hqs hfst hrest hx hta hL hLA tj
            go_wp2_with fail
            refine (give_first _ B (q + 1) q dl k 1125899906842624 ys _ wr HHr.out HQ.out Hh.out (by have := Hl.out; omega) (by have := Hl.out; omega) Hx.out (by simp; omega)).mono ?_
            rintro e w4 ⟨rfl, ⟨zs, ⟨hperm4, hheap4⟩, hQ4⟩, hK4⟩
            have HE4 : Hid (∃ ys, (ys.Perm (pits dl gs ts (j + 1) m) ∧ IsHeap ys) ∧ QS (fun k' => (k' < B ∧ k' ≠ q) ∨ (Value.slice (some ⟨g, 0, none⟩) k tc).ownBlock = some k') w4 B q k ys) := hid ⟨zs, ⟨hperm4.trans Hrest.out, hheap4⟩, hQ4⟩
            have HK4 : Hid (Keeps (fun k => k < B ∧ k ≠ q) w3 w4) := hid (HK2.out.trans (hK4.weaken fun k hk => .inl hk))
            have Hor4 := hid (own_same Hor2.out fun k hk => hK4.block k (.inr hk))
            have HQl := hid hQ4
            have tj : w4.cell? ⟨g, j, none⟩ = some (.int .i64 A) := by
              rw [Hor4.out.cellAt j (by simp; omega), ← hA.out]
              simp [hjk]
            have A4 := gr_alloc (gr_refl w4 none) (.cells #[.int .i64 1, .int .i64 0, .int .i64 (j : Int), .int .u32 0, .int .i64 sp] 37)
            have tj2 := gr_cell A4 tj
            have G4 := hid A4
            clear hperm4 hheap4 hQ4 hK4 HQ Hh Hx HHr HE2 Hor2 A4 tj
            have HE5 : Hid (∃ ys, (ys.Perm (pits dl gs ts (j + 1) (k - (j + 1))) ∧ IsHeap ys) ∧ QS (fun k' => (k' < B ∧ k' ≠ q) ∨ (Value.slice (some ⟨g, 0, none⟩) k tc).ownBlock = some k') (w4.alloc (.cells #[.int .i64 1, .int .i64 0, .int .i64 (j : Int), .int .u32 0, .int .i64 sp] 37)) B q k ys) := hid (by
              obtain ⟨ys, hys, hQ⟩ := HE4.out
              have e1 : k - (j + 1) = m := by omega
              rw [e1]
              exact ⟨ys, hys, hQ.grown G4.out⟩)
            go_wp2_with fail
            go_roundw
            case rel => exact ⟨j + 1, A + dl, by go_num, by omega, rfl, hid (by rw [hA.out]; exact Int.le_refl _), HE5, hid (Hor4.out.kept G4.out (.inr (by simp [Value.ownBlock]))), hid (HK4.out.trans (Keeps.of_gr G4.out fun k hk => ⟨HQl.out.lt k (.inl hk), by simp⟩))⟩
            case measure => simp [intOf]; omega
          · obtain rfl : j = k := by omega
            have hl0 : ys.length = 0 := by rw [hperm.length_eq, pits_length]; omega
            have HHr : Hid (Hld wr (q + 1) q dl) := hid ((HK2.out.block (q + 1) ⟨by have := HqB.out; omega, by omega⟩).trans HH3.out)
            have HQ := hid hqs
            have Hl0 := hid hl0
            clear hperm hheap hqs hl0
            go_wp2_with fail
            refine (len_at _ B (q + 1) q dl j ys wr HHr.out HQ.out).mono ?_
            rintro e w4 ⟨rfl, rfl⟩
            rw [Hl0.out]
            go_wp2_with fail
            go_ret
            have G9 : w.grownBy w4 none := ⟨HK2.out.os.trans G3.out.os, HK2.out.tape.trans G3.out.tape, HK2.out.output.trans G3.out.output, Nat.le_trans G3.out.size HK2.out.size, fun k hk _ => (HK2.out.block k ⟨by have := Hwq.out; have := HqB.out; omega, by have := Hwq.out; omega⟩).trans (G3.out.block k hk (by simp))⟩
            exact ⟨rfl, gr_below G9 (Nat.le_refl _) (by simp)⟩
end Go.Proofs.Ytkcgpbehicjidaa
