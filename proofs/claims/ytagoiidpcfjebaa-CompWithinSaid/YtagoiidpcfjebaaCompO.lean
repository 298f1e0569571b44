/- tocsinlaw11.CompWithin, walked (written by gen_within.py). -/
import Derived.Test.YtagoiidpcfjebaaCompL
import Derived.Test.YtagoiidpcfjebaaRegs
namespace Go.Proofs.Ytagoiidpcfjebaa
open Go.RowKit Go.Lib

theorem addF_sort (c : Int) (zs : List Int) : sortL (zs.map (c + ·)) = (sortL zs).map (c + ·) :=
  sortL_eq ((sortL_perm zs).map _) (by
    rw [List.pairwise_map]
    exact (sortL_sorted zs).imp (by intro a b h; omega))
theorem nth_addF (c : Int) {zs : List Int} {i : Nat} (h : i < zs.length) : nth (zs.map (c + ·)) i = c + nth zs i := by simp [nth, h]
theorem tolL_addF (c : Int) {zs : List Int} (h : 1 ≤ zs.length) : tolL (zs.map (c + ·)) = c + tolL zs := by
  have hl := (sortL_perm zs).length_eq
  unfold tolL
  rw [List.length_map, addF_sort]
  by_cases h1 : zs.length = 1
  · rw [if_pos h1, if_pos h1, nth_addF c (by omega)]
  · rw [if_neg h1, if_neg h1]
    by_cases h2 : zs.length = 2
    · rw [if_pos h2, if_pos h2, nth_addF c (by omega), nth_addF c (by omega)]; omega
    · rw [if_neg h2, if_neg h2, nth_addF c (by omega), nth_addF c (by omega)]; omega
theorem lst_add (f : Int) (l : List Int) : f :: l.map (f + ·) = (0 :: l).map (f + ·) := by simp
theorem own_cap {w : World} {base e size n cap : Nat} {a : Option Addr} {xs : List Value} (h : w.ownsRow base e size (.slice a n cap) n xs) : n ≤ cap := by
  rcases h.2 with ⟨e, h0⟩ | ⟨g, cap', cur, e, _, _, hn, _⟩
  · omega
  · cases e; exact hn

/-- The reference's sorting of the row without its number k. -/
theorem sorted_own {w : World} {base : Nat} {v : Value} {L : List Int} {m k : Nat} (h : w.ownsRow base 2 1 v (0 + k + (m - (k + 1))) ([] ++ (L.take k).map (Value.int .i64) ++ (L.drop (k + 1)).map (Value.int .i64))) (hL : L.length = m) (hk : k < m) (hm : m ≤ 100) :
    Calls Try.prog 18 #[v] w fun e w' => ∃ v', e = .returned v' ∧ w'.ownsRow w.heap.size 2 1 v' (m - 1) ((sortL (L.take k ++ L.drop (k + 1))).map (Value.int .i64)) ∧ Below w.heap.size w w' := by
  have hlen : (L.take k ++ L.drop (k + 1)).length = m - 1 := by simp; omega
  have h' : w.ownsRow base 2 1 v (L.take k ++ L.drop (k + 1)).length ((L.take k ++ L.drop (k + 1)).map (Value.int .i64)) := by
    rw [hlen, List.map_append]
    have : 0 + k + (m - (k + 1)) = m - 1 := by omega
    rw [this] at h
    simpa using h
  obtain ⟨a, cap, rfl⟩ : ∃ a cap, v = .slice a (L.take k ++ L.drop (k + 1)).length cap := by
    rcases h'.2 with ⟨rfl, h0⟩ | ⟨g, cap, cur, rfl, _⟩
    · rw [h0]; exact ⟨_, _, rfl⟩
    · exact ⟨_, _, rfl⟩
  have := rsorted_any w.heap.size (m - 1) _ hlen (by omega) a cap w (own_cap h') (Nat.le_refl _) (own_ints' h')
  rw [hlen] at this
  rw [hlen]
  exact this

set_option maxRecDepth 100000 in
set_option maxHeartbeats 8000000 in
theorem within_walk (f : Int) (bf : -2147483648 ≤ f ∧ f ≤ 2147483647) (a : Option Addr) (gs : List Int) (cap : Nat) (hreach : gs.length * 1 ≤ 140737488355328) (h8 : InB gs) (hcap : gs.length ≤ cap) {w : World} (hI : Byts w.heap.size w (.slice a gs.length cap) gs) (bd : Int) (bb : 0 ≤ bd ∧ bd ≤ 255) :
    Calls Try.prog 4 #[.int .i32 f, .slice a gs.length cap, .int .u8 bd] w fun e w' => e = .returned (.bool true) ∧ Below w.heap.size w w' := by
  obtain ⟨i0, hi, hz0, hz1, hz2⟩ := info_parts Try.info_i64
  obtain ⟨bf0, bf1⟩ := bf
  obtain ⟨bb0, bb1⟩ := bb
  have H8 := hid h8
  have HI := hid hI
  clear h8 hI
  have hr : ∀ x ∈ 0 :: gs.take 5, 0 ≤ x ∧ x ≤ 255 := by
    intro x hx
    rcases List.mem_cons.1 hx with rfl | hx
    · omega
    · exact H8.out x (List.mem_of_mem_take hx)
  have ht := tolL_bounds hr (by simp)
  obtain ⟨t, hte⟩ : ∃ t, Hid (tolL (0 :: gs.take 5) = t) := ⟨_, hid rfl⟩
  obtain ⟨c, hce⟩ : ∃ c, Hid (2 ^ ((gs.take 5).length + 1) - 1 = c) := ⟨_, hid rfl⟩
  obtain ⟨L, hL⟩ : ∃ L, Hid (f :: (gs.take 5).map (f + ·) = L) := ⟨_, hid rfl⟩
  obtain ⟨m, hm⟩ : ∃ m, Hid ((gs.take 5).length + 1 = m) := ⟨_, hid rfl⟩
  have hLm : Hid (L.length = m) := hid (by rw [← hL.out, ← hm.out]; simp)
  have hm1 : 1 ≤ m := by rw [← hm.out]; omega
  have hm6 : m ≤ 6 := by rw [← hm.out]; simp; omega
  have hLt : Hid (tolL L = f + t) := hid (by rw [← hL.out, lst_add, tolL_addF _ (by simp), hte.out])
  rw [hte.out] at ht
  obtain ⟨t0, t1⟩ := ht
  have hbt := tolL_between (zs := L) (by rw [hLm.out]; exact hm1)
  rw [hLt.out, hLm.out] at hbt
  obtain ⟨p, hp⟩ : ∃ p, Hid (f + t = p) := ⟨_, hid rfl⟩
  obtain ⟨lo, hlo⟩ : ∃ lo, Hid (nth (sortL L) 0 = lo) := ⟨_, hid rfl⟩
  obtain ⟨hi', hhi⟩ : ∃ hi', Hid (nth (sortL L) (m - 1) = hi') := ⟨_, hid rfl⟩
  rw [hp.out, hlo.out, hhi.out] at hbt
  obtain ⟨bt0, bt1⟩ := hbt
  clear hr
  go_enter Try.func4, Try.ntmps4
  go_wp2_with fail
  refine (fixed_true w).mono ?_
  rintro e w1 ⟨rfl, g1⟩
  have HB := hid g1
  have HI1 := hid (HI.out.on g1)
  clear g1
  go_wp2_with fail
  refine (all_any f (by omega) a gs cap hcap hreach H8.out _ HI1.out).mono ?_
  rintro e w2 ⟨v2, rfl, hown, g2⟩
  rw [hte.out, hce.out, hp.out]
  rw [hL.out, hm.out] at hown
  obtain ⟨g, capL, rfl⟩ := own_at hown hm1
  have hcL : m ≤ capL := own_cap hown
  have HB := hid (gr_trans HB.out g2)
  have Hown := hid (hown.alloc (.cells #[.int .i64 p, .int .u32 (c : Int), .int .i64 3] 39))
  have D := hid (heap_alloc_new w2 (.cells #[.int .i64 p, .int .u32 (c : Int), .int .i64 3] 39))
  have HI2 : Hid (Ints (w2.alloc (.cells #[.int .i64 p, .int .u32 (c : Int), .int .i64 3] 39)).heap.size (w2.alloc (.cells #[.int .i64 p, .int .u32 (c : Int), .int .i64 3] 39)) (.slice (some ⟨g, 0, none⟩) L.length capL) L) := hid (by
    have := own_ints' (zs := L) (by rw [hLm.out]; exact Hown.out)
    rw [hLm.out]
    exact this)
  clear g2 HI1 hown
  go_wp2_with fail
  have hgS : Calls Try.prog 18 #[.slice (some ⟨g, 0, none⟩) m capL] (w2.alloc (.cells #[.int .i64 p, .int .u32 (c : Int), .int .i64 3] 39)) fun e w' => ∃ v, e = .returned v ∧ w'.ownsRow (w2.alloc (.cells #[.int .i64 p, .int .u32 (c : Int), .int .i64 3] 39)).heap.size 2 1 v m ((sortL L).map (Value.int .i64)) ∧ Below (w2.alloc (.cells #[.int .i64 p, .int .u32 (c : Int), .int .i64 3] 39)).heap.size (w2.alloc (.cells #[.int .i64 p, .int .u32 (c : Int), .int .i64 3] 39)) w' := by
    have := rsorted_any _ m L hLm.out (by omega) (some ⟨g, 0, none⟩) capL _ (by rw [hLm.out]; exact hcL) (Nat.le_refl _) HI2.out
    rw [hLm.out] at this
    exact this
  refine hgS.mono ?_
  rintro e w3 ⟨v, rfl, hown3, hB3⟩
  obtain ⟨gs3, cs3, rfl, hgs3, hcells⟩ := own_cells hown3 (by rw [(sortL_perm _).length_eq, hLm.out]) hm1
  have c0 := hcells 0 (by omega)
  have c1 := hcells (m - 1) (by omega)
  rw [hlo.out] at c0
  rw [hhi.out] at c1
  have D3 := (hB3.cell (p := ⟨w2.heap.size, 0, none⟩) (by simp)).trans (cell_of D.out 0 _ rfl)
  have D3' := hid D3
  have HI3 := hid ((HI2.out.below hB3).mono hB3.size)
  have HB3 := hid (gr_trans (gr_alloc HB.out (.cells #[.int .i64 p, .int .u32 (c : Int), .int .i64 3] 39)) (below_gr hB3))
  clear hgS hown3 hcells hB3 HI2 D Hown hgs3
  go_wp2_with fail
  have hd0 : decide (p < lo) = false := by simp; omega
  have hd1 : decide (hi' < p) = false := by simp; omega
  have x1 : IntKind.i64.wrap ((m : Int) - 1) = (m : Int) - 1 := by rw [IntKind.wrap_i64]; omega
  have x2 : 0 ≤ (m : Int) - 1 := by omega
  have x3 : ((m : Int) - 1).toNat = m - 1 := by omega
  have x4 : (m : Int) - 1 < (m : Int) := by omega
  have x5 : (0 : Int) < (m : Int) := by omega
  go_quiet (fail)
  clear hd0 hd1 x1 x2 x3 x4 x5 c0 c1 D3
  obtain ⟨w5, hw5⟩ : ∃ w5, w3.drewN nq = w5 := ⟨_, rfl⟩
  have G5 : w3.grownBy w5 none := hw5 ▸ gr_drewN (gr_refl w3 none) nq
  rw [hw5]
  clear hw5
  have HB5 := hid (gr_trans HB3.out G5)
  have hI5 : Ints w5.heap.size w5 (.slice (some ⟨g, 0, none⟩) L.length capL) L := (HI3.out.below (gr_below G5 (Nat.le_refl _) (by simp))).mono G5.size
  have D5 : Hid (w5.cell? ⟨w2.heap.size, 0, none⟩ = some (.int .i64 p)) := hid (gr_cell G5 D3'.out)
  clear G5 D3' HI3 HB3 HB
  by_cases h3 : m < 3
  · go_wp2_with fail
    go_ret
    exact ⟨rfl, gr_below HB5.out (Nat.le_refl _) (by simp)⟩
  obtain ⟨k, hk, hkm⟩ : ∃ k : Nat, Hid (bd % (m : Int) = (k : Int)) ∧ k < m := by
    have h1 := Int.emod_nonneg bd (show (m : Int) ≠ 0 by omega)
    have h2 := Int.emod_lt_of_pos bd (show 0 < (m : Int) by omega)
    exact ⟨(bd % (m : Int)).toNat, hid (by omega), by omega⟩
  have hm0 : ((m : Int) == 0) = false := by simp; omega
  have Hbad := hid (tolL_bad (l := L) (bad := nth L k) (good := L.take k ++ L.drop (k + 1)) (by
    have h1 := List.perm_middle (a := nth L k) (l₁ := L.take k) (l₂ := L.drop (k + 1))
    rwa [show L.take k ++ nth L k :: L.drop (k + 1) = L from by rw [← drop_nth L k (by rw [hLm.out]; exact hkm)]; exact List.take_append_drop k L] at h1) (by have := hLm.out; simp; omega))
  go_wp2_with fail
  rw [hk.out]
  have e2 : (k : Int) ≤ (m : Int) := by omega
  have e3 : (k : Int) ≤ (capL : Int) := by omega
  have e4 : (k : Int) + 1 ≤ (m : Int) := by omega
  have e5 : ¬ capL = k := by omega
  have e8 : IntKind.i64.wrap ((k : Int) + 1) = (k : Int) + 1 := by rw [IntKind.wrap_i64]; omega
  have e9 : 0 ≤ (k : Int) + 1 := by omega
  have ea : ((k : Int) + 1).toNat = k + 1 := by omega
  have eb : (k : Int) + 1 ≤ (capL : Int) := by omega
  have e6 : ¬ capL = 0 := by omega
  have Hown0 : Hid ((w5.drew.alloc (.cells #[] 2)).ownsRow w5.heap.size 2 1 (.slice (some ⟨w5.heap.size, 0, none⟩) 0 0) 0 []) := hid (World.ownsRow_made w5.drew #[] 0 (Nat.le_refl _) (by simp) rfl)
  have hI6 : Ints w5.heap.size (w5.drew.alloc (.cells #[] 2)) (.slice (some ⟨g, 0, none⟩) L.length capL) L := hI5.below (gr_below (gr_alloc (gr_drew (gr_refl w5 none)) _) (Nat.le_refl _) (by simp))
  have Hg5 : Hid (g < w5.heap.size) := hid (by
    rcases hI5 with ⟨_, _, e, h0⟩ | ⟨b', o', c', e, hb', _⟩
    · exfalso; have := hLm.out; rw [h0] at this; simp at this; omega
    · cases e; exact hb')
  clear hI5 hk
  by_cases e1 : capL = k + 1
  · have hmk : m = k + 1 := by omega
    have HE : Hid (L.drop (k + 1) = []) := hid (List.drop_eq_nil_of_le (by have := hLm.out; omega))
    subst hmk
    subst e1
    have e7 : (k : Int) ≤ (k : Int) + 1 := by omega
    have HN := hid (ints_from hI6 (k + 1))
    have HU := hid (ints_upto hI6 k)
    have Hl1 : Hid (((L.take k).map (Value.int .i64)).length = k * 1) := hid (by have := hLm.out; simp; omega)
    have Hl2 : Hid (((L.drop (k + 1)).map (Value.int .i64)).length = (k + 1 - (k + 1)) * 1) := hid (by have := hLm.out; simp; omega)
    clear hI6
    go_region_law (first
      | (refine step_append_own rfl (.tmp 54) (.tmp 57) 49 rfl w5.heap.size 2 i0 (.int .i64 0) 1 8 Try.underlying49 hi hz0 hz1 hz2 rfl (by decide) (.slice (some ⟨w5.heap.size, 0, none⟩) 0 0) 0 [] (by simp [Act.eval]) Hown0.out ⟨g, 0, none⟩ k (k + 1) ((L.take k).map (Value.int .i64)) (by simp [Act.eval]) Hl1.out HU.out (one_ints _) (by unfold maxLen; omega) (by omega) (by simp <;> omega) ?_; intro v6 w6 hown6 hg6; have Hown6 := hid hown6; have HB6 : Hid (w5.grownBy w6 none) := hid (gr_own (gr_alloc (gr_drew (gr_refl w5 none)) _) hg6 (Nat.le_refl _)); have HN6 : Hid (∀ (j : Nat) (u : Value), ((L.drop (k + 1)).map (Value.int .i64))[j]? = some u → w6.cell? ((⟨g, 0, none⟩ : Addr).add j) = some u) := hid (fun j u hj => hg6.cell (by rw [HE.out] at hj; simp at hj) (by rw [add_lit_ints]; simp [Value.ownBlock]; have := Hg5.out; omega)); clear hown6 hg6)
      | (refine step_append_own rfl (.tmp 58) (.tmp 62) 49 rfl w5.heap.size 2 i0 (.int .i64 0) 1 8 Try.underlying49 hi hz0 hz1 hz2 rfl (by decide) v6 (0 + k) ([] ++ (L.take k).map (Value.int .i64)) (by simp [Act.eval]) Hown6.out ⟨g, 0, none⟩ (k + 1 - (k + 1)) (k + 1 - (k + 1)) ((L.drop (k + 1)).map (Value.int .i64)) (by simp [Act.eval]) Hl2.out HN6.out (one_ints _) (by unfold maxLen; omega) (by omega) HB6.out.size ?_; intro v7 w7 hown7 hg7; have Hown7 := hid hown7; have HB7 : Hid (w5.grownBy w7 none) := hid ⟨hg7.os.trans HB6.out.os, hg7.tape.trans HB6.out.tape, hg7.output.trans HB6.out.output, Nat.le_trans HB6.out.size hg7.size, fun j hj _ => (hg7.block j (Nat.lt_of_lt_of_le hj HB6.out.size) (fun e => by have := (Hown6.out.lt j e.symm).1; omega)).trans (HB6.out.block j hj (by simp))⟩; clear hown7 hg7)
      | (refine step_call rfl (f := 18) (xs := #[v7]) (by go_simp) (Calls.mono (sorted_own Hown7.out hLm.out hkm (by have := hm6; omega)) ?_); rintro e w8 ⟨v8, rfl, hown8, hB8⟩; refine ⟨v8, rfl, ?_⟩; have Hown8 := hid hown8; have HB8 : Hid (w5.grownBy w8 none) := hid (gr_trans HB7.out (below_gr hB8)); clear hown8 hB8))
    all_goals
      have hgl : (L.take k ++ L.drop (k + 1)).length = (k + 1) - 1 := by have := hLm.out; simp; omega
      have hb := Hbad.out
      rw [hgl, hLt.out, hp.out] at hb
      obtain ⟨q, hq⟩ : ∃ q, Hid ((k + 1) - 1 = q) := ⟨_, hid rfl⟩
      have hq1 : 1 ≤ q ∧ q ≤ 5 := by have := hq.out; omega
      obtain ⟨q1, q5⟩ := hq1
      rw [hq.out] at hb hgl
      have hown8 := Hown8.out
      rw [hq.out] at hown8
      obtain ⟨g8, c8, rfl, hg8, hc8⟩ := own_cells hown8 (by rw [(sortL_perm _).length_eq, hgl]) q1
      obtain ⟨lo2, hlo2⟩ : ∃ lo2, Hid (nth (sortL (L.take k ++ L.drop (k + 1))) 0 = lo2) := ⟨_, hid rfl⟩
      obtain ⟨hi2, hhi2⟩ : ∃ hi2, Hid (nth (sortL (L.take k ++ L.drop (k + 1))) (q - 1) = hi2) := ⟨_, hid rfl⟩
      have c0 := hc8 0 (by omega)
      have c1 := hc8 (q - 1) (by omega)
      rw [hlo2.out] at c0
      rw [hhi2.out] at c1
      rw [hlo2.out, hhi2.out] at hb
      obtain ⟨hb0, hb1⟩ := hb
      have y0 := gr_cell HB8.out D5.out
      have HB9 : Hid (w.grownBy w8 none) := hid (gr_trans HB5.out HB8.out)
      clear hown8 Hown8 hc8 hg8 Hown7 HB7 HN6 HB6 Hown6 Hl1 Hl2 HU HN Hown0 Hg5 e2 e3 e4 e5 e6 e8 e9 ea eb hm0 hgl
      have hd0 : decide (lo2 ≤ p) = true := by simpa using hb0
      have hd1 : decide (p ≤ hi2) = true := by simpa using hb1
      have x1 : IntKind.i64.wrap ((q : Int) - 1) = (q : Int) - 1 := by rw [IntKind.wrap_i64]; omega
      have x2 : 0 ≤ (q : Int) - 1 := by omega
      have x3 : ((q : Int) - 1).toNat = q - 1 := by omega
      have x4 : (q : Int) - 1 < (q : Int) := by omega
      have x5 : (0 : Int) < (q : Int) := by omega
      have x6 : 0 < q := by omega
      have x7 : ¬ q = 0 := by omega
      have x8 : q ≠ 0 := by omega
      have x9 : (1 : Int) ≤ (q : Int) := by omega
      have xa : (q : Int) - 1 ≤ (q : Int) := by omega
      have xb : q - 1 < q := by omega
      go_wp2_with fail
      go_quiet (fail)
      go_wp2_with fail
      go_ret
      exact ⟨rfl, gr_below (gr_drewN HB9.out _) (Nat.le_refl _) (by simp)⟩

  · skip

    have HN := hid (ints_from hI6 (k + 1))
    have HU := hid (ints_upto hI6 k)
    have Hl1 : Hid (((L.take k).map (Value.int .i64)).length = k * 1) := hid (by have := hLm.out; simp; omega)
    have Hl2 : Hid (((L.drop (k + 1)).map (Value.int .i64)).length = (m - (k + 1)) * 1) := hid (by have := hLm.out; simp; omega)
    clear hI6
    go_region_law (first
      | (refine step_append_own rfl (.tmp 54) (.tmp 57) 49 rfl w5.heap.size 2 i0 (.int .i64 0) 1 8 Try.underlying49 hi hz0 hz1 hz2 rfl (by decide) (.slice (some ⟨w5.heap.size, 0, none⟩) 0 0) 0 [] (by simp [Act.eval]) Hown0.out ⟨g, 0, none⟩ k capL ((L.take k).map (Value.int .i64)) (by simp [Act.eval]) Hl1.out HU.out (one_ints _) (by unfold maxLen; omega) (by omega) (by simp <;> omega) ?_; intro v6 w6 hown6 hg6; have Hown6 := hid hown6; have HB6 : Hid (w5.grownBy w6 none) := hid (gr_own (gr_alloc (gr_drew (gr_refl w5 none)) _) hg6 (Nat.le_refl _)); have HN6 : Hid (∀ (j : Nat) (u : Value), ((L.drop (k + 1)).map (Value.int .i64))[j]? = some u → w6.cell? ((⟨g, 0 + (k + 1), none⟩ : Addr).add j) = some u) := hid (fun j u hj => hg6.cell (HN.out j u hj) (by rw [add_lit_ints]; simp [Value.ownBlock]; have := Hg5.out; omega)); clear hown6 hg6)
      | (refine step_append_own rfl (.tmp 58) (.tmp 62) 49 rfl w5.heap.size 2 i0 (.int .i64 0) 1 8 Try.underlying49 hi hz0 hz1 hz2 rfl (by decide) v6 (0 + k) ([] ++ (L.take k).map (Value.int .i64)) (by simp [Act.eval]) Hown6.out ⟨g, 0 + (k + 1), none⟩ (m - (k + 1)) (capL - (k + 1)) ((L.drop (k + 1)).map (Value.int .i64)) (by simp [Act.eval]) Hl2.out HN6.out (one_ints _) (by unfold maxLen; omega) (by omega) HB6.out.size ?_; intro v7 w7 hown7 hg7; have Hown7 := hid hown7; have HB7 : Hid (w5.grownBy w7 none) := hid ⟨hg7.os.trans HB6.out.os, hg7.tape.trans HB6.out.tape, hg7.output.trans HB6.out.output, Nat.le_trans HB6.out.size hg7.size, fun j hj _ => (hg7.block j (Nat.lt_of_lt_of_le hj HB6.out.size) (fun e => by have := (Hown6.out.lt j e.symm).1; omega)).trans (HB6.out.block j hj (by simp))⟩; clear hown7 hg7)
      | (refine step_call rfl (f := 18) (xs := #[v7]) (by go_simp) (Calls.mono (sorted_own Hown7.out hLm.out hkm (by have := hm6; omega)) ?_); rintro e w8 ⟨v8, rfl, hown8, hB8⟩; refine ⟨v8, rfl, ?_⟩; have Hown8 := hid hown8; have HB8 : Hid (w5.grownBy w8 none) := hid (gr_trans HB7.out (below_gr hB8)); clear hown8 hB8))
    all_goals
      have hgl : (L.take k ++ L.drop (k + 1)).length = m - 1 := by have := hLm.out; simp; omega
      have hb := Hbad.out
      rw [hgl, hLt.out, hp.out] at hb
      obtain ⟨q, hq⟩ : ∃ q, Hid (m - 1 = q) := ⟨_, hid rfl⟩
      have hq1 : 1 ≤ q ∧ q ≤ 5 := by have := hq.out; omega
      obtain ⟨q1, q5⟩ := hq1
      rw [hq.out] at hb hgl
      have hown8 := Hown8.out
      rw [hq.out] at hown8
      obtain ⟨g8, c8, rfl, hg8, hc8⟩ := own_cells hown8 (by rw [(sortL_perm _).length_eq, hgl]) q1
      obtain ⟨lo2, hlo2⟩ : ∃ lo2, Hid (nth (sortL (L.take k ++ L.drop (k + 1))) 0 = lo2) := ⟨_, hid rfl⟩
      obtain ⟨hi2, hhi2⟩ : ∃ hi2, Hid (nth (sortL (L.take k ++ L.drop (k + 1))) (q - 1) = hi2) := ⟨_, hid rfl⟩
      have c0 := hc8 0 (by omega)
      have c1 := hc8 (q - 1) (by omega)
      rw [hlo2.out] at c0
      rw [hhi2.out] at c1
      rw [hlo2.out, hhi2.out] at hb
      obtain ⟨hb0, hb1⟩ := hb
      have y0 := gr_cell HB8.out D5.out
      have HB9 : Hid (w.grownBy w8 none) := hid (gr_trans HB5.out HB8.out)
      clear hown8 Hown8 hc8 hg8 Hown7 HB7 HN6 HB6 Hown6 Hl1 Hl2 HU HN Hown0 Hg5 e2 e3 e4 e5 e6 e8 e9 ea eb hm0 hgl
      have hd0 : decide (lo2 ≤ p) = true := by simpa using hb0
      have hd1 : decide (p ≤ hi2) = true := by simpa using hb1
      have x1 : IntKind.i64.wrap ((q : Int) - 1) = (q : Int) - 1 := by rw [IntKind.wrap_i64]; omega
      have x2 : 0 ≤ (q : Int) - 1 := by omega
      have x3 : ((q : Int) - 1).toNat = q - 1 := by omega
      have x4 : (q : Int) - 1 < (q : Int) := by omega
      have x5 : (0 : Int) < (q : Int) := by omega
      have x6 : 0 < q := by omega
      have x7 : ¬ q = 0 := by omega
      have x8 : q ≠ 0 := by omega
      have x9 : (1 : Int) ≤ (q : Int) := by omega
      have xa : (q : Int) - 1 ≤ (q : Int) := by omega
      have xb : q - 1 < q := by omega
      go_wp2_with fail
      go_quiet (fail)
      go_wp2_with fail
      go_ret
      exact ⟨rfl, gr_below (gr_drewN HB9.out _) (Nat.le_refl _) (by simp)⟩

end Go.Proofs.Ytagoiidpcfjebaa
