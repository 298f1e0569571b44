/- Lemmas: tocsinref02: the quotient, bit by bit: the loops. -/
import Derived.Test.YtckoaeoecjphiaaGreatK29
import Derived.Deep.CutRange

/- tocsinref02: the quotient, bit by bit: the loops. -/
namespace Go.Proofs.YtckoaeoecjphiaaGreat
open Go.RowKit Go.Lib

/-- What is read of digits ds when digit i has kk bits left. -/
def readB (ds : List Int) (i kk : Nat) : Int := bval (ds.drop (i + 1)) * ((2 ^ (16 - kk) : Nat) : Int) + nth ds i / ((2 ^ kk : Nat) : Int)
def bitB (x : Int) (k : Nat) : Int := x / ((2 ^ k : Nat) : Int) % 2
theorem readB_start {ds : List Int} (hd : Dg ds) (i : Nat) : readB ds i 16 = bval (ds.drop (i + 1)) := by
  have h := nth_dg hd i
  unfold readB
  have e : nth ds i / ((2 ^ 16 : Nat) : Int) = 0 := by
    have : ((2 ^ 16 : Nat) : Int) = 65536 := rfl
    rw [this]; omega
  rw [e]
  simp
theorem readB_end {ds : List Int} {i : Nat} (hi : i < ds.length) : readB ds i 0 = bval (ds.drop i) := by
  rw [bval_drop_cons hi]
  unfold readB
  have h1 : ((2 ^ (16 - 0) : Nat) : Int) = 65536 := rfl
  have h2 : ((2 ^ 0 : Nat) : Int) = 1 := rfl
  rw [h1, h2]
  omega
theorem readB_step (ds : List Int) (i k : Nat) (hk : k < 16) : readB ds i k = 2 * readB ds i (k + 1) + bitB (nth ds i) k := by
  unfold readB bitB
  have h1 : ((2 ^ (16 - k) : Nat) : Int) = 2 * ((2 ^ (16 - (k + 1)) : Nat) : Int) := by
    have e : 16 - k = (16 - (k + 1)) + 1 := by omega
    rw [e, Nat.pow_succ]
    omega
  have h2 : ((2 ^ (k + 1) : Nat) : Int) = ((2 ^ k : Nat) : Int) * 2 := by rw [Nat.pow_succ]; omega
  rw [h1, h2, ← Int.ediv_ediv_of_nonneg (Int.natCast_nonneg _), Int.mul_left_comm]
  generalize nth ds i / ((2 ^ k : Nat) : Int) = y
  generalize bval (ds.drop (i + 1)) * ((2 ^ (16 - (k + 1)) : Nat) : Int) = z
  omega
theorem bit_form (x : Int) (k : Nat) (hx : 0 ≤ x) : (x / 2 ^ k).tmod 2 = bitB x k := by
  unfold bitB
  have e : ((2 ^ k : Nat) : Int) = (2 : Int) ^ k := by simp
  rw [e, Int.tmod_eq_emod_of_nonneg]
  exact Int.ediv_nonneg hx (by rw [← e]; exact Int.natCast_nonneg _)
theorem div_more {D R C Q b : Int} (h : D = R + C * Q) : 2 * D + b = (2 * R + b) + C * (2 * Q) := by
  rw [h, Int.mul_left_comm C 2 Q]; omega
theorem div_less {X C Q : Int} : X + C * (2 * Q) = (X - C) + C * (2 * Q + 1) := by
  rw [Int.mul_add]; omega
theorem dig_one {w : World} : Dig (w.alloc (.cells #[.int .u32 1] 28)) (.slice (some ⟨w.heap.size, 0, none⟩) 1 1) [1] := by
  refine .inr ⟨w.heap.size, 0, 1, rfl, by simp, by simp, fun j hj => ?_⟩
  simp at hj
  subst hj
  simp [World.cell?_alloc_new, nth]
theorem dg_one : Dg [1] := by intro d h; simp at h; omega

theorem duo_set1 {w : World} {b : Nat} {x y : Value} {T : TypeId} (h : w.heap[b]? = some (.cells #[x, y] T (0, 0))) (y' : Value) : (w.setCell ⟨b, 1, none⟩ y').heap[b]? = some (.cells #[x, y'] T (0, 0)) := by
  simp only [World.setCell, Array.getElem?_modify, if_true, h, Option.map_some]
  rfl
theorem IsN.more {w : World} {x : Value} {n : Int} {L M : Nat} (h : IsN w x n L) (hm : L ≤ M) : IsN w x n M := by
  obtain ⟨neg, ds, h1, h2, h3⟩ := h
  exact ⟨neg, ds, h1, h2, by omega⟩
theorem sgn_plain {neg : Bool} {ds : List Int} (h : ds ≠ [] → neg = false) : sgn neg (bval ds) = bval ds := by
  by_cases h0 : ds = []
  · subst h0
    show sgn neg 0 = 0
    exact sgn_zero neg
  · rw [h h0]; rfl
theorem floor_pos {D R C Q n : Int} (h : D = R + C * Q) (hR : 0 ≤ R ∧ R < C) (hn : sgn false D = n) : Q = n / C := by
  have e : sgn false D = D := rfl
  rw [← hn, e, h, Int.add_mul_ediv_left _ _ (by omega), Int.ediv_eq_zero_of_lt hR.1 hR.2]
  omega
theorem floor_neg0 {D R C Q n : Int} (h : D = R + C * Q) (hR : R = 0) (hC : 0 < C) (hn : sgn true D = n) : -Q = n / C := by
  have e : sgn true D = -D := rfl
  have e2 : -D = C * (-Q) := by rw [h, hR, Int.mul_neg]; omega
  rw [← hn, e, e2, Int.mul_ediv_cancel_left _ (by omega)]
theorem floor_neg1 {D R C Q n : Int} (h : D = R + C * Q) (hR : 0 < R ∧ R < C) (hn : sgn true D = n) : -(Q + 1) = n / C := by
  have e : sgn true D = -D := rfl
  have e2 : -D = (C - R) + C * (-(Q + 1)) := by rw [h, Int.mul_neg, Int.mul_add]; omega
  rw [← hn, e, e2, Int.add_mul_ediv_left _ _ (by omega), Int.ediv_eq_zero_of_lt (by omega) (by omega)]
  omega
theorem field_run (a : Option Addr) (n c : Nat) (b : Bool) (w : World) : (Instr.field 128 (.agg #[.slice a n c, .bool b]) 0).run Tryz.prog w = .ok (.slice a n c) w := by kernel_rfl

set_option maxRecDepth 100000 in
set_option maxHeartbeats 2000000 in
theorem floor_any {w : World} {a1 a2 : Option Addr} {cp1 cp2 : Nat} {n1 n2 : Bool} {ds cs : List Int} (h1 : Dig w (.slice a1 ds.length cp1) ds) (h2 : Dig w (.slice a2 cs.length cp2) cs) (d1 : Dg ds) (d2 : Dg cs) (t2 : Trm cs) (l1 : ds.length ≤ 20) (hC : 0 < bval cs) (n : Int) (hn : sgn n1 (bval ds) = n) :
    Calls Tryz.prog 60 #[.agg #[.slice a1 ds.length cp1, .bool n1], .agg #[.slice a2 cs.length cp2, .bool n2]] w fun e w' => ∃ z, e = .returned z ∧ IsN w' z (n / bval cs) 900 ∧ w.grownBy w' none := by
  obtain ⟨bx, hbx⟩ : ∃ bx, Hid (w.heap.size = bx) := ⟨_, hid rfl⟩
  obtain ⟨A, hAw⟩ : ∃ A, Hid (((w.alloc (.cells #[.slice a1 ds.length cp1, .bool n1] 128)).alloc (.cells #[.slice a2 cs.length cp2, .bool n2] 128)).alloc (.cells #[.slice none 0 0, .bool false] 128) = A) := ⟨_, hid rfl⟩
  have GA : Hid (w.grownBy A none) := hid (by rw [← hAw.out]; exact gr_alloc (gr_alloc (gr_alloc (gr_refl w none) _) _) _)
  have F0 : Hid (A.heap[bx]? = some (.cells #[.slice a1 ds.length cp1, .bool n1] 128 (0, 0))) := hid (by
    rw [← hAw.out, ← hbx.out]
    exact gr_heap (gr_alloc (gr_alloc (gr_refl _ none) _) _) (heap_alloc_new w _) (by simp))
  have F1 : Hid (A.heap[bx + 1]? = some (.cells #[.slice a2 cs.length cp2, .bool n2] 128 (0, 0))) := hid (by
    rw [← hAw.out, ← hbx.out]
    exact gr_heap (gr_alloc (gr_refl _ none) _) (box2 w _ _) (by simp))
  have F2 : Hid (A.heap[bx + 2]? = some (.cells #[.slice none 0 0, .bool false] 128 (0, 0))) := hid (by
    rw [← hAw.out, ← hbx.out]
    exact box3 w _ _ _)
  have H1 := hid (h1.grown GA.out)
  have H2 := hid (h2.grown GA.out)
  have D1 := hid d1
  have D2 := hid d2
  have T2 := hid t2
  have HN := hid hn
  have HCp := hid hC
  clear h1 h2 d1 d2 t2 hn hC
  obtain ⟨C, hC⟩ : ∃ C, Hid (bval cs = C) := ⟨_, hid rfl⟩
  rw [hC.out] at HCp
  rw [hC.out]
  obtain ⟨m, hm⟩ : ∃ m, Hid (ds.length = m) := ⟨_, hid rfl⟩
  rw [hm.out] at l1 F0 hAw H1
  rw [hm.out]
  obtain ⟨mc, hmc⟩ : ∃ mc, Hid (cs.length = mc) := ⟨_, hid rfl⟩
  rw [hmc.out] at F1 hAw H2
  rw [hmc.out]
  go_enter Tryz.func60, Tryz.ntmps60
  go_wp2_with fail
  rw [hAw.out, hbx.out]
  clear hAw
  go_loopw [5, 6, 7] (fun vq vr vi wr => ∃ (j : Int) (i : Nat) (qs rs : List Int), vi = .int .i64 j ∧ j = (i : Int) - 1 ∧ i ≤ m ∧ Hid (Dig wr vq qs) ∧ Hid (Dg qs) ∧ Hid (Dig wr vr rs) ∧ Hid (Dg rs) ∧ Hid (qs.length ≤ 32 * (m - i) ∧ rs.length ≤ 32 * (m - i)) ∧ Hid (bval (ds.drop i) = bval rs + C * bval qs) ∧ Hid (bval rs < C) ∧ Hid (A.grownBy wr none)) (fun _ _ vi _ => (intOf vi + 1).toNat)
  case atStart => exact ⟨(m : Int) - 1, m, [], [], by go_num, rfl, Nat.le_refl _, hid (Dig.zero _ _ _), hid dg_nil, hid (Dig.zero _ _ _), hid dg_nil, hid (by simp), hid (by rw [List.drop_of_length_le (by rw [hm.out]; exact Nat.le_refl _)]; simp [bval]), hid (by simpa [bval] using HCp.out), hid (gr_refl A none)⟩
  case round =>
    obtain ⟨j, i, qs, rs, rfl, hj, him, HQ, DQ, HR, DR, HL, HD, HRC, HG⟩ := hrel
    cases i with
    | zero =>
      obtain rfl : j = -1 := by omega
      clear hj him
      obtain ⟨aq, cq, rfl⟩ := HQ.out.slice
      obtain ⟨ar, cr, rfl⟩ := HR.out.slice
      obtain ⟨Q, hQ⟩ : ∃ Q, Hid (bval qs = Q) := ⟨_, hid rfl⟩
      obtain ⟨R, hR⟩ : ∃ R, Hid (bval rs = R) := ⟨_, hid rfl⟩
      have hN : Hid (bval ds = R + C * Q) := hid (by have := HD.out; rw [hQ.out, hR.out] at this; simpa using this)
      have hR0 : Hid (0 ≤ R ∧ R < C) := hid (by have h1 := bval_nonneg DR.out; have h2 := HRC.out; rw [hR.out] at h1 h2; exact ⟨h1, h2⟩)
      have hlq : qs.length ≤ 640 := by have := HL.out; omega
      have hlr : rs.length ≤ 640 := by have := HL.out; omega
      clear HL HD HRC
      go_wp2_with fail
      refine (trim_any false HQ.out DQ.out (by omega)).mono ?_
      rintro e w3 ⟨x3, q3, ng3, rfl, h3, e3, l3, n3, g3⟩
      obtain ⟨v3, rfl, h3'⟩ := h3.ex
      obtain ⟨a3, cp3, rfl⟩ := h3'.slice
      obtain ⟨Z, hZ⟩ : ∃ Z, Hid (w3.heap.size = Z) := ⟨_, hid rfl⟩
      obtain ⟨w4, hw4⟩ : ∃ w4, Hid (w3.alloc (.cells #[.slice a3 q3.length cp3, .bool ng3] 128) = w4) := ⟨_, hid rfl⟩
      have g4 : w3.grownBy w4 none := by rw [← hw4.out]; exact gr_alloc (gr_refl w3 none) _
      have FZ := hid (show w4.heap[Z]? = some (.cells #[.slice a3 q3.length cp3, .bool ng3] 128 (0, 0)) by rw [← hw4.out, ← hZ.out]; exact heap_alloc_new w3 _)
      have G4 := hid (gr_trans HG.out (gr_trans g3 g4))
      have HW4 := hid (h3.grown g4)
      have HR4 := hid (HR.out.grown (gr_trans g3 g4))
      have V4 := hid (show sgn ng3 (bval q3) = Q by rw [sgn_plain n3, e3]; exact hQ.out)
      have L4 := hid (show q3.length ≤ 640 by omega)
      have F04 := hid (gr_heap G4.out F0.out (by simp))
      have F24 := hid (gr_heap G4.out F2.out (by simp))
      have hZb : Hid (bx + 2 < Z) := hid (by have := lt_of_block (gr_heap (gr_trans HG.out g3) F2.out (by simp)); have := hZ.out; omega)
      clear h3 h3' e3 l3 n3 g3 g4
      have q0 := big_cell F04.out 1 _ rfl
      go_upto_region 16 with fail
      rw [hw4.out, hZ.out]
      cases n1 with
      | false =>
        have e0 := big_cell F24.out 0 _ rfl
        have e1 := big_cell F24.out 1 _ rfl
        have e0f := big_froz F24.out 0
        have e1f := big_froz F24.out 1
        have z0 := big_cell FZ.out 0 _ rfl
        have z1 := big_cell FZ.out 1 _ rfl
        go_wp2_with fail
        refine bodyPost_ret (v := .agg #[.slice a3 q3.length cp3, .bool ng3]) ?_ rfl ⟨_, rfl, ⟨ng3, q3, wide_store HW4.out F24.out _ _ _ _, by rw [V4.out]; exact floor_pos hN.out hR0.out HN.out, by have := L4.out; omega⟩, ?_⟩
        · simp [results, Tryz.results60, go_sem, e0, e1]
        · exact gr_setNew (gr_setNew (gr_trans GA.out G4.out) (by have := hbx.out; omega) 0 _) (by have := hbx.out; omega) 1 _
      | true =>
        go_wp2_with fail
        refine (trim_any false HR4.out DR.out (by omega)).mono ?_
        rintro e w5 ⟨x5, r5, ng5, rfl, h5, e5, -, -, g5⟩
        obtain ⟨v5, rfl, h5'⟩ := h5.ex
        obtain ⟨a5, cp5, rfl⟩ := h5'.slice
        have G5 := hid (gr_trans G4.out g5)
        have FZ5 := hid (gr_heap g5 FZ.out (by simp))
        have F25 := hid (gr_heap g5 F24.out (by simp))
        have HW5 := hid (HW4.out.grown g5)
        have hz : Hid (R = 0 ↔ r5 = []) := hid (by rw [← hR.out, ← e5]; exact trm_zero h5.dg h5.trm)
        have hf5 := fun k : Nat => field_run a5 k cp5 ng5
        have e0 := big_cell F25.out 0 _ rfl
        have e1 := big_cell F25.out 1 _ rfl
        have e0f := big_froz F25.out 0
        have e1f := big_froz F25.out 1
        have z0 := big_cell FZ5.out 0 _ rfl
        have z1 := big_cell FZ5.out 1 _ rfl
        have z0f := big_froz FZ5.out 0
        have z1f := big_froz FZ5.out 1
        clear h5 h5' e5 g5 q0
        by_cases h0 : r5.length = 0
        · have hR1 : R = 0 := hz.out.2 (List.length_eq_zero_iff.1 h0)
          go_wp2_with fail
          refine (turn_any HW5.out (by have := L4.out; omega)).mono ?_
          rintro e w9 ⟨x9, ng9, r9, rfl, h9, e9, l9, g9⟩
          obtain ⟨v9, rfl, h9'⟩ := h9.ex
          obtain ⟨a9, cp9, rfl⟩ := h9'.slice
          have FZ9 := hid (gr_heap g9 FZ5.out (by simp))
          have F29 := hid (gr_heap g9 F25.out (by simp))
          have H9 := hid h9
          have E9 := hid e9
          have L9 := hid l9
          have G9 := hid (gr_trans (gr_trans GA.out G5.out) g9)
          clear h9 h9' e9 l9 g9 z0 z1 z0f z1f e0 e1 e0f e1f
          have e0 := big_cell F29.out 0 _ rfl
          have e1 := big_cell F29.out 1 _ rfl
          have e0f := big_froz F29.out 0
          have e1f := big_froz F29.out 1
          have z0 := big_cell FZ9.out 0 _ rfl
          have z1 := big_cell FZ9.out 1 _ rfl
          have z0f := big_froz FZ9.out 0
          have z1f := big_froz FZ9.out 1
          have b2 := hZb.out
          go_wp2_with fail
          refine bodyPost_ret (v := .agg #[.slice a9 r9.length cp9, .bool ng9]) ?_ rfl ⟨_, rfl, ⟨ng9, r9, wide_store (wide_store H9.out FZ9.out _ _ _ _) (duo_other (duo_other F29.out (by omega) 0 _) (by omega) 1 _) _ _ _ _, by rw [E9.out, V4.out]; exact floor_neg0 hN.out hR1 HCp.out HN.out, by have := L9.out; have := L4.out; omega⟩, ?_⟩
          · simp [results, Tryz.results60, go_sem, e0, e1]
          · exact gr_setNew (gr_setNew (gr_setNew (gr_setNew G9.out (by have := hbx.out; omega) 0 _) (by have := hbx.out; omega) 1 _) (by have := hbx.out; omega) 0 _) (by have := hbx.out; omega) 1 _
        · have hR1 : 0 < R := by have := hR0.out; have h9 : R ≠ 0 := fun h => h0 (by rw [hz.out.1 h]; rfl); omega
          have hN5 : Hid (∀ w' : World, w5.grownBy w' none → IsN w' (.agg #[.slice a3 q3.length cp3, .bool ng3]) Q 700) := hid (fun w' g => ⟨ng3, q3, HW5.out.grown g, V4.out, by have := L4.out; omega⟩)
          go_wp2_with fail
          go_region_with (first
            | (go_at_call 62; refine (of_any (n := 1) ⟨by omega, by omega⟩).mono ?_; rintro e w6 ⟨x6, rfl, h6, g6⟩; have G6 := hid (gr_trans (gr_drew (gr_refl w5 none)) g6); have H6 := hid h6; have z0' := gr_cell G6.out z0; have z1' := gr_cell G6.out z1; clear h6 g6)
            | (go_at_call 105; refine (add_any (M := 700) (hN5.out _ G6.out) (H6.out.more (by omega)) (by omega)).mono ?_; rintro e w7 ⟨x7, rfl, h7, g7⟩; obtain ⟨ng7, r7, hw7, e7, l7⟩ := h7; obtain ⟨v7, rfl, hv7⟩ := hw7.ex; obtain ⟨a7, cp7, rfl⟩ := hv7.slice; have G7 := hid (gr_trans G6.out g7); have H7 := hid hw7; have E7 := hid e7; have L7 := hid l7; have FZ7 := hid (gr_heap G7.out FZ5.out (by simp)); have F27 := hid (gr_heap G7.out F25.out (by simp)); have z0'' := big_cell FZ7.out 0 _ rfl; have z1'' := big_cell FZ7.out 1 _ rfl; have z0f'' := big_froz FZ7.out 0; have z1f'' := big_froz FZ7.out 1; clear hw7 hv7 e7 l7 g7))
          all_goals (
            have b3 := hZb.out
            have HZ8 := hid (duo_set1 (duo_set0 FZ7.out (.slice a7 r7.length cp7)) (.bool ng7))
            have HF8 := hid (duo_other (duo_other F27.out (show bx + 2 ≠ Z by omega) 0 (.slice a7 r7.length cp7)) (show bx + 2 ≠ Z by omega) 1 (.bool ng7))
            have HW8 := hid (wide_store H7.out FZ7.out a7 r7.length cp7 (.bool ng7))
            have G8 := hid (gr_setNew (gr_setNew (gr_trans GA.out (gr_trans G5.out G7.out)) (k := Z) (by have := hbx.out; omega) 0 (.slice a7 r7.length cp7)) (k := Z) (by have := hbx.out; omega) 1 (.bool ng7))
            go_wp2_with fail
            refine (turn_any HW8.out (by have := L7.out; omega)).mono ?_
            rintro e w9 ⟨x9, ng9, r9, rfl, h9, e9, l9, g9⟩
            obtain ⟨v9, rfl, h9'⟩ := h9.ex
            obtain ⟨a9, cp9, rfl⟩ := h9'.slice
            have FZ9 := hid (gr_heap g9 HZ8.out (by simp))
            have F29 := hid (gr_heap g9 HF8.out (by simp))
            have H9 := hid h9
            have E9 := hid e9
            have L9 := hid l9
            have G9 := hid (gr_trans G8.out g9)
            clear h9 h9' e9 l9 g9 z0 z1 z0f z1f e0 e1 e0f e1f
            have e0 := big_cell F29.out 0 _ rfl
            have e1 := big_cell F29.out 1 _ rfl
            have e0f := big_froz F29.out 0
            have e1f := big_froz F29.out 1
            have z0 := big_cell FZ9.out 0 _ rfl
            have z1 := big_cell FZ9.out 1 _ rfl
            have z0f := big_froz FZ9.out 0
            have z1f := big_froz FZ9.out 1
            go_wp2_with fail
            have b2 := hZb.out
            refine bodyPost_ret (v := .agg #[.slice a9 r9.length cp9, .bool ng9]) ?_ rfl ⟨_, rfl, ⟨ng9, r9, wide_store (wide_store H9.out FZ9.out _ _ _ _) (duo_other (duo_other F29.out (by omega) 0 _) (by omega) 1 _) _ _ _ _, by rw [E9.out, E7.out]; exact floor_neg1 hN.out ⟨hR1, hR0.out.2⟩ HN.out, by have := L9.out; have := L7.out; omega⟩, ?_⟩
            · simp [results, Tryz.results60, go_sem, e0, e1]
            · exact gr_setNew (gr_setNew (gr_setNew (gr_setNew G9.out (by have := hbx.out; omega) 0 _) (by have := hbx.out; omega) 1 _) (by have := hbx.out; omega) 0 _) (by have := hbx.out; omega) 1 _)
    | succ i =>
      obtain rfl : j = (i : Int) := by omega
      clear hj
      have hi0 : (0 : Int) ≤ (i : Int) := by omega
      have c0 := gr_cell HG.out (big_cell F0.out 0 _ rfl)
      go_wp2_with fail
      go_loopw [5, 6, 8] (fun vq vr vk wr => ∃ (j : Int) (k : Nat) (qs rs : List Int), vk = .int .i64 j ∧ j = (k : Int) - 1 ∧ k ≤ 16 ∧ Hid (Dig wr vq qs) ∧ Hid (Dg qs) ∧ Hid (Dig wr vr rs) ∧ Hid (Dg rs) ∧ Hid (qs.length ≤ 32 * (m - (i + 1)) + 2 * (16 - k) ∧ rs.length ≤ 32 * (m - (i + 1)) + 2 * (16 - k)) ∧ Hid (readB ds i k = bval rs + C * bval qs) ∧ Hid (bval rs < C) ∧ Hid (A.grownBy wr none)) (fun _ _ vk _ => (intOf vk + 1).toNat)
      case atStart => exact ⟨15, 16, qs, rs, rfl, rfl, Nat.le_refl _, HQ, DQ, HR, DR, hid (by simpa using HL.out), hid (by rw [readB_start D1.out]; exact HD.out), HRC, HG⟩
      case round =>
        clear HQ DQ HR DR HL HD HRC HG c0
        obtain ⟨j, k, qs, rs, rfl, hj, hk16, HQ, DQ, HR, DR, HL, HD, HRC, HG⟩ := hrel
        cases k with
        | zero =>
          obtain rfl : j = -1 := by omega
          clear hj
          go_wp2_with fail
          go_roundw
          case rel => exact ⟨(i : Int) - 1, i, qs, rs, by go_num, rfl, by omega, HQ, DQ, HR, DR, hid (by have := HL.out; omega), hid (by rw [← readB_end (by rw [hm.out]; omega)]; exact HD.out), HRC, HG⟩
          case measure => simp [intOf]
        | succ k =>
          obtain rfl : j = (k : Int) := by omega
          clear hj
          have hk0 : (0 : Int) ≤ (k : Int) := by omega
          have hlr : rs.length ≤ 700 := by have := HL.out; omega
          go_wp2_with fail
          refine (plus_any HR.out HR.out DR.out DR.out rs.length (by omega) (Nat.le_refl _) (Nat.le_refl _)).mono ?_
          rintro e w3 ⟨v3, r3, rfl, h3, d3, e3, l3, g3⟩
          obtain ⟨a3, cp3, rfl⟩ := h3.slice
          have G3 := hid (gr_trans HG.out g3)
          have H3 := hid h3
          have D3 := hid d3
          have E3 := hid e3
          have L3 := hid l3
          have c0 := gr_cell G3.out (big_cell F0.out 0 _ rfl)
          clear h3 d3 e3 l3
          go_wp2_with fail
          refine (trim_any false H3.out D3.out (by have := L3.out; omega)).mono ?_
          rintro e w4 ⟨x4, r4, ng4, rfl, h4, e4, l4, -, g4⟩
          obtain ⟨v4, rfl, h4'⟩ := h4.ex
          obtain ⟨a4, cp4, rfl⟩ := h4'.slice
          have G4 := hid (gr_trans G3.out g4)
          have WR4 := hid (gr_trans g3 g4)
          have H4 := hid h4'
          have D4 := hid h4.dg
          have E4 := hid (e4.trans E3.out)
          have L4 := hid (Nat.le_trans l4 L3.out)
          have c0' := gr_cell g4 c0
          obtain ⟨b, off, cp, he, -, hca⟩ := H1.out.cells (by rw [hm.out]; omega)
          injection he with he1 he2 he3
          subst he1
          have hx0 := hca _ G4.out i (by rw [hm.out]; omega)
          obtain ⟨x, hx⟩ : ∃ x, Hid (nth ds i = x) := ⟨_, hid rfl⟩
          rw [hx.out] at hx0
          have hxb := nth_dg D1.out i
          rw [hx.out] at hxb
          have hiI : (i : Int) < (m : Int) := by omega
          clear h4 h4' e4 l4 hca he2 he3 c0 g3 g4
          have hf := field_run a4 r4.length cp4 ng4
          have hbf := bit_form x k hxb.1
          have Hst := hid (readB_step ds i k (by omega))
          rw [hx.out] at Hst
          obtain ⟨bt, hbt⟩ : ∃ bt, Hid (bitB x k = bt) := ⟨_, hid rfl⟩
          rw [hbt.out] at hbf Hst
          have hb01 : bt = 0 ∨ bt = 1 := by have := hbt.out; unfold bitB at this; omega
          clear hxb
          rcases hb01 with rfl | rfl
          · obtain ⟨w5, hw5⟩ : ∃ w5, w5 = w4 := ⟨_, rfl⟩
            obtain ⟨r5, hr5⟩ : ∃ r5, r5 = r4 := ⟨_, rfl⟩
            subst hw5
            subst hr5
            have G5 := G4
            have H5 := H4
            have D5 := D4
            have E5 : Hid (bval r5 = 2 * bval rs + 0) := hid (by rw [E4.out]; omega)
            have L5 : Hid (r5.length ≤ rs.length + 2) := hid (by have := L4.out; omega)
            obtain ⟨a5, ha5⟩ : ∃ a5, a5 = a4 := ⟨_, rfl⟩
            obtain ⟨cp5, hcp5⟩ : ∃ cp5, cp5 = cp4 := ⟨_, rfl⟩
            subst ha5
            subst hcp5
            have WR5 := WR4
            go_wp2_with fail
            clear hbf hf
            refine (plus_any (HQ.out.grown WR5.out) (HQ.out.grown WR5.out) DQ.out DQ.out qs.length (by have := HL.out; omega) (Nat.le_refl _) (Nat.le_refl _)).mono ?_
            rintro e w6 ⟨v6, q6, rfl, h6, d6, e6, l6, g6⟩
            obtain ⟨a6, cp6, rfl⟩ := h6.slice
            have G6 := hid (gr_trans G5.out g6)
            have H6 := hid h6
            have D6 := hid d6
            have E6 := hid e6
            have L6 := hid l6
            have H56 := hid (H5.out.grown g6)
            have H26 := hid (H2.out.grown G6.out)
            have k0 := gr_cell G6.out (big_cell F1.out 0 _ rfl)
            have hl5 : r5.length ≤ 800 := by have := L5.out; omega
            clear h6 d6 e6 l6 g6
            by_cases hge : C ≤ bval r5
            · have HGE := hid hge
              clear hge
              go_upto_region 12 with fail
              go_cut [51] from 18 to 61 (fun v51 wx => v51 = .bool true ∧ Hid (w6.grownBy wx none))
              case first =>
                go_region_with (first
                  | (go_at_call 101; refine (trim_any false (H56.out.grown (gr_drew (gr_refl w6 none))) D5.out (by omega)).mono ?_; rintro e w7 ⟨x7, r7, ng7, rfl, h7, e7, l7, -, g7⟩; obtain ⟨v7, rfl, h7'⟩ := h7.ex; obtain ⟨a7, cp7, rfl⟩ := h7'.slice; have G7 := hid (gr_trans (gr_drew (gr_refl w6 none)) g7); have H7 := hid h7'; have D7 := hid h7.dg; have T7 := hid h7.trm; have E7 := hid e7; have L7 := hid (Nat.le_trans l7 hl5); have hf7 := field_run a7 r7.length cp7 ng7; have k0' := gr_cell G7.out k0; clear h7 h7' e7 l7 g7)
                  | (go_at_call 103; refine (compare_any H7.out (H26.out.grown G7.out) D7.out D2.out T7.out T2.out (by have := L7.out; omega)).mono ?_; rintro e w8 ⟨rfl, g8⟩; have G8 := hid (gr_trans G7.out g8); obtain ⟨rc, hrc, hrc0⟩ : ∃ rc, cmpI (bval r7) (bval cs) = rc ∧ 0 ≤ rc := ⟨_, rfl, cmp_ge (by rw [E7.out, hC.out]; exact HGE.out)⟩; rw [hrc]; clear hrc g8))
                all_goals (go_wp2_with fail; go_meet; exact ⟨by first | rfl | simp [hrc0], G8⟩)
              case rest =>
                obtain ⟨rfl, hg8⟩ := hcut
                have G8 := hid (gr_trans G6.out hg8.out)
                have k0' := gr_cell hg8.out k0
                clear k0
                have hcl : mc ≤ r5.length := by
                  rcases Nat.lt_or_ge r5.length mc with h | h
                  · have := shorter_lt D5.out D2.out T2.out (by rw [hmc.out]; exact h)
                    rw [hC.out] at this
                    have := HGE.out
                    omega
                  · exact h
                go_wp2_with fail
                refine (minus_any (H56.out.grown hg8.out) (H26.out.grown hg8.out) D5.out D2.out (by omega) (by rw [hmc.out]; exact hcl) (by rw [hC.out]; exact HGE.out)).mono ?_
                rintro e w9 ⟨v9, r9, rfl, h9, d9, e9, l9, g9⟩
                obtain ⟨a9, cp9, rfl⟩ := h9.slice
                have G9 := hid (gr_trans G8.out g9)
                have H9 := hid h9
                have D9 := hid d9
                have E9 := hid e9
                have L9 := hid l9
                clear h9 d9 e9 l9 k0'
                go_wp2_with fail
                refine (trim_any false H9.out D9.out (by have := L9.out; omega)).mono ?_
                rintro e w10 ⟨x10, r10, ng10, rfl, h10, e10, l10, -, g10⟩
                obtain ⟨v10, rfl, h10'⟩ := h10.ex
                obtain ⟨a10, cp10, rfl⟩ := h10'.slice
                have G10 := hid (gr_trans G9.out g10)
                have H10 := hid h10'
                have D10 := hid h10.dg
                have E10 := hid (e10.trans E9.out)
                have L10 := hid (Nat.le_trans l10 (Nat.le_of_eq L9.out))
                have HQ10 := hid (H6.out.grown (gr_trans hg8.out (gr_trans g9 g10)))
                have hf10 := field_run a10 r10.length cp10 ng10
                clear h10 h10' e10 l10 g9 g10
                go_wp2_with fail
                refine (plus_any (HQ10.out.grown (gr_alloc (gr_refl w10 none) _)) dig_one D6.out dg_one (max q6.length 1) (by have := L6.out; have := HL.out; omega) (Nat.le_max_left ..) (Nat.le_max_right ..)).mono ?_
                rintro e w11 ⟨v11, q11, rfl, h11, d11, e11, l11, g11⟩
                have g11' := gr_trans (gr_alloc (gr_refl w10 none) (.cells #[.int .u32 1] 28)) g11
                have G11 := hid (gr_trans G10.out g11')
                have H11 := hid h11
                have D11 := hid d11
                have E11 := hid e11
                have L11 := hid l11
                have HR11 := hid (H10.out.grown g11')
                clear h11 d11 e11 l11 g11 g11' hf10
                go_wp2_with fail
                go_roundw
                case rel =>
                  refine ⟨(k : Int) - 1, k, q11, r10, by go_num, rfl, by omega, H11, D11, HR11, D10, hid ?_, hid ?_, hid ?_, G11⟩
                  · have := HL.out
                    have := L10.out
                    have := L5.out
                    have := L11.out
                    have := L6.out
                    omega
                  · have eq1 : bval q11 = 2 * bval qs + 1 := by rw [E11.out, E6.out]; simp [bval]; omega
                    rw [Hst.out, div_more HD.out, eq1, E10.out, E5.out, hC.out]
                    exact div_less
                  · rw [E10.out, E5.out, hC.out]
                    have := HRC.out
                    omega
                case measure => simp [intOf]
            · have HGE := hid (show bval r5 < C by omega)
              clear hge
              go_upto_region 12 with fail
              go_cut [51] from 18 to 61 (fun v51 wx => v51 = .bool false ∧ Hid (w6.grownBy wx none))
              case first =>
                go_region_with (first
                  | (go_at_call 101; refine (trim_any false (H56.out.grown (gr_drew (gr_refl w6 none))) D5.out (by omega)).mono ?_; rintro e w7 ⟨x7, r7, ng7, rfl, h7, e7, l7, -, g7⟩; obtain ⟨v7, rfl, h7'⟩ := h7.ex; obtain ⟨a7, cp7, rfl⟩ := h7'.slice; have G7 := hid (gr_trans (gr_drew (gr_refl w6 none)) g7); have H7 := hid h7'; have D7 := hid h7.dg; have T7 := hid h7.trm; have E7 := hid e7; have L7 := hid (Nat.le_trans l7 hl5); have hf7 := field_run a7 r7.length cp7 ng7; have k0' := gr_cell G7.out k0; clear h7 h7' e7 l7 g7)
                  | (go_at_call 103; refine (compare_any H7.out (H26.out.grown G7.out) D7.out D2.out T7.out T2.out (by have := L7.out; omega)).mono ?_; rintro e w8 ⟨rfl, g8⟩; have G8 := hid (gr_trans G7.out g8); rw [cmpI_lt (show bval r7 < bval cs by rw [E7.out, hC.out]; exact HGE.out)]; clear g8))
                all_goals (go_wp2_with fail; go_meet; exact ⟨by first | rfl | simp, G8⟩)
              case rest =>
                obtain ⟨rfl, hg8⟩ := hcut
                have G8 := hid (gr_trans G6.out hg8.out)
                have H68 := hid (H6.out.grown hg8.out)
                have H58 := hid (H56.out.grown hg8.out)
                clear k0
                go_wp2_with fail
                go_roundw
                case rel =>
                  refine ⟨(k : Int) - 1, k, q6, r5, by go_num, rfl, by omega, H68, D6, H58, D5, hid ?_, hid ?_, HGE, G8⟩
                  · have := HL.out
                    have := L5.out
                    have := L6.out
                    omega
                  · have eq1 : bval q6 = 2 * bval qs := by rw [E6.out]; omega
                    rw [Hst.out, div_more HD.out, eq1, E5.out]
                case measure => simp [intOf]
          · go_wp2_with fail
            refine (plus_any (H4.out.grown (gr_alloc (gr_refl w4 none) _)) dig_one D4.out dg_one (max r4.length 1) (by have := L4.out; omega) (Nat.le_max_left ..) (Nat.le_max_right ..)).mono ?_
            rintro e w5 ⟨v5, r5, rfl, h5, d5, e5, l5, g5⟩
            obtain ⟨a5, cp5, rfl⟩ := h5.slice
            have G5 := hid (gr_trans G4.out (gr_trans (gr_alloc (gr_refl w4 none) _) g5))
            have H5 := hid h5
            have D5 := hid d5
            have E5 : Hid (bval r5 = 2 * bval rs + 1) := hid (by rw [e5, E4.out]; simp [bval]; omega)
            have L5 : Hid (r5.length ≤ rs.length + 2) := hid (by have := L4.out; omega)
            have WR5 := hid (gr_trans WR4.out (gr_trans (gr_alloc (gr_refl w4 none) _) g5))
            clear h5 d5 e5 l5 g5
            go_wp2_with fail
            clear hbf hf
            refine (plus_any (HQ.out.grown WR5.out) (HQ.out.grown WR5.out) DQ.out DQ.out qs.length (by have := HL.out; omega) (Nat.le_refl _) (Nat.le_refl _)).mono ?_
            rintro e w6 ⟨v6, q6, rfl, h6, d6, e6, l6, g6⟩
            obtain ⟨a6, cp6, rfl⟩ := h6.slice
            have G6 := hid (gr_trans G5.out g6)
            have H6 := hid h6
            have D6 := hid d6
            have E6 := hid e6
            have L6 := hid l6
            have H56 := hid (H5.out.grown g6)
            have H26 := hid (H2.out.grown G6.out)
            have k0 := gr_cell G6.out (big_cell F1.out 0 _ rfl)
            have hl5 : r5.length ≤ 800 := by have := L5.out; omega
            clear h6 d6 e6 l6 g6
            by_cases hge : C ≤ bval r5
            · have HGE := hid hge
              clear hge
              go_upto_region 12 with fail
              go_cut [51] from 18 to 61 (fun v51 wx => v51 = .bool true ∧ Hid (w6.grownBy wx none))
              case first =>
                go_region_with (first
                  | (go_at_call 101; refine (trim_any false (H56.out.grown (gr_drew (gr_refl w6 none))) D5.out (by omega)).mono ?_; rintro e w7 ⟨x7, r7, ng7, rfl, h7, e7, l7, -, g7⟩; obtain ⟨v7, rfl, h7'⟩ := h7.ex; obtain ⟨a7, cp7, rfl⟩ := h7'.slice; have G7 := hid (gr_trans (gr_drew (gr_refl w6 none)) g7); have H7 := hid h7'; have D7 := hid h7.dg; have T7 := hid h7.trm; have E7 := hid e7; have L7 := hid (Nat.le_trans l7 hl5); have hf7 := field_run a7 r7.length cp7 ng7; have k0' := gr_cell G7.out k0; clear h7 h7' e7 l7 g7)
                  | (go_at_call 103; refine (compare_any H7.out (H26.out.grown G7.out) D7.out D2.out T7.out T2.out (by have := L7.out; omega)).mono ?_; rintro e w8 ⟨rfl, g8⟩; have G8 := hid (gr_trans G7.out g8); obtain ⟨rc, hrc, hrc0⟩ : ∃ rc, cmpI (bval r7) (bval cs) = rc ∧ 0 ≤ rc := ⟨_, rfl, cmp_ge (by rw [E7.out, hC.out]; exact HGE.out)⟩; rw [hrc]; clear hrc g8))
                all_goals (go_wp2_with fail; go_meet; exact ⟨by first | rfl | simp [hrc0], G8⟩)
              case rest =>
                obtain ⟨rfl, hg8⟩ := hcut
                have G8 := hid (gr_trans G6.out hg8.out)
                have k0' := gr_cell hg8.out k0
                clear k0
                have hcl : mc ≤ r5.length := by
                  rcases Nat.lt_or_ge r5.length mc with h | h
                  · have := shorter_lt D5.out D2.out T2.out (by rw [hmc.out]; exact h)
                    rw [hC.out] at this
                    have := HGE.out
                    omega
                  · exact h
                go_wp2_with fail
                refine (minus_any (H56.out.grown hg8.out) (H26.out.grown hg8.out) D5.out D2.out (by omega) (by rw [hmc.out]; exact hcl) (by rw [hC.out]; exact HGE.out)).mono ?_
                rintro e w9 ⟨v9, r9, rfl, h9, d9, e9, l9, g9⟩
                obtain ⟨a9, cp9, rfl⟩ := h9.slice
                have G9 := hid (gr_trans G8.out g9)
                have H9 := hid h9
                have D9 := hid d9
                have E9 := hid e9
                have L9 := hid l9
                clear h9 d9 e9 l9 k0'
                go_wp2_with fail
                refine (trim_any false H9.out D9.out (by have := L9.out; omega)).mono ?_
                rintro e w10 ⟨x10, r10, ng10, rfl, h10, e10, l10, -, g10⟩
                obtain ⟨v10, rfl, h10'⟩ := h10.ex
                obtain ⟨a10, cp10, rfl⟩ := h10'.slice
                have G10 := hid (gr_trans G9.out g10)
                have H10 := hid h10'
                have D10 := hid h10.dg
                have E10 := hid (e10.trans E9.out)
                have L10 := hid (Nat.le_trans l10 (Nat.le_of_eq L9.out))
                have HQ10 := hid (H6.out.grown (gr_trans hg8.out (gr_trans g9 g10)))
                have hf10 := field_run a10 r10.length cp10 ng10
                clear h10 h10' e10 l10 g9 g10
                go_wp2_with fail
                refine (plus_any (HQ10.out.grown (gr_alloc (gr_refl w10 none) _)) dig_one D6.out dg_one (max q6.length 1) (by have := L6.out; have := HL.out; omega) (Nat.le_max_left ..) (Nat.le_max_right ..)).mono ?_
                rintro e w11 ⟨v11, q11, rfl, h11, d11, e11, l11, g11⟩
                have g11' := gr_trans (gr_alloc (gr_refl w10 none) (.cells #[.int .u32 1] 28)) g11
                have G11 := hid (gr_trans G10.out g11')
                have H11 := hid h11
                have D11 := hid d11
                have E11 := hid e11
                have L11 := hid l11
                have HR11 := hid (H10.out.grown g11')
                clear h11 d11 e11 l11 g11 g11' hf10
                go_wp2_with fail
                go_roundw
                case rel =>
                  refine ⟨(k : Int) - 1, k, q11, r10, by go_num, rfl, by omega, H11, D11, HR11, D10, hid ?_, hid ?_, hid ?_, G11⟩
                  · have := HL.out
                    have := L10.out
                    have := L5.out
                    have := L11.out
                    have := L6.out
                    omega
                  · have eq1 : bval q11 = 2 * bval qs + 1 := by rw [E11.out, E6.out]; simp [bval]; omega
                    rw [Hst.out, div_more HD.out, eq1, E10.out, E5.out, hC.out]
                    exact div_less
                  · rw [E10.out, E5.out, hC.out]
                    have := HRC.out
                    omega
                case measure => simp [intOf]
            · have HGE := hid (show bval r5 < C by omega)
              clear hge
              go_upto_region 12 with fail
              go_cut [51] from 18 to 61 (fun v51 wx => v51 = .bool false ∧ Hid (w6.grownBy wx none))
              case first =>
                go_region_with (first
                  | (go_at_call 101; refine (trim_any false (H56.out.grown (gr_drew (gr_refl w6 none))) D5.out (by omega)).mono ?_; rintro e w7 ⟨x7, r7, ng7, rfl, h7, e7, l7, -, g7⟩; obtain ⟨v7, rfl, h7'⟩ := h7.ex; obtain ⟨a7, cp7, rfl⟩ := h7'.slice; have G7 := hid (gr_trans (gr_drew (gr_refl w6 none)) g7); have H7 := hid h7'; have D7 := hid h7.dg; have T7 := hid h7.trm; have E7 := hid e7; have L7 := hid (Nat.le_trans l7 hl5); have hf7 := field_run a7 r7.length cp7 ng7; have k0' := gr_cell G7.out k0; clear h7 h7' e7 l7 g7)
                  | (go_at_call 103; refine (compare_any H7.out (H26.out.grown G7.out) D7.out D2.out T7.out T2.out (by have := L7.out; omega)).mono ?_; rintro e w8 ⟨rfl, g8⟩; have G8 := hid (gr_trans G7.out g8); rw [cmpI_lt (show bval r7 < bval cs by rw [E7.out, hC.out]; exact HGE.out)]; clear g8))
                all_goals (go_wp2_with fail; go_meet; exact ⟨by first | rfl | simp, G8⟩)
              case rest =>
                obtain ⟨rfl, hg8⟩ := hcut
                have G8 := hid (gr_trans G6.out hg8.out)
                have H68 := hid (H6.out.grown hg8.out)
                have H58 := hid (H56.out.grown hg8.out)
                clear k0
                go_wp2_with fail
                go_roundw
                case rel =>
                  refine ⟨(k : Int) - 1, k, q6, r5, by go_num, rfl, by omega, H68, D6, H58, D5, hid ?_, hid ?_, HGE, G8⟩
                  · have := HL.out
                    have := L5.out
                    have := L6.out
                    omega
                  · have eq1 : bval q6 = 2 * bval qs := by rw [E6.out]; omega
                    rw [Hst.out, div_more HD.out, eq1, E5.out]
                case measure => simp [intOf]
end Go.Proofs.YtckoaeoecjphiaaGreat
