/- tocsinlaw10.PermPlays, walked. -/
import Derived.Test.YtkcgpbehicjidaaPlyG
import Derived.Test.YtkcgpbehicjidaaLeaves
import Derived.Deep.CutBlock
namespace Go.Proofs.Ytkcgpbehicjidaa
open Go.RowKit Go.Lib

theorem newB_parts {m ba r : Int} (h : newB m ba r = true) : realB m = true ∧ fastB r = true ∧ shownB ba = true := by
  obtain ⟨⟨hr, hf⟩, hs⟩ : (realB m = true ∧ fastB r = true) ∧ shownB ba = true := by simpa [newB] using h
  exact ⟨hr, hf, hs⟩
theorem ne_len (l : List It) : ((l.length : Int) + 1 == 0) = false := by
  have : ¬ (l.length : Int) + 1 = 0 := by omega
  simp [this]
theorem pos_len (l : List It) : decide (0 < (l.length : Int) + 1) = true := by
  have : 0 < (l.length : Int) + 1 := by omega
  simp [this]
theorem len_of_cap {l : List It} {cp : Nat} (h : l.length + 1 ≤ cp) (h1 : cp = 1) : l.length = 0 := by omega
/-- The script's rows. -/
def opLeaves : List Leaf := [.int .i64, .int .i64, .int .i64, .int .i64, .int .i64, .int .i64, .int .u32, .int .i64]

set_option maxRecDepth 100000 in
set_option maxHeartbeats 8000000 in
theorem pplays_main (dl : Int) (bd : 0 ≤ dl ∧ dl ≤ 1048576) (m ba r : Int) (hnew : newB m ba r = true) (a : Option Addr) (len cap : Nat) (V : Nat → Nat → Value) (hlen : len ≤ 140737488351232) (w : World) (hs : RowsOf w a len opLeaves V) :
    Calls Try.prog 7 #[.int .i64 dl, .agg #[.int .i64 m, .int .i64 ba, .int .i64 r], .slice a len cap] w fun e w' => e = .returned (.bool true) ∧ Below w.heap.size w w' := by
  obtain ⟨d0, d1⟩ := bd
  obtain ⟨hr, hf, hs'⟩ := newB_parts hnew
  have ho := ClockOk.new hr hs' hf
  have Hr := hid hr
  have Hf := hid hf
  have Hs := hid hs'
  have Ho := hid ho
  have Hrows := hid hs
  clear hnew hr hf hs' ho hs
  go_enter Try.func7, Try.ntmps7
  go_wp2_with fail
  refine (fixed_true _).mono ?_
  rintro e w1 ⟨rfl, g1⟩
  have D1 := hid (gr_heap g1 (heap_alloc_new w (.cells #[.int .i64 m, .int .i64 ba, .int .i64 r] 50)) (by simp))
  have G1 := hid (bx_gr g1)
  clear g1
  go_wp2_with fail
  obtain ⟨q, hq⟩ : ∃ q, Hid (w1.heap.size = q) := ⟨_, hid rfl⟩
  refine (pnew_at dl w1 (by omega)).mono ?_
  rintro e w2 ⟨rfl, hQ, hH, g2, hs2⟩
  rw [hq.out] at hQ hH hs2
  rw [hq.out]
  have HH2 := hid (show Hld w2 (q + 1) q dl from hH)
  have HQ2 := hid hQ
  have G2 := hid (gr_trans G1.out g2)
  have D2 := hid (gr_heap g2 D1.out (by simp))
  have y0 := cell_of D2.out 0 (.int .i64 m) rfl
  have y1 := cell_of D2.out 1 (.int .i64 ba) rfl
  have y2 := cell_of D2.out 2 (.int .i64 r) rfl
  have Hs2 := hid hs2
  have Hwq : Hid (w.heap.size < q) := hid (by rw [← hq.out]; exact lt_of_block D1.out)
  clear hQ hH g2 hs2 D1
  go_wp2_with fail
  obtain ⟨b, hb⟩ : ∃ b, Hid (w2.heap.size = b) := ⟨_, hid rfl⟩
  refine (new_ok m ba r w2 Hr Hs Hf).mono ?_
  rintro e w3 ⟨rfl, hc, g3⟩
  rw [hb.out] at hc
  rw [hb.out]
  have Hc3 := hid hc
  have HH3 := hid (HH2.out.gr g3)
  have HQ3 := hid (HQ2.out.kept g3 (by simp))
  have D3 := hid (gr_heap g3 D2.out (by simp))
  have G3 := hid (gr_trans G2.out g3)
  clear hc g3 D2 HQ2 HH2 y0 y1 y2
  have y0 := cell_of D3.out 0 (.int .i64 m) rfl
  have y1 := cell_of D3.out 1 (.int .i64 ba) rfl
  have y2 := cell_of D3.out 2 (.int .i64 r) rfl
  go_wp2_with fail
  obtain ⟨wb, hwb⟩ : ∃ wb, Hid (w3.heap.size = wb) := ⟨_, hid rfl⟩
  obtain ⟨A, hA⟩ : ∃ A, w3.alloc (.cells #[.int .i64 m, .int .i64 ba, .int .i64 r] 53) = A := ⟨_, rfl⟩
  obtain ⟨B, hB⟩ : ∃ B, Hid (wb + 1 = B) := ⟨_, hid rfl⟩
  have Hap : Hid (Apart B b wb q) := hid (by
    have h1 := Hs2.out
    have h2 := hb.out
    have h3 := Hc3.out.lt
    have h4 := hB.out
    have h5 := hwb.out
    constructor <;> omega)
  have HAg : Hid (w3.grownBy A none) := hid (hA ▸ gr_alloc (gr_refl w3 none) _)
  have HAs : Hid (A.heap.size = B) := hid (by rw [← hA, ← hB.out, ← hwb.out]; simp)
  have HJ : Hid (PJ dl B b wb q A A m ba r m ba r (.slice none 0 0) [] [] 0) := hid
    { ap := Hap.out
      clk := Hc3.out.kept HAg.out (by simp)
      tri := by rw [← hA, ← hwb.out]; exact Trio.new _ w3 m ba r
      hld := HH3.out.gr HAg.out
      ls := .inl ⟨rfl, _, _, rfl⟩
      qs := ⟨[], ⟨List.Perm.refl _, by intro j _ hj; simp at hj⟩, _, HQ3.out.kept HAg.out (by simp), World.ownsRow_nil _ _ _ _, by simp [Value.ownBlock], by rw [HAs.out]; exact Nat.le_refl _, fun k hk => by
        rcases hk with hk | hk
        · exact ⟨by rw [HAs.out]; exact hk.1, hk.2, by simp [Value.ownBlock]⟩
        · simp [Value.ownBlock] at hk⟩
      keep := Keeps.rfl'
      sz := by rw [HAs.out]; exact Nat.le_refl _
      far := fun k hk => by simp [Value.ownBlock] at hk }
  have GA := hid (gr_trans G3.out HAg.out)
  rw [hA, hwb.out]
  clear hA y0 y1 y2 HH3 HQ3 Hc3 D3
  go_loopw [12, 73] (fun vl vi wr => ∃ (i : Nat) (m ba r num : Int) (ls : List It), vi = .int .i64 i ∧ i ≤ len ∧ Hid (ClockOk m ba r) ∧ Hid (Srt num ls) ∧ Hid (ls.length ≤ 64) ∧ Hid (0 ≤ num ∧ num ≤ i) ∧ Hid (PJ dl B b wb q A wr m ba r m ba r vl ls ls num)) (fun _ vi _ => len - (intOf vi).toNat)
  case atStart => exact ⟨0, m, ba, r, 0, [], rfl, Nat.zero_le _, Ho, hid (Srt.nil 0), hid (Nat.zero_le _), hid ⟨Int.le_refl _, Int.le_refl _⟩, HJ⟩
  case round =>
    obtain ⟨i, m', ba', r', num, ls, rfl, hi, HO, HS, HL, HN, HI⟩ := hrel
    by_cases hlt : i < len
    · rcases Hrows.out with h0 | ⟨xb, off, hxe, hxb, hcell⟩
      · omega
      subst hxe
      have key : ∀ (j : Nat) (l : Leaf), opLeaves[j]? = some l → wr.cell? ⟨xb, off + i * 8 + j, none⟩ = some (V i j) ∧ l.ok (V i j) := fun j l hj => by
        obtain ⟨h1, h2⟩ := hcell i hlt j l hj
        refine ⟨?_, h2⟩
        have h3 := gr_cell GA.out h1
        have hb := HI.out.keep.block xb ⟨by have := Hwq.out; have := Hap.out.qB; omega, by have := Hwq.out; omega, ?_, ?_⟩
        · simp only [World.cell?, hb]; exact h3
        · have := hb.out; have := Hs2.out; have := Hwq.out; omega
        · have := hwb.out; have := G3.out.size; omega
      obtain ⟨e0, kd, hx0, _⟩ := key 0 _ rfl
      rw [hx0] at e0
      obtain ⟨e1, T, hx1, _⟩ := key 1 _ rfl
      rw [hx1] at e1
      obtain ⟨e2, N, hx2, _⟩ := key 2 _ rfl
      rw [hx2] at e2
      obtain ⟨e3, k, hx3, _⟩ := key 3 _ rfl
      rw [hx3] at e3
      obtain ⟨e4, fr, hx4, _⟩ := key 4 _ rfl
      rw [hx4] at e4
      obtain ⟨e5, cy, hx5, _⟩ := key 5 _ rfl
      rw [hx5] at e5
      obtain ⟨e6, cr, hx6, _⟩ := key 6 _ rfl
      rw [hx6] at e6
      obtain ⟨e7, cl, hx7, _⟩ := key 7 _ rfl
      rw [hx7] at e7
      rw [Nat.add_zero] at e0
      clear key hcell hx0 hx1 hx2 hx3 hx4 hx5 hx6 hx7
      have HN' : Hid (0 ≤ num ∧ num ≤ 4611686018427387904) := hid ⟨HN.out.1, by have := HN.out.2; omega⟩
      go_upto_block 2 with fail
      go_cut [12] from 74 to 234 (fun v12 wx => ∃ (m2 ba2 r2 num2 : Int) (ls2 : List It), Hid (ClockOk m2 ba2 r2) ∧ Hid (Srt num2 ls2) ∧ Hid (ls2.length ≤ 64) ∧ Hid (0 ≤ num2 ∧ num2 ≤ i + 1) ∧ Hid (PJ dl B b wb q A wx m2 ba2 r2 m2 ba2 r2 v12 ls2 ls2 num2))
      case first =>
        have HX := hid (HI.out.boxed (.cells #[.int .i64 kd, .int .i64 T, .int .i64 N, .int .i64 k, .int .i64 fr, .int .i64 cy, .int .u32 cr, .int .i64 cl] 56)).1
        by_cases k1 : kd = 1
        · subst k1
          obtain ⟨v, f, ht⟩ := Took.exists HO.out T dl k fr cy cr cl HL.out
          have Ht := hid ht
          clear ht
          go_wp2_with fail
          refine (ply_take HI.out _ HO.out HN'.out ⟨d0, d1⟩ T k fr cy cr cl v f Ht.out).mono ?_
          rintro e w5 ⟨rfl, h5, f5⟩
          have H5 := hid h5
          have t0 := h5.tri.c0
          have t1 := h5.tri.c1
          have t2 := h5.tri.c2
          have o1 := cell_of f5 1 _ rfl
          have o3 := cell_of f5 3 _ rfl
          have o4 := cell_of f5 4 _ rfl
          have o5 := cell_of f5 5 _ rfl
          have o6 := cell_of f5 6 _ rfl
          have o7 := cell_of f5 7 _ rfl
          clear h5 f5
          go_wp2_with fail
          refine (ply_rtake H5.out HO.out num T k fr cy cr cl v f Ht.out).mono ?_
          rintro e w6 ⟨v2, rfl, h6⟩
          have H6 := hid (ply_both HS.out HL.out Ht.out h6)
          clear h6 t0 t1 t2 o1 o3 o4 o5 o6 o7
          go_wp2_with fail
          go_meet
          obtain ⟨num', ls', hs', hl', hn', hp'⟩ := H6.out
          exact ⟨m', ba', r', num', ls', HO, hid hs', hid hl', hid ⟨by have := HN.out.1; omega, by have := HN.out.2; omega⟩, hid hp'⟩
        by_cases k3 : kd = 3
        · subst k3
          clear k1
          cases ls with
          | nil =>
            obtain ⟨a9, c9, rfl⟩ := HI.out.ls.slice
            go_wp2_with fail
            refine (ply_give_none HI.out _ T).mono ?_
            rintro e w5 ⟨rfl, h5, f5⟩
            have H5 := hid h5
            have o1 := cell_of f5 1 _ rfl
            clear h5 f5
            go_wp2_with fail
            obtain ⟨Z, hZ⟩ : ∃ Z, Hid (w5.heap.size = Z) := ⟨_, hid rfl⟩
            obtain ⟨w6, hw6⟩ : ∃ w6, w5.alloc (.cells #[.int .i64 0, .int .i64 0, .int .i64 0, .int .u32 0, .int .i64 0] 37) = w6 := ⟨_, rfl⟩
            have g6 : w5.grownBy w6 none := hw6 ▸ gr_alloc (gr_refl w5 none) _
            have F6 := hid (show w6.heap[Z]? = some (.cells #[.int .i64 0, .int .i64 0, .int .i64 0, .int .u32 0, .int .i64 0] 37) by rw [← hw6, ← hZ.out]; exact heap_alloc_new w5 _)
            rw [hw6, hZ.out]
            have H6 := hid (H5.out.grown g6)
            have O1 := hid (gr_cell g6 o1)
            have o1' := O1.out
            clear hw6 o1
            clear g6
            go_quiet (fail)
            clear o1'
            obtain ⟨w7, hdr⟩ : ∃ w7, w6.drewN nq = w7 := ⟨_, rfl⟩
            have gdr : w6.grownBy w7 none := hdr ▸ gr_drewN (gr_refl w6 none) nq
            rw [hdr]
            have H7 := hid (H6.out.grown gdr)
            have F7 := hid (gr_heap gdr F6.out (by simp))
            have O7 := hid (gr_cell gdr O1.out)
            clear hdr nq gdr
            have b0 := cell_of F7.out 0 _ rfl
            have b1 := cell_of F7.out 1 _ rfl
            have b2 := cell_of F7.out 2 _ rfl
            have b3 := cell_of F7.out 3 _ rfl
            have b4 := cell_of F7.out 4 _ rfl
            go_wp2_with fail
            go_roundw
            case rel => exact ⟨i + 1, m', ba', r', num, [], by go_num, by omega, HO, HS, HL, hid ⟨HN.out.1, by have := HN.out.2; omega⟩, H7⟩
            case measure => simp [intOf]; omega
          | cons x l =>
            obtain ⟨g, off9, cp, rfl, hcp, -, -⟩ := ply_first HI.out.ls
            by_cases hx : T < x.t
            · go_wp2_with fail
              refine (ply_give_late HI.out HS.out HL.out _ T hx).mono ?_
              rintro e w5 ⟨rfl, h5, f5⟩
              have H5 := hid h5
              have o1 := cell_of f5 1 _ rfl
              have lc5 := (ply_cells h5.ls).1 5 (by omega)
              clear h5 f5
              go_wp2_with fail
              obtain ⟨Z, hZ⟩ : ∃ Z, Hid (w5.heap.size = Z) := ⟨_, hid rfl⟩
              obtain ⟨w6, hw6⟩ : ∃ w6, w5.alloc (.cells #[.int .i64 0, .int .i64 0, .int .i64 0, .int .u32 0, .int .i64 0] 37) = w6 := ⟨_, rfl⟩
              have g6 : w5.grownBy w6 none := hw6 ▸ gr_alloc (gr_refl w5 none) _
              have F6 := hid (show w6.heap[Z]? = some (.cells #[.int .i64 0, .int .i64 0, .int .i64 0, .int .u32 0, .int .i64 0] 37) by rw [← hw6, ← hZ.out]; exact heap_alloc_new w5 _)
              rw [hw6, hZ.out]
              have H6 := hid (H5.out.grown g6)
              have O1 := hid (gr_cell g6 o1)
              have o1' := O1.out
              clear hw6 o1
              have lc6 := gr_cell g6 lc5
              clear g6 lc5
              go_quiet (fail)
              clear o1' lc6
              obtain ⟨w7, hdr⟩ : ∃ w7, w6.drewN nq = w7 := ⟨_, rfl⟩
              have gdr : w6.grownBy w7 none := hdr ▸ gr_drewN (gr_refl w6 none) nq
              rw [hdr]
              have H7 := hid (H6.out.grown gdr)
              have F7 := hid (gr_heap gdr F6.out (by simp))
              have O7 := hid (gr_cell gdr O1.out)
              clear hdr nq gdr
              have b0 := cell_of F7.out 0 _ rfl
              have b1 := cell_of F7.out 1 _ rfl
              have b2 := cell_of F7.out 2 _ rfl
              have b3 := cell_of F7.out 3 _ rfl
              have b4 := cell_of F7.out 4 _ rfl
              go_wp2_with fail
              go_roundw
              case rel => exact ⟨i + 1, m', ba', r', num, x :: l, by go_num, by omega, HO, HS, HL, hid ⟨HN.out.1, by have := HN.out.2; omega⟩, H7⟩
              case measure => simp [intOf]; omega
            · have hx' : x.t ≤ T := by omega
              have hlb : ((l.length : Int) + 1 == 0) = false := ne_len l
              go_wp2_with fail
              refine (ply_give HI.out HS.out HL.out _ T hx').mono ?_
              rintro e w5 ⟨rfl, h5, f5⟩
              have H5 := hid h5
              have o1 := cell_of f5 1 _ rfl
              have lc5 := (ply_cells h5.ls).1 5 (by omega)
              clear h5 f5
              go_wp2_with fail
              obtain ⟨Z, hZ⟩ : ∃ Z, Hid (w5.heap.size = Z) := ⟨_, hid rfl⟩
              obtain ⟨w6, hw6⟩ : ∃ w6, w5.alloc (.cells #[.int .i64 x.k, .int .i64 x.fr, .int .i64 x.cy, .int .u32 x.cr, .int .i64 x.cl] 37) = w6 := ⟨_, rfl⟩
              have g6 : w5.grownBy w6 none := hw6 ▸ gr_alloc (gr_refl w5 none) _
              have F6 := hid (show w6.heap[Z]? = some (.cells #[.int .i64 x.k, .int .i64 x.fr, .int .i64 x.cy, .int .u32 x.cr, .int .i64 x.cl] 37) by rw [← hw6, ← hZ.out]; exact heap_alloc_new w5 _)
              rw [hw6, hZ.out]
              have H6 := hid (H5.out.grown g6)
              have O1 := hid (gr_cell g6 o1)
              have o1' := O1.out
              clear hw6 o1
              have lc6 := gr_cell g6 lc5
              clear g6 lc5
              go_quiet (fail)
              clear o1' lc6
              obtain ⟨w7, hdr⟩ : ∃ w7, w6.drewN nq = w7 := ⟨_, rfl⟩
              have gdr : w6.grownBy w7 none := hdr ▸ gr_drewN (gr_refl w6 none) nq
              rw [hdr]
              have H7 := hid (H6.out.grown gdr)
              have F7 := hid (gr_heap gdr F6.out (by simp))
              have O7 := hid (gr_cell gdr O1.out)
              clear hdr nq gdr
              have b0 := cell_of F7.out 0 _ rfl
              have b1 := cell_of F7.out 1 _ rfl
              have b2 := cell_of F7.out 2 _ rfl
              have b3 := cell_of F7.out 3 _ rfl
              have b4 := cell_of F7.out 4 _ rfl
              have lcs := (ply_cells H7.out.ls).1
              have l0 : w7.cell? ⟨g, off9, none⟩ = some (.int .i64 x.k) := lcs 0 (by omega)
              have l1 : w7.cell? ⟨g, off9 + 1, none⟩ = some (.int .i64 x.fr) := lcs 1 (by omega)
              have l2 : w7.cell? ⟨g, off9 + 2, none⟩ = some (.int .i64 x.cy) := lcs 2 (by omega)
              have l3 : w7.cell? ⟨g, off9 + 3, none⟩ = some (.int .u32 x.cr) := lcs 3 (by omega)
              have l4 : w7.cell? ⟨g, off9 + 4, none⟩ = some (.int .i64 x.cl) := lcs 4 (by omega)
              have l5 : w7.cell? ⟨g, off9 + 5, none⟩ = some (.int .i64 x.t) := lcs 5 (by omega)
              clear lcs
              go_wp2_with fail
              go_quiet (fail)
              clear b0 b1 b2 b3 b4 l0 l1 l2 l3 l4 l5
              obtain ⟨w8, hdr⟩ : ∃ w8, w7.drewN nq = w8 := ⟨_, rfl⟩
              have gdr : w7.grownBy w8 none := hdr ▸ gr_drewN (gr_refl w7 none) nq
              rw [hdr]
              have H8 := hid (H7.out.grown gdr)
              have ht8 := hid (ply_cells H8.out.ls).2
              clear hdr gdr nq
              go_wp2_with fail
              all_goals go_meet
              · have e0 : l.length = 0 := len_of_cap hcp ‹cp = 1›
                have e1 : LS w8 (.slice (some ⟨g, off9, none⟩) l.length 0) l := .inl ⟨List.length_eq_zero_iff.1 e0, some ⟨g, off9, none⟩, 0, by rw [e0]⟩
                exact ⟨m', ba', r', num, l, HO, hid HS.out.tail, hid (by have := HL.out; simp at this; omega), hid ⟨HN.out.1, by have := HN.out.2; omega⟩, hid (H8.out.cut e1 rfl)⟩
              · exact ⟨m', ba', r', num, l, HO, hid HS.out.tail, hid (by have := HL.out; simp at this; omega), hid ⟨HN.out.1, by have := HN.out.2; omega⟩, hid (H8.out.cut ht8.out rfl)⟩
        by_cases k4 : kd = 4
        · subst k4
          clear k1 k3
          cases hq : (nowB m' T && fastB N)
          · have Hq := hid hq
            clear hq
            go_wp2_with fail
            refine (rate_bad b m' ba' r' T N _ HX.out.clk Hq.out).mono ?_
            rintro e w5 ⟨rfl, rfl⟩
            have H5 := HX
            have f5 := heap_alloc_new wr (.cells #[.int .i64 4, .int .i64 T, .int .i64 N, .int .i64 k, .int .i64 fr, .int .i64 cy, .int .u32 cr, .int .i64 cl] 56)
            have t0 := H5.out.tri.c0
            have t1 := H5.out.tri.c1
            have t2 := H5.out.tri.c2
            have o1 := cell_of f5 1 _ rfl
            have o2 := cell_of f5 2 _ rfl
            clear f5
            go_wp2_with fail
            refine (rrate_bad m' ba' r' T N _ Hq.out).mono ?_
            rintro e w6 ⟨rfl, g6⟩
            have H6 := hid (H5.out.grown g6)
            clear g6 t0 t1 t2 o1 o2
            have k0 := H6.out.tri.c0
            have k1 := H6.out.tri.c1
            have k2' := H6.out.tri.c2
            have z0 := H6.out.tri.f 0
            have z1 := H6.out.tri.f 1
            have z2 := H6.out.tri.f 2
            have H7 := hid (H6.out.doc (gr_set3 (b := wb) (gr_refl w6 none) (.int .i64 m') (.int .i64 ba') (.int .i64 r')) H6.out.tri.set3)
            go_wp2_with fail
            go_meet
            exact ⟨m', ba', r', num, ls, HO, HS, HL, hid ⟨HN.out.1, by have := HN.out.2; omega⟩, H7⟩
          · obtain ⟨q1, q2⟩ : nowB m' T = true ∧ fastB N = true := by simpa using hq
            have Q1 := hid q1
            have Q2 := hid q2
            clear hq q1 q2
            have hreal : realB T = true ∧ m' ≤ T := by simpa [nowB] using Q1.out
            have h2 := realB_iff.1 hreal.1
            have h3 := fastB_iff.1 Q2.out
            obtain ⟨y, hy⟩ : ∃ y, Hid (clockAt m' ba' r' T = y) := ⟨_, hid rfl⟩
            have HR := hid (rate_ok b m' ba' r' T N _ HX.out.clk HO.out Q1.out Q2.out)
            have HO2 : Hid (ClockOk T y N) := by rw [← hy.out]; exact hid (HO.out.later hreal.2 h2.2 h3.1 h3.2)
            rw [hy.out] at HR
            clear hreal h2 h3
            go_wp2_with fail
            refine HR.out.mono ?_
            rintro e w5 ⟨rfl, hc5, g5⟩
            have H5 := hid (HX.out.clock g5 hc5)
            have f5 := gr_heap g5 (heap_alloc_new wr _) (by have := HI.out.sz; have := HI.out.ap.bB; simp; omega)
            clear hc5 g5
            have t0 := H5.out.tri.c0
            have t1 := H5.out.tri.c1
            have t2 := H5.out.tri.c2
            have o1 := cell_of f5 1 _ rfl
            have o2 := cell_of f5 2 _ rfl
            clear f5
            go_wp2_with fail
            refine (rrate_ok m' ba' r' T N y _ HO.out Q1.out Q2.out hy).mono ?_
            rintro e w6 ⟨rfl, g6⟩
            have H6 := hid (H5.out.grown g6)
            clear g6 t0 t1 t2 o1 o2
            have k0 := H6.out.tri.c0
            have k1 := H6.out.tri.c1
            have k2' := H6.out.tri.c2
            have z0 := H6.out.tri.f 0
            have z1 := H6.out.tri.f 1
            have z2 := H6.out.tri.f 2
            have H7 := hid (H6.out.doc (gr_set3 (b := wb) (gr_refl w6 none) (.int .i64 T) (.int .i64 y) (.int .i64 N)) H6.out.tri.set3)
            go_wp2_with fail
            go_meet
            exact ⟨T, y, N, num, ls, HO2, HS, HL, hid ⟨HN.out.1, by have := HN.out.2; omega⟩, H7⟩
        by_cases k5 : kd = 5
        · subst k5
          clear k1 k3 k4
          cases hq : (nowB m' T && shownB N)
          · have Hq := hid hq
            clear hq
            go_wp2_with fail
            refine (set_bad b m' ba' r' T N _ HX.out.clk Hq.out).mono ?_
            rintro e w5 ⟨rfl, rfl⟩
            have H5 := HX
            have f5 := heap_alloc_new wr (.cells #[.int .i64 5, .int .i64 T, .int .i64 N, .int .i64 k, .int .i64 fr, .int .i64 cy, .int .u32 cr, .int .i64 cl] 56)
            have t0 := H5.out.tri.c0
            have t1 := H5.out.tri.c1
            have t2 := H5.out.tri.c2
            have o1 := cell_of f5 1 _ rfl
            have o2 := cell_of f5 2 _ rfl
            clear f5
            go_wp2_with fail
            refine (rset_bad m' ba' r' T N _ Hq.out).mono ?_
            rintro e w6 ⟨rfl, g6⟩
            have H6 := hid (H5.out.grown g6)
            clear g6 t0 t1 t2 o1 o2
            have k0 := H6.out.tri.c0
            have k1 := H6.out.tri.c1
            have k2' := H6.out.tri.c2
            have z0 := H6.out.tri.f 0
            have z1 := H6.out.tri.f 1
            have z2 := H6.out.tri.f 2
            have H7 := hid (H6.out.doc (gr_set3 (b := wb) (gr_refl w6 none) (.int .i64 m') (.int .i64 ba') (.int .i64 r')) H6.out.tri.set3)
            go_wp2_with fail
            go_meet
            exact ⟨m', ba', r', num, ls, HO, HS, HL, hid ⟨HN.out.1, by have := HN.out.2; omega⟩, H7⟩
          · obtain ⟨q1, q2⟩ : nowB m' T = true ∧ shownB N = true := by simpa using hq
            have Q1 := hid q1
            have Q2 := hid q2
            clear hq q1 q2
            have hreal : realB T = true ∧ m' ≤ T := by simpa [nowB] using Q1.out
            have h2 := realB_iff.1 hreal.1
            have h3 := shownB_iff.1 Q2.out
            have HR := hid (set_ok b m' ba' r' T N _ HX.out.clk Q1.out Q2.out)
            have HO2 : Hid (ClockOk T N r') := hid (HO.out.set h2.1 h2.2 h3.1 h3.2)
            clear hreal h2 h3
            go_wp2_with fail
            refine HR.out.mono ?_
            rintro e w5 ⟨rfl, hc5, g5⟩
            have H5 := hid (HX.out.clock g5 hc5)
            have f5 := gr_heap g5 (heap_alloc_new wr _) (by have := HI.out.sz; have := HI.out.ap.bB; simp; omega)
            clear hc5 g5
            have t0 := H5.out.tri.c0
            have t1 := H5.out.tri.c1
            have t2 := H5.out.tri.c2
            have o1 := cell_of f5 1 _ rfl
            have o2 := cell_of f5 2 _ rfl
            clear f5
            go_wp2_with fail
            refine (rset_ok m' ba' r' T N _ Q1.out Q2.out).mono ?_
            rintro e w6 ⟨rfl, g6⟩
            have H6 := hid (H5.out.grown g6)
            clear g6 t0 t1 t2 o1 o2
            have k0 := H6.out.tri.c0
            have k1 := H6.out.tri.c1
            have k2' := H6.out.tri.c2
            have z0 := H6.out.tri.f 0
            have z1 := H6.out.tri.f 1
            have z2 := H6.out.tri.f 2
            have H7 := hid (H6.out.doc (gr_set3 (b := wb) (gr_refl w6 none) (.int .i64 T) (.int .i64 N) (.int .i64 r')) H6.out.tri.set3)
            go_wp2_with fail
            go_meet
            exact ⟨T, N, r', num, ls, HO2, HS, HL, hid ⟨HN.out.1, by have := HN.out.2; omega⟩, H7⟩
        go_wp2_with fail
        go_meet
        exact ⟨m', ba', r', num, ls, HO, HS, HL, hid ⟨HN.out.1, by have := HN.out.2; omega⟩, HX⟩
      case rest =>
        obtain ⟨m2, ba2, r2, num2, ls2, HO2, HS2, HL2, HN2, H2⟩ := hcut
        clear HO HS HL HN HI HN' e0 e1 e2 e3 e4 e5 e6 e7
        cases ls2 with
        | nil =>
          as_aux_lemma =>
            obtain ⟨a9, c9, rfl⟩ := H2.out.ls.slice
            go_wp2_with fail
            refine (ply_next_none H2.out).mono ?_
            rintro e w5 ⟨rfl, h5⟩
            have H5 := hid h5
            clear h5
            have HLen := hid (ply_len (n := 0) H5.out rfl)
            go_wp2_with fail
            refine HLen.out.mono ?_
            rintro e w6 ⟨rfl, rfl⟩
            go_wp2_with fail
            go_roundw
            case rel => exact ⟨i + 1, m2, ba2, r2, num2, [], by go_num, by omega, HO2, HS2, HL2, HN2, H5⟩
            case measure => simp [intOf]; omega
        | cons x l =>
          as_aux_lemma =>
            obtain ⟨g, off9, cp, rfl, hcp, -, -⟩ := ply_first H2.out.ls
            go_wp2_with fail
            refine (ply_next H2.out HS2.out HL2.out).mono ?_
            rintro e w5 ⟨rfl, h5⟩
            have H5 := hid h5
            have l5 : w5.cell? ⟨g, off9 + 5, none⟩ = some (.int .i64 x.t) := (ply_cells h5.ls).1 5 (by omega)
            have hlb : decide (0 < (l.length : Int) + 1) = true := pos_len l
            clear h5
            have HLen := hid (ply_len (n := l.length + 1) H5.out rfl)
            go_wp2_with fail
            refine HLen.out.mono ?_
            rintro e w6 ⟨rfl, rfl⟩
            go_wp2_with fail
            go_roundw
            case rel => exact ⟨i + 1, m2, ba2, r2, num2, x :: l, by go_num, by omega, HO2, HS2, HL2, HN2, H5⟩
            case measure => simp [intOf]; omega
    · have hil : len ≤ i := by omega
      clear hlt
      go_wp2_with fail
      go_ret
      have G9 : w.grownBy wr none := ply_end GA.out HI.out.keep Hwq.out (hb.out.symm.trans Hs2.out) (by rw [← hwb.out]; exact G3.out.size) HI.out.ap.qB
      exact ⟨rfl, gr_below G9 (Nat.le_refl _) (by simp)⟩
end Go.Proofs.Ytkcgpbehicjidaa
