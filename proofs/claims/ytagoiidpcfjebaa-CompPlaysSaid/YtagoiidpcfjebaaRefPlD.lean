/- tocsinlaw11.CompPlays, walked. -/
import Derived.Test.YtagoiidpcfjebaaRefPlC
import Derived.Test.YtagoiidpcfjebaaCompI
import Derived.Test.YtagoiidpcfjebaaLeaves
import Derived.Deep.CutBlock
namespace Go.Proofs.Ytagoiidpcfjebaa
open Go.RowKit Go.Shelf Go.Sort Go.Lib

/-- The script's rows. -/
def cpLeaves : List Leaf := [.int .i64, .int .i64, .int .i64, .int .i64, .int .i64, .int .u32, .int .i64]
theorem ne_lenK (n : Nat) (h : 0 < n) : ((n : Int) == 0) = false := by
  simp
  omega
theorem pos_lenK (n : Nat) (h : 0 < n) : decide (0 < (n : Int)) = true := by
  simp
  omega
theorem PC.slice {A W : World} {b : Nat} {win : Int} {v : Value} {ls : List CI} (h : PC A W b win v ls) : ∃ a cap, v = .slice a ls.length cap := h.row.slice
theorem pc_open {A w : World} {b : Nat} {win : Int} {v : Value} {ls : List CI} (h : PC A w b win v ls) : Calls Try.prog 16 #[.pointer (some ⟨b, 0, none⟩)] w fun r w5 => r = .returned (.bool (decide (0 < ls.length))) ∧ w5 = w := by
  rcases h.st with ⟨rfl, _, f0, vr, vc, cm0, hc⟩ | ⟨hlen, cm, hC, _⟩
  · exact open_same b win false f0 vr vc cm0 w hc
  · obtain ⟨vr, vc, hc, -⟩ := hC.ex
    refine (open_same b win true _ vr vc cm w hc).mono ?_
    rintro r w5 ⟨rfl, e⟩
    exact ⟨by rw [decide_eq_true hlen], e⟩

set_option maxRecDepth 100000 in
set_option maxHeartbeats 2000000 in
theorem cplays_main (win : Int) (hw : 0 ≤ win ∧ win ≤ 1048576) (a : Option Addr) (len cap : Nat) (V : Nat → Nat → Value) (hlen : len ≤ 140737488351232) (w : World) (hs : RowsOf w a len cpLeaves V) :
    Calls Try.prog 3 #[.int .i64 win, .slice a len cap] w fun e w' => e = .returned (.bool true) ∧ Below w.heap.size w w' := by
  have HW := hid hw
  obtain ⟨d0, d1⟩ := hw
  have Hrows := hid hs
  clear hs
  go_enter Try.func3, Try.ntmps3
  go_wp2_with fail
  refine (fixed_true _).mono ?_
  rintro e w1 ⟨rfl, g1⟩
  have G1 := hid g1
  clear g1
  go_wp2_with fail
  obtain ⟨b, hb⟩ : ∃ b, Hid (w1.heap.size = b) := ⟨_, hid rfl⟩
  refine (comp_new_ok win w1 d0 d1).mono ?_
  rintro e A ⟨rfl, hc, g2, hs2⟩
  rw [hb.out] at hc hs2
  rw [hb.out]
  have GA := hid (gr_trans G1.out g2)
  have Hwb : Hid (w.heap.size ≤ b) := hid (by rw [← hb.out]; exact G1.out.size)
  have HJ : Hid (PC A A b win (.slice none 0 0) []) := hid ⟨by omega, World.ownsRow_nil _ _ _ _, Below.refl _ _, .inl ⟨rfl, rfl, _, _, _, _, hc⟩⟩
  clear hc g2 hs2
  go_wp2_with fail
  go_loopw [7, 46] (fun vl vi wr => ∃ (i : Nat) (ls : List CI), vi = .int .i64 i ∧ i ≤ len ∧ Hid (PC A wr b win vl ls)) (fun _ vi _ => len - (intOf vi).toNat)
  case atStart => exact ⟨0, [], rfl, Nat.zero_le _, HJ⟩
  case round =>
    obtain ⟨i, ls, rfl, hi, HI⟩ := hrel
    by_cases hlt : i < len
    · rcases Hrows.out with h0 | ⟨xb, off, hxe, hxb, hcell⟩
      · omega
      subst hxe
      have key : ∀ (j : Nat) (l : Leaf), cpLeaves[j]? = some l → wr.cell? ⟨xb, off + i * 7 + j, none⟩ = some (V i j) ∧ l.ok (V i j) := fun j l hj => by
        obtain ⟨h1, h2⟩ := hcell i hlt j l hj
        refine ⟨?_, h2⟩
        have h3 := gr_cell GA.out h1
        have h4 := HI.out.keep.block xb (by have := Hwb.out; omega)
        simp only [World.cell?, h4]
        exact h3
      obtain ⟨e0, kd, hx0, _⟩ := key 0 _ rfl
      rw [hx0] at e0
      obtain ⟨e1, L, hx1, _⟩ := key 1 _ rfl
      rw [hx1] at e1
      obtain ⟨e2, k, hx2, _⟩ := key 2 _ rfl
      rw [hx2] at e2
      obtain ⟨e3, fr, hx3, _⟩ := key 3 _ rfl
      rw [hx3] at e3
      obtain ⟨e4, cy, hx4, _⟩ := key 4 _ rfl
      rw [hx4] at e4
      obtain ⟨e5, cr, hx5, _⟩ := key 5 _ rfl
      rw [hx5] at e5
      obtain ⟨e6, cl, hx6, _⟩ := key 6 _ rfl
      rw [hx6] at e6
      rw [Nat.add_zero] at e0
      clear key hcell hx0 hx1 hx2 hx3 hx4 hx5 hx6
      go_upto_block 2 with fail
      go_cut [7] from 47 to 142 (fun v7 wx => ∃ ls2 : List CI, Hid (PC A wx b win v7 ls2))
      case first =>
        have HX := hid (HI.out.grown (gr_alloc (gr_refl wr none) (.cells #[.int .i64 kd, .int .i64 L, .int .i64 k, .int .i64 fr, .int .i64 cy, .int .u32 cr, .int .i64 cl] 33)))
        by_cases k1 : kd = 1
        · subst k1
          obtain ⟨a9, c9, rfl⟩ := HI.out.slice
          obtain ⟨n, er, Mid, hadd, hradd⟩ := pc_add HI.out HW.out (.cells #[.int .i64 1, .int .i64 L, .int .i64 k, .int .i64 fr, .int .i64 cy, .int .u32 cr, .int .i64 cl] 33) L k fr cy cr cl
          have HAdd := hid hadd
          have HRadd := hid hradd
          clear hadd hradd
          go_wp2_with fail
          refine HAdd.out.mono ?_
          rintro e w5 ⟨rfl, hM, f5⟩
          have HM := hid hM
          have o1 := kcell f5 1 _ rfl
          have o2 := kcell f5 2 _ rfl
          have o3 := kcell f5 3 _ rfl
          have o4 := kcell f5 4 _ rfl
          have o5 := kcell f5 5 _ rfl
          have o6 := kcell f5 6 _ rfl
          clear hM f5
          go_wp2_with fail
          refine (HRadd.out w5 HM.out).mono ?_
          rintro e w6 ⟨v2, ls', rfl, h6⟩
          have H6 := hid h6
          clear h6 o1 o2 o3 o4 o5 o6
          go_wp2_with fail
          go_meet
          exact ⟨ls', H6⟩
        by_cases k2 : kd = 2
        · subst k2
          clear k1
          by_cases hl0 : ls.length = 0
          · obtain ⟨a9, c9, hsl⟩ := HI.out.slice
            rw [hl0] at hsl
            subst hsl
            go_wp2_with fail
            refine (pc_early HI.out HW.out (.cells #[.int .i64 2, .int .i64 L, .int .i64 k, .int .i64 fr, .int .i64 cy, .int .u32 cr, .int .i64 cl] 33) L (fun h => absurd h (by omega))).mono ?_
            rintro e w5 ⟨rfl, h5, f5⟩
            have o1 := kcell f5 1 _ rfl
            clear f5
            obtain ⟨Z, hZ⟩ : ∃ Z, Hid (w5.heap.size = Z) := ⟨_, hid rfl⟩
            obtain ⟨w6, hw6⟩ : ∃ w6, Hid (w5.alloc (.cells #[.int .i64 0, .int .u32 0, .int .i64 0] 39) = w6) := ⟨_, hid rfl⟩
            have g6 : w5.grownBy w6 none := by rw [← hw6.out]; exact gr_alloc (gr_refl w5 none) _
            have F6 := hid (show w6.heap[Z]? = some (.cells #[.int .i64 0, .int .u32 0, .int .i64 0] 39) by rw [← hw6.out, ← hZ.out]; exact heap_alloc_new w5 _)
            have o1' := gr_cell g6 o1
            go_upto_region 21 with fail
            rw [hw6.out, hZ.out]
            clear o1
            have H6 := hid (h5.grown g6)
            clear h5 g6
            go_quiet (fail)
            clear o1'
            obtain ⟨w7, hw7⟩ : ∃ w7, w6.drewN nq = w7 := ⟨_, rfl⟩
            have g7 : w6.grownBy w7 none := hw7 ▸ gr_drewN (gr_refl w6 none) nq
            rw [hw7]
            have H7 := hid (H6.out.grown g7)
            have F7 := gr_heap g7 F6.out (by simp)
            have z0 := kcell F7 0 _ rfl
            have z1 := kcell F7 1 _ rfl
            have z2 := kcell F7 2 _ rfl
            clear hw7 g7 nq F7
            go_wp2_with fail
            go_roundw
            case rel => exact ⟨i + 1, ls, by go_num, by omega, H7⟩
            case measure => simp [intOf]; omega
          · have hpos : 0 < ls.length := by omega
            obtain ⟨g, c5, e5, hc5, ⟨hg0, hg1⟩, hcells⟩ := HI.out.row.cells hpos
            obtain ⟨n, hn⟩ : ∃ n, Hid (ls.length = n) := ⟨_, hid rfl⟩
            obtain ⟨f, hf⟩ : ∃ f, Hid ((cith ls 0).l = f) := ⟨_, hid rfl⟩
            rw [hn.out] at e5
            subst e5
            clear hcells hc5
            have hpos' : 0 < n := by rw [← hn.out]; exact hpos
            have hnb := ne_lenK n hpos'
            have hfb : Hid (-1125899906842624 ≤ f ∧ f ≤ 1125899906842624) := hid (by
              rcases HI.out.st with ⟨h, _⟩ | ⟨_, cm, _, _, h, _⟩
              · rw [h] at hpos; simp at hpos
              · rw [hf.out] at h; exact h)
            have first : Hid (∀ W, PC A W b win (.slice (some ⟨g, 0, none⟩) n c5) ls → W.cell? ⟨g, 0, none⟩ = some (.int .i64 f)) := hid (fun W h9 => by
              obtain ⟨g', c', e', -, -, hcc⟩ := h9.row.cells hpos
              injection e' with e1 e2 e3
              injection e1 with e4
              injection e4 with e5 e6
              subst e5
              have h8 := (hcc W rfl 0 hpos).1
              rw [Nat.zero_mul, hf.out] at h8
              exact h8)
            have firstM : Hid (∀ W, MC A W b win (.slice (some ⟨g, 0, none⟩) n c5) ls → W.cell? ⟨g, 0, none⟩ = some (.int .i64 f)) := hid (fun W h9 => by
              obtain ⟨g', c', e', -, -, hcc⟩ := h9.row.cells hpos
              injection e' with e1 e2 e3
              injection e1 with e4
              injection e4 with e5 e6
              subst e5
              have h8 := (hcc W rfl 0 hpos).1
              rw [Nat.zero_mul, hf.out] at h8
              exact h8)
            have wfw : IntKind.i64.wrap (f + win) = f + win := by have := hfb.out; rw [IntKind.wrap_i64]; omega
            have f4 : (0 : Int) < (n : Int) := by omega
            by_cases he : L < f + win
            · go_wp2_with fail
              refine (pc_early HI.out HW.out (.cells #[.int .i64 2, .int .i64 L, .int .i64 k, .int .i64 fr, .int .i64 cy, .int .u32 cr, .int .i64 cl] 33) L (fun _ => by rw [hf.out]; exact he)).mono ?_
              rintro e w5 ⟨rfl, h5, f5⟩
              have o1 := kcell f5 1 _ rfl
              clear f5
              obtain ⟨Z, hZ⟩ : ∃ Z, Hid (w5.heap.size = Z) := ⟨_, hid rfl⟩
              obtain ⟨w6, hw6⟩ : ∃ w6, Hid (w5.alloc (.cells #[.int .i64 0, .int .u32 0, .int .i64 0] 39) = w6) := ⟨_, hid rfl⟩
              have g6 : w5.grownBy w6 none := by rw [← hw6.out]; exact gr_alloc (gr_refl w5 none) _
              have F6 := hid (show w6.heap[Z]? = some (.cells #[.int .i64 0, .int .u32 0, .int .i64 0] 39) by rw [← hw6.out, ← hZ.out]; exact heap_alloc_new w5 _)
              have o1' := gr_cell g6 o1
              go_upto_region 21 with fail
              rw [hw6.out, hZ.out]
              clear o1
              have H6 := hid (h5.grown g6)
              have q0 := first.out w6 H6.out
              clear h5 g6
              go_quiet (fail)
              clear q0
              clear o1'
              obtain ⟨w7, hw7⟩ : ∃ w7, w6.drewN nq = w7 := ⟨_, rfl⟩
              have g7 : w6.grownBy w7 none := hw7 ▸ gr_drewN (gr_refl w6 none) nq
              rw [hw7]
              have H7 := hid (H6.out.grown g7)
              have F7 := gr_heap g7 F6.out (by simp)
              have z0 := kcell F7 0 _ rfl
              have z1 := kcell F7 1 _ rfl
              have z2 := kcell F7 2 _ rfl
              clear hw7 g7 nq F7
              go_wp2_with fail
              go_roundw
              case rel => exact ⟨i + 1, ls, by go_num, by omega, H7⟩
              case measure => simp [intOf]; omega
            · obtain ⟨p, c, y, hclose, hcomp⟩ := pc_close HI.out HW.out (.cells #[.int .i64 2, .int .i64 L, .int .i64 k, .int .i64 fr, .int .i64 cy, .int .u32 cr, .int .i64 cl] 33) L hpos (by rw [hf.out]; omega)
              have HClose := hid hclose
              have HComp := hid hcomp
              clear hclose hcomp
              go_wp2_with fail
              refine HClose.out.mono ?_
              rintro e w5 ⟨rfl, h5, f5⟩
              have o1 := kcell f5 1 _ rfl
              clear f5
              obtain ⟨Z, hZ⟩ : ∃ Z, Hid (w5.heap.size = Z) := ⟨_, hid rfl⟩
              obtain ⟨w6, hw6⟩ : ∃ w6, Hid (w5.alloc (.cells #[.int .i64 p, .int .u32 (c : Int), .int .i64 y] 39) = w6) := ⟨_, hid rfl⟩
              have g6 : w5.grownBy w6 none := by rw [← hw6.out]; exact gr_alloc (gr_refl w5 none) _
              have F6 := hid (show w6.heap[Z]? = some (.cells #[.int .i64 p, .int .u32 (c : Int), .int .i64 y] 39) by rw [← hw6.out, ← hZ.out]; exact heap_alloc_new w5 _)
              have o1' := gr_cell g6 o1
              go_upto_region 21 with fail
              rw [hw6.out, hZ.out]
              clear o1
              have H6 := hid (h5.grown g6)
              have q0 := firstM.out w6 H6.out
              clear h5 g6
              go_quiet (fail)
              clear q0 o1'
              obtain ⟨w7, hw7⟩ : ∃ w7, w6.drewN nq = w7 := ⟨_, rfl⟩
              have g7 : w6.grownBy w7 none := hw7 ▸ gr_drewN (gr_refl w6 none) nq
              rw [hw7]
              have H7 := hid (H6.out.grown g7)
              have F7 := hid (gr_heap g7 F6.out (by simp))
              clear hw7 g7 nq
              go_wp2_with fail
              refine (HComp.out w7 H7.out).mono ?_
              rintro e w8 ⟨rfl, g8⟩
              have H8 := hid (H7.out.grown g8)
              have F8 := hid (gr_heap g8 F7.out (by simp))
              clear g8
              obtain ⟨Y, hY⟩ : ∃ Y, Hid (w8.heap.size = Y) := ⟨_, hid rfl⟩
              obtain ⟨w9, hw9⟩ : ∃ w9, Hid (w8.alloc (.cells #[.int .i64 p, .int .u32 (c : Int), .int .i64 y] 44) = w9) := ⟨_, hid rfl⟩
              have g9 : w8.grownBy w9 none := by rw [← hw9.out]; exact gr_alloc (gr_refl w8 none) _
              have Y9 := hid (show w9.heap[Y]? = some (.cells #[.int .i64 p, .int .u32 (c : Int), .int .i64 y] 44) by rw [← hw9.out, ← hY.out]; exact heap_alloc_new w8 _)
              have H9 := hid (H8.out.grown g9)
              have F9 := hid (gr_heap g9 F8.out (by simp))
              clear g9
              have z0 := kcell F9.out 0 _ rfl
              have z1 := kcell F9.out 1 _ rfl
              have z2 := kcell F9.out 2 _ rfl
              have y0 := kcell Y9.out 0 _ rfl
              have y1 := kcell Y9.out 1 _ rfl
              have y2 := kcell Y9.out 2 _ rfl
              go_upto_region 25 with fail
              rw [hw9.out, hY.out]
              go_wp2_with fail
              refine (frame_any p c y 7 w9).mono ?_
              rintro e w10 ⟨rfl, g10⟩
              clear z0 z1 z2 y0 y1 y2
              have H10 := hid (H9.out.grown g10)
              have Y10 := gr_heap g10 Y9.out (by simp)
              have A10 : w10.grownBy (w10.alloc (.cells #[.int .i64 2, .int .i64 7, .int .i64 y, .int .u32 (c : Int), .int .i64 0] 31)) none := gr_alloc (gr_refl w10 none) _
              have y1 := gr_cell A10 (kcell Y10 1 _ rfl)
              have y2 := gr_cell A10 (kcell Y10 2 _ rfl)
              have H11 := hid (H10.out.grown A10)
              clear g10 Y10 A10
              go_wp2_with fail
              go_meet
              exact ⟨[], hid H11.out.pc⟩
        go_wp2_with fail
        go_meet
        exact ⟨ls, HX⟩
      case rest =>
        obtain ⟨ls2, H2⟩ := hcut
        clear HI e0 e1 e2 e3 e4 e5 e6
        obtain ⟨a8, c8, rfl⟩ := H2.out.slice
        have HO := hid (pc_open H2.out)
        go_wp2_with fail
        refine HO.out.mono ?_
        rintro e w6 ⟨rfl, rfl⟩
        go_wp2_with fail
        go_roundw
        case rel => exact ⟨i + 1, ls2, by go_num, by omega, H2⟩
        case measure => simp [intOf]; omega
    · have hil : len ≤ i := by omega
      clear hlt
      go_wp2_with fail
      go_ret
      exact ⟨rfl, (gr_below GA.out (Nat.le_refl _) (by simp)).trans (HI.out.keep.mono Hwb.out)⟩
end Go.Proofs.Ytagoiidpcfjebaa
