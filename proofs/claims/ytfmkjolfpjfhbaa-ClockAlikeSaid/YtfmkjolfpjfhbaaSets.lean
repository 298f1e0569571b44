/- ClockSets: the walk. -/
import Derived.Test.YtfmkjolfpjfhbaaWhens
namespace Go.Proofs.Ytfmkjolfpjfhbaa
open Go.RowKit Go.Lib

theorem gr_box2 {w w1 : World} {o o' : Obj} (h : ((w.alloc o).alloc o').grownBy w1 none) : w.grownBy w1 none := gr_box (gr_box h)
theorem box_cell0 {w w1 : World} {c : Array Value} {t : TypeId} {o : Obj} (h : ((w.alloc (.cells c t)).alloc o).grownBy w1 none) (i : Nat) (v : Value) (hv : c[i]? = some v) : w1.cell? ⟨w.heap.size, i, none⟩ = some v :=
  gr_cell h (gr_cell (World.grownBy_alloc _ _ _) (by rw [World.cell?_alloc_new]; exact hv))
theorem box_cell1 {w w1 : World} {c : Array Value} {t : TypeId} {o : Obj} (h : ((w.alloc o).alloc (.cells c t)).grownBy w1 none) (i : Nat) (v : Value) (hv : c[i]? = some v) : w1.cell? ⟨w.heap.size + 1, i, none⟩ = some v := by
  have := box_cell h i v hv
  simpa using this

theorem sets_new_bad (m ba r x y z : Int) (w : World) (h : newB m ba r = false) :
    Calls Try.prog 8 #[.agg #[.int .i64 m, .int .i64 ba, .int .i64 r], .agg #[.int .i64 x, .int .i64 y, .int .i64 z]] w fun e w' => e = .returned (.bool true) ∧ Below w.heap.size w w' := by
  have H := hid h; clear h
  go_enter Try.func8, Try.ntmps8
  go_wp2_with fail
  refine (fixed_true _).mono ?_
  rintro e w1 ⟨rfl, g1⟩
  have c0 := box_cell0 g1 0 _ rfl
  have c1 := box_cell0 g1 1 _ rfl
  have c2 := box_cell0 g1 2 _ rfl
  go_wp2_with fail
  refine (new_bad m ba r _ H.out).mono ?_
  rintro e w' ⟨rfl, rfl⟩
  go_wp2_with fail
  go_ret
  exact ⟨rfl, gr_below (gr_box2 g1) (Nat.le_refl _) (by simp)⟩

theorem sets_set_bad (m ba r x y z : Int) (w : World) (h : newB m ba r = true) (h2 : (nowB m x && shownB y) = false) :
    Calls Try.prog 8 #[.agg #[.int .i64 m, .int .i64 ba, .int .i64 r], .agg #[.int .i64 x, .int .i64 y, .int .i64 z]] w fun e w' => e = .returned (.bool true) ∧ Below w.heap.size w w' := by
  obtain ⟨hr, hf, hs⟩ := newB_parts h
  have Hr := hid hr; have Hf := hid hf; have Hs := hid hs; have H2 := hid h2
  clear h hr hf hs h2
  go_enter Try.func8, Try.ntmps8
  go_wp2_with fail
  refine (fixed_true _).mono ?_
  rintro e w1 ⟨rfl, g1⟩
  have c0 := box_cell0 g1 0 _ rfl
  have c1 := box_cell0 g1 1 _ rfl
  have c2 := box_cell0 g1 2 _ rfl
  go_wp2_with fail
  refine (new_ok m ba r _ Hr Hs Hf).mono ?_
  rintro e w2 ⟨rfl, hc2, g2⟩
  have d0 := gr_cell g2 (box_cell1 g1 0 _ rfl)
  have d1 := gr_cell g2 (box_cell1 g1 1 _ rfl)
  obtain ⟨b, hb⟩ : ∃ b, Hid (w1.heap.size = b) := ⟨_, hid rfl⟩
  rw [hb.out] at hc2
  rw [hb.out]
  go_wp2_with fail
  refine (set_bad b m ba r x y _ hc2 H2.out).mono ?_
  rintro e w' ⟨rfl, rfl⟩
  go_wp2_with fail
  go_ret
  exact ⟨rfl, gr_below (gr_trans (gr_box2 g1) g2) (Nat.le_refl _) (by simp)⟩

theorem sets_set_ok (m ba r x y z : Int) (w : World) (h : newB m ba r = true) (h2 : (nowB m x && shownB y) = true) :
    Calls Try.prog 8 #[.agg #[.int .i64 m, .int .i64 ba, .int .i64 r], .agg #[.int .i64 x, .int .i64 y, .int .i64 z]] w fun e w' => e = .returned (.bool true) ∧ Below w.heap.size w w' := by
  obtain ⟨hr, hf, hs⟩ := newB_parts h
  obtain ⟨h3, h4⟩ : nowB m x = true ∧ shownB y = true := by simpa using h2
  have hx : realB x = true := by have : realB x = true ∧ m ≤ x := by simpa [nowB] using h3
                                 exact this.1
  have ho := ClockOk.new hr hs hf
  have hx' := realB_iff.1 hx
  have hy' := shownB_iff.1 h4
  have ho2 := ho.set hx'.1 hx'.2 hy'.1 hy'.2
  have hxx : nowB x x = true := by simp [nowB, hx]
  have hat : Hid (clockAt x y r x = y) := hid (clockAt_mark x y r)
  obtain ⟨v, hv⟩ : ∃ v, Hid (clockAt x y r z = v) := ⟨_, hid rfl⟩
  have Hr := hid hr; have Hf := hid hf; have Hs := hid hs; have H3 := hid h3; have H4 := hid h4; have Hx := hid hx; have Ho2 := hid ho2; have Hxx := hid hxx
  obtain ⟨q, hq⟩ : ∃ q, Hid (nowB x z = q) := ⟨_, hid rfl⟩
  clear h hr hf hs h2 h3 h4 hx ho hx' hy' ho2 hxx
  go_enter Try.func8, Try.ntmps8
  go_wp2_with fail
  refine (fixed_true _).mono ?_
  rintro e w1 ⟨rfl, g1⟩
  have c0 := box_cell0 g1 0 _ rfl
  have c1 := box_cell0 g1 1 _ rfl
  have c2 := box_cell0 g1 2 _ rfl
  go_wp2_with fail
  refine (new_ok m ba r _ Hr Hs Hf).mono ?_
  rintro e w2 ⟨rfl, hc2, g2⟩
  have d0 := gr_cell g2 (box_cell1 g1 0 _ rfl)
  have d1 := gr_cell g2 (box_cell1 g1 1 _ rfl)
  have d2 := gr_cell g2 (box_cell1 g1 2 _ rfl)
  have c2' := gr_cell g2 c2
  have sz1 := g1.size
  have sz2 := hc2.lt
  simp at sz1
  obtain ⟨b, hb⟩ : ∃ b, Hid (w1.heap.size = b) := ⟨_, hid rfl⟩
  rw [hb.out] at hc2 sz1 sz2
  rw [hb.out]
  clear c0 c1 c2
  go_wp2_with fail
  refine (set_ok b m ba r x y _ hc2 H3.out H4.out).mono ?_
  rintro e w3 ⟨rfl, hc3, g3⟩
  have g30 : w.grownBy w3 none := gr_own (gr_trans (gr_box2 g1) g2) g3 (by omega)
  have e0 := g3.cell d0 (by simp; omega)
  have e1 := g3.cell d1 (by simp; omega)
  have e2 := g3.cell d2 (by simp; omega)
  have k2 := g3.cell c2' (by simp; omega)
  clear d0 d1 d2 c2' g3 g2 g1 hc2
  go_wp2_with fail
  refine (new_ok x y r _ Hx H4 Hf).mono ?_
  rintro e w4 ⟨rfl, hd4, g4⟩
  have hc4 := hc3.kept g4 (by simp)
  have e0 := gr_cell g4 e0
  have e1 := gr_cell g4 e1
  have e2 := gr_cell g4 e2
  obtain ⟨d, hd⟩ : ∃ d, Hid (w3.heap.size = d) := ⟨_, hid rfl⟩
  rw [hd.out] at hd4
  rw [hd.out]
  clear k2
  go_wp2_with fail
  refine (now_ok b x y r x y _ hc4 Ho2.out Hxx.out hat).mono ?_
  rintro e w5 ⟨rfl, g5⟩
  have hc5 := hc4.kept g5 (by simp)
  have hd5 := hd4.kept g5 (by simp)
  have e1 := gr_cell g5 e1
  have e2 := gr_cell g5 e2
  cases q
  · go_wp2_with fail
    refine (now_bad b x y r z _ hc5 hq.out).mono ?_
    rintro e w' ⟨rfl, rfl⟩
    go_wp2_with fail
    refine (now_bad d x y r z _ hd5 hq.out).mono ?_
    rintro e w' ⟨rfl, rfl⟩
    go_wp2_with fail
    go_ret
    exact ⟨rfl, gr_below (gr_trans (gr_trans g30 g4) g5) (Nat.le_refl _) (by simp)⟩
  · go_wp2_with fail
    refine (now_ok b x y r z v _ hc5 Ho2.out hq.out hv).mono ?_
    rintro e w6 ⟨rfl, g6⟩
    have hd6 := hd5.kept g6 (by simp)
    have e1 := gr_cell g6 e1
    have e2 := gr_cell g6 e2
    go_wp2_with fail
    refine (now_ok d x y r z v _ hd6 Ho2.out hq.out hv).mono ?_
    rintro e w7 ⟨rfl, g7⟩
    go_wp2_with fail
    go_ret
    exact ⟨by simp, gr_below (gr_trans (gr_trans (gr_trans (gr_trans g30 g4) g5) g6) g7) (Nat.le_refl _) (by simp)⟩
end Go.Proofs.Ytfmkjolfpjfhbaa
