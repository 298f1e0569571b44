/- ClockWhens: the walk. -/
import Derived.Test.YtfmkjolfpjfhbaaOnwards
namespace Go.Proofs.Ytfmkjolfpjfhbaa
open Go.RowKit Go.Lib

theorem whens_new_bad (m ba r n : Int) (w : World) (h : newB m ba r = false) :
    Calls Try.prog 5 #[.agg #[.int .i64 m, .int .i64 ba, .int .i64 r], .int .i64 n] w fun e w' => e = .returned (.bool true) ∧ Below w.heap.size w w' := by
  have H := hid h; clear h
  go_enter Try.func5, Try.ntmps5
  go_wp2_with fail
  refine (fixed_true _).mono ?_
  rintro e w1 ⟨rfl, g1⟩
  have c0 := box_cell g1 0 _ rfl
  have c1 := box_cell g1 1 _ rfl
  have c2 := box_cell g1 2 _ rfl
  go_wp2_with fail
  refine (new_bad m ba r _ H.out).mono ?_
  rintro e w' ⟨rfl, rfl⟩
  go_wp2_with fail
  go_ret
  exact ⟨rfl, gr_below (gr_box g1) (Nat.le_refl _) (by simp)⟩

theorem newB_parts {m ba r : Int} (h : newB m ba r = true) : realB m = true ∧ fastB r = true ∧ shownB ba = true := by
  obtain ⟨⟨hr, hf⟩, hs⟩ : (realB m = true ∧ fastB r = true) ∧ shownB ba = true := by simpa [newB] using h
  exact ⟨hr, hf, hs⟩

theorem whens_none (m ba r n : Int) (w : World) (h : newB m ba r = true) (hn : clockAt m ba r 1125899906842624 < n) :
    Calls Try.prog 5 #[.agg #[.int .i64 m, .int .i64 ba, .int .i64 r], .int .i64 n] w fun e w' => e = .returned (.bool true) ∧ Below w.heap.size w w' := by
  obtain ⟨hr, hf, hs⟩ := newB_parts h
  have ho := ClockOk.new hr hs hf
  have hN : nowB m 1125899906842624 = true := by have := realB_iff.1 hr; simp [nowB, realB]; omega
  have Hr := hid hr; have Hf := hid hf; have Hs := hid hs; have Ho := hid ho; have HN := hid hN; have Hn := hid hn
  obtain ⟨x, hx⟩ : ∃ x, Hid (clockAt m ba r 1125899906842624 = x) := ⟨_, hid rfl⟩
  have hlt : x < n := by rw [← hx.out]; exact hn
  clear h hr hf hs ho hN hn
  go_enter Try.func5, Try.ntmps5
  go_wp2_with fail
  refine (fixed_true _).mono ?_
  rintro e w1 ⟨rfl, g1⟩
  have c0 := box_cell g1 0 _ rfl
  have c1 := box_cell g1 1 _ rfl
  have c2 := box_cell g1 2 _ rfl
  go_wp2_with fail
  refine (new_ok m ba r _ Hr Hs Hf).mono ?_
  rintro e w2 ⟨rfl, hc2, g2⟩
  obtain ⟨b, hb⟩ : ∃ b, Hid (w1.heap.size = b) := ⟨_, hid rfl⟩
  rw [hb.out] at hc2
  rw [hb.out]
  go_wp2_with fail
  refine (when_none b m ba r n _ hc2 Ho.out Hn.out).mono ?_
  rintro e w3 ⟨rfl, g3⟩
  have hc3 := hc2.kept g3 (by simp)
  go_wp2_with fail
  refine (now_ok b m ba r 1125899906842624 x _ hc3 Ho.out HN.out hx).mono ?_
  rintro e w4 ⟨rfl, g4⟩
  go_wp2_with fail
  go_ret
  refine ⟨?_, gr_below (gr_trans (gr_trans (gr_trans (gr_box g1) g2) g3) g4) (Nat.le_refl _) (by simp)⟩
  simp

theorem whens_mark (m ba r n : Int) (w : World) (h : newB m ba r = true) (ht : IsWhen m ba r n m) :
    Calls Try.prog 5 #[.agg #[.int .i64 m, .int .i64 ba, .int .i64 r], .int .i64 n] w fun e w' => e = .returned (.bool true) ∧ Below w.heap.size w w' := by
  obtain ⟨hr, hf, hs⟩ := newB_parts h
  have ho := ClockOk.new hr hs hf
  have hm := realB_iff.1 hr
  have hN : nowB m m = true := by simp [nowB, hr]
  have hM : nowB m (m - 1) = false := by simp [nowB]; omega
  have hx : Hid (clockAt m ba r m = ba) := hid (clockAt_mark m ba r)
  have hge : n ≤ ba := by have := ht.at_t; rw [hx.out] at this; exact this
  obtain ⟨hm0, hm1⟩ := hm
  have Hr := hid hr; have Hf := hid hf; have Hs := hid hs; have Ho := hid ho; have HN := hid hN; have HM := hid hM; have Ht := hid ht
  clear h hr hf hs ho hN hM ht
  go_enter Try.func5, Try.ntmps5
  go_wp2_with fail
  refine (fixed_true _).mono ?_
  rintro e w1 ⟨rfl, g1⟩
  have c0 := box_cell g1 0 _ rfl
  have c1 := box_cell g1 1 _ rfl
  have c2 := box_cell g1 2 _ rfl
  go_wp2_with fail
  refine (new_ok m ba r _ Hr Hs Hf).mono ?_
  rintro e w2 ⟨rfl, hc2, g2⟩
  obtain ⟨b, hb⟩ : ∃ b, Hid (w1.heap.size = b) := ⟨_, hid rfl⟩
  rw [hb.out] at hc2
  rw [hb.out]
  go_wp2_with fail
  refine (when_ok b m ba r n m _ hc2 Ho.out Ht.out).mono ?_
  rintro e w3 ⟨rfl, g3⟩
  have hc3 := hc2.kept g3 (by simp)
  go_wp2_with fail
  refine (now_ok b m ba r m ba _ hc3 Ho.out HN.out hx).mono ?_
  rintro e w4 ⟨rfl, g4⟩
  have hc4 := hc3.kept g4 (by simp)
  have d0 := gr_cell g4 (gr_cell g3 (gr_cell g2 c0))
  go_wp2_with fail
  refine (now_bad b m ba r (m - 1) _ hc4 HM.out).mono ?_
  rintro e w' ⟨rfl, rfl⟩
  go_wp2_with fail
  go_ret
  refine ⟨?_, gr_below (gr_trans (gr_trans (gr_trans (gr_box g1) g2) g3) g4) (Nat.le_refl _) (by simp)⟩
  simp

theorem whens_later (m ba r n t : Int) (w : World) (h : newB m ba r = true) (ht : IsWhen m ba r n t) (htm : m < t) :
    Calls Try.prog 5 #[.agg #[.int .i64 m, .int .i64 ba, .int .i64 r], .int .i64 n] w fun e w' => e = .returned (.bool true) ∧ Below w.heap.size w w' := by
  obtain ⟨hr, hf, hs⟩ := newB_parts h
  have ho := ClockOk.new hr hs hf
  have hm := realB_iff.1 hr
  have hN : nowB m t = true := by have := ht.lo; have := ht.hi; simp [nowB, realB]; omega
  have hM : nowB m (t - 1) = true := by have := ht.lo; have := ht.hi; simp [nowB, realB]; omega
  obtain ⟨x, hx⟩ : ∃ x, Hid (clockAt m ba r t = x) := ⟨_, hid rfl⟩
  obtain ⟨y, hy⟩ : ∃ y, Hid (clockAt m ba r (t - 1) = y) := ⟨_, hid rfl⟩
  have hge : n ≤ x := by rw [← hx.out]; exact ht.at_t
  have hlt : y < n := by rw [← hy.out]; exact ht.before (t - 1) (by omega) (by omega)
  have hne : (t == m) = false := by simp; omega
  obtain ⟨hm0, hm1⟩ := hm
  have ht1 := ht.hi
  have Hr := hid hr; have Hf := hid hf; have Hs := hid hs; have Ho := hid ho; have HN := hid hN; have HM := hid hM; have Ht := hid ht
  clear h hr hf hs ho hN hM ht
  go_enter Try.func5, Try.ntmps5
  go_wp2_with fail
  refine (fixed_true _).mono ?_
  rintro e w1 ⟨rfl, g1⟩
  have c0 := box_cell g1 0 _ rfl
  have c1 := box_cell g1 1 _ rfl
  have c2 := box_cell g1 2 _ rfl
  go_wp2_with fail
  refine (new_ok m ba r _ Hr Hs Hf).mono ?_
  rintro e w2 ⟨rfl, hc2, g2⟩
  obtain ⟨b, hb⟩ : ∃ b, Hid (w1.heap.size = b) := ⟨_, hid rfl⟩
  rw [hb.out] at hc2
  rw [hb.out]
  go_wp2_with fail
  refine (when_ok b m ba r n t _ hc2 Ho.out Ht.out).mono ?_
  rintro e w3 ⟨rfl, g3⟩
  have hc3 := hc2.kept g3 (by simp)
  go_wp2_with fail
  refine (now_ok b m ba r t x _ hc3 Ho.out HN.out hx).mono ?_
  rintro e w4 ⟨rfl, g4⟩
  have hc4 := hc3.kept g4 (by simp)
  go_wp2_with fail
  refine (now_ok b m ba r (t - 1) y _ hc4 Ho.out HM.out hy).mono ?_
  rintro e w5 ⟨rfl, g5⟩
  have d0 := gr_cell g5 (gr_cell g4 (gr_cell g3 (gr_cell g2 c0)))
  go_wp2_with fail
  go_ret
  refine ⟨?_, gr_below (gr_trans (gr_trans (gr_trans (gr_trans (gr_box g1) g2) g3) g4) g5) (Nat.le_refl _) (by simp)⟩
  simp

end Go.Proofs.Ytfmkjolfpjfhbaa
