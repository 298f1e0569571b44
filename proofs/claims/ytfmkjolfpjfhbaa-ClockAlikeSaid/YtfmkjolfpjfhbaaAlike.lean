/- ClockAlike: the walk. -/
import Derived.Test.YtfmkjolfpjfhbaaSets
import Derived.Test.YtfmkjolfpjfhbaaDriftAny
namespace Go.Proofs.Ytfmkjolfpjfhbaa
open Go.RowKit Go.Lib

theorem again_ok (t ba r at_ v : Int) (w : World) (hr : Hid (realB t = true)) (hs : Hid (shownB ba = true)) (hf : Hid (fastB r = true)) (ho : Hid (ClockOk t ba r)) (hn : Hid (nowB t at_ = true)) (hv : Hid (clockAt t ba r at_ = v)) :
    Calls Try.prog 25 #[.int .i64 t, .int .i64 ba, .int .i64 r, .int .i64 at_, .int .i64 v] w fun e w' => e = .returned (.bool true) ∧ w.grownBy w' none := by
  go_enter Try.func25, Try.ntmps25
  go_wp2_with fail
  refine (new_ok t ba r _ hr hs hf).mono ?_
  rintro e w1 ⟨rfl, hc, g1⟩
  go_wp2_with fail
  refine (now_ok _ t ba r at_ v _ hc ho.out hn.out hv).mono ?_
  rintro e w2 ⟨rfl, g2⟩
  go_wp2_with fail
  go_ret
  exact ⟨by simp, gr_trans g1 g2⟩

/-- Going on at another mark loses no more than one. -/
theorem alike_step (d e r : Int) : d * r / 1000000000 + e * r / 1000000000 - (d + e) * r / 1000000000 ≤ 0 ∧ -1 ≤ d * r / 1000000000 + e * r / 1000000000 - (d + e) * r / 1000000000 := by
  rw [Int.add_mul]
  generalize d * r = p
  generalize e * r = q
  omega

set_option maxRecDepth 100000 in
set_option maxHeartbeats 1000000 in
theorem alike_new_bad (m ba r x y : Int) (f : Nat) (w : World) (h : newB m ba r = false) :
    Calls Try.prog 7 #[.agg #[.int .i64 m, .int .i64 ba, .int .i64 r], .agg #[.int .i64 x, .int .i64 y], .float .f64 f] w fun e w' => e = .returned (.bool true) ∧ Below w.heap.size w w' := by
  obtain ⟨n, c, hd, hrd⟩ := drift_both f
  have H := hid h; clear h
  have Hd := hid hd; have Hrd := hid hrd; clear hd hrd
  go_enter Try.func7, Try.ntmps7
  go_wp2_with fail
  refine (fixed_true _).mono ?_
  rintro e w1 ⟨rfl, g1⟩
  go_wp2_with fail
  refine (Hd.out _).mono ?_
  rintro e w2 ⟨rfl, g2⟩
  go_wp2_with fail
  refine (Hrd.out _).mono ?_
  rintro e w3 ⟨rfl, g3⟩
  have g30 := gr_trans (gr_trans g1 g2) g3
  clear g1 g2 g3
  have c0 := box_cell0 g30 0 _ rfl
  have c1 := box_cell0 g30 1 _ rfl
  have c2 := box_cell0 g30 2 _ rfl
  go_wp2_with (first | (go_at_call 14; refine (now_nil 0 _).mono ?_; rintro e w' ⟨rfl, rfl⟩) | (go_at_call 20; refine (when_nil 0 _).mono ?_; rintro e w' ⟨rfl, rfl⟩) | (go_at_call 22; refine (mark_nil _).mono ?_; rintro e w' ⟨rfl, rfl⟩) | (go_at_call 18; refine (set_nil 0 0 _).mono ?_; rintro e w' ⟨rfl, rfl⟩) | (go_at_call 16; refine (rate_nil 0 0 _).mono ?_; rintro e w' ⟨rfl, rfl⟩))
  refine (new_bad m ba r _ H.out).mono ?_
  rintro e w' ⟨rfl, rfl⟩
  go_wp2_with fail
  go_ret
  exact ⟨rfl, gr_below (gr_box2 g30) (Nat.le_refl _) (by simp)⟩

set_option maxRecDepth 100000 in
set_option maxHeartbeats 1000000 in
theorem alike_new_ok (m ba r x y : Int) (f : Nat) (w : World) (h : newB m ba r = true) :
    Calls Try.prog 7 #[.agg #[.int .i64 m, .int .i64 ba, .int .i64 r], .agg #[.int .i64 x, .int .i64 y], .float .f64 f] w fun e w' => e = .returned (.bool true) ∧ Below w.heap.size w w' := by
  obtain ⟨⟨hr, hf⟩, hs⟩ : (realB m = true ∧ fastB r = true) ∧ shownB ba = true := by simpa [newB] using h
  have ho := ClockOk.new hr hs hf
  obtain ⟨n, c, hd, hrd⟩ := drift_both f
  have Hr := hid hr; have Hf := hid hf; have Hs := hid hs; have Ho := hid ho
  have Hd := hid hd; have Hrd := hid hrd; clear hd hrd h hr hf hs ho
  obtain ⟨q, hq⟩ : ∃ q, Hid (nowB m x = q) := ⟨_, hid rfl⟩
  go_enter Try.func7, Try.ntmps7
  go_wp2_with fail
  refine (fixed_true _).mono ?_
  rintro e w1 ⟨rfl, g1⟩
  go_wp2_with fail
  refine (Hd.out _).mono ?_
  rintro e w2 ⟨rfl, g2⟩
  go_wp2_with fail
  refine (Hrd.out _).mono ?_
  rintro e w3 ⟨rfl, g3⟩
  have g30 := gr_trans (gr_trans g1 g2) g3
  clear g1 g2 g3
  have sz1 := g30.size
  simp at sz1
  have c0 := box_cell0 g30 0 _ rfl
  have c1 := box_cell0 g30 1 _ rfl
  have c2 := box_cell0 g30 2 _ rfl
  have d0 := box_cell1 g30 0 _ rfl
  have d1 := box_cell1 g30 1 _ rfl
  have g40 := gr_box2 g30
  clear g30
  go_wp2_with (first | (go_at_call 14; refine (now_nil 0 _).mono ?_; rintro e w' ⟨rfl, rfl⟩) | (go_at_call 20; refine (when_nil 0 _).mono ?_; rintro e w' ⟨rfl, rfl⟩) | (go_at_call 22; refine (mark_nil _).mono ?_; rintro e w' ⟨rfl, rfl⟩) | (go_at_call 18; refine (set_nil 0 0 _).mono ?_; rintro e w' ⟨rfl, rfl⟩) | (go_at_call 16; refine (rate_nil 0 0 _).mono ?_; rintro e w' ⟨rfl, rfl⟩))
  refine (new_ok m ba r _ Hr Hs Hf).mono ?_
  rintro e w4 ⟨rfl, hc4, g4⟩
  have c0 := gr_cell g4 c0
  have c1 := gr_cell g4 c1
  have c2 := gr_cell g4 c2
  have d0 := gr_cell g4 d0
  have d1 := gr_cell g4 d1
  obtain ⟨b, hb⟩ : ∃ b, Hid (w3.heap.size = b) := ⟨_, hid rfl⟩
  rw [hb.out] at hc4
  rw [hb.out]
  rw [hb.out] at sz1
  go_wp2_with fail
  refine (new_ok m ba r _ Hr Hs Hf).mono ?_
  rintro e w5 ⟨rfl, hd5, g5⟩
  have c0 := gr_cell g5 c0
  have c1 := gr_cell g5 c1
  have c2 := gr_cell g5 c2
  have d0 := gr_cell g5 d0
  have d1 := gr_cell g5 d1
  have hc5 := hc4.kept g5 (by simp)
  have g50 := gr_trans (gr_trans g40 g4) g5
  have sz4 := hc4.lt
  obtain ⟨d, hdd⟩ : ∃ d, Hid (w4.heap.size = d) := ⟨_, hid rfl⟩
  rw [hdd.out] at hd5 sz4
  rw [hdd.out]
  clear g4 g5 g40 hc4
  cases q
  · go_wp2_with fail
    refine (rate_bad b m ba r x r _ hc5 (by rw [hq.out]; rfl)).mono ?_
    rintro e w' ⟨rfl, rfl⟩
    go_wp2_with fail
    go_ret
    exact ⟨rfl, gr_below g50 (Nat.le_refl _) (by simp)⟩
  · have hq2 : realB x = true ∧ m ≤ x := by have := hq.out; simpa [nowB] using this
    have hx' := realB_iff.1 hq2.1
    have hf' := fastB_iff.1 Hf.out
    have ho2 := Ho.out.later hq2.2 hx'.2 hf'.1 hf'.2
    obtain ⟨z, hz⟩ : ∃ z, Hid (clockAt m ba r x = z) := ⟨_, hid rfl⟩
    rw [hz.out] at ho2
    have Ho2 := hid ho2
    have Hq2 := hid hq2
    clear hx' hf' ho2 hq2
    go_wp2_with fail
    refine (rate_ok b m ba r x r _ hc5 Ho.out hq.out Hf.out).mono ?_
    rintro e w6 ⟨rfl, hc6, g6⟩
    rw [hz.out] at hc6
    have hne : d ≠ b := by omega
    have hd6 := hd5.kept g6 (by simpa using hne)
    have c2 := g6.cell c2 (by simp; omega)
    have d0 := g6.cell d0 (by simp; omega)
    have d1 := g6.cell d1 (by simp; omega)
    have g60 : w.grownBy w6 none := gr_own g50 g6 (by omega)
    clear c0 c1 g6 g50 hc5 hd5 hne
    obtain ⟨p, hp⟩ : ∃ p, Hid (nowB x y = p) := ⟨_, hid rfl⟩
    obtain ⟨p2, hp2⟩ : ∃ p2, Hid (nowB m y = p2) := ⟨_, hid rfl⟩
    go_wp2_with fail
    refine (mark_ok b x z r _ hc6).mono ?_
    rintro e w65 ⟨rfl, g65⟩
    have hc6 := hc6.kept g65 (by simp)
    have hd6 := hd6.kept g65 (by simp)
    have c2 := gr_cell g65 c2
    have d0 := gr_cell g65 d0
    have d1 := gr_cell g65 d1
    have g60 := gr_trans g60 g65
    go_wp2_with fail
    cases p
    · refine (now_bad b x z r y _ hc6 hp.out).mono ?_
      rintro e w' ⟨rfl, rfl⟩
      go_wp2_with fail
      cases p2
      · refine (now_bad d m ba r y _ hd6 hp2.out).mono ?_
        rintro e w' ⟨rfl, rfl⟩
        go_wp2_with fail
        go_ret
        exact ⟨rfl, gr_below g60 (Nat.le_refl _) (by simp)⟩
      · obtain ⟨v, hv⟩ : ∃ v, Hid (clockAt m ba r y = v) := ⟨_, hid rfl⟩
        refine (now_ok d m ba r y v _ hd6 Ho.out hp2.out hv).mono ?_
        rintro e w7 ⟨rfl, g7⟩
        go_wp2_with fail
        go_ret
        exact ⟨rfl, gr_below (gr_trans g60 g7) (Nat.le_refl _) (by simp)⟩
    · obtain ⟨u, hu⟩ : ∃ u, Hid (clockAt x z r y = u) := ⟨_, hid rfl⟩
      obtain ⟨v, hv⟩ : ∃ v, Hid (clockAt m ba r y = v) := ⟨_, hid rfl⟩
      have hxy : realB y = true ∧ x ≤ y := by have := hp.out; simpa [nowB] using this
      have hp2' : nowB m y = true := by
        have h1 := Hq2.out.2
        have h2 := hxy.2
        unfold nowB
        rw [hxy.1, Bool.true_and]
        exact decide_eq_true (by omega)
      have hdiff : u - v ≤ 0 ∧ -1 ≤ u - v := by
        rw [← hu.out, ← hv.out, ← hz.out]
        have h3 := alike_step (x - m) (y - x) r
        rw [show x - m + (y - x) = y - m by omega] at h3
        unfold clockAt
        omega
      have ubd := clockAt_bd Ho2.out hxy.2
      have vbd := clockAt_bd Ho.out (show m ≤ y by have h1 := Hq2.out.2; have h2 := hxy.2; omega)
      have yb := realB_iff.1 hxy.1
      rw [hu.out] at ubd
      rw [hv.out] at vbd
      have u0 : -4503599627370496 ≤ u := by omega
      have u1 : u ≤ 4503599627370496 := by omega
      have v0 : -4503599627370496 ≤ v := by omega
      have v1 : v ≤ 4503599627370496 := by omega
      have duv0 := hdiff.1
      have duv1 := hdiff.2
      have Hp2 := hid hp2'
      clear hp2' hxy hdiff ubd vbd yb hp2
      refine (now_ok b x z r y u _ hc6 Ho2.out hp.out hu).mono ?_
      rintro e w7 ⟨rfl, g7⟩
      have hd7 := hd6.kept g7 (by simp)
      have c2 := gr_cell g7 c2
      have d0 := gr_cell g7 d0
      have d1 := gr_cell g7 d1
      go_wp2_with fail
      refine (now_ok d m ba r y v _ hd7 Ho.out Hp2.out hv).mono ?_
      rintro e w8 ⟨rfl, g8⟩
      have c2 := gr_cell g8 c2
      have d0 := gr_cell g8 d0
      have d1 := gr_cell g8 d1
      have g80 := gr_trans (gr_trans g60 g7) g8
      clear g60 g7 g8
      by_cases hzs : shownB z = true
      · have hzs' := shownB_iff.1 hzs
        obtain ⟨z0, z1⟩ := hzs'
        have Hzs := hid hzs; clear hzs
        have hrx : Hid (realB x = true) := hid Hq2.out.1
        go_wp2_with (go_at_call 25; refine (again_ok x z r y u _ hrx Hzs Hf Ho2 hp hu).mono ?_; rintro e w9 ⟨rfl, g9⟩)
        go_ret
        exact ⟨by simp, gr_below (gr_trans g80 g9) (Nat.le_refl _) (by simp)⟩
      · have hz2 : z < -1125899906842624 ∨ 1125899906842624 < z := by
          rcases Int.lt_or_le z (-1125899906842624) with h1 | h1
          · exact .inl h1
          · rcases Int.lt_or_le 1125899906842624 z with h2 | h2
            · exact .inr h2
            · exact absurd (shownB_iff.2 ⟨h1, h2⟩) hzs
        clear hzs
        rcases hz2 with hz2 | hz2
        all_goals
          go_wp2_with fail
          go_ret
          exact ⟨by simp [*], gr_below g80 (Nat.le_refl _) (by simp)⟩
end Go.Proofs.Ytfmkjolfpjfhbaa
