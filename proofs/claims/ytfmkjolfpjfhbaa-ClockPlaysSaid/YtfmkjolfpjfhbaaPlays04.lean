/- ClockPlays: the walk. -/
import Derived.Test.YtfmkjolfpjfhbaaDrifts
import Derived.Test.YtfmkjolfpjfhbaaRef04W
namespace Go.Proofs.Ytfmkjolfpjfhbaa
open Go.RowKit Go.Lib

set_option maxRecDepth 100000 in
theorem plays_new_bad (m ba r : Int) (a : Option Addr) (len cap : Nat) (w : World) (h : newB m ba r = false) :
    Calls Try.prog 3 #[.agg #[.int .i64 m, .int .i64 ba, .int .i64 r], .slice a len cap] w fun e w' => e = .returned (.bool true) ∧ Below w.heap.size w w' := by
  have H := hid h
  unfold newB at h
  generalize hr : realB m = x at *
  generalize hf : fastB r = y at *
  generalize hs : shownB ba = z at *
  have Hr := hid hr; have Hf := hid hf; have Hs := hid hs
  clear hr hf hs
  cases x <;> cases y <;> cases z <;> simp at h
  all_goals
    go_enter Try.func3, Try.ntmps3
    go_wp2_with fail
    refine (fixed_true _).mono ?_
    rintro e w1 ⟨rfl, g1⟩
    have c0 := box_cell g1 0 _ rfl
    have c1 := box_cell g1 1 _ rfl
    have c2 := box_cell g1 2 _ rfl
    go_wp2_with fail
    refine (new_bad m ba r _ H.out).mono ?_
    rintro e w' ⟨rfl, rfl⟩
    go_wp2_with (first | (go_at_call 11; refine (rreal_at m _ _ Hr).mono ?_; rintro e w' ⟨rfl, rfl⟩) | (go_at_call 13; refine (rfast_at r _ _ Hf).mono ?_; rintro e w' ⟨rfl, rfl⟩) | (go_at_call 12; refine (rshown_at ba _ _ Hs).mono ?_; rintro e w' ⟨rfl, rfl⟩))
    go_ret
    exact ⟨rfl, gr_below (gr_box g1) (Nat.le_refl _) (by simp)⟩

set_option maxRecDepth 100000 in
set_option maxHeartbeats 4000000 in
theorem plays_walk (m ba r : Int) (a : Option Addr) (len cap : Nat) (f : Nat → Nat → Int) (w : World) (h : newB m ba r = true) (hs : RowsAt w a len 3 f) :
    Calls Try.prog 3 #[.agg #[.int .i64 m, .int .i64 ba, .int .i64 r], .slice a len cap] w fun e w' => e = .returned (.bool true) ∧ Below w.heap.size w w' := by
  obtain ⟨hr, hf, hs'⟩ := newB_parts h
  have ho := ClockOk.new hr hs' hf
  have Hr := hid hr; have Hf := hid hf; have Hs := hid hs'; have Ho := hid ho
  obtain ⟨hlen, hrows⟩ := hs
  have Hrows := hid hrows
  clear h hr hf hs' ho hrows
  go_enter Try.func3, Try.ntmps3
  go_wp2_with fail
  refine (fixed_true _).mono ?_
  rintro e w1 ⟨rfl, g1⟩
  have c0 := box_cell g1 0 _ rfl
  have c1 := box_cell g1 1 _ rfl
  have c2 := box_cell g1 2 _ rfl
  go_wp2_with fail
  refine (new_ok m ba r _ Hr Hs Hf).mono ?_
  rintro e w2 ⟨rfl, hc2, g2⟩
  have sz1 := g1.size
  simp at sz1
  have d0 := gr_cell g2 c0
  have d1 := gr_cell g2 c1
  have d2 := gr_cell g2 c2
  obtain ⟨b, hb⟩ : ∃ b, Hid (w1.heap.size = b) := ⟨_, hid rfl⟩
  rw [hb.out] at hc2 sz1
  rw [hb.out]
  have g0 := gr_trans (gr_box g1) g2
  clear c0 c1 c2 g1 g2
  go_wp2_with (first | (go_at_call 11; refine (rreal_at m _ _ Hr).mono ?_; rintro e w' ⟨rfl, rfl⟩) | (go_at_call 13; refine (rfast_at r _ _ Hf).mono ?_; rintro e w' ⟨rfl, rfl⟩) | (go_at_call 12; refine (rshown_at ba _ _ Hs).mono ?_; rintro e w' ⟨rfl, rfl⟩))
  clear d0 d1 d2
  have hT2 := Trio.new 31 w2 m ba r
  have hC2 := hc2.kept (World.grownBy_alloc w2 (.cells #[.int .i64 m, .int .i64 ba, .int .i64 r] 31) none) (by simp)
  have lb := hc2.lt
  obtain ⟨bw, hbw⟩ : ∃ bw, Hid (w2.heap.size = bw) := ⟨_, hid rfl⟩
  rw [hbw.out] at hT2 lb
  rw [hbw.out]
  have g02 := gr_alloc g0 (.cells #[.int .i64 m, .int .i64 ba, .int .i64 r] 31)
  clear g0 hc2
  have hne : some b ≠ some bw := by simp; omega
  have hne' : some bw ≠ some b := by simp; omega
  have hwb : w.heap.size ≤ b := by omega
  have hwbw : w.heap.size ≤ bw := by omega
  go_loopw [66] (fun i wr => ∃ (k : Nat) (m' ba' r' : Int), i = .int .i64 k ∧ k ≤ len ∧ ClockOk m' ba' r' ∧ Clk wr b m' ba' r' ∧ Trio 31 wr bw m' ba' r' ∧ w.grownBy wr none) (fun i _ => len - (intOf i).toNat)
  case atStart => exact ⟨0, m, ba, r, rfl, Nat.zero_le _, Ho.out, hC2, hT2, g02⟩
  case round =>
    obtain ⟨k, m', ba', r', rfl, hk, hO, hC, hT, hG⟩ := hrel
    have HO := hid hO; clear hO
    by_cases hlt : k < len
    · rcases Hrows.out with h0 | ⟨ab, off, rfl, hab, hcell⟩
      · omega
      obtain ⟨x0, hx0⟩ : ∃ x, Hid (f k 0 = x) := ⟨_, hid rfl⟩
      obtain ⟨x1, hx1⟩ : ∃ x, Hid (f k 1 = x) := ⟨_, hid rfl⟩
      obtain ⟨x2, hx2⟩ : ∃ x, Hid (f k 2 = x) := ⟨_, hid rfl⟩
      have e0 : wr.cell? ⟨ab, off + k * 3, none⟩ = some (.int .i64 x0) := by rw [← hx0.out]; exact hG.cell (hcell k hlt 0 (by omega)).1 (by simp)
      have e1 : wr.cell? ⟨ab, off + k * 3 + 1, none⟩ = some (.int .i64 x1) := by rw [← hx1.out]; exact hG.cell (hcell k hlt 1 (by omega)).1 (by simp)
      have e2 : wr.cell? ⟨ab, off + k * 3 + 2, none⟩ = some (.int .i64 x2) := by rw [← hx2.out]; exact hG.cell (hcell k hlt 2 (by omega)).1 (by simp)
      clear hcell
      have ga := World.grownBy_alloc wr (.cells #[.int .i64 x0, .int .i64 x1, .int .i64 x2] 33) none
      have hCa := hC.kept ga (by simp)
      have hTa := hT.kept ga (by simp)
      have hGa := gr_trans hG ga
      clear ga
      by_cases hx01 : x0 = 1
      · subst hx01
        cases hq : nowB m' x1
        · have Hq := hid hq; clear hq
          -- a way
          go_wp2_with fail
          refine (now_bad b m' ba' r' x1 _ hCa Hq.out).mono ?_
          rintro e w' ⟨rfl, rfl⟩
          have hC3 := hCa; have hT3 := hTa; have hG3 := hGa
          clear hCa hTa hGa
          have k0 := hT3.c0; have k1 := hT3.c1; have k2 := hT3.c2
          go_wp2_with fail
          refine (rnow_bad m' ba' r' x1 _ Hq.out).mono ?_
          rintro e w4 ⟨rfl, g4⟩
          clear k0 k1 k2
          have hC4 := hC3.kept g4 (by simp); have hT4 := hT3.kept g4 (by simp); have hG4 := gr_trans hG3 g4
          have hC5 := hC4; have hT5 := hT4; have hG5 := hG4
          go_wp2_with fail
          refine (mark_ok b m' ba' r' _ hC5).mono ?_
          rintro e w6 ⟨rfl, g6⟩
          have hC6 := hC5.kept g6 (by simp); have hT6 := hT5.kept g6 (by simp); have hG6 := gr_trans hG5 g6
          have j0 := hT6.c0; have j1 := hT6.c1; have j2 := hT6.c2
          go_wp2_with fail
          go_roundw
          case rel => exact ⟨k + 1, m', ba', r', by go_num, by omega, HO.out, hC6, hT6, hG6⟩
          case measure => simp [intOf]; omega
        · have Hq := hid hq; clear hq
          obtain ⟨y, hy⟩ : ∃ y, Hid (clockAt m' ba' r' x1 = y) := ⟨_, hid rfl⟩
          -- a way
          go_wp2_with fail
          refine (now_ok b m' ba' r' x1 y _ hCa HO.out Hq.out hy).mono ?_
          rintro e w3 ⟨rfl, g3⟩
          have hC3 := hCa.kept g3 (by simp); have hT3 := hTa.kept g3 (by simp); have hG3 := gr_trans hGa g3
          have p1 : w3.cell? ⟨wr.heap.size, 1, none⟩ = some (.int .i64 x1) := gr_cell g3 (by simp [go_sem])
          have p2 : w3.cell? ⟨wr.heap.size, 2, none⟩ = some (.int .i64 x2) := gr_cell g3 (by simp [go_sem])
          clear hCa hTa hGa
          have k0 := hT3.c0; have k1 := hT3.c1; have k2 := hT3.c2
          go_wp2_with fail
          refine (rnow_ok m' ba' r' x1 y _ HO.out Hq.out hy).mono ?_
          rintro e w4 ⟨rfl, g4⟩
          clear k0 k1 k2
          have hC4 := hC3.kept g4 (by simp); have hT4 := hT3.kept g4 (by simp); have hG4 := gr_trans hG3 g4
          have hC5 := hC4; have hT5 := hT4; have hG5 := hG4
          go_wp2_with fail
          refine (mark_ok b m' ba' r' _ hC5).mono ?_
          rintro e w6 ⟨rfl, g6⟩
          have hC6 := hC5.kept g6 (by simp); have hT6 := hT5.kept g6 (by simp); have hG6 := gr_trans hG5 g6
          have j0 := hT6.c0; have j1 := hT6.c1; have j2 := hT6.c2
          go_wp2_with fail
          go_roundw
          case rel => exact ⟨k + 1, m', ba', r', by go_num, by omega, HO.out, hC6, hT6, hG6⟩
          case measure => simp [intOf]; omega
      by_cases hx02 : x0 = 2
      · subst hx02
        clear hx01
        cases hq : (nowB m' x1 && fastB x2)
        · have Hq := hid hq; clear hq
          -- a way
          go_wp2_with fail
          refine (rate_bad b m' ba' r' x1 x2 _ hCa Hq.out).mono ?_
          rintro e w' ⟨rfl, rfl⟩
          have hC3 := hCa; have hT3 := hTa; have hG3 := hGa
          clear hCa hTa hGa
          have k0 := hT3.c0; have k1 := hT3.c1; have k2 := hT3.c2
          go_wp2_with fail
          refine (rrate_bad m' ba' r' x1 x2 _ Hq.out).mono ?_
          rintro e w4 ⟨rfl, g4⟩
          clear k0 k1 k2
          have hC4 := hC3.kept g4 (by simp); have hT4 := hT3.kept g4 (by simp); have hG4 := gr_trans hG3 g4
          have k0 := hT4.c0; have k1 := hT4.c1; have k2 := hT4.c2; have z0 := hT4.f 0; have z1 := hT4.f 1; have z2 := hT4.f 2
          have gs := gr_set3 (b := bw) (gr_refl w4 none) (.int .i64 m') (.int .i64 ba') (.int .i64 r')
          have hC5 := hC4.kept gs hne
          have hT5 : Trio 31 _ bw m' ba' r' := hT4.set3
          have hG5 := gr_own hG4 gs hwbw
          go_wp2_with fail
          refine (mark_ok b m' ba' r' _ hC5).mono ?_
          rintro e w6 ⟨rfl, g6⟩
          have hC6 := hC5.kept g6 (by simp); have hT6 := hT5.kept g6 (by simp); have hG6 := gr_trans hG5 g6
          clear k0 k1 k2 z0 z1 z2
          have j0 := hT6.c0; have j1 := hT6.c1; have j2 := hT6.c2
          go_wp2_with fail
          go_roundw
          case rel => exact ⟨k + 1, m', ba', r', by go_num, by omega, HO.out, hC6, hT6, hG6⟩
          case measure => simp [intOf]; omega
        · obtain ⟨q1, q2⟩ : nowB m' x1 = true ∧ fastB x2 = true := by simpa using hq
          have Q1 := hid q1; have Q2 := hid q2; clear hq q1 q2
          obtain ⟨y, hy⟩ : ∃ y, Hid (clockAt m' ba' r' x1 = y) := ⟨_, hid rfl⟩
          have hRt := rate_ok b m' ba' r' x1 x2 _ hCa HO.out Q1.out Q2.out
          rw [hy.out] at hRt
          have hO2 : Hid (ClockOk x1 y x2) := by
            have h1 : realB x1 = true ∧ m' ≤ x1 := by simpa [nowB] using Q1.out
            have h2 := realB_iff.1 h1.1
            have h3 := fastB_iff.1 Q2.out
            rw [← hy.out]
            exact hid (HO.out.later h1.2 h2.2 h3.1 h3.2)
          have HRt := hid hRt; clear hRt
          -- a way
          go_wp2_with fail
          refine (HRt.out).mono ?_
          rintro e w3 ⟨rfl, hC3, g3⟩
          have hT3 := hTa.kept g3 hne'
          have hG3 := gr_own hGa g3 hwb
          have p1 : w3.cell? ⟨wr.heap.size, 1, none⟩ = some (.int .i64 x1) := g3.cell (a := ⟨wr.heap.size, 1, none⟩) (by simp [go_sem]) (by have := hC.lt; simp; omega)
          have p2 : w3.cell? ⟨wr.heap.size, 2, none⟩ = some (.int .i64 x2) := g3.cell (a := ⟨wr.heap.size, 2, none⟩) (by simp [go_sem]) (by have := hC.lt; simp; omega)
          clear hCa hTa hGa
          have k0 := hT3.c0; have k1 := hT3.c1; have k2 := hT3.c2
          go_wp2_with fail
          refine (rrate_ok m' ba' r' x1 x2 y _ HO.out Q1.out Q2.out hy).mono ?_
          rintro e w4 ⟨rfl, g4⟩
          clear k0 k1 k2
          have hC4 := hC3.kept g4 (by simp); have hT4 := hT3.kept g4 (by simp); have hG4 := gr_trans hG3 g4
          have k0 := hT4.c0; have k1 := hT4.c1; have k2 := hT4.c2; have z0 := hT4.f 0; have z1 := hT4.f 1; have z2 := hT4.f 2
          have gs := gr_set3 (b := bw) (gr_refl w4 none) (.int .i64 x1) (.int .i64 y) (.int .i64 x2)
          have hC5 := hC4.kept gs hne
          have hT5 : Trio 31 _ bw x1 y x2 := hT4.set3
          have hG5 := gr_own hG4 gs hwbw
          go_wp2_with fail
          refine (mark_ok b x1 y x2 _ hC5).mono ?_
          rintro e w6 ⟨rfl, g6⟩
          have hC6 := hC5.kept g6 (by simp); have hT6 := hT5.kept g6 (by simp); have hG6 := gr_trans hG5 g6
          clear k0 k1 k2 z0 z1 z2
          have j0 := hT6.c0; have j1 := hT6.c1; have j2 := hT6.c2
          go_wp2_with fail
          go_roundw
          case rel => exact ⟨k + 1, x1, y, x2, by go_num, by omega, hO2.out, hC6, hT6, hG6⟩
          case measure => simp [intOf]; omega
      by_cases hx03 : x0 = 3
      · subst hx03
        clear hx01 hx02
        cases hq : (nowB m' x1 && shownB x2)
        · have Hq := hid hq; clear hq
          -- a way
          go_wp2_with fail
          refine (set_bad b m' ba' r' x1 x2 _ hCa Hq.out).mono ?_
          rintro e w' ⟨rfl, rfl⟩
          have hC3 := hCa; have hT3 := hTa; have hG3 := hGa
          clear hCa hTa hGa
          have k0 := hT3.c0; have k1 := hT3.c1; have k2 := hT3.c2
          go_wp2_with fail
          refine (rset_bad m' ba' r' x1 x2 _ Hq.out).mono ?_
          rintro e w4 ⟨rfl, g4⟩
          clear k0 k1 k2
          have hC4 := hC3.kept g4 (by simp); have hT4 := hT3.kept g4 (by simp); have hG4 := gr_trans hG3 g4
          have k0 := hT4.c0; have k1 := hT4.c1; have k2 := hT4.c2; have z0 := hT4.f 0; have z1 := hT4.f 1; have z2 := hT4.f 2
          have gs := gr_set3 (b := bw) (gr_refl w4 none) (.int .i64 m') (.int .i64 ba') (.int .i64 r')
          have hC5 := hC4.kept gs hne
          have hT5 : Trio 31 _ bw m' ba' r' := hT4.set3
          have hG5 := gr_own hG4 gs hwbw
          go_wp2_with fail
          refine (mark_ok b m' ba' r' _ hC5).mono ?_
          rintro e w6 ⟨rfl, g6⟩
          have hC6 := hC5.kept g6 (by simp); have hT6 := hT5.kept g6 (by simp); have hG6 := gr_trans hG5 g6
          clear k0 k1 k2 z0 z1 z2
          have j0 := hT6.c0; have j1 := hT6.c1; have j2 := hT6.c2
          go_wp2_with fail
          go_roundw
          case rel => exact ⟨k + 1, m', ba', r', by go_num, by omega, HO.out, hC6, hT6, hG6⟩
          case measure => simp [intOf]; omega
        · obtain ⟨q1, q2⟩ : nowB m' x1 = true ∧ shownB x2 = true := by simpa using hq
          have Q1 := hid q1; have Q2 := hid q2; clear hq q1 q2
          have hO2 : Hid (ClockOk x1 x2 r') := by
            have h1 : realB x1 = true ∧ m' ≤ x1 := by simpa [nowB] using Q1.out
            have h2 := realB_iff.1 h1.1
            have h3 := shownB_iff.1 Q2.out
            exact hid (HO.out.set h2.1 h2.2 h3.1 h3.2)
          -- a way
          go_wp2_with fail
          refine (set_ok b m' ba' r' x1 x2 _ hCa Q1.out Q2.out).mono ?_
          rintro e w3 ⟨rfl, hC3, g3⟩
          have hT3 := hTa.kept g3 hne'
          have hG3 := gr_own hGa g3 hwb
          have p1 : w3.cell? ⟨wr.heap.size, 1, none⟩ = some (.int .i64 x1) := g3.cell (a := ⟨wr.heap.size, 1, none⟩) (by simp [go_sem]) (by have := hC.lt; simp; omega)
          have p2 : w3.cell? ⟨wr.heap.size, 2, none⟩ = some (.int .i64 x2) := g3.cell (a := ⟨wr.heap.size, 2, none⟩) (by simp [go_sem]) (by have := hC.lt; simp; omega)
          clear hCa hTa hGa
          have k0 := hT3.c0; have k1 := hT3.c1; have k2 := hT3.c2
          go_wp2_with fail
          refine (rset_ok m' ba' r' x1 x2 _ Q1.out Q2.out).mono ?_
          rintro e w4 ⟨rfl, g4⟩
          clear k0 k1 k2
          have hC4 := hC3.kept g4 (by simp); have hT4 := hT3.kept g4 (by simp); have hG4 := gr_trans hG3 g4
          have k0 := hT4.c0; have k1 := hT4.c1; have k2 := hT4.c2; have z0 := hT4.f 0; have z1 := hT4.f 1; have z2 := hT4.f 2
          have gs := gr_set3 (b := bw) (gr_refl w4 none) (.int .i64 x1) (.int .i64 x2) (.int .i64 r')
          have hC5 := hC4.kept gs hne
          have hT5 : Trio 31 _ bw x1 x2 r' := hT4.set3
          have hG5 := gr_own hG4 gs hwbw
          go_wp2_with fail
          refine (mark_ok b x1 x2 r' _ hC5).mono ?_
          rintro e w6 ⟨rfl, g6⟩
          have hC6 := hC5.kept g6 (by simp); have hT6 := hT5.kept g6 (by simp); have hG6 := gr_trans hG5 g6
          clear k0 k1 k2 z0 z1 z2
          have j0 := hT6.c0; have j1 := hT6.c1; have j2 := hT6.c2
          go_wp2_with fail
          go_roundw
          case rel => exact ⟨k + 1, x1, x2, r', by go_num, by omega, hO2.out, hC6, hT6, hG6⟩
          case measure => simp [intOf]; omega
      by_cases hx04 : x0 = 4
      · subst hx04
        clear hx01 hx02 hx03
        by_cases hq : clockAt m' ba' r' 1125899906842624 < x2
        · have Hq := hid hq; clear hq
          -- a way
          go_wp2_with fail
          refine (when_none b m' ba' r' x2 _ hCa HO.out Hq.out).mono ?_
          rintro e w3 ⟨rfl, g3⟩
          have hC3 := hCa.kept g3 (by simp); have hT3 := hTa.kept g3 (by simp); have hG3 := gr_trans hGa g3
          have p1 : w3.cell? ⟨wr.heap.size, 1, none⟩ = some (.int .i64 x1) := gr_cell g3 (by simp [go_sem])
          have p2 : w3.cell? ⟨wr.heap.size, 2, none⟩ = some (.int .i64 x2) := gr_cell g3 (by simp [go_sem])
          clear hCa hTa hGa
          have k0 := hT3.c0; have k1 := hT3.c1; have k2 := hT3.c2
          go_wp2_with fail
          refine (rwhen_none m' ba' r' x2 _ HO.out Hq.out).mono ?_
          rintro e w4 ⟨rfl, g4⟩
          clear k0 k1 k2
          have hC4 := hC3.kept g4 (by simp); have hT4 := hT3.kept g4 (by simp); have hG4 := gr_trans hG3 g4
          have hC5 := hC4; have hT5 := hT4; have hG5 := hG4
          go_wp2_with fail
          refine (mark_ok b m' ba' r' _ hC5).mono ?_
          rintro e w6 ⟨rfl, g6⟩
          have hC6 := hC5.kept g6 (by simp); have hT6 := hT5.kept g6 (by simp); have hG6 := gr_trans hG5 g6
          have j0 := hT6.c0; have j1 := hT6.c1; have j2 := hT6.c2
          go_wp2_with fail
          go_roundw
          case rel => exact ⟨k + 1, m', ba', r', by go_num, by omega, HO.out, hC6, hT6, hG6⟩
          case measure => simp [intOf]; omega
        · obtain ⟨t, ht⟩ := IsWhen.exists (m := m') (ba := ba') (r := r') (n := x2) HO.out.m1 (by omega)
          have Ht := hid ht; clear ht hq
          -- a way
          go_wp2_with fail
          refine (when_ok b m' ba' r' x2 t _ hCa HO.out Ht.out).mono ?_
          rintro e w3 ⟨rfl, g3⟩
          have hC3 := hCa.kept g3 (by simp); have hT3 := hTa.kept g3 (by simp); have hG3 := gr_trans hGa g3
          have p1 : w3.cell? ⟨wr.heap.size, 1, none⟩ = some (.int .i64 x1) := gr_cell g3 (by simp [go_sem])
          have p2 : w3.cell? ⟨wr.heap.size, 2, none⟩ = some (.int .i64 x2) := gr_cell g3 (by simp [go_sem])
          clear hCa hTa hGa
          have k0 := hT3.c0; have k1 := hT3.c1; have k2 := hT3.c2
          go_wp2_with fail
          refine (rwhen_ok m' ba' r' x2 t _ HO.out Ht.out).mono ?_
          rintro e w4 ⟨rfl, g4⟩
          clear k0 k1 k2
          have hC4 := hC3.kept g4 (by simp); have hT4 := hT3.kept g4 (by simp); have hG4 := gr_trans hG3 g4
          have hC5 := hC4; have hT5 := hT4; have hG5 := hG4
          go_wp2_with fail
          refine (mark_ok b m' ba' r' _ hC5).mono ?_
          rintro e w6 ⟨rfl, g6⟩
          have hC6 := hC5.kept g6 (by simp); have hT6 := hT5.kept g6 (by simp); have hG6 := gr_trans hG5 g6
          have j0 := hT6.c0; have j1 := hT6.c1; have j2 := hT6.c2
          go_wp2_with fail
          go_roundw
          case rel => exact ⟨k + 1, m', ba', r', by go_num, by omega, HO.out, hC6, hT6, hG6⟩
          case measure => simp [intOf]; omega
      -- a way
      go_wp2_with fail
      have hC5 := hCa; have hT5 := hTa; have hG5 := hGa
      refine (mark_ok b m' ba' r' _ hC5).mono ?_
      rintro e w6 ⟨rfl, g6⟩
      have hC6 := hC5.kept g6 (by simp); have hT6 := hT5.kept g6 (by simp); have hG6 := gr_trans hG5 g6
      have j0 := hT6.c0; have j1 := hT6.c1; have j2 := hT6.c2
      go_wp2_with fail
      go_roundw
      case rel => exact ⟨k + 1, m', ba', r', by go_num, by omega, HO.out, hC6, hT6, hG6⟩
      case measure => simp [intOf]; omega
    · have hkl : len ≤ k := by omega
      clear hlt
      go_wp2_with fail
      go_ret
      exact ⟨rfl, gr_below hG (Nat.le_refl _) (by simp)⟩
end Go.Proofs.Ytfmkjolfpjfhbaa
