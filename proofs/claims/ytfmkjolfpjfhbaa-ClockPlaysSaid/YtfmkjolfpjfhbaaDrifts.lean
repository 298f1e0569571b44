/- ClockDrifts: the walk. -/
import Derived.Test.YtfmkjolfpjfhbaaSets
import Derived.Test.YtfmkjolfpjfhbaaOpen
namespace Go.Proofs.Ytfmkjolfpjfhbaa
open Go.RowKit Go.Lib

theorem drifts_new_bad (m ba r t : Int) (a : Option Addr) (len cap : Nat) (w : World) (h : newB m ba r = false) :
    Calls Try.prog 6 #[.agg #[.int .i64 m, .int .i64 ba, .int .i64 r], .slice a len cap, .int .i64 t] w fun e w' => e = .returned (.bool true) ∧ Below w.heap.size w w' := by
  have H := hid h; clear h
  go_enter Try.func6, Try.ntmps6
  go_wp2_with fail
  refine (fixed_true _).mono ?_
  rintro e w1 ⟨rfl, g1⟩
  have c0 := box_cell g1 0 _ rfl
  have c1 := box_cell g1 1 _ rfl
  have c2 := box_cell g1 2 _ rfl
  go_wp2_with fail
  refine (new_bad m ba r _ H.out).mono ?_
  rintro e w' ⟨rfl, rfl⟩
  go_wp2_with fail
  go_ret
  exact ⟨rfl, gr_below (gr_box g1) (Nat.le_refl _) (by simp)⟩

/-- Behind k rounds: the clock, and how far it is from real time. -/
structure Drifted (m ba : Int) (n m' ba' r' : Int) : Prop where
  ok : ClockOk m' ba' r'
  le : m ≤ m'
  n1 : 1 ≤ n
  lo : -((m' - m) + 1000 * (n - 1)) ≤ 1000 * (ba' - ba - (m' - m))
  hi : 1000 * (ba' - ba - (m' - m)) ≤ m' - m

theorem Drifted.step {m ba n m' ba' r' t r2 : Int} (h : Drifted m ba n m' ba' r') (ht : m' ≤ t) (h1 : t ≤ 1125899906842624) (r0 : -1000000 ≤ r2) (r1 : r2 ≤ 1000000) : Drifted m ba (n + 1) t (clockAt m' ba' r' t) r2 := by
  have hb := h.ok
  obtain ⟨p0, p1⟩ := mul_rate (t - m') r' (by omega) hb.r0 hb.r1
  have := h.le; have := h.n1; have := h.lo; have := h.hi
  refine ⟨hb.later ht h1 r0 r1, by omega, by omega, ?_, ?_⟩
  · unfold clockAt
    generalize (t - m') * r' = p at *
    omega
  · unfold clockAt
    generalize (t - m') * r' = p at *
    omega

theorem drifts_walk (m ba r t : Int) (a : Option Addr) (len cap : Nat) (f : Nat → Nat → Int) (w : World) (h : newB m ba r = true) (hs : RowsAt w a len 3 f) :
    Calls Try.prog 6 #[.agg #[.int .i64 m, .int .i64 ba, .int .i64 r], .slice a len cap, .int .i64 t] w fun e w' => e = .returned (.bool true) ∧ Below w.heap.size w w' := by
  obtain ⟨hr, hf, hs'⟩ := newB_parts h
  have ho := ClockOk.new hr hs' hf
  have Hr := hid hr; have Hf := hid hf; have Hs := hid hs'; have Ho := hid ho
  obtain ⟨hlen, hrows⟩ := hs
  have Hrows := hid hrows
  clear h hr hf hs' ho hrows
  go_enter Try.func6, Try.ntmps6
  go_wp2_with fail
  refine (fixed_true _).mono ?_
  rintro e w1 ⟨rfl, g1⟩
  have c0 := box_cell g1 0 _ rfl
  have c1 := box_cell g1 1 _ rfl
  have c2 := box_cell g1 2 _ rfl
  go_wp2_with fail
  refine (new_ok m ba r _ Hr Hs Hf).mono ?_
  rintro e w2 ⟨rfl, hc2, g2⟩
  have sz1 := g1.size
  simp at sz1
  have d0 := gr_cell g2 c0
  have d1 := gr_cell g2 c1
  obtain ⟨b, hb⟩ : ∃ b, Hid (w1.heap.size = b) := ⟨_, hid rfl⟩
  rw [hb.out] at hc2 sz1
  rw [hb.out]
  have g0 := gr_trans (gr_box g1) g2
  clear c0 c1 c2 g1 g2
  go_wp2_with fail
  go_loopw [9, 35, 11] (fun n i _ wr => ∃ (k : Nat) (nn m' ba' r' : Int), n = .int .i64 nn ∧ i = .int .i64 k ∧ k ≤ len ∧ nn ≤ k + 1 ∧ Drifted m ba nn m' ba' r' ∧ Clk wr b m' ba' r' ∧ w.grownBy wr none ∧ w2.grownBy wr (some b)) (fun _ i _ _ => len - (intOf i).toNat)
  case atStart => exact ⟨0, 1, m, ba, r, rfl, rfl, Nat.zero_le _, by omega, ⟨Ho.out, by omega, by omega, by omega, by omega⟩, hc2, g0, gr_refl _ _⟩
  case round =>
    obtain ⟨k, nn, m', ba', r', rfl, rfl, hk, hnn, hD, hC, hG, hG2⟩ := hrel
    have HD := hid hD; clear hD
    by_cases hlt : k < len
    · rcases Hrows.out with h0 | ⟨ab, off, rfl, hab, hcell⟩
      · omega
      obtain ⟨x0, hx0⟩ : ∃ x, Hid (f k 0 = x) := ⟨_, hid rfl⟩
      obtain ⟨x1, hx1⟩ : ∃ x, Hid (f k 1 = x) := ⟨_, hid rfl⟩
      obtain ⟨x2, hx2⟩ : ∃ x, Hid (f k 2 = x) := ⟨_, hid rfl⟩
      have e0 : wr.cell? ⟨ab, off + k * 3, none⟩ = some (.int .i64 x0) := by rw [← hx0.out]; exact hG.cell (hcell k hlt 0 (by omega)).1 (by simp)
      have e1 : wr.cell? ⟨ab, off + k * 3 + 1, none⟩ = some (.int .i64 x1) := by rw [← hx1.out]; exact hG.cell (hcell k hlt 1 (by omega)).1 (by simp)
      have e2 : wr.cell? ⟨ab, off + k * 3 + 2, none⟩ = some (.int .i64 x2) := by rw [← hx2.out]; exact hG.cell (hcell k hlt 2 (by omega)).1 (by simp)
      clear hcell
      have hb2 : w.heap.size ≤ b := by omega
      cases hq : (nowB m' x1 && fastB x2)
      · have Hq := hid hq; clear hq
        have hC' := hC.kept (World.grownBy_alloc wr (.cells #[.int .i64 x0, .int .i64 x1, .int .i64 x2] 33) none) (by simp)
        go_wp2_with fail
        refine (rate_bad b m' ba' r' x1 x2 _ hC' Hq.out).mono ?_
        rintro e w' ⟨rfl, rfl⟩
        go_wp2_with fail
        go_roundw
        case rel => exact ⟨k + 1, nn, m', ba', r', rfl, by go_num, by omega, by omega, HD.out, hC', gr_alloc hG _, gr_alloc hG2 _⟩
        case measure => simp [intOf]; omega
      · obtain ⟨q1, q2⟩ : nowB m' x1 = true ∧ fastB x2 = true := by simpa using hq
        have Q1 := hid q1; have Q2 := hid q2; clear hq q1 q2
        have hC' := hC.kept (World.grownBy_alloc wr (.cells #[.int .i64 x0, .int .i64 x1, .int .i64 x2] 33) none) (by simp)
        go_wp2_with fail
        refine (rate_ok b m' ba' r' x1 x2 _ hC' HD.out.ok Q1.out Q2.out).mono ?_
        rintro e w3 ⟨rfl, hC3, g3⟩
        have hD2 : Drifted m ba (nn + 1) x1 (clockAt m' ba' r' x1) x2 := by
          have h1 : realB x1 = true ∧ m' ≤ x1 := by simpa [nowB] using Q1.out
          have h2 := realB_iff.1 h1.1
          have h3 := fastB_iff.1 Q2.out
          exact HD.out.step h1.2 h2.2 h3.1 h3.2
        have HD2 := hid hD2; clear hD2
        generalize clockAt m' ba' r' x1 = nb at *
        have hn1 := HD.out.n1
        go_wp2_with fail
        go_roundw
        case rel => exact ⟨k + 1, nn + 1, x1, nb, x2, rfl, by go_num, by omega, by omega, HD2.out, hC3, gr_own (gr_alloc hG _) g3 hb2, gr_trans (gr_alloc hG2 _) g3⟩
        case measure => simp [intOf]; omega
    · have hkl : len ≤ k := by omega
      clear hlt
      have d0' := hG2.cell d0 (by simp; omega)
      have d1' := hG2.cell d1 (by simp; omega)
      clear d0 d1
      cases hq : nowB m' t
      · have Hq := hid hq; clear hq
        go_wp2_with fail
        refine (now_bad b m' ba' r' t _ hC Hq.out).mono ?_
        rintro e w' ⟨rfl, rfl⟩
        go_wp2_with fail
        go_ret
        exact ⟨rfl, gr_below hG (Nat.le_refl _) (by simp)⟩
      · obtain ⟨x, hx⟩ : ∃ x, Hid (clockAt m' ba' r' t = x) := ⟨_, hid rfl⟩
        have hst : Drifted m ba (nn + 1) t x 0 ∧ m' ≤ t ∧ t ≤ 1125899906842624 := by
          have h1 : realB t = true ∧ m' ≤ t := by simpa [nowB] using hq
          have h2 := realB_iff.1 h1.1
          rw [← hx.out]
          exact ⟨HD.out.step h1.2 h2.2 (by omega) (by omega), h1.2, h2.2⟩
        obtain ⟨hst, t0, t1⟩ := hst
        have l1 := hst.lo; have l2 := hst.hi; have l3 := hst.ok.b0; have l4 := hst.ok.b1
        have m0 := Ho.out.m0; have m1 := Ho.out.b0; have m2 := Ho.out.b1; have m3 := HD.out.le; have m4 := HD.out.n1; have m5 := Ho.out.m1
        clear hst
        have Hq := hid hq; clear hq
        have f1 : t - m - ((t - m) / 1000 + 1 + nn) ≤ x - ba := by omega
        have f2 : x - ba ≤ t - m + ((t - m) / 1000 + 1 + nn) := by omega
        go_wp2_with fail
        refine (now_ok b m' ba' r' t x _ hC HD.out.ok Hq.out hx).mono ?_
        rintro e w3 ⟨rfl, g3⟩
        have d0'' := gr_cell g3 d0'
        have d1'' := gr_cell g3 d1'
        simp only [List.getElem_toArray, List.getElem_cons_zero, List.getElem_cons_succ] at d0'' d1''
        go_wp2_with fail
        go_ret
        exact ⟨rfl, gr_below (gr_trans hG g3) (Nat.le_refl _) (by simp)⟩
end Go.Proofs.Ytfmkjolfpjfhbaa
