/- tocsinlaw10.PermDrifts, walked. -/
import Derived.Test.YtkcgpbehicjidaaQueL
namespace Go.Proofs.Ytkcgpbehicjidaa
open Go.RowKit Go.Lib

theorem when_there' {r t x : Int} (r0 : -1000000 ≤ r) (r1 : r ≤ 1000000) (ht : 0 ≤ t) (ht1 : t ≤ 562949954469888) (hx : x ≤ 1048576) : ∃ d, IsWhen 0 0 r (clockAt 0 0 r t + x) d := by
  refine IsWhen.exists (by omega) ?_
  obtain ⟨h1, h2⟩ := mul_rate (t - 0) r (by omega) r0 r1
  obtain ⟨h3, h4⟩ := mul_rate (1125899906842624 - 0) r (by omega) r0 r1
  unfold clockAt
  generalize (t - 0) * r = p at *
  generalize (1125899906842624 - 0) * r = p' at *
  omega

/-- How far from the right time. -/
theorem drift_far {r m sent sp dl due : Int} (hm : 0 ≤ m) (hr0 : -m ≤ r) (hr1 : r ≤ m) (hm1 : m ≤ 1000000) (hs0 : 0 ≤ sent) (hs1 : sent ≤ 562949953421312) (hp0 : 0 ≤ sp) (hp1 : sp ≤ dl) (hd : dl ≤ 1048576)
    (hw : IsWhen 0 0 r (clockAt 0 0 r (sent + sp) + dl - sp) due) :
    sent + dl - (2 * dl * m / 1000000000 + 2) ≤ due ∧ due ≤ sent + dl + (2 * dl * m / 1000000000 + 2) := by
  obtain ⟨x, hx⟩ : ∃ x, dl - sp = x := ⟨_, rfl⟩
  have hx0 : 0 ≤ x := by omega
  have hxd : x ≤ dl := by omega
  obtain ⟨Y, hY⟩ : ∃ Y, dl * m = Y := ⟨_, rfl⟩
  have hY2 : 2 * dl * m = 2 * Y := by rw [Int.mul_assoc, hY]
  have hY0 : 0 ≤ Y := by rw [← hY]; exact Int.mul_nonneg (by omega) hm
  obtain ⟨X, hX⟩ : ∃ X, x * r = X := ⟨_, rfl⟩
  have hX1 : X ≤ Y := by
    rw [← hX, ← hY]
    exact Int.le_trans (Int.mul_le_mul_of_nonneg_left hr1 hx0) (Int.mul_le_mul_of_nonneg_right hxd hm)
  have hX0 : -Y ≤ X := by
    have h1 := Int.mul_le_mul_of_nonneg_left hr0 hx0
    have h2 := Int.mul_le_mul_of_nonneg_right hxd hm
    rw [Int.mul_neg] at h1
    rw [← hX, ← hY]
    omega
  rw [hY2]
  obtain ⟨far, hfar⟩ : ∃ far, 2 * Y / 1000000000 + 2 = far := ⟨_, rfl⟩
  rw [hfar]
  have hYb : Y ≤ 1048576 * 1000000 := by
    rw [← hY]
    exact Int.le_trans (Int.mul_le_mul_of_nonneg_right hd hm) (Int.mul_le_mul_of_nonneg_left hm1 (by omega))
  have hfar0 : 2 ≤ far := by omega
  have hfar1 : far ≤ 3000000 := by omega
  obtain ⟨F, hF⟩ : ∃ F, far * r = F := ⟨_, rfl⟩
  obtain ⟨hF0, hF1⟩ := mul_rate far r (by omega) (by omega) (by omega)
  rw [hF] at hF0 hF1
  obtain ⟨Pr, hP⟩ : ∃ Pr, (sent + sp) * r = Pr := ⟨_, rfl⟩
  have hD : (sent + dl) * r = Pr + X := by
    have : sent + dl = (sent + sp) + x := by omega
    rw [this, Int.add_mul, hP, hX]
  have hn : clockAt 0 0 r (sent + sp) = sent + sp + Pr / 1000000000 := by
    unfold clockAt
    rw [Int.sub_zero, hP]
    omega
  have hup : clockAt 0 0 r (sent + dl + far) = sent + dl + far + (Pr + X + F) / 1000000000 := by
    unfold clockAt
    rw [Int.sub_zero, Int.add_mul, hD, hF]
    omega
  have hlo : clockAt 0 0 r (sent + dl - far - 1) = sent + dl - far - 1 + (Pr + X - F - r) / 1000000000 := by
    unfold clockAt
    rw [Int.sub_zero, Int.sub_mul, Int.sub_mul, hD, hF, Int.one_mul]
    omega
  rw [hn] at hw
  constructor
  · rcases Int.lt_or_le due (sent + dl - far) with hlt | hle
    · exfalso
      have h1 := hw.at_t
      have h2 := clockAt_mono (m := 0) (ba := 0) (r := r) (s := due) (t := sent + dl - far - 1) (by omega) (by omega)
      rw [hlo] at h2
      omega
    · exact hle
  · rcases Int.lt_or_le (sent + dl + far) due with hlt | hle
    · exfalso
      have h1 := hw.before (sent + dl + far) (by omega) hlt
      rw [hup] at h1
      omega
    · exact hle

set_option maxRecDepth 100000 in
set_option maxHeartbeats 4000000 in
theorem pdrifts_main (dl : Int) (bd : 0 ≤ dl ∧ dl ≤ 1048576) (r : Int) (hr : fastB r = true) (sent sp : Int) (hs : 0 ≤ sent ∧ sent ≤ 562949953421312) (hsp : 0 ≤ sp ∧ sp ≤ dl) (w : World) :
    Calls Try.prog 4 #[.int .i64 dl, .int .i64 r, .agg #[.int .i64 sent, .int .i64 sp]] w fun e w' => e = .returned (.bool true) ∧ Below w.heap.size w w' := by
  obtain ⟨bd0, bd1⟩ := bd
  obtain ⟨hs0, hs1⟩ := hs
  obtain ⟨hp0, hp1⟩ := hsp
  have hf := fastB_iff.1 hr
  obtain ⟨r0, r1⟩ := hf
  have ho : ClockOk 0 0 r := ⟨by omega, by omega, r0, r1, by omega, by omega⟩
  obtain ⟨due, hdue⟩ := when_there' r0 r1 (t := sent + sp) (x := dl - sp) (by omega) (by omega) (by omega)
  rw [← Int.add_sub_assoc] at hdue
  obtain ⟨now, hnow⟩ : ∃ n, Hid (clockAt 0 0 r (sent + sp) = n) := ⟨_, hid rfl⟩
  obtain ⟨m, hm⟩ : ∃ m : Int, Hid (max r (-r) = m) := ⟨_, hid rfl⟩
  have hmm : 0 ≤ m ∧ -m ≤ r ∧ r ≤ m ∧ m ≤ 1000000 := by have := hm.out; omega
  have hfar := drift_far hmm.1 hmm.2.1 hmm.2.2.1 hmm.2.2.2 hs0 hs1 hp0 hp1 bd1 hdue
  obtain ⟨Q, hQ⟩ : ∃ Q, Hid (2 * dl * m / 1000000000 = Q) := ⟨_, hid rfl⟩
  obtain ⟨p, hp⟩ : ∃ p, Hid (2 * dl * m = p) := ⟨_, hid rfl⟩
  have hpb : 0 ≤ p ∧ p ≤ 4000000000000 := by
    rw [← hp.out]
    have h1 : 0 ≤ 2 * dl * m := Int.mul_nonneg (by omega) hmm.1
    have h2 : 2 * dl * m ≤ 2 * dl * 1000000 := Int.mul_le_mul_of_nonneg_left hmm.2.2.2 (by omega)
    omega
  have hQb : 0 ≤ Q ∧ Q ≤ 4000 := by have := hQ.out; rw [hp.out] at this; omega
  rw [hQ.out] at hfar
  rw [hnow.out] at hdue
  obtain ⟨f0, f1⟩ := hfar
  obtain ⟨q0, q1⟩ := hQb
  obtain ⟨p0, p1⟩ := hpb
  have Hdue := hid hdue
  have Ho := hid ho
  have Hr := hid hr
  have hn0 : nowB 0 (sent + sp) = true := by
    have h1 : realB (sent + sp) = true := realB_iff.2 ⟨by omega, by omega⟩
    have h2 : (0 : Int) ≤ sent + sp := by omega
    simp [nowB, h1, h2]
  have Hn0 := hid hn0
  have Hmm := hid hmm
  clear hdue ho hr hn0
  go_enter Try.func4, Try.ntmps4
  go_wp2_with fail
  have hD0 := heap_alloc_new w (.cells #[.int .i64 sent, .int .i64 sp] 42)
  refine (fixed_true _).mono ?_
  rintro e w1 ⟨rfl, g1⟩
  have D1 := hid (gr_heap g1 hD0 (by simp))
  have G1 := hid (bx_gr g1)
  clear g1 hD0
  go_wp2_with fail
  obtain ⟨b, hb⟩ : ∃ b, Hid (w1.heap.size = b) := ⟨_, hid rfl⟩
  refine (new_ok 0 0 r w1 (hid (by decide)) (hid (by decide)) Hr).mono ?_
  rintro e w2 ⟨rfl, hc, g2⟩
  rw [hb.out] at hc
  rw [hb.out]
  have Hc := hid hc
  have D2 := hid (gr_heap g2 D1.out (by simp))
  have G2 := hid (gr_trans G1.out g2)
  have y0 := cell_of D2.out 0 (.int .i64 sent) rfl
  have y1 := cell_of D2.out 1 (.int .i64 sp) rfl
  clear hc g2
  go_wp2_with fail
  go_quiet (fail)
  obtain ⟨w3, hw3⟩ : ∃ w3, w2.drewN nq = w3 := ⟨_, rfl⟩
  have g3 : w2.grownBy w3 none := hw3 ▸ gr_drewN (gr_refl w2 none) nq
  rw [hw3]
  have Hc3 := hid (Hc.out.kept g3 (by simp))
  have G3 := hid (gr_trans G2.out g3)
  clear hw3 g3 y0 y1
  go_wp2_with fail
  refine (due_ok b 0 0 r (sent + sp) sp dl now due w3 Hc3.out Ho.out Hn0.out hnow.out (by omega) (by omega) Hdue.out).mono ?_
  rintro e w4 ⟨rfl, g4⟩
  have G4 := hid (gr_trans G3.out g4)
  clear g4
  rcases Int.lt_trichotomy r 0 with hrr | hrr | hrr
  · have hmr : m = -r := by have := hm.out; omega
    have wa : IntKind.i64.wrap (2 * dl * -r) = 2 * dl * -r := by rw [← hmr, hp.out, IntKind.wrap_i64]; omega
    have wt : (2 * dl * -r).tdiv 1000000000 = Q := by rw [← hmr, hp.out, Int.tdiv_eq_ediv_of_nonneg p0, ← hp.out, hQ.out]
    have ww : wrap64 Q = Q := by unfold wrap64; omega
    clear hmm
    go_wp2_with fail
    go_ret
    exact ⟨rfl, gr_below G4.out (Nat.le_refl _) (by simp)⟩
  · have hm0 : m = 0 := by have := hm.out; omega
    have hQ0 : Q = 0 := by rw [← hQ.out, hm0]; simp
    subst hrr
    subst hQ0
    have f0' : sent + dl - 2 ≤ due := by omega
    have f1' : due ≤ sent + dl + 2 := by omega
    clear hmm
    go_wp2_with fail
    go_ret
    exact ⟨rfl, gr_below G4.out (Nat.le_refl _) (by simp)⟩
  · have hmr : m = r := by have := hm.out; omega
    have wa : IntKind.i64.wrap (2 * dl * r) = 2 * dl * r := by rw [← hmr, hp.out, IntKind.wrap_i64]; omega
    have wt : (2 * dl * r).tdiv 1000000000 = Q := by rw [← hmr, hp.out, Int.tdiv_eq_ediv_of_nonneg p0, ← hp.out, hQ.out]
    have ww : wrap64 Q = Q := by unfold wrap64; omega
    clear hmm
    go_wp2_with fail
    go_ret
    exact ⟨rfl, gr_below G4.out (Nat.le_refl _) (by simp)⟩

set_option maxRecDepth 100000 in
set_option maxHeartbeats 4000000 in
theorem pdrifts_out (dl : Int) (bd : 0 ≤ dl ∧ dl ≤ 1048576) (r : Int) (_ : -9223372036854775808 ≤ r ∧ r ≤ 9223372036854775807) (hr : fastB r = true) (sent sp : Int) (hout : sent < 0 ∨ 562949953421312 < sent ∨ sp < 0 ∨ dl < sp) (w : World) :
    Calls Try.prog 4 #[.int .i64 dl, .int .i64 r, .agg #[.int .i64 sent, .int .i64 sp]] w fun e w' => e = .returned (.bool true) ∧ Below w.heap.size w w' := by
  obtain ⟨bd0, bd1⟩ := bd
  have Hr := hid hr
  have Hout := hid hout
  clear hr hout
  go_enter Try.func4, Try.ntmps4
  go_wp2_with fail
  have hD0 := heap_alloc_new w (.cells #[.int .i64 sent, .int .i64 sp] 42)
  refine (fixed_true _).mono ?_
  rintro e w1 ⟨rfl, g1⟩
  have D1 := hid (gr_heap g1 hD0 (by simp))
  have G1 := hid (bx_gr g1)
  clear g1 hD0
  go_wp2_with fail
  refine (new_ok 0 0 r w1 (hid (by decide)) (hid (by decide)) Hr).mono ?_
  rintro e w2 ⟨rfl, hc, g2⟩
  have D2 := hid (gr_heap g2 D1.out (by simp))
  have G2 := hid (gr_trans G1.out g2)
  have y0 := cell_of D2.out 0 (.int .i64 sent) rfl
  have y1 := cell_of D2.out 1 (.int .i64 sp) rfl
  clear hc g2
  go_wp2_with fail
  go_quiet (fail)
  have G3 := hid (gr_drewN G2.out nq)
  clear y0 y1
  by_cases h1 : sent < 0
  · go_wp2_with fail
    go_ret
    exact ⟨rfl, gr_below G3.out (Nat.le_refl _) (by simp)⟩
  · by_cases h2 : 562949953421312 < sent
    · go_wp2_with fail
      go_ret
      exact ⟨rfl, gr_below G3.out (Nat.le_refl _) (by simp)⟩
    · by_cases h3 : sp < 0
      · go_wp2_with fail
        go_ret
        exact ⟨rfl, gr_below G3.out (Nat.le_refl _) (by simp)⟩
      · have h4 : dl < sp := by have := Hout.out; omega
        go_wp2_with fail
        go_ret
        exact ⟨rfl, gr_below G3.out (Nat.le_refl _) (by simp)⟩

set_option maxRecDepth 100000 in
set_option maxHeartbeats 4000000 in
theorem pdrifts_walk (dl : Int) (bd : -9223372036854775808 ≤ dl ∧ dl ≤ 9223372036854775807) (r : Int) (br : -9223372036854775808 ≤ r ∧ r ≤ 9223372036854775807) (sent sp : Int) (_ : -9223372036854775808 ≤ sent ∧ sent ≤ 9223372036854775807) (_ : -9223372036854775808 ≤ sp ∧ sp ≤ 9223372036854775807) (w : World) :
    Calls Try.prog 4 #[.int .i64 dl, .int .i64 r, .agg #[.int .i64 sent, .int .i64 sp]] w fun e w' => e = .returned (.bool true) ∧ Below w.heap.size w w' := by
  by_cases hr : fastB r = true
  · by_cases hd : 0 ≤ dl ∧ dl ≤ 1048576
    · by_cases hout : sent < 0 ∨ 562949953421312 < sent ∨ sp < 0 ∨ dl < sp
      · exact pdrifts_out dl hd r br hr sent sp hout w
      · exact pdrifts_main dl hd r hr sent sp (by omega) (by omega) w
    · have Hr := hid hr
      clear hr
      by_cases h1 : dl < 0
      · go_enter Try.func4, Try.ntmps4
        go_wp2_with fail
        refine (fixed_true _).mono ?_
        rintro e w1 ⟨rfl, g1⟩
        have G1 := hid (bx_gr g1)
        clear g1
        go_wp2_with fail
        refine (new_ok 0 0 r w1 (hid (by decide)) (hid (by decide)) Hr).mono ?_
        rintro e w2 ⟨rfl, hc, g2⟩
        have G2 := hid (gr_trans G1.out g2)
        clear hc g2
        go_wp2_with fail
        go_ret
        exact ⟨rfl, gr_below G2.out (Nat.le_refl _) (by simp)⟩
      · have h2 : 1048576 < dl := by omega
        go_enter Try.func4, Try.ntmps4
        go_wp2_with fail
        refine (fixed_true _).mono ?_
        rintro e w1 ⟨rfl, g1⟩
        have G1 := hid (bx_gr g1)
        clear g1
        go_wp2_with fail
        refine (new_ok 0 0 r w1 (hid (by decide)) (hid (by decide)) Hr).mono ?_
        rintro e w2 ⟨rfl, hc, g2⟩
        have G2 := hid (gr_trans G1.out g2)
        clear hc g2
        go_wp2_with fail
        go_ret
        exact ⟨rfl, gr_below G2.out (Nat.le_refl _) (by simp)⟩
  · have hbad : newB 0 0 r = false := by
      have : fastB r = false := by simpa using hr
      simp [newB, this]
    have Hbad := hid hbad
    clear hr hbad
    go_enter Try.func4, Try.ntmps4
    go_wp2_with fail
    refine (fixed_true _).mono ?_
    rintro e w1 ⟨rfl, g1⟩
    have G1 := hid (bx_gr g1)
    clear g1
    go_wp2_with fail
    refine (new_bad 0 0 r w1 Hbad.out).mono ?_
    rintro e w2 ⟨rfl, rfl⟩
    go_wp2_with fail
    go_ret
    exact ⟨rfl, gr_below G1.out (Nat.le_refl _) (by simp)⟩
end Go.Proofs.Ytkcgpbehicjidaa
