/- Lemmas: The document's Check: as the program's own. A region that draws its order, by what holds whatever has come up so far: one proof an operation, not one an order. -/
import Derived.Test.YtckoaeoecjphiaaGreatK10
import Derived.RegionTactic
import Derived.Test.YtckoaeoecjphiaaGreatK01

/- The document's Check: as the program's own. -/
namespace Go.Proofs.YtckoaeoecjphiaaGreat
open Go.RowKit Go.Lib

theorem route_six {ho fr : Int} {to : Nat} {sz : Int} (h1 : ho ≤ 6) (h : routeZ ho fr to sz = true) : routeZ 6 fr to sz = true := by
  unfold routeZ at *
  simp only [Bool.and_eq_true, inZ_iff, Bool.not_eq_true', decide_eq_false_iff_not, decide_eq_true_eq] at *
  obtain ⟨h2, h3, h4, h5, h6⟩ := h
  refine ⟨by omega, h3, ?_, h5, h6⟩
  have hp : (2 : Nat) ^ ho.toNat ≤ 2 ^ (6 : Int).toNat := Nat.pow_le_pow_right (by omega) (by omega)
  have := Nat.two_pow_pos ho.toNat
  rw [Nat.div_eq_zero_iff] at h4 ⊢
  omega

set_option maxRecDepth 100000 in
set_option maxHeartbeats 2000000 in
theorem rcheck_any (d : Net) (vd ve vl : Value) (w : World) (hN : NetAt w.heap.size w d vd ve vl) :
    Calls Tryz.prog 16 #[cfV d.cf vd ve vl] w fun e w' => e = .returned (.int .i64 (checkZ d)) ∧ w.grownBy w' none := by
  obtain ⟨r, hr⟩ : ∃ r, Hid (checkZ d = r) := ⟨_, hid rfl⟩
  rw [hr.out]
  have hr1 := hr.out
  unfold checkZ schedZ at hr1
  have Hr := hid hr1
  clear hr hr1
  obtain ⟨b1, hb1⟩ : ∃ b, Hid (inZ d.cf.ho 1 6 = b) := ⟨_, hid rfl⟩
  obtain ⟨b2, hb2⟩ : ∃ b, Hid (inZ d.cf.cy 1 1073741824 = b) := ⟨_, hid rfl⟩
  obtain ⟨b3, hb3⟩ : ∃ b, Hid (spansZ d.cf = b) := ⟨_, hid rfl⟩
  obtain ⟨b4, hb4⟩ : ∃ b, Hid (rowsZ d = b) := ⟨_, hid rfl⟩
  obtain ⟨v5, hv5⟩ : ∃ v, Hid ((decide (16 < d.ents.length) || d.ents.any (badRoute d.cf)) = v) := ⟨_, hid rfl⟩
  obtain ⟨v6, hv6⟩ : ∃ v, Hid (d.ents.any (bad6 d.cf) = v) := ⟨_, hid rfl⟩
  obtain ⟨v7, hv7⟩ : ∃ v, Hid (pairsB bad7 d.ents = v) := ⟨_, hid rfl⟩
  obtain ⟨v8, hv8⟩ : ∃ v, Hid (pairsB (bad8 d.cf) d.ents = v) := ⟨_, hid rfl⟩
  obtain ⟨b6, hb6⟩ : ∃ b, Hid (inZ d.cf.qu 1 64 = b) := ⟨_, hid rfl⟩
  obtain ⟨W0, hW0⟩ : ∃ W0, W0 = w.alloc (.cells #[.int .i64 d.cf.ho, .int .i64 d.cf.cy, .int .i64 d.cf.de, .int .i64 d.cf.wi, .int .i64 d.cf.pr, vd, ve, vl, .int .i64 d.cf.qu] 26) := ⟨_, rfl⟩
  have gA : (w.alloc (.cells #[.int .i64 d.cf.ho, .int .i64 d.cf.cy, .int .i64 d.cf.de, .int .i64 d.cf.wi, .int .i64 d.cf.pr, vd, ve, vl, .int .i64 d.cf.qu] 26)).grownBy W0 none := by rw [hW0]; exact gr_refl _ none
  have hC : CfAt W0 w.heap.size d.cf vd ve vl := box_heap gA
  have g0 : w.grownBy W0 none := bx_gr gA
  have H3 : Hid (∀ w' : World, Calls Tryz.prog 49 #[cfV d.cf vd ve vl] w' fun e w2 => e = .returned (.bool b3) ∧ w'.grownBy w2 none) := hid fun w' => by rw [← hb3.out]; exact rspans_any d.cf vd ve vl w'
  have H4 : Hid (∀ w', W0.grownBy w' none → Calls Tryz.prog 50 #[cfV d.cf vd ve vl] w' fun e w2 => e = .returned (.bool b4) ∧ w'.grownBy w2 none) := hid fun w' g => by rw [← hb4.out]; exact rrows_any d vd ve vl w' (hN.later (gr_trans g0 g))
  have hpl : v5 = false → v6 = false → b1 = true → b3 = true → ∀ e ∈ d.ents, plainZ d.cf e = true := fun h5 h6 h1 h3 e he => by
    have h5' := hv5.out.trans h5
    rw [Bool.or_eq_false_iff] at h5'
    have hrt := List.any_eq_false.1 h5'.2 e he
    have h6' := List.any_eq_false.1 (hv6.out.trans h6) e he
    have h1' := inZ_iff.1 (hb1.out.trans h1)
    have hsb := spansZ_bd (hb3.out.trans h3)
    unfold badRoute at hrt
    simp only [Bool.not_eq_true', Bool.not_eq_false] at hrt
    unfold bad6 at h6'
    simp only [Bool.or_eq_true, decide_eq_true_eq, not_or] at h6'
    unfold plainZ
    rw [hb3.out.trans h3, route_six h1'.2 hrt, show inZ e.ph (-1125899906842624) 1125899906842624 = true from decide_eq_true (by unfold quietZ at h6'; omega)]
    rfl
  have H5 : Hid (b1 = true → ∀ w', W0.grownBy w' none → Calls Tryz.prog 51 #[cfV d.cf vd ve vl, .int .i64 5] w' fun e w2 => e = .returned (.bool v5) ∧ w'.grownBy w2 none) := hid fun h1 w' g => by
    rw [← hv5.out]
    have h1' := inZ_iff.1 (hb1.out.trans h1)
    have hN' := hN.later (gr_trans g0 g)
    exact rentries5 d.cf d.ents vd ve vl w' hN'.ents hN'.te hN'.ze h1'.1 h1'.2
  have H6 : Hid (b1 = true → b3 = true → v5 = false → ∀ w', W0.grownBy w' none → Calls Tryz.prog 51 #[cfV d.cf vd ve vl, .int .i64 6] w' fun e w2 => e = .returned (.bool v6) ∧ w'.grownBy w2 none) := hid fun h1 h3 h5 w' g => by
    rw [← hv6.out]
    have h1' := inZ_iff.1 (hb1.out.trans h1)
    have hN' := hN.later (gr_trans g0 g)
    have h5' := hv5.out.trans h5
    rw [Bool.or_eq_false_iff] at h5'
    have hsb := spansZ_bd (hb3.out.trans h3)
    refine rentries6 d.cf d.ents vd ve vl w' hN'.ents hN'.ze (hb3.out.trans h3) fun e he hq hc => ?_
    have hrt := List.any_eq_false.1 h5'.2 e he
    unfold badRoute at hrt
    simp only [Bool.not_eq_true', Bool.not_eq_false] at hrt
    unfold plainZ
    rw [hb3.out.trans h3, route_six h1'.2 hrt, show inZ e.ph (-1125899906842624) 1125899906842624 = true from decide_eq_true (by unfold quietZ at hq; omega)]
    rfl
  have H7 : Hid (b1 = true → b3 = true → v5 = false → v6 = false → ∀ w', W0.grownBy w' none → Calls Tryz.prog 51 #[cfV d.cf vd ve vl, .int .i64 7] w' fun e w2 => e = .returned (.bool v7) ∧ w'.grownBy w2 none) := hid fun h1 h3 h5 h6 w' g => by
    rw [← hv7.out]
    have hN' := hN.later (gr_trans g0 g)
    exact rentries7 d.cf d.ents vd ve vl w' hN'.ents hN'.ze fun e he => (plainZ_bd (hpl h5 h6 h1 h3 e he)).2.2
  have H8 : Hid (b1 = true → b3 = true → v5 = false → v6 = false → ∀ w', W0.grownBy w' none → Calls Tryz.prog 51 #[cfV d.cf vd ve vl, .int .i64 8] w' fun e w2 => e = .returned (.bool v8) ∧ w'.grownBy w2 none) := hid fun h1 h3 h5 h6 w' g => by
    rw [← hv8.out]
    have hN' := hN.later (gr_trans g0 g)
    exact rentries8 d.cf d.ents vd ve vl w' hN'.ents hN'.te hN'.ze (hb3.out.trans h3) (hpl h5 h6 h1 h3)
  have HL := hid hN.lnks
  have HTL := hid hN.tl
  have HN := hid hN
  obtain ⟨a, cap, hvl⟩ : ∃ a cap, Hid (vl = .slice a d.lnks.length cap) := by
    rcases hN.lnks with ⟨a, cap, rfl, h0⟩ | ⟨b, off, cap, rfl, _⟩
    · exact ⟨a, cap, hid (by rw [h0])⟩
    · exact ⟨_, cap, hid rfl⟩
  have G0 := hid g0; have HW := hid hW0
  have HC := hid hC
  obtain ⟨b5, hb5⟩ : ∃ b, Hid (d.lnks.any (badLink d.cf) = b) := ⟨_, hid rfl⟩
  have hr2 := Hr.out
  rw [hb1.out, hb2.out, hb3.out, hb4.out, hv6.out, hv7.out, hv8.out, hb5.out, hb6.out] at hr2
  have e5 : (16 < d.ents.length ∨ d.ents.any (badRoute d.cf) = true) ↔ v5 = true := by rw [← hv5.out]; simp
  simp only [e5] at hr2
  have HR := hid hr2
  have HB1 : Hid (b1 = true → 1 ≤ d.cf.ho ∧ d.cf.ho ≤ 6) := hid fun h => inZ_iff.1 (hb1.out.trans h)
  have HB1n : Hid (b1 = false → d.cf.ho < 1 ∨ 6 < d.cf.ho) := hid fun h => inZ_no.1 (hb1.out.trans h)
  have HB2 : Hid (b2 = true → 1 ≤ d.cf.cy ∧ d.cf.cy ≤ 1073741824) := hid fun h => inZ_iff.1 (hb2.out.trans h)
  have HB2n : Hid (b2 = false → d.cf.cy < 1 ∨ 1073741824 < d.cf.cy) := hid fun h => inZ_no.1 (hb2.out.trans h)
  have HB6 : Hid (b6 = true → 1 ≤ d.cf.qu ∧ d.cf.qu ≤ 64) := hid fun h => inZ_iff.1 (hb6.out.trans h)
  have HB6n : Hid (b6 = false → d.cf.qu < 1 ∨ 64 < d.cf.qu) := hid fun h => inZ_no.1 (hb6.out.trans h)
  clear e5 hr2 Hr hN hC g0 gA hW0 hb1 hb2 hb3 hb4 hv5 hv6 hv7 hv8 hb6 hpl
  obtain ⟨c, rows, ents, lnks⟩ := d
  dsimp only at *
  rw [hvl.out] at H3 H4 H5 H6 H7 H8 HW HC HL ⊢
  clear HN
  obtain ⟨n, hn⟩ : ∃ n, Hid (lnks.length = n) := ⟨_, hid rfl⟩
  rw [hn.out] at H3 H4 H5 H6 H7 H8 HW HC HL HR ⊢
  obtain ⟨ho, cy, de, wi, pr, qu⟩ := c
  dsimp only at *
  have hr := HR.out
  have k0 := hcell HC.out 0 _ rfl
  rw [HW.out] at k0
  cases b1
  · rw [if_pos rfl] at hr
    have Hr := hid hr; clear hr
    rcases HB1n.out rfl with h | h
    all_goals
      go_enter Tryz.func16, Tryz.ntmps16
      go_wp2_with fail
      go_ret
      exact ⟨congrArg (fun n => Ending.returned (.int .i64 n)) Hr.out, HW.out ▸ G0.out⟩
  · rw [if_neg (by simp)] at hr
    obtain ⟨ho0, ho1⟩ := HB1.out rfl
    clear k0
    cases b2
    · rw [if_pos rfl] at hr
      have Hr := hid hr; clear hr
      rcases HB2n.out rfl with h | h
      all_goals
        go_enter Tryz.func16, Tryz.ntmps16
        go_wp2_with fail
        go_ret
        exact ⟨congrArg (fun n => Ending.returned (.int .i64 n)) Hr.out, HW.out ▸ G0.out⟩
    · rw [if_neg (by simp)] at hr
      have HRR := hid hr; clear hr HR
      obtain ⟨cy0, cy1⟩ := HB2.out rfl
      go_enter Tryz.func16, Tryz.ntmps16
      go_wp2_with fail
      rw [← HW.out]
      refine (H3.out _).mono ?_
      rintro e w1 ⟨rfl, g1⟩
      have HC1 := hid (HC.out.kept g1)
      clear H3
      have hr := HRR.out; clear HRR
      cases b3
      · rw [if_pos rfl] at hr
        have Hr := hid hr; clear hr
        go_wp2_with fail
        go_ret
        exact ⟨congrArg (fun n => Ending.returned (.int .i64 n)) Hr.out, gr_trans G0.out g1⟩
      rw [if_neg (by simp)] at hr
      have HRR := hid hr; clear hr
      have j0 := hcell HC1.out 0 _ rfl
      have j1 := hcell HC1.out 1 _ rfl
      have j2 := hcell HC1.out 2 _ rfl
      have j3 := hcell HC1.out 3 _ rfl
      have j4 := hcell HC1.out 4 _ rfl
      have j5 := hcell HC1.out 5 _ rfl
      have j6 := hcell HC1.out 6 _ rfl
      have j7 := hcell HC1.out 7 _ rfl
      have j8 := hcell HC1.out 8 _ rfl
      go_wp2_with fail
      refine (H4.out _ g1).mono ?_
      rintro e w2 ⟨rfl, g2⟩
      have g2' := gr_trans g1 g2
      have HC2 := hid (HC1.out.kept g2)
      clear H4 g1 g2 HC1 j0 j1 j2 j3 j4 j5 j6 j7 j8
      have hr := HRR.out; clear HRR
      cases b4
      · rw [if_pos rfl] at hr
        have Hr := hid hr; clear hr
        go_wp2_with fail
        go_ret
        exact ⟨congrArg (fun n => Ending.returned (.int .i64 n)) Hr.out, gr_trans G0.out g2'⟩
      rw [if_neg (by simp)] at hr
      have HRR := hid hr; clear hr
      have j0 := hcell HC2.out 0 _ rfl
      have j1 := hcell HC2.out 1 _ rfl
      have j2 := hcell HC2.out 2 _ rfl
      have j3 := hcell HC2.out 3 _ rfl
      have j4 := hcell HC2.out 4 _ rfl
      have j5 := hcell HC2.out 5 _ rfl
      have j6 := hcell HC2.out 6 _ rfl
      have j7 := hcell HC2.out 7 _ rfl
      have j8 := hcell HC2.out 8 _ rfl
      go_wp2_with fail
      refine wp_loop_rounds 5 ?_
      rw [rounds_succ]
      go_wp2_with fail
      refine (H5.out (by trivial) _ g2').mono ?_
      rintro e w3 ⟨rfl, g3⟩
      have g3' := gr_trans g2' g3
      have HC3 := hid (HC2.out.kept g3)
      clear H5 g2' g3 HC2 j0 j1 j2 j3 j4 j5 j6 j7 j8
      have hr := HRR.out; clear HRR
      cases v5
      case true =>
        go_wp2_with fail
        go_ret
        exact ⟨congrArg (fun n => Ending.returned (.int .i64 n)) hr, gr_trans G0.out g3'⟩
      have HRR := hid hr; clear hr
      have j0 := hcell HC3.out 0 _ rfl
      have j1 := hcell HC3.out 1 _ rfl
      have j2 := hcell HC3.out 2 _ rfl
      have j3 := hcell HC3.out 3 _ rfl
      have j4 := hcell HC3.out 4 _ rfl
      have j5 := hcell HC3.out 5 _ rfl
      have j6 := hcell HC3.out 6 _ rfl
      have j7 := hcell HC3.out 7 _ rfl
      have j8 := hcell HC3.out 8 _ rfl
      go_wp2_with fail
      rw [rounds_succ]
      go_wp2_with fail
      refine (H6.out (by trivial) (by trivial) (by trivial) _ g3').mono ?_
      rintro e w4 ⟨rfl, g4⟩
      have g4' := gr_trans g3' g4
      have HC4 := hid (HC3.out.kept g4)
      clear H6 g3' g4 HC3 j0 j1 j2 j3 j4 j5 j6 j7 j8
      have hr := HRR.out; clear HRR
      cases v6
      case true =>
        go_wp2_with fail
        go_ret
        exact ⟨congrArg (fun n => Ending.returned (.int .i64 n)) hr, gr_trans G0.out g4'⟩
      have HRR := hid hr; clear hr
      have j0 := hcell HC4.out 0 _ rfl
      have j1 := hcell HC4.out 1 _ rfl
      have j2 := hcell HC4.out 2 _ rfl
      have j3 := hcell HC4.out 3 _ rfl
      have j4 := hcell HC4.out 4 _ rfl
      have j5 := hcell HC4.out 5 _ rfl
      have j6 := hcell HC4.out 6 _ rfl
      have j7 := hcell HC4.out 7 _ rfl
      have j8 := hcell HC4.out 8 _ rfl
      go_wp2_with fail
      rw [rounds_succ]
      go_wp2_with fail
      refine (H7.out (by trivial) (by trivial) (by trivial) (by trivial) _ g4').mono ?_
      rintro e w5 ⟨rfl, g5⟩
      have g5' := gr_trans g4' g5
      have HC5 := hid (HC4.out.kept g5)
      clear H7 g4' g5 HC4 j0 j1 j2 j3 j4 j5 j6 j7 j8
      have hr := HRR.out; clear HRR
      cases v7
      case true =>
        go_wp2_with fail
        go_ret
        exact ⟨congrArg (fun n => Ending.returned (.int .i64 n)) hr, gr_trans G0.out g5'⟩
      have HRR := hid hr; clear hr
      have j0 := hcell HC5.out 0 _ rfl
      have j1 := hcell HC5.out 1 _ rfl
      have j2 := hcell HC5.out 2 _ rfl
      have j3 := hcell HC5.out 3 _ rfl
      have j4 := hcell HC5.out 4 _ rfl
      have j5 := hcell HC5.out 5 _ rfl
      have j6 := hcell HC5.out 6 _ rfl
      have j7 := hcell HC5.out 7 _ rfl
      have j8 := hcell HC5.out 8 _ rfl
      go_wp2_with fail
      rw [rounds_succ]
      go_wp2_with fail
      refine (H8.out (by trivial) (by trivial) (by trivial) (by trivial) _ g5').mono ?_
      rintro e w6 ⟨rfl, g6⟩
      have g6' := gr_trans g5' g6
      have HC6 := hid (HC5.out.kept g6)
      clear H8 g5' g6 HC5 j0 j1 j2 j3 j4 j5 j6 j7 j8
      have hr := HRR.out; clear HRR
      cases v8
      case true =>
        go_wp2_with fail
        go_ret
        exact ⟨congrArg (fun n => Ending.returned (.int .i64 n)) hr, gr_trans G0.out g6'⟩
      have HRR := hid hr; clear hr
      have j0 := hcell HC6.out 0 _ rfl
      have j1 := hcell HC6.out 1 _ rfl
      have j2 := hcell HC6.out 2 _ rfl
      have j3 := hcell HC6.out 3 _ rfl
      have j4 := hcell HC6.out 4 _ rfl
      have j5 := hcell HC6.out 5 _ rfl
      have j6 := hcell HC6.out 6 _ rfl
      have j7 := hcell HC6.out 7 _ rfl
      have j8 := hcell HC6.out 8 _ rfl
      have hr := HRR.out; clear HRR
      rw [if_neg (by simp)] at hr
      by_cases h16 : 16 < n
      · have h16' : (16 : Int) < n := by omega
        rw [if_pos (.inl h16)] at hr
        have HRR := hid hr; clear hr h16
        go_wp2_with fail
        rw [rounds_succ]
        go_wp2_with fail
        go_ret
        exact ⟨congrArg (fun n => Ending.returned (.int .i64 n)) HRR.out, gr_trans G0.out g6'⟩
      have h16' : (n : Int) ≤ 16 := by omega
      have BAD : Hid (∀ k, k < n → badLink ⟨ho, cy, de, wi, pr, qu⟩ (nthE lnks k) = true → 9 = r) := hid (fun k hk h => by
        have h2 : b5 = true := by rw [← hb5.out, List.any_eq_true]; exact ⟨_, nthE_mem (by rw [hn.out]; exact hk), h⟩
        rw [if_pos (.inr h2)] at hr
        exact hr)
      have FIN : Hid ((∀ k, k < n → badLink ⟨ho, cy, de, wi, pr, qu⟩ (nthE lnks k) = false) → (if b6 = false then 10 else 0) = r) := hid (fun h => by
        have h2 : b5 = false := by
          rw [← hb5.out, List.any_eq_false]
          intro x hx
          obtain ⟨j, hj, rfl⟩ := List.getElem_of_mem hx
          have := h j (by rw [← hn.out]; exact hj)
          unfold nthE at this
          rw [List.getElem?_eq_getElem hj] at this
          simpa using this
        rw [if_neg (by rw [h2]; simp [h16])] at hr
        exact hr)
      clear hr h16 hb5
      have HB : Hid (∀ k, k < n → ∃ b off, a = some ⟨b, off, none⟩ ∧ ∀ wr : World, w.grownBy wr none → wr.cell? ⟨b, off + k * 4, none⟩ = some (.int .i64 (nthE lnks k).fr) ∧ wr.cell? ⟨b, off + k * 4 + 1, none⟩ = some (.int .u32 ((nthE lnks k).to : Int)) ∧ wr.cell? ⟨b, off + k * 4 + 2, none⟩ = some (.int .i64 (nthE lnks k).ph) ∧ wr.cell? ⟨b, off + k * 4 + 3, none⟩ = some (.int .i64 (nthE lnks k).sz)) := hid (fun k hk => by
        rcases HL.out with ⟨_, _, e, h0⟩ | ⟨b, off, cap', e, _, _, hf⟩
        · exfalso; omega
        · simp only [Value.slice.injEq] at e
          exact ⟨b, off, e.1, fun wr g => ⟨gr_cell g (hf k hk 0 (by omega)), gr_cell g (hf k hk 1 (by omega)), gr_cell g (hf k hk 2 (by omega)), gr_cell g (hf k hk 3 (by omega))⟩⟩)
      have HRt : Hid (∀ k, k < n → ∀ w' : World, Calls Tryz.prog 52 #[.int .i64 ho, .int .i64 (nthE lnks k).fr, .int .u32 ((nthE lnks k).to : Int), .int .i64 (nthE lnks k).sz] w' fun e w2 => e = .returned (.bool (routeZ ho (nthE lnks k).fr (nthE lnks k).to (nthE lnks k).sz)) ∧ w' = w2) := hid (fun k hk w' =>
        rroute_any ho _ _ _ w' ho0 ho1 (hid (HTL.out _ (nthE_mem (by rw [hn.out]; exact hk)))))
      clear HL HTL
      go_wp2_with fail
      rw [rounds_succ]
      go_wp2_with fail
      clear j0 j1 j2 j3 j4 j5 j6 j7 j8
      go_loopw [4] (fun i wr => ∃ k : Nat, k ≤ n ∧ i = .int .i64 k ∧ Hid (∀ j, j < k → badLink ⟨ho, cy, de, wi, pr, qu⟩ (nthE lnks j) = false) ∧ W0.grownBy wr none) (fun i _ => n - (intOf i).toNat)
      case atStart => exact ⟨0, Nat.zero_le _, rfl, hid (fun j hj => absurd hj (Nat.not_lt_zero _)), g6'⟩
      case round =>
        obtain ⟨k, hk, rfl, hno, g⟩ := hrel
        have G := hid g
        have j7 := hcell (HC.out.kept g) 7 _ rfl
        by_cases hlt : k < n
        · obtain ⟨b, off, rfl, hq⟩ := HB.out k hlt
          obtain ⟨q0, q1, q2, q3⟩ := hq wr (gr_trans G0.out g)
          have hrt := HRt.out k hlt
          obtain ⟨x, hx⟩ : ∃ x, Hid (nthE lnks k = x) := ⟨_, hid rfl⟩
          rw [hx.out] at q0 q1 q2 q3 hrt
          have ga := gr_alloc (gr_refl wr none) (.cells #[.int .i64 x.fr, .int .u32 (x.to : Int), .int .i64 x.ph, .int .i64 x.sz] 121)
          have j0 := hcell (HC.out.kept (gr_trans g ga)) 0 _ rfl
          have GA := hid (gr_trans g ga)
          obtain ⟨v, hv⟩ : ∃ v, Hid (routeZ ho x.fr x.to x.sz = v) := ⟨_, hid rfl⟩
          rw [hv.out] at hrt
          have Hrt := hid hrt
          have hbl : Hid (badLink ⟨ho, cy, de, wi, pr, qu⟩ x = (!v || !inZ x.ph 1 1073741824)) := hid (by unfold badLink; dsimp only; rw [hv.out])
          have HBAD : Hid (badLink ⟨ho, cy, de, wi, pr, qu⟩ x = true → 9 = r) := hid (fun h => BAD.out k hlt (by rw [hx.out]; exact h))
          have hnx : Hid (badLink ⟨ho, cy, de, wi, pr, qu⟩ x = false → ∀ j, j < k + 1 → badLink ⟨ho, cy, de, wi, pr, qu⟩ (nthE lnks j) = false) := hid (fun h j hj => by
            by_cases h2 : j < k
            · exact hno.out j h2
            · obtain rfl : j = k := by omega
              rw [hx.out]; exact h)
          have hk2 : (k : Int) < n := by omega
          have hk0 : (0 : Int) ≤ (k : Int) := by omega
          obtain ⟨fr, to, ph, sz⟩ := x
          dsimp only at *
          clear hrt g ga hq hv hx
          cases v
          · have Hr : Hid (9 = r) := hid (HBAD.out (by rw [hbl.out]; rfl))
            go_wp2_with fail
            refine (Hrt.out _).mono ?_
            rintro e w7 ⟨rfl, rfl⟩
            go_wp2_with fail
            go_ret
            exact ⟨congrArg (fun n => Ending.returned (.int .i64 n)) Hr.out, gr_trans G0.out GA.out⟩
          · by_cases hg1 : ph < 1
            · have Hr : Hid (9 = r) := hid (HBAD.out (by rw [hbl.out, show inZ ph 1 1073741824 = false from decide_eq_false (by omega)]; rfl))
              go_wp2_with fail
              refine (Hrt.out _).mono ?_
              rintro e w7 ⟨rfl, rfl⟩
              go_wp2_with fail
              go_ret
              exact ⟨congrArg (fun n => Ending.returned (.int .i64 n)) Hr.out, gr_trans G0.out GA.out⟩
            · have hg1' : 1 ≤ ph := by omega
              by_cases hg2 : 1073741824 < ph
              · have Hr : Hid (9 = r) := hid (HBAD.out (by rw [hbl.out, show inZ ph 1 1073741824 = false from decide_eq_false (by omega)]; rfl))
                clear hg1
                go_wp2_with fail
                refine (Hrt.out _).mono ?_
                rintro e w7 ⟨rfl, rfl⟩
                go_wp2_with fail
                go_ret
                exact ⟨congrArg (fun n => Ending.returned (.int .i64 n)) Hr.out, gr_trans G0.out GA.out⟩
              · have hg2' : ph ≤ 1073741824 := by omega
                have hb : Hid (∀ j, j < k + 1 → badLink ⟨ho, cy, de, wi, pr, qu⟩ (nthE lnks j) = false) := hid (hnx.out (by rw [hbl.out, show inZ ph 1 1073741824 = true from decide_eq_true ⟨hg1', hg2'⟩]; rfl))
                clear hg1 hg2
                go_wp2_with fail
                refine (Hrt.out _).mono ?_
                rintro e w7 ⟨rfl, rfl⟩
                go_wp2_with fail
                go_roundw
                case rel => exact ⟨k + 1, by omega, by go_num, hb, GA.out⟩
                case measure => simp [intOf]; omega
        · obtain rfl : k = n := by omega
          have hf := FIN.out hno.out
          have HF := hid hf
          have j8 := hcell (HC.out.kept g) 8 _ rfl
          clear hlt hf
          cases b6
          · have Hr : Hid (10 = r) := hid (by have := HF.out; rw [if_pos rfl] at this; exact this)
            rcases HB6n.out rfl with h | h
            all_goals
              go_wp2_with fail
              go_ret
              exact ⟨congrArg (fun n => Ending.returned (.int .i64 n)) Hr.out, gr_trans G0.out g⟩
          · have Hr : Hid (0 = r) := hid (by have := HF.out; rw [if_neg (by simp)] at this; exact this)
            obtain ⟨h8, h9⟩ := HB6.out rfl
            go_wp2_with fail
            go_ret
            exact ⟨congrArg (fun n => Ending.returned (.int .i64 n)) Hr.out, gr_trans G0.out g⟩
end Go.Proofs.YtckoaeoecjphiaaGreat

/- A region that draws its order, by what holds whatever has come up so far: one proof an operation, not one an order. -/
namespace Go.Proofs.YtckoaeoecjphiaaGreat
open Go.RowKit Go.Lib

/-- How many have not come up yet. -/
def openN (listed : Array Bool) : Nat := listed.toList.count false
theorem openN_set {listed : Array Bool} {i : Nat} (h : listed.getD i true = false) : openN (listed.setIfInBounds i true) + 1 = openN listed := by
  have hi : i < listed.size := by
    rcases Nat.lt_or_ge i listed.size with h' | h'
    · exact h'
    · simp [h'] at h
  have hv : listed[i] = false := by simpa [hi] using h
  unfold openN
  rw [Array.toList_setIfInBounds, List.count_set (by simpa using hi)]
  have hp : 0 < listed.toList.count false := List.count_pos_iff.2 (by rw [← hv]; exact (Array.getElem_mem_toList hi))
  have hv' : listed.toList[i] = false := by simpa using hv
  rw [hv']
  have e1 : (if (false == false) = true then 1 else 0) = 1 := rfl
  have e2 : (if (true == false) = true then 1 else 0) = 0 := rfl
  rw [e1, e2]
  omega
section
variable {P : Program} {ops : Array Oper} {Q : Exit → Act → World → Prop} {md : Region.Mode}
/-- Where each waits only for such as lie ahead of it: if none may come up, all have. -/
theorem ready_nil (hb : (List.range ops.size).all (fun i => ((ops[i]?).map fun o => o.after.toList.all fun e => !Region.binds md e || decide (e.on < i)).getD true) = true) {listed : Array Bool} (h : Region.ready md ops listed = []) : ∀ i, i < ops.size → listed.getD i true = true := by
  intro i
  induction i using Nat.strongRecOn with
  | _ i ih =>
    intro hi
    cases hg : listed.getD i true with
    | true => rfl
    | false =>
      have hm : i ∈ Region.ready md ops listed := by
        refine mem_ready.2 ⟨hg, ops[i], Array.getElem?_eq_getElem hi, fun e he hbd => ?_⟩
        have h1 := List.all_eq_true.1 hb i (List.mem_range.2 hi)
        rw [Array.getElem?_eq_getElem hi] at h1
        have h2 := List.all_eq_true.1 h1 e (Array.mem_def.1 he)
        rw [hbd] at h2
        have h3 : e.on < i := by simpa using h2
        have h4 := ih e.on h3 (by omega)
        rcases Nat.lt_or_ge e.on listed.size with h' | h'
        · simpa [h'] using h4
        · exfalso
          have : i < listed.size := by
            rcases Nat.lt_or_ge i listed.size with h'' | h''
            · exact h''
            · simp [h''] at hg
          omega
      rw [h] at hm
      cases hm
/-- For whom a number waits. -/
def waits (md : Region.Mode) (ops : Array Oper) (i : Nat) : List Nat := ((ops[i]?).map fun o => (o.after.toList.filter fun e => Region.binds md e).map (·.on)).getD []
theorem ready_waits {listed : Array Bool} {i : Nat} (h : i ∈ Region.ready md ops listed) : listed.getD i true = false ∧ ∀ d ∈ waits md ops i, listed.getD d false = true := by
  obtain ⟨h0, o, ho, hall⟩ := mem_ready.1 h
  refine ⟨h0, fun d hd => ?_⟩
  unfold waits at hd
  rw [ho] at hd
  obtain ⟨e, he, rfl⟩ := List.mem_map.1 hd
  obtain ⟨he, hbd⟩ := List.mem_filter.1 he
  exact hall e (Array.mem_def.2 he) hbd
/-- The walk by what holds: J, till stop. -/
theorem wpAny_inv (J : Array Bool → Act → World → Prop) (stop : Array Bool → Prop)
    (hlive : ∀ listed a w, J listed a w → ¬stop listed → Region.ready md ops listed ≠ [])
    (hstep : ∀ listed a w, J listed a w → ¬stop listed → ∀ i ∈ Region.ready md ops listed, wpOp P ops Q i (fun a' w' => J (listed.setIfInBounds i true) a' w') a w)
    (hstop : ∀ fuel listed a w, J listed a w → stop listed → openN listed ≤ fuel → wpAny P md ops Q fuel listed a w) :
    ∀ fuel listed a w, J listed a w → openN listed ≤ fuel → wpAny P md ops Q fuel listed a w := by
  intro fuel
  induction fuel with
  | zero =>
    intro listed a w hJ hn
    by_cases hs : stop listed
    · exact hstop 0 listed a w hJ hs hn
    · exfalso
      have h1 := hlive listed a w hJ hs
      obtain ⟨i, hi⟩ := List.exists_mem_of_ne_nil _ h1
      have := openN_set (mem_ready.1 hi).1
      omega
  | succ fuel ih =>
    intro listed a w hJ hn
    by_cases hs : stop listed
    · exact hstop _ listed a w hJ hs hn
    · refine ⟨fun h => absurd h (hlive listed a w hJ hs), fun i hi => ?_⟩
      refine wpOp_mono (fun a' w' hJ' => ih _ a' w' hJ' ?_) (hstep listed a w hJ hs i hi)
      have := openN_set (mem_ready.1 hi).1
      omega
end
/-- A code's region of a number. -/
def regOf (n : Nat) : Code → Option Code
  | .region id ops b => if id = n then some (.region id ops b) else none
  | .seq a b => (regOf n a).orElse fun _ => regOf n b
  | .block _ c => regOf n c
  | .scope c => regOf n c
  | .loop c => regOf n c
  | .cond _ a b => (regOf n a).orElse fun _ => regOf n b
  | _ => none
end Go.Proofs.YtckoaeoecjphiaaGreat
