/- Lemmas: conf.schedule: what is wrong with the entries. conf.Check: what is wrong with a configuration. The document's: crew.Has, short, Spans, Route, Time, Quiet, Times, meet: as the program's own. -/
import Derived.Test.YtckoaeoecjphiaaGreatK05
import Derived.Laws.EntriesVeiled

/- conf.schedule: what is wrong with the entries. -/
namespace Go.Proofs.YtckoaeoecjphiaaGreat
open Go.RowKit Go.Lib

def pairsB (bad : Ent → Ent → Bool) (l : List Ent) : Bool := (List.range l.length).any fun i => (List.range i).any fun j => bad (nthE l i) (nthE l j)
def badRoute (c : Cf) (x : Ent) : Bool := !routeZ c.ho x.fr x.to x.sz
def schedZ (d : Net) : Int :=
  if 16 < d.ents.length ∨ d.ents.any (badRoute d.cf) = true then 5
  else if d.ents.any (bad6 d.cf) = true then 6
  else if pairsB bad7 d.ents = true then 7
  else if pairsB (bad8 d.cf) d.ents = true then 8
  else 0

set_option maxHeartbeats 1000000 in
theorem schedule_any (d : Net) (vd ve vl : Value) (w : World) (hN : NetAt w.heap.size w d vd ve vl) (hsp : spansZ d.cf = true) (h0 : 1 ≤ d.cf.ho) (h1 : d.cf.ho ≤ 6) :
    Calls Tryz.prog 68 #[cfV d.cf vd ve vl] w fun e w' => e = .returned (.int .i64 (schedZ d)) ∧ w.grownBy w' none := by
  obtain ⟨c, rows, ents, lnks⟩ := d
  have hte := hN.te
  have hze := hN.ze
  have hents := hN.ents
  clear hN
  unfold schedZ
  dsimp only at *
  obtain ⟨v5, hv5⟩ : ∃ v, Hid (ents.any (badRoute c) = v) := ⟨_, hid rfl⟩
  obtain ⟨v6, hv6⟩ : ∃ v, Hid (ents.any (bad6 c) = v) := ⟨_, hid rfl⟩
  obtain ⟨v7, hv7⟩ : ∃ v, Hid (pairsB bad7 ents = v) := ⟨_, hid rfl⟩
  obtain ⟨v8, hv8⟩ : ∃ v, Hid (pairsB (bad8 c) ents = v) := ⟨_, hid rfl⟩
  rw [hv5.out, hv6.out, hv7.out, hv8.out]
  obtain ⟨W0, hW0⟩ : ∃ W0, W0 = ((w.alloc (.cells #[.int .i64 c.ho, .int .i64 c.cy, .int .i64 c.de, .int .i64 c.wi, .int .i64 c.pr, vd, ve, vl, .int .i64 c.qu] 26)).alloc (.cells #[.func (.func 112) #[] #[]] 188)).alloc (.cells #[.func (.func 113) #[] #[.pointer (some ⟨w.heap.size, 0, none⟩)]] 188) := ⟨_, rfl⟩
  have gA : (((w.alloc (.cells #[.int .i64 c.ho, .int .i64 c.cy, .int .i64 c.de, .int .i64 c.wi, .int .i64 c.pr, vd, ve, vl, .int .i64 c.qu] 26)).alloc (.cells #[.func (.func 112) #[] #[]] 188)).alloc (.cells #[.func (.func 113) #[] #[.pointer (some ⟨w.heap.size, 0, none⟩)]] 188)).grownBy W0 none := by rw [hW0]; exact gr_refl _ none
  have hC : CfAt W0 w.heap.size c vd ve vl := box_heap1 (bx_gr gA)
  have hP := bx_cell (bx_gr gA) 0 _ rfl
  have hF := bx_cell gA 0 _ rfl
  have g0 : w.grownBy W0 none := bx_gr (bx_gr2 gA)
  have eP : (w.alloc (.cells #[.int .i64 c.ho, .int .i64 c.cy, .int .i64 c.de, .int .i64 c.wi, .int .i64 c.pr, vd, ve, vl, .int .i64 c.qu] 26)).heap.size = w.heap.size + 1 := by simp
  have eF : ((w.alloc (.cells #[.int .i64 c.ho, .int .i64 c.cy, .int .i64 c.de, .int .i64 c.wi, .int .i64 c.pr, vd, ve, vl, .int .i64 c.qu] 26)).alloc (.cells #[.func (.func 112) #[] #[]] 188)).heap.size = w.heap.size + 1 + 1 := by simp
  rw [eP] at hP
  rw [eF] at hF
  have hbig : ∀ j, j < ents.length → Hid ((nthE ents j).to < 4294967296) := fun j hj => hid (hte _ (nthE_mem hj))
  have H5 : Hid (∀ w', W0.grownBy w' none → Calls Tryz.prog 115 #[ve, .func (.func 116) #[] #[.pointer (some ⟨w.heap.size, 0, none⟩)]] w' fun e w2 => e = .returned (.bool v5) ∧ w'.grownBy w2 none) :=
    hid fun w' g => contains_ent _ _ ve ents.length (entF (nthE ents)) (fun j => badRoute c (nthE ents j)) v5 w' ((hents.grown (gr_trans g0 g)).wider (gr_trans g0 g).size) hze (hid (by rw [any_nthE]; exact hv5.out)) Tryz.call116
      fun j hj w2 g2 => bad5_any w.heap.size c vd ve vl (nthE ents j) (hbig j hj) w2 (hC.kept (gr_trans g g2)) h0 h1
  have H6 : Hid (∀ w', W0.grownBy w' none → Calls Tryz.prog 115 #[ve, .func (.func 117) #[] #[.pointer (some ⟨w.heap.size, 0, none⟩)]] w' fun e w2 => e = .returned (.bool v6) ∧ w'.grownBy w2 none) :=
    hid fun w' g => contains_ent _ _ ve ents.length (entF (nthE ents)) (fun j => bad6 c (nthE ents j)) v6 w' ((hents.grown (gr_trans g0 g)).wider (gr_trans g0 g).size) hze (hid (by rw [any_nthE]; exact hv6.out)) Tryz.call117
      fun j hj w2 g2 => bad6_any w.heap.size c vd ve vl (nthE ents j) (hbig j hj) w2 (hC.kept (gr_trans g g2)) hsp
  have hsb := spansZ_bd hsp
  have H7 : Hid (v6 = false → ∀ w', W0.grownBy w' none → Calls Tryz.prog 120 #[ve, .func (.func 121) #[] #[.pointer (some ⟨w.heap.size + 1, 0, none⟩)]] w' fun e w2 => e = .returned (.bool v7) ∧ w'.grownBy w2 none) :=
    hid fun h6 w' g => by
      rw [← hv7.out]
      have hph : ∀ j, j < ents.length → -1125899906842624 ≤ (nthE ents j).ph ∧ (nthE ents j).ph ≤ 1125909906842624 := by
        intro j hj
        have h2 := hv6.out
        rw [h6, List.any_eq_false] at h2
        have h3 := h2 _ (nthE_mem hj)
        unfold bad6 at h3
        simp only [Bool.or_eq_true, decide_eq_true_eq, not_or] at h3
        unfold quietZ at h3
        omega
      exact pairs_any 121 _ ve ents.length (nthE ents) (fun i j => bad7 (nthE ents i) (nthE ents j)) w' ((hents.grown (gr_trans g0 g)).wider (gr_trans g0 g).size) hze Tryz.call121
        fun i j hj hi w2 g2 => bad7_any (w.heap.size + 1) (nthE ents i) (nthE ents j) w2 (gr_cell (gr_trans g g2) hP) (hph i hi) (hph j (by omega))
  have H8 : Hid (∀ w', W0.grownBy w' none → Calls Tryz.prog 120 #[ve, .func (.func 123) #[] #[.pointer (some ⟨w.heap.size + 1 + 1, 0, none⟩)]] w' fun e w2 => e = .returned (.bool v8) ∧ w'.grownBy w2 none) :=
    hid fun w' g => by
      rw [← hv8.out]
      exact pairs_any 123 _ ve ents.length (nthE ents) (fun i j => bad8 c (nthE ents i) (nthE ents j)) w' ((hents.grown (gr_trans g0 g)).wider (gr_trans g0 g).size) hze Tryz.call123
        fun i j hj hi w2 g2 => bad8_any (w.heap.size + 1 + 1) w.heap.size c vd ve vl (nthE ents i) (nthE ents j) (hbig i hi) (hbig j (by omega)) w2 (gr_cell (gr_trans g g2) hF) (hC.kept (gr_trans g g2))
  obtain ⟨a, cap, hve⟩ : ∃ a cap, Hid (ve = .slice a ents.length cap) := by
    rcases hents with ⟨a, cap, rfl, h0⟩ | ⟨b, off, cap, rfl, _⟩
    · exact ⟨a, cap, hid (by rw [h0])⟩
    · exact ⟨_, cap, hid rfl⟩
  have k6 := hcell hC 6 _ rfl
  have G0 := hid g0; have HW := hid hW0
  have K6 := hid k6
  clear hents hte hze hsp h0 h1 hbig hsb hC hP hF eP eF g0 gA hv5 hv6 hv7 hv8 hW0 k6
  rw [hve.out] at H5 H6 H7 H8 HW K6 ⊢
  clear hve
  generalize ents.length = n at *
  obtain ⟨ho, cy, de, wi, pr, qu⟩ := c
  dsimp only at *
  obtain ⟨r, hr⟩ : ∃ r : Int, Hid ((if 16 < n ∨ v5 = true then (5 : Int) else if v6 = true then 6 else if v7 = true then 7 else if v8 = true then 8 else 0) = r) := ⟨_, hid rfl⟩
  rw [hr.out]
  by_cases hn : 16 < n
  · have hn' : (16 : Int) < n := by omega
    have Hr : Hid ((5 : Int) = r) := hid (by rw [← hr.out, if_pos (.inl hn)])
    clear hn hr
    go_enter Tryz.func68, Tryz.ntmps68
    go_wp2_with fail
    go_ret
    exact ⟨congrArg (fun n => Ending.returned (.int .i64 n)) Hr.out, HW.out ▸ G0.out⟩
  · have hn' : (n : Int) ≤ 16 := by omega
    have k6 := K6.out
    have hr' := hr.out
    clear K6 hr
    cases v5
    · rw [if_neg (by simp [hn])] at hr'
      have Hr := hid hr'
      clear hn hr'
      go_enter Tryz.func68, Tryz.ntmps68
      go_wp2_with fail
      rw [← HW.out]
      refine (H5.out _ (gr_refl W0 none)).mono ?_
      rintro e w1 ⟨rfl, g1⟩
      have k6 := gr_cell g1 k6
      go_wp2_with fail
      refine (H6.out _ g1).mono ?_
      rintro e w2 ⟨rfl, g2⟩
      have k6 := gr_cell g2 k6
      have g2' := gr_trans g1 g2
      cases v6
      · go_wp2_with fail
        refine (H7.out trivial _ g2').mono ?_
        rintro e w3 ⟨rfl, g3⟩
        have k6 := gr_cell g3 k6
        have g3' := gr_trans g2' g3
        cases v7
        · go_wp2_with fail
          refine (H8.out _ g3').mono ?_
          rintro e w4 ⟨rfl, g4⟩
          have g4' := gr_trans g3' g4
          cases v8
          all_goals
            go_wp2_with fail
            go_ret
            exact ⟨congrArg (fun n => Ending.returned (.int .i64 n)) Hr.out, gr_trans G0.out g4'⟩
        · go_wp2_with fail
          go_ret
          exact ⟨congrArg (fun n => Ending.returned (.int .i64 n)) Hr.out, gr_trans G0.out g3'⟩
      · go_wp2_with fail
        go_ret
        exact ⟨congrArg (fun n => Ending.returned (.int .i64 n)) Hr.out, gr_trans G0.out g2'⟩
    · rw [if_pos (.inr rfl)] at hr'
      have Hr := hid hr'
      clear hn hr'
      go_enter Tryz.func68, Tryz.ntmps68
      go_wp2_with fail
      rw [← HW.out]
      refine (H5.out _ (gr_refl W0 none)).mono ?_
      rintro e w1 ⟨rfl, g1⟩
      go_wp2_with fail
      go_ret
      exact ⟨congrArg (fun n => Ending.returned (.int .i64 n)) Hr.out, gr_trans G0.out g1⟩
end Go.Proofs.YtckoaeoecjphiaaGreat

/- conf.Check: what is wrong with a configuration. -/
namespace Go.Proofs.YtckoaeoecjphiaaGreat
open Go.RowKit Go.Lib

def badLink (c : Cf) (x : Ent) : Bool := !routeZ c.ho x.fr x.to x.sz || !inZ x.ph 1 1073741824
def checkZ (d : Net) : Int :=
  if inZ d.cf.ho 1 6 = false then 1
  else if inZ d.cf.cy 1 1073741824 = false then 2
  else if spansZ d.cf = false then 3
  else if rowsZ d = false then 4
  else if schedZ d ≠ 0 then schedZ d
  else if 16 < d.lnks.length ∨ d.lnks.any (badLink d.cf) = true then 9
  else if inZ d.cf.qu 1 64 = false then 10
  else 0

set_option maxHeartbeats 1000000 in
theorem check_any (d : Net) (vd ve vl : Value) (w : World) (hN : NetAt w.heap.size w d vd ve vl) :
    Calls Tryz.prog 24 #[cfV d.cf vd ve vl] w fun e w' => e = .returned (.int .i64 (checkZ d)) ∧ w.grownBy w' none := by
  obtain ⟨r, hr⟩ : ∃ r, Hid (checkZ d = r) := ⟨_, hid rfl⟩
  rw [hr.out]
  have hr1 := hr.out
  unfold checkZ at hr1
  have Hr := hid hr1
  clear hr hr1
  obtain ⟨b1, hb1⟩ : ∃ b, Hid (inZ d.cf.ho 1 6 = b) := ⟨_, hid rfl⟩
  obtain ⟨b2, hb2⟩ : ∃ b, Hid (inZ d.cf.cy 1 1073741824 = b) := ⟨_, hid rfl⟩
  obtain ⟨b3, hb3⟩ : ∃ b, Hid (spansZ d.cf = b) := ⟨_, hid rfl⟩
  obtain ⟨b4, hb4⟩ : ∃ b, Hid (rowsZ d = b) := ⟨_, hid rfl⟩
  obtain ⟨s, hs⟩ : ∃ s, Hid (schedZ d = s) := ⟨_, hid rfl⟩
  obtain ⟨b5, hb5⟩ : ∃ b, Hid (d.lnks.any (badLink d.cf) = b) := ⟨_, hid rfl⟩
  obtain ⟨b6, hb6⟩ : ∃ b, Hid (inZ d.cf.qu 1 64 = b) := ⟨_, hid rfl⟩
  obtain ⟨W0, hW0⟩ : ∃ W0, W0 = w.alloc (.cells #[.int .i64 d.cf.ho, .int .i64 d.cf.cy, .int .i64 d.cf.de, .int .i64 d.cf.wi, .int .i64 d.cf.pr, vd, ve, vl, .int .i64 d.cf.qu] 26) := ⟨_, rfl⟩
  have gA : (w.alloc (.cells #[.int .i64 d.cf.ho, .int .i64 d.cf.cy, .int .i64 d.cf.de, .int .i64 d.cf.wi, .int .i64 d.cf.pr, vd, ve, vl, .int .i64 d.cf.qu] 26)).grownBy W0 none := by rw [hW0]; exact gr_refl _ none
  have hC : CfAt W0 w.heap.size d.cf vd ve vl := box_heap gA
  have g0 : w.grownBy W0 none := bx_gr gA
  have H1 : Hid (∀ w' : World, Calls Tryz.prog 65 #[.int .i64 d.cf.ho, .int .i64 1, .int .i64 6] w' fun e w2 => e = .returned (.bool b1) ∧ w' = w2) := hid fun w' => by rw [← hb1.out]; exact in_any _ _ _ w'
  have H2 : Hid (∀ w' : World, Calls Tryz.prog 65 #[.int .i64 d.cf.cy, .int .i64 1, .int .i64 1073741824] w' fun e w2 => e = .returned (.bool b2) ∧ w' = w2) := hid fun w' => by rw [← hb2.out]; exact in_any _ _ _ w'
  have H3 : Hid (∀ w' : World, Calls Tryz.prog 66 #[cfV d.cf vd ve vl] w' fun e w2 => e = .returned (.bool b3) ∧ w'.grownBy w2 none) := hid fun w' => by rw [← hb3.out]; exact spans_any d.cf vd ve vl w'
  have H4 : Hid (∀ w', W0.grownBy w' none → Calls Tryz.prog 67 #[cfV d.cf vd ve vl] w' fun e w2 => e = .returned (.bool b4) ∧ w'.grownBy w2 none) := hid fun w' g => by rw [← hb4.out]; exact rows_any d vd ve vl w' (hN.later (gr_trans g0 g))
  have H5 : Hid (b1 = true → b3 = true → ∀ w', W0.grownBy w' none → Calls Tryz.prog 68 #[cfV d.cf vd ve vl] w' fun e w2 => e = .returned (.int .i64 s) ∧ w'.grownBy w2 none) := hid fun h1 h3 w' g => by
    rw [← hs.out]
    have h1' := inZ_iff.1 (hb1.out.trans h1)
    exact schedule_any d vd ve vl w' (hN.later (gr_trans g0 g)) (hb3.out.trans h3) h1'.1 h1'.2
  have H6 : Hid (b1 = true → ∀ w', W0.grownBy w' none → Calls Tryz.prog 69 #[vl, .func (.func 70) #[] #[.pointer (some ⟨w.heap.size, 0, none⟩)]] w' fun e w2 => e = .returned (.bool b5) ∧ w'.grownBy w2 none) := hid fun h1 w' g => by
    have h1' := inZ_iff.1 (hb1.out.trans h1)
    exact contains_lnk _ _ vl d.lnks.length (entF (nthE d.lnks)) (fun j => badLink d.cf (nthE d.lnks j)) b5 w' ((hN.later (gr_trans g0 g)).lnks) hN.zl (hid (by rw [any_nthE]; exact hb5.out)) Tryz.call70
      fun j hj w2 g2 => badl_any w.heap.size d.cf vd ve vl (nthE d.lnks j) (hid (hN.tl _ (nthE_mem hj))) w2 (hC.kept (gr_trans g g2)) h1'.1 h1'.2
  have H7 : Hid (∀ w' : World, Calls Tryz.prog 65 #[.int .i64 d.cf.qu, .int .i64 1, .int .i64 64] w' fun e w2 => e = .returned (.bool b6) ∧ w' = w2) := hid fun w' => by rw [← hb6.out]; exact in_any _ _ _ w'
  obtain ⟨a, cap, hvl⟩ : ∃ a cap, Hid (vl = .slice a d.lnks.length cap) := by
    rcases hN.lnks with ⟨a, cap, rfl, h0⟩ | ⟨b, off, cap, rfl, _⟩
    · exact ⟨a, cap, hid (by rw [h0])⟩
    · exact ⟨_, cap, hid rfl⟩
  have G0 := hid g0; have HW := hid hW0
  have HC := hid hC
  have hr2 := Hr.out
  rw [hb1.out, hb2.out, hb3.out, hb4.out, hs.out, hb5.out, hb6.out] at hr2
  have HR := hid hr2
  clear hr2 Hr hN hC g0 gA hW0 hb1 hb2 hb3 hb4 hs hb5 hb6
  obtain ⟨c, rows, ents, lnks⟩ := d
  dsimp only at *
  rw [hvl.out] at H3 H4 H5 H6 HW HC ⊢
  clear hvl
  generalize lnks.length = n at *
  obtain ⟨ho, cy, de, wi, pr, qu⟩ := c
  dsimp only at *
  have k0 := hcell HC.out 0 _ rfl
  have k1 := hcell HC.out 1 _ rfl
  have k2 := hcell HC.out 2 _ rfl
  have k3 := hcell HC.out 3 _ rfl
  have k4 := hcell HC.out 4 _ rfl
  have k5 := hcell HC.out 5 _ rfl
  have k6 := hcell HC.out 6 _ rfl
  have k7 := hcell HC.out 7 _ rfl
  have k8 := hcell HC.out 8 _ rfl
  have K := hid (And.intro k0 (And.intro k1 (And.intro k2 (And.intro k3 (And.intro k4 (And.intro k5 (And.intro k6 (And.intro k7 k8))))))))
  clear k0 k1 k2 k3 k4 k5 k6 k7 k8
  have hr := HR.out
  clear HR
  cases b1
  · rw [if_pos rfl] at hr
    have Hr := hid hr; clear hr
    go_enter Tryz.func24, Tryz.ntmps24
    go_wp2_with fail
    rw [← HW.out]
    refine (H1.out _).mono ?_
    rintro e w1 ⟨rfl, rfl⟩
    go_wp2_with fail
    go_ret
    exact ⟨congrArg (fun n => Ending.returned (.int .i64 n)) Hr.out, G0.out⟩
  · rw [if_neg (by simp)] at hr
    go_enter Tryz.func24, Tryz.ntmps24
    have HR := hid hr; clear hr
    go_wp2_with fail
    rw [← HW.out]
    refine (H1.out _).mono ?_
    rintro e w1 ⟨rfl, rfl⟩
    clear H1
    have k1 := K.out.2.1
    go_wp2_with fail
    refine (H2.out _).mono ?_
    rintro e w1 ⟨rfl, rfl⟩
    clear H2 k1
    have hr := HR.out; clear HR
    cases b2
    · rw [if_pos rfl] at hr
      have Hr := hid hr; clear hr
      go_wp2_with fail
      go_ret
      exact ⟨congrArg (fun n => Ending.returned (.int .i64 n)) Hr.out, G0.out⟩
    rw [if_neg (by simp)] at hr
    have HR := hid hr; clear hr
    obtain ⟨k0, k1, k2, k3, k4, k5, k6, k7, k8⟩ := K.out
    go_wp2_with fail
    refine (H3.out _).mono ?_
    rintro e w1 ⟨rfl, g1⟩
    have HC1 := hid (HC.out.kept g1)
    clear H3 k0 k1 k2 k3 k4 k5 k6 k7 k8 K HC
    have hr := HR.out; clear HR
    cases b3
    · rw [if_pos rfl] at hr
      have Hr := hid hr; clear hr
      go_wp2_with fail
      go_ret
      exact ⟨congrArg (fun n => Ending.returned (.int .i64 n)) Hr.out, gr_trans G0.out g1⟩
    rw [if_neg (by simp)] at hr
    have HR := hid hr; clear hr
    have k0 := hcell HC1.out 0 _ rfl
    have k1 := hcell HC1.out 1 _ rfl
    have k2 := hcell HC1.out 2 _ rfl
    have k3 := hcell HC1.out 3 _ rfl
    have k4 := hcell HC1.out 4 _ rfl
    have k5 := hcell HC1.out 5 _ rfl
    have k6 := hcell HC1.out 6 _ rfl
    have k7 := hcell HC1.out 7 _ rfl
    have k8 := hcell HC1.out 8 _ rfl
    go_wp2_with fail
    refine (H4.out _ g1).mono ?_
    rintro e w2 ⟨rfl, g2⟩
    have g2' := gr_trans g1 g2
    have HC2 := hid (HC1.out.kept g2)
    clear H4 k0 k1 k2 k3 k4 k5 k6 k7 k8 g1 g2 HC1
    have hr := HR.out; clear HR
    cases b4
    · rw [if_pos rfl] at hr
      have Hr := hid hr; clear hr
      go_wp2_with fail
      go_ret
      exact ⟨congrArg (fun n => Ending.returned (.int .i64 n)) Hr.out, gr_trans G0.out g2'⟩
    rw [if_neg (by simp)] at hr
    have HR := hid hr; clear hr
    have k0 := hcell HC2.out 0 _ rfl
    have k1 := hcell HC2.out 1 _ rfl
    have k2 := hcell HC2.out 2 _ rfl
    have k3 := hcell HC2.out 3 _ rfl
    have k4 := hcell HC2.out 4 _ rfl
    have k5 := hcell HC2.out 5 _ rfl
    have k6 := hcell HC2.out 6 _ rfl
    have k7 := hcell HC2.out 7 _ rfl
    have k8 := hcell HC2.out 8 _ rfl
    go_wp2_with fail
    refine (H5.out (by trivial) (by trivial) _ g2').mono ?_
    rintro e w3 ⟨rfl, g3⟩
    have g3' := gr_trans g2' g3
    have HC3 := hid (HC2.out.kept g3)
    clear H5 k0 k1 k2 k3 k4 k5 k6 k7 k8 g2' g3 HC2
    have hr := HR.out; clear HR
    by_cases hs : s = 0
    · subst hs
      rw [if_neg (by simp)] at hr
      have k7 := hcell HC3.out 7 _ rfl
      have k8 := hcell HC3.out 8 _ rfl
      by_cases hn : 16 < n
      · have hn' : (16 : Int) < n := by omega
        rw [if_pos (.inl hn)] at hr
        have Hr := hid hr; clear hr hn
        go_wp2_with fail
        go_ret
        exact ⟨congrArg (fun n => Ending.returned (.int .i64 n)) Hr.out, gr_trans G0.out g3'⟩
      have hn' : (n : Int) ≤ 16 := by omega
      cases b5
      · rw [if_neg (by simp [hn])] at hr
        have HR := hid hr; clear hr hn
        go_wp2_with fail
        refine (H6.out (by trivial) _ g3').mono ?_
        rintro e w4 ⟨rfl, g4⟩
        have k8 := gr_cell g4 k8
        go_wp2_with fail
        refine (H7.out _).mono ?_
        rintro e w5 ⟨rfl, rfl⟩
        have hr := HR.out; clear HR
        cases b6
        · rw [if_pos rfl] at hr
          have Hr := hid hr; clear hr
          go_wp2_with fail
          go_ret
          exact ⟨congrArg (fun n => Ending.returned (.int .i64 n)) Hr.out, gr_trans G0.out (gr_trans g3' g4)⟩
        · rw [if_neg (by simp)] at hr
          have Hr := hid hr; clear hr
          go_wp2_with fail
          go_ret
          exact ⟨congrArg (fun n => Ending.returned (.int .i64 n)) Hr.out, gr_trans G0.out (gr_trans g3' g4)⟩
      · rw [if_pos (.inr rfl)] at hr
        have Hr := hid hr; clear hr hn
        go_wp2_with fail
        refine (H6.out (by trivial) _ g3').mono ?_
        rintro e w4 ⟨rfl, g4⟩
        go_wp2_with fail
        go_ret
        exact ⟨congrArg (fun n => Ending.returned (.int .i64 n)) Hr.out, gr_trans G0.out (gr_trans g3' g4)⟩
    · rw [if_pos hs] at hr
      have Hr := hid hr; clear hr
      have hs' : (s != 0) = true := by simpa using hs
      clear hs
      go_wp2_with fail
      go_ret
      exact ⟨congrArg (fun n => Ending.returned (.int .i64 n)) Hr.out, gr_trans G0.out g3'⟩
end Go.Proofs.YtckoaeoecjphiaaGreat

/- The document's: crew.Has, short, Spans, Route, Time, Quiet, Times, meet: as the program's own. -/
namespace Go.Proofs.YtckoaeoecjphiaaGreat
open Go.RowKit Go.Lib

theorem half_pow (c i : Nat) : ((c / 2 ^ i : Nat) : Int) / 2 = ((c / 2 ^ (i + 1) : Nat) : Int) := by
  rw [Nat.pow_succ, ← Nat.div_div_eq_div_mul]; omega

theorem rhas_at (c h : Nat) (hc : Hid (c < 4294967296)) (hh : h < 6) (w : World) :
    Calls Tryz.prog 43 #[.int .u32 (c : Int), .int .i64 (h : Int)] w fun e w' => e = .returned (.bool (hasN c h)) ∧ w = w' := by
  have h1 : (h : Int) ≤ 5 := by omega
  go_enter Tryz.func43, Tryz.ntmps43
  go_wp2_with fail
  go_loop [0, 5] (fun x i => ∃ k : Nat, k ≤ h ∧ i = .int .i64 k ∧ ∃ m : Int, x = .int .u32 m ∧ 0 ≤ m ∧ Hid (((c / 2 ^ k : Nat) : Int) = m)) (fun _ i => h - (intOf i).toNat)
  case atStart => exact ⟨0, Nat.zero_le _, rfl, (c : Int), rfl, Int.natCast_nonneg _, hid (by simp)⟩
  case round =>
    obtain ⟨k, hk, rfl, m, rfl, m0, hm⟩ := hrel
    by_cases hlt : k < h
    · have hb : m < 4294967296 := by
        have h2 := hm.out; have h3 := hc.out; have := Nat.div_le_self c (2 ^ k); omega
      go_wp2_with fail
      go_round
      case rel => exact ⟨k + 1, by omega, by go_num, m / 2, by first | rfl | go_num, by omega, hid (by rw [← half_pow, hm.out])⟩
      case measure => simp [intOf]; omega
    · obtain rfl : k = h := by omega
      clear hlt
      go_wp2_with fail
      go_ret
      refine ⟨congrArg (fun b => Ending.returned (.bool b)) ?_, rfl⟩
      have h2 := hm.out
      unfold hasN
      rw [← h2]
      generalize c / 2 ^ k = q
      rw [Bool.eq_iff_iff]
      simp
      omega
theorem rhasZ_at (c : Nat) (h : Int) (hc : Hid (c < 4294967296)) (h0 : 0 ≤ h) (hh : h < 6) (w : World) :
    Calls Tryz.prog 43 #[.int .u32 (c : Int), .int .i64 h] w fun e w' => e = .returned (.bool (hasN c h.toNat)) ∧ w = w' := by
  obtain ⟨n, rfl⟩ := Int.eq_ofNat_of_zero_le h0
  exact rhas_at c n hc (by omega) w

theorem rshort_any (n : Int) (w : World) :
    Calls Tryz.prog 95 #[.int .i64 n] w fun e w' => e = .returned (.bool (inZ n 0 1048576)) ∧ w = w' := by
  by_cases h1 : 0 ≤ n
  · by_cases h2 : n ≤ 1048576
    · rw [show inZ n 0 1048576 = true from decide_eq_true ⟨h1, h2⟩]
      go_enter Tryz.func95, Tryz.ntmps95
      go_wp2_with fail
      go_ret
      exact ⟨rfl, rfl⟩
    · rw [show inZ n 0 1048576 = false from decide_eq_false (by omega)]
      have h4 : decide (n ≤ 1048576) = false := decide_eq_false h2
      have h3 : 1048576 < n := by omega
      clear h2
      go_enter Tryz.func95, Tryz.ntmps95
      go_wp2_with fail
      go_ret
      exact ⟨rfl, rfl⟩
  · rw [show inZ n 0 1048576 = false from decide_eq_false (by omega)]
    have h3 : n < 0 := by omega
    clear h1
    go_enter Tryz.func95, Tryz.ntmps95
    go_wp2_with fail
    go_ret
    exact ⟨rfl, rfl⟩

theorem rspans_any (c : Cf) (vd ve vl : Value) (w : World) :
    Calls Tryz.prog 49 #[cfV c vd ve vl] w fun e w' => e = .returned (.bool (spansZ c)) ∧ w.grownBy w' none := by
  unfold spansZ
  obtain ⟨b, hb⟩ : ∃ b, Hid (inZ c.cy 1 1073741824 = b) := ⟨_, hid rfl⟩
  rw [hb.out]
  obtain ⟨ho, cy, de, wi, pr, qu⟩ := c
  dsimp only at *
  cases b
  · rcases inZ_no.1 hb.out with h | h
    all_goals
      clear hb
      go_enter Tryz.func49, Tryz.ntmps49
      go_wp2_with (go_at_call 95; refine (rshort_any _ _).mono ?_; rintro e w' ⟨rfl, rfl⟩)
    all_goals first
      | (go_ret; exact ⟨rfl, gr_alloc (gr_refl w none) _⟩)
      | (exfalso; omega)
  · obtain ⟨h0, h1⟩ := inZ_iff.1 hb.out
    clear hb
    go_enter Tryz.func49, Tryz.ntmps49
    go_wp2_with (go_at_call 95; refine (rshort_any _ _).mono ?_; rintro e w' ⟨rfl, rfl⟩)
    all_goals
      go_ret
      exact ⟨by simp [*], gr_alloc (gr_refl w none) _⟩

theorem rtime_any (s : Int) (w : World) :
    Calls Tryz.prog 98 #[.int .i64 s] w fun e w' => e = .returned (.int .i64 (timeZ s)) ∧ w = w' := by
  have h : (s < 64 ∧ timeZ s = 512) ∨ (64 ≤ s ∧ s ≤ 1518 ∧ timeZ s = s * 8) ∨ (1518 < s ∧ timeZ s = 12144) := by unfold timeZ; omega
  rcases h with ⟨h1, e⟩ | ⟨h1, h2, e⟩ | ⟨h1, e⟩
  all_goals
    rw [e]
    clear e
    go_enter Tryz.func98, Tryz.ntmps98
    go_wp2_with fail
    go_ret
    exact ⟨rfl, rfl⟩

theorem rquiet_any (c : Cf) (vd ve vl : Value) (w : World) (h : spansZ c = true) :
    Calls Tryz.prog 96 #[cfV c vd ve vl] w fun e w' => e = .returned (.int .i64 (quietZ c)) ∧ w.grownBy w' none := by
  obtain ⟨⟨c0, c1⟩, ⟨d0, d1⟩, ⟨e0, e1⟩, ⟨f0, f1⟩⟩ := spansZ_bd h
  have hs := fun w' : World => rspans_any c vd ve vl w'
  simp only [h] at hs
  have Hs := hid hs
  clear h hs
  obtain ⟨r, hr⟩ : ∃ r, Hid (quietZ c = r) := ⟨_, hid rfl⟩
  rw [hr.out]
  unfold quietZ at hr
  obtain ⟨ho, cy, de, wi, pr, qu⟩ := c
  dsimp only at *
  go_enter Tryz.func96, Tryz.ntmps96
  go_wp2_with fail
  refine (Hs.out _).mono ?_
  rintro e w1 ⟨rfl, g1⟩
  have k2 := hcell (box_heap g1) 2 _ rfl
  have k3 := hcell (box_heap g1) 3 _ rfl
  have k4 := hcell (box_heap g1) 4 _ rfl
  go_wp2_with fail
  go_ret
  exact ⟨congrArg (fun n => Ending.returned (.int .i64 n)) (by rw [← hr.out]; omega), bx_gr g1⟩

theorem rmeet_any (x tx y ty : Int) (w : World) (hx : -1125899906842624 ≤ x ∧ x ≤ 1125909906842624) (hy : -1125899906842624 ≤ y ∧ y ≤ 1125909906842624) (htx : 512 ≤ tx ∧ tx ≤ 12144) (hty : 512 ≤ ty ∧ ty ≤ 12144) :
    Calls Tryz.prog 99 #[.int .i64 x, .int .i64 tx, .int .i64 y, .int .i64 ty] w fun e w' => e = .returned (.bool (meetZ x y tx ty)) ∧ w = w' := by
  have hm : meetZ x y tx ty = !(decide (x + tx ≤ y) || decide (y + ty ≤ x)) := by
    unfold meetZ
    rw [Bool.eq_iff_iff]
    simp
    omega
  rw [hm]
  clear hm
  obtain ⟨x0, x1⟩ := hx
  obtain ⟨y0, y1⟩ := hy
  obtain ⟨p0, p1⟩ := htx
  obtain ⟨q0, q1⟩ := hty
  go_enter Tryz.func99, Tryz.ntmps99
  go_wp2_with fail
  all_goals
    go_ret
    exact ⟨by simp [*], rfl⟩

theorem pow_cases (ho : Int) (h0 : 1 ≤ ho) (h1 : ho ≤ 6) : ((2 ^ ho.toNat : Nat) : Int) ≤ 64 := by
  have : (2 : Nat) ^ ho.toNat ≤ 2 ^ 6 := Nat.pow_le_pow_right (by omega) (by omega)
  omega
theorem rroute_any (ho fr : Int) (to : Nat) (sz : Int) (w : World) (h0 : 1 ≤ ho) (h1 : ho ≤ 6) (hto : Hid (to < 4294967296)) :
    Calls Tryz.prog 52 #[.int .i64 ho, .int .i64 fr, .int .u32 (to : Int), .int .i64 sz] w fun e w' => e = .returned (.bool (routeZ ho fr to sz)) ∧ w = w' := by
  by_cases hg : 0 ≤ fr ∧ fr < ho ∧ to ≠ 0 ∧ 64 ≤ sz ∧ sz ≤ 1518
  · obtain ⟨g1, g2, g3, g4, g5⟩ := hg
    obtain ⟨d, hd⟩ : ∃ d, Hid (hasN to fr.toNat = d) := ⟨_, hid rfl⟩
    have hh := fun w' : World => rhasZ_at to fr hto g1 (by omega) w'
    simp only [hd.out] at hh
    obtain ⟨r, hr⟩ : ∃ r, Hid (routeZ ho fr to sz = r) := ⟨_, hid rfl⟩
    have Hr : Hid ((decide (to / 2 ^ ho.toNat = 0) && !d) = r) := hid (by
      rw [← hr.out, ← hd.out]
      unfold routeZ
      rw [show inZ fr 0 (ho - 1) = true from decide_eq_true (by omega), show inZ sz 64 1518 = true from decide_eq_true ⟨g4, g5⟩, decide_eq_false g3]
      simp)
    have g3' : ((to : Int) == 0) = false := by simpa using g3
    have Hh := hid hh
    rw [hr.out]
    clear hh hd hr g3
    go_enter Tryz.func52, Tryz.ntmps52
    go_wp2_with fail
    go_loop [9, 10] (fun l i => ∃ k : Nat, (k : Int) ≤ ho ∧ i = .int .i64 k ∧ ∃ m : Int, l = .int .u32 m ∧ 1 ≤ m ∧ m ≤ 64 ∧ Hid (((2 ^ k : Nat) : Int) = m)) (fun _ i => (ho - intOf i).toNat)
    case atStart => exact ⟨0, by omega, rfl, 1, rfl, by omega, by omega, hid rfl⟩
    case round =>
      obtain ⟨k, hk, rfl, m, rfl, m0, m1, hm⟩ := hrel
      by_cases hlt : (k : Int) < ho
      · have hm2 : Hid (((2 ^ (k + 1) : Nat) : Int) = m * 2) := hid (by have := hm.out; rw [Nat.pow_succ]; omega)
        have hm3 : m * 2 ≤ 64 := by
          have h2 := hm2.out
          have : (2 : Nat) ^ (k + 1) ≤ 2 ^ 6 := Nat.pow_le_pow_right (by omega) (by omega)
          omega
        go_wp2_with fail
        go_round
        case rel => exact ⟨k + 1, by omega, by go_num, m * 2, rfl, by omega, by omega, hm2⟩
        case measure => simp [intOf]; omega
      · have hk2 : ho = k := by omega
        have hk3 : ho ≤ (k : Int) := by omega
        have hp : Hid (decide (to / 2 ^ ho.toNat = 0) = decide ((to : Int) < m)) := hid (by
          have h2 := hm.out
          rw [hk2, ← h2]
          simp only [Int.toNat_natCast]
          rw [decide_eq_decide, Nat.div_eq_zero_iff]
          have := Nat.two_pow_pos k
          omega)
        have hr := Hr.out
        rw [hp.out] at hr
        have HR := hid hr
        clear hlt hk2 hr Hr hp
        go_wp2_with (go_at_call 43; refine (Hh.out _).mono ?_; rintro e w' ⟨rfl, rfl⟩)
        all_goals
          go_ret
          exact ⟨congrArg (fun b => Ending.returned (.bool b)) (by rw [← HR.out]; first | (simp [*]; done) | (simp [*]; omega)), rfl⟩
  · have hr : routeZ ho fr to sz = false := by
      rcases hb : routeZ ho fr to sz with _ | _
      · rfl
      · unfold routeZ at hb
        simp only [Bool.and_eq_true, Bool.not_eq_true', decide_eq_false_iff_not, inZ_iff] at hb
        omega
    rw [hr]
    clear hr
    by_cases g1 : 0 ≤ fr
    · by_cases g2 : fr < ho
      · by_cases g3 : to = 0
        · have g3' : ((to : Int) == 0) = true := by simpa using g3
          clear g3 hg
          go_enter Tryz.func52, Tryz.ntmps52
          go_wp2_with fail
          go_ret
          exact ⟨rfl, rfl⟩
        · have g3' : ((to : Int) == 0) = false := by simpa using g3
          by_cases g4 : 64 ≤ sz
          · have g5 : 1518 < sz := by omega
            clear g3 hg
            go_enter Tryz.func52, Tryz.ntmps52
            go_wp2_with fail
            go_ret
            exact ⟨rfl, rfl⟩
          · have g5 : sz < 64 := by omega
            clear g3 hg g4
            go_enter Tryz.func52, Tryz.ntmps52
            go_wp2_with fail
            go_ret
            exact ⟨rfl, rfl⟩
      · have g5 : ho ≤ fr := by omega
        clear hg g2
        go_enter Tryz.func52, Tryz.ntmps52
        go_wp2_with fail
        go_ret
        exact ⟨rfl, rfl⟩
    · have g5 : fr < 0 := by omega
      clear hg g1
      go_enter Tryz.func52, Tryz.ntmps52
      go_wp2_with fail
      go_ret
      exact ⟨rfl, rfl⟩
end Go.Proofs.YtckoaeoecjphiaaGreat
