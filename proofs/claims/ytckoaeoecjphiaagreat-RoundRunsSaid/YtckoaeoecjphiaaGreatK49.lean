/- Lemmas: The document's round: Close. -/
import Derived.Test.YtckoaeoecjphiaaGreatK48
import Derived.Test.YtckoaeoecjphiaaGreatK18
import Derived.Deep.RegionWith

/- The document's round: Close. -/
namespace Go.Proofs.YtckoaeoecjphiaaGreat
open Go.RowKit Go.Lib

/-- Behind a region that made two slices: the ways are forgotten. -/
def BehindS (F : Option Addr → Nat → Option Addr → Nat → Act) (S : World → Prop) : Exit → Act → World → Prop
  | .normal, a, W => (∃ g c g2 c2, a = F g c g2 c2) ∧ S W
  | _, _, _ => False
theorem wp_behindS {P : Program} {code : Code} {Q : Exit → Act → World → Prop} {a : Act} {w : World} {F : Option Addr → Nat → Option Addr → Nat → Act} (S : World → Prop) (h : code.wp P (BehindS F S) a w) (k : ∀ g c g2 c2 W, S W → Q .normal (F g c g2 c2) W) : code.wp P Q a w :=
  Code.wp_mono (fun e a W hb => by
    cases e with
    | normal => obtain ⟨⟨g, c, g2, c2, ha⟩, hs⟩ := hb; subst ha; exact k g c g2 c2 W hs
    | _ => exact (hb : False).elim) h
theorem rclose12_nil (c : Cf) (vd ve vl v : Value) (base : Nat) (p E cy : Int) (w : World) (hk : KH w base v p E cy []) :
    Calls Tryz.prog 45 #[v, cfV c vd ve vl] w fun e w' => e = .returned (.tuple #[.int .i64 0, .int .u32 0, .int .i64 0]) ∧ w.grownBy w' none := by
  obtain ⟨a, cap, rfl⟩ := own_form hk
  clear hk
  obtain ⟨ho, C, de, wi, pr, qu⟩ := c
  go_enter Tryz.func45, Tryz.ntmps45
  go_wp2_with fail
  go_ret3
  exact ⟨rfl, gr_alloc (gr_refl w none) _⟩
theorem set6h {w : World} {g : Nat} {a b c d e f a' b' c' d' e' f' : Value} {t : TypeId} (h : w.heap[g]? = some (.cells #[a, b, c, d, e, f] t)) : ((((((w.setCell ⟨g, 0, none⟩ a').setCell ⟨g, 1, none⟩ b').setCell ⟨g, 2, none⟩ c').setCell ⟨g, 3, none⟩ d').setCell ⟨g, 4, none⟩ e').setCell ⟨g, 5, none⟩ f').heap[g]? = some (.cells #[a', b', c', d', e', f'] t) := by
  simp only [World.setCell, Array.getElem?_modify, if_true, h, Option.map_some]
  rfl
set_option maxRecDepth 100000 in
set_option maxHeartbeats 4000000 in
theorem rclose12_one (c : Cf) (vd ve vl v : Value) (base : Nat) (cy p : Int) (x : Hd) (w : World) (hk : KH w base v p (expZ c) cy [x])
    (hsp : spansZ c = true) (hp : Hid (cy * c.cy = p)) (h1 : 0 ≤ p ∧ p ≤ 562949953421312) (hx : -4194304 ≤ x.by_ ∧ x.by_ ≤ 4194304) :
    Calls Tryz.prog 45 #[v, cfV c vd ve vl] w fun e w' => e = .returned (.tuple #[.int .i64 x.by_, .int .u32 (x.cr : Int), .int .i64 1]) ∧ w.grownBy w' none := by
  have HO := hid (fun W : World => roffset_any c vd ve vl W hsp)
  obtain ⟨_, ⟨d0, d1⟩, ⟨e0, e1⟩, _⟩ := spansZ_bd hsp
  obtain ⟨E, hE⟩ : ∃ x, Hid (expZ c = x) := ⟨_, hid rfl⟩
  rw [hE.out] at HO hk
  have hEb : 0 ≤ E ∧ E ≤ 4194304 := by rw [← hE.out]; unfold expZ; omega
  obtain ⟨E0, E1⟩ := hEb
  clear hsp hE
  obtain ⟨ho, C, de, wi, pr, qu⟩ := c
  dsimp only at *
  obtain ⟨g, cap, rfl, hcap, ⟨hg0, hg1⟩, hcells⟩ := hk.cells (by simp)
  have hz : 0 < cap := by have : ([x] : List Hd).length = 1 := rfl; omega
  have q0 := hcells w rfl 0 (by simp) 0 _ (by omega) rfl
  have q1 := hcells w rfl 0 (by simp) 1 _ (by omega) rfl
  have q2 := hcells w rfl 0 (by simp) 2 _ (by omega) rfl
  have q3 := hcells w rfl 0 (by simp) 3 _ (by omega) rfl
  have q4 := hcells w rfl 0 (by simp) 4 _ (by omega) rfl
  have q5 := hcells w rfl 0 (by simp) 5 _ (by omega) rfl
  simp only [nthH, List.getElem?_cons_zero, Option.getD_some, Nat.zero_mul, Nat.zero_add] at q0 q1 q2 q3 q4 q5
  obtain ⟨b, cr, fr⟩ := x
  dsimp only at *
  obtain ⟨L, hL⟩ : ∃ L, Hid (p + E - b = L) := ⟨_, hid rfl⟩
  rw [hL.out] at q0
  have hLb : p + E - L = b := by rw [← hL.out]; omega
  have s1 : IntKind.i64.wrap (cy * C) = p := by rw [hp.out]; exact IntWalk.i64_in _ (by omega)
  have s2 : IntKind.i64.wrap (p + E) = p + E := IntWalk.i64_in _ (by omega)
  have s3 : IntKind.i64.wrap (p + E - L) = b := by rw [hLb]; exact IntWalk.i64_in _ (by omega)
  clear hk hcells hLb
  have g0 := gr_alloc (gr_refl w none) (.cells #[.int .i64 ho, .int .i64 C, .int .i64 de, .int .i64 wi, .int .i64 pr, vd, ve, vl, .int .i64 qu] 26)
  have q0 := gr_cell g0 q0
  have q1 := gr_cell g0 q1
  have q2 := gr_cell g0 q2
  have q3 := gr_cell g0 q3
  have q4 := gr_cell g0 q4
  have q5 := gr_cell g0 q5
  clear g0
  simp only [List.length_cons, List.length_nil, Nat.zero_add]
  go_enter Tryz.func45, Tryz.ntmps45
  go_wp2_with fail
  refine wp_loop_rounds 1 ?_
  rw [rounds_succ]
  go_wp2_with fail
  obtain ⟨W0, hW0⟩ : ∃ W0, (w.alloc (.cells #[.int .i64 ho, .int .i64 C, .int .i64 de, .int .i64 wi, .int .i64 pr, vd, ve, vl, .int .i64 qu] 26)).alloc (.cells #[.int .i64 L, .int .i64 2, .int .i64 fr, .int .i64 cy, .int .u32 (cr : Int), .int .i64 0] 174) = W0 := ⟨_, rfl⟩
  have hB0 := hid (show W0.heap[w.heap.size]? = some (.cells #[.int .i64 ho, .int .i64 C, .int .i64 de, .int .i64 wi, .int .i64 pr, vd, ve, vl, .int .i64 qu] 26) by rw [← hW0]; exact box_heap1 (gr_refl _ none))
  have hB1 := hid (show W0.heap[w.heap.size + 1]? = some (.cells #[.int .i64 L, .int .i64 2, .int .i64 fr, .int .i64 cy, .int .u32 (cr : Int), .int .i64 0] 174) by rw [← hW0]; exact box_heap2 (gr_refl _ none))
  have g0 := hid (show w.grownBy W0 none by rw [← hW0]; exact gr_alloc (gr_alloc (gr_refl w none) _) _)
  rw [hW0]
  clear hW0 q0 q1 q2 q3 q4 q5
  have m0 := grn_cell (hcell hB0.out 0 _ rfl)
  have m1 := grn_cell (hcell hB0.out 1 _ rfl)
  have m2 := grn_cell (hcell hB0.out 2 _ rfl)
  have m3 := grn_cell (hcell hB0.out 3 _ rfl)
  have m4 := grn_cell (hcell hB0.out 4 _ rfl)
  have m5 := grn_cell (hcell hB0.out 5 _ rfl)
  have m6 := grn_cell (hcell hB0.out 6 _ rfl)
  have m7 := grn_cell (hcell hB0.out 7 _ rfl)
  have m8 := grn_cell (hcell hB0.out 8 _ rfl)
  have n0 := grn_cell (hcell hB1.out 0 _ rfl)
  have n1 := grn_cell (hcell hB1.out 1 _ rfl)
  have n2 := grn_cell (hcell hB1.out 2 _ rfl)
  have n3 := grn_cell (hcell hB1.out 3 _ rfl)
  have n4 := grn_cell (hcell hB1.out 4 _ rfl)
  have n5 := grn_cell (hcell hB1.out 5 _ rfl)
  refine wp_region_grown (by kernel_rfl) (by kernel_rfl) ?_
  repeat (go_big_quiet_step ((go_at_call 46; refine (HO.out _).mono ?_; rintro e w6 ⟨rfl, g6⟩; exact ⟨rfl, ⟨_, gr_trans (Grn.gr _) g6⟩, rfl⟩)))
  refine wpQuiet_nil ?_
  rintro w4 ⟨X, rfl⟩
  have gX := gr_trans g0.out X.gr
  clear m0 m1 m2 m3 m4 m5 m6 m7 m8 n0 n1 n2 n3 n4 n5
  go_wp2_with fail
  go_ret3
  exact ⟨rfl, gX⟩
set_option maxRecDepth 100000 in
set_option maxHeartbeats 8000000 in
theorem rclose12_two (c : Cf) (vd ve vl v : Value) (base : Nat) (cy p : Int) (x y : Hd) (w : World) (hk : KH w base v p (expZ c) cy [x, y])
    (hsp : spansZ c = true) (hp : Hid (cy * c.cy = p)) (h1 : 0 ≤ p ∧ p ≤ 562949953421312) (hx : -4194304 ≤ x.by_ ∧ x.by_ ≤ 4194304) (hy : -4194304 ≤ y.by_ ∧ y.by_ ≤ 4194304) (hcx : x.cr < 64) (hcy : y.cr < 64) :
    Calls Tryz.prog 45 #[v, cfV c vd ve vl] w fun e w' => e = .returned (.tuple #[.int .i64 (if betterH y x = true then y.by_ else x.by_), .int .u32 ((if betterH y x = true then y.cr else x.cr : Nat) : Int), .int .i64 2]) ∧ w.grownBy w' none := by
  have HO := hid (fun W : World => roffset_any c vd ve vl W hsp)
  obtain ⟨_, ⟨d0, d1⟩, ⟨e0, e1⟩, _⟩ := spansZ_bd hsp
  obtain ⟨E, hE⟩ : ∃ x, Hid (expZ c = x) := ⟨_, hid rfl⟩
  rw [hE.out] at HO hk
  have hEb : 0 ≤ E ∧ E ≤ 4194304 := by rw [← hE.out]; unfold expZ; omega
  obtain ⟨E0, E1⟩ := hEb
  clear hsp hE
  obtain ⟨ho, C, de, wi, pr, qu⟩ := c
  dsimp only at *
  obtain ⟨g, cap, rfl, hcap, ⟨hg0, hg1⟩, hcells⟩ := hk.cells (by simp)
  have hz : 0 < cap := by have : ([x, y] : List Hd).length = 2 := rfl; omega
  have hz1 : 1 < cap := by have : ([x, y] : List Hd).length = 2 := rfl; omega
  have HY := hid (fun (W' : World) (e : W'.heap[g]? = w.heap[g]?) => hcells W' e 1 (by simp))
  have Hg1 := hid hg1
  have q0 := hcells w rfl 0 (by simp) 0 _ (by omega) rfl
  have q1 := hcells w rfl 0 (by simp) 1 _ (by omega) rfl
  have q2 := hcells w rfl 0 (by simp) 2 _ (by omega) rfl
  have q3 := hcells w rfl 0 (by simp) 3 _ (by omega) rfl
  have q4 := hcells w rfl 0 (by simp) 4 _ (by omega) rfl
  have q5 := hcells w rfl 0 (by simp) 5 _ (by omega) rfl
  simp only [nthH, List.getElem?_cons_zero, Option.getD_some, Nat.zero_mul, Nat.zero_add] at q0 q1 q2 q3 q4 q5
  have HMx := hid (fun W : World => rmembers_any x.cr hcx W)
  have HMy := hid (fun W : World => rmembers_any y.cr hcy W)
  obtain ⟨mx, hmx⟩ : ∃ m, Hid (cntN x.cr = m) := ⟨_, hid rfl⟩
  obtain ⟨my, hmy⟩ : ∃ m, Hid (cntN y.cr = m) := ⟨_, hid rfl⟩
  rw [hmx.out] at HMx
  rw [hmy.out] at HMy
  have hbt : Hid (betterH y x = if my = mx then decide (y.fr < x.fr) else decide (mx < my)) := hid (by unfold betterH; rw [hmx.out, hmy.out])
  obtain ⟨b, cr, fr⟩ := x
  obtain ⟨b2, cr2, fr2⟩ := y
  dsimp only at *
  obtain ⟨L, hL⟩ : ∃ L, Hid (p + E - b = L) := ⟨_, hid rfl⟩
  obtain ⟨L2, hL2⟩ : ∃ L, Hid (p + E - b2 = L) := ⟨_, hid rfl⟩
  rw [hL.out] at q0
  have HY' : Hid (∀ (W' : World), W'.heap[g]? = w.heap[g]? → W'.cell? ⟨g, 6, none⟩ = some (.int .i64 L2) ∧ W'.cell? ⟨g, 7, none⟩ = some (.int .i64 2) ∧ W'.cell? ⟨g, 8, none⟩ = some (.int .i64 fr2) ∧ W'.cell? ⟨g, 9, none⟩ = some (.int .i64 cy) ∧ W'.cell? ⟨g, 10, none⟩ = some (.int .u32 (cr2 : Int)) ∧ W'.cell? ⟨g, 11, none⟩ = some (.int .i64 0)) := hid (fun W' e => by
    have k := HY.out W' e
    refine ⟨?_, k 1 _ (by omega) rfl, k 2 _ (by omega) rfl, k 3 _ (by omega) rfl, k 4 _ (by omega) rfl, k 5 _ (by omega) rfl⟩
    rw [← hL2.out]
    exact k 0 _ (by omega) rfl)
  have hLb : p + E - L = b := by rw [← hL.out]; omega
  have hLb2 : p + E - L2 = b2 := by rw [← hL2.out]; omega
  have s1 : IntKind.i64.wrap (cy * C) = p := by rw [hp.out]; exact IntWalk.i64_in _ (by omega)
  have s2 : IntKind.i64.wrap (p + E) = p + E := IntWalk.i64_in _ (by omega)
  have s3 : IntKind.i64.wrap (p + E - L) = b := by rw [hLb]; exact IntWalk.i64_in _ (by omega)
  have s4 : IntKind.i64.wrap (p + E - L2) = b2 := by rw [hLb2]; exact IntWalk.i64_in _ (by omega)
  clear hk hcells hLb hLb2 HY hmx hmy hg1
  have g0 := gr_alloc (gr_refl w none) (.cells #[.int .i64 ho, .int .i64 C, .int .i64 de, .int .i64 wi, .int .i64 pr, vd, ve, vl, .int .i64 qu] 26)
  have q0 := gr_cell g0 q0
  have q1 := gr_cell g0 q1
  have q2 := gr_cell g0 q2
  have q3 := gr_cell g0 q3
  have q4 := gr_cell g0 q4
  have q5 := gr_cell g0 q5
  clear g0
  simp only [List.length_cons, List.length_nil, Nat.zero_add]
  obtain ⟨RB, hRB⟩ : ∃ z : Int, Hid ((if betterH ⟨b2, cr2, fr2⟩ ⟨b, cr, fr⟩ = true then b2 else b) = z) := ⟨_, hid rfl⟩
  obtain ⟨RC, hRC⟩ : ∃ z : Nat, Hid ((if betterH ⟨b2, cr2, fr2⟩ ⟨b, cr, fr⟩ = true then cr2 else cr) = z) := ⟨_, hid rfl⟩
  rw [hRB.out, hRC.out]
  go_enter Tryz.func45, Tryz.ntmps45
  go_wp2_with fail
  refine wp_loop_rounds 2 ?_
  rw [rounds_succ]
  go_wp2_with fail
  obtain ⟨W0, hW0⟩ : ∃ W0, (w.alloc (.cells #[.int .i64 ho, .int .i64 C, .int .i64 de, .int .i64 wi, .int .i64 pr, vd, ve, vl, .int .i64 qu] 26)).alloc (.cells #[.int .i64 L, .int .i64 2, .int .i64 fr, .int .i64 cy, .int .u32 (cr : Int), .int .i64 0] 174) = W0 := ⟨_, rfl⟩
  have hB0 := hid (show W0.heap[w.heap.size]? = some (.cells #[.int .i64 ho, .int .i64 C, .int .i64 de, .int .i64 wi, .int .i64 pr, vd, ve, vl, .int .i64 qu] 26) by rw [← hW0]; exact box_heap1 (gr_refl _ none))
  have hB1 := hid (show W0.heap[w.heap.size + 1]? = some (.cells #[.int .i64 L, .int .i64 2, .int .i64 fr, .int .i64 cy, .int .u32 (cr : Int), .int .i64 0] 174) by rw [← hW0]; exact box_heap2 (gr_refl _ none))
  have g0 := hid (show w.grownBy W0 none by rw [← hW0]; exact gr_alloc (gr_alloc (gr_refl w none) _) _)
  rw [hW0]
  clear hW0 q0 q1 q2 q3 q4 q5
  have gA := gr_drew (gr_refl W0 none)
  have y4 := (HY'.out W0 (g0.out.block g Hg1.out (by simp))).2.2.2.2.1
  have x4 := hcell hB1.out 4 _ rfl
  apply wp_behindS (fun W => Hid (W0.grownBy W none))
  case h =>
    go_region_with (first | (go_at_call 93; with_reducible refine (HMy.out _).mono ?_; rintro e w6 ⟨ga, gc, rfl, g6⟩; have HG6 := hid (gr_trans (gr_drew (gr_refl W0 none)) g6); have x4 := gr_cell HG6.out x4; have y4 := gr_cell HG6.out y4; clear g6) | (go_at_call 93; with_reducible refine (HMx.out _).mono ?_; rintro e w7 ⟨ga2, gc2, rfl, g7⟩; have HG7 := hid (gr_trans HG6.out g7); clear g7))
    all_goals simp only [Act.put, List.getElem_toArray, List.getElem_cons_zero, List.getElem_cons_succ, List.setIfInBounds_toArray, List.set_cons_zero, List.set_cons_succ]
    all_goals exact ⟨⟨ga, gc, ga2, gc2, rfl⟩, HG7⟩
  case k =>
    intro ga gc ga2 gc2 W5 HG5
    have y1 := (HY'.out W5 ((gr_trans g0.out HG5.out).block g Hg1.out (by simp))).2.2.1
    have x1 := hcell (gr_heap HG5.out hB1.out (by simp)) 2 _ rfl
    clear gA
    obtain ⟨MX, hMX⟩ : ∃ z : Int, (mx : Int) = z := ⟨_, rfl⟩
    obtain ⟨MY, hMY⟩ : ∃ z : Int, (my : Int) = z := ⟨_, rfl⟩
    by_cases hm1 : mx < my
    · have hd1 : decide (MX < MY) = true := decide_eq_true (by omega)
      have hbf : Hid (betterH ⟨b2, cr2, fr2⟩ ⟨b, cr, fr⟩ = true) := hid (by rw [hbt.out, if_neg (by omega), decide_eq_true hm1])
      clear hm1
      go_wp2_with fail
      go_quiet (fail)
      obtain ⟨W6, hW6⟩ : ∃ W6, W5.drewN nq = W6 := ⟨_, rfl⟩
      have HG6 := hid (show W5.grownBy W6 none by rw [← hW6]; exact gr_drewN (gr_refl W5 none) nq)
      rw [hW6]
      clear hW6
      have HB0 := hid (gr_heap HG6.out (gr_heap HG5.out hB0.out (by simp)) (by simp))
      have HB1 := hid (gr_heap HG6.out (gr_heap HG5.out hB1.out (by simp)) (by simp))
      have GG := hid (gr_trans g0.out (gr_trans HG5.out HG6.out))
      obtain ⟨z0, z1, z2, z3, z4, z5⟩ := HY'.out W6 (GG.out.block g Hg1.out (by simp))
      have f0 := hfroz HB1.out 0
      have f1 := hfroz HB1.out 1
      have f2 := hfroz HB1.out 2
      have f3 := hfroz HB1.out 3
      have f4 := hfroz HB1.out 4
      have f5 := hfroz HB1.out 5
      have e0 := hcell HB1.out 0 _ rfl
      have e1 := hcell HB1.out 1 _ rfl
      have e2 := hcell HB1.out 2 _ rfl
      have e3 := hcell HB1.out 3 _ rfl
      have e4 := hcell HB1.out 4 _ rfl
      have e5 := hcell HB1.out 5 _ rfl
      clear y1 x1 y4 x4
      go_wp2_with fail
      rw [rounds_succ]
      go_wp2_with fail
      obtain ⟨W7, hW7⟩ : ∃ W7, ((((((W6.setCell ⟨w.heap.size + 1, 0, none⟩ (.int .i64 L2)).setCell ⟨w.heap.size + 1, 1, none⟩ (.int .i64 2)).setCell ⟨w.heap.size + 1, 2, none⟩ (.int .i64 fr2)).setCell ⟨w.heap.size + 1, 3, none⟩ (.int .i64 cy)).setCell ⟨w.heap.size + 1, 4, none⟩ (.int .u32 (cr2 : Int))).setCell ⟨w.heap.size + 1, 5, none⟩ (.int .i64 0)) = W7 := ⟨_, rfl⟩
      have HC1 := hid (show W7.heap[w.heap.size + 1]? = some (.cells #[.int .i64 L2, .int .i64 2, .int .i64 fr2, .int .i64 cy, .int .u32 (cr2 : Int), .int .i64 0] 174) by rw [← hW7]; exact set6h HB1.out)
      have HC0 := hid (show W7.heap[w.heap.size]? = some (.cells #[.int .i64 ho, .int .i64 C, .int .i64 de, .int .i64 wi, .int .i64 pr, vd, ve, vl, .int .i64 qu] 26) by rw [← hW7, setCell_heap (by omega), setCell_heap (by omega), setCell_heap (by omega), setCell_heap (by omega), setCell_heap (by omega), setCell_heap (by omega)]; exact HB0.out)
      have GC := hid (show w.grownBy W7 none by rw [← hW7]; exact gr_setNew (gr_setNew (gr_setNew (gr_setNew (gr_setNew (gr_setNew GG.out (by omega) 0 _) (by omega) 1 _) (by omega) 2 _) (by omega) 3 _) (by omega) 4 _) (by omega) 5 _)
      rw [hW7]
      clear hW7 z0 z1 z2 z3 z4 z5 f0 f1 f2 f3 f4 f5 e0 e1 e2 e3 e4 e5
      have m0 := grn_cell (hcell HC0.out 0 _ rfl)
      have m1 := grn_cell (hcell HC0.out 1 _ rfl)
      have m2 := grn_cell (hcell HC0.out 2 _ rfl)
      have m3 := grn_cell (hcell HC0.out 3 _ rfl)
      have m4 := grn_cell (hcell HC0.out 4 _ rfl)
      have m5 := grn_cell (hcell HC0.out 5 _ rfl)
      have m6 := grn_cell (hcell HC0.out 6 _ rfl)
      have m7 := grn_cell (hcell HC0.out 7 _ rfl)
      have m8 := grn_cell (hcell HC0.out 8 _ rfl)
      have n0 := grn_cell (hcell HC1.out 0 _ rfl)
      have n1 := grn_cell (hcell HC1.out 1 _ rfl)
      have n2 := grn_cell (hcell HC1.out 2 _ rfl)
      have n3 := grn_cell (hcell HC1.out 3 _ rfl)
      have n4 := grn_cell (hcell HC1.out 4 _ rfl)
      have n5 := grn_cell (hcell HC1.out 5 _ rfl)
      refine wp_region_grown (by kernel_rfl) (by kernel_rfl) ?_
      repeat (go_big_quiet_step ((go_at_call 46; refine (HO.out _).mono ?_; rintro e w6 ⟨rfl, g6⟩; exact ⟨rfl, ⟨_, gr_trans (Grn.gr _) g6⟩, rfl⟩)))
      refine wpQuiet_nil ?_
      rintro w4 ⟨X, rfl⟩
      have gX := gr_trans GC.out X.gr
      clear m0 m1 m2 m3 m4 m5 m6 m7 m8 n0 n1 n2 n3 n4 n5
      go_wp2_with fail
      go_ret3
      exact ⟨by rw [← hRB.out, ← hRC.out, hbf.out]; rfl, gX⟩
    · have hd1 : decide (MX < MY) = false := decide_eq_false (by omega)
      by_cases hm2 : my = mx
      · have hd2 : (MY == MX) = true := by simp; omega
        by_cases hfr : fr2 < fr
        · have hd3 : decide (fr2 < fr) = true := decide_eq_true hfr
          have hbf : Hid (betterH ⟨b2, cr2, fr2⟩ ⟨b, cr, fr⟩ = true) := hid (by rw [hbt.out, if_pos hm2, decide_eq_true hfr])
          clear hm1 hm2 hfr
          go_wp2_with fail
          go_quiet (fail)
          obtain ⟨W6, hW6⟩ : ∃ W6, W5.drewN nq = W6 := ⟨_, rfl⟩
          have HG6 := hid (show W5.grownBy W6 none by rw [← hW6]; exact gr_drewN (gr_refl W5 none) nq)
          rw [hW6]
          clear hW6
          have HB0 := hid (gr_heap HG6.out (gr_heap HG5.out hB0.out (by simp)) (by simp))
          have HB1 := hid (gr_heap HG6.out (gr_heap HG5.out hB1.out (by simp)) (by simp))
          have GG := hid (gr_trans g0.out (gr_trans HG5.out HG6.out))
          obtain ⟨z0, z1, z2, z3, z4, z5⟩ := HY'.out W6 (GG.out.block g Hg1.out (by simp))
          have f0 := hfroz HB1.out 0
          have f1 := hfroz HB1.out 1
          have f2 := hfroz HB1.out 2
          have f3 := hfroz HB1.out 3
          have f4 := hfroz HB1.out 4
          have f5 := hfroz HB1.out 5
          have e0 := hcell HB1.out 0 _ rfl
          have e1 := hcell HB1.out 1 _ rfl
          have e2 := hcell HB1.out 2 _ rfl
          have e3 := hcell HB1.out 3 _ rfl
          have e4 := hcell HB1.out 4 _ rfl
          have e5 := hcell HB1.out 5 _ rfl
          clear y1 x1 y4 x4
          go_wp2_with fail
          rw [rounds_succ]
          go_wp2_with fail
          obtain ⟨W7, hW7⟩ : ∃ W7, ((((((W6.setCell ⟨w.heap.size + 1, 0, none⟩ (.int .i64 L2)).setCell ⟨w.heap.size + 1, 1, none⟩ (.int .i64 2)).setCell ⟨w.heap.size + 1, 2, none⟩ (.int .i64 fr2)).setCell ⟨w.heap.size + 1, 3, none⟩ (.int .i64 cy)).setCell ⟨w.heap.size + 1, 4, none⟩ (.int .u32 (cr2 : Int))).setCell ⟨w.heap.size + 1, 5, none⟩ (.int .i64 0)) = W7 := ⟨_, rfl⟩
          have HC1 := hid (show W7.heap[w.heap.size + 1]? = some (.cells #[.int .i64 L2, .int .i64 2, .int .i64 fr2, .int .i64 cy, .int .u32 (cr2 : Int), .int .i64 0] 174) by rw [← hW7]; exact set6h HB1.out)
          have HC0 := hid (show W7.heap[w.heap.size]? = some (.cells #[.int .i64 ho, .int .i64 C, .int .i64 de, .int .i64 wi, .int .i64 pr, vd, ve, vl, .int .i64 qu] 26) by rw [← hW7, setCell_heap (by omega), setCell_heap (by omega), setCell_heap (by omega), setCell_heap (by omega), setCell_heap (by omega), setCell_heap (by omega)]; exact HB0.out)
          have GC := hid (show w.grownBy W7 none by rw [← hW7]; exact gr_setNew (gr_setNew (gr_setNew (gr_setNew (gr_setNew (gr_setNew GG.out (by omega) 0 _) (by omega) 1 _) (by omega) 2 _) (by omega) 3 _) (by omega) 4 _) (by omega) 5 _)
          rw [hW7]
          clear hW7 z0 z1 z2 z3 z4 z5 f0 f1 f2 f3 f4 f5 e0 e1 e2 e3 e4 e5
          have m0 := grn_cell (hcell HC0.out 0 _ rfl)
          have m1 := grn_cell (hcell HC0.out 1 _ rfl)
          have m2 := grn_cell (hcell HC0.out 2 _ rfl)
          have m3 := grn_cell (hcell HC0.out 3 _ rfl)
          have m4 := grn_cell (hcell HC0.out 4 _ rfl)
          have m5 := grn_cell (hcell HC0.out 5 _ rfl)
          have m6 := grn_cell (hcell HC0.out 6 _ rfl)
          have m7 := grn_cell (hcell HC0.out 7 _ rfl)
          have m8 := grn_cell (hcell HC0.out 8 _ rfl)
          have n0 := grn_cell (hcell HC1.out 0 _ rfl)
          have n1 := grn_cell (hcell HC1.out 1 _ rfl)
          have n2 := grn_cell (hcell HC1.out 2 _ rfl)
          have n3 := grn_cell (hcell HC1.out 3 _ rfl)
          have n4 := grn_cell (hcell HC1.out 4 _ rfl)
          have n5 := grn_cell (hcell HC1.out 5 _ rfl)
          refine wp_region_grown (by kernel_rfl) (by kernel_rfl) ?_
          repeat (go_big_quiet_step ((go_at_call 46; refine (HO.out _).mono ?_; rintro e w6 ⟨rfl, g6⟩; exact ⟨rfl, ⟨_, gr_trans (Grn.gr _) g6⟩, rfl⟩)))
          refine wpQuiet_nil ?_
          rintro w4 ⟨X, rfl⟩
          have gX := gr_trans GC.out X.gr
          clear m0 m1 m2 m3 m4 m5 m6 m7 m8 n0 n1 n2 n3 n4 n5
          go_wp2_with fail
          go_ret3
          exact ⟨by rw [← hRB.out, ← hRC.out, hbf.out]; rfl, gX⟩
        · have hd3 : decide (fr2 < fr) = false := decide_eq_false hfr
          have hbf : Hid (betterH ⟨b2, cr2, fr2⟩ ⟨b, cr, fr⟩ = false) := hid (by rw [hbt.out, if_pos hm2, decide_eq_false hfr])
          clear hm1 hm2 hfr
          go_wp2_with fail
          go_quiet (fail)
          obtain ⟨W6, hW6⟩ : ∃ W6, W5.drewN nq = W6 := ⟨_, rfl⟩
          have HG6 := hid (show W5.grownBy W6 none by rw [← hW6]; exact gr_drewN (gr_refl W5 none) nq)
          rw [hW6]
          clear hW6
          go_wp2_with fail
          rw [rounds_succ]
          go_wp2_with fail
          have HB0 := hid (gr_heap HG6.out (gr_heap HG5.out hB0.out (by simp)) (by simp))
          have HB1 := hid (gr_heap HG6.out (gr_heap HG5.out hB1.out (by simp)) (by simp))
          have GG := hid (gr_trans g0.out (gr_trans HG5.out HG6.out))
          clear y1 x1 y4 x4
          have m0 := grn_cell (hcell HB0.out 0 _ rfl)
          have m1 := grn_cell (hcell HB0.out 1 _ rfl)
          have m2 := grn_cell (hcell HB0.out 2 _ rfl)
          have m3 := grn_cell (hcell HB0.out 3 _ rfl)
          have m4 := grn_cell (hcell HB0.out 4 _ rfl)
          have m5 := grn_cell (hcell HB0.out 5 _ rfl)
          have m6 := grn_cell (hcell HB0.out 6 _ rfl)
          have m7 := grn_cell (hcell HB0.out 7 _ rfl)
          have m8 := grn_cell (hcell HB0.out 8 _ rfl)
          have n0 := grn_cell (hcell HB1.out 0 _ rfl)
          have n1 := grn_cell (hcell HB1.out 1 _ rfl)
          have n2 := grn_cell (hcell HB1.out 2 _ rfl)
          have n3 := grn_cell (hcell HB1.out 3 _ rfl)
          have n4 := grn_cell (hcell HB1.out 4 _ rfl)
          have n5 := grn_cell (hcell HB1.out 5 _ rfl)
          refine wp_region_grown (by kernel_rfl) (by kernel_rfl) ?_
          repeat (go_big_quiet_step ((go_at_call 46; refine (HO.out _).mono ?_; rintro e w6 ⟨rfl, g6⟩; exact ⟨rfl, ⟨_, gr_trans (Grn.gr _) g6⟩, rfl⟩)))
          refine wpQuiet_nil ?_
          rintro w4 ⟨X, rfl⟩
          have gX := gr_trans GG.out X.gr
          clear m0 m1 m2 m3 m4 m5 m6 m7 m8 n0 n1 n2 n3 n4 n5
          go_wp2_with fail
          go_ret3
          exact ⟨by rw [← hRB.out, ← hRC.out, hbf.out]; rfl, gX⟩
      · have hd2 : (MY == MX) = false := by simp; omega
        have hbf : Hid (betterH ⟨b2, cr2, fr2⟩ ⟨b, cr, fr⟩ = false) := hid (by rw [hbt.out, if_neg hm2, decide_eq_false hm1])
        clear hm1 hm2
        go_wp2_with fail
        go_quiet (fail)
        obtain ⟨W6, hW6⟩ : ∃ W6, W5.drewN nq = W6 := ⟨_, rfl⟩
        have HG6 := hid (show W5.grownBy W6 none by rw [← hW6]; exact gr_drewN (gr_refl W5 none) nq)
        rw [hW6]
        clear hW6
        go_wp2_with fail
        rw [rounds_succ]
        go_wp2_with fail
        have HB0 := hid (gr_heap HG6.out (gr_heap HG5.out hB0.out (by simp)) (by simp))
        have HB1 := hid (gr_heap HG6.out (gr_heap HG5.out hB1.out (by simp)) (by simp))
        have GG := hid (gr_trans g0.out (gr_trans HG5.out HG6.out))
        clear y1 x1 y4 x4
        have m0 := grn_cell (hcell HB0.out 0 _ rfl)
        have m1 := grn_cell (hcell HB0.out 1 _ rfl)
        have m2 := grn_cell (hcell HB0.out 2 _ rfl)
        have m3 := grn_cell (hcell HB0.out 3 _ rfl)
        have m4 := grn_cell (hcell HB0.out 4 _ rfl)
        have m5 := grn_cell (hcell HB0.out 5 _ rfl)
        have m6 := grn_cell (hcell HB0.out 6 _ rfl)
        have m7 := grn_cell (hcell HB0.out 7 _ rfl)
        have m8 := grn_cell (hcell HB0.out 8 _ rfl)
        have n0 := grn_cell (hcell HB1.out 0 _ rfl)
        have n1 := grn_cell (hcell HB1.out 1 _ rfl)
        have n2 := grn_cell (hcell HB1.out 2 _ rfl)
        have n3 := grn_cell (hcell HB1.out 3 _ rfl)
        have n4 := grn_cell (hcell HB1.out 4 _ rfl)
        have n5 := grn_cell (hcell HB1.out 5 _ rfl)
        refine wp_region_grown (by kernel_rfl) (by kernel_rfl) ?_
        repeat (go_big_quiet_step ((go_at_call 46; refine (HO.out _).mono ?_; rintro e w6 ⟨rfl, g6⟩; exact ⟨rfl, ⟨_, gr_trans (Grn.gr _) g6⟩, rfl⟩)))
        refine wpQuiet_nil ?_
        rintro w4 ⟨X, rfl⟩
        have gX := gr_trans GG.out X.gr
        clear m0 m1 m2 m3 m4 m5 m6 m7 m8 n0 n1 n2 n3 n4 n5
        go_wp2_with fail
        go_ret3
        exact ⟨by rw [← hRB.out, ← hRC.out, hbf.out]; rfl, gX⟩
end Go.Proofs.YtckoaeoecjphiaaGreat
