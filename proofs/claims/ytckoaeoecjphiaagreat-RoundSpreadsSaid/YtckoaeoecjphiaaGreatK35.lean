/- Lemmas: round.Go: what is refused. round.Go: refused for its clocks. -/
import Derived.Test.YtckoaeoecjphiaaGreatK34

/- round.Go: what is refused. -/
namespace Go.Proofs.YtckoaeoecjphiaaGreat
open Go.RowKit Go.Lib

/-- May the round be asked for, but for its clocks? -/
def cleanZ (d : Net) (cy : Int) (n : Nat) : Bool := decide (checkZ d = 0) && (decide (0 ≤ cy) && (decide (cy ≤ 1125899906842624 / (2 * max d.cf.cy 1)) && decide ((n : Int) = d.cf.ho)))
def lateC (p : Int) (k : Ck) : Bool := decide (p < k.b)
def goesZ (d : Net) (cy : Int) (l : List Ck) : Bool := cleanZ d cy l.length && (l.all newC && !(l.any (lateC (cy * d.cf.cy))))

theorem made_any (sv : Value) (l : List Ck) (w : World) (hs : CksAt w.heap.size w sv l) (hz : l.length * 24 ≤ 140737488351232) :
    Calls Tryz.prog 25 #[sv] w fun e w' => ∃ v, e = .returned (.tuple #[v, .bool (l.all newC)]) ∧ w.grownBy w' none := by
  by_cases h : l.all newC = true
  · rw [h]
    refine (made_ok sv l w hs hz (fun k hk => List.all_eq_true.1 h k hk)).mono ?_
    rintro e w' ⟨v, ps, rfl, _, g⟩
    exact ⟨v, rfl, g⟩
  · have hb : ∃ j, j < l.length ∧ newC (nthC l j) = false := by
      rw [List.all_eq_true] at h
      apply Classical.byContradiction
      intro hc
      apply h
      intro k hk
      obtain ⟨i, hi, rfl⟩ := List.getElem_of_mem hk
      apply Classical.byContradiction
      intro hk2
      exact hc ⟨i, hi, by rw [show nthC l i = l[i] by simp [nthC, hi]]; exact Bool.eq_false_iff.2 hk2⟩
    obtain ⟨j, ⟨hj, hbj⟩, hmin⟩ : ∃ j, (j < l.length ∧ newC (nthC l j) = false) ∧ ∀ i, i < j → ¬ (i < l.length ∧ newC (nthC l i) = false) := by
      obtain ⟨j0, hj0⟩ := hb
      induction j0 using Nat.strongRecOn with
      | _ j0 ih =>
        by_cases hx : ∃ i, i < j0 ∧ (i < l.length ∧ newC (nthC l i) = false)
        · obtain ⟨i, hi, h2⟩ := hx
          exact ih i hi h2
        · exact ⟨j0, hj0, fun i hi h2 => hx ⟨i, hi, h2⟩⟩
    rw [Bool.eq_false_iff.2 h]
    refine (made_bad sv l w hs hz j hj hbj ?_).mono ?_
    · intro i hi
      have := hmin i hi
      cases hh : newC (nthC l i) with
      | true => rfl
      | false => exact absurd ⟨by omega, hh⟩ this
    · rintro e w' ⟨rfl, g⟩
      exact ⟨_, rfl, g⟩

/-- The closure: is a clock ahead? -/
theorem lateC_any (cb bb : Nat) (d : Cf) (vd ve vl : Value) (cy p : Int) (k : Ck) (w : World) (hb : w.cell? ⟨cb, 0, none⟩ = some (.int .i64 cy)) (hc : CfAt w bb d vd ve vl) (hp : Hid (cy * d.cy = p)) (hr : Hid (-9223372036854775808 ≤ p ∧ p ≤ 9223372036854775807)) :
    Calls Tryz.prog 27 #[.agg #[.int .i64 k.m, .int .i64 k.b, .int .i64 k.r], .pointer (some ⟨cb, 0, none⟩), .pointer (some ⟨bb, 0, none⟩)] w fun e w' => e = .returned (.bool (lateC p k)) ∧ w.grownBy w' none := by
  have c1 := hcell hc 1 _ rfl
  have g0 := gr_alloc (gr_refl w none) (.cells #[.int .i64 k.m, .int .i64 k.b, .int .i64 k.r] 54)
  have hb := gr_cell g0 hb
  have c1 := gr_cell g0 c1
  have G0 := hid g0
  have ws : IntKind.i64.wrap (cy * d.cy) = p := by rw [hp.out]; exact IntWalk.i64_in _ (by have := hr.out; omega)
  unfold lateC
  obtain ⟨km, kb, kr⟩ := k
  dsimp only at *
  clear hc g0
  go_enter Tryz.func27, Tryz.ntmps27
  go_wp2_with fail
  go_ret
  exact ⟨rfl, G0.out⟩

/-- Where nothing goes. -/
def nullTold : Value := .agg #[.slice none 0 0, .int .u32 0, .int .u32 0, .slice none 0 0, .slice none 0 0, .slice none 0 0]

/-- The four boxes of a round's beginning. -/
structure Bxs (w W : World) (c : Cf) (vd ve vl : Value) (cy : Int) (ls : Value) : Prop where
  cf : W.heap[w.heap.size]? = some (.cells #[.int .i64 c.ho, .int .i64 c.cy, .int .i64 c.de, .int .i64 c.wi, .int .i64 c.pr, vd, ve, vl, .int .i64 c.qu] 26)
  cyc : W.heap[w.heap.size + 1]? = some (.cells #[.int .i64 cy] 2)
  los : W.heap[w.heap.size + 2]? = some (.cells ls.cells 31)
  res : W.heap[w.heap.size + 3]? = some (.cells #[.slice none 0 0, .int .u32 0, .int .u32 0, .slice none 0 0, .slice none 0 0, .slice none 0 0] 38)
  gr : w.grownBy W none
theorem Bxs.grown {w W W' : World} {c : Cf} {vd ve vl : Value} {cy : Int} {ls : Value} (h : Bxs w W c vd ve vl cy ls) (g : W.grownBy W' none) : Bxs w W' c vd ve vl cy ls :=
  ⟨gr_heap g h.cf (by simp), gr_heap g h.cyc (by simp), gr_heap g h.los (by simp), gr_heap g h.res (by simp), gr_trans h.gr g⟩
theorem bxs_new (w : World) (o1 o2 o3 o4 : Obj) : let W := (((w.alloc o1).alloc o2).alloc o3).alloc o4; W.heap[w.heap.size]? = some o1 ∧ W.heap[w.heap.size + 1]? = some o2 ∧ W.heap[w.heap.size + 2]? = some o3 ∧ W.heap[w.heap.size + 3]? = some o4 ∧ w.grownBy W none ∧ W.heap.size = w.heap.size + 4 := by
  refine ⟨?_, ?_, ?_, ?_, gr_alloc (gr_alloc (gr_alloc (gr_alloc (gr_refl w none) _) _) _) _, by simp⟩
  · exact gr_heap (gr_alloc (gr_alloc (gr_alloc (gr_refl _ none) _) _) _) (heap_alloc_new w o1) (by simp)
  · have := gr_heap (gr_alloc (gr_alloc (gr_refl _ none) o3) o4) (heap_alloc_new (w.alloc o1) o2) (by simp)
    simpa using this
  · have := gr_heap (gr_alloc (gr_refl _ none) o4) (heap_alloc_new ((w.alloc o1).alloc o2) o3) (by simp)
    simpa using this
  · have := heap_alloc_new (((w.alloc o1).alloc o2).alloc o3) o4
    simpa using this
theorem stored6 {w w8 : World} {t : TypeId} {c0 c1 c2 c3 c4 c5 v0 v1 v2 v3 v4 v5 : Value} (g : w.grownBy w8 none) (h : w8.heap[w.heap.size + 1 + 1 + 1]? = some (.cells #[c0, c1, c2, c3, c4, c5] t)) :
    ∀ wf, (((((w8.setCell ⟨w.heap.size + 1 + 1 + 1, 0, none⟩ v0).setCell ⟨w.heap.size + 1 + 1 + 1, 1, none⟩ v1).setCell ⟨w.heap.size + 1 + 1 + 1, 2, none⟩ v2).setCell ⟨w.heap.size + 1 + 1 + 1, 3, none⟩ v3).setCell ⟨w.heap.size + 1 + 1 + 1, 4, none⟩ v4).setCell ⟨w.heap.size + 1 + 1 + 1, 5, none⟩ v5 = wf →
      wf.heap[w.heap.size + 1 + 1 + 1]? = some (.cells #[v0, v1, v2, v3, v4, v5] t) ∧ w.grownBy wf none := by
  rintro wf rfl
  refine ⟨?_, ?_⟩
  · simp only [World.setCell, Array.getElem?_modify, if_true, h, Option.map_some]
    rfl
  · have hb : w.heap.size ≤ w.heap.size + 1 + 1 + 1 := by omega
    exact gr_setNew (gr_setNew (gr_setNew (gr_setNew (gr_setNew (gr_setNew g hb 0 _) hb 1 _) hb 2 _) hb 3 _) hb 4 _) hb 5 _
theorem check_cy {d : Net} (h : checkZ d = 0) : spansZ d.cf = true ∧ (1 ≤ d.cf.ho ∧ d.cf.ho ≤ 6) ∧ rowsZ d = true := by
  unfold checkZ at h
  by_cases h1 : inZ d.cf.ho 1 6 = false
  · rw [if_pos h1] at h; cases h
  · rw [if_neg h1] at h
    by_cases h2 : inZ d.cf.cy 1 1073741824 = false
    · rw [if_pos h2] at h; cases h
    · rw [if_neg h2] at h
      by_cases h3 : spansZ d.cf = false
      · rw [if_pos h3] at h; cases h
      · rw [if_neg h3] at h
        by_cases h4 : rowsZ d = false
        · rw [if_pos h4] at h; cases h
        · exact ⟨by simpa using h3, inZ_iff.1 (by simpa using h1), by simpa using h4⟩

set_option maxRecDepth 100000 in
set_option maxHeartbeats 4000000 in
theorem go_unclean (d : Net) (vd ve vl : Value) (cy : Int) (sv : Value) (l : List Ck) (a0 a1 b0 b1 : Value) (w : World) (hN : NetAt w.heap.size w d vd ve vl) (hs : CksAt w.heap.size w sv l) (hz : l.length * 24 ≤ 140737488351232) (hb : cleanZ d cy l.length = false) :
    Calls Tryz.prog 10 #[cfV d.cf vd ve vl, .int .i64 cy, sv, .agg #[a0, a1, b0, b1]] w fun e w' => e = .returned (.tuple #[nullTold, .int .i64 1]) ∧ w.grownBy w' none := by
  have HN := hid hN
  have HS := hid hs
  have Hz := hid hz
  have HCK : Hid (∀ W, w.grownBy W none → Calls Tryz.prog 24 #[cfV d.cf vd ve vl] W fun e w' => e = .returned (.int .i64 (checkZ d)) ∧ W.grownBy w' none) := hid (fun W g => check_any d vd ve vl W (hN.later g))
  have HMD : Hid (∀ W, w.grownBy W none → Calls Tryz.prog 25 #[sv] W fun e w' => ∃ v, e = .returned (.tuple #[v, .bool (l.all newC)]) ∧ W.grownBy w' none) := hid (fun W g => made_any sv l W ((SliceAt.grown hs g).wider g.size) hz)
  have hcy := hid (fun h => check_cy (d := d) h)
  obtain ⟨n, hn⟩ : ∃ n, Hid (l.length = n) := ⟨_, hid rfl⟩
  obtain ⟨a, cap, rfl⟩ : ∃ a cap, sv = .slice a n cap := by
    rw [← hn.out]
    rcases hs with ⟨a, cap, rfl, h0⟩ | ⟨b, off, cap, rfl, _⟩
    · exact ⟨a, cap, by rw [h0]⟩
    · exact ⟨_, cap, rfl⟩
  rw [hn.out] at hb
  obtain ⟨r, hr⟩ : ∃ r, Hid (checkZ d = r) := ⟨_, hid rfl⟩
  obtain ⟨al, hal⟩ : ∃ r, Hid (l.all newC = r) := ⟨_, hid rfl⟩
  unfold cleanZ at hb
  rw [hr.out] at HCK hb
  rw [hal.out] at HMD
  unfold nullTold
  by_cases h1 : r = 0
  · subst h1
    obtain ⟨hsp, _, _⟩ := hcy.out hr.out
    obtain ⟨⟨C0, C1⟩, _⟩ := spansZ_bd hsp
    rw [show max d.cf.cy 1 = d.cf.cy by omega] at hb
    clear hN hs hz hsp
    obtain ⟨c, rows, ents, lnks⟩ := d
    obtain ⟨ho, C, de, wi, pr, qu⟩ := c
    dsimp only at *
    by_cases h2 : 0 ≤ cy
    · obtain ⟨q, hq⟩ : ∃ q, 1125899906842624 / (2 * C) = q := ⟨_, rfl⟩
      have hq0 : 0 ≤ q := by rw [← hq]; exact Int.ediv_nonneg (by omega) (by omega)
      have hq1 : q ≤ 1125899906842624 := by rw [← hq]; exact Int.ediv_le_self _ (by omega)
      have ht : (1125899906842624 : Int).tdiv (2 * C) = q := by rw [← hq]; exact Int.tdiv_eq_ediv_of_nonneg (by omega)
      have hC' : (2 * C == 0) = false := by simp; omega
      have hm : max C 1 = C := by omega
      have s0 : IntKind.i64.wrap (2 * C) = 2 * C := IntWalk.i64_in _ (by omega)
      have s1 : IntKind.i64.wrap q = q := IntWalk.i64_in _ (by omega)
      have s2 : wrap64 q = q := by unfold wrap64; omega
      have h20 : decide (0 ≤ cy) = true := decide_eq_true h2
      rw [hq] at hb
      clear hq
      by_cases h3 : cy ≤ q
      · have h30 : decide (cy ≤ q) = true := decide_eq_true h3
        have h40 : ((n : Int) == ho) = false := by
          rw [h20, h30] at hb
          simpa using hb
        clear hb
        go_enter Tryz.func10, Tryz.ntmps10
        go_wp2_with fail
        obtain ⟨W0, hW0⟩ : ∃ W, (((w.alloc (.cells #[.int .i64 ho, .int .i64 C, .int .i64 de, .int .i64 wi, .int .i64 pr, vd, ve, vl, .int .i64 qu] 26)).alloc (.cells #[.int .i64 cy] 2)).alloc (.cells #[a0, a1, b0, b1] 31)).alloc (.cells #[.slice none 0 0, .int .u32 0, .int .u32 0, .slice none 0 0, .slice none 0 0, .slice none 0 0] 38) = W := ⟨_, rfl⟩
        rw [hW0]
        obtain ⟨B1, B2, B3, B4, B5, _⟩ := bxs_new w (.cells #[.int .i64 ho, .int .i64 C, .int .i64 de, .int .i64 wi, .int .i64 pr, vd, ve, vl, .int .i64 qu] 26) (.cells #[.int .i64 cy] 2) (.cells #[a0, a1, b0, b1] 31) (.cells #[.slice none 0 0, .int .u32 0, .int .u32 0, .slice none 0 0, .slice none 0 0, .slice none 0 0] 38)
        rw [hW0] at B1 B2 B4 B5
        clear B3 hW0
        have HB4 := hid B4
        have HB5 := hid B5
        have n0 := grn_cell (hcell B1 0 _ rfl)
        have n1 := grn_cell (hcell B1 1 _ rfl)
        have n2 := grn_cell (hcell B1 2 _ rfl)
        have n3 := grn_cell (hcell B1 3 _ rfl)
        have n4 := grn_cell (hcell B1 4 _ rfl)
        have n5 := grn_cell (hcell B1 5 _ rfl)
        have n6 := grn_cell (hcell B1 6 _ rfl)
        have n7 := grn_cell (hcell B1 7 _ rfl)
        have n8 := grn_cell (hcell B1 8 _ rfl)
        have n9 := grn_cell (hcell B2 0 _ rfl)
        clear B1 B2 B4 B5
        refine wp_region_grown (by kernel_rfl) (by kernel_rfl) ?_
        repeat (go_big_quiet_step ((go_at_call 24; refine (HCK.out _ (gr_trans HB5.out (Grn.gr _))).mono ?_; rintro e w6 ⟨rfl, g6⟩; exact ⟨rfl, ⟨_, gr_trans (Grn.gr _) g6⟩, rfl⟩)))
        refine wpQuiet_nil ?_
        rintro w7 ⟨X7, hX7⟩
        have G7 := hid (gr_trans HB5.out (show W0.grownBy w7 none from hX7 ▸ X7.gr))
        have HB7 := hid (gr_heap (show W0.grownBy w7 none from hX7 ▸ X7.gr) HB4.out (by simp))
        clear hX7 X7 n0 n1 n2 n3 n4 n5 n6 n7 n8 n9
        go_wp2_with fail
        refine (HMD.out _ G7.out).mono ?_
        rintro e w8 ⟨vv, rfl, g8⟩
        have G8 := hid (gr_trans G7.out g8)
        have hb8 := gr_heap g8 HB7.out (by simp)
        have m0 := hcell hb8 0 _ rfl
        have m1 := hcell hb8 1 _ rfl
        have m2 := hcell hb8 2 _ rfl
        have m3 := hcell hb8 3 _ rfl
        have m4 := hcell hb8 4 _ rfl
        have m5 := hcell hb8 5 _ rfl
        have f0 := hfroz hb8 0
        have f1 := hfroz hb8 1
        have f2 := hfroz hb8 2
        have f3 := hfroz hb8 3
        have f4 := hfroz hb8 4
        have f5 := hfroz hb8 5
        have HK := hid (stored6 (v0 := .slice none 0 0) (v1 := .int .u32 0) (v2 := .int .u32 0) (v3 := .slice none 0 0) (v4 := .slice none 0 0) (v5 := .slice none 0 0) (G8.out) hb8)
        clear g8 hb8
        go_wp2_with fail
        obtain ⟨wf, hwf⟩ : ∃ wf, (((((w8.setCell ⟨w.heap.size + 1 + 1 + 1, 0, none⟩ (.slice none 0 0)).setCell ⟨w.heap.size + 1 + 1 + 1, 1, none⟩ (.int .u32 0)).setCell ⟨w.heap.size + 1 + 1 + 1, 2, none⟩ (.int .u32 0)).setCell ⟨w.heap.size + 1 + 1 + 1, 3, none⟩ (.slice none 0 0)).setCell ⟨w.heap.size + 1 + 1 + 1, 4, none⟩ (.slice none 0 0)).setCell ⟨w.heap.size + 1 + 1 + 1, 5, none⟩ (.slice none 0 0) = wf := ⟨_, rfl⟩
        rw [hwf]
        obtain ⟨hf, hg⟩ := HK.out wf hwf
        have o0 : wf.cell? ⟨w.heap.size + 1 + 1 + 1, 0, none⟩ = some (.slice none 0 0) := hcell hf 0 _ rfl
        have o1 : wf.cell? ⟨w.heap.size + 1 + 1 + 1, 1, none⟩ = some (.int .u32 0) := hcell hf 1 _ rfl
        have o2 : wf.cell? ⟨w.heap.size + 1 + 1 + 1, 2, none⟩ = some (.int .u32 0) := hcell hf 2 _ rfl
        have o3 : wf.cell? ⟨w.heap.size + 1 + 1 + 1, 3, none⟩ = some (.slice none 0 0) := hcell hf 3 _ rfl
        have o4 : wf.cell? ⟨w.heap.size + 1 + 1 + 1, 4, none⟩ = some (.slice none 0 0) := hcell hf 4 _ rfl
        have o5 : wf.cell? ⟨w.heap.size + 1 + 1 + 1, 5, none⟩ = some (.slice none 0 0) := hcell hf 5 _ rfl
        refine bodyPost_ret (v := .tuple #[.agg #[.slice none 0 0, .int .u32 0, .int .u32 0, .slice none 0 0, .slice none 0 0, .slice none 0 0], .int .i64 1]) (by simp [results, Tryz.results10, go_sem, o0, o1, o2, o3, o4, o5]) rfl ⟨rfl, hg⟩
      · have h30 : decide (cy ≤ q) = false := decide_eq_false h3
        clear hb
        go_enter Tryz.func10, Tryz.ntmps10
        go_wp2_with fail
        obtain ⟨W0, hW0⟩ : ∃ W, (((w.alloc (.cells #[.int .i64 ho, .int .i64 C, .int .i64 de, .int .i64 wi, .int .i64 pr, vd, ve, vl, .int .i64 qu] 26)).alloc (.cells #[.int .i64 cy] 2)).alloc (.cells #[a0, a1, b0, b1] 31)).alloc (.cells #[.slice none 0 0, .int .u32 0, .int .u32 0, .slice none 0 0, .slice none 0 0, .slice none 0 0] 38) = W := ⟨_, rfl⟩
        rw [hW0]
        obtain ⟨B1, B2, B3, B4, B5, _⟩ := bxs_new w (.cells #[.int .i64 ho, .int .i64 C, .int .i64 de, .int .i64 wi, .int .i64 pr, vd, ve, vl, .int .i64 qu] 26) (.cells #[.int .i64 cy] 2) (.cells #[a0, a1, b0, b1] 31) (.cells #[.slice none 0 0, .int .u32 0, .int .u32 0, .slice none 0 0, .slice none 0 0, .slice none 0 0] 38)
        rw [hW0] at B1 B2 B4 B5
        clear B3 hW0
        have HB4 := hid B4
        have HB5 := hid B5
        have n0 := grn_cell (hcell B1 0 _ rfl)
        have n1 := grn_cell (hcell B1 1 _ rfl)
        have n2 := grn_cell (hcell B1 2 _ rfl)
        have n3 := grn_cell (hcell B1 3 _ rfl)
        have n4 := grn_cell (hcell B1 4 _ rfl)
        have n5 := grn_cell (hcell B1 5 _ rfl)
        have n6 := grn_cell (hcell B1 6 _ rfl)
        have n7 := grn_cell (hcell B1 7 _ rfl)
        have n8 := grn_cell (hcell B1 8 _ rfl)
        have n9 := grn_cell (hcell B2 0 _ rfl)
        clear B1 B2 B4 B5
        refine wp_region_grown (by kernel_rfl) (by kernel_rfl) ?_
        repeat (go_big_quiet_step ((go_at_call 24; refine (HCK.out _ (gr_trans HB5.out (Grn.gr _))).mono ?_; rintro e w6 ⟨rfl, g6⟩; exact ⟨rfl, ⟨_, gr_trans (Grn.gr _) g6⟩, rfl⟩)))
        refine wpQuiet_nil ?_
        rintro w7 ⟨X7, hX7⟩
        have G7 := hid (gr_trans HB5.out (show W0.grownBy w7 none from hX7 ▸ X7.gr))
        have HB7 := hid (gr_heap (show W0.grownBy w7 none from hX7 ▸ X7.gr) HB4.out (by simp))
        clear hX7 X7 n0 n1 n2 n3 n4 n5 n6 n7 n8 n9
        go_wp2_with fail
        refine (HMD.out _ G7.out).mono ?_
        rintro e w8 ⟨vv, rfl, g8⟩
        have G8 := hid (gr_trans G7.out g8)
        have hb8 := gr_heap g8 HB7.out (by simp)
        have m0 := hcell hb8 0 _ rfl
        have m1 := hcell hb8 1 _ rfl
        have m2 := hcell hb8 2 _ rfl
        have m3 := hcell hb8 3 _ rfl
        have m4 := hcell hb8 4 _ rfl
        have m5 := hcell hb8 5 _ rfl
        have f0 := hfroz hb8 0
        have f1 := hfroz hb8 1
        have f2 := hfroz hb8 2
        have f3 := hfroz hb8 3
        have f4 := hfroz hb8 4
        have f5 := hfroz hb8 5
        have HK := hid (stored6 (v0 := .slice none 0 0) (v1 := .int .u32 0) (v2 := .int .u32 0) (v3 := .slice none 0 0) (v4 := .slice none 0 0) (v5 := .slice none 0 0) (G8.out) hb8)
        clear g8 hb8
        go_wp2_with fail
        obtain ⟨wf, hwf⟩ : ∃ wf, (((((w8.setCell ⟨w.heap.size + 1 + 1 + 1, 0, none⟩ (.slice none 0 0)).setCell ⟨w.heap.size + 1 + 1 + 1, 1, none⟩ (.int .u32 0)).setCell ⟨w.heap.size + 1 + 1 + 1, 2, none⟩ (.int .u32 0)).setCell ⟨w.heap.size + 1 + 1 + 1, 3, none⟩ (.slice none 0 0)).setCell ⟨w.heap.size + 1 + 1 + 1, 4, none⟩ (.slice none 0 0)).setCell ⟨w.heap.size + 1 + 1 + 1, 5, none⟩ (.slice none 0 0) = wf := ⟨_, rfl⟩
        rw [hwf]
        obtain ⟨hf, hg⟩ := HK.out wf hwf
        have o0 : wf.cell? ⟨w.heap.size + 1 + 1 + 1, 0, none⟩ = some (.slice none 0 0) := hcell hf 0 _ rfl
        have o1 : wf.cell? ⟨w.heap.size + 1 + 1 + 1, 1, none⟩ = some (.int .u32 0) := hcell hf 1 _ rfl
        have o2 : wf.cell? ⟨w.heap.size + 1 + 1 + 1, 2, none⟩ = some (.int .u32 0) := hcell hf 2 _ rfl
        have o3 : wf.cell? ⟨w.heap.size + 1 + 1 + 1, 3, none⟩ = some (.slice none 0 0) := hcell hf 3 _ rfl
        have o4 : wf.cell? ⟨w.heap.size + 1 + 1 + 1, 4, none⟩ = some (.slice none 0 0) := hcell hf 4 _ rfl
        have o5 : wf.cell? ⟨w.heap.size + 1 + 1 + 1, 5, none⟩ = some (.slice none 0 0) := hcell hf 5 _ rfl
        refine bodyPost_ret (v := .tuple #[.agg #[.slice none 0 0, .int .u32 0, .int .u32 0, .slice none 0 0, .slice none 0 0, .slice none 0 0], .int .i64 1]) (by simp [results, Tryz.results10, go_sem, o0, o1, o2, o3, o4, o5]) rfl ⟨rfl, hg⟩
    · have h20 : decide (0 ≤ cy) = false := decide_eq_false h2
      clear hb
      go_enter Tryz.func10, Tryz.ntmps10
      go_wp2_with fail
      obtain ⟨W0, hW0⟩ : ∃ W, (((w.alloc (.cells #[.int .i64 ho, .int .i64 C, .int .i64 de, .int .i64 wi, .int .i64 pr, vd, ve, vl, .int .i64 qu] 26)).alloc (.cells #[.int .i64 cy] 2)).alloc (.cells #[a0, a1, b0, b1] 31)).alloc (.cells #[.slice none 0 0, .int .u32 0, .int .u32 0, .slice none 0 0, .slice none 0 0, .slice none 0 0] 38) = W := ⟨_, rfl⟩
      rw [hW0]
      obtain ⟨B1, B2, B3, B4, B5, _⟩ := bxs_new w (.cells #[.int .i64 ho, .int .i64 C, .int .i64 de, .int .i64 wi, .int .i64 pr, vd, ve, vl, .int .i64 qu] 26) (.cells #[.int .i64 cy] 2) (.cells #[a0, a1, b0, b1] 31) (.cells #[.slice none 0 0, .int .u32 0, .int .u32 0, .slice none 0 0, .slice none 0 0, .slice none 0 0] 38)
      rw [hW0] at B1 B2 B4 B5
      clear B3 hW0
      have HB4 := hid B4
      have HB5 := hid B5
      have n0 := grn_cell (hcell B1 0 _ rfl)
      have n1 := grn_cell (hcell B1 1 _ rfl)
      have n2 := grn_cell (hcell B1 2 _ rfl)
      have n3 := grn_cell (hcell B1 3 _ rfl)
      have n4 := grn_cell (hcell B1 4 _ rfl)
      have n5 := grn_cell (hcell B1 5 _ rfl)
      have n6 := grn_cell (hcell B1 6 _ rfl)
      have n7 := grn_cell (hcell B1 7 _ rfl)
      have n8 := grn_cell (hcell B1 8 _ rfl)
      have n9 := grn_cell (hcell B2 0 _ rfl)
      clear B1 B2 B4 B5
      refine wp_region_grown (by kernel_rfl) (by kernel_rfl) ?_
      repeat (go_big_quiet_step ((go_at_call 24; refine (HCK.out _ (gr_trans HB5.out (Grn.gr _))).mono ?_; rintro e w6 ⟨rfl, g6⟩; exact ⟨rfl, ⟨_, gr_trans (Grn.gr _) g6⟩, rfl⟩)))
      refine wpQuiet_nil ?_
      rintro w7 ⟨X7, hX7⟩
      have G7 := hid (gr_trans HB5.out (show W0.grownBy w7 none from hX7 ▸ X7.gr))
      have HB7 := hid (gr_heap (show W0.grownBy w7 none from hX7 ▸ X7.gr) HB4.out (by simp))
      clear hX7 X7 n0 n1 n2 n3 n4 n5 n6 n7 n8 n9
      go_wp2_with fail
      refine (HMD.out _ G7.out).mono ?_
      rintro e w8 ⟨vv, rfl, g8⟩
      have G8 := hid (gr_trans G7.out g8)
      have hb8 := gr_heap g8 HB7.out (by simp)
      have m0 := hcell hb8 0 _ rfl
      have m1 := hcell hb8 1 _ rfl
      have m2 := hcell hb8 2 _ rfl
      have m3 := hcell hb8 3 _ rfl
      have m4 := hcell hb8 4 _ rfl
      have m5 := hcell hb8 5 _ rfl
      have f0 := hfroz hb8 0
      have f1 := hfroz hb8 1
      have f2 := hfroz hb8 2
      have f3 := hfroz hb8 3
      have f4 := hfroz hb8 4
      have f5 := hfroz hb8 5
      have HK := hid (stored6 (v0 := .slice none 0 0) (v1 := .int .u32 0) (v2 := .int .u32 0) (v3 := .slice none 0 0) (v4 := .slice none 0 0) (v5 := .slice none 0 0) (G8.out) hb8)
      clear g8 hb8
      go_wp2_with fail
      obtain ⟨wf, hwf⟩ : ∃ wf, (((((w8.setCell ⟨w.heap.size + 1 + 1 + 1, 0, none⟩ (.slice none 0 0)).setCell ⟨w.heap.size + 1 + 1 + 1, 1, none⟩ (.int .u32 0)).setCell ⟨w.heap.size + 1 + 1 + 1, 2, none⟩ (.int .u32 0)).setCell ⟨w.heap.size + 1 + 1 + 1, 3, none⟩ (.slice none 0 0)).setCell ⟨w.heap.size + 1 + 1 + 1, 4, none⟩ (.slice none 0 0)).setCell ⟨w.heap.size + 1 + 1 + 1, 5, none⟩ (.slice none 0 0) = wf := ⟨_, rfl⟩
      rw [hwf]
      obtain ⟨hf, hg⟩ := HK.out wf hwf
      have o0 : wf.cell? ⟨w.heap.size + 1 + 1 + 1, 0, none⟩ = some (.slice none 0 0) := hcell hf 0 _ rfl
      have o1 : wf.cell? ⟨w.heap.size + 1 + 1 + 1, 1, none⟩ = some (.int .u32 0) := hcell hf 1 _ rfl
      have o2 : wf.cell? ⟨w.heap.size + 1 + 1 + 1, 2, none⟩ = some (.int .u32 0) := hcell hf 2 _ rfl
      have o3 : wf.cell? ⟨w.heap.size + 1 + 1 + 1, 3, none⟩ = some (.slice none 0 0) := hcell hf 3 _ rfl
      have o4 : wf.cell? ⟨w.heap.size + 1 + 1 + 1, 4, none⟩ = some (.slice none 0 0) := hcell hf 4 _ rfl
      have o5 : wf.cell? ⟨w.heap.size + 1 + 1 + 1, 5, none⟩ = some (.slice none 0 0) := hcell hf 5 _ rfl
      refine bodyPost_ret (v := .tuple #[.agg #[.slice none 0 0, .int .u32 0, .int .u32 0, .slice none 0 0, .slice none 0 0, .slice none 0 0], .int .i64 1]) (by simp [results, Tryz.results10, go_sem, o0, o1, o2, o3, o4, o5]) rfl ⟨rfl, hg⟩
  · have h10 : (r == 0) = false := by simpa using h1
    clear hN hs hz hb
    obtain ⟨c, rows, ents, lnks⟩ := d
    obtain ⟨ho, C, de, wi, pr, qu⟩ := c
    dsimp only at *
    go_enter Tryz.func10, Tryz.ntmps10
    go_wp2_with fail
    obtain ⟨W0, hW0⟩ : ∃ W, (((w.alloc (.cells #[.int .i64 ho, .int .i64 C, .int .i64 de, .int .i64 wi, .int .i64 pr, vd, ve, vl, .int .i64 qu] 26)).alloc (.cells #[.int .i64 cy] 2)).alloc (.cells #[a0, a1, b0, b1] 31)).alloc (.cells #[.slice none 0 0, .int .u32 0, .int .u32 0, .slice none 0 0, .slice none 0 0, .slice none 0 0] 38) = W := ⟨_, rfl⟩
    rw [hW0]
    obtain ⟨B1, B2, B3, B4, B5, _⟩ := bxs_new w (.cells #[.int .i64 ho, .int .i64 C, .int .i64 de, .int .i64 wi, .int .i64 pr, vd, ve, vl, .int .i64 qu] 26) (.cells #[.int .i64 cy] 2) (.cells #[a0, a1, b0, b1] 31) (.cells #[.slice none 0 0, .int .u32 0, .int .u32 0, .slice none 0 0, .slice none 0 0, .slice none 0 0] 38)
    rw [hW0] at B1 B2 B4 B5
    clear B3 hW0
    have HB4 := hid B4
    have HB5 := hid B5
    have n0 := grn_cell (hcell B1 0 _ rfl)
    have n1 := grn_cell (hcell B1 1 _ rfl)
    have n2 := grn_cell (hcell B1 2 _ rfl)
    have n3 := grn_cell (hcell B1 3 _ rfl)
    have n4 := grn_cell (hcell B1 4 _ rfl)
    have n5 := grn_cell (hcell B1 5 _ rfl)
    have n6 := grn_cell (hcell B1 6 _ rfl)
    have n7 := grn_cell (hcell B1 7 _ rfl)
    have n8 := grn_cell (hcell B1 8 _ rfl)
    have n9 := grn_cell (hcell B2 0 _ rfl)
    clear B1 B2 B4 B5
    refine wp_region_grown (by kernel_rfl) (by kernel_rfl) ?_
    repeat (go_big_quiet_step ((go_at_call 24; refine (HCK.out _ (gr_trans HB5.out (Grn.gr _))).mono ?_; rintro e w6 ⟨rfl, g6⟩; exact ⟨rfl, ⟨_, gr_trans (Grn.gr _) g6⟩, rfl⟩)))
    refine wpQuiet_nil ?_
    rintro w7 ⟨X7, hX7⟩
    have G7 := hid (gr_trans HB5.out (show W0.grownBy w7 none from hX7 ▸ X7.gr))
    have HB7 := hid (gr_heap (show W0.grownBy w7 none from hX7 ▸ X7.gr) HB4.out (by simp))
    clear hX7 X7 n0 n1 n2 n3 n4 n5 n6 n7 n8 n9
    go_wp2_with fail
    refine (HMD.out _ G7.out).mono ?_
    rintro e w8 ⟨vv, rfl, g8⟩
    have G8 := hid (gr_trans G7.out g8)
    have hb8 := gr_heap g8 HB7.out (by simp)
    have m0 := hcell hb8 0 _ rfl
    have m1 := hcell hb8 1 _ rfl
    have m2 := hcell hb8 2 _ rfl
    have m3 := hcell hb8 3 _ rfl
    have m4 := hcell hb8 4 _ rfl
    have m5 := hcell hb8 5 _ rfl
    have f0 := hfroz hb8 0
    have f1 := hfroz hb8 1
    have f2 := hfroz hb8 2
    have f3 := hfroz hb8 3
    have f4 := hfroz hb8 4
    have f5 := hfroz hb8 5
    have HK := hid (stored6 (v0 := .slice none 0 0) (v1 := .int .u32 0) (v2 := .int .u32 0) (v3 := .slice none 0 0) (v4 := .slice none 0 0) (v5 := .slice none 0 0) (G8.out) hb8)
    clear g8 hb8
    go_wp2_with fail
    obtain ⟨wf, hwf⟩ : ∃ wf, (((((w8.setCell ⟨w.heap.size + 1 + 1 + 1, 0, none⟩ (.slice none 0 0)).setCell ⟨w.heap.size + 1 + 1 + 1, 1, none⟩ (.int .u32 0)).setCell ⟨w.heap.size + 1 + 1 + 1, 2, none⟩ (.int .u32 0)).setCell ⟨w.heap.size + 1 + 1 + 1, 3, none⟩ (.slice none 0 0)).setCell ⟨w.heap.size + 1 + 1 + 1, 4, none⟩ (.slice none 0 0)).setCell ⟨w.heap.size + 1 + 1 + 1, 5, none⟩ (.slice none 0 0) = wf := ⟨_, rfl⟩
    rw [hwf]
    obtain ⟨hf, hg⟩ := HK.out wf hwf
    have o0 : wf.cell? ⟨w.heap.size + 1 + 1 + 1, 0, none⟩ = some (.slice none 0 0) := hcell hf 0 _ rfl
    have o1 : wf.cell? ⟨w.heap.size + 1 + 1 + 1, 1, none⟩ = some (.int .u32 0) := hcell hf 1 _ rfl
    have o2 : wf.cell? ⟨w.heap.size + 1 + 1 + 1, 2, none⟩ = some (.int .u32 0) := hcell hf 2 _ rfl
    have o3 : wf.cell? ⟨w.heap.size + 1 + 1 + 1, 3, none⟩ = some (.slice none 0 0) := hcell hf 3 _ rfl
    have o4 : wf.cell? ⟨w.heap.size + 1 + 1 + 1, 4, none⟩ = some (.slice none 0 0) := hcell hf 4 _ rfl
    have o5 : wf.cell? ⟨w.heap.size + 1 + 1 + 1, 5, none⟩ = some (.slice none 0 0) := hcell hf 5 _ rfl
    refine bodyPost_ret (v := .tuple #[.agg #[.slice none 0 0, .int .u32 0, .int .u32 0, .slice none 0 0, .slice none 0 0, .slice none 0 0], .int .i64 1]) (by simp [results, Tryz.results10, go_sem, o0, o1, o2, o3, o4, o5]) rfl ⟨rfl, hg⟩
end Go.Proofs.YtckoaeoecjphiaaGreat

/- round.Go: refused for its clocks. -/
namespace Go.Proofs.YtckoaeoecjphiaaGreat
open Go.RowKit Go.Lib

theorem cleanZ_iff {d : Net} {cy : Int} {n : Nat} : cleanZ d cy n = true ↔ checkZ d = 0 ∧ 0 ≤ cy ∧ cy ≤ 1125899906842624 / (2 * max d.cf.cy 1) ∧ (n : Int) = d.cf.ho := by
  unfold cleanZ
  simp only [Bool.and_eq_true, decide_eq_true_eq]
theorem clean_p {d : Net} {cy : Int} {n : Nat} (h : cleanZ d cy n = true) : 0 ≤ cy * d.cf.cy ∧ cy * d.cf.cy ≤ 562949953421312 ∧ cy ≤ 562949953421312 := by
  obtain ⟨h1, h2, h3, _⟩ := cleanZ_iff.1 h
  obtain ⟨hsp, _⟩ := check_cy h1
  obtain ⟨⟨C0, C1⟩, _⟩ := spansZ_bd hsp
  rw [show max d.cf.cy 1 = d.cf.cy by omega] at h3
  have h4 := (Int.le_ediv_iff_mul_le (show 0 < 2 * d.cf.cy by omega)).1 h3
  have h5 : cy * (2 * d.cf.cy) = 2 * (cy * d.cf.cy) := by rw [← Int.mul_assoc, Int.mul_comm cy 2, Int.mul_assoc]
  have h6 : cy * 1 ≤ cy * d.cf.cy := Int.mul_le_mul_of_nonneg_left C0 h2
  exact ⟨Int.mul_nonneg h2 (by omega), by omega, by omega⟩
theorem any_nthC (l : List Ck) (p : Ck → Bool) : (List.range l.length).any (fun j => p (nthC l j)) = l.any p := by
  rw [Bool.eq_iff_iff, List.any_eq_true, List.any_eq_true]
  constructor
  · rintro ⟨j, hj, hp⟩
    exact ⟨_, nthC_mem (List.mem_range.1 hj), hp⟩
  · rintro ⟨x, hx, hp⟩
    obtain ⟨j, hj, rfl⟩ := List.getElem_of_mem hx
    exact ⟨j, List.mem_range.2 hj, by unfold nthC; rw [List.getElem?_eq_getElem hj]; exact hp⟩
/-- Is a clock ahead? -/
theorem ahead2_any (cb bb : Nat) (c : Cf) (vd ve vl : Value) (cy p : Int) (sv : Value) (l : List Ck) (q : Bool) (w : World) (hs : CksAt w.heap.size w sv l) (hz : l.length * 24 ≤ 140737488351232) (hb : w.cell? ⟨cb, 0, none⟩ = some (.int .i64 cy)) (hc : CfAt w bb c vd ve vl) (hp : Hid (cy * c.cy = p)) (hr : Hid (-9223372036854775808 ≤ p ∧ p ≤ 9223372036854775807)) (hq : Hid (l.any (lateC p) = q)) :
    Calls Tryz.prog 26 #[sv, .func (.func 27) #[] #[.pointer (some ⟨cb, 0, none⟩), .pointer (some ⟨bb, 0, none⟩)]] w fun e w' => e = .returned (.bool q) ∧ w.grownBy w' none :=
  contains_sta 27 #[.pointer (some ⟨cb, 0, none⟩), .pointer (some ⟨bb, 0, none⟩)] sv l.length (ckF l) (fun j => lateC p (nthC l j)) q w hs (by omega) (hid (by rw [any_nthC]; exact hq.out)) Tryz.call27
    (fun j hj w' g => lateC_any cb bb c vd ve vl cy p (nthC l j) w' (gr_cell g hb) (gr_heap g hc (by simp)) hp hr)

set_option maxRecDepth 100000 in
set_option maxHeartbeats 4000000 in
theorem go_unmade (d : Net) (vd ve vl : Value) (cy : Int) (sv : Value) (l : List Ck) (a0 a1 b0 b1 : Value) (w : World) (hN : NetAt w.heap.size w d vd ve vl) (hs : CksAt w.heap.size w sv l) (hz : l.length * 24 ≤ 140737488351232) (hb : cleanZ d cy l.length = true) (hal : l.all newC = false) :
    Calls Tryz.prog 10 #[cfV d.cf vd ve vl, .int .i64 cy, sv, .agg #[a0, a1, b0, b1]] w fun e w' => e = .returned (.tuple #[nullTold, .int .i64 1]) ∧ w.grownBy w' none := by
  have HCK : Hid (∀ W, w.grownBy W none → Calls Tryz.prog 24 #[cfV d.cf vd ve vl] W fun e w' => e = .returned (.int .i64 (checkZ d)) ∧ W.grownBy w' none) := hid (fun W g => check_any d vd ve vl W (hN.later g))
  have HMD : Hid (∀ W, w.grownBy W none → Calls Tryz.prog 25 #[sv] W fun e w' => ∃ v, e = .returned (.tuple #[v, .bool (l.all newC)]) ∧ W.grownBy w' none) := hid (fun W g => made_any sv l W ((SliceAt.grown hs g).wider g.size) hz)
  have HS := hid hs
  obtain ⟨h1, h2, h3, h4⟩ := cleanZ_iff.1 hb
  obtain ⟨hsp, ⟨ho0, ho1⟩, hrz⟩ := check_cy h1
  obtain ⟨⟨C0, C1⟩, _⟩ := spansZ_bd hsp
  rw [h1] at HCK
  rw [hal] at HMD
  rw [show max d.cf.cy 1 = d.cf.cy by omega] at h3
  unfold nullTold
  obtain ⟨n, hn⟩ : ∃ n, Hid (l.length = n) := ⟨_, hid rfl⟩
  obtain ⟨a, cap, rfl⟩ : ∃ a cap, sv = .slice a n cap := by
    rw [← hn.out]
    rcases hs with ⟨a, cap, rfl, h0⟩ | ⟨b, off, cap, rfl, _⟩
    · exact ⟨a, cap, by rw [h0]⟩
    · exact ⟨_, cap, rfl⟩
  rw [hn.out] at h4
  clear hN hs hz hsp hb hrz h1
  obtain ⟨c, rows, ents, lnks⟩ := d
  obtain ⟨ho, C, de, wi, pr, qu⟩ := c
  dsimp only at *
  subst h4
  obtain ⟨q, hq⟩ : ∃ q, 1125899906842624 / (2 * C) = q := ⟨_, rfl⟩
  have hq1 : q ≤ 1125899906842624 := by rw [← hq]; exact Int.ediv_le_self _ (by omega)
  have ht : (1125899906842624 : Int).tdiv (2 * C) = q := by rw [← hq]; exact Int.tdiv_eq_ediv_of_nonneg (by omega)
  have hC' : (2 * C == 0) = false := by simp; omega
  have hm : max C 1 = C := by omega
  have s0 : IntKind.i64.wrap (2 * C) = 2 * C := IntWalk.i64_in _ (by omega)
  rw [hq] at h3
  clear hq
  have hq0 : 0 ≤ q := by omega
  have s1 : IntKind.i64.wrap q = q := IntWalk.i64_in _ (by omega)
  have s2 : wrap64 q = q := by unfold wrap64; omega
  have h20 : decide (0 ≤ cy) = true := decide_eq_true h2
  have h30 : decide (cy ≤ q) = true := decide_eq_true h3
  go_enter Tryz.func10, Tryz.ntmps10
  go_wp2_with fail
  obtain ⟨W0, hW0⟩ : ∃ W, (((w.alloc (.cells #[.int .i64 (n : Int), .int .i64 C, .int .i64 de, .int .i64 wi, .int .i64 pr, vd, ve, vl, .int .i64 qu] 26)).alloc (.cells #[.int .i64 cy] 2)).alloc (.cells #[a0, a1, b0, b1] 31)).alloc (.cells #[.slice none 0 0, .int .u32 0, .int .u32 0, .slice none 0 0, .slice none 0 0, .slice none 0 0] 38) = W := ⟨_, rfl⟩
  rw [hW0]
  obtain ⟨B1, B2, B3, B4, B5, _⟩ := bxs_new w (.cells #[.int .i64 (n : Int), .int .i64 C, .int .i64 de, .int .i64 wi, .int .i64 pr, vd, ve, vl, .int .i64 qu] 26) (.cells #[.int .i64 cy] 2) (.cells #[a0, a1, b0, b1] 31) (.cells #[.slice none 0 0, .int .u32 0, .int .u32 0, .slice none 0 0, .slice none 0 0, .slice none 0 0] 38)
  rw [hW0] at B1 B2 B4 B5
  clear B3 hW0
  have HB4 := hid B4
  have HB5 := hid B5
  have n0 := grn_cell (hcell B1 0 _ rfl)
  have n1 := grn_cell (hcell B1 1 _ rfl)
  have n2 := grn_cell (hcell B1 2 _ rfl)
  have n3 := grn_cell (hcell B1 3 _ rfl)
  have n4 := grn_cell (hcell B1 4 _ rfl)
  have n5 := grn_cell (hcell B1 5 _ rfl)
  have n6 := grn_cell (hcell B1 6 _ rfl)
  have n7 := grn_cell (hcell B1 7 _ rfl)
  have n8 := grn_cell (hcell B1 8 _ rfl)
  have n9 := grn_cell (hcell B2 0 _ rfl)
  have HB1 := hid B1
  have HB2 := hid B2
  clear B1 B2 B4 B5
  refine wp_region_grown (by kernel_rfl) (by kernel_rfl) ?_
  repeat (go_big_quiet_step ((go_at_call 24; refine (HCK.out _ (gr_trans HB5.out (Grn.gr _))).mono ?_; rintro e w6 ⟨rfl, g6⟩; exact ⟨rfl, ⟨_, gr_trans (Grn.gr _) g6⟩, rfl⟩)))
  refine wpQuiet_nil ?_
  rintro w7 ⟨X7, hX7⟩
  have G7 := hid (gr_trans HB5.out (show W0.grownBy w7 none from hX7 ▸ X7.gr))
  have HB7 := hid (gr_heap (show W0.grownBy w7 none from hX7 ▸ X7.gr) HB4.out (by simp))
  have HX7 := hid (show W0.grownBy w7 none from hX7 ▸ X7.gr)
  clear hX7 X7 n0 n1 n2 n3 n4 n5 n6 n7 n8 n9
  go_wp2_with fail
  refine (HMD.out _ G7.out).mono ?_
  rintro e w8 ⟨vv, rfl, g8⟩
  have G8 := hid (gr_trans G7.out g8)
  have hb8 := gr_heap g8 HB7.out (by simp)
  have m0 := hcell hb8 0 _ rfl
  have m1 := hcell hb8 1 _ rfl
  have m2 := hcell hb8 2 _ rfl
  have m3 := hcell hb8 3 _ rfl
  have m4 := hcell hb8 4 _ rfl
  have m5 := hcell hb8 5 _ rfl
  have f0 := hfroz hb8 0
  have f1 := hfroz hb8 1
  have f2 := hfroz hb8 2
  have f3 := hfroz hb8 3
  have f4 := hfroz hb8 4
  have f5 := hfroz hb8 5
  have HK := hid (stored6 (v0 := .slice none 0 0) (v1 := .int .u32 0) (v2 := .int .u32 0) (v3 := .slice none 0 0) (v4 := .slice none 0 0) (v5 := .slice none 0 0) (G8.out) hb8)
  clear g8 hb8
  go_wp2_with fail
  obtain ⟨wf, hwf⟩ : ∃ wf, (((((w8.setCell ⟨w.heap.size + 1 + 1 + 1, 0, none⟩ (.slice none 0 0)).setCell ⟨w.heap.size + 1 + 1 + 1, 1, none⟩ (.int .u32 0)).setCell ⟨w.heap.size + 1 + 1 + 1, 2, none⟩ (.int .u32 0)).setCell ⟨w.heap.size + 1 + 1 + 1, 3, none⟩ (.slice none 0 0)).setCell ⟨w.heap.size + 1 + 1 + 1, 4, none⟩ (.slice none 0 0)).setCell ⟨w.heap.size + 1 + 1 + 1, 5, none⟩ (.slice none 0 0) = wf := ⟨_, rfl⟩
  rw [hwf]
  obtain ⟨hf, hg⟩ := HK.out wf hwf
  have o0 : wf.cell? ⟨w.heap.size + 1 + 1 + 1, 0, none⟩ = some (.slice none 0 0) := hcell hf 0 _ rfl
  have o1 : wf.cell? ⟨w.heap.size + 1 + 1 + 1, 1, none⟩ = some (.int .u32 0) := hcell hf 1 _ rfl
  have o2 : wf.cell? ⟨w.heap.size + 1 + 1 + 1, 2, none⟩ = some (.int .u32 0) := hcell hf 2 _ rfl
  have o3 : wf.cell? ⟨w.heap.size + 1 + 1 + 1, 3, none⟩ = some (.slice none 0 0) := hcell hf 3 _ rfl
  have o4 : wf.cell? ⟨w.heap.size + 1 + 1 + 1, 4, none⟩ = some (.slice none 0 0) := hcell hf 4 _ rfl
  have o5 : wf.cell? ⟨w.heap.size + 1 + 1 + 1, 5, none⟩ = some (.slice none 0 0) := hcell hf 5 _ rfl
  refine bodyPost_ret (v := .tuple #[.agg #[.slice none 0 0, .int .u32 0, .int .u32 0, .slice none 0 0, .slice none 0 0, .slice none 0 0], .int .i64 1]) (by simp [results, Tryz.results10, go_sem, o0, o1, o2, o3, o4, o5]) rfl ⟨rfl, hg⟩

set_option maxRecDepth 100000 in
set_option maxHeartbeats 4000000 in
theorem go_late (d : Net) (vd ve vl : Value) (cy : Int) (sv : Value) (l : List Ck) (a0 a1 b0 b1 : Value) (w : World) (hN : NetAt w.heap.size w d vd ve vl) (hs : CksAt w.heap.size w sv l) (hz : l.length * 24 ≤ 140737488351232) (hb : cleanZ d cy l.length = true) (hal : l.all newC = true) (hlate : l.any (lateC (cy * d.cf.cy)) = true) :
    Calls Tryz.prog 10 #[cfV d.cf vd ve vl, .int .i64 cy, sv, .agg #[a0, a1, b0, b1]] w fun e w' => e = .returned (.tuple #[nullTold, .int .i64 1]) ∧ w.grownBy w' none := by
  have HCK : Hid (∀ W, w.grownBy W none → Calls Tryz.prog 24 #[cfV d.cf vd ve vl] W fun e w' => e = .returned (.int .i64 (checkZ d)) ∧ W.grownBy w' none) := hid (fun W g => check_any d vd ve vl W (hN.later g))
  have HMD : Hid (∀ W, w.grownBy W none → Calls Tryz.prog 25 #[sv] W fun e w' => ∃ v, e = .returned (.tuple #[v, .bool (l.all newC)]) ∧ W.grownBy w' none) := hid (fun W g => made_any sv l W ((SliceAt.grown hs g).wider g.size) hz)
  have HS := hid hs
  obtain ⟨h1, h2, h3, h4⟩ := cleanZ_iff.1 hb
  obtain ⟨hsp, ⟨ho0, ho1⟩, hrz⟩ := check_cy h1
  obtain ⟨⟨C0, C1⟩, _⟩ := spansZ_bd hsp
  rw [h1] at HCK
  rw [hal] at HMD
  rw [show max d.cf.cy 1 = d.cf.cy by omega] at h3
  unfold nullTold
  obtain ⟨n, hn⟩ : ∃ n, Hid (l.length = n) := ⟨_, hid rfl⟩
  obtain ⟨a, cap, rfl⟩ : ∃ a cap, sv = .slice a n cap := by
    rw [← hn.out]
    rcases hs with ⟨a, cap, rfl, h0⟩ | ⟨b, off, cap, rfl, _⟩
    · exact ⟨a, cap, by rw [h0]⟩
    · exact ⟨_, cap, rfl⟩
  rw [hn.out] at h4
  have HLate := hid hlate
  have HP := hid (clean_p hb)
  have HZ := hid hz
  clear hlate
  clear hN hs hz hsp hb hrz h1
  obtain ⟨c, rows, ents, lnks⟩ := d
  obtain ⟨ho, C, de, wi, pr, qu⟩ := c
  dsimp only at *
  subst h4
  obtain ⟨q, hq⟩ : ∃ q, 1125899906842624 / (2 * C) = q := ⟨_, rfl⟩
  have hq1 : q ≤ 1125899906842624 := by rw [← hq]; exact Int.ediv_le_self _ (by omega)
  have ht : (1125899906842624 : Int).tdiv (2 * C) = q := by rw [← hq]; exact Int.tdiv_eq_ediv_of_nonneg (by omega)
  have hC' : (2 * C == 0) = false := by simp; omega
  have hm : max C 1 = C := by omega
  have s0 : IntKind.i64.wrap (2 * C) = 2 * C := IntWalk.i64_in _ (by omega)
  rw [hq] at h3
  clear hq
  have hq0 : 0 ≤ q := by omega
  have s1 : IntKind.i64.wrap q = q := IntWalk.i64_in _ (by omega)
  have s2 : wrap64 q = q := by unfold wrap64; omega
  have h20 : decide (0 ≤ cy) = true := decide_eq_true h2
  have h30 : decide (cy ≤ q) = true := decide_eq_true h3
  go_enter Tryz.func10, Tryz.ntmps10
  go_wp2_with fail
  obtain ⟨W0, hW0⟩ : ∃ W, (((w.alloc (.cells #[.int .i64 (n : Int), .int .i64 C, .int .i64 de, .int .i64 wi, .int .i64 pr, vd, ve, vl, .int .i64 qu] 26)).alloc (.cells #[.int .i64 cy] 2)).alloc (.cells #[a0, a1, b0, b1] 31)).alloc (.cells #[.slice none 0 0, .int .u32 0, .int .u32 0, .slice none 0 0, .slice none 0 0, .slice none 0 0] 38) = W := ⟨_, rfl⟩
  rw [hW0]
  obtain ⟨B1, B2, B3, B4, B5, _⟩ := bxs_new w (.cells #[.int .i64 (n : Int), .int .i64 C, .int .i64 de, .int .i64 wi, .int .i64 pr, vd, ve, vl, .int .i64 qu] 26) (.cells #[.int .i64 cy] 2) (.cells #[a0, a1, b0, b1] 31) (.cells #[.slice none 0 0, .int .u32 0, .int .u32 0, .slice none 0 0, .slice none 0 0, .slice none 0 0] 38)
  rw [hW0] at B1 B2 B4 B5
  clear B3 hW0
  have HB4 := hid B4
  have HB5 := hid B5
  have n0 := grn_cell (hcell B1 0 _ rfl)
  have n1 := grn_cell (hcell B1 1 _ rfl)
  have n2 := grn_cell (hcell B1 2 _ rfl)
  have n3 := grn_cell (hcell B1 3 _ rfl)
  have n4 := grn_cell (hcell B1 4 _ rfl)
  have n5 := grn_cell (hcell B1 5 _ rfl)
  have n6 := grn_cell (hcell B1 6 _ rfl)
  have n7 := grn_cell (hcell B1 7 _ rfl)
  have n8 := grn_cell (hcell B1 8 _ rfl)
  have n9 := grn_cell (hcell B2 0 _ rfl)
  have HB1 := hid B1
  have HB2 := hid B2
  clear B1 B2 B4 B5
  refine wp_region_grown (by kernel_rfl) (by kernel_rfl) ?_
  repeat (go_big_quiet_step ((go_at_call 24; refine (HCK.out _ (gr_trans HB5.out (Grn.gr _))).mono ?_; rintro e w6 ⟨rfl, g6⟩; exact ⟨rfl, ⟨_, gr_trans (Grn.gr _) g6⟩, rfl⟩)))
  refine wpQuiet_nil ?_
  rintro w7 ⟨X7, hX7⟩
  have G7 := hid (gr_trans HB5.out (show W0.grownBy w7 none from hX7 ▸ X7.gr))
  have HB7 := hid (gr_heap (show W0.grownBy w7 none from hX7 ▸ X7.gr) HB4.out (by simp))
  have HX7 := hid (show W0.grownBy w7 none from hX7 ▸ X7.gr)
  clear hX7 X7 n0 n1 n2 n3 n4 n5 n6 n7 n8 n9
  go_wp2_with fail
  refine (HMD.out _ G7.out).mono ?_
  rintro e w8 ⟨vv, rfl, g8⟩
  have G8 := hid (gr_trans G7.out g8)
  have HW8 := hid (gr_trans HX7.out g8)
  have HB8 := hid (gr_heap g8 HB7.out (by simp))
  clear g8
  go_wp2_with fail
  refine (ahead2_any (w.heap.size + 1) w.heap.size ⟨(n : Int), C, de, wi, pr, qu⟩ vd ve vl cy (cy * C) _ l true _ ((SliceAt.grown HS.out G8.out).wider G8.out.size) HZ.out (hcell (gr_heap HW8.out HB2.out (by simp)) 0 _ rfl) (gr_heap HW8.out HB1.out (by simp)) (hid rfl) (hid (by have := HP.out; omega)) (hid HLate.out)).mono ?_
  rintro e w9 ⟨rfl, g9⟩
  have G9 := hid (gr_trans G8.out g9)
  have hb8 := gr_heap g9 HB8.out (by simp)
  have m0 := hcell hb8 0 _ rfl
  have m1 := hcell hb8 1 _ rfl
  have m2 := hcell hb8 2 _ rfl
  have m3 := hcell hb8 3 _ rfl
  have m4 := hcell hb8 4 _ rfl
  have m5 := hcell hb8 5 _ rfl
  have f0 := hfroz hb8 0
  have f1 := hfroz hb8 1
  have f2 := hfroz hb8 2
  have f3 := hfroz hb8 3
  have f4 := hfroz hb8 4
  have f5 := hfroz hb8 5
  have HK := hid (stored6 (v0 := .slice none 0 0) (v1 := .int .u32 0) (v2 := .int .u32 0) (v3 := .slice none 0 0) (v4 := .slice none 0 0) (v5 := .slice none 0 0) (G9.out) hb8)
  clear g9 hb8
  go_wp2_with fail
  obtain ⟨wf, hwf⟩ : ∃ wf, (((((w9.setCell ⟨w.heap.size + 1 + 1 + 1, 0, none⟩ (.slice none 0 0)).setCell ⟨w.heap.size + 1 + 1 + 1, 1, none⟩ (.int .u32 0)).setCell ⟨w.heap.size + 1 + 1 + 1, 2, none⟩ (.int .u32 0)).setCell ⟨w.heap.size + 1 + 1 + 1, 3, none⟩ (.slice none 0 0)).setCell ⟨w.heap.size + 1 + 1 + 1, 4, none⟩ (.slice none 0 0)).setCell ⟨w.heap.size + 1 + 1 + 1, 5, none⟩ (.slice none 0 0) = wf := ⟨_, rfl⟩
  rw [hwf]
  obtain ⟨hf, hg⟩ := HK.out wf hwf
  have o0 : wf.cell? ⟨w.heap.size + 1 + 1 + 1, 0, none⟩ = some (.slice none 0 0) := hcell hf 0 _ rfl
  have o1 : wf.cell? ⟨w.heap.size + 1 + 1 + 1, 1, none⟩ = some (.int .u32 0) := hcell hf 1 _ rfl
  have o2 : wf.cell? ⟨w.heap.size + 1 + 1 + 1, 2, none⟩ = some (.int .u32 0) := hcell hf 2 _ rfl
  have o3 : wf.cell? ⟨w.heap.size + 1 + 1 + 1, 3, none⟩ = some (.slice none 0 0) := hcell hf 3 _ rfl
  have o4 : wf.cell? ⟨w.heap.size + 1 + 1 + 1, 4, none⟩ = some (.slice none 0 0) := hcell hf 4 _ rfl
  have o5 : wf.cell? ⟨w.heap.size + 1 + 1 + 1, 5, none⟩ = some (.slice none 0 0) := hcell hf 5 _ rfl
  refine bodyPost_ret (v := .tuple #[.agg #[.slice none 0 0, .int .u32 0, .int .u32 0, .slice none 0 0, .slice none 0 0, .slice none 0 0], .int .i64 1]) (by simp [results, Tryz.results10, go_sem, o0, o1, o2, o3, o4, o5]) rfl ⟨rfl, hg⟩

/-- What is refused. -/
theorem go_bad (d : Net) (vd ve vl : Value) (cy : Int) (sv : Value) (l : List Ck) (a0 a1 b0 b1 : Value) (w : World) (hN : NetAt w.heap.size w d vd ve vl) (hs : CksAt w.heap.size w sv l) (hz : l.length * 24 ≤ 140737488351232) (hb : goesZ d cy l = false) :
    Calls Tryz.prog 10 #[cfV d.cf vd ve vl, .int .i64 cy, sv, .agg #[a0, a1, b0, b1]] w fun e w' => e = .returned (.tuple #[nullTold, .int .i64 1]) ∧ w.grownBy w' none := by
  cases h1 : cleanZ d cy l.length with
  | false => exact go_unclean d vd ve vl cy sv l a0 a1 b0 b1 w hN hs hz h1
  | true =>
    cases h2 : l.all newC with
    | false => exact go_unmade d vd ve vl cy sv l a0 a1 b0 b1 w hN hs hz h1 h2
    | true =>
      refine go_late d vd ve vl cy sv l a0 a1 b0 b1 w hN hs hz h1 h2 ?_
      unfold goesZ at hb
      rw [h1, h2] at hb
      simpa using hb
end Go.Proofs.YtckoaeoecjphiaaGreat
