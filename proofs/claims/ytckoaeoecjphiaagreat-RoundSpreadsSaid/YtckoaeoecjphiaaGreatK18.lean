/- Lemmas: align: better, Close. Contracts of the arithmetic below the clocks: math/bits.Mul64, Div64 (at the divisor 10^9), tick.size, signed, checked, MulDiv. math/bits.Div64 at the divisor 10^9. -/
import Derived.Test.YtckoaeoecjphiaaGreatK17
import Derived.Test.YtckoaeoecjphiaaGreatK01
import Derived.Test.YtckoaeoecjphiaaGreatRows
import Derived.WalkKit
import Derived.WalkSpells
import Derived.WalkLawsBesides
import Derived.Lib.Hide
import Derived.Lib.Mul64
import Derived.Laws.Bits64b
import Derived.Deep.QuietTactic
import Derived.BigQuiet
import Derived.Defers
import Derived.Recover
import Derived.LoopN

/- align: better, Close. -/
namespace Go.Proofs.YtckoaeoecjphiaaGreat
open Go.RowKit Go.Lib

def betterH (a b : Hd) : Bool := if cntN a.cr = cntN b.cr then decide (a.fr < b.fr) else decide (cntN b.cr < cntN a.cr)
def Hd.v (x : Hd) : Value := .agg #[.int .i64 x.by_, .int .u32 (x.cr : Int), .int .i64 x.fr]
theorem better_any (x y : Hd) (hx : x.cr < 64) (hy : y.cr < 64) (w : World) :
    Calls Tryz.prog 84 #[x.v, y.v] w fun e w' => e = .returned (.bool (betterH x y)) ∧ w.grownBy w' none := by
  unfold betterH Hd.v
  obtain ⟨bx, cx, fx⟩ := x
  obtain ⟨by_, cy, fy⟩ := y
  dsimp only at *
  have H1 := hid (fun w => count_gr cx hx w)
  have H2 := hid (fun w => count_gr cy hy w)
  obtain ⟨m, hm⟩ : ∃ m, cntN cx = m := ⟨_, rfl⟩
  obtain ⟨k, hk⟩ : ∃ k, cntN cy = k := ⟨_, rfl⟩
  rw [hm] at H1
  rw [hk] at H2
  rw [hm, hk]
  clear hm hk hx hy
  obtain ⟨W0, hW0⟩ : ∃ W0, (w.alloc (.cells #[.int .i64 bx, .int .u32 (cx : Int), .int .i64 fx] 160)).alloc (.cells #[.int .i64 by_, .int .u32 (cy : Int), .int .i64 fy] 160) = W0 := ⟨_, rfl⟩
  have gA := gr_refl ((w.alloc (.cells #[.int .i64 bx, .int .u32 (cx : Int), .int .i64 fx] 160)).alloc (.cells #[.int .i64 by_, .int .u32 (cy : Int), .int .i64 fy] 160)) none
  have B1 := box_heap1 gA
  have B2 := box_heap2 gA
  have G0 : w.grownBy W0 none := hW0 ▸ bx_gr (bx_gr gA)
  rw [hW0] at B1 B2
  have HW := hid hW0
  have HG0 := hid G0
  have x1 := hcell B1 1 _ rfl
  have y1 := hcell B2 1 _ rfl
  have x2 := hcell B1 2 _ rfl
  have y2 := hcell B2 2 _ rfl
  clear gA hW0 B1 B2 G0
  by_cases hmk : m = k
  · subst hmk
    rw [if_pos rfl]
    go_enter Tryz.func84, Tryz.ntmps84
    go_wp2_with fail
    rw [HW.out]
    refine wp_region_grown (by kernel_rfl) (by kernel_rfl) ?_
    have n0 := grn_cell x1
    have n1 := grn_cell y1
    repeat (go_big_quiet_step ((go_at_call 137; first | (with_reducible refine (H1.out _).mono ?_; rintro e w6 ⟨rfl, g6⟩; exact ⟨rfl, ⟨_, gr_trans (Grn.gr _) g6⟩, rfl⟩) | (with_reducible refine (H2.out _).mono ?_; rintro e w6 ⟨rfl, g6⟩; exact ⟨rfl, ⟨_, gr_trans (Grn.gr _) g6⟩, rfl⟩))))
    refine wpQuiet_nil ?_
    rintro w7 ⟨X7, hX7⟩
    have g7 : W0.grownBy w7 none := hX7 ▸ X7.gr
    have z1 := gr_cell g7 x2
    have z2 := gr_cell g7 y2
    clear hX7 X7 n0 n1
    go_wp2_with fail
    go_ret
    exact ⟨rfl, gr_trans HG0.out g7⟩
  · rw [if_neg hmk]
    have e1 : ((m : Int) != (k : Int)) = true := by simp; omega
    have e2 : decide (k < m) = decide ((k : Int) < (m : Int)) := by simp
    rw [e2]
    clear hmk e2
    go_enter Tryz.func84, Tryz.ntmps84
    go_wp2_with fail
    rw [HW.out]
    refine wp_region_grown (by kernel_rfl) (by kernel_rfl) ?_
    have n0 := grn_cell x1
    have n1 := grn_cell y1
    repeat (go_big_quiet_step ((go_at_call 137; first | (with_reducible refine (H1.out _).mono ?_; rintro e w6 ⟨rfl, g6⟩; exact ⟨rfl, ⟨_, gr_trans (Grn.gr _) g6⟩, rfl⟩) | (with_reducible refine (H2.out _).mono ?_; rintro e w6 ⟨rfl, g6⟩; exact ⟨rfl, ⟨_, gr_trans (Grn.gr _) g6⟩, rfl⟩))))
    refine wpQuiet_nil ?_
    rintro w7 ⟨X7, hX7⟩
    have g7 : W0.grownBy w7 none := hX7 ▸ X7.gr
    clear hX7 X7 n0 n1
    go_wp2_with fail
    go_ret
    exact ⟨by simp, gr_trans HG0.out g7⟩

def bestH : List Hd → Hd
  | [] => ⟨0, 0, 0⟩
  | x :: l => l.foldl (fun b h => if betterH h b = true then h else b) x
theorem emptied_ok {w w2 : World} {b : Nat} {C E A : Int} {vf : Value} {o : Obj} (h : AlAt w b C E A vf) (hb : b < w.heap.size) (e : (w.alloc o).setCell ⟨b, 3, none⟩ (.slice none 0 0) = w2) :
    AlAt w2 b C E A (.slice none 0 0) ∧ w2.heap[w.heap.size]? = some o ∧ w.grownBy w2 (some b) := by
  subst e
  refine ⟨cells4_3 (gr_heap (gr_alloc (gr_refl w none) o) h (by simp)), ?_, gr_setRow (gr_alloc (gr_refl w (some b)) o) 3 _⟩
  rw [setCell_heap (by omega)]
  exact heap_alloc_new w o
theorem als_empty {base : Nat} {w : World} {b : Nat} {C E A : Int} (h : AlAt w b C E A (.slice none 0 0)) (hb : base ≤ b) : AlS base w b C E A (.slice none 0 0) [] :=
  ⟨h, ⟨rfl, .inl ⟨rfl, rfl⟩⟩, by simp [Value.ownBlock], hb⟩

theorem close_none (base b : Nat) (C E A : Int) (vf : Value) (w : World) (h : AlS base w b C E A vf []) :
    Calls Tryz.prog 36 #[.pointer (some ⟨b, 0, none⟩)] w fun e w' => e = .returned (.tuple #[.int .i64 0, .int .u32 0, .int .i64 0]) ∧ w = w' := by
  obtain ⟨a, cap, rfl⟩ := h.none rfl
  have a3 := hcell h.at_ 3 _ rfl
  clear h
  go_enter Tryz.func36, Tryz.ntmps36
  go_wp2_with fail
  go_ret3
  exact ⟨rfl, rfl⟩
set_option maxRecDepth 100000 in
theorem close_one (base b : Nat) (C E A : Int) (vf : Value) (x : Hd) (w : World) (h : AlS base w b C E A vf [x]) :
    Calls Tryz.prog 36 #[.pointer (some ⟨b, 0, none⟩)] w fun e w' => e = .returned (.tuple #[.int .i64 x.by_, .int .u32 (x.cr : Int), .int .i64 1]) ∧ Hid (AlAt w' b C E A (.slice none 0 0)) ∧ Hid (w.grownBy w' (some b)) := by
  obtain ⟨g, cap, rfl, hcap, hc⟩ := h.cells (by simp)
  obtain ⟨q0, q1, q2⟩ := hc 0 (by simp)
  have Ha := hid h.at_
  have Hlt := hid h.lt
  clear h hc
  simp only [nthH, List.getElem?_cons_zero, Option.getD_some, Nat.zero_mul, Nat.zero_add, List.length_singleton] at q0 q1 q2 hcap
  obtain ⟨bx, cx, fx⟩ := x
  dsimp only at *
  simp only [List.length_singleton] at Ha
  have a3 := hcell Ha.out 3 _ rfl
  have a4 : (w.alloc (.cells #[.int .i64 bx, .int .u32 (cx : Int), .int .i64 fx] 160)).cell? ⟨b, 3, none⟩ = some (.slice (some ⟨g, 0, none⟩) 1 cap) := gr_cell (gr_alloc (gr_refl w none) _) a3
  have f4 := hfroz (gr_heap (gr_alloc (gr_refl w none) (.cells #[.int .i64 bx, .int .u32 (cx : Int), .int .i64 fx] 160)) Ha.out (by simp)) 3
  by_cases h1 : cap = 1
  · subst h1
    go_enter Tryz.func36, Tryz.ntmps36
    go_wp2_with fail
    refine wp_loop_rounds 1 ?_
    rw [rounds_succ]
    go_wp2_with fail
    obtain ⟨w2, hw2⟩ : ∃ w2, (w.alloc (.cells #[.int .i64 bx, .int .u32 (cx : Int), .int .i64 fx] 160)).setCell ⟨b, 3, none⟩ (.slice none 0 0) = w2 := ⟨_, rfl⟩
    rw [hw2]
    have E2 := hid (emptied_ok Ha.out Hlt.out hw2)
    have y0 := hcell E2.out.2.1 0 _ rfl
    have y1 := hcell E2.out.2.1 1 _ rfl
    clear hw2 a3 a4 f4 q0 q1 q2
    go_quiet (fail)
    go_wp2_with fail
    go_ret3
    exact ⟨rfl, hid (gr_heap (gr_drewN (gr_refl w2 none) _) E2.out.1 (by simp)), hid (gr_drewN E2.out.2.2 _)⟩
  · have h2 : (cap == 1) = false := by simpa using h1
    have h3 : 1 < cap := by omega
    go_enter Tryz.func36, Tryz.ntmps36
    go_wp2_with fail
    refine wp_loop_rounds 1 ?_
    rw [rounds_succ]
    go_wp2_with fail
    obtain ⟨w2, hw2⟩ : ∃ w2, (w.alloc (.cells #[.int .i64 bx, .int .u32 (cx : Int), .int .i64 fx] 160)).setCell ⟨b, 3, none⟩ (.slice none 0 0) = w2 := ⟨_, rfl⟩
    rw [hw2]
    have E2 := hid (emptied_ok Ha.out Hlt.out hw2)
    have y0 := hcell E2.out.2.1 0 _ rfl
    have y1 := hcell E2.out.2.1 1 _ rfl
    clear hw2 a3 a4 f4 q0 q1 q2
    go_quiet (fail)
    go_wp2_with fail
    go_ret3
    exact ⟨rfl, hid (gr_heap (gr_drewN (gr_refl w2 none) _) E2.out.1 (by simp)), hid (gr_drewN E2.out.2.2 _)⟩
theorem store3_ok {w1 : World} {g b : Nat} {a1 a2 a3 v1 v2 v3 : Value} {t : TypeId} {C E A : Int} {vf : Value} (h : w1.heap[g]? = some (.cells #[a1, a2, a3] t)) (hA : AlAt w1 b C E A vf) (hne : g ≠ b) :
    (((w1.setCell ⟨g, 0, none⟩ v1).setCell ⟨g, 1, none⟩ v2).setCell ⟨g, 2, none⟩ v3).heap[g]? = some (.cells #[v1, v2, v3] t) ∧ AlAt (((w1.setCell ⟨g, 0, none⟩ v1).setCell ⟨g, 1, none⟩ v2).setCell ⟨g, 2, none⟩ v3) b C E A vf := by
  refine ⟨?_, ?_⟩
  · simp only [World.setCell, Array.getElem?_modify, if_true, h, Option.map_some]
    rfl
  · unfold AlAt
    rw [setCell_heap hne, setCell_heap hne, setCell_heap hne]
    exact hA
theorem emptied2_ok {w w1 w2 : World} {b q : Nat} {C E A : Int} {vf : Value} {o : Obj} (h : AlAt w1 b C E A vf) (hq : w1.heap[q]? = some o) (hb : b ≠ q) (hg : w.grownBy w1 (some b)) (e : w1.setCell ⟨b, 3, none⟩ (.slice none 0 0) = w2) :
    AlAt w2 b C E A (.slice none 0 0) ∧ w2.heap[q]? = some o ∧ w.grownBy w2 (some b) := by
  subst e
  refine ⟨cells4_3 h, ?_, gr_setRow hg 3 _⟩
  rw [setCell_heap hb]
  exact hq
set_option maxRecDepth 100000 in
theorem close_two (base b : Nat) (C E A : Int) (vf : Value) (x y : Hd) (w : World) (h : AlS base w b C E A vf [x, y]) (hx : x.cr < 64) (hy : y.cr < 64) :
    Calls Tryz.prog 36 #[.pointer (some ⟨b, 0, none⟩)] w fun e w' => e = .returned (.tuple #[.int .i64 (if betterH y x = true then y.by_ else x.by_), .int .u32 ((if betterH y x = true then y.cr else x.cr : Nat) : Int), .int .i64 2]) ∧ Hid (AlAt w' b C E A (.slice none 0 0)) ∧ Hid (w.grownBy w' (some b)) := by
  obtain ⟨g, cap, rfl, hcap, hc⟩ := h.cells (by simp)
  obtain ⟨q0, q1, q2⟩ := hc 0 (by simp)
  obtain ⟨r0, r1, r2⟩ := hc 1 (by simp)
  have Ha := hid h.at_
  have Hlt := hid h.lt
  have Hb := hid (fun w => better_any y x hy hx w)
  obtain ⟨v, hv⟩ : ∃ v, betterH y x = v := ⟨_, rfl⟩
  rw [hv] at Hb ⊢
  clear h hc hx hy hv
  simp only [nthH, List.getElem?_cons_zero, List.getElem?_cons_succ, Option.getD_some, Nat.zero_mul, Nat.zero_add, Nat.one_mul, List.length_cons, List.length_nil] at q0 q1 q2 r0 r1 r2 hcap Ha
  obtain ⟨bx, cx, fx⟩ := x
  obtain ⟨by_, cy, fy⟩ := y
  unfold Hd.v at Hb
  dsimp only at *
  have a3 := hcell Ha.out 3 _ rfl
  have a4 : (w.alloc (.cells #[.int .i64 bx, .int .u32 (cx : Int), .int .i64 fx] 160)).cell? ⟨b, 3, none⟩ = some (.slice (some ⟨g, 0, none⟩) 2 cap) := gr_cell (gr_alloc (gr_refl w none) _) a3
  have h2 : (cap == 1) = false := by simp; omega
  have h3 : 1 < cap := by omega
  have r0 : (w.alloc (.cells #[.int .i64 bx, .int .u32 (cx : Int), .int .i64 fx] 160)).cell? ⟨g, 3, none⟩ = some (.int .i64 by_) := gr_cell (gr_alloc (gr_refl w none) _) r0
  have r1 : (w.alloc (.cells #[.int .i64 bx, .int .u32 (cx : Int), .int .i64 fx] 160)).cell? ⟨g, 4, none⟩ = some (.int .u32 (cy : Int)) := gr_cell (gr_alloc (gr_refl w none) _) r1
  have r2 : (w.alloc (.cells #[.int .i64 bx, .int .u32 (cx : Int), .int .i64 fx] 160)).cell? ⟨g, 5, none⟩ = some (.int .i64 fy) := gr_cell (gr_alloc (gr_refl w none) _) r2
  have hne : Hid (b ≠ w.heap.size) := hid (by have := Hlt.out; omega)
  have x0 : ((w.alloc (.cells #[.int .i64 bx, .int .u32 (cx : Int), .int .i64 fx] 160)).alloc (.cells #[.int .i64 by_, .int .u32 (cy : Int), .int .i64 fy] 160)).cell? ⟨w.heap.size, 0, none⟩ = some (.int .i64 bx) := hcell (box_heap (gr_alloc (gr_refl _ none) _)) 0 _ rfl
  have x1 : ((w.alloc (.cells #[.int .i64 bx, .int .u32 (cx : Int), .int .i64 fx] 160)).alloc (.cells #[.int .i64 by_, .int .u32 (cy : Int), .int .i64 fy] 160)).cell? ⟨w.heap.size, 1, none⟩ = some (.int .u32 (cx : Int)) := hcell (box_heap (gr_alloc (gr_refl _ none) _)) 1 _ rfl
  have x2 : ((w.alloc (.cells #[.int .i64 bx, .int .u32 (cx : Int), .int .i64 fx] 160)).alloc (.cells #[.int .i64 by_, .int .u32 (cy : Int), .int .i64 fy] 160)).cell? ⟨w.heap.size, 2, none⟩ = some (.int .i64 fx) := hcell (box_heap (gr_alloc (gr_refl _ none) _)) 2 _ rfl
  cases v
  · go_enter Tryz.func36, Tryz.ntmps36
    go_wp2_with fail
    refine wp_loop_rounds 2 ?_
    rw [rounds_succ]
    go_wp2_with fail
    refine (Hb.out _).mono ?_
    rintro e w1 ⟨rfl, g1⟩
    have HX1 := hid (box_heap1 g1)
    have G1 := hid (bx_gr (bx_gr g1))
    have HA1 := hid (gr_heap G1.out Ha.out (by simp))
    have b3 := hcell HA1.out 3 _ rfl
    have f3 := hfroz HA1.out 3
    clear g1 a3 a4 r0 r1 r2 q0 q1 q2 x0 x1 x2
    go_wp2_with fail
    rw [rounds_succ]
    go_wp2_with fail
    obtain ⟨w2, hw2⟩ : ∃ w2, w1.setCell ⟨b, 3, none⟩ (.slice none 0 0) = w2 := ⟨_, rfl⟩
    rw [hw2]
    have E2 := hid (emptied2_ok HA1.out HX1.out hne.out (gr_none G1.out) hw2)
    have y0 := hcell E2.out.2.1 0 _ rfl
    have y1 := hcell E2.out.2.1 1 _ rfl
    clear hw2
    go_quiet (fail)
    go_wp2_with fail
    go_ret3
    exact ⟨rfl, hid (gr_heap (gr_drewN (gr_refl w2 none) _) E2.out.1 (by simp)), hid (gr_drewN E2.out.2.2 _)⟩
  · go_enter Tryz.func36, Tryz.ntmps36
    go_wp2_with fail
    refine wp_loop_rounds 2 ?_
    rw [rounds_succ]
    go_wp2_with fail
    refine (Hb.out _).mono ?_
    rintro e w1 ⟨rfl, g1⟩
    have HX1 := hid (box_heap1 g1)
    have HY1 := hid (box_heap2 g1)
    have G1 := hid (bx_gr (bx_gr g1))
    have HA1 := hid (gr_heap G1.out Ha.out (by simp))
    have HS := hid (store3_ok (v1 := .int .i64 by_) (v2 := .int .u32 (cy : Int)) (v3 := .int .i64 fy) HX1.out HA1.out (Ne.symm hne.out))
    have GS := hid (gr_none (row := some b) (gr_setNew (gr_setNew (gr_setNew G1.out (Nat.le_refl _) 0 (.int .i64 by_)) (Nat.le_refl _) 1 (.int .u32 (cy : Int))) (Nat.le_refl _) 2 (.int .i64 fy)))
    have m0 := hcell HY1.out 0 _ rfl
    have m1 := hcell HY1.out 1 _ rfl
    have m2 := hcell HY1.out 2 _ rfl
    have b0 := hcell HX1.out 0 _ rfl
    have b1 := hcell HX1.out 1 _ rfl
    have b2 := hcell HX1.out 2 _ rfl
    have f0 := hfroz HX1.out 0
    have f1 := hfroz HX1.out 1
    have f2 := hfroz HX1.out 2
    have b3 := hcell HS.out.2 3 _ rfl
    have f3 := hfroz HS.out.2 3
    clear g1 a3 a4 r0 r1 r2 q0 q1 q2 x0 x1 x2
    go_wp2_with fail
    rw [rounds_succ]
    go_wp2_with fail
    obtain ⟨w2, hw2⟩ : ∃ w2, (((w1.setCell ⟨w.heap.size, 0, none⟩ (.int .i64 by_)).setCell ⟨w.heap.size, 1, none⟩ (.int .u32 (cy : Int))).setCell ⟨w.heap.size, 2, none⟩ (.int .i64 fy)).setCell ⟨b, 3, none⟩ (.slice none 0 0) = w2 := ⟨_, rfl⟩
    rw [hw2]
    have E2 := hid (emptied2_ok HS.out.2 HS.out.1 hne.out GS.out hw2)
    have y0 := hcell E2.out.2.1 0 _ rfl
    have y1 := hcell E2.out.2.1 1 _ rfl
    clear hw2
    go_quiet (fail)
    go_wp2_with fail
    go_ret3
    exact ⟨rfl, hid (gr_heap (gr_drewN (gr_refl w2 none) _) E2.out.1 (by simp)), hid (gr_drewN E2.out.2.2 _)⟩

/-- Close, of two at most. -/
theorem close_any (base b : Nat) (C E A : Int) (vf : Value) (fs : List Hd) (w : World) (h : AlS base w b C E A vf fs) (hlen : fs.length ≤ 2) (hcr : ∀ x ∈ fs, x.cr < 64) (hb : base ≤ w.heap.size) :
    Calls Tryz.prog 36 #[.pointer (some ⟨b, 0, none⟩)] w fun e w' => ∃ vf', e = .returned (.tuple #[.int .i64 (bestH fs).by_, .int .u32 ((bestH fs).cr : Int), .int .i64 fs.length]) ∧ Hid (AlAt w' b C E A vf') ∧ Hid (Below base w w') := by
  have hbb := h.bb
  match fs, h, hlen, hcr with
  | [], h, _, _ =>
    refine (close_none base b C E A vf w h).mono ?_
    rintro e w' ⟨rfl, rfl⟩
    exact ⟨vf, rfl, hid h.at_, hid (Below.refl _ _)⟩
  | [x], h, _, _ =>
    refine (close_one base b C E A vf x w h).mono ?_
    rintro e w' ⟨rfl, h1, h2⟩
    exact ⟨_, rfl, h1, hid (gr_below h2.out hb (by rintro k hk; cases hk; exact hbb))⟩
  | [x, y], h, _, hcr =>
    refine (close_two base b C E A vf x y w h (hcr x (by simp)) (hcr y (by simp))).mono ?_
    rintro e w' ⟨rfl, h1, h2⟩
    refine ⟨_, ?_, h1, hid (gr_below h2.out hb (by rintro k hk; cases hk; exact hbb))⟩
    show Ending.returned (.tuple #[_, _, .int .i64 2]) = Ending.returned (.tuple #[.int .i64 (if betterH y x = true then y else x).by_, .int .u32 (((if betterH y x = true then y else x).cr : Nat) : Int), .int .i64 2])
    split <;> rfl
end Go.Proofs.YtckoaeoecjphiaaGreat

/- Contracts of the arithmetic below the clocks: math/bits.Mul64, Div64 (at the divisor 10^9), tick.size, signed, checked, MulDiv. -/
namespace Go.Proofs.YtckoaeoecjphiaaGreat
open Go.RowKit Go.Lib

set_option maxHeartbeats 400000 in
theorem size_neg (n : Int) (w : World) (h0 : -9223372036854775808 ≤ n) (h1 : n < 0) :
    Calls Tryz.prog 149 #[.int .i64 n] w fun e w' => e = .returned (.tuple #[.int .u64 (-n), .bool true]) ∧ w = w' := by
  have hn : IntKind.u64.wrap (-IntKind.u64.wrap n) = -n := by rw [IntKind.wrap_u64, IntKind.wrap_u64]; omega
  have Hn := Lib.hid hn; clear hn
  go_enter Tryz.func149, Tryz.ntmps149
  go_wp2
  go_ret2
  refine ⟨?_, rfl⟩
  show Ending.returned (.tuple #[.int .u64 (IntKind.u64.wrap (-IntKind.u64.wrap n)), .bool true]) = _
  rw [Hn.out]

set_option maxHeartbeats 400000 in
theorem size_pos (n : Int) (w : World) (h0 : 0 ≤ n) (h1 : n ≤ 9223372036854775807) :
    Calls Tryz.prog 149 #[.int .i64 n] w fun e w' => e = .returned (.tuple #[.int .u64 n, .bool false]) ∧ w = w' := by
  go_enter Tryz.func149, Tryz.ntmps149
  go_wp2
  go_ret2
  exact ⟨rfl, rfl⟩

set_option maxRecDepth 100000 in
set_option maxHeartbeats 400000 in
theorem len64_second (w : World) :
    Calls Tryz.prog 170 #[.int .u64 1000000000] w fun e w' => e = .returned (.int .i64 30) ∧ w = w' := by
  go_enter Tryz.func170, Tryz.ntmps170
  go_wp2
  go_ret
  exact ⟨by kernel_rfl, rfl⟩

theorem lz64_second (w : World) :
    Calls Tryz.prog 163 #[.int .u64 1000000000] w fun e w' => e = .returned (.int .i64 34) ∧ w = w' := by
  go_enter Tryz.func163, Tryz.ntmps163
  go_wp2_with (go_at_call 170; refine (len64_second _).mono ?_; rintro e w' ⟨rfl, rfl⟩)
  go_ret
  exact ⟨rfl, rfl⟩

namespace Mul64
theorem maskN (a : Nat) (ha : a < 18446744073709551616) : bits .and .u64 (a : Int) 4294967295 = ((a % 4294967296 : Nat) : Int) := by
  have h := bits_and_u64_nat a 4294967295 ha (by omega)
  have e : a &&& 4294967295 = a % 4294967296 := Nat.and_two_pow_sub_one_eq_mod a 32
  rw [e] at h
  exact h
theorem divN (a : Nat) : (a : Int) / 4294967296 = ((a / 4294967296 : Nat) : Int) := by omega
theorem mulN (a b : Nat) : (a : Int) * (b : Int) = ((a * b : Nat) : Int) := (Int.natCast_mul a b).symm
theorem addN (a b : Nat) : (a : Int) + (b : Int) = ((a + b : Nat) : Int) := (Int.natCast_add a b).symm
theorem wrapN (a : Nat) (ha : a < 18446744073709551616) : IntKind.u64.wrap (a : Int) = (a : Int) := by rw [IntKind.wrap_u64]; omega
theorem wrapM (a : Nat) : IntKind.u64.wrap (a : Int) = ((a % 18446744073709551616 : Nat) : Int) := by rw [IntKind.wrap_u64]; omega
end Mul64

set_option maxHeartbeats 1000000 in
theorem mul64_nat (x y : Nat) (hx : x < 18446744073709551616) (hy : y < 18446744073709551616) (w : World) :
    Calls Tryz.prog 150 #[.int .u64 x, .int .u64 y] w fun e w' => e = .returned (.tuple #[.int .u64 ((x * y / 18446744073709551616 : Nat) : Int), .int .u64 ((x * y % 18446744073709551616 : Nat) : Int)]) ∧ w = w' := by
  obtain ⟨bd, bt, bw, hhi⟩ := Lib.mul64_hi x y hx hy
  have ba := Lib.half_mul_le (a := x / 4294967296) (b := y / 4294967296) (by omega) (by omega)
  have bb := Lib.half_mul_le (a := x / 4294967296) (b := y % 4294967296) (by omega) (by omega)
  have bc := Lib.half_mul_le (a := x % 4294967296) (b := y / 4294967296) (by omega) (by omega)
  have ba' : x / 4294967296 * (y / 4294967296) < 18446744073709551616 := by omega
  have bb' : x / 4294967296 * (y % 4294967296) < 18446744073709551616 := by omega
  have bc' : x % 4294967296 * (y / 4294967296) < 18446744073709551616 := by omega
  have bh1 : x / 4294967296 * (y / 4294967296) + (x / 4294967296 * (y % 4294967296) + x % 4294967296 * (y % 4294967296) / 4294967296) / 4294967296 < 18446744073709551616 := by omega
  have bh : x / 4294967296 * (y / 4294967296) + (x / 4294967296 * (y % 4294967296) + x % 4294967296 * (y % 4294967296) / 4294967296) / 4294967296 + ((x / 4294967296 * (y % 4294967296) + x % 4294967296 * (y % 4294967296) / 4294967296) % 4294967296 + x % 4294967296 * (y / 4294967296)) / 4294967296 < 18446744073709551616 := by omega
  have Hh := Lib.hid hhi; clear hhi
  go_enter Tryz.func150, Tryz.ntmps150
  go_wp2
  simp only [Mul64.maskN x hx, Mul64.maskN y hy, Mul64.divN, Mul64.mulN, Mul64.addN, Mul64.wrapN _ bd, Mul64.wrapN _ bb', Mul64.wrapN _ bt, Mul64.maskN _ bt, Mul64.wrapN _ bc', Mul64.wrapN _ bw, Mul64.wrapN _ ba', Mul64.wrapN _ bh1, Mul64.wrapN _ bh, Mul64.wrapM (x * y)]
  rw [Hh.out]
  go_ret2
  exact ⟨rfl, rfl⟩

/-- Over Int, the product under a name. -/
theorem mul64_int (x y : Int) (w : World) (hx0 : 0 ≤ x) (hx : x < 18446744073709551616) (hy0 : 0 ≤ y) (hy : y < 18446744073709551616) :
    Calls Tryz.prog 150 #[.int .u64 x, .int .u64 y] w fun e w' => e = .returned (.tuple #[.int .u64 (x * y / 18446744073709551616), .int .u64 (x * y % 18446744073709551616)]) ∧ w = w' := by
  obtain ⟨a, rfl⟩ := Int.eq_ofNat_of_zero_le hx0
  obtain ⟨b, rfl⟩ := Int.eq_ofNat_of_zero_le hy0
  refine (mul64_nat a b (by omega) (by omega) w).mono ?_
  rintro e w' ⟨rfl, rfl⟩
  exact ⟨by simp, rfl⟩

set_option maxHeartbeats 400000 in
theorem signed_pos (m : Int) (w : World) (h0 : 0 ≤ m) (h1 : m < 9223372036854775808) :
    Calls Tryz.prog 152 #[.int .u64 m, .bool false] w fun e w' => e = .returned (.int .i64 m) ∧ w = w' := by
  go_enter Tryz.func152, Tryz.ntmps152
  go_wp2
  go_ret
  exact ⟨rfl, rfl⟩

set_option maxHeartbeats 400000 in
theorem signed_neg (m : Int) (w : World) (h0 : 0 ≤ m) (h1 : m < 9223372036854775808) :
    Calls Tryz.prog 152 #[.int .u64 m, .bool true] w fun e w' => e = .returned (.int .i64 (-m)) ∧ w = w' := by
  go_enter Tryz.func152, Tryz.ntmps152
  go_wp2
  go_ret
  exact ⟨rfl, rfl⟩

end Go.Proofs.YtckoaeoecjphiaaGreat

/- math/bits.Div64 at the divisor 10^9. -/
namespace Go.Proofs.YtckoaeoecjphiaaGreat
open Go.RowKit Go.Lib

set_option maxHeartbeats 400000 in
theorem div64_low (lo : Int) (w : World) (h0 : 0 ≤ lo) (h1 : lo < 18446744073709551616) :
    Calls Tryz.prog 151 #[.int .u64 0, .int .u64 lo, .int .u64 1000000000] w fun e w' => e = .returned (.tuple #[.int .u64 (lo / 1000000000), .int .u64 (lo % 1000000000)]) ∧ ∃ n, w' = w.drewN n := by
  go_enter Tryz.func151, Tryz.ntmps151
  go_wp2
  go_quiet (fail)
  go_wp2
  go_ret2
  exact ⟨rfl, _, rfl⟩

namespace Div64
theorem or34 (hi lo : Int) (h0 : 0 < hi) (h1 : hi < 1000000000) (l0 : 0 ≤ lo) (l1 : lo < 18446744073709551616) :
    bits .or .u64 (hi * 17179869184) (lo / 1073741824) = hi * 17179869184 + lo / 1073741824 :=
  bits_join .u64 64 (by decide) (fun n a b => by rw [IntKind.wrap_u64]; omega) 34 (hi * 17179869184) (lo / 1073741824) (by omega) (by omega) (by omega) (by omega) (by omega) (by omega)
theorem and0 : bits .and .u64 17179869184000000000 4294967295 = 0 := by
  have h := Mul64.maskN 17179869184000000000 (by omega)
  exact h
theorem shl34 (lo : Int) : IntKind.u64.wrap (lo * 17179869184) = (lo % 1073741824) * 17179869184 := by rw [IntKind.wrap_u64]; omega
theorem and32 (lo : Int) (l0 : 0 ≤ lo) : bits .and .u64 (lo % 1073741824 * 17179869184) 4294967295 = 0 := by
  obtain ⟨a, rfl⟩ := Int.eq_ofNat_of_zero_le l0
  have h := Mul64.maskN (a % 1073741824 * 17179869184) (by omega)
  have e : ((a % 1073741824 * 17179869184 : Nat) : Int) = (a : Int) % 1073741824 * 17179869184 := by omega
  rw [e] at h
  rw [h]
  omega
theorem q1 (u : Int) (h0 : 0 ≤ u) (h1 : u < 17179869184000000000) : IntKind.u64.wrap (u.tdiv 4000000000) = u / 4000000000 := by
  rw [Int.tdiv_eq_ediv_of_nonneg h0, IntKind.wrap_u64]; omega
theorem r1 (u : Int) : IntKind.u64.wrap (u - IntKind.u64.wrap (u / 4000000000 * 4000000000)) = u % 4000000000 := by
  rw [IntKind.wrap_u64, IntKind.wrap_u64]; omega
theorem u21 (u q r b : Int) (hu : u = q * 4000000000 + r) (hr0 : 0 ≤ r) (hr1 : r < 4000000000) (hb0 : 0 ≤ b) (hb1 : b < 1073741824) :
    IntKind.u64.wrap (IntKind.u64.wrap (IntKind.u64.wrap (u * 4294967296) + b * 17179869184 / 4294967296) - IntKind.u64.wrap (q * 17179869184000000000)) = r * 4294967296 + b * 4 := by
  rw [IntKind.wrap_u64, IntKind.wrap_u64, IntKind.wrap_u64, IntKind.wrap_u64]; omega
theorem last (x q : Int) (r : Int) (hx : x = q * 4000000000 + r) (hr0 : 0 ≤ r) (hr1 : r < 4000000000) :
    IntKind.u64.wrap (IntKind.u64.wrap (IntKind.u64.wrap (x * 4294967296)) - IntKind.u64.wrap (q * 17179869184000000000)) = r * 4294967296 := by
  rw [IntKind.wrap_u64, IntKind.wrap_u64, IntKind.wrap_u64, IntKind.wrap_u64]; omega
end Div64

set_option maxRecDepth 100000 in
set_option maxHeartbeats 800000 in
theorem div64_high (hi lo : Int) (w : World) (h0 : 0 < hi) (h1 : hi < 1000000000) (l0 : 0 ≤ lo) (l1 : lo < 18446744073709551616) :
    Calls Tryz.prog 151 #[.int .u64 hi, .int .u64 lo, .int .u64 1000000000] w fun e w' => e = .returned (.tuple #[.int .u64 ((hi * 18446744073709551616 + lo) / 1000000000), .int .u64 ((hi * 18446744073709551616 + lo) % 1000000000)]) ∧ w = w' := by
  go_enter Tryz.func151, Tryz.ntmps151
  go_wp2_with (go_at_call 163; refine (lz64_second _).mono ?_; rintro e w' ⟨rfl, rfl⟩)
  rw [Div64.or34 hi lo h0 h1 l0 l1, Div64.and0, Div64.shl34 lo, Div64.and32 lo l0]
  have hu0 : 0 ≤ hi * 17179869184 + lo / 1073741824 := by omega
  have hu1 : hi * 17179869184 + lo / 1073741824 < 17179869184000000000 := by omega
  generalize hu : hi * 17179869184 + lo / 1073741824 = u at *
  have Hu := Lib.hid hu; clear hu
  rw [Div64.q1 u hu0 hu1, Div64.r1 u]
  have hq0 : 0 ≤ u / 4000000000 := by omega
  have hq1 : u / 4000000000 < 4294967296 := by omega
  have hr0 : 0 ≤ u % 4000000000 := by omega
  have hr1 : u % 4000000000 < 4000000000 := by omega
  generalize hq : u / 4000000000 = q at *
  generalize hr : u % 4000000000 = r at *
  have Hq := Lib.hid hq; clear hq
  have Hr := Lib.hid hr; clear hr
  refine wp_loop_rounds 1 ?_
  rw [rounds_succ]
  go_wp2
  have hb0 : 0 ≤ lo % 1073741824 := by omega
  have hb1 : lo % 1073741824 < 1073741824 := by omega
  have huqr : u = q * 4000000000 + r := by have := Hq.out; have := Hr.out; omega
  rw [Div64.u21 u q r (lo % 1073741824) huqr hr0 hr1 hb0 hb1]
  have Huqr := Lib.hid huqr; clear huqr
  have hx0 : 0 ≤ r * 4294967296 + lo % 1073741824 * 4 := by omega
  have hx1 : r * 4294967296 + lo % 1073741824 * 4 < 17179869184000000000 := by omega
  generalize hx : r * 4294967296 + lo % 1073741824 * 4 = x at *
  have Hx := Lib.hid hx; clear hx
  rw [Div64.q1 x hx0 hx1, Div64.r1 x]
  have hp0 : 0 ≤ x / 4000000000 := by omega
  have hp1 : x / 4000000000 < 4294967296 := by omega
  have hs0 : 0 ≤ x % 4000000000 := by omega
  have hs1 : x % 4000000000 < 4000000000 := by omega
  generalize hp : x / 4000000000 = p at *
  generalize hs : x % 4000000000 = s at *
  have Hp := Lib.hid hp; clear hp
  have Hs := Lib.hid hs; clear hs
  refine wp_loop_rounds 1 ?_
  rw [rounds_succ]
  go_wp2
  go_ret2
  refine ⟨?_, rfl⟩
  have e1 := Hu.out; have e2 := Hq.out; have e3 := Hr.out; have e4 := Hx.out; have e5 := Hp.out; have e6 := Hs.out
  have hxs : x = p * 4000000000 + s := by omega
  have hl := Div64.last x p s hxs hs0 hs1
  show Ending.returned (.tuple #[.int .u64 (q * 4294967296 + p), .int .u64 (_ / 17179869184)]) = _
  have a1 : q * 4294967296 + p = (hi * 18446744073709551616 + lo) / 1000000000 := by omega
  have a2 : s * 4294967296 / 17179869184 = (hi * 18446744073709551616 + lo) % 1000000000 := by omega
  rw [hl, a1, a2]
end Go.Proofs.YtckoaeoecjphiaaGreat
