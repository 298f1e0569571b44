/- Lemmas: conf.schedule's other closures. slices.Values, AppendSeq, Collect, Sorted at int64. slices.Sorted(slices.Values(l)) at int64: the numbers, rising, in a slice of the call's own. tick.Half: the floor of the middle, for all of int64. mean.Tolerant, Middle: what they come to. conf: rows, schedule, Check -/
import Derived.Test.YtckoaeoecjphiaaGreatK04
import Derived.RangeFuncBox
import Derived.RangeFuncLeaves
import Derived.Shelf.Abstract
import Derived.WalkKit
import Derived.OwnWalkIn
import Derived.TacticsInMore
import Derived.LoopNIn
import Derived.LoopIn
import Derived.Maps.AppendAt
import Derived.Test.YtckoaeoecjphiaaGreatProg
import Derived.Test.YtckoaeoecjphiaaGreatShelf
import Derived.Test.YtckoaeoecjphiaaGreatK01
import Derived.Shelf.SortG.SortNone
import Derived.Sort.OwnSortedInts
import Derived.WalkSpells
import Derived.WalkLawsBesides
import Derived.Lib.Hide
import Derived.Test.YtckoaeoecjphiaaGreatRows
import Derived.Deep.QuietTactic
import Derived.BigQuiet

/- conf.schedule's other closures. -/
namespace Go.Proofs.YtckoaeoecjphiaaGreat
open Go.RowKit Go.Lib

theorem bad5_any (bx : Nat) (c : Cf) (vd ve vl : Value) (x : Ent) (hx : Hid (x.to < 4294967296)) (w : World) (hc : CfAt w bx c vd ve vl) (h0 : 1 ≤ c.ho) (h1 : c.ho ≤ 6) :
    Calls Tryz.prog 116 #[x.v, .pointer (some ⟨bx, 0, none⟩)] w fun e w' => e = .returned (.bool (!routeZ c.ho x.fr x.to x.sz)) ∧ w.grownBy w' none := by
  have g0 := gr_alloc (gr_refl w none) (.cells #[.int .i64 x.fr, .int .u32 (x.to : Int), .int .i64 x.ph, .int .i64 x.sz] 134)
  have k0 := hcell (hc.kept g0) 0 _ rfl
  have G0 := hid g0
  clear hc g0
  obtain ⟨fr, to, ph, sz⟩ := x
  obtain ⟨ho, cy, de, wi, pr, qu⟩ := c
  dsimp only at *
  go_enter Tryz.func116, Tryz.ntmps116
  go_wp2_with fail
  refine (route_any ho fr to sz _ h0 h1 hx).mono ?_
  rintro e w1 ⟨rfl, rfl⟩
  go_wp2_with fail
  go_ret
  exact ⟨rfl, G0.out⟩

theorem badl_any (bx : Nat) (c : Cf) (vd ve vl : Value) (x : Ent) (hx : Hid (x.to < 4294967296)) (w : World) (hc : CfAt w bx c vd ve vl) (h0 : 1 ≤ c.ho) (h1 : c.ho ≤ 6) :
    Calls Tryz.prog 70 #[x.v, .pointer (some ⟨bx, 0, none⟩)] w fun e w' => e = .returned (.bool (!routeZ c.ho x.fr x.to x.sz || !inZ x.ph 1 1073741824)) ∧ w.grownBy w' none := by
  have g0 := gr_alloc (gr_refl w none) (.cells #[.int .i64 x.fr, .int .u32 (x.to : Int), .int .i64 x.ph, .int .i64 x.sz] 121)
  have k0 := hcell (hc.kept g0) 0 _ rfl
  have G0 := hid g0
  clear hc g0
  obtain ⟨fr, to, ph, sz⟩ := x
  obtain ⟨ho, cy, de, wi, pr, qu⟩ := c
  dsimp only at *
  obtain ⟨v, hv⟩ : ∃ v, Hid (routeZ ho fr to sz = v) := ⟨_, hid rfl⟩
  have hr : ∀ w' : World, Calls Tryz.prog 71 #[.int .i64 ho, .int .i64 fr, .int .u32 (to : Int), .int .i64 sz] w' fun e w2 => e = .returned (.bool v) ∧ w' = w2 := by rw [← hv.out]; exact fun w' => route_any ho fr to sz w' h0 h1 hx
  rw [hv.out]
  have Hr := hid hr
  clear hr hv
  cases v
  all_goals
    go_enter Tryz.func70, Tryz.ntmps70
    go_wp2_with fail
    refine (Hr.out _).mono ?_
    rintro e w1 ⟨rfl, rfl⟩
    go_wp2_with (go_at_call 65; refine (in_any _ _ _ _).mono ?_; rintro e w' ⟨rfl, rfl⟩)
    go_ret
    exact ⟨rfl, G0.out⟩

def bad6 (c : Cf) (x : Ent) : Bool := decide (x.ph < quietZ c) || (decide (c.cy ≤ x.ph) || decide (c.cy ≤ lateZ c x))
theorem lateZ_bd (c : Cf) (e : Ent) : -1125899906842624 ≤ lateZ c e ∧ lateZ c e ≤ 1125999906842624 := by
  unfold lateZ
  split
  · rename_i h
    obtain ⟨hsp, _, p0, p1⟩ := plainZ_bd h
    have := spansZ_bd hsp
    have := timeZ_bd e.sz
    have := forwardZ_bd c e
    omega
  · omega

set_option maxHeartbeats 400000 in
theorem bad6_any (bx : Nat) (c : Cf) (vd ve vl : Value) (x : Ent) (hx : Hid (x.to < 4294967296)) (w : World) (hc : CfAt w bx c vd ve vl) (hsp : spansZ c = true) :
    Calls Tryz.prog 117 #[x.v, .pointer (some ⟨bx, 0, none⟩)] w fun e w' => e = .returned (.bool (bad6 c x)) ∧ w.grownBy w' none := by
  have g0 := gr_alloc (gr_refl w none) (.cells #[.int .i64 x.fr, .int .u32 (x.to : Int), .int .i64 x.ph, .int .i64 x.sz] 134)
  obtain ⟨w0, hw0⟩ : ∃ w0, w0 = w.alloc (.cells #[.int .i64 x.fr, .int .u32 (x.to : Int), .int .i64 x.ph, .int .i64 x.sz] 134) := ⟨_, rfl⟩
  have gg := gr_refl w0 none
  have hA := box_heap (o := .cells #[.int .i64 x.fr, .int .u32 (x.to : Int), .int .i64 x.ph, .int .i64 x.sz] 134) (w := w) (w1 := w0) (hw0 ▸ gg)
  rw [← hw0] at g0
  have hC := hc.kept g0
  have n0 := grn_cell (hcell hC 0 _ rfl)
  have n1 := grn_cell (hcell hC 1 _ rfl)
  have n2 := grn_cell (hcell hC 2 _ rfl)
  have n3 := grn_cell (hcell hC 3 _ rfl)
  have n4 := grn_cell (hcell hC 4 _ rfl)
  have n5 := grn_cell (hcell hC 5 _ rfl)
  have n6 := grn_cell (hcell hC 6 _ rfl)
  have n7 := grn_cell (hcell hC 7 _ rfl)
  have n8 := grn_cell (hcell hC 8 _ rfl)
  have m0 := grn_cell (hcell hA 0 _ rfl)
  have m1 := grn_cell (hcell hA 1 _ rfl)
  have m2 := grn_cell (hcell hA 2 _ rfl)
  have m3 := grn_cell (hcell hA 3 _ rfl)
  have G0 := hid g0; have Hw0 := hid hw0
  clear gg hA hC hc g0 hw0
  obtain ⟨⟨c0, c1⟩, ⟨d0, d1⟩, ⟨e0, e1⟩, ⟨f0, f1⟩⟩ := spansZ_bd hsp
  have hq := fun w' : World => quiet_any c vd ve vl w' hsp
  have hl := fun w' : World => late_any c vd ve vl x hx w'
  obtain ⟨Q, hQ⟩ : ∃ q, Hid (quietZ c = q) := ⟨_, hid rfl⟩
  obtain ⟨L, hL⟩ : ∃ l, Hid (lateZ c x = l) := ⟨_, hid rfl⟩
  simp only [hQ.out] at hq
  simp only [hL.out] at hl
  unfold bad6
  rw [hQ.out, hL.out]
  have Hq := hid hq; have Hl := hid hl
  clear hq hl hQ hL hx hsp
  obtain ⟨fr, to, ph, sz⟩ := x
  obtain ⟨ho, cy, de, wi, pr, qu⟩ := c
  dsimp only at *
  obtain ⟨v1, hv1⟩ : ∃ v, decide (ph < Q) = v := ⟨_, rfl⟩
  obtain ⟨v2, hv2⟩ : ∃ v, decide (cy ≤ ph) = v := ⟨_, rfl⟩
  rw [hv1, hv2]
  cases v1 <;> cases v2
  all_goals
    go_enter Tryz.func117, Tryz.ntmps117
    go_wp2_with fail
    rw [← Hw0.out]
    refine wp_region_grown (by kernel_rfl) (by kernel_rfl) ?_
    repeat (go_big_quiet_step (first
      | (go_at_call 118; refine (Hq.out _).mono ?_; rintro e w6 ⟨rfl, g6⟩; exact ⟨rfl, ⟨_, gr_trans (Grn.gr _) g6⟩, rfl⟩)
      | (go_at_call 119; refine (Hl.out _).mono ?_; rintro e w6 ⟨rfl, g6⟩; exact ⟨rfl, ⟨_, gr_trans (Grn.gr _) g6⟩, rfl⟩)))
    refine wpQuiet_nil ?_
    rintro _ ⟨⟨w7, g7⟩, rfl⟩
    clear n0 n1 n2 n3 n4 n5 n6 n7 n8 m0 m1 m2 m3
    go_wp2_with fail
    go_ret
    exact ⟨rfl, gr_trans G0.out g7⟩

def bad7 (x y : Ent) : Bool := decide (x.fr = y.fr) && meetZ x.ph y.ph (timeZ x.sz) (timeZ y.sz)
theorem bad7_any (f0 : Nat) (x y : Ent) (w : World) (hf : w.cell? ⟨f0, 0, none⟩ = some (.func (.func 112) #[] #[])) (ha : -1125899906842624 ≤ x.ph ∧ x.ph ≤ 1125909906842624) (hb : -1125899906842624 ≤ y.ph ∧ y.ph ≤ 1125909906842624) :
    Calls Tryz.prog 121 #[x.v, y.v, .pointer (some ⟨f0, 0, none⟩)] w fun e w' => e = .returned (.bool (bad7 x y)) ∧ w.grownBy w' none := by
  have g0 := gr_alloc (gr_alloc (gr_refl w none) (.cells #[.int .i64 x.fr, .int .u32 (x.to : Int), .int .i64 x.ph, .int .i64 x.sz] 134)) (.cells #[.int .i64 y.fr, .int .u32 (y.to : Int), .int .i64 y.ph, .int .i64 y.sz] 134)
  have k0 := gr_cell g0 hf
  have hm := fun w' : World => meet_ph x y w' ha hb
  unfold bad7
  obtain ⟨v, hv⟩ : ∃ v, Hid (meetZ x.ph y.ph (timeZ x.sz) (timeZ y.sz) = v) := ⟨_, hid rfl⟩
  simp only [hv.out] at hm
  rw [hv.out]
  have G0 := hid g0; have Hm := hid hm
  clear hf g0 hm hv ha hb
  obtain ⟨fr, to, ph, sz⟩ := x
  obtain ⟨fr', to', ph', sz'⟩ := y
  dsimp only at *
  by_cases he : fr = fr'
  · subst he
    go_enter Tryz.func121, Tryz.ntmps121
    go_wp2_with fail
    refine (Hm.out _).mono ?_
    rintro e w1 ⟨rfl, g1⟩
    go_wp2_with fail
    go_ret
    exact ⟨by simp, gr_trans G0.out g1⟩
  · have he' : (fr == fr') = false := by simpa using he
    rw [decide_eq_false he]
    clear he
    go_enter Tryz.func121, Tryz.ntmps121
    go_wp2_with fail
    go_ret
    exact ⟨rfl, G0.out⟩

def bad8 (c : Cf) (x y : Ent) : Bool := decide (x.to &&& y.to ≠ 0) && meetZ (forwardZ c x) (forwardZ c y) (timeZ x.sz) (timeZ y.sz)
theorem bad8_any (f0 bx : Nat) (c : Cf) (vd ve vl : Value) (x y : Ent) (hx : Hid (x.to < 4294967296)) (hy : Hid (y.to < 4294967296)) (w : World) (hf : w.cell? ⟨f0, 0, none⟩ = some (.func (.func 113) #[] #[.pointer (some ⟨bx, 0, none⟩)])) (hc : CfAt w bx c vd ve vl) :
    Calls Tryz.prog 123 #[x.v, y.v, .pointer (some ⟨f0, 0, none⟩)] w fun e w' => e = .returned (.bool (bad8 c x y)) ∧ w.grownBy w' none := by
  have g0 := gr_alloc (gr_alloc (gr_refl w none) (.cells #[.int .i64 x.fr, .int .u32 (x.to : Int), .int .i64 x.ph, .int .i64 x.sz] 134)) (.cells #[.int .i64 y.fr, .int .u32 (y.to : Int), .int .i64 y.ph, .int .i64 y.sz] 134)
  have k0 := gr_cell g0 hf
  have hm := meet_fw bx c vd ve vl x y hx hy _ (hc.kept g0)
  unfold bad8
  obtain ⟨v, hv⟩ : ∃ v, Hid (meetZ (forwardZ c x) (forwardZ c y) (timeZ x.sz) (timeZ y.sz) = v) := ⟨_, hid rfl⟩
  simp only [hv.out] at hm
  rw [hv.out]
  have hand := bits_and_u32_nat x.to y.to hx.out hy.out
  have G0 := hid g0; have Hm := hid hm
  clear hf g0 hm hv hx hy hc
  obtain ⟨fr, to, ph, sz⟩ := x
  obtain ⟨fr', to', ph', sz'⟩ := y
  dsimp only at *
  generalize to &&& to' = t at *
  by_cases he : t = 0
  · subst he
    go_enter Tryz.func123, Tryz.ntmps123
    go_wp2_with fail
    go_ret
    exact ⟨by simp, G0.out⟩
  · have he' : ((t : Int) != 0) = true := by simpa using he
    rw [decide_eq_true he]
    clear he
    go_enter Tryz.func123, Tryz.ntmps123
    go_wp2_with fail
    refine Hm.out.mono ?_
    rintro e w1 ⟨rfl, g1⟩
    go_wp2_with fail
    go_ret
    exact ⟨by simp, gr_trans G0.out g1⟩
end Go.Proofs.YtckoaeoecjphiaaGreat

/- slices.Values, AppendSeq, Collect, Sorted at int64. -/
namespace Go.Proofs.YtckoaeoecjphiaaGreat
open Go.RowKit Go.Shelf Go.Sort

attribute [local go_sem] Oper.semAt_some

/-- What has come when k rounds are over. -/
def upto {α : Type} (f : Nat → α) (k : Nat) : List α := (List.range k).map f
theorem upto_succ {α : Type} (f : Nat → α) (k : Nat) : upto f (k + 1) = upto f k ++ [f k] := by simp [upto, List.range_succ]
theorem upto_length {α : Type} (f : Nat → α) (k : Nat) : (upto f k).length = k := by simp [upto]
theorem upto_all (zs : List Int) : upto (fun j => zs[j]?.getD 0) zs.length = zs := by
  apply List.ext_getElem
  · simp [upto]
  · intro i h1 h2
    simp [upto, h2]
theorem upto_take (zs : List Int) {k : Nat} (hk : k ≤ zs.length) : upto (fun j => zs[j]?.getD 0) k = zs.take k := by
  apply List.ext_getElem
  · simp [upto, hk]
  · intro i h1 h2
    have : i < zs.length := by simp [upto] at h1; omega
    simp [upto, this]

set_option maxRecDepth 100000 in
set_option maxHeartbeats 2000000 in
/-- The closure of slices.Values, for every loop body that keeps what lay below n₀. -/
theorem values1_in (F : Fence) (n : Nat) (h7 : F.fn 169) (hro : F.round = none) (hn : 1 ≤ n) (l Bs n₀ b off len cap : Nat) (zs : List Int) (hreach : len * 8 ≤ 140737488355328) (hb : b < n₀) (J Jx : List Int → World → Prop)
    (hY : ∀ pre x W, J pre W → pre.length < len → YieldAt F (n - 1) Tryz.prog l #[.int .i64 x] W fun e W' =>
      (e = .returned (.bool true) ∧ J (pre ++ [x]) W' ∧ Below n₀ W W') ∨ (e = .returned (.bool false) ∧ Jx (pre ++ [x]) W'))
    (W : World) (hBs : W.cell? ⟨Bs, 0, none⟩ = some (.slice (some ⟨b, off, none⟩) len cap)) (hc : ∀ j, j < len → W.cell? ⟨b, off + j, none⟩ = some (.int .i64 (zs[j]?.getD 0))) (h0 : J [] W) :
    CallsIn F n Tryz.prog 169 #[.func (.yield l) #[] #[], .pointer (some ⟨Bs, 0, none⟩)] W fun e W' => (∃ v, e = .returned v) ∧
      ((∃ ys, ys = upto (fun j => zs[j]?.getD 0) len ∧ J ys W') ∨ (∃ pre, (∃ k, k ≤ len ∧ pre = upto (fun j => zs[j]?.getD 0) k) ∧ Jx pre W')) := by
  refine callsIn_of_wp Tryz.func169 rfl h7 ?_ hro
  simp only [Tryz.ntmps169, List.size_toArray, List.length_cons, List.length_nil, Nat.reduceAdd, Nat.reduceSub, Array.replicate_succ, Array.replicate_zero, List.push_toArray, List.append_toArray, List.nil_append, List.cons_append]
  gi_wp2
  gi_loopw [7] (fun i wr => ∃ k : Nat, k ≤ len ∧ i = .int .i64 k ∧ J (upto (fun j => zs[j]?.getD 0) k) wr ∧ Below n₀ W wr)
    (fun i _ => len - (intOf i).toNat)
  case atStart => exact ⟨0, Nat.zero_le _, rfl, h0, Below.refl _ _⟩
  case round =>
    obtain ⟨k, hk, rfl, hJs, hnx⟩ := hrel
    have hcx : k < len → wr.cell? ⟨b, off + k, none⟩ = some (.int .i64 (zs[k]?.getD 0)) := fun h => (hnx.cell (p := ⟨b, off + k, none⟩) hb).trans (hc k h)
    by_cases hlt : k < len
    · obtain ⟨fn, tmps, assign, body, hy, hR⟩ := hY _ (zs[k]?.getD 0) wr hJs (by rw [upto_length]; exact hlt)
      have hcx' := hcx hlt
      gi_wp2
      refine hR.mono ?_
      rintro e W3 (⟨rfl, hJ3, hk3⟩ | ⟨rfl, hJx3⟩)
      · gi_wp2
        go_roundw
        case rel => exact ⟨k + 1, by omega, by simp, by rw [upto_succ]; exact hJ3, hnx.trans hk3⟩
        case measure => simp [intOf]; omega
      · gi_wp2
        refine bodyPost_ret (results_none rfl _ _ _) rfl ?_
        exact ⟨⟨_, rfl⟩, .inr ⟨_, ⟨k + 1, by omega, (upto_succ _ _).symm⟩, hJx3⟩⟩
    · obtain rfl : k = len := by omega
      gi_wp2
      go_end0
      exact ⟨⟨_, rfl⟩, .inl ⟨_, rfl, hJs⟩⟩

/-- The slice value sv holds the numbers zs, in a block below n₀; or it has none. -/
def Ints (n₀ : Nat) (W : World) (sv : Value) (zs : List Int) : Prop :=
  (∃ a cap, sv = .slice a 0 cap ∧ zs = []) ∨ ∃ b off cap, sv = .slice (some ⟨b, off, none⟩) zs.length cap ∧ b < n₀ ∧ ∀ j, j < zs.length → W.cell? ⟨b, off + j, none⟩ = some (.int .i64 (zs[j]?.getD 0))
theorem Ints.below {n₀ : Nat} {A B : World} (h : Below n₀ A B) {sv : Value} {zs : List Int} : Ints n₀ A sv zs → Ints n₀ B sv zs
  | .inl e => .inl e
  | .inr ⟨b, off, cap, e, hb, hc⟩ => .inr ⟨b, off, cap, e, hb, fun j hj => (h.cell (p := ⟨b, off + j, none⟩) hb).trans (hc j hj)⟩
theorem Ints.mono {n₀ n₁ : Nat} {A : World} (h : n₀ ≤ n₁) {sv : Value} {zs : List Int} : Ints n₀ A sv zs → Ints n₁ A sv zs
  | .inl e => .inl e
  | .inr ⟨b, off, cap, e, hb, hc⟩ => .inr ⟨b, off, cap, e, by omega, hc⟩

set_option maxRecDepth 100000 in
set_option maxHeartbeats 1000000 in
theorem values1_nil_in (F : Fence) (n : Nat) (h7 : F.fn 169) (hro : F.round = none) (l Bs : Nat) (a : Option Addr) (cap : Nat) (J : List Int → World → Prop) (W : World) (hBs : W.cell? ⟨Bs, 0, none⟩ = some (.slice a 0 cap)) (h0 : J [] W) :
    CallsIn F n Tryz.prog 169 #[.func (.yield l) #[] #[], .pointer (some ⟨Bs, 0, none⟩)] W fun e W' => (∃ v, e = .returned v) ∧ J [] W' := by
  refine callsIn_of_wp Tryz.func169 rfl h7 ?_ hro
  simp only [Tryz.ntmps169, List.size_toArray, List.length_cons, List.length_nil, Nat.reduceAdd, Nat.reduceSub, Array.replicate_succ, Array.replicate_zero, List.push_toArray, List.append_toArray, List.nil_append, List.cons_append]
  gi_wp2
  gi_loopw [7] (fun i wr => i = .int .i64 0 ∧ J [] wr) (fun _ _ => 0)
  case atStart => exact ⟨rfl, h0⟩
  case round =>
    obtain ⟨rfl, hJs⟩ := hrel
    gi_wp2
    go_end0
    exact ⟨⟨_, rfl⟩, hJs⟩

set_option maxHeartbeats 1000000 in
/-- slices.Values: the slice value is boxed; the function value captures the box. -/
theorem values_call (a : Option Addr) (len cap : Nat) (w : World) :
    Calls Tryz.prog 158 #[.slice a len cap] w fun e w' => e = .returned (.func (.func 169) #[] #[.pointer (some ⟨w.heap.size, 0, none⟩)]) ∧ w' = w.alloc (.cells #[.slice a len cap] 35) := by
  have hmf : ∀ (fn : Fn) (first cap : Array Value) (w : World), (Instr.makeFunc fn first cap).run Tryz.prog w = .ok (.func fn first cap) w := fun _ _ _ _ => rfl
  go_enter Tryz.func158, Tryz.ntmps158
  go_wp2
  go_ret
  exact ⟨rfl, rfl⟩

theorem values_stops (F : Fence) (n : Nat) (h7 : F.fn 169) (hro : F.round = none) (hn : 1 ≤ n) (Bs n₀ : Nat) (sv : Value) (zs : List Int) (hreach : zs.length * 8 ≤ 140737488355328) (w : World) (hBs : Bs < w.heap.size) (hn₀ : n₀ ≤ w.heap.size)
    (hc : w.cell? ⟨Bs, 0, none⟩ = some sv) (hI : Ints n₀ w sv zs) :
    SeqStopsK F n Tryz.prog 169 #[.pointer (some ⟨Bs, 0, none⟩)] (fun x : Int => #[Value.int .i64 x]) (Below n₀) (fun ys => ys = zs) (fun pre => pre <+: zs) zs.length w := fun l J Jx W hW _ _ hY h0 => by
  have hc' := (hW.cell (p := ⟨Bs, 0, none⟩) hBs).trans hc
  rcases hI.below (hW.mono hn₀) with ⟨a, cap, rfl, rfl⟩ | ⟨b, off, cap, rfl, hb, hcs⟩
  · exact (values1_nil_in F n h7 hro l Bs a cap J W hc' h0).mono fun e W' ⟨he, hj⟩ => ⟨he, .inl ⟨_, rfl, hj⟩⟩
  · refine (values1_in F n h7 hro hn l Bs n₀ b off zs.length cap zs hreach hb J Jx hY W hc' hcs h0).mono ?_
    rintro e W' ⟨he, ⟨ys, rfl, hj⟩ | ⟨pre, ⟨k, hk, rfl⟩, hj⟩⟩
    · exact ⟨he, .inl ⟨_, upto_all zs, hj⟩⟩
    · exact ⟨he, .inr ⟨_, by rw [upto_take zs hk]; exact List.take_prefix _ _, hj⟩⟩

theorem Tryz.info_i64 : (Tryz.prog.info? 2).map (fun i => (i.zero, i.size, i.bytes)) = some (some (.int .i64 0), 1, 8) := by kernel_rfl

set_option maxRecDepth 100000 in
set_option maxHeartbeats 2000000 in
theorem appendSeq_in (F : Fence) (n : Nat) (h3 : F.fn 171) (h7 : F.fn 169) (hro : F.round = none) (hn : 3 ≤ n) (Bs : Nat) (sv : Value) (zs : List Int) (hreach : zs.length * 8 ≤ 140737488355328) (w : World) (hBs : Bs < w.heap.size)
    (hc : w.cell? ⟨Bs, 0, none⟩ = some sv) (hI : Ints w.heap.size w sv zs) :
    CallsIn F n Tryz.prog 171 #[.slice none 0 0, .func (.func 169) #[] #[.pointer (some ⟨Bs, 0, none⟩)]] w fun e W' => ∃ v, e = .returned v ∧ W'.ownsRow w.heap.size 2 1 v zs.length (zs.map (Value.int .i64)) ∧ (v = .slice none 0 0 ↔ zs = []) ∧ Below w.heap.size w W' := by
  have h1 : 1 ≤ n := by omega
  obtain ⟨i0, hi, hz0, hz1, hz2⟩ := info_parts Tryz.info_i64
  refine callsIn_of_wp_marks Tryz.func171 rfl h3 ?_ hro
  simp only [Tryz.ntmps171, List.size_toArray, List.length_cons, List.length_nil, Nat.reduceAdd, Nat.reduceSub, Array.replicate_succ, Array.replicate_zero, List.push_toArray, List.append_toArray, List.nil_append, List.cons_append]
  gi_wp2
  have bO := Boxed.new w 35 (.slice none 0 0)
  have hB0 : Below w.heap.size w (w.alloc (.cells #[.slice none 0 0] 35)) := (Below.refl _ w).alloc (Nat.le_refl _) _
  refine wpIn_rangeFunc_ownG hro h1 (gf := 169) (lb := #[.pointer (some ⟨Bs, 0, none⟩)]) rfl h7 (enters_of Tryz.func169 (by kernel_rfl) rfl)
    (values_stops F (n - 1) h7 hro (by omega) Bs w.heap.size sv zs hreach _ (by simp; omega) (by simp) ((hB0.cell (p := ⟨Bs, 0, none⟩) hBs).trans hc) (hI.below hB0)) belowK_t (belowK_b (by simp)) (Below.refl _ _) (fun _ => rfl)
    (fun pre W => (∃ v, Boxed W w.heap.size 35 v ∧ W.ownsRow w.heap.size 2 1 v pre.length (pre.map (Value.int .i64)) ∧ (v = .slice none 0 0 ↔ pre = [])) ∧ Below w.heap.size w W)
    (fun _ _ _ => False)
    (OwnFrom.and (Own.from (holdsRow_own w.heap.size w.heap.size 35 2 1 (fun pre => pre.length) (fun pre => pre.map (Value.int .i64)) (fun pre v => v = .slice none 0 0 ↔ pre = [])) _) (ownFrom_below (Nat.le_refl _) (by simp)))
    (fun _ _ _ _ _ hs _ _ => hs)
    ⟨⟨_, bO, World.ownsRow_nil _ _ _ _, by simp⟩, hB0⟩
    (fun x => { tmps := #[.slice none 0 0, .func (.func 169) #[] #[.pointer (some ⟨Bs, 0, none⟩)], .pointer (some ⟨w.heap.size, 0, none⟩), undef, .slice none 0 0, .int .i64 x, .func (.func 169) #[] #[.pointer (some ⟨Bs, 0, none⟩)], .int .i64 x, undef, undef, undef, undef, undef], defers := [] }) ?assign ?body ?done ?stop
  case assign =>
    intro l x W K hK
    gi_wp2
    exact hK
  case body =>
    rintro l pre x W ⟨⟨v, hv, hrow, hnil⟩, hB⟩ hlt
    have hc := hv.cell
    gi_wp2_with (gi_at_builtin; refine wpListIn_append_own _ rfl _ _ 35 rfl w.heap.size 2 i0 (.int .i64 0) 1 8 Tryz.underlying35 hi hz0 hz1 hz2 rfl (by decide) _ _ _ rfl (hrow.alloc _) ⟨W.heap.size, 0, none⟩ 1 1 [.int .i64 x] rfl rfl (cell_one_new _ _ _) (by simp [Value.oneCell']) (by unfold maxLen; omega) (by omega) (by have := hB.size; simp; omega) ?_; intro v' w1 hown' hgrow _; obtain ⟨g', cap', rfl⟩ := ownsRow_succ hown'; obtain ⟨hv1, hv2, hr2, hk2, hb2⟩ := hv.appended (by decide) hrow hB.size (Nat.le_refl _) hown' hgrow; have hc1 := hv1.cell; have hf1 := hv1.frozen)
    exact ⟨hk2.from _, hb2, ⟨_, hv2, by simpa using hr2, by simp⟩, hB.trans hb2⟩
  case done =>
    rintro D ys W hD rfl ⟨⟨v, hv, hrow, hnil⟩, hB⟩ hK
    have hc := hv.cell
    gi_wp2
    refine ⟨by simp, .inl ⟨_, _, rfl, run_takeDeferred hK, ?_⟩⟩
    exact ⟨_, results_tmp rfl _ _ _, v, rfl, ownsRow_putObj hrow _ hK rfl, hnil, hB.trans (belowK_b (w := w) (Nat.le_refl _) W D _ _ (by simp at hD; omega) hK rfl rfl)⟩
  case stop =>
    rintro D c pre W _ _ h _
    exact h.elim

end Go.Proofs.YtckoaeoecjphiaaGreat

/- slices.Sorted(slices.Values(l)) at int64: the numbers, rising, in a slice of the call's own. -/
namespace Go.Proofs.YtckoaeoecjphiaaGreat
open Go.RowKit Go.Shelf Go.Sort Go.Lib

/-- Rising. -/
def sortL (zs : List Int) : List Int := zs.mergeSort fun x y => decide (x ≤ y)
theorem sortL_length (zs : List Int) : (sortL zs).length = zs.length := List.length_mergeSort _
theorem sortL_perm (zs : List Int) : (sortL zs).Perm zs := List.mergeSort_perm _ _
theorem sortL_nil : sortL [] = [] := by simp [sortL]

theorem sort_call (g cap : Nat) (zs : List Int) (w : World) (hH : Holds (Value.int .i64) w g 0 zs.toArray) (hb : g < w.heap.size) (hsz : zs.length < 4611686018427387904) :
    Calls Tryz.prog 168 #[.slice (some ⟨g, 0, none⟩) zs.length cap] w fun e w' => e = .returned (.tuple #[]) ∧ ∃ n os, w' = grow (putRow (Value.int .i64) (Sort.ahead w n) g 0 (sortL zs).toArray) os :=
  AnyG.slices_Sort_int Tryz.lsort g 0 cap zs w hH hb hsz

theorem sort_none (p : Option Addr) (cap : Nat) (w : World) :
    Calls Tryz.prog 168 #[.slice p 0 cap] w fun e w' => e = .returned (.tuple #[]) ∧ w' = w :=
  AnyG.slices_Sort_int_none Tryz.lsort p cap w

theorem collect_call (Bs : Nat) (sv : Value) (zs : List Int) (hreach : zs.length * 8 ≤ 140737488355328) (w : World) (hBs : Bs < w.heap.size) (hc : w.cell? ⟨Bs, 0, none⟩ = some sv) (hI : Ints w.heap.size w sv zs) :
    Calls Tryz.prog 167 #[.func (.func 169) #[] #[.pointer (some ⟨Bs, 0, none⟩)]] w fun e w' => ∃ v, e = .returned v ∧ w'.ownsRow w.heap.size 2 1 v zs.length (zs.map (Value.int .i64)) ∧ (v = .slice none 0 0 ↔ zs = []) ∧ Below w.heap.size w w' := by
  have hA := callsIn_wide.1 (appendSeq_in Fence.wide 3 trivial trivial rfl (by omega) Bs sv zs hreach w hBs hc hI)
  have HA := hid hA
  clear hA hI hc
  go_enter Tryz.func167, Tryz.ntmps167
  go_wp2_with fail
  refine HA.out.mono ?_
  rintro e w' ⟨v, rfl, h⟩
  have H := hid h; clear h
  go_wp2_with fail
  go_ret
  exact ⟨v, rfl, H.out⟩

theorem sorted_call (Bs : Nat) (sv : Value) (zs : List Int) (hreach : zs.length * 8 ≤ 140737488355328) (w : World) (hBs : Bs < w.heap.size) (hc : w.cell? ⟨Bs, 0, none⟩ = some sv) (hI : Ints w.heap.size w sv zs) :
    Calls Tryz.prog 157 #[.func (.func 169) #[] #[.pointer (some ⟨Bs, 0, none⟩)]] w fun e w' => ∃ v, e = .returned v ∧ w'.ownsRow w.heap.size 2 1 v zs.length ((sortL zs).map (Value.int .i64)) ∧ (v = .slice none 0 0 ↔ zs = []) ∧ Below w.heap.size w w' := by
  have hA := hid (collect_call Bs sv zs hreach w hBs hc hI)
  clear hI hc
  go_enter Tryz.func157, Tryz.ntmps157
  go_wp2_with fail
  refine hA.out.mono ?_
  rintro e w1 ⟨v, rfl, hown, hnil, hB⟩
  by_cases hz : zs = []
  · subst hz
    have hv : v = .slice none 0 0 := hnil.2 rfl
    subst hv
    clear hA hnil
    go_wp2_with fail
    refine (sort_none _ _ _).mono ?_
    rintro e w' ⟨rfl, rfl⟩
    go_wp2_with fail
    go_ret
    exact ⟨_, rfl, by rw [sortL_nil]; exact hown, by simp, hB⟩
  · obtain ⟨hl, hrow⟩ := hown
    rcases hrow with ⟨rfl, _⟩ | ⟨g, cap, cur, rfl, hg, hh, hn, hcap, hs, ht⟩
    · exact absurd (hnil.1 rfl) hz
    · have hlt : g < w1.heap.size := lt_of_block hh
      rw [Nat.mul_one] at ht
      have hH := hid (holds_of_blockI (ss := zs) hh ht)
      have HB := hid hB; have Hh := hid hh; have Hs := hid hs; have Ht := hid ht; have Hl := hid hl
      clear hnil hB hh hs ht hl hA
      go_wp2_with fail
      refine (sort_call g cap zs _ hH.out hlt (by omega)).mono ?_
      rintro e w2 ⟨rfl, n, os, rfl⟩
      have hr := hid (ownsRow_sortedI (os := os) (n := n) (sortL_length zs) hg Hh.out hn hcap Hs.out)
      have hgr := hid (grownBy_sortedI (w := w1) (g := g) (n := n) (os := os) (sortL zs).toArray)
      obtain ⟨W2, hW2⟩ : ∃ W2, grow (putRow (Value.int .i64) (Sort.ahead w1 n) g 0 (sortL zs).toArray) os = W2 := ⟨_, rfl⟩
      rw [hW2] at hr hgr
      rw [hW2]
      clear hW2
      go_wp2_with fail
      go_ret
      refine ⟨_, rfl, hr.out, by simp [hz], HB.out.grown hgr.out HB.out.size (fun k e => by cases e; exact hg)⟩
end Go.Proofs.YtckoaeoecjphiaaGreat

/- tick.Half: the floor of the middle, for all of int64. -/
namespace Go.Proofs.YtckoaeoecjphiaaGreat
open Go.RowKit Go.Lib

namespace Half
theorem nat_sum (n : Nat) : ∀ a b : Nat, a ≤ n → a + b = 2 * (a &&& b) + (a ^^^ b) := by
  induction n with
  | zero => intro a b h; obtain rfl : a = 0 := by omega
            simp
  | succ n ih =>
    intro a b h
    by_cases ha : a = 0
    · subst ha; simp
    have h1 := ih (a / 2) (b / 2) (by omega)
    have e1 : (a &&& b) / 2 = (a / 2) &&& (b / 2) := Nat.and_div_two
    have e2 : (a ^^^ b) / 2 = (a / 2) ^^^ (b / 2) := Nat.xor_div_two
    have m1 : (a &&& b) % 2 = (a % 2) &&& (b % 2) := Nat.and_mod_two_pow (n := 1)
    have m2 : (a ^^^ b) % 2 = (a % 2) ^^^ (b % 2) := Nat.xor_mod_two_pow (n := 1)
    rw [← e1, ← e2] at h1
    generalize a &&& b = p at *
    generalize a ^^^ b = q at *
    rcases Nat.mod_two_eq_zero_or_one a with ha2 | ha2 <;> rcases Nat.mod_two_eq_zero_or_one b with hb2 | hb2 <;> rw [ha2, hb2] at m1 m2 <;> simp at m1 m2 <;> omega

theorem toInt_sum (A B : BitVec 64) : A.toInt + B.toInt = 2 * (A &&& B).toInt + (A ^^^ B).toInt := by
  have h := nat_sum A.toNat A.toNat B.toNat (Nat.le_refl _)
  have e1 : (A &&& B).toNat = A.toNat &&& B.toNat := BitVec.toNat_and A B
  have e2 : (A ^^^ B).toNat = A.toNat ^^^ B.toNat := BitVec.toNat_xor A B
  have m1 : (A &&& B).msb = (A.msb && B.msb) := BitVec.msb_and
  have m2 : (A ^^^ B).msb = (A.msb ^^ B.msb) := BitVec.msb_xor
  rw [BitVec.toInt_eq_msb_cond, BitVec.toInt_eq_msb_cond, BitVec.toInt_eq_msb_cond, BitVec.toInt_eq_msb_cond, m1, m2, e1, e2]
  generalize A.toNat &&& B.toNat = x at *
  generalize A.toNat ^^^ B.toNat = y at *
  cases A.msb <;> cases B.msb <;> simp <;> omega

theorem wrap_toNat (A : BitVec 64) : IntKind.i64.wrap (A.toNat : Int) = A.toInt := by
  rw [IntKind.wrap_i64, BitVec.toInt_eq_toNat_cond]
  have := A.isLt
  split <;> omega

theorem ofInt_toInt (a : Int) (h0 : -9223372036854775808 ≤ a) (h1 : a ≤ 9223372036854775807) : (BitVec.ofInt 64 a).toInt = a := by
  rw [BitVec.toInt_ofInt]
  exact Int.bmod_eq_of_le_mul_two (by omega) (by omega)

theorem and_i64 (a b : Int) : bits .and .i64 a b = (BitVec.ofInt 64 a &&& BitVec.ofInt 64 b).toInt := wrap_toNat _
theorem xor_i64 (a b : Int) : bits .xor .i64 a b = (BitVec.ofInt 64 a ^^^ BitVec.ofInt 64 b).toInt := wrap_toNat _

theorem half_i64 (a b : Int) (a0 : -9223372036854775808 ≤ a) (a1 : a ≤ 9223372036854775807) (b0 : -9223372036854775808 ≤ b) (b1 : b ≤ 9223372036854775807) :
    wrap64 (bits .and .i64 a b + (bits .xor .i64 a b) / 2) = (a + b) / 2 := by
  rw [and_i64, xor_i64]
  have h := toInt_sum (BitVec.ofInt 64 a) (BitVec.ofInt 64 b)
  rw [ofInt_toInt a a0 a1, ofInt_toInt b b0 b1] at h
  unfold wrap64
  omega
end Half

theorem half_any (a b : Int) (w : World) (a0 : -9223372036854775808 ≤ a) (a1 : a ≤ 9223372036854775807) (b0 : -9223372036854775808 ≤ b) (b1 : b ≤ 9223372036854775807) :
    Calls Tryz.prog 75 #[.int .i64 a, .int .i64 b] w fun e w' => e = .returned (.int .i64 ((a + b) / 2)) ∧ w = w' := by
  have hh := hid (Half.half_i64 a b a0 a1 b0 b1)
  go_enter Tryz.func75, Tryz.ntmps75
  go_wp2
  go_ret
  refine ⟨?_, rfl⟩
  show Ending.returned (.int .i64 (wrap64 (bits .and .i64 a b + (bits .xor .i64 a b) / 2))) = _
  rw [hh.out]
end Go.Proofs.YtckoaeoecjphiaaGreat

/- mean.Tolerant, Middle: what they come to. -/
namespace Go.Proofs.YtckoaeoecjphiaaGreat
open Go.RowKit Go.Shelf Go.Sort Go.Lib

def nth (l : List Int) (j : Nat) : Int := l[j]?.getD 0
def In64 (l : List Int) : Prop := ∀ x ∈ l, -9223372036854775808 ≤ x ∧ x ≤ 9223372036854775807
theorem In64.nth {l : List Int} (h : In64 l) (j : Nat) : -9223372036854775808 ≤ nth l j ∧ nth l j ≤ 9223372036854775807 := by
  unfold Go.Proofs.YtckoaeoecjphiaaGreat.nth
  cases hj : l[j]? with
  | none => simp
  | some x => simpa using h x (List.mem_of_getElem? hj)
theorem In64.sort {l : List Int} (h : In64 l) : In64 (sortL l) := fun x hx => h x ((sortL_perm l).mem_iff.1 hx)

theorem take_nth (zs : List Int) (k : Nat) (h : k < zs.length) : zs.take (k + 1) = zs.take k ++ [nth zs k] := by
  rw [List.take_succ_eq_append_getElem h]; simp [nth, h]

theorem take_ne (zs : List Int) {k : Nat} (h1 : 1 ≤ k) (_ : k ≤ zs.length) (_ : 1 ≤ zs.length) : zs.take k ≠ [] := by
  intro h
  have := congrArg List.length h
  rw [List.length_take] at this
  simp only [List.length_nil] at this
  omega

theorem half_same (a b : Int) (w : World) (a0 : -9223372036854775808 ≤ a ∧ a ≤ 9223372036854775807) (b0 : -9223372036854775808 ≤ b ∧ b ≤ 9223372036854775807) :
    Calls Tryz.prog 75 #[.int .i64 a, .int .i64 b] w fun e w' => e = .returned (.int .i64 ((a + b) / 2)) ∧ w' = w :=
  (half_any a b w a0.1 a0.2 b0.1 b0.2).mono fun _ _ ⟨h1, h2⟩ => ⟨h1, h2.symm⟩

/-- The tolerant mean of numbers, where there are any. -/
def tolL (zs : List Int) : Int :=
  if zs.length = 1 then nth (sortL zs) 0 else if zs.length = 2 then (nth (sortL zs) 0 + nth (sortL zs) 1) / 2 else (nth (sortL zs) 1 + nth (sortL zs) (zs.length - 2)) / 2

theorem own_nth {w : World} {base e cap g : Nat} {v : List Int} {n : Nat} (h : w.ownsRow base e 1 (.slice (some ⟨g, 0, none⟩) n cap) n (v.map (Value.int .i64))) : ∀ j, j < n → w.cell? ⟨g, j, none⟩ = some (.int .i64 (nth v j)) := by
  intro j hj
  rw [h.cellAt j (by omega)]
  have hl := h.1
  have hv : j < v.length := by simp at hl; omega
  simp [nth, hv]

theorem Ints.slice {n₀ : Nat} {W : World} {a : Option Addr} {len cap : Nat} {zs : List Int} (h : Ints n₀ W (.slice a len cap) zs) : len = zs.length := by
  rcases h with ⟨a', cap', e, rfl⟩ | ⟨b, off, cap', e, _⟩
  · cases e; rfl
  · cases e; rfl

/-- The numbers that the call sorts. -/
theorem sorted_values (a : Option Addr) (len cap : Nat) (zs : List Int) (hreach : zs.length * 8 ≤ 140737488355328) (w : World) (hI : Ints w.heap.size w (.slice a len cap) zs) :
    Calls Tryz.prog 157 #[.func (.func 169) #[] #[.pointer (some ⟨w.heap.size, 0, none⟩)]] (w.alloc (.cells #[.slice a len cap] 35)) fun e w' =>
      ∃ v, e = .returned v ∧ (zs = [] ∧ v = .slice none 0 0 ∨ zs ≠ [] ∧ ∃ g cap, v = .slice (some ⟨g, 0, none⟩) zs.length cap ∧ ∀ j, j < zs.length → w'.cell? ⟨g, j, none⟩ = some (.int .i64 (nth (sortL zs) j))) ∧ w.grownBy w' none := by
  have hb : Below w.heap.size w (w.alloc (.cells #[.slice a len cap] 35)) := (Below.refl _ w).alloc (Nat.le_refl _) _
  refine (sorted_call w.heap.size (.slice a len cap) zs hreach _ (by simp) (by rw [World.cell?_alloc_new]; rfl) ((hI.below hb).mono (by simp))).mono ?_
  rintro e w' ⟨v, rfl, hown, hnil, hB⟩
  refine ⟨v, rfl, ?_, below_gr (hb.trans (hB.mono (by simp)))⟩
  by_cases hz : zs = []
  · exact .inl ⟨hz, hnil.2 hz⟩
  · right
    refine ⟨hz, ?_⟩
    rcases hown.2 with ⟨rfl, _⟩ | ⟨g, cap', cur, rfl, _⟩
    · exact absurd (hnil.1 rfl) hz
    · exact ⟨g, cap', rfl, own_nth hown⟩

set_option maxHeartbeats 1000000 in
theorem tolerant_any (a : Option Addr) (len cap : Nat) (zs : List Int) (hreach : zs.length * 8 ≤ 140737488355328) (h64 : In64 zs) (w : World) (hI : Ints w.heap.size w (.slice a len cap) zs) :
    Calls Tryz.prog 133 #[.slice a len cap] w fun e w' => e = .returned (.tuple (if zs = [] then #[.int .i64 0, .int .i64 5] else #[.int .i64 (tolL zs), .int .i64 0])) ∧ w.grownBy w' none := by
  have hS := hid (sorted_values a len cap zs hreach w hI)
  have h0 := h64.sort.nth 0; have h1 := h64.sort.nth 1; have h2 := h64.sort.nth (zs.length - 2)
  clear hI
  by_cases hz : zs = []
  · rw [if_pos hz]
    have Hz := hid hz; clear hz
    go_enter Tryz.func133, Tryz.ntmps133
    go_wp2_with fail
    refine (values_call a len cap _).mono ?_
    rintro e w' ⟨rfl, rfl⟩
    go_wp2_with fail
    refine hS.out.mono ?_
    rintro e w1 ⟨v, rfl, ⟨_, rfl⟩ | ⟨h, _⟩, hg⟩
    · go_wp2_with fail
      go_ret2
      exact ⟨rfl, hg⟩
    · exact absurd Hz.out h
  · rw [if_neg hz]
    have hlen : 1 ≤ zs.length := by cases zs with | nil => exact absurd rfl hz | cons x l => simp
    obtain ⟨n, hn⟩ : ∃ n, Hid (zs.length = n) := ⟨_, hid rfl⟩
    obtain ⟨r, hr⟩ : ∃ r, Hid (tolL zs = r) := ⟨_, hid rfl⟩
    have hR := hr.out
    unfold tolL at hR
    rw [hr.out]
    rw [hn.out] at hR hlen h2
    have hreach' : n * 8 ≤ 140737488355328 := by rw [← hn.out]; exact hreach
    have HR := hid hR; have Hz := hid hz; clear hR hz hreach h64
    by_cases hn1 : n = 1
    · subst hn1
      go_enter Tryz.func133, Tryz.ntmps133
      go_wp2_with fail
      refine (values_call a len cap _).mono ?_
      rintro e w' ⟨rfl, rfl⟩
      go_wp2_with fail
      refine hS.out.mono ?_
      rintro e w1 ⟨v, rfl, ⟨h, rfl⟩ | ⟨_, g, cap', rfl, hc⟩, hg⟩
      · exact absurd h Hz.out
      · rw [hn.out] at hc
        have c0 := hc 0 (by omega)
        clear hc
        rw [hn.out]
        go_wp2_with fail
        go_ret2
        rw [← HR.out]
        exact ⟨rfl, hg⟩
    by_cases hn2 : n = 2
    · subst hn2
      go_enter Tryz.func133, Tryz.ntmps133
      go_wp2_with fail
      refine (values_call a len cap _).mono ?_
      rintro e w' ⟨rfl, rfl⟩
      go_wp2_with fail
      refine hS.out.mono ?_
      rintro e w1 ⟨v, rfl, ⟨h, rfl⟩ | ⟨_, g, cap', rfl, hc⟩, hg⟩
      · exact absurd h Hz.out
      · rw [hn.out] at hc
        have c0 := hc 0 (by omega)
        have c1 := hc 1 (by omega)
        clear hc
        rw [hn.out]
        go_wp2_with fail
        go_quiet ((go_at_call 75; exact Calls.quiet_of_same (half_same _ _ _ h0 h1)))
        go_wp2_with fail
        go_ret2
        rw [← HR.out]
        exact ⟨rfl, gr_drewN hg _⟩
    · have e0 : ((n : Int) == 0) = false := by simp; omega
      have e1 : ((n : Int) == 1) = false := by simp; omega
      have e2 : ((n : Int) == 2) = false := by simp; omega
      have hn3 : 3 ≤ n := by omega
      rw [if_neg hn1, if_neg hn2] at HR
      clear hn1 hn2
      go_enter Tryz.func133, Tryz.ntmps133
      go_wp2_with fail
      refine (values_call a len cap _).mono ?_
      rintro e w' ⟨rfl, rfl⟩
      go_wp2_with fail
      refine hS.out.mono ?_
      rintro e w1 ⟨v, rfl, ⟨h, rfl⟩ | ⟨_, g, cap', rfl, hc⟩, hg⟩
      · exact absurd h Hz.out
      · rw [hn.out] at hc
        have c0 := hc 1 (by omega)
        have c1 := hc (n - 2) (by omega)
        clear hc
        rw [hn.out]
        go_wp2_with fail
        have w1' : IntKind.i64.wrap ((n : Int) - 2) = (n : Int) - 2 := by rw [IntKind.wrap_i64]; omega
        have w2' : 0 ≤ (n : Int) - 2 := by omega
        have w3' : ((n : Int) - 2).toNat = n - 2 := by omega
        have w4' : (n : Int) - 2 < (n : Int) := by omega
        have w5' : (1 : Int) < (n : Int) := by omega
        go_quiet ((go_at_call 75; exact Calls.quiet_of_same (half_same _ _ _ h1 h2)))
        clear w1' w2' w3' w4' w5'
        go_wp2_with fail
        go_ret2
        rw [← HR.out]
        exact ⟨rfl, gr_drewN hg _⟩

/-- The middle. -/
def midL (zs : List Int) : Int := (nth (sortL zs) ((zs.length - 1) / 2) + nth (sortL zs) (zs.length / 2)) / 2

end Go.Proofs.YtckoaeoecjphiaaGreat

/- conf: rows, schedule, Check: what is wrong with a configuration. -/
namespace Go.Proofs.YtckoaeoecjphiaaGreat
open Go.RowKit Go.Lib

/-- A slice of int64. -/
def NumsAt (n₀ : Nat) (w : World) (sv : Value) (zs : List Int) : Prop := SliceAt n₀ w sv 1 zs.length (fun j _ => .int .i64 (nth zs j))
theorem NumsAt.ints {n₀ : Nat} {w : World} {sv : Value} {zs : List Int} (h : NumsAt n₀ w sv zs) : Ints n₀ w sv zs := by
  rcases h with ⟨a, cap, rfl, h0⟩ | ⟨b, off, cap, rfl, _, hb, hf⟩
  · exact .inl ⟨a, cap, rfl, List.length_eq_zero_iff.1 h0⟩
  · refine .inr ⟨b, off, cap, rfl, hb, fun j hj => ?_⟩
    have := hf j hj 0 (by omega)
    rw [Nat.mul_one, Nat.add_zero] at this
    exact this
def nthR (l : List (List Int)) (j : Nat) : List Int := l[j]?.getD []
def nthE (l : List Ent) (j : Nat) : Ent := l[j]?.getD ⟨0, 0, 0, 0⟩
theorem nthR_mem {l : List (List Int)} {j : Nat} (h : j < l.length) : nthR l j ∈ l := by unfold nthR; rw [List.getElem?_eq_getElem h]; exact List.getElem_mem h
theorem nthE_mem {l : List Ent} {j : Nat} (h : j < l.length) : nthE l j ∈ l := by unfold nthE; rw [List.getElem?_eq_getElem h]; exact List.getElem_mem h
theorem any_nthE (l : List Ent) (p : Ent → Bool) : (List.range l.length).any (fun j => p (nthE l j)) = l.any p := by
  rw [Bool.eq_iff_iff, List.any_eq_true, List.any_eq_true]
  constructor
  · rintro ⟨j, hj, hp⟩
    exact ⟨_, nthE_mem (List.mem_range.1 hj), hp⟩
  · rintro ⟨x, hx, hp⟩
    obtain ⟨j, hj, rfl⟩ := List.getElem_of_mem hx
    exact ⟨j, List.mem_range.2 hj, by unfold nthE; rw [List.getElem?_eq_getElem hj]; exact hp⟩
theorem any_nthR (l : List (List Int)) (p : List Int → Bool) : (List.range l.length).any (fun j => p (nthR l j)) = l.any p := by
  rw [Bool.eq_iff_iff, List.any_eq_true, List.any_eq_true]
  constructor
  · rintro ⟨j, hj, hp⟩
    exact ⟨_, nthR_mem (List.mem_range.1 hj), hp⟩
  · rintro ⟨x, hx, hp⟩
    obtain ⟨j, hj, rfl⟩ := List.getElem_of_mem hx
    exact ⟨j, List.mem_range.2 hj, by unfold nthR; rw [List.getElem?_eq_getElem hj]; exact hp⟩
theorem any_nth (l : List Int) (p : Int → Bool) : (List.range l.length).any (fun j => p (nth l j)) = l.any p := by
  rw [Bool.eq_iff_iff, List.any_eq_true, List.any_eq_true]
  constructor
  · rintro ⟨j, hj, hp⟩
    have hj' := List.mem_range.1 hj
    refine ⟨nth l j, ?_, hp⟩
    unfold nth; rw [List.getElem?_eq_getElem hj']; exact List.getElem_mem hj'
  · rintro ⟨x, hx, hp⟩
    obtain ⟨j, hj, rfl⟩ := List.getElem_of_mem hx
    exact ⟨j, List.mem_range.2 hj, by unfold nth; rw [List.getElem?_eq_getElem hj]; exact hp⟩

/-- A configuration as data. -/
structure Net where
  cf : Cf
  rows : List (List Int)
  ents : List Ent
  lnks : List Ent
/-- Rows of numbers. -/
def RowsIn (n₀ : Nat) (w : World) (vd : Value) (rows : List (List Int)) : Prop := ∃ dv : Nat → Value, SliceAt n₀ w vd 1 rows.length (fun j _ => dv j) ∧ ∀ j, j < rows.length → NumsAt n₀ w (dv j) (nthR rows j)
/-- What lies behind a configuration's three slices. -/
structure NetAt (n₀ : Nat) (w : World) (d : Net) (vd ve vl : Value) : Prop where
  rows : RowsIn n₀ w vd d.rows
  ents : SliceAt n₀ w ve 4 d.ents.length (entF (nthE d.ents))
  lnks : SliceAt n₀ w vl 4 d.lnks.length (entF (nthE d.lnks))
  zr : d.rows.length ≤ 140737488351232
  zrr : ∀ r ∈ d.rows, r.length ≤ 140737488351232
  ze : d.ents.length ≤ 140737488351232
  zl : d.lnks.length ≤ 140737488351232
  te : ∀ e ∈ d.ents, e.to < 4294967296
  tl : ∀ e ∈ d.lnks, e.to < 4294967296
theorem RowsIn.grown {n₀ : Nat} {w w' : World} {vd : Value} {rows : List (List Int)} (h : RowsIn n₀ w vd rows) (g : w.grownBy w' none) : RowsIn n₀ w' vd rows := by
  obtain ⟨dv, h1, h2⟩ := h
  exact ⟨dv, h1.grown g, fun j hj => (h2 j hj).grown g⟩
theorem RowsIn.wider {n₀ n₁ : Nat} {w : World} {vd : Value} {rows : List (List Int)} (h : RowsIn n₀ w vd rows) (g : n₀ ≤ n₁) : RowsIn n₁ w vd rows := by
  obtain ⟨dv, h1, h2⟩ := h
  exact ⟨dv, h1.wider g, fun j hj => (h2 j hj).wider g⟩
theorem RowsIn.below {n₀ : Nat} {w w' : World} {vd : Value} {rows : List (List Int)} (h : RowsIn n₀ w vd rows) (g : Below n₀ w w') : RowsIn n₀ w' vd rows := by
  obtain ⟨dv, h1, h2⟩ := h
  exact ⟨dv, h1.below g, fun j hj => (h2 j hj).below g⟩
theorem NetAt.grown {n₀ : Nat} {w w' : World} {d : Net} {vd ve vl : Value} (h : NetAt n₀ w d vd ve vl) (g : w.grownBy w' none) : NetAt n₀ w' d vd ve vl :=
  ⟨h.rows.grown g, h.ents.grown g, h.lnks.grown g, h.zr, h.zrr, h.ze, h.zl, h.te, h.tl⟩
theorem NetAt.wider {n₀ n₁ : Nat} {w : World} {d : Net} {vd ve vl : Value} (h : NetAt n₀ w d vd ve vl) (g : n₀ ≤ n₁) : NetAt n₁ w d vd ve vl :=
  ⟨h.rows.wider g, h.ents.wider g, h.lnks.wider g, h.zr, h.zrr, h.ze, h.zl, h.te, h.tl⟩
theorem NetAt.below {n₀ : Nat} {w w' : World} {d : Net} {vd ve vl : Value} (h : NetAt n₀ w d vd ve vl) (g : Below n₀ w w') : NetAt n₀ w' d vd ve vl :=
  ⟨h.rows.below g, h.ents.below g, h.lnks.below g, h.zr, h.zrr, h.ze, h.zl, h.te, h.tl⟩
/-- In a later world, with all that is there. -/
theorem NetAt.later {w w' : World} {d : Net} {vd ve vl : Value} (h : NetAt w.heap.size w d vd ve vl) (g : w.grownBy w' none) : NetAt w'.heap.size w' d vd ve vl := (h.grown g).wider g.size

def badN (de : Int) (n : Int) : Bool := !inZ n 0 de
def badR (de : Int) (l : List Int) : Bool := !decide (l.length = 2) || l.any (badN de)

theorem badn_any (bx : Nat) (c : Cf) (vd ve vl : Value) (n : Int) (w : World) (hc : CfAt w bx c vd ve vl) :
    Calls Tryz.prog 111 #[.int .i64 n, .pointer (some ⟨bx, 0, none⟩)] w fun e w' => e = .returned (.bool (badN c.de n)) ∧ w.grownBy w' none := by
  have k2 := hcell hc 2 _ rfl
  clear hc
  unfold badN
  obtain ⟨ho, cy, de, wi, pr, qu⟩ := c
  dsimp only at *
  go_enter Tryz.func111, Tryz.ntmps111
  go_wp2_with fail
  refine (in_any _ _ _ _).mono ?_
  rintro e w1 ⟨rfl, rfl⟩
  go_wp2_with fail
  go_ret
  exact ⟨rfl, gr_refl w none⟩

theorem badr_any (bx : Nat) (c : Cf) (vd ve vl : Value) (sv : Value) (l : List Int) (w : World) (hl : NumsAt w.heap.size w sv l) (hz : l.length ≤ 140737488351232) (hc : CfAt w bx c vd ve vl) :
    Calls Tryz.prog 109 #[sv, .pointer (some ⟨bx, 0, none⟩)] w fun e w' => e = .returned (.bool (badR c.de l)) ∧ w.grownBy w' none := by
  unfold badR
  obtain ⟨v, hv⟩ : ∃ v, Hid (l.any (badN c.de) = v) := ⟨_, hid rfl⟩
  have hcf := fun w' : World => fun (g : w.grownBy w' none) => contains_num 111 #[.pointer (some ⟨bx, 0, none⟩)] sv l.length (fun j _ => .int .i64 (nth l j)) (fun j => badN c.de (nth l j)) v w' ((SliceAt.grown hl g).wider g.size) hz (hid (by rw [any_nth]; exact hv.out)) Tryz.call111 (fun j hj w2 g2 => badn_any bx c vd ve vl (nth l j) w2 (hc.kept (gr_trans g g2)))
  have Hcf := hid hcf
  obtain ⟨a, cap, rfl⟩ : ∃ a cap, sv = .slice a l.length cap := by
    rcases hl with ⟨a, cap, rfl, h0⟩ | ⟨b, off, cap, rfl, _⟩
    · exact ⟨a, cap, by rw [h0]⟩
    · exact ⟨_, cap, rfl⟩
  rw [hv.out]
  clear hcf hl hc hv
  generalize l.length = n at *
  by_cases h2 : n = 2
  · subst h2
    go_enter Tryz.func109, Tryz.ntmps109
    go_wp2_with fail
    refine (Hcf.out _ (gr_refl w none)).mono ?_
    rintro e w1 ⟨rfl, g1⟩
    go_wp2_with fail
    go_ret
    exact ⟨rfl, g1⟩
  · have hn : ((n : Int) != 2) = true := by simp; omega
    rw [decide_eq_false h2]
    clear h2
    go_enter Tryz.func109, Tryz.ntmps109
    go_wp2_with fail
    go_ret
    exact ⟨rfl, gr_refl w none⟩

def rowsZ (d : Net) : Bool := decide ((d.rows.length : Int) = d.cf.ho) && !d.rows.any (badR d.cf.de)
theorem rows_any (d : Net) (vd ve vl : Value) (w : World) (hN : NetAt w.heap.size w d vd ve vl) :
    Calls Tryz.prog 67 #[cfV d.cf vd ve vl] w fun e w' => e = .returned (.bool (rowsZ d)) ∧ w.grownBy w' none := by
  obtain ⟨c, rows, ents, lnks⟩ := d
  unfold rowsZ
  obtain ⟨v, hv⟩ : ∃ v, Hid (rows.any (badR c.de) = v) := ⟨_, hid rfl⟩
  have g0 := gr_alloc (gr_refl w none) (.cells #[.int .i64 c.ho, .int .i64 c.cy, .int .i64 c.de, .int .i64 c.wi, .int .i64 c.pr, vd, ve, vl, .int .i64 c.qu] 26)
  have hC : CfAt (w.alloc (.cells #[.int .i64 c.ho, .int .i64 c.cy, .int .i64 c.de, .int .i64 c.wi, .int .i64 c.pr, vd, ve, vl, .int .i64 c.qu] 26)) w.heap.size c vd ve vl := heap_alloc_new w _
  obtain ⟨dv, hr, hrr⟩ := hN.rows
  have hcf := contains_row 109 #[.pointer (some ⟨w.heap.size, 0, none⟩)] vd rows.length (fun j _ => dv j) (fun j => badR c.de (nthR rows j)) v _ ((hr.grown g0).wider g0.size) hN.zr (hid (by rw [any_nthR]; exact hv.out)) Tryz.call109
    (fun j hj w2 g2 => badr_any w.heap.size c vd ve vl (dv j) (nthR rows j) w2 ((SliceAt.grown (hrr j hj) (gr_trans g0 g2)).wider (gr_trans g0 g2).size) (hN.zrr _ (nthR_mem hj)) (hC.kept g2))
  have Hcf := hid hcf
  obtain ⟨a, cap, rfl⟩ : ∃ a cap, vd = .slice a rows.length cap := by
    rcases hr with ⟨a, cap, rfl, h0⟩ | ⟨b, off, cap, rfl, _⟩
    · exact ⟨a, cap, by rw [show rows.length = 0 from h0]⟩
    · exact ⟨_, cap, rfl⟩
  have G0 := hid g0
  rw [hv.out]
  dsimp only at *
  clear hcf hr hrr hC hv hN g0
  generalize rows.length = n at *
  obtain ⟨ho, cy, de, wi, pr, qu⟩ := c
  dsimp only at *
  by_cases h2 : (n : Int) = ho
  · subst h2
    go_enter Tryz.func67, Tryz.ntmps67
    go_wp2_with fail
    refine Hcf.out.mono ?_
    rintro e w1 ⟨rfl, g1⟩
    go_wp2_with fail
    go_ret
    exact ⟨by simp, gr_trans G0.out g1⟩
  · have hn : ((n : Int) != ho) = true := by simpa using h2
    rw [decide_eq_false h2]
    clear h2
    go_enter Tryz.func67, Tryz.ntmps67
    go_wp2_with fail
    go_ret
    exact ⟨rfl, G0.out⟩
end Go.Proofs.YtckoaeoecjphiaaGreat
