/- Lemmas: Worlds: what a call leaves of what was there. No program is named here. A call's boxed arguments: new blocks. No program is named here. conf: in, spans, route, plain, quiet, Forward, Late; crew.Has; frame.Time. A region that draws its order and whose callees only grow the world. No program is named  -/
import Derived.WalkKit
import Derived.WalkSpells
import Derived.WalkSmall
import Derived.Lib.Hide
import Derived.Test.YtckoaeoecjphiaaGreatRows
import Derived.WalkLawsBesides
import Derived.Shelf.Spec.TrailingZeros
import Derived.Deep.QuietTactic
import Derived.BigQuiet
import Derived.IntWalk

/- Worlds: what a call leaves of what was there. No program is named here. -/
namespace Go.Proofs.YtckoaeoecjphiaaGreat
open Go.RowKit Go.Lib

theorem gr_refl (w : World) (row : Option Nat) : w.grownBy w row := ⟨rfl, rfl, rfl, Nat.le_refl _, fun _ _ _ => rfl⟩
theorem gr_trans {a b c : World} {row : Option Nat} (h : a.grownBy b row) (k : b.grownBy c row) : a.grownBy c row :=
  ⟨k.os.trans h.os, k.tape.trans h.tape, k.output.trans h.output, Nat.le_trans h.size k.size, fun i hi hr => (k.block i (Nat.lt_of_lt_of_le hi h.size) hr).trans (h.block i hi hr)⟩
theorem gr_none {a b : World} {row : Option Nat} (h : a.grownBy b none) : a.grownBy b row := ⟨h.os, h.tape, h.output, h.size, fun k hk _ => h.block k hk (by simp)⟩
theorem gr_alloc {a b : World} {row : Option Nat} (h : a.grownBy b row) (o : Obj) : a.grownBy (b.alloc o) row := gr_trans h (World.grownBy_alloc b o row)
theorem gr_drew {a b : World} {row : Option Nat} (h : a.grownBy b row) : a.grownBy b.drew row := ⟨h.os, h.tape, h.output, h.size, h.block⟩
theorem gr_drewN {a b : World} {row : Option Nat} (h : a.grownBy b row) (n : Nat) : a.grownBy (b.drewN n) row := by
  exact ⟨h.os, h.tape, h.output, h.size, h.block⟩
/-- A store into a block that is new since a, or into the row itself. -/
theorem gr_set {a b : World} {row : Option Nat} (h : a.grownBy b row) {p : Addr} (hp : a.heap.size ≤ p.block ∨ some p.block = row) (u : Value) : a.grownBy (b.setCell p u) row :=
  ⟨h.os, h.tape, h.output, by simp [World.setCell]; exact h.size, fun k hk hr => by
    rw [Below.heap_setCell _ _ _ _ (by rintro rfl; rcases hp with hp | hp; · omega
                                       · exact hr hp)]
    exact h.block k hk hr⟩
theorem gr_setRow {a b : World} {k : Nat} (h : a.grownBy b (some k)) (i : Nat) (u : Value) : a.grownBy (b.setCell ⟨k, i, none⟩ u) (some k) := gr_set h (p := ⟨k, i, none⟩) (.inr rfl) u
theorem gr_setNew {a b : World} {row : Option Nat} (h : a.grownBy b row) {k : Nat} (hk : a.heap.size ≤ k) (i : Nat) (u : Value) : a.grownBy (b.setCell ⟨k, i, none⟩ u) row := gr_set h (p := ⟨k, i, none⟩) (.inl hk) u
/-- What is written to a block that is new since a is no change to a. -/
theorem gr_own {a b c : World} {k : Nat} (h : a.grownBy b none) (g : b.grownBy c (some k)) (hk : a.heap.size ≤ k) : a.grownBy c none :=
  ⟨g.os.trans h.os, g.tape.trans h.tape, g.output.trans h.output, Nat.le_trans h.size g.size, fun i hi _ => (g.block i (Nat.lt_of_lt_of_le hi h.size) (by intro e; simp at e; omega)).trans (h.block i hi (by simp))⟩
theorem gr_below {a b : World} {row : Option Nat} {B : Nat} (h : a.grownBy b row) (hB : B ≤ a.heap.size) (hr : ∀ k, row = some k → B ≤ k) : Below B a b :=
  ⟨h.os, h.tape, h.output, h.size, fun k hk => h.block k (by omega) (fun e => by have := hr k e.symm; omega)⟩
theorem below_gr {a b : World} {row : Option Nat} (h : Below a.heap.size a b) : a.grownBy b row := ⟨h.os, h.tape, h.output, h.size, fun k hk _ => h.block k hk⟩
theorem gr_cell {a b : World} (h : a.grownBy b none) {p : Addr} {v : Value} (hc : a.cell? p = some v) : b.cell? p = some v := h.cell hc (by simp)
theorem gr_heap {a b : World} {row : Option Nat} (h : a.grownBy b row) {k : Nat} {o : Obj} (hc : a.heap[k]? = some o) (hr : some k ≠ row) : b.heap[k]? = some o :=
  (h.block k (lt_of_block hc) hr).trans hc

end Go.Proofs.YtckoaeoecjphiaaGreat

/- A call's boxed arguments: new blocks. No program is named here. -/
namespace Go.Proofs.YtckoaeoecjphiaaGreat
open Go.RowKit Go.Lib

theorem bx_gr {w w1 : World} {o : Obj} (h : (w.alloc o).grownBy w1 none) : w.grownBy w1 none := gr_trans (gr_alloc (gr_refl w none) o) h
theorem bx_gr2 {w w1 : World} {o o' : Obj} (h : ((w.alloc o).alloc o').grownBy w1 none) : w.grownBy w1 none := bx_gr (bx_gr h)
theorem bx_cell {w w1 : World} {c : Array Value} {t : TypeId} (h : (w.alloc (.cells c t)).grownBy w1 none) (i : Nat) (v : Value) (hv : c[i]? = some v) : w1.cell? ⟨w.heap.size, i, none⟩ = some v :=
  gr_cell h (by rw [World.cell?_alloc_new]; exact hv)
end Go.Proofs.YtckoaeoecjphiaaGreat

/- conf: in, spans, route, plain, quiet, Forward, Late; crew.Has; frame.Time. -/
namespace Go.Proofs.YtckoaeoecjphiaaGreat
open Go.RowKit Go.Lib

/-- The second of two boxes. -/
theorem cell_box2 {w w1 : World} {o : Obj} {c : Array Value} {t : TypeId} (h : ((w.alloc o).alloc (.cells c t)).grownBy w1 none) (i : Nat) (v : Value) (hv : c[i]? = some v) : w1.cell? ⟨w.heap.size + 1, i, none⟩ = some v := by
  have h1 := bx_cell h i v hv
  simpa using h1
/-- The first of two. -/
theorem cell_box1 {w w1 : World} {o : Obj} {c : Array Value} {t : TypeId} (h : ((w.alloc (.cells c t)).alloc o).grownBy w1 none) (i : Nat) (v : Value) (hv : c[i]? = some v) : w1.cell? ⟨w.heap.size, i, none⟩ = some v :=
  bx_cell (bx_gr h) i v hv
/-- The plain numbers of a configuration. -/
structure Cf where
  ho : Int
  cy : Int
  de : Int
  wi : Int
  pr : Int
  qu : Int
abbrev cfV (c : Cf) (vd ve vl : Value) : Value := .agg #[.int .i64 c.ho, .int .i64 c.cy, .int .i64 c.de, .int .i64 c.wi, .int .i64 c.pr, vd, ve, vl, .int .i64 c.qu]
/-- A configuration in its block. -/
def CfAt (w : World) (b : Nat) (c : Cf) (vd ve vl : Value) : Prop :=
  w.heap[b]? = some (.cells #[.int .i64 c.ho, .int .i64 c.cy, .int .i64 c.de, .int .i64 c.wi, .int .i64 c.pr, vd, ve, vl, .int .i64 c.qu] 26)

structure Ent where
  fr : Int
  to : Nat
  ph : Int
  sz : Int
abbrev Ent.v (e : Ent) : Value := .agg #[.int .i64 e.fr, .int .u32 (e.to : Int), .int .i64 e.ph, .int .i64 e.sz]

def inZ (n lo hi : Int) : Bool := decide (lo ≤ n ∧ n ≤ hi)
theorem inZ_iff {n lo hi : Int} : inZ n lo hi = true ↔ lo ≤ n ∧ n ≤ hi := by simp [inZ]
theorem inZ_no {n lo hi : Int} : inZ n lo hi = false ↔ n < lo ∨ hi < n := by unfold inZ; rw [decide_eq_false_iff_not]; omega

theorem in_any (n lo hi : Int) (w : World) :
    Calls Tryz.prog 65 #[.int .i64 n, .int .i64 lo, .int .i64 hi] w fun e w' => e = .returned (.bool (inZ n lo hi)) ∧ w = w' := by
  by_cases h1 : lo ≤ n
  · by_cases h2 : n ≤ hi
    · rw [show inZ n lo hi = true from decide_eq_true ⟨h1, h2⟩]
      go_enter Tryz.func65, Tryz.ntmps65
      go_wp2_with fail
      go_ret
      exact ⟨rfl, rfl⟩
    · rw [show inZ n lo hi = false from decide_eq_false (by omega)]
      have h3 : hi < n := by omega
      have h4 : decide (n ≤ hi) = false := decide_eq_false h2
      clear h2
      go_enter Tryz.func65, Tryz.ntmps65
      go_wp2_with fail
      go_ret
      exact ⟨rfl, rfl⟩
  · rw [show inZ n lo hi = false from decide_eq_false (by omega)]
    have h3 : n < lo := by omega
    clear h1
    go_enter Tryz.func65, Tryz.ntmps65
    go_wp2_with fail
    go_ret
    exact ⟨rfl, rfl⟩

def hasN (c h : Nat) : Bool := decide (c / 2 ^ h % 2 = 1)
theorem and_one32 (c : Nat) (hc : c < 4294967296) : bits .and .u32 (c : Int) 1 = ((c % 2 : Nat) : Int) := by
  have h := bits_and_u32_nat c 1 hc (by omega)
  rw [show c &&& 1 = c % 2 from Nat.and_two_pow_sub_one_eq_mod c 1] at h
  exact h
theorem hasN_at (c h : Nat) (hc : Hid (c < 4294967296)) (hh : h < 6) (w : World) :
    Calls Tryz.prog 34 #[.int .u32 (c : Int), .int .i64 (h : Int)] w fun e w' => e = .returned (.bool (hasN c h)) ∧ w = w' := by
  have h1 : (h : Int) < 6 := by omega
  have hb : bits .and .u32 ((c : Int) / 2 ^ h) 1 = ((c / 2 ^ h % 2 : Nat) : Int) := by
    have := and_one32 (c / 2 ^ h) (Nat.lt_of_le_of_lt (Nat.div_le_self _ _) hc.out)
    rw [← this]
    congr 1
  have hr : (bits .and .u32 ((c : Int) / 2 ^ h) 1 == 1) = hasN c h := by
    rw [hb]
    unfold hasN
    generalize c / 2 ^ h % 2 = m
    rw [Bool.eq_iff_iff]
    simp
    omega
  have Hr := hid hr
  clear hr hb
  go_enter Tryz.func34, Tryz.ntmps34
  go_wp2_with fail
  go_ret
  refine ⟨?_, rfl⟩
  rw [← Hr.out]
  rfl
theorem hasZ_at (c : Nat) (h : Int) (hc : Hid (c < 4294967296)) (h0 : 0 ≤ h) (hh : h < 6) (w : World) :
    Calls Tryz.prog 34 #[.int .u32 (c : Int), .int .i64 h] w fun e w' => e = .returned (.bool (hasN c h.toNat)) ∧ w = w' := by
  obtain ⟨n, rfl⟩ := Int.eq_ofNat_of_zero_le h0
  exact hasN_at c n hc (by omega) w

/-- A frame's time. -/
def timeZ (s : Int) : Int := 8 * min (max s 64) 1518
theorem timeZ_bd (s : Int) : 512 ≤ timeZ s ∧ timeZ s ≤ 12144 := by unfold timeZ; omega
theorem time_any (s : Int) (w : World) :
    Calls Tryz.prog 144 #[.int .i64 s] w fun e w' => e = .returned (.int .i64 (timeZ s)) ∧ w = w' := by
  have h : (s < 64 ∧ timeZ s = 512) ∨ (64 ≤ s ∧ s ≤ 1518 ∧ timeZ s = 8 * s) ∨ (1518 < s ∧ timeZ s = 12144) := by unfold timeZ; omega
  rcases h with ⟨h1, e⟩ | ⟨h1, h2, e⟩ | ⟨h1, e⟩
  all_goals
    rw [e]
    clear e
    go_enter Tryz.func144, Tryz.ntmps144
    go_wp2_with fail
  all_goals first
    | (go_ret; exact ⟨rfl, rfl⟩)
    | (exfalso; simp_all; done)
    | (exfalso; simp_all; omega)

def routeZ (ho fr : Int) (to : Nat) (sz : Int) : Bool := inZ fr 0 (ho - 1) && (!decide (to = 0) && (decide (to / 2 ^ ho.toNat = 0) && (!hasN to fr.toNat && inZ sz 64 1518)))

theorem route_any (ho fr : Int) (to : Nat) (sz : Int) (w : World) (h0 : 1 ≤ ho) (h1 : ho ≤ 6) (hto : Hid (to < 4294967296)) :
    Calls Tryz.prog 71 #[.int .i64 ho, .int .i64 fr, .int .u32 (to : Int), .int .i64 sz] w fun e w' => e = .returned (.bool (routeZ ho fr to sz)) ∧ w = w' := by
  have hbit : fr.toNat < 6 → True := fun _ => trivial
  clear hbit
  obtain ⟨b, hb⟩ : ∃ b, Hid (inZ fr 0 (ho - 1) = b) := ⟨_, hid rfl⟩
  have hin : ∀ w' : World, Calls Tryz.prog 65 #[.int .i64 fr, .int .i64 0, .int .i64 (ho - 1)] w' fun e w2 => e = .returned (.bool b) ∧ w' = w2 := by rw [← hb.out]; exact fun w' => in_any _ _ _ w'
  have Hin := hid hin; clear hin
  cases b
  · go_enter Tryz.func71, Tryz.ntmps71
    go_wp2_with fail
    refine (Hin.out _).mono ?_
    rintro e w' ⟨rfl, rfl⟩
    go_wp2_with fail
    go_ret
    exact ⟨by unfold routeZ; rw [hb.out]; rfl, rfl⟩
  · have hfr := inZ_iff.1 hb.out
    obtain ⟨f0, f1⟩ := hfr
    have hh := hasZ_at to fr hto f0 (by omega)
    obtain ⟨d, hd⟩ : ∃ d, Hid (hasN to fr.toNat = d) := ⟨_, hid rfl⟩
    rw [hd.out] at hh
    have Hh := hid hh; clear hh
    obtain ⟨b', hb'⟩ : ∃ b, Hid (inZ sz 64 1518 = b) := ⟨_, hid rfl⟩
    have hin' : ∀ w' : World, Calls Tryz.prog 65 #[.int .i64 sz, .int .i64 64, .int .i64 1518] w' fun e w2 => e = .returned (.bool b') ∧ w' = w2 := by rw [← hb'.out]; exact fun w' => in_any _ _ _ w'
    have Hin' := hid hin'; clear hin'
    go_enter Tryz.func71, Tryz.ntmps71
    go_wp2_with fail
    refine (Hin.out _).mono ?_
    rintro e w' ⟨rfl, rfl⟩
    go_wp2_with (first | (go_at_call 34; refine (Hh.out _).mono ?_; rintro e w' ⟨rfl, rfl⟩) | (go_at_call 65; refine (Hin'.out _).mono ?_; rintro e w' ⟨rfl, rfl⟩))
    all_goals
      go_ret
      refine ⟨?_, rfl⟩
      have hq : ((to : Int) / 2 ^ ho.toNat = 0) = (to / 2 ^ ho.toNat = 0) := by
        have h2 : ((to / 2 ^ ho.toNat : Nat) : Int) = (to : Int) / 2 ^ ho.toNat := by rw [Int.natCast_ediv, Int.natCast_pow]; rfl
        rw [← h2]
        simp only [eq_iff_iff]
        omega
      simp only [hq] at *
      simp [routeZ, hb.out, hd.out, hb'.out, *]
theorem route_same (ho fr : Int) (to : Nat) (sz : Int) (w : World) (h0 : 1 ≤ ho) (h1 : ho ≤ 6) (hto : Hid (to < 4294967296)) :
    Calls Tryz.prog 71 #[.int .i64 ho, .int .i64 fr, .int .u32 (to : Int), .int .i64 sz] w fun e w' => e = .returned (.bool (routeZ ho fr to sz)) ∧ w' = w :=
  (route_any ho fr to sz w h0 h1 hto).mono fun _ _ h => ⟨h.1, h.2.symm⟩

def spansZ (c : Cf) : Bool := inZ c.cy 1 1073741824 && (inZ c.de 0 1048576 && (inZ c.wi 0 1048576 && inZ c.pr 0 1048576))
theorem spansZ_bd {c : Cf} (h : spansZ c = true) : (1 ≤ c.cy ∧ c.cy ≤ 1073741824) ∧ (0 ≤ c.de ∧ c.de ≤ 1048576) ∧ (0 ≤ c.wi ∧ c.wi ≤ 1048576) ∧ (0 ≤ c.pr ∧ c.pr ≤ 1048576) := by
  unfold spansZ at h
  simp only [Bool.and_eq_true] at h
  exact ⟨inZ_iff.1 h.1, inZ_iff.1 h.2.1, inZ_iff.1 h.2.2.1, inZ_iff.1 h.2.2.2⟩

theorem spans_any (c : Cf) (vd ve vl : Value) (w : World) :
    Calls Tryz.prog 66 #[cfV c vd ve vl] w fun e w' => e = .returned (.bool (spansZ c)) ∧ w.grownBy w' none := by
  unfold spansZ
  obtain ⟨ho, cy, de, wi, pr, qu⟩ := c
  dsimp only
  go_enter Tryz.func66, Tryz.ntmps66
  go_wp2_with (go_at_call 65; refine (in_any _ _ _ _).mono ?_; rintro e w' ⟨rfl, rfl⟩)
  all_goals
    go_ret
    exact ⟨by simp [*], gr_alloc (gr_refl w none) _⟩

def plainZ (c : Cf) (e : Ent) : Bool := spansZ c && (routeZ 6 e.fr e.to e.sz && inZ e.ph (-1125899906842624) 1125899906842624)
theorem plain_any (c : Cf) (vd ve vl : Value) (x : Ent) (hx : Hid (x.to < 4294967296)) (w : World) :
    Calls Tryz.prog 143 #[cfV c vd ve vl, x.v] w fun e w' => e = .returned (.bool (plainZ c x)) ∧ w.grownBy w' none := by
  unfold plainZ
  obtain ⟨fr, to, ph, sz⟩ := x
  obtain ⟨b, hb⟩ : ∃ b, Hid (spansZ c = b) := ⟨_, hid rfl⟩
  rw [hb.out]
  have hs : ∀ w' : World, Calls Tryz.prog 66 #[cfV c vd ve vl] w' fun e w2 => e = .returned (.bool b) ∧ w'.grownBy w2 none := by rw [← hb.out]; exact fun w' => spans_any c vd ve vl w'
  have Hs := hid hs; clear hs hb
  obtain ⟨ho, cy, de, wi, pr, qu⟩ := c
  dsimp only at hx ⊢
  cases b
  · go_enter Tryz.func143, Tryz.ntmps143
    go_wp2_with fail
    refine (Hs.out _).mono ?_
    rintro e w1 ⟨rfl, g1⟩
    go_wp2_with fail
    go_ret
    exact ⟨rfl, bx_gr2 g1⟩
  · go_enter Tryz.func143, Tryz.ntmps143
    go_wp2_with fail
    refine (Hs.out _).mono ?_
    rintro e w1 ⟨rfl, g1⟩
    have c0 := cell_box2 g1 0 _ rfl
    have c1 := cell_box2 g1 1 _ rfl
    have c2 := cell_box2 g1 2 _ rfl
    have c3 := cell_box2 g1 3 _ rfl
    go_wp2_with (first | (go_at_call 65; refine (in_any _ _ _ _).mono ?_; rintro e w' ⟨rfl, rfl⟩) | (go_at_call 71; refine (route_any 6 fr to sz _ (by omega) (by omega) hx).mono ?_; rintro e w' ⟨rfl, rfl⟩))
    all_goals
      go_ret
      exact ⟨by simp [*], bx_gr2 g1⟩
end Go.Proofs.YtckoaeoecjphiaaGreat

/- A region that draws its order and whose callees only grow the world. No program is named here. -/
namespace Go.Proofs.YtckoaeoecjphiaaGreat
open Go.RowKit Go.Lib

/-- A world that has only grown since w. -/
structure Grn (w : World) where
  W : World
  gr : w.grownBy W none
instance {w : World} : Nonempty (Grn w) := ⟨⟨w, gr_refl w none⟩⟩
/-- A region that draws its order, whose operations only read and whose callees only grow the world: one walk, in the text's order. -/
theorem wp_region_grown {P : Program} {id : Nat} {Q : Exit → Act → World → Prop} {a : Act} {w : World} {l : List Oper} (hm : P.follows .mixedOrders = true) (hB : Region.lexB .any l.toArray = true)
    (h : wpQuiet P l.toArray (fun w' => ∃ X : Grn w, w' = X.W) (fun a' => ∀ w', (∃ X : Grn w, w' = X.W) → Q .normal a' w') l a) : (Code.region id l.toArray true).wp P Q a w :=
  wp_region_quiet (C := fun w' => ∃ X : Grn w, w' = X.W) hm hB ⟨⟨_, gr_drew (gr_refl w none)⟩, rfl⟩ (by
    have e : l.toArray.toList = l := by simp
    rw [e]
    exact h)
theorem grn_cell {w : World} {p : Addr} {v : Value} (h : w.cell? p = some v) : ∀ X : Grn w, X.W.cell? p = some v := fun X => gr_cell X.gr h
theorem hcell {w : World} {b : Nat} {cells : Array Value} {t : TypeId} (h : w.heap[b]? = some (.cells cells t)) (i : Nat) (v : Value) (hv : cells[i]? = some v) : w.cell? ⟨b, i, none⟩ = some v := by simp [World.cell?, h, hv]
theorem hfroz {w : World} {b : Nat} {cells : Array Value} {t : TypeId} (h : w.heap[b]? = some (.cells cells t)) (i : Nat) : w.frozen? ⟨b, i, none⟩ = false := by simp [World.frozen?, h]
theorem box_heap {w w1 : World} {o : Obj} (h : (w.alloc o).grownBy w1 none) : w1.heap[w.heap.size]? = some o := gr_heap h (heap_alloc_new w o) (by simp)
theorem box_heap1 {w w1 : World} {o o' : Obj} (h : ((w.alloc o).alloc o').grownBy w1 none) : w1.heap[w.heap.size]? = some o := box_heap (bx_gr h)
theorem box_heap2 {w w1 : World} {o o' : Obj} (h : ((w.alloc o).alloc o').grownBy w1 none) : w1.heap[w.heap.size + 1]? = some o' := by
  have h1 := box_heap h
  simpa using h1
end Go.Proofs.YtckoaeoecjphiaaGreat

/- conf: quiet, Forward, Late. -/
namespace Go.Proofs.YtckoaeoecjphiaaGreat
open Go.RowKit Go.Lib

def quietZ (c : Cf) : Int := 2 * c.de + c.wi + 4 * c.pr
theorem quiet_any (c : Cf) (vd ve vl : Value) (w : World) (h : spansZ c = true) :
    Calls Tryz.prog 118 #[cfV c vd ve vl] w fun e w' => e = .returned (.int .i64 (quietZ c)) ∧ w.grownBy w' none := by
  obtain ⟨⟨c0, c1⟩, ⟨d0, d1⟩, ⟨e0, e1⟩, ⟨f0, f1⟩⟩ := spansZ_bd h
  clear h
  unfold quietZ
  obtain ⟨ho, cy, de, wi, pr, qu⟩ := c
  dsimp only at *
  go_enter Tryz.func118, Tryz.ntmps118
  go_wp2_with fail
  go_ret
  exact ⟨rfl, gr_alloc (gr_refl w none) _⟩

def forwardZ (c : Cf) (e : Ent) : Int := if plainZ c e = true then e.ph + timeZ e.sz + c.de + 2 * c.pr else 0
def lateZ (c : Cf) (e : Ent) : Int := if plainZ c e = true then forwardZ c e + timeZ e.sz + c.de + c.pr else 0
theorem plainZ_bd {c : Cf} {e : Ent} (h : plainZ c e = true) : spansZ c = true ∧ routeZ 6 e.fr e.to e.sz = true ∧ -1125899906842624 ≤ e.ph ∧ e.ph ≤ 1125899906842624 := by
  unfold plainZ at h
  simp only [Bool.and_eq_true] at h
  have := inZ_iff.1 h.2.2
  exact ⟨h.1, h.2.1, this.1, this.2⟩

theorem time_same (s : Int) (w : World) : Calls Tryz.prog 144 #[.int .i64 s] w fun e w' => e = .returned (.int .i64 (timeZ s)) ∧ w' = w :=
  (time_any s w).mono fun _ _ h => ⟨h.1, h.2.symm⟩

set_option maxHeartbeats 400000 in
theorem forward_any (c : Cf) (vd ve vl : Value) (x : Ent) (hx : Hid (x.to < 4294967296)) (w : World) :
    Calls Tryz.prog 114 #[cfV c vd ve vl, x.v] w fun e w' => e = .returned (.int .i64 (forwardZ c x)) ∧ w.grownBy w' none := by
  obtain ⟨b, hb⟩ : ∃ b, Hid (plainZ c x = b) := ⟨_, hid rfl⟩
  have hs : ∀ w' : World, Calls Tryz.prog 143 #[cfV c vd ve vl, x.v] w' fun e w2 => e = .returned (.bool b) ∧ w'.grownBy w2 none := by rw [← hb.out]; exact fun w' => plain_any c vd ve vl x hx w'
  have Hs := hid hs; clear hs
  cases b
  · rw [show forwardZ c x = 0 by unfold forwardZ; rw [hb.out]; rfl]
    clear hb
    obtain ⟨fr, to, ph, sz⟩ := x
    obtain ⟨ho, cy, de, wi, pr, qu⟩ := c
    dsimp only at hx
    go_enter Tryz.func114, Tryz.ntmps114
    go_wp2_with fail
    refine (Hs.out _).mono ?_
    rintro e w1 ⟨rfl, g1⟩
    go_wp2_with fail
    go_ret
    exact ⟨rfl, bx_gr2 g1⟩
  · obtain ⟨hsp, _, p0, p1⟩ := plainZ_bd hb.out
    obtain ⟨⟨c0, c1⟩, ⟨d0, d1⟩, ⟨e0, e1⟩, ⟨f0, f1⟩⟩ := spansZ_bd hsp
    clear hsp
    have ht := timeZ_bd x.sz
    obtain ⟨T, hT⟩ : ∃ T, Hid (timeZ x.sz = T) := ⟨_, hid rfl⟩
    have htm : ∀ w' : World, Calls Tryz.prog 144 #[.int .i64 x.sz] w' fun e w2 => e = .returned (.int .i64 T) ∧ w2 = w' := by rw [← hT.out]; exact fun w' => time_same x.sz w'
    have Htm := hid htm
    rw [hT.out] at ht
    obtain ⟨t0, t1⟩ := ht
    obtain ⟨r, hr⟩ : ∃ r, Hid (forwardZ c x = r) := ⟨_, hid rfl⟩
    rw [hr.out]
    have Hr : Hid (x.ph + T + c.de + 2 * c.pr = r) := hid (by rw [← hr.out, ← hT.out]; unfold forwardZ; rw [if_pos hb.out])
    clear htm hb hr
    obtain ⟨fr, to, ph, sz⟩ := x
    obtain ⟨ho, cy, de, wi, pr, qu⟩ := c
    dsimp only at *
    go_enter Tryz.func114, Tryz.ntmps114
    go_wp2_with fail
    refine (Hs.out _).mono ?_
    rintro e w1 ⟨rfl, g1⟩
    have k2 := hcell (box_heap1 g1) 2 _ rfl
    have k4 := hcell (box_heap1 g1) 4 _ rfl
    have q2 := hcell (box_heap2 g1) 2 _ rfl
    have q3 := hcell (box_heap2 g1) 3 _ rfl
    have s0 : IntKind.i64.wrap (ph + T) = ph + T := IntWalk.i64_in _ (by omega)
    have s1 : IntKind.i64.wrap (ph + T + de) = ph + T + de := IntWalk.i64_in _ (by omega)
    have s2 : IntKind.i64.wrap (2 * pr) = 2 * pr := IntWalk.i64_in _ (by omega)
    have s3 : IntKind.i64.wrap (ph + T + de + 2 * pr) = ph + T + de + 2 * pr := IntWalk.i64_in _ (by omega)
    go_wp2_with fail
    go_quiet ((go_at_call 144; exact Calls.quiet_of_same (Htm.out _)))
    go_wp2_with fail
    go_ret
    exact ⟨congrArg (fun n => Ending.returned (.int .i64 n)) Hr.out, gr_drewN (bx_gr2 g1) _⟩

set_option maxHeartbeats 400000 in
theorem late_any (c : Cf) (vd ve vl : Value) (x : Ent) (hx : Hid (x.to < 4294967296)) (w : World) :
    Calls Tryz.prog 119 #[cfV c vd ve vl, x.v] w fun e w' => e = .returned (.int .i64 (lateZ c x)) ∧ w.grownBy w' none := by
  obtain ⟨b, hb⟩ : ∃ b, Hid (plainZ c x = b) := ⟨_, hid rfl⟩
  have hs : ∀ w' : World, Calls Tryz.prog 143 #[cfV c vd ve vl, x.v] w' fun e w2 => e = .returned (.bool b) ∧ w'.grownBy w2 none := by rw [← hb.out]; exact fun w' => plain_any c vd ve vl x hx w'
  have Hs := hid hs; clear hs
  cases b
  · rw [show lateZ c x = 0 by unfold lateZ; rw [hb.out]; rfl]
    clear hb
    obtain ⟨fr, to, ph, sz⟩ := x
    obtain ⟨ho, cy, de, wi, pr, qu⟩ := c
    dsimp only at hx
    go_enter Tryz.func119, Tryz.ntmps119
    go_wp2_with fail
    refine (Hs.out _).mono ?_
    rintro e w1 ⟨rfl, g1⟩
    go_wp2_with fail
    go_ret
    exact ⟨rfl, bx_gr2 g1⟩
  · obtain ⟨hsp, _, p0, p1⟩ := plainZ_bd hb.out
    obtain ⟨⟨c0, c1⟩, ⟨d0, d1⟩, ⟨e0, e1⟩, ⟨f0, f1⟩⟩ := spansZ_bd hsp
    clear hsp
    have ht := timeZ_bd x.sz
    obtain ⟨T, hT⟩ : ∃ T, Hid (timeZ x.sz = T) := ⟨_, hid rfl⟩
    have htm : ∀ w' : World, Calls Tryz.prog 144 #[.int .i64 x.sz] w' fun e w2 => e = .returned (.int .i64 T) ∧ w' = w2 := by rw [← hT.out]; exact fun w' => time_any x.sz w'
    have Htm := hid htm
    rw [hT.out] at ht
    obtain ⟨t0, t1⟩ := ht
    obtain ⟨F, hF⟩ : ∃ F, Hid (forwardZ c x = F) := ⟨_, hid rfl⟩
    have hfw : ∀ w' : World, Calls Tryz.prog 114 #[cfV c vd ve vl, x.v] w' fun e w2 => e = .returned (.int .i64 F) ∧ w'.grownBy w2 none := by rw [← hF.out]; exact fun w' => forward_any c vd ve vl x hx w'
    have Hfw := hid hfw
    have hFb : -1125899906842624 ≤ F ∧ F ≤ 1125909906842624 := by rw [← hF.out]; unfold forwardZ; rw [if_pos hb.out, hT.out]; omega
    obtain ⟨F0, F1⟩ := hFb
    obtain ⟨r, hr⟩ : ∃ r, Hid (lateZ c x = r) := ⟨_, hid rfl⟩
    rw [hr.out]
    have Hr : Hid (F + T + c.de + c.pr = r) := hid (by rw [← hr.out, ← hT.out, ← hF.out]; unfold lateZ; rw [if_pos hb.out])
    clear htm hb hr hfw p0 p1
    obtain ⟨fr, to, ph, sz⟩ := x
    obtain ⟨ho, cy, de, wi, pr, qu⟩ := c
    dsimp only at *
    go_enter Tryz.func119, Tryz.ntmps119
    go_wp2_with fail
    refine (Hs.out _).mono ?_
    rintro e w1 ⟨rfl, g1⟩
    have k0 := hcell (box_heap1 g1) 0 _ rfl
    have k1 := hcell (box_heap1 g1) 1 _ rfl
    have k2 := hcell (box_heap1 g1) 2 _ rfl
    have k3 := hcell (box_heap1 g1) 3 _ rfl
    have k4 := hcell (box_heap1 g1) 4 _ rfl
    have k5 := hcell (box_heap1 g1) 5 _ rfl
    have k6 := hcell (box_heap1 g1) 6 _ rfl
    have k7 := hcell (box_heap1 g1) 7 _ rfl
    have k8 := hcell (box_heap1 g1) 8 _ rfl
    have q0 := hcell (box_heap2 g1) 0 _ rfl
    have q1 := hcell (box_heap2 g1) 1 _ rfl
    have q2 := hcell (box_heap2 g1) 2 _ rfl
    have q3 := hcell (box_heap2 g1) 3 _ rfl
    have s0 : IntKind.i64.wrap (F + T) = F + T := IntWalk.i64_in _ (by omega)
    have s1 : IntKind.i64.wrap (F + T + de) = F + T + de := IntWalk.i64_in _ (by omega)
    have s3 : IntKind.i64.wrap (F + T + de + pr) = F + T + de + pr := IntWalk.i64_in _ (by omega)
    go_wp2_with fail
    have n0 := grn_cell k0
    have n1 := grn_cell k1
    have n2 := grn_cell k2
    have n3 := grn_cell k3
    have n4 := grn_cell k4
    have n5 := grn_cell k5
    have n6 := grn_cell k6
    have n7 := grn_cell k7
    have n8 := grn_cell k8
    have m0 := grn_cell q0
    have m1 := grn_cell q1
    have m2 := grn_cell q2
    have m3 := grn_cell q3
    clear k0 k1 k2 k3 k4 k5 k6 k7 k8 q0 q1 q2 q3
    refine wp_region_grown (by kernel_rfl) (by kernel_rfl) ?_
    repeat (go_big_quiet_step (first
      | (go_at_call 114; refine (Hfw.out _).mono ?_; rintro e w6 ⟨rfl, g6⟩; exact ⟨rfl, ⟨_, gr_trans (Grn.gr _) g6⟩, rfl⟩)
      | (go_at_call 144; refine (Htm.out _).mono ?_; rintro e w6 ⟨rfl, rfl⟩; exact ⟨rfl, ⟨_, Grn.gr _⟩, rfl⟩)))
    refine wpQuiet_nil ?_
    rintro _ ⟨⟨w7, g7⟩, rfl⟩
    clear n0 n1 n2 n3 n4 n5 n6 n7 n8 m0 m1 m2 m3
    go_wp2_with fail
    go_ret
    exact ⟨congrArg (fun n => Ending.returned (.int .i64 n)) Hr.out, gr_trans (bx_gr2 g1) g7⟩
end Go.Proofs.YtckoaeoecjphiaaGreat
