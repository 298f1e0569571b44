/- Lemmas: crew.Count; align: New, Expected, Accept, late. -/
import Derived.Test.YtckoaeoecjphiaaGreatK06
import Derived.BigRegion
import Derived.Lib.BitFns

/- crew.Count; align: New, Expected, Accept, late. -/
namespace Go.Proofs.YtckoaeoecjphiaaGreat
open Go.RowKit Go.Lib

/-- How many of the six hosts. -/
def cntN (c : Nat) : Nat := (if hasN c 0 = true then 1 else 0) + (if hasN c 1 = true then 1 else 0) + (if hasN c 2 = true then 1 else 0) + (if hasN c 3 = true then 1 else 0) + (if hasN c 4 = true then 1 else 0) + (if hasN c 5 = true then 1 else 0)
theorem cnt_pop : ∀ n : Fin 64, (Lib.pop8 0 + Lib.pop8 0 + Lib.pop8 0 + Lib.pop8 (n.val : Int)) % 256 = (cntN n.val : Int) := by decide +kernel
theorem cntN_le (c : Nat) : cntN c ≤ 6 := by unfold cntN; (repeat' split) <;> omega

set_option maxRecDepth 100000 in
theorem ones_any (x : Nat) (hx : x < 64) (w : World) :
    Calls Tryz.prog 159 #[.int .u32 (x : Int)] w fun e w' => e = .returned (.int .i64 (cntN x : Int)) ∧ w' = w.drewN 1 := by
  have h255 : bits .and .u32 (x : Int) 255 = (x : Int) := by
    have h := bits_and_u32_nat x 255 (by omega) (by omega)
    rw [show x &&& 255 = x % 2 ^ 8 from Nat.and_two_pow_sub_one_eq_mod x 8, Nat.mod_eq_of_lt (by omega)] at h
    exact h
  have z1 : (x : Int) / 16777216 = 0 := by omega
  have z2 : (x : Int) / 65536 = 0 := by omega
  have z3 : (x : Int) / 256 = 0 := by omega
  have hb0 : (0 : Int) ≤ (x : Int) := by omega
  have hb1 : (x : Int) ≤ 255 := by omega
  have hsz : x < Lib.pop8tab.size := by rw [Lib.pop8tab_size]; omega
  have h0 : bits .and .u32 0 255 = 0 := by kernel_rfl
  have hc := hid (cnt_pop ⟨x, hx⟩)
  go_enter Tryz.func159, Tryz.ntmps159
  go_wp2_with fail
  go_region
  go_wp2_with fail
  go_ret
  exact ⟨congrArg (fun n => Ending.returned (.int .i64 n)) hc.out, rfl⟩

theorem count_any (c : Nat) (hc : c < 64) (w : World) :
    Calls Tryz.prog 137 #[.int .u32 (c : Int)] w fun e w' => e = .returned (.int .i64 (cntN c : Int)) ∧ w' = w.drewN 1 := by
  have h63 : bits .and .u32 (c : Int) 63 = (c : Int) := by
    have h := bits_and_u32_nat c 63 (by omega) (by omega)
    rw [show c &&& 63 = c % 2 ^ 6 from Nat.and_two_pow_sub_one_eq_mod c 6, Nat.mod_eq_of_lt (by omega)] at h
    exact h
  go_enter Tryz.func137, Tryz.ntmps137
  go_wp2_with fail
  refine (ones_any c hc _).mono ?_
  rintro e w1 ⟨rfl, rfl⟩
  go_wp2_with fail
  go_ret
  exact ⟨rfl, rfl⟩
theorem count_gr (c : Nat) (hc : c < 64) (w : World) :
    Calls Tryz.prog 137 #[.int .u32 (c : Int)] w fun e w' => e = .returned (.int .i64 (cntN c : Int)) ∧ w.grownBy w' none :=
  (count_any c hc w).mono fun _ _ h => ⟨h.1, by rw [h.2]; exact gr_drewN (gr_refl w none) 1⟩

/-- A frame that was heard. -/
structure Hd where
  by_ : Int
  cr : Nat
  fr : Int
def nthH (l : List Hd) (j : Nat) : Hd := l[j]?.getD ⟨0, 0, 0⟩
def hC (x : Hd) : List Value := [.int .i64 x.by_, .int .u32 (x.cr : Int), .int .i64 x.fr]
def flatD (l : List Hd) : List Value := l.flatMap hC
theorem flatD_snoc (l : List Hd) (x : Hd) : flatD (l ++ [x]) = flatD l ++ hC x := by unfold flatD; rw [List.flatMap_append]; simp
/-- One that hears, in its block b: its cycle, what it expects, what it accepts; its frames' slice. -/
def AlAt (W : World) (b : Nat) (C E A : Int) (vf : Value) : Prop := W.heap[b]? = some (.cells #[.int .i64 C, .int .i64 E, .int .i64 A, vf] 155)
def expZ (c : Cf) : Int := 2 * c.de + c.wi
def accZ (c : Cf) : Int := c.wi + 2 * c.pr

theorem alnew_any (d : Net) (vd ve vl : Value) (w : World) (hN : NetAt w.heap.size w d vd ve vl) (h0 : checkZ d = 0) (hsp : spansZ d.cf = true) :
    Calls Tryz.prog 33 #[cfV d.cf vd ve vl] w fun e w' => ∃ b, e = .returned (.tuple #[.pointer (some ⟨b, 0, none⟩), .int .i64 0]) ∧ AlAt w' b d.cf.cy (expZ d.cf) (accZ d.cf) (.slice none 0 0) ∧ w.heap.size ≤ b ∧ w.grownBy w' none := by
  obtain ⟨⟨c0, c1⟩, ⟨d0, d1⟩, ⟨e0, e1⟩, ⟨f0, f1⟩⟩ := spansZ_bd hsp
  have gA := gr_alloc (gr_refl w none) (.cells #[.int .i64 d.cf.ho, .int .i64 d.cf.cy, .int .i64 d.cf.de, .int .i64 d.cf.wi, .int .i64 d.cf.pr, vd, ve, vl, .int .i64 d.cf.qu] 26)
  have hck := check_any d vd ve vl _ (hN.later gA)
  rw [h0] at hck
  have Hck := hid hck
  unfold expZ accZ
  obtain ⟨c, rows, ents, lnks⟩ := d
  clear hck hN h0 hsp gA
  dsimp only at *
  obtain ⟨ho, cy, de, wi, pr, qu⟩ := c
  dsimp only at *
  go_enter Tryz.func33, Tryz.ntmps33
  go_wp2_with fail
  refine Hck.out.mono ?_
  rintro e w1 ⟨rfl, g1⟩
  have k1 := hcell (box_heap g1) 1 _ rfl
  have k2 := hcell (box_heap g1) 2 _ rfl
  have k3 := hcell (box_heap g1) 3 _ rfl
  have k4 := hcell (box_heap g1) 4 _ rfl
  go_wp2_with fail
  go_ret2
  exact ⟨w1.heap.size, rfl, heap_alloc_new w1 _, (bx_gr g1).size, gr_alloc (bx_gr g1) _⟩

theorem accept_any (b : Nat) (C E A : Int) (vf : Value) (w : World) (h : AlAt w b C E A vf) :
    Calls Tryz.prog 86 #[.pointer (some ⟨b, 0, none⟩)] w fun e w' => e = .returned (.int .i64 A) ∧ w = w' := by
  have k2 := hcell h 2 _ rfl
  clear h
  go_enter Tryz.func86, Tryz.ntmps86
  go_wp2_with fail
  go_ret
  exact ⟨rfl, rfl⟩

theorem expected_any (b : Nat) (C E A cy : Int) (vf : Value) (w : World) (h : AlAt w b C E A vf) (h0 : 0 ≤ cy) (hC : 1 ≤ C) (h1 : cy * C ≤ 1125899906842624) (hE : 0 ≤ E ∧ E ≤ 4194304) :
    Calls Tryz.prog 85 #[.pointer (some ⟨b, 0, none⟩), .int .i64 cy] w fun e w' => e = .returned (.int .i64 (cy * C + E)) ∧ w.grownBy w' none := by
  have k0 := hcell h 0 _ rfl
  have k1 := hcell h 1 _ rfl
  have hp : 0 ≤ cy * C := Int.mul_nonneg h0 (by omega)
  have hq : cy ≤ 1125899906842624 / C := (Int.le_ediv_iff_mul_le (by omega)).2 h1
  have hq2 : 1125899906842624 / C ≤ 1125899906842624 := Int.ediv_le_self _ (by omega)
  have ht : (1125899906842624 : Int).tdiv C = 1125899906842624 / C := Int.tdiv_eq_ediv_of_nonneg (by omega)
  obtain ⟨p, hpp⟩ : ∃ p, cy * C = p := ⟨_, rfl⟩
  obtain ⟨q, hqq⟩ : ∃ q, 1125899906842624 / C = q := ⟨_, rfl⟩
  rw [hpp] at hp h1
  rw [hqq] at hq hq2 ht
  have hC' : (C == 0) = false := by simp; omega
  obtain ⟨E0, E1⟩ := hE
  have hw1 : IntKind.i64.wrap (cy * C) = p := by rw [hpp]; exact IntWalk.i64_in _ (by omega)
  have hw2 : IntKind.i64.wrap (p + E) = p + E := IntWalk.i64_in _ (by omega)
  have hw3 : wrap64 q = q := by unfold wrap64; omega
  rw [hpp]
  have HPP := hid hpp
  clear h hpp
  go_enter Tryz.func85, Tryz.ntmps85
  go_wp2_with fail
  go_quiet (fail)
  go_wp2_with fail
  go_ret
  exact ⟨rfl, gr_drewN (gr_refl w none) _⟩

def lateB (d A : Int) : Bool := decide (-A ≤ d) && decide (d ≤ A)
theorem alate_any (b : Nat) (C E A cy l p : Int) (vf : Value) (w : World) (h : AlAt w b C E A vf) (h0 : 0 ≤ cy) (hC : 1 ≤ C) (hC1 : C ≤ 1073741824) (hp : Hid (cy * C = p)) (h1 : p ≤ 1125899906842624) (hE : 0 ≤ E ∧ E ≤ 4194304) (hA : 0 ≤ A ∧ A ≤ 4194304) (hl : 0 ≤ l ∧ l ≤ 1125899906842624) :
    Calls Tryz.prog 136 #[.pointer (some ⟨b, 0, none⟩), .int .i64 cy, .int .i64 l] w fun e w' => (∃ x : Int, e = .returned (.tuple #[.int .i64 x, .bool (lateB (l - p - E) A)]) ∧ Hid (lateB (l - p - E) A = true → x = l - p - E)) ∧ w.grownBy w' none := by
  have k0 := hcell h 0 _ rfl
  have k1 := hcell h 1 _ rfl
  have k2 := hcell h 2 _ rfl
  have hp0 : 0 ≤ p := by rw [← hp.out]; exact Int.mul_nonneg h0 (by omega)
  obtain ⟨E0, E1⟩ := hE
  obtain ⟨A0, A1⟩ := hA
  obtain ⟨l0, l1⟩ := hl
  obtain ⟨q, hqq⟩ : ∃ q, (l + A) / C = q := ⟨_, rfl⟩
  have hq0 : 0 ≤ q := by rw [← hqq]; exact Int.ediv_nonneg (by omega) (by omega)
  have hq1 : q ≤ l + A := by rw [← hqq]; exact Int.ediv_le_self _ (by omega)
  have ht : (l + A).tdiv C = q := by rw [← hqq]; exact Int.tdiv_eq_ediv_of_nonneg (by omega)
  have hC' : (C == 0) = false := by simp; omega
  have s0 : IntKind.i64.wrap (l + A) = l + A := IntWalk.i64_in _ (by omega)
  have s1 : IntKind.i64.wrap q = q := IntWalk.i64_in _ (by omega)
  have s2 : IntKind.i64.wrap (cy * C) = p := by rw [hp.out]; exact IntWalk.i64_in _ (by omega)
  have s3 : IntKind.i64.wrap (l - p) = l - p := IntWalk.i64_in _ (by omega)
  have s4 : IntKind.i64.wrap (l - p - E) = l - p - E := IntWalk.i64_in _ (by omega)
  have s5 : IntKind.i64.wrap (-A) = -A := IntWalk.i64_in _ (by omega)
  by_cases hc : q < cy
  · have hlt : l + A < p := by
      rw [← hp.out, ← hqq] at *
      have := (Int.ediv_lt_iff_lt_mul (a := l + A) (b := cy) (c := C) (by omega)).1 hc
      exact this
    have hno : lateB (l - p - E) A = false := by unfold lateB; rw [decide_eq_false (by omega)]; rfl
    rw [hno]
    clear h hqq hno hlt
    go_enter Tryz.func136, Tryz.ntmps136
    go_wp2_with fail
    go_quiet (fail)
    go_wp2_with fail
    go_ret2
    exact ⟨⟨0, rfl, hid (fun e => by cases e)⟩, gr_drewN (gr_refl w none) _⟩
  · have hc' : cy ≤ q := by omega
    unfold lateB
    obtain ⟨d, hd⟩ : ∃ d, Hid (l - p - E = d) := ⟨_, hid rfl⟩
    rw [hd.out] at s4 ⊢
    have s6 : l - p - E = d := hd.out
    obtain ⟨v, hv⟩ : ∃ v, decide (-A ≤ d) = v := ⟨_, rfl⟩
    rw [hv]
    clear h hqq hc
    cases v
    all_goals
      go_enter Tryz.func136, Tryz.ntmps136
      go_wp2_with fail
      go_quiet (fail)
      obtain ⟨w1, hw1⟩ : ∃ w1, w.drewN nq = w1 := ⟨_, rfl⟩
      have g1 : w.grownBy w1 none := hw1 ▸ gr_drewN (gr_refl w none) nq
      rw [hw1]
      have k0 := gr_cell g1 k0
      have k1 := gr_cell g1 k1
      have k2 := gr_cell g1 k2
      clear hw1
      go_wp2_with fail
      go_quiet (fail)
      obtain ⟨w2, hw2⟩ : ∃ w2, w1.drewN nq = w2 := ⟨_, rfl⟩
      have g2 : w.grownBy w2 none := hw2 ▸ gr_drewN g1 nq
      rw [hw2]
      have k2 : w2.cell? ⟨b, 2, none⟩ = some (.int .i64 A) := hw2 ▸ gr_cell (gr_drewN (gr_refl w1 none) nq) k2
      clear hw2
      go_wp2_with fail
      go_quiet (fail)
      go_wp2_with fail
      go_ret2
      exact ⟨⟨d, rfl, hid (fun _ => rfl)⟩, gr_drewN g2 _⟩
end Go.Proofs.YtckoaeoecjphiaaGreat
