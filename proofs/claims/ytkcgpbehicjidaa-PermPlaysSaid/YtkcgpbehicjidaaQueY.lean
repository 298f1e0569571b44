/- perm: Take of a full hold; Take in every way. -/
import Derived.Test.YtkcgpbehicjidaaQueX
namespace Go.Proofs.Ytkcgpbehicjidaa
open Go.RowKit Go.Lib

set_option maxHeartbeats 1000000 in
theorem push_full (P : Nat → Prop) (base q : Nat) (num : Int) (xs : List It) (t r n k fr cy cr cl : Int) (w : World) (h : QS P w base q num xs) (hlen : xs.length = 64) :
    Calls Try.prog 26 #[.pointer (some ⟨q, 0, none⟩), .int .i64 t, .int .i64 r, .int .i64 n, .agg #[.int .i64 k, .int .i64 fr, .int .i64 cy, .int .u32 cr, .int .i64 cl]] w fun e w' =>
      e = .returned (.int .i64 6) ∧ w.grownBy w' none := by
  have A0 := gr_alloc (gr_refl w none) (.cells #[.int .i64 k, .int .i64 fr, .int .i64 cy, .int .u32 cr, .int .i64 cl] 37)
  obtain ⟨a, cap, hq⟩ := (h.grown A0).slice
  rw [hlen] at hq
  have c0 := hq.c0
  have c2 := hq.c2
  clear h hq
  go_enter Try.func26, Try.ntmps26
  go_wp2_with fail
  go_quiet (fail)
  have G := hid (gr_drewN A0 nq)
  go_wp2_with fail
  go_ret
  exact ⟨rfl, G.out⟩

set_option maxRecDepth 100000 in
set_option maxHeartbeats 4000000 in
theorem take_full (P : Nat → Prop) (b base hb q : Nat) (m ba r dl t k fr cy cr cl d num : Int) (xs : List It) (w : World) (hh : Hld w hb q dl) (hc : Clk w b m ba r) (ho : ClockOk m ba r) (hr : rightB k fr cy cr cl = true) (hcl : cl ≤ dl) (hd : Due10 m ba r t cl dl d 0)
    (h : QS P w base q num xs) (hlen : xs.length = 64) :
    Calls Try.prog 11 #[.pointer (some ⟨hb, 0, none⟩), .pointer (some ⟨b, 0, none⟩), .int .i64 t, .agg #[.int .i64 k, .int .i64 fr, .int .i64 cy, .int .u32 cr, .int .i64 cl]] w fun e w' => e = .returned (.tuple #[.int .i64 0, .int .i64 6]) ∧ w.grownBy w' none := by
  have Hr := hid hr
  have Hh := hid hh
  have Hc := hid hc
  have Ho := hid ho
  have Hd := hid hd
  have HQ := hid h
  have Hlen := hid hlen
  clear hr hh hc ho hd h hlen
  go_enter Try.func11, Try.ntmps11
  go_wp2_with fail
  refine (control_ok k fr cy cr cl _ Hr.out).mono ?_
  rintro e w1 ⟨⟨vv, rfl⟩, g1⟩
  have D := hid (gr_heap g1 (heap_alloc_new w (.cells #[.int .i64 k, .int .i64 fr, .int .i64 cy, .int .u32 cr, .int .i64 cl] 37)) (by simp))
  have G1 := hid (bx_gr g1)
  have d4 := cell_of D.out 4 (.int .i64 cl) rfl
  have h0 := (Hh.out.gr G1.out).c0
  clear g1
  go_wp2_with fail
  go_quiet (fail)
  obtain ⟨w2, hw2⟩ : ∃ w2, w1.drewN nq = w2 := ⟨_, rfl⟩
  have G2 : w1.grownBy w2 none := hw2 ▸ gr_drewN (gr_refl w1 none) nq
  rw [hw2]
  clear hw2 d4 h0
  have D2 := hid (gr_heap G2 D.out (by simp))
  have HG2 := hid (gr_trans G1.out G2)
  clear G2 D G1
  go_wp2_with fail
  have n0 := grn_cell (cell_of D2.out 4 (.int .i64 cl) rfl)
  have n1 := grn_cell (Hh.out.gr HG2.out).c0
  have Hc2 := hid (Hc.out.kept HG2.out (by simp))
  refine wp_region_grown (by kernel_rfl) (by kernel_rfl) ?_
  repeat (go_big_quiet_step ((go_at_call 14; refine (due_any b m ba r t cl dl d 0 _ (Hc2.out.kept (Grn.gr _) (by simp)) Ho.out Hd.out).mono ?_; rintro e w3 ⟨rfl, g3⟩; exact ⟨rfl, ⟨_, gr_trans (Grn.gr _) g3⟩, rfl⟩)))
  refine wpQuiet_nil ?_
  rintro w4 ⟨X, hX⟩
  have g4 : w2.grownBy w4 none := hX ▸ X.gr
  clear hX X n0 n1
  have D4 := hid (gr_heap g4 D2.out (by simp))
  have HG4 := hid (gr_trans HG2.out g4)
  clear g4 D2
  go_wp2_with fail
  have n0 := grn_cell (cell_of D4.out 0 (.int .i64 k) rfl)
  have n1 := grn_cell (cell_of D4.out 1 (.int .i64 fr) rfl)
  have n2 := grn_cell (cell_of D4.out 2 (.int .i64 cy) rfl)
  have n3 := grn_cell (cell_of D4.out 3 (.int .u32 cr) rfl)
  have n4 := grn_cell (cell_of D4.out 4 (.int .i64 cl) rfl)
  have n5 := grn_cell (Hh.out.gr HG4.out).c1
  have HQ4 := hid (HQ.out.grown HG4.out)
  refine wp_region_grown (by kernel_rfl) (by kernel_rfl) ?_
  repeat (go_big_quiet_step ((go_at_call 26; refine (push_full P base q num xs d fr 0 k fr cy cr cl _ (HQ4.out.grown (Grn.gr _)) Hlen.out).mono ?_; rintro e w3 ⟨rfl, g3⟩; exact ⟨rfl, ⟨_, gr_trans (Grn.gr _) g3⟩, rfl⟩)))
  refine wpQuiet_nil ?_
  rintro w6 ⟨X, hX⟩
  have g6 : w4.grownBy w6 none := hX ▸ X.gr
  have HG6 := hid (gr_trans HG4.out g6)
  clear hX X n0 n1 n2 n3 n4 n5 g6
  go_wp2_with fail
  go_ret2
  exact ⟨rfl, HG6.out⟩

/-- What Take answers. -/
inductive Took (m ba r t dl k fr cy cr cl : Int) (len : Nat) : Int → Int → Prop
  | bad (h : rightB k fr cy cr cl = false) : Took m ba r t dl k fr cy cr cl len 0 1
  | range (h : rightB k fr cy cr cl = true) (hc : dl < cl) : Took m ba r t dl k fr cy cr cl len 0 4
  | late (h : rightB k fr cy cr cl = true) (hc : cl ≤ dl) (f : Int) (hd : Due10 m ba r t cl dl 0 f) (hf : f ≠ 0) : Took m ba r t dl k fr cy cr cl len 0 f
  | full (h : rightB k fr cy cr cl = true) (hc : cl ≤ dl) (d : Int) (hd : Due10 m ba r t cl dl d 0) (hl : len = 64) : Took m ba r t dl k fr cy cr cl len 0 6
  | ok (h : rightB k fr cy cr cl = true) (hc : cl ≤ dl) (d : Int) (hd : Due10 m ba r t cl dl d 0) (hl : len < 64) : Took m ba r t dl k fr cy cr cl len d 0
theorem Due10.zero {m ba r t cl dl d f : Int} (h : Due10 m ba r t cl dl d f) (hf : f ≠ 0) : d = 0 := by
  cases h with
  | bad => rfl
  | none => rfl
  | ok => exact absurd rfl hf
theorem Took.exists {m ba r : Int} (ho : ClockOk m ba r) (t dl k fr cy cr cl : Int) {len : Nat} (hl : len ≤ 64) : ∃ v e, Took m ba r t dl k fr cy cr cl len v e := by
  cases h : rightB k fr cy cr cl with
  | false => exact ⟨_, _, .bad h⟩
  | true =>
    rcases Int.lt_or_le dl cl with h1 | h1
    · exact ⟨_, _, .range h h1⟩
    · obtain ⟨d, f, hd⟩ := Due10.exists ho t cl dl
      by_cases hf : f = 0
      · subst hf
        by_cases h64 : len = 64
        · exact ⟨_, _, .full h h1 d hd h64⟩
        · exact ⟨_, _, .ok h h1 d hd (by omega)⟩
      · have := hd.zero hf
        subst this
        exact ⟨_, _, .late h h1 f hd hf⟩

/-- Take, whatever comes: the items behind it are those ahead of it, and the frame, where it was taken. -/
theorem take_all (P : Nat → Prop) (b base hb q : Nat) (m ba r dl t k fr cy cr cl num v f : Int) (xs : List It) (w : World) (hh : Hld w hb q dl) (hc : Clk w b m ba r) (ho : ClockOk m ba r) (hd : 0 ≤ dl ∧ dl ≤ 1048576)
    (h : QS P w base q num xs) (hnum : 0 ≤ num ∧ num ≤ 4611686018427387904) (hheap : IsHeap xs) (ht : Took m ba r t dl k fr cy cr cl xs.length v f) :
    Calls Try.prog 11 #[.pointer (some ⟨hb, 0, none⟩), .pointer (some ⟨b, 0, none⟩), .int .i64 t, .agg #[.int .i64 k, .int .i64 fr, .int .i64 cy, .int .u32 cr, .int .i64 cl]] w fun e w' =>
      e = .returned (.tuple #[.int .i64 v, .int .i64 f]) ∧ (∃ ys, (ys.Perm (if f = 0 then xs ++ [⟨v, fr, 0, num + 1, k, fr, cy, cr, cl⟩] else xs) ∧ IsHeap ys) ∧ QS P w' base q (if f = 0 then num + 1 else num) ys) ∧ Keeps P w w' := by
  have same : ∀ (w' : World), w.grownBy w' none → f ≠ 0 → (∃ ys, (ys.Perm (if f = 0 then xs ++ [⟨v, fr, 0, num + 1, k, fr, cy, cr, cl⟩] else xs) ∧ IsHeap ys) ∧ QS P w' base q (if f = 0 then num + 1 else num) ys) ∧ Keeps P w w' := fun w' g hf => by
    rw [if_neg hf, if_neg hf]
    exact ⟨⟨xs, ⟨List.Perm.refl _, hheap⟩, h.grown g⟩, Keeps.of_gr g fun k hk => ⟨h.lt k hk, by simp⟩⟩
  cases ht with
  | bad hr => exact (take_bad b hb t k fr cy cr cl w hr).mono fun e w' ⟨he, g⟩ => ⟨he, same w' g (by decide)⟩
  | range hr hcl => exact (take_range b hb q dl t k fr cy cr cl w hh hr hcl).mono fun e w' ⟨he, g⟩ => ⟨he, same w' g (by decide)⟩
  | late hr hcl f hd hf => exact (take_late b hb q m ba r dl t k fr cy cr cl _ w hh hc ho hr hcl hd hf).mono fun e w' ⟨he, g⟩ => ⟨he, same w' g hf⟩
  | full hr hcl d hd hl => exact (take_full P b base hb q m ba r dl t k fr cy cr cl d num xs w hh hc ho hr hcl hd h hl).mono fun e w' ⟨he, g⟩ => ⟨he, same w' g (by decide)⟩
  | ok hr hcl d hdu hl =>
    cases hdu with
    | ok h1 d hw =>
      obtain ⟨h2, h3, h4⟩ := dueB_iff.1 h1
      exact take_any P b base hb q m ba r dl t k fr cy cr cl _ _ num xs w hh hc ho h2 rfl hd hr h4 hw h hl hnum hheap

theorem next_none (P : Nat → Prop) (base hb q : Nat) (dl num : Int) (xs : List It) (w : World) (hh : Hld w hb q dl) (h : QS P w base q num xs) (hl : xs.length = 0) :
    Calls Try.prog 15 #[.pointer (some ⟨hb, 0, none⟩)] w fun e w' => e = .returned (.tuple #[.int .i64 0, .bool false]) ∧ w.grownBy w' none := by
  obtain ⟨a, cap, hq⟩ := h.slice
  rw [hl] at hq
  exact pnext_none hb q dl num a cap w hh hq
end Go.Proofs.Ytkcgpbehicjidaa
