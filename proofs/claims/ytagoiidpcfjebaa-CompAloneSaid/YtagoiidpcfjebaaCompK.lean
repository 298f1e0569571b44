/- tocsinlaw11.CompAlone, walked. -/
import Derived.Test.YtagoiidpcfjebaaCompI
namespace Go.Proofs.Ytagoiidpcfjebaa
open Go.RowKit Go.Lib

theorem most_one (cy : Int) : mostL [cy] = cy := most_unique (by simp) (by intro x hx; have : x = cy := (by simpa using hx); subst this; exact .inr ⟨rfl, Int.le_refl _⟩)
theorem tol_one : tolL [0] = 0 := by
  have hs : sortL [0] = [0] := sortL_eq (List.Perm.refl _) (by simp)
  unfold tolL
  rw [hs]
  decide

theorem pow6 : ∀ h : Fin 6, (2 : Int) ^ h.val = 2 ^ h.val % 4294967296 := by decide

set_option maxRecDepth 100000 in
set_option maxHeartbeats 4000000 in
theorem alone_walk (l : Int) (bl : -9223372036854775808 ≤ l ∧ l ≤ 9223372036854775807) (hs : Int) (bh : 0 ≤ hs ∧ hs ≤ 255) (cy : Int) (bc : -9223372036854775808 ≤ cy ∧ cy ≤ 9223372036854775807) (w : World) :
    Calls Try.prog 7 #[.int .i64 l, .int .u8 hs, .int .i64 cy] w fun e w' => e = .returned (.bool true) ∧ Below w.heap.size w w' := by
  obtain ⟨h, hh⟩ : ∃ h : Nat, Hid ((h : Int) = hs % 6) := ⟨(hs % 6).toNat, hid (by omega)⟩
  have h6 : h < 6 := by have := hh.out; omega
  obtain ⟨bl0, bl1⟩ := bl
  obtain ⟨bc0, bc1⟩ := bc
  obtain ⟨bh0, bh1⟩ := bh
  go_enter Try.func7, Try.ntmps7
  go_wp2_with fail
  refine (fixed_true w).mono ?_
  rintro e w1 ⟨rfl, g1⟩
  have HB := hid g1
  clear g1
  go_wp2_with fail
  obtain ⟨b, hb⟩ : ∃ b, Hid (w1.heap.size = b) := ⟨_, hid rfl⟩
  refine (comp_new_ok 50 w1 (by omega) (by omega)).mono ?_
  rintro e w2 ⟨rfl, hc, hg, hsz⟩
  rw [hb.out] at hc hsz
  rw [hb.out]
  have HC := hid hc
  have Hle : Hid (w.heap.size ≤ b) := hid (by have := HB.out.size; have := hb.out; omega)
  have HB := hid (gr_trans HB.out hg)
  clear hc hg
  go_wp2_with fail
  have HC1 := hid (HC.out.kept (gr_alloc (gr_refl w2 none) (.cells #[.int .i64 1, .int .i64 (hs % 6), .int .i64 cy, .int .u32 0, .int .i64 0] 31)) (by simp))
  have HB1 := hid (gr_trans HB.out (gr_alloc (gr_refl w2 none) (.cells #[.int .i64 1, .int .i64 (hs % 6), .int .i64 cy, .int .u32 0, .int .i64 0] 31)))
  clear HC HB
  have hfr : hs % 6 = (h : Int) := hh.out.symm
  have Hfr := hid hfr
  clear hfr
  by_cases hgood : (0 ≤ cy ∧ cy ≤ 1125899906842624) ∧ (-1125899906842624 ≤ l ∧ l ≤ 1125899906842624)
  · obtain ⟨⟨cy0, cy1⟩, l0, l1⟩ := hgood
    have hr : rightB 1 (hs % 6) cy 0 0 = true := by simp [rightB, inB]; omega
    refine (add_open (fun _ => False) b b 50 0 _ _ 0 l (hs % 6) cy 0 0 h Hfr.out h6 _ HC1.out (Nat.le_refl _) (fun _ h => h.elim) hr (by omega) (by omega)).mono ?_
    rintro e w3 ⟨rfl, hC, hB, _⟩
    have HC := hid hC
    have HB := hid (below_some HB1.out Hle.out hB)
    clear hC hB HC1 HB1 hr
    go_wp2_with fail
    refine (close_ok b b 50 l _ _ _ (l + 50) _ HC.out (by omega) (by omega) (by omega) (by simp) (by simp) (by simp) (by simp)).mono ?_
    rintro e w4 ⟨rfl, hc, hg⟩
    rw [tol_one, most_one]
    have HB := hid (gr_own HB.out hg Hle.out)
    clear hc hg HC
    rw [Int.add_zero]
    go_wp2_with fail
    · go_ret
      exact ⟨rfl, gr_below (gr_alloc HB.out _) (Nat.le_refl _) (by simp)⟩
    · exfalso
      rename_i hx
      apply hx
      rw [Hfr.out, Int.toNat_natCast]
      exact pow6 ⟨h, h6⟩
  · have hbad : takesB l 1 (hs % 6) cy 0 0 = false := by
      simp [takesB, rightB, inB]
      omega
    refine (add_bad b l 1 (hs % 6) cy 0 0 _ hbad).mono ?_
    rintro e w3 ⟨rfl, g⟩
    have HB := hid (gr_trans HB1.out g)
    clear g HC1 HB1
    go_wp2_with fail
    all_goals go_ret
    all_goals refine ⟨?_, gr_below HB.out (Nat.le_refl _) (by simp)⟩
    all_goals first
      | rfl
      | (refine congrArg (fun b => Ending.returned (Value.bool b)) (?_ : (decide (cy < 0) || decide (1125899906842624 < cy) || decide (l < -1125899906842624) || decide (1125899906842624 < l)) = true)
         simp
         omega)
end Go.Proofs.Ytagoiidpcfjebaa
