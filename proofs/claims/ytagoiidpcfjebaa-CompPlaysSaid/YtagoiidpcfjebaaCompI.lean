/- tocsinlaw11.fixed: the chapter's examples hold. -/
import Derived.Test.YtagoiidpcfjebaaCompG
import Derived.Test.YtagoiidpcfjebaaCompH
namespace Go.Proofs.Ytagoiidpcfjebaa
open Go.RowKit Go.Lib

theorem below_some {w a c : World} {b : Nat} (h : w.grownBy a none) (hb : w.heap.size ≤ b) (g : Below b a c) : w.grownBy c none :=
  ⟨g.os.trans h.os, g.tape.trans h.tape, g.output.trans h.output, Nat.le_trans h.size g.size, fun k hk _ => (g.block k (by omega)).trans (h.block k hk (by simp))⟩

set_option maxRecDepth 100000 in
set_option maxHeartbeats 4000000 in
theorem fixed_true (w : World) : Calls Try.prog 9 #[] w fun e w' => e = .returned (.bool true) ∧ w.grownBy w' none := by
  have hf0 : ∀ w : World, (Instr.field 31 (.agg #[.int .i64 2, .int .i64 6, .int .i64 3, .int .u32 7, .int .i64 0]) 0).run Try.prog w = .ok (.int .i64 2) w := fun _ => by kernel_rfl
  have hf3 : ∀ w : World, (Instr.field 31 (.agg #[.int .i64 2, .int .i64 6, .int .i64 3, .int .u32 7, .int .i64 0]) 3).run Try.prog w = .ok (.int .u32 7) w := fun _ => by kernel_rfl
  obtain ⟨b, hb⟩ : ∃ b, Hid (w.heap.size = b) := ⟨_, hid rfl⟩
  have Hle : Hid (w.heap.size ≤ b) := hid (Nat.le_of_eq hb.out)
  go_enter Try.func9, Try.ntmps9
  go_wp2_with fail
  refine (comp_new_ok 100 w (by omega) (by omega)).mono ?_
  rintro e w1 ⟨rfl, hc, hg, hsz⟩
  rw [hb.out] at hc
  rw [hb.out]
  have HC := hid hc
  have HB := hid hg
  clear hc hg hsz
  go_wp2_with fail
  refine (from_at 0 _).mono ?_
  rintro e v1 ⟨rfl, g⟩
  have HC := hid (HC.out.kept g (by simp))
  have HB := hid (gr_trans HB.out g)
  clear g
  go_wp2_with fail
  refine (add_open (fun _ => False) b b 100 0 _ _ 0 1000 0 3 0 0 0 rfl (by omega) _ HC.out (Nat.le_refl _) (fun _ h => h.elim) (by decide) (by omega) (by omega)).mono ?_
  rintro e v2 ⟨rfl, hC, hB, _⟩
  have HC := hid hC
  have HB := hid (below_some HB.out Hle.out hB)
  clear hC hB
  go_wp2_with fail
  refine (from_at 1 _).mono ?_
  rintro e v3 ⟨rfl, g⟩
  have HC := hid (HC.out.grown g)
  have HB := hid (gr_trans HB.out g)
  clear g
  go_wp2_with fail
  refine (add_more (fun _ => False) b b 100 1000 _ _ _ 1010 1 3 0 0 1 rfl (by omega) _ HC.out (by decide) (by decide) (by omega) (by omega) (by omega) (by omega) (by decide) (by simp)).mono ?_
  rintro e v4 ⟨rfl, hC, hB, _⟩
  have HC := hid hC
  have HB := hid (below_some HB.out Hle.out hB)
  clear hC hB
  go_wp2_with fail
  refine (from_at 1 _).mono ?_
  rintro e v5 ⟨rfl, g⟩
  have HC := hid (HC.out.grown g)
  have HB := hid (gr_trans HB.out g)
  clear g
  go_wp2_with fail
  obtain ⟨vr, vc, hx⟩ := HC.out.cmp
  have Hx := hid hx
  clear hx
  refine (add_there b 100 1000 vr vc _ 1050 1 3 0 0 1 rfl (by omega) _ Hx.out (by decide) (by decide) (by omega) (by omega) (by omega) (by omega) (by decide)).mono ?_
  rintro e v6 ⟨rfl, g⟩
  have HC := hid (HC.out.grown g)
  have HB := hid (gr_trans HB.out g)
  clear g Hx
  go_wp2_with fail
  refine (from_at 2 _).mono ?_
  rintro e v7 ⟨rfl, g⟩
  have HC := hid (HC.out.grown g)
  have HB := hid (gr_trans HB.out g)
  clear g
  go_wp2_with fail
  refine (add_more (fun _ => False) b b 100 1000 _ _ _ 1090 2 3 0 0 2 rfl (by omega) _ HC.out (by decide) (by decide) (by omega) (by omega) (by omega) (by omega) (by decide) (by simp)).mono ?_
  rintro e v8 ⟨rfl, hC, hB, _⟩
  have HC : Hid (Coll (fun _ => False) v8 b b 100 1000 [0, 10, 90] [3, 3, 3] 7) := hid hC
  have HB := hid (below_some HB.out Hle.out hB)
  clear hC hB
  go_wp2_with fail
  refine (from_at 3 _).mono ?_
  rintro e v9 ⟨rfl, g⟩
  have HC := hid (HC.out.grown g)
  have HB := hid (gr_trans HB.out g)
  clear g
  go_wp2_with fail
  obtain ⟨vr, vc, hx⟩ := HC.out.cmp
  have Hx := hid hx
  clear hx
  refine (add_range b 100 1000 vr vc _ 1101 3 3 0 0 3 rfl (by omega) _ Hx.out (by decide) (by omega) (by omega) (by omega) (by omega)).mono ?_
  rintro e v10 ⟨rfl, g⟩
  have HC := hid (HC.out.grown g)
  have HB := hid (gr_trans HB.out g)
  clear g Hx
  go_wp2_with fail
  obtain ⟨vr, vc, hx⟩ := HC.out.cmp
  have Hx := hid hx
  clear hx
  refine (close_early b 100 1000 vr vc _ 1099 _ Hx.out (by omega) (by omega) (by omega)).mono ?_
  rintro e v11 ⟨rfl, g⟩
  have HC := hid (HC.out.grown g)
  have HB := hid (gr_trans HB.out g)
  clear g Hx
  go_wp2_with fail
  have Hcx := hid ((HC.out.grown (gr_alloc (gr_refl v11 none) (.cells #[.int .i64 0, .int .u32 0, .int .i64 0] 39))).cmp)
  obtain ⟨vr, vc, hx⟩ := Hcx.out
  have Hx := hid hx
  clear hx Hcx
  refine (comp_open b 100 true 1000 vr vc _ _ Hx.out).mono ?_
  rintro e v12 ⟨rfl, rfl⟩
  have HC := hid (HC.out.grown (gr_alloc (gr_refl v11 none) (.cells #[.int .i64 0, .int .u32 0, .int .i64 0] 39)))
  have HB := hid (gr_trans HB.out (gr_alloc (gr_refl v11 none) (.cells #[.int .i64 0, .int .u32 0, .int .i64 0] 39)))
  clear Hx
  go_wp2_with fail
  refine (close_ok b b 100 1000 _ _ _ 1100 _ HC.out (by omega) (by omega) (by omega) (by simp) (by simp) (by simp) (by decide)).mono ?_
  rintro e v13 ⟨rfl, hc, hg⟩
  rw [tol_fixed, most_fixed]
  have Hc := hid hc
  have HB := hid (gr_own HB.out hg Hle.out)
  clear hc hg HC
  have Hc1 := hid (Hc.out.kept (gr_alloc (gr_refl v13 none) (.cells #[.int .i64 1010, .int .u32 7, .int .i64 3] 39)) (by simp))
  go_wp2_with fail
  refine (comp_open b 100 false 0 _ _ _ _ Hc1.out).mono ?_
  rintro e v14 ⟨rfl, rfl⟩
  go_wp2_with fail
  refine (frame_any 1010 7 3 6 _).mono ?_
  rintro e v15 ⟨rfl, g⟩
  have D := gr_heap g (heap_alloc_new v13 _) (by simp)
  have y0 := cell_of D 0 _ rfl
  have y1 := cell_of D 1 _ rfl
  have y2 := cell_of D 2 _ rfl
  have HB := hid (gr_trans HB.out (bx_gr g))
  clear D g
  go_wp2_with fail
  refine (frame_any 1010 7 3 6 _).mono ?_
  rintro e v16 ⟨rfl, g⟩
  have HB := hid (gr_trans HB.out g)
  clear g
  go_wp2_with fail
  go_ret
  exact ⟨rfl, HB.out⟩
end Go.Proofs.Ytagoiidpcfjebaa
