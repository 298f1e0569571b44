/- queue.Push of an item that stands behind its parent. -/
import Derived.Test.YtkcgpbehicjidaaQueH
namespace Go.Proofs.Ytkcgpbehicjidaa
open Go.RowKit Go.Lib

theorem quo_half (m pp : Nat) (h : (m - 1) / 2 = pp) (h1 : 1 ≤ m) (h2 : m < 64) : ((m : Int) - 1) / 2 = (pp : Int) ∧ ((m : Int) - 1).tdiv 2 = (pp : Int) ∧ wrap64 (pp : Int) = (pp : Int) ∧ wrap64 (((m : Int) - 1).tdiv 2) = (pp : Int) ∧ IntKind.i64.wrap (pp : Int) = (pp : Int) := by
  have a : ((m : Int) - 1) / 2 = (pp : Int) := by omega
  have b : ((m : Int) - 1).tdiv 2 = (pp : Int) := by rw [Int.tdiv_eq_ediv_of_nonneg (by omega)]; exact a
  have c : wrap64 (pp : Int) = (pp : Int) := by unfold wrap64; omega
  exact ⟨a, b, c, by rw [b, c], by rw [IntKind.wrap_i64]; omega⟩

set_option maxRecDepth 100000 in
set_option maxHeartbeats 4000000 in
theorem push_keep (P : Nat → Prop) (base q : Nat) (num : Int) (xs : List It) (t r n k fr cy cr cl : Int) (w : World) (h : QS P w base q num xs) (hlen : xs.length < 64) (hnum : 0 ≤ num ∧ num ≤ 4611686018427387904)
    (hkeep : xs.length = 0 ∨ ¬ Ahead ⟨t, r, n, num + 1, k, fr, cy, cr, cl⟩ (ith xs ((xs.length - 1) / 2))) :
    Calls Try.prog 26 #[.pointer (some ⟨q, 0, none⟩), .int .i64 t, .int .i64 r, .int .i64 n, .agg #[.int .i64 k, .int .i64 fr, .int .i64 cy, .int .u32 cr, .int .i64 cl]] w fun e w' =>
      e = .returned (.int .i64 0) ∧ QS P w' base q (num + 1) (xs ++ [⟨t, r, n, num + 1, k, fr, cy, cr, cl⟩]) ∧ Keeps P w w' := by
  obtain ⟨i0, hi, hz0, hz1, hz2⟩ := info_parts Try.info_item
  obtain ⟨v, s1⟩ := h.start (k := k) (fr := fr) (cy := cy) (cr := cr) (cl := cl) (gr_refl _ none)
  have S1 := hid s1
  clear s1 h
  obtain ⟨m, hm⟩ : ∃ m, Hid (xs.length = m) := ⟨_, hid rfl⟩
  have Hkeep := hid hkeep
  rw [hm.out] at hlen
  obtain ⟨u0, u1⟩ := hnum
  clear hkeep
  obtain ⟨a, cap, hv⟩ : ∃ a cap, v = .slice a m cap := by
    rcases S1.out.row.2 with ⟨rfl, h0⟩ | ⟨g, cap, cur, rfl, _⟩
    · rw [← hm.out, h0]; exact ⟨_, _, rfl⟩
    · rw [← hm.out]; exact ⟨_, _, rfl⟩
  subst hv
  have c0 := S1.out.que.c0
  have c2 := S1.out.que.c2
  have hm64 : ((m : Int) == 64) = false := by simp; omega
  go_enter Try.func26, Try.ntmps26
  go_wp2_with fail
  go_quiet (fail)
  obtain ⟨w2, hw2⟩ : ∃ w2, (w.alloc (.cells #[.int .i64 k, .int .i64 fr, .int .i64 cy, .int .u32 cr, .int .i64 cl] 37)).drewN nq = w2 := ⟨_, rfl⟩
  have G2 : (w.alloc (.cells #[.int .i64 k, .int .i64 fr, .int .i64 cy, .int .u32 cr, .int .i64 cl] 37)).grownBy w2 none := hw2 ▸ gr_drewN (gr_refl _ none) nq
  rw [hw2]
  clear hw2 c0 c2 hm64
  have S2 := hid (S1.out.grown G2)
  clear G2 S1
  have c1 := S2.out.que.c1
  have z1 := S2.out.que.f 1
  have wu : IntKind.u64.wrap (num + 1) = num + 1 := by rw [IntKind.wrap_u64]; omega
  go_wp2_with fail
  obtain ⟨w3, hw3⟩ : ∃ w3, w2.setCell ⟨q, 1, none⟩ (.int .u64 (num + 1)) = w3 := ⟨_, rfl⟩
  have S3 : Hid (QW P w w3 base q w.heap.size (num + 1) (.slice a m cap) xs k fr cy cr cl) := hid (hw3 ▸ S2.out.count (num + 1))
  rw [hw3]
  clear hw3 S2 c1 z1 wu
  have c1 := S3.out.que.c1
  have c2 := S3.out.que.c2
  have z2 := S3.out.que.f 2
  have b0 := cell_of S3.out.box 0 (.int .i64 k) rfl
  have b1 := cell_of S3.out.box 1 (.int .i64 fr) rfl
  have b2 := cell_of S3.out.box 2 (.int .i64 cy) rfl
  have b3 := cell_of S3.out.box 3 (.int .u32 cr) rfl
  have b4 := cell_of S3.out.box 4 (.int .i64 cl) rfl
  have A3 := gr_alloc (gr_refl w3 none) (.cells (itC ⟨t, r, n, num + 1, k, fr, cy, cr, cl⟩).toArray 89)
  have S3d := hid (S3.out.grown (gr_drew (gr_refl w3 none)))
  have Hrow : Hid ((w3.drew.alloc (.cells (itC ⟨t, r, n, num + 1, k, fr, cy, cr, cl⟩).toArray 89)).ownsRow base 89 9 (.slice a m cap) m (flatC xs)) := hid (by have := S3d.out.row.alloc (.cells (itC ⟨t, r, n, num + 1, k, fr, cy, cr, cl⟩).toArray 89); rw [hm.out] at this; exact this)
  have a1 := gr_cell A3 c1
  have a2 := gr_cell A3 c2
  have Hcn := hid (cells_new w3.drew (itC ⟨t, r, n, num + 1, k, fr, cy, cr, cl⟩) 89)
  have Hbb : Hid (base ≤ w3.heap.size) := hid S3.out.bb
  unfold itC at a1 a2
  clear A3
  apply wp_behind (fun g c W => Hid (QW P w W base q w.heap.size (num + 1) (.slice (some ⟨g, 0, none⟩) (m + 1) c) (xs ++ [⟨t, r, n, num + 1, k, fr, cy, cr, cl⟩]) k fr cy cr cl))
  case h =>
    go_region_law (refine step_append_at rfl (.tmp 37) (.tmp 47) 83 rfl base 89 i0 _ 9 72 Try.underlying83 hi hz0 hz1 hz2 rfl (by decide) (.slice a m cap) m (flatC xs) (by simp [Act.eval]) Hrow.out ⟨w3.heap.size, 0, none⟩ 1 1 (itC ⟨t, r, n, num + 1, k, fr, cy, cr, cl⟩) (by simp [Act.eval]) rfl Hcn.out (by simp [itC, Value.oneCell']) (by unfold maxLen; omega) (by omega) (by have := Hbb.out; simp; omega) ?_; intro v4 w4 hown4 hg4 hat4; obtain ⟨g4, cap4, rfl⟩ := own_slice hown4; have S5 : Hid (QW P w (w4.setCell ⟨q, 2, none⟩ (.slice (some ⟨g4, 0, none⟩) (m + 1) cap4)) base q w.heap.size (num + 1) (.slice (some ⟨g4, 0, none⟩) (m + 1) cap4) (xs ++ [⟨t, r, n, num + 1, k, fr, cy, cr, cl⟩]) k fr cy cr cl) := hid (by have hL := S3d.out.lay (by rw [hm.out]; exact hown4) hg4 (by rw [hm.out]; exact hat4); rw [hm.out] at hL; exact hL); have hq4 := (S3d.out.que.kept (World.grownBy_alloc _ (.cells (itC ⟨t, r, n, num + 1, k, fr, cy, cr, cl⟩).toArray 89) none) (by simp)).kept hg4 (fun e => S3d.out.nq e.symm); have k2 := hq4.c2; have zk := hq4.f 2; clear hq4 hown4 hg4 hat4)
    all_goals exact ⟨g4, cap4, rfl, S5⟩
  case k =>
    intro g4 cap4 w5 S5
    clear a1 a2 c1 c2 z2 b0 b1 b2 b3 b4 S3d Hrow Hcn S3
    have c2 := S5.out.que.c2
    by_cases hm0 : m = 0
    · subst hm0
      go_wp2_with fail
      refine wp_loop_rounds 1 ?_
      rw [rounds_succ]
      go_wp2_with fail
      go_quiet (fail)
      have S6 := S5.out.grown (gr_drewN (gr_refl w5 none) nq)
      go_wp2_with fail
      go_ret
      exact ⟨rfl, S6.qs, S6.keep⟩
    · obtain ⟨pp, hpp⟩ : ∃ pp, Hid ((m - 1) / 2 = pp) := ⟨_, hid rfl⟩
      have hpm : pp < m := by have := hpp.out; omega
      obtain ⟨y, hy⟩ : ∃ y, Hid (ith xs pp = y) := ⟨_, hid rfl⟩
      have hna : decide (Ahead ⟨t, r, n, num + 1, k, fr, cy, cr, cl⟩ y) = false := by
        rcases Hkeep.out with h0 | h0
        · rw [hm.out] at h0; omega
        · rw [hm.out, hpp.out, hy.out] at h0; simpa using h0
      have Hna := hid hna
      have hrow := S5.out.row
      have hl5 : (xs ++ [(⟨t, r, n, num + 1, k, fr, cy, cr, cl⟩ : It)]).length = m + 1 := by simp [hm.out]
      rw [hl5] at hrow
      obtain ⟨i0', i1, i2, i3, i4, i5, i6, i7, i8⟩ := row_item hrow hl5 (i := m) (by omega) (x := ⟨t, r, n, num + 1, k, fr, cy, cr, cl⟩) (by rw [← hm.out]; exact ith_snoc_last _ _)
      obtain ⟨j0, j1, j2, j3, j4, j5, j6, j7, j8⟩ := row_item hrow hl5 (i := pp) (by omega) (x := y) (by rw [ith_snoc_lt _ (by rw [hm.out]; exact hpm), hy.out])
      simp only at i0' i1 i2 i3 i4 i5 i6 i7 i8
      have x1 : IntKind.i64.wrap ((m : Int) - 1) = (m : Int) - 1 := by rw [IntKind.wrap_i64]; omega
      obtain ⟨xq, xt, xw, xz, x2⟩ := quo_half m pp hpp.out (by omega) hlen
      have x4 : (pp : Int) < (m : Int) + 1 := by omega
      have x0 : (0 : Int) ≤ (pp : Int) := by omega
      have x3 : (pp : Int) ≤ (m : Int) := by omega
      have x5 : pp < m + 1 := by omega
      have x6 : 0 ≤ (m : Int) - 1 := by omega
      have x7 : (0 : Int) < (m : Int) := by omega
      have x8 : (m : Int) < (m : Int) + 1 := by omega
      have x9 : 0 < m := by omega
      have xd : decide ((0 : Int) < (m : Int)) = true := by simp; omega
      clear hrow hna hl5
      go_wp2_with fail
      refine wp_loop_rounds 1 ?_
      rw [rounds_succ]
      go_wp2_with fail
      have n0 := grn_cell c2
      have n1 := grn_cell i0'
      have n2 := grn_cell i1
      have n3 := grn_cell i2
      have n4 := grn_cell i3
      have n5 := grn_cell i4
      have n6 := grn_cell i5
      have n7 := grn_cell i6
      have n8 := grn_cell i7
      have n9 := grn_cell i8
      have n10 := grn_cell j0
      have n11 := grn_cell j1
      have n12 := grn_cell j2
      have n13 := grn_cell j3
      have n14 := grn_cell j4
      have n15 := grn_cell j5
      have n16 := grn_cell j6
      have n17 := grn_cell j7
      have n18 := grn_cell j8
      clear c2 i0' i1 i2 i3 i4 i5 i6 i7 i8 j0 j1 j2 j3 j4 j5 j6 j7 j8
      refine wp_region_grown (by kernel_rfl) (by kernel_rfl) ?_
      repeat (go_big_quiet_step ((go_at_call 42; refine (ahead_any ⟨t, r, n, num + 1, k, fr, cy, cr, cl⟩ y _).mono ?_; rintro e w6 ⟨rfl, g6⟩; rw [Hna.out]; exact ⟨rfl, ⟨_, gr_trans (Grn.gr _) g6⟩, rfl⟩)))
      refine wpQuiet_nil ?_
      rintro _ ⟨⟨w7, g7⟩, rfl⟩
      have S7 := S5.out.grown g7
      clear n0 n1 n2 n3 n4 n5 n6 n7 n8 n9 n10 n11 n12 n13 n14 n15 n16 n17 n18
      go_wp2_with fail
      go_ret
      exact ⟨rfl, S7.qs, S7.keep⟩
end Go.Proofs.Ytkcgpbehicjidaa
