/- queue.Push: an item rises to its place. -/
import Derived.Test.YtkcgpbehicjidaaQueC
import Derived.Test.YtkcgpbehicjidaaQueE
import Derived.Test.YtkcgpbehicjidaaQueG
namespace Go.Proofs.Ytkcgpbehicjidaa
open Go.RowKit Go.Lib

theorem HeapUp.snoc {xs : List It} (h : IsHeap xs) (x : It) : HeapUp (xs ++ [x]) xs.length := by
  constructor
  · intro j j0 hj hne
    have hj' : j < xs.length := by simp at hj; omega
    rw [ith_snoc_lt x hj', ith_snoc_lt x (by omega)]
    exact h j j0 hj'
  · intro j j0 hj hp h0
    simp at hj
    omega

set_option maxRecDepth 100000 in
set_option maxHeartbeats 4000000 in
theorem push_any (P : Nat → Prop) (base q : Nat) (num : Int) (xs : List It) (t r n k fr cy cr cl : Int) (w : World) (h : QS P w base q num xs) (hlen : xs.length < 64) (hnum : 0 ≤ num ∧ num ≤ 4611686018427387904) (hheap : IsHeap xs) :
    Calls Try.prog 26 #[.pointer (some ⟨q, 0, none⟩), .int .i64 t, .int .i64 r, .int .i64 n, .agg #[.int .i64 k, .int .i64 fr, .int .i64 cy, .int .u32 cr, .int .i64 cl]] w fun e w' =>
      e = .returned (.int .i64 0) ∧ (∃ ys, (ys.Perm (xs ++ [⟨t, r, n, num + 1, k, fr, cy, cr, cl⟩]) ∧ IsHeap ys) ∧ QS P w' base q (num + 1) ys) ∧ Keeps P w w' := by
  obtain ⟨i0, hi, hz0, hz1, hz2⟩ := info_parts Try.info_item
  obtain ⟨v, s1⟩ := h.start (k := k) (fr := fr) (cy := cy) (cr := cr) (cl := cl) (gr_refl _ none)
  have S1 := hid s1
  clear s1 h
  obtain ⟨m, hm⟩ : ∃ m, Hid (xs.length = m) := ⟨_, hid rfl⟩
  have Hup := hid (HeapUp.snoc hheap ⟨t, r, n, num + 1, k, fr, cy, cr, cl⟩)
  rw [hm.out] at hlen
  obtain ⟨u0, u1⟩ := hnum
  clear hheap
  obtain ⟨a, cap, hv⟩ : ∃ a cap, v = .slice a m cap := by
    rcases S1.out.row.2 with ⟨rfl, h0⟩ | ⟨g, cap, cur, rfl, _⟩
    · rw [← hm.out, h0]; exact ⟨_, _, rfl⟩
    · rw [← hm.out]; exact ⟨_, _, rfl⟩
  subst hv
  have c0 := S1.out.que.c0
  have c2 := S1.out.que.c2
  have hm64 : ((m : Int) == 64) = false := by simp; omega
  go_enter Try.func26, Try.ntmps26
  go_wp2_with fail
  go_quiet (fail)
  obtain ⟨w2, hw2⟩ : ∃ w2, (w.alloc (.cells #[.int .i64 k, .int .i64 fr, .int .i64 cy, .int .u32 cr, .int .i64 cl] 37)).drewN nq = w2 := ⟨_, rfl⟩
  have G2 : (w.alloc (.cells #[.int .i64 k, .int .i64 fr, .int .i64 cy, .int .u32 cr, .int .i64 cl] 37)).grownBy w2 none := hw2 ▸ gr_drewN (gr_refl _ none) nq
  rw [hw2]
  clear hw2 c0 c2 hm64
  have S2 := hid (S1.out.grown G2)
  clear G2 S1
  have c1 := S2.out.que.c1
  have z1 := S2.out.que.f 1
  have wu : IntKind.u64.wrap (num + 1) = num + 1 := by rw [IntKind.wrap_u64]; omega
  go_wp2_with fail
  obtain ⟨w3, hw3⟩ : ∃ w3, w2.setCell ⟨q, 1, none⟩ (.int .u64 (num + 1)) = w3 := ⟨_, rfl⟩
  have S3 : Hid (QW P w w3 base q w.heap.size (num + 1) (.slice a m cap) xs k fr cy cr cl) := hid (hw3 ▸ S2.out.count (num + 1))
  rw [hw3]
  clear hw3 S2 c1 z1 wu
  have c1 := S3.out.que.c1
  have c2 := S3.out.que.c2
  have z2 := S3.out.que.f 2
  have b0 := cell_of S3.out.box 0 (.int .i64 k) rfl
  have b1 := cell_of S3.out.box 1 (.int .i64 fr) rfl
  have b2 := cell_of S3.out.box 2 (.int .i64 cy) rfl
  have b3 := cell_of S3.out.box 3 (.int .u32 cr) rfl
  have b4 := cell_of S3.out.box 4 (.int .i64 cl) rfl
  have A3 := gr_alloc (gr_refl w3 none) (.cells (itC ⟨t, r, n, num + 1, k, fr, cy, cr, cl⟩).toArray 89)
  have S3d := hid (S3.out.grown (gr_drew (gr_refl w3 none)))
  have Hrow : Hid ((w3.drew.alloc (.cells (itC ⟨t, r, n, num + 1, k, fr, cy, cr, cl⟩).toArray 89)).ownsRow base 89 9 (.slice a m cap) m (flatC xs)) := hid (by have := S3d.out.row.alloc (.cells (itC ⟨t, r, n, num + 1, k, fr, cy, cr, cl⟩).toArray 89); rw [hm.out] at this; exact this)
  have a1 := gr_cell A3 c1
  have a2 := gr_cell A3 c2
  have Hcn := hid (cells_new w3.drew (itC ⟨t, r, n, num + 1, k, fr, cy, cr, cl⟩) 89)
  have Hbb : Hid (base ≤ w3.heap.size) := hid S3.out.bb
  unfold itC at a1 a2
  clear A3
  apply wp_behind (fun g c W => Hid (QW P w W base q w.heap.size (num + 1) (.slice (some ⟨g, 0, none⟩) (m + 1) c) (xs ++ [⟨t, r, n, num + 1, k, fr, cy, cr, cl⟩]) k fr cy cr cl))
  case h =>
    go_region_law (refine step_append_at rfl (.tmp 37) (.tmp 47) 83 rfl base 89 i0 _ 9 72 Try.underlying83 hi hz0 hz1 hz2 rfl (by decide) (.slice a m cap) m (flatC xs) (by simp [Act.eval]) Hrow.out ⟨w3.heap.size, 0, none⟩ 1 1 (itC ⟨t, r, n, num + 1, k, fr, cy, cr, cl⟩) (by simp [Act.eval]) rfl Hcn.out (by simp [itC, Value.oneCell']) (by unfold maxLen; omega) (by omega) (by have := Hbb.out; simp; omega) ?_; intro v4 w4 hown4 hg4 hat4; obtain ⟨g4, cap4, rfl⟩ := own_slice hown4; have S5 : Hid (QW P w (w4.setCell ⟨q, 2, none⟩ (.slice (some ⟨g4, 0, none⟩) (m + 1) cap4)) base q w.heap.size (num + 1) (.slice (some ⟨g4, 0, none⟩) (m + 1) cap4) (xs ++ [⟨t, r, n, num + 1, k, fr, cy, cr, cl⟩]) k fr cy cr cl) := hid (by have hL := S3d.out.lay (by rw [hm.out]; exact hown4) hg4 (by rw [hm.out]; exact hat4); rw [hm.out] at hL; exact hL); have hq4 := (S3d.out.que.kept (World.grownBy_alloc _ (.cells (itC ⟨t, r, n, num + 1, k, fr, cy, cr, cl⟩).toArray 89) none) (by simp)).kept hg4 (fun e => S3d.out.nq e.symm); have k2 := hq4.c2; have zk := hq4.f 2; clear hq4 hown4 hg4 hat4)
    all_goals exact ⟨g4, cap4, rfl, S5⟩
  case k =>
    intro g4 cap4 w5 S5
    clear a1 a2 c1 c2 z2 b0 b1 b2 b3 b4 S3d Hrow Hcn S3
    have HQ5 : Hid (QS P w5 base q (num + 1) (xs ++ [⟨t, r, n, num + 1, k, fr, cy, cr, cl⟩])) := hid S5.out.qs
    have HK5 : Hid (Keeps P w w5) := hid S5.out.keep
    have c2 := S5.out.que.c2
    obtain ⟨ne, hne⟩ : ∃ ne, Hid (m + 1 = ne) := ⟨_, hid rfl⟩
    have hneb : 1 ≤ ne ∧ ne ≤ 64 := by have := hne.out; omega
    obtain ⟨nb0, nb1⟩ := hneb
    go_wp2_with fail
    clear c2 S5
    go_loopw [11] (fun vi wr => ∃ (i : Nat) (ys : List It), vi = .int .i64 i ∧ i < ne ∧ Hid (HeapUp ys i) ∧ Hid (ys.Perm (xs ++ [⟨t, r, n, num + 1, k, fr, cy, cr, cl⟩])) ∧ Hid (QS P wr base q (num + 1) ys) ∧ Hid (Keeps P w wr)) (fun vi _ => (intOf vi).toNat)
    case atStart => exact ⟨m, _, rfl, by have := hne.out; omega, hid (by have := Hup.out; rwa [hm.out] at this), hid (List.Perm.refl _), HQ5, HK5⟩
    case round =>
      obtain ⟨i, ys, rfl, hi, HU, HP, HQ, HK⟩ := hrel
      obtain ⟨v, hq, hr, hnq, hbb, hPk⟩ := HQ.out.ex
      have hl : ys.length = ne := by rw [HP.out.length_eq, ← hne.out]; simp [hm.out]
      rw [hl] at hr
      obtain ⟨g, cap', rfl⟩ : ∃ g cap', v = .slice (some ⟨g, 0, none⟩) ne cap' := by
        rcases hr.2 with ⟨_, h0⟩ | ⟨g, cap', cur, e, _⟩
        · omega
        · exact ⟨g, cap', e⟩
      have Hq := hid hq
      have Hr := hid hr
      have Hl := hid hl
      have Hx := hid (And.intro hnq (And.intro hbb hPk))
      have c2 := hq.c2
      clear hq hr hl hnq hbb hPk
      by_cases hi0 : i = 0
      · subst hi0
        have hheap := hid (HU.out.done (by intro h; omega))
        go_wp2_with fail
        go_quiet (fail)
        have HQ9 := hid (HQ.out.grown (gr_drewN (gr_refl wr none) nq))
        have HK9 := hid (HK.out.trans (Keeps.of_gr (gr_drewN (gr_refl wr none) nq) fun k hk => ⟨HQ.out.lt k hk, by simp⟩))
        go_wp2_with fail
        go_ret
        exact ⟨rfl, ⟨ys, ⟨HP.out, hheap.out⟩, HQ9.out⟩, HK9.out⟩
      · obtain ⟨pp, hpp⟩ : ∃ pp, Hid ((i - 1) / 2 = pp) := ⟨_, hid rfl⟩
        have hpi : pp < i := by have := hpp.out; omega
        obtain ⟨xq, xt, xw, xz, x2⟩ := quo_half i pp hpp.out (by omega) (by omega)
        obtain ⟨x, hx⟩ : ∃ x, Hid (ith ys i = x) := ⟨_, hid rfl⟩
        obtain ⟨y, hy⟩ : ∃ y, Hid (ith ys pp = y) := ⟨_, hid rfl⟩
        obtain ⟨i0', i1, i2, i3, i4, i5, i6, i7, i8⟩ := row_item Hr.out Hl.out (i := i) hi hx.out
        obtain ⟨j0, j1, j2, j3, j4, j5, j6, j7, j8⟩ := row_item Hr.out Hl.out (i := pp) (by omega) hy.out
        have x1 : IntKind.i64.wrap ((i : Int) - 1) = (i : Int) - 1 := by rw [IntKind.wrap_i64]; omega
        have x4 : (pp : Int) < (ne : Int) := by omega
        have x0 : (0 : Int) ≤ (pp : Int) := by omega
        have x5 : (i : Int) < (ne : Int) := by omega
        have x6 : 0 ≤ (i : Int) - 1 := by omega
        have x7 : (0 : Int) < (i : Int) := by omega
        have x9 : 0 < i := by omega
        have xd : decide ((0 : Int) < (i : Int)) = true := by simp; omega
        have n0 := grn_cell c2
        have n1 := grn_cell i0'
        have n2 := grn_cell i1
        have n3 := grn_cell i2
        have n4 := grn_cell i3
        have n5 := grn_cell i4
        have n6 := grn_cell i5
        have n7 := grn_cell i6
        have n8 := grn_cell i7
        have n9 := grn_cell i8
        have n10 := grn_cell j0
        have n11 := grn_cell j1
        have n12 := grn_cell j2
        have n13 := grn_cell j3
        have n14 := grn_cell j4
        have n15 := grn_cell j5
        have n16 := grn_cell j6
        have n17 := grn_cell j7
        have n18 := grn_cell j8
        clear c2 i0' i1 i2 i3 i4 i5 i6 i7 i8 j0 j1 j2 j3 j4 j5 j6 j7 j8
        go_wp2_with fail
        cases hah : decide (Ahead x y) with
        | false =>
          have Hah := hid hah
          clear hah
          have hheap := hid (HU.out.done (by intro _; rw [hpp.out, hx.out, hy.out]; exact of_decide_eq_false Hah.out))
          refine wp_region_grown (by kernel_rfl) (by kernel_rfl) ?_
          repeat (go_big_quiet_step ((go_at_call 42; refine (ahead_any x y _).mono ?_; rintro e w6 ⟨rfl, g6⟩; rw [Hah.out]; exact ⟨rfl, ⟨_, gr_trans (Grn.gr _) g6⟩, rfl⟩)))
          refine wpQuiet_nil ?_
          rintro w7 ⟨X, hX⟩
          have g7 : wr.grownBy w7 none := hX ▸ X.gr
          have HQ9 := hid (HQ.out.grown g7)
          have HK9 := hid (HK.out.trans (Keeps.of_gr g7 fun k hk => ⟨HQ.out.lt k hk, by simp⟩))
          clear hX X g7 n0 n1 n2 n3 n4 n5 n6 n7 n8 n9 n10 n11 n12 n13 n14 n15 n16 n17 n18
          go_wp2_with fail
          go_ret
          exact ⟨rfl, ⟨ys, ⟨HP.out, hheap.out⟩, HQ9.out⟩, HK9.out⟩
        | true =>
          have Hah := hid hah
          clear hah
          refine wp_region_grown (by kernel_rfl) (by kernel_rfl) ?_
          repeat (go_big_quiet_step ((go_at_call 42; refine (ahead_any x y _).mono ?_; rintro e w6 ⟨rfl, g6⟩; rw [Hah.out]; exact ⟨rfl, ⟨_, gr_trans (Grn.gr _) g6⟩, rfl⟩)))
          refine wpQuiet_nil ?_
          rintro w6 ⟨X, hX⟩
          have g6 : wr.grownBy w6 none := hX ▸ X.gr
          have Hq6 := hid (Hq.out.kept g6 (by simp))
          have hr' := Hr.out.kept g6 (.inr (by simp [Value.ownBlock]))
          have HK6 := hid (HK.out.trans (Keeps.of_gr g6 fun k hk => ⟨HQ.out.lt k hk, by simp⟩))
          have Hs6 := hid g6.size
          clear hX X g6 n0 n1 n2 n3 n4 n5 n6 n7 n8 n9 n10 n11 n12 n13 n14 n15 n16 n17 n18
          obtain ⟨i0', i1, i2, i3, i4, i5, i6, i7, i8⟩ := row_item hr' Hl.out (i := i) hi hx.out
          obtain ⟨j0, j1, j2, j3, j4, j5, j6, j7, j8⟩ := row_item hr' Hl.out (i := pp) (by omega) hy.out
          have c2 := Hq6.out.c2
          have f0 := hr'.frozenAt (i * 9)
          have h0 := hr'.frozenAt (pp * 9)
          have f1 := hr'.frozenAt (i * 9 + 1)
          have h1 := hr'.frozenAt (pp * 9 + 1)
          have f2 := hr'.frozenAt (i * 9 + 2)
          have h2 := hr'.frozenAt (pp * 9 + 2)
          have f3 := hr'.frozenAt (i * 9 + 3)
          have h3 := hr'.frozenAt (pp * 9 + 3)
          have f4 := hr'.frozenAt (i * 9 + 4)
          have h4 := hr'.frozenAt (pp * 9 + 4)
          have f5 := hr'.frozenAt (i * 9 + 5)
          have h5 := hr'.frozenAt (pp * 9 + 5)
          have f6 := hr'.frozenAt (i * 9 + 6)
          have h6 := hr'.frozenAt (pp * 9 + 6)
          have f7 := hr'.frozenAt (i * 9 + 7)
          have h7 := hr'.frozenAt (pp * 9 + 7)
          have f8 := hr'.frozenAt (i * 9 + 8)
          have h8 := hr'.frozenAt (pp * 9 + 8)
          have q1 : ¬ i * 9 = pp * 9 + 1 := by omega
          have r1 : ¬ pp * 9 + 1 = i * 9 := by omega
          have q2 : ¬ i * 9 = pp * 9 + 2 := by omega
          have r2 : ¬ pp * 9 + 2 = i * 9 := by omega
          have q3 : ¬ i * 9 = pp * 9 + 3 := by omega
          have r3 : ¬ pp * 9 + 3 = i * 9 := by omega
          have q4 : ¬ i * 9 = pp * 9 + 4 := by omega
          have r4 : ¬ pp * 9 + 4 = i * 9 := by omega
          have q5 : ¬ i * 9 = pp * 9 + 5 := by omega
          have r5 : ¬ pp * 9 + 5 = i * 9 := by omega
          have q6 : ¬ i * 9 = pp * 9 + 6 := by omega
          have r6 : ¬ pp * 9 + 6 = i * 9 := by omega
          have q7 : ¬ i * 9 = pp * 9 + 7 := by omega
          have r7 : ¬ pp * 9 + 7 = i * 9 := by omega
          have q8 : ¬ i * 9 = pp * 9 + 8 := by omega
          have r8 : ¬ pp * 9 + 8 = i * 9 := by omega
          have q0 : ¬ i * 9 = pp * 9 := by omega
          have r0 : ¬ pp * 9 = i * 9 := by omega
          have s1 : ¬ i * 9 + 1 = pp * 9 := by omega
          have t1 : ¬ pp * 9 = i * 9 + 1 := by omega
          have s2 : ¬ i * 9 + 2 = pp * 9 := by omega
          have t2 : ¬ pp * 9 = i * 9 + 2 := by omega
          have s3 : ¬ i * 9 + 3 = pp * 9 := by omega
          have t3 : ¬ pp * 9 = i * 9 + 3 := by omega
          have s4 : ¬ i * 9 + 4 = pp * 9 := by omega
          have t4 : ¬ pp * 9 = i * 9 + 4 := by omega
          have s5 : ¬ i * 9 + 5 = pp * 9 := by omega
          have t5 : ¬ pp * 9 = i * 9 + 5 := by omega
          have s6 : ¬ i * 9 + 6 = pp * 9 := by omega
          have t6 : ¬ pp * 9 = i * 9 + 6 := by omega
          have s7 : ¬ i * 9 + 7 = pp * 9 := by omega
          have t7 : ¬ pp * 9 = i * 9 + 7 := by omega
          have s8 : ¬ i * 9 + 8 = pp * 9 := by omega
          have t8 : ¬ pp * 9 = i * 9 + 8 := by omega
          have HR' := hid hr'
          clear hr'
          go_wp2_with fail
          apply wp_behind0 (fun W => Hid (w6.grownBy W (some g) ∧ W.ownsRow base 89 9 (.slice (some ⟨g, 0, none⟩) ne cap') ne (flatC (sw ys i pp))))
          case h =>
            go_region
            all_goals (refine And.intro rfl (hid ⟨?_, ?_⟩))
            all_goals first
              | exact gr_drew (gr_trans (row_store_gr (i := i) y) (row_store_gr (i := pp) x))
              | exact (by unfold sw; rw [hx.out, hy.out]; exact (row_store (row_store HR'.out Hl.out hi y) (by simp [Hl.out]) (by omega) x).drew)
          case k =>
            intro w7 H7
            clear i0' i1 i2 i3 i4 i5 i6 i7 i8 j0 j1 j2 j3 j4 j5 j6 j7 j8 f0 h0 f1 h1 f2 h2 f3 h3 f4 h4 f5 h5 f6 h6 f7 h7 f8 h8 q0 r0 q1 r1 q2 r2 q3 r3 q4 r4 q5 r5 q6 r6 q7 r7 q8 r8 s1 t1 s2 t2 s3 t3 s4 t4 s5 t5 s6 t6 s7 t7 s8 t8 c2
            have HQ9 : Hid (QS P w7 base q (num + 1) (sw ys i pp)) := hid ⟨_, Hq6.out.kept H7.out.1 (by have := Hx.out.1; simpa [Value.ownBlock] using fun e => this (by rw [← e]; rfl)), by rw [sw_length, Hl.out]; exact H7.out.2, Hx.out.1, by have := Hx.out.2.1; have := Hs6.out; have := H7.out.1.size; omega, fun k hk => ⟨by have := (Hx.out.2.2 k hk).1; have := Hs6.out; have := H7.out.1.size; omega, (Hx.out.2.2 k hk).2⟩⟩
            have HK9 : Hid (Keeps P w w7) := hid (HK6.out.trans (Keeps.of_gr H7.out.1 fun k hk => ⟨by have := (Hx.out.2.2 k hk).1; have := Hs6.out; omega, fun e => (Hx.out.2.2 k hk).2.2 e.symm⟩))
            have HU9 : Hid (HeapUp (sw ys i pp) pp) := hid (by have := HU.out.step (by omega) (by rw [Hl.out]; exact hi) (by rw [hpp.out, hx.out, hy.out]; exact of_decide_eq_true Hah.out); rwa [hpp.out] at this)
            have HP9 : Hid ((sw ys i pp).Perm (xs ++ [⟨t, r, n, num + 1, k, fr, cy, cr, cl⟩])) := hid ((sw_perm (by rw [Hl.out]; exact hi) (by rw [Hl.out]; omega)).trans HP.out)
            go_wp2_with fail
            go_roundw
            case rel => first
              | exact ⟨pp, sw ys i pp, rfl, by omega, HU9, HP9, HQ9, HK9⟩
              | ((repeat apply Exists.intro); exact ⟨⟨pp, sw ys i pp, rfl, by omega, HU9, HP9, HQ9, HK9⟩, rfl⟩)
            case measure => simp [intOf]; omega
end Go.Proofs.Ytkcgpbehicjidaa
