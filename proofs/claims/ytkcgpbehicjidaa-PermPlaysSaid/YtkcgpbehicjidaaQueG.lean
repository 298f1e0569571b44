/- queue.Pop, by the contract of sink. -/
import Derived.Test.YtkcgpbehicjidaaQueF
namespace Go.Proofs.Ytkcgpbehicjidaa
open Go.RowKit Go.Lib

theorem set_last {α : Type} {l : List α} {m : Nat} (h : l.length = m + 1) {y : α} : l.set m y = l.take m ++ [y] := by
  apply List.ext_getElem
  · simp [h]
  · intro i h1 h2
    by_cases e : i = m
    · subst e; simp [h]
    · have : i < m := by simp [h] at h1; omega
      rw [List.getElem_set_ne (fun e' => e e'.symm), List.getElem_append_left (by simp [h]; omega)]
      simp
theorem Keeps.weaken {P Q : Nat → Prop} {a b : World} (h : Keeps Q a b) (hpq : ∀ k, P k → Q k) : Keeps P a b := ⟨h.os, h.tape, h.output, h.size, fun k hk => h.block k (hpq k hk)⟩
theorem QS.weaken {P Q : Nat → Prop} {W : World} {base q : Nat} {num : Int} {xs : List It} (h : QS Q W base q num xs) (hpq : ∀ k, P k → Q k) : QS P W base q num xs := by
  obtain ⟨v, hq, hr, hn, hb, hP⟩ := h.ex
  exact ⟨v, hq, hr, hn, hb, fun k hk => hP k (hpq k hk)⟩
theorem QS.wrote {P : Nat → Prop} {W W' : World} {base q b : Nat} {num : Int} {xs : List It} (h : QS P W base q num xs) (hb : P b) (g : W.grownBy W' (some b)) : QS P W' base q num xs := by
  obtain ⟨v, hq, hr, hn, hbb, hP⟩ := h.ex
  exact ⟨v, hq.kept g (by have := (hP b hb).2.1; simp; exact fun e => this e.symm), hr.kept g (.inr (hP b hb).2.2), hn, Nat.le_trans hbb g.size, fun k hk => ⟨Nat.lt_of_lt_of_le (hP k hk).1 g.size, (hP k hk).2⟩⟩
theorem own_cap {w : World} {base e size n cap : Nat} {a : Option Addr} {xs : List Value} (h : w.ownsRow base e size (.slice a n cap) n xs) : n ≤ cap := by
  rcases h.2 with ⟨e, h0⟩ | ⟨g, cap', cur, e, _, _, hn, _⟩
  · omega
  · cases e; exact hn

set_option maxRecDepth 100000 in
set_option maxHeartbeats 8000000 in
theorem pop_with (P : Nat → Prop) (base q : Nat) (num : Int) (xs : List It) (x : It) (R : List It → Prop) (w : World) (h : QS P w base q num xs) (h1 : 1 ≤ xs.length) (h64 : xs.length ≤ 64) (hx : ith xs 0 = x)
    (hs : ∀ (P' : Nat → Prop) W, QS P' W base q num (popL xs) → Calls Try.prog 43 #[.pointer (some ⟨q, 0, none⟩), .int .i64 0] W fun e W' => e = .returned (.tuple #[]) ∧ (∃ ys, R ys ∧ QS P' W' base q num ys) ∧ Keeps P' W W') :
    Calls Try.prog 27 #[.pointer (some ⟨q, 0, none⟩)] w fun e w' => e = .returned (.tuple #[.agg #[.int .i64 x.k, .int .i64 x.fr, .int .i64 x.cy, .int .u32 x.cr, .int .i64 x.cl], .int .i64 x.t, .bool true]) ∧ (∃ ys, R ys ∧ QS P w' base q num ys) ∧ Keeps P w w' := by
  obtain ⟨v, hq, hr, hnq, hbb, hP⟩ := h.ex
  obtain ⟨m, hm⟩ : ∃ m, Hid (xs.length = m + 1) := ⟨xs.length - 1, hid (by omega)⟩
  rw [hm.out] at hr h64
  obtain ⟨g, cap, rfl⟩ := own_slice hr
  have hgq : g ≠ q := by simpa [Value.ownBlock] using hnq
  have hgb := hr.lt g rfl
  have HS := hid hs
  have HP0 := hid hP
  have A0 := gr_alloc (gr_refl w none) (.cells #[.int .i64 0, .int .i64 0, .int .i64 0, .int .u32 0, .int .i64 0] 37)
  have Hq := hid (hq.kept A0 (by simp))
  have Hr := hid (hr.alloc (.cells #[.int .i64 0, .int .i64 0, .int .i64 0, .int .u32 0, .int .i64 0] 37))
  have Hg := hid hgb
  have Hbb := hid hbb
  have Hql := hid hq.lt
  clear h hs hP A0 hq hr hnq hgb hbb
  go_enter Try.func27, Try.ntmps27
  go_wp2_with fail
  refine (qpeek_some q base num g m cap xs x _ Hq.out Hr.out hm.out (by omega) hx).mono ?_
  rintro e w1 ⟨rfl, g1⟩
  obtain ⟨tb, htb⟩ : ∃ tb, w1.heap.size = tb := ⟨_, rfl⟩
  obtain ⟨A, hA⟩ : ∃ A, w1.alloc (.cells #[.int .i64 x.k, .int .i64 x.fr, .int .i64 x.cy, .int .u32 x.cr, .int .i64 x.cl] 37) = A := ⟨_, rfl⟩
  have G1 : w1.grownBy A none := hA ▸ gr_alloc (gr_refl w1 none) _
  have D1 : Hid (A.heap[tb]? = some (.cells #[.int .i64 x.k, .int .i64 x.fr, .int .i64 x.cy, .int .u32 x.cr, .int .i64 x.cl] 37)) := hid (by rw [← htb, ← hA]; exact heap_alloc_new w1 _)
  have GA := hid (gr_trans g1 G1)
  have D0 : Hid (A.heap[w.heap.size]? = some (.cells #[.int .i64 0, .int .i64 0, .int .i64 0, .int .u32 0, .int .i64 0] 37)) := hid (gr_heap GA.out (heap_alloc_new w _) (by simp))
  have Hq2 := hid (Hq.out.kept GA.out (by simp))
  have Hr2 := hid (Hr.out.kept GA.out (.inr (by simp [Value.ownBlock])))
  have Hw1 : Hid (w.heap.size < w1.heap.size) := hid (by have := g1.size; simp at this; omega)
  clear g1 G1 Hq Hr
  have c2 := Hq2.out.c2
  go_wp2_with fail
  have Htb : Hid (w.heap.size < tb) := hid (by rw [← htb]; have := Hw1.out; exact this)
  clear htb hA
  obtain ⟨z, hz⟩ : ∃ z, Hid (ith xs m = z) := ⟨_, hid rfl⟩
  obtain ⟨i0, i1, i2, i3, i4, i5, i6, i7, i8⟩ := row_item Hr2.out hm.out (i := 0) (by omega) hx
  rw [Nat.zero_mul] at i0 i1 i2 i3 i4 i5 i6 i7 i8
  rw [Nat.zero_add] at i1 i2 i3 i4 i5 i6 i7 i8
  obtain ⟨j0, j1, j2, j3, j4, j5, j6, j7, j8⟩ := row_item Hr2.out hm.out (i := m) (by omega) hz.out
  have f0 := Hr2.out.frozenAt 0
  have f1 := Hr2.out.frozenAt 1
  have f2 := Hr2.out.frozenAt 2
  have f3 := Hr2.out.frozenAt 3
  have f4 := Hr2.out.frozenAt 4
  have f5 := Hr2.out.frozenAt 5
  have f6 := Hr2.out.frozenAt 6
  have f7 := Hr2.out.frozenAt 7
  have f8 := Hr2.out.frozenAt 8
  have x1 : (0 : Int) < (m : Int) + 1 := by omega
  have x2 : (0 : Int) ≤ (m : Int) := by omega
  have x3 : (m : Int) < (m : Int) + 1 := by omega
  have HR : Hid (A.ownsRow base 89 9 (.slice (some ⟨g, 0, none⟩) (m + 1) cap) (m + 1) (flatC xs) ∧ Que A q num (.slice (some ⟨g, 0, none⟩) (m + 1) cap)) := hid ⟨Hr2.out, Hq2.out⟩
  apply wp_behind0 (fun W => Hid (A.grownBy W (some g) ∧ W.ownsRow base 89 9 (.slice (some ⟨g, 0, none⟩) (m + 1) cap) (m + 1) (flatC (xs.set 0 z))))
  case h =>
    go_region
    refine And.intro rfl (hid ⟨?_, ?_⟩)
    · have h := row_store_gr (w := A) (g := g) (i := 0) z
      rw [Nat.zero_mul] at h
      simp only [Nat.zero_add] at h
      exact gr_drew h
    · have h := row_store HR.out.1 hm.out (i := 0) (by omega) z
      rw [Nat.zero_mul] at h
      simp only [Nat.zero_add] at h
      exact h.drew
  case k =>
    intro W hW
    have hq3 := HR.out.2.kept hW.out.1 (by simpa using fun e => hgq e.symm)
    have HRW := hid hW.out.2
    have Hq3 := hid hq3
    have GW := hid hW.out.1
    have E1 : Hid (W.heap[tb]? = some (.cells #[.int .i64 x.k, .int .i64 x.fr, .int .i64 x.cy, .int .u32 x.cr, .int .i64 x.cl] 37)) := hid (gr_heap GW.out D1.out (by have := Htb.out; have := Hg.out; simp; omega))
    have E0 : Hid (W.heap[w.heap.size]? = some (.cells #[.int .i64 0, .int .i64 0, .int .i64 0, .int .u32 0, .int .i64 0] 37)) := hid (gr_heap GW.out D0.out (by have := Hg.out; simp; omega))
    have hls : (xs.set 0 z).length = m + 1 := by simp [hm.out]
    obtain ⟨z', hz'⟩ : ∃ z', Hid (ith (xs.set 0 z) m = z') := ⟨_, hid rfl⟩
    clear hq3 hW i0 i1 i2 i3 i4 i5 i6 i7 i8 j0 j1 j2 j3 j4 j5 j6 j7 j8 f0 f1 f2 f3 f4 f5 f6 f7 f8 c2
    obtain ⟨j0, j1, j2, j3, j4, j5, j6, j7, j8⟩ := row_item HRW.out hls (i := m) (by omega) hz'.out
    have f0 := HRW.out.frozenAt (m * 9)
    have f1 := HRW.out.frozenAt (m * 9 + 1)
    have f2 := HRW.out.frozenAt (m * 9 + 2)
    have f3 := HRW.out.frozenAt (m * 9 + 3)
    have f4 := HRW.out.frozenAt (m * 9 + 4)
    have f5 := HRW.out.frozenAt (m * 9 + 5)
    have f6 := HRW.out.frozenAt (m * 9 + 6)
    have f7 := HRW.out.frozenAt (m * 9 + 7)
    have f8 := HRW.out.frozenAt (m * 9 + 8)
    have c2 := Hq3.out.c2
    have z2 := Hq3.out.f 2
    have hqg : q ≠ g := fun e => hgq e.symm
    have hmc : (m : Int) ≤ (cap : Int) := by have := own_cap HRW.out; omega
    go_wp2_with fail
    obtain ⟨B, hB⟩ : ∃ B, ((((((((((W.setCell ⟨g, m * 9, none⟩ (.int .i64 0)).setCell ⟨g, m * 9 + 1, none⟩ (.int .i64 0)).setCell ⟨g, m * 9 + 2, none⟩ (.int .i64 0)).setCell ⟨g, m * 9 + 3, none⟩ (.int .u64 0)).setCell ⟨g, m * 9 + 4, none⟩ (.int .i64 0)).setCell ⟨g, m * 9 + 5, none⟩ (.int .i64 0)).setCell ⟨g, m * 9 + 6, none⟩ (.int .i64 0)).setCell ⟨g, m * 9 + 7, none⟩ (.int .u32 0)).setCell ⟨g, m * 9 + 8, none⟩ (.int .i64 0)).setCell ⟨q, 2, none⟩ (.slice (some ⟨g, 0, none⟩) m cap)) = B := ⟨_, rfl⟩
    obtain ⟨W1, hW1⟩ : ∃ W1, (((((((((W.setCell ⟨g, m * 9, none⟩ (.int .i64 0)).setCell ⟨g, m * 9 + 1, none⟩ (.int .i64 0)).setCell ⟨g, m * 9 + 2, none⟩ (.int .i64 0)).setCell ⟨g, m * 9 + 3, none⟩ (.int .u64 0)).setCell ⟨g, m * 9 + 4, none⟩ (.int .i64 0)).setCell ⟨g, m * 9 + 5, none⟩ (.int .i64 0)).setCell ⟨g, m * 9 + 6, none⟩ (.int .i64 0)).setCell ⟨g, m * 9 + 7, none⟩ (.int .u32 0)).setCell ⟨g, m * 9 + 8, none⟩ (.int .i64 0)) = W1 := ⟨_, rfl⟩
    have gW1 : W.grownBy W1 (some g) := hW1 ▸ row_store_gr (w := W) (g := g) (i := m) ⟨0, 0, 0, 0, 0, 0, 0, 0, 0⟩
    have rW1 := row_store HRW.out hls (i := m) (by omega) ⟨0, 0, 0, 0, 0, 0, 0, 0, 0⟩
    rw [hW1] at rW1
    rw [hW1] at hB
    have hpl : popL xs = (xs.set 0 z).take m := by
      unfold popL
      rw [hm.out, Nat.add_sub_cancel, hz.out]
    rw [set_last hls, flatC_snoc, ← hpl] at rW1
    have rB : B.ownsRow base 89 9 (.slice (some ⟨g, 0, none⟩) m cap) m (flatC (popL xs)) := by
      rw [← hB]
      exact ownsRow_setCell_other (ownsRow_pop (by rw [flatC_length, popL_length, hm.out]; rfl) rW1) (by simpa [Value.ownBlock] using hgq) _
    have qB : Que B q num (.slice (some ⟨g, 0, none⟩) m cap) := by
      rw [← hB]
      exact (Hq3.out.kept gW1 (by simpa using hqg)).set2 _
    have gB : W1.grownBy B (some q) := hB ▸ gr_setRow (gr_refl W1 (some q)) 2 _
    have hsz : W.heap.size ≤ B.heap.size := Nat.le_trans gW1.size gB.size
    have hszA : A.heap.size ≤ W.heap.size := GW.out.size
    have hszw : w.heap.size < A.heap.size := by have := GA.out.size; simp at this; omega
    have E1B := gr_heap gB (gr_heap gW1 E1.out (by have := Htb.out; have := Hg.out; simp; omega)) (by have := Htb.out; have := Hql.out; simp; omega)
    have E0B := gr_heap gB (gr_heap gW1 E0.out (by have := Hg.out; simp; omega)) (by have := Hql.out; simp; omega)
    have hQS : QS (fun k => P k ∨ k = w.heap.size ∨ k = tb) B base q num (popL xs) := ⟨_, qB, by rw [popL_length, hm.out]; exact rB, by simpa [Value.ownBlock] using hgq, by have := Hbb.out; omega, fun k hk => by
      have htbB := lt_of_block E1B
      rcases hk with hk | rfl | rfl
      · have := HP0.out k hk
        exact ⟨by omega, this.2.1, this.2.2⟩
      · exact ⟨by omega, by have := Hql.out; omega, by have := Hg.out; simp [Value.ownBlock]; omega⟩
      · exact ⟨htbB, by have := Hql.out; have := Htb.out; omega, by have := Hg.out; have := Htb.out; simp [Value.ownBlock]; omega⟩⟩
    have hKB : Keeps P w B := by
      refine (Keeps.of_gr (bx_gr GA.out) fun k hk => ⟨(HP0.out k hk).1, by simp⟩).trans ((Keeps.of_gr GW.out fun k hk => ⟨by have := (HP0.out k hk).1; omega, ?_⟩).trans ((Keeps.of_gr gW1 fun k hk => ⟨by have := (HP0.out k hk).1; omega, ?_⟩).trans (Keeps.of_gr gB fun k hk => ⟨by have := (HP0.out k hk).1; have := gW1.size; omega, by have := (HP0.out k hk).2.1; simpa using this⟩)))
      · intro e; exact (HP0.out k hk).2.2 e.symm
      · intro e; exact (HP0.out k hk).2.2 e.symm
    rw [hW1, hB]
    have HQS := hid hQS
    have HKB := hid hKB
    have HE1 := hid E1B
    have HE0 := hid E0B
    clear hB hW1 gW1 rW1 hpl rB qB gB hsz hszA hszw E1B E0B hQS hKB j0 j1 j2 j3 j4 j5 j6 j7 j8 f0 f1 f2 f3 f4 f5 f6 f7 f8 c2 z2
    refine (HS.out _ B HQS.out).mono ?_
    rintro e w8 ⟨rfl, ⟨ys, hRy, hQ8⟩, hK8⟩
    have F1 := (hK8.block tb (.inr (.inr rfl))).trans HE1.out
    have F0 := (hK8.block w.heap.size (.inr (.inl rfl))).trans HE0.out
    have a0 := cell_of F1 0 (.int .i64 x.k) rfl
    have a1 := cell_of F1 1 (.int .i64 x.fr) rfl
    have a2 := cell_of F1 2 (.int .i64 x.cy) rfl
    have a3 := cell_of F1 3 (.int .u32 x.cr) rfl
    have a4 := cell_of F1 4 (.int .i64 x.cl) rfl
    have b0 := cell_of F0 0 (.int .i64 0) rfl
    have b1 := cell_of F0 1 (.int .i64 0) rfl
    have b2 := cell_of F0 2 (.int .i64 0) rfl
    have b3 := cell_of F0 3 (.int .u32 0) rfl
    have b4 := cell_of F0 4 (.int .i64 0) rfl
    have d0 := frozen_of F0 0
    have d1 := frozen_of F0 1
    have d2 := frozen_of F0 2
    have d3 := frozen_of F0 3
    have d4 := frozen_of F0 4
    have HQ8 := hid hQ8
    have HK8 := hid hK8
    have HRy := hid hRy
    clear F1 F0 hQ8 hK8 hRy
    go_wp2_with fail
    refine bodyPost_ret (v := .tuple #[.agg #[.int .i64 x.k, .int .i64 x.fr, .int .i64 x.cy, .int .u32 x.cr, .int .i64 x.cl], .int .i64 x.t, .bool true]) ?_ rfl ⟨rfl, ⟨ys, HRy.out, ?_⟩, ?_⟩
    · simp [results, Try.results27, go_sem, b0, b1, b2, b3, b4]
    · exact (HQ8.out.wrote (b := w.heap.size) (.inr (.inl rfl)) (gr_setRow (gr_setRow (gr_setRow (gr_setRow (gr_setRow (gr_refl w8 (some w.heap.size)) 0 _) 1 _) 2 _) 3 _) 4 _)).weaken (fun k hk => .inl hk)
    · refine HKB.out.trans ((HK8.out.weaken fun k hk => .inl hk).trans (Keeps.of_gr (gr_setRow (gr_setRow (gr_setRow (gr_setRow (gr_setRow (gr_refl w8 (some w.heap.size)) 0 _) 1 _) 2 _) 3 _) 4 _) fun k hk => ⟨?_, ?_⟩))
      · have := (HP0.out k hk).1; have := HKB.out.size; have := HK8.out.size; omega
      · have := (HP0.out k hk).1; simp; omega
end Go.Proofs.Ytkcgpbehicjidaa
