/- What a script of a hold goes by: the queue, the clock, the document's clock and list. -/
import Derived.Test.YtkcgpbehicjidaaPlyD
import Derived.Test.YtkcgpbehicjidaaClockC
namespace Go.Proofs.Ytkcgpbehicjidaa
open Go.RowKit Go.Lib

/-- The places do not fall together. -/
structure Apart (B b wb q : Nat) : Prop where
  bB : b < B
  wB : wb < B
  qB : q + 1 < B
  bq : b ≠ q
  bh : b ≠ q + 1
  wq : wb ≠ q
  wh : wb ≠ q + 1
  bw : b ≠ wb
abbrev P0 (B q : Nat) (sv : Value) : Nat → Prop := fun k => (k < B ∧ k ≠ q) ∨ sv.ownBlock = some k
abbrev P1 (B b wb q : Nat) : Nat → Prop := fun k => k < B ∧ k ≠ q ∧ k ≠ b ∧ k ≠ wb
structure PJ (dl : Int) (B b wb q : Nat) (w3 W : World) (m ba r m2 ba2 r2 : Int) (sv : Value) (ls hs : List It) (num : Int) : Prop where
  ap : Apart B b wb q
  clk : Clk W b m ba r
  tri : Trio 53 W wb m2 ba2 r2
  hld : Hld W (q + 1) q dl
  ls : LS W sv ls
  qs : ∃ ys, (ys.Perm hs ∧ IsHeap ys) ∧ QS (P0 B q sv) W B q num ys
  keep : Keeps (P1 B b wb q) w3 W
  sz : B ≤ W.heap.size
  far : ∀ k, sv.ownBlock = some k → B ≤ k
section
variable {dl : Int} {B b wb q : Nat} {w3 W : World} {m ba r m2 ba2 r2 : Int} {sv : Value} {ls hs : List It} {num : Int}
theorem LS.grown {W' : World} (h : LS W sv ls) (g : W.grownBy W' none) : LS W' sv ls := by
  by_cases h0 : ls = []
  · subst h0
    obtain ⟨a, cap, rfl⟩ := h.slice
    exact .inl ⟨rfl, _, _, rfl⟩
  · exact h.keep g.size fun k hk => g.block k (h.lt (List.length_pos_iff.2 h0) k hk) (by simp)
theorem PJ.grown {W' : World} (h : PJ dl B b wb q w3 W m ba r m2 ba2 r2 sv ls hs num) (g : W.grownBy W' none) : PJ dl B b wb q w3 W' m ba r m2 ba2 r2 sv ls hs num where
  ap := h.ap
  clk := h.clk.kept g (by simp)
  tri := h.tri.kept g (by simp)
  hld := h.hld.gr g
  ls := h.ls.grown g
  qs := by obtain ⟨ys, hy, hq⟩ := h.qs; exact ⟨ys, hy, hq.grown g⟩
  keep := h.keep.trans (Keeps.of_gr g fun k hk => ⟨by have := hk.1; have := h.sz; omega, by simp⟩)
  sz := Nat.le_trans h.sz g.size
  far := h.far
theorem PJ.lsize (h : PJ dl B b wb q w3 W m ba r m2 ba2 r2 sv ls hs num) : ∀ k, sv.ownBlock = some k → k < W.heap.size := by
  obtain ⟨ys, hy, hq⟩ := h.qs
  exact fun k hk => hq.lt k (.inr hk)
/-- The queue has turned. -/
theorem PJ.queue {W' : World} {hs' : List It} {num' : Int} (h : PJ dl B b wb q w3 W m ba r m2 ba2 r2 sv ls hs num) (hq : ∃ ys, (ys.Perm hs' ∧ IsHeap ys) ∧ QS (P0 B q sv) W' B q num' ys) (hk : Keeps (P0 B q sv) W W') : PJ dl B b wb q w3 W' m ba r m2 ba2 r2 sv ls hs' num' where
  ap := h.ap
  clk := (hk.block b (.inl ⟨h.ap.bB, h.ap.bq⟩)).trans h.clk
  tri := (hk.block wb (.inl ⟨h.ap.wB, h.ap.wq⟩)).trans h.tri
  hld := (hk.block (q + 1) (.inl ⟨h.ap.qB, by omega⟩)).trans h.hld
  ls := h.ls.keep hk.size fun k e => hk.block k (.inr e)
  qs := hq
  keep := h.keep.trans (hk.weaken fun k e => .inl ⟨e.1, e.2.1⟩)
  sz := Nat.le_trans h.sz hk.size
  far := h.far
/-- The list has turned. -/
theorem PJ.list {W' : World} {v2 : Value} {ls' : List It} (h : PJ dl B b wb q w3 W m ba r m2 ba2 r2 sv ls hs num) (g : W.grownBy W' none) (hl : LS W' v2 ls') (hv : v2 = sv ∨ ∀ k, v2.ownBlock = some k → W.heap.size ≤ k ∧ k < W'.heap.size) : PJ dl B b wb q w3 W' m ba r m2 ba2 r2 v2 ls' hs num where
  ap := h.ap
  clk := h.clk.kept g (by simp)
  tri := h.tri.kept g (by simp)
  hld := h.hld.gr g
  ls := hl
  qs := by
    obtain ⟨ys, hy, hq⟩ := h.qs
    rcases hv with rfl | hv
    · exact ⟨ys, hy, hq.grown g⟩
    · refine ⟨ys, hy, ?_⟩
      obtain ⟨v, hv1, hv2, hv3, hv4, hv5⟩ := hq.ex
      refine ⟨v, hv1.kept g (by simp), hv2.kept g (by cases v.ownBlock <;> simp), hv3, Nat.le_trans hv4 g.size, ?_⟩
      rintro k (hk | hk)
      · exact ⟨Nat.lt_of_lt_of_le (hv5 k (.inl hk)).1 g.size, (hv5 k (.inl hk)).2⟩
      · have h1 := hv k hk
        refine ⟨h1.2, ?_, ?_⟩
        · have := hv1.lt; omega
        · intro e; have := (hv2.lt _ e).2; omega
  keep := h.keep.trans (Keeps.of_gr g fun k hk => ⟨by have := hk.1; have := h.sz; omega, by simp⟩)
  sz := Nat.le_trans h.sz g.size
  far := by
    rcases hv with rfl | hv
    · exact h.far
    · intro k hk; have := (hv k hk).1; have := h.sz; omega
/-- The clock has turned. -/
theorem PJ.clock {W' : World} {m' ba' r' : Int} (h : PJ dl B b wb q w3 W m ba r m2 ba2 r2 sv ls hs num) (g : W.grownBy W' (some b)) (hc : Clk W' b m' ba' r') : PJ dl B b wb q w3 W' m' ba' r' m2 ba2 r2 sv ls hs num where
  ap := h.ap
  clk := hc
  tri := h.tri.kept g (by have := h.ap.bw; simp; omega)
  hld := gr_heap g h.hld (by have := h.ap.bh; simp; omega)
  ls := h.ls.keep g.size fun k hk => g.block k (h.lsize k hk) (by have := h.far k hk; have := h.ap.bB; simp; omega)
  qs := by obtain ⟨ys, hy, hq⟩ := h.qs; exact ⟨ys, hy, hq.wrote (b := b) (.inl ⟨h.ap.bB, h.ap.bq⟩) g⟩
  keep := h.keep.trans (Keeps.of_gr g fun k hk => ⟨by have := hk.1; have := h.sz; omega, by have := hk.2.2.1; simp; omega⟩)
  sz := Nat.le_trans h.sz g.size
  far := h.far
/-- The document's clock has turned. -/
theorem PJ.doc {W' : World} {m' ba' r' : Int} (h : PJ dl B b wb q w3 W m ba r m2 ba2 r2 sv ls hs num) (g : W.grownBy W' (some wb)) (hc : Trio 53 W' wb m' ba' r') : PJ dl B b wb q w3 W' m ba r m' ba' r' sv ls hs num where
  ap := h.ap
  clk := h.clk.kept g (by have := h.ap.bw; simp; omega)
  tri := hc
  hld := gr_heap g h.hld (by have := h.ap.wh; simp; omega)
  ls := h.ls.keep g.size fun k hk => g.block k (h.lsize k hk) (by have := h.far k hk; have := h.ap.wB; simp; omega)
  qs := by obtain ⟨ys, hy, hq⟩ := h.qs; exact ⟨ys, hy, hq.wrote (b := wb) (.inl ⟨h.ap.wB, h.ap.wq⟩) g⟩
  keep := h.keep.trans (Keeps.of_gr g fun k hk => ⟨by have := hk.1; have := h.sz; omega, by have := hk.2.2.2; simp; omega⟩)
  sz := Nat.le_trans h.sz g.size
  far := h.far
end
set_option maxRecDepth 100000 in
set_option maxHeartbeats 4000000 in
theorem give_none (P : Nat → Prop) (base hb q : Nat) (dl num t : Int) (xs : List It) (w : World) (hh : Hld w hb q dl) (h : QS P w base q num xs) (h0 : xs.length = 0) :
    Calls Try.prog 12 #[.pointer (some ⟨hb, 0, none⟩), .int .i64 t] w fun e w' => e = .returned (.tuple #[.agg #[.int .i64 0, .int .i64 0, .int .i64 0, .int .u32 0, .int .i64 0], .int .i64 0, .bool false]) ∧ w.grownBy w' none := by
  have A := gr_alloc (gr_refl w none) (.cells #[.int .i64 0, .int .i64 0, .int .i64 0, .int .u32 0, .int .i64 0] 37)
  have HN := hid (next_none P base hb q dl num xs _ (hh.gr A) (h.grown A) h0)
  clear A hh h h0
  go_enter Try.func12, Try.ntmps12
  go_wp2_with fail
  refine HN.out.mono ?_
  rintro e w1 ⟨rfl, g1⟩
  have F := gr_heap g1 (heap_alloc_new w _) (by simp)
  have b0 := cell_of F 0 (.int .i64 0) rfl
  have b1 := cell_of F 1 (.int .i64 0) rfl
  have b2 := cell_of F 2 (.int .i64 0) rfl
  have b3 := cell_of F 3 (.int .u32 0) rfl
  have b4 := cell_of F 4 (.int .i64 0) rfl
  have d0 := frozen_of F 0
  have d1 := frozen_of F 1
  have d2 := frozen_of F 2
  have d3 := frozen_of F 3
  have d4 := frozen_of F 4
  have G := hid (bx_gr g1)
  clear F g1
  go_wp2_with fail
  refine bodyPost_ret (v := .tuple #[.agg #[.int .i64 0, .int .i64 0, .int .i64 0, .int .u32 0, .int .i64 0], .int .i64 0, .bool false]) ?_ rfl ⟨rfl, ?_⟩
  · simp [results, Try.results12, go_sem, b0, b1, b2, b3, b4]
  · exact gr_setNew (gr_setNew (gr_setNew (gr_setNew (gr_setNew G.out (Nat.le_refl _) 0 _) (Nat.le_refl _) 1 _) (Nat.le_refl _) 2 _) (Nat.le_refl _) 3 _) (Nat.le_refl _) 4 _
end Go.Proofs.Ytkcgpbehicjidaa
