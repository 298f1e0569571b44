/- perm: Give; Next, Len by the queue's state. -/
import Derived.Test.YtkcgpbehicjidaaQueI
namespace Go.Proofs.Ytkcgpbehicjidaa
open Go.RowKit Go.Lib

theorem QS.open {P : Nat → Prop} {W : World} {base q : Nat} {num : Int} {xs : List It} (h : QS P W base q num xs) (h1 : 1 ≤ xs.length) : ∃ g cap n, xs.length = n + 1 ∧ Que W q num (.slice (some ⟨g, 0, none⟩) (n + 1) cap) ∧ W.ownsRow base 89 9 (.slice (some ⟨g, 0, none⟩) (n + 1) cap) (n + 1) (flatC xs) := by
  obtain ⟨v, hq, hr, hn, hb, hP⟩ := h.ex
  obtain ⟨n, hn'⟩ : ∃ n, xs.length = n + 1 := ⟨xs.length - 1, by omega⟩
  rw [hn'] at hr
  obtain ⟨g, cap, rfl⟩ := own_slice hr
  exact ⟨g, cap, n, hn', hq, hr⟩
theorem QS.slice {P : Nat → Prop} {W : World} {base q : Nat} {num : Int} {xs : List It} (h : QS P W base q num xs) : ∃ a cap, Que W q num (.slice a xs.length cap) := by
  obtain ⟨v, hq, hr, hn, hb, hP⟩ := h.ex
  rcases hr.2 with ⟨rfl, h0⟩ | ⟨g, cap, cur, rfl, _⟩
  · rw [h0]; exact ⟨_, _, hq⟩
  · exact ⟨_, _, hq⟩
theorem QS.more {P : Nat → Prop} {w W : World} {base q k0 : Nat} {num : Int} {xs : List It} (h : QS P w base q num xs) (G : w.grownBy W none) (h0 : w.heap.size ≤ k0) (h1 : k0 < W.heap.size) : QS (fun k => P k ∨ k = k0) W base q num xs := by
  obtain ⟨v, hq, hr, hn, hb, hP⟩ := h.ex
  refine ⟨v, hq.kept G (by simp), hr.kept G (by cases v.ownBlock <;> simp), hn, Nat.le_trans hb G.size, ?_⟩
  rintro k (hk | rfl)
  · exact ⟨Nat.lt_of_lt_of_le (hP k hk).1 G.size, (hP k hk).2⟩
  · exact ⟨h1, by have := hq.lt; omega, fun e => by have := (hr.lt _ e).2; omega⟩
theorem Keeps.rfl' {P : Nat → Prop} {w : World} : Keeps P w w := ⟨rfl, rfl, rfl, Nat.le_refl _, fun _ _ => rfl⟩

theorem next_first (P : Nat → Prop) (base hb q : Nat) (dl num : Int) (xs : List It) (x : It) (w : World) (hh : Hld w hb q dl) (h : QS P w base q num xs) (h1 : 1 ≤ xs.length) (h64 : xs.length ≤ 64) (hx : ith xs 0 = x) :
    Calls Try.prog 15 #[.pointer (some ⟨hb, 0, none⟩)] w fun e w' => e = .returned (.tuple #[.int .i64 x.t, .bool true]) ∧ w.grownBy w' none := by
  obtain ⟨g, cap, n, hn, hq, hr⟩ := h.open h1
  exact pnext_some hb q base dl num g n cap xs x w hh hq hr hn (by omega) hx
theorem len_at (P : Nat → Prop) (base hb q : Nat) (dl num : Int) (xs : List It) (w : World) (hh : Hld w hb q dl) (h : QS P w base q num xs) :
    Calls Try.prog 13 #[.pointer (some ⟨hb, 0, none⟩)] w fun e w' => e = .returned (.int .i64 (xs.length : Int)) ∧ w' = w := by
  obtain ⟨a, cap, hq⟩ := h.slice
  exact plen_at hb q dl num a xs.length cap w hh hq

set_option maxRecDepth 100000 in
set_option maxHeartbeats 4000000 in
theorem give_late (P : Nat → Prop) (base hb q : Nat) (dl num t : Int) (xs : List It) (x : It) (w : World) (hh : Hld w hb q dl) (h : QS P w base q num xs) (h1 : 1 ≤ xs.length) (h64 : xs.length ≤ 64) (hx : ith xs 0 = x) (hl : t < x.t) :
    Calls Try.prog 12 #[.pointer (some ⟨hb, 0, none⟩), .int .i64 t] w fun e w' => e = .returned (.tuple #[.agg #[.int .i64 0, .int .i64 0, .int .i64 0, .int .u32 0, .int .i64 0], .int .i64 0, .bool false]) ∧ w.grownBy w' none := by
  have A := gr_alloc (gr_refl w none) (.cells #[.int .i64 0, .int .i64 0, .int .i64 0, .int .u32 0, .int .i64 0] 37)
  have HN := hid (next_first P base hb q dl num xs x _ (hh.gr A) (h.grown A) h1 h64 hx)
  clear A hh h h1 h64 hx
  go_enter Try.func12, Try.ntmps12
  go_wp2_with fail
  refine HN.out.mono ?_
  rintro e w1 ⟨rfl, g1⟩
  have F := gr_heap g1 (heap_alloc_new w _) (by simp)
  have b0 := cell_of F 0 (.int .i64 0) rfl
  have b1 := cell_of F 1 (.int .i64 0) rfl
  have b2 := cell_of F 2 (.int .i64 0) rfl
  have b3 := cell_of F 3 (.int .u32 0) rfl
  have b4 := cell_of F 4 (.int .i64 0) rfl
  have d0 := frozen_of F 0
  have d1 := frozen_of F 1
  have d2 := frozen_of F 2
  have d3 := frozen_of F 3
  have d4 := frozen_of F 4
  have G := hid (bx_gr g1)
  clear F g1
  go_wp2_with fail
  refine bodyPost_ret (v := .tuple #[.agg #[.int .i64 0, .int .i64 0, .int .i64 0, .int .u32 0, .int .i64 0], .int .i64 0, .bool false]) ?_ rfl ⟨rfl, ?_⟩
  · simp [results, Try.results12, go_sem, b0, b1, b2, b3, b4]
  · exact gr_setNew (gr_setNew (gr_setNew (gr_setNew (gr_setNew G.out (Nat.le_refl _) 0 _) (Nat.le_refl _) 1 _) (Nat.le_refl _) 2 _) (Nat.le_refl _) 3 _) (Nat.le_refl _) 4 _

set_option maxRecDepth 100000 in
set_option maxHeartbeats 4000000 in
theorem give_ok (P : Nat → Prop) (base hb q : Nat) (dl num t : Int) (xs : List It) (x : It) (R : List It → Prop) (w : World) (hh : Hld w hb q dl) (h : QS P w base q num xs) (h1 : 1 ≤ xs.length) (h64 : xs.length ≤ 64) (hx : ith xs 0 = x) (hl : x.t ≤ t)
    (hs : ∀ (P' : Nat → Prop) W, QS P' W base q num (popL xs) → Calls Try.prog 43 #[.pointer (some ⟨q, 0, none⟩), .int .i64 0] W fun e W' => e = .returned (.tuple #[]) ∧ (∃ ys, R ys ∧ QS P' W' base q num ys) ∧ Keeps P' W W') :
    Calls Try.prog 12 #[.pointer (some ⟨hb, 0, none⟩), .int .i64 t] w fun e w' => e = .returned (.tuple #[.agg #[.int .i64 x.k, .int .i64 x.fr, .int .i64 x.cy, .int .u32 x.cr, .int .i64 x.cl], .int .i64 x.t, .bool true]) ∧ (∃ ys, R ys ∧ QS P w' base q num ys) ∧ Keeps P w w' := by
  have A := gr_alloc (gr_refl w none) (.cells #[.int .i64 0, .int .i64 0, .int .i64 0, .int .u32 0, .int .i64 0] 37)
  have HN := hid (next_first P base hb q dl num xs x _ (hh.gr A) (h.grown A) h1 h64 hx)
  have HQ := hid h
  have Hh := hid hh
  have HS := hid hs
  have H1 := hid h1
  have H64 := hid h64
  have Hx := hid hx
  clear A hh h h1 h64 hx hs
  go_enter Try.func12, Try.ntmps12
  go_wp2_with fail
  refine HN.out.mono ?_
  rintro e w1 ⟨rfl, g1⟩
  have F1 := hid (gr_heap g1 (heap_alloc_new w (.cells #[.int .i64 0, .int .i64 0, .int .i64 0, .int .u32 0, .int .i64 0] 37)) (by simp))
  have HQ1 := hid (HQ.out.more (bx_gr g1) (Nat.le_refl _) (lt_of_block F1.out))
  have h1' := (Hh.out.gr (bx_gr g1)).c1
  have G := hid (bx_gr g1)
  clear g1
  go_wp2_with fail
  refine (pop_with _ base q num xs x R w1 HQ1.out H1.out H64.out Hx.out HS.out).mono ?_
  rintro e w2 ⟨rfl, ⟨ys, hR, hQ2⟩, hK2⟩
  have F := (hK2.block w.heap.size (.inr rfl)).trans F1.out
  have b0 := cell_of F 0 (.int .i64 0) rfl
  have b1 := cell_of F 1 (.int .i64 0) rfl
  have b2 := cell_of F 2 (.int .i64 0) rfl
  have b3 := cell_of F 3 (.int .u32 0) rfl
  have b4 := cell_of F 4 (.int .i64 0) rfl
  have d0 := frozen_of F 0
  have d1 := frozen_of F 1
  have d2 := frozen_of F 2
  have d3 := frozen_of F 3
  have d4 := frozen_of F 4
  have HQ2 := hid hQ2
  have HK2 := hid hK2
  have HR := hid hR
  clear F hQ2 hK2 hR h1'
  go_wp2_with fail
  refine bodyPost_ret (v := .tuple #[.agg #[.int .i64 x.k, .int .i64 x.fr, .int .i64 x.cy, .int .u32 x.cr, .int .i64 x.cl], .int .i64 x.t, .bool true]) ?_ rfl ⟨rfl, ⟨ys, HR.out, ?_⟩, ?_⟩
  · simp [results, Try.results12, go_sem, b0, b1, b2, b3, b4]
  · exact (HQ2.out.wrote (b := w.heap.size) (.inr rfl) (gr_setRow (gr_setRow (gr_setRow (gr_setRow (gr_setRow (gr_refl w2 (some w.heap.size)) 0 _) 1 _) 2 _) 3 _) 4 _)).weaken (fun k hk => .inl hk)
  · refine (Keeps.of_gr G.out fun k hk => ⟨HQ.out.lt k hk, by simp⟩).trans ((HK2.out.weaken fun k hk => .inl hk).trans (Keeps.of_gr (gr_setRow (gr_setRow (gr_setRow (gr_setRow (gr_setRow (gr_refl w2 (some w.heap.size)) 0 _) 1 _) 2 _) 3 _) 4 _) fun k hk => ⟨?_, ?_⟩))
    · have := HQ.out.lt k hk; have := G.out.size; have := HK2.out.size; omega
    · have := HQ.out.lt k hk; simp; omega
end Go.Proofs.Ytkcgpbehicjidaa
