/- queue: Peek; one item laid over another. -/
import Derived.Test.YtkcgpbehicjidaaQueH
import Derived.Test.YtkcgpbehicjidaaQueD
namespace Go.Proofs.Ytkcgpbehicjidaa
open Go.RowKit Go.Lib

theorem flatC_set {xs : List It} {i : Nat} (h : i < xs.length) (x : It) :
    (((((((((flatC xs).set (i * 9) (.int .i64 x.t)).set (i * 9 + 1) (.int .i64 x.r)).set (i * 9 + 2) (.int .i64 x.n)).set (i * 9 + 3) (.int .u64 x.u)).set (i * 9 + 4) (.int .i64 x.k)).set (i * 9 + 5) (.int .i64 x.fr)).set (i * 9 + 6) (.int .i64 x.cy)).set (i * 9 + 7) (.int .u32 x.cr)).set (i * 9 + 8) (.int .i64 x.cl) = flatC (xs.set i x) := by
  induction xs generalizing i with
  | nil => simp at h
  | cons y l ih =>
    have e : ∀ (z : It) (m : List It), flatC (z :: m) = itC z ++ flatC m := by intro z m; simp [flatC]
    cases i with
    | zero => simp [e, itC]
    | succ i =>
      rw [List.set_cons_succ, e, e, ← ih (i := i) (by simpa using h)]
      have hs : ∀ (F : List Value) (c : Nat) (u : Value), (itC y ++ F).set ((i + 1) * 9 + c) u = itC y ++ F.set (i * 9 + c) u := by
        intro F c u
        rw [List.set_append_right _ _ (by rw [itC_length]; omega), itC_length]
        congr 2
        omega
      have h0 := hs (flatC l) 0 (.int .i64 x.t)
      simp only [Nat.add_zero] at h0
      rw [h0, hs, hs, hs, hs, hs, hs, hs, hs]

/-- One item laid at i. -/
theorem row_store {w : World} {base g n cap : Nat} {xs : List It} (h : w.ownsRow base 89 9 (.slice (some ⟨g, 0, none⟩) n cap) n (flatC xs)) (hl : xs.length = n) {i : Nat} (hi : i < n) (x : It) :
    (((((((((w.setCell ⟨g, i * 9, none⟩ (.int .i64 x.t)).setCell ⟨g, i * 9 + 1, none⟩ (.int .i64 x.r)).setCell ⟨g, i * 9 + 2, none⟩ (.int .i64 x.n)).setCell ⟨g, i * 9 + 3, none⟩ (.int .u64 x.u)).setCell ⟨g, i * 9 + 4, none⟩ (.int .i64 x.k)).setCell ⟨g, i * 9 + 5, none⟩ (.int .i64 x.fr)).setCell ⟨g, i * 9 + 6, none⟩ (.int .i64 x.cy)).setCell ⟨g, i * 9 + 7, none⟩ (.int .u32 x.cr)).setCell ⟨g, i * 9 + 8, none⟩ (.int .i64 x.cl)).ownsRow base 89 9 (.slice (some ⟨g, 0, none⟩) n cap) n (flatC (xs.set i x)) := by
  rw [← flatC_set (by omega) x]
  exact (((((((((h.stored _ _).1.stored _ _).1.stored _ _).1.stored _ _).1.stored _ _).1.stored _ _).1.stored _ _).1.stored _ _).1.stored _ _).1
theorem row_store_gr {w : World} {g i : Nat} (x : It) : w.grownBy (((((((((w.setCell ⟨g, i * 9, none⟩ (.int .i64 x.t)).setCell ⟨g, i * 9 + 1, none⟩ (.int .i64 x.r)).setCell ⟨g, i * 9 + 2, none⟩ (.int .i64 x.n)).setCell ⟨g, i * 9 + 3, none⟩ (.int .u64 x.u)).setCell ⟨g, i * 9 + 4, none⟩ (.int .i64 x.k)).setCell ⟨g, i * 9 + 5, none⟩ (.int .i64 x.fr)).setCell ⟨g, i * 9 + 6, none⟩ (.int .i64 x.cy)).setCell ⟨g, i * 9 + 7, none⟩ (.int .u32 x.cr)).setCell ⟨g, i * 9 + 8, none⟩ (.int .i64 x.cl)) (some g) :=
  gr_setRow (gr_setRow (gr_setRow (gr_setRow (gr_setRow (gr_setRow (gr_setRow (gr_setRow (gr_setRow (gr_refl w (some g)) _ _) _ _) _ _) _ _) _ _) _ _) _ _) _ _) _ _

set_option maxHeartbeats 2000000 in
theorem qpeek_none (q : Nat) (num : Int) (a : Option Addr) (cap : Nat) (w : World) (h : Que w q num (.slice a 0 cap)) :
    Calls Try.prog 31 #[.pointer (some ⟨q, 0, none⟩)] w fun e w' => e = .returned (.tuple #[.agg #[.int .i64 0, .int .i64 0, .int .i64 0, .int .u32 0, .int .i64 0], .int .i64 0, .bool false]) ∧ w.grownBy w' none := by
  have Hq := hid (h.kept (gr_alloc (gr_refl w none) (.cells #[.int .i64 0, .int .i64 0, .int .i64 0, .int .u32 0, .int .i64 0] 37)) (by simp))
  clear h
  go_enter Try.func31, Try.ntmps31
  go_wp2_with fail
  refine (qlen_at q num a 0 cap _ Hq.out).mono ?_
  rintro e w1 ⟨rfl, rfl⟩
  go_wp2_with fail
  exact bodyPost_ret (v := .tuple #[.agg #[.int .i64 0, .int .i64 0, .int .i64 0, .int .u32 0, .int .i64 0], .int .i64 0, .bool false]) (by simp [results, Try.results31, go_sem]) rfl ⟨rfl, gr_alloc (gr_alloc (gr_refl w none) _) _⟩

set_option maxRecDepth 100000 in
set_option maxHeartbeats 4000000 in
theorem qpeek_some (q base : Nat) (num : Int) (g n cap : Nat) (xs : List It) (x : It) (w : World) (h : Que w q num (.slice (some ⟨g, 0, none⟩) (n + 1) cap)) (hr : w.ownsRow base 89 9 (.slice (some ⟨g, 0, none⟩) (n + 1) cap) (n + 1) (flatC xs)) (hl : xs.length = n + 1) (hn : n < 1000) (hx : ith xs 0 = x) :
    Calls Try.prog 31 #[.pointer (some ⟨q, 0, none⟩)] w fun e w' => e = .returned (.tuple #[.agg #[.int .i64 x.k, .int .i64 x.fr, .int .i64 x.cy, .int .u32 x.cr, .int .i64 x.cl], .int .i64 x.t, .bool true]) ∧ w.grownBy w' none := by
  have A := gr_alloc (gr_refl w none) (.cells #[.int .i64 0, .int .i64 0, .int .i64 0, .int .u32 0, .int .i64 0] 37)
  have Hq := hid (h.kept A (by simp))
  obtain ⟨i0, i1, i2, i3, i4, i5, i6, i7, i8⟩ := row_item (hr.alloc (.cells #[.int .i64 0, .int .i64 0, .int .i64 0, .int .u32 0, .int .i64 0] 37)) hl (i := 0) (by omega) hx
  rw [Nat.zero_mul] at i0 i1 i2 i3 i4 i5 i6 i7 i8
  rw [Nat.zero_add] at i1 i2 i3 i4 i5 i6 i7 i8
  have c2 := Hq.out.c2
  have A' := gr_alloc (gr_refl w none) (.cells #[.int .i64 x.k, .int .i64 x.fr, .int .i64 x.cy, .int .u32 x.cr, .int .i64 x.cl] 37)
  have d2 := (h.kept A' (by simp)).c2
  obtain ⟨j0, _⟩ := row_item (hr.alloc (.cells #[.int .i64 x.k, .int .i64 x.fr, .int .i64 x.cy, .int .u32 x.cr, .int .i64 x.cl] 37)) hl (i := 0) (by omega) hx
  rw [Nat.zero_mul] at j0
  have hg := (hr.lt g rfl).2
  have hgw : g ≠ w.heap.size := by omega
  have hqw : q ≠ w.heap.size := by have := h.lt; omega
  have hn0 : ((n : Int) + 1 == 0) = false := by simp; omega
  have x1 : (0 : Int) < (n : Int) + 1 := by omega
  have x2 : (0 : Int) ≤ (n : Int) := by omega
  clear h hr A A' hl hx
  go_enter Try.func31, Try.ntmps31
  go_wp2_with fail
  refine (qlen_at q num (some ⟨g, 0, none⟩) (n + 1) cap _ Hq.out).mono ?_
  rintro e w1 ⟨rfl, rfl⟩
  go_wp2_with fail
  go_region
  all_goals go_wp2_with fail
  all_goals exact bodyPost_ret (v := .tuple #[.agg #[.int .i64 x.k, .int .i64 x.fr, .int .i64 x.cy, .int .u32 x.cr, .int .i64 x.cl], .int .i64 x.t, .bool true]) (by simp [results, Try.results31, go_sem]) rfl ⟨rfl, gr_drew (gr_alloc (gr_refl w none) _)⟩
end Go.Proofs.Ytkcgpbehicjidaa
