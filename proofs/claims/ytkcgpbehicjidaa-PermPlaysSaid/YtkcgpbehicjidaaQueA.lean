/- queue: New, Len, the order of two items. -/
import Derived.Test.YtkcgpbehicjidaaBox
import Derived.Test.YtkcgpbehicjidaaHeap
import Derived.Test.YtkcgpbehicjidaaClock
import Derived.WalkLawsBesides
import Derived.Lib.Hide
namespace Go.Proofs.Ytkcgpbehicjidaa
open Go.RowKit Go.Lib

/-- An item, as a value and as cells. -/
abbrev itV (x : It) : Value := .agg #[.int .i64 x.t, .int .i64 x.r, .int .i64 x.n, .int .u64 x.u, .int .i64 x.k, .int .i64 x.fr, .int .i64 x.cy, .int .u32 x.cr, .int .i64 x.cl]
def itC (x : It) : List Value := [.int .i64 x.t, .int .i64 x.r, .int .i64 x.n, .int .u64 x.u, .int .i64 x.k, .int .i64 x.fr, .int .i64 x.cy, .int .u32 x.cr, .int .i64 x.cl]
theorem itC_length (x : It) : (itC x).length = 9 := rfl

/-- The queue in its block. -/
def Que (w : World) (q : Nat) (num : Int) (v : Value) : Prop := w.heap[q]? = some (.cells #[.int .i64 64, .int .u64 num, v] 85 (0, 0))
section
variable {w : World} {q : Nat} {num : Int} {v : Value}
theorem Que.c0 (h : Que w q num v) : w.cell? ⟨q, 0, none⟩ = some (.int .i64 64) := by unfold Que at h; simp [World.cell?, h]
theorem Que.c1 (h : Que w q num v) : w.cell? ⟨q, 1, none⟩ = some (.int .u64 num) := by unfold Que at h; simp [World.cell?, h]
theorem Que.c2 (h : Que w q num v) : w.cell? ⟨q, 2, none⟩ = some v := by unfold Que at h; simp [World.cell?, h]
theorem Que.f (h : Que w q num v) (i : Nat) : w.frozen? ⟨q, i, none⟩ = false := by unfold Que at h; simp [World.frozen?, h]
theorem Que.lt (h : Que w q num v) : q < w.heap.size := lt_of_block h
theorem Que.kept {w' : World} {row : Option Nat} (h : Que w q num v) (hg : w.grownBy w' row) (hr : some q ≠ row) : Que w' q num v := gr_heap hg h hr
theorem Que.set1 (h : Que w q num v) (n' : Int) : Que (w.setCell ⟨q, 1, none⟩ (.int .u64 n')) q n' v := by
  unfold Que at *
  simp only [World.setCell, Array.getElem?_modify, if_true, h, Option.map_some]
  rfl
theorem Que.set2 (h : Que w q num v) (v' : Value) : Que (w.setCell ⟨q, 2, none⟩ v') q num v' := by
  unfold Que at *
  simp only [World.setCell, Array.getElem?_modify, if_true, h, Option.map_some]
  rfl
end

set_option maxHeartbeats 1000000 in
theorem qnew_at (w : World) :
    Calls Try.prog 21 #[.int .i64 64] w fun e w' => e = .returned (.pointer (some ⟨w.heap.size, 0, none⟩)) ∧ Que w' w.heap.size 0 (.slice none 0 0) ∧ w.grownBy w' none ∧ w'.heap.size = w.heap.size + 1 := by
  go_enter Try.func21, Try.ntmps21
  go_wp2_with fail
  go_ret
  exact ⟨rfl, heap_alloc_new w _, gr_alloc (gr_refl w none) _, by simp⟩

theorem qlen_at (q : Nat) (num : Int) (a : Option Addr) (n cap : Nat) (w : World) (h : Que w q num (.slice a n cap)) :
    Calls Try.prog 28 #[.pointer (some ⟨q, 0, none⟩)] w fun e w' => e = .returned (.int .i64 (n : Int)) ∧ w' = w := by
  have c2 := h.c2
  clear h
  go_enter Try.func28, Try.ntmps28
  go_wp2_with fail
  go_ret
  exact ⟨rfl, rfl⟩

set_option maxHeartbeats 1000000 in
theorem ahead_any (a b : It) (w : World) :
    Calls Try.prog 42 #[itV a, itV b] w fun e w' => e = .returned (.bool (decide (Ahead a b))) ∧ w.grownBy w' none := by
  obtain ⟨at', ar, an, au, ak, afr, acy, acr, acl⟩ := a
  obtain ⟨bt, br, bn, bu, bk, bfr, bcy, bcr, bcl⟩ := b
  obtain ⟨d, hd⟩ : ∃ d, Hid (decide (Ahead ⟨at', ar, an, au, ak, afr, acy, acr, acl⟩ ⟨bt, br, bn, bu, bk, bfr, bcy, bcr, bcl⟩) = d) := ⟨_, hid rfl⟩
  have hd' := hd.out
  unfold Ahead at hd'
  rw [hd.out]
  by_cases h1 : at' = bt
  · subst h1
    by_cases h2 : ar = br
    · subst h2
      by_cases h3 : an = bn
      · subst h3
        have hf : decide (au < bu) = d := by rw [← hd']; simp
        have Hf := hid hf
        clear hd hd' hf
        go_enter Try.func42, Try.ntmps42
        go_wp2_with fail
        go_ret
        exact ⟨by rw [← Hf.out]; rfl, gr_alloc (gr_alloc (gr_refl w none) _) _⟩
      · have hf : decide (an < bn) = d := by rw [← hd']; simp [h3]
        have Hf := hid hf
        clear hd hd' hf
        go_enter Try.func42, Try.ntmps42
        go_wp2_with fail
        go_ret
        exact ⟨by rw [← Hf.out]; rfl, gr_alloc (gr_alloc (gr_refl w none) _) _⟩
    · have hf : decide (ar < br) = d := by rw [← hd']; simp [h2]
      have Hf := hid hf
      clear hd hd' hf
      go_enter Try.func42, Try.ntmps42
      go_wp2_with fail
      go_ret
      exact ⟨by rw [← Hf.out]; rfl, gr_alloc (gr_alloc (gr_refl w none) _) _⟩
  · have hf : decide (at' < bt) = d := by rw [← hd']; simp [h1]
    have Hf := hid hf
    clear hd hd' hf
    go_enter Try.func42, Try.ntmps42
    go_wp2_with fail
    go_ret
    exact ⟨by rw [← Hf.out]; rfl, gr_alloc (gr_alloc (gr_refl w none) _) _⟩
end Go.Proofs.Ytkcgpbehicjidaa
