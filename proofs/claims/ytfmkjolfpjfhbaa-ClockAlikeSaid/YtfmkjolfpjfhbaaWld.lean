/- Worlds: what a call leaves of what was there. No program is named here. -/
import Derived.WalkKit
import Derived.WalkSpells
import Derived.WalkSmall
import Derived.Lib.Hide
namespace Go.Proofs.Ytfmkjolfpjfhbaa
open Go.RowKit Go.Lib

theorem gr_refl (w : World) (row : Option Nat) : w.grownBy w row := ⟨rfl, rfl, rfl, Nat.le_refl _, fun _ _ _ => rfl⟩
theorem gr_trans {a b c : World} {row : Option Nat} (h : a.grownBy b row) (k : b.grownBy c row) : a.grownBy c row :=
  ⟨k.os.trans h.os, k.tape.trans h.tape, k.output.trans h.output, Nat.le_trans h.size k.size, fun i hi hr => (k.block i (Nat.lt_of_lt_of_le hi h.size) hr).trans (h.block i hi hr)⟩
theorem gr_none {a b : World} {row : Option Nat} (h : a.grownBy b none) : a.grownBy b row := ⟨h.os, h.tape, h.output, h.size, fun k hk _ => h.block k hk (by simp)⟩
theorem gr_alloc {a b : World} {row : Option Nat} (h : a.grownBy b row) (o : Obj) : a.grownBy (b.alloc o) row := gr_trans h (World.grownBy_alloc b o row)
theorem gr_drew {a b : World} {row : Option Nat} (h : a.grownBy b row) : a.grownBy b.drew row := ⟨h.os, h.tape, h.output, h.size, h.block⟩
theorem gr_drewN {a b : World} {row : Option Nat} (h : a.grownBy b row) (n : Nat) : a.grownBy (b.drewN n) row := by
  exact ⟨h.os, h.tape, h.output, h.size, h.block⟩
/-- A store into a block that is new since a, or into the row itself. -/
theorem gr_set {a b : World} {row : Option Nat} (h : a.grownBy b row) {p : Addr} (hp : a.heap.size ≤ p.block ∨ some p.block = row) (u : Value) : a.grownBy (b.setCell p u) row :=
  ⟨h.os, h.tape, h.output, by simp [World.setCell]; exact h.size, fun k hk hr => by
    rw [Below.heap_setCell _ _ _ _ (by rintro rfl; rcases hp with hp | hp; · omega
                                       · exact hr hp)]
    exact h.block k hk hr⟩
theorem gr_setRow {a b : World} {k : Nat} (h : a.grownBy b (some k)) (i : Nat) (u : Value) : a.grownBy (b.setCell ⟨k, i, none⟩ u) (some k) := gr_set h (p := ⟨k, i, none⟩) (.inr rfl) u
theorem gr_setNew {a b : World} {row : Option Nat} (h : a.grownBy b row) {k : Nat} (hk : a.heap.size ≤ k) (i : Nat) (u : Value) : a.grownBy (b.setCell ⟨k, i, none⟩ u) row := gr_set h (p := ⟨k, i, none⟩) (.inl hk) u
/-- What is written to a block that is new since a is no change to a. -/
theorem gr_own {a b c : World} {k : Nat} (h : a.grownBy b none) (g : b.grownBy c (some k)) (hk : a.heap.size ≤ k) : a.grownBy c none :=
  ⟨g.os.trans h.os, g.tape.trans h.tape, g.output.trans h.output, Nat.le_trans h.size g.size, fun i hi _ => (g.block i (Nat.lt_of_lt_of_le hi h.size) (by intro e; simp at e; omega)).trans (h.block i hi (by simp))⟩
theorem gr_below {a b : World} {row : Option Nat} {B : Nat} (h : a.grownBy b row) (hB : B ≤ a.heap.size) (hr : ∀ k, row = some k → B ≤ k) : Below B a b :=
  ⟨h.os, h.tape, h.output, h.size, fun k hk => h.block k (by omega) (fun e => by have := hr k e.symm; omega)⟩
theorem below_gr {a b : World} {row : Option Nat} (h : Below a.heap.size a b) : a.grownBy b row := ⟨h.os, h.tape, h.output, h.size, fun k hk _ => h.block k hk⟩
theorem gr_cell {a b : World} (h : a.grownBy b none) {p : Addr} {v : Value} (hc : a.cell? p = some v) : b.cell? p = some v := h.cell hc (by simp)
theorem gr_heap {a b : World} {row : Option Nat} (h : a.grownBy b row) {k : Nat} {o : Obj} (hc : a.heap[k]? = some o) (hr : some k ≠ row) : b.heap[k]? = some o :=
  (h.block k (lt_of_block hc) hr).trans hc

end Go.Proofs.Ytfmkjolfpjfhbaa
