/- A call's boxed arguments: new blocks. No program is named here. -/
import Derived.Test.YtagoiidpcfjebaaWld
namespace Go.Proofs.Ytagoiidpcfjebaa
open Go.RowKit Go.Lib

theorem bx_gr {w w1 : World} {o : Obj} (h : (w.alloc o).grownBy w1 none) : w.grownBy w1 none := gr_trans (gr_alloc (gr_refl w none) o) h
theorem bx_gr2 {w w1 : World} {o o' : Obj} (h : ((w.alloc o).alloc o').grownBy w1 none) : w.grownBy w1 none := bx_gr (bx_gr h)
theorem bx_cell {w w1 : World} {c : Array Value} {t : TypeId} (h : (w.alloc (.cells c t)).grownBy w1 none) (i : Nat) (v : Value) (hv : c[i]? = some v) : w1.cell? ⟨w.heap.size, i, none⟩ = some v :=
  gr_cell h (by rw [World.cell?_alloc_new]; exact hv)
end Go.Proofs.Ytagoiidpcfjebaa
