/- tocsinlaw11: from, fixed; comp.Frame. -/
import Derived.Test.YtagoiidpcfjebaaCompD
import Derived.Test.YtagoiidpcfjebaaCompE
import Derived.Test.YtagoiidpcfjebaaCompF
namespace Go.Proofs.Ytagoiidpcfjebaa
open Go.RowKit Go.Lib

set_option maxHeartbeats 1000000 in
theorem frame_any (p : Int) (c : Nat) (cy fr : Int) (w : World) :
    Calls Try.prog 15 #[resV p c cy, .int .i64 fr] w fun e w' => e = .returned (.agg #[.int .i64 2, .int .i64 fr, .int .i64 cy, .int .u32 (c : Int), .int .i64 0]) ∧ w.grownBy w' none := by
  go_enter Try.func15, Try.ntmps15
  go_wp2_with fail
  exact bodyPost_ret (v := .agg #[.int .i64 2, .int .i64 fr, .int .i64 cy, .int .u32 (c : Int), .int .i64 0]) (by simp [results, Try.results15, go_sem]) rfl ⟨rfl, gr_alloc (gr_alloc (gr_refl w none) _) _⟩
set_option maxHeartbeats 1000000 in
theorem from_at (h : Int) (w : World) :
    Calls Try.prog 19 #[.int .i64 h] w fun e w' => e = .returned (ctl 1 h 3 0 0) ∧ w.grownBy w' none := by
  go_enter Try.func19, Try.ntmps19
  go_wp2_with fail
  exact bodyPost_ret (v := ctl 1 h 3 0 0) (by simp [results, Try.results19, go_sem]) rfl ⟨rfl, gr_alloc (gr_refl w none) _⟩

theorem Coll.grown {P : Nat → Prop} {W W' : World} {base b : Nat} {win first : Int} {rs cs : List Int} {cm : Nat} (h : Coll P W base b win first rs cs cm) (G : W.grownBy W' none) : Coll P W' base b win first rs cs cm := by
  obtain ⟨vr, vc, hc, hr, hc', n1, n2, ap, bb, hP⟩ := h.ex
  exact ⟨vr, vc, hc.kept G (by simp), hr.kept G (by cases vr.ownBlock <;> simp), hc'.kept G (by cases vc.ownBlock <;> simp), n1, n2, ap, bb, fun q hq => ⟨Nat.lt_of_lt_of_le (hP q hq).1 G.size, (hP q hq).2⟩⟩
theorem Coll.cmp {P : Nat → Prop} {W : World} {base b : Nat} {win first : Int} {rs cs : List Int} {cm : Nat} (h : Coll P W base b win first rs cs cm) : ∃ vr vc, Cmp W b win true first vr vc cm := by
  obtain ⟨vr, vc, hc, _⟩ := h.ex
  exact ⟨vr, vc, hc⟩
theorem Coll.at {P : Nat → Prop} {W : World} {base b : Nat} {win first : Int} {rs cs : List Int} {cm : Nat} (h : Coll P W base b win first rs cs cm) : base ≤ b ∧ b < W.heap.size := by
  obtain ⟨vr, vc, hc, _, _, _, _, _, bb, _⟩ := h.ex
  exact ⟨bb, hc.lt⟩

theorem cell_of {w : World} {b : Nat} {cells : Array Value} {t : TypeId} (h : w.heap[b]? = some (.cells cells t)) (i : Nat) (v : Value) (hv : cells[i]? = some v) : w.cell? ⟨b, i, none⟩ = some v := by simp [World.cell?, h, hv]
theorem frozen_of {w : World} {b : Nat} {cells : Array Value} {t : TypeId} (h : w.heap[b]? = some (.cells cells t)) (i : Nat) : w.frozen? ⟨b, i, none⟩ = false := by simp [World.frozen?, h]

theorem tol_fixed : tolL [0, 10, 90] = 10 := by
  have hs : sortL [0, 10, 90] = [0, 10, 90] := sortL_eq (List.Perm.refl _) (by decide)
  unfold tolL
  rw [hs]
  decide
theorem most_fixed : mostL [3, 3, 3] = 3 := most_unique (by decide) (by decide)

end Go.Proofs.Ytagoiidpcfjebaa
