/- Slices of structs of int64 fields alone. -/
import Derived.Test.YtagoiidpcfjebaaLeaves
import Derived.Test.YtagoiidpcfjebaaOpen
namespace Go.Proofs.Ytagoiidpcfjebaa
open Go.ChangeShapes Go.WideShapes Go.ChangeAt Go.RowKit

theorem rowsAt_of {w : World} {a : Option Addr} {len k : Nat} {V : Nat → Nat → Value} (h : RowsOf w a len (List.replicate k (.int .i64)) V) (hl : len ≤ 140737488351232) : RowsAt w a len k (fun i j => intOf (V i j)) := by
  refine ⟨hl, ?_⟩
  rcases h with h | ⟨b, off, rfl, hb, hc⟩
  · exact .inl h
  · refine .inr ⟨b, off, rfl, hb, fun i hi j hj => ?_⟩
    have hj' : (List.replicate k (Leaf.int .i64))[j]? = some (.int .i64) := by simp [hj]
    obtain ⟨h1, n, h2, h3⟩ := hc i hi j _ hj'
    rw [List.length_replicate] at h1
    have h4 : -9223372036854775808 ≤ n ∧ n ≤ 9223372036854775807 := by simpa [Lit.wf, IntKind.min, IntKind.max, IntKind.signed, IntKind.bits] using h3
    simp only [h1, h2, intOf]
    exact ⟨trivial, h4⟩
end Go.Proofs.Ytagoiidpcfjebaa
