/- Arguments opened: a control frame by value. -/
import Derived.Test.YtkcgpbehicjidaaOpen
import Derived.Test.YtkcgpbehicjidaaLeaves
namespace Go.Proofs.Ytkcgpbehicjidaa
open Go.ChangeShapes Go.WideShapes Go.ChangeAt Go.RowKit

section
variable {H : Type} {enc : TypeId × Value → H} {P : Program} {w : World} {base : Nat} {spare : Nat → Bool} {held : Bool}
theorem open_ctl {fs : Array Field} {r : Reach} {b0 : Nat} {t : TypeId} {v : Value} {d : DataW H} {p : List MemPlace} (ht : P.underlying t = some (.struct fs)) (hl : leavesOf P 3 t = some [.int .i64, .int .i64, .int .i64, .int .u32, .int .i64]) (hct : P.cellsOf t = 5)
    (hv : Value.okWide P w r b0 t v) (h : DataW.Trod enc P w base spare held t v d p) :
    ∃ k fr cy cr cl : Int, v = .agg #[.int .i64 k, .int .i64 fr, .int .i64 cy, .int .u32 cr, .int .i64 cl] := by
  obtain ⟨cs, rfl, hsz, _⟩ : ∃ cs, v = .agg cs ∧ cs.size = P.cellsOf t ∧ Row.okWide P w r b0 t cs := by simpa [Value.okWide, ht] using hv
  obtain ⟨fuel, hf⟩ := h
  have hfit := leaves_fit 3 t _ fuel _ _ hl hf
  rw [hct] at hsz
  have key : ∀ j (l : Leaf), [Leaf.int .i64, .int .i64, .int .i64, .int .u32, .int .i64][j]? = some l → ∃ v, cs[j]? = some v ∧ l.ok v := fun j l hj => by
    obtain ⟨v, hv, ok⟩ := hfit j l hj
    exact ⟨v, by simpa [Value.cells] using hv, ok⟩
  obtain ⟨_, e0, n0, rfl, _⟩ := key 0 _ rfl
  obtain ⟨_, e1, n1, rfl, _⟩ := key 1 _ rfl
  obtain ⟨_, e2, n2, rfl, _⟩ := key 2 _ rfl
  obtain ⟨_, e3, n3, rfl, _⟩ := key 3 _ rfl
  obtain ⟨_, e4, n4, rfl, _⟩ := key 4 _ rfl
  refine ⟨n0, n1, n2, n3, n4, ?_⟩
  congr 1
  apply Array.ext
  · simpa using hsz
  · intro i h1 h2
    have h5 : i < 5 := by omega
    have hi : cs[i]? = some cs[i] := Array.getElem?_eq_getElem h1
    match i, h5 with
    | 0, _ => rw [e0] at hi; simpa using hi.symm
    | 1, _ => rw [e1] at hi; simpa using hi.symm
    | 2, _ => rw [e2] at hi; simpa using hi.symm
    | 3, _ => rw [e3] at hi; simpa using hi.symm
    | 4, _ => rw [e4] at hi; simpa using hi.symm
end
end Go.Proofs.Ytkcgpbehicjidaa
