/- Arguments opened: a slice of float64. -/
import Derived.Test.YtlcjjbahbfcmoaaOpenN
import Derived.Test.YtlcjjbahbfcmoaaRatesB
namespace Go.Proofs.Ytlcjjbahbfcmoaa
open Go.ChangeShapes Go.WideShapes Go.ChangeAt Go.RowKit Go.Deep

section
variable {H : Type} {enc : TypeId × Value → H} {P : Program} {w : World} {base : Nat} {spare : Nat → Bool} {held : Bool}
def wordOf : Value → Nat
  | .float _ n => n
  | _ => 0

theorem open_flts {r : Reach} {b0 : Nat} {t e : TypeId} {v : Value} {d : DataW H} {p : List MemPlace} (ht : P.underlying t = some (.slice e)) (hl : leavesOf P 3 e = some [.flt .f64]) (hC : P.cellsOf e = 1)
    (hv : Value.okWide P w r b0 t v) (h : DataW.Trod enc P w base spare held t v d p) :
    ∃ a cap bs, v = .slice a bs.length cap ∧ Flts w.heap.size w (.slice a bs.length cap) bs ∧ Words bs ∧ (d = .nil ∧ bs.length = 0 ∨ ∃ es sp, d = .slice es sp ∧ es.length = bs.length) := by
  obtain ⟨a, len, cap, V, rfl, hr, hd⟩ := open_rows ht hl (by decide) hC hv h
  have hlen : ((List.range len).map fun i => wordOf (V i 0)).length = len := by simp
  refine ⟨a, cap, (List.range len).map fun i => wordOf (V i 0), by rw [hlen], ?_, ?_, by rw [hlen]; exact hd⟩
  · rw [hlen]
    rcases hr with rfl | ⟨b, off, rfl, hb, hc⟩
    · exact .inl ⟨a, cap, rfl, rfl⟩
    · refine .inr ⟨b, off, cap, by rw [hlen], hb, fun j hj => ?_⟩
      rw [hlen] at hj
      obtain ⟨h1, n, h2, h3⟩ := hc j hj 0 (.flt .f64) rfl
      simp only [List.length_cons, List.length_nil, Nat.zero_add, Nat.mul_one, Nat.add_zero] at h1
      rw [h1, h2]
      simp [hj, h2, wordOf]
  · intro x hx
    obtain ⟨i, hi, rfl⟩ := List.mem_map.1 hx
    rcases hr with rfl | ⟨b, off, rfl, hb, hc⟩
    · simp at hi
    · obtain ⟨h1, n, h2, h3⟩ := hc i (by simpa using hi) 0 (.flt .f64) rfl
      rw [h2]
      simpa [wordOf, Lit.wf] using h3
end
end Go.Proofs.Ytlcjjbahbfcmoaa
