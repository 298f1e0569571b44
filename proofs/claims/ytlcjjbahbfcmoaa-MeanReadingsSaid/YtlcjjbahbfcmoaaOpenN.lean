/- Arguments opened: a slice of int64. -/
import Derived.Test.YtlcjjbahbfcmoaaOpenI
import Derived.Test.YtlcjjbahbfcmoaaLeaves
import Derived.Test.YtlcjjbahbfcmoaaMean
namespace Go.Proofs.Ytlcjjbahbfcmoaa
open Go.ChangeShapes Go.WideShapes Go.ChangeAt Go.RowKit Go.Deep

section
variable {H : Type} {enc : TypeId × Value → H} {P : Program} {w : World} {base : Nat} {spare : Nat → Bool} {held : Bool}

theorem open_null {t e : TypeId} {v : Value} {d : DataW H} {p : List MemPlace} (ht : P.underlying t = some (.slice e)) (h : DataW.Trod enc P w base spare held t v d p) :
    ∀ len cap, v = .slice none len cap → len = 0 ∧ cap = 0 := by
  rintro len cap rfl
  obtain ⟨fuel, hf⟩ := h
  rcases open_slice ht hf with ⟨hcs, hx⟩ | ⟨a', len', cap', m, n', D, Pl, hcs, _⟩
  · simp [Value.cells] at hcs
    exact hcs
  · simp [Value.cells] at hcs

theorem open_cap {t e : TypeId} {v : Value} {d : DataW H} {p : List MemPlace} (ht : P.underlying t = some (.slice e)) (h : DataW.Trod enc P w base spare held t v d p) :
    ∀ a len cap, v = .slice a len cap → len ≤ cap := by
  rintro a len cap rfl
  obtain ⟨fuel, hf⟩ := h
  rcases open_slice ht hf with ⟨hcs, hx⟩ | ⟨a', len', cap', m, n', D, Pl, hcs, _, hlc, _⟩
  · simp [Value.cells] at hcs
    omega
  · simp [Value.cells] at hcs
    omega

theorem open_nums {r : Reach} {b0 : Nat} {t e : TypeId} {v : Value} {d : DataW H} {p : List MemPlace} (ht : P.underlying t = some (.slice e)) (hl : leavesOf P 3 e = some [.int .i64]) (hC : P.cellsOf e = 1)
    (hv : Value.okWide P w r b0 t v) (h : DataW.Trod enc P w base spare held t v d p) :
    ∃ a cap zs, v = .slice a zs.length cap ∧ Ints w.heap.size w (.slice a zs.length cap) zs ∧ In64 zs ∧ (a = none → zs = [] ∧ cap = 0) ∧ (d = .nil ∧ zs.length = 0 ∨ ∃ es sp, d = .slice es sp ∧ es.length = zs.length) := by
  have hn := open_null ht h
  obtain ⟨a, len, cap, V, rfl, hr, hd⟩ := open_rows ht hl (by decide) hC hv h
  have hlen : ((List.range len).map fun i => intOf (V i 0)).length = len := by simp
  refine ⟨a, cap, (List.range len).map fun i => intOf (V i 0), by rw [hlen], ?_, ?_, ?_, by rw [hlen]; exact hd⟩
  · rw [hlen]
    rcases hr with rfl | ⟨b, off, rfl, hb, hc⟩
    · exact .inl ⟨a, cap, rfl, rfl⟩
    · refine .inr ⟨b, off, cap, by rw [hlen], hb, fun j hj => ?_⟩
      rw [hlen] at hj
      obtain ⟨h1, n, h2, h3⟩ := hc j hj 0 (.int .i64) rfl
      simp only [List.length_cons, List.length_nil, Nat.zero_add, Nat.mul_one, Nat.add_zero] at h1
      rw [h1, h2]
      simp [hj, h2, intOf]
  · intro x hx
    obtain ⟨i, hi, rfl⟩ := List.mem_map.1 hx
    rcases hr with rfl | ⟨b, off, rfl, hb, hc⟩
    · simp at hi
    · obtain ⟨h1, n, h2, h3⟩ := hc i (by simpa using hi) 0 (.int .i64) rfl
      rw [h2]
      simpa [intOf, Lit.wf, IntKind.min, IntKind.max, IntKind.signed, IntKind.bits] using h3
  · rintro rfl
    obtain ⟨rfl, rfl⟩ := hn _ _ rfl
    exact ⟨rfl, rfl⟩
end
end Go.Proofs.Ytlcjjbahbfcmoaa
