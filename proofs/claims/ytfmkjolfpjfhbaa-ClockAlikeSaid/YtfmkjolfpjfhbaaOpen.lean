/- Arguments opened: arrays of int64 by value. -/
import Derived.Test.YtfmkjolfpjfhbaaRows
import Derived.WalkKit
import Derived.ProofKit
import Derived.OpenShut
import Derived.ShutString
import Derived.ChangeOld
import Derived.Below
import Derived.OpenVars
namespace Go.Proofs.Ytfmkjolfpjfhbaa
open Go.ChangeShapes Go.WideShapes Go.ChangeAt Go.RowKit

theorem own_none : ownKnob Try.prog.godebug = none := by kernel_rfl
theorem laid_out : laidOutB Try.prog = true := by kernel_rfl

section
variable {H : Type} {enc : TypeId × Value → H} {P : Program} {w : World} {base : Nat} {spare : Nat → Bool} {held : Bool}

theorem open_arr {n : Nat} {r : Reach} {b0 : Nat} {t e : TypeId} {v : Value} {d : DataW H} {p : List MemPlace} (ht : P.underlying t = some (.array n e)) (he : P.underlying e = some (.int .i64)) (hce : P.cellsOf e = 1) (hct : P.cellsOf t = n)
    (hv : Value.okWide P w r b0 t v) (h : DataW.Trod enc P w base spare held t v d p) :
    ∃ l : List Int, l.length = n ∧ v = .agg (l.map (Value.int .i64)).toArray ∧ ∀ x ∈ l, -9223372036854775808 ≤ x ∧ x ≤ 9223372036854775807 := by
  obtain ⟨cs, rfl, hsz, _⟩ : ∃ cs, v = .agg cs ∧ cs.size = P.cellsOf t ∧ Row.okWide P w r b0 t cs := by simpa [Value.okWide, ht] using hv
  obtain ⟨fuel, hf⟩ := h
  obtain ⟨xs, m, _, _, hlen, hl, hel⟩ := DataW.trod_array ht hf
  rw [hct] at hsz
  have key : ∀ i (hi : i < cs.toList.length), ∃ x : Int, cs.toList[i] = .int .i64 x ∧ -9223372036854775808 ≤ x ∧ x ≤ 9223372036854775807 := by
    intro i hi
    have hin : i < n := by simpa [hsz] using hi
    have h1 := hel i hin
    rw [hce, Nat.mul_one] at h1
    have h2 : (cs.toList.drop i).take 1 = [cs.toList[i]] := by
      rw [List.drop_eq_getElem_cons hi]; rfl
    have h2' : (Value.cells (.agg cs)).toList.drop i = cs.toList.drop i := by rfl
    rw [h2', h2] at h1
    rw [List.getElem?_eq_getElem (by omega)] at h1
    obtain ⟨x, e0, _, w0⟩ := DataW.trod_int he h1
    simp at e0
    exact ⟨x, by simpa using e0, by simpa [Lit.wf, IntKind.min, IntKind.max, IntKind.signed, IntKind.bits] using w0⟩
  refine ⟨cs.toList.map intOf, by simpa using hsz, ?_, ?_⟩
  · congr 1
    apply Array.ext'
    simp only
    apply List.ext_getElem
    · simp
    · intro i h1 h2
      obtain ⟨x, e0, _⟩ := key i h1
      simp only [List.getElem_map]
      rw [e0]
      rfl
  · intro x hx
    obtain ⟨y, hy, rfl⟩ := List.mem_map.1 hx
    obtain ⟨i, hi, rfl⟩ := List.getElem_of_mem hy
    obtain ⟨x, e0, hb⟩ := key i hi
    rw [e0]
    exact hb

theorem open_arr3 {r : Reach} {b0 : Nat} {t e : TypeId} {v : Value} {d : DataW H} {p : List MemPlace} (ht : P.underlying t = some (.array 3 e)) (he : P.underlying e = some (.int .i64)) (hce : P.cellsOf e = 1) (hct : P.cellsOf t = 3)
    (hv : Value.okWide P w r b0 t v) (h : DataW.Trod enc P w base spare held t v d p) :
    ∃ a b c : Int, v = .agg #[.int .i64 a, .int .i64 b, .int .i64 c] ∧ (-9223372036854775808 ≤ a ∧ a ≤ 9223372036854775807) ∧ (-9223372036854775808 ≤ b ∧ b ≤ 9223372036854775807) ∧ (-9223372036854775808 ≤ c ∧ c ≤ 9223372036854775807) := by
  obtain ⟨l, hl, rfl, hb⟩ := open_arr ht he hce hct hv h
  match l, hl with
  | [a, b, c], _ => exact ⟨a, b, c, rfl, hb a (by simp), hb b (by simp), hb c (by simp)⟩

theorem open_arr2 {r : Reach} {b0 : Nat} {t e : TypeId} {v : Value} {d : DataW H} {p : List MemPlace} (ht : P.underlying t = some (.array 2 e)) (he : P.underlying e = some (.int .i64)) (hce : P.cellsOf e = 1) (hct : P.cellsOf t = 2)
    (hv : Value.okWide P w r b0 t v) (h : DataW.Trod enc P w base spare held t v d p) :
    ∃ a b : Int, v = .agg #[.int .i64 a, .int .i64 b] ∧ (-9223372036854775808 ≤ a ∧ a ≤ 9223372036854775807) ∧ (-9223372036854775808 ≤ b ∧ b ≤ 9223372036854775807) := by
  obtain ⟨l, hl, rfl, hb⟩ := open_arr ht he hce hct hv h
  match l, hl with
  | [a, b], _ => exact ⟨a, b, rfl, hb a (by simp), hb b (by simp)⟩

theorem open_i64 {r : Reach} {b0 : Nat} {t : TypeId} {v : Value} {d : DataW H} {p : List MemPlace} (ht : P.underlying t = some (.int .i64))
    (hv : Value.okWide P w r b0 t v) (h : DataW.Trod enc P w base spare held t v d p) :
    ∃ a : Int, v = .int .i64 a ∧ -9223372036854775808 ≤ a ∧ a ≤ 9223372036854775807 := by
  obtain ⟨x, rfl, _, _, wx⟩ := open_int ht hv h
  exact ⟨x, rfl, by simpa [Lit.wf, IntKind.min, IntKind.max, IntKind.signed, IntKind.bits] using wx⟩

/-- A slice whose elements are structs of k int64 fields: the numbers f i j, where there is an element. -/
def RowsAt (w : World) (a : Option Addr) (len : Nat) (k : Nat) (f : Nat → Nat → Int) : Prop :=
  len ≤ 140737488351232 ∧ (len = 0 ∨ ∃ b off, a = some ⟨b, off, none⟩ ∧ b < w.heap.size ∧ ∀ i, i < len → ∀ j, j < k → w.cell? ⟨b, off + i * k + j, none⟩ = some (.int .i64 (f i j)) ∧ -9223372036854775808 ≤ f i j ∧ f i j ≤ 9223372036854775807)
end
end Go.Proofs.Ytfmkjolfpjfhbaa
