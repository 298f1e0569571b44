/- Data without depth (structs and arrays of whole numbers, bools, strings, floats): each cell is of its kind. No program is named here. -/
import Derived.WalkKit
import Derived.ProofKit
import Derived.OpenShut
import Derived.ShutString
import Derived.ChangeOld
import Derived.Deep.Slices
import Derived.SizedLaws
namespace Go.Proofs.Ytagoiidpcfjebaa
open Go.ChangeShapes Go.WideShapes Go.ChangeAt Go.RowKit Go.Deep

inductive Leaf where
  | int (k : IntKind)
  | bool
  | str
  | flt (k : FloatKind)

def Leaf.ok : Leaf → Value → Prop
  | .int k, v => ∃ n, v = .int k n ∧ (Lit.int k n).wf = true
  | .bool, v => ∃ b, v = .bool b
  | .str, v => ∃ s : ByteArray, v = .string s ∧ s.size ≤ maxLen
  | .flt k, v => ∃ b, v = .float k b ∧ (Lit.float k b).wf = true

/-- The leaves of a type, in their cells' order. -/
def leavesOf (P : Program) : Nat → TypeId → Option (List Leaf)
  | 0, _ => none
  | n + 1, t => match P.underlying t with
    | some (.int k) => some [.int k]
    | some .bool => some [.bool]
    | some .string => some [.str]
    | some (.float k) => some [.flt k]
    | some (.struct fs) => fs.toList.foldlM (fun acc f => if f.offset = acc.length then (leavesOf P n f.type).bind fun l => if P.cellsOf f.type = l.length then some (acc ++ l) else none else none) []
    | some (.array k e) => (leavesOf P n e).bind fun l => if P.cellsOf e = l.length then some (List.replicate k l).flatten else none
    | _ => none

def Fits (ls : List Leaf) (cs : List Value) : Prop := ∀ (j : Nat) (l : Leaf), ls[j]? = some l → ∃ v, cs[j]? = some v ∧ l.ok v

theorem Fits.nil (cs : List Value) : Fits [] cs := by intro j l h; simp at h
theorem Fits.one {l : Leaf} {v : Value} (h : l.ok v) : Fits [l] [v] := by
  intro j l' hj
  cases j with
  | zero => simp at hj; subst hj; exact ⟨v, rfl, h⟩
  | succ j => simp at hj
theorem Fits.append {as bs : List Leaf} {cs : List Value} (ha : Fits as cs) (hb : Fits bs ((cs.drop as.length).take bs.length)) : Fits (as ++ bs) cs := by
  intro j l hj
  rcases Nat.lt_or_ge j as.length with h | h
  · rw [List.getElem?_append_left h] at hj
    exact ha j l hj
  · rw [List.getElem?_append_right h] at hj
    obtain ⟨v, hv, ok⟩ := hb _ l hj
    refine ⟨v, ?_, ok⟩
    have hlt : j - as.length < bs.length := (List.getElem?_eq_some_iff.1 hj).1
    rw [List.getElem?_take_of_lt hlt, List.getElem?_drop] at hv
    rw [← hv]; congr 1; omega

section
variable {H : Type} {enc : TypeId × Value → H} {P : Program} {w : World} {base : Nat} {spare : Nat → Bool} {held : Bool}

theorem leaves_fit : ∀ (n : Nat) (t : TypeId) (ls : List Leaf) (fuel : Nat) (cs : List Value) (x : DataW H × List MemPlace), leavesOf P n t = some ls → DataW.trod enc P w base spare held fuel t cs = some x → Fits ls cs
  | 0, _, _, _, _, _, h, _ => by simp [leavesOf] at h
  | n + 1, t, ls, fuel, cs, x, h, ht => by
    unfold leavesOf at h
    cases hu : P.underlying t with
    | none => rw [hu] at h; simp at h
    | some d =>
      rw [hu] at h
      cases d with
      | int k =>
        simp at h; subst h
        obtain ⟨v, rfl, _, wf⟩ := DataW.trod_int hu ht
        exact Fits.one ⟨v, rfl, wf⟩
      | bool =>
        simp at h; subst h
        obtain ⟨v, rfl, _⟩ := DataW.trod_bool hu ht
        exact Fits.one ⟨v, rfl⟩
      | string =>
        simp at h; subst h
        obtain ⟨v, rfl, _, wf⟩ := DataW.trod_string hu ht
        exact Fits.one ⟨v, rfl, wf⟩
      | float k =>
        simp at h; subst h
        cases fuel with
        | zero => simp [DataW.trod] at ht
        | succ m =>
          unfold DataW.trod at ht
          rw [hu] at ht
          simp only at ht
          split at ht <;> simp_all
          refine Fits.one ⟨_, rfl, ?_⟩
          simp_all
      | struct fs =>
        simp only at h
        obtain ⟨xs, m, _, _, _, hxl, hf⟩ := DataW.trod_struct hu ht
        have key : ∀ (l : List Field) (i : Nat) (acc out : List Leaf), (∀ j, l[j]? = fs[i + j]?) → Fits acc cs →
            l.foldlM (fun acc f => if f.offset = acc.length then (leavesOf P n f.type).bind fun l => if P.cellsOf f.type = l.length then some (acc ++ l) else none else none) acc = some out → Fits out cs := by
          intro l
          induction l with
          | nil => intro i acc out _ ha ho; simp at ho; subst ho; exact ha
          | cons f l ih =>
            intro i acc out hl ha ho
            simp only [List.foldlM_cons] at ho
            by_cases hoff : f.offset = acc.length
            · rw [if_pos hoff] at ho
              cases hlv : leavesOf P n f.type with
              | none => rw [hlv] at ho; simp at ho
              | some lv =>
                rw [hlv] at ho
                simp only [Option.bind_some] at ho
                by_cases hc : P.cellsOf f.type = lv.length
                · rw [if_pos hc] at ho
                  have hfi : fs[i]? = some f := by have := hl 0; simpa using this.symm
                  have hy := hf i f hfi
                  have hilt : i < xs.length := by rw [hxl]; exact (Array.getElem?_eq_some_iff.1 hfi).1
                  rw [List.getElem?_eq_getElem hilt, hoff, hc] at hy
                  have hfit := leaves_fit n f.type lv m _ _ hlv hy
                  refine ih (i + 1) (acc ++ lv) out (fun j => ?_) (ha.append hfit) ho
                  have := hl (j + 1)
                  simp only [List.getElem?_cons_succ] at this
                  rw [this]; congr 1; omega
                · rw [if_neg hc] at ho; simp at ho
            · rw [if_neg hoff] at ho; simp at ho
        exact key fs.toList 0 [] ls (fun j => by simp) (Fits.nil cs) h
      | array k e =>
        simp only at h
        obtain ⟨xs, m, _, _, _, hxl, hf⟩ := DataW.trod_array hu ht
        cases hlv : leavesOf P n e with
        | none => rw [hlv] at h; simp at h
        | some lv =>
          rw [hlv] at h
          simp only [Option.bind_some] at h
          by_cases hc : P.cellsOf e = lv.length
          · rw [if_pos hc] at h
            simp at h; subst h
            have key : ∀ i, i ≤ k → Fits (List.replicate i lv).flatten cs := by
              intro i
              induction i with
              | zero => intro _; simpa using Fits.nil cs
              | succ i ih =>
                intro hi
                have hy := hf i (by omega)
                rw [List.getElem?_eq_getElem (by omega), hc] at hy
                have hfit := leaves_fit n e lv m _ _ hlv hy
                rw [List.replicate_succ', List.flatten_append]
                refine Fits.append (ih (by omega)) ?_
                simpa using hfit
            exact key k (Nat.le_refl _)
          · rw [if_neg hc] at h; simp at h
      | _ => simp at h

/-- A slice whose elements are of such a type: what its cells hold. -/
def RowsOf (w : World) (a : Option Addr) (len : Nat) (ls : List Leaf) (V : Nat → Nat → Value) : Prop :=
  len = 0 ∨ ∃ b off, a = some ⟨b, off, none⟩ ∧ b < w.heap.size ∧ ∀ i, i < len → ∀ (j : Nat) (l : Leaf), ls[j]? = some l → w.cell? ⟨b, off + i * ls.length + j, none⟩ = some (V i j) ∧ l.ok (V i j)

theorem open_rows {r : Reach} {b0 : Nat} {t e : TypeId} {ls : List Leaf} {n : Nat} {v : Value} {d : DataW H} {p : List MemPlace} (ht : P.underlying t = some (.slice e)) (hl : leavesOf P n e = some ls) (hpos : 0 < ls.length) (hC : P.cellsOf e = ls.length)
    (hv : Value.okWide P w r b0 t v) (h : DataW.Trod enc P w base spare held t v d p) :
    ∃ a len cap V, v = .slice a len cap ∧ RowsOf w a len ls V ∧ (d = .nil ∧ len = 0 ∨ ∃ es sp, d = .slice es sp ∧ es.length = len) := by
  obtain ⟨a, len, cap, rfl⟩ := okWide_slice ht hv
  obtain ⟨fuel, hf⟩ := h
  rcases open_slice ht hf with ⟨hcs, hx⟩ | ⟨a', len', cap', m, n', D, Pl, hcs, _, hlc, _, hmm, hx, hi⟩
  · simp [Value.cells] at hcs
    obtain ⟨rfl, rfl, rfl⟩ := hcs
    simp at hx
    exact ⟨none, 0, 0, fun _ _ => undef, rfl, .inl rfl, .inl ⟨hx.1, rfl⟩⟩
  · simp [Value.cells] at hcs
    obtain ⟨rfl, rfl, rfl⟩ := hcs
    simp at hx
    refine ⟨some a', len, cap, fun i j => (w.cell? (a'.add (i * ls.length + j))).getD undef, rfl, ?_, .inr ⟨_, _, hx.1, by simp⟩⟩
    by_cases h0 : len = 0
    · exact .inl h0
    · right
      have hlm : len ≤ m := by rw [hmm]; split <;> omega
      have fact : ∀ i, i < len → ∀ (j : Nat) (l : Leaf), ls[j]? = some l → ∃ v, w.cell? (a'.add (i * ls.length + j)) = some v ∧ l.ok v := by
        intro i hil j l hj
        obtain ⟨cs', hc, htr⟩ := hi i (by omega)
        have hfit := leaves_fit n e ls n' cs' _ hl htr
        obtain ⟨v, hv, ok⟩ := hfit j l hj
        rw [hC] at hc
        obtain ⟨_, hcl, hat⟩ := World.cells?_some hc
        have hjl : j < ls.length := (List.getElem?_eq_some_iff.1 hj).1
        have := hat j hjl
        refine ⟨v, ?_, ok⟩
        rw [← Go.Deep.add_add, this, hv]
      obtain ⟨b, off, spot⟩ := a'
      have hsp : spot = none := by
        obtain ⟨v, hv, _⟩ := fact 0 (by omega) 0 (ls[0]'hpos) (by simp)
        simpa [Addr.add] using World.cell?_spot hv
      subst hsp
      obtain ⟨v, hv, _⟩ := fact 0 (by omega) 0 (ls[0]'hpos) (by simp)
      have hbl := World.block_lt_of_cell? w _ hv
      refine ⟨b, off, rfl, by simpa [Addr.add] using hbl, fun i hil j l hj => ?_⟩
      obtain ⟨v, hv, ok⟩ := fact i hil j l hj
      simp only [hv, Option.getD_some]
      refine ⟨?_, ok⟩
      have ea : (⟨b, off + i * ls.length + j, none⟩ : Addr) = (⟨b, off, none⟩ : Addr).add (i * ls.length + j) := by
        simp only [Addr.add, Nat.add_assoc]
        split
        · rename_i h
          rw [h]
          rfl
        · rfl
      rw [ea]
      exact hv

/-- The row's own bound on a slice's weight. -/
theorem rows_sized {t e : TypeId} {ts : List TypeId} {ds : List (DataW H)} {j : Nat} {d : DataW H} {len : Nat}
    (hsz : (DataW.weightsEach P ts ds).all (· ≤ reachBytes) = true) (ht : ts[j]? = some t) (hd : ds[j]? = some d) (hu : P.underlying t = some (.slice e)) {B : Nat} (hB : P.bytesOf e = B)
    (h : d = .nil ∧ len = 0 ∨ ∃ es sp, d = .slice es sp ∧ es.length = len) : len * B ≤ 140737488351232 := by
  rcases h with ⟨_, rfl⟩ | ⟨es, sp, rfl, rfl⟩
  · simp
  · have z := sized_slice hsz ht hd hu
    rw [hB] at z
    exact Nat.le_trans (Nat.mul_le_mul_right _ (Nat.le_add_right _ _)) z
end
end Go.Proofs.Ytagoiidpcfjebaa
