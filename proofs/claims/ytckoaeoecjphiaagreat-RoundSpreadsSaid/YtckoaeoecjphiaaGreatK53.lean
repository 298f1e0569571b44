/- Lemmas: Arguments opened: arrays of int64 by value. Data without depth (structs and arrays of whole numbers, bools, strings, floats): each cell is of its kind. No program is named here. Arguments opened: a configuration; clocks and what is lost. -/
import Derived.Test.YtckoaeoecjphiaaGreatRows
import Derived.WalkKit
import Derived.ProofKit
import Derived.OpenShut
import Derived.ShutString
import Derived.ChangeOld
import Derived.Below
import Derived.OpenVars
import Derived.Deep.Slices
import Derived.SizedLaws
import Derived.Test.YtckoaeoecjphiaaGreatK40

/- Arguments opened: arrays of int64 by value. -/
namespace Go.Proofs.YtckoaeoecjphiaaGreat
open Go.ChangeShapes Go.WideShapes Go.ChangeAt Go.RowKit

theorem own_none : ownKnob Tryz.prog.godebug = none := by kernel_rfl
theorem laid_out : laidOutB Tryz.prog = true := by kernel_rfl

section
variable {H : Type} {enc : TypeId × Value → H} {P : Program} {w : World} {base : Nat} {spare : Nat → Bool} {held : Bool}

theorem open_arr {n : Nat} {r : Reach} {b0 : Nat} {t e : TypeId} {v : Value} {d : DataW H} {p : List MemPlace} (ht : P.underlying t = some (.array n e)) (he : P.underlying e = some (.int .i64)) (hce : P.cellsOf e = 1) (hct : P.cellsOf t = n)
    (hv : Value.okWide P w r b0 t v) (h : DataW.Trod enc P w base spare held t v d p) :
    ∃ l : List Int, l.length = n ∧ v = .agg (l.map (Value.int .i64)).toArray ∧ ∀ x ∈ l, -9223372036854775808 ≤ x ∧ x ≤ 9223372036854775807 := by
  obtain ⟨cs, rfl, hsz, _⟩ : ∃ cs, v = .agg cs ∧ cs.size = P.cellsOf t ∧ Row.okWide P w r b0 t cs := by simpa [Value.okWide, ht] using hv
  obtain ⟨fuel, hf⟩ := h
  obtain ⟨xs, m, _, _, hlen, hl, hel⟩ := DataW.trod_array ht hf
  rw [hct] at hsz
  have key : ∀ i (hi : i < cs.toList.length), ∃ x : Int, cs.toList[i] = .int .i64 x ∧ -9223372036854775808 ≤ x ∧ x ≤ 9223372036854775807 := by
    intro i hi
    have hin : i < n := by simpa [hsz] using hi
    have h1 := hel i hin
    rw [hce, Nat.mul_one] at h1
    have h2 : (cs.toList.drop i).take 1 = [cs.toList[i]] := by
      rw [List.drop_eq_getElem_cons hi]; rfl
    have h2' : (Value.cells (.agg cs)).toList.drop i = cs.toList.drop i := by rfl
    rw [h2', h2] at h1
    rw [List.getElem?_eq_getElem (by omega)] at h1
    obtain ⟨x, e0, _, w0⟩ := DataW.trod_int he h1
    simp at e0
    exact ⟨x, by simpa using e0, by simpa [Lit.wf, IntKind.min, IntKind.max, IntKind.signed, IntKind.bits] using w0⟩
  refine ⟨cs.toList.map intOf, by simpa using hsz, ?_, ?_⟩
  · congr 1
    apply Array.ext'
    simp only
    apply List.ext_getElem
    · simp
    · intro i h1 h2
      obtain ⟨x, e0, _⟩ := key i h1
      simp only [List.getElem_map]
      rw [e0]
      rfl
  · intro x hx
    obtain ⟨y, hy, rfl⟩ := List.mem_map.1 hx
    obtain ⟨i, hi, rfl⟩ := List.getElem_of_mem hy
    obtain ⟨x, e0, hb⟩ := key i hi
    rw [e0]
    exact hb

theorem open_arr3 {r : Reach} {b0 : Nat} {t e : TypeId} {v : Value} {d : DataW H} {p : List MemPlace} (ht : P.underlying t = some (.array 3 e)) (he : P.underlying e = some (.int .i64)) (hce : P.cellsOf e = 1) (hct : P.cellsOf t = 3)
    (hv : Value.okWide P w r b0 t v) (h : DataW.Trod enc P w base spare held t v d p) :
    ∃ a b c : Int, v = .agg #[.int .i64 a, .int .i64 b, .int .i64 c] ∧ (-9223372036854775808 ≤ a ∧ a ≤ 9223372036854775807) ∧ (-9223372036854775808 ≤ b ∧ b ≤ 9223372036854775807) ∧ (-9223372036854775808 ≤ c ∧ c ≤ 9223372036854775807) := by
  obtain ⟨l, hl, rfl, hb⟩ := open_arr ht he hce hct hv h
  match l, hl with
  | [a, b, c], _ => exact ⟨a, b, c, rfl, hb a (by simp), hb b (by simp), hb c (by simp)⟩

theorem open_arr2 {r : Reach} {b0 : Nat} {t e : TypeId} {v : Value} {d : DataW H} {p : List MemPlace} (ht : P.underlying t = some (.array 2 e)) (he : P.underlying e = some (.int .i64)) (hce : P.cellsOf e = 1) (hct : P.cellsOf t = 2)
    (hv : Value.okWide P w r b0 t v) (h : DataW.Trod enc P w base spare held t v d p) :
    ∃ a b : Int, v = .agg #[.int .i64 a, .int .i64 b] ∧ (-9223372036854775808 ≤ a ∧ a ≤ 9223372036854775807) ∧ (-9223372036854775808 ≤ b ∧ b ≤ 9223372036854775807) := by
  obtain ⟨l, hl, rfl, hb⟩ := open_arr ht he hce hct hv h
  match l, hl with
  | [a, b], _ => exact ⟨a, b, rfl, hb a (by simp), hb b (by simp)⟩

theorem open_i64 {r : Reach} {b0 : Nat} {t : TypeId} {v : Value} {d : DataW H} {p : List MemPlace} (ht : P.underlying t = some (.int .i64))
    (hv : Value.okWide P w r b0 t v) (h : DataW.Trod enc P w base spare held t v d p) :
    ∃ a : Int, v = .int .i64 a ∧ -9223372036854775808 ≤ a ∧ a ≤ 9223372036854775807 := by
  obtain ⟨x, rfl, _, _, wx⟩ := open_int ht hv h
  exact ⟨x, rfl, by simpa [Lit.wf, IntKind.min, IntKind.max, IntKind.signed, IntKind.bits] using wx⟩

/-- A slice whose elements are structs of k int64 fields: the numbers f i j, where there is an element. -/
def RowsAt (w : World) (a : Option Addr) (len : Nat) (k : Nat) (f : Nat → Nat → Int) : Prop :=
  len ≤ 140737488351232 ∧ (len = 0 ∨ ∃ b off, a = some ⟨b, off, none⟩ ∧ b < w.heap.size ∧ ∀ i, i < len → ∀ j, j < k → w.cell? ⟨b, off + i * k + j, none⟩ = some (.int .i64 (f i j)) ∧ -9223372036854775808 ≤ f i j ∧ f i j ≤ 9223372036854775807)
end
end Go.Proofs.YtckoaeoecjphiaaGreat

/- Data without depth (structs and arrays of whole numbers, bools, strings, floats): each cell is of its kind. No program is named here. -/
namespace Go.Proofs.YtckoaeoecjphiaaGreat
open Go.ChangeShapes Go.WideShapes Go.ChangeAt Go.RowKit Go.Deep

inductive Leaf where
  | int (k : IntKind)
  | bool
  | str
  | flt (k : FloatKind)

def Leaf.ok : Leaf → Value → Prop
  | .int k, v => ∃ n, v = .int k n ∧ (Lit.int k n).wf = true
  | .bool, v => ∃ b, v = .bool b
  | .str, v => ∃ s : ByteArray, v = .string s ∧ s.size ≤ maxLen
  | .flt k, v => ∃ b, v = .float k b ∧ (Lit.float k b).wf = true

/-- The leaves of a type, in their cells' order. -/
def leavesOf (P : Program) : Nat → TypeId → Option (List Leaf)
  | 0, _ => none
  | n + 1, t => match P.underlying t with
    | some (.int k) => some [.int k]
    | some .bool => some [.bool]
    | some .string => some [.str]
    | some (.float k) => some [.flt k]
    | some (.struct fs) => fs.toList.foldlM (fun acc f => if f.offset = acc.length then (leavesOf P n f.type).bind fun l => if P.cellsOf f.type = l.length then some (acc ++ l) else none else none) []
    | some (.array k e) => (leavesOf P n e).bind fun l => if P.cellsOf e = l.length then some (List.replicate k l).flatten else none
    | _ => none

def Fits (ls : List Leaf) (cs : List Value) : Prop := ∀ (j : Nat) (l : Leaf), ls[j]? = some l → ∃ v, cs[j]? = some v ∧ l.ok v

theorem Fits.nil (cs : List Value) : Fits [] cs := by intro j l h; simp at h
theorem Fits.one {l : Leaf} {v : Value} (h : l.ok v) : Fits [l] [v] := by
  intro j l' hj
  cases j with
  | zero => simp at hj; subst hj; exact ⟨v, rfl, h⟩
  | succ j => simp at hj
theorem Fits.append {as0 bs : List Leaf} {cs : List Value} (ha : Fits as0 cs) (hb : Fits bs ((cs.drop as0.length).take bs.length)) : Fits (as0 ++ bs) cs := by
  intro j l hj
  rcases Nat.lt_or_ge j as0.length with h | h
  · rw [List.getElem?_append_left h] at hj
    exact ha j l hj
  · rw [List.getElem?_append_right h] at hj
    obtain ⟨v, hv, ok⟩ := hb _ l hj
    refine ⟨v, ?_, ok⟩
    have hlt : j - as0.length < bs.length := (List.getElem?_eq_some_iff.1 hj).1
    rw [List.getElem?_take_of_lt hlt, List.getElem?_drop] at hv
    rw [← hv]; congr 1; omega

section
variable {H : Type} {enc : TypeId × Value → H} {P : Program} {w : World} {base : Nat} {spare : Nat → Bool} {held : Bool}

theorem leaves_fit : ∀ (n : Nat) (t : TypeId) (ls : List Leaf) (fuel : Nat) (cs : List Value) (x : DataW H × List MemPlace), leavesOf P n t = some ls → DataW.trod enc P w base spare held fuel t cs = some x → Fits ls cs
  | 0, _, _, _, _, _, h, _ => by simp [leavesOf] at h
  | n + 1, t, ls, fuel, cs, x, h, ht => by
    unfold leavesOf at h
    cases hu : P.underlying t with
    | none => rw [hu] at h; simp at h
    | some d =>
      rw [hu] at h
      cases d with
      | int k =>
        simp at h; subst h
        obtain ⟨v, rfl, _, wf⟩ := DataW.trod_int hu ht
        exact Fits.one ⟨v, rfl, wf⟩
      | bool =>
        simp at h; subst h
        obtain ⟨v, rfl, _⟩ := DataW.trod_bool hu ht
        exact Fits.one ⟨v, rfl⟩
      | string =>
        simp at h; subst h
        obtain ⟨v, rfl, _, wf⟩ := DataW.trod_string hu ht
        exact Fits.one ⟨v, rfl, wf⟩
      | float k =>
        simp at h; subst h
        cases fuel with
        | zero => simp [DataW.trod] at ht
        | succ m =>
          unfold DataW.trod at ht
          rw [hu] at ht
          simp only at ht
          split at ht <;> simp_all
          refine Fits.one ⟨_, rfl, ?_⟩
          simp_all
      | struct fs =>
        simp only at h
        obtain ⟨xs, m, _, _, _, hxl, hf⟩ := DataW.trod_struct hu ht
        have key : ∀ (l : List Field) (i : Nat) (acc out : List Leaf), (∀ j, l[j]? = fs[i + j]?) → Fits acc cs →
            l.foldlM (fun acc f => if f.offset = acc.length then (leavesOf P n f.type).bind fun l => if P.cellsOf f.type = l.length then some (acc ++ l) else none else none) acc = some out → Fits out cs := by
          intro l
          induction l with
          | nil => intro i acc out _ ha ho; simp at ho; subst ho; exact ha
          | cons f l ih =>
            intro i acc out hl ha ho
            simp only [List.foldlM_cons] at ho
            by_cases hoff : f.offset = acc.length
            · rw [if_pos hoff] at ho
              cases hlv : leavesOf P n f.type with
              | none => rw [hlv] at ho; simp at ho
              | some lv =>
                rw [hlv] at ho
                simp only [Option.bind_some] at ho
                by_cases hc : P.cellsOf f.type = lv.length
                · rw [if_pos hc] at ho
                  have hfi : fs[i]? = some f := by have := hl 0; simpa using this.symm
                  have hy := hf i f hfi
                  have hilt : i < xs.length := by rw [hxl]; exact (Array.getElem?_eq_some_iff.1 hfi).1
                  rw [List.getElem?_eq_getElem hilt, hoff, hc] at hy
                  have hfit := leaves_fit n f.type lv m _ _ hlv hy
                  refine ih (i + 1) (acc ++ lv) out (fun j => ?_) (ha.append hfit) ho
                  have := hl (j + 1)
                  simp only [List.getElem?_cons_succ] at this
                  rw [this]; congr 1; omega
                · rw [if_neg hc] at ho; simp at ho
            · rw [if_neg hoff] at ho; simp at ho
        exact key fs.toList 0 [] ls (fun j => by simp) (Fits.nil cs) h
      | array k e =>
        simp only at h
        obtain ⟨xs, m, _, _, _, hxl, hf⟩ := DataW.trod_array hu ht
        cases hlv : leavesOf P n e with
        | none => rw [hlv] at h; simp at h
        | some lv =>
          rw [hlv] at h
          simp only [Option.bind_some] at h
          by_cases hc : P.cellsOf e = lv.length
          · rw [if_pos hc] at h
            simp at h; subst h
            have key : ∀ i, i ≤ k → Fits (List.replicate i lv).flatten cs := by
              intro i
              induction i with
              | zero => intro _; simpa using Fits.nil cs
              | succ i ih =>
                intro hi
                have hy := hf i (by omega)
                rw [List.getElem?_eq_getElem (by omega), hc] at hy
                have hfit := leaves_fit n e lv m _ _ hlv hy
                rw [List.replicate_succ', List.flatten_append]
                refine Fits.append (ih (by omega)) ?_
                simpa using hfit
            exact key k (Nat.le_refl _)
          · rw [if_neg hc] at h; simp at h
      | _ => simp at h

/-- A slice whose elements are of such a type: what its cells hold. -/
def RowsOf (w : World) (a : Option Addr) (len : Nat) (ls : List Leaf) (V : Nat → Nat → Value) : Prop :=
  len = 0 ∨ ∃ b off, a = some ⟨b, off, none⟩ ∧ b < w.heap.size ∧ ∀ i, i < len → ∀ (j : Nat) (l : Leaf), ls[j]? = some l → w.cell? ⟨b, off + i * ls.length + j, none⟩ = some (V i j) ∧ l.ok (V i j)

theorem open_rows {r : Reach} {b0 : Nat} {t e : TypeId} {ls : List Leaf} {n : Nat} {v : Value} {d : DataW H} {p : List MemPlace} (ht : P.underlying t = some (.slice e)) (hl : leavesOf P n e = some ls) (hpos : 0 < ls.length) (hC : P.cellsOf e = ls.length)
    (hv : Value.okWide P w r b0 t v) (h : DataW.Trod enc P w base spare held t v d p) :
    ∃ a len cap V, v = .slice a len cap ∧ RowsOf w a len ls V ∧ (d = .nil ∧ len = 0 ∨ ∃ es sp, d = .slice es sp ∧ es.length = len) := by
  obtain ⟨a, len, cap, rfl⟩ := okWide_slice ht hv
  obtain ⟨fuel, hf⟩ := h
  rcases open_slice ht hf with ⟨hcs, hx⟩ | ⟨a', len', cap', m, n', D, Pl, hcs, _, hlc, _, hmm, hx, hi⟩
  · simp [Value.cells] at hcs
    obtain ⟨rfl, rfl, rfl⟩ := hcs
    simp at hx
    exact ⟨none, 0, 0, fun _ _ => undef, rfl, .inl rfl, .inl ⟨hx.1, rfl⟩⟩
  · simp [Value.cells] at hcs
    obtain ⟨rfl, rfl, rfl⟩ := hcs
    simp at hx
    refine ⟨some a', len, cap, fun i j => (w.cell? (a'.add (i * ls.length + j))).getD undef, rfl, ?_, .inr ⟨_, _, hx.1, by simp⟩⟩
    by_cases h0 : len = 0
    · exact .inl h0
    · right
      have hlm : len ≤ m := by rw [hmm]; split <;> omega
      have fact : ∀ i, i < len → ∀ (j : Nat) (l : Leaf), ls[j]? = some l → ∃ v, w.cell? (a'.add (i * ls.length + j)) = some v ∧ l.ok v := by
        intro i hil j l hj
        obtain ⟨cs', hc, htr⟩ := hi i (by omega)
        have hfit := leaves_fit n e ls n' cs' _ hl htr
        obtain ⟨v, hv, ok⟩ := hfit j l hj
        rw [hC] at hc
        obtain ⟨_, hcl, hat⟩ := World.cells?_some hc
        have hjl : j < ls.length := (List.getElem?_eq_some_iff.1 hj).1
        have := hat j hjl
        refine ⟨v, ?_, ok⟩
        rw [← Go.Deep.add_add, this, hv]
      obtain ⟨b, off, spot⟩ := a'
      have hsp : spot = none := by
        obtain ⟨v, hv, _⟩ := fact 0 (by omega) 0 (ls[0]'hpos) (by simp)
        simpa [Addr.add] using World.cell?_spot hv
      subst hsp
      obtain ⟨v, hv, _⟩ := fact 0 (by omega) 0 (ls[0]'hpos) (by simp)
      have hbl := World.block_lt_of_cell? w _ hv
      refine ⟨b, off, rfl, by simpa [Addr.add] using hbl, fun i hil j l hj => ?_⟩
      obtain ⟨v, hv, ok⟩ := fact i hil j l hj
      simp only [hv, Option.getD_some]
      refine ⟨?_, ok⟩
      have ea : (⟨b, off + i * ls.length + j, none⟩ : Addr) = (⟨b, off, none⟩ : Addr).add (i * ls.length + j) := by
        simp only [Addr.add, Nat.add_assoc]
        split
        · rename_i h
          rw [h]
          rfl
        · rfl
      rw [ea]
      exact hv

/-- The row's own bound on a slice's weight. -/
theorem rows_sized {t e : TypeId} {ts : List TypeId} {ds : List (DataW H)} {j : Nat} {d : DataW H} {len : Nat}
    (hsz : (DataW.weightsEach P ts ds).all (· ≤ reachBytes) = true) (ht : ts[j]? = some t) (hd : ds[j]? = some d) (hu : P.underlying t = some (.slice e)) {B : Nat} (hB : P.bytesOf e = B)
    (h : d = .nil ∧ len = 0 ∨ ∃ es sp, d = .slice es sp ∧ es.length = len) : len * B ≤ 140737488351232 := by
  rcases h with ⟨_, rfl⟩ | ⟨es, sp, rfl, rfl⟩
  · simp
  · have z := sized_slice hsz ht hd hu
    rw [hB] at z
    exact Nat.le_trans (Nat.mul_le_mul_right _ (Nat.le_add_right _ _)) z
end
end Go.Proofs.YtckoaeoecjphiaaGreat

/- Arguments opened: a configuration; clocks and what is lost. -/
namespace Go.Proofs.YtckoaeoecjphiaaGreat
open Go.ChangeShapes Go.WideShapes Go.ChangeAt Go.RowKit Go.Deep Go.Lib

section
variable {H : Type} {enc : TypeId × Value → H} {P : Program} {w : World} {base : Nat} {spare : Nat → Bool} {held : Bool}

theorem rows_cells {t e : TypeId} {ls : List Leaf} {n fuel : Nat} {cs : List Value} {x : DataW H × List MemPlace} (ht : P.underlying t = some (.slice e)) (hl : leavesOf P n e = some ls) (hpos : 0 < ls.length) (hC : P.cellsOf e = ls.length)
    (hf : DataW.trod enc P w base spare held fuel t cs = some x) :
    ∃ a len cap V, cs = [.slice a len cap] ∧ RowsOf w a len ls V ∧ len ≤ cap ∧ (x.1 = .nil ∧ len = 0 ∨ ∃ es sp, x.1 = .slice es sp ∧ es.length = len) := by
  rcases open_slice ht hf with ⟨rfl, rfl⟩ | ⟨a', len, cap, m, n', D, Pl, rfl, _, hlc, _, hmm, rfl, hi⟩
  · exact ⟨none, 0, 0, fun _ _ => undef, rfl, .inl rfl, Nat.le_refl _, .inl ⟨rfl, rfl⟩⟩
  · refine ⟨some a', len, cap, fun i j => (w.cell? (a'.add (i * ls.length + j))).getD undef, rfl, ?_, hlc, .inr ⟨_, _, rfl, by simp⟩⟩
    by_cases h0 : len = 0
    · exact .inl h0
    · right
      have hlm : len ≤ m := by rw [hmm]; split <;> omega
      have fact : ∀ i, i < len → ∀ (j : Nat) (l : Leaf), ls[j]? = some l → ∃ v, w.cell? (a'.add (i * ls.length + j)) = some v ∧ l.ok v := by
        intro i hil j l hj
        obtain ⟨cs', hc, htr⟩ := hi i (by omega)
        have hfit := leaves_fit n e ls n' cs' _ hl htr
        obtain ⟨v, hv, ok⟩ := hfit j l hj
        rw [hC] at hc
        obtain ⟨_, hcl, hat⟩ := World.cells?_some hc
        have hjl : j < ls.length := (List.getElem?_eq_some_iff.1 hj).1
        have := hat j hjl
        refine ⟨v, ?_, ok⟩
        rw [← Go.Deep.add_add, this, hv]
      obtain ⟨b, off, spot⟩ := a'
      have hsp : spot = none := by
        obtain ⟨v, hv, _⟩ := fact 0 (by omega) 0 (ls[0]'hpos) (by simp)
        simpa [Addr.add] using World.cell?_spot hv
      subst hsp
      obtain ⟨v, hv, _⟩ := fact 0 (by omega) 0 (ls[0]'hpos) (by simp)
      have hbl := World.block_lt_of_cell? w _ hv
      refine ⟨b, off, rfl, by simpa [Addr.add] using hbl, fun i hil j l hj => ?_⟩
      obtain ⟨v, hv, ok⟩ := fact i hil j l hj
      simp only [hv, Option.getD_some]
      refine ⟨?_, ok⟩
      rw [show (⟨b, off + i * ls.length + j, none⟩ : Addr) = (⟨b, off, none⟩ : Addr).add (i * ls.length + j) by rw [add_lit, Nat.add_assoc]]
      exact hv
theorem rows_at {a : Option Addr} {len cap : Nat} {ls : List Leaf} {V : Nat → Nat → Value} {f : Nat → Nat → Value} (h : RowsOf w a len ls V) (hc : len ≤ cap) (hf : ∀ j, j < len → ∀ i (l : Leaf), ls[i]? = some l → l.ok (V j i) → V j i = f j i) : SliceAt w.heap.size w (.slice a len cap) ls.length len f := by
  rcases h with rfl | ⟨b, off, rfl, hb, hrow⟩
  · exact .inl ⟨_, _, rfl, rfl⟩
  · refine .inr ⟨b, off, cap, rfl, hc, hb, fun j hj i hi => ?_⟩
    obtain ⟨h1, h2⟩ := hrow j hj i ls[i] (List.getElem?_eq_getElem hi)
    rw [h1, hf j hj i ls[i] (List.getElem?_eq_getElem hi) h2]
theorem leaf_int {k : IntKind} {v : Value} (h : (Leaf.int k).ok v) : v = .int k (intOf v) ∧ (Lit.int k (intOf v)).wf = true := by
  obtain ⟨n, rfl, h1⟩ := h
  exact ⟨rfl, h1⟩
theorem wf_u32 {n : Int} (h : (Lit.int .u32 n).wf = true) : 0 ≤ n ∧ n ≤ 4294967295 := by simpa [Lit.wf, IntKind.min, IntKind.max, IntKind.signed, IntKind.bits] using h
/-- A slice of clocks. -/
theorem open_cks {t e : TypeId} {n fuel : Nat} {cs : List Value} {x : DataW H × List MemPlace} (ht : P.underlying t = some (.slice e)) (hl : leavesOf P n e = some [.int .i64, .int .i64, .int .i64]) (hC : P.cellsOf e = 3)
    (hf : DataW.trod enc P w base spare held fuel t cs = some x) : ∃ sv l, cs = [sv] ∧ CksAt w.heap.size w sv l ∧ (x.1 = .nil ∧ l.length = 0 ∨ ∃ es sp, x.1 = .slice es sp ∧ es.length = l.length) := by
  obtain ⟨a, len, cap, V, rfl, hr, hc, hd⟩ := rows_cells ht hl (by decide) hC hf
  refine ⟨_, (List.range len).map fun i => ⟨intOf (V i 0), intOf (V i 1), intOf (V i 2)⟩, rfl, ?_, by simpa using hd⟩
  have hlen : ((List.range len).map fun i => (⟨intOf (V i 0), intOf (V i 1), intOf (V i 2)⟩ : Ck)).length = len := by simp
  unfold CksAt
  rw [hlen]
  refine rows_at hr hc (fun j hj i l hl hok => ?_)
  have hn : nthC ((List.range len).map fun i => (⟨intOf (V i 0), intOf (V i 1), intOf (V i 2)⟩ : Ck)) j = ⟨intOf (V j 0), intOf (V j 1), intOf (V j 2)⟩ := by unfold nthC; simp [hj]
  unfold ckF
  rw [hn]
  match i, hl with
  | 0, hl => simp at hl; subst hl; exact (leaf_int hok).1
  | 1, hl => simp at hl; subst hl; exact (leaf_int hok).1
  | 2, hl => simp at hl; subst hl; exact (leaf_int hok).1
  | n + 3, hl => simp at hl
/-- A slice of entries, or of links. -/
theorem open_ents {t e : TypeId} {n fuel : Nat} {cs : List Value} {x : DataW H × List MemPlace} (ht : P.underlying t = some (.slice e)) (hl : leavesOf P n e = some [.int .i64, .int .u32, .int .i64, .int .i64]) (hC : P.cellsOf e = 4)
    (hf : DataW.trod enc P w base spare held fuel t cs = some x) : ∃ sv l, cs = [sv] ∧ SliceAt w.heap.size w sv 4 l.length (entF (nthE l)) ∧ (∀ y ∈ l, y.to < 4294967296) ∧ (x.1 = .nil ∧ l.length = 0 ∨ ∃ es sp, x.1 = .slice es sp ∧ es.length = l.length) := by
  obtain ⟨a, len, cap, V, rfl, hr, hc, hd⟩ := rows_cells ht hl (by decide) hC hf
  have hlen : ((List.range len).map fun i => (⟨intOf (V i 0), (intOf (V i 1)).toNat, intOf (V i 2), intOf (V i 3)⟩ : Ent)).length = len := by simp
  refine ⟨_, (List.range len).map fun i => ⟨intOf (V i 0), (intOf (V i 1)).toNat, intOf (V i 2), intOf (V i 3)⟩, rfl, ?_, ?_, by simpa using hd⟩
  · rw [hlen]
    refine rows_at hr hc (fun j hj i l hl hok => ?_)
    have hn : nthE ((List.range len).map fun i => (⟨intOf (V i 0), (intOf (V i 1)).toNat, intOf (V i 2), intOf (V i 3)⟩ : Ent)) j = ⟨intOf (V j 0), (intOf (V j 1)).toNat, intOf (V j 2), intOf (V j 3)⟩ := by unfold nthE; simp [hj]
    unfold entF
    rw [hn]
    match i, hl with
    | 0, hl => simp at hl; subst hl; exact (leaf_int hok).1
    | 1, hl =>
      simp at hl
      subst hl
      obtain ⟨h1, h2⟩ := leaf_int hok
      have h3 := wf_u32 h2
      show V j 1 = .int .u32 (((intOf (V j 1)).toNat : Nat) : Int)
      rw [Int.toNat_of_nonneg h3.1]
      exact h1
    | 2, hl => simp at hl; subst hl; exact (leaf_int hok).1
    | 3, hl => simp at hl; subst hl; exact (leaf_int hok).1
    | n + 4, hl => simp at hl
  · intro y hy
    obtain ⟨j, hj, rfl⟩ := List.mem_map.1 hy
    have hj' := List.mem_range.1 hj
    rcases hr with rfl | ⟨b, off, rfl, hb, hrow⟩
    · omega
    · obtain ⟨_, h2⟩ := hrow j hj' 1 _ rfl
      have h3 := wf_u32 (leaf_int h2).2
      show (intOf (V j 1)).toNat < _
      omega
/-- A slice of numbers. -/
theorem open_nums' {t e : TypeId} {n fuel : Nat} {cs : List Value} {x : DataW H × List MemPlace} (ht : P.underlying t = some (.slice e)) (hl : leavesOf P n e = some [.int .i64]) (hC : P.cellsOf e = 1)
    (hf : DataW.trod enc P w base spare held fuel t cs = some x) : ∃ sv l, cs = [sv] ∧ NumsAt w.heap.size w sv l ∧ (x.1 = .nil ∧ l.length = 0 ∨ ∃ es sp, x.1 = .slice es sp ∧ es.length = l.length) := by
  obtain ⟨a, len, cap, V, rfl, hr, hc, hd⟩ := rows_cells ht hl (by decide) hC hf
  have hlen : ((List.range len).map fun i => intOf (V i 0)).length = len := by simp
  refine ⟨_, (List.range len).map fun i => intOf (V i 0), rfl, ?_, by simpa using hd⟩
  unfold NumsAt
  rw [hlen]
  refine rows_at hr hc (fun j hj i l hl hok => ?_)
  match i, hl with
  | 0, hl =>
    simp at hl
    subst hl
    rw [(leaf_int hok).1]
    simp [nth, hj, intOf]
  | n + 1, hl => simp at hl
/-- The bound on what lies in a datum. -/
def Within (P : Program) (t : TypeId) (d : DataW H) : Prop := ∀ n ∈ d.weights P t, n ≤ 140737488351232
theorem within_len {t e : TypeId} {d : DataW H} {len B : Nat} (ht : P.underlying t = some (.slice e)) (hB : P.bytesOf e = B) (hw : Within P t d) (h : d = .nil ∧ len = 0 ∨ ∃ es sp, d = .slice es sp ∧ es.length = len) : len * B ≤ 140737488351232 := by
  rcases h with ⟨_, rfl⟩ | ⟨es, sp, rfl, rfl⟩
  · simp
  · have := hw ((es.length + sp.length) * P.bytesOf e) (by simp [DataW.weights, ht])
    rw [hB] at this
    exact Nat.le_trans (Nat.mul_le_mul_right _ (Nat.le_add_right _ _)) this
theorem within_all {e : TypeId} : ∀ {l : List (DataW H)} {d : DataW H}, d ∈ l → ∀ n ∈ d.weights P e, n ∈ DataW.weightsAll P e l
  | x :: l, d, h, n, hn => by
    simp only [DataW.weightsAll, List.mem_append]
    rcases List.mem_cons.1 h with rfl | h
    · exact .inl hn
    · exact .inr (within_all h n hn)
theorem within_elem {t e : TypeId} {es sp : List (DataW H)} {d : DataW H} (ht : P.underlying t = some (.slice e)) (hw : Within P t (.slice es sp)) (hd : d ∈ es) : Within P e d := fun n hn =>
  hw n (by simp only [DataW.weights, ht, List.mem_cons, List.mem_append]; exact .inr (.inl (within_all hd n hn)))
theorem within_part {t : TypeId} {fs : Array Field} {parts : List (DataW H)} {i : Nat} {f : Field} {d : DataW H} (ht : P.underlying t = some (.struct fs)) (hw : Within P t (.agg parts)) (hf : fs[i]? = some f) (hd : parts[i]? = some d) : Within P f.type d := fun n hn =>
  hw n (by
    simp only [DataW.weights, ht]
    exact DataW.weights_mem_each (j := i) (by simp [hf]) hd n hn)
theorem within_row {t e : TypeId} {es sp : List (DataW H)} (ht : P.underlying t = some (.slice e)) (hw : Within P t (.slice es sp)) : (es.length + sp.length) * P.bytesOf e ≤ 140737488351232 := hw _ (by simp [DataW.weights, ht])
/-- Rows of numbers. -/
theorem open_rows2 {t e g : TypeId} {n fuel : Nat} {cs : List Value} {x : DataW H × List MemPlace} (ht : P.underlying t = some (.slice e)) (he : P.underlying e = some (.slice g)) (hl : leavesOf P n g = some [.int .i64]) (hC : P.cellsOf g = 1) (hCe : P.cellsOf e = 1) (hB : P.bytesOf e = 24) (hBg : P.bytesOf g = 8)
    (hf : DataW.trod enc P w base spare held fuel t cs = some x) (hw : Within P t x.1) : ∃ sv rows, cs = [sv] ∧ RowsIn w.heap.size w sv rows ∧ rows.length ≤ 140737488351232 ∧ ∀ r ∈ rows, r.length ≤ 140737488351232 := by
  rcases open_slice ht hf with ⟨rfl, rfl⟩ | ⟨a, len, cap, m, n', D, Pl, rfl, _, hlc, _, hmm, rfl, hi⟩
  · exact ⟨_, [], rfl, ⟨fun _ => undef, .inl ⟨_, _, rfl, rfl⟩, fun j hj => absurd hj (Nat.not_lt_zero j)⟩, by simp, by simp⟩
  · have hlm : len ≤ m := by rw [hmm]; split <;> omega
    have fact : ∀ i, i < len → ∃ sv l, w.cell? (a.add i) = some sv ∧ NumsAt w.heap.size w sv l ∧ l.length ≤ 140737488351232 := by
      intro i hil
      obtain ⟨cs', hc, htr⟩ := hi i (by omega)
      obtain ⟨sv, l, rfl, h1, h2⟩ := open_nums' he hl hC htr
      rw [hCe, Nat.mul_one] at hc
      obtain ⟨_, _, hat⟩ := World.cells?_some hc
      have h3 := hat 0 (by omega)
      have h4 := within_len he hBg (within_elem ht hw (List.mem_map.2 ⟨i, List.mem_range.2 hil, rfl⟩)) h2
      refine ⟨sv, l, ?_, h1, by omega⟩
      rw [Go.Deep.add_add, Nat.add_zero] at h3
      simpa using h3
    have hws := within_row ht hw
    rw [hB] at hws
    simp only [List.length_map, List.length_range] at hws
    have hz : len ≤ 140737488351232 := by omega
    classical
    refine ⟨_, (List.range len).map fun i => if h : i < len then (fact i h).choose_spec.choose else [], rfl, ⟨fun i => if h : i < len then (fact i h).choose else undef, ?_, ?_⟩, by simpa using hz, ?_⟩
    · by_cases h0 : len = 0
      · subst h0
        exact .inl ⟨_, _, rfl, by simp⟩
      · obtain ⟨b, off, spot⟩ := a
        have h1 := (fact 0 (by omega)).choose_spec.choose_spec.1
        have hsp : spot = none := by simpa [Addr.add] using World.cell?_spot h1
        subst hsp
        have hbl := World.block_lt_of_cell? w _ h1
        refine .inr ⟨b, off, cap, by simp, by simpa using hlc, by simpa [Addr.add] using hbl, fun j hj i hi => ?_⟩
        obtain rfl : i = 0 := by omega
        have hj' : j < len := by simpa using hj
        dsimp only
        rw [dif_pos hj', Nat.mul_one, Nat.add_zero, ← add_lit]
        exact (fact j hj').choose_spec.choose_spec.1
    · intro j hj
      have hj' : j < len := by simpa using hj
      dsimp only
      rw [dif_pos hj']
      have e1 : nthR ((List.range len).map fun i => if h : i < len then (fact i h).choose_spec.choose else []) j = (fact j hj').choose_spec.choose := by
        unfold nthR
        simp [hj']
      rw [e1]
      exact (fact j hj').choose_spec.choose_spec.2.1
    · intro r hr
      obtain ⟨j, hj, rfl⟩ := List.mem_map.1 hr
      have hj' := List.mem_range.1 hj
      rw [dif_pos hj']
      exact (fact j hj').choose_spec.choose_spec.2.2
theorem cell_of1 {cs : List Value} {o : Nat} {v : Value} (h : (cs.drop o).take 1 = [v]) : cs[o]? = some v := by
  have h1 : ((cs.drop o).take 1)[0]? = some v := by rw [h]; rfl
  rw [List.getElem?_take_of_lt (by omega), List.getElem?_drop, Nat.add_zero] at h1
  exact h1
theorem cells_of {cs vs : List Value} (hl : cs.length = vs.length) (h : ∀ i, i < vs.length → cs[i]? = vs[i]?) : cs = vs := by
  refine List.ext_getElem? (fun i => ?_)
  rcases Nat.lt_or_ge i vs.length with h1 | h1
  · exact h i h1
  · rw [List.getElem?_eq_none h1, List.getElem?_eq_none (by omega)]
theorem part_of {α : Type} {xs : List α} {i : Nat} {o : Option α} (h : o = xs[i]?) (hi : i < xs.length) : ∃ x, o = some x ∧ xs[i]? = some x := ⟨xs[i], by rw [h, List.getElem?_eq_getElem hi], List.getElem?_eq_getElem hi⟩
end
section
variable {H : Type} {enc : TypeId × Value → H} {w : World} {base : Nat} {spare : Nat → Bool} {held : Bool}
theorem part_int {k : IntKind} {t : TypeId} {m o i : Nat} {cs : List Value} {xs : List (DataW H × List MemPlace)} (ht : Tryz.prog.underlying t = some (.int k)) (hc : Tryz.prog.cellsOf t = 1) (h : DataW.trod enc Tryz.prog w base spare held m t ((cs.drop o).take (Tryz.prog.cellsOf t)) = xs[i]?) (hi : i < xs.length) : ∃ n, cs[o]? = some (.int k n) ∧ (Lit.int k n).wf = true := by
  obtain ⟨x, h1, _⟩ := part_of h hi
  rw [hc] at h1
  obtain ⟨n, h2, _, h3⟩ := DataW.trod_int ht h1
  exact ⟨n, cell_of1 h2, h3⟩
theorem part_one {t : TypeId} {m o i : Nat} {cs : List Value} {xs : List (DataW H × List MemPlace)} (hc : Tryz.prog.cellsOf t = 1) (h : DataW.trod enc Tryz.prog w base spare held m t ((cs.drop o).take (Tryz.prog.cellsOf t)) = xs[i]?) (hi : i < xs.length) : ∃ x, DataW.trod enc Tryz.prog w base spare held m t ((cs.drop o).take 1) = some x ∧ xs[i]? = some x := by
  obtain ⟨x, h1, h2⟩ := part_of h hi
  rw [hc] at h1
  exact ⟨x, h1, h2⟩
set_option maxRecDepth 100000 in
/-- A configuration. -/
theorem open_config {r : Reach} {b0 : Nat} {v : Value} {d : DataW H} {p : List MemPlace}
    (hv : Value.okWide Tryz.prog w r b0 26 v) (h : DataW.Trod enc Tryz.prog w base spare held 26 v d p) (hw : Within Tryz.prog 26 d) :
    ∃ D vd ve vl, v = cfV D.cf vd ve vl ∧ NetAt w.heap.size w D vd ve vl := by
  obtain ⟨cs, rfl, hsz, _⟩ : ∃ cs, v = .agg cs ∧ cs.size = Tryz.prog.cellsOf 26 ∧ Row.okWide Tryz.prog w r b0 26 cs := by simpa [Value.okWide, Tryz.underlying26] using hv
  obtain ⟨fuel, hf⟩ := h
  obtain ⟨xs, m, _, hx, hlen, hl, hel⟩ := DataW.trod_struct Tryz.underlying26 hf
  have hl9 : xs.length = 9 := hl
  have hc9 : Tryz.prog.cellsOf 26 = 9 := by kernel_rfl
  have hcl : cs.toList.length = 9 := by rw [← hc9, ← hsz]; simp
  have hcv : (Value.cells (.agg cs)).toList = cs.toList := rfl
  rw [hcv] at hel
  have hc1 : Tryz.prog.cellsOf 3 = 1 := by kernel_rfl
  have hc2 : Tryz.prog.cellsOf 2 = 1 := by kernel_rfl
  obtain ⟨n0, e0, _⟩ := part_int Tryz.underlying3 hc1 (hel 0 _ rfl) (by omega)
  obtain ⟨n1, e1, _⟩ := part_int Tryz.underlying2 hc2 (hel 1 _ rfl) (by omega)
  obtain ⟨n2, e2, _⟩ := part_int Tryz.underlying2 hc2 (hel 2 _ rfl) (by omega)
  obtain ⟨n3, e3, _⟩ := part_int Tryz.underlying2 hc2 (hel 3 _ rfl) (by omega)
  obtain ⟨n4, e4, _⟩ := part_int Tryz.underlying2 hc2 (hel 4 _ rfl) (by omega)
  obtain ⟨n8, e8, _⟩ := part_int Tryz.underlying3 hc1 (hel 8 _ rfl) (by omega)
  have hd : d = .agg (xs.map (·.1)) := by have := congrArg Prod.fst hx; exact this
  rw [hd] at hw
  obtain ⟨x5, h5, k5⟩ := part_one (show Tryz.prog.cellsOf 22 = 1 by kernel_rfl) (hel 5 _ rfl) (by omega)
  obtain ⟨x6, h6, k6⟩ := part_one (show Tryz.prog.cellsOf 23 = 1 by kernel_rfl) (hel 6 _ rfl) (by omega)
  obtain ⟨x7, h7, k7⟩ := part_one (show Tryz.prog.cellsOf 24 = 1 by kernel_rfl) (hel 7 _ rfl) (by omega)
  have w5 := within_part (i := 5) Tryz.underlying26 hw rfl (d := x5.1) (by rw [List.getElem?_map, k5]; rfl)
  have w6 := within_part (i := 6) Tryz.underlying26 hw rfl (d := x6.1) (by rw [List.getElem?_map, k6]; rfl)
  have w7 := within_part (i := 7) Tryz.underlying26 hw rfl (d := x7.1) (by rw [List.getElem?_map, k7]; rfl)
  obtain ⟨vd, rows, e5, r1, r2, r3⟩ := open_rows2 (n := 3) Tryz.underlying22 Tryz.underlying35 (by kernel_rfl) hc2 (by kernel_rfl) (by kernel_rfl) (by kernel_rfl) h5 w5
  obtain ⟨ve, ents, e6, q1, q2, q3⟩ := open_ents (n := 3) Tryz.underlying23 (by kernel_rfl) (by kernel_rfl) h6
  obtain ⟨vl, lnks, e7, l1, l2, l3⟩ := open_ents (n := 3) Tryz.underlying24 (by kernel_rfl) (by kernel_rfl) h7
  have z6 := within_len Tryz.underlying23 (B := 32) (by kernel_rfl) w6 q3
  have z7 := within_len Tryz.underlying24 (B := 32) (by kernel_rfl) w7 l3
  have f5 := cell_of1 e5
  have f6 := cell_of1 e6
  have f7 := cell_of1 e7
  refine ⟨⟨⟨n0, n1, n2, n3, n4, n8⟩, rows, ents, lnks⟩, vd, ve, vl, ?_, ⟨r1, q1, l1, r2, r3, (show ents.length ≤ 140737488351232 by omega), (show lnks.length ≤ 140737488351232 by omega), q2, l2⟩⟩
  have hcs : cs.toList = [.int .i64 n0, .int .i64 n1, .int .i64 n2, .int .i64 n3, .int .i64 n4, vd, ve, vl, .int .i64 n8] := cells_of hcl (fun i hi => by
    match i, hi with
    | 0, _ => exact e0
    | 1, _ => exact e1
    | 2, _ => exact e2
    | 3, _ => exact e3
    | 4, _ => exact e4
    | 5, _ => exact f5
    | 6, _ => exact f6
    | 7, _ => exact f7
    | 8, _ => exact e8)
  rw [show cs = cs.toList.toArray by simp, hcs]
theorem part_u32 {t : TypeId} {m o i : Nat} {cs : List Value} {xs : List (DataW H × List MemPlace)} (ht : Tryz.prog.underlying t = some (.array 2 28)) (hu : Tryz.prog.underlying 28 = some (.int .u32)) (hc : Tryz.prog.cellsOf 28 = 1) (hct : Tryz.prog.cellsOf t = 2) (h : DataW.trod enc Tryz.prog w base spare held m t ((cs.drop o).take (Tryz.prog.cellsOf t)) = xs[i]?) (hi : i < xs.length) : ∃ a b : Nat, cs[o]? = some (.int .u32 (a : Int)) ∧ cs[o + 1]? = some (.int .u32 (b : Int)) ∧ a < 4294967296 ∧ b < 4294967296 := by
  obtain ⟨x, h1, _⟩ := part_of h hi
  obtain ⟨ys, m', _, _, hlen, hl, hel⟩ := DataW.trod_array ht h1
  rw [hct] at hlen hel
  have key : ∀ q, q < 2 → ∃ a : Nat, cs[o + q]? = some (.int .u32 (a : Int)) ∧ a < 4294967296 := fun q hq => by
    have h2 := hel q hq
    rw [hc, Nat.mul_one] at h2
    obtain ⟨y, h3, _⟩ := part_of h2 (by omega)
    obtain ⟨n, h4, _, h5⟩ := DataW.trod_int hu h3
    have h6 := cell_of1 h4
    rw [List.getElem?_take_of_lt (by omega), List.getElem?_drop] at h6
    have h7 := wf_u32 h5
    exact ⟨n.toNat, by rw [h6, Int.toNat_of_nonneg h7.1], by omega⟩
  obtain ⟨a, ha, ha2⟩ := key 0 (by omega)
  obtain ⟨b, hb, hb2⟩ := key 1 (by omega)
  exact ⟨a, b, ha, hb, ha2, hb2⟩
set_option maxRecDepth 100000 in
/-- What is lost. -/
theorem open_loss {fuel : Nat} {cs : List Value} {x : DataW H × List MemPlace} (hf : DataW.trod enc Tryz.prog w base spare held fuel 31 cs = some x) :
    ∃ y : Ls, y.ok ∧ cs = [.int .u32 (y.u0 : Int), .int .u32 (y.u1 : Int), .int .u32 (y.w0 : Int), .int .u32 (y.w1 : Int)] := by
  obtain ⟨xs, m, _, hx, hlen, hl, hel⟩ := DataW.trod_struct Tryz.underlying31 hf
  have hl2 : xs.length = 2 := hl
  rw [show Tryz.prog.cellsOf 31 = 4 by kernel_rfl] at hlen
  have hct : Tryz.prog.cellsOf 29 = 2 := by kernel_rfl
  have hc : Tryz.prog.cellsOf 28 = 1 := by kernel_rfl
  obtain ⟨a, b, h1, h2, h3, h4⟩ := part_u32 Tryz.underlying29 Tryz.underlying28 hc hct (hel 0 _ rfl) (by omega)
  obtain ⟨c, d, k1, k2, k3, k4⟩ := part_u32 Tryz.underlying29 Tryz.underlying28 hc hct (hel 1 _ rfl) (by omega)
  refine ⟨⟨a, b, c, d⟩, ⟨h3, h4, k3, k4⟩, cells_of hlen (fun i hi => ?_)⟩
  match i, hi with
  | 0, _ => exact h1
  | 1, _ => exact h2
  | 2, _ => exact k1
  | 3, _ => exact k2
set_option maxRecDepth 100000 in
/-- A case: clocks, and what is lost. -/
theorem open_case_cells {fuel : Nat} {cs : List Value} {x : DataW H × List MemPlace} (hf : DataW.trod enc Tryz.prog w base spare held fuel 33 cs = some x) (hw : Within Tryz.prog 33 x.1) :
    ∃ sv l y, CksAt w.heap.size w sv l ∧ l.length * 24 ≤ 140737488351232 ∧ Ls.ok y ∧ cs = [sv, .int .u32 (y.u0 : Int), .int .u32 (y.u1 : Int), .int .u32 (y.w0 : Int), .int .u32 (y.w1 : Int)] := by
  obtain ⟨xs, m, _, hx, hlen, hl, hel⟩ := DataW.trod_struct Tryz.underlying33 hf
  have hl2 : xs.length = 2 := hl
  rw [show Tryz.prog.cellsOf 33 = 5 by kernel_rfl] at hlen
  have hd : x.1 = .agg (xs.map (·.1)) := by have := congrArg Prod.fst hx; exact this
  rw [hd] at hw
  obtain ⟨x0, h0, k0⟩ := part_one (show Tryz.prog.cellsOf 27 = 1 by kernel_rfl) (hel 0 _ rfl) (by omega)
  have w0 := within_part (i := 0) Tryz.underlying33 hw rfl (d := x0.1) (by rw [List.getElem?_map, k0]; rfl)
  obtain ⟨sv, l, e0, r1, r2⟩ := open_cks (n := 3) Tryz.underlying27 (by kernel_rfl) (by kernel_rfl) h0
  have z0 := within_len Tryz.underlying27 (B := 24) (by kernel_rfl) w0 r2
  obtain ⟨x1, h1, k1⟩ := part_of (hel 1 _ rfl) (by omega)
  obtain ⟨y, hy, e1⟩ := open_loss h1
  have hc4 : Tryz.prog.cellsOf 31 = 4 := by kernel_rfl
  refine ⟨sv, l, y, r1, z0, hy, cells_of hlen (fun i hi => ?_)⟩
  have e2 : (cs.drop 1).take 4 = [.int .u32 (y.u0 : Int), .int .u32 (y.u1 : Int), .int .u32 (y.w0 : Int), .int .u32 (y.w1 : Int)] := e1
  have e3 : ∀ q, q < 4 → cs[1 + q]? = ([.int .u32 (y.u0 : Int), .int .u32 (y.u1 : Int), .int .u32 (y.w0 : Int), .int .u32 (y.w1 : Int)] : List Value)[q]? := fun q hq => by
    rw [← e2, List.getElem?_take_of_lt hq, List.getElem?_drop]
  match i, hi with
  | 0, _ => exact cell_of1 e0
  | 1, _ => exact e3 0 (by omega)
  | 2, _ => exact e3 1 (by omega)
  | 3, _ => exact e3 2 (by omega)
  | 4, _ => exact e3 3 (by omega)
abbrev caseV (sv : Value) (y : Ls) : Value := .agg #[sv, .int .u32 (y.u0 : Int), .int .u32 (y.u1 : Int), .int .u32 (y.w0 : Int), .int .u32 (y.w1 : Int)]
set_option maxRecDepth 100000 in
theorem open_case {r : Reach} {b0 : Nat} {v : Value} {d : DataW H} {p : List MemPlace}
    (hv : Value.okWide Tryz.prog w r b0 33 v) (h : DataW.Trod enc Tryz.prog w base spare held 33 v d p) (hw : Within Tryz.prog 33 d) :
    ∃ sv l y, v = caseV sv y ∧ CksAt w.heap.size w sv l ∧ l.length * 24 ≤ 140737488351232 ∧ Ls.ok y := by
  obtain ⟨cs, rfl, hsz, _⟩ : ∃ cs, v = .agg cs ∧ cs.size = Tryz.prog.cellsOf 33 ∧ Row.okWide Tryz.prog w r b0 33 cs := by simpa [Value.okWide, Tryz.underlying33] using hv
  obtain ⟨fuel, hf⟩ := h
  obtain ⟨sv, l, y, h1, h2, h3, h4⟩ := open_case_cells hf hw
  refine ⟨sv, l, y, ?_, h1, h2, h3⟩
  have h5 : cs.toList = _ := h4
  rw [show cs = cs.toList.toArray by simp, h5]
theorem within_arg {P : Program} {ts : List TypeId} {ds : List (DataW H)} {j : Nat} {t : TypeId} {d : DataW H} (hsz : (DataW.weightsEach P ts ds).all (· ≤ reachBytes) = true) (ht : ts[j]? = some t) (hd : ds[j]? = some d) : Within P t d := fun n hn => by
  have := List.all_eq_true.1 hsz _ (DataW.weights_mem_each ht hd n hn)
  exact of_decide_eq_true this
end
end Go.Proofs.YtckoaeoecjphiaaGreat
