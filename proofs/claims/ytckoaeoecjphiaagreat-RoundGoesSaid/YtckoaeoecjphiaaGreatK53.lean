/- Lemmas: Arguments opened: arrays of int64 by value. Data without depth (structs and arrays of whole numbers, bools, strings, floats): each cell is of its kind. No program is named here. Arguments opened: a configuration; clocks and what is lost. tocsinref02.Mul: the product. -/
import Derived.Test.YtckoaeoecjphiaaGreatRows
import Derived.WalkKit
import Derived.ProofKit
import Derived.OpenShut
import Derived.ShutString
import Derived.ChangeOld
import Derived.Below
import Derived.OpenVars
import Derived.Deep.Slices
import Derived.SizedLaws
import Derived.Test.YtckoaeoecjphiaaGreatK40
import Derived.Test.YtckoaeoecjphiaaGreatK31
import Derived.Test.YtckoaeoecjphiaaGreatK02
import Derived.Test.YtckoaeoecjphiaaGreatK01
import Derived.Laws.MakeOwn
import Derived.BigQuiet

/- Arguments opened: arrays of int64 by value. -/
namespace Go.Proofs.YtckoaeoecjphiaaGreat
open Go.ChangeShapes Go.WideShapes Go.ChangeAt Go.RowKit

theorem own_none : ownKnob Tryz.prog.godebug = none := by kernel_rfl
theorem laid_out : laidOutB Tryz.prog = true := by kernel_rfl

section
variable {H : Type} {enc : TypeId × Value → H} {P : Program} {w : World} {base : Nat} {spare : Nat → Bool} {held : Bool}

theorem open_arr {n : Nat} {r : Reach} {b0 : Nat} {t e : TypeId} {v : Value} {d : DataW H} {p : List MemPlace} (ht : P.underlying t = some (.array n e)) (he : P.underlying e = some (.int .i64)) (hce : P.cellsOf e = 1) (hct : P.cellsOf t = n)
    (hv : Value.okWide P w r b0 t v) (h : DataW.Trod enc P w base spare held t v d p) :
    ∃ l : List Int, l.length = n ∧ v = .agg (l.map (Value.int .i64)).toArray ∧ ∀ x ∈ l, -9223372036854775808 ≤ x ∧ x ≤ 9223372036854775807 := by
  obtain ⟨cs, rfl, hsz, _⟩ : ∃ cs, v = .agg cs ∧ cs.size = P.cellsOf t ∧ Row.okWide P w r b0 t cs := by simpa [Value.okWide, ht] using hv
  obtain ⟨fuel, hf⟩ := h
  obtain ⟨xs, m, _, _, hlen, hl, hel⟩ := DataW.trod_array ht hf
  rw [hct] at hsz
  have key : ∀ i (hi : i < cs.toList.length), ∃ x : Int, cs.toList[i] = .int .i64 x ∧ -9223372036854775808 ≤ x ∧ x ≤ 9223372036854775807 := by
    intro i hi
    have hin : i < n := by simpa [hsz] using hi
    have h1 := hel i hin
    rw [hce, Nat.mul_one] at h1
    have h2 : (cs.toList.drop i).take 1 = [cs.toList[i]] := by
      rw [List.drop_eq_getElem_cons hi]; rfl
    have h2' : (Value.cells (.agg cs)).toList.drop i = cs.toList.drop i := by rfl
    rw [h2', h2] at h1
    rw [List.getElem?_eq_getElem (by omega)] at h1
    obtain ⟨x, e0, _, w0⟩ := DataW.trod_int he h1
    simp at e0
    exact ⟨x, by simpa using e0, by simpa [Lit.wf, IntKind.min, IntKind.max, IntKind.signed, IntKind.bits] using w0⟩
  refine ⟨cs.toList.map intOf, by simpa using hsz, ?_, ?_⟩
  · congr 1
    apply Array.ext'
    simp only
    apply List.ext_getElem
    · simp
    · intro i h1 h2
      obtain ⟨x, e0, _⟩ := key i h1
      simp only [List.getElem_map]
      rw [e0]
      rfl
  · intro x hx
    obtain ⟨y, hy, rfl⟩ := List.mem_map.1 hx
    obtain ⟨i, hi, rfl⟩ := List.getElem_of_mem hy
    obtain ⟨x, e0, hb⟩ := key i hi
    rw [e0]
    exact hb

theorem open_arr3 {r : Reach} {b0 : Nat} {t e : TypeId} {v : Value} {d : DataW H} {p : List MemPlace} (ht : P.underlying t = some (.array 3 e)) (he : P.underlying e = some (.int .i64)) (hce : P.cellsOf e = 1) (hct : P.cellsOf t = 3)
    (hv : Value.okWide P w r b0 t v) (h : DataW.Trod enc P w base spare held t v d p) :
    ∃ a b c : Int, v = .agg #[.int .i64 a, .int .i64 b, .int .i64 c] ∧ (-9223372036854775808 ≤ a ∧ a ≤ 9223372036854775807) ∧ (-9223372036854775808 ≤ b ∧ b ≤ 9223372036854775807) ∧ (-9223372036854775808 ≤ c ∧ c ≤ 9223372036854775807) := by
  obtain ⟨l, hl, rfl, hb⟩ := open_arr ht he hce hct hv h
  match l, hl with
  | [a, b, c], _ => exact ⟨a, b, c, rfl, hb a (by simp), hb b (by simp), hb c (by simp)⟩

theorem open_arr2 {r : Reach} {b0 : Nat} {t e : TypeId} {v : Value} {d : DataW H} {p : List MemPlace} (ht : P.underlying t = some (.array 2 e)) (he : P.underlying e = some (.int .i64)) (hce : P.cellsOf e = 1) (hct : P.cellsOf t = 2)
    (hv : Value.okWide P w r b0 t v) (h : DataW.Trod enc P w base spare held t v d p) :
    ∃ a b : Int, v = .agg #[.int .i64 a, .int .i64 b] ∧ (-9223372036854775808 ≤ a ∧ a ≤ 9223372036854775807) ∧ (-9223372036854775808 ≤ b ∧ b ≤ 9223372036854775807) := by
  obtain ⟨l, hl, rfl, hb⟩ := open_arr ht he hce hct hv h
  match l, hl with
  | [a, b], _ => exact ⟨a, b, rfl, hb a (by simp), hb b (by simp)⟩

theorem open_i64 {r : Reach} {b0 : Nat} {t : TypeId} {v : Value} {d : DataW H} {p : List MemPlace} (ht : P.underlying t = some (.int .i64))
    (hv : Value.okWide P w r b0 t v) (h : DataW.Trod enc P w base spare held t v d p) :
    ∃ a : Int, v = .int .i64 a ∧ -9223372036854775808 ≤ a ∧ a ≤ 9223372036854775807 := by
  obtain ⟨x, rfl, _, _, wx⟩ := open_int ht hv h
  exact ⟨x, rfl, by simpa [Lit.wf, IntKind.min, IntKind.max, IntKind.signed, IntKind.bits] using wx⟩

/-- A slice whose elements are structs of k int64 fields: the numbers f i j, where there is an element. -/
def RowsAt (w : World) (a : Option Addr) (len : Nat) (k : Nat) (f : Nat → Nat → Int) : Prop :=
  len ≤ 140737488351232 ∧ (len = 0 ∨ ∃ b off, a = some ⟨b, off, none⟩ ∧ b < w.heap.size ∧ ∀ i, i < len → ∀ j, j < k → w.cell? ⟨b, off + i * k + j, none⟩ = some (.int .i64 (f i j)) ∧ -9223372036854775808 ≤ f i j ∧ f i j ≤ 9223372036854775807)
end
end Go.Proofs.YtckoaeoecjphiaaGreat

/- Data without depth (structs and arrays of whole numbers, bools, strings, floats): each cell is of its kind. No program is named here. -/
namespace Go.Proofs.YtckoaeoecjphiaaGreat
open Go.ChangeShapes Go.WideShapes Go.ChangeAt Go.RowKit Go.Deep

inductive Leaf where
  | int (k : IntKind)
  | bool
  | str
  | flt (k : FloatKind)

def Leaf.ok : Leaf → Value → Prop
  | .int k, v => ∃ n, v = .int k n ∧ (Lit.int k n).wf = true
  | .bool, v => ∃ b, v = .bool b
  | .str, v => ∃ s : ByteArray, v = .string s ∧ s.size ≤ maxLen
  | .flt k, v => ∃ b, v = .float k b ∧ (Lit.float k b).wf = true

/-- The leaves of a type, in their cells' order. -/
def leavesOf (P : Program) : Nat → TypeId → Option (List Leaf)
  | 0, _ => none
  | n + 1, t => match P.underlying t with
    | some (.int k) => some [.int k]
    | some .bool => some [.bool]
    | some .string => some [.str]
    | some (.float k) => some [.flt k]
    | some (.struct fs) => fs.toList.foldlM (fun acc f => if f.offset = acc.length then (leavesOf P n f.type).bind fun l => if P.cellsOf f.type = l.length then some (acc ++ l) else none else none) []
    | some (.array k e) => (leavesOf P n e).bind fun l => if P.cellsOf e = l.length then some (List.replicate k l).flatten else none
    | _ => none

def Fits (ls : List Leaf) (cs : List Value) : Prop := ∀ (j : Nat) (l : Leaf), ls[j]? = some l → ∃ v, cs[j]? = some v ∧ l.ok v

theorem Fits.nil (cs : List Value) : Fits [] cs := by intro j l h; simp at h
theorem Fits.one {l : Leaf} {v : Value} (h : l.ok v) : Fits [l] [v] := by
  intro j l' hj
  cases j with
  | zero => simp at hj; subst hj; exact ⟨v, rfl, h⟩
  | succ j => simp at hj
theorem Fits.append {as0 bs : List Leaf} {cs : List Value} (ha : Fits as0 cs) (hb : Fits bs ((cs.drop as0.length).take bs.length)) : Fits (as0 ++ bs) cs := by
  intro j l hj
  rcases Nat.lt_or_ge j as0.length with h | h
  · rw [List.getElem?_append_left h] at hj
    exact ha j l hj
  · rw [List.getElem?_append_right h] at hj
    obtain ⟨v, hv, ok⟩ := hb _ l hj
    refine ⟨v, ?_, ok⟩
    have hlt : j - as0.length < bs.length := (List.getElem?_eq_some_iff.1 hj).1
    rw [List.getElem?_take_of_lt hlt, List.getElem?_drop] at hv
    rw [← hv]; congr 1; omega

section
variable {H : Type} {enc : TypeId × Value → H} {P : Program} {w : World} {base : Nat} {spare : Nat → Bool} {held : Bool}

theorem leaves_fit : ∀ (n : Nat) (t : TypeId) (ls : List Leaf) (fuel : Nat) (cs : List Value) (x : DataW H × List MemPlace), leavesOf P n t = some ls → DataW.trod enc P w base spare held fuel t cs = some x → Fits ls cs
  | 0, _, _, _, _, _, h, _ => by simp [leavesOf] at h
  | n + 1, t, ls, fuel, cs, x, h, ht => by
    unfold leavesOf at h
    cases hu : P.underlying t with
    | none => rw [hu] at h; simp at h
    | some d =>
      rw [hu] at h
      cases d with
      | int k =>
        simp at h; subst h
        obtain ⟨v, rfl, _, wf⟩ := DataW.trod_int hu ht
        exact Fits.one ⟨v, rfl, wf⟩
      | bool =>
        simp at h; subst h
        obtain ⟨v, rfl, _⟩ := DataW.trod_bool hu ht
        exact Fits.one ⟨v, rfl⟩
      | string =>
        simp at h; subst h
        obtain ⟨v, rfl, _, wf⟩ := DataW.trod_string hu ht
        exact Fits.one ⟨v, rfl, wf⟩
      | float k =>
        simp at h; subst h
        cases fuel with
        | zero => simp [DataW.trod] at ht
        | succ m =>
          unfold DataW.trod at ht
          rw [hu] at ht
          simp only at ht
          split at ht <;> simp_all
          refine Fits.one ⟨_, rfl, ?_⟩
          simp_all
      | struct fs =>
        simp only at h
        obtain ⟨xs, m, _, _, _, hxl, hf⟩ := DataW.trod_struct hu ht
        have key : ∀ (l : List Field) (i : Nat) (acc out : List Leaf), (∀ j, l[j]? = fs[i + j]?) → Fits acc cs →
            l.foldlM (fun acc f => if f.offset = acc.length then (leavesOf P n f.type).bind fun l => if P.cellsOf f.type = l.length then some (acc ++ l) else none else none) acc = some out → Fits out cs := by
          intro l
          induction l with
          | nil => intro i acc out _ ha ho; simp at ho; subst ho; exact ha
          | cons f l ih =>
            intro i acc out hl ha ho
            simp only [List.foldlM_cons] at ho
            by_cases hoff : f.offset = acc.length
            · rw [if_pos hoff] at ho
              cases hlv : leavesOf P n f.type with
              | none => rw [hlv] at ho; simp at ho
              | some lv =>
                rw [hlv] at ho
                simp only [Option.bind_some] at ho
                by_cases hc : P.cellsOf f.type = lv.length
                · rw [if_pos hc] at ho
                  have hfi : fs[i]? = some f := by have := hl 0; simpa using this.symm
                  have hy := hf i f hfi
                  have hilt : i < xs.length := by rw [hxl]; exact (Array.getElem?_eq_some_iff.1 hfi).1
                  rw [List.getElem?_eq_getElem hilt, hoff, hc] at hy
                  have hfit := leaves_fit n f.type lv m _ _ hlv hy
                  refine ih (i + 1) (acc ++ lv) out (fun j => ?_) (ha.append hfit) ho
                  have := hl (j + 1)
                  simp only [List.getElem?_cons_succ] at this
                  rw [this]; congr 1; omega
                · rw [if_neg hc] at ho; simp at ho
            · rw [if_neg hoff] at ho; simp at ho
        exact key fs.toList 0 [] ls (fun j => by simp) (Fits.nil cs) h
      | array k e =>
        simp only at h
        obtain ⟨xs, m, _, _, _, hxl, hf⟩ := DataW.trod_array hu ht
        cases hlv : leavesOf P n e with
        | none => rw [hlv] at h; simp at h
        | some lv =>
          rw [hlv] at h
          simp only [Option.bind_some] at h
          by_cases hc : P.cellsOf e = lv.length
          · rw [if_pos hc] at h
            simp at h; subst h
            have key : ∀ i, i ≤ k → Fits (List.replicate i lv).flatten cs := by
              intro i
              induction i with
              | zero => intro _; simpa using Fits.nil cs
              | succ i ih =>
                intro hi
                have hy := hf i (by omega)
                rw [List.getElem?_eq_getElem (by omega), hc] at hy
                have hfit := leaves_fit n e lv m _ _ hlv hy
                rw [List.replicate_succ', List.flatten_append]
                refine Fits.append (ih (by omega)) ?_
                simpa using hfit
            exact key k (Nat.le_refl _)
          · rw [if_neg hc] at h; simp at h
      | _ => simp at h

/-- A slice whose elements are of such a type: what its cells hold. -/
def RowsOf (w : World) (a : Option Addr) (len : Nat) (ls : List Leaf) (V : Nat → Nat → Value) : Prop :=
  len = 0 ∨ ∃ b off, a = some ⟨b, off, none⟩ ∧ b < w.heap.size ∧ ∀ i, i < len → ∀ (j : Nat) (l : Leaf), ls[j]? = some l → w.cell? ⟨b, off + i * ls.length + j, none⟩ = some (V i j) ∧ l.ok (V i j)

theorem open_rows {r : Reach} {b0 : Nat} {t e : TypeId} {ls : List Leaf} {n : Nat} {v : Value} {d : DataW H} {p : List MemPlace} (ht : P.underlying t = some (.slice e)) (hl : leavesOf P n e = some ls) (hpos : 0 < ls.length) (hC : P.cellsOf e = ls.length)
    (hv : Value.okWide P w r b0 t v) (h : DataW.Trod enc P w base spare held t v d p) :
    ∃ a len cap V, v = .slice a len cap ∧ RowsOf w a len ls V ∧ (d = .nil ∧ len = 0 ∨ ∃ es sp, d = .slice es sp ∧ es.length = len) := by
  obtain ⟨a, len, cap, rfl⟩ := okWide_slice ht hv
  obtain ⟨fuel, hf⟩ := h
  rcases open_slice ht hf with ⟨hcs, hx⟩ | ⟨a', len', cap', m, n', D, Pl, hcs, _, hlc, _, hmm, hx, hi⟩
  · simp [Value.cells] at hcs
    obtain ⟨rfl, rfl, rfl⟩ := hcs
    simp at hx
    exact ⟨none, 0, 0, fun _ _ => undef, rfl, .inl rfl, .inl ⟨hx.1, rfl⟩⟩
  · simp [Value.cells] at hcs
    obtain ⟨rfl, rfl, rfl⟩ := hcs
    simp at hx
    refine ⟨some a', len, cap, fun i j => (w.cell? (a'.add (i * ls.length + j))).getD undef, rfl, ?_, .inr ⟨_, _, hx.1, by simp⟩⟩
    by_cases h0 : len = 0
    · exact .inl h0
    · right
      have hlm : len ≤ m := by rw [hmm]; split <;> omega
      have fact : ∀ i, i < len → ∀ (j : Nat) (l : Leaf), ls[j]? = some l → ∃ v, w.cell? (a'.add (i * ls.length + j)) = some v ∧ l.ok v := by
        intro i hil j l hj
        obtain ⟨cs', hc, htr⟩ := hi i (by omega)
        have hfit := leaves_fit n e ls n' cs' _ hl htr
        obtain ⟨v, hv, ok⟩ := hfit j l hj
        rw [hC] at hc
        obtain ⟨_, hcl, hat⟩ := World.cells?_some hc
        have hjl : j < ls.length := (List.getElem?_eq_some_iff.1 hj).1
        have := hat j hjl
        refine ⟨v, ?_, ok⟩
        rw [← Go.Deep.add_add, this, hv]
      obtain ⟨b, off, spot⟩ := a'
      have hsp : spot = none := by
        obtain ⟨v, hv, _⟩ := fact 0 (by omega) 0 (ls[0]'hpos) (by simp)
        simpa [Addr.add] using World.cell?_spot hv
      subst hsp
      obtain ⟨v, hv, _⟩ := fact 0 (by omega) 0 (ls[0]'hpos) (by simp)
      have hbl := World.block_lt_of_cell? w _ hv
      refine ⟨b, off, rfl, by simpa [Addr.add] using hbl, fun i hil j l hj => ?_⟩
      obtain ⟨v, hv, ok⟩ := fact i hil j l hj
      simp only [hv, Option.getD_some]
      refine ⟨?_, ok⟩
      have ea : (⟨b, off + i * ls.length + j, none⟩ : Addr) = (⟨b, off, none⟩ : Addr).add (i * ls.length + j) := by
        simp only [Addr.add, Nat.add_assoc]
        split
        · rename_i h
          rw [h]
          rfl
        · rfl
      rw [ea]
      exact hv

/-- The row's own bound on a slice's weight. -/
theorem rows_sized {t e : TypeId} {ts : List TypeId} {ds : List (DataW H)} {j : Nat} {d : DataW H} {len : Nat}
    (hsz : (DataW.weightsEach P ts ds).all (· ≤ reachBytes) = true) (ht : ts[j]? = some t) (hd : ds[j]? = some d) (hu : P.underlying t = some (.slice e)) {B : Nat} (hB : P.bytesOf e = B)
    (h : d = .nil ∧ len = 0 ∨ ∃ es sp, d = .slice es sp ∧ es.length = len) : len * B ≤ 140737488351232 := by
  rcases h with ⟨_, rfl⟩ | ⟨es, sp, rfl, rfl⟩
  · simp
  · have z := sized_slice hsz ht hd hu
    rw [hB] at z
    exact Nat.le_trans (Nat.mul_le_mul_right _ (Nat.le_add_right _ _)) z
end
end Go.Proofs.YtckoaeoecjphiaaGreat

/- Arguments opened: a configuration; clocks and what is lost. -/
namespace Go.Proofs.YtckoaeoecjphiaaGreat
open Go.ChangeShapes Go.WideShapes Go.ChangeAt Go.RowKit Go.Deep Go.Lib

section
variable {H : Type} {enc : TypeId × Value → H} {P : Program} {w : World} {base : Nat} {spare : Nat → Bool} {held : Bool}

theorem rows_cells {t e : TypeId} {ls : List Leaf} {n fuel : Nat} {cs : List Value} {x : DataW H × List MemPlace} (ht : P.underlying t = some (.slice e)) (hl : leavesOf P n e = some ls) (hpos : 0 < ls.length) (hC : P.cellsOf e = ls.length)
    (hf : DataW.trod enc P w base spare held fuel t cs = some x) :
    ∃ a len cap V, cs = [.slice a len cap] ∧ RowsOf w a len ls V ∧ len ≤ cap ∧ (x.1 = .nil ∧ len = 0 ∨ ∃ es sp, x.1 = .slice es sp ∧ es.length = len) := by
  rcases open_slice ht hf with ⟨rfl, rfl⟩ | ⟨a', len, cap, m, n', D, Pl, rfl, _, hlc, _, hmm, rfl, hi⟩
  · exact ⟨none, 0, 0, fun _ _ => undef, rfl, .inl rfl, Nat.le_refl _, .inl ⟨rfl, rfl⟩⟩
  · refine ⟨some a', len, cap, fun i j => (w.cell? (a'.add (i * ls.length + j))).getD undef, rfl, ?_, hlc, .inr ⟨_, _, rfl, by simp⟩⟩
    by_cases h0 : len = 0
    · exact .inl h0
    · right
      have hlm : len ≤ m := by rw [hmm]; split <;> omega
      have fact : ∀ i, i < len → ∀ (j : Nat) (l : Leaf), ls[j]? = some l → ∃ v, w.cell? (a'.add (i * ls.length + j)) = some v ∧ l.ok v := by
        intro i hil j l hj
        obtain ⟨cs', hc, htr⟩ := hi i (by omega)
        have hfit := leaves_fit n e ls n' cs' _ hl htr
        obtain ⟨v, hv, ok⟩ := hfit j l hj
        rw [hC] at hc
        obtain ⟨_, hcl, hat⟩ := World.cells?_some hc
        have hjl : j < ls.length := (List.getElem?_eq_some_iff.1 hj).1
        have := hat j hjl
        refine ⟨v, ?_, ok⟩
        rw [← Go.Deep.add_add, this, hv]
      obtain ⟨b, off, spot⟩ := a'
      have hsp : spot = none := by
        obtain ⟨v, hv, _⟩ := fact 0 (by omega) 0 (ls[0]'hpos) (by simp)
        simpa [Addr.add] using World.cell?_spot hv
      subst hsp
      obtain ⟨v, hv, _⟩ := fact 0 (by omega) 0 (ls[0]'hpos) (by simp)
      have hbl := World.block_lt_of_cell? w _ hv
      refine ⟨b, off, rfl, by simpa [Addr.add] using hbl, fun i hil j l hj => ?_⟩
      obtain ⟨v, hv, ok⟩ := fact i hil j l hj
      simp only [hv, Option.getD_some]
      refine ⟨?_, ok⟩
      rw [show (⟨b, off + i * ls.length + j, none⟩ : Addr) = (⟨b, off, none⟩ : Addr).add (i * ls.length + j) by rw [add_lit, Nat.add_assoc]]
      exact hv
theorem rows_at {a : Option Addr} {len cap : Nat} {ls : List Leaf} {V : Nat → Nat → Value} {f : Nat → Nat → Value} (h : RowsOf w a len ls V) (hc : len ≤ cap) (hf : ∀ j, j < len → ∀ i (l : Leaf), ls[i]? = some l → l.ok (V j i) → V j i = f j i) : SliceAt w.heap.size w (.slice a len cap) ls.length len f := by
  rcases h with rfl | ⟨b, off, rfl, hb, hrow⟩
  · exact .inl ⟨_, _, rfl, rfl⟩
  · refine .inr ⟨b, off, cap, rfl, hc, hb, fun j hj i hi => ?_⟩
    obtain ⟨h1, h2⟩ := hrow j hj i ls[i] (List.getElem?_eq_getElem hi)
    rw [h1, hf j hj i ls[i] (List.getElem?_eq_getElem hi) h2]
theorem leaf_int {k : IntKind} {v : Value} (h : (Leaf.int k).ok v) : v = .int k (intOf v) ∧ (Lit.int k (intOf v)).wf = true := by
  obtain ⟨n, rfl, h1⟩ := h
  exact ⟨rfl, h1⟩
theorem wf_u32 {n : Int} (h : (Lit.int .u32 n).wf = true) : 0 ≤ n ∧ n ≤ 4294967295 := by simpa [Lit.wf, IntKind.min, IntKind.max, IntKind.signed, IntKind.bits] using h
/-- A slice of clocks. -/
theorem open_cks {t e : TypeId} {n fuel : Nat} {cs : List Value} {x : DataW H × List MemPlace} (ht : P.underlying t = some (.slice e)) (hl : leavesOf P n e = some [.int .i64, .int .i64, .int .i64]) (hC : P.cellsOf e = 3)
    (hf : DataW.trod enc P w base spare held fuel t cs = some x) : ∃ sv l, cs = [sv] ∧ CksAt w.heap.size w sv l ∧ (x.1 = .nil ∧ l.length = 0 ∨ ∃ es sp, x.1 = .slice es sp ∧ es.length = l.length) := by
  obtain ⟨a, len, cap, V, rfl, hr, hc, hd⟩ := rows_cells ht hl (by decide) hC hf
  refine ⟨_, (List.range len).map fun i => ⟨intOf (V i 0), intOf (V i 1), intOf (V i 2)⟩, rfl, ?_, by simpa using hd⟩
  have hlen : ((List.range len).map fun i => (⟨intOf (V i 0), intOf (V i 1), intOf (V i 2)⟩ : Ck)).length = len := by simp
  unfold CksAt
  rw [hlen]
  refine rows_at hr hc (fun j hj i l hl hok => ?_)
  have hn : nthC ((List.range len).map fun i => (⟨intOf (V i 0), intOf (V i 1), intOf (V i 2)⟩ : Ck)) j = ⟨intOf (V j 0), intOf (V j 1), intOf (V j 2)⟩ := by unfold nthC; simp [hj]
  unfold ckF
  rw [hn]
  match i, hl with
  | 0, hl => simp at hl; subst hl; exact (leaf_int hok).1
  | 1, hl => simp at hl; subst hl; exact (leaf_int hok).1
  | 2, hl => simp at hl; subst hl; exact (leaf_int hok).1
  | n + 3, hl => simp at hl
/-- A slice of entries, or of links. -/
theorem open_ents {t e : TypeId} {n fuel : Nat} {cs : List Value} {x : DataW H × List MemPlace} (ht : P.underlying t = some (.slice e)) (hl : leavesOf P n e = some [.int .i64, .int .u32, .int .i64, .int .i64]) (hC : P.cellsOf e = 4)
    (hf : DataW.trod enc P w base spare held fuel t cs = some x) : ∃ sv l, cs = [sv] ∧ SliceAt w.heap.size w sv 4 l.length (entF (nthE l)) ∧ (∀ y ∈ l, y.to < 4294967296) ∧ (x.1 = .nil ∧ l.length = 0 ∨ ∃ es sp, x.1 = .slice es sp ∧ es.length = l.length) := by
  obtain ⟨a, len, cap, V, rfl, hr, hc, hd⟩ := rows_cells ht hl (by decide) hC hf
  have hlen : ((List.range len).map fun i => (⟨intOf (V i 0), (intOf (V i 1)).toNat, intOf (V i 2), intOf (V i 3)⟩ : Ent)).length = len := by simp
  refine ⟨_, (List.range len).map fun i => ⟨intOf (V i 0), (intOf (V i 1)).toNat, intOf (V i 2), intOf (V i 3)⟩, rfl, ?_, ?_, by simpa using hd⟩
  · rw [hlen]
    refine rows_at hr hc (fun j hj i l hl hok => ?_)
    have hn : nthE ((List.range len).map fun i => (⟨intOf (V i 0), (intOf (V i 1)).toNat, intOf (V i 2), intOf (V i 3)⟩ : Ent)) j = ⟨intOf (V j 0), (intOf (V j 1)).toNat, intOf (V j 2), intOf (V j 3)⟩ := by unfold nthE; simp [hj]
    unfold entF
    rw [hn]
    match i, hl with
    | 0, hl => simp at hl; subst hl; exact (leaf_int hok).1
    | 1, hl =>
      simp at hl
      subst hl
      obtain ⟨h1, h2⟩ := leaf_int hok
      have h3 := wf_u32 h2
      show V j 1 = .int .u32 (((intOf (V j 1)).toNat : Nat) : Int)
      rw [Int.toNat_of_nonneg h3.1]
      exact h1
    | 2, hl => simp at hl; subst hl; exact (leaf_int hok).1
    | 3, hl => simp at hl; subst hl; exact (leaf_int hok).1
    | n + 4, hl => simp at hl
  · intro y hy
    obtain ⟨j, hj, rfl⟩ := List.mem_map.1 hy
    have hj' := List.mem_range.1 hj
    rcases hr with rfl | ⟨b, off, rfl, hb, hrow⟩
    · omega
    · obtain ⟨_, h2⟩ := hrow j hj' 1 _ rfl
      have h3 := wf_u32 (leaf_int h2).2
      show (intOf (V j 1)).toNat < _
      omega
/-- A slice of numbers. -/
theorem open_nums' {t e : TypeId} {n fuel : Nat} {cs : List Value} {x : DataW H × List MemPlace} (ht : P.underlying t = some (.slice e)) (hl : leavesOf P n e = some [.int .i64]) (hC : P.cellsOf e = 1)
    (hf : DataW.trod enc P w base spare held fuel t cs = some x) : ∃ sv l, cs = [sv] ∧ NumsAt w.heap.size w sv l ∧ (x.1 = .nil ∧ l.length = 0 ∨ ∃ es sp, x.1 = .slice es sp ∧ es.length = l.length) := by
  obtain ⟨a, len, cap, V, rfl, hr, hc, hd⟩ := rows_cells ht hl (by decide) hC hf
  have hlen : ((List.range len).map fun i => intOf (V i 0)).length = len := by simp
  refine ⟨_, (List.range len).map fun i => intOf (V i 0), rfl, ?_, by simpa using hd⟩
  unfold NumsAt
  rw [hlen]
  refine rows_at hr hc (fun j hj i l hl hok => ?_)
  match i, hl with
  | 0, hl =>
    simp at hl
    subst hl
    rw [(leaf_int hok).1]
    simp [nth, hj, intOf]
  | n + 1, hl => simp at hl
/-- The bound on what lies in a datum. -/
def Within (P : Program) (t : TypeId) (d : DataW H) : Prop := ∀ n ∈ d.weights P t, n ≤ 140737488351232
theorem within_len {t e : TypeId} {d : DataW H} {len B : Nat} (ht : P.underlying t = some (.slice e)) (hB : P.bytesOf e = B) (hw : Within P t d) (h : d = .nil ∧ len = 0 ∨ ∃ es sp, d = .slice es sp ∧ es.length = len) : len * B ≤ 140737488351232 := by
  rcases h with ⟨_, rfl⟩ | ⟨es, sp, rfl, rfl⟩
  · simp
  · have := hw ((es.length + sp.length) * P.bytesOf e) (by simp [DataW.weights, ht])
    rw [hB] at this
    exact Nat.le_trans (Nat.mul_le_mul_right _ (Nat.le_add_right _ _)) this
theorem within_all {e : TypeId} : ∀ {l : List (DataW H)} {d : DataW H}, d ∈ l → ∀ n ∈ d.weights P e, n ∈ DataW.weightsAll P e l
  | x :: l, d, h, n, hn => by
    simp only [DataW.weightsAll, List.mem_append]
    rcases List.mem_cons.1 h with rfl | h
    · exact .inl hn
    · exact .inr (within_all h n hn)
theorem within_elem {t e : TypeId} {es sp : List (DataW H)} {d : DataW H} (ht : P.underlying t = some (.slice e)) (hw : Within P t (.slice es sp)) (hd : d ∈ es) : Within P e d := fun n hn =>
  hw n (by simp only [DataW.weights, ht, List.mem_cons, List.mem_append]; exact .inr (.inl (within_all hd n hn)))
theorem within_part {t : TypeId} {fs : Array Field} {parts : List (DataW H)} {i : Nat} {f : Field} {d : DataW H} (ht : P.underlying t = some (.struct fs)) (hw : Within P t (.agg parts)) (hf : fs[i]? = some f) (hd : parts[i]? = some d) : Within P f.type d := fun n hn =>
  hw n (by
    simp only [DataW.weights, ht]
    exact DataW.weights_mem_each (j := i) (by simp [hf]) hd n hn)
theorem within_row {t e : TypeId} {es sp : List (DataW H)} (ht : P.underlying t = some (.slice e)) (hw : Within P t (.slice es sp)) : (es.length + sp.length) * P.bytesOf e ≤ 140737488351232 := hw _ (by simp [DataW.weights, ht])
/-- Rows of numbers. -/
theorem open_rows2 {t e g : TypeId} {n fuel : Nat} {cs : List Value} {x : DataW H × List MemPlace} (ht : P.underlying t = some (.slice e)) (he : P.underlying e = some (.slice g)) (hl : leavesOf P n g = some [.int .i64]) (hC : P.cellsOf g = 1) (hCe : P.cellsOf e = 1) (hB : P.bytesOf e = 24) (hBg : P.bytesOf g = 8)
    (hf : DataW.trod enc P w base spare held fuel t cs = some x) (hw : Within P t x.1) : ∃ sv rows, cs = [sv] ∧ RowsIn w.heap.size w sv rows ∧ rows.length ≤ 140737488351232 ∧ ∀ r ∈ rows, r.length ≤ 140737488351232 := by
  rcases open_slice ht hf with ⟨rfl, rfl⟩ | ⟨a, len, cap, m, n', D, Pl, rfl, _, hlc, _, hmm, rfl, hi⟩
  · exact ⟨_, [], rfl, ⟨fun _ => undef, .inl ⟨_, _, rfl, rfl⟩, fun j hj => absurd hj (Nat.not_lt_zero j)⟩, by simp, by simp⟩
  · have hlm : len ≤ m := by rw [hmm]; split <;> omega
    have fact : ∀ i, i < len → ∃ sv l, w.cell? (a.add i) = some sv ∧ NumsAt w.heap.size w sv l ∧ l.length ≤ 140737488351232 := by
      intro i hil
      obtain ⟨cs', hc, htr⟩ := hi i (by omega)
      obtain ⟨sv, l, rfl, h1, h2⟩ := open_nums' he hl hC htr
      rw [hCe, Nat.mul_one] at hc
      obtain ⟨_, _, hat⟩ := World.cells?_some hc
      have h3 := hat 0 (by omega)
      have h4 := within_len he hBg (within_elem ht hw (List.mem_map.2 ⟨i, List.mem_range.2 hil, rfl⟩)) h2
      refine ⟨sv, l, ?_, h1, by omega⟩
      rw [Go.Deep.add_add, Nat.add_zero] at h3
      simpa using h3
    have hws := within_row ht hw
    rw [hB] at hws
    simp only [List.length_map, List.length_range] at hws
    have hz : len ≤ 140737488351232 := by omega
    classical
    refine ⟨_, (List.range len).map fun i => if h : i < len then (fact i h).choose_spec.choose else [], rfl, ⟨fun i => if h : i < len then (fact i h).choose else undef, ?_, ?_⟩, by simpa using hz, ?_⟩
    · by_cases h0 : len = 0
      · subst h0
        exact .inl ⟨_, _, rfl, by simp⟩
      · obtain ⟨b, off, spot⟩ := a
        have h1 := (fact 0 (by omega)).choose_spec.choose_spec.1
        have hsp : spot = none := by simpa [Addr.add] using World.cell?_spot h1
        subst hsp
        have hbl := World.block_lt_of_cell? w _ h1
        refine .inr ⟨b, off, cap, by simp, by simpa using hlc, by simpa [Addr.add] using hbl, fun j hj i hi => ?_⟩
        obtain rfl : i = 0 := by omega
        have hj' : j < len := by simpa using hj
        dsimp only
        rw [dif_pos hj', Nat.mul_one, Nat.add_zero, ← add_lit]
        exact (fact j hj').choose_spec.choose_spec.1
    · intro j hj
      have hj' : j < len := by simpa using hj
      dsimp only
      rw [dif_pos hj']
      have e1 : nthR ((List.range len).map fun i => if h : i < len then (fact i h).choose_spec.choose else []) j = (fact j hj').choose_spec.choose := by
        unfold nthR
        simp [hj']
      rw [e1]
      exact (fact j hj').choose_spec.choose_spec.2.1
    · intro r hr
      obtain ⟨j, hj, rfl⟩ := List.mem_map.1 hr
      have hj' := List.mem_range.1 hj
      rw [dif_pos hj']
      exact (fact j hj').choose_spec.choose_spec.2.2
theorem cell_of1 {cs : List Value} {o : Nat} {v : Value} (h : (cs.drop o).take 1 = [v]) : cs[o]? = some v := by
  have h1 : ((cs.drop o).take 1)[0]? = some v := by rw [h]; rfl
  rw [List.getElem?_take_of_lt (by omega), List.getElem?_drop, Nat.add_zero] at h1
  exact h1
theorem cells_of {cs vs : List Value} (hl : cs.length = vs.length) (h : ∀ i, i < vs.length → cs[i]? = vs[i]?) : cs = vs := by
  refine List.ext_getElem? (fun i => ?_)
  rcases Nat.lt_or_ge i vs.length with h1 | h1
  · exact h i h1
  · rw [List.getElem?_eq_none h1, List.getElem?_eq_none (by omega)]
theorem part_of {α : Type} {xs : List α} {i : Nat} {o : Option α} (h : o = xs[i]?) (hi : i < xs.length) : ∃ x, o = some x ∧ xs[i]? = some x := ⟨xs[i], by rw [h, List.getElem?_eq_getElem hi], List.getElem?_eq_getElem hi⟩
end
section
variable {H : Type} {enc : TypeId × Value → H} {w : World} {base : Nat} {spare : Nat → Bool} {held : Bool}
theorem part_int {k : IntKind} {t : TypeId} {m o i : Nat} {cs : List Value} {xs : List (DataW H × List MemPlace)} (ht : Tryz.prog.underlying t = some (.int k)) (hc : Tryz.prog.cellsOf t = 1) (h : DataW.trod enc Tryz.prog w base spare held m t ((cs.drop o).take (Tryz.prog.cellsOf t)) = xs[i]?) (hi : i < xs.length) : ∃ n, cs[o]? = some (.int k n) ∧ (Lit.int k n).wf = true := by
  obtain ⟨x, h1, _⟩ := part_of h hi
  rw [hc] at h1
  obtain ⟨n, h2, _, h3⟩ := DataW.trod_int ht h1
  exact ⟨n, cell_of1 h2, h3⟩
theorem part_one {t : TypeId} {m o i : Nat} {cs : List Value} {xs : List (DataW H × List MemPlace)} (hc : Tryz.prog.cellsOf t = 1) (h : DataW.trod enc Tryz.prog w base spare held m t ((cs.drop o).take (Tryz.prog.cellsOf t)) = xs[i]?) (hi : i < xs.length) : ∃ x, DataW.trod enc Tryz.prog w base spare held m t ((cs.drop o).take 1) = some x ∧ xs[i]? = some x := by
  obtain ⟨x, h1, h2⟩ := part_of h hi
  rw [hc] at h1
  exact ⟨x, h1, h2⟩
set_option maxRecDepth 100000 in
/-- A configuration. -/
theorem open_config {r : Reach} {b0 : Nat} {v : Value} {d : DataW H} {p : List MemPlace}
    (hv : Value.okWide Tryz.prog w r b0 26 v) (h : DataW.Trod enc Tryz.prog w base spare held 26 v d p) (hw : Within Tryz.prog 26 d) :
    ∃ D vd ve vl, v = cfV D.cf vd ve vl ∧ NetAt w.heap.size w D vd ve vl := by
  obtain ⟨cs, rfl, hsz, _⟩ : ∃ cs, v = .agg cs ∧ cs.size = Tryz.prog.cellsOf 26 ∧ Row.okWide Tryz.prog w r b0 26 cs := by simpa [Value.okWide, Tryz.underlying26] using hv
  obtain ⟨fuel, hf⟩ := h
  obtain ⟨xs, m, _, hx, hlen, hl, hel⟩ := DataW.trod_struct Tryz.underlying26 hf
  have hl9 : xs.length = 9 := hl
  have hc9 : Tryz.prog.cellsOf 26 = 9 := by kernel_rfl
  have hcl : cs.toList.length = 9 := by rw [← hc9, ← hsz]; simp
  have hcv : (Value.cells (.agg cs)).toList = cs.toList := rfl
  rw [hcv] at hel
  have hc1 : Tryz.prog.cellsOf 3 = 1 := by kernel_rfl
  have hc2 : Tryz.prog.cellsOf 2 = 1 := by kernel_rfl
  obtain ⟨n0, e0, _⟩ := part_int Tryz.underlying3 hc1 (hel 0 _ rfl) (by omega)
  obtain ⟨n1, e1, _⟩ := part_int Tryz.underlying2 hc2 (hel 1 _ rfl) (by omega)
  obtain ⟨n2, e2, _⟩ := part_int Tryz.underlying2 hc2 (hel 2 _ rfl) (by omega)
  obtain ⟨n3, e3, _⟩ := part_int Tryz.underlying2 hc2 (hel 3 _ rfl) (by omega)
  obtain ⟨n4, e4, _⟩ := part_int Tryz.underlying2 hc2 (hel 4 _ rfl) (by omega)
  obtain ⟨n8, e8, _⟩ := part_int Tryz.underlying3 hc1 (hel 8 _ rfl) (by omega)
  have hd : d = .agg (xs.map (·.1)) := by have := congrArg Prod.fst hx; exact this
  rw [hd] at hw
  obtain ⟨x5, h5, k5⟩ := part_one (show Tryz.prog.cellsOf 22 = 1 by kernel_rfl) (hel 5 _ rfl) (by omega)
  obtain ⟨x6, h6, k6⟩ := part_one (show Tryz.prog.cellsOf 23 = 1 by kernel_rfl) (hel 6 _ rfl) (by omega)
  obtain ⟨x7, h7, k7⟩ := part_one (show Tryz.prog.cellsOf 24 = 1 by kernel_rfl) (hel 7 _ rfl) (by omega)
  have w5 := within_part (i := 5) Tryz.underlying26 hw rfl (d := x5.1) (by rw [List.getElem?_map, k5]; rfl)
  have w6 := within_part (i := 6) Tryz.underlying26 hw rfl (d := x6.1) (by rw [List.getElem?_map, k6]; rfl)
  have w7 := within_part (i := 7) Tryz.underlying26 hw rfl (d := x7.1) (by rw [List.getElem?_map, k7]; rfl)
  obtain ⟨vd, rows, e5, r1, r2, r3⟩ := open_rows2 (n := 3) Tryz.underlying22 Tryz.underlying35 (by kernel_rfl) hc2 (by kernel_rfl) (by kernel_rfl) (by kernel_rfl) h5 w5
  obtain ⟨ve, ents, e6, q1, q2, q3⟩ := open_ents (n := 3) Tryz.underlying23 (by kernel_rfl) (by kernel_rfl) h6
  obtain ⟨vl, lnks, e7, l1, l2, l3⟩ := open_ents (n := 3) Tryz.underlying24 (by kernel_rfl) (by kernel_rfl) h7
  have z6 := within_len Tryz.underlying23 (B := 32) (by kernel_rfl) w6 q3
  have z7 := within_len Tryz.underlying24 (B := 32) (by kernel_rfl) w7 l3
  have f5 := cell_of1 e5
  have f6 := cell_of1 e6
  have f7 := cell_of1 e7
  refine ⟨⟨⟨n0, n1, n2, n3, n4, n8⟩, rows, ents, lnks⟩, vd, ve, vl, ?_, ⟨r1, q1, l1, r2, r3, (show ents.length ≤ 140737488351232 by omega), (show lnks.length ≤ 140737488351232 by omega), q2, l2⟩⟩
  have hcs : cs.toList = [.int .i64 n0, .int .i64 n1, .int .i64 n2, .int .i64 n3, .int .i64 n4, vd, ve, vl, .int .i64 n8] := cells_of hcl (fun i hi => by
    match i, hi with
    | 0, _ => exact e0
    | 1, _ => exact e1
    | 2, _ => exact e2
    | 3, _ => exact e3
    | 4, _ => exact e4
    | 5, _ => exact f5
    | 6, _ => exact f6
    | 7, _ => exact f7
    | 8, _ => exact e8)
  rw [show cs = cs.toList.toArray by simp, hcs]
theorem part_u32 {t : TypeId} {m o i : Nat} {cs : List Value} {xs : List (DataW H × List MemPlace)} (ht : Tryz.prog.underlying t = some (.array 2 28)) (hu : Tryz.prog.underlying 28 = some (.int .u32)) (hc : Tryz.prog.cellsOf 28 = 1) (hct : Tryz.prog.cellsOf t = 2) (h : DataW.trod enc Tryz.prog w base spare held m t ((cs.drop o).take (Tryz.prog.cellsOf t)) = xs[i]?) (hi : i < xs.length) : ∃ a b : Nat, cs[o]? = some (.int .u32 (a : Int)) ∧ cs[o + 1]? = some (.int .u32 (b : Int)) ∧ a < 4294967296 ∧ b < 4294967296 := by
  obtain ⟨x, h1, _⟩ := part_of h hi
  obtain ⟨ys, m', _, _, hlen, hl, hel⟩ := DataW.trod_array ht h1
  rw [hct] at hlen hel
  have key : ∀ q, q < 2 → ∃ a : Nat, cs[o + q]? = some (.int .u32 (a : Int)) ∧ a < 4294967296 := fun q hq => by
    have h2 := hel q hq
    rw [hc, Nat.mul_one] at h2
    obtain ⟨y, h3, _⟩ := part_of h2 (by omega)
    obtain ⟨n, h4, _, h5⟩ := DataW.trod_int hu h3
    have h6 := cell_of1 h4
    rw [List.getElem?_take_of_lt (by omega), List.getElem?_drop] at h6
    have h7 := wf_u32 h5
    exact ⟨n.toNat, by rw [h6, Int.toNat_of_nonneg h7.1], by omega⟩
  obtain ⟨a, ha, ha2⟩ := key 0 (by omega)
  obtain ⟨b, hb, hb2⟩ := key 1 (by omega)
  exact ⟨a, b, ha, hb, ha2, hb2⟩
set_option maxRecDepth 100000 in
/-- What is lost. -/
theorem open_loss {fuel : Nat} {cs : List Value} {x : DataW H × List MemPlace} (hf : DataW.trod enc Tryz.prog w base spare held fuel 31 cs = some x) :
    ∃ y : Ls, y.ok ∧ cs = [.int .u32 (y.u0 : Int), .int .u32 (y.u1 : Int), .int .u32 (y.w0 : Int), .int .u32 (y.w1 : Int)] := by
  obtain ⟨xs, m, _, hx, hlen, hl, hel⟩ := DataW.trod_struct Tryz.underlying31 hf
  have hl2 : xs.length = 2 := hl
  rw [show Tryz.prog.cellsOf 31 = 4 by kernel_rfl] at hlen
  have hct : Tryz.prog.cellsOf 29 = 2 := by kernel_rfl
  have hc : Tryz.prog.cellsOf 28 = 1 := by kernel_rfl
  obtain ⟨a, b, h1, h2, h3, h4⟩ := part_u32 Tryz.underlying29 Tryz.underlying28 hc hct (hel 0 _ rfl) (by omega)
  obtain ⟨c, d, k1, k2, k3, k4⟩ := part_u32 Tryz.underlying29 Tryz.underlying28 hc hct (hel 1 _ rfl) (by omega)
  refine ⟨⟨a, b, c, d⟩, ⟨h3, h4, k3, k4⟩, cells_of hlen (fun i hi => ?_)⟩
  match i, hi with
  | 0, _ => exact h1
  | 1, _ => exact h2
  | 2, _ => exact k1
  | 3, _ => exact k2
set_option maxRecDepth 100000 in
/-- A case: clocks, and what is lost. -/
theorem open_case_cells {fuel : Nat} {cs : List Value} {x : DataW H × List MemPlace} (hf : DataW.trod enc Tryz.prog w base spare held fuel 33 cs = some x) (hw : Within Tryz.prog 33 x.1) :
    ∃ sv l y, CksAt w.heap.size w sv l ∧ l.length * 24 ≤ 140737488351232 ∧ Ls.ok y ∧ cs = [sv, .int .u32 (y.u0 : Int), .int .u32 (y.u1 : Int), .int .u32 (y.w0 : Int), .int .u32 (y.w1 : Int)] := by
  obtain ⟨xs, m, _, hx, hlen, hl, hel⟩ := DataW.trod_struct Tryz.underlying33 hf
  have hl2 : xs.length = 2 := hl
  rw [show Tryz.prog.cellsOf 33 = 5 by kernel_rfl] at hlen
  have hd : x.1 = .agg (xs.map (·.1)) := by have := congrArg Prod.fst hx; exact this
  rw [hd] at hw
  obtain ⟨x0, h0, k0⟩ := part_one (show Tryz.prog.cellsOf 27 = 1 by kernel_rfl) (hel 0 _ rfl) (by omega)
  have w0 := within_part (i := 0) Tryz.underlying33 hw rfl (d := x0.1) (by rw [List.getElem?_map, k0]; rfl)
  obtain ⟨sv, l, e0, r1, r2⟩ := open_cks (n := 3) Tryz.underlying27 (by kernel_rfl) (by kernel_rfl) h0
  have z0 := within_len Tryz.underlying27 (B := 24) (by kernel_rfl) w0 r2
  obtain ⟨x1, h1, k1⟩ := part_of (hel 1 _ rfl) (by omega)
  obtain ⟨y, hy, e1⟩ := open_loss h1
  have hc4 : Tryz.prog.cellsOf 31 = 4 := by kernel_rfl
  refine ⟨sv, l, y, r1, z0, hy, cells_of hlen (fun i hi => ?_)⟩
  have e2 : (cs.drop 1).take 4 = [.int .u32 (y.u0 : Int), .int .u32 (y.u1 : Int), .int .u32 (y.w0 : Int), .int .u32 (y.w1 : Int)] := e1
  have e3 : ∀ q, q < 4 → cs[1 + q]? = ([.int .u32 (y.u0 : Int), .int .u32 (y.u1 : Int), .int .u32 (y.w0 : Int), .int .u32 (y.w1 : Int)] : List Value)[q]? := fun q hq => by
    rw [← e2, List.getElem?_take_of_lt hq, List.getElem?_drop]
  match i, hi with
  | 0, _ => exact cell_of1 e0
  | 1, _ => exact e3 0 (by omega)
  | 2, _ => exact e3 1 (by omega)
  | 3, _ => exact e3 2 (by omega)
  | 4, _ => exact e3 3 (by omega)
abbrev caseV (sv : Value) (y : Ls) : Value := .agg #[sv, .int .u32 (y.u0 : Int), .int .u32 (y.u1 : Int), .int .u32 (y.w0 : Int), .int .u32 (y.w1 : Int)]
set_option maxRecDepth 100000 in
theorem open_case {r : Reach} {b0 : Nat} {v : Value} {d : DataW H} {p : List MemPlace}
    (hv : Value.okWide Tryz.prog w r b0 33 v) (h : DataW.Trod enc Tryz.prog w base spare held 33 v d p) (hw : Within Tryz.prog 33 d) :
    ∃ sv l y, v = caseV sv y ∧ CksAt w.heap.size w sv l ∧ l.length * 24 ≤ 140737488351232 ∧ Ls.ok y := by
  obtain ⟨cs, rfl, hsz, _⟩ : ∃ cs, v = .agg cs ∧ cs.size = Tryz.prog.cellsOf 33 ∧ Row.okWide Tryz.prog w r b0 33 cs := by simpa [Value.okWide, Tryz.underlying33] using hv
  obtain ⟨fuel, hf⟩ := h
  obtain ⟨sv, l, y, h1, h2, h3, h4⟩ := open_case_cells hf hw
  refine ⟨sv, l, y, ?_, h1, h2, h3⟩
  have h5 : cs.toList = _ := h4
  rw [show cs = cs.toList.toArray by simp, h5]
theorem within_arg {P : Program} {ts : List TypeId} {ds : List (DataW H)} {j : Nat} {t : TypeId} {d : DataW H} (hsz : (DataW.weightsEach P ts ds).all (· ≤ reachBytes) = true) (ht : ts[j]? = some t) (hd : ds[j]? = some d) : Within P t d := fun n hn => by
  have := List.all_eq_true.1 hsz _ (DataW.weights_mem_each ht hd n hn)
  exact of_decide_eq_true this
end
end Go.Proofs.YtckoaeoecjphiaaGreat

/- tocsinref02.Mul: the product. -/
namespace Go.Proofs.YtckoaeoecjphiaaGreat
open Go.RowKit Go.Lib

theorem pw_add (i j : Nat) : pw (i + j) = pw i * pw j := by unfold pw; rw [Nat.pow_add]; exact Int.natCast_mul _ _
theorem nth_set_same {ds : List Int} {q : Nat} (h : q < ds.length) (v : Int) : nth (ds.set q v) q = v := by unfold nth; simp [h]
theorem nth_set_ne {ds : List Int} {q p : Nat} (h : p ≠ q) (v : Int) : nth (ds.set q v) p = nth ds p := by unfold nth; rw [List.getElem?_set_ne (Ne.symm h)]
theorem bval_set : ∀ (ds : List Int) (q : Nat) (v : Int), q < ds.length → bval (ds.set q v) = bval ds + (v - nth ds q) * pw q
  | [], _, _, h => by simp at h
  | d :: ds, 0, v, _ => by
    show v + 65536 * bval ds = d + 65536 * bval ds + (v - d) * pw 0
    rw [pw_zero, Int.mul_one]
    omega
  | d :: ds, q + 1, v, h => by
    show d + 65536 * bval (ds.set q v) = d + 65536 * bval ds + (v - nth ds q) * pw (q + 1)
    rw [bval_set ds q v (by simpa using h), pw_succ, Int.mul_add, Int.mul_left_comm (v - nth ds q)]
    omega
theorem dg_set {ds : List Int} (h : Dg ds) {q : Nat} {v : Int} (h0 : 0 ≤ v) (h1 : v < 65536) : Dg (ds.set q v) := by
  intro d hd
  rcases List.mem_or_eq_of_mem_set hd with h2 | h2
  · exact h d h2
  · subst h2; exact ⟨h0, h1⟩
theorem bval_zeros : ∀ n : Nat, bval (List.replicate n 0) = 0
  | 0 => rfl
  | n + 1 => by
    show 0 + 65536 * bval (List.replicate n 0) = 0
    rw [bval_zeros n]
    rfl
theorem nth_zeros (n q : Nat) : nth (List.replicate n 0) q = 0 := by
  unfold nth
  rw [List.getElem?_replicate]
  split <;> rfl
theorem dg_zeros (n : Nat) : Dg (List.replicate n 0) := by
  intro d hd
  have := List.eq_of_mem_replicate hd
  omega
/-- Ahead of the round i of the outer loop. -/
structure MulSt (rs ds es : List Int) (i N : Nat) : Prop where
  len : rs.length = N
  dg : Dg rs
  val : bval rs = bval (ds.take i) * bval es
  zr : ∀ q, i + es.length ≤ q → nth rs q = 0
/-- Ahead of the round j of the inner loop. -/
structure MulIn (rs : List Int) (es : List Int) (V x : Int) (c : Int) (i j N : Nat) : Prop where
  len : rs.length = N
  dg : Dg rs
  val : bval rs + c * pw (i + j) = V + x * bval (es.take j) * pw i
  zr : ∀ q, i + es.length ≤ q → j ≤ es.length → nth rs q = 0
  zr1 : ∀ q, i + es.length + 1 ≤ q → nth rs q = 0
theorem MulSt.begin {rs ds es : List Int} {i N : Nat} (h : MulSt rs ds es i N) (x : Int) : MulIn rs es (bval (ds.take i) * bval es) x 0 i 0 N :=
  ⟨h.len, h.dg, by rw [h.val]; simp [bval], fun q hq _ => h.zr q hq, fun q hq => h.zr q (by omega)⟩
theorem MulIn.step {rs es : List Int} {V x c y r s : Int} {i j N : Nat} (h : MulIn rs es V x c i j N) (hj : j ≤ es.length) (hq : i + j < N) (hy : nth es j = y) (hr : nth rs (i + j) = r) (hs : x * y + r + c = s) :
    MulIn (rs.set (i + j) (s % 65536)) es V x (s / 65536) i (j + 1) N := by
  refine ⟨by rw [List.length_set]; exact h.len, dg_set h.dg (by omega) (by omega), ?_, fun q h1 h2 => ?_, fun q h1 => ?_⟩
  · rw [bval_set _ _ _ (by rw [h.len]; exact hq), hr, bval_take, hy]
    have e1 : i + (j + 1) = (i + j) + 1 := by omega
    rw [e1, pw_succ]
    have h2 := h.val
    have h3 : s / 65536 * (65536 * pw (i + j)) = (s / 65536 * 65536) * pw (i + j) := by rw [Int.mul_assoc]
    have h4 : s / 65536 * 65536 = s - s % 65536 := by omega
    rw [h3, h4]
    have h5 : x * (bval (es.take j) + y * pw j) * pw i = x * bval (es.take j) * pw i + x * y * pw (i + j) := by
      rw [Int.mul_add, Int.add_mul, pw_add]
      congr 1
      rw [← Int.mul_assoc, Int.mul_assoc (x * y), Int.mul_comm (pw j)]
    rw [h5]
    have h6 : (s % 65536 - r) * pw (i + j) + (s - s % 65536) * pw (i + j) = (x * y) * pw (i + j) + c * pw (i + j) := by
      rw [← Int.add_mul, ← Int.add_mul]
      congr 1
      omega
    omega
  · rw [nth_set_ne (by omega)]
    exact h.zr q h1 (by omega)
  · rw [nth_set_ne (by omega)]
    exact h.zr1 q h1
theorem MulIn.end {rs ds es : List Int} {x : Int} {i j N : Nat} (h : MulIn rs es (bval (ds.take i) * bval es) x 0 i j N) (hj : es.length ≤ j) (hx : nth ds i = x) : MulSt rs ds es (i + 1) N := by
  refine ⟨h.len, h.dg, ?_, fun q hq => h.zr1 q (by omega)⟩
  have h1 := h.val
  rw [List.take_of_length_le hj, Int.zero_mul, Int.add_zero] at h1
  rw [h1, bval_take, hx, Int.add_mul]
  congr 1
  rw [Int.mul_assoc, Int.mul_comm (bval es), ← Int.mul_assoc]
/-- A slice's digits, of the call's own. -/
structure RowU (W : World) (rb : Nat) (rs : List Int) : Prop where
  cell : ∀ j, j < rs.length → W.cell? ⟨rb, j, none⟩ = some (.int .u32 (nth rs j))
  froz : ∀ i, W.frozen? ⟨rb, i, none⟩ = false
  lt : rb < W.heap.size
theorem RowU.put {W : World} {rb q : Nat} {rs : List Int} {v : Int} (h : RowU W rb rs) (hq : q < rs.length) : RowU (W.setCell ⟨rb, q, none⟩ (.int .u32 v)) rb (rs.set q v) := by
  refine ⟨fun j hj => ?_, fun i => by simp [h.froz], by simpa [World.setCell] using h.lt⟩
  rw [List.length_set] at hj
  by_cases e : j = q
  · subst e
    have := h.cell j hj
    rw [nth_set_same hj]
    simp [World.cell?_setCell_same, this]
  · rw [World.cell?_setCell_other _ _ _ _ (fun e2 => e (congrArg Addr.off e2).symm), h.cell j hj, nth_set_ne e]
theorem RowU.drewN {W : World} {rb : Nat} {rs : List Int} (h : RowU W rb rs) (n : Nat) : RowU (W.drewN n) rb rs := by
  have g := gr_drewN (gr_refl W none) n
  refine ⟨fun j hj => gr_cell g (h.cell j hj), fun i => ?_, Nat.lt_of_lt_of_le h.lt g.size⟩
  rw [World.frozen?_of_block (w := W) (a := ⟨rb, i, none⟩) (g.block rb h.lt (by simp))]
  exact h.froz i
theorem RowU.dig {W : World} {rb : Nat} {rs : List Int} (h : RowU W rb rs) : Dig W (.slice (some ⟨rb, 0, none⟩) rs.length rs.length) rs :=
  .inr ⟨rb, 0, _, rfl, Nat.le_refl _, h.lt, fun j hj => by rw [Nat.zero_add]; exact h.cell j hj⟩
theorem make_u32s (n : Nat) (hn : n ≤ 100) : ∃ ca : Array Value, (∀ j, j < n → ca[j]? = some (.int .u32 0)) ∧ ∀ W : World, (Instr.makeSlice 126 (.int .i64 (n : Int)) (.int .i64 (n : Int))).run Tryz.prog W = .ok (.slice (some ⟨W.heap.size, 0, none⟩) n n) (W.alloc (.cells ca 28)) := by
  obtain ⟨i0, hi, hz0, hz1, hz2⟩ := info_parts Tryz.info_u32
  refine ⟨madeCells #[.int .u32 0] n, fun j hj => by simp [madeCells, hj, Nat.mod_one], fun W => ?_⟩
  have h := run_make (P := Tryz.prog) W 126 28 i0 (.int .u32 0) Tryz.underlying126 hi hz0 .i64 .i64 (n : Int) (n : Int) (by omega) (Int.le_refl _) (by rw [hz2]; omega) (by omega)
  rw [hz1, show (Value.int .u32 0).cells = #[Value.int .u32 0] from rfl] at h
  simpa using h
theorem sgn_mul {n1 n2 neg : Bool} {ds es rs : List Int} (hv : bval rs = bval ds * bval es) (hn : rs ≠ [] → neg = (n1 != n2)) : sgn neg (bval rs) = sgn n1 (bval ds) * sgn n2 (bval es) := by
  by_cases h : rs = []
  · subst h
    have h0 : bval ds * bval es = 0 := hv.symm
    show sgn neg 0 = _
    rw [sgn_zero]
    rcases Int.mul_eq_zero.1 h0 with h1 | h1
    · rw [h1, sgn_zero, Int.zero_mul]
    · rw [h1, sgn_zero, Int.mul_zero]
  · rw [hn h, hv]
    cases n1 <;> cases n2 <;> simp [sgn, Int.neg_mul, Int.mul_neg]

set_option maxRecDepth 100000 in
set_option maxHeartbeats 8000000 in
theorem mul_at {w : World} {a1 a2 : Option Addr} {cp1 cp2 : Nat} {n1 n2 : Bool} {ds es : List Int} (h1 : Dig w (.slice a1 ds.length cp1) ds) (h2 : Dig w (.slice a2 es.length cp2) es) (d1 : Dg ds) (d2 : Dg es) (l1 : ds.length ≤ 4) (l2 : es.length ≤ 4) :
    Calls Tryz.prog 61 #[.agg #[.slice a1 ds.length cp1, .bool n1], .agg #[.slice a2 es.length cp2, .bool n2]] w fun e w' => ∃ z, e = .returned z ∧ IsN w' z (sgn n1 (bval ds) * sgn n2 (bval es)) 9 ∧ w.grownBy w' none := by
  obtain ⟨la, hla⟩ : ∃ la, Hid (ds.length = la) := ⟨_, hid rfl⟩
  obtain ⟨lb, hlb⟩ : ∃ lb, Hid (es.length = lb) := ⟨_, hid rfl⟩
  rw [hla.out] at h1 l1
  rw [hlb.out] at h2 l2
  rw [hla.out, hlb.out]
  have H1 := hid h1
  have H2 := hid h2
  have D1 := hid d1
  have D2 := hid d2
  clear h1 h2 d1 d2
  obtain ⟨bx, hbx⟩ : ∃ bx, Hid (w.heap.size = bx) := ⟨_, hid rfl⟩
  obtain ⟨N, hN⟩ : ∃ N, Hid (la + lb + 1 = N) := ⟨_, hid rfl⟩
  have hNn := hN.out
  obtain ⟨ca, hca, hmk⟩ := make_u32s N (by omega)
  have Hca := hid hca
  have s1 : IntKind.i64.wrap ((la : Int) + (lb : Int)) = (la : Int) + (lb : Int) := IntWalk.i64_in _ (by omega)
  have s2 : IntKind.i64.wrap ((la : Int) + (lb : Int) + 1) = (N : Int) := by rw [show ((la : Int) + (lb : Int) + 1) = (N : Int) by omega]; exact IntWalk.i64_in _ (by omega)
  obtain ⟨A, hAw⟩ : ∃ A, (((w.alloc (.cells #[.slice a1 la cp1, .bool n1] 128)).alloc (.cells #[.slice a2 lb cp2, .bool n2] 128)).alloc (.cells #[.slice none 0 0, .bool false] 128)).alloc (.cells ca 28) = A := ⟨_, rfl⟩
  have GA : Hid (w.grownBy A none) := hid (by rw [← hAw]; exact gr_alloc (gr_alloc (gr_alloc (gr_alloc (gr_refl w none) _) _) _) _)
  have F0 : Hid (A.heap[bx]? = some (.cells #[.slice a1 la cp1, .bool n1] 128 (0, 0))) := hid (by
    rw [← hAw, ← hbx.out]
    exact gr_heap (gr_alloc (gr_alloc (gr_alloc (gr_refl _ none) _) _) _) (heap_alloc_new w _) (by simp))
  have F1 : Hid (A.heap[bx + 1]? = some (.cells #[.slice a2 lb cp2, .bool n2] 128 (0, 0))) := hid (by
    rw [← hAw, ← hbx.out]
    exact gr_heap (gr_alloc (gr_alloc (gr_refl _ none) _) _) (box2 w _ _) (by simp))
  have F2 : Hid (A.heap[bx + 1 + 1]? = some (.cells #[.slice none 0 0, .bool false] 128 (0, 0))) := hid (by
    rw [← hAw, ← hbx.out]
    exact gr_heap (gr_alloc (gr_refl _ none) _) (box3 w _ _ _) (by simp))
  have F3 : Hid (A.heap[bx + 1 + 1 + 1]? = some (.cells ca 28 (0, 0))) := hid (by
    rw [← hAw, ← hbx.out]
    have := heap_alloc_new (((w.alloc (.cells #[.slice a1 la cp1, .bool n1] 128)).alloc (.cells #[.slice a2 lb cp2, .bool n2] 128)).alloc (.cells #[.slice none 0 0, .bool false] 128)) (.cells ca 28)
    simpa using this)
  have R0 : Hid (RowU A (bx + 1 + 1 + 1) (List.replicate N 0)) := hid ⟨fun j hj => by rw [nth_zeros]; exact hcell F3.out j _ (Hca.out j (by simpa using hj)), fun i => hfroz F3.out i, lt_of_block F3.out⟩
  have HZ : Hid (nth (List.replicate N 0) 0 = 0) := hid (nth_zeros _ _)
  clear hca
  go_enter Tryz.func61, Tryz.ntmps61
  go_wp2_with fail
  rw [hbx.out]
  clear hAw hmk s1 s2
  go_loopw [6] (fun vi wr => ∃ (i : Nat) (rs : List Int), vi = .int .i64 i ∧ i ≤ la ∧ Hid (RowU wr (bx + 1 + 1 + 1) rs) ∧ Hid (MulSt rs ds es i N) ∧ Hid (wr.heap[bx]? = some (.cells #[.slice a1 la cp1, .bool n1] 128 (0, 0))) ∧ Hid (wr.heap[bx + 1]? = some (.cells #[.slice a2 lb cp2, .bool n2] 128 (0, 0))) ∧ Hid (wr.heap[bx + 1 + 1]? = some (.cells #[.slice none 0 0, .bool false] 128 (0, 0))) ∧ Hid (w.grownBy wr none)) (fun vi _ => la - (intOf vi).toNat)
  case atStart => exact ⟨0, _, rfl, Nat.zero_le _, R0, hid ⟨by simp, dg_zeros N, by rw [bval_zeros]; simp [bval], fun q _ => nth_zeros _ _⟩, F0, F1, F2, GA⟩
  case round =>
    obtain ⟨i, rs, rfl, hi, HR, HM, B0, B1, B2, HG⟩ := hrel
    have c0 := big_cell B0.out 0 _ rfl
    have c1 := big_cell B0.out 1 _ rfl
    have k0 := big_cell B1.out 0 _ rfl
    have k1 := big_cell B1.out 1 _ rfl
    by_cases hlt : i < la
    · have hI : (i : Int) < (la : Int) := by omega
      clear c1 k1
      go_wp2_with fail
      go_loopw [7, 8] (fun vc vj wq => ∃ (j : Nat) (c : Int) (rs' : List Int), vj = .int .i64 j ∧ vc = .int .u32 c ∧ (0 ≤ c ∧ c < 65536) ∧ (j ≤ lb ∨ j = lb + 1 ∧ c = 0) ∧ Hid (RowU wq (bx + 1 + 1 + 1) rs') ∧ Hid (MulIn rs' es (bval (ds.take i) * bval es) (nth ds i) c i j N) ∧ Hid (wq.heap[bx]? = some (.cells #[.slice a1 la cp1, .bool n1] 128 (0, 0))) ∧ Hid (wq.heap[bx + 1]? = some (.cells #[.slice a2 lb cp2, .bool n2] 128 (0, 0))) ∧ Hid (wq.heap[bx + 1 + 1]? = some (.cells #[.slice none 0 0, .bool false] 128 (0, 0))) ∧ Hid (w.grownBy wq none)) (fun _ vj _ => lb + 1 - (intOf vj).toNat)
      case atStart => exact ⟨0, 0, rs, rfl, rfl, ⟨by omega, by omega⟩, .inl (Nat.zero_le _), HR, hid (HM.out.begin _), B0, B1, B2, HG⟩
      case round =>
        obtain ⟨j, c, rs', rfl, rfl, ⟨cl, ch⟩, hj, HR', HI, C0, C1, C2, HG'⟩ := hrel
        clear c0 k0
        have c0 := big_cell C0.out 0 _ rfl
        have k0 := big_cell C1.out 0 _ rfl
        have hgo : ((j < lb ∨ 0 < c) ∧ j ≤ lb) ∨ (lb ≤ j ∧ c = 0) := by omega
        rcases hgo with ⟨hgo, hjl⟩ | ⟨hge, rfl⟩
        · obtain ⟨b, off, cap, he, hcap, hcell⟩ := H1.out.cells (by rw [hla.out]; omega)
          injection he with he1 he2 he3
          subst he1
          have hx0 := hcell _ HG'.out i (by rw [hla.out]; exact hlt)
          have hicp : i < cp1 := by have := hla.out; omega
          have hdx := nth_dg D1.out i
          have hdy := nth_dg D2.out j
          have hdr := nth_dg HI.out.dg (i + j)
          have HB' := hid (fun m : Nat => digit_at ((H2.out.grown HG'.out).grown (gr_drewN (gr_refl wr none) m)) j)
          have hlen := HI.out.len
          have hrc := HR'.out.cell (i + j) (by rw [hlen]; omega)
          have hrf := HR'.out.froz (i + j)
          obtain ⟨x, hx⟩ : ∃ x, Hid (nth ds i = x) := ⟨_, hid rfl⟩
          obtain ⟨y, hy⟩ : ∃ y, Hid (nth es j = y) := ⟨_, hid rfl⟩
          obtain ⟨r, hr⟩ : ∃ r, Hid (nth rs' (i + j) = r) := ⟨_, hid rfl⟩
          have hz : Hid (lb ≤ j → y = 0 ∧ r = 0) := hid (fun h => ⟨by rw [← hy.out]; unfold nth; rw [List.getElem?_eq_none (by have := hlb.out; omega)]; rfl, by rw [← hr.out]; exact HI.out.zr (i + j) (by have := hlb.out; omega) (by have := hlb.out; omega)⟩)
          rw [hx.out] at hx0 hdx
          rw [hy.out] at hdy HB'
          rw [hr.out] at hrc hdr
          obtain ⟨x0, x1⟩ := hdx
          obtain ⟨y0, y1⟩ := hdy
          obtain ⟨r0, r1⟩ := hdr
          have hm0 : 0 ≤ x * y := Int.mul_nonneg x0 y0
          have hm1 : x * y ≤ 65535 * 65535 := Int.mul_le_mul (by omega) (by omega) y0 (by omega)
          obtain ⟨m, hm⟩ : ∃ m, x * y = m := ⟨_, rfl⟩
          rw [hm] at hm0 hm1
          obtain ⟨s, hs⟩ : ∃ s, m + r + c = s := ⟨_, rfl⟩
          have HS2 := hid (HI.out.step (s := s) (by have := hlb.out; omega) (show i + j < N by omega) hy.out hr.out (by rw [hx.out, hm]; exact hs))
          obtain ⟨dd, hdd⟩ : ∃ d, s % 65536 = d := ⟨_, rfl⟩
          obtain ⟨c', hc'⟩ : ∃ c', s / 65536 = c' := ⟨_, rfl⟩
          rw [hdd, hc'] at HS2
          have hcn : (0 ≤ c' ∧ c' < 65536) ∧ (j + 1 ≤ lb ∨ j + 1 = lb + 1 ∧ c' = 0) := by
            refine ⟨by omega, ?_⟩
            by_cases h : lb ≤ j
            · obtain ⟨e1, e2⟩ := hz.out h
              subst e1 e2
              rw [Int.mul_zero] at hm
              omega
            · omega
          have Hcn := hid hcn
          have t1 : IntKind.u64.wrap x = x := by rw [IntKind.wrap_u64]; omega
          have t2 : IntKind.u64.wrap y = y := by rw [IntKind.wrap_u64]; omega
          have t3 : IntKind.u64.wrap (x * y) = m := by rw [hm, IntKind.wrap_u64]; omega
          have t4 : IntKind.u64.wrap r = r := by rw [IntKind.wrap_u64]; omega
          have t5 : IntKind.u64.wrap (m + r) = m + r := by rw [IntKind.wrap_u64]; omega
          have t6 : IntKind.u64.wrap c = c := by rw [IntKind.wrap_u64]; omega
          have t7 : IntKind.u64.wrap (m + r + c) = s := by rw [hs, IntKind.wrap_u64]; omega
          have t8 : IntKind.i64.wrap ((i : Int) + (j : Int)) = (i : Int) + (j : Int) := IntWalk.i64_in _ (by omega)
          have t9 : s.tmod 65536 = dd := by rw [Int.tmod_eq_emod_of_nonneg (by omega), hdd]
          have t10 : IntKind.u64.wrap (s.tdiv 65536) = c' := by rw [Int.tdiv_eq_ediv_of_nonneg (by omega), hc', IntKind.wrap_u64]; omega
          have t11 : c' % 4294967296 = c' := by omega
          have t12 : dd % 4294967296 = dd := by omega
          have u1 : ((i : Int) + (j : Int)).toNat = i + j := by omega
          have u2 : (0 : Int) ≤ (i : Int) + (j : Int) := by omega
          have u3 : (i : Int) + (j : Int) < (N : Int) := by omega
          clear hcell he2 he3 hcn hs hm hdd hc' hlen
          have hgg : j < lb ∨ lb ≤ j := by omega
          rcases hgg with hgg | hgg
          · have hJ : (j : Int) < (lb : Int) := by omega
            clear hgo
            go_wp2_with fail
            go_quiet ((go_at_call 107; exact Calls.quiet_of_same (HB'.out _)))
            obtain ⟨w5, hw5⟩ : ∃ w5, wr.drewN nq = w5 := ⟨_, rfl⟩
            have G5 : Hid (wr.grownBy w5 none) := hid (hw5 ▸ gr_drewN (gr_refl wr none) nq)
            have HR5 : Hid (RowU w5 (bx + 1 + 1 + 1) rs') := hid (hw5 ▸ HR'.out.drewN nq)
            have hlen := HI.out.len
            have hrc5 := HR5.out.cell (i + j) (by rw [hlen]; omega)
            rw [hr.out] at hrc5
            have hrf5 := HR5.out.froz (i + j)
            have HRp := hid (HR5.out.put (q := i + j) (v := dd) (by rw [hlen]; omega))
            have HG5 := hid (gr_trans HG'.out G5.out)
            have E0 := hid (duo_other (gr_heap G5.out C0.out (by simp)) (show bx ≠ bx + 1 + 1 + 1 by omega) (i + j) (.int .u32 dd))
            have E1 := hid (duo_other (gr_heap G5.out C1.out (by simp)) (show bx + 1 ≠ bx + 1 + 1 + 1 by omega) (i + j) (.int .u32 dd))
            have E2 := hid (duo_other (gr_heap G5.out C2.out (by simp)) (show bx + 1 + 1 ≠ bx + 1 + 1 + 1 by omega) (i + j) (.int .u32 dd))
            have HG6 := hid (gr_setNew HG5.out (k := bx + 1 + 1 + 1) (by have := hbx.out; omega) (i + j) (.int .u32 dd))
            rw [hw5]
            clear hw5 hlen hx0 c0 k0 hrc hrf
            go_wp2_with fail
            go_roundw
            case rel => exact ⟨j + 1, c', rs'.set (i + j) dd, by go_num, rfl, Hcn.out.1, Hcn.out.2, HRp, HS2, E0, E1, E2, HG6⟩
            case measure => simp [intOf]; omega
          · have hJ : ¬((j : Int) < (lb : Int)) := by omega
            have hC : (0 : Int) < c := by omega
            clear hgo
            go_wp2_with fail
            go_quiet ((go_at_call 107; exact Calls.quiet_of_same (HB'.out _)))
            obtain ⟨w5, hw5⟩ : ∃ w5, wr.drewN nq = w5 := ⟨_, rfl⟩
            have G5 : Hid (wr.grownBy w5 none) := hid (hw5 ▸ gr_drewN (gr_refl wr none) nq)
            have HR5 : Hid (RowU w5 (bx + 1 + 1 + 1) rs') := hid (hw5 ▸ HR'.out.drewN nq)
            have hlen := HI.out.len
            have hrc5 := HR5.out.cell (i + j) (by rw [hlen]; omega)
            rw [hr.out] at hrc5
            have hrf5 := HR5.out.froz (i + j)
            have HRp := hid (HR5.out.put (q := i + j) (v := dd) (by rw [hlen]; omega))
            have HG5 := hid (gr_trans HG'.out G5.out)
            have E0 := hid (duo_other (gr_heap G5.out C0.out (by simp)) (show bx ≠ bx + 1 + 1 + 1 by omega) (i + j) (.int .u32 dd))
            have E1 := hid (duo_other (gr_heap G5.out C1.out (by simp)) (show bx + 1 ≠ bx + 1 + 1 + 1 by omega) (i + j) (.int .u32 dd))
            have E2 := hid (duo_other (gr_heap G5.out C2.out (by simp)) (show bx + 1 + 1 ≠ bx + 1 + 1 + 1 by omega) (i + j) (.int .u32 dd))
            have HG6 := hid (gr_setNew HG5.out (k := bx + 1 + 1 + 1) (by have := hbx.out; omega) (i + j) (.int .u32 dd))
            rw [hw5]
            clear hw5 hlen hx0 c0 k0 hrc hrf
            go_wp2_with fail
            go_roundw
            case rel => exact ⟨j + 1, c', rs'.set (i + j) dd, by go_num, rfl, Hcn.out.1, Hcn.out.2, HRp, HS2, E0, E1, E2, HG6⟩
            case measure => simp [intOf]; omega
        · have HE := hid (HI.out.end (by rw [hlb.out]; exact hge) rfl)
          have hJ : ¬((j : Int) < (lb : Int)) := by omega
          go_wp2_with fail
          go_roundw
          case rel => exact ⟨i + 1, rs', by go_num, by omega, HR', HE, C0, C1, C2, HG'⟩
          case measure => simp [intOf]; omega
    · obtain rfl : i = la := by omega
      clear hlt
      have hv : bval rs = bval ds * bval es := by
        have := HM.out.val
        rwa [List.take_of_length_le (by rw [hla.out]; exact Nat.le_refl _)] at this
      have hrl : rs.length = N := HM.out.len
      have HRd := hid (HR.out.dig)
      rw [hrl] at HRd
      have HRg := hid HM.out.dg
      have HVv := hid hv
      have HRl := hid hrl
      clear hv hrl
      go_wp2_with fail
      refine (trim_any (n1 != n2) HRd.out HRg.out (by rw [HRl.out]; omega)).mono ?_
      rintro e w5 ⟨x', ts, neg', rfl, hw, hb, hl, hneg, g5⟩
      obtain ⟨v', rfl, hv'⟩ := hw.ex
      obtain ⟨a', cap', rfl⟩ := hv'.slice
      have F5 := gr_heap g5 B2.out (by simp)
      have e0 := big_cell F5 0 _ rfl
      have e1 := big_cell F5 1 _ rfl
      have e0f := big_froz F5 0
      have e1f := big_froz F5 1
      have Hw := hid hw
      have Hr := hid (sgn_mul (hb.trans HVv.out) hneg)
      have G5 := hid (gr_trans HG.out g5)
      have F6 := hid F5
      have hl9 : ts.length ≤ 9 := by have := HRl.out; omega
      clear hw hb hneg g5 F5 hv' hl
      go_wp2_with fail
      refine bodyPost_ret (v := .agg #[.slice a' ts.length cap', .bool neg']) ?_ rfl ⟨_, rfl, ⟨neg', ts, wide_store Hw.out F6.out _ _ _ _, Hr.out, hl9⟩, ?_⟩
      · simp [results, Tryz.results61, go_sem, e0, e1]
      · exact gr_setNew (gr_setNew G5.out (by have := hbx.out; omega) 0 _) (by have := hbx.out; omega) 1 _

theorem mul_any {w : World} {x y : Value} {n m : Int} (hx : IsN w x n 4) (hy : IsN w y m 4) :
    Calls Tryz.prog 61 #[x, y] w fun e w' => ∃ z, e = .returned z ∧ IsN w' z (n * m) 9 ∧ w.grownBy w' none := by
  obtain ⟨n1, ds, hw1, rfl, l1⟩ := hx
  obtain ⟨n2, es, hw2, rfl, l2⟩ := hy
  obtain ⟨v1, rfl, h1⟩ := hw1.ex
  obtain ⟨v2, rfl, h2⟩ := hw2.ex
  obtain ⟨a1, cp1, rfl⟩ := h1.slice
  obtain ⟨a2, cp2, rfl⟩ := h2.slice
  exact mul_at h1 h2 hw1.dg hw2.dg l1 l2
theorem floor_at {w : World} {x y : Value} {n c : Int} (hx : IsN w x n 9) (hy : IsN w y c 4) (hc : 0 < c) :
    Calls Tryz.prog 60 #[x, y] w fun e w' => ∃ z, e = .returned z ∧ IsN w' z (n / c) 900 ∧ w.grownBy w' none := by
  obtain ⟨n1, ds, hw1, e1, l1⟩ := hx
  obtain ⟨n2, cs, hw2, e2, l2⟩ := hy
  obtain ⟨v1, rfl, h1⟩ := hw1.ex
  obtain ⟨v2, rfl, h2⟩ := hw2.ex
  obtain ⟨a1, cp1, rfl⟩ := h1.slice
  obtain ⟨a2, cp2, rfl⟩ := h2.slice
  have h0 := bval_nonneg hw2.dg
  have hcc : bval cs = c := by
    unfold sgn at e2
    split at e2
    · omega
    · exact e2
  have := floor_any h1 h2 hw1.dg hw2.dg hw2.trm (by omega) (by omega) n e1 (n2 := n2)
  rwa [hcc] at this

set_option maxRecDepth 100000 in
set_option maxHeartbeats 1000000 in
theorem rmuldiv_any {w : World} {a b c : Int} (ha : -9223372036854775808 ≤ a ∧ a ≤ 9223372036854775807) (hb : -9223372036854775808 ≤ b ∧ b ≤ 9223372036854775807) (hc : 0 < c ∧ c ≤ 9223372036854775807) (hr : -9223372036854775808 ≤ a * b / c ∧ a * b / c ≤ 9223372036854775807) :
    Calls Tryz.prog 21 #[.int .i64 a, .int .i64 b, .int .i64 c] w fun e w' => e = .returned (.tuple #[.int .i64 (a * b / c), .int .i64 0]) ∧ w.grownBy w' none := by
  obtain ⟨r, hr0⟩ : ∃ r, Hid (a * b / c = r) := ⟨_, hid rfl⟩
  rw [hr0.out] at hr
  rw [hr0.out]
  have HA := hid ha
  have HB := hid hb
  have HC := hid hc
  have HR := hid hr
  have hc0 : ¬ c ≤ 0 := by omega
  clear ha hb hr hc
  go_enter Tryz.func21, Tryz.ntmps21
  go_wp2_with fail
  refine (of_any HA.out).mono ?_
  rintro e w1 ⟨x1, rfl, h1, g1⟩
  have H1 := hid h1
  have G1 := hid g1
  clear h1 g1
  go_wp2_with fail
  refine (of_any HB.out).mono ?_
  rintro e w2 ⟨x2, rfl, h2, g2⟩
  have H2 := hid h2
  have H12 := hid (H1.out.grown g2)
  have G2 := hid (gr_trans G1.out g2)
  clear h2 g2
  go_wp2_with fail
  refine (mul_any H12.out H2.out).mono ?_
  rintro e w3 ⟨x3, rfl, h3, g3⟩
  have H3 := hid h3
  have G3 := hid (gr_trans G2.out g3)
  clear h3 g3
  go_wp2_with fail
  refine (of_any (n := c) ⟨by have := HC.out; omega, HC.out.2⟩).mono ?_
  rintro e w4 ⟨x4, rfl, h4, g4⟩
  have H4 := hid h4
  have H34 := hid (H3.out.grown g4)
  have G4 := hid (gr_trans G3.out g4)
  clear h4 g4
  go_wp2_with fail
  refine (floor_at H34.out H4.out HC.out.1).mono ?_
  rintro e w5 ⟨x5, rfl, h5, g5⟩
  have H5 := hid h5
  rw [hr0.out] at H5
  have G5 := hid (gr_trans G4.out g5)
  clear h5 g5
  go_wp2_with fail
  refine (int_any H5.out HR.out).mono ?_
  rintro e w6 ⟨rfl, g6⟩
  have G6 := hid (gr_trans G5.out g6)
  clear g6
  go_wp2_with fail
  go_ret2
  exact ⟨rfl, G6.out⟩
end Go.Proofs.YtckoaeoecjphiaaGreat
