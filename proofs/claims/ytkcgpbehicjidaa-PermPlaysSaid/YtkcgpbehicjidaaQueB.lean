/- queue.Push: the world while an item is laid in. -/
import Derived.Test.YtkcgpbehicjidaaQueA
import Derived.Test.YtkcgpbehicjidaaFrameC
import Derived.OneCell
import Derived.Maps.AppendAt
import Derived.Deep.RegionLaw
import Derived.BigQuiet
namespace Go.Proofs.Ytkcgpbehicjidaa
open Go.RowKit Go.Lib

def flatC (xs : List It) : List Value := xs.flatMap itC
theorem flatC_length (xs : List It) : (flatC xs).length = xs.length * 9 := by
  induction xs with
  | nil => rfl
  | cons x l ih => simp only [flatC, List.flatMap_cons, List.length_append, itC_length] at *; rw [ih]; simp; omega
theorem flatC_snoc (xs : List It) (x : It) : flatC (xs ++ [x]) = flatC xs ++ itC x := by simp [flatC]
theorem flatC_at {xs : List It} {i c : Nat} (hi : i < xs.length) (hc : c < 9) : (flatC xs)[i * 9 + c]? = (itC (ith xs i))[c]? := by
  induction xs generalizing i with
  | nil => simp at hi
  | cons x l ih =>
    have e : flatC (x :: l) = itC x ++ flatC l := by simp [flatC]
    rw [e]
    cases i with
    | zero =>
      rw [List.getElem?_append_left (by rw [itC_length]; omega)]
      simp [ith]
    | succ i =>
      rw [List.getElem?_append_right (by rw [itC_length]; omega), itC_length]
      have e2 : (i + 1) * 9 + c - 9 = i * 9 + c := by omega
      rw [e2, ih (by simpa using hi)]
      simp [ith]

/-- What a call leaves of the blocks of P. -/
structure Keeps (P : Nat → Prop) (w w' : World) : Prop where
  os : w'.os = w.os
  tape : w'.tape = w.tape
  output : w'.output = w.output
  size : w.heap.size ≤ w'.heap.size
  block : ∀ k, P k → w'.heap[k]? = w.heap[k]?
theorem Keeps.trans {P : Nat → Prop} {a b c : World} (h : Keeps P a b) (g : Keeps P b c) : Keeps P a c :=
  ⟨g.os.trans h.os, g.tape.trans h.tape, g.output.trans h.output, Nat.le_trans h.size g.size, fun k hk => (g.block k hk).trans (h.block k hk)⟩
theorem Keeps.of_gr {P : Nat → Prop} {a b : World} {row : Option Nat} (h : a.grownBy b row) (hP : ∀ k, P k → k < a.heap.size ∧ some k ≠ row) : Keeps P a b :=
  ⟨h.os, h.tape, h.output, h.size, fun k hk => h.block k (hP k hk).1 (hP k hk).2⟩

/-- A queue with its items. -/
structure QS (P : Nat → Prop) (W : World) (base q : Nat) (num : Int) (xs : List It) : Prop where
  ex : ∃ v, Que W q num v ∧ W.ownsRow base 89 9 v xs.length (flatC xs) ∧ v.ownBlock ≠ some q ∧ base ≤ W.heap.size ∧ ∀ k, P k → k < W.heap.size ∧ k ≠ q ∧ v.ownBlock ≠ some k
theorem QS.grown {P : Nat → Prop} {W W' : World} {base q : Nat} {num : Int} {xs : List It} (h : QS P W base q num xs) (G : W.grownBy W' none) : QS P W' base q num xs := by
  obtain ⟨v, hq, hr, hn, hb, hP⟩ := h.ex
  exact ⟨v, hq.kept G (by simp), hr.kept G (by cases v.ownBlock <;> simp), hn, Nat.le_trans hb G.size, fun k hk => ⟨Nat.lt_of_lt_of_le (hP k hk).1 G.size, (hP k hk).2⟩⟩
theorem QS.lt {P : Nat → Prop} {W : World} {base q : Nat} {num : Int} {xs : List It} (h : QS P W base q num xs) : ∀ k, P k → k < W.heap.size := by
  obtain ⟨v, hq, hr, hn, hb, hP⟩ := h.ex
  exact fun k hk => (hP k hk).1

/-- The same while a frame lies in its box g. -/
structure QW (P : Nat → Prop) (w W : World) (base q g : Nat) (num : Int) (v : Value) (xs : List It) (k fr cy cr cl : Int) : Prop where
  que : Que W q num v
  row : W.ownsRow base 89 9 v xs.length (flatC xs)
  nq : v.ownBlock ≠ some q
  ng : v.ownBlock ≠ some g
  gq : g ≠ q
  box : W.heap[g]? = some (.cells #[.int .i64 k, .int .i64 fr, .int .i64 cy, .int .u32 cr, .int .i64 cl] 37 (0, 0))
  bb : base ≤ W.heap.size
  keep : Keeps P w W
  pk : ∀ k, P k → k < w.heap.size ∧ k ≠ q ∧ v.ownBlock ≠ some k

section
variable {P : Nat → Prop} {w W : World} {base q g : Nat} {num : Int} {v : Value} {xs : List It} {k fr cy cr cl : Int}
theorem QW.grown {W' : World} (s : QW P w W base q g num v xs k fr cy cr cl) (G : W.grownBy W' none) : QW P w W' base q g num v xs k fr cy cr cl where
  que := s.que.kept G (by simp)
  row := s.row.kept G (by cases v.ownBlock <;> simp)
  nq := s.nq
  ng := s.ng
  gq := s.gq
  box := gr_heap G s.box (by simp)
  bb := Nat.le_trans s.bb G.size
  keep := s.keep.trans (Keeps.of_gr G fun k hk => ⟨Nat.lt_of_lt_of_le (s.pk k hk).1 s.keep.size, by simp⟩)
  pk := s.pk
theorem QW.count (s : QW P w W base q g num v xs k fr cy cr cl) (n' : Int) : QW P w (W.setCell ⟨q, 1, none⟩ (.int .u64 n')) base q g n' v xs k fr cy cr cl where
  que := s.que.set1 n'
  row := ownsRow_setCell_other s.row (by simpa using s.nq) _
  nq := s.nq
  ng := s.ng
  gq := s.gq
  box := by rw [Below.heap_setCell _ _ _ _ (by simpa using s.gq)]; exact s.box
  bb := by simpa [World.setCell] using s.bb
  keep := s.keep.trans (Keeps.of_gr (gr_setRow (gr_refl W (some q)) 1 _) fun k hk => ⟨Nat.lt_of_lt_of_le (s.pk k hk).1 s.keep.size, by simpa using (s.pk k hk).2.1⟩)
  pk := s.pk
theorem QW.lay {W4 : World} {o : Obj} {g4 cap4 : Nat} {x : It} (s : QW P w W base q g num v xs k fr cy cr cl)
    (hown : W4.ownsRow base 89 9 (.slice (some ⟨g4, 0, none⟩) (xs.length + 1) cap4) (xs.length + 1) (flatC xs ++ itC x))
    (hg : (W.alloc o).grownBy W4 v.ownBlock) (hat : (Value.slice (some ⟨g4, 0, none⟩) (xs.length + 1) cap4).ownBlock = v.ownBlock ∨ (Value.slice (some ⟨g4, 0, none⟩) (xs.length + 1) cap4).ownBlock = some (W.alloc o).heap.size) :
    QW P w (W4.setCell ⟨q, 2, none⟩ (.slice (some ⟨g4, 0, none⟩) (xs.length + 1) cap4)) base q g num (.slice (some ⟨g4, 0, none⟩) (xs.length + 1) cap4) (xs ++ [x]) k fr cy cr cl := by
  have hql := s.que.lt
  have hgl := lt_of_block s.box
  have hob : (Value.slice (some ⟨g4, 0, none⟩) (xs.length + 1) cap4).ownBlock = some g4 := rfl
  rw [hob] at hat
  have hsz : (W.alloc o).heap.size = W.heap.size + 1 := by simp
  have hne : ∀ b, b < W.heap.size → v.ownBlock ≠ some b → g4 ≠ b := by
    rintro b hb hv rfl
    rcases hat with e | e
    · exact hv e.symm
    · rw [hsz] at e; simp at e; omega
  exact
  { que := ((s.que.kept (World.grownBy_alloc W o none) (by simp)).kept hg (fun e => s.nq e.symm)).set2 _
    row := by
      rw [flatC_snoc, List.length_append]
      exact ownsRow_setCell_other hown (by rw [hob]; simpa using hne q hql s.nq) _
    nq := by rw [hob]; simpa using hne q hql s.nq
    ng := by rw [hob]; simpa using hne g hgl s.ng
    gq := s.gq
    box := by
      rw [Below.heap_setCell _ _ _ _ (by simpa using s.gq)]
      exact gr_heap hg (gr_heap (World.grownBy_alloc W o none) s.box (by simp)) (fun e => s.ng e.symm)
    bb := by have := hg.size; have := s.bb; simp [World.setCell] at *; omega
    keep := s.keep.trans ((Keeps.of_gr (World.grownBy_alloc W o none) fun k hk => ⟨Nat.lt_of_lt_of_le (s.pk k hk).1 s.keep.size, by simp⟩).trans
      ((Keeps.of_gr hg fun k hk => ⟨by have := (s.pk k hk).1; have := s.keep.size; simp; omega, fun e => (s.pk k hk).2.2 e.symm⟩).trans
        (Keeps.of_gr (gr_setRow (gr_refl W4 (some q)) 2 _) fun k hk => ⟨by have := (s.pk k hk).1; have := s.keep.size; have := hg.size; simp at this; omega, by simpa using (s.pk k hk).2.1⟩)))
    pk := fun k hk => ⟨(s.pk k hk).1, (s.pk k hk).2.1, by rw [hob]; simpa using hne k (Nat.lt_of_lt_of_le (s.pk k hk).1 s.keep.size) (s.pk k hk).2.2⟩ }
theorem QW.qs (s : QW P w W base q g num v xs k fr cy cr cl) : QS P W base q num xs :=
  ⟨v, s.que, s.row, s.nq, s.bb, fun k hk => ⟨Nat.lt_of_lt_of_le (s.pk k hk).1 s.keep.size, (s.pk k hk).2⟩⟩
theorem QS.start {w1 : World} (h : QS P w base q num xs) (g1 : (w.alloc (.cells #[.int .i64 k, .int .i64 fr, .int .i64 cy, .int .u32 cr, .int .i64 cl] 37)).grownBy w1 none) : ∃ v, QW P w w1 base q w.heap.size num v xs k fr cy cr cl := by
  obtain ⟨v, hq, hr, hn, hb, hP⟩ := h.ex
  refine ⟨v, ?_⟩
  exact
  { que := hq.kept (bx_gr g1) (by simp)
    row := hr.kept (bx_gr g1) (by cases v.ownBlock <;> simp)
    nq := hn
    ng := fun e => by have := (hr.lt _ e).2; omega
    gq := by have := hq.lt; omega
    box := gr_heap g1 (heap_alloc_new w _) (by simp)
    bb := Nat.le_trans hb (bx_gr g1).size
    keep := Keeps.of_gr (bx_gr g1) fun k hk => ⟨(hP k hk).1, by simp⟩
    pk := fun k hk => ⟨(hP k hk).1, (hP k hk).2.1, (hP k hk).2.2⟩ }
end
end Go.Proofs.Ytkcgpbehicjidaa
