/- The document's list of what is held, in plain words: it stands in its order, and the heap holds the same. -/
import Derived.Test.YtkcgpbehicjidaaQueY
import Derived.Maps.AppendAt
namespace Go.Proofs.Ytkcgpbehicjidaa
open Go.RowKit Go.Lib

def hC (x : It) : List Value := [.int .i64 x.k, .int .i64 x.fr, .int .i64 x.cy, .int .u32 x.cr, .int .i64 x.cl, .int .i64 x.t]
theorem hC_length (x : It) : (hC x).length = 6 := rfl
def flatH (xs : List It) : List Value := xs.flatMap hC
theorem flatH_length (xs : List It) : (flatH xs).length = xs.length * 6 := by
  induction xs with
  | nil => rfl
  | cons x l ih => simp only [flatH, List.flatMap_cons, List.length_append, hC_length, List.length_cons] at *; rw [ih]; omega
theorem flatH_snoc (xs : List It) (x : It) : flatH (xs ++ [x]) = flatH xs ++ hC x := by simp [flatH]
theorem flatH_at {xs : List It} {i c : Nat} (hi : i < xs.length) (hc : c < 6) : (flatH xs)[i * 6 + c]? = (hC (ith xs i))[c]? := by
  induction xs generalizing i with
  | nil => simp at hi
  | cons x l ih =>
    have e : flatH (x :: l) = hC x ++ flatH l := by simp [flatH]
    rw [e]
    cases i with
    | zero =>
      rw [List.getElem?_append_left (by rw [hC_length]; omega)]
      simp [ith]
    | succ i =>
      rw [List.getElem?_append_right (by rw [hC_length]; omega), hC_length]
      have e2 : (i + 1) * 6 + c - 6 = i * 6 + c := by omega
      rw [e2, ih (by simpa using hi)]
      simp [ith]

/-- Does y stand behind x in the document's list? -/
def gtB (y x : It) : Bool := decide (x.t < y.t ∨ y.t = x.t ∧ x.fr < y.fr)
def stepH (x : It) (s : List It × Bool) (y : It) : List It × Bool := if s.2 = false ∧ gtB y x = true then (s.1 ++ [x] ++ [y], true) else (s.1 ++ [y], s.2)
def endH (x : It) (s : List It × Bool) : List It := if s.2 = true then s.1 else s.1 ++ [x]
def insH (x : It) (ls : List It) : List It := endH x (ls.foldl (stepH x) ([], false))
def insR (x : It) : List It → List It
  | [] => [x]
  | y :: l => if gtB y x = true then x :: y :: l else y :: insR x l
theorem foldl_true (x : It) (l : List It) (o : List It) : l.foldl (stepH x) (o, true) = (o ++ l, true) := by
  induction l generalizing o with
  | nil => simp
  | cons y l ih => rw [List.foldl_cons]; simp [stepH, ih]
theorem foldl_false (x : It) (l : List It) (o : List It) : endH x (l.foldl (stepH x) (o, false)) = o ++ insR x l := by
  induction l generalizing o with
  | nil => simp [endH, insR]
  | cons y l ih =>
    rw [List.foldl_cons]
    by_cases h : gtB y x = true
    · simp only [stepH, h, and_self, if_true, insR]
      rw [foldl_true]
      simp [endH]
    · have e1 : stepH x (o, false) y = (o ++ [y], false) := if_neg (fun e => h e.2)
      have e2 : insR x (y :: l) = y :: insR x l := if_neg h
      rw [e1, e2, ih]
      simp
theorem insH_eq (x : It) (ls : List It) : insH x ls = insR x ls := by
  unfold insH
  rw [foldl_false]
  simp
theorem insR_perm (x : It) (ls : List It) : (insR x ls).Perm (ls ++ [x]) := by
  induction ls with
  | nil => exact List.Perm.refl _
  | cons y l ih =>
    unfold insR
    split
    · exact (List.perm_append_comm (l₁ := [x]) (l₂ := y :: l))
    · exact ih.cons y

/-- The list stands in its order; all its numbers are at most num. -/
structure Srt (num : Int) (ls : List It) : Prop where
  pw : ls.Pairwise Ahead
  ok : ∀ y ∈ ls, y.r = y.fr ∧ y.n = 0 ∧ y.u ≤ num
theorem Srt.nil (num : Int) : Srt num [] := ⟨List.Pairwise.nil, by simp⟩
theorem Srt.tail {num : Int} {x : It} {ls : List It} (h : Srt num (x :: ls)) : Srt num ls := ⟨(List.pairwise_cons.1 h.pw).2, fun y hy => h.ok y (List.mem_cons_of_mem _ hy)⟩
theorem insR_pw {num : Int} {x : It} (hx : x.r = x.fr ∧ x.n = 0 ∧ x.u = num + 1) {ls : List It} (h : Srt num ls) : (insR x ls).Pairwise Ahead := by
  induction ls with
  | nil => simp [insR]
  | cons y l ih =>
    have hy := h.ok y (List.mem_cons_self ..)
    have hpw := List.pairwise_cons.1 h.pw
    unfold insR
    split
    · rename_i hg
      have ha : Ahead x y := by
        simp only [gtB, decide_eq_true_eq] at hg
        unfold Ahead
        omega
      refine List.pairwise_cons.2 ⟨fun z hz => ?_, h.pw⟩
      rcases List.mem_cons.1 hz with rfl | hz
      · exact ha
      · exact ha.trans (hpw.1 z hz)
    · rename_i hg
      have ha : Ahead y x := by
        simp only [gtB, decide_eq_true_eq] at hg
        unfold Ahead
        omega
      refine List.pairwise_cons.2 ⟨fun z hz => ?_, ih h.tail⟩
      rcases List.mem_append.1 ((insR_perm x l).mem_iff.1 hz) with hz | hz
      · exact hpw.1 z hz
      · rw [List.mem_singleton.1 hz]; exact ha
theorem Srt.ins {num : Int} {x : It} (hx : x.r = x.fr ∧ x.n = 0 ∧ x.u = num + 1) {ls : List It} (h : Srt num ls) : Srt (num + 1) (insH x ls) := by
  rw [insH_eq]
  refine ⟨insR_pw hx h, fun y hy => ?_⟩
  rcases List.mem_append.1 ((insR_perm x ls).mem_iff.1 hy) with hy | hy
  · have := h.ok y hy; omega
  · rw [List.mem_singleton.1 hy]; omega
theorem insH_perm (x : It) (ls : List It) : (insH x ls).Perm (ls ++ [x]) := by rw [insH_eq]; exact insR_perm x ls
/-- The first of the heap is the first of the list. -/
theorem srt_first {num : Int} {x : It} {ls ys : List It} (h : Srt num (x :: ls)) (hp : ys.Perm (x :: ls)) (hh : IsHeap ys) : ith ys 0 = x ∧ (popL ys).Perm ls := by
  have hl : ys.length = ls.length + 1 := by rw [hp.length_eq]; simp
  have hpw := List.pairwise_cons.1 h.pw
  have h0 : ith ys 0 = x := by
    have hm : ith ys 0 ∈ x :: ls := hp.mem_iff.1 (ith_mem (by omega))
    rcases List.mem_cons.1 hm with e | hm
    · exact e
    · obtain ⟨l, hll, hle⟩ := mem_ith (hp.mem_iff.2 (List.mem_cons_self (a := x) (l := ls)))
      have := hh.min l hll
      rw [hle] at this
      exact absurd (hpw.1 _ hm) this
  refine ⟨h0, ?_⟩
  have h1 := (popL_perm (xs := ys) (by omega)).symm.trans hp
  rw [h0] at h1
  exact h1.cons_inv

/-- The list's cells. -/
def LS (W : World) (v : Value) (ls : List It) : Prop :=
  (ls = [] ∧ ∃ a cap, v = .slice a 0 cap) ∨ ∃ g off cap, v = .slice (some ⟨g, off, none⟩) ls.length cap ∧ ls.length ≤ cap ∧ g < W.heap.size ∧ ∀ i, i < ls.length → ∀ c, c < 6 → W.cell? ⟨g, off + i * 6 + c, none⟩ = (hC (ith ls i))[c]?
theorem LS.slice {W : World} {v : Value} {ls : List It} (h : LS W v ls) : ∃ a cap, v = .slice a ls.length cap := by
  rcases h with ⟨rfl, a, cap, rfl⟩ | ⟨g, off, cap, rfl, _⟩
  · exact ⟨_, _, rfl⟩
  · exact ⟨_, _, rfl⟩
theorem LS.lt {W : World} {v : Value} {ls : List It} (h : LS W v ls) (h0 : 0 < ls.length) : ∀ k, v.ownBlock = some k → k < W.heap.size := by
  rcases h with ⟨rfl, _⟩ | ⟨g, off, cap, rfl, _, hg, _⟩
  · simp at h0
  · intro k hk; simp [Value.ownBlock] at hk; omega
theorem LS.keep {W W' : World} {v : Value} {ls : List It} (h : LS W v ls) (hs : W.heap.size ≤ W'.heap.size) (hb : ∀ k, v.ownBlock = some k → W'.heap[k]? = W.heap[k]?) : LS W' v ls := by
  rcases h with h | ⟨g, off, cap, rfl, hc, hg, hcell⟩
  · exact .inl h
  · refine .inr ⟨g, off, cap, rfl, hc, by omega, fun i hi c hcc => ?_⟩
    rw [← hcell i hi c hcc]
    simp only [World.cell?, hb g rfl]
theorem LS.tail {W : World} {g off cap : Nat} {x : It} {ls : List It} (hcap : ls.length + 1 ≤ cap) (hg : g < W.heap.size) (hcell : ∀ i, i < (x :: ls).length → ∀ c, c < 6 → W.cell? ⟨g, off + i * 6 + c, none⟩ = (hC (ith (x :: ls) i))[c]?) :
    LS W (.slice (some ⟨g, off + 6, none⟩) ls.length (cap - 1)) ls := by
  refine .inr ⟨g, off + 6, cap - 1, rfl, by omega, hg, fun i hi c hc => ?_⟩
  have := hcell (i + 1) (by simpa using hi) c hc
  have e1 : off + (i + 1) * 6 + c = off + 6 + i * 6 + c := by omega
  rw [e1] at this
  rw [this]
  rfl
theorem LS.own {W : World} {base : Nat} {v : Value} {ls : List It} {T : TypeId} (h : W.ownsRow base T 6 v ls.length (flatH ls)) : LS W v ls := by
  rcases h.2 with ⟨rfl, h0⟩ | ⟨g, cap, cur, rfl, hb, hh, hn, _⟩
  · exact .inl ⟨List.length_eq_zero_iff.1 h0, _, _, rfl⟩
  · refine .inr ⟨g, 0, cap, rfl, hn, (h.lt g rfl).2, fun i hi c hc => ?_⟩
    have := h.cellAt (i * 6 + c) (by omega)
    rw [Nat.zero_add, this, flatH_at hi hc]
end Go.Proofs.Ytkcgpbehicjidaa
