/- A heap of items, in plain words. No program is named here. -/
namespace Go.Proofs.Ytkcgpbehicjidaa

/-- An item that is due, with what it stands by. -/
structure It where
  t : Int
  r : Int
  n : Int
  u : Int
  k : Int
  fr : Int
  cy : Int
  cr : Int
  cl : Int
deriving DecidableEq, Inhabited

/-- Does a stand ahead of b? -/
def Ahead (a b : It) : Prop := a.t < b.t ∨ a.t = b.t ∧ (a.r < b.r ∨ a.r = b.r ∧ (a.n < b.n ∨ a.n = b.n ∧ a.u < b.u))
instance (a b : It) : Decidable (Ahead a b) := by unfold Ahead; infer_instance
theorem Ahead.asymm {a b : It} (h : Ahead a b) : ¬ Ahead b a := by unfold Ahead at *; omega
theorem Ahead.trans {a b c : It} (h : Ahead a b) (h' : Ahead b c) : Ahead a c := by unfold Ahead at *; omega
theorem not_ahead_trans {a b c : It} (h : ¬ Ahead a b) (h' : ¬ Ahead b c) : ¬ Ahead a c := by unfold Ahead at *; omega

def ith (xs : List It) (i : Nat) : It := xs[i]?.getD default
def sw (xs : List It) (i j : Nat) : List It := (xs.set i (ith xs j)).set j (ith xs i)
theorem sw_length (xs : List It) (i j : Nat) : (sw xs i j).length = xs.length := by simp [sw]
theorem ith_set {xs : List It} {i k : Nat} (hi : i < xs.length) (x : It) : ith (xs.set i x) k = if k = i then x else ith xs k := by
  unfold ith
  rw [List.getElem?_set]
  by_cases h : i = k
  · subst h; simp [hi]
  · have : ¬ k = i := fun e => h e.symm
    simp [h, this]
theorem ith_sw {xs : List It} {i j k : Nat} (hi : i < xs.length) (hj : j < xs.length) : ith (sw xs i j) k = if k = j then ith xs i else if k = i then ith xs j else ith xs k := by
  unfold sw
  rw [ith_set (by simpa using hj), ith_set hi]
theorem ith_mem {xs : List It} {i : Nat} (h : i < xs.length) : ith xs i ∈ xs := by
  unfold ith
  rw [List.getElem?_eq_getElem h]
  exact List.getElem_mem h
theorem mem_ith {xs : List It} {x : It} (h : x ∈ xs) : ∃ i, i < xs.length ∧ ith xs i = x := by
  obtain ⟨i, hi, rfl⟩ := List.getElem_of_mem h
  exact ⟨i, hi, by simp [ith, hi]⟩
theorem sw_perm {xs : List It} {i j : Nat} (hi : i < xs.length) (hj : j < xs.length) : (sw xs i j).Perm xs := by
  unfold sw
  rw [List.perm_iff_count]
  intro a
  have hi' : ith xs i = xs[i] := by simp [ith, hi]
  have hj' : ith xs j = xs[j] := by simp [ith, hj]
  rw [List.count_set (by simpa using hj), List.count_set hi, hi', hj']
  have e : (xs.set i xs[j])[j]'(by simpa using hj) = xs[j] := by
    rw [List.getElem_set]
    split <;> rfl
  rw [e]
  have h1 : xs[i] = a → 1 ≤ xs.count a := fun e => List.count_pos_iff.2 (e ▸ List.getElem_mem hi)
  by_cases hia : xs[i] = a <;> by_cases hja : xs[j] = a
  · have := h1 hia; simp [hia, hja]; omega
  · have := h1 hia; simp [hia, hja]; omega
  · simp [hia, hja]
  · simp [hia, hja]

def IsHeap (xs : List It) : Prop := ∀ j, 0 < j → j < xs.length → ¬ Ahead (ith xs j) (ith xs ((j - 1) / 2))
theorem IsHeap.min {xs : List It} (h : IsHeap xs) : ∀ j, j < xs.length → ¬ Ahead (ith xs j) (ith xs 0) := by
  intro j
  induction j using Nat.strongRecOn with
  | ind j ih =>
    intro hj
    by_cases h0 : j = 0
    · subst h0; intro e; exact e.asymm e
    · exact not_ahead_trans (h j (by omega) hj) (ih ((j - 1) / 2) (by omega) (by omega))

/-- A heap but for the item at i, which may stand ahead of its parent. -/
structure HeapUp (xs : List It) (i : Nat) : Prop where
  off : ∀ j, 0 < j → j < xs.length → j ≠ i → ¬ Ahead (ith xs j) (ith xs ((j - 1) / 2))
  under : ∀ j, 0 < j → j < xs.length → (j - 1) / 2 = i → 0 < i → ¬ Ahead (ith xs j) (ith xs ((i - 1) / 2))
theorem HeapUp.done {xs : List It} {i : Nat} (h : HeapUp xs i) (hd : 0 < i → ¬ Ahead (ith xs i) (ith xs ((i - 1) / 2))) : IsHeap xs := by
  intro j h0 hj
  by_cases e : j = i
  · subst e; exact hd h0
  · exact h.off j h0 hj e
theorem HeapUp.step {xs : List It} {i : Nat} (h : HeapUp xs i) (h0 : 0 < i) (hi : i < xs.length) (ha : Ahead (ith xs i) (ith xs ((i - 1) / 2))) : HeapUp (sw xs i ((i - 1) / 2)) ((i - 1) / 2) := by
  have hp : (i - 1) / 2 < xs.length := by omega
  constructor
  · intro j j0 hj hne
    rw [sw_length] at hj
    rw [ith_sw hi hp, ith_sw hi hp, if_neg hne]
    by_cases hji : j = i
    · subst hji
      rw [if_pos rfl, if_pos rfl]
      exact ha.asymm
    · rw [if_neg hji]
      by_cases h1 : (j - 1) / 2 = (i - 1) / 2
      · rw [if_pos h1]
        intro e
        have := h.off j j0 hj hji
        rw [h1] at this
        exact this (e.trans ha)
      · rw [if_neg h1]
        by_cases h2 : (j - 1) / 2 = i
        · rw [if_pos h2]
          exact h.under j j0 hj h2 h0
        · rw [if_neg h2]
          exact h.off j j0 hj hji
  · intro j j0 hj hpar hp0
    rw [sw_length] at hj
    rw [ith_sw hi hp, ith_sw hi hp]
    have hjp : ¬ j = (i - 1) / 2 := by omega
    have e1 : ¬ ((i - 1) / 2 - 1) / 2 = (i - 1) / 2 := by omega
    have e2 : ¬ ((i - 1) / 2 - 1) / 2 = i := by omega
    rw [if_neg hjp, if_neg e1, if_neg e2]
    have hpp := h.off ((i - 1) / 2) hp0 hp (by omega)
    by_cases hji : j = i
    · rw [if_pos hji]; exact hpp
    · rw [if_neg hji]
      have := h.off j j0 hj hji
      rw [hpar] at this
      exact not_ahead_trans this hpp

/-- A heap but for the item at i, which may stand behind its children. -/
structure HeapDown (xs : List It) (i : Nat) : Prop where
  off : ∀ j, 0 < j → j < xs.length → (j - 1) / 2 ≠ i → ¬ Ahead (ith xs j) (ith xs ((j - 1) / 2))
  under : ∀ j, 0 < j → j < xs.length → (j - 1) / 2 = i → 0 < i → ¬ Ahead (ith xs j) (ith xs ((i - 1) / 2))
theorem HeapDown.done {xs : List It} {i : Nat} (h : HeapDown xs i) (hd : ∀ j, 0 < j → j < xs.length → (j - 1) / 2 = i → ¬ Ahead (ith xs j) (ith xs i)) : IsHeap xs := by
  intro j h0 hj
  by_cases e : (j - 1) / 2 = i
  · rw [e]; exact hd j h0 hj e
  · exact h.off j h0 hj e
theorem HeapDown.step {xs : List It} {i m : Nat} (h : HeapDown xs i) (hm0 : 0 < m) (hm : m < xs.length) (hpar : (m - 1) / 2 = i) (hl : ∀ j, 0 < j → j < xs.length → (j - 1) / 2 = i → ¬ Ahead (ith xs j) (ith xs m)) (ha : Ahead (ith xs m) (ith xs i)) : HeapDown (sw xs i m) m := by
  have hi : i < xs.length := by omega
  constructor
  · intro j j0 hj hne
    rw [sw_length] at hj
    rw [ith_sw hi hm, ith_sw hi hm]
    by_cases h1 : (j - 1) / 2 = i
    · have hji : ¬ j = i := by omega
      have him : ¬ i = m := by omega
      rw [h1, if_neg him, if_pos rfl, if_neg hji]
      by_cases hjm : j = m
      · rw [if_pos hjm]; exact ha.asymm
      · rw [if_neg hjm]; exact hl j j0 hj h1
    · have hjm : ¬ j = m := by rintro rfl; exact h1 hpar
      rw [if_neg hjm, if_neg hne, if_neg h1]
      by_cases hji : j = i
      · rw [if_pos hji, hji]
        exact h.under m hm0 hm hpar (by omega)
      · rw [if_neg hji]
        exact h.off j j0 hj h1
  · intro j j0 hj hpj _
    rw [sw_length] at hj
    rw [ith_sw hi hm, ith_sw hi hm]
    have hjm : ¬ j = m := by omega
    have hji : ¬ j = i := by omega
    have him : ¬ i = m := by omega
    rw [if_neg hjm, if_neg hji, hpar, if_neg him, if_pos rfl]
    have := h.off j j0 hj (by omega)
    rwa [hpj] at this

/-- The last item laid where the first one was. -/
def popL (xs : List It) : List It := (xs.set 0 (ith xs (xs.length - 1))).take (xs.length - 1)
theorem popL_length (xs : List It) : (popL xs).length = xs.length - 1 := by simp [popL]
theorem ith_popL {xs : List It} {j : Nat} (hj : j < xs.length - 1) : ith (popL xs) j = if j = 0 then ith xs (xs.length - 1) else ith xs j := by
  have h : ith (popL xs) j = ith (xs.set 0 (ith xs (xs.length - 1))) j := by
    unfold ith popL
    rw [List.getElem?_take_of_lt hj]
    rfl
  rw [h, ith_set (by omega)]
theorem popL_down {xs : List It} (h : IsHeap xs) : HeapDown (popL xs) 0 := by
  constructor
  · intro j j0 hj hne
    rw [popL_length] at hj
    rw [ith_popL hj, ith_popL (by omega), if_neg (by omega), if_neg hne]
    exact h j j0 (by omega)
  · intro j _ _ _ h0
    omega
theorem popL_perm {xs : List It} (h : 1 ≤ xs.length) : xs.Perm (ith xs 0 :: popL xs) := by
  cases xs with
  | nil => simp at h
  | cons x l =>
    have h0 : ith (x :: l) 0 = x := rfl
    rw [h0]
    refine List.Perm.cons x ?_
    by_cases hl : l = []
    · subst hl; simp [popL]
    · obtain ⟨m, hm⟩ : ∃ m, l.length = m + 1 := ⟨l.length - 1, by have := List.length_pos_iff.2 hl; omega⟩
      have hlast : ith (x :: l) ((x :: l).length - 1) = l.getLast hl := by
        unfold ith
        rw [List.getLast_eq_getElem]
        simp [hm]
      unfold popL
      rw [hlast]
      simp only [List.length_cons, Nat.add_sub_cancel, List.set_cons_zero, hm, List.take_succ_cons]
      have e : l.take m = l.dropLast := by rw [List.dropLast_eq_take, hm]; rfl
      rw [e]
      have := List.perm_append_comm (l₁ := l.dropLast) (l₂ := [l.getLast hl])
      rw [List.dropLast_concat_getLast] at this
      exact this
end Go.Proofs.Ytkcgpbehicjidaa
