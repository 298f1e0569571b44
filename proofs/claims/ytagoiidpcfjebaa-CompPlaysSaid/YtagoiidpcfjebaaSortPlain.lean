/- The means in plain numbers: the order is no matter; between the least and the greatest; one bad reading. -/
import Derived.Test.YtagoiidpcfjebaaSortLaw
import Derived.Test.YtagoiidpcfjebaaMean
namespace Go.Proofs.Ytagoiidpcfjebaa
open Go.RowKit Go.Lib

theorem sortL_of_perm {a b : List Int} (h : a.Perm b) : sortL a = sortL b := sortL_eq ((sortL_perm b).trans h.symm) (sortL_sorted b)

theorem nth_mem {l : List Int} {i : Nat} (h : i < l.length) : nth l i ∈ l := by
  simp [nth, h]
theorem mem_nth {l : List Int} {x : Int} (h : x ∈ l) : ∃ i, i < l.length ∧ nth l i = x := by
  obtain ⟨i, hi, rfl⟩ := List.getElem_of_mem h
  exact ⟨i, hi, by simp [nth, hi]⟩
theorem nth_le {S : List Int} (h : S.Pairwise (· ≤ ·)) {i j : Nat} (hij : i ≤ j) (hj : j < S.length) : nth S i ≤ nth S j := by
  rcases Nat.lt_or_eq_of_le hij with hlt | rfl
  · have := List.pairwise_iff_getElem.1 h i j (by omega) hj hlt
    simpa [nth, hj, Nat.lt_trans hlt hj] using this
  · omega

theorem foldl_max : ∀ (l : List Int) (a : Int), a ≤ l.foldl max a ∧ (∀ x ∈ l, x ≤ l.foldl max a) ∧ (l.foldl max a = a ∨ l.foldl max a ∈ l)
  | [], a => by simp
  | y :: l, a => by
    obtain ⟨h1, h2, h3⟩ := foldl_max l (max a y)
    refine ⟨by simp only [List.foldl_cons]; omega, ?_, ?_⟩
    · intro x hx
      simp only [List.foldl_cons]
      rcases List.mem_cons.1 hx with rfl | hx
      · omega
      · exact h2 x hx
    · simp only [List.foldl_cons, List.mem_cons]
      rcases h3 with h3 | h3
      · rw [h3]
        rcases Int.le_total a y with h | h
        · right; left; omega
        · left; omega
      · right; right; exact h3
theorem foldl_min : ∀ (l : List Int) (a : Int), l.foldl min a ≤ a ∧ (∀ x ∈ l, l.foldl min a ≤ x) ∧ (l.foldl min a = a ∨ l.foldl min a ∈ l)
  | [], a => by simp
  | y :: l, a => by
    obtain ⟨h1, h2, h3⟩ := foldl_min l (min a y)
    refine ⟨by simp only [List.foldl_cons]; omega, ?_, ?_⟩
    · intro x hx
      simp only [List.foldl_cons]
      rcases List.mem_cons.1 hx with rfl | hx
      · omega
      · exact h2 x hx
    · simp only [List.foldl_cons, List.mem_cons]
      rcases h3 with h3 | h3
      · rw [h3]
        rcases Int.le_total a y with h | h
        · left; omega
        · right; left; omega
      · right; right; exact h3

theorem tolL_perm {a b : List Int} (h : a.Perm b) : tolL a = tolL b := by
  unfold tolL; rw [sortL_of_perm h, h.length_eq]
theorem midL_perm {a b : List Int} (h : a.Perm b) : midL a = midL b := by
  unfold midL; rw [sortL_of_perm h, h.length_eq]
theorem tolL_between {zs : List Int} (h : 1 ≤ zs.length) : nth (sortL zs) 0 ≤ tolL zs ∧ tolL zs ≤ nth (sortL zs) (zs.length - 1) := by
  have hl := (sortL_perm zs).length_eq
  have hs := sortL_sorted zs
  unfold tolL
  split
  · rename_i e
    rw [e]; simp
  · split
    · rename_i e e2
      rw [e2]
      have := nth_le hs (i := 0) (j := 1) (by omega) (by omega)
      show _ ∧ _ ≤ nth (sortL zs) 1
      omega
    · rename_i e1 e2
      have h1 := nth_le hs (i := 0) (j := 1) (by omega) (by omega)
      have h2 := nth_le hs (i := 1) (j := zs.length - 2) (by omega) (by omega)
      have h3 := nth_le hs (i := zs.length - 2) (j := zs.length - 1) (by omega) (by omega)
      omega
theorem midL_between {zs : List Int} (h : 1 ≤ zs.length) : nth (sortL zs) 0 ≤ midL zs ∧ midL zs ≤ nth (sortL zs) (zs.length - 1) := by
  have hl := (sortL_perm zs).length_eq
  have hs := sortL_sorted zs
  unfold midL
  have h1 := nth_le hs (i := 0) (j := (zs.length - 1) / 2) (by omega) (by omega)
  have h2 := nth_le hs (i := (zs.length - 1) / 2) (j := zs.length / 2) (by omega) (by omega)
  have h3 := nth_le hs (i := zs.length / 2) (j := zs.length - 1) (by omega) (by omega)
  omega

/-- One more reading, whatever it is: the tolerant mean stays between the others' least and greatest. -/
theorem tolL_bad {l good : List Int} {bad : Int} (hp : l.Perm (bad :: good)) (h2 : 2 ≤ good.length) : nth (sortL good) 0 ≤ tolL l ∧ tolL l ≤ nth (sortL good) (good.length - 1) := by
  have hlen := hp.length_eq
  have hl := (sortL_perm l).length_eq
  have hg := (sortL_perm good).length_eq
  have hs := sortL_sorted l
  have hsg := sortL_sorted good
  have hL : (sortL l).Perm (bad :: good) := (sortL_perm l).trans hp
  simp only [List.length_cons] at hlen
  have low : ∀ x ∈ good, nth (sortL good) 0 ≤ x := by
    intro x hx
    obtain ⟨i, hi, rfl⟩ := mem_nth ((sortL_perm good).mem_iff.2 hx)
    exact nth_le hsg (by omega) (by omega)
  have up : ∀ x ∈ good, x ≤ nth (sortL good) (good.length - 1) := by
    intro x hx
    obtain ⟨i, hi, rfl⟩ := mem_nth ((sortL_perm good).mem_iff.2 hx)
    exact nth_le hsg (by omega) (by omega)
  have a1 : nth (sortL good) 0 ≤ nth (sortL l) 1 := by
    have h01 := nth_le hs (i := 0) (j := 1) (by omega) (by omega)
    have hx := hL.mem_iff.1 (nth_mem (l := sortL l) (i := 0) (by omega))
    rcases List.mem_cons.1 hx with e | hx
    · have hd : sortL l = nth (sortL l) 0 :: (sortL l).drop 1 := by
        have : 0 < (sortL l).length := by omega
        rw [List.drop_one]
        cases hq : sortL l with
        | nil => rw [hq] at this; simp at this
        | cons y t => simp [nth]
      rw [hd, e] at hL
      have hc := hL.cons_inv
      have hm : nth (sortL l) 1 ∈ (sortL l).drop 1 := by
        have : nth (sortL l) 1 = nth ((sortL l).drop 1) 0 := by simp [nth]
        rw [this]
        exact nth_mem (by rw [List.length_drop]; omega)
      exact low _ (hc.mem_iff.1 hm)
    · exact Int.le_trans (low _ hx) h01
  have a2 : nth (sortL l) (l.length - 2) ≤ nth (sortL good) (good.length - 1) := by
    have h01 := nth_le hs (i := l.length - 2) (j := l.length - 1) (by omega) (by omega)
    have hx := hL.mem_iff.1 (nth_mem (l := sortL l) (i := l.length - 1) (by omega))
    rcases List.mem_cons.1 hx with e | hx
    · have hd : sortL l = (sortL l).take (l.length - 1) ++ [nth (sortL l) (l.length - 1)] := by
        rw [← take_nth _ _ (by omega), show l.length - 1 + 1 = (sortL l).length from by omega, List.take_length]
      have hL' : ((sortL l).take (l.length - 1) ++ [nth (sortL l) (l.length - 1)]).Perm (bad :: good) := by rw [← hd]; exact hL
      rw [e] at hL'
      have hc := (List.perm_append_comm.trans hL').cons_inv
      have hm : nth (sortL l) (l.length - 2) ∈ (sortL l).take (l.length - 1) := by
        have : nth (sortL l) (l.length - 2) = nth ((sortL l).take (l.length - 1)) (l.length - 2) := by
          simp only [nth]; rw [List.getElem?_take_of_lt (by omega)]
        rw [this]
        exact nth_mem (by rw [List.length_take]; omega)
      exact up _ (hc.mem_iff.1 hm)
    · exact Int.le_trans h01 (up _ hx)
  have a3 := nth_le hs (i := 1) (j := l.length - 2) (by omega) (by omega)
  unfold tolL
  rw [if_neg (by omega), if_neg (by omega)]
  omega
end Go.Proofs.Ytagoiidpcfjebaa
