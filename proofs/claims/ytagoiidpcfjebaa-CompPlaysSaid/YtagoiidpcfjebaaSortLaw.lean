/- What 'rising' means, in plain lists. -/
import Derived.Test.YtagoiidpcfjebaaSorted
namespace Go.Proofs.Ytagoiidpcfjebaa

theorem sortL_sorted (zs : List Int) : (sortL zs).Pairwise (· ≤ ·) := by
  have h := List.pairwise_mergeSort (le := fun x y : Int => decide (x ≤ y)) (by intro a b c; simp; omega) (by intro a b; simp; omega) zs
  exact h.imp (by intro a b h; simpa using h)

theorem sorted_unique : ∀ (a b : List Int), a.Perm b → a.Pairwise (· ≤ ·) → b.Pairwise (· ≤ ·) → a = b
  | [], b, hp, _, _ => by simpa using hp.symm
  | x :: a, [], hp, _, _ => by have := hp.length_eq; simp at this
  | x :: a, y :: b, hp, ha, hb => by
    have hx : x ∈ y :: b := hp.subset (by simp)
    have hy : y ∈ x :: a := hp.symm.subset (by simp)
    rw [List.pairwise_cons] at ha hb
    have h1 : x ≤ y := by
      rcases List.mem_cons.1 hy with h | h
      · omega
      · exact ha.1 y h
    have h2 : y ≤ x := by
      rcases List.mem_cons.1 hx with h | h
      · omega
      · exact hb.1 x h
    obtain rfl : x = y := by omega
    rw [sorted_unique a b (List.Perm.cons_inv hp) ha.2 hb.2]

theorem sortL_eq {zs t : List Int} (hp : t.Perm zs) (ht : t.Pairwise (· ≤ ·)) : sortL zs = t :=
  sorted_unique _ _ ((sortL_perm zs).trans hp.symm) (sortL_sorted zs) ht

end Go.Proofs.Ytagoiidpcfjebaa
