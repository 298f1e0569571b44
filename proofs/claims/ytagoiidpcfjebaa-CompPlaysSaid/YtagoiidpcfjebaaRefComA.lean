/- tocsinref11.Compress: the rows that it makes, and the cycle that most hosts send, in plain words. -/
import Derived.Test.YtagoiidpcfjebaaRefColC
import Derived.Test.YtagoiidpcfjebaaRefCrew
import Derived.Test.YtagoiidpcfjebaaCompD
import Derived.Test.YtagoiidpcfjebaaCompM
namespace Go.Proofs.Ytagoiidpcfjebaa
open Go.RowKit Go.Shelf Go.Sort Go.Lib

theorem osame {w w' : World} {base e size n : Nat} {v : Value} {xs : List Value} (h : w.ownsRow base e size v n xs) (hw : ∀ q, v.ownBlock = some q → w'.heap[q]? = w.heap[q]?) : w'.ownsRow base e size v n xs :=
  ⟨h.1, h.2.imp id (fun ⟨g, cap, cur, e, hg, hh, r⟩ => ⟨g, cap, cur, e, hg, (hw g (by rw [e]; rfl)).trans hh, r⟩)⟩
theorem gr_ownw {a b c : World} {row : Option Nat} (h : a.grownBy b none) (g : b.grownBy c row) (hr : ∀ q, row = some q → a.heap.size ≤ q) : a.grownBy c none := by
  cases row with
  | none => exact gr_trans h g
  | some k => exact gr_own h g (hr k rfl)
/-- Two rows of the call's own. -/
structure TwoR (w W : World) (vr vh : Value) (i1 i2 : Nat) (rs hs : List Int) : Prop where
  rr : W.ownsRow w.heap.size 2 1 vr i1 ((rs.take i1).map (Value.int .i64))
  rh : W.ownsRow w.heap.size 3 1 vh i2 ((hs.take i2).map (Value.int .i64))
  ap : ∀ q, vr.ownBlock = some q → vh.ownBlock ≠ some q
  g : w.grownBy W none
theorem TwoR.grown {w W W' : World} {vr vh : Value} {i1 i2 : Nat} {rs hs : List Int} (h : TwoR w W vr vh i1 i2 rs hs) (g : W.grownBy W' none) : TwoR w W' vr vh i1 i2 rs hs :=
  ⟨h.rr.kept g (Classical.em _), h.rh.kept g (Classical.em _), h.ap, gr_trans h.g g⟩
theorem take_snocI {rs : List Int} {i : Nat} (hi : i < rs.length) : (rs.take (i + 1)).map (Value.int .i64) = (rs.take i).map (Value.int .i64) ++ [.int .i64 (nth rs i)] := by
  rw [take_nth rs i hi, List.map_append]
  rfl
theorem TwoR.one {w W W4 : World} {o : Obj} {vr vh v4 : Value} {i1 i2 : Nat} {rs hs : List Int} {x : Int} (h : TwoR w W vr vh i1 i2 rs hs) (hi : i1 < rs.length) (hx : nth rs i1 = x)
    (hown : W4.ownsRow w.heap.size 2 1 v4 (i1 + 1) ((rs.take i1).map (Value.int .i64) ++ [.int .i64 x])) (hg : (W.alloc o).grownBy W4 vr.ownBlock) (hat : v4.ownBlock = vr.ownBlock ∨ v4.ownBlock = some (W.alloc o).heap.size) : TwoR w W4 v4 vh (i1 + 1) i2 rs hs where
  rr := by rw [take_snocI hi, hx]; exact hown
  rh := osame h.rh fun q hq => by
    have h1 := (h.rh.lt q hq).2
    rw [hg.block q (by simp; omega) (fun e => h.ap q e.symm hq)]
    exact (World.grownBy_alloc W o none).block q h1 (by simp)
  ap := by
    intro q hq1 hq2
    rcases hat with h1 | h1
    · exact h.ap q (h1 ▸ hq1) hq2
    · rw [h1] at hq1
      have h2 := (h.rh.lt q hq2).2
      have h3 : (W.alloc o).heap.size = W.heap.size + 1 := by simp
      injection hq1 with h4
      omega
  g := gr_ownw (gr_alloc h.g o) hg fun q hq => (h.rr.lt q hq).1
theorem TwoR.two {w W W4 : World} {o : Obj} {vr vh v4 : Value} {i1 i2 : Nat} {rs hs : List Int} {x : Int} (h : TwoR w W vr vh i1 i2 rs hs) (hi : i2 < hs.length) (hx : nth hs i2 = x)
    (hown : W4.ownsRow w.heap.size 3 1 v4 (i2 + 1) ((hs.take i2).map (Value.int .i64) ++ [.int .i64 x])) (hg : (W.alloc o).grownBy W4 vh.ownBlock) (hat : v4.ownBlock = vh.ownBlock ∨ v4.ownBlock = some (W.alloc o).heap.size) : TwoR w W4 vr v4 i1 (i2 + 1) rs hs where
  rh := by rw [take_snocI hi, hx]; exact hown
  rr := osame h.rr fun q hq => by
    have h1 := (h.rr.lt q hq).2
    rw [hg.block q (by simp; omega) (fun e => h.ap q hq e.symm)]
    exact (World.grownBy_alloc W o none).block q h1 (by simp)
  ap := by
    intro q hq1 hq2
    rcases hat with h1 | h1
    · exact h.ap q hq1 (h1 ▸ hq2)
    · rw [h1] at hq2
      have h2 := (h.rr.lt q hq1).2
      have h3 : (W.alloc o).heap.size = W.heap.size + 1 := by simp
      injection hq2 with h4
      omega
  g := gr_ownw (gr_alloc h.g o) hg fun q hq => (h.rh.lt q hq).1

def bestF (cs : List Int) (p : Int × Nat) (n : Int) : Int × Nat := if p.2 < cs.count n ∨ cs.count n = p.2 ∧ p.1 < n then (n, cs.count n) else p
def bestOf (cs : List Int) : Int := (cs.foldl (bestF cs) (0, 0)).1
theorem bestF_spec (cs : List Int) (l : List Int) (hl : ∀ x ∈ l, x ∈ cs) (hne : l ≠ []) :
    (l.foldl (bestF cs) (0, 0)).1 ∈ l ∧ (l.foldl (bestF cs) (0, 0)).2 = cs.count (l.foldl (bestF cs) (0, 0)).1 ∧ ∀ x ∈ l, cs.count x < cs.count (l.foldl (bestF cs) (0, 0)).1 ∨ cs.count x = cs.count (l.foldl (bestF cs) (0, 0)).1 ∧ x ≤ (l.foldl (bestF cs) (0, 0)).1 := by
  suffices key : ∀ (r : List Int), (∀ x ∈ r, x ∈ cs) → r = [] ∧ r.reverse.foldl (bestF cs) (0, 0) = (0, 0) ∨ ((r.reverse.foldl (bestF cs) (0, 0)).1 ∈ r ∧ (r.reverse.foldl (bestF cs) (0, 0)).2 = cs.count (r.reverse.foldl (bestF cs) (0, 0)).1 ∧ ∀ x ∈ r, cs.count x < cs.count (r.reverse.foldl (bestF cs) (0, 0)).1 ∨ cs.count x = cs.count (r.reverse.foldl (bestF cs) (0, 0)).1 ∧ x ≤ (r.reverse.foldl (bestF cs) (0, 0)).1) by
    have := key l.reverse (fun x hx => hl x (by simpa using hx))
    rw [List.reverse_reverse] at this
    rcases this with ⟨h, _⟩ | ⟨h1, h2, h3⟩
    · exact absurd (List.reverse_eq_nil_iff.1 h) hne
    · exact ⟨by simpa using h1, h2, fun x hx => h3 x (by simpa using hx)⟩
  intro r
  induction r with
  | nil => intro _; exact .inl ⟨rfl, rfl⟩
  | cons y r ih =>
    intro hr
    right
    have hy := hr y (List.mem_cons_self ..)
    have hcy : 0 < cs.count y := List.count_pos_iff.2 hy
    rw [List.reverse_cons, List.foldl_append]
    simp only [List.foldl_cons, List.foldl_nil]
    rcases ih (fun x hx => hr x (List.mem_cons_of_mem _ hx)) with ⟨rfl, h⟩ | ⟨h1, h2, h3⟩
    · rw [h]
      unfold bestF
      rw [if_pos (.inl hcy)]
      refine ⟨List.mem_cons_self .., rfl, fun x hx => ?_⟩
      rw [List.mem_singleton.1 hx]
      exact .inr ⟨rfl, Int.le_refl _⟩
    · obtain ⟨p, hp⟩ : ∃ p, r.reverse.foldl (bestF cs) (0, 0) = p := ⟨_, rfl⟩
      rw [hp] at h1 h2 h3 ⊢
      unfold bestF
      by_cases hc : p.2 < cs.count y ∨ cs.count y = p.2 ∧ p.1 < y
      · rw [if_pos hc]
        refine ⟨List.mem_cons_self .., rfl, fun x hx => ?_⟩
        rcases List.mem_cons.1 hx with rfl | hx
        · exact .inr ⟨rfl, Int.le_refl _⟩
        · have := h3 x hx
          rw [h2] at hc
          simp only
          omega
      · rw [if_neg hc]
        refine ⟨List.mem_cons_of_mem _ h1, h2, fun x hx => ?_⟩
        rcases List.mem_cons.1 hx with rfl | hx
        · rw [h2] at hc; omega
        · exact h3 x hx
/-- The same as the program's own. -/
theorem bestOf_most {cs : List Int} (hne : cs ≠ []) : bestOf cs = mostL cs := by
  obtain ⟨h1, _, h3⟩ := bestF_spec cs cs (fun _ h => h) hne
  exact (most_unique h1 h3).symm
theorem count_take {cs : List Int} {j : Nat} (c : Int) (hj : j < cs.length) : (cs.take (j + 1)).count c = (cs.take j).count c + if nth cs j = c then 1 else 0 := by
  rw [take_nth cs j hj, List.count_append, List.count_singleton]
  simp [beq_iff_eq]
end Go.Proofs.Ytagoiidpcfjebaa
