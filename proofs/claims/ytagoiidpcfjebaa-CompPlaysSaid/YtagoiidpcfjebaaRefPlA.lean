/- What a script of a compression goes by: the collection and the document's list. -/
import Derived.Test.YtagoiidpcfjebaaRefComB
import Derived.Test.YtagoiidpcfjebaaCompE
import Derived.Test.YtagoiidpcfjebaaCompF
namespace Go.Proofs.Ytagoiidpcfjebaa
open Go.RowKit Go.Shelf Go.Sort Go.Lib

def freeN (c : Nat) : Nat := (if hasB c 0 = true then 0 else 1) + (if hasB c 1 = true then 0 else 1) + (if hasB c 2 = true then 0 else 1) + (if hasB c 3 = true then 0 else 1) + (if hasB c 4 = true then 0 else 1) + (if hasB c 5 = true then 0 else 1)
theorem bit_new : ∀ (c : Fin 64) (h : Fin 6), hasB c.val h.val = false → c.val + 2 ^ h.val < 64 ∧ freeN (c.val + 2 ^ h.val) + 1 = freeN c.val ∧ ∀ j : Fin 6, hasB (c.val + 2 ^ h.val) j.val = (hasB c.val j.val || decide (j.val = h.val)) := of_decide_eq_true (by kernel_rfl)
theorem bit_one : ∀ (h : Fin 6), 2 ^ h.val < 64 ∧ freeN (2 ^ h.val) = 5 ∧ ∀ j : Fin 6, hasB (2 ^ h.val) j.val = decide (j.val = h.val) := of_decide_eq_true (by kernel_rfl)
theorem bit_sum : ∀ (c : Fin 64), c.val = (if hasB c.val 0 = true then 1 else 0) + (if hasB c.val 1 = true then 2 else 0) + (if hasB c.val 2 = true then 4 else 0) + (if hasB c.val 3 = true then 8 else 0) + (if hasB c.val 4 = true then 16 else 0) + (if hasB c.val 5 = true then 32 else 0) := of_decide_eq_true (by kernel_rfl)
/-- The crew is that of the list. -/
structure Crew (ls : List CI) (cm : Nat) : Prop where
  lt : cm < 64
  free : ls.length + freeN cm = 6
  has : ∀ j, j < 6 → (hasB cm j = true ↔ ∃ i, i < ls.length ∧ (cith ls i).h = j)
theorem Crew.len {ls : List CI} {cm : Nat} (h : Crew ls cm) : ls.length ≤ 6 := by have := h.free; omega
theorem cith_last (ls : List CI) (x : CI) : cith (ls ++ [x]) ls.length = x := by simp [cith]
theorem cith_lt {ls : List CI} (x : CI) {i : Nat} (h : i < ls.length) : cith (ls ++ [x]) i = cith ls i := by unfold cith; rw [List.getElem?_append_left h]
theorem Crew.one (x : CI) (h : x.h < 6) : Crew [x] (2 ^ x.h) := by
  obtain ⟨h1, h2, h3⟩ := bit_one ⟨x.h, h⟩
  refine ⟨h1, by simp only [List.length_singleton]; simp only at h2; omega, fun j hj => ?_⟩
  rw [h3 ⟨j, hj⟩]
  simp only [decide_eq_true_eq, List.length_singleton]
  constructor
  · rintro rfl; exact ⟨0, by omega, rfl⟩
  · rintro ⟨i, hi, e⟩
    obtain rfl : i = 0 := by omega
    exact e.symm
theorem Crew.add {ls : List CI} {cm : Nat} (hC : Crew ls cm) (x : CI) (h : x.h < 6) (hno : hasB cm x.h = false) : Crew (ls ++ [x]) (cm + 2 ^ x.h) := by
  obtain ⟨h1, h2, h3⟩ := bit_new ⟨cm, hC.lt⟩ ⟨x.h, h⟩ hno
  refine ⟨h1, by have := hC.free; simp only [List.length_append, List.length_singleton]; simp only at h2; omega, fun j hj => ?_⟩
  rw [h3 ⟨j, hj⟩]
  simp only [Bool.or_eq_true, decide_eq_true_eq]
  rw [hC.has j hj]
  constructor
  · rintro (⟨i, hi, e⟩ | rfl)
    · exact ⟨i, by simp; omega, by rw [cith_lt x hi]; exact e⟩
    · exact ⟨ls.length, by simp, by rw [cith_last]⟩
  · rintro ⟨i, hi, e⟩
    rcases Nat.lt_or_ge i ls.length with h9 | h9
    · left; exact ⟨i, h9, by rw [cith_lt x h9] at e; exact e⟩
    · right
      have : i = ls.length := by simp at hi; omega
      subst this
      rw [cith_last] at e
      exact e.symm
theorem mem_hsK {ls : List CI} {j : Nat} : (j : Int) ∈ hsK ls ↔ ∃ i, i < ls.length ∧ (cith ls i).h = j := by
  unfold hsK
  rw [List.mem_map]
  constructor
  · rintro ⟨x, hx, e⟩
    obtain ⟨i, hi, e2⟩ := List.getElem_of_mem hx
    refine ⟨i, hi, ?_⟩
    have : cith ls i = x := by simp [cith, hi, e2]
    rw [this]
    omega
  · rintro ⟨i, hi, e⟩
    refine ⟨ls[i], List.getElem_mem hi, ?_⟩
    have : cith ls i = ls[i] := by simp [cith, hi]
    rw [this] at e
    omega
theorem Crew.sum {ls : List CI} {cm : Nat} (hC : Crew ls cm) : crewTo (hsK ls) 6 = (cm : Int) := by
  have key : ∀ j : Nat, j < 6 → ((j : Int) ∈ hsK ls ↔ hasB cm j = true) := fun j hj => mem_hsK.trans (hC.has j hj).symm
  have h := bit_sum ⟨cm, hC.lt⟩
  simp only at h
  have k0 := key 0 (by omega)
  have k1 := key 1 (by omega)
  have k2 := key 2 (by omega)
  have k3 := key 3 (by omega)
  have k4 := key 4 (by omega)
  have k5 := key 5 (by omega)
  simp only [crewTo]
  simp only [k0, k1, k2, k3, k4, k5]
  have e : ∀ (p : Prop) [Decidable p] (a : Nat), (if p then (a : Int) else 0) = ((if p then a else 0 : Nat) : Int) := fun p _ a => by split <;> rfl
  simp only [e]
  have p0 : 2 ^ 0 = 1 := rfl
  have p1 : 2 ^ 1 = 2 := rfl
  have p2 : 2 ^ 2 = 4 := rfl
  have p3 : 2 ^ 3 = 8 := rfl
  have p4 : 2 ^ 4 = 16 := rfl
  have p5 : 2 ^ 5 = 32 := rfl
  rw [p0, p1, p2, p3, p4, p5]
  omega

theorem Coll.weaken {P Q : Nat → Prop} {W : World} {base b : Nat} {win first : Int} {rs cs : List Int} {cm : Nat} (h : Coll Q W base b win first rs cs cm) (hpq : ∀ q, P q → Q q) : Coll P W base b win first rs cs cm := by
  obtain ⟨vr, vc, h1, h2, h3, h4, h5, h6, h7, h8⟩ := h.ex
  exact ⟨vr, vc, h1, h2, h3, h4, h5, h6, h7, fun q hq => h8 q (hpq q hq)⟩
theorem Coll.grown {P : Nat → Prop} {W W' : World} {base b : Nat} {win first : Int} {rs cs : List Int} {cm : Nat} (h : Coll P W base b win first rs cs cm) (g : W.grownBy W' none) : Coll P W' base b win first rs cs cm := by
  obtain ⟨vr, vc, h1, h2, h3, h4, h5, h6, h7, h8⟩ := h.ex
  exact ⟨vr, vc, h1.kept g (by simp), h2.kept g (Classical.em _), h3.kept g (Classical.em _), h4, h5, h6, h7, fun q hq => ⟨Nat.lt_of_lt_of_le (h8 q hq).1 g.size, (h8 q hq).2⟩⟩
/-- A block that is new besides. -/
theorem Coll.more {P : Nat → Prop} {w W : World} {base b k : Nat} {win first : Int} {rs cs : List Int} {cm : Nat} (h : Coll P w base b win first rs cs cm) (g : w.grownBy W none) (h0 : w.heap.size ≤ k) (h1 : k < W.heap.size) : Coll (fun q => P q ∨ q = k) W base b win first rs cs cm := by
  obtain ⟨vr, vc, hc, hr, hc', n1, n2, ap, bb, hP⟩ := h.ex
  refine ⟨vr, vc, hc.kept g (by simp), hr.kept g (Classical.em _), hc'.kept g (Classical.em _), n1, n2, ap, bb, ?_⟩
  rintro q (hq | rfl)
  · exact ⟨Nat.lt_of_lt_of_le (hP q hq).1 g.size, (hP q hq).2⟩
  · exact ⟨h1, by have := hc.lt; omega, fun e => by have := (hr.lt _ e).2; omega, fun e => by have := (hc'.lt _ e).2; omega⟩
/-- The document's list has been laid into. -/
theorem Coll.laid {w W : World} {base b kb : Nat} {v v2 : Value} {ls' : List CI} {win first : Int} {rs cs : List Int} {cm : Nat} (h : Coll (fun q => v.ownBlock = some q) w base b win first rs cs cm) (hL : LaidK w W kb v v2 ls') :
    Coll (fun q => v2.ownBlock = some q) W base b win first rs cs cm := by
  obtain ⟨vr, vc, hc, hr, hc', n1, n2, ap, bb, hP⟩ := h.ex
  obtain ⟨hK, w4, o, g4, g6, hat⟩ := hL
  have keep : ∀ q, q < w.heap.size → v.ownBlock ≠ some q → W.heap[q]? = w.heap[q]? := fun q hq hv => by
    have h1 := g4.size
    rw [g6.block q (by simp; omega) (fun e => hv e.symm), (World.grownBy_alloc w4 o none).block q (by omega) (by simp)]
    exact g4.block q hq (by simp)
  refine ⟨vr, vc, ?_, osame hr fun q hq => keep q (hr.lt q hq).2 fun e => (hP q e).2.2.1 hq, osame hc' fun q hq => keep q (hc'.lt q hq).2 fun e => (hP q e).2.2.2 hq, n1, n2, ap, bb, ?_⟩
  · have h2 := keep b hc.lt fun e => (hP b e).2.1 rfl
    unfold Cmp at hc ⊢
    rw [h2]
    exact hc
  · intro q hq
    have h3 := (hK.lt q hq).2
    rcases hat with h4 | h4
    · rw [h4] at hq
      exact ⟨h3, (hP q hq).2⟩
    · rw [h4] at hq
      have h5 : (w4.alloc o).heap.size = w4.heap.size + 1 := by simp
      injection hq with h6
      have h7 := g4.size
      exact ⟨h3, by have := hc.lt; omega, fun e => by have := (hr.lt _ e).2; omega, fun e => by have := (hc'.lt _ e).2; omega⟩
end Go.Proofs.Ytagoiidpcfjebaa
