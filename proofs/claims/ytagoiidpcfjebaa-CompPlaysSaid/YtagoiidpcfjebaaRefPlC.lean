/- Close of a script of a compression, on both sides. -/
import Derived.Test.YtagoiidpcfjebaaRefPlB
import Derived.Test.YtagoiidpcfjebaaCompH
namespace Go.Proofs.Ytagoiidpcfjebaa
open Go.RowKit Go.Shelf Go.Sort Go.Lib

theorem pc_early {A w : World} {b : Nat} {win : Int} {v : Value} {ls : List CI} (h : PC A w b win v ls) (hw : 0 ≤ win ∧ win ≤ 1048576) (o : Obj) (l : Int) (he : 0 < ls.length → l < (cith ls 0).l + win) :
    Calls Try.prog 13 #[.pointer (some ⟨b, 0, none⟩), .int .i64 l] (w.alloc o) fun r w5 => r = .returned (.tuple #[resV 0 0 0, .bool false]) ∧ PC A w5 b win v ls ∧ w5.heap[w.heap.size]? = some o := by
  have ga := gr_alloc (gr_refl w none) o
  have same : ∀ w5, (w.alloc o).grownBy w5 none → PC A w5 b win v ls ∧ w5.heap[w.heap.size]? = some o := fun w5 g => ⟨h.grown (gr_trans ga g), gr_heap g (heap_alloc_new w o) (by simp)⟩
  rcases h.st with ⟨_, _, f0, vr, vc, cm0, hc⟩ | ⟨hlen, cm, hC, hCr, hf, hin⟩
  · refine (close_shut b win f0 vr vc cm0 l (w.alloc o) (hc.kept ga (by simp))).mono ?_
    rintro r w5 ⟨rfl, g⟩
    exact ⟨rfl, same w5 g⟩
  · obtain ⟨vr, vc, hc, -⟩ := hC.ex
    refine (close_early b win _ vr vc cm l (w.alloc o) (hc.kept ga (by simp)) hf hw (he hlen)).mono ?_
    rintro r w5 ⟨rfl, g⟩
    exact ⟨rfl, same w5 g⟩
/-- A collection has ended; the document's list is still there. -/
structure MC (A W : World) (b : Nat) (win : Int) (v : Value) (ls : List CI) : Prop where
  bA : b < A.heap.size
  row : KR W A.heap.size v ls
  keep : Below b A W
  cmp : Cmp W b win false 0 (.slice none 0 0) (.slice none 0 0) 0
theorem MC.grown {A W W' : World} {b : Nat} {win : Int} {v : Value} {ls : List CI} (h : MC A W b win v ls) (g : W.grownBy W' none) : MC A W' b win v ls :=
  ⟨h.bA, h.row.grown g, below_none h.keep (by have := h.bA; have := h.keep.size; omega) g, h.cmp.kept g (by simp)⟩
theorem MC.pc {A W : World} {b : Nat} {win : Int} {v : Value} {ls : List CI} (h : MC A W b win v ls) : PC A W b win (.slice none 0 0) [] :=
  ⟨h.bA, World.ownsRow_nil _ _ _ _, h.keep, .inl ⟨rfl, rfl, _, _, _, _, h.cmp⟩⟩
theorem bestTo_all {cs : List Int} {n : Nat} (hn : cs.length = n) (hne : cs ≠ []) : (bestTo cs n).1 = mostL cs := by
  rw [← bestOf_most hne]
  unfold bestTo bestOf
  rw [List.take_of_length_le (by omega)]
theorem pc_close {A w : World} {b : Nat} {win : Int} {v : Value} {ls : List CI} (h : PC A w b win v ls) (hw : 0 ≤ win ∧ win ≤ 1048576) (o : Obj) (l : Int) (hlen : 0 < ls.length) (hl : (cith ls 0).l + win ≤ l) : ∃ (p : Int) (c : Nat) (cy : Int),
    (Calls Try.prog 13 #[.pointer (some ⟨b, 0, none⟩), .int .i64 l] (w.alloc o) fun r w5 => r = .returned (.tuple #[resV p c cy, .bool true]) ∧ MC A w5 b win v ls ∧ w5.heap[w.heap.size]? = some o) ∧
    ∀ w5, MC A w5 b win v ls → Calls Try.prog 14 #[v] w5 fun r w6 => r = .returned (resV p c cy) ∧ w5.grownBy w6 none := by
  have ga := gr_alloc (gr_refl w none) o
  rcases h.st with ⟨rfl, _⟩ | ⟨_, cm, hC, hCr, hf, hin⟩
  · simp at hlen
  · have hl6 := hCr.len
    have hrl : (rsK (cith ls 0).l ls).length = ls.length := by simp [rsK]
    have hcl : (csK ls).length = ls.length := by simp [csK]
    have hrne : rsK (cith ls 0).l ls ≠ [] := fun e => by rw [e] at hrl; simp at hrl; omega
    have hcne : csK ls ≠ [] := fun e => by rw [e] at hcl; simp at hcl; omega
    have hin0 : ∀ x ∈ rsK (cith ls 0).l ls, 0 ≤ x ∧ x ≤ 1048576 := by
      intro x hx
      obtain ⟨y, hy, rfl⟩ := List.mem_map.1 hx
      obtain ⟨i, hi, e⟩ := List.getElem_of_mem hy
      have h9 := hin i hi
      have e2 : cith ls i = y := by simp [cith, hi, e]
      rw [e2] at h9
      omega
    refine ⟨(cith ls 0).l + tolL (rsK (cith ls 0).l ls), cm, mostL (csK ls), (close_ok b b win _ _ _ cm l (w.alloc o) (hC.grown ga) hf hw hl hrne hcne (by omega) hin0).mono ?_, fun w5 h5 => ?_⟩
    · rintro r w5 ⟨rfl, hc, g⟩
      have hcb : b < w.heap.size := by obtain ⟨vr, vc, hc, -⟩ := hC.ex; exact hc.lt
      refine ⟨rfl, ⟨h.bA, osame h.row fun q hq => ?_, (below_none h.keep h.sz ga).trans (gr_below g (by simp; omega) (by simp)), hc⟩, gr_heap g (heap_alloc_new w o) (by simp; omega)⟩
      have h3 := h.row.lt q hq
      have h4 := h.bA
      rw [g.block q (by simp; omega) (by simp; omega)]
      exact ga.block q h3.2 (by simp)
    · have h9 := rcompress_any A.heap.size v ls (cith ls 0).l win w5 h5.row hlen (by omega) rfl hf hw hin
      rw [hCr.sum, bestTo_all hcl hcne] at h9
      exact h9
end Go.Proofs.Ytagoiidpcfjebaa
