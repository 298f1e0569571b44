/- slices.Sorted(slices.Values(l)) at int64: the numbers, rising, in a slice of the call's own. -/
import Derived.Test.YtagoiidpcfjebaaIter
import Derived.Shelf.SortG.SortNone
import Derived.Sort.OwnSortedInts
import Derived.WalkSpells
import Derived.WalkLawsBesides
import Derived.Lib.Hide
namespace Go.Proofs.Ytagoiidpcfjebaa
open Go.RowKit Go.Shelf Go.Sort Go.Lib

/-- Rising. -/
def sortL (zs : List Int) : List Int := zs.mergeSort fun x y => decide (x ≤ y)
theorem sortL_length (zs : List Int) : (sortL zs).length = zs.length := List.length_mergeSort _
theorem sortL_perm (zs : List Int) : (sortL zs).Perm zs := List.mergeSort_perm _ _
theorem sortL_nil : sortL [] = [] := by simp [sortL]

theorem sort_call (g cap : Nat) (zs : List Int) (w : World) (hH : Holds (Value.int .i64) w g 0 zs.toArray) (hb : g < w.heap.size) (hsz : zs.length < 4611686018427387904) :
    Calls Try.prog 38 #[.slice (some ⟨g, 0, none⟩) zs.length cap] w fun e w' => e = .returned (.tuple #[]) ∧ ∃ n os, w' = grow (putRow (Value.int .i64) (Sort.ahead w n) g 0 (sortL zs).toArray) os :=
  AnyG.slices_Sort_int Try.lsort g 0 cap zs w hH hb hsz

theorem sort_none (p : Option Addr) (cap : Nat) (w : World) :
    Calls Try.prog 38 #[.slice p 0 cap] w fun e w' => e = .returned (.tuple #[]) ∧ w' = w :=
  AnyG.slices_Sort_int_none Try.lsort p cap w

theorem collect_call (Bs : Nat) (sv : Value) (zs : List Int) (hreach : zs.length * 8 ≤ 140737488355328) (w : World) (hBs : Bs < w.heap.size) (hc : w.cell? ⟨Bs, 0, none⟩ = some sv) (hI : Ints w.heap.size w sv zs) :
    Calls Try.prog 37 #[.func (.func 39) #[] #[.pointer (some ⟨Bs, 0, none⟩)]] w fun e w' => ∃ v, e = .returned v ∧ w'.ownsRow w.heap.size 2 1 v zs.length (zs.map (Value.int .i64)) ∧ (v = .slice none 0 0 ↔ zs = []) ∧ Below w.heap.size w w' := by
  have hA := callsIn_wide.1 (appendSeq_in Fence.wide 3 trivial trivial rfl (by omega) Bs sv zs hreach w hBs hc hI)
  have HA := hid hA
  clear hA hI hc
  go_enter Try.func37, Try.ntmps37
  go_wp2_with fail
  refine HA.out.mono ?_
  rintro e w' ⟨v, rfl, h⟩
  have H := hid h; clear h
  go_wp2_with fail
  go_ret
  exact ⟨v, rfl, H.out⟩

theorem sorted_call (Bs : Nat) (sv : Value) (zs : List Int) (hreach : zs.length * 8 ≤ 140737488355328) (w : World) (hBs : Bs < w.heap.size) (hc : w.cell? ⟨Bs, 0, none⟩ = some sv) (hI : Ints w.heap.size w sv zs) :
    Calls Try.prog 31 #[.func (.func 39) #[] #[.pointer (some ⟨Bs, 0, none⟩)]] w fun e w' => ∃ v, e = .returned v ∧ w'.ownsRow w.heap.size 2 1 v zs.length ((sortL zs).map (Value.int .i64)) ∧ (v = .slice none 0 0 ↔ zs = []) ∧ Below w.heap.size w w' := by
  have hA := hid (collect_call Bs sv zs hreach w hBs hc hI)
  clear hI hc
  go_enter Try.func31, Try.ntmps31
  go_wp2_with fail
  refine hA.out.mono ?_
  rintro e w1 ⟨v, rfl, hown, hnil, hB⟩
  by_cases hz : zs = []
  · subst hz
    have hv : v = .slice none 0 0 := hnil.2 rfl
    subst hv
    clear hA hnil
    go_wp2_with fail
    refine (sort_none _ _ _).mono ?_
    rintro e w' ⟨rfl, rfl⟩
    go_wp2_with fail
    go_ret
    exact ⟨_, rfl, by rw [sortL_nil]; exact hown, by simp, hB⟩
  · obtain ⟨hl, hrow⟩ := hown
    rcases hrow with ⟨rfl, _⟩ | ⟨g, cap, cur, rfl, hg, hh, hn, hcap, hs, ht⟩
    · exact absurd (hnil.1 rfl) hz
    · have hlt : g < w1.heap.size := lt_of_block hh
      rw [Nat.mul_one] at ht
      have hH := hid (holds_of_blockI (ss := zs) hh ht)
      have HB := hid hB; have Hh := hid hh; have Hs := hid hs; have Ht := hid ht; have Hl := hid hl
      clear hnil hB hh hs ht hl hA
      go_wp2_with fail
      refine (sort_call g cap zs _ hH.out hlt (by omega)).mono ?_
      rintro e w2 ⟨rfl, n, os, rfl⟩
      have hr := hid (ownsRow_sortedI (os := os) (n := n) (sortL_length zs) hg Hh.out hn hcap Hs.out)
      have hgr := hid (grownBy_sortedI (w := w1) (g := g) (n := n) (os := os) (sortL zs).toArray)
      obtain ⟨W2, hW2⟩ : ∃ W2, grow (putRow (Value.int .i64) (Sort.ahead w1 n) g 0 (sortL zs).toArray) os = W2 := ⟨_, rfl⟩
      rw [hW2] at hr hgr
      rw [hW2]
      clear hW2
      go_wp2_with fail
      go_ret
      refine ⟨_, rfl, hr.out, by simp [hz], HB.out.grown hgr.out HB.out.size (fun k e => by cases e; exact hg)⟩
end Go.Proofs.Ytagoiidpcfjebaa
