/- tocsinref02.SameNumbers; tocsinlaw03.MeanKeeps, walked. -/
import Derived.Test.YtlcjjbahbfcmoaaTwinsW
import Derived.Laws.AppendOwnNone
namespace Go.Proofs.Ytlcjjbahbfcmoaa
open Go.RowKit Go.Lib

set_option maxHeartbeats 1000000 in
theorem same_numbers (a a' : Option Addr) (cap cap' n₀ : Nat) (zs : List Int) (hreach : zs.length * 8 ≤ 140737488355328) (w : World) (hI : Ints n₀ w (.slice a zs.length cap) zs) (hI' : Ints n₀ w (.slice a' zs.length cap') zs) :
    Calls Try.prog 22 #[.slice a zs.length cap, .slice a' zs.length cap'] w fun e w' => e = .returned (.bool true) ∧ w.grownBy w' none := by
  by_cases hz : zs = []
  · subst hz
    clear hI hI'
    go_enter Try.func22, Try.ntmps22
    go_wp2_with fail
    refine wp_loop_rounds 1 ?_
    rw [rounds_succ]
    go_wp2_with fail
    go_ret
    exact ⟨rfl, gr_refl _ _⟩
  · rcases hI with ⟨_, _, _, h⟩ | ⟨b, off, _, e, hb, hc⟩
    · exact absurd h hz
    rcases hI' with ⟨_, _, _, h⟩ | ⟨b', off', _, e', hb', hc'⟩
    · exact absurd h hz
    cases e; cases e'
    have Hc := hid hc
    have Hc' := hid hc'
    clear hc hc' hz
    go_enter Try.func22, Try.ntmps22
    go_wp2_with fail
    go_loopw [5] (fun i wr => w.grownBy wr none ∧ ∃ k : Nat, i = .int .i64 k ∧ k ≤ zs.length) (fun i _ => zs.length - (intOf i).toNat)
    case atStart => exact ⟨gr_refl _ _, 0, rfl, Nat.zero_le _⟩
    case round =>
      obtain ⟨hG, k, rfl, hk⟩ := hrel
      by_cases hlt : k < zs.length
      · have c1 := gr_cell hG (Hc.out k hlt)
        have c2 := gr_cell hG (Hc'.out k hlt)
        generalize zs[k]?.getD 0 = x at c1 c2
        go_wp2_with fail
        go_quiet (fail)
        go_wp2_with fail
        go_roundw
        case rel => exact ⟨gr_drewN hG _, k + 1, by go_num, by omega⟩
        case measure => simp [intOf]; omega
      · obtain rfl : k = zs.length := by omega
        clear hlt
        go_wp2_with fail
        go_ret
        exact ⟨rfl, hG⟩

theorem add_lit_ints (b off j : Nat) : (⟨b, off, none⟩ : Addr).add j = ⟨b, off + j, none⟩ := by
  simp only [Addr.add]
  split
  · rename_i h; rw [h]; rfl
  · rfl
theorem ints_news {n₀ : Nat} {w : World} {ad : Addr} {cap : Nat} {zs : List Int} (h : Ints n₀ w (.slice (some ad) zs.length cap) zs) : ∀ j u, (zs.map (Value.int .i64))[j]? = some u → w.cell? (ad.add j) = some u := by
  intro j u hj
  rcases h with ⟨_, _, _, rfl⟩ | ⟨b, off, cap', e, _, hc⟩
  · simp at hj
  · cases e
    have hlt : j < zs.length := by have := (List.getElem?_eq_some_iff.1 hj).1; simpa using this
    have := hc j hlt
    rw [add_lit_ints, this, ← hj]
    simp [hlt]

theorem tolerant_ex (a : Option Addr) (len cap : Nat) (zs : List Int) (hreach : zs.length * 8 ≤ 140737488355328) (h64 : In64 zs) (w : World) (hI : Ints w.heap.size w (.slice a len cap) zs) :
    Calls Try.prog 12 #[.slice a len cap] w fun e w' => ∃ T, e = .returned (.tuple T) ∧ w.grownBy w' none :=
  (tolerant_any a len cap zs hreach h64 w hI).mono fun _ _ h => ⟨_, h⟩
theorem middle_ex (a : Option Addr) (len cap : Nat) (zs : List Int) (hreach : zs.length * 8 ≤ 140737488355328) (h64 : In64 zs) (w : World) (hI : Ints w.heap.size w (.slice a len cap) zs) :
    Calls Try.prog 13 #[.slice a len cap] w fun e w' => ∃ T, e = .returned (.tuple T) ∧ w.grownBy w' none :=
  (middle_any a len cap zs hreach h64 w hI).mono fun _ _ h => ⟨_, h⟩

set_option maxRecDepth 100000 in
set_option maxHeartbeats 2000000 in
theorem keeps_walk (a : Option Addr) (zs : List Int) (cap : Nat) (hreach : zs.length * 8 ≤ 140737488355328) (h64 : In64 zs) (w : World) (hI : Ints w.heap.size w (.slice a zs.length cap) zs) (hnil : a = none → zs = [] ∧ cap = 0) :
    Calls Try.prog 8 #[.slice a zs.length cap] w fun e w' => e = .returned (.bool true) ∧ Below w.heap.size w w' := by
  obtain ⟨i0, hi, hz0, hz1, hz2⟩ := info_parts Try.info_i64
  have HI := hid hI
  have H64 := hid h64
  have Hnil := hid hnil
  clear hI h64 hnil
  go_enter Try.func8, Try.ntmps8
  go_wp2_with fail
  refine (fixed_true _).mono ?_
  rintro e w1 ⟨rfl, g1⟩
  have HI1 := hid (HI.out.below (gr_below g1 (Nat.le_refl _) (by simp)))
  have hr := hid hreach
  clear hreach
  cases a with
  | none =>
    obtain ⟨rfl, rfl⟩ := Hnil.out rfl
    clear Hnil HI1
    have hB : Below w.heap.size w (w1.alloc (.cells #[] 2)) := (gr_below g1 (Nat.le_refl _) (by simp)).alloc g1.size _
    have HJ : Hid (Ints (w1.alloc (.cells #[] 2)).heap.size (w1.alloc (.cells #[] 2)) (.slice (some ⟨w1.heap.size, 0, none⟩) 0 0) []) := hid (.inl ⟨_, _, rfl, rfl⟩)
    go_wp2_with fail
    refine (tolerant_ex (some ⟨w1.heap.size, 0, none⟩) 0 0 [] hr.out H64.out _ HJ.out).mono ?_
    rintro e w3 ⟨T, rfl, g3⟩
    have HJ3 := hid ((HJ.out.below (gr_below g3 (Nat.le_refl _) (by simp))).mono g3.size)
    go_wp2_with fail
    refine (middle_ex (some ⟨w1.heap.size, 0, none⟩) 0 0 [] hr.out H64.out _ HJ3.out).mono ?_
    rintro e w4 ⟨T', rfl, g4⟩
    have HJ4 := hid ((HJ3.out.below (gr_below g4 (Nat.le_refl _) (by simp))).mono g4.size)
    go_wp2_with fail
    refine (spread_any (some ⟨w1.heap.size, 0, none⟩) 0 0 [] hr.out H64.out _ _ HJ4.out).mono ?_
    rintro e w' ⟨rfl, rfl⟩
    have hall := hB.trans ((gr_below g3 hB.size (by simp)).trans (gr_below g4 (Nat.le_trans hB.size g3.size) (by simp)))
    have HI4 := hid ((HI.out.below hall).mono hall.size)
    go_wp2_with fail
    refine (same_numbers (some ⟨w1.heap.size, 0, none⟩) none 0 0 _ [] hr.out _ HJ4.out HI4.out).mono ?_
    rintro e w5 ⟨rfl, g5⟩
    go_wp2_with fail
    go_ret
    exact ⟨rfl, hall.trans (gr_below g5 hall.size (by simp))⟩
  | some ad =>
    have hnews := hid (ints_news (HI1.out.below ((Below.refl w.heap.size w1).alloc g1.size (.cells #[] 2))))
    have hown0 := hid (World.ownsRow_made (base := w1.heap.size) (e := 2) (size := 1) w1 #[] 0 (Nat.le_refl _) (by simp) rfl)
    go_wp2_with (at_builtin; refine wpList_append_own _ rfl _ _ 22 rfl w1.heap.size 2 i0 (.int .i64 0) 1 8 Try.underlying22 hi hz0 hz1 hz2 rfl (by decide) _ _ _ rfl hown0.out ad zs.length cap (zs.map (Value.int .i64)) rfl (by simp) hnews.out (by simp [Value.oneCell']) (by have := hr.out; unfold maxLen; omega) (by have := hr.out; omega) (by simp) ?_; intro v2 w2 hown2 hg2 _)
    rw [Nat.zero_add, List.nil_append] at hown2
    have hJ := own_ints hown2
    obtain ⟨a2, len, cap2, rfl⟩ : ∃ a2 len cap2, v2 = .slice a2 len cap2 := by
      rcases hJ with ⟨a, cap, e, _⟩ | ⟨b, off, cap', e, _⟩
      · exact ⟨_, _, _, e⟩
      · exact ⟨_, _, _, e⟩
    obtain rfl : zs.length = len := hJ.slice.symm
    have HJ := hid hJ
    have hB : Below w.heap.size w w2 := ((gr_below g1 (Nat.le_refl _) (by simp)).alloc g1.size _).trans (gr_below hg2 (by have := g1.size; simp; omega) (by intro k hk; have : w1.heap.size = k := (by simpa [Act.eval, Value.ownBlock] using hk); have := g1.size; omega))
    clear hJ hown2 hg2 hown0 hnews HI1
    refine (tolerant_ex a2 zs.length cap2 zs hr.out H64.out _ HJ.out).mono ?_
    rintro e w3 ⟨T, rfl, g3⟩
    have HJ3 := hid ((HJ.out.below (gr_below g3 (Nat.le_refl _) (by simp))).mono g3.size)
    go_wp2_with fail
    refine (middle_ex a2 zs.length cap2 zs hr.out H64.out _ HJ3.out).mono ?_
    rintro e w4 ⟨T', rfl, g4⟩
    have HJ4 := hid ((HJ3.out.below (gr_below g4 (Nat.le_refl _) (by simp))).mono g4.size)
    go_wp2_with fail
    refine (spread_any a2 zs.length cap2 zs hr.out H64.out _ _ HJ4.out).mono ?_
    rintro e w' ⟨rfl, rfl⟩
    have hall := hB.trans ((gr_below g3 hB.size (by simp)).trans (gr_below g4 (Nat.le_trans hB.size g3.size) (by simp)))
    have HI4 := hid ((HI.out.below hall).mono hall.size)
    go_wp2_with fail
    refine (same_numbers a2 (some ad) cap2 cap _ zs hr.out _ HJ4.out HI4.out).mono ?_
    rintro e w5 ⟨rfl, g5⟩
    go_wp2_with fail
    go_ret
    exact ⟨rfl, hall.trans (gr_below g5 hall.size (by simp))⟩
end Go.Proofs.Ytlcjjbahbfcmoaa
