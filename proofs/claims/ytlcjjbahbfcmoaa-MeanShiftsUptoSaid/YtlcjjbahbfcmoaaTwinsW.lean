/- tocsinlaw03.MeanTwins, walked. -/
import Derived.Test.YtlcjjbahbfcmoaaFixed03
namespace Go.Proofs.Ytlcjjbahbfcmoaa
open Go.RowKit Go.Lib

theorem sortL_rep (k : Nat) (n : Int) : sortL (List.replicate k n) = List.replicate k n :=
  sortL_eq (List.Perm.refl _) (by rw [List.pairwise_replicate]; right; omega)
theorem nth_rep (k j : Nat) (n : Int) (h : j < k) : nth (List.replicate k n) j = n := by simp [nth, h]
theorem tolL_rep (k : Nat) (n : Int) (h : 1 ≤ k) : tolL (List.replicate k n) = n := by
  unfold tolL
  rw [sortL_rep, List.length_replicate]
  by_cases h1 : k = 1
  · subst h1; simp [nth]
  · by_cases h2 : k = 2
    · subst h2; simp [nth]; omega
    · rw [if_neg h1, if_neg h2, nth_rep _ _ _ (by omega), nth_rep _ _ _ (by omega)]; omega
theorem midL_rep (k : Nat) (n : Int) (h : 1 ≤ k) : midL (List.replicate k n) = n := by
  unfold midL
  rw [sortL_rep, List.length_replicate, nth_rep _ _ _ (by omega), nth_rep _ _ _ (by omega)]; omega
theorem maxL_rep (k : Nat) (n : Int) (h : 1 ≤ k) : maxL (List.replicate k n) = n := by
  induction k with
  | zero => omega
  | succ k ih =>
    by_cases h0 : k = 0
    · subst h0; simp [maxL]
    · rw [List.replicate_succ', maxL_snoc _ _ (by cases k <;> simp_all [List.replicate_succ]), ih (by omega)]; omega
theorem minL_rep (k : Nat) (n : Int) (h : 1 ≤ k) : minL (List.replicate k n) = n := by
  induction k with
  | zero => omega
  | succ k ih =>
    by_cases h0 : k = 0
    · subst h0; simp [minL]
    · rw [List.replicate_succ', minL_snoc _ _ (by cases k <;> simp_all [List.replicate_succ]), ih (by omega)]; omega

theorem own_ints {w : World} {base e : Nat} {v : Value} {zs : List Int} (h : w.ownsRow base e 1 v zs.length (zs.map (Value.int .i64))) : Ints w.heap.size w v zs := by
  rcases h.2 with ⟨rfl, h0⟩ | ⟨g, cap, cur, rfl, _, hh, hrest⟩
  · exact .inl ⟨none, 0, rfl, List.eq_nil_of_length_eq_zero h0⟩
  · refine .inr ⟨g, 0, cap, rfl, lt_of_block hh, fun j hj => ?_⟩
    rw [Nat.zero_add, h.cellAt j (by omega)]
    simp [hj]

set_option maxRecDepth 100000 in
set_option maxHeartbeats 2000000 in
theorem twins_walk (n : Int) (bn : -9223372036854775808 ≤ n ∧ n ≤ 9223372036854775807) (t : Int) (bt : 0 ≤ t ∧ t ≤ 255) (w : World) :
    Calls Try.prog 9 #[.int .i64 n, .int .u8 t] w fun e w' => e = .returned (.bool true) ∧ Below w.heap.size w w' := by
  obtain ⟨i0, hi, hz0, hz1, hz2⟩ := info_parts Try.info_i64
  have Bn := hid bn; clear bn
  go_enter Try.func9, Try.ntmps9
  go_wp2_with fail
  refine (fixed_true _).mono ?_
  rintro e w1 ⟨rfl, g1⟩
  go_wp2_with fail
  obtain ⟨m, hm, hm1, hm2⟩ : ∃ m : Nat, t % 20 + 1 = (m : Int) ∧ 1 ≤ m ∧ m ≤ 20 := ⟨(t % 20 + 1).toNat, by omega, by omega, by omega⟩
  rw [hm]
  clear hm
  go_loopw [5, 16] (fun v i wr => ∃ k : Nat, i = .int .i64 k ∧ k ≤ m ∧ wr.ownsRow w1.heap.size 2 1 v k ((List.replicate k n).map (Value.int .i64)) ∧ Below w1.heap.size w1 wr) (fun _ i _ => m - (intOf i).toNat)
  case atStart => exact ⟨0, rfl, Nat.zero_le _, World.ownsRow_nil _ _ _ _, Below.refl _ _⟩
  case round =>
    obtain ⟨k, rfl, hk, hown, hB⟩ := hrel
    have Hown := hid hown; clear hown
    by_cases hlt : k < m
    · go_wp2_with (at_builtin; refine wpList_append_own _ rfl _ _ 22 rfl w1.heap.size 2 i0 (.int .i64 0) 1 8 Try.underlying22 hi hz0 hz1 hz2 rfl (by decide) _ _ _ rfl (Hown.out.alloc _) ⟨wr.heap.size, 0, none⟩ 1 1 [.int .i64 n] rfl rfl (cell_one_new _ _ _) (by simp [Value.oneCell']) (by unfold maxLen; omega) (by omega) (by have := hB.size; simp; omega) ?_; intro v2 w2 hown2 hg2 _)
      have hown3 : w2.ownsRow w1.heap.size 2 1 v2 (k + 1) ((List.replicate (k + 1) n).map (Value.int .i64)) := by rw [List.replicate_succ', List.map_append]; simpa using hown2
      have hB2 : Below w1.heap.size w1 w2 := (hB.alloc hB.size _).grown hg2 (by have := hB.size; simp; omega) (fun q hq => (Hown.out.lt q hq).1)
      have Hown3 := hid hown3
      clear hown2 hown3 hg2
      go_wp2_with fail
      go_roundw
      case rel => exact ⟨k + 1, by go_num, by omega, Hown3.out, hB2⟩
      case measure => simp [intOf]; omega
    · obtain rfl : m = k := by omega
      have hI := own_ints (zs := List.replicate m n) (by rw [List.length_replicate]; exact Hown.out)
      obtain ⟨a2, len, cap2, rfl⟩ : ∃ a2 len cap2, u5 = .slice a2 len cap2 := by
        rcases hI with ⟨a, cap, e, _⟩ | ⟨b, off, cap', e, _⟩
        · exact ⟨_, _, _, e⟩
        · exact ⟨_, _, _, e⟩
      obtain rfl : m = len := by have := hI.slice; simpa using this.symm
      have HI := hid hI
      have hr : Hid ((List.replicate m n).length * 8 ≤ 140737488355328) := hid (by rw [List.length_replicate]; omega)
      have h64 : Hid (In64 (List.replicate m n)) := hid (fun x hx => by have := List.eq_of_mem_replicate hx; subst this; exact Bn.out)
      have hne : Hid (List.replicate m n ≠ []) := hid (by simp; omega)
      clear hI hlt Hown
      go_wp2_with fail
      refine (tolerant_any a2 m cap2 (List.replicate m n) hr.out h64.out _ HI.out).mono ?_
      rintro e w2 ⟨rfl, g2⟩
      rw [if_neg hne.out, tolL_rep _ _ (by omega)]
      have HI2 := hid ((HI.out.below (gr_below g2 (Nat.le_refl _) (by simp))).mono g2.size)
      go_wp2_with fail
      refine (middle_any a2 m cap2 (List.replicate m n) hr.out h64.out _ HI2.out).mono ?_
      rintro e w3 ⟨rfl, g3⟩
      rw [if_neg hne.out, midL_rep _ _ (by omega)]
      have HI3 := hid ((HI2.out.below (gr_below g3 (Nat.le_refl _) (by simp))).mono g3.size)
      go_wp2_with fail
      refine (spread_any a2 m cap2 (List.replicate m n) hr.out h64.out _ _ HI3.out).mono ?_
      rintro e w' ⟨rfl, rfl⟩
      rw [maxL_rep _ _ (by omega), minL_rep _ _ (by omega), Int.sub_self]
      go_wp2_with fail
      go_ret
      refine ⟨rfl, ?_⟩
      exact gr_below (gr_trans (gr_trans (gr_trans g1 (below_gr hB)) g2) g3) (Nat.le_refl _) (by simp)
end Go.Proofs.Ytlcjjbahbfcmoaa
