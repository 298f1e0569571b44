/- tocsinlaw11.CompMost, walked. -/
import Derived.Test.YtagoiidpcfjebaaCompI
import Derived.Test.YtagoiidpcfjebaaCompJ
namespace Go.Proofs.Ytagoiidpcfjebaa
open Go.RowKit Go.Lib

/-- The slice's own words of 32 bits. -/
def Wrds (n₀ : Nat) (W : World) (sv : Value) (gs : List Int) : Prop :=
  (∃ a cap, sv = .slice a 0 cap ∧ gs = []) ∨ ∃ b off cap, sv = .slice (some ⟨b, off, none⟩) gs.length cap ∧ b < n₀ ∧ ∀ j, j < gs.length → W.cell? ⟨b, off + j, none⟩ = some (.int .u32 (nth gs j))
def InW (l : List Int) : Prop := ∀ x ∈ l, 0 ≤ x ∧ x ≤ 4294967295

theorem right_cycle {h cy : Int} (h0 : 0 ≤ h) (h1 : h ≤ 7) (c0 : 0 ≤ cy) (c1 : cy ≤ 4294967295) : rightB 1 h cy 0 0 = true := by
  simp [rightB, inB]
  omega
theorem crew_next' : ∀ k : Fin 5, hasB (2 ^ (k.val + 1) - 1) (k.val + 1) = false ∧ 2 ^ (k.val + 1) - 1 < 64 ∧ 2 ^ (k.val + 1) - 1 + 2 ^ (k.val + 1) = 2 ^ (k.val + 1 + 1) - 1 := by decide
theorem tol_zeros (k : Nat) : tolL (List.replicate (k + 1) 0) = 0 := by
  have h := tolL_bounds (zs := List.replicate (k + 1) 0) (lo := 0) (hi := 0) (by intro x hx; have := List.eq_of_mem_replicate hx; omega) (by simp)
  omega
theorem most_more (m : Nat) (c : Int) (os : List Int) (ho : os.length ≤ m) : mostL (List.replicate (m + 1) c ++ os) = c := by
  refine most_unique (by simp) ?_
  intro x hx
  by_cases hxc : x = c
  · subst hxc; exact .inr ⟨rfl, Int.le_refl _⟩
  · left
    rw [List.count_append, List.count_append, List.count_replicate_self, List.count_replicate]
    have h1 : List.count x os ≤ os.length := List.count_le_length
    have : (c == x) = false := by simp; exact fun e => hxc e.symm
    rw [this]
    simp
    omega

set_option maxRecDepth 100000 in
set_option maxHeartbeats 4000000 in
theorem most_walk (cy : Int) (bc : 0 ≤ cy ∧ cy ≤ 4294967295) (a : Option Addr) (gs : List Int) (cap : Nat) (hreach : gs.length * 4 ≤ 140737488355328) (h8 : InW gs) (hcap : gs.length ≤ cap) {w : World} (hI : Wrds w.heap.size w (.slice a gs.length cap) gs) :
    Calls Try.prog 8 #[.int .u32 cy, .slice a gs.length cap] w fun e w' => e = .returned (.bool true) ∧ Below w.heap.size w w' := by
  obtain ⟨bc0, bc1⟩ := bc
  obtain ⟨n, hn⟩ : ∃ n, Hid ((gs.take 2).length = n) := ⟨_, hid rfl⟩
  have hn2 : n ≤ 2 := by rw [← hn.out]; simp; omega
  have hnl : n ≤ gs.length := by rw [← hn.out]; simp; omega
  have hmin : min (gs.length : Int) 2 = (n : Int) := by have := hn.out; simp at this; omega
  have hnc : n ≤ cap := by omega
  have HI := hid hI
  have H8 := hid h8
  clear hI h8
  go_enter Try.func8, Try.ntmps8
  go_wp2_with fail
  refine (fixed_true w).mono ?_
  rintro e w1 ⟨rfl, g1⟩
  have HB := hid g1
  clear g1
  obtain ⟨b, hb⟩ : ∃ b, Hid (w1.heap.size = b) := ⟨_, hid rfl⟩
  go_wp2_with fail
  refine (comp_new_ok 50 w1 (by omega) (by omega)).mono ?_
  rintro e w2 ⟨rfl, hc, hg, hsz⟩
  rw [hb.out] at hc hsz
  rw [hb.out]
  have HC := hid hc
  have Hle : Hid (w.heap.size ≤ b) := hid (by have := HB.out.size; have := hb.out; omega)
  have HB := hid (gr_trans HB.out hg)
  clear hc hg hsz
  go_wp2_with fail
  go_loopw [26] (fun vi wr => ∃ k : Nat, vi = .int .i64 k ∧ k ≤ n + 1 ∧ Hid ((k = 0 ∧ Cmp wr b 50 false 0 (.slice none 0 0) (.slice none 0 0) 0) ∨ (1 ≤ k ∧ Coll (fun _ => False) wr b b 50 0 (List.replicate k 0) (List.replicate k cy) (2 ^ k - 1))) ∧ Hid (w.grownBy wr none)) (fun vi _ => n + 1 - (intOf vi).toNat)
  case atStart => exact ⟨0, rfl, Nat.zero_le _, hid (.inl ⟨rfl, HC.out⟩), HB⟩
  case round =>
    obtain ⟨k, rfl, hk, HS, HB⟩ := hrel
    by_cases hlt : k < n + 1
    · rcases HS.out with ⟨rfl, hc⟩ | ⟨hk1, hC⟩
      · have HC := hid hc
        clear hc HS
        go_wp2_with fail
        refine (add_open (fun _ => False) b b 50 0 _ _ 0 0 _ cy 0 0 0 rfl (by omega) _ HC.out (Nat.le_refl _) (fun _ h => h.elim) (right_cycle (by omega) (by omega) bc0 bc1) (by omega) (by omega)).mono ?_
        rintro e w3 ⟨rfl, hC, hB, _⟩
        have HS : Hid ((0 + 1 = 0 ∧ Cmp w3 b 50 false 0 (.slice none 0 0) (.slice none 0 0) 0) ∨ (1 ≤ 0 + 1 ∧ Coll (fun _ => False) w3 b b 50 0 (List.replicate (0 + 1) 0) (List.replicate (0 + 1) cy) (2 ^ (0 + 1) - 1))) := hid (.inr ⟨by omega, hC⟩)
        have HB := hid (below_some HB.out Hle.out hB)
        clear hC hB HC
        go_wp2_with fail
        go_roundw
        case rel => exact ⟨0 + 1, by go_num, by omega, HS, HB⟩
        case measure => simp [intOf] <;> omega
      · obtain ⟨j, rfl⟩ : ∃ j, k = j + 1 := ⟨k - 1, by omega⟩
        have HC := hid hC
        obtain ⟨hno, hcm, hnx⟩ := crew_next' ⟨j, by omega⟩
        simp only at hno hcm hnx
        have Hno := hid hno
        have Hcm := hid hcm
        have Hnx := hid hnx
        have Hlen : Hid ((List.replicate (j + 1) (0 : Int)).length ≤ 100 ∧ (List.replicate (j + 1) cy).length ≤ 100) := hid (by simp; omega)
        clear hC HS hno hcm hnx
        go_wp2_with fail
        refine (add_more (fun _ => False) b b 50 0 _ _ _ 0 _ cy 0 0 (j + 1) (by omega) (by omega) _ HC.out Hcm.out (right_cycle (by omega) (by omega) bc0 bc1) (by omega) (by omega) (by omega) (by omega) Hno.out Hlen.out).mono ?_
        rintro e w3 ⟨rfl, hC, hB, _⟩
        have HS : Hid ((j + 1 + 1 = 0 ∧ Cmp w3 b 50 false 0 (.slice none 0 0) (.slice none 0 0) 0) ∨ (1 ≤ j + 1 + 1 ∧ Coll (fun _ => False) w3 b b 50 0 (List.replicate (j + 1 + 1) 0) (List.replicate (j + 1 + 1) cy) (2 ^ (j + 1 + 1) - 1))) := hid (by
          right
          refine ⟨by omega, ?_⟩
          rw [Hnx.out] at hC
          rw [List.replicate_succ' (n := j + 1), List.replicate_succ' (n := j + 1)]
          exact hC)
        have HB := hid (below_some HB.out Hle.out hB)
        clear hC hB HC Hno Hcm Hnx Hlen
        go_wp2_with fail
        go_roundw
        case rel => exact ⟨j + 1 + 1, by go_num, by omega, HS, HB⟩
        case measure => simp [intOf]; omega
    · obtain rfl : k = n + 1 := by omega
      rcases HS.out with ⟨h0, _⟩ | ⟨_, hC⟩
      · omega
      have HC := hid hC
      clear hC HS
      go_wp2_with fail
      go_loopw [38] (fun vi wr => ∃ j : Nat, vi = .int .i64 j ∧ j ≤ n ∧ Hid (Coll (fun _ => False) wr b b 50 0 (List.replicate (n + j + 1) 0) (List.replicate (n + 1) cy ++ gs.take j) (2 ^ (n + j + 1) - 1)) ∧ Hid (w.grownBy wr none)) (fun vi _ => n - (intOf vi).toNat)
      case atStart => exact ⟨0, rfl, Nat.zero_le _, hid (by simpa using HC.out), HB⟩
      case round =>
        obtain ⟨j, rfl, hj, HC, HB⟩ := hrel
        by_cases hlt : j < n
        · rcases HI.out with ⟨_, _, _, hz⟩ | ⟨b', off, cap', e, hb', hcell⟩
          · exfalso; rw [hz] at hnl; simp at hnl; omega
          have e' : a = some ⟨b', off, none⟩ ∧ cap = cap' := by simpa using e
          obtain ⟨rfl, rfl⟩ := e'
          have hx0 := gr_cell HB.out (hcell j (by omega))
          have hxb := H8.out _ (nth_mem (l := gs) (i := j) (by omega))
          have htk : Hid (gs.take (j + 1) = gs.take j ++ [nth gs j]) := hid (take_nth _ _ (by omega))
          obtain ⟨x, hxe⟩ : ∃ x, Hid (nth gs j = x) := ⟨_, hid rfl⟩
          rw [hxe.out] at hx0 hxb htk
          obtain ⟨x0, x1⟩ := hxb
          obtain ⟨hno, hcm, hnx⟩ := crew_next' ⟨n + j, by omega⟩
          simp only at hno hcm hnx
          have Hno := hid hno
          have Hcm := hid hcm
          have Hnx := hid hnx
          have Hlen : Hid ((List.replicate (n + j + 1) (0 : Int)).length ≤ 100 ∧ (List.replicate (n + 1) cy ++ gs.take j).length ≤ 100) := hid (by simp; omega)
          clear hcell e hno hcm hnx
          go_wp2_with fail
          refine (add_more (fun _ => False) b b 50 0 _ _ _ 0 _ x 0 0 (n + j + 1) (by omega) (by omega) _ HC.out Hcm.out (right_cycle (by omega) (by omega) x0 x1) (by omega) (by omega) (by omega) (by omega) Hno.out Hlen.out).mono ?_
          rintro e w3 ⟨rfl, hC, hB, _⟩
          have HC5 : Hid (Coll (fun _ => False) w3 b b 50 0 (List.replicate (n + (j + 1) + 1) 0) (List.replicate (n + 1) cy ++ gs.take (j + 1)) (2 ^ (n + (j + 1) + 1) - 1)) := hid (by
            rw [Hnx.out] at hC
            rw [htk.out, ← List.append_assoc]
            have e1 : n + (j + 1) + 1 = n + j + 1 + 1 := by omega
            rw [e1, List.replicate_succ' (n := n + j + 1)]
            exact hC)
          have HB5 := hid (below_some HB.out Hle.out hB)
          clear hC hB HC HB Hno Hcm Hnx Hlen hx0
          go_wp2_with fail
          go_roundw
          case rel => ((repeat apply Exists.intro); exact ⟨⟨j + 1, by go_num, by omega, HC5, HB5⟩, rfl⟩)
          case measure => simp [intOf]; omega
        · obtain rfl : j = n := by omega
          have Htl := hid (tol_zeros (j + j))
          have Hmo : Hid (mostL (List.replicate (j + 1) cy ++ gs.take j) = cy) := hid (most_more j cy _ (by simp; omega))
          have Hne : Hid ((List.replicate (j + j + 1) (0 : Int)) ≠ [] ∧ (List.replicate (j + 1) cy ++ gs.take j) ≠ [] ∧ (List.replicate (j + j + 1) (0 : Int)).length ≤ 100 ∧ (List.replicate (j + 1) cy ++ gs.take j).length ≤ 100) := hid (by simp; omega)
          have Hrr : Hid (∀ x ∈ List.replicate (j + j + 1) (0 : Int), 0 ≤ x ∧ x ≤ 1048576) := hid (by intro x hx; have := List.eq_of_mem_replicate hx; omega)
          obtain ⟨c, hce⟩ : ∃ c, Hid (2 ^ (j + j + 1) - 1 = c) := ⟨_, hid rfl⟩
          rw [hce.out] at HC
          go_wp2_with fail
          refine (close_ok b b 50 0 _ _ _ 50 _ HC.out (by omega) (by omega) (by omega) Hne.out.1 Hne.out.2.1 Hne.out.2.2 Hrr.out).mono ?_
          rintro e v5 ⟨rfl, hcm, hg5⟩
          rw [Htl.out, Hmo.out]
          have HB5 : Hid (w.grownBy v5 none) := hid (gr_own HB.out hg5 Hle.out)
          clear hcm hg5
          go_wp2_with fail
          go_ret
          exact ⟨rfl, gr_below (gr_alloc HB5.out _) (Nat.le_refl _) (by simp)⟩
end Go.Proofs.Ytagoiidpcfjebaa
