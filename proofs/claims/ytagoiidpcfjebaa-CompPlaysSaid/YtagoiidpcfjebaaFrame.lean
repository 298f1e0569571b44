/- frame.Control: the bytes of a control frame; here only that they are made, or refused. -/
import Derived.Test.YtagoiidpcfjebaaBox
import Derived.Test.YtagoiidpcfjebaaRows
import Derived.WalkLawsBesides
import Derived.OwnWalk
import Derived.Laws.OwnMore
import Derived.Laws.BitsAllLaws
import Derived.Laws.ShiftsVar
import Derived.LoopN
namespace Go.Proofs.Ytagoiidpcfjebaa
open Go.RowKit Go.Lib

theorem Try.info_u8 : (Try.prog.info? 5).map (fun i => (i.zero, i.size, i.bytes)) = some (some (.int .u8 0), 1, 1) := by kernel_rfl

def AllU8 (xs : List Value) : Prop := ∀ x ∈ xs, ∃ c : Int, x = .int .u8 c ∧ 0 ≤ c ∧ c ≤ 255

/-- A slice of bytes of the call's own. -/
def OwnBytes (w : World) (base : Nat) (v : Value) (n : Nat) : Prop := ∃ xs, w.ownsRow base 5 1 v n xs ∧ AllU8 xs

set_option maxRecDepth 100000 in
set_option maxHeartbeats 800000 in
theorem put_any (base n k : Nat) (v : Value) (x : Int) (w : World) (hown : OwnBytes w base v n) (hb : base ≤ w.heap.size) (hk0 : k ≤ 8) (hn : n ≤ 1000) :
    Calls Try.prog 29 #[v, .int .u64 x, .int .i64 k] w fun e w' => ∃ v', e = .returned v' ∧ OwnBytes w' base v' (n + k) ∧ Below base w w' := by
  obtain ⟨i0, hi, hz0, hz1, hz2⟩ := info_parts Try.info_u8
  have Hown := hid hown; clear hown
  go_enter Try.func29, Try.ntmps29
  go_wp2_with fail
  go_loopw [0, 7] (fun bb i wr => ∃ (j : Nat), i = .int .i64 ((j : Int) - 1) ∧ j ≤ k ∧ OwnBytes wr base bb (n + (k - j)) ∧ Below base w wr) (fun _ i _ => (intOf i + 1).toNat)
  case atStart => exact ⟨k, rfl, Nat.le_refl _, by simpa using Hown.out, Below.refl _ _⟩
  case round =>
    obtain ⟨j, rfl, hj, hob, hB⟩ := hrel
    have Hob := hid hob; clear hob
    have hbr := Nat.le_trans hb hB.size
    by_cases hlt : 1 ≤ j
    · obtain ⟨xs, hx, hu⟩ := Hob.out
      have Hx := hid hx; have Hu := hid hu
      clear hx hu
      have hy0 : 0 ≤ x / 2 ^ (8 * (j - 1)) % 256 ∧ x / 2 ^ (8 * (j - 1)) % 256 ≤ 255 := by omega
      have Hy := hid hy0; clear hy0
      go_wp2_with (at_builtin; refine wpList_append_own _ rfl _ _ 48 rfl base 5 i0 (.int .u8 0) 1 1 Try.underlying48 hi hz0 hz1 hz2 rfl (by decide) _ _ _ rfl (Hx.out.alloc _) ⟨wr.heap.size, 0, none⟩ 1 1 [.int .u8 (x / 2 ^ (8 * (j - 1)) % 256)] rfl rfl (cell_one_new _ _ _) (ints_oneCell .u8 [x / 2 ^ (8 * (j - 1)) % 256]) (by unfold maxLen; omega) (by omega) (by simp; omega) ?_; intro v2 w2 hown2 hg2 _)
      have hu2 : OwnBytes w2 base v2 (n + (k - (j - 1))) := by
        refine ⟨_, by rw [show n + (k - (j - 1)) = n + (k - j) + 1 from by omega]; exact hown2, ?_⟩
        intro y hy
        rcases List.mem_append.1 hy with h | h
        · exact Hu.out y h
        · simp at h; exact ⟨_, h, Hy.out.1, Hy.out.2⟩
      have hB2 : Below base w w2 := by
        refine ((hB.alloc hbr _).grown hg2 (by simp; omega) ?_)
        intro q hq
        exact (Hx.out.lt q hq).1
      have Hu2 := hid hu2
      clear hown2 hg2 hu2
      go_wp2_with fail
      go_roundw
      case rel => exact ⟨j - 1, by rw [show ((j - 1 : Nat) : Int) = (j : Int) - 1 from by omega], by omega, Hu2.out, hB2⟩
      case measure => simp [intOf]; omega
    · have h0 : j = 0 := by omega
      subst h0
      clear hlt
      go_wp2_with fail
      go_ret
      exact ⟨_, rfl, Hob.out, hB⟩

/-- What a slice of bytes holds. -/
theorem OwnBytes.open {w : World} {base : Nat} {v : Value} {n : Nat} (h : OwnBytes w base v n) :
    (v = .slice none 0 0 ∧ n = 0) ∨ ∃ g cap, v = .slice (some ⟨g, 0, none⟩) n cap ∧ n ≤ cap ∧ cap ≤ maxLen ∧ base ≤ g ∧ g < w.heap.size ∧ ∀ i, i < n → ∃ c : Int, w.cell? ⟨g, i, none⟩ = some (.int .u8 c) ∧ 0 ≤ c ∧ c ≤ 255 := by
  obtain ⟨xs, ⟨hl, h⟩, hu⟩ := h
  rcases h with h | ⟨g, cap, cur, rfl, hg, hh, hn, hc, hs, ht⟩
  · exact .inl h
  · refine .inr ⟨g, cap, rfl, hn, hc, hg, lt_of_block hh, fun i hi => ?_⟩
    rw [Nat.mul_one] at ht hs hl
    have hi2 : i < cur.toList.length := by simp; omega
    have hx : cur.toList[i] ∈ xs := by
      rw [← ht]
      have : (cur.toList.take n)[i]'(by simp; omega) = cur.toList[i] := by simp
      rw [← this]; exact List.getElem_mem _
    obtain ⟨c, hc1, hc2⟩ := hu _ hx
    refine ⟨c, ?_, hc2⟩
    have : w.cell? ⟨g, i, none⟩ = cur[i]? := by simp [World.cell?, hh]
    rw [this, Array.getElem?_eq_getElem (by simpa using hi2)]
    simpa using hc1

set_option maxRecDepth 100000 in
set_option maxHeartbeats 800000 in
theorem sum_any (base n : Nat) (v : Value) (w : World) (hown : OwnBytes w base v n) (hn : n ≤ 2000) :
    Calls Try.prog 36 #[v] w fun e w' => (∃ s, e = .returned (.int .u32 s)) ∧ w = w' := by
  rcases hown.open with ⟨rfl, rfl⟩ | ⟨g, cap, rfl, hnc, hcm, _, _, hcell⟩
  · clear hown
    go_enter Try.func36, Try.ntmps36
    go_wp2_with fail
    refine wp_loop_rounds 1 ?_
    rw [rounds_succ]
    go_wp2_with fail
    go_ret
    exact ⟨⟨_, rfl⟩, rfl⟩
  · have Hcell := hid hcell
    clear hown hcell
    go_enter Try.func36, Try.ntmps36
    go_wp2_with fail
    go_loop [3, 9] (fun r i => ∃ (q : Int) (k : Nat), r = .int .u32 q ∧ i = .int .i64 k ∧ k ≤ n) (fun _ i => n - (intOf i).toNat)
    case atStart => exact ⟨_, 0, rfl, rfl, Nat.zero_le _⟩
    case round =>
      obtain ⟨q, k, rfl, rfl, hk⟩ := hrel
      by_cases hlt : k < n
      · obtain ⟨c, hc, c0, c1⟩ := Hcell.out k hlt
        go_wp2_with fail
        go_loop [3, 17] (fun r i => ∃ (q2 : Int) (m : Nat), r = .int .u32 q2 ∧ i = .int .i64 m ∧ m ≤ 8) (fun _ i => 8 - (intOf i).toNat)
        case atStart => exact ⟨_, 0, rfl, rfl, by omega⟩
        case round =>
          obtain ⟨q2, m, rfl, rfl, hm⟩ := hrel
          by_cases hm8 : m < 8
          · go_wp2_with fail
            all_goals go_round
            all_goals first
              | (case rel => exact ⟨_, m + 1, rfl, by go_num, by omega⟩)
              | (case measure => simp [intOf]; omega)
          · have hm9 : 8 ≤ m := by omega
            clear hm8
            go_wp2_with fail
            go_round
            case rel => exact ⟨_, k + 1, rfl, by go_num, by omega⟩
            case measure => simp [intOf]; omega
      · go_wp2_with fail
        go_ret
        exact ⟨⟨_, rfl⟩, rfl⟩

theorem put_at (base n k : Nat) (kk : Int) (v : Value) (x : Int) (w : World) (hown : OwnBytes w base v n) (hb : base ≤ w.heap.size) (hk : Hid (kk = (k : Int))) (hk0 : k ≤ 8) (hn : n ≤ 1000) :
    Calls Try.prog 29 #[v, .int .u64 x, .int .i64 kk] w fun e w' => ∃ v', e = .returned v' ∧ OwnBytes w' base v' (n + k) ∧ Below base w w' := by
  have h := hk.out
  subst h
  exact put_any base n k v x w hown hb hk0 hn

/-- put behind bytes: their sum. -/
theorem sealed_any (base n : Nat) (v : Value) (w : World) (hown : OwnBytes w base v n) (hb : base ≤ w.heap.size) (hn : n ≤ 1000) :
    Calls Try.prog 30 #[v] w fun e w' => ∃ v', e = .returned v' ∧ OwnBytes w' base v' (n + 4) ∧ Below base w w' := by
  have Hown := hid hown; clear hown
  go_enter Try.func30, Try.ntmps30
  go_wp2_with fail
  refine (sum_any base n v _ Hown.out (by omega)).mono ?_
  rintro e w' ⟨⟨s, rfl⟩, rfl⟩
  go_wp2_with fail
  refine (put_at base n 4 4 v _ _ Hown.out hb (hid rfl) (by omega) hn).mono ?_
  rintro e w' ⟨v', rfl, ho, hB⟩
  have Ho := hid ho; clear ho
  go_wp2_with fail
  go_ret
  exact ⟨v', rfl, Ho.out, hB⟩

def inB (n lo hi : Int) : Bool := decide (lo ≤ n ∧ n ≤ hi)
theorem inB_iff {n lo hi : Int} : inB n lo hi = true ↔ lo ≤ n ∧ n ≤ hi := by simp [inB]

theorem within_at (n lo hi : Int) (b : Bool) (w : World) (hb : Hid (inB n lo hi = b)) :
    Calls Try.prog 35 #[.int .i64 n, .int .i64 lo, .int .i64 hi] w fun e w' => e = .returned (.bool b) ∧ w = w' := by
  have h := hb.out
  subst h
  by_cases h0 : lo ≤ n <;> by_cases h1 : n ≤ hi
  all_goals
    have hR : inB n lo hi = decide (lo ≤ n ∧ n ≤ hi) := rfl
    simp only [h0, h1, and_true, and_false, decide_true, decide_false, and_self] at hR
    rw [hR]
    clear hR hb
    go_enter Try.func35, Try.ntmps35
    go_wp2
    go_ret
    exact ⟨by simp_all, rfl⟩

/-- Is a control frame right? -/
def rightB (k fr cy cr cl : Int) : Bool := (k == 1 || k == 2) && inB fr 0 7 && inB cy 0 1125899906842624 && decide (cr < 64) && inB cl 0 1048576

abbrev ctl (k fr cy cr cl : Int) : Value := .agg #[.int .i64 k, .int .i64 fr, .int .i64 cy, .int .u32 cr, .int .i64 cl]

set_option maxHeartbeats 1600000 in
theorem right_any (k fr cy cr cl : Int) (w : World) :
    Calls Try.prog 28 #[ctl k fr cy cr cl] w fun e w' => e = .returned (.bool (rightB k fr cy cr cl)) ∧ w.grownBy w' none := by
  obtain ⟨r, hr⟩ : ∃ r, Hid (rightB k fr cy cr cl = r) := ⟨_, hid rfl⟩
  rw [hr.out]
  have Hr := hr.out
  unfold rightB at Hr
  clear hr
  by_cases hk1 : k = 1 ∨ k = 2
  · generalize hf : inB fr 0 7 = fb at *
    generalize hc : inB cy 0 1125899906842624 = cb at *
    generalize hl : inB cl 0 1048576 = lb at *
    have Hf := hid hf; have Hc := hid hc; have Hl := hid hl
    clear hf hc hl
    have hkk : (k == 1 || k == 2) = true := by simpa using hk1
    rw [hkk] at Hr
    by_cases hcr : cr < 64
    all_goals
      simp only [hcr, decide_true, decide_false] at Hr
      rcases hk1 with rfl | rfl
      all_goals
        clear hkk
        cases fb <;> cases cb <;> cases lb <;> simp at Hr <;> subst Hr
        all_goals
          go_enter Try.func28, Try.ntmps28
          go_wp2_with (first
            | (go_at_call 35; ((with_reducible refine (within_at fr 0 7 _ _ Hf).mono ?_); rintro e w' ⟨rfl, rfl⟩))
            | (go_at_call 35; ((with_reducible refine (within_at cy 0 1125899906842624 _ _ Hc).mono ?_); rintro e w' ⟨rfl, rfl⟩))
            | (go_at_call 35; ((with_reducible refine (within_at cl 0 1048576 _ _ Hl).mono ?_); rintro e w' ⟨rfl, rfl⟩)))
          go_ret
          exact ⟨rfl, gr_alloc (gr_refl w none) _⟩
  · have h1 : (k == 1) = false := by simp; omega
    have h2 : (k == 2) = false := by simp; omega
    rw [h1, h2] at Hr
    simp at Hr
    subst Hr
    clear hk1
    go_enter Try.func28, Try.ntmps28
    go_wp2_with fail
    go_ret
    exact ⟨rfl, gr_alloc (gr_refl w none) _⟩
end Go.Proofs.Ytagoiidpcfjebaa
