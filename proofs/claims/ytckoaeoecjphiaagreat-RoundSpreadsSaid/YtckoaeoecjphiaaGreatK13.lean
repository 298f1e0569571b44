/- Lemmas: frame.Control: the bytes of a control frame; here only that they are made, or refused. frame.Control: bytes are made of a right frame; another is refused. -/
import Derived.Test.YtckoaeoecjphiaaGreatK01
import Derived.Test.YtckoaeoecjphiaaGreatRows
import Derived.WalkLawsBesides
import Derived.OwnWalk
import Derived.Laws.OwnMore
import Derived.Laws.BitsAllLaws
import Derived.Laws.ShiftsVar
import Derived.LoopN

/- frame.Control: the bytes of a control frame; here only that they are made, or refused. -/
namespace Go.Proofs.YtckoaeoecjphiaaGreat
open Go.RowKit Go.Lib

theorem Tryz.info_u8 : (Tryz.prog.info? 5).map (fun i => (i.zero, i.size, i.bytes)) = some (some (.int .u8 0), 1, 1) := by kernel_rfl

def AllU8 (xs : List Value) : Prop := ∀ x ∈ xs, ∃ c : Int, x = .int .u8 c ∧ 0 ≤ c ∧ c ≤ 255

/-- A slice of bytes of the call's own. -/
def OwnBytes (w : World) (base : Nat) (v : Value) (n : Nat) : Prop := ∃ xs, w.ownsRow base 5 1 v n xs ∧ AllU8 xs

set_option maxRecDepth 100000 in
set_option maxHeartbeats 800000 in
theorem put_any (base n k : Nat) (v : Value) (x : Int) (w : World) (hown : OwnBytes w base v n) (hb : base ≤ w.heap.size) (hk0 : k ≤ 8) (hn : n ≤ 1000) :
    Calls Tryz.prog 155 #[v, .int .u64 x, .int .i64 k] w fun e w' => ∃ v', e = .returned v' ∧ OwnBytes w' base v' (n + k) ∧ Below base w w' := by
  obtain ⟨i0, hi, hz0, hz1, hz2⟩ := info_parts Tryz.info_u8
  have Hown := hid hown; clear hown
  go_enter Tryz.func155, Tryz.ntmps155
  go_wp2_with fail
  go_loopw [0, 7] (fun bb i wr => ∃ (j : Nat), i = .int .i64 ((j : Int) - 1) ∧ j ≤ k ∧ OwnBytes wr base bb (n + (k - j)) ∧ Below base w wr) (fun _ i _ => (intOf i + 1).toNat)
  case atStart => exact ⟨k, rfl, Nat.le_refl _, by simpa using Hown.out, Below.refl _ _⟩
  case round =>
    obtain ⟨j, rfl, hj, hob, hB⟩ := hrel
    have Hob := hid hob; clear hob
    have hbr := Nat.le_trans hb hB.size
    by_cases hlt : 1 ≤ j
    · obtain ⟨xs, hx, hu⟩ := Hob.out
      have Hx := hid hx; have Hu := hid hu
      clear hx hu
      have hy0 : 0 ≤ x / 2 ^ (8 * (j - 1)) % 256 ∧ x / 2 ^ (8 * (j - 1)) % 256 ≤ 255 := by omega
      have Hy := hid hy0; clear hy0
      go_wp2_with (at_builtin; refine wpList_append_own _ rfl _ _ 200 rfl base 5 i0 (.int .u8 0) 1 1 Tryz.underlying200 hi hz0 hz1 hz2 rfl (by decide) _ _ _ rfl (Hx.out.alloc _) ⟨wr.heap.size, 0, none⟩ 1 1 [.int .u8 (x / 2 ^ (8 * (j - 1)) % 256)] rfl rfl (cell_one_new _ _ _) (ints_oneCell .u8 [x / 2 ^ (8 * (j - 1)) % 256]) (by unfold maxLen; omega) (by omega) (by simp; omega) ?_; intro v2 w2 hown2 hg2 _)
      have hu2 : OwnBytes w2 base v2 (n + (k - (j - 1))) := by
        refine ⟨_, by rw [show n + (k - (j - 1)) = n + (k - j) + 1 from by omega]; exact hown2, ?_⟩
        intro y hy
        rcases List.mem_append.1 hy with h | h
        · exact Hu.out y h
        · simp at h; exact ⟨_, h, Hy.out.1, Hy.out.2⟩
      have hB2 : Below base w w2 := by
        refine ((hB.alloc hbr _).grown hg2 (by simp; omega) ?_)
        intro q hq
        exact (Hx.out.lt q hq).1
      have Hu2 := hid hu2
      clear hown2 hg2 hu2
      go_wp2_with fail
      go_roundw
      case rel => exact ⟨j - 1, by rw [show ((j - 1 : Nat) : Int) = (j : Int) - 1 from by omega], by omega, Hu2.out, hB2⟩
      case measure => simp [intOf]; omega
    · have h0 : j = 0 := by omega
      subst h0
      clear hlt
      go_wp2_with fail
      go_ret
      exact ⟨_, rfl, Hob.out, hB⟩

/-- What a slice of bytes holds. -/
theorem OwnBytes.open {w : World} {base : Nat} {v : Value} {n : Nat} (h : OwnBytes w base v n) :
    (v = .slice none 0 0 ∧ n = 0) ∨ ∃ g cap, v = .slice (some ⟨g, 0, none⟩) n cap ∧ n ≤ cap ∧ cap ≤ maxLen ∧ base ≤ g ∧ g < w.heap.size ∧ ∀ i, i < n → ∃ c : Int, w.cell? ⟨g, i, none⟩ = some (.int .u8 c) ∧ 0 ≤ c ∧ c ≤ 255 := by
  obtain ⟨xs, ⟨hl, h⟩, hu⟩ := h
  rcases h with h | ⟨g, cap, cur, rfl, hg, hh, hn, hc, hs, ht⟩
  · exact .inl h
  · refine .inr ⟨g, cap, rfl, hn, hc, hg, lt_of_block hh, fun i hi => ?_⟩
    rw [Nat.mul_one] at ht hs hl
    have hi2 : i < cur.toList.length := by simp; omega
    have hx : cur.toList[i] ∈ xs := by
      rw [← ht]
      have : (cur.toList.take n)[i]'(by simp; omega) = cur.toList[i] := by simp
      rw [← this]; exact List.getElem_mem _
    obtain ⟨c, hc1, hc2⟩ := hu _ hx
    refine ⟨c, ?_, hc2⟩
    have : w.cell? ⟨g, i, none⟩ = cur[i]? := by simp [World.cell?, hh]
    rw [this, Array.getElem?_eq_getElem (by simpa using hi2)]
    simpa using hc1

set_option maxRecDepth 100000 in
set_option maxHeartbeats 800000 in
theorem sum_any (base n : Nat) (v : Value) (w : World) (hown : OwnBytes w base v n) (hn : n ≤ 2000) :
    Calls Tryz.prog 166 #[v] w fun e w' => (∃ s, e = .returned (.int .u32 s)) ∧ w = w' := by
  rcases hown.open with ⟨rfl, rfl⟩ | ⟨g, cap, rfl, hnc, hcm, _, _, hcell⟩
  · clear hown
    go_enter Tryz.func166, Tryz.ntmps166
    go_wp2_with fail
    refine wp_loop_rounds 1 ?_
    rw [rounds_succ]
    go_wp2_with fail
    go_ret
    exact ⟨⟨_, rfl⟩, rfl⟩
  · have Hcell := hid hcell
    clear hown hcell
    go_enter Tryz.func166, Tryz.ntmps166
    go_wp2_with fail
    go_loop [3, 9] (fun r i => ∃ (q : Int) (k : Nat), r = .int .u32 q ∧ i = .int .i64 k ∧ k ≤ n) (fun _ i => n - (intOf i).toNat)
    case atStart => exact ⟨_, 0, rfl, rfl, Nat.zero_le _⟩
    case round =>
      obtain ⟨q, k, rfl, rfl, hk⟩ := hrel
      by_cases hlt : k < n
      · obtain ⟨c, hc, c0, c1⟩ := Hcell.out k hlt
        go_wp2_with fail
        go_loop [3, 17] (fun r i => ∃ (q2 : Int) (m : Nat), r = .int .u32 q2 ∧ i = .int .i64 m ∧ m ≤ 8) (fun _ i => 8 - (intOf i).toNat)
        case atStart => exact ⟨_, 0, rfl, rfl, by omega⟩
        case round =>
          obtain ⟨q2, m, rfl, rfl, hm⟩ := hrel
          by_cases hm8 : m < 8
          · go_wp2_with fail
            all_goals go_round
            all_goals first
              | (case rel => exact ⟨_, m + 1, rfl, by go_num, by omega⟩)
              | (case measure => simp [intOf]; omega)
          · have hm9 : 8 ≤ m := by omega
            clear hm8
            go_wp2_with fail
            go_round
            case rel => exact ⟨_, k + 1, rfl, by go_num, by omega⟩
            case measure => simp [intOf]; omega
      · go_wp2_with fail
        go_ret
        exact ⟨⟨_, rfl⟩, rfl⟩

theorem put_at (base n k : Nat) (kk : Int) (v : Value) (x : Int) (w : World) (hown : OwnBytes w base v n) (hb : base ≤ w.heap.size) (hk : Hid (kk = (k : Int))) (hk0 : k ≤ 8) (hn : n ≤ 1000) :
    Calls Tryz.prog 155 #[v, .int .u64 x, .int .i64 kk] w fun e w' => ∃ v', e = .returned v' ∧ OwnBytes w' base v' (n + k) ∧ Below base w w' := by
  have h := hk.out
  subst h
  exact put_any base n k v x w hown hb hk0 hn

/-- put behind bytes: their sum. -/
theorem sealed_any (base n : Nat) (v : Value) (w : World) (hown : OwnBytes w base v n) (hb : base ≤ w.heap.size) (hn : n ≤ 1000) :
    Calls Tryz.prog 156 #[v] w fun e w' => ∃ v', e = .returned v' ∧ OwnBytes w' base v' (n + 4) ∧ Below base w w' := by
  have Hown := hid hown; clear hown
  go_enter Tryz.func156, Tryz.ntmps156
  go_wp2_with fail
  refine (sum_any base n v _ Hown.out (by omega)).mono ?_
  rintro e w' ⟨⟨s, rfl⟩, rfl⟩
  go_wp2_with fail
  refine (put_at base n 4 4 v _ _ Hown.out hb (hid rfl) (by omega) hn).mono ?_
  rintro e w' ⟨v', rfl, ho, hB⟩
  have Ho := hid ho; clear ho
  go_wp2_with fail
  go_ret
  exact ⟨v', rfl, Ho.out, hB⟩

def inB (n lo hi : Int) : Bool := decide (lo ≤ n ∧ n ≤ hi)
theorem inB_iff {n lo hi : Int} : inB n lo hi = true ↔ lo ≤ n ∧ n ≤ hi := by simp [inB]

theorem within_at (n lo hi : Int) (b : Bool) (w : World) (hb : Hid (inB n lo hi = b)) :
    Calls Tryz.prog 165 #[.int .i64 n, .int .i64 lo, .int .i64 hi] w fun e w' => e = .returned (.bool b) ∧ w = w' := by
  have h := hb.out
  subst h
  by_cases h0 : lo ≤ n <;> by_cases h1 : n ≤ hi
  all_goals
    have hR : inB n lo hi = decide (lo ≤ n ∧ n ≤ hi) := rfl
    simp only [h0, h1, and_true, and_false, decide_true, decide_false, and_self] at hR
    rw [hR]
    clear hR hb
    go_enter Tryz.func165, Tryz.ntmps165
    go_wp2
    go_ret
    exact ⟨by simp_all, rfl⟩

/-- Is a control frame right? -/
def rightB (k fr cy cr cl : Int) : Bool := (k == 1 || k == 2) && inB fr 0 7 && inB cy 0 1125899906842624 && decide (cr < 64) && inB cl 0 1048576

abbrev ctl (k fr cy cr cl : Int) : Value := .agg #[.int .i64 k, .int .i64 fr, .int .i64 cy, .int .u32 cr, .int .i64 cl]

set_option maxHeartbeats 1600000 in
theorem right_any (k fr cy cr cl : Int) (w : World) :
    Calls Tryz.prog 154 #[ctl k fr cy cr cl] w fun e w' => e = .returned (.bool (rightB k fr cy cr cl)) ∧ w.grownBy w' none := by
  obtain ⟨r, hr⟩ : ∃ r, Hid (rightB k fr cy cr cl = r) := ⟨_, hid rfl⟩
  rw [hr.out]
  have Hr := hr.out
  unfold rightB at Hr
  clear hr
  by_cases hk1 : k = 1 ∨ k = 2
  · generalize hf : inB fr 0 7 = fb at *
    generalize hc : inB cy 0 1125899906842624 = cb at *
    generalize hl : inB cl 0 1048576 = lb at *
    have Hf := hid hf; have Hc := hid hc; have Hl := hid hl
    clear hf hc hl
    have hkk : (k == 1 || k == 2) = true := by simpa using hk1
    rw [hkk] at Hr
    by_cases hcr : cr < 64
    all_goals
      simp only [hcr, decide_true, decide_false] at Hr
      rcases hk1 with rfl | rfl
      all_goals
        clear hkk
        cases fb <;> cases cb <;> cases lb <;> simp at Hr <;> subst Hr
        all_goals
          go_enter Tryz.func154, Tryz.ntmps154
          go_wp2_with (first
            | (go_at_call 165; ((with_reducible refine (within_at fr 0 7 _ _ Hf).mono ?_); rintro e w' ⟨rfl, rfl⟩))
            | (go_at_call 165; ((with_reducible refine (within_at cy 0 1125899906842624 _ _ Hc).mono ?_); rintro e w' ⟨rfl, rfl⟩))
            | (go_at_call 165; ((with_reducible refine (within_at cl 0 1048576 _ _ Hl).mono ?_); rintro e w' ⟨rfl, rfl⟩)))
          go_ret
          exact ⟨rfl, gr_alloc (gr_refl w none) _⟩
  · have h1 : (k == 1) = false := by simp; omega
    have h2 : (k == 2) = false := by simp; omega
    rw [h1, h2] at Hr
    simp at Hr
    subst Hr
    clear hk1
    go_enter Tryz.func154, Tryz.ntmps154
    go_wp2_with fail
    go_ret
    exact ⟨rfl, gr_alloc (gr_refl w none) _⟩
end Go.Proofs.YtckoaeoecjphiaaGreat

/- frame.Control: bytes are made of a right frame; another is refused. -/
namespace Go.Proofs.YtckoaeoecjphiaaGreat
open Go.RowKit Go.Lib

theorem control_bad (k fr cy cr cl : Int) (w : World) (h : rightB k fr cy cr cl = false) :
    Calls Tryz.prog 130 #[ctl k fr cy cr cl] w fun e w' => e = .returned (.tuple #[.slice none 0 0, .int .i64 1]) ∧ w.grownBy w' none := by
  have H := hid h; clear h
  go_enter Tryz.func130, Tryz.ntmps130
  go_wp2_with fail
  refine (right_any k fr cy cr cl _).mono ?_
  rintro e w' ⟨rfl, hg⟩
  rw [H.out]
  go_wp2_with fail
  go_ret2
  exact ⟨rfl, bx_gr hg⟩

theorem OwnBytes.made4 (w : World) (base : Nat) (hb : base ≤ w.heap.size) (a b c d : Int) (ha : 0 ≤ a ∧ a ≤ 255) (hb' : 0 ≤ b ∧ b ≤ 255) (hc : 0 ≤ c ∧ c ≤ 255) (hd : 0 ≤ d ∧ d ≤ 255) :
    OwnBytes (w.alloc (.cells #[.int .u8 a, .int .u8 b, .int .u8 c, .int .u8 d] 5)) base (.slice (some ⟨w.heap.size, 0, none⟩) 4 4) 4 := by
  refine ⟨[.int .u8 a, .int .u8 b, .int .u8 c, .int .u8 d], ⟨rfl, .inr ⟨w.heap.size, 4, _, rfl, hb, heap_alloc_new w _, by omega, by unfold maxLen; omega, rfl, rfl⟩⟩, ?_⟩
  intro x hx
  simp at hx
  rcases hx with rfl | rfl | rfl | rfl
  · exact ⟨a, rfl, ha⟩
  · exact ⟨b, rfl, hb'⟩
  · exact ⟨c, rfl, hc⟩
  · exact ⟨d, rfl, hd⟩

set_option maxHeartbeats 1000000 in
theorem control_ok (k fr cy cr cl : Int) (w : World) (h : rightB k fr cy cr cl = true) :
    Calls Tryz.prog 130 #[ctl k fr cy cr cl] w fun e w' => (∃ v, e = .returned (.tuple #[v, .int .i64 0])) ∧ w.grownBy w' none := by
  have H := hid h; clear h
  go_enter Tryz.func130, Tryz.ntmps130
  go_wp2_with fail
  refine (right_any k fr cy cr cl _).mono ?_
  rintro e w1 ⟨rfl, hg⟩
  rw [H.out]
  have c0 : w1.cell? ⟨w.heap.size, 0, none⟩ = some (.int .i64 k) := bx_cell hg 0 _ rfl
  have c1 : w1.cell? ⟨w.heap.size, 1, none⟩ = some (.int .i64 fr) := bx_cell hg 1 _ rfl
  have G : w1.grownBy (w1.alloc (.cells #[.int .u8 137, .int .u8 29, .int .u8 (k % 256), .int .u8 (fr % 256)] 5)) none := World.grownBy_alloc _ _ _
  have d2 : (w1.alloc (.cells #[.int .u8 137, .int .u8 29, .int .u8 (k % 256), .int .u8 (fr % 256)] 5)).cell? ⟨w.heap.size, 2, none⟩ = some (.int .i64 cy) := gr_cell G (bx_cell hg 2 _ rfl)
  have d3 := hid (gr_cell G (show w1.cell? ⟨w.heap.size, 3, none⟩ = some (.int .u32 cr) from bx_cell hg 3 _ rfl))
  have d4 := hid (gr_cell G (show w1.cell? ⟨w.heap.size, 4, none⟩ = some (.int .i64 cl) from bx_cell hg 4 _ rfl))
  have hO := hid (OwnBytes.made4 w1 w1.heap.size (Nat.le_refl _) 137 29 (k % 256) (fr % 256) (by omega) (by omega) (by omega) (by omega))
  have hG0 : Hid (w.grownBy w1 none) := hid (bx_gr hg)
  have hlt : w.heap.size < w1.heap.size := by have := hg.size; simp at this; omega
  clear G hg
  go_wp2_with fail
  refine (put_any w1.heap.size 4 8 _ _ _ hO.out (by simp) (by omega) (by omega)).mono ?_
  rintro e w2 ⟨v2, rfl, hO2, B2⟩
  have HO2 := hid hO2
  have e3 : w2.cell? ⟨w.heap.size, 3, none⟩ = some (.int .u32 cr) := (B2.cell (p := ⟨w.heap.size, 3, none⟩) hlt).trans d3.out
  have e4 := hid ((B2.cell (p := ⟨w.heap.size, 4, none⟩) hlt).trans d4.out)
  have HB2 := hid (((Below.refl w1.heap.size w1).alloc (Nat.le_refl _) _).trans B2)
  clear hO2 B2 d2 d3 d4
  go_wp2_with fail
  refine (put_any w1.heap.size 12 4 _ _ _ HO2.out HB2.out.size (by omega) (by omega)).mono ?_
  rintro e w3 ⟨v3, rfl, hO3, B3⟩
  have HO3 := hid hO3
  have f4 : w3.cell? ⟨w.heap.size, 4, none⟩ = some (.int .i64 cl) := (B3.cell (p := ⟨w.heap.size, 4, none⟩) hlt).trans e4.out
  have HB3 := hid (HB2.out.trans B3)
  clear hO3 B3 e3 e4
  go_wp2_with fail
  refine (put_any w1.heap.size 16 8 _ _ _ HO3.out HB3.out.size (by omega) (by omega)).mono ?_
  rintro e w4 ⟨v4, rfl, hO4, B4⟩
  have HO4 := hid hO4
  have HB4 := hid (HB3.out.trans B4)
  clear hO4 B4 f4
  go_wp2_with fail
  refine (put_any w1.heap.size 24 6 _ _ _ HO4.out HB4.out.size (by omega) (by omega)).mono ?_
  rintro e w5 ⟨v5, rfl, hO5, B5⟩
  have HO5 := hid hO5
  have HB5 := hid (HB4.out.trans B5)
  clear hO5 B5
  go_wp2_with fail
  refine (sealed_any w1.heap.size 30 _ _ HO5.out HB5.out.size (by omega)).mono ?_
  rintro e w6 ⟨v6, rfl, hO6, B6⟩
  have HB6 := hid (HB5.out.trans B6)
  clear hO6 B6
  go_wp2_with fail
  go_ret2
  exact ⟨⟨_, rfl⟩, gr_trans hG0.out (below_gr HB6.out)⟩
end Go.Proofs.YtckoaeoecjphiaaGreat
