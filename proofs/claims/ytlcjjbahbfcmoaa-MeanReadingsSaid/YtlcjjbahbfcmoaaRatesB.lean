/- mean.Rates. -/
import Derived.Test.YtlcjjbahbfcmoaaRates
namespace Go.Proofs.Ytlcjjbahbfcmoaa
open Go.RowKit Go.Lib

theorem Try.info_f64 : (Try.prog.info? 31).map (fun i => (i.zero, i.size, i.bytes)) = some (some (.float .f64 0), 1, 8) := by kernel_rfl

/-- A number that is neither infinite nor none. -/
def goodB (b : Nat) : Bool := !nanB b && (decide (1 < kindOf b) && decide (kindOf b < 8))
def Words (l : List Nat) : Prop := ∀ b ∈ l, b < 18446744073709551616

/-- The mean of the good ones. -/
def rateW (bs : List Nat) : Nat := if (bs.filter goodB).length = 0 then 0 else oneOf (floatBits .quo .f64 (sumW (bs.filter goodB)) (floatOfInt .f64 ((bs.filter goodB).length : Nat)))

theorem own_flts {w : World} {base e : Nat} {v : Value} {bs : List Nat} (h : w.ownsRow base e 1 v bs.length (bs.map (Value.float .f64))) : Flts w.heap.size w v bs := by
  rcases h.2 with ⟨rfl, h0⟩ | ⟨g, cap, cur, rfl, _, hh, hrest⟩
  · exact .inl ⟨none, 0, rfl, List.eq_nil_of_length_eq_zero h0⟩
  · refine .inr ⟨g, 0, cap, rfl, lt_of_block hh, fun j hj => ?_⟩
    rw [Nat.zero_add, h.cellAt j (by omega)]
    simp [hj]

set_option maxRecDepth 100000 in
set_option maxHeartbeats 2000000 in
theorem rates_any (a : Option Addr) (len cap n₀ : Nat) (bs : List Nat) (hreach : bs.length * 8 ≤ 140737488351232) (hw : Words bs) (w : World) (hn₀ : n₀ ≤ w.heap.size) (hI : Flts n₀ w (.slice a len cap) bs) :
    Calls Try.prog 18 #[.slice a len cap] w fun e w' => e = .returned (.tuple #[.float .f64 (rateW bs), .int .i64 (bs.filter goodB).length]) ∧ w.grownBy w' none := by
  obtain ⟨i0, hi, hz0, hz1, hz2⟩ := info_parts Try.info_f64
  have hl : len = bs.length := by
    rcases hI with ⟨a', cap', e, rfl⟩ | ⟨b, off, cap', e, _⟩
    · cases e; rfl
    · cases e; rfl
  subst hl
  obtain ⟨r, hr⟩ : ∃ r, Hid (rateW bs = r) := ⟨_, hid rfl⟩
  obtain ⟨c, hc⟩ : ∃ c : Nat, Hid ((bs.filter goodB).length = c) := ⟨_, hid rfl⟩
  rw [hr.out, hc.out]
  have HI := hid hI
  have Hw := hid hw
  clear hI hw
  go_enter Try.func18, Try.ntmps18
  go_wp2_with fail
  go_loopw [4, 10] (fun v i wr => ∃ k : Nat, i = .int .i64 k ∧ k ≤ bs.length ∧ wr.ownsRow w.heap.size 31 1 v ((bs.take k).filter goodB).length (((bs.take k).filter goodB).map (Value.float .f64)) ∧ Below w.heap.size w wr) (fun _ i _ => bs.length - (intOf i).toNat)
  case atStart => exact ⟨0, rfl, Nat.zero_le _, World.ownsRow_nil _ _ _ _, Below.refl _ _⟩
  case round =>
    obtain ⟨k, rfl, hk, hown, hB⟩ := hrel
    have Hown := hid hown; clear hown
    by_cases hlt : k < bs.length
    · rcases HI.out with ⟨_, _, _, rfl⟩ | ⟨b, off, cap', e, hbn, hcl⟩
      · simp at hlt
      cases e
      have hck := (hB.mono hn₀).cell (p := ⟨b, off + k, none⟩) hbn
      rw [hcl k hlt] at hck
      have hx64 := hid (Hw.out bs[k] (List.getElem_mem hlt))
      have hxk : bs[k]?.getD 0 = bs[k] := by simp [hlt]
      have ht := hid (show bs.take (k + 1) = bs.take k ++ [bs[k]] from by rw [List.take_succ_eq_append_getElem hlt])
      rw [hxk] at hck
      clear hxk hcl
      have hlk := hid (List.length_filter_le goodB (bs.take k))
      generalize bs[k] = x at *
      cases hn : nanB x
      · have Hn := hid hn; clear hn
        by_cases hg : 1 < kindOf x ∧ kindOf x < 8
        · obtain ⟨hg0, hg1⟩ := hg
          have hgood : goodB x = true := by simp [goodB, Hn.out, hg0, hg1]
          have hf : Hid ((bs.take (k + 1)).filter goodB = (bs.take k).filter goodB ++ [x]) := hid (by rw [ht.out, List.filter_append]; simp [hgood])
          clear hgood
          obtain ⟨q, hq⟩ : ∃ q, Hid (kindOf x = q) := ⟨_, hid rfl⟩
          rw [hq.out] at hg0 hg1
          have hle : ((bs.take k).filter goodB).length ≤ k := by have := hlk.out; rw [List.length_take] at this; omega
          go_wp2_with fail
          refine (kind_num x hx64 _ Hn).mono ?_
          rintro e w' ⟨rfl, rfl⟩
          rw [hq.out]
          go_wp2_with (at_builtin; refine wpList_append_own _ rfl _ _ 30 rfl w.heap.size 31 i0 (.float .f64 0) 1 8 Try.underlying30 hi hz0 hz1 hz2 rfl (by decide) _ _ _ rfl (Hown.out.alloc _) ⟨wr.heap.size, 0, none⟩ 1 1 [.float .f64 x] rfl rfl (cell_one_new _ _ _) (by simp [Value.oneCell']) (by unfold maxLen; omega) (by omega) (by have := hB.size; simp; omega) ?_; intro v2 w2 hown2 hg2 _)
          have hown3 : w2.ownsRow w.heap.size 31 1 v2 ((bs.take (k + 1)).filter goodB).length (((bs.take (k + 1)).filter goodB).map (Value.float .f64)) := by rw [hf.out]; simpa using hown2
          have hB2 : Below w.heap.size w w2 := (hB.alloc hB.size _).grown hg2 (by have := hB.size; simp; omega) (fun q hq => (Hown.out.lt q hq).1)
          have Hown3 := hid hown3
          clear hown2 hown3 hg2
          go_wp2_with fail
          go_roundw
          case rel => exact ⟨k + 1, by go_num, by omega, Hown3.out, hB2⟩
          case measure => simp [intOf]; omega
        · have hgood : goodB x = false := by
            simp only [goodB, Hn.out, Bool.not_false, Bool.true_and, Bool.and_eq_false_iff, decide_eq_false_iff_not]
            omega
          have hf : Hid ((bs.take (k + 1)).filter goodB = (bs.take k).filter goodB) := hid (by rw [ht.out, List.filter_append]; simp [hgood])
          clear hgood
          obtain ⟨q, hq⟩ : ∃ q, Hid (kindOf x = q) := ⟨_, hid rfl⟩
          rw [hq.out] at hg
          have hown3 : Hid (wr.ownsRow w.heap.size 31 1 _ ((bs.take (k + 1)).filter goodB).length (((bs.take (k + 1)).filter goodB).map (Value.float .f64))) := hid (by rw [hf.out]; exact Hown.out)
          by_cases hq1 : 1 < q
          · have hq8 : 8 ≤ q := by omega
            clear hg
            go_wp2_with fail
            refine (kind_num x hx64 _ Hn).mono ?_
            rintro e w' ⟨rfl, rfl⟩
            rw [hq.out]
            go_wp2_with fail
            go_roundw
            case rel => exact ⟨k + 1, by go_num, by omega, hown3.out, hB⟩
            case measure => simp [intOf]; omega
          · have hq0 : q ≤ 1 := by omega
            clear hg hq1
            go_wp2_with fail
            refine (kind_num x hx64 _ Hn).mono ?_
            rintro e w' ⟨rfl, rfl⟩
            rw [hq.out]
            go_wp2_with fail
            go_roundw
            case rel => exact ⟨k + 1, by go_num, by omega, hown3.out, hB⟩
            case measure => simp [intOf]; omega
      · have Hn := hid hn; clear hn
        have hgood : goodB x = false := by simp [goodB, Hn.out]
        have hf : Hid ((bs.take (k + 1)).filter goodB = (bs.take k).filter goodB) := hid (by rw [ht.out, List.filter_append]; simp [hgood])
        clear hgood
        have hown3 : Hid (wr.ownsRow w.heap.size 31 1 _ ((bs.take (k + 1)).filter goodB).length (((bs.take (k + 1)).filter goodB).map (Value.float .f64))) := hid (by rw [hf.out]; exact Hown.out)
        go_wp2_with fail
        refine (kind_nan x _ Hn).mono ?_
        rintro e w' ⟨rfl, rfl⟩
        go_wp2_with fail
        go_roundw
        case rel => exact ⟨k + 1, by go_num, by omega, hown3.out, hB⟩
        case measure => simp [intOf]; omega
    · have hkl : bs.length ≤ k := by omega
      obtain rfl : k = bs.length := by omega
      have hf := Hown.out
      rw [List.take_length] at hf
      clear hlt hkl Hown
      have hlen : (bs.filter goodB).length ≤ bs.length := List.length_filter_le _ _
      have hR := hr.out
      unfold rateW at hR
      have hC := hc.out
      clear hr hc
      generalize bs.filter goodB = gs at *
      subst hC
      have HR := hid hR; clear hR
      have hfl := own_flts hf
      by_cases hg : gs = []
      · subst hg
        have hv : ∃ a2 cap2, u4 = .slice a2 0 cap2 := by
          rcases hf.2 with ⟨rfl, _⟩ | ⟨g, cap', cur, rfl, _⟩
          · exact ⟨none, 0, rfl⟩
          · exact ⟨_, cap', rfl⟩
        obtain ⟨a2, cap2, rfl⟩ := hv
        clear hf hfl
        go_wp2_with fail
        go_ret2
        refine ⟨?_, below_gr hB⟩
        rw [← HR.out]
        rfl
      · have hg1 : 1 ≤ gs.length := by cases gs with | nil => exact absurd rfl hg | cons x l => simp
        obtain ⟨a2, cap2, rfl⟩ : ∃ a2 cap2, u4 = .slice a2 gs.length cap2 := by
          rcases hfl with ⟨_, _, _, h⟩ | ⟨b, off, cap', e, _⟩
          · exact absurd h hg
          · exact ⟨_, cap', e⟩
        have Hfl := hid hfl
        have hb : ((gs.length : Int) == 0) = false := by simp; omega
        rw [if_neg (by omega)] at HR
        clear hf hfl hg
        go_wp2_with fail
        refine (sum_floats a2 gs.length cap2 _ gs (by omega) _ (Nat.le_refl _) Hfl.out).mono ?_
        rintro e w2 ⟨rfl, g2⟩
        obtain ⟨s, hs⟩ : ∃ s, Hid (sumW gs = s) := ⟨_, hid rfl⟩
        obtain ⟨m, hm⟩ : ∃ m, Hid (floatOfInt .f64 (gs.length : Int) = m) := ⟨_, hid rfl⟩
        rw [hs.out]
        rw [hs.out, hm.out] at HR
        cases hq : floatBits .quo .f64 s m with
        | none =>
          rw [hq] at HR
          have hrun := fun (t : TypeId) => run_float_quo_nan t s m w2 hq
          rw [← hm.out] at hrun
          have hA : Hid (oneOf (some (nanWord w2 s (floatOfInt .f64 (gs.length : Int)))) = r) := hid (by rw [← HR.out]; simp [oneOf, nanWord_nan])
          clear hq
          go_wp2_with fail
          refine (one_any _ _).mono ?_
          rintro e w' ⟨rfl, rfl⟩
          rw [hA.out]
          go_wp2_with fail
          go_ret2
          exact ⟨rfl, gr_drew (gr_trans (below_gr hB) g2)⟩
        | some q =>
          rw [hq] at HR
          have hrun := fun (t : TypeId) (w : World) => run_float_arith (P := Try.prog) w .quo t .f64 s m q hq
          rw [← hm.out] at hrun
          clear hq
          go_wp2_with fail
          refine (one_any _ _).mono ?_
          rintro e w' ⟨rfl, rfl⟩
          rw [HR.out]
          go_wp2_with fail
          go_ret2
          exact ⟨rfl, gr_trans (below_gr hB) g2⟩
end Go.Proofs.Ytlcjjbahbfcmoaa
