/- tocsinref03.Rates. -/
import Derived.Test.YtlcjjbahbfcmoaaRefKind
import Derived.Test.YtlcjjbahbfcmoaaFixed03
namespace Go.Proofs.Ytlcjjbahbfcmoaa
open Go.RowKit Go.Lib

theorem nan_word_false (neg : Bool) (rung : Nat) (h : rung ≤ 9218868437227405312) : nanB (Ieee.double.word neg rung) = false := by
  have h1 : Ieee.double.signWeight = 9223372036854775808 := by decide
  rw [nan_mod]
  unfold Ieee.Format.word
  rw [h1]
  apply decide_eq_false
  cases neg <;> simp <;> omega

theorem write_number (neg : Bool) (m : Nat) (p : Int) : nanB (Ieee.double.write (.number neg m p)) = false := by
  have h3 : Ieee.double.infRung = 9218868437227405312 := by decide
  unfold Ieee.Format.write
  simp only
  unfold Ieee.Format.nearest
  split
  · exact nan_word_false _ _ (by omega)
  · exact nan_word_false _ _ (by rw [h3]; omega)
theorem write_infinity (neg : Bool) : nanB (Ieee.double.write (.infinity neg)) = false := by
  have h3 : Ieee.double.infRung = 9218868437227405312 := by decide
  exact nan_word_false _ _ (by rw [h3]; omega)

theorem good_mod {x : Nat} (h : goodB x = true) : x % 9223372036854775808 < 9218868437227405312 := by
  unfold goodB at h
  rw [nan_mod] at h
  simp only [Bool.and_eq_true, Bool.not_eq_true', decide_eq_false_iff_not, decide_eq_true_eq] at h
  obtain ⟨h0, h1, h2⟩ := h
  by_cases e : x % 9223372036854775808 < 9218868437227405312
  · exact e
  · exfalso
    have e1 : x / 4503599627370496 % 2048 = 2047 := by omega
    unfold kindOf at h1 h2
    rw [if_pos e1] at h1 h2
    simp only at h1 h2
    split at h1 <;> omega

theorem add_good {s x : Nat} (hs : nanB s = false) (hx : goodB x = true) : ∃ r, floatBits .add .f64 s x = some r ∧ nanB r = false := by
  have h1 : Ieee.double.signWeight = 9223372036854775808 := by decide
  have h2 : Ieee.double.binade = 4503599627370496 := by decide
  have h3 : Ieee.double.infRung = 9218868437227405312 := by decide
  obtain ⟨t, n, j, hr⟩ : ∃ t n j, Ieee.double.read x = .number t n j := by
    have := good_mod hx
    unfold Ieee.Format.read
    simp only [h1, h2, h3]
    by_cases c : x % 9223372036854775808 < 4503599627370496
    · rw [if_pos c]; exact ⟨_, _, _, rfl⟩
    · rw [if_neg c, if_pos (by omega)]; exact ⟨_, _, _, rfl⟩
  rw [nanB_eq] at hs
  show ∃ r, Ieee.double.add s x = some r ∧ nanB r = false
  have hs' : (Ieee.double.read s).isNaN = false := hs
  unfold Ieee.Format.add
  rw [hr]
  cases hd : Ieee.double.read s with
  | nan a b => rw [hd] at hs'; cases hs'
  | infinity a => exact ⟨_, rfl, write_infinity _⟩
  | number a b c => exact ⟨_, rfl, write_number _ _ _⟩

theorem sum_good : ∀ (l : List Nat), (∀ x ∈ l, goodB x = true) → nanB (sumW l) = false := by
  intro l hl
  suffices ∀ (l : List Nat) (s : Nat), nanB s = false → (∀ x ∈ l, goodB x = true) → nanB (l.foldl addW s) = false by
    exact this l 0 (by decide) hl
  intro l
  induction l with
  | nil => intro s hs _; exact hs
  | cons x l ih =>
    intro s hs h
    obtain ⟨r, hr, hn⟩ := add_good hs (h x (by simp))
    refine ih _ ?_ (fun y hy => h y (by simp [hy]))
    unfold addW
    rw [hr]
    simp [oneOf, hn]

theorem oneOf_lt : ∀ (r : Option Nat), (∀ x, r = some x → x < 18446744073709551616) → oneOf r < 18446744073709551616 := by
  intro r h
  cases r with
  | none => decide
  | some x =>
    unfold oneOf
    simp only
    split
    · decide
    · exact h x rfl
theorem floatBits_lt {op : BinOp} {x y r : Nat} (h : floatBits op .f64 x y = some r) : r < 18446744073709551616 := by
  have := floatBits_wf h
  simpa [Lit.wf] using this

theorem nanWord_lt (w : World) (x y : Nat) : nanWord w x y < 18446744073709551616 := by
  unfold nanWord
  generalize w.tape w.drawn (.nanBits .f64 x y) = t
  show ((t % 2) * 2 ^ 63 + 0x7ff0000000000000 + 1 + (t / 2) % (2 ^ 52 - 1)) < 18446744073709551616
  omega

set_option maxRecDepth 100000 in
set_option maxHeartbeats 2000000 in
theorem refrates_any (a : Option Addr) (len cap n₀ : Nat) (bs : List Nat) (hreach : bs.length * 8 ≤ 140737488351232) (hw : Words bs) (w : World) (hn₀ : n₀ ≤ w.heap.size) (hI : Flts n₀ w (.slice a len cap) bs) :
    Calls Try.prog 19 #[.slice a len cap] w fun e w' => e = .returned (.tuple #[.int .u64 (rateW bs : Nat), .int .i64 (bs.filter goodB).length]) ∧ w.grownBy w' none := by
  have hl : len = bs.length := by
    rcases hI with ⟨a', cap', e, rfl⟩ | ⟨b, off, cap', e, _⟩
    · cases e; rfl
    · cases e; rfl
  subst hl
  obtain ⟨r, hr⟩ : ∃ r, Hid (rateW bs = r) := ⟨_, hid rfl⟩
  obtain ⟨c, hc⟩ : ∃ c : Nat, Hid ((bs.filter goodB).length = c) := ⟨_, hid rfl⟩
  rw [hr.out, hc.out]
  have HI := hid hI
  have Hw := hid hw
  clear hI hw
  have hfb := bits_run
  go_enter Try.func19, Try.ntmps19
  go_wp2_with fail
  go_loopw [4, 5, 6] (fun s n i wr => wr = w ∧ ∃ k : Nat, i = .int .i64 k ∧ k ≤ bs.length ∧ s = .float .f64 (sumW ((bs.take k).filter goodB)) ∧ n = .int .i64 ((bs.take k).filter goodB).length) (fun _ _ i _ => bs.length - (intOf i).toNat)
  case atStart => exact ⟨rfl, 0, rfl, Nat.zero_le _, rfl, rfl⟩
  case round =>
    obtain ⟨rfl, k, rfl, hk, rfl, rfl⟩ := hrel
    obtain ⟨s, hs⟩ : ∃ s, Hid (sumW ((bs.take k).filter goodB) = s) := ⟨_, hid rfl⟩
    obtain ⟨n, hn⟩ : ∃ n : Nat, Hid (((bs.take k).filter goodB).length = n) := ⟨_, hid rfl⟩
    have hsn : Hid (nanB s = false) := hid (by rw [← hs.out]; exact sum_good _ (fun x hx => (List.mem_filter.1 hx).2))
    have hnb : n ≤ k := by
      have h1 := List.length_filter_le goodB (bs.take k)
      have h2 := hn.out
      rw [List.length_take] at h1
      omega
    rw [hs.out, hn.out]
    by_cases hlt : k < bs.length
    · rcases HI.out with ⟨_, _, _, rfl⟩ | ⟨b, off, cap', e, hbn, hcl⟩
      · simp at hlt
      cases e
      have hck := hcl k hlt
      have hx64 := hid (Hw.out bs[k] (List.getElem_mem hlt))
      have hxk : bs[k]?.getD 0 = bs[k] := by simp [hlt]
      have ht := hid (show bs.take (k + 1) = bs.take k ++ [bs[k]] from by rw [List.take_succ_eq_append_getElem hlt])
      rw [hxk] at hck
      clear hxk hcl
      generalize bs[k] = x at *
      cases hq : nanB x
      · have Hn := hid hq; clear hq
        by_cases hg : 1 < kindOf x ∧ kindOf x < 8
        · obtain ⟨hg0, hg1⟩ := hg
          have hgood : goodB x = true := by simp [goodB, Hn.out, hg0, hg1]
          have hf : Hid ((bs.take (k + 1)).filter goodB = (bs.take k).filter goodB ++ [x]) := hid (by rw [ht.out, List.filter_append]; simp [hgood])
          obtain ⟨y, hy, hyn⟩ := add_good hsn.out hgood
          have hnew : Hid (sumW ((bs.take (k + 1)).filter goodB) = y) := hid (by rw [hf.out, sumW_snoc, hs.out]; unfold addW; rw [hy]; simp [oneOf, hyn])
          have hlen : Hid (((bs.take (k + 1)).filter goodB).length = n + 1) := hid (by rw [hf.out, List.length_append, hn.out]; rfl)
          have hrun := fun (t : TypeId) (w : World) => run_float_arith (P := Try.prog) w .add t .f64 s x y hy
          clear hgood hy hyn
          obtain ⟨q, hq⟩ : ∃ q, Hid (kindOf x = q) := ⟨_, hid rfl⟩
          rw [hq.out] at hg0 hg1
          go_wp2_with fail
          refine (refkind_num x hx64 _ Hn).mono ?_
          rintro e w' ⟨rfl, rfl⟩
          rw [hq.out]
          go_wp2_with fail
          go_roundw
          case rel => exact ⟨trivial, k + 1, by go_num, by omega, by rw [hnew.out], by rw [hlen.out]; go_num⟩
          case measure => simp [intOf]; omega
        · have hgood : goodB x = false := by
            simp only [goodB, Hn.out, Bool.not_false, Bool.true_and, Bool.and_eq_false_iff, decide_eq_false_iff_not]
            omega
          have hf : Hid ((bs.take (k + 1)).filter goodB = (bs.take k).filter goodB) := hid (by rw [ht.out, List.filter_append]; simp [hgood])
          clear hgood
          obtain ⟨q, hq⟩ : ∃ q, Hid (kindOf x = q) := ⟨_, hid rfl⟩
          rw [hq.out] at hg
          by_cases hq1 : 1 < q
          · have hq8 : 8 ≤ q := by omega
            clear hg
            go_wp2_with fail
            refine (refkind_num x hx64 _ Hn).mono ?_
            rintro e w' ⟨rfl, rfl⟩
            rw [hq.out]
            go_wp2_with fail
            go_roundw
            case rel => exact ⟨trivial, k + 1, by go_num, by omega, by rw [hf.out, hs.out], by rw [hf.out, hn.out]⟩
            case measure => simp [intOf]; omega
          · have hq0 : q ≤ 1 := by omega
            clear hg hq1
            go_wp2_with fail
            refine (refkind_num x hx64 _ Hn).mono ?_
            rintro e w' ⟨rfl, rfl⟩
            rw [hq.out]
            go_wp2_with fail
            go_roundw
            case rel => exact ⟨trivial, k + 1, by go_num, by omega, by rw [hf.out, hs.out], by rw [hf.out, hn.out]⟩
            case measure => simp [intOf]; omega
      · have Hn := hid hq; clear hq
        have hgood : goodB x = false := by simp [goodB, Hn.out]
        have hf : Hid ((bs.take (k + 1)).filter goodB = (bs.take k).filter goodB) := hid (by rw [ht.out, List.filter_append]; simp [hgood])
        clear hgood
        go_wp2_with fail
        refine (refkind_nan x hx64 _ Hn).mono ?_
        rintro e w' ⟨rfl, rfl⟩
        go_wp2_with fail
        go_roundw
        case rel => exact ⟨trivial, k + 1, by go_num, by omega, by rw [hf.out, hs.out], by rw [hf.out, hn.out]⟩
        case measure => simp [intOf]; omega
    · have hkl : bs.length ≤ k := by omega
      obtain rfl : k = bs.length := by omega
      have hS := hs.out
      have hN := hn.out
      rw [List.take_length] at hS hN
      clear hlt hkl hs hn
      have hR := hr.out
      unfold rateW at hR
      have hC := hc.out
      clear hr hc
      rw [hS, hN] at hR
      rw [hN] at hC
      subst hC
      have HR := hid hR; clear hR hS hN
      by_cases hg : n = 0
      · subst hg
        have hr0 : r = 0 := by have := HR.out; simpa using this.symm
        subst hr0
        clear HR
        go_wp2_with fail
        go_ret2
        exact ⟨rfl, gr_refl _ _⟩
      · have hb : ((n : Int) == 0) = false := by simp; omega
        rw [if_neg (by omega)] at HR
        obtain ⟨m, hm⟩ : ∃ m, Hid (floatOfInt .f64 (n : Int) = m) := ⟨_, hid rfl⟩
        rw [hm.out] at HR
        cases hq : floatBits .quo .f64 s m with
        | none =>
          rw [hq] at HR
          have hrun := fun (t : TypeId) => run_float_quo_nan t s m wr hq
          rw [← hm.out] at hrun
          have hwn : Hid (nanWord wr s (floatOfInt .f64 (n : Int)) < 18446744073709551616) := hid (nanWord_lt _ _ _)
          have hA : Hid (oneOf (some (nanWord wr s (floatOfInt .f64 (n : Int)))) = r) := hid (by rw [← HR.out]; simp [oneOf, nanWord_nan])
          clear hq
          go_wp2_with fail
          refine (refone_any _ hwn _).mono ?_
          rintro e w' ⟨rfl, rfl⟩
          rw [hA.out]
          go_wp2_with fail
          go_ret2
          exact ⟨rfl, gr_drew (gr_refl _ _)⟩
        | some q =>
          rw [hq] at HR
          have hrun := fun (t : TypeId) (w : World) => run_float_arith (P := Try.prog) w .quo t .f64 s m q hq
          rw [← hm.out] at hrun
          have hq64 := hid (floatBits_lt hq)
          clear hq
          go_wp2_with fail
          refine (refone_any _ hq64 _).mono ?_
          rintro e w' ⟨rfl, rfl⟩
          rw [HR.out]
          go_wp2_with fail
          go_ret2
          exact ⟨rfl, gr_refl _ _⟩
end Go.Proofs.Ytlcjjbahbfcmoaa
