/- A float64 made whole: by its digits. No program is named here. -/
import Derived.Test.YtfmkjolfpjfhbaaFloatInt2
namespace Go.Proofs.Ytfmkjolfpjfhbaa
open Go.RowKit Go.Lib

namespace FInt
theorem cut_nought (way : Ieee.Toward) (s : Bool) (d : Nat) : way.cut s 0 d = 0 := by
  unfold Ieee.Toward.cut
  have h : 0 < 2 ^ min d (Nat.log2 0 + 2) := Nat.two_pow_pos _
  simp only [Nat.one_shiftLeft, Nat.zero_div, Nat.zero_mod]
  cases way <;> simp
theorem Whole.int {r : Nat} {s : Bool} {N : Nat} (h : Whole r s N) : (dbl.read r).toInt .zero = some (sg s N) := by
  obtain ⟨kept, last, hr, hN⟩ := h.ex
  rw [hr]
  rcases Nat.eq_zero_or_pos kept with h0 | h0
  · subst h0
    have hN0 : N = 0 := by
      rcases hN with ⟨e, _⟩ | ⟨e, _⟩
      · rw [e]; simp
      · rcases Nat.eq_zero_or_pos N with h1 | h1
        · exact h1
        · have := Nat.mul_pos h1 (Nat.two_pow_pos (-last).toNat); omega
    subst hN0
    unfold Ieee.Datum.toInt Ieee.Datum.integral
    simp only [Nat.zero_shiftLeft, cut_nought]
    rw [signed_eq, Nat.zero_mul]
  · exact toInt_whole s N kept last h0 hN .zero
theorem whole_zero (s : Bool) : Whole (dbl.write (.number s 0 0)) s 0 := by
  refine ⟨0, -1074, ?_, .inr ⟨(Nat.zero_mul _).symm, by omega⟩⟩
  show dbl.read (dbl.nearest s 0 0) = _
  unfold Ieee.Format.nearest
  rw [if_pos rfl]
  have hw : dbl.word s 0 = if s = true then 9223372036854775808 else 0 := by
    unfold Ieee.Format.word
    rw [sign_eq]
  rw [hw]
  cases s
  · exact read_sub 0 (by decide)
  · exact read_sub 9223372036854775808 (by decide)
/-- The whole part of a number with digits behind the point. -/
def cutN (m d : Nat) : Nat := m / 2 ^ d + (if 2 ^ d < 2 * (m % 2 ^ d) ∨ 2 ^ d = 2 * (m % 2 ^ d) ∧ m / 2 ^ d % 2 = 1 then 1 else 0)
theorem cut_even (s : Bool) (m d : Nat) (h0 : 4503599627370496 ≤ m) (h1 : m < 9007199254740992) : Ieee.Toward.even.cut s m d = if d ≤ 53 then cutN m d else 0 := by
  have hl : m.log2 = 52 := log2_lt_of (by show m < 2 ^ 53; exact h1) (by show 2 ^ 52 ≤ m; exact h0)
  unfold Ieee.Toward.cut
  rw [hl]
  simp only [Nat.one_shiftLeft]
  by_cases hd : d ≤ 53
  · rw [if_pos hd, show min d (52 + 2) = d by omega]
    unfold cutN
    congr 1
    by_cases hc : 2 ^ d < 2 * (m % 2 ^ d) ∨ 2 ^ d = 2 * (m % 2 ^ d) ∧ m / 2 ^ d % 2 = 1
    · rw [if_pos hc]
      have : (decide (2 ^ d < 2 * (m % 2 ^ d)) || (2 ^ d == 2 * (m % 2 ^ d) && m / 2 ^ d % 2 == 1)) = true := by simpa using hc
      rw [this]
      rfl
    · rw [if_neg hc]
      have : (decide (2 ^ d < 2 * (m % 2 ^ d)) || (2 ^ d == 2 * (m % 2 ^ d) && m / 2 ^ d % 2 == 1)) = false := by
        rw [Bool.eq_false_iff]
        intro h
        exact hc (by simpa using h)
      rw [this]
      rfl
  · rw [if_neg hd, show min d (52 + 2) = 54 by omega]
    have e : 2 ^ 54 = 18014398509481984 := rfl
    rw [e, Nat.div_eq_of_lt (by omega), Nat.mod_eq_of_lt (by omega)]
    have h2 : ¬ 18014398509481984 < 2 * m := by omega
    have h3 : (18014398509481984 == 2 * m) = false := by simp; omega
    rw [decide_eq_false h2, h3]
    rfl
theorem cutN_lt (m d : Nat) (h1 : m < 9007199254740992) (hd : 1 ≤ d) : cutN m d < 9007199254740992 := by
  unfold cutN
  have h2 : 2 ≤ 2 ^ d := by have := Nat.pow_le_pow_right (n := 2) (by omega) hd; omega
  have h3 : m / 2 ^ d ≤ m / 2 := Nat.div_le_div_left h2 (by omega)
  split <;> omega
theorem whole_53 (s : Bool) : Whole (dbl.write (.number s 9007199254740992 0)) s 9007199254740992 :=
  whole_write s 9007199254740992 4503599627370496 1 (by omega) (by omega) (by omega) (by omega) (.inl ⟨rfl, by omega⟩)
/-- A number of 53 digits times a power: it has its place. -/
theorem whole_great (s : Bool) (m k : Nat) (h0 : 4503599627370496 ≤ m) (h1 : m < 9007199254740992) (hk : k ≤ 971) : Whole (dbl.write (.number s (m * 2 ^ k) 0)) s (m * 2 ^ k) :=
  whole_write s (m * 2 ^ k) m (k : Int) h0 h1 (by omega) (by omega) (.inl ⟨by simp, by omega⟩)
theorem integral_great (s : Bool) (m k : Nat) : (Ieee.Datum.number s m (k : Int)).integral .even = .number s (m * 2 ^ k) 0 := by
  unfold Ieee.Datum.integral
  have e1 : ((k : Int)).toNat = k := by omega
  have e2 : (-(k : Int)).toNat = 0 := by omega
  simp only [e1, e2, cut_zero_drop, Nat.shiftLeft_eq]
theorem integral_small (s : Bool) (m d : Nat) (h0 : 4503599627370496 ≤ m) (h1 : m < 9007199254740992) (hd : 1 ≤ d) : (Ieee.Datum.number s m (-(d : Int))).integral .even = .number s (if d ≤ 53 then cutN m d else 0) 0 := by
  unfold Ieee.Datum.integral
  have e1 : (-(d : Int)).toNat = 0 := by omega
  have e2 : (-(-(d : Int))).toNat = d := by omega
  simp only [e1, e2, Nat.shiftLeft_zero, cut_even s m d h0 h1]
/-- A number that is rounded is a whole one. -/
theorem whole_small_all (s : Bool) (N : Nat) (h : N < 9007199254740992) : Whole (dbl.write (.number s N 0)) s N := by
  rcases Nat.eq_zero_or_pos N with h0 | h0
  · subst h0; exact whole_zero s
  · exact whole_write_small s N h0 h
theorem low_iff {r : Nat} {s : Bool} {N : Nat} (h : Whole r s N) : (dbl.order r 14114281232179134464 == some .lt) = decide (sg s N < -9223372036854775808) := by
  rw [h.low]
  by_cases hc : sg s N < -9223372036854775808
  · rw [decide_eq_true hc]
    have : compare (sg s N) (-9223372036854775808) = .lt := by show compareOfLessAndEq _ _ = _; unfold compareOfLessAndEq; rw [if_pos hc]
    rw [this]
    rfl
  · rw [decide_eq_false hc]
    have : compare (sg s N) (-9223372036854775808) ≠ .lt := by
      show compareOfLessAndEq _ _ ≠ _
      unfold compareOfLessAndEq
      rw [if_neg hc]
      split <;> simp
    simp [this]
theorem high_iff {r : Nat} {s : Bool} {N : Nat} (h : Whole r s N) : (dbl.order r 4890909195324358656 == some .gt || dbl.order r 4890909195324358656 == some .eq) = decide (9223372036854775808 ≤ sg s N) := by
  rw [h.high]
  by_cases hc : sg s N < 9223372036854775808
  · rw [decide_eq_false (by omega)]
    have : compare (sg s N) 9223372036854775808 = .lt := by show compareOfLessAndEq _ _ = _; unfold compareOfLessAndEq; rw [if_pos hc]
    rw [this]
    rfl
  · rw [decide_eq_true (by omega)]
    by_cases he : sg s N = 9223372036854775808
    · have : compare (sg s N) 9223372036854775808 = .eq := by show compareOfLessAndEq _ _ = _; unfold compareOfLessAndEq; rw [if_neg hc, if_pos he]
      rw [this]
      rfl
    · have : compare (sg s N) 9223372036854775808 = .gt := by show compareOfLessAndEq _ _ = _; unfold compareOfLessAndEq; rw [if_neg hc, if_neg he]
      rw [this]
      rfl
end FInt
end Go.Proofs.Ytfmkjolfpjfhbaa
