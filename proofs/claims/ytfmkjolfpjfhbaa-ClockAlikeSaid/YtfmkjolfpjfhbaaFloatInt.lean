/- A float64 made whole, in plain numbers. No program is named here. -/
import Derived.Laws.FloatArith
import Derived.Lib.Hide
namespace Go.Proofs.Ytfmkjolfpjfhbaa
open Go.RowKit Go.Lib

namespace FInt
abbrev dbl : Ieee.Format := Ieee.double

theorem frac_eq : dbl.fractionBits = 52 := rfl
theorem least_eq : dbl.leastPlace = -1074 := by decide
theorem binade_eq : dbl.binade = 4503599627370496 := by decide
theorem inf_eq : dbl.infRung = 9218868437227405312 := by decide
theorem sign_eq : dbl.signWeight = 9223372036854775808 := by decide

theorem read_sub (x : Nat) (h : x % 9223372036854775808 < 4503599627370496) : dbl.read x = .number (x / 9223372036854775808 % 2 == 1) (x % 9223372036854775808) (-1074) := by
  unfold Ieee.Format.read
  simp only [sign_eq, binade_eq, inf_eq, least_eq]
  rw [if_pos h]

theorem read_norm (x : Nat) (h0 : 4503599627370496 ≤ x % 9223372036854775808) (h1 : x % 9223372036854775808 < 9218868437227405312) :
    dbl.read x = .number (x / 9223372036854775808 % 2 == 1) (4503599627370496 + x % 9223372036854775808 % 4503599627370496) (-1074 + ((x % 9223372036854775808 / 4503599627370496 - 1 : Nat) : Int)) := by
  unfold Ieee.Format.read
  simp only [sign_eq, binade_eq, inf_eq, least_eq]
  rw [if_neg (by omega), if_pos h1]

theorem read_inf (x : Nat) (h : x % 9223372036854775808 = 9218868437227405312) : dbl.read x = .infinity (x / 9223372036854775808 % 2 == 1) := by
  unfold Ieee.Format.read
  simp only [sign_eq, binade_eq, inf_eq, least_eq]
  rw [if_neg (by omega), if_neg (by omega), if_pos h]

theorem read_nan (x : Nat) (h : 9218868437227405312 < x % 9223372036854775808) : dbl.read x = .nan (x / 9223372036854775808 % 2 == 1) (x % 9223372036854775808 - 9218868437227405312) := by
  unfold Ieee.Format.read
  simp only [sign_eq, binade_eq, inf_eq, least_eq]
  rw [if_neg (by omega), if_neg (by omega), if_neg (by omega)]

/-- Cutting nothing. -/
theorem cut_zero_drop (way : Ieee.Toward) (s : Bool) (n : Nat) : way.cut s n 0 = n := by
  unfold Ieee.Toward.cut
  simp only [Nat.zero_min, Nat.shiftLeft_zero, Nat.div_one, Nat.mod_one]
  cases way <;> simp

theorem log2_lt_of {n k : Nat} (h : n < 2 ^ (k + 1)) (h0 : 2 ^ k ≤ n) : n.log2 = k := by
  have hn : n ≠ 0 := by have := Nat.two_pow_pos k; omega
  exact (Nat.log2_eq_iff hn).2 ⟨h0, h⟩

/-- A cut of digits that are all noughts. -/
theorem cut_exact (way : Ieee.Toward) (s : Bool) (k d : Nat) (hk : 0 < k) : way.cut s (k * 2 ^ d) d = k := by
  have hlog : d ≤ (k * 2 ^ d).log2 := by
    have h1 : 2 ^ d ≤ k * 2 ^ d := Nat.le_mul_of_pos_left _ hk
    have h2 : k * 2 ^ d ≠ 0 := by have := Nat.two_pow_pos d; omega
    exact (Nat.le_log2 h2).2 h1
  unfold Ieee.Toward.cut
  have hmin : min d ((k * 2 ^ d).log2 + 2) = d := by omega
  simp only [hmin, Nat.one_shiftLeft, Nat.mul_mod_left, Nat.mul_div_cancel _ (Nat.two_pow_pos d)]
  have hp := Nat.two_pow_pos d
  cases way <;> simp <;> omega

/-- The word of a whole number that has its place in the format, read again: itself. -/
theorem read_whole (s : Bool) (N kept : Nat) (last : Int) (hk0 : 4503599627370496 ≤ kept) (hk1 : kept < 9007199254740992) (hl0 : -52 ≤ last) (hl1 : last ≤ 971)
    (hN : N = kept * 2 ^ last.toNat ∧ 0 ≤ last ∨ kept = N * 2 ^ (-last).toNat ∧ last < 0) :
    dbl.read (dbl.write (.number s N 0)) = .number s kept last := by
  have hNpos : N ≠ 0 := by
    rcases hN with ⟨h, _⟩ | ⟨h, _⟩
    · have := Nat.mul_pos (show 0 < kept by omega) (Nat.two_pow_pos last.toNat); omega
    · intro h0; subst h0; simp at h; omega
  have hlog : (N.log2 : Int) = 52 + last := by
    rcases hN with ⟨h, h0⟩ | ⟨h, h0⟩
    · have e : N.log2 = 52 + last.toNat := by
        apply log2_lt_of
        · rw [h, show 52 + last.toNat + 1 = 53 + last.toNat from by omega, Nat.pow_add]
          exact Nat.mul_lt_mul_of_pos_right hk1 (Nat.two_pow_pos _)
        · rw [h, Nat.pow_add]
          exact Nat.mul_le_mul_right _ hk0
      omega
    · have e : N.log2 = 52 - (-last).toNat := by
        apply log2_lt_of
        · have h3 : N * 2 ^ (-last).toNat < 2 ^ (52 - (-last).toNat + 1) * 2 ^ (-last).toNat := by
            rw [← h, ← Nat.pow_add, show 52 - (-last).toNat + 1 + (-last).toNat = 53 from by omega]; exact hk1
          exact Nat.lt_of_mul_lt_mul_right h3
        · have h3 : 2 ^ (52 - (-last).toNat) * 2 ^ (-last).toNat ≤ N * 2 ^ (-last).toNat := by
            rw [← h, ← Nat.pow_add, show 52 - (-last).toNat + (-last).toNat = 52 from by omega]; exact hk0
          exact Nat.le_of_mul_le_mul_right h3 (Nat.two_pow_pos _)
      omega
  have hlast : max (0 + (N.log2 : Int) - (dbl.fractionBits : Int)) dbl.leastPlace = last := by rw [frac_eq, least_eq, hlog]; omega
  have hkept : Ieee.Toward.even.cut s (N <<< (0 - last).toNat) (last - 0).toNat = kept := by
    rcases hN with ⟨h, h0⟩ | ⟨h, h0⟩
    · rw [show (0 - last).toNat = 0 from by omega, Nat.shiftLeft_zero, show (last - 0).toNat = last.toNat from by omega, h]
      exact cut_exact _ _ _ _ (by omega)
    · rw [show (last - 0).toNat = 0 from by omega, cut_zero_drop, show (0 - last).toNat = (-last).toNat from by omega, Nat.shiftLeft_eq, ← h]
  have hw : dbl.write (.number s N 0) = dbl.word s ((last + 1074).toNat * 4503599627370496 + kept) := by
    show dbl.nearest s N 0 = _
    unfold Ieee.Format.nearest
    rw [if_neg hNpos]
    simp only [hlast, hkept]
    simp only [least_eq, binade_eq, inf_eq]
    congr 1
    rw [show last - -1074 = last + 1074 from by omega]
    omega
  rw [hw]
  have hword : dbl.word s ((last + 1074).toNat * 4503599627370496 + kept) = (if s = true then 9223372036854775808 else 0) + ((last + 1074).toNat * 4503599627370496 + kept) := by
    unfold Ieee.Format.word
    rw [sign_eq]
    cases s <;> simp
  rw [hword]
  have hr : ((if s = true then 9223372036854775808 else 0) + ((last + 1074).toNat * 4503599627370496 + kept)) % 9223372036854775808 = (last + 1074).toNat * 4503599627370496 + kept := by
    split <;> omega
  have hs : ((if s = true then 9223372036854775808 else 0) + ((last + 1074).toNat * 4503599627370496 + kept)) / 9223372036854775808 % 2 = (if s = true then 1 else 0) := by
    split <;> omega
  rw [read_norm _ (by rw [hr]; omega) (by rw [hr]; omega), hr, hs]
  have h1 : 4503599627370496 + ((last + 1074).toNat * 4503599627370496 + kept) % 4503599627370496 = kept := by omega
  have h2 : -1074 + ((((last + 1074).toNat * 4503599627370496 + kept) / 4503599627370496 - 1 : Nat) : Int) = last := by omega
  rw [h1, h2]
  cases s <;> rfl

theorem toInt_whole (s : Bool) (N kept : Nat) (last : Int) (hk0 : 0 < kept) (hN : N = kept * 2 ^ last.toNat ∧ 0 ≤ last ∨ kept = N * 2 ^ (-last).toNat ∧ last < 0) (way : Ieee.Toward) :
    (Ieee.Datum.number s kept last).toInt way = some (if s = true then -(N : Int) else N) := by
  unfold Ieee.Datum.toInt Ieee.Datum.integral
  simp only
  have hc : way.cut s (kept <<< last.toNat) (-last).toNat = N := by
    rcases hN with ⟨h, h0⟩ | ⟨h, h0⟩
    · rw [show (-last).toNat = 0 from by omega, cut_zero_drop, Nat.shiftLeft_eq, ← h]
    · rw [show last.toNat = 0 from by omega, Nat.shiftLeft_zero, h]
      refine cut_exact _ _ _ _ ?_
      rcases Nat.eq_zero_or_pos N with h1 | h1
      · rw [h1] at h; simp at h; omega
      · exact h1
  rw [hc]
  unfold Ieee.signed
  cases s <;> simp
end FInt
end Go.Proofs.Ytfmkjolfpjfhbaa
