/- Each float64 that is no NaN, made whole. No program is named here. -/
import Derived.Test.YtfmkjolfpjfhbaaFloatInt3
namespace Go.Proofs.Ytfmkjolfpjfhbaa
open Go.RowKit Go.Lib

namespace FInt
/-- The word of x made whole. -/
def evenW (x : Nat) : Nat := dbl.write ((dbl.read x).integral .even)
abbrev signB (x : Nat) : Bool := x / 9223372036854775808 % 2 == 1
/-- The exponent's field, the digits. -/
abbrev expF (x : Nat) : Nat := x % 9223372036854775808 / 4503599627370496
abbrev mant (x : Nat) : Nat := 4503599627370496 + x % 4503599627370496
theorem mod_mod (x : Nat) : x % 9223372036854775808 % 4503599627370496 = x % 4503599627370496 := by omega
theorem mant_bd (x : Nat) : 4503599627370496 ≤ mant x ∧ mant x < 9007199254740992 := by unfold mant; omega
theorem read_by (x : Nat) (h0 : 1 ≤ expF x) (h1 : expF x ≤ 2046) : dbl.read x = .number (signB x) (mant x) ((expF x : Int) - 1075) := by
  unfold expF at h0 h1
  rw [read_norm x (by omega) (by omega), mod_mod]
  congr 1
  unfold expF
  omega
theorem even_tiny (x : Nat) (h : expF x ≤ 1021) : Whole (evenW x) (signB x) 0 := by
  unfold evenW
  by_cases h0 : expF x = 0
  · have hsub : x % 9223372036854775808 < 4503599627370496 := by unfold expF at h0; omega
    rw [read_sub x hsub]
    have e : (Ieee.Datum.number (signB x) (x % 9223372036854775808) (-1074)).integral .even = .number (signB x) 0 0 := by
      unfold Ieee.Datum.integral
      have e1 : (-1074 : Int).toNat = 0 := rfl
      have e2 : (-(-1074 : Int)).toNat = 1074 := rfl
      simp only [e1, e2, Nat.shiftLeft_zero]
      congr 1
      unfold Ieee.Toward.cut
      simp only [Nat.one_shiftLeft]
      generalize hy : x % 9223372036854775808 = y at *
      have hl : y.log2 ≤ 51 := by
        rcases Nat.eq_zero_or_pos y with hz | hz
        · rw [hz]; decide
        · have h9 := (Nat.log2_lt (n := y) (k := 52) (by omega)).2 (by have e52 : 2 ^ 52 = 4503599627370496 := rfl; omega)
          omega
      rw [show min 1074 (y.log2 + 2) = y.log2 + 2 by omega]
      have hlt : 2 * y < 2 ^ (y.log2 + 2) := by
        rcases Nat.eq_zero_or_pos y with hz | hz
        · rw [hz]; exact Nat.two_pow_pos _
        · have := Nat.lt_log2_self (n := y)
          have e3 : 2 ^ (y.log2 + 2) = 2 * 2 ^ (y.log2 + 1) := by rw [Nat.pow_succ, Nat.mul_comm]
          omega
      rw [Nat.div_eq_of_lt (by omega), Nat.mod_eq_of_lt (by omega)]
      have h2 : ¬ 2 ^ (y.log2 + 2) < 2 * y := by omega
      have h3 : (2 ^ (y.log2 + 2) == 2 * y) = false := by simp; omega
      rw [decide_eq_false h2, h3]
      rfl
    rw [e]
    exact whole_zero _
  · obtain ⟨d, hd⟩ : ∃ d : Nat, d = 1075 - expF x := ⟨_, rfl⟩
    rw [read_by x (by omega) (by omega), show ((expF x : Int) - 1075) = -(d : Int) by omega, integral_small _ _ d (mant_bd x).1 (mant_bd x).2 (by omega), if_neg (by omega)]
    exact whole_zero _
theorem even_cut (x : Nat) (h0 : 1022 ≤ expF x) (h1 : expF x ≤ 1074) : Whole (evenW x) (signB x) (cutN (mant x) (1075 - expF x)) := by
  unfold evenW
  obtain ⟨d, hd⟩ : ∃ d : Nat, d = 1075 - expF x := ⟨_, rfl⟩
  rw [read_by x (by omega) (by omega), show ((expF x : Int) - 1075) = -(d : Int) by omega, integral_small _ _ d (mant_bd x).1 (mant_bd x).2 (by omega), if_pos (by omega), ← hd]
  exact whole_small_all _ _ (cutN_lt _ _ (mant_bd x).2 (by omega))
theorem even_great (x : Nat) (h0 : 1075 ≤ expF x) (h1 : expF x ≤ 2046) : Whole (evenW x) (signB x) (mant x * 2 ^ (expF x - 1075)) := by
  unfold evenW
  obtain ⟨k, hk⟩ : ∃ k : Nat, k = expF x - 1075 := ⟨_, rfl⟩
  rw [read_by x (by omega) h1, show ((expF x : Int) - 1075) = (k : Int) by omega, integral_great, ← hk]
  exact whole_great _ _ k (mant_bd x).1 (mant_bd x).2 (by omega)
end FInt
end Go.Proofs.Ytfmkjolfpjfhbaa
