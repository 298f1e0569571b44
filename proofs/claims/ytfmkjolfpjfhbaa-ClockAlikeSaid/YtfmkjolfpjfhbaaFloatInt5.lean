/- A float64 to 64 bits: the two ways agree. No program is named here. -/
import Derived.Test.YtfmkjolfpjfhbaaFloatInt4
namespace Go.Proofs.Ytfmkjolfpjfhbaa
open Go.RowKit Go.Lib

namespace FInt
/-- The document's way: by the bits; none where it is too great. -/
def refI (x : Nat) : Option Int :=
  if expF x < 1022 then some 0
  else if 1087 ≤ expF x then none
  else if 1075 ≤ expF x then
    (if expF x = 1086 ∧ ¬ (signB x = true ∧ mant x = 4503599627370496) then none else some (sg (signB x) (mant x * 2 ^ (expF x - 1075))))
  else some (sg (signB x) (cutN (mant x) (1075 - expF x)))
def lowW (r : Nat) : Bool := dbl.order r 14114281232179134464 == some .lt
def highW (r : Nat) : Bool := dbl.order r 4890909195324358656 == some .gt || dbl.order r 4890909195324358656 == some .eq
/-- What the program's way comes to. -/
structure Fits (x : Nat) (v : Int) : Prop where
  low : lowW (evenW x) = false
  high : highW (evenW x) = false
  int : (dbl.read (evenW x)).toInt .zero = some v
  lo : -9223372036854775808 ≤ v
  hi : v ≤ 9223372036854775807
theorem fits_of {x : Nat} {s : Bool} {N : Nat} (h : Whole (evenW x) s N) (h0 : -9223372036854775808 ≤ sg s N) (h1 : sg s N < 9223372036854775808) : Fits x (sg s N) :=
  ⟨by unfold lowW; rw [low_iff h]; exact decide_eq_false (by omega), by unfold highW; rw [high_iff h]; exact decide_eq_false (by omega), h.int, h0, by omega⟩
theorem great_of {x : Nat} {s : Bool} {N : Nat} (h : Whole (evenW x) s N) (h0 : sg s N < -9223372036854775808 ∨ 9223372036854775808 ≤ sg s N) : lowW (evenW x) = true ∨ highW (evenW x) = true := by
  rcases h0 with h0 | h0
  · left; unfold lowW; rw [low_iff h]; exact decide_eq_true h0
  · right; unfold highW; rw [high_iff h]; exact decide_eq_true h0
theorem sg_small {s : Bool} {N : Nat} (h : N < 9223372036854775808) : -9223372036854775808 ≤ sg s N ∧ sg s N < 9223372036854775808 := by
  unfold sg
  split <;> omega
theorem great_pow {m k : Nat} (h0 : 4503599627370496 ≤ m) (hk : 12 ≤ k) : 18446744073709551616 ≤ m * 2 ^ k := by
  have h1 : 2 ^ 12 ≤ 2 ^ k := Nat.pow_le_pow_right (by omega) hk
  have h2 : 4503599627370496 * 2 ^ 12 ≤ m * 2 ^ k := Nat.mul_le_mul h0 h1
  have e : 4503599627370496 * 2 ^ 12 = 18446744073709551616 := rfl
  omega
theorem less_pow {m k : Nat} (h1 : m < 9007199254740992) (hk : k ≤ 10) : m * 2 ^ k < 9223372036854775808 := by
  have h2 : 2 ^ k ≤ 2 ^ 10 := Nat.pow_le_pow_right (by omega) hk
  have h3 : m * 2 ^ k ≤ m * 2 ^ 10 := Nat.mul_le_mul_left _ h2
  have e : 2 ^ 10 = 1024 := rfl
  omega
theorem agree (x : Nat) (hx : expF x ≤ 2046) : (∃ v, refI x = some v ∧ Fits x v) ∨ (refI x = none ∧ (lowW (evenW x) = true ∨ highW (evenW x) = true)) := by
  have hm := mant_bd x
  unfold refI
  by_cases h1 : expF x < 1022
  · rw [if_pos h1]
    left
    have h := fits_of (even_tiny x (by omega)) (sg_small (by omega)).1 (sg_small (by omega)).2
    have e : sg (signB x) 0 = 0 := by unfold sg; split <;> rfl
    rw [e] at h
    exact ⟨0, rfl, h⟩
  · rw [if_neg h1]
    by_cases h2 : 1087 ≤ expF x
    · rw [if_pos h2]
      right
      refine ⟨rfl, great_of (even_great x (by omega) hx) ?_⟩
      have h3 := great_pow hm.1 (show 12 ≤ expF x - 1075 by omega)
      unfold sg
      split <;> omega
    · rw [if_neg h2]
      by_cases h3 : 1075 ≤ expF x
      · rw [if_pos h3]
        have hw := even_great x h3 hx
        by_cases h4 : expF x = 1086
        · have e : expF x - 1075 = 11 := by omega
          have e11 : 2 ^ 11 = 2048 := rfl
          rw [e, e11] at hw
          by_cases h5 : signB x = true ∧ mant x = 4503599627370496
          · rw [if_neg (fun h => h.2 h5), e, e11]
            left
            refine ⟨_, rfl, fits_of hw ?_ ?_⟩
            · rw [h5.1, h5.2]; decide
            · rw [h5.1, h5.2]; decide
          · rw [if_pos ⟨h4, h5⟩]
            right
            refine ⟨rfl, great_of hw ?_⟩
            unfold sg
            by_cases hs : signB x = true
            · rw [if_pos hs]
              have : mant x ≠ 4503599627370496 := fun h => h5 ⟨hs, h⟩
              omega
            · rw [if_neg hs]
              omega
        · rw [if_neg (fun h => h4 h.1)]
          left
          have h6 := sg_small (s := signB x) (less_pow hm.2 (show expF x - 1075 ≤ 10 by omega))
          exact ⟨_, rfl, fits_of hw h6.1 h6.2⟩
      · rw [if_neg h3]
        left
        have h6 := sg_small (s := signB x) (N := cutN (mant x) (1075 - expF x)) (by have := cutN_lt (mant x) (1075 - expF x) hm.2 (by omega); omega)
        exact ⟨_, rfl, fits_of (even_cut x (by omega) (by omega)) h6.1 h6.2⟩
theorem word_inf (s : Bool) : dbl.read (dbl.write (.infinity s)) = .infinity s := by
  have hw : dbl.write (.infinity s) = if s = true then 18442240474082181120 else 9218868437227405312 := by
    show dbl.word s dbl.infRung = _
    unfold Ieee.Format.word
    rw [sign_eq, inf_eq]
  rw [hw]
  cases s
  · exact read_inf 9218868437227405312 (by decide)
  · exact read_inf 18442240474082181120 (by decide)
theorem agree_inf (x : Nat) (h : x % 9223372036854775808 = 9218868437227405312) : lowW (evenW x) = true ∨ highW (evenW x) = true := by
  have hr : dbl.read (evenW x) = .infinity (signB x) := by
    unfold evenW
    rw [read_inf x h]
    exact word_inf _
  by_cases hs : signB x = true
  · left
    unfold lowW Ieee.Format.order
    rw [hr, read_low, hs]
    rfl
  · right
    unfold highW Ieee.Format.order
    rw [hr, read_high, show signB x = false by simpa using hs]
    rfl
end FInt
end Go.Proofs.Ytfmkjolfpjfhbaa
