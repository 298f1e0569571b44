/- A whole float64 beside 2^63. No program is named here. -/
import Derived.Test.YtfmkjolfpjfhbaaFloatInt
namespace Go.Proofs.Ytfmkjolfpjfhbaa
open Go.RowKit Go.Lib

namespace FInt
def sg (s : Bool) (n : Nat) : Int := if s = true then -(n : Int) else n
theorem compare_scale (x y : Int) (c : Int) (hc : 0 < c) : compare (x * c) (y * c) = compare x y := by
  have h1 : x * c < y * c ↔ x < y := ⟨fun h => Int.lt_of_mul_lt_mul_right h (by omega), fun h => Int.mul_lt_mul_of_pos_right h hc⟩
  have h2 : x * c = y * c ↔ x = y := ⟨fun h => Int.eq_of_mul_eq_mul_right (by omega) h, fun h => by rw [h]⟩
  show compareOfLessAndEq _ _ = compareOfLessAndEq _ _
  unfold compareOfLessAndEq
  simp only [h1, h2]
theorem signed_eq (s : Bool) (m k : Nat) : Ieee.signed s m k = sg s (m * 2 ^ k) := by
  unfold Ieee.signed sg
  rw [Nat.shiftLeft_eq]
theorem sg_mul (s : Bool) (n c : Nat) : sg s (n * c) = sg s n * (c : Int) := by
  unfold sg
  cases s <;> simp [Int.neg_mul]
theorem two63 (k : Nat) : 4503599627370496 * 2 ^ (11 + k) = 9223372036854775808 * 2 ^ k := by
  rw [Nat.pow_add, ← Nat.mul_assoc]
theorem ord_whole (s t : Bool) (N kept : Nat) (last : Int) (hN : N = kept * 2 ^ last.toNat ∧ 0 ≤ last ∨ kept = N * 2 ^ (-last).toNat ∧ last < 0) :
    Ieee.Datum.order (.number s kept last) (.number t 4503599627370496 11) = some (compare (sg s N) (sg t 9223372036854775808)) := by
  unfold Ieee.Datum.order
  simp only [signed_eq]
  congr 1
  rcases hN with ⟨h, h0⟩ | ⟨h, h0⟩
  · obtain ⟨k, hk⟩ : ∃ k : Nat, (min last 11).toNat = k := ⟨_, rfl⟩
    have e1 : kept * 2 ^ (last - min last 11).toNat * 2 ^ k = N := by
      rw [h, Nat.mul_assoc, ← Nat.pow_add]
      congr 2
      omega
    have e2 : 4503599627370496 * 2 ^ (11 - min last 11).toNat * 2 ^ k = 9223372036854775808 := by
      rw [Nat.mul_assoc, ← Nat.pow_add, show (11 - min last 11).toNat + k = 11 by omega]
    rw [← compare_scale (sg s (kept * 2 ^ (last - min last 11).toNat)) (sg t (4503599627370496 * 2 ^ (11 - min last 11).toNat)) ((2 ^ k : Nat) : Int) (by have := Nat.two_pow_pos k; omega), ← sg_mul, ← sg_mul, e1, e2]
  · have hm : min last 11 = last := by omega
    rw [hm]
    obtain ⟨k, hk⟩ : ∃ k : Nat, (-last).toNat = k := ⟨_, rfl⟩
    rw [hk] at h
    have e1 : kept * 2 ^ (last - last).toNat = N * 2 ^ k := by
      rw [h, Int.sub_self]
      simp
    have e2 : 4503599627370496 * 2 ^ (11 - last).toNat = 9223372036854775808 * 2 ^ k := by
      rw [show (11 - last).toNat = 11 + k by omega, two63]
    rw [e1, e2, sg_mul, sg_mul, compare_scale _ _ _ (by have := Nat.two_pow_pos k; omega)]
/-- Every number below 2^53 has its place. -/
theorem whole_small (N : Nat) (h0 : 0 < N) (h1 : N < 9007199254740992) : ∃ (kept : Nat) (last : Int), 4503599627370496 ≤ kept ∧ kept < 9007199254740992 ∧ -52 ≤ last ∧ last ≤ 0 ∧ (N = kept * 2 ^ last.toNat ∧ 0 ≤ last ∨ kept = N * 2 ^ (-last).toNat ∧ last < 0) := by
  have hne : N ≠ 0 := by omega
  obtain ⟨g, hg⟩ : ∃ g, N.log2 = g := ⟨_, rfl⟩
  obtain ⟨b0, b1⟩ := (Nat.log2_eq_iff hne).1 hg
  have hg52 : g ≤ 52 := by
    rcases Nat.lt_or_ge 52 g with h | h
    · have := Nat.pow_le_pow_right (n := 2) (by omega) (show 53 ≤ g by omega)
      have e : 2 ^ 53 = 9007199254740992 := rfl
      omega
    · exact h
  obtain ⟨d, hd⟩ : ∃ d, d = 52 - g := ⟨_, rfl⟩
  have hp := Nat.two_pow_pos d
  have p0 : 2 ^ g * 2 ^ d = 4503599627370496 := by rw [← Nat.pow_add, show g + d = 52 by omega]
  have p1 : 2 ^ (g + 1) * 2 ^ d = 9007199254740992 := by rw [← Nat.pow_add, show g + 1 + d = 53 by omega]
  have q0 : 2 ^ g * 2 ^ d ≤ N * 2 ^ d := Nat.mul_le_mul_right _ b0
  have q1 : N * 2 ^ d < 2 ^ (g + 1) * 2 ^ d := Nat.mul_lt_mul_of_pos_right b1 hp
  rw [p0] at q0
  rw [p1] at q1
  refine ⟨N * 2 ^ d, -(d : Int), q0, q1, by omega, by omega, ?_⟩
  by_cases hd0 : d = 0
  · left
    rw [hd0]
    simp
  · right
    exact ⟨by rw [show (- -(d : Int)).toNat = d by omega], by omega⟩
/-- What the number r (a word) is worth, where it is a whole one. -/
structure Whole (r : Nat) (s : Bool) (N : Nat) : Prop where
  ex : ∃ (kept : Nat) (last : Int), dbl.read r = .number s kept last ∧ (N = kept * 2 ^ last.toNat ∧ 0 ≤ last ∨ kept = N * 2 ^ (-last).toNat ∧ last < 0)
theorem read_low : dbl.read 14114281232179134464 = .number true 4503599627370496 11 := by
  rw [read_norm _ (by decide) (by decide)]
  rfl
theorem read_high : dbl.read 4890909195324358656 = .number false 4503599627370496 11 := by
  rw [read_norm _ (by decide) (by decide)]
  rfl
theorem Whole.low {r : Nat} {s : Bool} {N : Nat} (h : Whole r s N) : dbl.order r 14114281232179134464 = some (compare (sg s N) (-9223372036854775808)) := by
  obtain ⟨kept, last, hr, hN⟩ := h.ex
  unfold Ieee.Format.order
  rw [hr, read_low, ord_whole s true N kept last hN]
  rfl
theorem Whole.high {r : Nat} {s : Bool} {N : Nat} (h : Whole r s N) : dbl.order r 4890909195324358656 = some (compare (sg s N) 9223372036854775808) := by
  obtain ⟨kept, last, hr, hN⟩ := h.ex
  unfold Ieee.Format.order
  rw [hr, read_high, ord_whole s false N kept last hN]
  rfl
/-- A whole number that has its place is written and read again. -/
theorem whole_write (s : Bool) (N kept : Nat) (last : Int) (hk0 : 4503599627370496 ≤ kept) (hk1 : kept < 9007199254740992) (hl0 : -52 ≤ last) (hl1 : last ≤ 971)
    (hN : N = kept * 2 ^ last.toNat ∧ 0 ≤ last ∨ kept = N * 2 ^ (-last).toNat ∧ last < 0) : Whole (dbl.write (.number s N 0)) s N :=
  ⟨kept, last, read_whole s N kept last hk0 hk1 hl0 hl1 hN, hN⟩
theorem whole_write_small (s : Bool) (N : Nat) (h0 : 0 < N) (h1 : N < 9007199254740992) : Whole (dbl.write (.number s N 0)) s N := by
  obtain ⟨kept, last, a, b, c, d, e⟩ := whole_small N h0 h1
  exact whole_write s N kept last a b c (by omega) e
end FInt
end Go.Proofs.Ytfmkjolfpjfhbaa
