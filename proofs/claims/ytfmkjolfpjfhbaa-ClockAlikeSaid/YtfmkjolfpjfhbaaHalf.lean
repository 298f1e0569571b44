/- tick.Half: the floor of the middle, for all of int64. -/
import Derived.Test.YtfmkjolfpjfhbaaRows
import Derived.WalkKit
import Derived.WalkSpells
import Derived.WalkLawsBesides
import Derived.Lib.Hide
namespace Go.Proofs.Ytfmkjolfpjfhbaa
open Go.RowKit Go.Lib

namespace Half
theorem nat_sum (n : Nat) : ∀ a b : Nat, a ≤ n → a + b = 2 * (a &&& b) + (a ^^^ b) := by
  induction n with
  | zero => intro a b h; obtain rfl : a = 0 := by omega
            simp
  | succ n ih =>
    intro a b h
    by_cases ha : a = 0
    · subst ha; simp
    have h1 := ih (a / 2) (b / 2) (by omega)
    have e1 : (a &&& b) / 2 = (a / 2) &&& (b / 2) := Nat.and_div_two
    have e2 : (a ^^^ b) / 2 = (a / 2) ^^^ (b / 2) := Nat.xor_div_two
    have m1 : (a &&& b) % 2 = (a % 2) &&& (b % 2) := Nat.and_mod_two_pow (n := 1)
    have m2 : (a ^^^ b) % 2 = (a % 2) ^^^ (b % 2) := Nat.xor_mod_two_pow (n := 1)
    rw [← e1, ← e2] at h1
    generalize a &&& b = p at *
    generalize a ^^^ b = q at *
    rcases Nat.mod_two_eq_zero_or_one a with ha2 | ha2 <;> rcases Nat.mod_two_eq_zero_or_one b with hb2 | hb2 <;> rw [ha2, hb2] at m1 m2 <;> simp at m1 m2 <;> omega

theorem toInt_sum (A B : BitVec 64) : A.toInt + B.toInt = 2 * (A &&& B).toInt + (A ^^^ B).toInt := by
  have h := nat_sum A.toNat A.toNat B.toNat (Nat.le_refl _)
  have e1 : (A &&& B).toNat = A.toNat &&& B.toNat := BitVec.toNat_and A B
  have e2 : (A ^^^ B).toNat = A.toNat ^^^ B.toNat := BitVec.toNat_xor A B
  have m1 : (A &&& B).msb = (A.msb && B.msb) := BitVec.msb_and
  have m2 : (A ^^^ B).msb = (A.msb ^^ B.msb) := BitVec.msb_xor
  rw [BitVec.toInt_eq_msb_cond, BitVec.toInt_eq_msb_cond, BitVec.toInt_eq_msb_cond, BitVec.toInt_eq_msb_cond, m1, m2, e1, e2]
  generalize A.toNat &&& B.toNat = x at *
  generalize A.toNat ^^^ B.toNat = y at *
  cases A.msb <;> cases B.msb <;> simp <;> omega

theorem wrap_toNat (A : BitVec 64) : IntKind.i64.wrap (A.toNat : Int) = A.toInt := by
  rw [IntKind.wrap_i64, BitVec.toInt_eq_toNat_cond]
  have := A.isLt
  split <;> omega

theorem ofInt_toInt (a : Int) (h0 : -9223372036854775808 ≤ a) (h1 : a ≤ 9223372036854775807) : (BitVec.ofInt 64 a).toInt = a := by
  rw [BitVec.toInt_ofInt]
  exact Int.bmod_eq_of_le_mul_two (by omega) (by omega)

theorem and_i64 (a b : Int) : bits .and .i64 a b = (BitVec.ofInt 64 a &&& BitVec.ofInt 64 b).toInt := wrap_toNat _
theorem xor_i64 (a b : Int) : bits .xor .i64 a b = (BitVec.ofInt 64 a ^^^ BitVec.ofInt 64 b).toInt := wrap_toNat _

theorem half_i64 (a b : Int) (a0 : -9223372036854775808 ≤ a) (a1 : a ≤ 9223372036854775807) (b0 : -9223372036854775808 ≤ b) (b1 : b ≤ 9223372036854775807) :
    wrap64 (bits .and .i64 a b + (bits .xor .i64 a b) / 2) = (a + b) / 2 := by
  rw [and_i64, xor_i64]
  have h := toInt_sum (BitVec.ofInt 64 a) (BitVec.ofInt 64 b)
  rw [ofInt_toInt a a0 a1, ofInt_toInt b b0 b1] at h
  unfold wrap64
  omega
end Half

theorem half_any (a b : Int) (w : World) (a0 : -9223372036854775808 ≤ a) (a1 : a ≤ 9223372036854775807) (b0 : -9223372036854775808 ≤ b) (b1 : b ≤ 9223372036854775807) :
    Calls Try.prog 32 #[.int .i64 a, .int .i64 b] w fun e w' => e = .returned (.int .i64 ((a + b) / 2)) ∧ w = w' := by
  have hh := hid (Half.half_i64 a b a0 a1 b0 b1)
  go_enter Try.func32, Try.ntmps32
  go_wp2
  go_ret
  refine ⟨?_, rfl⟩
  show Ending.returned (.int .i64 (wrap64 (bits .and .i64 a b + (bits .xor .i64 a b) / 2))) = _
  rw [hh.out]
end Go.Proofs.Ytfmkjolfpjfhbaa
