/- tocsinref01.Int answers as num.Int: refI's number, or 0 and its reason. -/
import Derived.Test.YtfmkjolfpjfhbaaRefInt
import Derived.Test.YtfmkjolfpjfhbaaDrift
namespace Go.Proofs.Ytfmkjolfpjfhbaa
open Go.RowKit Go.Lib
open FInt (refI expF mant signB cutN sg)

theorem or_digits (F : Nat) (h : F < 4503599627370496) : bits .or .u64 (F : Int) 4503599627370496 = ((4503599627370496 + F : Nat) : Int) := by
  have h1 := bits_or_u64_nat F 4503599627370496 (by omega) (by omega)
  have e : F ||| 4503599627370496 = 4503599627370496 + F := by
    have h2 := Nat.two_pow_add_eq_or_of_lt (i := 52) (b := F) (by omega) 1
    rw [Nat.mul_one] at h2
    rw [Nat.or_comm]
    exact h2.symm
  rw [e] at h1
  exact h1
theorem exp_part (x : Nat) : x / 4503599627370496 % 2048 = expF x := by
  unfold FInt.expF; omega
theorem and_exp (b : Nat) (hb : b < 18446744073709551616) : bits .and .u64 ((b : Int) / 4503599627370496) 2047 = ((expF b : Nat) : Int) := by
  have h := bits_and_u64_nat (b / 4503599627370496) 2047 (by omega) (by omega)
  have e : b / 4503599627370496 &&& 2047 = b / 4503599627370496 % 2048 := Nat.and_two_pow_sub_one_eq_mod _ 11
  rw [e, exp_part] at h
  exact h
theorem and_frac (b : Nat) (hb : b < 18446744073709551616) : bits .and .u64 (b : Int) 4503599627370495 = ((b % 4503599627370496 : Nat) : Int) := by
  have h := bits_and_u64_nat b 4503599627370495 hb (by omega)
  have e : b &&& 4503599627370495 = b % 4503599627370496 := Nat.and_two_pow_sub_one_eq_mod _ 52
  rw [e] at h
  exact h
theorem kind_no (b : Nat) (h : expF b ≤ 2046) : (kindOf b == 1) = false ∧ (kindOf b == 8) = false ∧ (kindOf b == 9) = false := by
  have e := exp_part b
  unfold kindOf
  simp only
  rw [e, if_neg (show ¬ expF b = 2047 by omega)]
  generalize expF b = E
  refine ⟨?_, ?_, ?_⟩ <;> (simp only [beq_eq_false_iff_ne, ne_eq]; repeat' split) <;> omega
theorem kind_inf (b : Nat) (h : b % 9223372036854775808 = 9218868437227405312) : kindOf b = 1 ∨ kindOf b = 8 := by
  have e := exp_part b
  unfold kindOf
  simp only
  rw [e, if_pos (show expF b = 2047 by unfold FInt.expF; omega)]
  split
  · left; rfl
  · right; rfl
theorem sign_ge (b : Nat) (hb : b < 18446744073709551616) : (signB b = true) ↔ (9223372036854775808 : Int) ≤ (b : Int) := by
  unfold FInt.signB
  simp only [beq_iff_eq]
  omega
theorem sg_sgC (b N : Nat) (hb : b < 18446744073709551616) : sg (signB b) N = sgC (b : Int) (N : Int) := by
  unfold FInt.sg sgC
  by_cases h : signB b = true
  · rw [if_pos h, if_pos ((sign_ge b hb).1 h)]
  · rw [if_neg h, if_neg (fun h2 => h ((sign_ge b hb).2 h2))]

theorem refint_num (b : Nat) (Hb : Hid (b < 18446744073709551616)) (w : World) (hn : Hid (nanB b = false)) (hx : expF b ≤ 2046) :
    Calls Try.prog 35 #[.float .f64 b] w fun e w' => e = .returned (intAns b) ∧ w = w' := by
  have hb := Hb.out
  obtain ⟨k1, k8, k9⟩ := kind_no b hx
  have hm := FInt.mant_bd b
  have hE := and_exp b hb
  have hF := and_frac b hb
  have hM := or_digits (b % 4503599627370496) (by omega)
  have hM' : bits .or .u64 ((b % 4503599627370496 : Nat) : Int) 4503599627370496 = ((mant b : Nat) : Int) := hM
  unfold intAns FInt.refI
  by_cases c1 : expF b < 1022
  · rw [if_pos c1]
    exact refint_far b Hb w hn (kindOf b) _ _ _ _ 0 (hid rfl) k1 k8 k9 (hid rfl) hE hF hM' (by omega) (by omega) (hid (.inl ⟨by omega, rfl⟩))
  · rw [if_neg c1]
    by_cases c2 : 1087 ≤ expF b
    · rw [if_pos c2]
      exact refint_far b Hb w hn (kindOf b) _ _ _ _ 4 (hid rfl) k1 k8 k9 (hid rfl) hE hF hM' (by omega) (by omega) (hid (.inr ⟨by omega, rfl⟩))
    · rw [if_neg c2]
      by_cases c3 : 1075 ≤ expF b
      · rw [if_pos c3]
        by_cases c4 : expF b = 1086
        · have hE' : bits .and .u64 ((b : Int) / 4503599627370496) 2047 = 1086 := by rw [hE, c4]; rfl
          by_cases c5 : signB b = true ∧ mant b = 4503599627370496
          · rw [if_neg (fun h => h.2 c5), c4, c5.1, c5.2]
            have hM2 : bits .or .u64 ((b % 4503599627370496 : Nat) : Int) 4503599627370496 = 4503599627370496 := by rw [hM', c5.2]; rfl
            exact refint_least b Hb w hn (kindOf b) _ _ (hid rfl) k1 k8 k9 (hid rfl) hE' hF hM2 ((sign_ge b hb).1 c5.1)
          · rw [if_pos ⟨c4, c5⟩]
            refine refint_over b Hb w hn (kindOf b) _ _ _ (hid rfl) k1 k8 k9 (hid rfl) hE' hF hM' (by omega) (by omega) (hid ?_)
            by_cases c6 : signB b = true
            · right
              intro h
              exact c5 ⟨c6, by omega⟩
            · left
              have : ¬ (9223372036854775808 : Int) ≤ (b : Int) := fun h => c6 ((sign_ge b hb).2 h)
              omega
        · rw [if_neg (fun h => c4 h.1)]
          have h9 := FInt.less_pow hm.2 (show expF b - 1075 ≤ 10 by omega)
          have e1 : ((expF b : Int) - 1075).toNat = expF b - 1075 := by omega
          have e2 : ((mant b : Nat) : Int) * 2 ^ ((expF b : Int) - 1075).toNat = ((mant b * 2 ^ (expF b - 1075) : Nat) : Int) := by rw [e1, Int.natCast_mul, Int.natCast_pow]; rfl
          have e3 : IntKind.u64.wrap (((mant b : Nat) : Int) * 2 ^ ((expF b : Int) - 1075).toNat) = ((mant b * 2 ^ (expF b - 1075) : Nat) : Int) := by
            rw [e2, IntKind.wrap_u64]; omega
          exact refint_shift b Hb w hn (kindOf b) _ _ _ _ _ _ (hid rfl) k1 k8 k9 (hid rfl) hE hF hM' (by omega) (by omega) e3 (by omega) (by omega) (hid (sg_sgC b _ hb).symm)
      · rw [if_neg c3]
        obtain ⟨d, hd⟩ : ∃ d, d = 1075 - expF b := ⟨_, rfl⟩
        have e1 : (-((expF b : Int) - 1075)).toNat = d := by omega
        have p1 : 2 ^ d = 2 * 2 ^ (d - 1) := by
          obtain ⟨j, rfl⟩ : ∃ j, d = j + 1 := ⟨d - 1, by omega⟩
          rw [Nat.add_sub_cancel, Nat.pow_succ, Nat.mul_comm]
        have p2 : 0 < 2 ^ (d - 1) := Nat.two_pow_pos _
        have p3 : 2 ^ (d - 1) ≤ 2 ^ 52 := Nat.pow_le_pow_right (by omega) (by omega)
        have p4 : 2 ^ 52 = 4503599627370496 := rfl
        have m1 := Nat.div_add_mod (mant b) (2 ^ d)
        have m2 := Nat.mod_lt (mant b) (show 0 < 2 ^ d by omega)
        have m3 : mant b / 2 ^ d ≤ mant b := Nat.div_le_self _ _
        have m4 : mant b % 2 ^ d ≤ mant b := Nat.mod_le _ _
        have m5 : mant b / 2 ^ d * 2 ^ d + mant b % 2 ^ d = mant b := by rw [Nat.mul_comm]; exact m1
        have h1 : ((mant b : Nat) : Int) / 2 ^ (-((expF b : Int) - 1075)).toNat = ((mant b / 2 ^ d : Nat) : Int) := by rw [e1, Int.natCast_ediv, Int.natCast_pow]; rfl
        have h2 : ((mant b / 2 ^ d : Nat) : Int) * 2 ^ (-((expF b : Int) - 1075)).toNat = ((mant b : Nat) : Int) - ((mant b % 2 ^ d : Nat) : Int) := by
          have e2 : ((mant b / 2 ^ d : Nat) : Int) * 2 ^ (-((expF b : Int) - 1075)).toNat = ((mant b / 2 ^ d * 2 ^ d : Nat) : Int) := by rw [e1, Int.natCast_mul, Int.natCast_pow]; rfl
          rw [e2]; omega
        have h3 : (2 : Int) ^ ((-((expF b : Int) - 1075)).toNat - 1) = ((2 ^ (d - 1) : Nat) : Int) := by rw [e1, Int.natCast_pow]; rfl
        have hu : (cutN (mant b) (1075 - expF b) : Int) = ((mant b / 2 ^ d : Nat) : Int) + upC ((mant b / 2 ^ d : Nat) : Int) ((mant b % 2 ^ d : Nat) : Int) ((2 ^ (d - 1) : Nat) : Int) := by
          rw [← hd]
          unfold FInt.cutN upC
          generalize mant b / 2 ^ d = q at *
          generalize mant b % 2 ^ d = r at *
          generalize 2 ^ (d - 1) = H at *
          rw [p1]
          by_cases c : 2 * H < 2 * r ∨ 2 * H = 2 * r ∧ q % 2 = 1
          · rw [if_pos c, if_pos (by omega)]; omega
          · rw [if_neg c, if_neg (by omega)]; omega
        exact refint_cut b Hb w hn (kindOf b) _ _ _ _ ((mant b / 2 ^ d : Nat) : Int) ((mant b % 2 ^ d : Nat) : Int) ((2 ^ (d - 1) : Nat) : Int) _ (hid rfl) k1 k8 k9 (hid rfl) hE hF hM' (by omega) (by omega) (by omega) (by omega) h1 h2 h3 (Int.natCast_nonneg _) (by omega) (Int.natCast_nonneg _) (by omega) (by omega) (by omega) (by omega) (hid (by rw [sg_sgC b _ hb, hu]))

/-- The number that a float64 names, as both ways tell it. -/
def intAll (b : Nat) : Value := if nanB b = true then .tuple #[.int .i64 0, .int .i64 3] else if b % 9223372036854775808 = 9218868437227405312 then .tuple #[.int .i64 0, .int .i64 4] else intAns b
theorem exp_fin (b : Nat) (hn : nanB b = false) (hi : b % 9223372036854775808 ≠ 9218868437227405312) : expF b ≤ 2046 := by
  rw [nan_mod] at hn
  have h := of_decide_eq_false hn
  unfold FInt.expF
  omega
theorem refint_all (b : Nat) (Hb : Hid (b < 18446744073709551616)) (w : World) :
    Calls Try.prog 35 #[.float .f64 b] w fun e w' => e = .returned (intAll b) ∧ w = w' := by
  unfold intAll
  by_cases hn : nanB b = true
  · rw [if_pos hn]; exact refint_nan b Hb w (hid hn)
  · have hn' : nanB b = false := by simpa using hn
    rw [if_neg hn]
    by_cases hi : b % 9223372036854775808 = 9218868437227405312
    · rw [if_pos hi]; exact refint_inf b Hb w (hid hn') (hid (kind_inf b hi))
    · rw [if_neg hi]; exact refint_num b Hb w (hid hn') (exp_fin b hn' hi)
theorem int_all (b : Nat) (w : World) :
    Calls Try.prog 33 #[.float .f64 b] w fun e w' => e = .returned (intAll b) ∧ w = w' := by
  unfold intAll
  by_cases hn : nanB b = true
  · rw [if_pos hn]; exact int_nan b w (hid hn)
  · have hn' : nanB b = false := by simpa using hn
    rw [if_neg hn]
    by_cases hi : b % 9223372036854775808 = 9218868437227405312
    · rw [if_pos hi]; exact int_inf b w (hid hn') hi
    · rw [if_neg hi]; exact int_any b w (hid hn') (exp_fin b hn' hi)
end Go.Proofs.Ytfmkjolfpjfhbaa
