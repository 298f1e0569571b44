/- tocsinref01.Int: by the bits, as refI says. -/
import Derived.Test.YtfmkjolfpjfhbaaRefKindB
namespace Go.Proofs.Ytfmkjolfpjfhbaa
open Go.RowKit Go.Lib

/-- What the rounding adds to the quotient. -/
def upC (q r H : Int) : Int := if H < r ∨ r = H ∧ q % 2 = 1 then 1 else 0
def sgC (x n : Int) : Int := if 9223372036854775808 ≤ x then -n else n

set_option maxRecDepth 100000 in
set_option maxHeartbeats 1000000 in
theorem refint_cut (b : Nat) (hb : Hid (b < 18446744073709551616)) (w : World) (hn : Hid (nanB b = false)) (k E F M x q r H v : Int) (hk : Hid (kindOf b = k)) (k1 : (k == 1) = false) (k8 : (k == 8) = false) (k9 : (k == 9) = false) (hx : Hid ((b : Int) = x))
    (hE : bits .and .u64 (x / 4503599627370496) 2047 = E) (hF : bits .and .u64 x 4503599627370495 = F) (hM : bits .or .u64 F 4503599627370496 = M) (M0 : 4503599627370496 ≤ M) (M1 : M < 9007199254740992) (E0 : 1022 ≤ E) (E1 : E ≤ 1074)
    (h1 : M / 2 ^ (-(E - 1075)).toNat = q) (h2 : q * 2 ^ (-(E - 1075)).toNat = M - r) (h3 : (2 : Int) ^ ((-(E - 1075)).toNat - 1) = H) (q0 : 0 ≤ q) (q1 : q < 9007199254740992) (r0 : 0 ≤ r) (r1 : r < 9007199254740992) (r2 : r ≤ M) (H0 : 0 < H) (H1 : H < 9007199254740992)
    (hv : Hid (sgC x (q + upC q r H) = v)) :
    Calls Try.prog 35 #[.float .f64 b] w fun e w' => e = .returned (.tuple #[.int .i64 v, .int .i64 0]) ∧ w = w' := by
  have hone : ∀ w' : World, Calls Try.prog 42 #[.float .f64 b] w' fun e w2 => e = .returned (.int .u64 x) ∧ w' = w2 := by rw [← hx.out]; exact fun w' => refone_num b hb w' hn
  have hkd : ∀ w' : World, Calls Try.prog 43 #[.float .f64 b] w' fun e w2 => e = .returned (.int .i64 k) ∧ w' = w2 := by rw [← hk.out]; exact fun w' => refkind_num b hb w' hn
  have Hone := hid hone; have Hkd := hid hkd
  clear hone hkd
  go_enter Try.func35, Try.ntmps35
  go_wp2_with fail
  refine (Hone.out _).mono ?_
  rintro e w' ⟨rfl, rfl⟩
  go_wp2_with fail
  refine (Hkd.out _).mono ?_
  rintro e w' ⟨rfl, rfl⟩
  go_wp2_with fail
  all_goals
    go_ret2
    refine ⟨congrArg (fun n => Ending.returned (Value.tuple #[.int .i64 n, .int .i64 0])) ?_, rfl⟩
    rw [← hv.out]
    clear hE hF hM h1 h2 h3 hv hx hk hb hn Hone Hkd k1 k8 k9
    unfold sgC upC
    first
      | (have hq : q % 2 = 1 := by simpa using (show (q % 2 == 1) = true by assumption)
         first
           | rw [if_pos (by omega), if_pos (by omega)]
           | rw [if_neg (by omega), if_pos (by omega)])
      | (have hq : ¬ q % 2 = 1 := by simpa using (show (q % 2 == 1) = false by assumption)
         first
           | (rw [if_pos (by omega), if_neg (by omega)]; omega)
           | (rw [if_neg (by omega), if_neg (by omega)]; omega))
      | rw [if_pos (by omega), if_pos (by omega)]
      | rw [if_neg (by omega), if_pos (by omega)]
      | (rw [if_pos (by omega), if_neg (by omega)]; omega)
      | (rw [if_neg (by omega), if_neg (by omega)]; omega)

set_option maxRecDepth 100000 in
set_option maxHeartbeats 1000000 in
theorem refint_shift (b : Nat) (hb : Hid (b < 18446744073709551616)) (w : World) (hn : Hid (nanB b = false)) (k E F M x N v : Int) (hk : Hid (kindOf b = k)) (k1 : (k == 1) = false) (k8 : (k == 8) = false) (k9 : (k == 9) = false) (hx : Hid ((b : Int) = x))
    (hE : bits .and .u64 (x / 4503599627370496) 2047 = E) (hF : bits .and .u64 x 4503599627370495 = F) (hM : bits .or .u64 F 4503599627370496 = M) (E0 : 1075 ≤ E) (E1 : E ≤ 1085)
    (h1 : IntKind.u64.wrap (M * 2 ^ (E - 1075).toNat) = N) (N0 : 0 ≤ N) (N1 : N < 9223372036854775808)
    (hv : Hid (sgC x N = v)) :
    Calls Try.prog 35 #[.float .f64 b] w fun e w' => e = .returned (.tuple #[.int .i64 v, .int .i64 0]) ∧ w = w' := by
  have hone : ∀ w' : World, Calls Try.prog 42 #[.float .f64 b] w' fun e w2 => e = .returned (.int .u64 x) ∧ w' = w2 := by rw [← hx.out]; exact fun w' => refone_num b hb w' hn
  have hkd : ∀ w' : World, Calls Try.prog 43 #[.float .f64 b] w' fun e w2 => e = .returned (.int .i64 k) ∧ w' = w2 := by rw [← hk.out]; exact fun w' => refkind_num b hb w' hn
  have Hone := hid hone; have Hkd := hid hkd
  clear hone hkd
  have e11 : (E - 1075 == 11) = false := by simp; omega
  go_enter Try.func35, Try.ntmps35
  go_wp2_with fail
  refine (Hone.out _).mono ?_
  rintro e w' ⟨rfl, rfl⟩
  go_wp2_with fail
  refine (Hkd.out _).mono ?_
  rintro e w' ⟨rfl, rfl⟩
  go_wp2_with fail
  all_goals
    go_ret2
    refine ⟨congrArg (fun n => Ending.returned (Value.tuple #[.int .i64 n, .int .i64 0])) ?_, rfl⟩
    rw [← hv.out]
    unfold sgC
    first
      | (rw [if_pos (by omega)])
      | (rw [if_neg (by omega)])

set_option maxRecDepth 100000 in
set_option maxHeartbeats 1000000 in
/-- At the last exponent: just the least of 64 bits. -/
theorem refint_least (b : Nat) (hb : Hid (b < 18446744073709551616)) (w : World) (hn : Hid (nanB b = false)) (k F x : Int) (hk : Hid (kindOf b = k)) (k1 : (k == 1) = false) (k8 : (k == 8) = false) (k9 : (k == 9) = false) (hx : Hid ((b : Int) = x))
    (hE : bits .and .u64 (x / 4503599627370496) 2047 = 1086) (hF : bits .and .u64 x 4503599627370495 = F) (hM : bits .or .u64 F 4503599627370496 = 4503599627370496) (hs : 9223372036854775808 ≤ x) :
    Calls Try.prog 35 #[.float .f64 b] w fun e w' => e = .returned (.tuple #[.int .i64 (-9223372036854775808), .int .i64 0]) ∧ w = w' := by
  have hone : ∀ w' : World, Calls Try.prog 42 #[.float .f64 b] w' fun e w2 => e = .returned (.int .u64 x) ∧ w' = w2 := by rw [← hx.out]; exact fun w' => refone_num b hb w' hn
  have hkd : ∀ w' : World, Calls Try.prog 43 #[.float .f64 b] w' fun e w2 => e = .returned (.int .i64 k) ∧ w' = w2 := by rw [← hk.out]; exact fun w' => refkind_num b hb w' hn
  have Hone := hid hone; have Hkd := hid hkd
  clear hone hkd
  go_enter Try.func35, Try.ntmps35
  go_wp2_with fail
  refine (Hone.out _).mono ?_
  rintro e w' ⟨rfl, rfl⟩
  go_wp2_with fail
  refine (Hkd.out _).mono ?_
  rintro e w' ⟨rfl, rfl⟩
  go_wp2_with fail
  go_ret2
  exact ⟨congrArg (fun n => Ending.returned (Value.tuple #[.int .i64 n, .int .i64 0])) (show wrap64 (-wrap64 9223372036854775808) = -9223372036854775808 by unfold wrap64; omega), rfl⟩

set_option maxRecDepth 100000 in
set_option maxHeartbeats 1000000 in
theorem refint_over (b : Nat) (hb : Hid (b < 18446744073709551616)) (w : World) (hn : Hid (nanB b = false)) (k F M x : Int) (hk : Hid (kindOf b = k)) (k1 : (k == 1) = false) (k8 : (k == 8) = false) (k9 : (k == 9) = false) (hx : Hid ((b : Int) = x))
    (hE : bits .and .u64 (x / 4503599627370496) 2047 = 1086) (hF : bits .and .u64 x 4503599627370495 = F) (hM : bits .or .u64 F 4503599627370496 = M) (M0 : 4503599627370496 ≤ M) (M1 : M < 9007199254740992) (hs : Hid (x < 9223372036854775808 ∨ M ≠ 4503599627370496)) :
    Calls Try.prog 35 #[.float .f64 b] w fun e w' => e = .returned (.tuple #[.int .i64 0, .int .i64 4]) ∧ w = w' := by
  have hone : ∀ w' : World, Calls Try.prog 42 #[.float .f64 b] w' fun e w2 => e = .returned (.int .u64 x) ∧ w' = w2 := by rw [← hx.out]; exact fun w' => refone_num b hb w' hn
  have hkd : ∀ w' : World, Calls Try.prog 43 #[.float .f64 b] w' fun e w2 => e = .returned (.int .i64 k) ∧ w' = w2 := by rw [← hk.out]; exact fun w' => refkind_num b hb w' hn
  have Hone := hid hone; have Hkd := hid hkd
  clear hone hkd
  go_enter Try.func35, Try.ntmps35
  go_wp2_with fail
  refine (Hone.out _).mono ?_
  rintro e w' ⟨rfl, rfl⟩
  go_wp2_with fail
  refine (Hkd.out _).mono ?_
  rintro e w' ⟨rfl, rfl⟩
  go_wp2_with fail
  all_goals first
    | (go_ret2; exact ⟨rfl, rfl⟩)
    | (exfalso
       have hq : M = 4503599627370496 := by simpa using (show (!M == 4503599627370496) = false by assumption)
       have hs' := hs.out
       omega)

set_option maxRecDepth 100000 in
set_option maxHeartbeats 1000000 in
theorem refint_far (b : Nat) (hb : Hid (b < 18446744073709551616)) (w : World) (hn : Hid (nanB b = false)) (k E F M x a : Int) (hk : Hid (kindOf b = k)) (k1 : (k == 1) = false) (k8 : (k == 8) = false) (k9 : (k == 9) = false) (hx : Hid ((b : Int) = x))
    (hE : bits .and .u64 (x / 4503599627370496) 2047 = E) (hF : bits .and .u64 x 4503599627370495 = F) (hM : bits .or .u64 F 4503599627370496 = M) (E0 : 0 ≤ E) (E1 : E ≤ 2046) (hs : Hid (E < 1022 ∧ a = 0 ∨ 1087 ≤ E ∧ a = 4)) :
    Calls Try.prog 35 #[.float .f64 b] w fun e w' => e = .returned (.tuple #[.int .i64 0, .int .i64 a]) ∧ w = w' := by
  have hone : ∀ w' : World, Calls Try.prog 42 #[.float .f64 b] w' fun e w2 => e = .returned (.int .u64 x) ∧ w' = w2 := by rw [← hx.out]; exact fun w' => refone_num b hb w' hn
  have hkd : ∀ w' : World, Calls Try.prog 43 #[.float .f64 b] w' fun e w2 => e = .returned (.int .i64 k) ∧ w' = w2 := by rw [← hk.out]; exact fun w' => refkind_num b hb w' hn
  have Hone := hid hone; have Hkd := hid hkd
  clear hone hkd
  rcases hs.out with ⟨hs1, rfl⟩ | ⟨hs1, rfl⟩
  all_goals
    clear hs
    go_enter Try.func35, Try.ntmps35
    go_wp2_with fail
    refine (Hone.out _).mono ?_
    rintro e w' ⟨rfl, rfl⟩
    go_wp2_with fail
    refine (Hkd.out _).mono ?_
    rintro e w' ⟨rfl, rfl⟩
    go_wp2_with fail
    go_ret2
    exact ⟨rfl, rfl⟩

set_option maxRecDepth 100000 in
set_option maxHeartbeats 1000000 in
theorem refint_inf (b : Nat) (hb : Hid (b < 18446744073709551616)) (w : World) (hn : Hid (nanB b = false)) (hk : Hid (kindOf b = 1 ∨ kindOf b = 8)) :
    Calls Try.prog 35 #[.float .f64 b] w fun e w' => e = .returned (.tuple #[.int .i64 0, .int .i64 4]) ∧ w = w' := by
  rcases hk.out with h | h
  all_goals
    have hkd : ∀ w' : World, Calls Try.prog 43 #[.float .f64 b] w' fun e w2 => e = .returned (.int .i64 (kindOf b)) ∧ w' = w2 := fun w' => refkind_num b hb w' hn
    rw [h] at hkd
    have Hkd := hid hkd
    clear hkd h hk
    go_enter Try.func35, Try.ntmps35
    go_wp2_with fail
    refine (refone_num b hb _ hn).mono ?_
    rintro e w' ⟨rfl, rfl⟩
    go_wp2_with fail
    refine (Hkd.out _).mono ?_
    rintro e w' ⟨rfl, rfl⟩
    go_wp2_with fail
    go_ret2
    exact ⟨rfl, rfl⟩

set_option maxRecDepth 100000 in
set_option maxHeartbeats 1000000 in
theorem refint_nan (b : Nat) (hb : Hid (b < 18446744073709551616)) (w : World) (hn : Hid (nanB b = true)) :
    Calls Try.prog 35 #[.float .f64 b] w fun e w' => e = .returned (.tuple #[.int .i64 0, .int .i64 3]) ∧ w = w' := by
  go_enter Try.func35, Try.ntmps35
  go_wp2_with fail
  refine (refone_nan b hb _ hn).mono ?_
  rintro e w' ⟨rfl, rfl⟩
  go_wp2_with fail
  refine (refkind_nan b hb _ hn).mono ?_
  rintro e w' ⟨rfl, rfl⟩
  go_wp2_with fail
  go_ret2
  exact ⟨rfl, rfl⟩
end Go.Proofs.Ytfmkjolfpjfhbaa
