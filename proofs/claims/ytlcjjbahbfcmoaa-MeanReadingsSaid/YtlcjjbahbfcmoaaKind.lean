/- num.Kind. -/
import Derived.Test.YtlcjjbahbfcmoaaFloatA
import Derived.Laws.Bits64b
import Derived.Laws.Externs
namespace Go.Proofs.Ytlcjjbahbfcmoaa
open Go.RowKit Go.Lib

theorem bits_run (b : Nat) (w : World) : (callFunc 20 #[.float .f64 b]).run Try.prog w = .ok (.value (.int .u64 b)) w := by
  rw [run_callFunc_extern (e := Extern.MathFloatBits.float64bits) Try.func20 (by kernel_rfl) (by kernel_rfl) (by kernel_rfl) (by kernel_rfl)]
  rfl

theorem and_exp (b : Nat) (hb : b < 18446744073709551616) : bits .and .u64 ((b : Int) / 4503599627370496) 2047 = ((b / 4503599627370496 % 2048 : Nat) : Int) := by
  have h := bits_and_u64_nat (b / 4503599627370496) 2047 (by omega) (by omega)
  have e : b / 4503599627370496 &&& 2047 = b / 4503599627370496 % 2048 := Nat.and_two_pow_sub_one_eq_mod _ 11
  rw [e] at h
  exact h
theorem and_frac (b : Nat) (hb : b < 18446744073709551616) : bits .and .u64 (b : Int) 4503599627370495 = ((b % 4503599627370496 : Nat) : Int) := by
  have h := bits_and_u64_nat b 4503599627370495 hb (by omega)
  have e : b &&& 4503599627370495 = b % 4503599627370496 := Nat.and_two_pow_sub_one_eq_mod _ 52
  rw [e] at h
  exact h

/-- A number's kind, its word no NaN: from its sign, exponent field and fraction field. -/
def kindOf (b : Nat) : Int :=
  let k : Int := if b / 4503599627370496 % 2048 = 2047 then 8 else if b / 4503599627370496 % 2048 = 0 ∧ b % 4503599627370496 = 0 then 5 else if b / 4503599627370496 % 2048 = 0 then 6 else 7
  if b / 9223372036854775808 = 1 then 9 - k else k

theorem kind_nan (b : Nat) (w : World) (hn : Hid (nanB b = true)) :
    Calls Try.prog 31 #[.float .f64 b] w fun e w' => e = .returned (.int .i64 9) ∧ w = w' := by
  have hf := bits_run
  go_enter Try.func31, Try.ntmps31
  go_wp2_with (go_at_call 44; refine (isnan_at b _ _ hn).mono ?_; rintro e w' ⟨rfl, rfl⟩)
  go_ret
  exact ⟨rfl, rfl⟩

set_option maxRecDepth 100000 in
set_option maxHeartbeats 1000000 in
theorem kind_num (b : Nat) (hb : Hid (b < 18446744073709551616)) (w : World) (hn : Hid (nanB b = false)) :
    Calls Try.prog 31 #[.float .f64 b] w fun e w' => e = .returned (.int .i64 (kindOf b)) ∧ w = w' := by
  have hf := bits_run
  obtain ⟨r, hr⟩ : ∃ r, Hid (kindOf b = r) := ⟨_, hid rfl⟩
  rw [hr.out]
  have he := and_exp b hb.out
  have hfr := and_frac b hb.out
  have hR := hr.out
  unfold kindOf at hR
  have hsg : (b : Int) / 9223372036854775808 = ((b / 9223372036854775808 : Nat) : Int) := by omega
  obtain ⟨x, hx⟩ : ∃ x, b / 4503599627370496 % 2048 = x := ⟨_, rfl⟩
  obtain ⟨y, hy⟩ : ∃ y, b % 4503599627370496 = y := ⟨_, rfl⟩
  obtain ⟨z, hz⟩ : ∃ z, b / 9223372036854775808 = z := ⟨_, rfl⟩
  rw [hx] at he hR
  rw [hy] at hfr hR
  rw [hz] at hsg hR
  have He := hid he; have Hfr := hid hfr; have Hsg := hid hsg; have HR := hid hR
  clear he hfr hsg hR hx hy hz
  go_enter Try.func31, Try.ntmps31
  go_wp2_with (go_at_call 44; refine (isnan_at b _ _ hn).mono ?_; rintro e w' ⟨rfl, rfl⟩)
  all_goals go_ret
  all_goals refine ⟨congrArg (fun q => Ending.returned (Value.int IntKind.i64 q)) ?_, rfl⟩
  all_goals
    have h1 := He.out
    have h2 := Hfr.out
    have h3 := Hsg.out
    have hR := HR.out
    have hA : (bits BinOp.and IntKind.u64 (↑b / 4503599627370496) 2047 == 2047) = decide (x = 2047) := by rw [h1, Bool.eq_iff_iff]; simp; omega
    have hB : (bits BinOp.and IntKind.u64 (↑b / 4503599627370496) 2047 == 0) = decide (x = 0) := by rw [h1, Bool.eq_iff_iff]; simp
    have hB' : (bits BinOp.and IntKind.u64 (↑b / 4503599627370496) 2047 = 0) = (x = 0) := by rw [h1]; simp
    have hC : (bits BinOp.and IntKind.u64 (↑b) 4503599627370495 == 0) = decide (y = 0) := by rw [h2, Bool.eq_iff_iff]; simp
    have hD : ((b : Int) / 9223372036854775808 == 1) = decide (z = 1) := by rw [h3, Bool.eq_iff_iff]; simp; omega
    clear h1 h2 h3
    rw [← hR]
    clear hR HR hr He Hfr Hsg hf
    simp only [hA, hB, hB', hC, hD, decide_eq_true_eq, decide_eq_false_iff_not] at *
    clear hA hB hB' hC hD
    simp [*]
end Go.Proofs.Ytlcjjbahbfcmoaa
