/- tocsinref01.One, Kind at layer 4: by the bits (as in RefKind, without num.Kind). -/
import Derived.Test.YtfmkjolfpjfhbaaFloatAny
import Derived.Laws.Bits64b
import Derived.Laws.Externs
namespace Go.Proofs.Ytfmkjolfpjfhbaa
open Go.RowKit Go.Lib

theorem bits_run (b : Nat) (w : World) : (callFunc 50 #[.float .f64 b]).run Try.prog w = .ok (.value (.int .u64 b)) w := by
  rw [run_callFunc_extern (e := Extern.MathFloatBits.float64bits) Try.func50 (by kernel_rfl) (by kernel_rfl) (by kernel_rfl) (by kernel_rfl)]
  rfl

/-- A number's kind, its word no NaN: from its sign, exponent field and fraction field. -/
def kindOf (b : Nat) : Int :=
  let k : Int := if b / 4503599627370496 % 2048 = 2047 then 8 else if b / 4503599627370496 % 2048 = 0 ∧ b % 4503599627370496 = 0 then 5 else if b / 4503599627370496 % 2048 = 0 then 6 else 7
  if b / 9223372036854775808 = 1 then 9 - k else k

theorem nan_mod (b : Nat) : nanB b = decide (9218868437227405312 < b % 9223372036854775808) := by
  have h1 : Ieee.double.signWeight = 9223372036854775808 := by decide
  have h2 : Ieee.double.binade = 4503599627370496 := by decide
  have h3 : Ieee.double.infRung = 9218868437227405312 := by decide
  rw [nanB_eq]
  show (Ieee.double.read b).isNaN = _
  unfold Ieee.Format.read
  simp only [h1, h2, h3]
  by_cases c1 : b % 9223372036854775808 < 4503599627370496
  · rw [if_pos c1, decide_eq_false (by omega)]; rfl
  · rw [if_neg c1]
    by_cases c2 : b % 9223372036854775808 < 9218868437227405312
    · rw [if_pos c2, decide_eq_false (by omega)]; rfl
    · rw [if_neg c2]
      by_cases c3 : b % 9223372036854775808 = 9218868437227405312
      · rw [if_pos c3, decide_eq_false (by omega)]; rfl
      · rw [if_neg c3, decide_eq_true (by omega)]; rfl

theorem and_low (b : Nat) (hb : b < 18446744073709551616) : bits .and .u64 (b : Int) 9223372036854775807 = ((b % 9223372036854775808 : Nat) : Int) := by
  have h := bits_and_u64_nat b 9223372036854775807 hb (by omega)
  have e : b &&& 9223372036854775807 = b % 9223372036854775808 := Nat.and_two_pow_sub_one_eq_mod _ 63
  rw [e] at h
  exact h

theorem refone_num (b : Nat) (hb : Hid (b < 18446744073709551616)) (w : World) (hn : Hid (nanB b = false)) :
    Calls Try.prog 42 #[.float .f64 b] w fun e w' => e = .returned (.int .u64 b) ∧ w = w' := by
  have hf := bits_run
  have hm := and_low b hb.out
  have h0 := hn.out
  rw [nan_mod] at h0
  have h1 : b % 9223372036854775808 ≤ 9218868437227405312 := by simpa using h0
  clear h0
  obtain ⟨m, hx⟩ : ∃ m, b % 9223372036854775808 = m := ⟨_, rfl⟩
  rw [hx] at hm h1
  clear hx hn
  go_enter Try.func42, Try.ntmps42
  go_wp2_with fail
  go_ret
  exact ⟨rfl, rfl⟩

theorem refone_nan (b : Nat) (hb : Hid (b < 18446744073709551616)) (w : World) (hn : Hid (nanB b = true)) :
    Calls Try.prog 42 #[.float .f64 b] w fun e w' => e = .returned (.int .u64 9221120237041090561) ∧ w = w' := by
  have hf := bits_run
  have hm := and_low b hb.out
  have h0 := hn.out
  rw [nan_mod] at h0
  have h1 : 9218868437227405312 < b % 9223372036854775808 := by simpa using h0
  clear h0
  obtain ⟨m, hx⟩ : ∃ m, b % 9223372036854775808 = m := ⟨_, rfl⟩
  rw [hx] at hm h1
  clear hx hn
  go_enter Try.func42, Try.ntmps42
  go_wp2_with fail
  go_ret
  exact ⟨rfl, rfl⟩

theorem refkind_nan (b : Nat) (hb : Hid (b < 18446744073709551616)) (w : World) (hn : Hid (nanB b = true)) :
    Calls Try.prog 43 #[.float .f64 b] w fun e w' => e = .returned (.int .i64 9) ∧ w = w' := by
  have hm := and_low 9221120237041090561 (by omega)
  have hm' : bits .and .u64 9221120237041090561 9223372036854775807 = 9221120237041090561 := hm
  clear hm
  go_enter Try.func43, Try.ntmps43
  go_wp2_with (go_at_call 42; refine (refone_nan b hb _ hn).mono ?_; rintro e w' ⟨rfl, rfl⟩)
  go_ret
  exact ⟨rfl, rfl⟩

set_option maxRecDepth 100000 in
set_option maxHeartbeats 1000000 in
theorem refkind_num (b : Nat) (hb : Hid (b < 18446744073709551616)) (w : World) (hn : Hid (nanB b = false)) :
    Calls Try.prog 43 #[.float .f64 b] w fun e w' => e = .returned (.int .i64 (kindOf b)) ∧ w = w' := by
  have hm := and_low b hb.out
  have h0 := hn.out
  rw [nan_mod] at h0
  have h1 : b % 9223372036854775808 ≤ 9218868437227405312 := by simpa using h0
  clear h0
  obtain ⟨r, hr⟩ : ∃ r, Hid (kindOf b = r) := ⟨_, hid rfl⟩
  rw [hr.out]
  obtain ⟨m, hx⟩ : ∃ m : Int, Hid (((b % 9223372036854775808 : Nat) : Int) = m) := ⟨_, hid rfl⟩
  have h2 : 0 ≤ m ∧ m ≤ 9218868437227405312 := by have := hx.out; omega
  clear h1
  obtain ⟨h0, h1⟩ := h2
  rw [hx.out] at hm
  have hR := hr.out
  unfold kindOf at hR
  simp only at hR
  have HR := hid hR
  clear hR
  have hone := fun w' => refone_num b hb w' hn
  obtain ⟨x, hxb⟩ : ∃ x : Int, Hid ((b : Int) = x) := ⟨_, hid rfl⟩
  rw [hxb.out] at hm
  simp only [hxb.out] at hone
  have Hm := hid hm
  clear hm
  by_cases hs : 9223372036854775808 ≤ x
  · have Hs := hid hs
    rcases (by omega : m = 9218868437227405312 ∨ (4503599627370496 ≤ m ∧ m < 9218868437227405312) ∨ (0 < m ∧ m < 4503599627370496) ∨ m = 0) with c | ⟨c, c'⟩ | ⟨c, c'⟩ | c
    · have hq : r = 1 := by
        have h2 := HR.out; have h3 := hx.out; have h4 := hb.out; have h5 := hxb.out; have hs := Hs.out
        split at h2 <;> split at h2 <;> first | omega | (split at h2 <;> first | omega | (split at h2 <;> omega))
      subst hq
      subst c
      have hm := Hm.out
      clear h1 HR hx hr
      clear hb hxb hn Hs
      go_enter Try.func43, Try.ntmps43
      go_wp2_with (go_at_call 42; refine (hone _).mono ?_; rintro e w' ⟨rfl, rfl⟩)
      go_ret
      exact ⟨rfl, rfl⟩
    · have hq : r = 2 := by
        have h2 := HR.out; have h3 := hx.out; have h4 := hb.out; have h5 := hxb.out; have hs := Hs.out
        split at h2 <;> split at h2 <;> first | omega | (split at h2 <;> first | omega | (split at h2 <;> omega))
      subst hq
      have hm := Hm.out
      clear HR hx hr
      clear hb hxb hn Hs
      go_enter Try.func43, Try.ntmps43
      go_wp2_with (go_at_call 42; refine (hone _).mono ?_; rintro e w' ⟨rfl, rfl⟩)
      go_ret
      exact ⟨rfl, rfl⟩
    · have hq : r = 3 := by
        have h2 := HR.out; have h3 := hx.out; have h4 := hb.out; have h5 := hxb.out; have hs := Hs.out
        split at h2 <;> split at h2 <;> first | omega | (split at h2 <;> first | omega | (split at h2 <;> omega))
      subst hq
      have hm := Hm.out
      clear HR hx hr
      clear hb hxb hn Hs
      go_enter Try.func43, Try.ntmps43
      go_wp2_with (go_at_call 42; refine (hone _).mono ?_; rintro e w' ⟨rfl, rfl⟩)
      go_ret
      exact ⟨rfl, rfl⟩
    · have hq : r = 4 := by
        have h2 := HR.out; have h3 := hx.out; have h4 := hb.out; have h5 := hxb.out; have hs := Hs.out
        split at h2 <;> split at h2 <;> first | omega | (split at h2 <;> first | omega | (split at h2 <;> omega))
      subst hq
      subst c
      have hm := Hm.out
      clear h1 HR hx hr
      clear hb hxb hn Hs
      go_enter Try.func43, Try.ntmps43
      go_wp2_with (go_at_call 42; refine (hone _).mono ?_; rintro e w' ⟨rfl, rfl⟩)
      go_ret
      exact ⟨rfl, rfl⟩
  · have Hs := hid hs
    rcases (by omega : m = 9218868437227405312 ∨ (4503599627370496 ≤ m ∧ m < 9218868437227405312) ∨ (0 < m ∧ m < 4503599627370496) ∨ m = 0) with c | ⟨c, c'⟩ | ⟨c, c'⟩ | c
    · have hq : r = 8 := by
        have h2 := HR.out; have h3 := hx.out; have h4 := hb.out; have h5 := hxb.out; have hs := Hs.out
        split at h2 <;> split at h2 <;> first | omega | (split at h2 <;> first | omega | (split at h2 <;> omega))
      subst hq
      subst c
      have hm := Hm.out
      clear h1 HR hx hr
      clear hb hxb hn Hs
      go_enter Try.func43, Try.ntmps43
      go_wp2_with (go_at_call 42; refine (hone _).mono ?_; rintro e w' ⟨rfl, rfl⟩)
      go_ret
      exact ⟨rfl, rfl⟩
    · have hq : r = 7 := by
        have h2 := HR.out; have h3 := hx.out; have h4 := hb.out; have h5 := hxb.out; have hs := Hs.out
        split at h2 <;> split at h2 <;> first | omega | (split at h2 <;> first | omega | (split at h2 <;> omega))
      subst hq
      have hm := Hm.out
      clear HR hx hr
      clear hb hxb hn Hs
      go_enter Try.func43, Try.ntmps43
      go_wp2_with (go_at_call 42; refine (hone _).mono ?_; rintro e w' ⟨rfl, rfl⟩)
      go_ret
      exact ⟨rfl, rfl⟩
    · have hq : r = 6 := by
        have h2 := HR.out; have h3 := hx.out; have h4 := hb.out; have h5 := hxb.out; have hs := Hs.out
        split at h2 <;> split at h2 <;> first | omega | (split at h2 <;> first | omega | (split at h2 <;> omega))
      subst hq
      have hm := Hm.out
      clear HR hx hr
      clear hb hxb hn Hs
      go_enter Try.func43, Try.ntmps43
      go_wp2_with (go_at_call 42; refine (hone _).mono ?_; rintro e w' ⟨rfl, rfl⟩)
      go_ret
      exact ⟨rfl, rfl⟩
    · have hq : r = 5 := by
        have h2 := HR.out; have h3 := hx.out; have h4 := hb.out; have h5 := hxb.out; have hs := Hs.out
        split at h2 <;> split at h2 <;> first | omega | (split at h2 <;> first | omega | (split at h2 <;> omega))
      subst hq
      subst c
      have hm := Hm.out
      clear h1 HR hx hr
      clear hb hxb hn Hs
      go_enter Try.func43, Try.ntmps43
      go_wp2_with (go_at_call 42; refine (hone _).mono ?_; rintro e w' ⟨rfl, rfl⟩)
      go_ret
      exact ⟨rfl, rfl⟩
end Go.Proofs.Ytfmkjolfpjfhbaa
