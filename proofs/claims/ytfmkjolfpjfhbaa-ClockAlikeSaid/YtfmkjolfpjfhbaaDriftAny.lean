/- clock.Drift and the document's Drift agree at each float64. -/
import Derived.Test.YtfmkjolfpjfhbaaRefIntB
import Derived.Test.YtfmkjolfpjfhbaaRef04
namespace Go.Proofs.Ytfmkjolfpjfhbaa
open Go.RowKit Go.Lib

def intPair (b : Nat) : Int × Int := if nanB b = true then (0, 3) else if b % 9223372036854775808 = 9218868437227405312 then (0, 4) else match FInt.refI b with | some v => (v, 0) | none => (0, 4)
theorem intAll_eq (b : Nat) : intAll b = .tuple #[.int .i64 (intPair b).1, .int .i64 (intPair b).2] := by
  unfold intAll intPair intAns
  split
  · rfl
  · split
    · rfl
    · cases FInt.refI b <;> rfl
theorem intPair_nan (b : Nat) (h : nanB b = true) : intPair b = (0, 3) := by unfold intPair; rw [if_pos h]

/-- What a drift comes to, from the product's word. -/
def driftPair (b : Nat) : Int × Int := if (intPair b).2 = 0 then (if fastB (intPair b).1 = true then ((intPair b).1, 0) else (0, 4)) else (0, (intPair b).2)

theorem times_word_nan (x y r : Nat) (w : World) (hr : floatBits .mul .f64 x y = some r) (hb : Hid (nanB r = true)) :
    Calls Try.prog 34 #[.float .f64 x, .float .f64 y] w fun e w' => e = .returned (.float .f64 9221120237041090561) ∧ w = w' := by
  have hm := fun (t : TypeId) (w : World) => run_float_arith (P := Try.prog) w .mul t .f64 x y r hr
  clear hr
  go_enter Try.func34, Try.ntmps34
  go_wp2_with (go_at_call 41; refine (one_nan r _ hb).mono ?_; rintro e w' ⟨rfl, rfl⟩)
  go_ret
  exact ⟨rfl, rfl⟩

/-- Times, then Int. -/
theorem times_then (x p : Nat) (hp : floatBits .mul .f64 x 4652007308841189376 = some p) :
    ∃ q, (∀ w : World, Calls Try.prog 34 #[.float .f64 x, .float .f64 4652007308841189376] w fun e w' => e = .returned (.float .f64 q) ∧ w = w') ∧ intPair q = intPair p := by
  by_cases hn : nanB p = true
  · refine ⟨9221120237041090561, fun w => times_word_nan x _ p w hp (hid hn), ?_⟩
    rw [intPair_nan p hn, intPair_nan _ (by kernel_rfl)]
  · exact ⟨p, fun w => times_num x _ p w hp (hid (by simpa using hn)), rfl⟩

theorem drift_some (x p : Nat) (w : World) (hp : floatBits .mul .f64 x 4652007308841189376 = some p) :
    Calls Try.prog 23 #[.float .f64 x] w fun e w' => e = .returned (.tuple #[.int .i64 (driftPair p).1, .int .i64 (driftPair p).2]) ∧ w = w' := by
  obtain ⟨q, hq, hqp⟩ := times_then x p hp
  have hi := int_all q
  have ha := intAll_eq q
  unfold driftPair
  rw [← hqp]
  clear hqp hp
  generalize intAll q = A at *
  generalize intPair q = I at *
  obtain ⟨n, c⟩ := I
  subst ha
  have Hq := hid hq; have Hi := hid hi; clear hq hi
  dsimp only
  by_cases hc : c = 0
  · subst hc
    rw [if_pos rfl]
    by_cases hf : fastB n = true
    · rw [if_pos hf]
      have Hf := hid hf; clear hf
      go_enter Try.func23, Try.ntmps23
      go_wp2_with fail
      refine (Hq.out _).mono ?_
      rintro e w' ⟨rfl, rfl⟩
      go_wp2_with fail
      refine (Hi.out _).mono ?_
      rintro e w' ⟨rfl, rfl⟩
      go_wp2_with fail
      refine (fast_at n _ _ Hf).mono ?_
      rintro e w' ⟨rfl, rfl⟩
      go_wp2_with fail
      go_ret2
      exact ⟨rfl, rfl⟩
    · rw [if_neg hf]
      have hf' : fastB n = false := by simpa using hf
      have Hf := hid hf'; clear hf hf'
      go_enter Try.func23, Try.ntmps23
      go_wp2_with fail
      refine (Hq.out _).mono ?_
      rintro e w' ⟨rfl, rfl⟩
      go_wp2_with fail
      refine (Hi.out _).mono ?_
      rintro e w' ⟨rfl, rfl⟩
      go_wp2_with fail
      refine (fast_at n _ _ Hf).mono ?_
      rintro e w' ⟨rfl, rfl⟩
      go_wp2_with fail
      go_ret2
      exact ⟨rfl, rfl⟩
  · rw [if_neg hc]
    have hc' : (c != 0) = true := by simpa using hc
    clear hc
    go_enter Try.func23, Try.ntmps23
    go_wp2_with fail
    refine (Hq.out _).mono ?_
    rintro e w' ⟨rfl, rfl⟩
    go_wp2_with fail
    refine (Hi.out _).mono ?_
    rintro e w' ⟨rfl, rfl⟩
    go_wp2_with fail
    go_ret2
    exact ⟨rfl, rfl⟩

theorem rdrift_some (x p : Nat) (w : World) (hp : floatBits .mul .f64 x 4652007308841189376 = some p) :
    Calls Try.prog 24 #[.float .f64 x] w fun e w' => e = .returned (.tuple #[.int .i64 (driftPair p).1, .int .i64 (driftPair p).2]) ∧ w = w' := by
  have hm := fun (t : TypeId) (w : World) => run_float_arith (P := Try.prog) w .mul t .f64 x _ p hp
  have hwf : p < 18446744073709551616 := by
    have h := floatBits_wf hp
    exact of_decide_eq_true h
  have hi := refint_all p (hid hwf)
  have ha := intAll_eq p
  unfold driftPair
  clear hp hwf
  generalize intAll p = A at *
  generalize intPair p = I at *
  obtain ⟨n, c⟩ := I
  subst ha
  have Hi := hid hi; clear hi
  dsimp only
  by_cases hc : c = 0
  · subst hc
    rw [if_pos rfl]
    by_cases hf : fastB n = true
    · rw [if_pos hf]
      have Hf := hid hf; clear hf
      go_enter Try.func24, Try.ntmps24
      go_wp2_with fail
      refine (Hi.out _).mono ?_
      rintro e w' ⟨rfl, rfl⟩
      go_wp2_with fail
      refine (rfast_at n _ _ Hf).mono ?_
      rintro e w' ⟨rfl, rfl⟩
      go_wp2_with fail
      go_ret2
      exact ⟨rfl, rfl⟩
    · rw [if_neg hf]
      have hf' : fastB n = false := by simpa using hf
      have Hf := hid hf'; clear hf hf'
      go_enter Try.func24, Try.ntmps24
      go_wp2_with fail
      refine (Hi.out _).mono ?_
      rintro e w' ⟨rfl, rfl⟩
      go_wp2_with fail
      refine (rfast_at n _ _ Hf).mono ?_
      rintro e w' ⟨rfl, rfl⟩
      go_wp2_with fail
      go_ret2
      exact ⟨rfl, rfl⟩
  · rw [if_neg hc]
    have hc' : (c != 0) = true := by simpa using hc
    clear hc
    go_enter Try.func24, Try.ntmps24
    go_wp2_with fail
    refine (Hi.out _).mono ?_
    rintro e w' ⟨rfl, rfl⟩
    go_wp2_with fail
    go_ret2
    exact ⟨rfl, rfl⟩

theorem nanWord_lt (w : World) (x y : Nat) : nanWord w x y < 18446744073709551616 := by
  unfold nanWord
  generalize w.tape w.drawn (.nanBits .f64 x y) = t
  show (t % 2) * 2 ^ 63 + 0x7ff0000000000000 + 1 + (t / 2) % (2 ^ 52 - 1) < _
  omega

theorem rdrift_nan (x : Nat) (w : World) (hp : floatBits .mul .f64 x 4652007308841189376 = none) :
    Calls Try.prog 24 #[.float .f64 x] w fun e w' => e = .returned (.tuple #[.int .i64 0, .int .i64 3]) ∧ w.grownBy w' none := by
  have hm := fun (t : TypeId) => run_float_mul_nan t x 4652007308841189376 w hp
  have hb := hid (nanWord_nan w x 4652007308841189376)
  have hl := hid (nanWord_lt w x 4652007308841189376)
  clear hp
  go_enter Try.func24, Try.ntmps24
  go_wp2_with fail
  refine (refint_nan _ hl _ hb).mono ?_
  rintro e w' ⟨rfl, rfl⟩
  go_wp2_with fail
  go_ret2
  exact ⟨rfl, gr_drew (gr_refl w none)⟩

theorem drift_both (x : Nat) : ∃ n c : Int, (∀ w : World, Calls Try.prog 23 #[.float .f64 x] w fun e w' => e = .returned (.tuple #[.int .i64 n, .int .i64 c]) ∧ w.grownBy w' none) ∧ (∀ w : World, Calls Try.prog 24 #[.float .f64 x] w fun e w' => e = .returned (.tuple #[.int .i64 n, .int .i64 c]) ∧ w.grownBy w' none) := by
  cases hp : floatBits .mul .f64 x 4652007308841189376 with
  | none => exact ⟨0, 3, fun w => drift_nan x w hp, fun w => rdrift_nan x w hp⟩
  | some p => exact ⟨_, _, fun w => (drift_some x p w hp).mono (fun e w' h => ⟨h.1, h.2 ▸ gr_refl w none⟩), fun w => (rdrift_some x p w hp).mono (fun e w' h => ⟨h.1, h.2 ▸ gr_refl w none⟩)⟩
end Go.Proofs.Ytfmkjolfpjfhbaa
