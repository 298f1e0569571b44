/- num's floats, and clock.Drift at the examples of the chapter. -/
import Derived.Test.YtfmkjolfpjfhbaaClock
import Derived.Laws.Externs
namespace Go.Proofs.Ytfmkjolfpjfhbaa
open Go.RowKit Go.Lib

/-- Is the word a NaN? -/
def nanB (x : Nat) : Bool := (FloatKind.f64.format.order x x != some .eq)

theorem order_self (x : Nat) : FloatKind.f64.format.order x x = if (FloatKind.f64.format.read x).isNaN then none else some .eq := by
  unfold Ieee.Format.order
  cases h : FloatKind.f64.format.read x <;> simp [Ieee.Datum.order, Ieee.Datum.isNaN, compare, compareOfLessAndEq]

theorem nanB_eq (x : Nat) : nanB x = (FloatKind.f64.format.read x).isNaN := by
  unfold nanB
  rw [order_self]
  cases (FloatKind.f64.format.read x).isNaN <;> simp

theorem isnan_at (x : Nat) (b : Bool) (w : World) (hb : Hid (nanB x = b)) :
    Calls Try.prog 39 #[.float .f64 x] w fun e w' => e = .returned (.bool b) ∧ w = w' := by
  go_enter Try.func39, Try.ntmps39
  go_wp2
  go_ret
  refine ⟨?_, rfl⟩
  rw [← hb.out]
  rfl

theorem frombits_run (n : Int) (w : World) : (callFunc 36 #[.int .u64 n]).run Try.prog w = .ok (.value (.float .f64 n.toNat)) w := by
  rw [run_callFunc_extern (e := Extern.MathFloatBits.float64frombits) Try.func36 (by kernel_rfl) (by kernel_rfl) (by kernel_rfl) (by kernel_rfl)]
  rfl

theorem one_num (x : Nat) (w : World) (hb : Hid (nanB x = false)) :
    Calls Try.prog 41 #[.float .f64 x] w fun e w' => e = .returned (.float .f64 x) ∧ w = w' := by
  go_enter Try.func41, Try.ntmps41
  go_wp2_with (go_at_call 39; refine (isnan_at x _ _ hb).mono ?_; rintro e w' ⟨rfl, rfl⟩)
  go_ret
  exact ⟨rfl, rfl⟩

theorem one_nan (x : Nat) (w : World) (hb : Hid (nanB x = true)) :
    Calls Try.prog 41 #[.float .f64 x] w fun e w' => e = .returned (.float .f64 9221120237041090561) ∧ w = w' := by
  have hf := frombits_run
  go_enter Try.func41, Try.ntmps41
  go_wp2_with (go_at_call 39; refine (isnan_at x _ _ hb).mono ?_; rintro e w' ⟨rfl, rfl⟩)
  go_ret
  exact ⟨rfl, rfl⟩

theorem times_num (x y r : Nat) (w : World) (hr : floatBits .mul .f64 x y = some r) (hb : Hid (nanB r = false)) :
    Calls Try.prog 34 #[.float .f64 x, .float .f64 y] w fun e w' => e = .returned (.float .f64 r) ∧ w = w' := by
  have hm := fun (t : TypeId) (w : World) => run_float_arith (P := Try.prog) w .mul t .f64 x y r hr
  clear hr
  go_enter Try.func34, Try.ntmps34
  go_wp2_with (go_at_call 41; refine (one_num r _ hb).mono ?_; rintro e w' ⟨rfl, rfl⟩)
  go_ret
  exact ⟨rfl, rfl⟩

/-- The word that the tape names where a product has none. -/
def nanWord (w : World) (x y : Nat) : Nat := (Question.nanBits .f64 x y).cut (w.tape w.drawn (.nanBits .f64 x y))

theorem nanWord_nan (w : World) (x y : Nat) : nanB (nanWord w x y) = true := by
  rw [nanB_eq]
  unfold nanWord
  generalize w.tape w.drawn (.nanBits .f64 x y) = t
  show (Ieee.double.read ((t % 2) * 2 ^ 63 + 0x7ff0000000000000 + 1 + (t / 2) % (2 ^ 52 - 1))).isNaN = true
  have h1 : Ieee.double.signWeight = 9223372036854775808 := by decide
  have h2 : Ieee.double.binade = 4503599627370496 := by decide
  have h3 : Ieee.double.infRung = 9218868437227405312 := by decide
  have e : ((t % 2) * 2 ^ 63 + 0x7ff0000000000000 + 1 + (t / 2) % (2 ^ 52 - 1)) % 9223372036854775808 = 0x7ff0000000000000 + 1 + (t / 2) % (2 ^ 52 - 1) := by omega
  unfold Ieee.Format.read
  simp only [h1, h2, h3, e]
  rw [if_neg (by omega), if_neg (by omega), if_neg (by omega)]
  rfl

theorem run_float_mul_nan (t : TypeId) (x y : Nat) (w : World) (hr : floatBits .mul .f64 x y = none) : (binOp .mul t (.float .f64 x) (.float .f64 y)).run Try.prog w = .ok (.float .f64 (nanWord w x y)) w.drew := by
  unfold floatBits at hr
  simp only at hr
  simp [binOp, Op.floatArith, hr, nanWord, Question.forced]

theorem times_nan (x y : Nat) (w : World) (hr : floatBits .mul .f64 x y = none) :
    Calls Try.prog 34 #[.float .f64 x, .float .f64 y] w fun e w' => e = .returned (.float .f64 9221120237041090561) ∧ w.drew = w' := by
  have hm := fun (t : TypeId) => run_float_mul_nan t x y w hr
  have hb := hid (nanWord_nan w x y)
  clear hr
  go_enter Try.func34, Try.ntmps34
  go_wp2_with (go_at_call 41; refine (one_nan _ _ hb).mono ?_; rintro e w' ⟨rfl, rfl⟩)
  go_ret
  exact ⟨rfl, rfl⟩

/-- The word of a number made whole. -/
def evenWord (x : Nat) : Nat := FloatKind.f64.encode ((FloatKind.f64.decode x).integral .even)

theorem even_run (x : Nat) (hn : nanB x = false) (w : World) : (callFunc 40 #[.float .f64 x]).run Try.prog w = .ok (.value (.float .f64 (evenWord x))) w := by
  rw [run_callFunc_extern (e := Extern.MathFloor.toIntegral "math.RoundToEven" .even) Try.func40 (by kernel_rfl) (by kernel_rfl) (by kernel_rfl) (by kernel_rfl)]
  rw [nanB_eq] at hn
  obtain ⟨g, hg⟩ : ∃ g : Bool → Nat → Sem Value, Extern.MathFloor.toIntegral "math.RoundToEven" .even #[.float .f64 x] =
      (match FloatKind.f64.decode x with | .nan s t => g s t | d => pure (.float .f64 (FloatKind.f64.encode (d.integral .even)))) := ⟨_, rfl⟩
  have h2 : FloatKind.f64.decode x = FloatKind.f64.format.read x := rfl
  rw [hg, evenWord, h2]
  cases h : FloatKind.f64.format.read x with
  | nan s t => rw [h] at hn; simp [Ieee.Datum.isNaN] at hn
  | number s m e => rfl
  | infinity s => rfl

def lowB (r : Nat) : Bool := FloatKind.f64.format.order r 14114281232179134464 == some .lt
def highB (r : Nat) : Bool := FloatKind.f64.format.order r 4890909195324358656 == some .gt || FloatKind.f64.format.order r 4890909195324358656 == some .eq

theorem int_nan (x : Nat) (w : World) (hb : Hid (nanB x = true)) :
    Calls Try.prog 33 #[.float .f64 x] w fun e w' => e = .returned (.tuple #[.int .i64 0, .int .i64 3]) ∧ w = w' := by
  go_enter Try.func33, Try.ntmps33
  go_wp2_with (go_at_call 39; refine (isnan_at x _ _ hb).mono ?_; rintro e w' ⟨rfl, rfl⟩)
  go_ret2
  exact ⟨rfl, rfl⟩

theorem int_num (x r : Nat) (n : Int) (w : World) (hb : Hid (nanB x = false)) (hr : evenWord x = r) (hl : Hid (lowB r = false)) (hh : Hid (highB r = false)) (hn : floatToIntVal .f64 r .i64 = some n) :
    Calls Try.prog 33 #[.float .f64 x] w fun e w' => e = .returned (.tuple #[.int .i64 n, .int .i64 0]) ∧ w = w' := by
  have he := even_run x hb.out
  rw [hr] at he
  clear hr
  have hc := fun (w : World) => run_convert_float_int (P := Try.prog) w 46 2 .f64 .i64 r n (by kernel_rfl) Try.underlying2 hn
  clear hn
  go_enter Try.func33, Try.ntmps33
  go_wp2_with (go_at_call 39; refine (isnan_at x _ _ hb).mono ?_; rintro e w' ⟨rfl, rfl⟩)
  case _ => exact absurd (show lowB r = true by unfold lowB; simp_all) (by rw [hl.out]; simp)
  case _ =>
    exfalso
    have h1 := hl.out
    have h2 := hh.out
    unfold lowB at h1
    unfold highB at h2
    simp_all
  go_ret2
  exact ⟨rfl, rfl⟩

end Go.Proofs.Ytfmkjolfpjfhbaa
