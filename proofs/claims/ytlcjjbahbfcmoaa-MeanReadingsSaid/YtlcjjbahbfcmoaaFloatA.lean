/- num's floats: IsNaN, One. -/
import Derived.Test.YtlcjjbahbfcmoaaRows
import Derived.WalkKit
import Derived.WalkSpells
import Derived.WalkLawsBesides
import Derived.Lib.Hide
import Derived.Laws.Externs
namespace Go.Proofs.Ytlcjjbahbfcmoaa
open Go.RowKit Go.Lib

/-- Is the word a NaN? -/
def nanB (x : Nat) : Bool := (FloatKind.f64.format.order x x != some .eq)

theorem order_self (x : Nat) : FloatKind.f64.format.order x x = if (FloatKind.f64.format.read x).isNaN then none else some .eq := by
  unfold Ieee.Format.order
  cases h : FloatKind.f64.format.read x <;> simp [Ieee.Datum.order, Ieee.Datum.isNaN, compare, compareOfLessAndEq]

theorem nanB_eq (x : Nat) : nanB x = (FloatKind.f64.format.read x).isNaN := by
  unfold nanB
  rw [order_self]
  cases (FloatKind.f64.format.read x).isNaN <;> simp

theorem isnan_at (x : Nat) (b : Bool) (w : World) (hb : Hid (nanB x = b)) :
    Calls Try.prog 44 #[.float .f64 x] w fun e w' => e = .returned (.bool b) ∧ w = w' := by
  go_enter Try.func44, Try.ntmps44
  go_wp2
  go_ret
  refine ⟨?_, rfl⟩
  rw [← hb.out]
  rfl

theorem frombits_run (n : Int) (w : World) : (callFunc 36 #[.int .u64 n]).run Try.prog w = .ok (.value (.float .f64 n.toNat)) w := by
  rw [run_callFunc_extern (e := Extern.MathFloatBits.float64frombits) Try.func36 (by kernel_rfl) (by kernel_rfl) (by kernel_rfl) (by kernel_rfl)]
  rfl

theorem one_num (x : Nat) (w : World) (hb : Hid (nanB x = false)) :
    Calls Try.prog 32 #[.float .f64 x] w fun e w' => e = .returned (.float .f64 x) ∧ w = w' := by
  go_enter Try.func32, Try.ntmps32
  go_wp2_with (go_at_call 44; refine (isnan_at x _ _ hb).mono ?_; rintro e w' ⟨rfl, rfl⟩)
  go_ret
  exact ⟨rfl, rfl⟩

theorem one_nan (x : Nat) (w : World) (hb : Hid (nanB x = true)) :
    Calls Try.prog 32 #[.float .f64 x] w fun e w' => e = .returned (.float .f64 9221120237041090561) ∧ w = w' := by
  have hf := frombits_run
  go_enter Try.func32, Try.ntmps32
  go_wp2_with (go_at_call 44; refine (isnan_at x _ _ hb).mono ?_; rintro e w' ⟨rfl, rfl⟩)
  go_ret
  exact ⟨rfl, rfl⟩

end Go.Proofs.Ytlcjjbahbfcmoaa
