/- num.Int of any number: as the bits say. -/
import Derived.Test.YtfmkjolfpjfhbaaFloat
import Derived.Test.YtfmkjolfpjfhbaaFloatInt5
namespace Go.Proofs.Ytfmkjolfpjfhbaa
open Go.RowKit Go.Lib

theorem evenW_eq (x : Nat) : FInt.evenW x = evenWord x := rfl
theorem lowW_eq (r : Nat) : FInt.lowW r = lowB r := rfl
theorem highW_eq (r : Nat) : FInt.highW r = highB r := rfl
theorem fits_val {x : Nat} {v : Int} (h : FInt.Fits x v) : floatToIntVal .f64 (evenWord x) .i64 = some v := by
  unfold floatToIntVal
  have h1 : (FloatKind.f64.decode (evenWord x)).toInt .zero = some v := h.int
  rw [h1]
  simp only
  rw [if_pos]
  exact ⟨h.lo, h.hi⟩

theorem int_great (x : Nat) (w : World) (hb : Hid (nanB x = false)) (h : Hid (lowB (evenWord x) = true ∨ highB (evenWord x) = true)) :
    Calls Try.prog 33 #[.float .f64 x] w fun e w' => e = .returned (.tuple #[.int .i64 0, .int .i64 4]) ∧ w = w' := by
  have he := even_run x hb.out
  obtain ⟨r, hr⟩ : ∃ r, evenWord x = r := ⟨_, rfl⟩
  rw [hr] at he h
  clear hr
  go_enter Try.func33, Try.ntmps33
  go_wp2_with (go_at_call 39; refine (isnan_at x _ _ hb).mono ?_; rintro e w' ⟨rfl, rfl⟩)
  all_goals first
    | (go_ret2; exact ⟨rfl, rfl⟩)
    | (exfalso; have h1 := h.out; unfold lowB highB at h1; simp_all)
/-- What num.Int answers for a number. -/
def intAns (x : Nat) : Value := match FInt.refI x with
  | some v => .tuple #[.int .i64 v, .int .i64 0]
  | none => .tuple #[.int .i64 0, .int .i64 4]
theorem int_any (x : Nat) (w : World) (hb : Hid (nanB x = false)) (hx : FInt.expF x ≤ 2046) :
    Calls Try.prog 33 #[.float .f64 x] w fun e w' => e = .returned (intAns x) ∧ w = w' := by
  unfold intAns
  rcases FInt.agree x hx with ⟨v, h1, h2⟩ | ⟨h1, h2⟩
  · rw [h1]
    exact int_num x _ v w hb rfl (hid h2.low) (hid h2.high) (fits_val h2)
  · rw [h1]
    exact int_great x w hb (hid h2)
theorem int_inf (x : Nat) (w : World) (hb : Hid (nanB x = false)) (hx : x % 9223372036854775808 = 9218868437227405312) :
    Calls Try.prog 33 #[.float .f64 x] w fun e w' => e = .returned (.tuple #[.int .i64 0, .int .i64 4]) ∧ w = w' :=
  int_great x w hb (hid (FInt.agree_inf x hx))
end Go.Proofs.Ytfmkjolfpjfhbaa
