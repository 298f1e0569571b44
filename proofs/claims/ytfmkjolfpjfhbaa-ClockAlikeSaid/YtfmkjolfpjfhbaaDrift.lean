/- clock.Drift at the chapter's examples; the examples themselves ('fixed'). -/
import Derived.Test.YtfmkjolfpjfhbaaClockW
import Derived.Test.YtfmkjolfpjfhbaaFloat
namespace Go.Proofs.Ytfmkjolfpjfhbaa
open Go.RowKit Go.Lib

theorem drift_ok (x p r : Nat) (n : Int) (w : World) (hp : floatBits .mul .f64 x 4652007308841189376 = some p) (hb : Hid (nanB p = false)) (hr : evenWord p = r) (hl : Hid (lowB r = false)) (hh : Hid (highB r = false)) (hn : floatToIntVal .f64 r .i64 = some n) (hf : Hid (fastB n = true)) :
    Calls Try.prog 23 #[.float .f64 x] w fun e w' => e = .returned (.tuple #[.int .i64 n, .int .i64 0]) ∧ w = w' := by
  have Hp := hid hp; have Hr := hid hr; have Hn := hid hn; clear hp hr hn
  go_enter Try.func23, Try.ntmps23
  go_wp2_with fail
  refine (times_num x _ p _ Hp.out hb).mono ?_
  rintro e w' ⟨rfl, rfl⟩
  go_wp2_with fail
  refine (int_num p r n _ hb Hr.out hl hh Hn.out).mono ?_
  rintro e w' ⟨rfl, rfl⟩
  go_wp2_with fail
  refine (fast_at n _ _ hf).mono ?_
  rintro e w' ⟨rfl, rfl⟩
  go_wp2_with fail
  go_ret2
  exact ⟨rfl, rfl⟩

theorem drift_nan (x : Nat) (w : World) (hp : floatBits .mul .f64 x 4652007308841189376 = none) :
    Calls Try.prog 23 #[.float .f64 x] w fun e w' => e = .returned (.tuple #[.int .i64 0, .int .i64 3]) ∧ w.grownBy w' none := by
  have Hp := hid hp; clear hp
  have hc : Hid (nanB 9221120237041090561 = true) := hid (by kernel_rfl)
  go_enter Try.func23, Try.ntmps23
  go_wp2_with fail
  refine (times_nan x _ _ Hp.out).mono ?_
  rintro e w' ⟨rfl, rfl⟩
  go_wp2_with fail
  refine (int_nan _ _ hc).mono ?_
  rintro e w' ⟨rfl, rfl⟩
  go_wp2_with fail
  go_ret2
  exact ⟨rfl, gr_drew (gr_refl w none)⟩

theorem drift_half (w : World) : Calls Try.prog 23 #[.float .f64 4602678819172646912] w fun e w' => e = .returned (.tuple #[.int .i64 500, .int .i64 0]) ∧ w = w' :=
  drift_ok 4602678819172646912 4647503709213818880 4647503709213818880 500 w (by kernel_rfl) (hid (by kernel_rfl)) (by kernel_rfl) (hid (by kernel_rfl)) (hid (by kernel_rfl)) (by kernel_rfl) (hid (by kernel_rfl))

theorem drift_none (w : World) : Calls Try.prog 23 #[.float .f64 9221120237041090561] w fun e w' => e = .returned (.tuple #[.int .i64 0, .int .i64 3]) ∧ w.grownBy w' none :=
  drift_nan 9221120237041090561 w (by kernel_rfl)

theorem nan_word (w : World) : Calls Try.prog 26 #[] w fun e w' => e = .returned (.float .f64 9221120237041090561) ∧ w = w' := by
  have hf := frombits_run
  go_enter Try.func26, Try.ntmps26
  go_wp2_with fail
  go_ret
  exact ⟨rfl, rfl⟩

end Go.Proofs.Ytfmkjolfpjfhbaa
