/- math/bits.Div64 at the divisor 10^9. -/
import Derived.Test.YtfmkjolfpjfhbaaArith
import Derived.LoopN
namespace Go.Proofs.Ytfmkjolfpjfhbaa
open Go.RowKit Go.Lib

set_option maxHeartbeats 400000 in
theorem div64_low (lo : Int) (w : World) (h0 : 0 ≤ lo) (h1 : lo < 18446744073709551616) :
    Calls Try.prog 48 #[.int .u64 0, .int .u64 lo, .int .u64 1000000000] w fun e w' => e = .returned (.tuple #[.int .u64 (lo / 1000000000), .int .u64 (lo % 1000000000)]) ∧ ∃ n, w' = w.drewN n := by
  go_enter Try.func48, Try.ntmps48
  go_wp2
  go_quiet (fail)
  go_wp2
  go_ret2
  exact ⟨rfl, _, rfl⟩

namespace Div64
theorem or34 (hi lo : Int) (h0 : 0 < hi) (h1 : hi < 1000000000) (l0 : 0 ≤ lo) (l1 : lo < 18446744073709551616) :
    bits .or .u64 (hi * 17179869184) (lo / 1073741824) = hi * 17179869184 + lo / 1073741824 :=
  bits_join .u64 64 (by decide) (fun n a b => by rw [IntKind.wrap_u64]; omega) 34 (hi * 17179869184) (lo / 1073741824) (by omega) (by omega) (by omega) (by omega) (by omega) (by omega)
theorem and0 : bits .and .u64 17179869184000000000 4294967295 = 0 := by
  have h := Mul64.maskN 17179869184000000000 (by omega)
  exact h
theorem shl34 (lo : Int) : IntKind.u64.wrap (lo * 17179869184) = (lo % 1073741824) * 17179869184 := by rw [IntKind.wrap_u64]; omega
theorem and32 (lo : Int) (l0 : 0 ≤ lo) : bits .and .u64 (lo % 1073741824 * 17179869184) 4294967295 = 0 := by
  obtain ⟨a, rfl⟩ := Int.eq_ofNat_of_zero_le l0
  have h := Mul64.maskN (a % 1073741824 * 17179869184) (by omega)
  have e : ((a % 1073741824 * 17179869184 : Nat) : Int) = (a : Int) % 1073741824 * 17179869184 := by omega
  rw [e] at h
  rw [h]
  omega
theorem q1 (u : Int) (h0 : 0 ≤ u) (h1 : u < 17179869184000000000) : IntKind.u64.wrap (u.tdiv 4000000000) = u / 4000000000 := by
  rw [Int.tdiv_eq_ediv_of_nonneg h0, IntKind.wrap_u64]; omega
theorem r1 (u : Int) : IntKind.u64.wrap (u - IntKind.u64.wrap (u / 4000000000 * 4000000000)) = u % 4000000000 := by
  rw [IntKind.wrap_u64, IntKind.wrap_u64]; omega
theorem u21 (u q r b : Int) (hu : u = q * 4000000000 + r) (hr0 : 0 ≤ r) (hr1 : r < 4000000000) (hb0 : 0 ≤ b) (hb1 : b < 1073741824) :
    IntKind.u64.wrap (IntKind.u64.wrap (IntKind.u64.wrap (u * 4294967296) + b * 17179869184 / 4294967296) - IntKind.u64.wrap (q * 17179869184000000000)) = r * 4294967296 + b * 4 := by
  rw [IntKind.wrap_u64, IntKind.wrap_u64, IntKind.wrap_u64, IntKind.wrap_u64]; omega
theorem last (x q : Int) (r : Int) (hx : x = q * 4000000000 + r) (hr0 : 0 ≤ r) (hr1 : r < 4000000000) :
    IntKind.u64.wrap (IntKind.u64.wrap (IntKind.u64.wrap (x * 4294967296)) - IntKind.u64.wrap (q * 17179869184000000000)) = r * 4294967296 := by
  rw [IntKind.wrap_u64, IntKind.wrap_u64, IntKind.wrap_u64, IntKind.wrap_u64]; omega
end Div64

set_option maxRecDepth 100000 in
set_option maxHeartbeats 800000 in
theorem div64_high (hi lo : Int) (w : World) (h0 : 0 < hi) (h1 : hi < 1000000000) (l0 : 0 ≤ lo) (l1 : lo < 18446744073709551616) :
    Calls Try.prog 48 #[.int .u64 hi, .int .u64 lo, .int .u64 1000000000] w fun e w' => e = .returned (.tuple #[.int .u64 ((hi * 18446744073709551616 + lo) / 1000000000), .int .u64 ((hi * 18446744073709551616 + lo) % 1000000000)]) ∧ w = w' := by
  go_enter Try.func48, Try.ntmps48
  go_wp2_with (go_at_call 52; refine (lz64_second _).mono ?_; rintro e w' ⟨rfl, rfl⟩)
  rw [Div64.or34 hi lo h0 h1 l0 l1, Div64.and0, Div64.shl34 lo, Div64.and32 lo l0]
  have hu0 : 0 ≤ hi * 17179869184 + lo / 1073741824 := by omega
  have hu1 : hi * 17179869184 + lo / 1073741824 < 17179869184000000000 := by omega
  generalize hu : hi * 17179869184 + lo / 1073741824 = u at *
  have Hu := Lib.hid hu; clear hu
  rw [Div64.q1 u hu0 hu1, Div64.r1 u]
  have hq0 : 0 ≤ u / 4000000000 := by omega
  have hq1 : u / 4000000000 < 4294967296 := by omega
  have hr0 : 0 ≤ u % 4000000000 := by omega
  have hr1 : u % 4000000000 < 4000000000 := by omega
  generalize hq : u / 4000000000 = q at *
  generalize hr : u % 4000000000 = r at *
  have Hq := Lib.hid hq; clear hq
  have Hr := Lib.hid hr; clear hr
  refine wp_loop_rounds 1 ?_
  rw [rounds_succ]
  go_wp2
  have hb0 : 0 ≤ lo % 1073741824 := by omega
  have hb1 : lo % 1073741824 < 1073741824 := by omega
  have huqr : u = q * 4000000000 + r := by have := Hq.out; have := Hr.out; omega
  rw [Div64.u21 u q r (lo % 1073741824) huqr hr0 hr1 hb0 hb1]
  have Huqr := Lib.hid huqr; clear huqr
  have hx0 : 0 ≤ r * 4294967296 + lo % 1073741824 * 4 := by omega
  have hx1 : r * 4294967296 + lo % 1073741824 * 4 < 17179869184000000000 := by omega
  generalize hx : r * 4294967296 + lo % 1073741824 * 4 = x at *
  have Hx := Lib.hid hx; clear hx
  rw [Div64.q1 x hx0 hx1, Div64.r1 x]
  have hp0 : 0 ≤ x / 4000000000 := by omega
  have hp1 : x / 4000000000 < 4294967296 := by omega
  have hs0 : 0 ≤ x % 4000000000 := by omega
  have hs1 : x % 4000000000 < 4000000000 := by omega
  generalize hp : x / 4000000000 = p at *
  generalize hs : x % 4000000000 = s at *
  have Hp := Lib.hid hp; clear hp
  have Hs := Lib.hid hs; clear hs
  refine wp_loop_rounds 1 ?_
  rw [rounds_succ]
  go_wp2
  go_ret2
  refine ⟨?_, rfl⟩
  have e1 := Hu.out; have e2 := Hq.out; have e3 := Hr.out; have e4 := Hx.out; have e5 := Hp.out; have e6 := Hs.out
  have hxs : x = p * 4000000000 + s := by omega
  have hl := Div64.last x p s hxs hs0 hs1
  show Ending.returned (.tuple #[.int .u64 (q * 4294967296 + p), .int .u64 (_ / 17179869184)]) = _
  have a1 : q * 4294967296 + p = (hi * 18446744073709551616 + lo) / 1000000000 := by omega
  have a2 : s * 4294967296 / 17179869184 = (hi * 18446744073709551616 + lo) % 1000000000 := by omega
  rw [hl, a1, a2]
end Go.Proofs.Ytfmkjolfpjfhbaa
