/- The document's When: the same time. -/
import Derived.Test.YtkcgpbehicjidaaRef04
import Derived.Test.YtkcgpbehicjidaaBox
namespace Go.Proofs.Ytkcgpbehicjidaa
open Go.RowKit Go.Lib

theorem rbox_trio {w w1 : World} {T : TypeId} {x y z : Int} (h : (w.alloc (.cells #[.int .i64 x, .int .i64 y, .int .i64 z] T)).grownBy w1 none) : Trio T w1 w.heap.size x y z := (Trio.new T w x y z).kept h (by simp)

theorem rwhen_none (m ba r n : Int) (w : World) (ho : ClockOk m ba r) (h : clockAt m ba r 1125899906842624 < n) :
    Calls Try.prog 46 #[rclk m ba r, .int .i64 n] w fun e w' => e = .returned (.tuple #[.int .i64 0, .int .i64 5]) ∧ w.grownBy w' none := by
  have hm1 := ho.m1
  obtain ⟨x, hx⟩ : ∃ x, Hid (clockAt m ba r 1125899906842624 = x) := ⟨_, hid rfl⟩
  have hlt : x < n := by rw [← hx.out]; exact h
  clear h
  go_enter Try.func46, Try.ntmps46
  go_wp2_with fail
  refine (rat_ok m ba r 1125899906842624 x _ ho hm1 (by omega) hx).mono ?_
  rintro e w' ⟨rfl, hg⟩
  go_wp2_with fail
  go_ret2
  exact ⟨rfl, bx_gr hg⟩

/-- Steps: 0, 1, 2, 4 .. -/
def stepOf (k : Nat) : Int := ((2 ^ k / 2 : Nat) : Int)
theorem stepOf_zero : stepOf 0 = 0 := rfl
theorem stepOf_top : stepOf 51 = 1125899906842624 := rfl
theorem stepOf_succ (k : Nat) : stepOf (k + 1) = ((2 ^ k : Nat) : Int) := by unfold stepOf; rw [Nat.pow_succ]; congr 1; omega
theorem stepOf_half (k : Nat) : stepOf (k + 1) / 2 = stepOf k := by rw [stepOf_succ]; unfold stepOf; omega
theorem pow_pos' (k : Nat) : (1 : Int) ≤ ((2 ^ k : Nat) : Int) := by have := Nat.two_pow_pos k; omega
theorem stepOf_le (k : Nat) (h : k ≤ 51) : stepOf k ≤ 1125899906842624 := by
  unfold stepOf
  have : 2 ^ k ≤ 2 ^ 51 := Nat.pow_le_pow_right (by omega) h
  omega

set_option maxHeartbeats 800000 in
theorem rwhen_ok (m ba r n t : Int) (w : World) (ho : ClockOk m ba r) (ht : IsWhen m ba r n t) :
    Calls Try.prog 46 #[rclk m ba r, .int .i64 n] w fun e w' => e = .returned (.tuple #[.int .i64 t, .int .i64 0]) ∧ w.grownBy w' none := by
  have hm0 := ho.m0
  have hm1 := ho.m1
  have ht0 := ht.lo
  have ht1 := ht.hi
  obtain ⟨x, hx⟩ : ∃ x, Hid (clockAt m ba r 1125899906842624 = x) := ⟨_, hid rfl⟩
  have hge : n ≤ x := by rw [← hx.out]; exact Int.le_trans ht.at_t (clockAt_mono ho.r0 ht1)
  have Ht := hid ht; clear ht
  go_enter Try.func46, Try.ntmps46
  go_wp2_with fail
  refine (rat_ok m ba r 1125899906842624 x _ ho hm1 (by omega) hx).mono ?_
  rintro e w1 ⟨rfl, hg⟩
  have hT := rbox_trio hg
  have k0 := hT.c0
  go_wp2_with fail
  clear k0 hge
  go_loopw [6, 7] (fun tt st wr => ∃ (t' : Int) (k : Nat), tt = .int .i64 t' ∧ st = .int .i64 (stepOf k) ∧ k ≤ 51 ∧ m ≤ t' ∧ t' ≤ t ∧ t ≤ t' + ((2 ^ k : Nat) : Int) ∧ (w.alloc (.cells #[.int .i64 m, .int .i64 ba, .int .i64 r] 53)).grownBy wr none) (fun _ st _ => (intOf st).toNat)
  case atStart => exact ⟨m, 51, rfl, by rw [stepOf_top], by omega, by omega, ht0, by have : (2 ^ 51 : Nat) = 2251799813685248 := by decide
                                                                                     omega, hg⟩
  case round =>
    obtain ⟨t', k, rfl, rfl, hk, h1, h2, h3, hgr⟩ := hrel
    cases k with
    | zero =>
      rw [stepOf_zero]
      have h3' : t ≤ t' + 1 := by simpa using h3
      clear h3
      have hT := rbox_trio hgr
      have k0 := hT.c0; have k1 := hT.c1; have k2 := hT.c2
      obtain ⟨y, hy⟩ : ∃ y, Hid (clockAt m ba r t' = y) := ⟨_, hid rfl⟩
      by_cases hyn : y < n
      · have hlt : t' < t := by
          rcases Int.lt_or_le t' t with h4 | h4
          · exact h4
          · have h5 := clockAt_mono (m := m) (ba := ba) ho.r0 h4; have h6 := Ht.out.at_t; have h7 := hy.out; omega
        obtain rfl : t = t' + 1 := by omega
        go_wp2_with fail
        refine (rat_ok m ba r t' y _ ho h1 (by omega) hy).mono ?_
        rintro e w2 ⟨rfl, hg2⟩
        go_wp2_with fail
        go_ret2
        exact ⟨rfl, gr_trans (bx_gr hgr) hg2⟩
      · have hyn' : n ≤ y := by omega
        clear hyn
        have hle : t ≤ t' := by
          rcases Int.lt_or_le t' t with h4 | h4
          · have h5 := Ht.out.before t' h1 h4; have h7 := hy.out; omega
          · exact h4
        obtain rfl : t = t' := by omega
        go_wp2_with fail
        refine (rat_ok m ba r t y _ ho h1 (by omega) hy).mono ?_
        rintro e w2 ⟨rfl, hg2⟩
        go_wp2_with fail
        go_ret2
        exact ⟨rfl, gr_trans (bx_gr hgr) hg2⟩
    | succ k =>
      obtain ⟨s, hs⟩ : ∃ s, Hid (stepOf (k + 1) = s) := ⟨_, hid rfl⟩
      have hs1 : 1 ≤ s := by rw [← hs.out, stepOf_succ]; exact pow_pos' k
      have hs2 : s ≤ 1125899906842624 := by rw [← hs.out]; exact stepOf_le _ hk
      have hs3 : s / 2 = stepOf k := by rw [← hs.out]; exact stepOf_half k
      have hs4 : ((2 ^ (k + 1) : Nat) : Int) = 2 * s := by rw [← hs.out, stepOf_succ, Nat.pow_succ]; omega
      have hs5 : ((2 ^ k : Nat) : Int) = s := by rw [← hs.out, stepOf_succ]
      rw [hs.out]
      rw [hs4] at h3
      have Hs3 := hid hs3; have Hs5 := hid hs5
      clear hs3 hs4 hs5
      obtain ⟨wo, rfl⟩ : ∃ wo : World, wo = wr := ⟨_, rfl⟩
      have hpos : decide (0 < s) = true := by simp; omega
      go_wp2_with fail
      clear hpos
      go_loopw [6] (fun tt wr => ∃ (t2 : Int), tt = .int .i64 t2 ∧ m ≤ t2 ∧ t2 ≤ t ∧ t ≤ t2 + 2 * s ∧ (w.alloc (.cells #[.int .i64 m, .int .i64 ba, .int .i64 r] 53)).grownBy wr none) (fun tt _ => (1125899906842624 - intOf tt).toNat)
      case atStart => exact ⟨t', rfl, h1, h2, h3, hgr⟩
      case round =>
        obtain ⟨t2, rfl, i1, i2, i3, hgi⟩ := hrel
        have hT := rbox_trio hgi
        have k0 := hT.c0; have k1 := hT.c1; have k2 := hT.c2
        by_cases hle : t2 + s ≤ 1125899906842624
        · obtain ⟨y, hy⟩ : ∃ y, Hid (clockAt m ba r (t2 + s) = y) := ⟨_, hid rfl⟩
          by_cases hyn : y < n
          · have hlt : t2 + s < t := by
              rcases Int.lt_or_le (t2 + s) t with h4 | h4
              · exact h4
              · have h5 := clockAt_mono (m := m) (ba := ba) ho.r0 h4; have h6 := Ht.out.at_t; have h7 := hy.out; omega
            go_wp2_with fail
            refine (rat_ok m ba r (t2 + s) y _ ho (by omega) hle hy).mono ?_
            rintro e w2 ⟨rfl, hg2⟩
            go_wp2_with fail
            go_roundw
            case rel => exact ⟨t2 + s, rfl, by omega, by omega, by omega, gr_trans hgi hg2⟩
            case measure => simp [intOf]; omega
          · have hyn' : n ≤ y := by omega
            clear hyn
            have hlt : t ≤ t2 + s := by
              rcases Int.lt_or_le (t2 + s) t with h4 | h4
              · have h5 := Ht.out.before (t2 + s) (by omega) h4; have h7 := hy.out; omega
              · exact h4
            go_wp2_with fail
            refine (rat_ok m ba r (t2 + s) y _ ho (by omega) hle hy).mono ?_
            rintro e w2 ⟨rfl, hg2⟩
            go_wp2_with fail
            go_roundw
            case rel => exact ⟨t2, k, rfl, by rw [Hs3.out], by omega, i1, i2, by rw [Hs5.out]; exact hlt, gr_trans hgi hg2⟩
            case measure => simp [intOf]; omega
        · have hgt : 1125899906842624 < t2 + s := by omega
          clear hle
          go_wp2_with fail
          go_roundw
          case rel => exact ⟨t2, k, rfl, by rw [Hs3.out], by omega, i1, i2, by rw [Hs5.out]; omega, hgi⟩
          case measure => simp [intOf]; omega
end Go.Proofs.Ytkcgpbehicjidaa
