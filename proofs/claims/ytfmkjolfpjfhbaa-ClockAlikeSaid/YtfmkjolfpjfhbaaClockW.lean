/- When: the first time at which the clock shows a number, or more. -/
import Derived.Test.YtfmkjolfpjfhbaaClockC
import Derived.Test.YtfmkjolfpjfhbaaHalf
namespace Go.Proofs.Ytfmkjolfpjfhbaa
open Go.RowKit Go.Lib

/-- t is the first time from m on, up to MaxTime, at which the clock shows n or more. -/
structure IsWhen (m ba r n t : Int) : Prop where
  lo : m ≤ t
  hi : t ≤ 1125899906842624
  at_t : n ≤ clockAt m ba r t
  before : ∀ s, m ≤ s → s < t → clockAt m ba r s < n

theorem clockAt_mono {m ba r s t : Int} (r0 : -1000000 ≤ r) (h : s ≤ t) : clockAt m ba r s ≤ clockAt m ba r t := by
  unfold clockAt
  have h1 : (s - m) * r + (t - s) * r = (t - m) * r := by rw [← Int.add_mul]; congr 1; omega
  have h2 : -((t - s) * 1000000) ≤ (t - s) * r := by have := Int.mul_le_mul_of_nonneg_left r0 (show 0 ≤ t - s by omega); omega
  generalize (s - m) * r = p at *
  generalize (t - m) * r = q at *
  generalize (t - s) * r = x at *
  omega

theorem IsWhen.exists {m ba r n : Int} (hm : m ≤ 1125899906842624) (h : n ≤ clockAt m ba r 1125899906842624) : ∃ t, IsWhen m ba r n t := by
  have key : ∀ (k : Nat) (t : Int), m ≤ t → t ≤ 1125899906842624 → (t - m).toNat = k → n ≤ clockAt m ba r t → ∃ t, IsWhen m ba r n t := by
    intro k
    induction k using Nat.strongRecOn with
    | ind k ih =>
      intro t h0 h1 h2 h3
      by_cases hx : ∃ s, m ≤ s ∧ s < t ∧ n ≤ clockAt m ba r s
      · obtain ⟨s, s0, s1, s2⟩ := hx
        exact ih (s - m).toNat (by omega) s s0 (by omega) rfl s2
      · refine ⟨t, h0, h1, h3, fun s s0 s1 => ?_⟩
        rcases Int.lt_or_le (clockAt m ba r s) n with h4 | h4
        · exact h4
        · exact absurd ⟨s, s0, s1, h4⟩ hx
  exact key _ 1125899906842624 hm (by omega) rfl h

theorem IsWhen.unique {m ba r n t t' : Int} (h : IsWhen m ba r n t) (h' : IsWhen m ba r n t') : t = t' := by
  rcases Int.lt_trichotomy t t' with h1 | h1 | h1
  · have := h'.before t h.lo h1; have := h.at_t; omega
  · exact h1
  · have := h.before t' h'.lo h1; have := h'.at_t; omega

theorem when_none (b : Nat) (m ba r n : Int) (w : World) (hc : Clk w b m ba r) (ho : ClockOk m ba r) (h : clockAt m ba r 1125899906842624 < n) :
    Calls Try.prog 20 #[.pointer (some ⟨b, 0, none⟩), .int .i64 n] w fun e w' => e = .returned (.tuple #[.int .i64 0, .int .i64 5]) ∧ w.grownBy w' none := by
  have hm1 := ho.m1
  obtain ⟨x, hx⟩ : ∃ x, Hid (clockAt m ba r 1125899906842624 = x) := ⟨_, hid rfl⟩
  have hlt : x < n := by rw [← hx.out]; exact h
  clear h
  go_enter Try.func20, Try.ntmps20
  go_wp2_with fail
  refine (at_ok b m ba r 1125899906842624 x _ hc ho hm1 (by omega) hx).mono ?_
  rintro e w' ⟨rfl, hg⟩
  go_wp2_with fail
  go_ret2
  exact ⟨rfl, hg⟩

theorem when_nil (n : Int) (w : World) :
    Calls Try.prog 20 #[.pointer none, .int .i64 n] w fun e w' => e = .returned (.tuple #[.int .i64 0, .int .i64 1]) ∧ w = w' := by
  go_enter Try.func20, Try.ntmps20
  go_wp2_with fail
  go_ret2
  exact ⟨rfl, rfl⟩

set_option maxHeartbeats 400000 in
theorem when_ok (b : Nat) (m ba r n t : Int) (w : World) (hc : Clk w b m ba r) (ho : ClockOk m ba r) (ht : IsWhen m ba r n t) :
    Calls Try.prog 20 #[.pointer (some ⟨b, 0, none⟩), .int .i64 n] w fun e w' => e = .returned (.tuple #[.int .i64 t, .int .i64 0]) ∧ w.grownBy w' none := by
  have hm0 := ho.m0
  have hm1 := ho.m1
  have ht0 := ht.lo
  have ht1 := ht.hi
  obtain ⟨x, hx⟩ : ∃ x, Hid (clockAt m ba r 1125899906842624 = x) := ⟨_, hid rfl⟩
  have hge : n ≤ x := by rw [← hx.out]; exact Int.le_trans ht.at_t (clockAt_mono ho.r0 ht1)
  have Ht := hid ht; clear ht
  go_enter Try.func20, Try.ntmps20
  go_wp2_with fail
  refine (at_ok b m ba r 1125899906842624 x _ hc ho hm1 (by omega) hx).mono ?_
  rintro e w' ⟨rfl, hg⟩
  have c0 := (hc.kept hg (by simp)).c0
  go_wp2_with fail
  clear c0
  go_loopw [6, 7, 8] (fun lo hi _ wr => ∃ l h : Int, lo = .int .i64 l ∧ hi = .int .i64 h ∧ m ≤ l ∧ l ≤ t ∧ t ≤ h ∧ h ≤ 1125899906842624 ∧ w.grownBy wr none) (fun lo hi _ _ => (intOf hi - intOf lo).toNat)
  case atStart => exact ⟨m, 1125899906842624, rfl, rfl, by omega, ht0, ht1, by omega, hg⟩
  case round =>
    obtain ⟨l, h, rfl, rfl, hl0, hl1, hh0, hh1, hgr⟩ := hrel
    by_cases hlt : l < h
    · have c := hc.kept hgr (by simp)
      obtain ⟨y, hy⟩ : ∃ y, Hid (clockAt m ba r ((l + h) / 2) = y) := ⟨_, hid rfl⟩
      by_cases hyn : y < n
      · have hmt : (l + h) / 2 < t := by
          rcases Int.lt_or_le ((l + h) / 2) t with h1 | h1
          · exact h1
          · have h2 := clockAt_mono (m := m) (ba := ba) ho.r0 h1; have h3 := Ht.out.at_t; have h4 := hy.out; omega
        go_wp2_with fail
        refine (half_any l h _ (by omega) (by omega) (by omega) (by omega)).mono ?_
        rintro e w' ⟨rfl, rfl⟩
        go_wp2_with fail
        refine (at_ok b m ba r ((l + h) / 2) y _ c ho (by omega) (by omega) hy).mono ?_
        rintro e w' ⟨rfl, hg2⟩
        go_wp2_with fail
        go_roundw
        case rel => exact ⟨(l + h) / 2 + 1, h, rfl, rfl, by omega, by omega, by omega, by omega, gr_trans hgr hg2⟩
        case measure => simp [intOf]; omega
      · have hyn' : n ≤ y := by omega
        clear hyn
        have hmt : t ≤ (l + h) / 2 := by
          rcases Int.lt_or_le ((l + h) / 2) t with h1 | h1
          · have h2 := Ht.out.before _ (by omega) h1; have h4 := hy.out; omega
          · exact h1
        go_wp2_with fail
        refine (half_any l h _ (by omega) (by omega) (by omega) (by omega)).mono ?_
        rintro e w' ⟨rfl, rfl⟩
        go_wp2_with fail
        refine (at_ok b m ba r ((l + h) / 2) y _ c ho (by omega) (by omega) hy).mono ?_
        rintro e w' ⟨rfl, hg2⟩
        go_wp2_with fail
        go_roundw
        case rel => exact ⟨l, (l + h) / 2, rfl, rfl, by omega, by omega, by omega, by omega, gr_trans hgr hg2⟩
        case measure => simp [intOf]; omega
    · obtain rfl : l = t := by omega
      have hle : h ≤ l := by omega
      clear hlt
      go_wp2_with fail
      go_ret2
      exact ⟨rfl, hgr⟩
end Go.Proofs.Ytfmkjolfpjfhbaa
