/- The clock's methods: Rate, Set, When. -/
import Derived.Test.YtfmkjolfpjfhbaaClockB
namespace Go.Proofs.Ytfmkjolfpjfhbaa
open Go.RowKit Go.Lib

theorem Clk.set3 {w w' : World} {b : Nat} {m ba r m' b' r' : Int} (hc : Clk w b m ba r) (hg : w.grownBy w' none) :
    Clk (((w'.setCell ⟨b, 0, none⟩ (.int .i64 m')).setCell ⟨b, 1, none⟩ (.int .i64 b')).setCell ⟨b, 2, none⟩ (.int .i64 r')) b m' b' r' := by
  have h := hc.kept hg (by simp)
  unfold Clk at *
  have hl := lt_of_block h
  simp only [World.setCell, Array.getElem?_modify, if_true, h, Option.map_some]
  rfl
theorem Clk.set2 {w w' : World} {b : Nat} {m ba r m' b' : Int} (hc : Clk w b m ba r) (hg : w.grownBy w' none) :
    Clk ((w'.setCell ⟨b, 0, none⟩ (.int .i64 m')).setCell ⟨b, 1, none⟩ (.int .i64 b')) b m' b' r := by
  have h := hc.kept hg (by simp)
  unfold Clk at *
  have hl := lt_of_block h
  simp only [World.setCell, Array.getElem?_modify, if_true, h, Option.map_some]
  rfl

theorem gr_set3 {w w' : World} {b : Nat} (hg : w.grownBy w' none) (u v x : Value) : w.grownBy (((w'.setCell ⟨b, 0, none⟩ u).setCell ⟨b, 1, none⟩ v).setCell ⟨b, 2, none⟩ x) (some b) :=
  gr_setRow (gr_setRow (gr_setRow (gr_none hg) 0 u) 1 v) 2 x
theorem gr_set2 {w w' : World} {b : Nat} (hg : w.grownBy w' none) (u v : Value) : w.grownBy ((w'.setCell ⟨b, 0, none⟩ u).setCell ⟨b, 1, none⟩ v) (some b) :=
  gr_setRow (gr_setRow (gr_none hg) 0 u) 1 v

theorem rate_ok (b : Nat) (m ba r t r' : Int) (w : World) (hc : Clk w b m ba r) (ho : ClockOk m ba r) (h : nowB m t = true) (hf : fastB r' = true) :
    Calls Try.prog 16 #[.pointer (some ⟨b, 0, none⟩), .int .i64 t, .int .i64 r'] w fun e w' => e = .returned (.int .i64 0) ∧ Clk w' b t (clockAt m ba r t) r' ∧ w.grownBy w' (some b) := by
  have h' : realB t = true ∧ m ≤ t := by simpa [nowB] using h
  obtain ⟨hr, hmt⟩ := h'
  clear h
  have hr' := realB_iff.1 hr
  obtain ⟨t0, t1⟩ := hr'
  have Hr := hid hr; clear hr
  have Hf := hid hf; clear hf
  have c0 := hc.c0
  obtain ⟨n, hn⟩ : ∃ n, Hid (clockAt m ba r t = n) := ⟨_, hid rfl⟩
  rw [show clockAt m ba r t = n from hn.out]
  go_enter Try.func16, Try.ntmps16
  go_wp2_with (first | (go_at_call 27; refine (real_at t _ _ Hr).mono ?_; rintro e w' ⟨rfl, rfl⟩) | (go_at_call 28; refine (fast_at r' _ _ Hf).mono ?_; rintro e w' ⟨rfl, rfl⟩))
  refine (at_ok b m ba r t n _ hc ho hmt t1 hn).mono ?_
  rintro e w' ⟨rfl, hg⟩
  have f0 := (hc.kept hg (by simp)).f 0
  have f1 := (hc.kept hg (by simp)).f 1
  have f2 := (hc.kept hg (by simp)).f 2
  have g0 := (hc.kept hg (by simp)).c0
  have g1 := (hc.kept hg (by simp)).c1
  have g2 := (hc.kept hg (by simp)).c2
  go_wp2_with fail
  go_ret
  refine ⟨rfl, ?_, ?_⟩
  · exact Clk.set3 hc hg
  · exact gr_set3 hg _ _ _

theorem rate_bad (b : Nat) (m ba r t r' : Int) (w : World) (hc : Clk w b m ba r) (h : (nowB m t && fastB r') = false) :
    Calls Try.prog 16 #[.pointer (some ⟨b, 0, none⟩), .int .i64 t, .int .i64 r'] w fun e w' => e = .returned (.int .i64 1) ∧ w = w' := by
  have c0 := hc.c0
  unfold nowB at h
  generalize hr : realB t = x at *
  generalize hf : fastB r' = y at *
  have Hr := hid hr; clear hr
  have Hf := hid hf; clear hf
  by_cases hmt : m ≤ t
  · cases x <;> cases y <;> simp [hmt] at h
    all_goals
      go_enter Try.func16, Try.ntmps16
      go_wp2_with (first | (go_at_call 27; refine (real_at t _ _ Hr).mono ?_; rintro e w' ⟨rfl, rfl⟩) | (go_at_call 28; refine (fast_at r' _ _ Hf).mono ?_; rintro e w' ⟨rfl, rfl⟩))
      go_ret
      exact ⟨rfl, rfl⟩
  · clear h
    have hmt' : t < m := by omega
    clear hmt
    cases x <;> cases y
    all_goals
      go_enter Try.func16, Try.ntmps16
      go_wp2_with (first | (go_at_call 27; refine (real_at t _ _ Hr).mono ?_; rintro e w' ⟨rfl, rfl⟩) | (go_at_call 28; refine (fast_at r' _ _ Hf).mono ?_; rintro e w' ⟨rfl, rfl⟩))
      go_ret
      exact ⟨rfl, rfl⟩

theorem rate_nil (t r' : Int) (w : World) :
    Calls Try.prog 16 #[.pointer none, .int .i64 t, .int .i64 r'] w fun e w' => e = .returned (.int .i64 1) ∧ w = w' := by
  go_enter Try.func16, Try.ntmps16
  go_wp2_with fail
  go_ret
  exact ⟨rfl, rfl⟩

theorem set_ok (b : Nat) (m ba r t b' : Int) (w : World) (hc : Clk w b m ba r) (h : nowB m t = true) (hs : shownB b' = true) :
    Calls Try.prog 18 #[.pointer (some ⟨b, 0, none⟩), .int .i64 t, .int .i64 b'] w fun e w' => e = .returned (.int .i64 0) ∧ Clk w' b t b' r ∧ w.grownBy w' (some b) := by
  have h' : realB t = true ∧ m ≤ t := by simpa [nowB] using h
  obtain ⟨hr, hmt⟩ := h'
  clear h
  have Hr := hid hr; clear hr
  have Hs := hid hs; clear hs
  have c0 := hc.c0
  have c1 := hc.c1
  have f0 := hc.f 0
  have f1 := hc.f 1
  go_enter Try.func18, Try.ntmps18
  go_wp2_with (first | (go_at_call 27; refine (real_at t _ _ Hr).mono ?_; rintro e w' ⟨rfl, rfl⟩) | (go_at_call 29; refine (shown_at b' _ _ Hs).mono ?_; rintro e w' ⟨rfl, rfl⟩))
  go_ret
  refine ⟨rfl, ?_, ?_⟩
  · exact Clk.set2 hc (gr_refl w none)
  · exact gr_set2 (gr_refl w none) _ _

theorem set_bad (b : Nat) (m ba r t b' : Int) (w : World) (hc : Clk w b m ba r) (h : (nowB m t && shownB b') = false) :
    Calls Try.prog 18 #[.pointer (some ⟨b, 0, none⟩), .int .i64 t, .int .i64 b'] w fun e w' => e = .returned (.int .i64 1) ∧ w = w' := by
  have c0 := hc.c0
  unfold nowB at h
  generalize hr : realB t = x at *
  generalize hf : shownB b' = y at *
  have Hr := hid hr; clear hr
  have Hf := hid hf; clear hf
  by_cases hmt : m ≤ t
  · cases x <;> cases y <;> simp [hmt] at h
    all_goals
      go_enter Try.func18, Try.ntmps18
      go_wp2_with (first | (go_at_call 27; refine (real_at t _ _ Hr).mono ?_; rintro e w' ⟨rfl, rfl⟩) | (go_at_call 29; refine (shown_at b' _ _ Hf).mono ?_; rintro e w' ⟨rfl, rfl⟩))
      go_ret
      exact ⟨rfl, rfl⟩
  · clear h
    have hmt' : t < m := by omega
    clear hmt
    cases x <;> cases y
    all_goals
      go_enter Try.func18, Try.ntmps18
      go_wp2_with (first | (go_at_call 27; refine (real_at t _ _ Hr).mono ?_; rintro e w' ⟨rfl, rfl⟩) | (go_at_call 29; refine (shown_at b' _ _ Hf).mono ?_; rintro e w' ⟨rfl, rfl⟩))
      go_ret
      exact ⟨rfl, rfl⟩

theorem set_nil (t b' : Int) (w : World) :
    Calls Try.prog 18 #[.pointer none, .int .i64 t, .int .i64 b'] w fun e w' => e = .returned (.int .i64 1) ∧ w = w' := by
  go_enter Try.func18, Try.ntmps18
  go_wp2_with fail
  go_ret
  exact ⟨rfl, rfl⟩

end Go.Proofs.Ytfmkjolfpjfhbaa
