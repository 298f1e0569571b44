/- The clock's methods: at, New, Now. -/
import Derived.Test.YtfmkjolfpjfhbaaClock
namespace Go.Proofs.Ytfmkjolfpjfhbaa
open Go.RowKit Go.Lib

theorem at_ok (b : Nat) (m ba r t n : Int) (w : World) (hc : Clk w b m ba r) (ho : ClockOk m ba r) (h0 : m ≤ t) (h1 : t ≤ 1125899906842624) (hn : Hid (clockAt m ba r t = n)) :
    Calls Try.prog 30 #[.pointer (some ⟨b, 0, none⟩), .int .i64 t] w fun e w' => e = .returned (.int .i64 n) ∧ w.grownBy w' none := by
  obtain ⟨p0, p1⟩ := mul_rate (t - m) r (by omega) ho.r0 ho.r1
  have hm0 := ho.m0; have hm1 := ho.m1; have hr0 := ho.r0; have hr1 := ho.r1; have hb0 := ho.b0; have hb1 := ho.b1
  have c0 := hc.c0; have c1 := hc.c1; have c2 := hc.c2
  have d0 : 0 ≤ t - m := by omega
  have d1 : t - m ≤ 1125899906842624 := by omega
  have q0 : Hid (-4611686018427387904000000000 < (t - m) * r) := hid (by omega)
  have q1 : Hid ((t - m) * r < 4611686018427387904000000000) := hid (by omega)
  have e0 : -1125899906843 ≤ (t - m) * r / 1000000000 := by omega
  have e1 : (t - m) * r / 1000000000 ≤ 1125899906843 := by omega
  clear p0 p1 ho
  have hN := hn.out
  unfold clockAt at hN
  generalize hq : (t - m) * r / 1000000000 = q at *
  have Hq := hid hq; clear hq
  have HN := hid hN; clear hN
  go_enter Try.func30, Try.ntmps30
  go_wp2_with fail
  refine (muldiv_floor (t - m) r _ (by omega) (by omega) (by omega) (by omega) q0.out q1.out).mono ?_
  rintro e w' ⟨rfl, hg⟩
  rw [Hq.out]
  have c1' := gr_cell hg c1
  go_wp2_with fail
  go_ret
  exact ⟨by rw [HN.out]; rfl, hg⟩

theorem new_ok (m ba r : Int) (w : World) (hr : Hid (realB m = true)) (hs : Hid (shownB ba = true)) (hf : Hid (fastB r = true)) :
    Calls Try.prog 10 #[.int .i64 m, .int .i64 ba, .int .i64 r] w fun e w' => e = .returned (.tuple #[.pointer (some ⟨w.heap.size, 0, none⟩), .int .i64 0]) ∧ Clk w' w.heap.size m ba r ∧ w.grownBy w' none := by
  go_enter Try.func10, Try.ntmps10
  go_wp2_with (first | (go_at_call 27; refine (real_at m _ _ hr).mono ?_; rintro e w' ⟨rfl, rfl⟩) | (go_at_call 28; refine (fast_at r _ _ hf).mono ?_; rintro e w' ⟨rfl, rfl⟩) | (go_at_call 29; refine (shown_at ba _ _ hs).mono ?_; rintro e w' ⟨rfl, rfl⟩))
  go_ret2
  exact ⟨rfl, Clk.new w m ba r, gr_alloc (gr_refl w none) _⟩

/-- Is it a clock that may be? -/
def newB (m ba r : Int) : Bool := realB m && fastB r && shownB ba

theorem new_bad (m ba r : Int) (w : World) (h : newB m ba r = false) :
    Calls Try.prog 10 #[.int .i64 m, .int .i64 ba, .int .i64 r] w fun e w' => e = .returned (.tuple #[.pointer none, .int .i64 1]) ∧ w = w' := by
  have hx : Hid (realB m = realB m) := hid rfl
  have hy : Hid (fastB r = fastB r) := hid rfl
  have hz : Hid (shownB ba = shownB ba) := hid rfl
  unfold newB at h
  generalize hr : realB m = x at *
  generalize hf : fastB r = y at *
  generalize hs : shownB ba = z at *
  have Hr : Hid (realB m = x) := hid hr
  have Hf : Hid (fastB r = y) := hid hf
  have Hs : Hid (shownB ba = z) := hid hs
  clear hr hf hs hx hy hz
  cases x <;> cases y <;> cases z <;> simp at h
  all_goals
    go_enter Try.func10, Try.ntmps10
    go_wp2_with (first | (go_at_call 27; refine (real_at m _ _ Hr).mono ?_; rintro e w' ⟨rfl, rfl⟩) | (go_at_call 28; refine (fast_at r _ _ Hf).mono ?_; rintro e w' ⟨rfl, rfl⟩) | (go_at_call 29; refine (shown_at ba _ _ Hs).mono ?_; rintro e w' ⟨rfl, rfl⟩))
    go_ret2
    exact ⟨rfl, rfl⟩

/-- May the clock be asked at t? -/
def nowB (m t : Int) : Bool := realB t && decide (m ≤ t)

theorem now_ok (b : Nat) (m ba r t n : Int) (w : World) (hc : Clk w b m ba r) (ho : ClockOk m ba r) (h : nowB m t = true) (hn : Hid (clockAt m ba r t = n)) :
    Calls Try.prog 14 #[.pointer (some ⟨b, 0, none⟩), .int .i64 t] w fun e w' => e = .returned (.tuple #[.int .i64 n, .int .i64 0]) ∧ w.grownBy w' none := by
  have h' : realB t = true ∧ m ≤ t := by simpa [nowB] using h
  obtain ⟨hr, hmt⟩ := h'
  clear h
  have hr' := realB_iff.1 hr
  obtain ⟨t0, t1⟩ := hr'
  have Hr := hid hr; clear hr
  have c0 := hc.c0
  go_enter Try.func14, Try.ntmps14
  go_wp2_with (first | (go_at_call 27; refine (real_at t _ _ Hr).mono ?_; rintro e w' ⟨rfl, rfl⟩) | (go_at_call 30; refine (at_ok b m ba r t n _ hc ho hmt t1 hn).mono ?_; rintro e w' ⟨rfl, hg⟩))
  go_ret2
  exact ⟨rfl, hg⟩

theorem now_bad (b : Nat) (m ba r t : Int) (w : World) (hc : Clk w b m ba r) (h : nowB m t = false) :
    Calls Try.prog 14 #[.pointer (some ⟨b, 0, none⟩), .int .i64 t] w fun e w' => e = .returned (.tuple #[.int .i64 0, .int .i64 1]) ∧ w = w' := by
  have c0 := hc.c0
  unfold nowB at h
  generalize hr : realB t = x at *
  have Hr := hid hr; clear hr
  cases x
  · clear h
    go_enter Try.func14, Try.ntmps14
    go_wp2_with (first | (go_at_call 27; refine (real_at t _ _ Hr).mono ?_; rintro e w' ⟨rfl, rfl⟩))
    go_ret2
    exact ⟨rfl, rfl⟩
  · have h2 : t < m := by simpa using h
    clear h
    go_enter Try.func14, Try.ntmps14
    go_wp2_with (first | (go_at_call 27; refine (real_at t _ _ Hr).mono ?_; rintro e w' ⟨rfl, rfl⟩))
    go_ret2
    exact ⟨rfl, rfl⟩

theorem now_nil (t : Int) (w : World) :
    Calls Try.prog 14 #[.pointer none, .int .i64 t] w fun e w' => e = .returned (.tuple #[.int .i64 0, .int .i64 1]) ∧ w = w' := by
  go_enter Try.func14, Try.ntmps14
  go_wp2_with fail
  go_ret2
  exact ⟨rfl, rfl⟩

theorem mark_ok (b : Nat) (m ba r : Int) (w : World) (hc : Clk w b m ba r) :
    Calls Try.prog 22 #[.pointer (some ⟨b, 0, none⟩)] w fun e w' => e = .returned (.tuple #[.int .i64 m, .int .i64 ba, .int .i64 r]) ∧ w.grownBy w' none := by
  have c0 := hc.c0; have c1 := hc.c1; have c2 := hc.c2
  go_enter Try.func22, Try.ntmps22
  go_wp2
  go_quiet (fail)
  go_wp2
  go_ret3
  exact ⟨rfl, gr_drewN (gr_refl w none) _⟩

theorem mark_nil (w : World) :
    Calls Try.prog 22 #[.pointer none] w fun e w' => e = .returned (.tuple #[.int .i64 0, .int .i64 0, .int .i64 0]) ∧ w = w' := by
  go_enter Try.func22, Try.ntmps22
  go_wp2
  go_ret3
  exact ⟨rfl, rfl⟩
end Go.Proofs.Ytfmkjolfpjfhbaa
