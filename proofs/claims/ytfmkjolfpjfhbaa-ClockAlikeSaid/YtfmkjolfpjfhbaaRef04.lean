/- The document's own clock (tocsinref04): the same numbers. -/
import Derived.Test.YtfmkjolfpjfhbaaClockW
import Derived.Deep.QuietTactic
import Derived.BigQuiet
namespace Go.Proofs.Ytfmkjolfpjfhbaa
open Go.RowKit Go.Lib

theorem rreal_at (t : Int) (b : Bool) (w : World) (hb : Hid (realB t = b)) :
    Calls Try.prog 11 #[.int .i64 t] w fun e w' => e = .returned (.bool b) ∧ w = w' := by
  have h := hb.out
  subst h
  by_cases h0 : 0 ≤ t <;> by_cases h1 : t ≤ 1125899906842624
  all_goals
    have hR : realB t = decide (0 ≤ t ∧ t ≤ 1125899906842624) := rfl
    simp only [h0, h1, and_true, and_false, decide_true, decide_false, and_self] at hR
    rw [hR]
    clear hR hb
    go_enter Try.func11, Try.ntmps11
    go_wp2
    go_ret
    exact ⟨by simp_all, rfl⟩

theorem rfast_at (t : Int) (b : Bool) (w : World) (hb : Hid (fastB t = b)) :
    Calls Try.prog 13 #[.int .i64 t] w fun e w' => e = .returned (.bool b) ∧ w = w' := by
  have h := hb.out
  subst h
  by_cases h0 : -1000000 ≤ t <;> by_cases h1 : t ≤ 1000000
  all_goals
    have hR : fastB t = decide (-1000000 ≤ t ∧ t ≤ 1000000) := rfl
    simp only [h0, h1, and_true, and_false, decide_true, decide_false, and_self] at hR
    rw [hR]
    clear hR hb
    go_enter Try.func13, Try.ntmps13
    go_wp2
    go_ret
    exact ⟨by simp_all, rfl⟩

theorem rshown_at (t : Int) (b : Bool) (w : World) (hb : Hid (shownB t = b)) :
    Calls Try.prog 12 #[.int .i64 t] w fun e w' => e = .returned (.bool b) ∧ w = w' := by
  have h := hb.out
  subst h
  by_cases h0 : -1125899906842624 ≤ t <;> by_cases h1 : t ≤ 1125899906842624
  all_goals
    have hR : shownB t = decide (-1125899906842624 ≤ t ∧ t ≤ 1125899906842624) := rfl
    simp only [h0, h1, and_true, and_false, decide_true, decide_false, and_self] at hR
    rw [hR]
    clear hR hb
    go_enter Try.func12, Try.ntmps12
    go_wp2
    go_ret
    exact ⟨by simp_all, rfl⟩

theorem tdiv_floor (a : Int) : (if a.tmod 1000000000 < 0 then a.tdiv 1000000000 - 1 else a.tdiv 1000000000) = a / 1000000000 := by
  rw [Int.tmod_def]
  rcases Int.lt_or_le a 0 with h | h
  · obtain ⟨n, rfl⟩ : ∃ n : Nat, a = -(n : Int) := ⟨a.natAbs, by omega⟩
    rw [Int.neg_tdiv, Int.tdiv_eq_ediv_of_nonneg (by omega)]
    split <;> omega
  · rw [Int.tdiv_eq_ediv_of_nonneg h]
    split <;> omega

theorem tdiv_bd (a : Int) (h0 : -1000000000000000 ≤ a) (h1 : a ≤ 1000000000000000) : -1000000 ≤ a.tdiv 1000000000 ∧ a.tdiv 1000000000 ≤ 1000000 := by
  rcases Int.lt_or_le a 0 with h | h
  · obtain ⟨n, rfl⟩ : ∃ n : Nat, a = -(n : Int) := ⟨a.natAbs, by omega⟩
    rw [Int.neg_tdiv, Int.tdiv_eq_ediv_of_nonneg (by omega)]
    omega
  · rw [Int.tdiv_eq_ediv_of_nonneg h]
    omega

theorem floor_any (a : Int) (w : World) (h0 : -1000000000000000 ≤ a) (h1 : a ≤ 1000000000000000) :
    Calls Try.prog 38 #[.int .i64 a, .int .i64 1000000000] w fun e w' => e = .returned (.int .i64 (a / 1000000000)) ∧ w' = w := by
  have hf := tdiv_floor a
  obtain ⟨q0, q1⟩ := tdiv_bd a h0 h1
  obtain ⟨q, hq⟩ : ∃ q, Hid (a.tdiv 1000000000 = q) := ⟨_, hid rfl⟩
  obtain ⟨r, hr⟩ : ∃ r, Hid (a.tmod 1000000000 = r) := ⟨_, hid rfl⟩
  rw [hq.out] at q0 q1
  rw [hq.out, hr.out] at hf
  have Hf := hid hf; clear hf
  go_enter Try.func38, Try.ntmps38
  go_wp2
  · have h := (by assumption : a.tmod 1000000000 < 0)
    go_ret
    refine ⟨?_, rfl⟩
    show Ending.returned (.int .i64 (wrap64 (a.tdiv 1000000000 - 1))) = _
    rw [hr.out] at h
    rw [← Hf.out, if_pos h, hq.out, IntWalk.wrap64_in _ ⟨by omega, by omega⟩]
  · have h := (by assumption : 0 ≤ a.tmod 1000000000)
    go_ret
    refine ⟨?_, rfl⟩
    show Ending.returned (.int .i64 (a.tdiv 1000000000)) = _
    rw [hr.out] at h
    rw [← Hf.out, if_neg (by omega), hq.out]

/-- A clock of the document's, by value. -/
abbrev rclk (m ba r : Int) : Value := .agg #[.int .i64 m, .int .i64 ba, .int .i64 r]

theorem split_rate (d r : Int) : d / 1000000000 * r + d % 1000000000 * r / 1000000000 = d * r / 1000000000 := by
  have h1 : d * r = d / 1000000000 * r * 1000000000 + d % 1000000000 * r := by
    have h2 : d = d / 1000000000 * 1000000000 + d % 1000000000 := by omega
    have h3 : d * r = (d / 1000000000 * 1000000000 + d % 1000000000) * r := by rw [← h2]
    rw [h3, Int.add_mul, Int.mul_assoc, Int.mul_assoc, Int.mul_comm 1000000000 r]
  rw [h1]
  generalize d / 1000000000 * r = p
  generalize d % 1000000000 * r = q
  omega

theorem rat_ok (m ba r t n : Int) (w : World) (ho : ClockOk m ba r) (h0 : m ≤ t) (h1 : t ≤ 1125899906842624) (hn : Hid (clockAt m ba r t = n)) :
    Calls Try.prog 31 #[rclk m ba r, .int .i64 t] w fun e w' => e = .returned (.int .i64 n) ∧ w.grownBy w' none := by
  have hm0 := ho.m0; have hm1 := ho.m1; have hr0 := ho.r0; have hr1 := ho.r1; have hb0 := ho.b0; have hb1 := ho.b1
  have hN := hn.out
  unfold clockAt at hN
  rw [← split_rate] at hN
  obtain ⟨d, hd⟩ : ∃ d, Hid (t - m = d) := ⟨_, hid rfl⟩
  have d0 : 0 ≤ d := by rw [← hd.out]; omega
  have d1 : d ≤ 1125899906842624 := by rw [← hd.out]; omega
  rw [hd.out] at hN
  obtain ⟨a0, a1⟩ := mul_rate (d / 1000000000) r (by omega) hr0 hr1
  obtain ⟨e0, e1⟩ := mul_rate (d % 1000000000) r (by omega) hr0 hr1
  have w1 : IntKind.i64.wrap (ba + d) = ba + d := by rw [IntKind.wrap_i64]; omega
  have w2 : IntKind.i64.wrap (d / 1000000000 * r) = d / 1000000000 * r := by rw [IntKind.wrap_i64]; omega
  have w3 : IntKind.i64.wrap (ba + d + d / 1000000000 * r) = ba + d + d / 1000000000 * r := by rw [IntKind.wrap_i64]; omega
  have w4 : IntKind.i64.wrap (d % 1000000000 * r) = d % 1000000000 * r := by rw [IntKind.wrap_i64]; omega
  have w5 : IntKind.i64.wrap (ba + d + d / 1000000000 * r + d % 1000000000 * r / 1000000000) = ba + d + d / 1000000000 * r + d % 1000000000 * r / 1000000000 := by rw [IntKind.wrap_i64]; omega
  have HN := hid (show ba + d + d / 1000000000 * r + d % 1000000000 * r / 1000000000 = n by omega)
  clear hN hn ho
  have W1 := hid w1; have W2 := hid w2; have W3 := hid w3; have W4 := hid w4; have W5 := hid w5
  clear w1 w2 w3 w4 w5
  go_enter Try.func31, Try.ntmps31
  go_wp2_with fail
  rw [hd.out]
  have w1 := W1.out; have w2 := W2.out; have w3 := W3.out; have w4 := W4.out; have w5 := W5.out
  go_quiet ((go_at_call 38; exact Calls.quiet_of_same (floor_any _ _ (by omega) (by omega))))
  clear w1 w2 w3 w4 w5
  go_wp2_with fail
  go_ret
  rw [HN.out]
  exact ⟨rfl, gr_drewN (gr_alloc (gr_refl w none) _) _⟩

theorem rnow_ok (m ba r t n : Int) (w : World) (ho : ClockOk m ba r) (h : nowB m t = true) (hn : Hid (clockAt m ba r t = n)) :
    Calls Try.prog 15 #[rclk m ba r, .int .i64 t] w fun e w' => e = .returned (.tuple #[.int .i64 n, .int .i64 0]) ∧ w.grownBy w' none := by
  have h' : realB t = true ∧ m ≤ t := by simpa [nowB] using h
  obtain ⟨hr, hmt⟩ := h'
  clear h
  obtain ⟨t0, t1⟩ := realB_iff.1 hr
  have Hr := hid hr; clear hr
  go_enter Try.func15, Try.ntmps15
  go_wp2_with (go_at_call 11; refine (rreal_at t _ _ Hr).mono ?_; rintro e w' ⟨rfl, rfl⟩)
  refine (rat_ok m ba r t n _ ho hmt t1 hn).mono ?_
  rintro e w' ⟨rfl, hg⟩
  go_wp2_with fail
  go_ret2
  exact ⟨rfl, gr_trans (gr_alloc (gr_refl w none) _) hg⟩

theorem rnow_bad (m ba r t : Int) (w : World) (h : nowB m t = false) :
    Calls Try.prog 15 #[rclk m ba r, .int .i64 t] w fun e w' => e = .returned (.tuple #[.int .i64 0, .int .i64 1]) ∧ w.grownBy w' none := by
  unfold nowB at h
  generalize hr : realB t = x at *
  have Hr := hid hr; clear hr
  cases x
  · clear h
    go_enter Try.func15, Try.ntmps15
    go_wp2_with (go_at_call 11; refine (rreal_at t _ _ Hr).mono ?_; rintro e w' ⟨rfl, rfl⟩)
    go_ret2
    exact ⟨rfl, gr_alloc (gr_refl w none) _⟩
  · have h2 : t < m := by simpa using h
    clear h
    go_enter Try.func15, Try.ntmps15
    go_wp2_with (go_at_call 11; refine (rreal_at t _ _ Hr).mono ?_; rintro e w' ⟨rfl, rfl⟩)
    go_ret2
    exact ⟨rfl, gr_alloc (gr_refl w none) _⟩

/-- A block of three int64 cells. -/
def Trio (T : TypeId) (w : World) (b : Nat) (x y z : Int) : Prop := w.heap[b]? = some (.cells #[.int .i64 x, .int .i64 y, .int .i64 z] T (0, 0))
theorem Trio.c0 {T : TypeId} {w : World} {b : Nat} {x y z : Int} (h : Trio T w b x y z) : w.cell? ⟨b, 0, none⟩ = some (.int .i64 x) := by unfold Trio at h; simp [World.cell?, h]
theorem Trio.c1 {T : TypeId} {w : World} {b : Nat} {x y z : Int} (h : Trio T w b x y z) : w.cell? ⟨b, 1, none⟩ = some (.int .i64 y) := by unfold Trio at h; simp [World.cell?, h]
theorem Trio.c2 {T : TypeId} {w : World} {b : Nat} {x y z : Int} (h : Trio T w b x y z) : w.cell? ⟨b, 2, none⟩ = some (.int .i64 z) := by unfold Trio at h; simp [World.cell?, h]
theorem Trio.f {T : TypeId} {w : World} {b : Nat} {x y z : Int} (h : Trio T w b x y z) (i : Nat) : w.frozen? ⟨b, i, none⟩ = false := by unfold Trio at h; simp [World.frozen?, h]
theorem Trio.lt {T : TypeId} {w : World} {b : Nat} {x y z : Int} (h : Trio T w b x y z) : b < w.heap.size := lt_of_block h
theorem Trio.kept {T : TypeId} {w w' : World} {b : Nat} {x y z : Int} {row : Option Nat} (h : Trio T w b x y z) (hg : w.grownBy w' row) (hr : some b ≠ row) : Trio T w' b x y z := gr_heap hg h hr
theorem Trio.new (T : TypeId) (w : World) (x y z : Int) : Trio T (w.alloc (.cells #[.int .i64 x, .int .i64 y, .int .i64 z] T)) w.heap.size x y z := by unfold Trio; exact heap_alloc_new w _
theorem Trio.new1 (T : TypeId) (w : World) (o : Obj) (x y z : Int) : Trio T ((w.alloc o).alloc (.cells #[.int .i64 x, .int .i64 y, .int .i64 z] T)) (w.heap.size + 1) x y z := by
  have := Trio.new T (w.alloc o) x y z
  simpa using this
theorem Trio.set3 {T : TypeId} {w : World} {b : Nat} {x y z x' y' z' : Int} (h : Trio T w b x y z) :
    Trio T (((w.setCell ⟨b, 0, none⟩ (.int .i64 x')).setCell ⟨b, 1, none⟩ (.int .i64 y')).setCell ⟨b, 2, none⟩ (.int .i64 z')) b x' y' z' := by
  unfold Trio at *
  simp only [World.setCell, Array.getElem?_modify, if_true, h, Option.map_some]
  rfl

theorem gr_set3new {w w' : World} {b : Nat} (hg : w.grownBy w' none) (hb : w.heap.size ≤ b) (u v x : Value) : w.grownBy (((w'.setCell ⟨b, 0, none⟩ u).setCell ⟨b, 1, none⟩ v).setCell ⟨b, 2, none⟩ x) none :=
  gr_setNew (gr_setNew (gr_setNew hg hb 0 u) hb 1 v) hb 2 x

theorem rrate_ok (m ba r t r' n : Int) (w : World) (ho : ClockOk m ba r) (h : nowB m t = true) (hf : fastB r' = true) (hn : Hid (clockAt m ba r t = n)) :
    Calls Try.prog 17 #[rclk m ba r, .int .i64 t, .int .i64 r'] w fun e w' => e = .returned (.tuple #[rclk t n r', .int .i64 0]) ∧ w.grownBy w' none := by
  have h' : realB t = true ∧ m ≤ t := by simpa [nowB] using h
  obtain ⟨hr, hmt⟩ := h'
  clear h
  obtain ⟨t0, t1⟩ := realB_iff.1 hr
  have Hr := hid hr; have Hf := hid hf; clear hr hf
  go_enter Try.func17, Try.ntmps17
  go_wp2_with (first | (go_at_call 11; refine (rreal_at t _ _ Hr).mono ?_; rintro e w' ⟨rfl, rfl⟩) | (go_at_call 13; refine (rfast_at r' _ _ Hf).mono ?_; rintro e w' ⟨rfl, rfl⟩))
  refine (rat_ok m ba r t n _ ho hmt t1 hn).mono ?_
  rintro e w' ⟨rfl, hg⟩
  have hT := (Trio.new1 31 w _ 0 0 0).kept hg (by simp)
  have k0 := hT.c0; have k1 := hT.c1; have k2 := hT.c2; have f0 := hT.f 0; have f1 := hT.f 1; have f2 := hT.f 2
  go_wp2_with fail
  exact bodyPost_ret (v := .tuple #[rclk t n r', .int .i64 0]) (by simp [results, Try.results17, go_sem, k0, k1, k2]) rfl ⟨rfl, gr_set3new (gr_trans (gr_alloc (gr_alloc (gr_refl w none) _) _) hg) (by omega) _ _ _⟩

theorem rrate_bad (m ba r t r' : Int) (w : World) (h : (nowB m t && fastB r') = false) :
    Calls Try.prog 17 #[rclk m ba r, .int .i64 t, .int .i64 r'] w fun e w' => e = .returned (.tuple #[rclk m ba r, .int .i64 1]) ∧ w.grownBy w' none := by
  unfold nowB at h
  generalize hr : realB t = x at *
  generalize hf : fastB r' = y at *
  have Hr := hid hr; clear hr
  have Hf := hid hf; clear hf
  by_cases hmt : m ≤ t
  · cases x <;> cases y <;> simp [hmt] at h
    all_goals
      go_enter Try.func17, Try.ntmps17
      go_wp2_with (first | (go_at_call 11; refine (rreal_at t _ _ Hr).mono ?_; rintro e w' ⟨rfl, rfl⟩) | (go_at_call 13; refine (rfast_at r' _ _ Hf).mono ?_; rintro e w' ⟨rfl, rfl⟩))
      exact bodyPost_ret (v := .tuple #[rclk m ba r, .int .i64 1]) (by simp [results, Try.results17, go_sem]) rfl ⟨rfl, gr_alloc (gr_alloc (gr_refl w none) _) _⟩
  · clear h
    have hmt' : t < m := by omega
    clear hmt
    cases x <;> cases y
    all_goals
      go_enter Try.func17, Try.ntmps17
      go_wp2_with (first | (go_at_call 11; refine (rreal_at t _ _ Hr).mono ?_; rintro e w' ⟨rfl, rfl⟩) | (go_at_call 13; refine (rfast_at r' _ _ Hf).mono ?_; rintro e w' ⟨rfl, rfl⟩))
      exact bodyPost_ret (v := .tuple #[rclk m ba r, .int .i64 1]) (by simp [results, Try.results17, go_sem]) rfl ⟨rfl, gr_alloc (gr_alloc (gr_refl w none) _) _⟩

theorem rset_ok (m ba r t b : Int) (w : World) (h : nowB m t = true) (hf : shownB b = true) :
    Calls Try.prog 19 #[rclk m ba r, .int .i64 t, .int .i64 b] w fun e w' => e = .returned (.tuple #[rclk t b r, .int .i64 0]) ∧ w.grownBy w' none := by
  have h' : realB t = true ∧ m ≤ t := by simpa [nowB] using h
  obtain ⟨hr, hmt⟩ := h'
  clear h
  have Hr := hid hr; have Hf := hid hf; clear hr hf
  go_enter Try.func19, Try.ntmps19
  go_wp2_with (first | (go_at_call 11; refine (rreal_at t _ _ Hr).mono ?_; rintro e w' ⟨rfl, rfl⟩) | (go_at_call 12; refine (rshown_at b _ _ Hf).mono ?_; rintro e w' ⟨rfl, rfl⟩))
  exact bodyPost_ret (v := .tuple #[rclk t b r, .int .i64 0]) (by simp [results, Try.results19, go_sem]) rfl ⟨rfl, gr_alloc (gr_alloc (gr_refl w none) _) _⟩

theorem rset_bad (m ba r t r' : Int) (w : World) (h : (nowB m t && shownB r') = false) :
    Calls Try.prog 19 #[rclk m ba r, .int .i64 t, .int .i64 r'] w fun e w' => e = .returned (.tuple #[rclk m ba r, .int .i64 1]) ∧ w.grownBy w' none := by
  unfold nowB at h
  generalize hr : realB t = x at *
  generalize hf : shownB r' = y at *
  have Hr := hid hr; clear hr
  have Hf := hid hf; clear hf
  by_cases hmt : m ≤ t
  · cases x <;> cases y <;> simp [hmt] at h
    all_goals
      go_enter Try.func19, Try.ntmps19
      go_wp2_with (first | (go_at_call 11; refine (rreal_at t _ _ Hr).mono ?_; rintro e w' ⟨rfl, rfl⟩) | (go_at_call 12; refine (rshown_at r' _ _ Hf).mono ?_; rintro e w' ⟨rfl, rfl⟩))
      exact bodyPost_ret (v := .tuple #[rclk m ba r, .int .i64 1]) (by simp [results, Try.results19, go_sem]) rfl ⟨rfl, gr_alloc (gr_alloc (gr_refl w none) _) _⟩
  · clear h
    have hmt' : t < m := by omega
    clear hmt
    cases x <;> cases y
    all_goals
      go_enter Try.func19, Try.ntmps19
      go_wp2_with (first | (go_at_call 11; refine (rreal_at t _ _ Hr).mono ?_; rintro e w' ⟨rfl, rfl⟩) | (go_at_call 12; refine (rshown_at r' _ _ Hf).mono ?_; rintro e w' ⟨rfl, rfl⟩))
      exact bodyPost_ret (v := .tuple #[rclk m ba r, .int .i64 1]) (by simp [results, Try.results19, go_sem]) rfl ⟨rfl, gr_alloc (gr_alloc (gr_refl w none) _) _⟩

end Go.Proofs.Ytfmkjolfpjfhbaa
