/- perm: Due in every way; Take in its refusing ways. -/
import Derived.Test.YtkcgpbehicjidaaQueU
namespace Go.Proofs.Ytkcgpbehicjidaa
open Go.RowKit Go.Lib

theorem nowB_at {t : Int} (h0 : 0 ≤ t) (h1 : t ≤ 1125899906842624) : nowB 0 t = true := by
  have : realB t = true := realB_iff.2 ⟨h0, h1⟩
  simp [nowB, this, h0]
def dueB (m t cl dl : Int) : Bool := nowB m t && decide (0 ≤ dl ∧ dl ≤ 1048576 ∧ 0 ≤ cl ∧ cl ≤ dl)
/-- What Due answers. -/
inductive Due10 (m ba r t cl dl : Int) : Int → Int → Prop
  | bad (h : dueB m t cl dl = false) : Due10 m ba r t cl dl 0 1
  | none (h : dueB m t cl dl = true) (hw : clockAt m ba r 1125899906842624 < clockAt m ba r t + dl - cl) : Due10 m ba r t cl dl 0 5
  | ok (h : dueB m t cl dl = true) (d : Int) (hw : IsWhen m ba r (clockAt m ba r t + dl - cl) d) : Due10 m ba r t cl dl d 0
theorem Due10.exists {m ba r : Int} (ho : ClockOk m ba r) (t cl dl : Int) : ∃ d e, Due10 m ba r t cl dl d e := by
  cases h : dueB m t cl dl with
  | false => exact ⟨_, _, .bad h⟩
  | true =>
    rcases Int.lt_or_le (clockAt m ba r 1125899906842624) (clockAt m ba r t + dl - cl) with h1 | h1
    · exact ⟨_, _, .none h h1⟩
    · obtain ⟨d, hd⟩ := IsWhen.exists ho.m1 h1
      exact ⟨_, _, .ok h d hd⟩

set_option maxHeartbeats 1000000 in
theorem due_bad (b : Nat) (m ba r t cl dl : Int) (w : World) (hc : Clk w b m ba r) (ho : ClockOk m ba r) (h : dueB m t cl dl = false) :
    Calls Try.prog 14 #[.pointer (some ⟨b, 0, none⟩), .int .i64 t, .int .i64 cl, .int .i64 dl] w fun e w' => e = .returned (.tuple #[.int .i64 0, .int .i64 1]) ∧ w.grownBy w' none := by
  have Hc := hid hc
  have Ho := hid ho
  cases hn : nowB m t with
  | false =>
    have Hn := hid hn
    clear hc ho h hn
    by_cases h1 : dl < 0
    · go_enter Try.func14, Try.ntmps14
      go_wp2_with fail
      refine (now_bad b m ba r t _ Hc.out Hn.out).mono ?_
      rintro e w1 ⟨rfl, rfl⟩
      go_wp2_with fail
      go_ret2
      exact ⟨rfl, gr_refl _ none⟩
    · by_cases h2 : 1048576 < dl
      · go_enter Try.func14, Try.ntmps14
        go_wp2_with fail
        refine (now_bad b m ba r t _ Hc.out Hn.out).mono ?_
        rintro e w1 ⟨rfl, rfl⟩
        go_wp2_with fail
        go_ret2
        exact ⟨rfl, gr_refl _ none⟩
      · by_cases h3 : cl < 0
        · go_enter Try.func14, Try.ntmps14
          go_wp2_with fail
          refine (now_bad b m ba r t _ Hc.out Hn.out).mono ?_
          rintro e w1 ⟨rfl, rfl⟩
          go_wp2_with fail
          go_ret2
          exact ⟨rfl, gr_refl _ none⟩
        · by_cases h4 : dl < cl
          · go_enter Try.func14, Try.ntmps14
            go_wp2_with fail
            refine (now_bad b m ba r t _ Hc.out Hn.out).mono ?_
            rintro e w1 ⟨rfl, rfl⟩
            go_wp2_with fail
            go_ret2
            exact ⟨rfl, gr_refl _ none⟩
          · go_enter Try.func14, Try.ntmps14
            go_wp2_with fail
            refine (now_bad b m ba r t _ Hc.out Hn.out).mono ?_
            rintro e w1 ⟨rfl, rfl⟩
            go_wp2_with fail
            go_ret2
            exact ⟨rfl, gr_refl _ none⟩
  | true =>
    have Hn := hid hn
    obtain ⟨now, hnow⟩ : ∃ now, Hid (clockAt m ba r t = now) := ⟨_, hid rfl⟩
    have hx : ¬ (0 ≤ dl ∧ dl ≤ 1048576 ∧ 0 ≤ cl ∧ cl ≤ dl) := by
      intro hx
      simp [dueB, hn, hx] at h
    have Hx := hid hx
    clear hc ho h hn hx
    by_cases h1 : dl < 0
    · go_enter Try.func14, Try.ntmps14
      go_wp2_with fail
      refine (now_ok b m ba r t now _ Hc.out Ho.out Hn.out hnow).mono ?_
      rintro e w1 ⟨rfl, g1⟩
      have G1 := hid g1
      clear g1
      go_wp2_with fail
      go_ret2
      exact ⟨rfl, G1.out⟩
    · by_cases h2 : 1048576 < dl
      · go_enter Try.func14, Try.ntmps14
        go_wp2_with fail
        refine (now_ok b m ba r t now _ Hc.out Ho.out Hn.out hnow).mono ?_
        rintro e w1 ⟨rfl, g1⟩
        have G1 := hid g1
        clear g1
        go_wp2_with fail
        go_ret2
        exact ⟨rfl, G1.out⟩
      · by_cases h3 : cl < 0
        · go_enter Try.func14, Try.ntmps14
          go_wp2_with fail
          refine (now_ok b m ba r t now _ Hc.out Ho.out Hn.out hnow).mono ?_
          rintro e w1 ⟨rfl, g1⟩
          have G1 := hid g1
          clear g1
          go_wp2_with fail
          go_ret2
          exact ⟨rfl, G1.out⟩
        · have h4 : dl < cl := by have := Hx.out; omega
          go_enter Try.func14, Try.ntmps14
          go_wp2_with fail
          refine (now_ok b m ba r t now _ Hc.out Ho.out Hn.out hnow).mono ?_
          rintro e w1 ⟨rfl, g1⟩
          have G1 := hid g1
          clear g1
          go_wp2_with fail
          go_ret2
          exact ⟨rfl, G1.out⟩
set_option maxHeartbeats 1000000 in
theorem due_none (b : Nat) (m ba r t cl dl now : Int) (w : World) (hc : Clk w b m ba r) (ho : ClockOk m ba r) (h : nowB m t = true) (hn : clockAt m ba r t = now) (hd : 0 ≤ dl ∧ dl ≤ 1048576) (hcl : 0 ≤ cl ∧ cl ≤ dl)
    (hw : clockAt m ba r 1125899906842624 < now + dl - cl) :
    Calls Try.prog 14 #[.pointer (some ⟨b, 0, none⟩), .int .i64 t, .int .i64 cl, .int .i64 dl] w fun e w' => e = .returned (.tuple #[.int .i64 0, .int .i64 5]) ∧ w.grownBy w' none := by
  obtain ⟨d0, d1⟩ := hd
  obtain ⟨c0, c1⟩ := hcl
  have Hc := hid hc
  have Ho := hid ho
  have H := hid h
  have Hn := hid hn
  have Hw := hid hw
  have hnb : -4611686018427387904 ≤ now ∧ now ≤ 4611686018427387904 := by
    have h' : realB t = true ∧ m ≤ t := by simpa [nowB] using h
    have h1 := realB_iff.1 h'.1
    have h2 := clockAt_bd ho h'.2
    rw [hn] at h2
    omega
  obtain ⟨n0, n1⟩ := hnb
  clear hc ho h hn hw
  go_enter Try.func14, Try.ntmps14
  go_wp2_with fail
  refine (now_ok b m ba r t now _ Hc.out Ho.out H.out Hn).mono ?_
  rintro e w1 ⟨rfl, g1⟩
  have Hc1 := hid (Hc.out.kept g1 (by simp))
  have G1 := hid g1
  clear g1
  go_wp2_with fail
  refine (when_none b m ba r _ _ Hc1.out Ho.out Hw.out).mono ?_
  rintro e w2 ⟨rfl, g2⟩
  have G2 := hid (gr_trans G1.out g2)
  clear g2
  go_wp2_with fail
  go_ret2
  exact ⟨rfl, G2.out⟩
theorem dueB_iff {m t cl dl : Int} : dueB m t cl dl = true ↔ nowB m t = true ∧ (0 ≤ dl ∧ dl ≤ 1048576) ∧ (0 ≤ cl ∧ cl ≤ dl) := by
  simp [dueB]
  omega
theorem due_any (b : Nat) (m ba r t cl dl d f : Int) (w : World) (hc : Clk w b m ba r) (ho : ClockOk m ba r) (h : Due10 m ba r t cl dl d f) :
    Calls Try.prog 14 #[.pointer (some ⟨b, 0, none⟩), .int .i64 t, .int .i64 cl, .int .i64 dl] w fun e w' => e = .returned (.tuple #[.int .i64 d, .int .i64 f]) ∧ w.grownBy w' none := by
  cases h with
  | bad h => exact due_bad b m ba r t cl dl w hc ho h
  | none h hw =>
    obtain ⟨h1, h2, h3⟩ := dueB_iff.1 h
    exact due_none b m ba r t cl dl _ w hc ho h1 rfl h2 h3 hw
  | ok h d hw =>
    obtain ⟨h1, h2, h3⟩ := dueB_iff.1 h
    exact due_ok b m ba r t cl dl _ _ w hc ho h1 rfl h2 h3 hw

set_option maxRecDepth 100000 in
set_option maxHeartbeats 4000000 in
theorem take_bad (b hb : Nat) (t k fr cy cr cl : Int) (w : World) (hr : rightB k fr cy cr cl = false) :
    Calls Try.prog 11 #[.pointer (some ⟨hb, 0, none⟩), .pointer (some ⟨b, 0, none⟩), .int .i64 t, .agg #[.int .i64 k, .int .i64 fr, .int .i64 cy, .int .u32 cr, .int .i64 cl]] w fun e w' => e = .returned (.tuple #[.int .i64 0, .int .i64 1]) ∧ w.grownBy w' none := by
  have Hr := hid hr
  clear hr
  go_enter Try.func11, Try.ntmps11
  go_wp2_with fail
  refine (control_bad k fr cy cr cl _ Hr.out).mono ?_
  rintro e w1 ⟨rfl, g1⟩
  have G1 := hid (bx_gr g1)
  clear g1
  go_wp2_with fail
  go_ret2
  exact ⟨rfl, G1.out⟩
set_option maxRecDepth 100000 in
set_option maxHeartbeats 4000000 in
theorem take_nil (b : Nat) (t k fr cy cr cl : Int) (w : World) :
    Calls Try.prog 11 #[.pointer none, .pointer (some ⟨b, 0, none⟩), .int .i64 t, .agg #[.int .i64 k, .int .i64 fr, .int .i64 cy, .int .u32 cr, .int .i64 cl]] w fun e w' => e = .returned (.tuple #[.int .i64 0, .int .i64 1]) ∧ w.grownBy w' none := by
  cases hr : rightB k fr cy cr cl with
  | true =>
    have Hr := hid hr
    clear hr
    go_enter Try.func11, Try.ntmps11
    go_wp2_with fail
    refine (control_ok k fr cy cr cl _ Hr.out).mono ?_
    rintro e w1 ⟨⟨vv, rfl⟩, g1⟩
    have G1 := hid (bx_gr g1)
    clear g1
    go_wp2_with fail
    go_ret2
    exact ⟨rfl, G1.out⟩
  | false =>
    have Hr := hid hr
    clear hr
    go_enter Try.func11, Try.ntmps11
    go_wp2_with fail
    refine (control_bad k fr cy cr cl _ Hr.out).mono ?_
    rintro e w1 ⟨rfl, g1⟩
    have G1 := hid (bx_gr g1)
    clear g1
    go_wp2_with fail
    go_ret2
    exact ⟨rfl, G1.out⟩
set_option maxHeartbeats 1000000 in
theorem give_nil (t : Int) (w : World) :
    Calls Try.prog 12 #[.pointer none, .int .i64 t] w fun e w' => e = .returned (.tuple #[.agg #[.int .i64 0, .int .i64 0, .int .i64 0, .int .u32 0, .int .i64 0], .int .i64 0, .bool false]) ∧ w.grownBy w' none := by
  go_enter Try.func12, Try.ntmps12
  go_wp2_with fail
  refine (pnext_nil _).mono ?_
  rintro e w1 ⟨rfl, g1⟩
  have F := gr_heap g1 (heap_alloc_new w _) (by simp)
  have b0 := cell_of F 0 (.int .i64 0) rfl
  have b1 := cell_of F 1 (.int .i64 0) rfl
  have b2 := cell_of F 2 (.int .i64 0) rfl
  have b3 := cell_of F 3 (.int .u32 0) rfl
  have b4 := cell_of F 4 (.int .i64 0) rfl
  have d0 := frozen_of F 0
  have d1 := frozen_of F 1
  have d2 := frozen_of F 2
  have d3 := frozen_of F 3
  have d4 := frozen_of F 4
  have G := hid (bx_gr g1)
  clear F g1
  go_wp2_with fail
  refine bodyPost_ret (v := .tuple #[.agg #[.int .i64 0, .int .i64 0, .int .i64 0, .int .u32 0, .int .i64 0], .int .i64 0, .bool false]) ?_ rfl ⟨rfl, ?_⟩
  · simp [results, Try.results12, go_sem, b0, b1, b2, b3, b4]
  · exact gr_setNew (gr_setNew (gr_setNew (gr_setNew (gr_setNew G.out (Nat.le_refl _) 0 _) (Nat.le_refl _) 1 _) (Nat.le_refl _) 2 _) (Nat.le_refl _) 3 _) (Nat.le_refl _) 4 _
set_option maxHeartbeats 1000000 in
theorem len_nil (w : World) :
    Calls Try.prog 13 #[.pointer none] w fun e w' => e = .returned (.int .i64 0) ∧ w' = w := by
  go_enter Try.func13, Try.ntmps13
  go_wp2_with fail
  go_ret
  exact ⟨rfl, rfl⟩

set_option maxRecDepth 100000 in
set_option maxHeartbeats 4000000 in
theorem take_late (b hb q : Nat) (m ba r dl t k fr cy cr cl f : Int) (w : World) (hh : Hld w hb q dl) (hc : Clk w b m ba r) (ho : ClockOk m ba r) (hr : rightB k fr cy cr cl = true) (hcl : cl ≤ dl) (hd : Due10 m ba r t cl dl 0 f) (hf : f ≠ 0) :
    Calls Try.prog 11 #[.pointer (some ⟨hb, 0, none⟩), .pointer (some ⟨b, 0, none⟩), .int .i64 t, .agg #[.int .i64 k, .int .i64 fr, .int .i64 cy, .int .u32 cr, .int .i64 cl]] w fun e w' => e = .returned (.tuple #[.int .i64 0, .int .i64 f]) ∧ w.grownBy w' none := by
  have Hr := hid hr
  have Hh := hid hh
  have Hc := hid hc
  have Ho := hid ho
  have Hd := hid hd
  clear hr hh hc ho hd
  go_enter Try.func11, Try.ntmps11
  go_wp2_with fail
  refine (control_ok k fr cy cr cl _ Hr.out).mono ?_
  rintro e w1 ⟨⟨vv, rfl⟩, g1⟩
  have D := hid (gr_heap g1 (heap_alloc_new w (.cells #[.int .i64 k, .int .i64 fr, .int .i64 cy, .int .u32 cr, .int .i64 cl] 37)) (by simp))
  have G1 := hid (bx_gr g1)
  have d4 := cell_of D.out 4 (.int .i64 cl) rfl
  have h0 := (Hh.out.gr G1.out).c0
  clear g1
  go_wp2_with fail
  go_quiet (fail)
  obtain ⟨w2, hw2⟩ : ∃ w2, w1.drewN nq = w2 := ⟨_, rfl⟩
  have G2 : w1.grownBy w2 none := hw2 ▸ gr_drewN (gr_refl w1 none) nq
  rw [hw2]
  clear hw2 d4 h0
  have D2 := hid (gr_heap G2 D.out (by simp))
  have HG2 := hid (gr_trans G1.out G2)
  clear G2 D G1
  go_wp2_with fail
  have n0 := grn_cell (cell_of D2.out 4 (.int .i64 cl) rfl)
  have n1 := grn_cell (Hh.out.gr HG2.out).c0
  have Hc2 := hid (Hc.out.kept HG2.out (by simp))
  refine wp_region_grown (by kernel_rfl) (by kernel_rfl) ?_
  repeat (go_big_quiet_step ((go_at_call 14; refine (due_any b m ba r t cl dl 0 f _ (Hc2.out.kept (Grn.gr _) (by simp)) Ho.out Hd.out).mono ?_; rintro e w3 ⟨rfl, g3⟩; exact ⟨rfl, ⟨_, gr_trans (Grn.gr _) g3⟩, rfl⟩)))
  refine wpQuiet_nil ?_
  rintro w4 ⟨X, hX⟩
  have g4 : w2.grownBy w4 none := hX ▸ X.gr
  clear hX X n0 n1
  have HG4 := hid (gr_trans HG2.out g4)
  clear g4 D2
  go_wp2_with fail
  go_ret2
  exact ⟨rfl, HG4.out⟩
end Go.Proofs.Ytkcgpbehicjidaa
