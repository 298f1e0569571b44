/- The document's own RightControl, Due and Take. -/
import Derived.Test.YtkcgpbehicjidaaPlyA
import Derived.Test.YtkcgpbehicjidaaRef04W
namespace Go.Proofs.Ytkcgpbehicjidaa
open Go.RowKit Go.Lib

set_option maxRecDepth 100000 in
set_option maxHeartbeats 4000000 in
theorem rright_any (k fr cy cr cl : Int) (w : World) :
    Calls Try.prog 32 #[.agg #[.int .i64 k, .int .i64 fr, .int .i64 cy, .int .u32 cr, .int .i64 cl]] w fun e w' => e = .returned (.bool (rightB k fr cy cr cl)) ∧ w.grownBy w' none := by
  obtain ⟨r, hr⟩ : ∃ r, Hid (rightB k fr cy cr cl = r) := ⟨_, hid rfl⟩
  rw [hr.out]
  go_enter Try.func32, Try.ntmps32
  go_wp2_with fail
  all_goals
    go_ret
    refine ⟨?_, gr_alloc (gr_refl w none) _⟩
    rw [← hr.out]
    congr 2
    simp only [rightB, inB]
    first
      | (simp_all; done)
      | (simp_all; omega)
set_option maxHeartbeats 1000000 in
theorem rdue_ok (m ba r t cl dl now due : Int) (w : World) (ho : ClockOk m ba r) (h : nowB m t = true) (hn : clockAt m ba r t = now) (hd : 0 ≤ dl ∧ dl ≤ 1048576) (hcl : 0 ≤ cl ∧ cl ≤ dl)
    (hw : IsWhen m ba r (now + dl - cl) due) :
    Calls Try.prog 33 #[rclk m ba r, .int .i64 t, .int .i64 cl, .int .i64 dl] w fun e w' => e = .returned (.tuple #[.int .i64 due, .int .i64 0]) ∧ w.grownBy w' none := by
  obtain ⟨d0, d1⟩ := hd
  obtain ⟨c0, c1⟩ := hcl
  have Ho := hid ho
  have H := hid h
  have Hn := hid hn
  have Hw := hid hw
  have hnb : -4611686018427387904 ≤ now ∧ now ≤ 4611686018427387904 := by
    have h' : realB t = true ∧ m ≤ t := by simpa [nowB] using h
    have h1 := realB_iff.1 h'.1
    have h2 := clockAt_bd ho h'.2
    rw [hn] at h2
    omega
  obtain ⟨n0, n1⟩ := hnb
  clear ho h hn hw
  go_enter Try.func33, Try.ntmps33
  go_wp2_with fail
  refine (rnow_ok m ba r t now _ Ho.out H.out Hn).mono ?_
  rintro e w1 ⟨rfl, g1⟩
  have y0 := bx_cell g1 0 (.int .i64 m) rfl
  have y1 := bx_cell g1 1 (.int .i64 ba) rfl
  have y2 := bx_cell g1 2 (.int .i64 r) rfl
  have G1 := hid (bx_gr g1)
  clear g1
  go_wp2_with fail
  refine (rwhen_ok m ba r _ due _ Ho.out Hw.out).mono ?_
  rintro e w2 ⟨rfl, g2⟩
  have G2 := hid (gr_trans G1.out g2)
  clear g2
  go_wp2_with fail
  go_ret2
  exact ⟨rfl, G2.out⟩

set_option maxHeartbeats 1000000 in
theorem rdue_bad (m ba r t cl dl : Int) (w : World) (ho : ClockOk m ba r) (h : dueB m t cl dl = false) :
    Calls Try.prog 33 #[rclk m ba r, .int .i64 t, .int .i64 cl, .int .i64 dl] w fun e w' => e = .returned (.tuple #[.int .i64 0, .int .i64 1]) ∧ w.grownBy w' none := by
  have Ho := hid ho
  cases hn : nowB m t with
  | false =>
    have Hn := hid hn
    clear h hn
    by_cases h1 : dl < 0
    · go_enter Try.func33, Try.ntmps33
      go_wp2_with fail
      refine (rnow_bad m ba r t _ Hn.out).mono ?_
      rintro e w1 ⟨rfl, g1⟩
      have y0 := bx_cell g1 0 (.int .i64 m) rfl
      have y1 := bx_cell g1 1 (.int .i64 ba) rfl
      have y2 := bx_cell g1 2 (.int .i64 r) rfl
      go_wp2_with fail
      go_ret2
      exact ⟨rfl, bx_gr g1⟩
    · by_cases h2 : 1048576 < dl
      · go_enter Try.func33, Try.ntmps33
        go_wp2_with fail
        refine (rnow_bad m ba r t _ Hn.out).mono ?_
        rintro e w1 ⟨rfl, g1⟩
        have y0 := bx_cell g1 0 (.int .i64 m) rfl
        have y1 := bx_cell g1 1 (.int .i64 ba) rfl
        have y2 := bx_cell g1 2 (.int .i64 r) rfl
        go_wp2_with fail
        go_ret2
        exact ⟨rfl, bx_gr g1⟩
      · by_cases h3 : cl < 0
        · go_enter Try.func33, Try.ntmps33
          go_wp2_with fail
          refine (rnow_bad m ba r t _ Hn.out).mono ?_
          rintro e w1 ⟨rfl, g1⟩
          have y0 := bx_cell g1 0 (.int .i64 m) rfl
          have y1 := bx_cell g1 1 (.int .i64 ba) rfl
          have y2 := bx_cell g1 2 (.int .i64 r) rfl
          go_wp2_with fail
          go_ret2
          exact ⟨rfl, bx_gr g1⟩
        · by_cases h4 : dl < cl
          · go_enter Try.func33, Try.ntmps33
            go_wp2_with fail
            refine (rnow_bad m ba r t _ Hn.out).mono ?_
            rintro e w1 ⟨rfl, g1⟩
            have y0 := bx_cell g1 0 (.int .i64 m) rfl
            have y1 := bx_cell g1 1 (.int .i64 ba) rfl
            have y2 := bx_cell g1 2 (.int .i64 r) rfl
            go_wp2_with fail
            go_ret2
            exact ⟨rfl, bx_gr g1⟩
          · go_enter Try.func33, Try.ntmps33
            go_wp2_with fail
            refine (rnow_bad m ba r t _ Hn.out).mono ?_
            rintro e w1 ⟨rfl, g1⟩
            have y0 := bx_cell g1 0 (.int .i64 m) rfl
            have y1 := bx_cell g1 1 (.int .i64 ba) rfl
            have y2 := bx_cell g1 2 (.int .i64 r) rfl
            go_wp2_with fail
            go_ret2
            exact ⟨rfl, bx_gr g1⟩
  | true =>
    have Hn := hid hn
    obtain ⟨now, hnow⟩ : ∃ now, Hid (clockAt m ba r t = now) := ⟨_, hid rfl⟩
    have hx : ¬ (0 ≤ dl ∧ dl ≤ 1048576 ∧ 0 ≤ cl ∧ cl ≤ dl) := by
      intro hx
      simp [dueB, hn, hx] at h
    have Hx := hid hx
    clear ho h hn hx
    by_cases h1 : dl < 0
    · go_enter Try.func33, Try.ntmps33
      go_wp2_with fail
      refine (rnow_ok m ba r t now _ Ho.out Hn.out hnow).mono ?_
      rintro e w1 ⟨rfl, g1⟩
      have y0 := bx_cell g1 0 (.int .i64 m) rfl
      have y1 := bx_cell g1 1 (.int .i64 ba) rfl
      have y2 := bx_cell g1 2 (.int .i64 r) rfl
      have G1 := hid (bx_gr g1)
      clear g1
      go_wp2_with fail
      go_ret2
      exact ⟨rfl, G1.out⟩
    · by_cases h2 : 1048576 < dl
      · go_enter Try.func33, Try.ntmps33
        go_wp2_with fail
        refine (rnow_ok m ba r t now _ Ho.out Hn.out hnow).mono ?_
        rintro e w1 ⟨rfl, g1⟩
        have y0 := bx_cell g1 0 (.int .i64 m) rfl
        have y1 := bx_cell g1 1 (.int .i64 ba) rfl
        have y2 := bx_cell g1 2 (.int .i64 r) rfl
        have G1 := hid (bx_gr g1)
        clear g1
        go_wp2_with fail
        go_ret2
        exact ⟨rfl, G1.out⟩
      · by_cases h3 : cl < 0
        · go_enter Try.func33, Try.ntmps33
          go_wp2_with fail
          refine (rnow_ok m ba r t now _ Ho.out Hn.out hnow).mono ?_
          rintro e w1 ⟨rfl, g1⟩
          have y0 := bx_cell g1 0 (.int .i64 m) rfl
          have y1 := bx_cell g1 1 (.int .i64 ba) rfl
          have y2 := bx_cell g1 2 (.int .i64 r) rfl
          have G1 := hid (bx_gr g1)
          clear g1
          go_wp2_with fail
          go_ret2
          exact ⟨rfl, G1.out⟩
        · have h4 : dl < cl := by have := Hx.out; omega
          go_enter Try.func33, Try.ntmps33
          go_wp2_with fail
          refine (rnow_ok m ba r t now _ Ho.out Hn.out hnow).mono ?_
          rintro e w1 ⟨rfl, g1⟩
          have y0 := bx_cell g1 0 (.int .i64 m) rfl
          have y1 := bx_cell g1 1 (.int .i64 ba) rfl
          have y2 := bx_cell g1 2 (.int .i64 r) rfl
          have G1 := hid (bx_gr g1)
          clear g1
          go_wp2_with fail
          go_ret2
          exact ⟨rfl, G1.out⟩
set_option maxHeartbeats 1000000 in
theorem rdue_none (m ba r t cl dl now : Int) (w : World) (ho : ClockOk m ba r) (h : nowB m t = true) (hn : clockAt m ba r t = now) (hd : 0 ≤ dl ∧ dl ≤ 1048576) (hcl : 0 ≤ cl ∧ cl ≤ dl)
    (hw : clockAt m ba r 1125899906842624 < now + dl - cl) :
    Calls Try.prog 33 #[rclk m ba r, .int .i64 t, .int .i64 cl, .int .i64 dl] w fun e w' => e = .returned (.tuple #[.int .i64 0, .int .i64 5]) ∧ w.grownBy w' none := by
  obtain ⟨d0, d1⟩ := hd
  obtain ⟨c0, c1⟩ := hcl
  have Ho := hid ho
  have H := hid h
  have Hn := hid hn
  have Hw := hid hw
  have hnb : -4611686018427387904 ≤ now ∧ now ≤ 4611686018427387904 := by
    have h' : realB t = true ∧ m ≤ t := by simpa [nowB] using h
    have h1 := realB_iff.1 h'.1
    have h2 := clockAt_bd ho h'.2
    rw [hn] at h2
    omega
  obtain ⟨n0, n1⟩ := hnb
  clear ho h hn hw
  go_enter Try.func33, Try.ntmps33
  go_wp2_with fail
  refine (rnow_ok m ba r t now _ Ho.out H.out Hn).mono ?_
  rintro e w1 ⟨rfl, g1⟩
  have y0 := bx_cell g1 0 (.int .i64 m) rfl
  have y1 := bx_cell g1 1 (.int .i64 ba) rfl
  have y2 := bx_cell g1 2 (.int .i64 r) rfl
  have G1 := hid (bx_gr g1)
  clear g1
  go_wp2_with fail
  refine (rwhen_none m ba r _ _ Ho.out Hw.out).mono ?_
  rintro e w2 ⟨rfl, g2⟩
  have G2 := hid (gr_trans G1.out g2)
  clear g2
  go_wp2_with fail
  go_ret2
  exact ⟨rfl, G2.out⟩
theorem rdue_any (m ba r t cl dl d f : Int) (w : World) (ho : ClockOk m ba r) (h : Due10 m ba r t cl dl d f) :
    Calls Try.prog 33 #[rclk m ba r, .int .i64 t, .int .i64 cl, .int .i64 dl] w fun e w' => e = .returned (.tuple #[.int .i64 d, .int .i64 f]) ∧ w.grownBy w' none := by
  cases h with
  | bad h => exact rdue_bad m ba r t cl dl w ho h
  | none h hw =>
    obtain ⟨h1, h2, h3⟩ := dueB_iff.1 h
    exact rdue_none m ba r t cl dl _ w ho h1 rfl h2 h3 hw
  | ok h d hw =>
    obtain ⟨h1, h2, h3⟩ := dueB_iff.1 h
    exact rdue_ok m ba r t cl dl _ _ w ho h1 rfl h2 h3 hw

end Go.Proofs.Ytkcgpbehicjidaa
