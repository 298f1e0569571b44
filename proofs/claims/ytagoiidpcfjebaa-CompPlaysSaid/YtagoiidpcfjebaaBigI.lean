/- tocsinref02.Half: the floor of the middle. -/
import Derived.Test.YtagoiidpcfjebaaBigH
namespace Go.Proofs.Ytagoiidpcfjebaa
open Go.RowKit Go.Lib

theorem floor_two {w : World} {x y : Value} {n : Int} (hx : IsN w x n 5) (hy : IsN w y 2 4) :
    Calls Try.prog 41 #[x, y] w fun e w' => ∃ z, e = .returned z ∧ IsN w' z (n / 2) 900 ∧ w.grownBy w' none := by
  obtain ⟨n1, ds, hw1, e1, l1⟩ := hx
  obtain ⟨n2, cs, hw2, e2, l2⟩ := hy
  obtain ⟨v1, rfl, h1⟩ := hw1.ex
  obtain ⟨v2, rfl, h2⟩ := hw2.ex
  obtain ⟨a1, cp1, rfl⟩ := h1.slice
  obtain ⟨a2, cp2, rfl⟩ := h2.slice
  have h0 := bval_nonneg hw2.dg
  have hc : bval cs = 2 := by
    unfold sgn at e2
    split at e2
    · omega
    · exact e2
  have := floor_any h1 h2 hw1.dg hw2.dg hw2.trm (by omega) (by omega) n e1 (n2 := n2)
  rwa [hc] at this

set_option maxRecDepth 100000 in
set_option maxHeartbeats 1000000 in
theorem rhalf_any {w : World} {a b : Int} (ha : -9223372036854775808 ≤ a ∧ a ≤ 9223372036854775807) (hb : -9223372036854775808 ≤ b ∧ b ≤ 9223372036854775807) :
    Calls Try.prog 34 #[.int .i64 a, .int .i64 b] w fun e w' => e = .returned (.int .i64 ((a + b) / 2)) ∧ w.grownBy w' none := by
  have hr : -9223372036854775808 ≤ (a + b) / 2 ∧ (a + b) / 2 ≤ 9223372036854775807 := by omega
  obtain ⟨r, hr0⟩ : ∃ r, Hid ((a + b) / 2 = r) := ⟨_, hid rfl⟩
  rw [hr0.out] at hr
  rw [hr0.out]
  have HA := hid ha
  have HB := hid hb
  have HR := hid hr
  clear ha hb hr
  go_enter Try.func34, Try.ntmps34
  go_wp2_with fail
  refine (of_any HA.out).mono ?_
  rintro e w1 ⟨x1, rfl, h1, g1⟩
  have H1 := hid h1
  have G1 := hid g1
  clear h1 g1
  go_wp2_with fail
  refine (of_any HB.out).mono ?_
  rintro e w2 ⟨x2, rfl, h2, g2⟩
  have H2 := hid h2
  have H12 := hid (H1.out.grown g2)
  have G2 := hid (gr_trans G1.out g2)
  clear h2 g2
  go_wp2_with fail
  refine (add_any H12.out H2.out (by omega)).mono ?_
  rintro e w3 ⟨x3, rfl, h3, g3⟩
  have H3 := hid h3
  have G3 := hid (gr_trans G2.out g3)
  clear h3 g3
  go_wp2_with fail
  refine (of_any (n := 2) ⟨by omega, by omega⟩).mono ?_
  rintro e w4 ⟨x4, rfl, h4, g4⟩
  have H4 := hid h4
  have H34 := hid (H3.out.grown g4)
  have G4 := hid (gr_trans G3.out g4)
  clear h4 g4
  go_wp2_with fail
  refine (floor_two H34.out H4.out).mono ?_
  rintro e w5 ⟨x5, rfl, h5, g5⟩
  rw [hr0.out] at h5
  have H5 := hid h5
  have G5 := hid (gr_trans G4.out g5)
  clear h5 g5
  go_wp2_with fail
  refine (int_any H5.out HR.out).mono ?_
  rintro e w6 ⟨rfl, g6⟩
  have G6 := hid (gr_trans G5.out g6)
  clear g6
  go_wp2_with fail
  go_ret
  exact ⟨rfl, G6.out⟩
end Go.Proofs.Ytagoiidpcfjebaa
