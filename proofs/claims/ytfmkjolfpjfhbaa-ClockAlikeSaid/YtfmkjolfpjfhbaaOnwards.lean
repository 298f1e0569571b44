/- ClockOnwards: the walk. -/
import Derived.Test.YtfmkjolfpjfhbaaFixed04
namespace Go.Proofs.Ytfmkjolfpjfhbaa
open Go.RowKit Go.Lib

theorem gr_box {w w1 : World} {o : Obj} (h : (w.alloc o).grownBy w1 none) : w.grownBy w1 none := gr_trans (gr_alloc (gr_refl w none) o) h
theorem box_cell {w w1 : World} {c : Array Value} {t : TypeId} (h : (w.alloc (.cells c t)).grownBy w1 none) (i : Nat) (v : Value) (hv : c[i]? = some v) : w1.cell? ⟨w.heap.size, i, none⟩ = some v :=
  gr_cell h (by rw [World.cell?_alloc_new]; exact hv)

theorem onwards_new_bad (m ba r t : Int) (w : World) (h : newB m ba r = false) :
    Calls Try.prog 4 #[.agg #[.int .i64 m, .int .i64 ba, .int .i64 r], .int .i64 t] w fun e w' => e = .returned (.bool true) ∧ Below w.heap.size w w' := by
  have H := hid h; clear h
  go_enter Try.func4, Try.ntmps4
  go_wp2_with fail
  refine (fixed_true _).mono ?_
  rintro e w1 ⟨rfl, g1⟩
  have c0 := box_cell g1 0 _ rfl
  have c1 := box_cell g1 1 _ rfl
  have c2 := box_cell g1 2 _ rfl
  go_wp2_with fail
  refine (new_bad m ba r _ H.out).mono ?_
  rintro e w' ⟨rfl, rfl⟩
  go_wp2_with fail
  go_ret
  exact ⟨rfl, gr_below (gr_box g1) (Nat.le_refl _) (by simp)⟩

theorem onwards_out (m ba r t : Int) (w : World) (h : newB m ba r = true) (ht : t < m ∨ 1125899906842624 ≤ t) :
    Calls Try.prog 4 #[.agg #[.int .i64 m, .int .i64 ba, .int .i64 r], .int .i64 t] w fun e w' => e = .returned (.bool true) ∧ Below w.heap.size w w' := by
  obtain ⟨⟨hr, hf⟩, hs⟩ : (realB m = true ∧ fastB r = true) ∧ shownB ba = true := by simpa [newB] using h
  clear h
  have Hr := hid hr; have Hf := hid hf; have Hs := hid hs; clear hr hf hs
  by_cases hm : t < m
  all_goals
    go_enter Try.func4, Try.ntmps4
    go_wp2_with fail
    refine (fixed_true _).mono ?_
    rintro e w1 ⟨rfl, g1⟩
    have c0 := box_cell g1 0 _ rfl
    have c1 := box_cell g1 1 _ rfl
    have c2 := box_cell g1 2 _ rfl
    go_wp2_with fail
    refine (new_ok m ba r _ Hr Hs Hf).mono ?_
    rintro e w2 ⟨rfl, hc, g2⟩
    have c0' := gr_cell g2 c0
    have hge : ¬ t < m → 1125899906842624 ≤ t := by omega
    clear ht
    go_wp2_with fail
    go_ret
    exact ⟨rfl, gr_below (gr_trans (gr_box g1) g2) (Nat.le_refl _) (by simp)⟩

/-- From one nanosecond to the next: 0, 1 or 2. -/
theorem clockAt_step {m ba r t : Int} (r0 : -1000000 ≤ r) (r1 : r ≤ 1000000) : 0 ≤ clockAt m ba r (t + 1) - clockAt m ba r t ∧ clockAt m ba r (t + 1) - clockAt m ba r t ≤ 2 := by
  have h1 : (t + 1 - m) * r = (t - m) * r + r := by rw [show t + 1 - m = (t - m) + 1 from by omega, Int.add_mul]; omega
  unfold clockAt
  rw [h1]
  generalize (t - m) * r = p
  omega
theorem clockAt_mark (m ba r : Int) : clockAt m ba r m = ba := by simp [clockAt]

theorem onwards_in (m ba r t : Int) (w : World) (h : newB m ba r = true) (h0 : m ≤ t) (h1 : t < 1125899906842624) :
    Calls Try.prog 4 #[.agg #[.int .i64 m, .int .i64 ba, .int .i64 r], .int .i64 t] w fun e w' => e = .returned (.bool true) ∧ Below w.heap.size w w' := by
  obtain ⟨⟨hr, hf⟩, hs⟩ : (realB m = true ∧ fastB r = true) ∧ shownB ba = true := by simpa [newB] using h
  clear h
  have ho := ClockOk.new hr hs hf
  have hrm := (realB_iff.1 hr).1
  have n0 : nowB m t = true := by simp [nowB, realB]; omega
  have n1 : nowB m (t + 1) = true := by simp [nowB, realB]; omega
  have n2 : nowB m m = true := by simp [nowB, hr]
  have Hr := hid hr; have Hf := hid hf; have Hs := hid hs; clear hr hf hs
  have N0 := hid n0; have N1 := hid n1; have N2 := hid n2; clear n0 n1 n2
  have st := clockAt_step (m := m) (ba := ba) (t := t) ho.r0 ho.r1
  have bd := clockAt_bd ho h0
  have mo := clockAt_mono (m := m) (ba := ba) (s := m) (t := t) ho.r0 h0
  rw [clockAt_mark] at mo
  obtain ⟨x, hx⟩ : ∃ x, Hid (clockAt m ba r t = x) := ⟨_, hid rfl⟩
  obtain ⟨y, hy⟩ : ∃ y, Hid (clockAt m ba r (t + 1) = y) := ⟨_, hid rfl⟩
  have hz : Hid (clockAt m ba r m = ba) := hid (clockAt_mark m ba r)
  rw [hx.out, hy.out] at st
  rw [hx.out] at mo bd
  obtain ⟨st0, st1⟩ := st
  obtain ⟨bd0, bd1⟩ := bd
  have Ho := hid ho
  clear ho
  go_enter Try.func4, Try.ntmps4
  go_wp2_with fail
  refine (fixed_true _).mono ?_
  rintro e w1 ⟨rfl, g1⟩
  have c0 := box_cell g1 0 _ rfl
  have c1 := box_cell g1 1 _ rfl
  have c2 := box_cell g1 2 _ rfl
  go_wp2_with fail
  refine (new_ok m ba r _ Hr Hs Hf).mono ?_
  rintro e w2 ⟨rfl, hc2, g2⟩
  have c0' := gr_cell g2 c0
  obtain ⟨b, hb⟩ : ∃ b, Hid (w1.heap.size = b) := ⟨_, hid rfl⟩
  rw [hb.out] at hc2
  rw [hb.out]
  go_wp2_with fail
  refine (now_ok b m ba r t x _ hc2 Ho.out N0.out hx).mono ?_
  rintro e w3 ⟨rfl, g3⟩
  have hc3 := hc2.kept g3 (by simp)
  have c0'' := gr_cell g3 c0'
  go_wp2_with fail
  refine (now_ok b m ba r (t + 1) y _ hc3 Ho.out N1.out hy).mono ?_
  rintro e w4 ⟨rfl, g4⟩
  have hc4 := hc3.kept g4 (by simp)
  have c0''' := gr_cell g4 c0''
  go_wp2_with fail
  refine (now_ok b m ba r m ba _ hc4 Ho.out N2.out hz).mono ?_
  rintro e w5 ⟨rfl, g5⟩
  have c15 := gr_cell g5 (gr_cell g4 (gr_cell g3 (gr_cell g2 c1)))
  go_wp2_with fail
  go_ret
  refine ⟨?_, gr_below (gr_trans (gr_trans (gr_trans (gr_trans (gr_box g1) g2) g3) g4) g5) (Nat.le_refl _) (by simp)⟩
  simp
end Go.Proofs.Ytfmkjolfpjfhbaa
