/- tocsinlaw10.PermPlays answers true. -/
import Derived.Test.YtkcgpbehicjidaaPlyF
namespace Go.Proofs.Ytkcgpbehicjidaa
open Go.RowKit Go.Lib

set_option maxRecDepth 100000 in
set_option maxHeartbeats 8000000 in
theorem pplays_delay (dl : Int) (bd : dl < 0 ∨ 1048576 < dl) (m ba r : Int) (a : Option Addr) (len cap : Nat) (w : World) :
    Calls Try.prog 7 #[.int .i64 dl, .agg #[.int .i64 m, .int .i64 ba, .int .i64 r], .slice a len cap] w fun e w' => e = .returned (.bool true) ∧ Below w.heap.size w w' := by
  rcases bd with bd | bd
  · go_enter Try.func7, Try.ntmps7
    go_wp2_with fail
    refine (fixed_true _).mono ?_
    rintro e w1 ⟨rfl, g1⟩
    have G1 := hid (bx_gr g1)
    clear g1
    go_wp2_with fail
    refine (pnew_bad dl w1 (.inl bd)).mono ?_
    rintro e w2 ⟨rfl, rfl⟩
    go_wp2_with fail
    go_ret
    exact ⟨rfl, gr_below G1.out (Nat.le_refl _) (by simp)⟩
  · have hn : ¬ dl < 0 := by omega
    go_enter Try.func7, Try.ntmps7
    go_wp2_with fail
    refine (fixed_true _).mono ?_
    rintro e w1 ⟨rfl, g1⟩
    have G1 := hid (bx_gr g1)
    clear g1
    go_wp2_with fail
    refine (pnew_bad dl w1 (.inr bd)).mono ?_
    rintro e w2 ⟨rfl, rfl⟩
    go_wp2_with fail
    go_ret
    exact ⟨rfl, gr_below G1.out (Nat.le_refl _) (by simp)⟩

set_option maxRecDepth 100000 in
set_option maxHeartbeats 8000000 in
theorem pplays_clock (dl : Int) (bd : 0 ≤ dl ∧ dl ≤ 1048576) (m ba r : Int) (hnew : newB m ba r = false) (a : Option Addr) (len cap : Nat) (w : World) :
    Calls Try.prog 7 #[.int .i64 dl, .agg #[.int .i64 m, .int .i64 ba, .int .i64 r], .slice a len cap] w fun e w' => e = .returned (.bool true) ∧ Below w.heap.size w w' := by
  obtain ⟨d0, d1⟩ := bd
  have Hn := hid hnew
  clear hnew
  go_enter Try.func7, Try.ntmps7
  go_wp2_with fail
  refine (fixed_true _).mono ?_
  rintro e w1 ⟨rfl, g1⟩
  have D1 := hid (gr_heap g1 (heap_alloc_new w (.cells #[.int .i64 m, .int .i64 ba, .int .i64 r] 50)) (by simp))
  have G1 := hid (bx_gr g1)
  clear g1
  go_wp2_with fail
  obtain ⟨q, hq⟩ : ∃ q, Hid (w1.heap.size = q) := ⟨_, hid rfl⟩
  refine (pnew_at dl w1 (by omega)).mono ?_
  rintro e w2 ⟨rfl, -, -, g2, hs2⟩
  rw [hq.out]
  have G2 := hid (gr_trans G1.out g2)
  have D2 := hid (gr_heap g2 D1.out (by simp))
  have y0 := cell_of D2.out 0 (.int .i64 m) rfl
  have y1 := cell_of D2.out 1 (.int .i64 ba) rfl
  have y2 := cell_of D2.out 2 (.int .i64 r) rfl
  clear g2 hs2 D1
  go_wp2_with fail
  refine (new_bad m ba r w2 Hn.out).mono ?_
  rintro e w3 ⟨rfl, rfl⟩
  go_wp2_with fail
  go_ret
  exact ⟨rfl, gr_below G2.out (Nat.le_refl _) (by simp)⟩

theorem pplays_walk (dl m ba r : Int) (a : Option Addr) (len cap : Nat) (V : Nat → Nat → Value) (hlen : len ≤ 140737488351232) (w : World) (hs : RowsOf w a len opLeaves V) :
    Calls Try.prog 7 #[.int .i64 dl, .agg #[.int .i64 m, .int .i64 ba, .int .i64 r], .slice a len cap] w fun e w' => e = .returned (.bool true) ∧ Below w.heap.size w w' := by
  by_cases h0 : dl < 0 ∨ 1048576 < dl
  · exact pplays_delay dl h0 m ba r a len cap w
  · cases hn : newB m ba r with
    | true => exact pplays_main dl (by omega) m ba r hn a len cap V hlen w hs
    | false => exact pplays_clock dl (by omega) m ba r hn a len cap w
end Go.Proofs.Ytkcgpbehicjidaa
