/- tocsinlaw11.CompPlays answers true. -/
import Derived.Test.YtagoiidpcfjebaaRefPlD
namespace Go.Proofs.Ytagoiidpcfjebaa
open Go.RowKit Go.Shelf Go.Sort Go.Lib

set_option maxRecDepth 100000 in
set_option maxHeartbeats 2000000 in
theorem cplays_window (win : Int) (bd : win < 0 ∨ 1048576 < win) (a : Option Addr) (len cap : Nat) (w : World) :
    Calls Try.prog 3 #[.int .i64 win, .slice a len cap] w fun e w' => e = .returned (.bool true) ∧ Below w.heap.size w w' := by
  rcases bd with bd | bd
  · go_enter Try.func3, Try.ntmps3
    go_wp2_with fail
    refine (fixed_true _).mono ?_
    rintro e w1 ⟨rfl, g1⟩
    have G1 := hid g1
    clear g1
    go_wp2_with fail
    refine (comp_new_bad win w1 (.inl bd)).mono ?_
    rintro e w2 ⟨rfl, rfl⟩
    go_wp2_with fail
    go_ret
    exact ⟨rfl, gr_below G1.out (Nat.le_refl _) (by simp)⟩
  · have hn : ¬ win < 0 := by omega
    go_enter Try.func3, Try.ntmps3
    go_wp2_with fail
    refine (fixed_true _).mono ?_
    rintro e w1 ⟨rfl, g1⟩
    have G1 := hid g1
    clear g1
    go_wp2_with fail
    refine (comp_new_bad win w1 (.inr bd)).mono ?_
    rintro e w2 ⟨rfl, rfl⟩
    go_wp2_with fail
    go_ret
    exact ⟨rfl, gr_below G1.out (Nat.le_refl _) (by simp)⟩

theorem cplays_walk (win : Int) (a : Option Addr) (len cap : Nat) (V : Nat → Nat → Value) (hlen : len ≤ 140737488351232) (w : World) (hs : RowsOf w a len cpLeaves V) :
    Calls Try.prog 3 #[.int .i64 win, .slice a len cap] w fun e w' => e = .returned (.bool true) ∧ Below w.heap.size w w' := by
  by_cases h0 : win < 0 ∨ 1048576 < win
  · exact cplays_window win h0 a len cap w
  · exact cplays_main win (by omega) a len cap V hlen w hs
end Go.Proofs.Ytagoiidpcfjebaa
