/- queue: sink where nothing sinks; Pop by sink's contract; perm: Next, Len. -/
import Derived.Test.YtkcgpbehicjidaaQueE
namespace Go.Proofs.Ytkcgpbehicjidaa
open Go.RowKit Go.Lib

set_option maxRecDepth 100000 in
set_option maxHeartbeats 2000000 in
theorem sink_small (q : Nat) (num : Int) (a : Option Addr) (n cap : Nat) (w : World) (h : Que w q num (.slice a n cap)) (hn : n ≤ 1) :
    Calls Try.prog 43 #[.pointer (some ⟨q, 0, none⟩), .int .i64 0] w fun e w' => e = .returned (.tuple #[]) ∧ w' = w := by
  have c2 := h.c2
  have hn1 : ¬ (1 : Int) < (n : Int) := by omega
  have hd : decide ((1 : Int) < (n : Int)) = false := by simp; omega
  clear h
  go_enter Try.func43, Try.ntmps43
  go_wp2_with fail
  refine wp_loop_rounds 1 ?_
  rw [rounds_succ]
  go_wp2_with fail
  refine wp_loop_rounds 1 ?_
  rw [rounds_succ]
  go_wp2_with fail
  refine bodyPost_ret (results_none rfl _ _ _) rfl ?_
  exact ⟨rfl, rfl⟩

set_option maxHeartbeats 1000000 in
theorem pnext_some (hb q base : Nat) (dl num : Int) (g n cap : Nat) (xs : List It) (x : It) (w : World) (hh : w.heap[hb]? = some (.cells #[.int .i64 dl, .pointer (some ⟨q, 0, none⟩)] 68 (0, 0))) (h : Que w q num (.slice (some ⟨g, 0, none⟩) (n + 1) cap)) (hr : w.ownsRow base 89 9 (.slice (some ⟨g, 0, none⟩) (n + 1) cap) (n + 1) (flatC xs)) (hl : xs.length = n + 1) (hn : n < 1000) (hx : ith xs 0 = x) :
    Calls Try.prog 15 #[.pointer (some ⟨hb, 0, none⟩)] w fun e w' => e = .returned (.tuple #[.int .i64 x.t, .bool true]) ∧ w.grownBy w' none := by
  have c1' : w.cell? ⟨hb, 1, none⟩ = some (.pointer (some ⟨q, 0, none⟩)) := cell_of hh 1 _ rfl
  have HP := hid (qpeek_some q base num g n cap xs x w h hr hl hn hx)
  clear hh h hr hl hx
  go_enter Try.func15, Try.ntmps15
  go_wp2_with fail
  refine HP.out.mono ?_
  rintro e w1 ⟨rfl, g1⟩
  have G := hid g1
  clear g1
  go_wp2_with fail
  go_ret2
  exact ⟨rfl, gr_alloc G.out _⟩
set_option maxHeartbeats 1000000 in
theorem pnext_none (hb q : Nat) (dl num : Int) (a : Option Addr) (cap : Nat) (w : World) (hh : w.heap[hb]? = some (.cells #[.int .i64 dl, .pointer (some ⟨q, 0, none⟩)] 68 (0, 0))) (h : Que w q num (.slice a 0 cap)) :
    Calls Try.prog 15 #[.pointer (some ⟨hb, 0, none⟩)] w fun e w' => e = .returned (.tuple #[.int .i64 0, .bool false]) ∧ w.grownBy w' none := by
  have c1' : w.cell? ⟨hb, 1, none⟩ = some (.pointer (some ⟨q, 0, none⟩)) := cell_of hh 1 _ rfl
  have HP := hid (qpeek_none q num a cap w h)
  clear hh h
  go_enter Try.func15, Try.ntmps15
  go_wp2_with fail
  refine HP.out.mono ?_
  rintro e w1 ⟨rfl, g1⟩
  have G := hid g1
  clear g1
  go_wp2_with fail
  go_ret2
  exact ⟨rfl, gr_alloc G.out _⟩
set_option maxHeartbeats 1000000 in
theorem pnext_nil (w : World) :
    Calls Try.prog 15 #[.pointer none] w fun e w' => e = .returned (.tuple #[.int .i64 0, .bool false]) ∧ w.grownBy w' none := by
  go_enter Try.func15, Try.ntmps15
  go_wp2_with fail
  go_ret2
  exact ⟨rfl, gr_refl w none⟩
set_option maxHeartbeats 1000000 in
theorem plen_at (hb q : Nat) (dl num : Int) (a : Option Addr) (n cap : Nat) (w : World) (hh : w.heap[hb]? = some (.cells #[.int .i64 dl, .pointer (some ⟨q, 0, none⟩)] 68 (0, 0))) (h : Que w q num (.slice a n cap)) :
    Calls Try.prog 13 #[.pointer (some ⟨hb, 0, none⟩)] w fun e w' => e = .returned (.int .i64 (n : Int)) ∧ w' = w := by
  have c1' : w.cell? ⟨hb, 1, none⟩ = some (.pointer (some ⟨q, 0, none⟩)) := cell_of hh 1 _ rfl
  have HP := hid (qlen_at q num a n cap w h)
  clear hh h
  go_enter Try.func13, Try.ntmps13
  go_wp2_with fail
  refine HP.out.mono ?_
  rintro e w1 ⟨rfl, rfl⟩
  go_wp2_with fail
  go_ret
  exact ⟨rfl, rfl⟩

end Go.Proofs.Ytkcgpbehicjidaa
