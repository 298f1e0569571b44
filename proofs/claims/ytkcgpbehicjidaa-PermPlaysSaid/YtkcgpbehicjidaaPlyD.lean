/- The document's own Take in its refusing ways, and in every way. -/
import Derived.Test.YtkcgpbehicjidaaPlyC
namespace Go.Proofs.Ytkcgpbehicjidaa
open Go.RowKit Go.Lib

set_option maxRecDepth 100000 in
set_option maxHeartbeats 4000000 in
theorem rtake_bad (m ba r dl t k fr cy cr cl : Int) (a : Option Addr) (n cap : Nat) (w : World) (hr : rightB k fr cy cr cl = false) :
    Calls Try.prog 16 #[.slice a n cap, .int .i64 dl, rclk m ba r, .int .i64 t, .agg #[.int .i64 k, .int .i64 fr, .int .i64 cy, .int .u32 cr, .int .i64 cl]] w fun e w' =>
      e = .returned (.tuple #[.slice a n cap, .int .i64 0, .int .i64 1]) ∧ w.grownBy w' none := by
  have Hr := hid hr
  clear hr
  go_enter Try.func16, Try.ntmps16
  go_wp2_with fail
  refine (rright_any k fr cy cr cl _).mono ?_
  rintro e w1 ⟨rfl, g1⟩
  rw [Hr.out]
  have G1 := hid (bx_gr2 g1)
  clear g1
  go_wp2_with fail
  exact bodyPost_ret (v := .tuple #[.slice a n cap, .int .i64 0, .int .i64 1]) (by simp [results, Try.results16, go_sem]) rfl ⟨rfl, G1.out⟩

set_option maxRecDepth 100000 in
set_option maxHeartbeats 4000000 in
theorem rtake_range (m ba r dl t k fr cy cr cl : Int) (a : Option Addr) (n cap : Nat) (w : World) (hr : rightB k fr cy cr cl = true) (hcl : dl < cl) :
    Calls Try.prog 16 #[.slice a n cap, .int .i64 dl, rclk m ba r, .int .i64 t, .agg #[.int .i64 k, .int .i64 fr, .int .i64 cy, .int .u32 cr, .int .i64 cl]] w fun e w' =>
      e = .returned (.tuple #[.slice a n cap, .int .i64 0, .int .i64 4]) ∧ w.grownBy w' none := by
  have Hr := hid hr
  clear hr
  go_enter Try.func16, Try.ntmps16
  go_wp2_with fail
  refine (rright_any k fr cy cr cl _).mono ?_
  rintro e w1 ⟨rfl, g1⟩
  rw [Hr.out]
  have D1 : w1.heap[w.heap.size + 1]? = some (.cells #[.int .i64 k, .int .i64 fr, .int .i64 cy, .int .u32 cr, .int .i64 cl] 37) := gr_heap g1 (heap_new2 w _ _) (by simp)
  have y3 := cell_of D1 4 (.int .i64 cl) rfl
  have G1 := hid (bx_gr2 g1)
  clear g1 D1
  go_wp2_with fail
  exact bodyPost_ret (v := .tuple #[.slice a n cap, .int .i64 0, .int .i64 4]) (by simp [results, Try.results16, go_sem]) rfl ⟨rfl, G1.out⟩

set_option maxRecDepth 100000 in
set_option maxHeartbeats 4000000 in
theorem rtake_late (m ba r dl t k fr cy cr cl f : Int) (a : Option Addr) (n cap : Nat) (w : World) (ho : ClockOk m ba r) (hr : rightB k fr cy cr cl = true) (hcl : cl ≤ dl) (hd : Due10 m ba r t cl dl 0 f) (hf : f ≠ 0) :
    Calls Try.prog 16 #[.slice a n cap, .int .i64 dl, rclk m ba r, .int .i64 t, .agg #[.int .i64 k, .int .i64 fr, .int .i64 cy, .int .u32 cr, .int .i64 cl]] w fun e w' =>
      e = .returned (.tuple #[.slice a n cap, .int .i64 0, .int .i64 f]) ∧ w.grownBy w' none := by
  have Hr := hid hr
  have Ho := hid ho
  have Hd := hid hd
  clear hr ho hd
  go_enter Try.func16, Try.ntmps16
  go_wp2_with fail
  refine (rright_any k fr cy cr cl _).mono ?_
  rintro e w1 ⟨rfl, g1⟩
  rw [Hr.out]
  have D0 : w1.heap[w.heap.size]? = some (.cells #[.int .i64 m, .int .i64 ba, .int .i64 r] 53) := gr_heap g1 (gr_heap (gr_alloc (gr_refl _ none) _) (heap_alloc_new w _) (by simp)) (by simp)
  have D1 : w1.heap[w.heap.size + 1]? = some (.cells #[.int .i64 k, .int .i64 fr, .int .i64 cy, .int .u32 cr, .int .i64 cl] 37) := gr_heap g1 (heap_new2 w _ _) (by simp)
  have y0 := cell_of D0 0 (.int .i64 m) rfl
  have y1 := cell_of D0 1 (.int .i64 ba) rfl
  have y2 := cell_of D0 2 (.int .i64 r) rfl
  have y3 := cell_of D1 4 (.int .i64 cl) rfl
  have G1 := hid (bx_gr2 g1)
  clear g1 D0 D1
  go_wp2_with fail
  refine (rdue_any m ba r t cl dl 0 f _ Ho.out Hd.out).mono ?_
  rintro e w2 ⟨rfl, g2⟩
  have G2 := hid (gr_trans G1.out g2)
  clear g2
  go_wp2_with fail
  exact bodyPost_ret (v := .tuple #[.slice a n cap, .int .i64 0, .int .i64 f]) (by simp [results, Try.results16, go_sem]) rfl ⟨rfl, G2.out⟩

set_option maxRecDepth 100000 in
set_option maxHeartbeats 4000000 in
theorem rtake_full (m ba r dl t k fr cy cr cl d : Int) (a : Option Addr) (cap : Nat) (w : World) (ho : ClockOk m ba r) (hr : rightB k fr cy cr cl = true) (hcl : cl ≤ dl) (hd : Due10 m ba r t cl dl d 0) :
    Calls Try.prog 16 #[.slice a 64 cap, .int .i64 dl, rclk m ba r, .int .i64 t, .agg #[.int .i64 k, .int .i64 fr, .int .i64 cy, .int .u32 cr, .int .i64 cl]] w fun e w' =>
      e = .returned (.tuple #[.slice a 64 cap, .int .i64 0, .int .i64 6]) ∧ w.grownBy w' none := by
  have Hr := hid hr
  have Ho := hid ho
  have Hd := hid hd
  clear hr ho hd
  go_enter Try.func16, Try.ntmps16
  go_wp2_with fail
  refine (rright_any k fr cy cr cl _).mono ?_
  rintro e w1 ⟨rfl, g1⟩
  rw [Hr.out]
  have D0 : w1.heap[w.heap.size]? = some (.cells #[.int .i64 m, .int .i64 ba, .int .i64 r] 53) := gr_heap g1 (gr_heap (gr_alloc (gr_refl _ none) _) (heap_alloc_new w _) (by simp)) (by simp)
  have D1 : w1.heap[w.heap.size + 1]? = some (.cells #[.int .i64 k, .int .i64 fr, .int .i64 cy, .int .u32 cr, .int .i64 cl] 37) := gr_heap g1 (heap_new2 w _ _) (by simp)
  have y0 := cell_of D0 0 (.int .i64 m) rfl
  have y1 := cell_of D0 1 (.int .i64 ba) rfl
  have y2 := cell_of D0 2 (.int .i64 r) rfl
  have y3 := cell_of D1 4 (.int .i64 cl) rfl
  have G1 := hid (bx_gr2 g1)
  clear g1 D0 D1
  go_wp2_with fail
  refine (rdue_any m ba r t cl dl d 0 _ Ho.out Hd.out).mono ?_
  rintro e w2 ⟨rfl, g2⟩
  have G2 := hid (gr_trans G1.out g2)
  clear g2
  go_wp2_with fail
  exact bodyPost_ret (v := .tuple #[.slice a 64 cap, .int .i64 0, .int .i64 6]) (by simp [results, Try.results16, go_sem]) rfl ⟨rfl, G2.out⟩

/-- The document's Take, whatever comes. -/
theorem rtake_all (m ba r dl t k fr cy cr cl num v f : Int) (ls : List It) (sv : Value) (w : World) (ho : ClockOk m ba r) (hL : LS w sv ls) (ht : Took m ba r t dl k fr cy cr cl ls.length v f) :
    Calls Try.prog 16 #[sv, .int .i64 dl, rclk m ba r, .int .i64 t, .agg #[.int .i64 k, .int .i64 fr, .int .i64 cy, .int .u32 cr, .int .i64 cl]] w fun e w' =>
      ∃ v2, e = .returned (.tuple #[v2, .int .i64 v, .int .i64 f]) ∧ LS w' v2 (if f = 0 then insH ⟨v, fr, 0, num + 1, k, fr, cy, cr, cl⟩ ls else ls) ∧ (v2 = sv ∨ ∀ k, v2.ownBlock = some k → w.heap.size ≤ k ∧ k < w'.heap.size) ∧ w.grownBy w' none := by
  have keep : ∀ w' : World, w.grownBy w' none → LS w' sv ls := fun w' g => by
    by_cases h0 : ls = []
    · subst h0
      obtain ⟨a, cap, rfl⟩ := hL.slice
      exact .inl ⟨rfl, _, _, rfl⟩
    · exact hL.keep g.size fun k hk => g.block k (hL.lt (List.length_pos_iff.2 h0) k hk) (by simp)
  obtain ⟨a, cap, rfl⟩ := hL.slice
  cases ht with
  | bad hr => exact (rtake_bad m ba r dl t k fr cy cr cl a _ cap w hr).mono fun e w' ⟨he, g⟩ => ⟨_, he, by rw [if_neg (by decide)]; exact keep w' g, .inl rfl, g⟩
  | range hr hcl => exact (rtake_range m ba r dl t k fr cy cr cl a _ cap w hr hcl).mono fun e w' ⟨he, g⟩ => ⟨_, he, by rw [if_neg (by decide)]; exact keep w' g, .inl rfl, g⟩
  | late hr hcl f hd hf => exact (rtake_late m ba r dl t k fr cy cr cl _ a _ cap w ho hr hcl hd hf).mono fun e w' ⟨he, g⟩ => ⟨_, he, by rw [if_neg hf]; exact keep w' g, .inl rfl, g⟩
  | full hr hcl d hd hl =>
    have := rtake_full m ba r dl t k fr cy cr cl d a cap w ho hr hcl hd
    rw [← hl] at this
    exact this.mono fun e w' ⟨he, g⟩ => ⟨_, he, by rw [if_neg (by decide)]; exact keep w' g, .inl rfl, g⟩
  | ok hr hcl d hd hl => exact (rtake_ok m ba r dl t k fr cy cr cl _ num ls a cap w ho hL hl hr hcl hd).mono fun e w' ⟨v2, he, hL', hk, g⟩ => ⟨v2, he, by rw [if_pos rfl]; exact hL', .inr hk, g⟩
end Go.Proofs.Ytkcgpbehicjidaa
