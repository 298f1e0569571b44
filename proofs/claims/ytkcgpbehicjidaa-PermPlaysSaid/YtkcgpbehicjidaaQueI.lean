/- perm: Take of a frame that comes behind its parent; what is too old; Give. -/
import Derived.Test.YtkcgpbehicjidaaQueC
import Derived.Test.YtkcgpbehicjidaaQueG
import Derived.Test.YtkcgpbehicjidaaQueD
namespace Go.Proofs.Ytkcgpbehicjidaa
open Go.RowKit Go.Lib

/-- The hold in its block. -/
def Hld (w : World) (hb q : Nat) (dl : Int) : Prop := w.heap[hb]? = some (.cells #[.int .i64 dl, .pointer (some ⟨q, 0, none⟩)] 68 (0, 0))
theorem Hld.c0 {w : World} {hb q : Nat} {dl : Int} (h : Hld w hb q dl) : w.cell? ⟨hb, 0, none⟩ = some (.int .i64 dl) := cell_of h 0 _ rfl
theorem Hld.c1 {w : World} {hb q : Nat} {dl : Int} (h : Hld w hb q dl) : w.cell? ⟨hb, 1, none⟩ = some (.pointer (some ⟨q, 0, none⟩)) := cell_of h 1 _ rfl
theorem Hld.gr {w w' : World} {hb q : Nat} {dl : Int} (h : Hld w hb q dl) (g : w.grownBy w' none) : Hld w' hb q dl := gr_heap g h (by simp)

set_option maxRecDepth 100000 in
set_option maxHeartbeats 4000000 in
theorem take_range (b hb q : Nat) (dl t k fr cy cr cl : Int) (w : World) (hh : Hld w hb q dl) (hr : rightB k fr cy cr cl = true) (hcl : dl < cl) :
    Calls Try.prog 11 #[.pointer (some ⟨hb, 0, none⟩), .pointer (some ⟨b, 0, none⟩), .int .i64 t, .agg #[.int .i64 k, .int .i64 fr, .int .i64 cy, .int .u32 cr, .int .i64 cl]] w fun e w' => e = .returned (.tuple #[.int .i64 0, .int .i64 4]) ∧ w.grownBy w' none := by
  have Hr := hid hr
  have Hh := hid hh
  clear hr hh
  go_enter Try.func11, Try.ntmps11
  go_wp2_with fail
  refine (control_ok k fr cy cr cl _ Hr.out).mono ?_
  rintro e w1 ⟨⟨vv, rfl⟩, g1⟩
  have d4 : w1.cell? ⟨w.heap.size, 4, none⟩ = some (.int .i64 cl) := bx_cell g1 4 _ rfl
  have h0 := (Hh.out.gr (bx_gr g1)).c0
  have G1 := hid (bx_gr g1)
  clear g1
  go_wp2_with fail
  go_quiet (fail)
  go_wp2_with fail
  go_ret2
  exact ⟨rfl, gr_drewN G1.out _⟩

set_option maxRecDepth 100000 in
set_option maxHeartbeats 4000000 in
theorem take_keep (P : Nat → Prop) (b base hb q : Nat) (m ba r dl t k fr cy cr cl now due num : Int) (xs : List It) (w : World) (hh : Hld w hb q dl) (hc : Clk w b m ba r) (ho : ClockOk m ba r) (hn0 : nowB m t = true) (hn : clockAt m ba r t = now)
    (hd : 0 ≤ dl ∧ dl ≤ 1048576) (hr : rightB k fr cy cr cl = true) (hcl : 0 ≤ cl ∧ cl ≤ dl) (hw : IsWhen m ba r (now + dl - cl) due) (h : QS P w base q num xs) (hlen : xs.length < 64) (hnum : 0 ≤ num ∧ num ≤ 4611686018427387904)
    (hkeep : xs.length = 0 ∨ ¬ Ahead ⟨due, fr, 0, num + 1, k, fr, cy, cr, cl⟩ (ith xs ((xs.length - 1) / 2))) :
    Calls Try.prog 11 #[.pointer (some ⟨hb, 0, none⟩), .pointer (some ⟨b, 0, none⟩), .int .i64 t, .agg #[.int .i64 k, .int .i64 fr, .int .i64 cy, .int .u32 cr, .int .i64 cl]] w fun e w' =>
      e = .returned (.tuple #[.int .i64 due, .int .i64 0]) ∧ QS P w' base q (num + 1) (xs ++ [⟨due, fr, 0, num + 1, k, fr, cy, cr, cl⟩]) ∧ Keeps P w w' := by
  have Hr := hid hr
  have Hh := hid hh
  have Hc := hid hc
  have Hw := hid hw
  have Hn := hid hn
  have Hn0 := hid hn0
  have HQ := hid h
  have Hkeep := hid hkeep
  have Hlen := hid hlen
  have Hnum := hid hnum
  have Ho := hid ho
  have Hd := hid hd
  have Hcl := hid hcl
  obtain ⟨e0, e1⟩ := hcl
  clear hr hh hc hw hn hn0 h hkeep hlen hnum ho hd
  go_enter Try.func11, Try.ntmps11
  go_wp2_with fail
  refine (control_ok k fr cy cr cl _ Hr.out).mono ?_
  rintro e w1 ⟨⟨vv, rfl⟩, g1⟩
  have D := hid (gr_heap g1 (heap_alloc_new w (.cells #[.int .i64 k, .int .i64 fr, .int .i64 cy, .int .u32 cr, .int .i64 cl] 37)) (by simp))
  have G1 := hid (bx_gr g1)
  have d4 := cell_of D.out 4 (.int .i64 cl) rfl
  have h0 := (Hh.out.gr G1.out).c0
  clear g1
  go_wp2_with fail
  go_quiet (fail)
  obtain ⟨w2, hw2⟩ : ∃ w2, w1.drewN nq = w2 := ⟨_, rfl⟩
  have G2 : w1.grownBy w2 none := hw2 ▸ gr_drewN (gr_refl w1 none) nq
  rw [hw2]
  clear hw2 d4 h0
  have D2 := hid (gr_heap G2 D.out (by simp))
  have HG2 := hid (gr_trans G1.out G2)
  clear G2 D G1
  go_wp2_with fail
  have n0 := grn_cell (cell_of D2.out 4 (.int .i64 cl) rfl)
  have n1 := grn_cell (Hh.out.gr HG2.out).c0
  have Hc2 := hid (Hc.out.kept HG2.out (by simp))
  refine wp_region_grown (by kernel_rfl) (by kernel_rfl) ?_
  repeat (go_big_quiet_step ((go_at_call 14; refine (due_ok b m ba r t cl dl now due _ (Hc2.out.kept (Grn.gr _) (by simp)) Ho.out Hn0.out Hn.out Hd.out Hcl.out Hw.out).mono ?_; rintro e w3 ⟨rfl, g3⟩; exact ⟨rfl, ⟨_, gr_trans (Grn.gr _) g3⟩, rfl⟩)))
  refine wpQuiet_nil ?_
  rintro w4 ⟨X, hX⟩
  have g4 : w2.grownBy w4 none := hX ▸ X.gr
  clear hX X n0 n1
  have D4 := hid (gr_heap g4 D2.out (by simp))
  have HG4 := hid (gr_trans HG2.out g4)
  clear g4 D2
  go_wp2_with fail
  have h1 := (Hh.out.gr HG4.out).c1
  have b0 := cell_of D4.out 0 (.int .i64 k) rfl
  have b1 := cell_of D4.out 1 (.int .i64 fr) rfl
  have b2 := cell_of D4.out 2 (.int .i64 cy) rfl
  have b3 := cell_of D4.out 3 (.int .u32 cr) rfl
  have b4 := cell_of D4.out 4 (.int .i64 cl) rfl
  have HQ4 := hid (HQ.out.grown HG4.out)
  have HK4 : Hid (Keeps P w w4) := hid (Keeps.of_gr HG4.out fun k hk => ⟨HQ.out.lt k hk, by simp⟩)
  apply wp_behind0 (fun W => Hid (QS P W base q (num + 1) (xs ++ [⟨due, fr, 0, num + 1, k, fr, cy, cr, cl⟩]) ∧ Keeps P w W))
  case h =>
    go_region_with (go_at_call 26; refine (push_keep P base q num xs due fr 0 k fr cy cr cl _ (HQ4.out.grown (gr_drew (gr_refl w4 none))) Hlen.out Hnum.out Hkeep.out).mono ?_; rintro e w5 ⟨rfl, hQ5, hK5⟩; have H5 : Hid (QS P w5 base q (num + 1) (xs ++ [⟨due, fr, 0, num + 1, k, fr, cy, cr, cl⟩]) ∧ Keeps P w w5) := hid ⟨hQ5, HK4.out.trans ⟨hK5.os, hK5.tape, hK5.output, hK5.size, hK5.block⟩⟩; clear hQ5 hK5)
    all_goals exact ⟨rfl, H5⟩
  case k =>
    intro w5 H5
    clear h1 b0 b1 b2 b3 b4
    go_wp2_with fail
    go_ret2
    exact ⟨rfl, H5.out.1, H5.out.2⟩
end Go.Proofs.Ytkcgpbehicjidaa
