/- frame.Control: bytes are made of a right frame; another is refused. -/
import Derived.Test.YtagoiidpcfjebaaFrame
namespace Go.Proofs.Ytagoiidpcfjebaa
open Go.RowKit Go.Lib

theorem control_bad (k fr cy cr cl : Int) (w : World) (h : rightB k fr cy cr cl = false) :
    Calls Try.prog 20 #[ctl k fr cy cr cl] w fun e w' => e = .returned (.tuple #[.slice none 0 0, .int .i64 1]) ∧ w.grownBy w' none := by
  have H := hid h; clear h
  go_enter Try.func20, Try.ntmps20
  go_wp2_with fail
  refine (right_any k fr cy cr cl _).mono ?_
  rintro e w' ⟨rfl, hg⟩
  rw [H.out]
  go_wp2_with fail
  go_ret2
  exact ⟨rfl, bx_gr hg⟩

theorem OwnBytes.made4 (w : World) (base : Nat) (hb : base ≤ w.heap.size) (a b c d : Int) (ha : 0 ≤ a ∧ a ≤ 255) (hb' : 0 ≤ b ∧ b ≤ 255) (hc : 0 ≤ c ∧ c ≤ 255) (hd : 0 ≤ d ∧ d ≤ 255) :
    OwnBytes (w.alloc (.cells #[.int .u8 a, .int .u8 b, .int .u8 c, .int .u8 d] 5)) base (.slice (some ⟨w.heap.size, 0, none⟩) 4 4) 4 := by
  refine ⟨[.int .u8 a, .int .u8 b, .int .u8 c, .int .u8 d], ⟨rfl, .inr ⟨w.heap.size, 4, _, rfl, hb, heap_alloc_new w _, by omega, by unfold maxLen; omega, rfl, rfl⟩⟩, ?_⟩
  intro x hx
  simp at hx
  rcases hx with rfl | rfl | rfl | rfl
  · exact ⟨a, rfl, ha⟩
  · exact ⟨b, rfl, hb'⟩
  · exact ⟨c, rfl, hc⟩
  · exact ⟨d, rfl, hd⟩

set_option maxHeartbeats 1000000 in
theorem control_ok (k fr cy cr cl : Int) (w : World) (h : rightB k fr cy cr cl = true) :
    Calls Try.prog 20 #[ctl k fr cy cr cl] w fun e w' => (∃ v, e = .returned (.tuple #[v, .int .i64 0])) ∧ w.grownBy w' none := by
  have H := hid h; clear h
  go_enter Try.func20, Try.ntmps20
  go_wp2_with fail
  refine (right_any k fr cy cr cl _).mono ?_
  rintro e w1 ⟨rfl, hg⟩
  rw [H.out]
  have c0 : w1.cell? ⟨w.heap.size, 0, none⟩ = some (.int .i64 k) := bx_cell hg 0 _ rfl
  have c1 : w1.cell? ⟨w.heap.size, 1, none⟩ = some (.int .i64 fr) := bx_cell hg 1 _ rfl
  have G : w1.grownBy (w1.alloc (.cells #[.int .u8 137, .int .u8 29, .int .u8 (k % 256), .int .u8 (fr % 256)] 5)) none := World.grownBy_alloc _ _ _
  have d2 : (w1.alloc (.cells #[.int .u8 137, .int .u8 29, .int .u8 (k % 256), .int .u8 (fr % 256)] 5)).cell? ⟨w.heap.size, 2, none⟩ = some (.int .i64 cy) := gr_cell G (bx_cell hg 2 _ rfl)
  have d3 := hid (gr_cell G (show w1.cell? ⟨w.heap.size, 3, none⟩ = some (.int .u32 cr) from bx_cell hg 3 _ rfl))
  have d4 := hid (gr_cell G (show w1.cell? ⟨w.heap.size, 4, none⟩ = some (.int .i64 cl) from bx_cell hg 4 _ rfl))
  have hO := hid (OwnBytes.made4 w1 w1.heap.size (Nat.le_refl _) 137 29 (k % 256) (fr % 256) (by omega) (by omega) (by omega) (by omega))
  have hG0 : Hid (w.grownBy w1 none) := hid (bx_gr hg)
  have hlt : w.heap.size < w1.heap.size := by have := hg.size; simp at this; omega
  clear G hg
  go_wp2_with fail
  refine (put_any w1.heap.size 4 8 _ _ _ hO.out (by simp) (by omega) (by omega)).mono ?_
  rintro e w2 ⟨v2, rfl, hO2, B2⟩
  have HO2 := hid hO2
  have e3 : w2.cell? ⟨w.heap.size, 3, none⟩ = some (.int .u32 cr) := (B2.cell (p := ⟨w.heap.size, 3, none⟩) hlt).trans d3.out
  have e4 := hid ((B2.cell (p := ⟨w.heap.size, 4, none⟩) hlt).trans d4.out)
  have HB2 := hid (((Below.refl w1.heap.size w1).alloc (Nat.le_refl _) _).trans B2)
  clear hO2 B2 d2 d3 d4
  go_wp2_with fail
  refine (put_any w1.heap.size 12 4 _ _ _ HO2.out HB2.out.size (by omega) (by omega)).mono ?_
  rintro e w3 ⟨v3, rfl, hO3, B3⟩
  have HO3 := hid hO3
  have f4 : w3.cell? ⟨w.heap.size, 4, none⟩ = some (.int .i64 cl) := (B3.cell (p := ⟨w.heap.size, 4, none⟩) hlt).trans e4.out
  have HB3 := hid (HB2.out.trans B3)
  clear hO3 B3 e3 e4
  go_wp2_with fail
  refine (put_any w1.heap.size 16 8 _ _ _ HO3.out HB3.out.size (by omega) (by omega)).mono ?_
  rintro e w4 ⟨v4, rfl, hO4, B4⟩
  have HO4 := hid hO4
  have HB4 := hid (HB3.out.trans B4)
  clear hO4 B4 f4
  go_wp2_with fail
  refine (put_any w1.heap.size 24 6 _ _ _ HO4.out HB4.out.size (by omega) (by omega)).mono ?_
  rintro e w5 ⟨v5, rfl, hO5, B5⟩
  have HO5 := hid hO5
  have HB5 := hid (HB4.out.trans B5)
  clear hO5 B5
  go_wp2_with fail
  refine (sealed_any w1.heap.size 30 _ _ HO5.out HB5.out.size (by omega)).mono ?_
  rintro e w6 ⟨v6, rfl, hO6, B6⟩
  have HB6 := hid (HB5.out.trans B6)
  clear hO6 B6
  go_wp2_with fail
  go_ret2
  exact ⟨⟨_, rfl⟩, gr_trans hG0.out (below_gr HB6.out)⟩
end Go.Proofs.Ytagoiidpcfjebaa
