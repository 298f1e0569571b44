/- tocsinlaw11.CompShifts, walked. -/
import Derived.Test.YtagoiidpcfjebaaCompI
import Derived.Test.YtagoiidpcfjebaaCompJ
namespace Go.Proofs.Ytagoiidpcfjebaa
open Go.RowKit Go.Lib

theorem Byts.below {n₀ : Nat} {A B : World} (h : Below n₀ A B) {sv : Value} {zs : List Int} : Byts n₀ A sv zs → Byts n₀ B sv zs
  | .inl e => .inl e
  | .inr ⟨b, off, cap, e, hb, hc⟩ => .inr ⟨b, off, cap, e, hb, fun j hj => (h.cell (p := ⟨b, off + j, none⟩) hb).trans (hc j hj)⟩
theorem Byts.mono {n₀ n₁ : Nat} {A : World} (h : n₀ ≤ n₁) {sv : Value} {zs : List Int} : Byts n₀ A sv zs → Byts n₁ A sv zs
  | .inl e => .inl e
  | .inr ⟨b, off, cap, e, hb, hc⟩ => .inr ⟨b, off, cap, e, by omega, hc⟩
theorem Byts.on {A B : World} (h : A.grownBy B none) {sv : Value} {zs : List Int} (hb : Byts A.heap.size A sv zs) : Byts B.heap.size B sv zs :=
  (hb.below (gr_below h (Nat.le_refl _) (by simp))).mono h.size

set_option maxRecDepth 100000 in
set_option maxHeartbeats 4000000 in
theorem cshifts_walk (f : Int) (bf : -2147483648 ≤ f ∧ f ≤ 2147483647) (y : Int) (by' : -2147483648 ≤ y ∧ y ≤ 2147483647) (a : Option Addr) (gs : List Int) (cap : Nat) (hreach : gs.length * 1 ≤ 140737488355328) (h8 : InB gs) (hcap : gs.length ≤ cap) {w : World} (hI : Byts w.heap.size w (.slice a gs.length cap) gs) :
    Calls Try.prog 6 #[.int .i32 f, .int .i32 y, .slice a gs.length cap] w fun e w' => e = .returned (.bool true) ∧ Below w.heap.size w w' := by
  obtain ⟨bf0, bf1⟩ := bf
  obtain ⟨by0, by1⟩ := by'
  have H8 := hid h8
  have HI := hid hI
  clear h8 hI
  have hr : ∀ x ∈ 0 :: gs.take 5, 0 ≤ x ∧ x ≤ 255 := by
    intro x hx
    rcases List.mem_cons.1 hx with rfl | hx
    · omega
    · exact H8.out x (List.mem_of_mem_take hx)
  have ht := tolL_bounds hr (by simp)
  obtain ⟨t, hte⟩ : ∃ t, Hid (tolL (0 :: gs.take 5) = t) := ⟨_, hid rfl⟩
  obtain ⟨c, hce⟩ : ∃ c, Hid (2 ^ ((gs.take 5).length + 1) - 1 = c) := ⟨_, hid rfl⟩
  rw [hte.out] at ht
  obtain ⟨t0, t1⟩ := ht
  clear hr
  go_enter Try.func6, Try.ntmps6
  go_wp2_with fail
  refine (fixed_true w).mono ?_
  rintro e w1 ⟨rfl, g1⟩
  have HB := hid g1
  have HI1 := hid (HI.out.on g1)
  clear g1
  go_wp2_with fail
  refine (all_any f (by omega) a gs cap hcap hreach H8.out _ HI1.out).mono ?_
  rintro e w2 ⟨v2, rfl, _, g2⟩
  rw [hte.out, hce.out]
  have HB := hid (gr_trans HB.out g2)
  have HI2 := hid (HI1.out.on g2)
  clear g2 HI1
  have HI3 := hid (HI2.out.on (gr_alloc (gr_refl w2 none) (.cells #[.int .i64 (f + t), .int .u32 (c : Int), .int .i64 3] 39)))
  go_wp2_with fail
  refine (all_any (f + y) (by omega) a gs cap hcap hreach H8.out _ HI3.out).mono ?_
  rintro e w3 ⟨v3, rfl, _, g3⟩
  rw [hte.out, hce.out]
  have D := hid (gr_heap g3 (heap_alloc_new w2 _) (by simp))
  have HB := hid (gr_trans (gr_alloc HB.out (.cells #[.int .i64 (f + t), .int .u32 (c : Int), .int .i64 3] 39)) g3)
  clear g3 HI2 HI3
  go_wp2_with fail
  refine (from_at 0 _).mono ?_
  rintro e w4 ⟨rfl, g⟩
  have D2 := hid (gr_heap g (heap_alloc_new w3 _) (by simp))
  have D1 := hid (gr_heap g (gr_heap (gr_alloc (gr_refl w3 none) _) D.out (by simp)) (by simp))
  have HB := hid (gr_trans (gr_alloc HB.out (.cells #[.int .i64 (f + y + t), .int .u32 (c : Int), .int .i64 3] 39)) g)
  clear g D
  go_wp2_with fail
  refine (add_nil 0 1 0 3 0 0 _).mono ?_
  rintro e w5 ⟨rfl, g⟩
  have D2 := hid (gr_heap g D2.out (by simp))
  have D1 := hid (gr_heap g D1.out (by simp))
  have HB := hid (gr_trans HB.out g)
  clear g
  go_wp2_with fail
  refine (close_nil 0 _).mono ?_
  rintro e w6 ⟨rfl, g⟩
  have D2 := hid (gr_heap g D2.out (by simp))
  have D1 := hid (gr_heap g D1.out (by simp))
  have HB := hid (gr_trans HB.out g)
  clear g
  have D2 := hid (gr_heap (gr_alloc (gr_refl w6 none) (.cells #[.int .i64 0, .int .u32 0, .int .i64 0] 39)) D2.out (by simp))
  have D1 := hid (gr_heap (gr_alloc (gr_refl w6 none) (.cells #[.int .i64 0, .int .u32 0, .int .i64 0] 39)) D1.out (by simp))
  have y10 := cell_of D1.out 0 _ rfl
  have y11 := cell_of D1.out 1 _ rfl
  have y12 := cell_of D1.out 2 _ rfl
  have y20 := cell_of D2.out 0 _ rfl
  have y21 := cell_of D2.out 1 _ rfl
  have y22 := cell_of D2.out 2 _ rfl
  have hs : f + t + y = f + y + t := by omega
  go_wp2_with fail
  refine (comp_open_nil _).mono ?_
  rintro e w7 ⟨rfl, rfl⟩
  go_wp2_with fail
  go_ret
  exact ⟨rfl, gr_below (gr_alloc HB.out _) (Nat.le_refl _) (by simp)⟩
end Go.Proofs.Ytagoiidpcfjebaa
