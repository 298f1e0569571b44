/- comp: New, Open; crew: Has, Of one host. -/
import Derived.Test.YtagoiidpcfjebaaFrameC
import Derived.Test.YtagoiidpcfjebaaSortPlain
namespace Go.Proofs.Ytagoiidpcfjebaa
open Go.RowKit Go.Lib

/-- A collection in its block. -/
def Cmp (w : World) (b : Nat) (win : Int) (op : Bool) (first : Int) (vr vc : Value) (cr : Nat) : Prop :=
  w.heap[b]? = some (.cells #[.int .i64 win, .bool op, .int .i64 first, vr, vc, .int .u32 (cr : Int)] 61 (0, 0))
section
variable {w : World} {b : Nat} {win : Int} {op : Bool} {first : Int} {vr vc : Value} {cr : Nat}
theorem Cmp.c0 (h : Cmp w b win op first vr vc cr) : w.cell? ⟨b, 0, none⟩ = some (.int .i64 win) := by unfold Cmp at h; simp [World.cell?, h]
theorem Cmp.c1 (h : Cmp w b win op first vr vc cr) : w.cell? ⟨b, 1, none⟩ = some (.bool op) := by unfold Cmp at h; simp [World.cell?, h]
theorem Cmp.c2 (h : Cmp w b win op first vr vc cr) : w.cell? ⟨b, 2, none⟩ = some (.int .i64 first) := by unfold Cmp at h; simp [World.cell?, h]
theorem Cmp.c3 (h : Cmp w b win op first vr vc cr) : w.cell? ⟨b, 3, none⟩ = some vr := by unfold Cmp at h; simp [World.cell?, h]
theorem Cmp.c4 (h : Cmp w b win op first vr vc cr) : w.cell? ⟨b, 4, none⟩ = some vc := by unfold Cmp at h; simp [World.cell?, h]
theorem Cmp.c5 (h : Cmp w b win op first vr vc cr) : w.cell? ⟨b, 5, none⟩ = some (.int .u32 (cr : Int)) := by unfold Cmp at h; simp [World.cell?, h]
theorem Cmp.f (h : Cmp w b win op first vr vc cr) (i : Nat) : w.frozen? ⟨b, i, none⟩ = false := by unfold Cmp at h; simp [World.frozen?, h]
theorem Cmp.lt (h : Cmp w b win op first vr vc cr) : b < w.heap.size := lt_of_block h
theorem Cmp.kept {w' : World} {row : Option Nat} (h : Cmp w b win op first vr vc cr) (hg : w.grownBy w' row) (hr : some b ≠ row) : Cmp w' b win op first vr vc cr := gr_heap hg h hr
end
theorem Cmp.new (w : World) (win : Int) : Cmp (w.alloc (.cells #[.int .i64 win, .bool false, .int .i64 0, .slice none 0 0, .slice none 0 0, .int .u32 0] 61)) w.heap.size win false 0 (.slice none 0 0) (.slice none 0 0) 0 := by
  unfold Cmp; exact heap_alloc_new w _

theorem comp_new_ok (win : Int) (w : World) (h0 : 0 ≤ win) (h1 : win ≤ 1048576) :
    Calls Try.prog 10 #[.int .i64 win] w fun e w' => e = .returned (.tuple #[.pointer (some ⟨w.heap.size, 0, none⟩), .int .i64 0]) ∧ Cmp w' w.heap.size win false 0 (.slice none 0 0) (.slice none 0 0) 0 ∧ w.grownBy w' none ∧ w'.heap.size = w.heap.size + 1 := by
  go_enter Try.func10, Try.ntmps10
  go_wp2_with fail
  go_ret2
  exact ⟨rfl, Cmp.new w win, gr_alloc (gr_refl w none) _, by simp⟩
theorem comp_new_bad (win : Int) (w : World) (h : win < 0 ∨ 1048576 < win) :
    Calls Try.prog 10 #[.int .i64 win] w fun e w' => e = .returned (.tuple #[.pointer none, .int .i64 1]) ∧ w = w' := by
  rcases h with h | h
  · go_enter Try.func10, Try.ntmps10
    go_wp2_with fail
    go_ret2
    exact ⟨rfl, rfl⟩
  · go_enter Try.func10, Try.ntmps10
    go_wp2_with fail
    go_ret2
    exact ⟨rfl, rfl⟩

theorem comp_open_nil (w : World) : Calls Try.prog 16 #[.pointer none] w fun e w' => e = .returned (.bool false) ∧ w = w' := by
  go_enter Try.func16, Try.ntmps16
  go_wp2_with fail
  go_ret
  exact ⟨rfl, rfl⟩
theorem comp_open (b : Nat) (win : Int) (op : Bool) (first : Int) (vr vc : Value) (cr : Nat) (w : World) (hc : Cmp w b win op first vr vc cr) :
    Calls Try.prog 16 #[.pointer (some ⟨b, 0, none⟩)] w fun e w' => e = .returned (.bool op) ∧ w = w' := by
  have c1 := hc.c1
  clear hc
  go_enter Try.func16, Try.ntmps16
  go_wp2_with fail
  go_ret
  exact ⟨rfl, rfl⟩

/-- Is the host in the crew? -/
def hasB (c : Nat) (h : Nat) : Bool := decide (c / 2 ^ h % 2 = 1)

theorem and_one : ∀ m : Fin 64, bits .and .u32 ((m.val : Nat) : Int) 1 = ((m.val % 2 : Nat) : Int) := of_decide_eq_true (by kernel_rfl)
theorem or_bit : ∀ (m : Fin 64) (h : Fin 6), bits .or .u32 ((m.val : Nat) : Int) ((2 ^ h.val : Nat) : Int) = (((if hasB m.val h.val = true then m.val else m.val + 2 ^ h.val : Nat)) : Int) := of_decide_eq_true (by kernel_rfl)

theorem has_at (c h : Nat) (hc : c < 64) (hh : h < 6) (w : World) :
    Calls Try.prog 21 #[.int .u32 (c : Int), .int .i64 (h : Int)] w fun e w' => e = .returned (.bool (hasB c h)) ∧ w = w' := by
  have h1 : (h : Int) < 6 := by omega
  have hb : bits .and .u32 ((c : Int) / 2 ^ h) 1 = ((c / 2 ^ h % 2 : Nat) : Int) := by
    have := and_one ⟨c / 2 ^ h, Nat.lt_of_le_of_lt (Nat.div_le_self _ _) hc⟩
    simp only at this
    rw [← this]
    congr 1
  have hr : (bits .and .u32 ((c : Int) / 2 ^ h) 1 == 1) = hasB c h := by
    rw [hb]
    unfold hasB
    generalize c / 2 ^ h % 2 = m
    rw [Bool.eq_iff_iff]
    simp
    omega
  have Hr := hid hr
  clear hr hb
  go_enter Try.func21, Try.ntmps21
  go_wp2_with fail
  go_ret
  refine ⟨?_, rfl⟩
  rw [← Hr.out]
  rfl

theorem has_same (c h : Nat) (hc : c < 64) (hh : h < 6) (w : World) :
    Calls Try.prog 21 #[.int .u32 (c : Int), .int .i64 (h : Int)] w fun e w' => e = .returned (.bool (hasB c h)) ∧ w' = w :=
  (has_at c h hc hh w).mono fun _ _ ⟨h1, h2⟩ => ⟨h1, h2.symm⟩

theorem or_nought : ∀ h : Fin 6, bits .or .u32 0 ((2 : Int) ^ h.val % 4294967296) = ((2 ^ h.val : Nat) : Int) := of_decide_eq_true (by kernel_rfl)

theorem of_one (g h : Nat) (hh : h < 6) (w : World) (hc : w.cell? ⟨g, 0, none⟩ = some (.int .i64 (h : Int))) :
    Calls Try.prog 22 #[.slice (some ⟨g, 0, none⟩) 1 1] w fun e w' => e = .returned (.int .u32 ((2 ^ h : Nat) : Int)) ∧ w = w' := by
  have h1 : (h : Int) < 6 := by omega
  go_enter Try.func22, Try.ntmps22
  go_wp2_with fail
  refine wp_loop_rounds 2 ?_
  rw [rounds_succ]
  go_wp2_with fail
  have hb := or_nought ⟨h, hh⟩
  simp only at hb
  rw [hb]
  clear hb
  rw [rounds_succ]
  go_wp2_with fail
  go_ret
  exact ⟨rfl, rfl⟩
end Go.Proofs.Ytagoiidpcfjebaa
