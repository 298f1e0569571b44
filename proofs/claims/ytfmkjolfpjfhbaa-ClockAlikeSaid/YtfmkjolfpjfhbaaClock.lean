/- The clock: what each of its methods does, as plain numbers. -/
import Derived.Test.YtfmkjolfpjfhbaaMulDiv
namespace Go.Proofs.Ytfmkjolfpjfhbaa
open Go.RowKit Go.Lib

def realB (t : Int) : Bool := decide (0 ≤ t ∧ t ≤ 1125899906842624)
def fastB (r : Int) : Bool := decide (-1000000 ≤ r ∧ r ≤ 1000000)
def shownB (n : Int) : Bool := decide (-1125899906842624 ≤ n ∧ n ≤ 1125899906842624)
theorem realB_iff {t : Int} : realB t = true ↔ 0 ≤ t ∧ t ≤ 1125899906842624 := by simp [realB]
theorem fastB_iff {t : Int} : fastB t = true ↔ -1000000 ≤ t ∧ t ≤ 1000000 := by simp [fastB]
theorem shownB_iff {t : Int} : shownB t = true ↔ -1125899906842624 ≤ t ∧ t ≤ 1125899906842624 := by simp [shownB]

/-- What a clock shows. -/
def clockAt (m ba r t : Int) : Int := ba + (t - m) + (t - m) * r / 1000000000

/-- Mark, base and rate as they may come to be. -/
structure ClockOk (m ba r : Int) : Prop where
  m0 : 0 ≤ m
  m1 : m ≤ 1125899906842624
  r0 : -1000000 ≤ r
  r1 : r ≤ 1000000
  b0 : -(1125899906842624 + 2 * m) ≤ ba
  b1 : ba ≤ 1125899906842624 + 2 * m

theorem mul_rate (d r : Int) (h0 : 0 ≤ d) (r0 : -1000000 ≤ r) (r1 : r ≤ 1000000) : -(d * 1000000) ≤ d * r ∧ d * r ≤ d * 1000000 := by
  constructor
  · have := Int.mul_le_mul_of_nonneg_left r0 h0; omega
  · exact Int.mul_le_mul_of_nonneg_left r1 h0

theorem clockAt_bd {m ba r t : Int} (h : ClockOk m ba r) (h0 : m ≤ t) : -(1125899906842624 + 2 * t) ≤ clockAt m ba r t ∧ clockAt m ba r t ≤ 1125899906842624 + 2 * t := by
  obtain ⟨h1, h2⟩ := mul_rate (t - m) r (by omega) h.r0 h.r1
  have := h.b0; have := h.b1
  unfold clockAt
  generalize (t - m) * r = p at *
  omega

theorem ClockOk.later {m ba r t : Int} (h : ClockOk m ba r) (h0 : m ≤ t) (h1 : t ≤ 1125899906842624) {r' : Int} (r0 : -1000000 ≤ r') (r1 : r' ≤ 1000000) : ClockOk t (clockAt m ba r t) r' :=
  ⟨by have := h.m0; omega, h1, r0, r1, (clockAt_bd h h0).1, (clockAt_bd h h0).2⟩
theorem ClockOk.set {m ba r t b : Int} (h : ClockOk m ba r) (h0 : 0 ≤ t) (h1 : t ≤ 1125899906842624) (b0 : -1125899906842624 ≤ b) (b1 : b ≤ 1125899906842624) : ClockOk t b r :=
  ⟨h0, h1, h.r0, h.r1, by omega, by omega⟩
theorem ClockOk.new {m ba r : Int} (hr : realB m = true) (hs : shownB ba = true) (hf : fastB r = true) : ClockOk m ba r := by
  rw [realB_iff] at hr; rw [shownB_iff] at hs; rw [fastB_iff] at hf
  exact ⟨hr.1, hr.2, hf.1, hf.2, by omega, by omega⟩

/-- Block b is a clock. -/
def Clk (w : World) (b : Nat) (m ba r : Int) : Prop := w.heap[b]? = some (.cells #[.int .i64 m, .int .i64 ba, .int .i64 r] 53 (0, 0))

theorem Clk.c0 {w : World} {b : Nat} {m ba r : Int} (h : Clk w b m ba r) : w.cell? ⟨b, 0, none⟩ = some (.int .i64 m) := by unfold Clk at h; simp [World.cell?, h]
theorem Clk.c1 {w : World} {b : Nat} {m ba r : Int} (h : Clk w b m ba r) : w.cell? ⟨b, 1, none⟩ = some (.int .i64 ba) := by unfold Clk at h; simp [World.cell?, h]
theorem Clk.c2 {w : World} {b : Nat} {m ba r : Int} (h : Clk w b m ba r) : w.cell? ⟨b, 2, none⟩ = some (.int .i64 r) := by unfold Clk at h; simp [World.cell?, h]
theorem Clk.f {w : World} {b : Nat} {m ba r : Int} (h : Clk w b m ba r) (i : Nat) : w.frozen? ⟨b, i, none⟩ = false := by unfold Clk at h; simp [World.frozen?, h]
theorem Clk.lt {w : World} {b : Nat} {m ba r : Int} (h : Clk w b m ba r) : b < w.heap.size := lt_of_block h
theorem Clk.kept {w w' : World} {b : Nat} {m ba r : Int} {row : Option Nat} (h : Clk w b m ba r) (hg : w.grownBy w' row) (hr : some b ≠ row) : Clk w' b m ba r := gr_heap hg h hr
theorem Clk.new (w : World) (m ba r : Int) : Clk (w.alloc (.cells #[.int .i64 m, .int .i64 ba, .int .i64 r] 53)) w.heap.size m ba r := by
  unfold Clk; exact heap_alloc_new w _

theorem real_at (t : Int) (b : Bool) (w : World) (hb : Hid (realB t = b)) :
    Calls Try.prog 27 #[.int .i64 t] w fun e w' => e = .returned (.bool b) ∧ w = w' := by
  have h := hb.out
  subst h
  by_cases h0 : 0 ≤ t <;> by_cases h1 : t ≤ 1125899906842624
  all_goals
    have hR : realB t = decide (0 ≤ t ∧ t ≤ 1125899906842624) := rfl
    simp only [h0, h1, and_true, and_false, decide_true, decide_false, and_self] at hR
    rw [hR]
    clear hR hb
    go_enter Try.func27, Try.ntmps27
    go_wp2
    go_ret
    exact ⟨by simp_all, rfl⟩

theorem fast_at (t : Int) (b : Bool) (w : World) (hb : Hid (fastB t = b)) :
    Calls Try.prog 28 #[.int .i64 t] w fun e w' => e = .returned (.bool b) ∧ w = w' := by
  have h := hb.out
  subst h
  by_cases h0 : -1000000 ≤ t <;> by_cases h1 : t ≤ 1000000
  all_goals
    have hR : fastB t = decide (-1000000 ≤ t ∧ t ≤ 1000000) := rfl
    simp only [h0, h1, and_true, and_false, decide_true, decide_false, and_self] at hR
    rw [hR]
    clear hR hb
    go_enter Try.func28, Try.ntmps28
    go_wp2
    go_ret
    exact ⟨by simp_all, rfl⟩

theorem shown_at (t : Int) (b : Bool) (w : World) (hb : Hid (shownB t = b)) :
    Calls Try.prog 29 #[.int .i64 t] w fun e w' => e = .returned (.bool b) ∧ w = w' := by
  have h := hb.out
  subst h
  by_cases h0 : -1125899906842624 ≤ t <;> by_cases h1 : t ≤ 1125899906842624
  all_goals
    have hR : shownB t = decide (-1125899906842624 ≤ t ∧ t ≤ 1125899906842624) := rfl
    simp only [h0, h1, and_true, and_false, decide_true, decide_false, and_self] at hR
    rw [hR]
    clear hR hb
    go_enter Try.func29, Try.ntmps29
    go_wp2
    go_ret
    exact ⟨by simp_all, rfl⟩

end Go.Proofs.Ytfmkjolfpjfhbaa
