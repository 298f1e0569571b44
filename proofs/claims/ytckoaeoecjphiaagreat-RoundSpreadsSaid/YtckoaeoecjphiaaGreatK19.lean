/- Lemmas: tick.MulDiv at the divisor 10^9, where the product is small enough: the floor of the quotient. The clock: what each of its methods does, as plain numbers. The clock's methods: at, New, Now. The clock's methods: Rate, Set, When. round.made: the clocks, if all may be. -/
import Derived.Test.YtckoaeoecjphiaaGreatK18
import Derived.Test.YtckoaeoecjphiaaGreatK01
import Derived.Test.YtckoaeoecjphiaaGreatK06
import Derived.OwnWalk
import Derived.Maps.AppendAt

/- tick.MulDiv at the divisor 10^9, where the product is small enough: the floor of the quotient. -/
namespace Go.Proofs.YtckoaeoecjphiaaGreat
open Go.RowKit Go.Lib

theorem div64_any (P : Int) (w : World) (h0 : 0 ≤ P) (h1 : P < 18446744073709551616000000000) :
    Calls Tryz.prog 151 #[.int .u64 (P / 18446744073709551616), .int .u64 (P % 18446744073709551616), .int .u64 1000000000] w fun e w' => e = .returned (.tuple #[.int .u64 (P / 1000000000), .int .u64 (P % 1000000000)]) ∧ ∃ n, w' = w.drewN n := by
  by_cases hh : P / 18446744073709551616 = 0
  · rw [hh]
    refine (div64_low (P % 18446744073709551616) w (by omega) (by omega)).mono ?_
    rintro e w' ⟨rfl, n, rfl⟩
    refine ⟨?_, n, rfl⟩
    rw [show P % 18446744073709551616 = P from by omega]
  · refine (div64_high (P / 18446744073709551616) (P % 18446744073709551616) w (by omega) (by omega) (by omega) (by omega)).mono ?_
    rintro e w' ⟨rfl, rfl⟩
    refine ⟨?_, 0, rfl⟩
    rw [show P / 18446744073709551616 * 18446744073709551616 + P % 18446744073709551616 = P from by omega]

def ab (n : Int) : Int := n.natAbs
def ng (n : Int) : Bool := decide (n < 0)

theorem size_any (n : Int) (w : World) (h0 : -9223372036854775808 ≤ n) (h1 : n ≤ 9223372036854775807) :
    Calls Tryz.prog 149 #[.int .i64 n] w fun e w' => e = .returned (.tuple #[.int .u64 (ab n), .bool (ng n)]) ∧ w = w' := by
  by_cases hn : n < 0
  · refine (size_neg n w h0 hn).mono ?_
    rintro e w' ⟨rfl, rfl⟩
    have e1 : ab n = -n := by unfold ab; omega
    have e2 : ng n = true := by simp [ng, hn]
    rw [e1, e2]; exact ⟨rfl, rfl⟩
  · refine (size_pos n w (by omega) h1).mono ?_
    rintro e w' ⟨rfl, rfl⟩
    have e1 : ab n = n := by unfold ab; omega
    have e2 : ng n = false := by simp [ng]; omega
    rw [e1, e2]; exact ⟨rfl, rfl⟩

theorem ab_bd (n : Int) (h0 : -9223372036854775808 ≤ n) (h1 : n ≤ 9223372036854775807) : 0 ≤ ab n ∧ ab n < 18446744073709551616 := by unfold ab; omega

theorem mul64_at (x y P hi lo : Int) (w : World) (hx0 : 0 ≤ x) (hx : x < 18446744073709551616) (hy0 : 0 ≤ y) (hy : y < 18446744073709551616) (hP : Hid (x * y = P)) (hh : Hid (hi = P / 18446744073709551616)) (hl : Hid (lo = P % 18446744073709551616)) :
    Calls Tryz.prog 150 #[.int .u64 x, .int .u64 y] w fun e w' => e = .returned (.tuple #[.int .u64 hi, .int .u64 lo]) ∧ w = w' := by
  have h1 := hP.out; have h2 := hh.out; have h3 := hl.out
  subst h1 h2 h3
  exact mul64_int x y w hx0 hx hy0 hy

theorem div64_at (c P hi lo q r : Int) (w : World) (Hc : Hid (c = 1000000000)) (h0 : 0 ≤ P) (h1 : Hid (P < 4611686018427387904000000000)) (hh : Hid (hi = P / 18446744073709551616)) (hl : Hid (lo = P % 18446744073709551616)) (hq : Hid (q = P / 1000000000)) (hr : Hid (r = P % 1000000000)) :
    Calls Tryz.prog 151 #[.int .u64 hi, .int .u64 lo, .int .u64 c] w fun e w' => e = .returned (.tuple #[.int .u64 q, .int .u64 r]) ∧ ∃ n, w' = w.drewN n := by
  have hc := Hc.out; subst hc
  have h2 := hh.out; have h3 := hl.out; have h4 := hq.out; have h5 := hr.out; have h6 := h1.out
  subst h2 h3 h4 h5
  exact div64_any P w h0 (by omega)

set_option maxHeartbeats 400000 in
theorem size_at (n m : Int) (s : Bool) (w : World) (h0 : -9223372036854775808 ≤ n) (h1 : n ≤ 9223372036854775807) (hm : Hid (ab n = m)) (hs : Hid (ng n = s)) :
    Calls Tryz.prog 149 #[.int .i64 n] w fun e w' => e = .returned (.tuple #[.int .u64 m, .bool s]) ∧ w = w' := by
  have h2 := hm.out; have h3 := hs.out
  subst h2 h3
  exact size_any n w h0 h1

/-- What the closure of MulDiv comes to: q is the quotient of the sizes, r the rest. -/
def signedOf (neg : Bool) (q r : Int) : Int := if neg = true then (if r = 0 then -q else -(q + 1)) else q

set_option maxHeartbeats 400000 in
theorem closure_at (a b c x y : Int) (sa sb : Bool) (pa pb pc : Addr) (w : World) (Hc : Hid (c = 1000000000)) (c0 : 0 < c) (c1 : c ≤ 1000000000) (ha : w.cell? pa = some (.int .i64 a)) (hb : w.cell? pb = some (.int .i64 b)) (hc : w.cell? pc = some (.int .i64 c))
    (a0 : -9223372036854775808 ≤ a) (a1 : a ≤ 9223372036854775807) (b0 : -9223372036854775808 ≤ b) (b1 : b ≤ 9223372036854775807)
    (hx : Hid (ab a = x)) (hsa : Hid (ng a = sa)) (hy : Hid (ab b = y)) (hsb : Hid (ng b = sb))
    (P hi lo q r : Int) (hP : Hid (x * y = P)) (p0 : 0 ≤ P) (p1 : Hid (P < 4611686018427387904000000000)) (hh : Hid (hi = P / 18446744073709551616)) (hl : Hid (lo = P % 18446744073709551616)) (hq : Hid (q = P / 1000000000)) (hr : Hid (r = P % 1000000000))
    (hi1 : hi < c) (q0 : 0 ≤ q) (q1 : q < 4611686018427387904) :
    Calls Tryz.prog 148 #[.pointer (some pa), .pointer (some pb), .pointer (some pc)] w fun e w' => e = .returned (.int .i64 (signedOf (sa != sb) q r)) ∧ ∃ n, w' = w.drewN n := by
  have hX : Hid (0 ≤ x ∧ x < 18446744073709551616 ∧ 0 ≤ y ∧ y < 18446744073709551616) := by
    have h1 := hx.out; have h2 := hy.out; have h3 := ab_bd a a0 a1; have h4 := ab_bd b b0 b1; subst h1 h2; exact ⟨h3.1, h3.2, h4.1, h4.2⟩
  cases sa <;> cases sb
  all_goals
    go_enter Tryz.func148, Tryz.ntmps148
    go_wp2_with fail
    refine (size_at a x _ _ a0 a1 hx hsa).mono ?_
    rintro e w' ⟨rfl, rfl⟩
    go_wp2_with fail
    refine (size_at b y _ _ b0 b1 hy hsb).mono ?_
    rintro e w' ⟨rfl, rfl⟩
    go_wp2_with fail
    refine (mul64_at x y P hi lo _ hX.out.1 hX.out.2.1 hX.out.2.2.1 hX.out.2.2.2 hP hh hl).mono ?_
    rintro e w' ⟨rfl, rfl⟩
    go_wp2_with fail
    refine (div64_at c P hi lo q r _ Hc p0 p1 hh hl hq hr).mono ?_
    rintro e w' ⟨rfl, n, rfl⟩
    go_wp2_with fail
  all_goals
    first
    | (have hr0 : (r != 0) = true := by assumption
       refine (signed_neg (q + 1) _ (by omega) (by omega)).mono ?_
       rintro e w' ⟨rfl, rfl⟩
       go_wp2_with fail
       go_ret
       have hr1 : ¬ r = 0 := by simpa using hr0
       refine ⟨?_, n, rfl⟩
       simp [signedOf, hr1])
    | (have hr0 : (r != 0) = false := by assumption
       refine (signed_neg q _ q0 (by omega)).mono ?_
       rintro e w' ⟨rfl, rfl⟩
       go_wp2_with fail
       go_ret
       have hr1 : r = 0 := by simpa using hr0
       refine ⟨?_, n, rfl⟩
       simp [signedOf, hr1])
    | (refine (signed_pos q _ q0 (by omega)).mono ?_
       rintro e w' ⟨rfl, rfl⟩
       go_wp2_with fail
       go_ret
       exact ⟨rfl, n, rfl⟩)

/-- Over the numbers: the floor. -/
theorem closure_floor (a b : Int) (pa pb pc : Addr) (w : World) (ha : w.cell? pa = some (.int .i64 a)) (hb : w.cell? pb = some (.int .i64 b)) (hc : w.cell? pc = some (.int .i64 1000000000))
    (a0 : -9223372036854775808 ≤ a) (a1 : a ≤ 9223372036854775807) (b0 : -9223372036854775808 ≤ b) (b1 : b ≤ 9223372036854775807)
    (h0 : -4611686018427387904000000000 < a * b) (h1 : a * b < 4611686018427387904000000000) :
    Calls Tryz.prog 148 #[.pointer (some pa), .pointer (some pb), .pointer (some pc)] w fun e w' => e = .returned (.int .i64 (a * b / 1000000000)) ∧ ∃ n, w' = w.drewN n := by
  have hP : ab a * ab b = ((a * b).natAbs : Int) := by unfold ab; rw [Int.natAbs_mul]; simp
  have hsig : signedOf (ng a != ng b) (ab a * ab b / 1000000000) (ab a * ab b % 1000000000) = a * b / 1000000000 := by
    rw [hP]
    have hng : (ng a != ng b) = true → a * b ≤ 0 := by
      intro h
      unfold ng at h
      by_cases h2 : a < 0 <;> by_cases h3 : b < 0 <;> simp [h2, h3] at h
      · exact Int.mul_nonpos_of_nonpos_of_nonneg (by omega) (by omega)
      · exact Int.mul_nonpos_of_nonneg_of_nonpos (by omega) (by omega)
    have hps : (ng a != ng b) = false → 0 ≤ a * b := by
      intro h
      unfold ng at h
      by_cases h2 : a < 0 <;> by_cases h3 : b < 0 <;> simp [h2, h3] at h
      · exact Int.mul_nonneg_of_nonpos_of_nonpos (by omega) (by omega)
      · exact Int.mul_nonneg (by omega) (by omega)
    generalize a * b = p at *
    unfold signedOf
    cases hs : (ng a != ng b)
    · have := hps hs
      rw [if_neg (by simp)]; omega
    · have := hng hs
      rw [if_pos rfl]
      split <;> omega
  rw [← hsig]
  refine closure_at a b 1000000000 (ab a) (ab b) (ng a) (ng b) pa pb pc w (hid rfl) (by omega) (by omega) ha hb hc a0 a1 b0 b1 (hid rfl) (hid rfl) (hid rfl) (hid rfl) (ab a * ab b) (ab a * ab b / 18446744073709551616) (ab a * ab b % 18446744073709551616) _ _ (hid rfl) ?_ (hid ?_) (hid rfl) (hid rfl) (hid rfl) (hid rfl) ?_ ?_ ?_
  all_goals rw [hP]; omega

/-- What 'checked' defers, where no panic is under way. -/
theorem caught_idle (p q : Addr) (w : World) :
    CallsD Tryz.prog 162 #[.pointer (some p), .pointer (some q)] .returning w fun e u' w' => e = .returned (.tuple #[]) ∧ u' = .returning ∧ w' = w := by
  refine callsD_of_wpS Tryz.func162 rfl fun c₀ cs hu => ?_
  apply wpS_seq
  apply wpS_region
  simp [wpOpsS, go_sem, recoverD, hu, Tryz.ntmps162, Exit.thenS]
  apply wpS_seq
  apply wpS_region
  simp [wpOpsS, go_sem, Exit.thenS]
  refine wpS_cond (t := false) (by simp [Act.eval, Array.replicate]) ?_
  simp only [Bool.false_eq_true, if_false]
  refine wpS_of_wp (wp_skip ?_)
  cases c₀
  simp_all [bodyPostS, results, Tryz.results162]

theorem cell_past2 {w : World} {p : Addr} {v : Value} (h : w.cell? p = some v) {o1 o2 : Obj} : ((w.alloc o1).alloc o2).cell? p = some v := by
  have hb := World.block_lt_of_cell? w p h
  have b : Below w.heap.size w ((w.alloc o1).alloc o2) := ((Below.refl _ w).alloc (Nat.le_refl _) o1).alloc (by simp) o2
  rw [b.cell hb, h]

/-- 'checked' around MulDiv's closure. -/
theorem checked_floor (a b : Int) (pa pb pc : Addr) (w : World) (ha : w.cell? pa = some (.int .i64 a)) (hb : w.cell? pb = some (.int .i64 b)) (hc : w.cell? pc = some (.int .i64 1000000000))
    (a0 : -9223372036854775808 ≤ a) (a1 : a ≤ 9223372036854775807) (b0 : -9223372036854775808 ≤ b) (b1 : b ≤ 9223372036854775807)
    (h0 : -4611686018427387904000000000 < a * b) (h1 : a * b < 4611686018427387904000000000) :
    Calls Tryz.prog 147 #[.func (.func 148) #[] #[.pointer (some pa), .pointer (some pb), .pointer (some pc)]] w fun e w' => e = .returned (.tuple #[.int .i64 (a * b / 1000000000), .int .i64 0]) ∧ w.grownBy w' none := by
  have hmf : ∀ (fn : Fn) (first cap : Array Value) (w : World), (Instr.makeFunc fn first cap).run Tryz.prog w = .ok (.func fn first cap) w := fun _ _ _ _ => rfl
  have H0 := Lib.hid h0; have H1 := Lib.hid h1; clear h0 h1
  have hA : ((w.alloc (.cells #[.int .i64 0] 2)).alloc (.cells #[.int .i64 0] 39)).cell? pa = some (.int .i64 a) := cell_past2 ha
  have hB : ((w.alloc (.cells #[.int .i64 0] 2)).alloc (.cells #[.int .i64 0] 39)).cell? pb = some (.int .i64 b) := cell_past2 hb
  have hC : ((w.alloc (.cells #[.int .i64 0] 2)).alloc (.cells #[.int .i64 0] 39)).cell? pc = some (.int .i64 1000000000) := cell_past2 hc
  go_enter_defers Tryz.func147, Tryz.ntmps147
  go_wp2_with fail
  refine (closure_floor a b pa pb pc _ hA hB hC a0 a1 b0 b1 H0.out H1.out).mono ?_
  clear hA hB hC
  rintro e w' ⟨rfl, n, rfl⟩
  go_wp2_with fail
  refine leaves_cons (f := 162) (args := #[.pointer (some ⟨w.heap.size, 0, none⟩), .pointer (some ⟨w.heap.size + 1, 0, none⟩)]) (by simp) (by simp [go_sem]) ?_
  refine (caught_idle ⟨w.heap.size, 0, none⟩ ⟨w.heap.size + 1, 0, none⟩ _).mono ?_
  rintro e u' w'' ⟨rfl, rfl, rfl⟩
  have hg : w.grownBy (((((w.alloc (.cells #[.int .i64 0] 2)).alloc (.cells #[.int .i64 0] 39)).drewN n).setCell ⟨w.heap.size, 0, none⟩ (.int .i64 (a * b / 1000000000))).setCell ⟨w.heap.size + 1, 0, none⟩ (.int .i64 0)) none :=
    gr_set (gr_set (gr_drewN (gr_alloc (gr_alloc (gr_refl w none) _) _) n) (.inl (by simp)) _) (.inl (by simp)) _
  simp [Leaves, settle, results, Tryz.results147, go_sem, hg]

/-- MulDiv at the divisor 10^9. -/
theorem muldiv_floor (a b : Int) (w : World)
    (a0 : -9223372036854775808 ≤ a) (a1 : a ≤ 9223372036854775807) (b0 : -9223372036854775808 ≤ b) (b1 : b ≤ 9223372036854775807)
    (h0 : -4611686018427387904000000000 < a * b) (h1 : a * b < 4611686018427387904000000000) :
    Calls Tryz.prog 127 #[.int .i64 a, .int .i64 b, .int .i64 1000000000] w fun e w' => e = .returned (.tuple #[.int .i64 (a * b / 1000000000), .int .i64 0]) ∧ w.grownBy w' none := by
  have hmf : ∀ (fn : Fn) (first cap : Array Value) (w : World), (Instr.makeFunc fn first cap).run Tryz.prog w = .ok (.func fn first cap) w := fun _ _ _ _ => rfl
  have H0 := Lib.hid h0; have H1 := Lib.hid h1; clear h0 h1
  go_enter Tryz.func127, Tryz.ntmps127
  go_wp2_with fail
  refine (checked_floor a b _ _ _ _ (by simp [go_sem]) (by simp [go_sem]) (by simp [go_sem]) a0 a1 b0 b1 H0.out H1.out).mono ?_
  rintro e w' ⟨rfl, hg⟩
  go_wp2_with fail
  go_ret2
  exact ⟨rfl, gr_trans (gr_alloc (gr_alloc (gr_alloc (gr_refl w none) _) _) _) hg⟩
end Go.Proofs.YtckoaeoecjphiaaGreat

/- The clock: what each of its methods does, as plain numbers. -/
namespace Go.Proofs.YtckoaeoecjphiaaGreat
open Go.RowKit Go.Lib

def realB (t : Int) : Bool := decide (0 ≤ t ∧ t ≤ 1125899906842624)
def fastB (r : Int) : Bool := decide (-1000000 ≤ r ∧ r ≤ 1000000)
def shownB (n : Int) : Bool := decide (-1125899906842624 ≤ n ∧ n ≤ 1125899906842624)
theorem realB_iff {t : Int} : realB t = true ↔ 0 ≤ t ∧ t ≤ 1125899906842624 := by simp [realB]
theorem fastB_iff {t : Int} : fastB t = true ↔ -1000000 ≤ t ∧ t ≤ 1000000 := by simp [fastB]
theorem shownB_iff {t : Int} : shownB t = true ↔ -1125899906842624 ≤ t ∧ t ≤ 1125899906842624 := by simp [shownB]

/-- What a clock shows. -/
def clockAt (m ba r t : Int) : Int := ba + (t - m) + (t - m) * r / 1000000000

/-- Mark, base and rate as they may come to be. -/
structure ClockOk (m ba r : Int) : Prop where
  m0 : 0 ≤ m
  m1 : m ≤ 1125899906842624
  r0 : -1000000 ≤ r
  r1 : r ≤ 1000000
  b0 : -(1125899906842624 + 2 * m) ≤ ba
  b1 : ba ≤ 1125899906842624 + 2 * m

theorem mul_rate (d r : Int) (h0 : 0 ≤ d) (r0 : -1000000 ≤ r) (r1 : r ≤ 1000000) : -(d * 1000000) ≤ d * r ∧ d * r ≤ d * 1000000 := by
  constructor
  · have := Int.mul_le_mul_of_nonneg_left r0 h0; omega
  · exact Int.mul_le_mul_of_nonneg_left r1 h0

theorem clockAt_bd {m ba r t : Int} (h : ClockOk m ba r) (h0 : m ≤ t) : -(1125899906842624 + 2 * t) ≤ clockAt m ba r t ∧ clockAt m ba r t ≤ 1125899906842624 + 2 * t := by
  obtain ⟨h1, h2⟩ := mul_rate (t - m) r (by omega) h.r0 h.r1
  have := h.b0; have := h.b1
  unfold clockAt
  generalize (t - m) * r = p at *
  omega

theorem ClockOk.later {m ba r t : Int} (h : ClockOk m ba r) (h0 : m ≤ t) (h1 : t ≤ 1125899906842624) {r' : Int} (r0 : -1000000 ≤ r') (r1 : r' ≤ 1000000) : ClockOk t (clockAt m ba r t) r' :=
  ⟨by have := h.m0; omega, h1, r0, r1, (clockAt_bd h h0).1, (clockAt_bd h h0).2⟩
theorem ClockOk.set {m ba r t b : Int} (h : ClockOk m ba r) (h0 : 0 ≤ t) (h1 : t ≤ 1125899906842624) (b0 : -1125899906842624 ≤ b) (b1 : b ≤ 1125899906842624) : ClockOk t b r :=
  ⟨h0, h1, h.r0, h.r1, by omega, by omega⟩
theorem ClockOk.new {m ba r : Int} (hr : realB m = true) (hs : shownB ba = true) (hf : fastB r = true) : ClockOk m ba r := by
  rw [realB_iff] at hr; rw [shownB_iff] at hs; rw [fastB_iff] at hf
  exact ⟨hr.1, hr.2, hf.1, hf.2, by omega, by omega⟩

/-- Block b is a clock. -/
def Clk (w : World) (b : Nat) (m ba r : Int) : Prop := w.heap[b]? = some (.cells #[.int .i64 m, .int .i64 ba, .int .i64 r] 143 (0, 0))

theorem Clk.c0 {w : World} {b : Nat} {m ba r : Int} (h : Clk w b m ba r) : w.cell? ⟨b, 0, none⟩ = some (.int .i64 m) := by unfold Clk at h; simp [World.cell?, h]
theorem Clk.c1 {w : World} {b : Nat} {m ba r : Int} (h : Clk w b m ba r) : w.cell? ⟨b, 1, none⟩ = some (.int .i64 ba) := by unfold Clk at h; simp [World.cell?, h]
theorem Clk.c2 {w : World} {b : Nat} {m ba r : Int} (h : Clk w b m ba r) : w.cell? ⟨b, 2, none⟩ = some (.int .i64 r) := by unfold Clk at h; simp [World.cell?, h]
theorem Clk.f {w : World} {b : Nat} {m ba r : Int} (h : Clk w b m ba r) (i : Nat) : w.frozen? ⟨b, i, none⟩ = false := by unfold Clk at h; simp [World.frozen?, h]
theorem Clk.lt {w : World} {b : Nat} {m ba r : Int} (h : Clk w b m ba r) : b < w.heap.size := lt_of_block h
theorem Clk.kept {w w' : World} {b : Nat} {m ba r : Int} {row : Option Nat} (h : Clk w b m ba r) (hg : w.grownBy w' row) (hr : some b ≠ row) : Clk w' b m ba r := gr_heap hg h hr
theorem Clk.new (w : World) (m ba r : Int) : Clk (w.alloc (.cells #[.int .i64 m, .int .i64 ba, .int .i64 r] 143)) w.heap.size m ba r := by
  unfold Clk; exact heap_alloc_new w _

theorem real_at (t : Int) (b : Bool) (w : World) (hb : Hid (realB t = b)) :
    Calls Tryz.prog 100 #[.int .i64 t] w fun e w' => e = .returned (.bool b) ∧ w = w' := by
  have h := hb.out
  subst h
  by_cases h0 : 0 ≤ t <;> by_cases h1 : t ≤ 1125899906842624
  all_goals
    have hR : realB t = decide (0 ≤ t ∧ t ≤ 1125899906842624) := rfl
    simp only [h0, h1, and_true, and_false, decide_true, decide_false, and_self] at hR
    rw [hR]
    clear hR hb
    go_enter Tryz.func100, Tryz.ntmps100
    go_wp2
    go_ret
    exact ⟨by simp_all, rfl⟩

theorem fast_at (t : Int) (b : Bool) (w : World) (hb : Hid (fastB t = b)) :
    Calls Tryz.prog 125 #[.int .i64 t] w fun e w' => e = .returned (.bool b) ∧ w = w' := by
  have h := hb.out
  subst h
  by_cases h0 : -1000000 ≤ t <;> by_cases h1 : t ≤ 1000000
  all_goals
    have hR : fastB t = decide (-1000000 ≤ t ∧ t ≤ 1000000) := rfl
    simp only [h0, h1, and_true, and_false, decide_true, decide_false, and_self] at hR
    rw [hR]
    clear hR hb
    go_enter Tryz.func125, Tryz.ntmps125
    go_wp2
    go_ret
    exact ⟨by simp_all, rfl⟩

theorem shown_at (t : Int) (b : Bool) (w : World) (hb : Hid (shownB t = b)) :
    Calls Tryz.prog 126 #[.int .i64 t] w fun e w' => e = .returned (.bool b) ∧ w = w' := by
  have h := hb.out
  subst h
  by_cases h0 : -1125899906842624 ≤ t <;> by_cases h1 : t ≤ 1125899906842624
  all_goals
    have hR : shownB t = decide (-1125899906842624 ≤ t ∧ t ≤ 1125899906842624) := rfl
    simp only [h0, h1, and_true, and_false, decide_true, decide_false, and_self] at hR
    rw [hR]
    clear hR hb
    go_enter Tryz.func126, Tryz.ntmps126
    go_wp2
    go_ret
    exact ⟨by simp_all, rfl⟩

end Go.Proofs.YtckoaeoecjphiaaGreat

/- The clock's methods: at, New, Now. -/
namespace Go.Proofs.YtckoaeoecjphiaaGreat
open Go.RowKit Go.Lib

theorem at_ok (b : Nat) (m ba r t n : Int) (w : World) (hc : Clk w b m ba r) (ho : ClockOk m ba r) (h0 : m ≤ t) (h1 : t ≤ 1125899906842624) (hn : Hid (clockAt m ba r t = n)) :
    Calls Tryz.prog 74 #[.pointer (some ⟨b, 0, none⟩), .int .i64 t] w fun e w' => e = .returned (.int .i64 n) ∧ w.grownBy w' none := by
  obtain ⟨p0, p1⟩ := mul_rate (t - m) r (by omega) ho.r0 ho.r1
  have hm0 := ho.m0; have hm1 := ho.m1; have hr0 := ho.r0; have hr1 := ho.r1; have hb0 := ho.b0; have hb1 := ho.b1
  have c0 := hc.c0; have c1 := hc.c1; have c2 := hc.c2
  have d0 : 0 ≤ t - m := by omega
  have d1 : t - m ≤ 1125899906842624 := by omega
  have q0 : Hid (-4611686018427387904000000000 < (t - m) * r) := hid (by omega)
  have q1 : Hid ((t - m) * r < 4611686018427387904000000000) := hid (by omega)
  have e0 : -1125899906843 ≤ (t - m) * r / 1000000000 := by omega
  have e1 : (t - m) * r / 1000000000 ≤ 1125899906843 := by omega
  clear p0 p1 ho
  have hN := hn.out
  unfold clockAt at hN
  generalize hq : (t - m) * r / 1000000000 = q at *
  have Hq := hid hq; clear hq
  have HN := hid hN; clear hN
  go_enter Tryz.func74, Tryz.ntmps74
  go_wp2_with fail
  refine (muldiv_floor (t - m) r _ (by omega) (by omega) (by omega) (by omega) q0.out q1.out).mono ?_
  rintro e w' ⟨rfl, hg⟩
  rw [Hq.out]
  have c1' := gr_cell hg c1
  go_wp2_with fail
  go_ret
  exact ⟨by rw [HN.out]; rfl, hg⟩

theorem new_ok (m ba r : Int) (w : World) (hr : Hid (realB m = true)) (hs : Hid (shownB ba = true)) (hf : Hid (fastB r = true)) :
    Calls Tryz.prog 72 #[.int .i64 m, .int .i64 ba, .int .i64 r] w fun e w' => e = .returned (.tuple #[.pointer (some ⟨w.heap.size, 0, none⟩), .int .i64 0]) ∧ Clk w' w.heap.size m ba r ∧ w.grownBy w' none := by
  go_enter Tryz.func72, Tryz.ntmps72
  go_wp2_with (first | (go_at_call 100; refine (real_at m _ _ hr).mono ?_; rintro e w' ⟨rfl, rfl⟩) | (go_at_call 125; refine (fast_at r _ _ hf).mono ?_; rintro e w' ⟨rfl, rfl⟩) | (go_at_call 126; refine (shown_at ba _ _ hs).mono ?_; rintro e w' ⟨rfl, rfl⟩))
  go_ret2
  exact ⟨rfl, Clk.new w m ba r, gr_alloc (gr_refl w none) _⟩

/-- Is it a clock that may be? -/
def newB (m ba r : Int) : Bool := realB m && fastB r && shownB ba

theorem new_bad (m ba r : Int) (w : World) (h : newB m ba r = false) :
    Calls Tryz.prog 72 #[.int .i64 m, .int .i64 ba, .int .i64 r] w fun e w' => e = .returned (.tuple #[.pointer none, .int .i64 1]) ∧ w = w' := by
  have hx : Hid (realB m = realB m) := hid rfl
  have hy : Hid (fastB r = fastB r) := hid rfl
  have hz : Hid (shownB ba = shownB ba) := hid rfl
  unfold newB at h
  generalize hr : realB m = x at *
  generalize hf : fastB r = y at *
  generalize hs : shownB ba = z at *
  have Hr : Hid (realB m = x) := hid hr
  have Hf : Hid (fastB r = y) := hid hf
  have Hs : Hid (shownB ba = z) := hid hs
  clear hr hf hs hx hy hz
  cases x <;> cases y <;> cases z <;> simp at h
  all_goals
    go_enter Tryz.func72, Tryz.ntmps72
    go_wp2_with (first | (go_at_call 100; refine (real_at m _ _ Hr).mono ?_; rintro e w' ⟨rfl, rfl⟩) | (go_at_call 125; refine (fast_at r _ _ Hf).mono ?_; rintro e w' ⟨rfl, rfl⟩) | (go_at_call 126; refine (shown_at ba _ _ Hs).mono ?_; rintro e w' ⟨rfl, rfl⟩))
    go_ret2
    exact ⟨rfl, rfl⟩

/-- May the clock be asked at t? -/
def nowB (m t : Int) : Bool := realB t && decide (m ≤ t)

theorem now_ok (b : Nat) (m ba r t n : Int) (w : World) (hc : Clk w b m ba r) (ho : ClockOk m ba r) (h : nowB m t = true) (hn : Hid (clockAt m ba r t = n)) :
    Calls Tryz.prog 53 #[.pointer (some ⟨b, 0, none⟩), .int .i64 t] w fun e w' => e = .returned (.tuple #[.int .i64 n, .int .i64 0]) ∧ w.grownBy w' none := by
  have h' : realB t = true ∧ m ≤ t := by simpa [nowB] using h
  obtain ⟨hr, hmt⟩ := h'
  clear h
  have hr' := realB_iff.1 hr
  obtain ⟨t0, t1⟩ := hr'
  have Hr := hid hr; clear hr
  have c0 := hc.c0
  go_enter Tryz.func53, Tryz.ntmps53
  go_wp2_with (first | (go_at_call 100; refine (real_at t _ _ Hr).mono ?_; rintro e w' ⟨rfl, rfl⟩) | (go_at_call 74; refine (at_ok b m ba r t n _ hc ho hmt t1 hn).mono ?_; rintro e w' ⟨rfl, hg⟩))
  go_ret2
  exact ⟨rfl, hg⟩

theorem now_bad (b : Nat) (m ba r t : Int) (w : World) (hc : Clk w b m ba r) (h : nowB m t = false) :
    Calls Tryz.prog 53 #[.pointer (some ⟨b, 0, none⟩), .int .i64 t] w fun e w' => e = .returned (.tuple #[.int .i64 0, .int .i64 1]) ∧ w = w' := by
  have c0 := hc.c0
  unfold nowB at h
  generalize hr : realB t = x at *
  have Hr := hid hr; clear hr
  cases x
  · clear h
    go_enter Tryz.func53, Tryz.ntmps53
    go_wp2_with (first | (go_at_call 100; refine (real_at t _ _ Hr).mono ?_; rintro e w' ⟨rfl, rfl⟩))
    go_ret2
    exact ⟨rfl, rfl⟩
  · have h2 : t < m := by simpa using h
    clear h
    go_enter Tryz.func53, Tryz.ntmps53
    go_wp2_with (first | (go_at_call 100; refine (real_at t _ _ Hr).mono ?_; rintro e w' ⟨rfl, rfl⟩))
    go_ret2
    exact ⟨rfl, rfl⟩

theorem now_nil (t : Int) (w : World) :
    Calls Tryz.prog 53 #[.pointer none, .int .i64 t] w fun e w' => e = .returned (.tuple #[.int .i64 0, .int .i64 1]) ∧ w = w' := by
  go_enter Tryz.func53, Tryz.ntmps53
  go_wp2_with fail
  go_ret2
  exact ⟨rfl, rfl⟩

theorem mark_ok (b : Nat) (m ba r : Int) (w : World) (hc : Clk w b m ba r) :
    Calls Tryz.prog 38 #[.pointer (some ⟨b, 0, none⟩)] w fun e w' => e = .returned (.tuple #[.int .i64 m, .int .i64 ba, .int .i64 r]) ∧ w.grownBy w' none := by
  have c0 := hc.c0; have c1 := hc.c1; have c2 := hc.c2
  go_enter Tryz.func38, Tryz.ntmps38
  go_wp2
  go_quiet (fail)
  go_wp2
  go_ret3
  exact ⟨rfl, gr_drewN (gr_refl w none) _⟩

theorem mark_nil (w : World) :
    Calls Tryz.prog 38 #[.pointer none] w fun e w' => e = .returned (.tuple #[.int .i64 0, .int .i64 0, .int .i64 0]) ∧ w = w' := by
  go_enter Tryz.func38, Tryz.ntmps38
  go_wp2
  go_ret3
  exact ⟨rfl, rfl⟩
end Go.Proofs.YtckoaeoecjphiaaGreat

/- The clock's methods: Rate, Set, When. -/
namespace Go.Proofs.YtckoaeoecjphiaaGreat
open Go.RowKit Go.Lib

theorem Clk.set3 {w w' : World} {b : Nat} {m ba r m' b' r' : Int} (hc : Clk w b m ba r) (hg : w.grownBy w' none) :
    Clk (((w'.setCell ⟨b, 0, none⟩ (.int .i64 m')).setCell ⟨b, 1, none⟩ (.int .i64 b')).setCell ⟨b, 2, none⟩ (.int .i64 r')) b m' b' r' := by
  have h := hc.kept hg (by simp)
  unfold Clk at *
  have hl := lt_of_block h
  simp only [World.setCell, Array.getElem?_modify, if_true, h, Option.map_some]
  rfl
theorem Clk.set2 {w w' : World} {b : Nat} {m ba r m' b' : Int} (hc : Clk w b m ba r) (hg : w.grownBy w' none) :
    Clk ((w'.setCell ⟨b, 0, none⟩ (.int .i64 m')).setCell ⟨b, 1, none⟩ (.int .i64 b')) b m' b' r := by
  have h := hc.kept hg (by simp)
  unfold Clk at *
  have hl := lt_of_block h
  simp only [World.setCell, Array.getElem?_modify, if_true, h, Option.map_some]
  rfl

theorem gr_set3 {w w' : World} {b : Nat} (hg : w.grownBy w' none) (u v x : Value) : w.grownBy (((w'.setCell ⟨b, 0, none⟩ u).setCell ⟨b, 1, none⟩ v).setCell ⟨b, 2, none⟩ x) (some b) :=
  gr_setRow (gr_setRow (gr_setRow (gr_none hg) 0 u) 1 v) 2 x
theorem gr_set2 {w w' : World} {b : Nat} (hg : w.grownBy w' none) (u v : Value) : w.grownBy ((w'.setCell ⟨b, 0, none⟩ u).setCell ⟨b, 1, none⟩ v) (some b) :=
  gr_setRow (gr_setRow (gr_none hg) 0 u) 1 v

theorem set_ok (b : Nat) (m ba r t b' : Int) (w : World) (hc : Clk w b m ba r) (h : nowB m t = true) (hs : shownB b' = true) :
    Calls Tryz.prog 87 #[.pointer (some ⟨b, 0, none⟩), .int .i64 t, .int .i64 b'] w fun e w' => e = .returned (.int .i64 0) ∧ Clk w' b t b' r ∧ w.grownBy w' (some b) := by
  have h' : realB t = true ∧ m ≤ t := by simpa [nowB] using h
  obtain ⟨hr, hmt⟩ := h'
  clear h
  have Hr := hid hr; clear hr
  have Hs := hid hs; clear hs
  have c0 := hc.c0
  have c1 := hc.c1
  have f0 := hc.f 0
  have f1 := hc.f 1
  go_enter Tryz.func87, Tryz.ntmps87
  go_wp2_with (first | (go_at_call 100; refine (real_at t _ _ Hr).mono ?_; rintro e w' ⟨rfl, rfl⟩) | (go_at_call 126; refine (shown_at b' _ _ Hs).mono ?_; rintro e w' ⟨rfl, rfl⟩))
  go_ret
  refine ⟨rfl, ?_, ?_⟩
  · exact Clk.set2 hc (gr_refl w none)
  · exact gr_set2 (gr_refl w none) _ _

theorem set_bad (b : Nat) (m ba r t b' : Int) (w : World) (hc : Clk w b m ba r) (h : (nowB m t && shownB b') = false) :
    Calls Tryz.prog 87 #[.pointer (some ⟨b, 0, none⟩), .int .i64 t, .int .i64 b'] w fun e w' => e = .returned (.int .i64 1) ∧ w = w' := by
  have c0 := hc.c0
  unfold nowB at h
  generalize hr : realB t = x at *
  generalize hf : shownB b' = y at *
  have Hr := hid hr; clear hr
  have Hf := hid hf; clear hf
  by_cases hmt : m ≤ t
  · cases x <;> cases y <;> simp [hmt] at h
    all_goals
      go_enter Tryz.func87, Tryz.ntmps87
      go_wp2_with (first | (go_at_call 100; refine (real_at t _ _ Hr).mono ?_; rintro e w' ⟨rfl, rfl⟩) | (go_at_call 126; refine (shown_at b' _ _ Hf).mono ?_; rintro e w' ⟨rfl, rfl⟩))
      go_ret
      exact ⟨rfl, rfl⟩
  · clear h
    have hmt' : t < m := by omega
    clear hmt
    cases x <;> cases y
    all_goals
      go_enter Tryz.func87, Tryz.ntmps87
      go_wp2_with (first | (go_at_call 100; refine (real_at t _ _ Hr).mono ?_; rintro e w' ⟨rfl, rfl⟩) | (go_at_call 126; refine (shown_at b' _ _ Hf).mono ?_; rintro e w' ⟨rfl, rfl⟩))
      go_ret
      exact ⟨rfl, rfl⟩

theorem set_nil (t b' : Int) (w : World) :
    Calls Tryz.prog 87 #[.pointer none, .int .i64 t, .int .i64 b'] w fun e w' => e = .returned (.int .i64 1) ∧ w = w' := by
  go_enter Tryz.func87, Tryz.ntmps87
  go_wp2_with fail
  go_ret
  exact ⟨rfl, rfl⟩

end Go.Proofs.YtckoaeoecjphiaaGreat

/- round.made: the clocks, if all may be. -/
namespace Go.Proofs.YtckoaeoecjphiaaGreat
open Go.RowKit Go.Lib

/-- A clock as data. -/
structure Ck where
  m : Int
  b : Int
  r : Int
def nthC (l : List Ck) (j : Nat) : Ck := l[j]?.getD ⟨0, 0, 0⟩
theorem nthC_mem {l : List Ck} {j : Nat} (h : j < l.length) : nthC l j ∈ l := by unfold nthC; rw [List.getElem?_eq_getElem h]; exact List.getElem_mem h
def ckF (l : List Ck) (j i : Nat) : Value := match i with
  | 0 => .int .i64 (nthC l j).m
  | 1 => .int .i64 (nthC l j).b
  | _ => .int .i64 (nthC l j).r
abbrev CksAt (n₀ : Nat) (w : World) (sv : Value) (l : List Ck) : Prop := SliceAt n₀ w sv 3 l.length (ckF l)
def newC (k : Ck) : Bool := newB k.m k.b k.r

/-- The pointers and their clocks. -/
structure Ptrs (base : Nat) (W : World) (v : Value) (n : Nat) (ps : Nat → Nat) (l : Nat → Ck) : Prop where
  row : W.ownsRow base 83 1 v n ((List.range n).map fun j => Value.pointer (some ⟨ps j, 0, none⟩))
  clk : ∀ j, j < n → Clk W (ps j) (l j).m (l j).b (l j).r
  lo : ∀ j, j < n → base ≤ ps j
  own : ∀ j, j < n → v.ownBlock ≠ some (ps j)
  inj : ∀ i j, i < j → j < n → ps i ≠ ps j

theorem Ptrs.grown {base : Nat} {W W' : World} {v : Value} {n : Nat} {ps : Nat → Nat} {l : Nat → Ck} (h : Ptrs base W v n ps l) (g : W.grownBy W' none) : Ptrs base W' v n ps l :=
  ⟨h.row.kept g (by cases v.ownBlock <;> simp), fun j hj => (h.clk j hj).kept g (by simp), h.lo, h.own, h.inj⟩

theorem Ptrs.step {base : Nat} {W2 W4 : World} {v v2 : Value} {k p : Nat} {ps : Nat → Nat} {l : Nat → Ck} {o : Obj} (h : Ptrs base W2 v k ps l)
    (hown : W4.ownsRow base 83 1 v2 (k + 1) (((List.range k).map fun j => Value.pointer (some ⟨ps j, 0, none⟩)) ++ [.pointer (some ⟨p, 0, none⟩)]))
    (hg : (W2.alloc o).grownBy W4 v.ownBlock) (hat : v2.ownBlock = v.ownBlock ∨ v2.ownBlock = some (W2.alloc o).heap.size)
    (hc : Clk W2 p (l k).m (l k).b (l k).r) (hp : ∀ j, j < k → ps j ≠ p) (hpv : v.ownBlock ≠ some p) (hb : base ≤ p) : Ptrs base W4 v2 (k + 1) (fun j => if j = k then p else ps j) l := by
  have ga := gr_alloc (gr_refl W2 none) o
  have hlt : ∀ q, q < W2.heap.size → v.ownBlock ≠ some q → v2.ownBlock ≠ some q := by
    intro q hq hn e
    rcases hat with h1 | h1
    · rw [h1] at e; exact hn e
    · rw [h1] at e; simp at e; omega
  refine ⟨?_, ?_, ?_, ?_, ?_⟩
  · have e : ((List.range (k + 1)).map fun j => Value.pointer (some ⟨if j = k then p else ps j, 0, none⟩)) = ((List.range k).map fun j => Value.pointer (some ⟨ps j, 0, none⟩)) ++ [.pointer (some ⟨p, 0, none⟩)] := by
      rw [List.range_succ, List.map_append]
      congr 1
      · apply List.map_congr_left
        intro j hj
        rw [if_neg (by have := List.mem_range.1 hj; omega)]
      · simp
    rw [e]
    exact hown
  · intro j hj
    by_cases hjk : j = k
    · subst hjk
      rw [if_pos rfl]
      exact (hc.kept ga (by simp)).kept hg (fun e => hpv e.symm)
    · rw [if_neg hjk]
      exact ((h.clk j (by omega)).kept ga (by simp)).kept hg (fun e => h.own j (by omega) e.symm)
  · intro j hj
    by_cases hjk : j = k
    · rw [if_pos hjk]; exact hb
    · rw [if_neg hjk]; exact h.lo j (by omega)
  · intro j hj
    by_cases hjk : j = k
    · rw [if_pos hjk]; exact hlt p hc.lt hpv
    · rw [if_neg hjk]; exact hlt _ (h.clk j (by omega)).lt (h.own j (by omega))
  · intro i j hij hj
    rw [if_neg (show ¬ i = k by omega)]
    by_cases hjk : j = k
    · rw [if_pos hjk]; exact hp i (by omega)
    · rw [if_neg hjk]; exact h.inj i j hij (by omega)

theorem cell_one_new' (w : World) (v : Value) (t : TypeId) : ∀ j u, [v][j]? = some u → (w.alloc (.cells #[v] t)).cell? ((⟨w.heap.size, 0, none⟩ : Addr).add j) = some u := by
  intro j u h
  cases j with
  | zero =>
    simp at h
    subst h
    have e : (⟨w.heap.size, 0, none⟩ : Addr).add 0 = ⟨w.heap.size, 0, none⟩ := rfl
    rw [e, World.cell?_alloc_new]
    rfl
  | succ j => simp at h
/-- Behind an append onto the call's own row. -/
theorem gr_ownr {a b c : World} {row : Option Nat} (h : a.grownBy b none) (g : b.grownBy c row) (hr : ∀ q, row = some q → a.heap.size ≤ q) : a.grownBy c none := by
  cases row with
  | none => exact gr_trans h g
  | some k => exact gr_own h g (hr k rfl)
theorem Tryz.info_ptr : (Tryz.prog.info? 83).map (fun i => (i.zero, i.size, i.bytes)) = some (some (.pointer none), 1, 8) := by kernel_rfl

set_option maxHeartbeats 1000000 in
theorem made_ok (sv : Value) (l : List Ck) (w : World) (hs : CksAt w.heap.size w sv l) (hz : l.length * 24 ≤ 140737488351232) (hg : ∀ k ∈ l, newC k = true) :
    Calls Tryz.prog 25 #[sv] w fun e w' => ∃ v ps, e = .returned (.tuple #[v, .bool true]) ∧ Ptrs w.heap.size w' v l.length ps (nthC l) ∧ w.grownBy w' none := by
  obtain ⟨i0, hi, hz0, hz1, hz2⟩ : ∃ i0, Tryz.prog.info? 83 = some i0 ∧ i0.zero = some (.pointer none) ∧ i0.size = 1 ∧ i0.bytes = 8 := by
    have h := Tryz.info_ptr
    cases hh : Tryz.prog.info? 83 with
    | none => rw [hh] at h; simp at h
    | some i0 => rw [hh] at h; simp at h; exact ⟨i0, rfl, h.1, h.2.1, h.2.2⟩
  have HI := hid (And.intro hi (And.intro hz0 (And.intro hz1 hz2)))
  clear hi hz0 hz1 hz2
  have HG : Hid (∀ k, k < l.length → newC (nthC l k) = true) := hid (fun k hk => hg _ (nthC_mem hk))
  clear hg
  obtain ⟨n, hn⟩ : ∃ n, Hid (l.length = n) := ⟨_, hid rfl⟩
  unfold CksAt at hs
  rw [hn.out] at hs hz HG ⊢
  have HS := hid hs
  obtain ⟨a, cap, hsv⟩ : ∃ a cap, Hid (sv = .slice a n cap) := by
    rcases hs with ⟨a, cap, rfl, h0⟩ | ⟨b, off, cap, rfl, _⟩
    · exact ⟨a, cap, hid (by rw [h0])⟩
    · exact ⟨_, cap, hid rfl⟩
  rw [hsv.out] at HS ⊢
  clear hs hsv
  have HB : Hid (∀ k, k < n → ∃ b off, a = some ⟨b, off, none⟩ ∧ ∀ wr : World, w.grownBy wr none → wr.cell? ⟨b, off + k * 3, none⟩ = some (.int .i64 (nthC l k).m) ∧ wr.cell? ⟨b, off + k * 3 + 1, none⟩ = some (.int .i64 (nthC l k).b) ∧ wr.cell? ⟨b, off + k * 3 + 2, none⟩ = some (.int .i64 (nthC l k).r)) := hid (fun k hk => by
    rcases HS.out with ⟨_, _, e, h0⟩ | ⟨b, off, cap', e, _, _, hf⟩
    · exfalso; omega
    · simp only [Value.slice.injEq] at e
      exact ⟨b, off, e.1, fun wr g => ⟨gr_cell g (hf k hk 0 (by omega)), gr_cell g (hf k hk 1 (by omega)), gr_cell g (hf k hk 2 (by omega))⟩⟩)
  clear HS
  go_enter Tryz.func25, Tryz.ntmps25
  go_wp2_with fail
  go_loopw [4, 11] (fun v i wr => ∃ (k : Nat) (ps : Nat → Nat), k ≤ n ∧ i = .int .i64 k ∧ Hid (Ptrs w.heap.size wr v k ps (nthC l)) ∧ Hid (w.grownBy wr none)) (fun _ i _ => n - (intOf i).toNat)
  case atStart => exact ⟨0, fun _ => 0, Nat.zero_le _, rfl, hid ⟨World.ownsRow_nil _ _ _ _, fun j hj => absurd hj (Nat.not_lt_zero _), fun j hj => absurd hj (Nat.not_lt_zero _), fun j hj => absurd hj (Nat.not_lt_zero _), fun i j _ hj => absurd hj (Nat.not_lt_zero _)⟩, hid (gr_refl w none)⟩
  case round =>
    obtain ⟨k, ps, hk, rfl, HP, G⟩ := hrel
    by_cases hlt : k < n
    · obtain ⟨b, off, rfl, hq⟩ := HB.out k hlt
      obtain ⟨q0, q1, q2⟩ := hq wr G.out
      have hnew := HG.out k hlt
      obtain ⟨x, hx⟩ : ∃ x, Hid (nthC l k = x) := ⟨_, hid rfl⟩
      rw [hx.out] at q0 q1 q2 hnew
      have hk2 : (k : Int) < n := by omega
      have hk0 : (0 : Int) ≤ (k : Int) := by omega
      obtain ⟨x0, x1, x2⟩ := x
      dsimp only at *
      have hnp : (realB x0 = true ∧ fastB x2 = true) ∧ shownB x1 = true := by simpa [newC, newB] using hnew
      have Hr := hid hnp.1.1; have Hf := hid hnp.1.2; have Hs := hid hnp.2
      clear hnew hnp hq
      go_wp2_with fail
      refine (new_ok x0 x1 x2 _ Hr Hs Hf).mono ?_
      rintro e w2 ⟨rfl, hc, g2⟩
      have G2 := hid (bx_gr g2)
      have HC := hid hc
      obtain ⟨p, hp⟩ : ∃ p, Hid ((wr.alloc (.cells #[.int .i64 x0, .int .i64 x1, .int .i64 x2] 54)).heap.size = p) := ⟨_, hid rfl⟩
      rw [hp.out] at HC
      have hpw : wr.heap.size < p := by rw [← hp.out]; simp
      have HP2 := hid (HP.out.grown G2.out)
      obtain ⟨hi, hz0, hz1, hz2⟩ := HI.out
      rw [hp.out]
      clear q0 q1 q2 hc g2
      go_wp2_with (at_builtin; refine wpList_append_own_at _ rfl (.tmp 27) (.tmp 29) 77 rfl w.heap.size 83 i0 (.pointer none) 1 8 Tryz.underlying77 hi hz0 hz1 hz2 rfl (by decide) _ _ _ rfl (HP2.out.row.alloc _) ⟨w2.heap.size, 0, none⟩ 1 1 [.pointer (some ⟨p, 0, none⟩)] rfl rfl (cell_one_new' _ _ _) (by simp [Value.oneCell']) (by unfold maxLen; omega) (by omega) (by have := G.out.size; have := G2.out.size; simp; omega) ?_; intro v2 w4 hown4 hg4 _ hat4)
      have hg5 : (w2.alloc (.cells #[.pointer (some ⟨p, 0, none⟩)] 83)).grownBy w4 u4.ownBlock := hg4
      have hat5 : v2.ownBlock = u4.ownBlock ∨ v2.ownBlock = some (w2.alloc (.cells #[.pointer (some ⟨p, 0, none⟩)] 83)).heap.size := hat4
      have HP4 : Hid (Ptrs w.heap.size w4 v2 (k + 1) (fun j => if j = k then p else ps j) (nthC l)) := hid (HP2.out.step hown4 hg5 hat5 (by rw [hx.out]; exact HC.out)
        (fun j hj e => by have := (HP.out.clk j hj).lt; omega) (fun e => by have := (HP.out.row.lt p e).2; omega) (by have := G.out.size; omega))
      have HG4 : Hid (w.grownBy w4 none) := hid (gr_ownr (gr_alloc (gr_trans G.out G2.out) _) hg5 (fun q hq => (HP2.out.row.lt q hq).1))
      clear hown4 hg4 hat4 hg5 hat5
      refine ⟨⟨k + 1, _, by omega, by go_num, HP4, HG4⟩, ?_⟩
      simp [intOf]; omega
    · obtain rfl : k = n := by omega
      clear hlt
      go_wp2_with fail
      go_ret2
      exact ⟨_, ps, rfl, HP.out, G.out⟩

set_option maxHeartbeats 1000000 in
theorem made_bad (sv : Value) (l : List Ck) (w : World) (hs : CksAt w.heap.size w sv l) (hz : l.length * 24 ≤ 140737488351232) (j : Nat) (hj : j < l.length) (hb : newC (nthC l j) = false) (hg : ∀ i, i < j → newC (nthC l i) = true) :
    Calls Tryz.prog 25 #[sv] w fun e w' => e = .returned (.tuple #[.slice none 0 0, .bool false]) ∧ w.grownBy w' none := by
  obtain ⟨i0, hi, hz0, hz1, hz2⟩ : ∃ i0, Tryz.prog.info? 83 = some i0 ∧ i0.zero = some (.pointer none) ∧ i0.size = 1 ∧ i0.bytes = 8 := by
    have h := Tryz.info_ptr
    cases hh : Tryz.prog.info? 83 with
    | none => rw [hh] at h; simp at h
    | some i0 => rw [hh] at h; simp at h; exact ⟨i0, rfl, h.1, h.2.1, h.2.2⟩
  have HI := hid (And.intro hi (And.intro hz0 (And.intro hz1 hz2)))
  clear hi hz0 hz1 hz2
  have HG := hid hg; have HBad := hid hb
  clear hg hb
  obtain ⟨n, hn⟩ : ∃ n, Hid (l.length = n) := ⟨_, hid rfl⟩
  unfold CksAt at hs
  rw [hn.out] at hs hz hj
  have HS := hid hs
  obtain ⟨a, cap, hsv⟩ : ∃ a cap, Hid (sv = .slice a n cap) := by
    rcases hs with ⟨a, cap, rfl, h0⟩ | ⟨b, off, cap, rfl, _⟩
    · exact ⟨a, cap, hid (by rw [h0])⟩
    · exact ⟨_, cap, hid rfl⟩
  rw [hsv.out] at HS ⊢
  clear hs hsv
  have HB : Hid (∀ k, k < n → ∃ b off, a = some ⟨b, off, none⟩ ∧ ∀ wr : World, w.grownBy wr none → wr.cell? ⟨b, off + k * 3, none⟩ = some (.int .i64 (nthC l k).m) ∧ wr.cell? ⟨b, off + k * 3 + 1, none⟩ = some (.int .i64 (nthC l k).b) ∧ wr.cell? ⟨b, off + k * 3 + 2, none⟩ = some (.int .i64 (nthC l k).r)) := hid (fun k hk => by
    rcases HS.out with ⟨_, _, e, h0⟩ | ⟨b, off, cap', e, _, _, hf⟩
    · exfalso; omega
    · simp only [Value.slice.injEq] at e
      exact ⟨b, off, e.1, fun wr g => ⟨gr_cell g (hf k hk 0 (by omega)), gr_cell g (hf k hk 1 (by omega)), gr_cell g (hf k hk 2 (by omega))⟩⟩)
  clear HS
  go_enter Tryz.func25, Tryz.ntmps25
  go_wp2_with fail
  go_loopw [4, 11] (fun v i wr => ∃ k : Nat, k ≤ j ∧ i = .int .i64 k ∧ Hid (∃ xs, wr.ownsRow w.heap.size 83 1 v k xs) ∧ Hid (w.grownBy wr none)) (fun _ i _ => n - (intOf i).toNat)
  case atStart => exact ⟨0, Nat.zero_le _, rfl, hid ⟨_, World.ownsRow_nil _ _ _ _⟩, hid (gr_refl w none)⟩
  case round =>
    obtain ⟨k, hk, rfl, HP, G⟩ := hrel
    have hlt : k < n := by omega
    obtain ⟨b, off, rfl, hq⟩ := HB.out k hlt
    obtain ⟨q0, q1, q2⟩ := hq wr G.out
    have hk2 : (k : Int) < n := by omega
    have hk0 : (0 : Int) ≤ (k : Int) := by omega
    by_cases hkj : k < j
    · have hnew := HG.out k hkj
      obtain ⟨x, hx⟩ : ∃ x, Hid (nthC l k = x) := ⟨_, hid rfl⟩
      rw [hx.out] at q0 q1 q2 hnew
      obtain ⟨x0, x1, x2⟩ := x
      dsimp only at *
      have hnp : (realB x0 = true ∧ fastB x2 = true) ∧ shownB x1 = true := by simpa [newC, newB] using hnew
      have Hr := hid hnp.1.1; have Hf := hid hnp.1.2; have Hs := hid hnp.2
      clear hnew hnp hq
      go_wp2_with fail
      refine (new_ok x0 x1 x2 _ Hr Hs Hf).mono ?_
      rintro e w2 ⟨rfl, _, g2⟩
      have G2 := hid (bx_gr g2)
      obtain ⟨p, hp⟩ : ∃ p, Hid ((wr.alloc (.cells #[.int .i64 x0, .int .i64 x1, .int .i64 x2] 54)).heap.size = p) := ⟨_, hid rfl⟩
      obtain ⟨xs, hxs⟩ := HP.out
      have HP2 := hid (hxs.kept G2.out (by cases u4.ownBlock <;> simp))
      obtain ⟨hi, hz0, hz1, hz2⟩ := HI.out
      rw [hp.out]
      clear q0 q1 q2 g2 hxs
      go_wp2_with (at_builtin; refine wpList_append_own_at _ rfl (.tmp 27) (.tmp 29) 77 rfl w.heap.size 83 i0 (.pointer none) 1 8 Tryz.underlying77 hi hz0 hz1 hz2 rfl (by decide) _ _ _ rfl (HP2.out.alloc _) ⟨w2.heap.size, 0, none⟩ 1 1 [.pointer (some ⟨p, 0, none⟩)] rfl rfl (cell_one_new' _ _ _) (by simp [Value.oneCell']) (by unfold maxLen; omega) (by omega) (by have := G.out.size; have := G2.out.size; simp; omega) ?_; intro v2 w4 hown4 hg4 _ hat4)
      have hg5 : (w2.alloc (.cells #[.pointer (some ⟨p, 0, none⟩)] 83)).grownBy w4 u4.ownBlock := hg4
      have HG4 : Hid (w.grownBy w4 none) := hid (gr_ownr (gr_alloc (gr_trans G.out G2.out) _) hg5 (fun q hq => (HP2.out.lt q hq).1))
      have HX : Hid (∃ xs, w4.ownsRow w.heap.size 83 1 v2 (k + 1) xs) := hid ⟨_, hown4⟩
      clear hown4 hg4 hat4 hg5
      refine ⟨⟨k + 1, by omega, by go_num, HX, HG4⟩, ?_⟩
      simp [intOf]; omega
    · obtain rfl : k = j := by omega
      have hnew := HBad.out
      obtain ⟨x, hx⟩ : ∃ x, Hid (nthC l k = x) := ⟨_, hid rfl⟩
      rw [hx.out] at q0 q1 q2 hnew
      obtain ⟨x0, x1, x2⟩ := x
      dsimp only at *
      have Hn := hid hnew
      clear hnew hq hkj
      go_wp2_with fail
      refine (new_bad x0 x1 x2 _ Hn.out).mono ?_
      rintro e w2 ⟨rfl, rfl⟩
      go_wp2_with fail
      go_ret2
      exact ⟨rfl, gr_alloc G.out _⟩
end Go.Proofs.YtckoaeoecjphiaaGreat
