/- tick.MulDiv at the divisor 10^9, where the product is small enough: the floor of the quotient. -/
import Derived.Test.YtfmkjolfpjfhbaaDiv
import Derived.Test.YtfmkjolfpjfhbaaWld
namespace Go.Proofs.Ytfmkjolfpjfhbaa
open Go.RowKit Go.Lib

theorem div64_any (P : Int) (w : World) (h0 : 0 ≤ P) (h1 : P < 18446744073709551616000000000) :
    Calls Try.prog 48 #[.int .u64 (P / 18446744073709551616), .int .u64 (P % 18446744073709551616), .int .u64 1000000000] w fun e w' => e = .returned (.tuple #[.int .u64 (P / 1000000000), .int .u64 (P % 1000000000)]) ∧ ∃ n, w' = w.drewN n := by
  by_cases hh : P / 18446744073709551616 = 0
  · rw [hh]
    refine (div64_low (P % 18446744073709551616) w (by omega) (by omega)).mono ?_
    rintro e w' ⟨rfl, n, rfl⟩
    refine ⟨?_, n, rfl⟩
    rw [show P % 18446744073709551616 = P from by omega]
  · refine (div64_high (P / 18446744073709551616) (P % 18446744073709551616) w (by omega) (by omega) (by omega) (by omega)).mono ?_
    rintro e w' ⟨rfl, rfl⟩
    refine ⟨?_, 0, rfl⟩
    rw [show P / 18446744073709551616 * 18446744073709551616 + P % 18446744073709551616 = P from by omega]

def ab (n : Int) : Int := n.natAbs
def ng (n : Int) : Bool := decide (n < 0)

theorem size_any (n : Int) (w : World) (h0 : -9223372036854775808 ≤ n) (h1 : n ≤ 9223372036854775807) :
    Calls Try.prog 46 #[.int .i64 n] w fun e w' => e = .returned (.tuple #[.int .u64 (ab n), .bool (ng n)]) ∧ w = w' := by
  by_cases hn : n < 0
  · refine (size_neg n w h0 hn).mono ?_
    rintro e w' ⟨rfl, rfl⟩
    have e1 : ab n = -n := by unfold ab; omega
    have e2 : ng n = true := by simp [ng, hn]
    rw [e1, e2]; exact ⟨rfl, rfl⟩
  · refine (size_pos n w (by omega) h1).mono ?_
    rintro e w' ⟨rfl, rfl⟩
    have e1 : ab n = n := by unfold ab; omega
    have e2 : ng n = false := by simp [ng]; omega
    rw [e1, e2]; exact ⟨rfl, rfl⟩

theorem ab_bd (n : Int) (h0 : -9223372036854775808 ≤ n) (h1 : n ≤ 9223372036854775807) : 0 ≤ ab n ∧ ab n < 18446744073709551616 := by unfold ab; omega

theorem mul64_at (x y P hi lo : Int) (w : World) (hx0 : 0 ≤ x) (hx : x < 18446744073709551616) (hy0 : 0 ≤ y) (hy : y < 18446744073709551616) (hP : Hid (x * y = P)) (hh : Hid (hi = P / 18446744073709551616)) (hl : Hid (lo = P % 18446744073709551616)) :
    Calls Try.prog 47 #[.int .u64 x, .int .u64 y] w fun e w' => e = .returned (.tuple #[.int .u64 hi, .int .u64 lo]) ∧ w = w' := by
  have h1 := hP.out; have h2 := hh.out; have h3 := hl.out
  subst h1 h2 h3
  exact mul64_int x y w hx0 hx hy0 hy

theorem div64_at (c P hi lo q r : Int) (w : World) (Hc : Hid (c = 1000000000)) (h0 : 0 ≤ P) (h1 : Hid (P < 4611686018427387904000000000)) (hh : Hid (hi = P / 18446744073709551616)) (hl : Hid (lo = P % 18446744073709551616)) (hq : Hid (q = P / 1000000000)) (hr : Hid (r = P % 1000000000)) :
    Calls Try.prog 48 #[.int .u64 hi, .int .u64 lo, .int .u64 c] w fun e w' => e = .returned (.tuple #[.int .u64 q, .int .u64 r]) ∧ ∃ n, w' = w.drewN n := by
  have hc := Hc.out; subst hc
  have h2 := hh.out; have h3 := hl.out; have h4 := hq.out; have h5 := hr.out; have h6 := h1.out
  subst h2 h3 h4 h5
  exact div64_any P w h0 (by omega)

set_option maxHeartbeats 400000 in
theorem size_at (n m : Int) (s : Bool) (w : World) (h0 : -9223372036854775808 ≤ n) (h1 : n ≤ 9223372036854775807) (hm : Hid (ab n = m)) (hs : Hid (ng n = s)) :
    Calls Try.prog 46 #[.int .i64 n] w fun e w' => e = .returned (.tuple #[.int .u64 m, .bool s]) ∧ w = w' := by
  have h2 := hm.out; have h3 := hs.out
  subst h2 h3
  exact size_any n w h0 h1

/-- What the closure of MulDiv comes to: q is the quotient of the sizes, r the rest. -/
def signedOf (neg : Bool) (q r : Int) : Int := if neg = true then (if r = 0 then -q else -(q + 1)) else q

set_option maxHeartbeats 400000 in
theorem closure_at (a b c x y : Int) (sa sb : Bool) (pa pb pc : Addr) (w : World) (Hc : Hid (c = 1000000000)) (c0 : 0 < c) (c1 : c ≤ 1000000000) (ha : w.cell? pa = some (.int .i64 a)) (hb : w.cell? pb = some (.int .i64 b)) (hc : w.cell? pc = some (.int .i64 c))
    (a0 : -9223372036854775808 ≤ a) (a1 : a ≤ 9223372036854775807) (b0 : -9223372036854775808 ≤ b) (b1 : b ≤ 9223372036854775807)
    (hx : Hid (ab a = x)) (hsa : Hid (ng a = sa)) (hy : Hid (ab b = y)) (hsb : Hid (ng b = sb))
    (P hi lo q r : Int) (hP : Hid (x * y = P)) (p0 : 0 ≤ P) (p1 : Hid (P < 4611686018427387904000000000)) (hh : Hid (hi = P / 18446744073709551616)) (hl : Hid (lo = P % 18446744073709551616)) (hq : Hid (q = P / 1000000000)) (hr : Hid (r = P % 1000000000))
    (hi1 : hi < c) (q0 : 0 ≤ q) (q1 : q < 4611686018427387904) :
    Calls Try.prog 45 #[.pointer (some pa), .pointer (some pb), .pointer (some pc)] w fun e w' => e = .returned (.int .i64 (signedOf (sa != sb) q r)) ∧ ∃ n, w' = w.drewN n := by
  have hX : Hid (0 ≤ x ∧ x < 18446744073709551616 ∧ 0 ≤ y ∧ y < 18446744073709551616) := by
    have h1 := hx.out; have h2 := hy.out; have h3 := ab_bd a a0 a1; have h4 := ab_bd b b0 b1; subst h1 h2; exact ⟨h3.1, h3.2, h4.1, h4.2⟩
  cases sa <;> cases sb
  all_goals
    go_enter Try.func45, Try.ntmps45
    go_wp2_with fail
    refine (size_at a x _ _ a0 a1 hx hsa).mono ?_
    rintro e w' ⟨rfl, rfl⟩
    go_wp2_with fail
    refine (size_at b y _ _ b0 b1 hy hsb).mono ?_
    rintro e w' ⟨rfl, rfl⟩
    go_wp2_with fail
    refine (mul64_at x y P hi lo _ hX.out.1 hX.out.2.1 hX.out.2.2.1 hX.out.2.2.2 hP hh hl).mono ?_
    rintro e w' ⟨rfl, rfl⟩
    go_wp2_with fail
    refine (div64_at c P hi lo q r _ Hc p0 p1 hh hl hq hr).mono ?_
    rintro e w' ⟨rfl, n, rfl⟩
    go_wp2_with fail
  all_goals
    first
    | (have hr0 : (r != 0) = true := by assumption
       refine (signed_neg (q + 1) _ (by omega) (by omega)).mono ?_
       rintro e w' ⟨rfl, rfl⟩
       go_wp2_with fail
       go_ret
       have hr1 : ¬ r = 0 := by simpa using hr0
       refine ⟨?_, n, rfl⟩
       simp [signedOf, hr1])
    | (have hr0 : (r != 0) = false := by assumption
       refine (signed_neg q _ q0 (by omega)).mono ?_
       rintro e w' ⟨rfl, rfl⟩
       go_wp2_with fail
       go_ret
       have hr1 : r = 0 := by simpa using hr0
       refine ⟨?_, n, rfl⟩
       simp [signedOf, hr1])
    | (refine (signed_pos q _ q0 (by omega)).mono ?_
       rintro e w' ⟨rfl, rfl⟩
       go_wp2_with fail
       go_ret
       exact ⟨rfl, n, rfl⟩)

/-- Over the numbers: the floor. -/
theorem closure_floor (a b : Int) (pa pb pc : Addr) (w : World) (ha : w.cell? pa = some (.int .i64 a)) (hb : w.cell? pb = some (.int .i64 b)) (hc : w.cell? pc = some (.int .i64 1000000000))
    (a0 : -9223372036854775808 ≤ a) (a1 : a ≤ 9223372036854775807) (b0 : -9223372036854775808 ≤ b) (b1 : b ≤ 9223372036854775807)
    (h0 : -4611686018427387904000000000 < a * b) (h1 : a * b < 4611686018427387904000000000) :
    Calls Try.prog 45 #[.pointer (some pa), .pointer (some pb), .pointer (some pc)] w fun e w' => e = .returned (.int .i64 (a * b / 1000000000)) ∧ ∃ n, w' = w.drewN n := by
  have hP : ab a * ab b = ((a * b).natAbs : Int) := by unfold ab; rw [Int.natAbs_mul]; simp
  have hsig : signedOf (ng a != ng b) (ab a * ab b / 1000000000) (ab a * ab b % 1000000000) = a * b / 1000000000 := by
    rw [hP]
    have hng : (ng a != ng b) = true → a * b ≤ 0 := by
      intro h
      unfold ng at h
      by_cases h2 : a < 0 <;> by_cases h3 : b < 0 <;> simp [h2, h3] at h
      · exact Int.mul_nonpos_of_nonpos_of_nonneg (by omega) (by omega)
      · exact Int.mul_nonpos_of_nonneg_of_nonpos (by omega) (by omega)
    have hps : (ng a != ng b) = false → 0 ≤ a * b := by
      intro h
      unfold ng at h
      by_cases h2 : a < 0 <;> by_cases h3 : b < 0 <;> simp [h2, h3] at h
      · exact Int.mul_nonneg_of_nonpos_of_nonpos (by omega) (by omega)
      · exact Int.mul_nonneg (by omega) (by omega)
    generalize a * b = p at *
    unfold signedOf
    cases hs : (ng a != ng b)
    · have := hps hs
      rw [if_neg (by simp)]; omega
    · have := hng hs
      rw [if_pos rfl]
      split <;> omega
  rw [← hsig]
  refine closure_at a b 1000000000 (ab a) (ab b) (ng a) (ng b) pa pb pc w (hid rfl) (by omega) (by omega) ha hb hc a0 a1 b0 b1 (hid rfl) (hid rfl) (hid rfl) (hid rfl) (ab a * ab b) (ab a * ab b / 18446744073709551616) (ab a * ab b % 18446744073709551616) _ _ (hid rfl) ?_ (hid ?_) (hid rfl) (hid rfl) (hid rfl) (hid rfl) ?_ ?_ ?_
  all_goals rw [hP]; omega

/-- What 'checked' defers, where no panic is under way. -/
theorem caught_idle (p q : Addr) (w : World) :
    CallsD Try.prog 51 #[.pointer (some p), .pointer (some q)] .returning w fun e u' w' => e = .returned (.tuple #[]) ∧ u' = .returning ∧ w' = w := by
  refine callsD_of_wpS Try.func51 rfl fun c₀ cs hu => ?_
  apply wpS_seq
  apply wpS_region
  simp [wpOpsS, go_sem, recoverD, hu, Try.ntmps51, Exit.thenS]
  apply wpS_seq
  apply wpS_region
  simp [wpOpsS, go_sem, Exit.thenS]
  refine wpS_cond (t := false) (by simp [Act.eval, Array.replicate]) ?_
  simp only [Bool.false_eq_true, if_false]
  refine wpS_of_wp (wp_skip ?_)
  cases c₀
  simp_all [bodyPostS, results, Try.results51]

theorem cell_past2 {w : World} {p : Addr} {v : Value} (h : w.cell? p = some v) {o1 o2 : Obj} : ((w.alloc o1).alloc o2).cell? p = some v := by
  have hb := World.block_lt_of_cell? w p h
  have b : Below w.heap.size w ((w.alloc o1).alloc o2) := ((Below.refl _ w).alloc (Nat.le_refl _) o1).alloc (by simp) o2
  rw [b.cell hb, h]

/-- 'checked' around MulDiv's closure. -/
theorem checked_floor (a b : Int) (pa pb pc : Addr) (w : World) (ha : w.cell? pa = some (.int .i64 a)) (hb : w.cell? pb = some (.int .i64 b)) (hc : w.cell? pc = some (.int .i64 1000000000))
    (a0 : -9223372036854775808 ≤ a) (a1 : a ≤ 9223372036854775807) (b0 : -9223372036854775808 ≤ b) (b1 : b ≤ 9223372036854775807)
    (h0 : -4611686018427387904000000000 < a * b) (h1 : a * b < 4611686018427387904000000000) :
    Calls Try.prog 44 #[.func (.func 45) #[] #[.pointer (some pa), .pointer (some pb), .pointer (some pc)]] w fun e w' => e = .returned (.tuple #[.int .i64 (a * b / 1000000000), .int .i64 0]) ∧ w.grownBy w' none := by
  have hmf : ∀ (fn : Fn) (first cap : Array Value) (w : World), (Instr.makeFunc fn first cap).run Try.prog w = .ok (.func fn first cap) w := fun _ _ _ _ => rfl
  have H0 := Lib.hid h0; have H1 := Lib.hid h1; clear h0 h1
  have hA : ((w.alloc (.cells #[.int .i64 0] 2)).alloc (.cells #[.int .i64 0] 26)).cell? pa = some (.int .i64 a) := cell_past2 ha
  have hB : ((w.alloc (.cells #[.int .i64 0] 2)).alloc (.cells #[.int .i64 0] 26)).cell? pb = some (.int .i64 b) := cell_past2 hb
  have hC : ((w.alloc (.cells #[.int .i64 0] 2)).alloc (.cells #[.int .i64 0] 26)).cell? pc = some (.int .i64 1000000000) := cell_past2 hc
  go_enter_defers Try.func44, Try.ntmps44
  go_wp2_with fail
  refine (closure_floor a b pa pb pc _ hA hB hC a0 a1 b0 b1 H0.out H1.out).mono ?_
  clear hA hB hC
  rintro e w' ⟨rfl, n, rfl⟩
  go_wp2_with fail
  refine leaves_cons (f := 51) (args := #[.pointer (some ⟨w.heap.size, 0, none⟩), .pointer (some ⟨w.heap.size + 1, 0, none⟩)]) (by simp) (by simp [go_sem]) ?_
  refine (caught_idle ⟨w.heap.size, 0, none⟩ ⟨w.heap.size + 1, 0, none⟩ _).mono ?_
  rintro e u' w'' ⟨rfl, rfl, rfl⟩
  have hg : w.grownBy (((((w.alloc (.cells #[.int .i64 0] 2)).alloc (.cells #[.int .i64 0] 26)).drewN n).setCell ⟨w.heap.size, 0, none⟩ (.int .i64 (a * b / 1000000000))).setCell ⟨w.heap.size + 1, 0, none⟩ (.int .i64 0)) none :=
    gr_set (gr_set (gr_drewN (gr_alloc (gr_alloc (gr_refl w none) _) _) n) (.inl (by simp)) _) (.inl (by simp)) _
  simp [Leaves, settle, results, Try.results44, go_sem, hg]

/-- MulDiv at the divisor 10^9. -/
theorem muldiv_floor (a b : Int) (w : World)
    (a0 : -9223372036854775808 ≤ a) (a1 : a ≤ 9223372036854775807) (b0 : -9223372036854775808 ≤ b) (b1 : b ≤ 9223372036854775807)
    (h0 : -4611686018427387904000000000 < a * b) (h1 : a * b < 4611686018427387904000000000) :
    Calls Try.prog 37 #[.int .i64 a, .int .i64 b, .int .i64 1000000000] w fun e w' => e = .returned (.tuple #[.int .i64 (a * b / 1000000000), .int .i64 0]) ∧ w.grownBy w' none := by
  have hmf : ∀ (fn : Fn) (first cap : Array Value) (w : World), (Instr.makeFunc fn first cap).run Try.prog w = .ok (.func fn first cap) w := fun _ _ _ _ => rfl
  have H0 := Lib.hid h0; have H1 := Lib.hid h1; clear h0 h1
  go_enter Try.func37, Try.ntmps37
  go_wp2_with fail
  refine (checked_floor a b _ _ _ _ (by simp [go_sem]) (by simp [go_sem]) (by simp [go_sem]) a0 a1 b0 b1 H0.out H1.out).mono ?_
  rintro e w' ⟨rfl, hg⟩
  go_wp2_with fail
  go_ret2
  exact ⟨rfl, gr_trans (gr_alloc (gr_alloc (gr_alloc (gr_refl w none) _) _) _) hg⟩
end Go.Proofs.Ytfmkjolfpjfhbaa
