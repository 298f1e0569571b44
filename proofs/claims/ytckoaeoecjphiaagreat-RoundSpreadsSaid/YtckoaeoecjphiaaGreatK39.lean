/- Lemmas: round.Go: from its second loop to its third, and its end. The document's own clock (tocsinref04): the same numbers. The document's When: the same time. The document's round: leaves (its clock's When and Due, Offset, Accept, InTime). -/
import Derived.Test.YtckoaeoecjphiaaGreatK38
import Derived.Test.YtckoaeoecjphiaaGreatK20
import Derived.Deep.QuietTactic
import Derived.BigQuiet
import Derived.Test.YtckoaeoecjphiaaGreatK01
import Derived.Test.YtckoaeoecjphiaaGreatK36

/- round.Go: from its second loop to its third, and its end. -/
namespace Go.Proofs.YtckoaeoecjphiaaGreat
open Go.RowKit Go.Lib

theorem slice_own {W : World} {base e size n : Nat} {v : Value} {xs : List Value} (h : W.ownsRow base e size v n xs) {f : Nat → Nat → Value} (hf : ∀ j, j < n → ∀ i, i < size → xs[j * size + i]? = some (f j i)) : SliceAt W.heap.size W v size n f := by
  have hl := h.1
  rcases h.2 with ⟨rfl, rfl⟩ | ⟨g, cap, cur, rfl, hb, hh, hcap, _⟩
  · exact .inl ⟨_, _, rfl, rfl⟩
  · refine .inr ⟨g, 0, cap, rfl, hcap, (Array.getElem?_eq_some_iff.1 hh).1, fun j hj i hi => ?_⟩
    have h1 : j * size + i < n * size := by
      have : (j + 1) * size ≤ n * size := Nat.mul_le_mul_right _ hj
      rw [Nat.add_mul, Nat.one_mul] at this
      omega
    rw [Nat.zero_add, h.cellAt (j * size + i) (by omega)]
    exact hf j hj i hi
section
variable {w w9 wA W : World} {R : Rd} {c0 c1 : Nat} {ys : List Sd} {v14 vs : Value} {w0 pg n : Nat} {ho C de wi pr qu cy a0 a1 b0 b1 : Int} {vd ve vl : Value} {ps : Nat → Nat} {rb : Nat} {p0 p1 y0 y1 : Int} {base : Nat} {vp : Value}
/-- What the third loop begins with. -/
theorem lp3_begin (h : Lp2 w9 wA W R c0 c1 ys v14 vs w0 pg n ho C de wi pr qu cy a0 a1 b0 b1 vd ve vl ps rb (.int .i64 p0) (.int .u32 (c0 : Int)) (.int .i64 y0) (.int .i64 p1) (.int .u32 (c1 : Int)) (.int .i64 y1))
    (hp : Ptrs base w9 vp n ps (nthC R.l)) (g : w9.grownBy wA none) :
    Lp3 W W w9.heap.size n ps vs (.slice none 0 0) (.slice none 0 0) (.slice none 0 0) c0 c1 (nthC R.l) R.by_ R.hrd R.aft 0 := by
  have hk := mid_keep h.mid g
  have hz := h.mid.gr.size
  have hs := h.sz
  exact
    { os := rfl, tape := rfl, output := rfl, size := Nat.le_refl _, keep := fun _ _ _ _ => rfl
      clk := fun j hj => (hk _ (hp.clk j hj).lt).trans (hp.clk j hj)
      told := h.mid.told
      rb := World.ownsRow_nil _ _ _ _
      rh := World.ownsRow_nil _ _ _ _
      ra := World.ownsRow_nil _ _ _ _
      a1 := fun q hq => by cases hq
      a2 := fun q hq => by cases hq
      a3 := fun q hq => by cases hq
      tl := by omega
      pl := fun j hj => by have := (hp.clk j hj).lt; exact ⟨by omega, by omega⟩
      pi := hp.inj }
theorem st3_begin (h : Lp2 w9 wA W R c0 c1 ys v14 vs w0 pg n ho C de wi pr qu cy a0 a1 b0 b1 vd ve vl ps rb (.int .i64 p0) (.int .u32 (c0 : Int)) (.int .i64 y0) (.int .i64 p1) (.int .u32 (c1 : Int)) (.int .i64 y1))
    (hp : Ptrs base w9 vp n ps (nthC R.l)) (hb : w0 + 4 ≤ base) (hpg : base ≤ pg ∧ pg < w9.heap.size) (hpp : ∀ j, j < n → pg ≠ ps j) (hn : R.l.length = n) (hn0 : 0 < n) :
    ∃ vg vcap, vs = .slice (some ⟨vg, 0, none⟩) n vcap ∧ St3 W R w0 w9.heap.size rb pg vg vcap n ps ho C de wi pr qu cy a0 a1 b0 b1 vd ve vl p0 p1 y0 y1 c0 c1 := by
  have hsn := h.mid.sn
  rw [hn] at hsn
  have hz := h.mid.gr.size
  have hs := h.sz
  have hr := h.rlo
  have hw := h.wlo
  rcases hsn.2 with ⟨_, h0⟩ | ⟨vg, vcap, cur, rfl, hbv, hh, hcap, _⟩
  · omega
  · have hpl : ∀ j, j < n → base ≤ ps j ∧ ps j < w9.heap.size := fun j hj => ⟨hp.lo j hj, (hp.clk j hj).lt⟩
    refine ⟨vg, vcap, rfl, ⟨h.sta, h.res, fun j hj => ?_, (Array.getElem?_eq_some_iff.1 hh).1, fun q hq => ?_, by omega, hcap, ⟨by omega, fun j hj => by have := hpl j hj; omega, by omega⟩⟩⟩
    · rw [hsn.cellAt j (by omega)]
      simp [hj]
    · rcases hq with rfl | rfl | rfl | rfl | rfl | rfl | rfl
      · exact ⟨by omega, fun j hj => by have := hpl j hj; omega⟩
      · exact ⟨by omega, fun j hj => by have := hpl j hj; omega⟩
      · exact ⟨by omega, fun j hj => by have := hpl j hj; omega⟩
      · exact ⟨by omega, fun j hj => by have := hpl j hj; omega⟩
      · exact ⟨by omega, fun j hj => hpp j hj⟩
      · exact ⟨by omega, fun j hj => by have := hpl j hj; omega⟩
      · exact ⟨by omega, fun j hj => by have := hpl j hj; omega⟩
end
theorem own_sl' {w : World} {base e size n : Nat} {v : Value} {xs : List Value} (h : w.ownsRow base e size v n xs) : ∃ a c, v = .slice a n c := by
  rcases h.2 with ⟨rfl, rfl⟩ | ⟨g, cap, cur, rfl, _⟩
  · exact ⟨_, _, rfl⟩
  · exact ⟨_, _, rfl⟩
theorem set6_heap {w : World} {g : Nat} {a b c d e f a' b' c' d' e' f' : Value} {t : TypeId} (h : w.heap[g]? = some (.cells #[a, b, c, d, e, f] t)) : ((((((w.setCell ⟨g, 0, none⟩ a').setCell ⟨g, 1, none⟩ b').setCell ⟨g, 2, none⟩ c').setCell ⟨g, 3, none⟩ d').setCell ⟨g, 4, none⟩ e').setCell ⟨g, 5, none⟩ f').heap[g]? = some (.cells #[a', b', c', d', e', f'] t) := by
  simp only [World.setCell, Array.getElem?_modify, if_true, h, Option.map_some]
  rfl
/-- None of the four slices lies in a block below n₀. -/
structure FreshT (n₀ : Nat) (vs vb vh va : Value) : Prop where
  s : ∀ q, vs.ownBlock = some q → n₀ ≤ q
  b : ∀ q, vb.ownBlock = some q → n₀ ≤ q
  h : ∀ q, vh.ownBlock = some q → n₀ ≤ q
  a : ∀ q, va.ownBlock = some q → n₀ ≤ q
/-- What has been told, at the round's end: w3 = where the result lies. -/
theorem told_end {w wC W W5 : World} {R : Rd} {tb n w3 base : Nat} {ps : Nat → Nat} {vs vb vh va : Value} {c0 c1 : Nat} (h : Lp3 wC W tb n ps vs vb vh va c0 c1 R.aft R.by_ R.hrd R.aft n) (hn : R.l.length = n)
    (hsn : wC.ownsRow base 2 1 vs n ((List.range n).map fun j => Value.int .i64 (R.sent j))) (hbs : tb < base) (hps : ∀ j, j < n → ps j < base) (h3 : w3 < base) (h3C : w3 < wC.heap.size)
    (hg : w.grownBy wC none) (hw3 : w.heap.size ≤ w3) (htb : w.heap.size ≤ tb) (hpw : ∀ j, j < n → w.heap.size ≤ ps j)
    (hoth : ∀ q, q ≠ w3 → W5.heap[q]? = W.heap[q]?) (hsz : W5.heap.size = W.heap.size) (ho : W5.os = W.os) (ht : W5.tape = W.tape) (hout : W5.output = W.output) :
    ToldAt W5 R vs vb vh va ∧ w.grownBy W5 none ∧ FreshT w.heap.size vs vb vh va := by
  have hs := h.size
  have k1 : W5.ownsRow base 2 1 vs n ((List.range n).map fun j => Value.int .i64 (R.sent j)) := own_as hsn (fun q hq => by
    have hl := hsn.lt q hq
    rw [hoth q (by omega)]
    exact h.keep q hl.2 (by omega) (fun j hj => by have := hps j hj; omega))
  have k2 := own_as h.rb (fun q hq => hoth q (by have := (h.rb.lt q hq).1; omega))
  have k3 := own_as h.rh (fun q hq => hoth q (by have := (h.rh.lt q hq).1; omega))
  have k4 := own_as h.ra (fun q hq => hoth q (by have := (h.ra.lt q hq).1; omega))
  have hF : FreshT w.heap.size vs vb vh va := ⟨fun q hq => by have := (hsn.lt q hq).1; omega, fun q hq => by have := (h.rb.lt q hq).1; have := hg.size; omega, fun q hq => by have := (h.rh.lt q hq).1; have := hg.size; omega, fun q hq => by have := (h.ra.lt q hq).1; have := hg.size; omega⟩
  refine ⟨⟨?_, ?_, ?_, ?_⟩, ⟨ho.trans (h.os.trans hg.os), ht.trans (h.tape.trans hg.tape), hout.trans (h.output.trans hg.output), by have := hg.size; omega, fun q hq hne => ?_⟩, hF⟩
  · rw [hn]; exact slice_own k1 (fun j hj i hi => by obtain rfl : i = 0 := by omega
                                                     simp [hj])
  · rw [hn]; exact slice_own k2 (fun j hj i hi => by obtain rfl : i = 0 := by omega
                                                     simp [hj])
  · rw [hn]; exact slice_own k3 (fun j hj i hi => by obtain rfl : i = 0 := by omega
                                                     simp [hj])
  · rw [hn]; exact slice_own k4 (fun j hj i hi => by
      rw [flatF_at R.aft hj hi]
      match i, hi with
      | 0, _ => rfl
      | 1, _ => rfl
      | 2, _ => rfl)
  · rw [hoth q (by omega), h.keep q (by have := hg.size; omega) (by omega) (fun j hj => by have := hpw j hj; omega)]
    exact hg.block q hq hne
end Go.Proofs.YtckoaeoecjphiaaGreat

/- The document's own clock (tocsinref04): the same numbers. -/
namespace Go.Proofs.YtckoaeoecjphiaaGreat
open Go.RowKit Go.Lib

theorem rreal_at (t : Int) (b : Bool) (w : World) (hb : Hid (realB t = b)) :
    Calls Tryz.prog 56 #[.int .i64 t] w fun e w' => e = .returned (.bool b) ∧ w = w' := by
  have h := hb.out
  subst h
  by_cases h0 : 0 ≤ t <;> by_cases h1 : t ≤ 1125899906842624
  all_goals
    have hR : realB t = decide (0 ≤ t ∧ t ≤ 1125899906842624) := rfl
    simp only [h0, h1, and_true, and_false, decide_true, decide_false, and_self] at hR
    rw [hR]
    clear hR hb
    go_enter Tryz.func56, Tryz.ntmps56
    go_wp2
    go_ret
    exact ⟨by simp_all, rfl⟩

theorem rfast_at (t : Int) (b : Bool) (w : World) (hb : Hid (fastB t = b)) :
    Calls Tryz.prog 58 #[.int .i64 t] w fun e w' => e = .returned (.bool b) ∧ w = w' := by
  have h := hb.out
  subst h
  by_cases h0 : -1000000 ≤ t <;> by_cases h1 : t ≤ 1000000
  all_goals
    have hR : fastB t = decide (-1000000 ≤ t ∧ t ≤ 1000000) := rfl
    simp only [h0, h1, and_true, and_false, decide_true, decide_false, and_self] at hR
    rw [hR]
    clear hR hb
    go_enter Tryz.func58, Tryz.ntmps58
    go_wp2
    go_ret
    exact ⟨by simp_all, rfl⟩

theorem rshown_at (t : Int) (b : Bool) (w : World) (hb : Hid (shownB t = b)) :
    Calls Tryz.prog 57 #[.int .i64 t] w fun e w' => e = .returned (.bool b) ∧ w = w' := by
  have h := hb.out
  subst h
  by_cases h0 : -1125899906842624 ≤ t <;> by_cases h1 : t ≤ 1125899906842624
  all_goals
    have hR : shownB t = decide (-1125899906842624 ≤ t ∧ t ≤ 1125899906842624) := rfl
    simp only [h0, h1, and_true, and_false, decide_true, decide_false, and_self] at hR
    rw [hR]
    clear hR hb
    go_enter Tryz.func57, Tryz.ntmps57
    go_wp2
    go_ret
    exact ⟨by simp_all, rfl⟩

theorem tdiv_floor (a : Int) : (if a.tmod 1000000000 < 0 then a.tdiv 1000000000 - 1 else a.tdiv 1000000000) = a / 1000000000 := by
  rw [Int.tmod_def]
  rcases Int.lt_or_le a 0 with h | h
  · obtain ⟨n, rfl⟩ : ∃ n : Nat, a = -(n : Int) := ⟨a.natAbs, by omega⟩
    rw [Int.neg_tdiv, Int.tdiv_eq_ediv_of_nonneg (by omega)]
    split <;> omega
  · rw [Int.tdiv_eq_ediv_of_nonneg h]
    split <;> omega

theorem tdiv_bd (a : Int) (h0 : -1000000000000000 ≤ a) (h1 : a ≤ 1000000000000000) : -1000000 ≤ a.tdiv 1000000000 ∧ a.tdiv 1000000000 ≤ 1000000 := by
  rcases Int.lt_or_le a 0 with h | h
  · obtain ⟨n, rfl⟩ : ∃ n : Nat, a = -(n : Int) := ⟨a.natAbs, by omega⟩
    rw [Int.neg_tdiv, Int.tdiv_eq_ediv_of_nonneg (by omega)]
    omega
  · rw [Int.tdiv_eq_ediv_of_nonneg h]
    omega

theorem floor04_any (a : Int) (w : World) (h0 : -1000000000000000 ≤ a) (h1 : a ≤ 1000000000000000) :
    Calls Tryz.prog 94 #[.int .i64 a, .int .i64 1000000000] w fun e w' => e = .returned (.int .i64 (a / 1000000000)) ∧ w' = w := by
  have hf := tdiv_floor a
  obtain ⟨q0, q1⟩ := tdiv_bd a h0 h1
  obtain ⟨q, hq⟩ : ∃ q, Hid (a.tdiv 1000000000 = q) := ⟨_, hid rfl⟩
  obtain ⟨r, hr⟩ : ∃ r, Hid (a.tmod 1000000000 = r) := ⟨_, hid rfl⟩
  rw [hq.out] at q0 q1
  rw [hq.out, hr.out] at hf
  have Hf := hid hf; clear hf
  go_enter Tryz.func94, Tryz.ntmps94
  go_wp2
  · have h := (by assumption : a.tmod 1000000000 < 0)
    go_ret
    refine ⟨?_, rfl⟩
    show Ending.returned (.int .i64 (wrap64 (a.tdiv 1000000000 - 1))) = _
    rw [hr.out] at h
    rw [← Hf.out, if_pos h, hq.out, IntWalk.wrap64_in _ ⟨by omega, by omega⟩]
  · have h := (by assumption : 0 ≤ a.tmod 1000000000)
    go_ret
    refine ⟨?_, rfl⟩
    show Ending.returned (.int .i64 (a.tdiv 1000000000)) = _
    rw [hr.out] at h
    rw [← Hf.out, if_neg (by omega), hq.out]

/-- A clock of the document's, by value. -/
abbrev rclk (m ba r : Int) : Value := .agg #[.int .i64 m, .int .i64 ba, .int .i64 r]

theorem split_rate (d r : Int) : d / 1000000000 * r + d % 1000000000 * r / 1000000000 = d * r / 1000000000 := by
  have h1 : d * r = d / 1000000000 * r * 1000000000 + d % 1000000000 * r := by
    have h2 : d = d / 1000000000 * 1000000000 + d % 1000000000 := by omega
    have h3 : d * r = (d / 1000000000 * 1000000000 + d % 1000000000) * r := by rw [← h2]
    rw [h3, Int.add_mul, Int.mul_assoc, Int.mul_assoc, Int.mul_comm 1000000000 r]
  rw [h1]
  generalize d / 1000000000 * r = p
  generalize d % 1000000000 * r = q
  omega

theorem rat_ok (m ba r t n : Int) (w : World) (ho : ClockOk m ba r) (h0 : m ≤ t) (h1 : t ≤ 1125899906842624) (hn : Hid (clockAt m ba r t = n)) :
    Calls Tryz.prog 48 #[rclk m ba r, .int .i64 t] w fun e w' => e = .returned (.int .i64 n) ∧ w.grownBy w' none := by
  have hm0 := ho.m0; have hm1 := ho.m1; have hr0 := ho.r0; have hr1 := ho.r1; have hb0 := ho.b0; have hb1 := ho.b1
  have hN := hn.out
  unfold clockAt at hN
  rw [← split_rate] at hN
  obtain ⟨d, hd⟩ : ∃ d, Hid (t - m = d) := ⟨_, hid rfl⟩
  have d0 : 0 ≤ d := by rw [← hd.out]; omega
  have d1 : d ≤ 1125899906842624 := by rw [← hd.out]; omega
  rw [hd.out] at hN
  obtain ⟨a0, a1⟩ := mul_rate (d / 1000000000) r (by omega) hr0 hr1
  obtain ⟨e0, e1⟩ := mul_rate (d % 1000000000) r (by omega) hr0 hr1
  have w1 : IntKind.i64.wrap (ba + d) = ba + d := by rw [IntKind.wrap_i64]; omega
  have w2 : IntKind.i64.wrap (d / 1000000000 * r) = d / 1000000000 * r := by rw [IntKind.wrap_i64]; omega
  have w3 : IntKind.i64.wrap (ba + d + d / 1000000000 * r) = ba + d + d / 1000000000 * r := by rw [IntKind.wrap_i64]; omega
  have w4 : IntKind.i64.wrap (d % 1000000000 * r) = d % 1000000000 * r := by rw [IntKind.wrap_i64]; omega
  have w5 : IntKind.i64.wrap (ba + d + d / 1000000000 * r + d % 1000000000 * r / 1000000000) = ba + d + d / 1000000000 * r + d % 1000000000 * r / 1000000000 := by rw [IntKind.wrap_i64]; omega
  have HN := hid (show ba + d + d / 1000000000 * r + d % 1000000000 * r / 1000000000 = n by omega)
  clear hN hn ho
  have W1 := hid w1; have W2 := hid w2; have W3 := hid w3; have W4 := hid w4; have W5 := hid w5
  clear w1 w2 w3 w4 w5
  go_enter Tryz.func48, Tryz.ntmps48
  go_wp2_with fail
  rw [hd.out]
  have w1 := W1.out; have w2 := W2.out; have w3 := W3.out; have w4 := W4.out; have w5 := W5.out
  go_quiet ((go_at_call 94; exact Calls.quiet_of_same (floor04_any _ _ (by omega) (by omega))))
  clear w1 w2 w3 w4 w5
  go_wp2_with fail
  go_ret
  rw [HN.out]
  exact ⟨rfl, gr_drewN (gr_alloc (gr_refl w none) _) _⟩

theorem rnow_ok (m ba r t n : Int) (w : World) (ho : ClockOk m ba r) (h : nowB m t = true) (hn : Hid (clockAt m ba r t = n)) :
    Calls Tryz.prog 19 #[rclk m ba r, .int .i64 t] w fun e w' => e = .returned (.tuple #[.int .i64 n, .int .i64 0]) ∧ w.grownBy w' none := by
  have h' : realB t = true ∧ m ≤ t := by simpa [nowB] using h
  obtain ⟨hr, hmt⟩ := h'
  clear h
  obtain ⟨t0, t1⟩ := realB_iff.1 hr
  have Hr := hid hr; clear hr
  go_enter Tryz.func19, Tryz.ntmps19
  go_wp2_with (go_at_call 56; refine (rreal_at t _ _ Hr).mono ?_; rintro e w' ⟨rfl, rfl⟩)
  refine (rat_ok m ba r t n _ ho hmt t1 hn).mono ?_
  rintro e w' ⟨rfl, hg⟩
  go_wp2_with fail
  go_ret2
  exact ⟨rfl, gr_trans (gr_alloc (gr_refl w none) _) hg⟩

theorem rnow_bad (m ba r t : Int) (w : World) (h : nowB m t = false) :
    Calls Tryz.prog 19 #[rclk m ba r, .int .i64 t] w fun e w' => e = .returned (.tuple #[.int .i64 0, .int .i64 1]) ∧ w.grownBy w' none := by
  unfold nowB at h
  generalize hr : realB t = x at *
  have Hr := hid hr; clear hr
  cases x
  · clear h
    go_enter Tryz.func19, Tryz.ntmps19
    go_wp2_with (go_at_call 56; refine (rreal_at t _ _ Hr).mono ?_; rintro e w' ⟨rfl, rfl⟩)
    go_ret2
    exact ⟨rfl, gr_alloc (gr_refl w none) _⟩
  · have h2 : t < m := by simpa using h
    clear h
    go_enter Tryz.func19, Tryz.ntmps19
    go_wp2_with (go_at_call 56; refine (rreal_at t _ _ Hr).mono ?_; rintro e w' ⟨rfl, rfl⟩)
    go_ret2
    exact ⟨rfl, gr_alloc (gr_refl w none) _⟩

/-- A block of three int64 cells. -/
def Trio (T : TypeId) (w : World) (b : Nat) (x y z : Int) : Prop := w.heap[b]? = some (.cells #[.int .i64 x, .int .i64 y, .int .i64 z] T (0, 0))
theorem Trio.c0 {T : TypeId} {w : World} {b : Nat} {x y z : Int} (h : Trio T w b x y z) : w.cell? ⟨b, 0, none⟩ = some (.int .i64 x) := by unfold Trio at h; simp [World.cell?, h]
theorem Trio.c1 {T : TypeId} {w : World} {b : Nat} {x y z : Int} (h : Trio T w b x y z) : w.cell? ⟨b, 1, none⟩ = some (.int .i64 y) := by unfold Trio at h; simp [World.cell?, h]
theorem Trio.c2 {T : TypeId} {w : World} {b : Nat} {x y z : Int} (h : Trio T w b x y z) : w.cell? ⟨b, 2, none⟩ = some (.int .i64 z) := by unfold Trio at h; simp [World.cell?, h]
theorem Trio.f {T : TypeId} {w : World} {b : Nat} {x y z : Int} (h : Trio T w b x y z) (i : Nat) : w.frozen? ⟨b, i, none⟩ = false := by unfold Trio at h; simp [World.frozen?, h]
theorem Trio.lt {T : TypeId} {w : World} {b : Nat} {x y z : Int} (h : Trio T w b x y z) : b < w.heap.size := lt_of_block h
theorem Trio.kept {T : TypeId} {w w' : World} {b : Nat} {x y z : Int} {row : Option Nat} (h : Trio T w b x y z) (hg : w.grownBy w' row) (hr : some b ≠ row) : Trio T w' b x y z := gr_heap hg h hr
theorem Trio.new (T : TypeId) (w : World) (x y z : Int) : Trio T (w.alloc (.cells #[.int .i64 x, .int .i64 y, .int .i64 z] T)) w.heap.size x y z := by unfold Trio; exact heap_alloc_new w _
theorem Trio.new1 (T : TypeId) (w : World) (o : Obj) (x y z : Int) : Trio T ((w.alloc o).alloc (.cells #[.int .i64 x, .int .i64 y, .int .i64 z] T)) (w.heap.size + 1) x y z := by
  have := Trio.new T (w.alloc o) x y z
  simpa using this
theorem Trio.set3 {T : TypeId} {w : World} {b : Nat} {x y z x' y' z' : Int} (h : Trio T w b x y z) :
    Trio T (((w.setCell ⟨b, 0, none⟩ (.int .i64 x')).setCell ⟨b, 1, none⟩ (.int .i64 y')).setCell ⟨b, 2, none⟩ (.int .i64 z')) b x' y' z' := by
  unfold Trio at *
  simp only [World.setCell, Array.getElem?_modify, if_true, h, Option.map_some]
  rfl

theorem gr_set3new {w w' : World} {b : Nat} (hg : w.grownBy w' none) (hb : w.heap.size ≤ b) (u v x : Value) : w.grownBy (((w'.setCell ⟨b, 0, none⟩ u).setCell ⟨b, 1, none⟩ v).setCell ⟨b, 2, none⟩ x) none :=
  gr_setNew (gr_setNew (gr_setNew hg hb 0 u) hb 1 v) hb 2 x

theorem rset_ok (m ba r t b : Int) (w : World) (h : nowB m t = true) (hf : shownB b = true) :
    Calls Tryz.prog 47 #[rclk m ba r, .int .i64 t, .int .i64 b] w fun e w' => e = .returned (.tuple #[rclk t b r, .int .i64 0]) ∧ w.grownBy w' none := by
  have h' : realB t = true ∧ m ≤ t := by simpa [nowB] using h
  obtain ⟨hr, hmt⟩ := h'
  clear h
  have Hr := hid hr; have Hf := hid hf; clear hr hf
  go_enter Tryz.func47, Tryz.ntmps47
  go_wp2_with (first | (go_at_call 56; refine (rreal_at t _ _ Hr).mono ?_; rintro e w' ⟨rfl, rfl⟩) | (go_at_call 57; refine (rshown_at b _ _ Hf).mono ?_; rintro e w' ⟨rfl, rfl⟩))
  exact bodyPost_ret (v := .tuple #[rclk t b r, .int .i64 0]) (by simp [results, Tryz.results47, go_sem]) rfl ⟨rfl, gr_alloc (gr_alloc (gr_refl w none) _) _⟩

theorem rset_bad (m ba r t r' : Int) (w : World) (h : (nowB m t && shownB r') = false) :
    Calls Tryz.prog 47 #[rclk m ba r, .int .i64 t, .int .i64 r'] w fun e w' => e = .returned (.tuple #[rclk m ba r, .int .i64 1]) ∧ w.grownBy w' none := by
  unfold nowB at h
  generalize hr : realB t = x at *
  generalize hf : shownB r' = y at *
  have Hr := hid hr; clear hr
  have Hf := hid hf; clear hf
  by_cases hmt : m ≤ t
  · cases x <;> cases y <;> simp [hmt] at h
    all_goals
      go_enter Tryz.func47, Tryz.ntmps47
      go_wp2_with (first | (go_at_call 56; refine (rreal_at t _ _ Hr).mono ?_; rintro e w' ⟨rfl, rfl⟩) | (go_at_call 57; refine (rshown_at r' _ _ Hf).mono ?_; rintro e w' ⟨rfl, rfl⟩))
      exact bodyPost_ret (v := .tuple #[rclk m ba r, .int .i64 1]) (by simp [results, Tryz.results47, go_sem]) rfl ⟨rfl, gr_alloc (gr_alloc (gr_refl w none) _) _⟩
  · clear h
    have hmt' : t < m := by omega
    clear hmt
    cases x <;> cases y
    all_goals
      go_enter Tryz.func47, Tryz.ntmps47
      go_wp2_with (first | (go_at_call 56; refine (rreal_at t _ _ Hr).mono ?_; rintro e w' ⟨rfl, rfl⟩) | (go_at_call 57; refine (rshown_at r' _ _ Hf).mono ?_; rintro e w' ⟨rfl, rfl⟩))
      exact bodyPost_ret (v := .tuple #[rclk m ba r, .int .i64 1]) (by simp [results, Tryz.results47, go_sem]) rfl ⟨rfl, gr_alloc (gr_alloc (gr_refl w none) _) _⟩

end Go.Proofs.YtckoaeoecjphiaaGreat

/- The document's When: the same time. -/
namespace Go.Proofs.YtckoaeoecjphiaaGreat
open Go.RowKit Go.Lib

theorem rbox_trio {w w1 : World} {T : TypeId} {x y z : Int} (h : (w.alloc (.cells #[.int .i64 x, .int .i64 y, .int .i64 z] T)).grownBy w1 none) : Trio T w1 w.heap.size x y z := (Trio.new T w x y z).kept h (by simp)

theorem rwhen_none (m ba r n : Int) (w : World) (ho : ClockOk m ba r) (h : clockAt m ba r 1125899906842624 < n) :
    Calls Tryz.prog 41 #[rclk m ba r, .int .i64 n] w fun e w' => e = .returned (.tuple #[.int .i64 0, .int .i64 5]) ∧ w.grownBy w' none := by
  have hm1 := ho.m1
  obtain ⟨x, hx⟩ : ∃ x, Hid (clockAt m ba r 1125899906842624 = x) := ⟨_, hid rfl⟩
  have hlt : x < n := by rw [← hx.out]; exact h
  clear h
  go_enter Tryz.func41, Tryz.ntmps41
  go_wp2_with fail
  refine (rat_ok m ba r 1125899906842624 x _ ho hm1 (by omega) hx).mono ?_
  rintro e w' ⟨rfl, hg⟩
  go_wp2_with fail
  go_ret2
  exact ⟨rfl, bx_gr hg⟩

/-- Steps: 0, 1, 2, 4 .. -/
def stepOf (k : Nat) : Int := ((2 ^ k / 2 : Nat) : Int)
theorem stepOf_zero : stepOf 0 = 0 := rfl
theorem stepOf_top : stepOf 51 = 1125899906842624 := rfl
theorem stepOf_succ (k : Nat) : stepOf (k + 1) = ((2 ^ k : Nat) : Int) := by unfold stepOf; rw [Nat.pow_succ]; congr 1; omega
theorem stepOf_half (k : Nat) : stepOf (k + 1) / 2 = stepOf k := by rw [stepOf_succ]; unfold stepOf; omega
theorem pow_pos' (k : Nat) : (1 : Int) ≤ ((2 ^ k : Nat) : Int) := by have := Nat.two_pow_pos k; omega
theorem stepOf_le (k : Nat) (h : k ≤ 51) : stepOf k ≤ 1125899906842624 := by
  unfold stepOf
  have : 2 ^ k ≤ 2 ^ 51 := Nat.pow_le_pow_right (by omega) h
  omega

set_option maxHeartbeats 800000 in
theorem rwhen_ok (m ba r n t : Int) (w : World) (ho : ClockOk m ba r) (ht : IsWhen m ba r n t) :
    Calls Tryz.prog 41 #[rclk m ba r, .int .i64 n] w fun e w' => e = .returned (.tuple #[.int .i64 t, .int .i64 0]) ∧ w.grownBy w' none := by
  have hm0 := ho.m0
  have hm1 := ho.m1
  have ht0 := ht.lo
  have ht1 := ht.hi
  obtain ⟨x, hx⟩ : ∃ x, Hid (clockAt m ba r 1125899906842624 = x) := ⟨_, hid rfl⟩
  have hge : n ≤ x := by rw [← hx.out]; exact Int.le_trans ht.at_t (clockAt_mono ho.r0 ht1)
  have Ht := hid ht; clear ht
  go_enter Tryz.func41, Tryz.ntmps41
  go_wp2_with fail
  refine (rat_ok m ba r 1125899906842624 x _ ho hm1 (by omega) hx).mono ?_
  rintro e w1 ⟨rfl, hg⟩
  have hT := rbox_trio hg
  have k0 := hT.c0
  go_wp2_with fail
  clear k0 hge
  go_loopw [6, 7] (fun tt st wr => ∃ (t' : Int) (k : Nat), tt = .int .i64 t' ∧ st = .int .i64 (stepOf k) ∧ k ≤ 51 ∧ m ≤ t' ∧ t' ≤ t ∧ t ≤ t' + ((2 ^ k : Nat) : Int) ∧ (w.alloc (.cells #[.int .i64 m, .int .i64 ba, .int .i64 r] 61)).grownBy wr none) (fun _ st _ => (intOf st).toNat)
  case atStart => exact ⟨m, 51, rfl, by rw [stepOf_top], by omega, by omega, ht0, by have : (2 ^ 51 : Nat) = 2251799813685248 := by decide
                                                                                     omega, hg⟩
  case round =>
    obtain ⟨t', k, rfl, rfl, hk, h1, h2, h3, hgr⟩ := hrel
    cases k with
    | zero =>
      rw [stepOf_zero]
      have h3' : t ≤ t' + 1 := by simpa using h3
      clear h3
      have hT := rbox_trio hgr
      have k0 := hT.c0; have k1 := hT.c1; have k2 := hT.c2
      obtain ⟨y, hy⟩ : ∃ y, Hid (clockAt m ba r t' = y) := ⟨_, hid rfl⟩
      by_cases hyn : y < n
      · have hlt : t' < t := by
          rcases Int.lt_or_le t' t with h4 | h4
          · exact h4
          · have h5 := clockAt_mono (m := m) (ba := ba) ho.r0 h4; have h6 := Ht.out.at_t; have h7 := hy.out; omega
        obtain rfl : t = t' + 1 := by omega
        go_wp2_with fail
        refine (rat_ok m ba r t' y _ ho h1 (by omega) hy).mono ?_
        rintro e w2 ⟨rfl, hg2⟩
        go_wp2_with fail
        go_ret2
        exact ⟨rfl, gr_trans (bx_gr hgr) hg2⟩
      · have hyn' : n ≤ y := by omega
        clear hyn
        have hle : t ≤ t' := by
          rcases Int.lt_or_le t' t with h4 | h4
          · have h5 := Ht.out.before t' h1 h4; have h7 := hy.out; omega
          · exact h4
        obtain rfl : t = t' := by omega
        go_wp2_with fail
        refine (rat_ok m ba r t y _ ho h1 (by omega) hy).mono ?_
        rintro e w2 ⟨rfl, hg2⟩
        go_wp2_with fail
        go_ret2
        exact ⟨rfl, gr_trans (bx_gr hgr) hg2⟩
    | succ k =>
      obtain ⟨s, hs⟩ : ∃ s, Hid (stepOf (k + 1) = s) := ⟨_, hid rfl⟩
      have hs1 : 1 ≤ s := by rw [← hs.out, stepOf_succ]; exact pow_pos' k
      have hs2 : s ≤ 1125899906842624 := by rw [← hs.out]; exact stepOf_le _ hk
      have hs3 : s / 2 = stepOf k := by rw [← hs.out]; exact stepOf_half k
      have hs4 : ((2 ^ (k + 1) : Nat) : Int) = 2 * s := by rw [← hs.out, stepOf_succ, Nat.pow_succ]; omega
      have hs5 : ((2 ^ k : Nat) : Int) = s := by rw [← hs.out, stepOf_succ]
      rw [hs.out]
      rw [hs4] at h3
      have Hs3 := hid hs3; have Hs5 := hid hs5
      clear hs3 hs4 hs5
      obtain ⟨wo, rfl⟩ : ∃ wo : World, wo = wr := ⟨_, rfl⟩
      have hpos : decide (0 < s) = true := by simp; omega
      go_wp2_with fail
      clear hpos
      go_loopw [6] (fun tt wr => ∃ (t2 : Int), tt = .int .i64 t2 ∧ m ≤ t2 ∧ t2 ≤ t ∧ t ≤ t2 + 2 * s ∧ (w.alloc (.cells #[.int .i64 m, .int .i64 ba, .int .i64 r] 61)).grownBy wr none) (fun tt _ => (1125899906842624 - intOf tt).toNat)
      case atStart => exact ⟨t', rfl, h1, h2, h3, hgr⟩
      case round =>
        obtain ⟨t2, rfl, i1, i2, i3, hgi⟩ := hrel
        have hT := rbox_trio hgi
        have k0 := hT.c0; have k1 := hT.c1; have k2 := hT.c2
        by_cases hle : t2 + s ≤ 1125899906842624
        · obtain ⟨y, hy⟩ : ∃ y, Hid (clockAt m ba r (t2 + s) = y) := ⟨_, hid rfl⟩
          by_cases hyn : y < n
          · have hlt : t2 + s < t := by
              rcases Int.lt_or_le (t2 + s) t with h4 | h4
              · exact h4
              · have h5 := clockAt_mono (m := m) (ba := ba) ho.r0 h4; have h6 := Ht.out.at_t; have h7 := hy.out; omega
            go_wp2_with fail
            refine (rat_ok m ba r (t2 + s) y _ ho (by omega) hle hy).mono ?_
            rintro e w2 ⟨rfl, hg2⟩
            go_wp2_with fail
            go_roundw
            case rel => exact ⟨t2 + s, rfl, by omega, by omega, by omega, gr_trans hgi hg2⟩
            case measure => simp [intOf]; omega
          · have hyn' : n ≤ y := by omega
            clear hyn
            have hlt : t ≤ t2 + s := by
              rcases Int.lt_or_le (t2 + s) t with h4 | h4
              · have h5 := Ht.out.before (t2 + s) (by omega) h4; have h7 := hy.out; omega
              · exact h4
            go_wp2_with fail
            refine (rat_ok m ba r (t2 + s) y _ ho (by omega) hle hy).mono ?_
            rintro e w2 ⟨rfl, hg2⟩
            go_wp2_with fail
            go_roundw
            case rel => exact ⟨t2, k, rfl, by rw [Hs3.out], by omega, i1, i2, by rw [Hs5.out]; exact hlt, gr_trans hgi hg2⟩
            case measure => simp [intOf]; omega
        · have hgt : 1125899906842624 < t2 + s := by omega
          clear hle
          go_wp2_with fail
          go_roundw
          case rel => exact ⟨t2, k, rfl, by rw [Hs3.out], by omega, i1, i2, by rw [Hs5.out]; omega, hgi⟩
          case measure => simp [intOf]; omega
end Go.Proofs.YtckoaeoecjphiaaGreat

/- The document's round: leaves (its clock's When and Due, Offset, Accept, InTime). -/
namespace Go.Proofs.YtckoaeoecjphiaaGreat
open Go.RowKit Go.Lib

/-- A clock, by value. -/
abbrev ckV (k : Ck) : Value := rclk k.m k.b k.r
theorem rwhen_any (k : Ck) (n : Int) (w : World) (ho : k.ok) :
    Calls Tryz.prog 41 #[ckV k, .int .i64 n] w fun e w' => e = .returned (.tuple #[.int .i64 (whenR k n).1, .int .i64 (whenR k n).2]) ∧ w.grownBy w' none := by
  rcases whenR_cases k ho n with ⟨t, ht, e⟩ | ⟨h, e⟩
  · rw [e]; exact rwhen_ok _ _ _ n t w ho ht
  · rw [e]; exact rwhen_none _ _ _ n w ho h
set_option maxHeartbeats 1000000 in
theorem rdue_any (k : Ck) (t cl dl : Int) (w : World) (ho : k.ok) (hd : 0 ≤ dl ∧ dl ≤ 1048576) (hcl : 0 ≤ cl ∧ cl ≤ dl) :
    Calls Tryz.prog 91 #[ckV k, .int .i64 t, .int .i64 cl, .int .i64 dl] w fun e w' => e = .returned (.tuple #[.int .i64 (dueR k t cl dl).1, .int .i64 (dueR k t cl dl).2]) ∧ w.grownBy w' none := by
  obtain ⟨d0, d1⟩ := hd
  obtain ⟨c0, c1⟩ := hcl
  have Ho := hid ho
  unfold dueR
  by_cases h : nowB k.m t = true
  · rw [if_pos h]
    obtain ⟨now, hn⟩ : ∃ n, Hid (clockAt k.m k.b k.r t = n) := ⟨_, hid rfl⟩
    have H := hid h
    have hnb : -4611686018427387904 ≤ now ∧ now ≤ 4611686018427387904 := by
      have h' : realB t = true ∧ k.m ≤ t := by simpa [nowB] using h
      have h1 := realB_iff.1 h'.1
      have h2 := clockAt_bd ho h'.2
      rw [hn.out] at h2
      omega
    obtain ⟨n0, n1⟩ := hnb
    have hn2 : k.at_ t = now := hn.out
    rw [hn2]
    obtain ⟨X, hX⟩ : ∃ X, whenR k (now + dl - cl) = X := ⟨_, rfl⟩
    have Hw : Hid (∀ w', Calls Tryz.prog 41 #[ckV k, .int .i64 (now + dl - cl)] w' fun e w2 => e = .returned (.tuple #[.int .i64 X.1, .int .i64 X.2]) ∧ w'.grownBy w2 none) := hid (fun w' => by rw [← hX]; exact rwhen_any k _ w' ho)
    rw [hX]
    obtain ⟨X1, X2⟩ := X
    dsimp only at *
    clear ho h hn2 hX
    obtain ⟨m, ba, r⟩ := k
    dsimp only [ckV] at *
    go_enter Tryz.func91, Tryz.ntmps91
    go_wp2_with fail
    refine (rnow_ok m ba r t now _ Ho.out H.out hn).mono ?_
    rintro e w1 ⟨rfl, g1⟩
    have y0 := bx_cell g1 0 (.int .i64 m) rfl
    have y1 := bx_cell g1 1 (.int .i64 ba) rfl
    have y2 := bx_cell g1 2 (.int .i64 r) rfl
    have G1 := hid (bx_gr g1)
    clear g1
    go_wp2_with fail
    refine (Hw.out _).mono ?_
    rintro e w2 ⟨rfl, g2⟩
    have G2 := hid (gr_trans G1.out g2)
    clear g2
    go_wp2_with fail
    go_ret2
    exact ⟨rfl, G2.out⟩
  · rw [if_neg h]
    have H := hid (Bool.eq_false_iff.2 h)
    clear ho h
    obtain ⟨m, ba, r⟩ := k
    dsimp only [ckV] at *
    go_enter Tryz.func91, Tryz.ntmps91
    go_wp2_with fail
    refine (rnow_bad m ba r t _ H.out).mono ?_
    rintro e w1 ⟨rfl, g1⟩
    have y0 := bx_cell g1 0 (.int .i64 m) rfl
    have y1 := bx_cell g1 1 (.int .i64 ba) rfl
    have y2 := bx_cell g1 2 (.int .i64 r) rfl
    go_wp2_with fail
    go_ret2
    exact ⟨rfl, bx_gr g1⟩
theorem roffset_any (c : Cf) (vd ve vl : Value) (w : World) (h : spansZ c = true) :
    Calls Tryz.prog 46 #[cfV c vd ve vl] w fun e w' => e = .returned (.int .i64 (expZ c)) ∧ w.grownBy w' none := by
  obtain ⟨_, ⟨d0, d1⟩, ⟨w0, w1⟩, _⟩ := spansZ_bd h
  clear h
  obtain ⟨ho, C, de, wi, pr, qu⟩ := c
  dsimp only at *
  have s1 : IntKind.i64.wrap (de + de) = de + de := IntWalk.i64_in _ (by omega)
  have s2 : IntKind.i64.wrap (de + de + wi) = de + de + wi := IntWalk.i64_in _ (by omega)
  go_enter Tryz.func46, Tryz.ntmps46
  go_wp2_with fail
  go_ret
  have e : expZ ⟨ho, C, de, wi, pr, qu⟩ = de + de + wi := by unfold expZ; dsimp only; omega
  rw [e]
  exact ⟨rfl, gr_alloc (gr_refl w none) _⟩
theorem raccept_any (c : Cf) (vd ve vl : Value) (w : World) (h : spansZ c = true) :
    Calls Tryz.prog 13 #[cfV c vd ve vl] w fun e w' => e = .returned (.int .i64 (accZ c)) ∧ w.grownBy w' none := by
  obtain ⟨_, _, ⟨w0, w1⟩, ⟨q0, q1⟩⟩ := spansZ_bd h
  clear h
  obtain ⟨ho, C, de, wi, pr, qu⟩ := c
  dsimp only at *
  have s1 : IntKind.i64.wrap (wi + pr) = wi + pr := IntWalk.i64_in _ (by omega)
  have s2 : IntKind.i64.wrap (wi + pr + pr) = wi + pr + pr := IntWalk.i64_in _ (by omega)
  go_enter Tryz.func13, Tryz.ntmps13
  go_wp2_with fail
  go_ret
  have e : accZ ⟨ho, C, de, wi, pr, qu⟩ = wi + pr + pr := by unfold accZ; dsimp only; omega
  rw [e]
  exact ⟨rfl, gr_alloc (gr_refl w none) _⟩
end Go.Proofs.YtckoaeoecjphiaaGreat
