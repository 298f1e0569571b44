/- tocsinlaw03.MeanBad, walked. -/
import Derived.Test.YtlcjjbahbfcmoaaOrdersW
namespace Go.Proofs.Ytlcjjbahbfcmoaa
open Go.RowKit Go.Lib

theorem one_cell {w : World} {g : Nat} {x : Value} (h : w.cell? ⟨g, 0, none⟩ = some x) : ∀ j u, [x][j]? = some u → w.cell? ((⟨g, 0, none⟩ : Addr).add j) = some u := by
  intro j u hj
  cases j with
  | zero => simp at hj; subst hj; exact h
  | succ j => simp at hj

set_option maxRecDepth 100000 in
set_option maxHeartbeats 2000000 in
theorem bad_short (a : Option Addr) (n cap : Nat) (hn : n < 2) (x t : Int) (w : World) :
    Calls Try.prog 5 #[.slice a n cap, .int .i64 x, .int .i64 t] w fun e w' => e = .returned (.bool true) ∧ Below w.heap.size w w' := by
  have hd : decide ((n : Int) < 2) = true := by simp; omega
  go_enter Try.func5, Try.ntmps5
  go_wp2_with fail
  refine (fixed_true _).mono ?_
  rintro e w1 ⟨rfl, g1⟩
  go_wp2_with fail
  go_ret
  exact ⟨rfl, gr_below g1 (Nat.le_refl _) (by simp)⟩

set_option maxRecDepth 100000 in
set_option maxHeartbeats 2000000 in
theorem bad_long (b off cap : Nat) (zs : List Int) (hz : 2 ≤ zs.length) (hcap : zs.length ≤ cap) (hreach : zs.length * 8 ≤ 140737488351232) (h64 : In64 zs) (x : Int) (bx : -9223372036854775808 ≤ x ∧ x ≤ 9223372036854775807) (t : Int) (w : World) (hI : Ints w.heap.size w (.slice (some ⟨b, off, none⟩) zs.length cap) zs) :
    Calls Try.prog 5 #[.slice (some ⟨b, off, none⟩) zs.length cap, .int .i64 x, .int .i64 t] w fun e w' => e = .returned (.bool true) ∧ Below w.heap.size w w' := by
  obtain ⟨i0, hi, hz0, hz1, hz2⟩ := info_parts Try.info_i64
  have HI := hid hI
  have H64 := hid h64
  have Hr := hid hreach
  have Bx := hid bx
  clear hI h64 hreach bx
  obtain ⟨n, hn⟩ : ∃ n, Hid (zs.length = n) := ⟨_, hid rfl⟩
  rw [hn.out] at hz hcap
  have hgoal := hn.out
  rw [hgoal]
  clear hgoal
  have hd : decide ((n : Int) < 2) = false := by simp; omega
  have hn64 : (n : Int) + 1 ≤ 9223372036854775807 := by have := Hr.out; rw [hn.out] at this; omega
  have hwn : IntKind.u64.wrap ((n : Int) + 1) = (n : Int) + 1 := by rw [IntKind.wrap_u64]; omega
  obtain ⟨k, hk, hkn⟩ : ∃ k : Nat, Hid (wrap64 ((IntKind.u64.wrap t).tmod ((n : Int) + 1)) = (k : Int)) ∧ k ≤ n := by
    have h0 : 0 ≤ IntKind.u64.wrap t := by rw [IntKind.wrap_u64]; omega
    have h1 := Int.tmod_nonneg ((n : Int) + 1) h0
    have h2 := Int.tmod_lt_of_pos (IntKind.u64.wrap t) (show 0 < (n : Int) + 1 by omega)
    refine ⟨((IntKind.u64.wrap t).tmod ((n : Int) + 1)).toNat, hid ?_, ?_⟩
    · unfold wrap64
      omega
    · omega
  have hr8 : n * 8 ≤ 140737488351232 := by have := Hr.out; rwa [hn.out] at this
  by_cases e1 : cap = k
  · obtain rfl : n = k := by omega
    obtain rfl : n = cap := e1.symm
    clear hcap hkn
    have hr9 : n * 8 ≤ 140737488351232 := hr8
    have e4 : ¬ n = 0 := by omega
    go_enter Try.func5, Try.ntmps5
    go_wp2_with fail
    refine (fixed_true _).mono ?_
    rintro e w1 ⟨rfl, g1⟩
    go_wp2_with fail
    clear hwn hd
    rw [hk.out]
    have G1 := hid g1.size
    have HA1 : Hid ((w1.drew.alloc (.cells #[] 2)).ownsRow w1.heap.size 2 1 (.slice (some ⟨w1.heap.size, 0, none⟩) 0 0) 0 []) := hid (World.ownsRow_made w1.drew #[] 0 (Nat.le_refl _) (by simp) rfl)
    have HA2 := hid (HA1.out.alloc (.cells #[.int .i64 x] 2))
    have HA3 : Hid (((w1.drew.alloc (.cells #[.int .i64 x] 2)).alloc (.cells #[] 2)).ownsRow w1.heap.size 2 1 (.slice (some ⟨w1.heap.size + 1, 0, none⟩) 0 0) 0 []) := hid (by
      have := World.ownsRow_made (base := w1.heap.size) (e := 2) (size := 1) (w1.drew.alloc (.cells #[.int .i64 x] 2)) #[] 0 (by simp) (by simp) rfl
      simpa using this)
    have B1 : Hid (Below w.heap.size w (w1.drew.alloc (.cells #[] 2))) := hid (gr_below (gr_alloc (gr_drew g1) _) (Nat.le_refl _) (by simp))
    have B2 : Hid (Below w.heap.size w ((w1.drew.alloc (.cells #[] 2)).alloc (.cells #[.int .i64 x] 2))) := hid (gr_below (gr_alloc (gr_alloc (gr_drew g1) _) _) (Nat.le_refl _) (by simp))
    have B3 : Hid (Below w.heap.size w ((w1.drew.alloc (.cells #[.int .i64 x] 2)).alloc (.cells #[] 2))) := hid (gr_below (gr_alloc (gr_alloc (gr_drew g1) _) _) (Nat.le_refl _) (by simp))
    have X2 : Hid (((w1.drew.alloc (.cells #[] 2)).alloc (.cells #[.int .i64 x] 2)).cell? ⟨w1.heap.size + 1, 0, none⟩ = some (.int .i64 x)) := hid (by
      have := World.cell?_alloc_new (w1.drew.alloc (.cells #[] 2)) #[.int .i64 x] 2 0
      simpa using this)
    have X3 : Hid (((w1.drew.alloc (.cells #[.int .i64 x] 2)).alloc (.cells #[] 2)).cell? ⟨w1.heap.size, 0, none⟩ = some (.int .i64 x)) := hid (by
      have h1 := World.cell?_alloc_new w1.drew #[.int .i64 x] 2 0
      have h2 := gr_cell (World.grownBy_alloc (w1.drew.alloc (.cells #[.int .i64 x] 2)) (.cells #[] 2) none) h1
      simpa using h2)
    have N1 := hid (ints_upto (HI.out.below B1.out) n)
    have N2 := hid (ints_upto (HI.out.below B2.out) n)
    have N3 := hid (ints_upto (HI.out.below B3.out) n)
    have Hl1 : Hid (((zs.take n).map (Value.int .i64)).length = n * 1) := hid (by simp [hn.out])
    have Hl2 : Hid (((zs.drop n).map (Value.int .i64)).length = 0 * 1) := hid (by simp [hn.out])
    have hlist : Hid (([] ++ (zs.take n).map (Value.int .i64) ++ [Value.int .i64 x]) ++ (zs.drop n).map (Value.int .i64) = (zs.take n ++ x :: zs.drop n).map (Value.int .i64)) := hid (by simp)
    go_region_law (first
        | (refine step_append_own rfl (.tmp 25) (.tmp 28) 22 rfl w1.heap.size 2 i0 (.int .i64 0) 1 8 Try.underlying22 hi hz0 hz1 hz2 rfl (by decide) (.slice (some ⟨w1.heap.size, 0, none⟩) 0 0) 0 [] (by simp [Act.eval]) HA1.out ⟨b, off, none⟩ n n ((zs.take n).map (Value.int .i64)) (by simp [Act.eval]) Hl1.out N1.out (one_ints _) (by unfold maxLen; omega) (by omega) (by simp <;> omega) ?_; intro v2 w2 hown2 hg2; have Hown2 := hid hown2; have HB2 : Hid (Below w.heap.size w w2) := hid (B1.out.trans (gr_below hg2 B1.out.size (by intro q hq; have : w1.heap.size = q := (by simpa [Value.ownBlock] using hq); have := G1.out; omega))); have HG2 : Hid (w1.heap.size ≤ w2.heap.size) := hid (Nat.le_trans (by simp <;> omega) hg2.size); have _u := 0; clear hown2 hg2)
        | (refine step_append_own rfl (.tmp 25) (.tmp 28) 22 rfl w1.heap.size 2 i0 (.int .i64 0) 1 8 Try.underlying22 hi hz0 hz1 hz2 rfl (by decide) (.slice (some ⟨w1.heap.size, 0, none⟩) 0 0) 0 [] (by simp [Act.eval]) HA2.out ⟨b, off, none⟩ n n ((zs.take n).map (Value.int .i64)) (by simp [Act.eval]) Hl1.out N2.out (one_ints _) (by unfold maxLen; omega) (by omega) (by simp <;> omega) ?_; intro v2 w2 hown2 hg2; have Hown2 := hid hown2; have HB2 : Hid (Below w.heap.size w w2) := hid (B2.out.trans (gr_below hg2 B2.out.size (by intro q hq; have : w1.heap.size = q := (by simpa [Value.ownBlock] using hq); have := G1.out; omega))); have HG2 : Hid (w1.heap.size ≤ w2.heap.size) := hid (Nat.le_trans (by simp <;> omega) hg2.size); have HX := hid (hg2.cell X2.out (by simp [Value.ownBlock])); clear hown2 hg2)
        | (refine step_append_own rfl (.tmp 25) (.tmp 28) 22 rfl w1.heap.size 2 i0 (.int .i64 0) 1 8 Try.underlying22 hi hz0 hz1 hz2 rfl (by decide) (.slice (some ⟨w1.heap.size + 1, 0, none⟩) 0 0) 0 [] (by simp [Act.eval]) HA3.out ⟨b, off, none⟩ n n ((zs.take n).map (Value.int .i64)) (by simp [Act.eval]) Hl1.out N3.out (one_ints _) (by unfold maxLen; omega) (by omega) (by simp <;> omega) ?_; intro v2 w2 hown2 hg2; have Hown2 := hid hown2; have HB2 : Hid (Below w.heap.size w w2) := hid (B3.out.trans (gr_below hg2 B3.out.size (by intro q hq; have : w1.heap.size + 1 = q := (by simpa [Value.ownBlock] using hq); have := G1.out; omega))); have HG2 : Hid (w1.heap.size ≤ w2.heap.size) := hid (Nat.le_trans (by simp <;> omega) hg2.size); have HX := hid (hg2.cell X3.out (by simp [Value.ownBlock])); clear hown2 hg2)
        | (refine step_append_own rfl (.tmp 29) (.tmp 31) 22 rfl w1.heap.size 2 i0 (.int .i64 0) 1 8 Try.underlying22 hi hz0 hz1 hz2 rfl (by decide) v2 (0 + n) ([] ++ (zs.take n).map (Value.int .i64)) (by simp [Act.eval]) (Hown2.out.alloc _) ⟨w2.heap.size, 0, none⟩ 1 1 [.int .i64 x] (by simp [Act.eval]) rfl (cell_one_new _ _ _) (by simp [Value.oneCell']) (by unfold maxLen; omega) (by omega) (by have := HG2.out; simp; omega) ?_; intro v3 w3 hown3 hg3; have Hown3 := hid hown3; have HB3 : Hid (Below w.heap.size w w3) := hid ((HB2.out.alloc HB2.out.size _).trans (gr_below hg3 (by have := HB2.out.size; simp; omega) (by intro q hq; have := (Hown2.out.lt q hq).1; have := G1.out; omega))); have HG3 : Hid (w1.heap.size ≤ w3.heap.size) := hid (Nat.le_trans (by have := HG2.out; simp; omega) hg3.size); have Hn3 : Hid (∀ (j : Nat) (u : Value), ((zs.drop n).map (Value.int .i64))[j]? = some u → w3.cell? ((⟨b, off, none⟩ : Addr).add j) = some u) := hid (fun j u hj => by have hlt := (List.getElem?_eq_some_iff.1 hj).1; rw [Hl2.out] at hlt; omega); clear hown3 hg3)
        | (refine step_append_own rfl (.tmp 29) (.tmp 31) 22 rfl w1.heap.size 2 i0 (.int .i64 0) 1 8 Try.underlying22 hi hz0 hz1 hz2 rfl (by decide) v2 (0 + n) ([] ++ (zs.take n).map (Value.int .i64)) (by simp [Act.eval]) Hown2.out ⟨w1.heap.size + 1, 0, none⟩ 1 1 [.int .i64 x] (by simp [Act.eval]) rfl (one_cell HX.out) (by simp [Value.oneCell']) (by unfold maxLen; omega) (by omega) HG2.out ?_; intro v3 w3 hown3 hg3; have Hown3 := hid hown3; have HB3 : Hid (Below w.heap.size w w3) := hid (HB2.out.trans (gr_below hg3 HB2.out.size (by intro q hq; have := (Hown2.out.lt q hq).1; have := G1.out; omega))); have HG3 : Hid (w1.heap.size ≤ w3.heap.size) := hid (Nat.le_trans HG2.out hg3.size); have Hn3 : Hid (∀ (j : Nat) (u : Value), ((zs.drop n).map (Value.int .i64))[j]? = some u → w3.cell? ((⟨b, off, none⟩ : Addr).add j) = some u) := hid (fun j u hj => by have hlt := (List.getElem?_eq_some_iff.1 hj).1; rw [Hl2.out] at hlt; omega); clear hown3 hg3)
        | (refine step_append_own rfl (.tmp 29) (.tmp 31) 22 rfl w1.heap.size 2 i0 (.int .i64 0) 1 8 Try.underlying22 hi hz0 hz1 hz2 rfl (by decide) v2 (0 + n) ([] ++ (zs.take n).map (Value.int .i64)) (by simp [Act.eval]) Hown2.out ⟨w1.heap.size, 0, none⟩ 1 1 [.int .i64 x] (by simp [Act.eval]) rfl (one_cell HX.out) (by simp [Value.oneCell']) (by unfold maxLen; omega) (by omega) HG2.out ?_; intro v3 w3 hown3 hg3; have Hown3 := hid hown3; have HB3 : Hid (Below w.heap.size w w3) := hid (HB2.out.trans (gr_below hg3 HB2.out.size (by intro q hq; have := (Hown2.out.lt q hq).1; have := G1.out; omega))); have HG3 : Hid (w1.heap.size ≤ w3.heap.size) := hid (Nat.le_trans HG2.out hg3.size); have Hn3 : Hid (∀ (j : Nat) (u : Value), ((zs.drop n).map (Value.int .i64))[j]? = some u → w3.cell? ((⟨b, off, none⟩ : Addr).add j) = some u) := hid (fun j u hj => by have hlt := (List.getElem?_eq_some_iff.1 hj).1; rw [Hl2.out] at hlt; omega); clear hown3 hg3)
        | (refine step_append_own rfl (.tmp 32) (.tmp 35) 22 rfl w1.heap.size 2 i0 (.int .i64 0) 1 8 Try.underlying22 hi hz0 hz1 hz2 rfl (by decide) v3 (0 + n + 1) (([] ++ (zs.take n).map (Value.int .i64)) ++ [.int .i64 x]) (by simp [Act.eval]) Hown3.out ⟨b, off, none⟩ 0 0 ((zs.drop n).map (Value.int .i64)) (by simp [Act.eval]) Hl2.out Hn3.out (one_ints _) (by unfold maxLen; omega) (by omega) HG3.out ?_; intro v4 w4 hown4 hg4; have Hown4 := hid hown4; have HB4 : Hid (Below w.heap.size w w4) := hid (HB3.out.trans (gr_below hg4 HB3.out.size (by intro q hq; have := (Hown3.out.lt q hq).1; have := G1.out; omega))); clear hown4 hg4))
    all_goals
      have hJ := own_ints (zs := zs.take n ++ x :: zs.drop n) (w := w4) (base := w1.heap.size) (e := 2) (v := v4) (by
        have := Hown4.out
        rw [hlist.out] at this
        rw [show (zs.take n ++ x :: zs.drop n).length = 0 + n + 1 + 0 from by simp [hn.out] <;> omega]
        exact this)
      have Hperm : Hid ((zs.take n ++ x :: zs.drop n).Perm (x :: zs)) := hid (by
        have := List.perm_middle (a := x) (l₁ := zs.take n) (l₂ := zs.drop n)
        rwa [List.take_append_drop] at this)
      have Hlm : Hid ((zs.take n ++ x :: zs.drop n).length = n + 1) := hid (by rw [Hperm.out.length_eq, List.length_cons, hn.out])
      have H64m : Hid (In64 (zs.take n ++ x :: zs.drop n)) := hid (fun y hy => by
        rcases List.mem_cons.1 (Hperm.out.mem_iff.1 hy) with h | h
        · rw [h]; exact Bx.out
        · exact H64.out y h)
      obtain ⟨a2, len, cap2, rfl⟩ : ∃ a2 len cap2, v4 = .slice a2 len cap2 := by
        rcases hJ with ⟨a, n, e, _⟩ | ⟨b, off, n', e, _⟩
        · exact ⟨_, _, _, e⟩
        · exact ⟨_, _, _, e⟩
      have hlen : len = n + 1 := by have := hJ.slice; rw [Hlm.out] at this; exact this
      subst hlen
      have HJ := hid hJ
      have HIn := HI
      rw [hn.out] at HIn
      obtain ⟨ms, hms⟩ : ∃ ms, Hid (zs.take n ++ x :: zs.drop n = ms) := ⟨_, hid rfl⟩
      rw [hms.out] at Hperm Hlm H64m HJ
      have Hb := tolL_bad Hperm.out (by rw [hn.out]; exact hz)
      rw [hn.out] at Hb
      have Hnm : Hid (ms ≠ []) := hid (by intro h; have := Hlm.out; rw [h] at this; simp at this)
      obtain ⟨lo, hlo⟩ : ∃ lo, Hid (nth (sortL zs) 0 = lo) := ⟨_, hid rfl⟩
      obtain ⟨hi', hhi⟩ : ∃ hi', Hid (nth (sortL zs) (n - 1) = hi') := ⟨_, hid rfl⟩
      obtain ⟨T', hT⟩ : ∃ T', Hid (tolL ms = T') := ⟨_, hid rfl⟩
      rw [hlo.out, hhi.out, hT.out] at Hb
      obtain ⟨q1, q2⟩ := Hb
      have HB4' := HB4
      have hr9' := hid hr9
      clear hJ hms hlist Hl1 Hl2 N1 N2 N3 X2 X3 B1 B2 B3 HA1 HA2 HA3 Hn3 Hown4 Hown3 HG3 HB3 Hown2 HG2 HB2 G1
      go_wp2_with fail
      refine (tolerant_any a2 (n + 1) cap2 ms (by rw [Hlm.out]; have := hr9'.out; omega) H64m.out _ HJ.out).mono ?_
      rintro e w5 ⟨rfl, g5⟩
      rw [if_neg Hnm.out, hT.out]
      have HB5 := hid (HB4.out.trans (gr_below g5 HB4.out.size (by simp)))
      go_wp2_with fail
      have hgS : Calls Try.prog 21 #[.slice (some ⟨b, off, none⟩) n n] w5 fun e w' => ∃ v, e = .returned v ∧ w'.ownsRow w5.heap.size 2 1 v n ((sortL zs).map (Value.int .i64)) ∧ Below w5.heap.size w5 w' := by
        have := rsorted_any w5.heap.size n zs hn.out (by have := hr9'.out; omega) (some ⟨b, off, none⟩) n w5 (by rw [hn.out]; omega) (Nat.le_refl _) ((HI.out.below HB5.out).mono HB5.out.size)
        rw [hn.out] at this
        exact this
      refine hgS.mono ?_
      rintro e w6 ⟨v, rfl, hown, hB6⟩
      obtain ⟨gs, cs, rfl, hgs, hcells⟩ := own_cells hown (by rw [(sortL_perm _).length_eq, hn.out]) (by omega)
      have c0 := hcells 0 (by omega)
      have c1 := hcells (n - 1) (by omega)
      rw [hlo.out] at c0
      rw [hhi.out] at c1
      have HB6 := hid (HB5.out.trans (hB6.mono HB5.out.size))
      have t1 : ((n : Int) - 1).toNat = n - 1 := by omega
      clear hgS hown hcells hB6 hgs
      go_wp2_with fail
      go_ret
      exact ⟨rfl, HB6.out⟩

  · skip
    have hr9 : n * 8 ≤ 140737488351232 := hr8
    have e2 : (k : Int) ≤ (n : Int) := by omega
    have e3 : (k : Int) ≤ (cap : Int) := by omega
    have e4 : ¬ cap = 0 := by omega
    go_enter Try.func5, Try.ntmps5
    go_wp2_with fail
    refine (fixed_true _).mono ?_
    rintro e w1 ⟨rfl, g1⟩
    go_wp2_with fail
    clear hwn hd
    rw [hk.out]
    have G1 := hid g1.size
    have HA1 : Hid ((w1.drew.alloc (.cells #[] 2)).ownsRow w1.heap.size 2 1 (.slice (some ⟨w1.heap.size, 0, none⟩) 0 0) 0 []) := hid (World.ownsRow_made w1.drew #[] 0 (Nat.le_refl _) (by simp) rfl)
    have HA2 := hid (HA1.out.alloc (.cells #[.int .i64 x] 2))
    have HA3 : Hid (((w1.drew.alloc (.cells #[.int .i64 x] 2)).alloc (.cells #[] 2)).ownsRow w1.heap.size 2 1 (.slice (some ⟨w1.heap.size + 1, 0, none⟩) 0 0) 0 []) := hid (by
      have := World.ownsRow_made (base := w1.heap.size) (e := 2) (size := 1) (w1.drew.alloc (.cells #[.int .i64 x] 2)) #[] 0 (by simp) (by simp) rfl
      simpa using this)
    have B1 : Hid (Below w.heap.size w (w1.drew.alloc (.cells #[] 2))) := hid (gr_below (gr_alloc (gr_drew g1) _) (Nat.le_refl _) (by simp))
    have B2 : Hid (Below w.heap.size w ((w1.drew.alloc (.cells #[] 2)).alloc (.cells #[.int .i64 x] 2))) := hid (gr_below (gr_alloc (gr_alloc (gr_drew g1) _) _) (Nat.le_refl _) (by simp))
    have B3 : Hid (Below w.heap.size w ((w1.drew.alloc (.cells #[.int .i64 x] 2)).alloc (.cells #[] 2))) := hid (gr_below (gr_alloc (gr_alloc (gr_drew g1) _) _) (Nat.le_refl _) (by simp))
    have X2 : Hid (((w1.drew.alloc (.cells #[] 2)).alloc (.cells #[.int .i64 x] 2)).cell? ⟨w1.heap.size + 1, 0, none⟩ = some (.int .i64 x)) := hid (by
      have := World.cell?_alloc_new (w1.drew.alloc (.cells #[] 2)) #[.int .i64 x] 2 0
      simpa using this)
    have X3 : Hid (((w1.drew.alloc (.cells #[.int .i64 x] 2)).alloc (.cells #[] 2)).cell? ⟨w1.heap.size, 0, none⟩ = some (.int .i64 x)) := hid (by
      have h1 := World.cell?_alloc_new w1.drew #[.int .i64 x] 2 0
      have h2 := gr_cell (World.grownBy_alloc (w1.drew.alloc (.cells #[.int .i64 x] 2)) (.cells #[] 2) none) h1
      simpa using h2)
    have N1 := hid (ints_upto (HI.out.below B1.out) k)
    have N2 := hid (ints_upto (HI.out.below B2.out) k)
    have N3 := hid (ints_upto (HI.out.below B3.out) k)
    have Hl1 : Hid (((zs.take k).map (Value.int .i64)).length = k * 1) := hid (by simp [hn.out]; omega)
    have Hl2 : Hid (((zs.drop k).map (Value.int .i64)).length = (n - k) * 1) := hid (by simp [hn.out])
    have hlist : Hid (([] ++ (zs.take k).map (Value.int .i64) ++ [Value.int .i64 x]) ++ (zs.drop k).map (Value.int .i64) = (zs.take k ++ x :: zs.drop k).map (Value.int .i64)) := hid (by simp)
    go_region_law (first
        | (refine step_append_own rfl (.tmp 25) (.tmp 28) 22 rfl w1.heap.size 2 i0 (.int .i64 0) 1 8 Try.underlying22 hi hz0 hz1 hz2 rfl (by decide) (.slice (some ⟨w1.heap.size, 0, none⟩) 0 0) 0 [] (by simp [Act.eval]) HA1.out ⟨b, off, none⟩ k cap ((zs.take k).map (Value.int .i64)) (by simp [Act.eval]) Hl1.out N1.out (one_ints _) (by unfold maxLen; omega) (by omega) (by simp <;> omega) ?_; intro v2 w2 hown2 hg2; have Hown2 := hid hown2; have HB2 : Hid (Below w.heap.size w w2) := hid (B1.out.trans (gr_below hg2 B1.out.size (by intro q hq; have : w1.heap.size = q := (by simpa [Value.ownBlock] using hq); have := G1.out; omega))); have HG2 : Hid (w1.heap.size ≤ w2.heap.size) := hid (Nat.le_trans (by simp <;> omega) hg2.size); have _u := 0; clear hown2 hg2)
        | (refine step_append_own rfl (.tmp 25) (.tmp 28) 22 rfl w1.heap.size 2 i0 (.int .i64 0) 1 8 Try.underlying22 hi hz0 hz1 hz2 rfl (by decide) (.slice (some ⟨w1.heap.size, 0, none⟩) 0 0) 0 [] (by simp [Act.eval]) HA2.out ⟨b, off, none⟩ k cap ((zs.take k).map (Value.int .i64)) (by simp [Act.eval]) Hl1.out N2.out (one_ints _) (by unfold maxLen; omega) (by omega) (by simp <;> omega) ?_; intro v2 w2 hown2 hg2; have Hown2 := hid hown2; have HB2 : Hid (Below w.heap.size w w2) := hid (B2.out.trans (gr_below hg2 B2.out.size (by intro q hq; have : w1.heap.size = q := (by simpa [Value.ownBlock] using hq); have := G1.out; omega))); have HG2 : Hid (w1.heap.size ≤ w2.heap.size) := hid (Nat.le_trans (by simp <;> omega) hg2.size); have HX := hid (hg2.cell X2.out (by simp [Value.ownBlock])); clear hown2 hg2)
        | (refine step_append_own rfl (.tmp 25) (.tmp 28) 22 rfl w1.heap.size 2 i0 (.int .i64 0) 1 8 Try.underlying22 hi hz0 hz1 hz2 rfl (by decide) (.slice (some ⟨w1.heap.size + 1, 0, none⟩) 0 0) 0 [] (by simp [Act.eval]) HA3.out ⟨b, off, none⟩ k cap ((zs.take k).map (Value.int .i64)) (by simp [Act.eval]) Hl1.out N3.out (one_ints _) (by unfold maxLen; omega) (by omega) (by simp <;> omega) ?_; intro v2 w2 hown2 hg2; have Hown2 := hid hown2; have HB2 : Hid (Below w.heap.size w w2) := hid (B3.out.trans (gr_below hg2 B3.out.size (by intro q hq; have : w1.heap.size + 1 = q := (by simpa [Value.ownBlock] using hq); have := G1.out; omega))); have HG2 : Hid (w1.heap.size ≤ w2.heap.size) := hid (Nat.le_trans (by simp <;> omega) hg2.size); have HX := hid (hg2.cell X3.out (by simp [Value.ownBlock])); clear hown2 hg2)
        | (refine step_append_own rfl (.tmp 29) (.tmp 31) 22 rfl w1.heap.size 2 i0 (.int .i64 0) 1 8 Try.underlying22 hi hz0 hz1 hz2 rfl (by decide) v2 (0 + k) ([] ++ (zs.take k).map (Value.int .i64)) (by simp [Act.eval]) (Hown2.out.alloc _) ⟨w2.heap.size, 0, none⟩ 1 1 [.int .i64 x] (by simp [Act.eval]) rfl (cell_one_new _ _ _) (by simp [Value.oneCell']) (by unfold maxLen; omega) (by omega) (by have := HG2.out; simp; omega) ?_; intro v3 w3 hown3 hg3; have Hown3 := hid hown3; have HB3 : Hid (Below w.heap.size w w3) := hid ((HB2.out.alloc HB2.out.size _).trans (gr_below hg3 (by have := HB2.out.size; simp; omega) (by intro q hq; have := (Hown2.out.lt q hq).1; have := G1.out; omega))); have HG3 : Hid (w1.heap.size ≤ w3.heap.size) := hid (Nat.le_trans (by have := HG2.out; simp; omega) hg3.size); have Hn3 : Hid (∀ (j : Nat) (u : Value), ((zs.drop k).map (Value.int .i64))[j]? = some u → w3.cell? ((⟨b, off + k, none⟩ : Addr).add j) = some u) := hid (ints_from (HI.out.below HB3.out) k); clear hown3 hg3)
        | (refine step_append_own rfl (.tmp 29) (.tmp 31) 22 rfl w1.heap.size 2 i0 (.int .i64 0) 1 8 Try.underlying22 hi hz0 hz1 hz2 rfl (by decide) v2 (0 + k) ([] ++ (zs.take k).map (Value.int .i64)) (by simp [Act.eval]) Hown2.out ⟨w1.heap.size + 1, 0, none⟩ 1 1 [.int .i64 x] (by simp [Act.eval]) rfl (one_cell HX.out) (by simp [Value.oneCell']) (by unfold maxLen; omega) (by omega) HG2.out ?_; intro v3 w3 hown3 hg3; have Hown3 := hid hown3; have HB3 : Hid (Below w.heap.size w w3) := hid (HB2.out.trans (gr_below hg3 HB2.out.size (by intro q hq; have := (Hown2.out.lt q hq).1; have := G1.out; omega))); have HG3 : Hid (w1.heap.size ≤ w3.heap.size) := hid (Nat.le_trans HG2.out hg3.size); have Hn3 : Hid (∀ (j : Nat) (u : Value), ((zs.drop k).map (Value.int .i64))[j]? = some u → w3.cell? ((⟨b, off + k, none⟩ : Addr).add j) = some u) := hid (ints_from (HI.out.below HB3.out) k); clear hown3 hg3)
        | (refine step_append_own rfl (.tmp 29) (.tmp 31) 22 rfl w1.heap.size 2 i0 (.int .i64 0) 1 8 Try.underlying22 hi hz0 hz1 hz2 rfl (by decide) v2 (0 + k) ([] ++ (zs.take k).map (Value.int .i64)) (by simp [Act.eval]) Hown2.out ⟨w1.heap.size, 0, none⟩ 1 1 [.int .i64 x] (by simp [Act.eval]) rfl (one_cell HX.out) (by simp [Value.oneCell']) (by unfold maxLen; omega) (by omega) HG2.out ?_; intro v3 w3 hown3 hg3; have Hown3 := hid hown3; have HB3 : Hid (Below w.heap.size w w3) := hid (HB2.out.trans (gr_below hg3 HB2.out.size (by intro q hq; have := (Hown2.out.lt q hq).1; have := G1.out; omega))); have HG3 : Hid (w1.heap.size ≤ w3.heap.size) := hid (Nat.le_trans HG2.out hg3.size); have Hn3 : Hid (∀ (j : Nat) (u : Value), ((zs.drop k).map (Value.int .i64))[j]? = some u → w3.cell? ((⟨b, off + k, none⟩ : Addr).add j) = some u) := hid (ints_from (HI.out.below HB3.out) k); clear hown3 hg3)
        | (refine step_append_own rfl (.tmp 32) (.tmp 35) 22 rfl w1.heap.size 2 i0 (.int .i64 0) 1 8 Try.underlying22 hi hz0 hz1 hz2 rfl (by decide) v3 (0 + k + 1) (([] ++ (zs.take k).map (Value.int .i64)) ++ [.int .i64 x]) (by simp [Act.eval]) Hown3.out ⟨b, off + k, none⟩ (n - k) (cap - k) ((zs.drop k).map (Value.int .i64)) (by simp [Act.eval]) Hl2.out Hn3.out (one_ints _) (by unfold maxLen; omega) (by omega) HG3.out ?_; intro v4 w4 hown4 hg4; have Hown4 := hid hown4; have HB4 : Hid (Below w.heap.size w w4) := hid (HB3.out.trans (gr_below hg4 HB3.out.size (by intro q hq; have := (Hown3.out.lt q hq).1; have := G1.out; omega))); clear hown4 hg4))
    all_goals
      have hJ := own_ints (zs := zs.take k ++ x :: zs.drop k) (w := w4) (base := w1.heap.size) (e := 2) (v := v4) (by
        have := Hown4.out
        rw [hlist.out] at this
        rw [show (zs.take k ++ x :: zs.drop k).length = 0 + k + 1 + (n - k) from by simp [hn.out] <;> omega]
        exact this)
      have Hperm : Hid ((zs.take k ++ x :: zs.drop k).Perm (x :: zs)) := hid (by
        have := List.perm_middle (a := x) (l₁ := zs.take k) (l₂ := zs.drop k)
        rwa [List.take_append_drop] at this)
      have Hlm : Hid ((zs.take k ++ x :: zs.drop k).length = n + 1) := hid (by rw [Hperm.out.length_eq, List.length_cons, hn.out])
      have H64m : Hid (In64 (zs.take k ++ x :: zs.drop k)) := hid (fun y hy => by
        rcases List.mem_cons.1 (Hperm.out.mem_iff.1 hy) with h | h
        · rw [h]; exact Bx.out
        · exact H64.out y h)
      obtain ⟨a2, len, cap2, rfl⟩ : ∃ a2 len cap2, v4 = .slice a2 len cap2 := by
        rcases hJ with ⟨a, cap, e, _⟩ | ⟨b, off, cap', e, _⟩
        · exact ⟨_, _, _, e⟩
        · exact ⟨_, _, _, e⟩
      have hlen : len = n + 1 := by have := hJ.slice; rw [Hlm.out] at this; exact this
      subst hlen
      have HJ := hid hJ
      have HIn := HI
      rw [hn.out] at HIn
      obtain ⟨ms, hms⟩ : ∃ ms, Hid (zs.take k ++ x :: zs.drop k = ms) := ⟨_, hid rfl⟩
      rw [hms.out] at Hperm Hlm H64m HJ
      have Hb := tolL_bad Hperm.out (by rw [hn.out]; exact hz)
      rw [hn.out] at Hb
      have Hnm : Hid (ms ≠ []) := hid (by intro h; have := Hlm.out; rw [h] at this; simp at this)
      obtain ⟨lo, hlo⟩ : ∃ lo, Hid (nth (sortL zs) 0 = lo) := ⟨_, hid rfl⟩
      obtain ⟨hi', hhi⟩ : ∃ hi', Hid (nth (sortL zs) (n - 1) = hi') := ⟨_, hid rfl⟩
      obtain ⟨T', hT⟩ : ∃ T', Hid (tolL ms = T') := ⟨_, hid rfl⟩
      rw [hlo.out, hhi.out, hT.out] at Hb
      obtain ⟨q1, q2⟩ := Hb
      have HB4' := HB4
      have hr9' := hid hr9
      clear hJ hms hlist Hl1 Hl2 N1 N2 N3 X2 X3 B1 B2 B3 HA1 HA2 HA3 Hn3 Hown4 Hown3 HG3 HB3 Hown2 HG2 HB2 G1
      go_wp2_with fail
      refine (tolerant_any a2 (n + 1) cap2 ms (by rw [Hlm.out]; have := hr9'.out; omega) H64m.out _ HJ.out).mono ?_
      rintro e w5 ⟨rfl, g5⟩
      rw [if_neg Hnm.out, hT.out]
      have HB5 := hid (HB4.out.trans (gr_below g5 HB4.out.size (by simp)))
      go_wp2_with fail
      have hgS : Calls Try.prog 21 #[.slice (some ⟨b, off, none⟩) n cap] w5 fun e w' => ∃ v, e = .returned v ∧ w'.ownsRow w5.heap.size 2 1 v n ((sortL zs).map (Value.int .i64)) ∧ Below w5.heap.size w5 w' := by
        have := rsorted_any w5.heap.size n zs hn.out (by have := hr9'.out; omega) (some ⟨b, off, none⟩) cap w5 (by rw [hn.out]; omega) (Nat.le_refl _) ((HI.out.below HB5.out).mono HB5.out.size)
        rw [hn.out] at this
        exact this
      refine hgS.mono ?_
      rintro e w6 ⟨v, rfl, hown, hB6⟩
      obtain ⟨gs, cs, rfl, hgs, hcells⟩ := own_cells hown (by rw [(sortL_perm _).length_eq, hn.out]) (by omega)
      have c0 := hcells 0 (by omega)
      have c1 := hcells (n - 1) (by omega)
      rw [hlo.out] at c0
      rw [hhi.out] at c1
      have HB6 := hid (HB5.out.trans (hB6.mono HB5.out.size))
      have t1 : ((n : Int) - 1).toNat = n - 1 := by omega
      clear hgS hown hcells hB6 hgs
      go_wp2_with fail
      go_ret
      exact ⟨rfl, HB6.out⟩


theorem bad_walk (a : Option Addr) (zs : List Int) (cap : Nat) (hreach : zs.length * 8 ≤ 140737488351232) (h64 : In64 zs) (hcap : zs.length ≤ cap) {w : World} (hI : Ints w.heap.size w (.slice a zs.length cap) zs) (x : Int) (bx : -9223372036854775808 ≤ x ∧ x ≤ 9223372036854775807) (t : Int) (_ : -9223372036854775808 ≤ t ∧ t ≤ 9223372036854775807) :
    Calls Try.prog 5 #[.slice a zs.length cap, .int .i64 x, .int .i64 t] w fun e w' => e = .returned (.bool true) ∧ Below w.heap.size w w' := by
  by_cases h : zs.length < 2
  · exact bad_short a zs.length cap h x t w
  · rcases id hI with ⟨_, _, _, h'⟩ | ⟨b, off, cap', e, hb, hc⟩
    · subst h'; simp at h
    · cases e
      exact bad_long b off cap zs (by omega) hcap hreach h64 x bx t w hI
end Go.Proofs.Ytlcjjbahbfcmoaa
