/- tocsinlaw03.MeanOrders, walked. -/
import Derived.Test.YtlcjjbahbfcmoaaKeepsW
import Derived.Test.YtlcjjbahbfcmoaaRefSorted
import Derived.Test.YtlcjjbahbfcmoaaSortPlain
import Derived.Deep.RegionLaw
namespace Go.Proofs.Ytlcjjbahbfcmoaa
open Go.RowKit Go.Lib

/-- append onto the call's own slice, as a step of a region that draws. -/
theorem step_append_own {P : Program} {w : World} {ops : Array Oper} {o : Oper} {a : Act} {K : Act → World → Prop} {Q : Exit → Act → World → Prop} {E : Prop} (hgd : o.guard = none) (s x : Operand) (t : TypeId)
    (ho : o.op = .call { callee := .builtin .append, args := #[s, x], argTypes := #[t, t] })
    (base : Nat) (e : TypeId) (i : TypeInfo) (z : Value) (size bytes : Nat) (ht : P.underlying t = some (.slice e)) (hi : P.info? e = some i) (hz : i.zero = some z)
    (hsize : i.size = size) (hby : i.bytes = bytes) (hzs : z.cells.size = size) (hsz : 0 < size)
    (v : Value) (n : Nat) (xs : List Value) (hs : a.eval s = v) (hown : w.ownsRow base e size v n xs)
    (ad : Addr) (m c : Nat) (news : List Value) (hx : a.eval x = .slice (some ad) m c) (hl : news.length = m * size) (hnews : ∀ j u, news[j]? = some u → w.cell? (ad.add j) = some u) (h1 : ∀ u ∈ news, u.oneCell' = true)
    (h63 : n + m ≤ maxLen) (hbytes : (n + m) * bytes ≤ 140737488355328) (hbase : base ≤ w.heap.size)
    (h : ∀ v' w', w'.ownsRow base e size v' (n + m) (xs ++ news) → w.grownBy w' v.ownBlock → K (a.put o.dst v') w') :
    if Region.wanted o (yielded ops a.tmps) = true then Oper.wp P o a w K Q else E := by
  have hw : Region.wanted o (yielded ops a.tmps) = true := by simp [Region.wanted, hgd]
  rw [if_pos hw]
  exact wp_append_own w s x t ho base e i z size bytes ht hi hz hsize hby hzs hsz v n xs hs hown ad m c news hx hl hnews h1 h63 hbytes hbase fun v' w' h2 h3 _ => h v' w' h2 h3

theorem one_ints (l : List Int) : ∀ u ∈ l.map (Value.int .i64), u.oneCell' = true := by
  intro u hu
  obtain ⟨x, _, rfl⟩ := List.mem_map.1 hu
  rfl

/-- The cells of the numbers from number k on. -/
theorem ints_from {n₀ : Nat} {w : World} {b off cap : Nat} {zs : List Int} (h : Ints n₀ w (.slice (some ⟨b, off, none⟩) zs.length cap) zs) (k : Nat) : ∀ j u, ((zs.drop k).map (Value.int .i64))[j]? = some u → w.cell? ((⟨b, off + k, none⟩ : Addr).add j) = some u := by
  intro j u hj
  have := ints_news h (k + j) u (by rw [List.getElem?_map] at hj ⊢; rwa [List.getElem?_drop] at hj)
  rw [add_lit_ints] at this ⊢
  rwa [Nat.add_assoc]
theorem ints_upto {n₀ : Nat} {w : World} {b off cap : Nat} {zs : List Int} (h : Ints n₀ w (.slice (some ⟨b, off, none⟩) zs.length cap) zs) (k : Nat) : ∀ j u, ((zs.take k).map (Value.int .i64))[j]? = some u → w.cell? ((⟨b, off, none⟩ : Addr).add j) = some u := by
  intro j u hj
  refine ints_news h j u ?_
  rw [List.getElem?_map] at hj ⊢
  have hlt : j < (zs.take k).length := by
    have := hj
    cases hq : (zs.take k)[j]? with
    | none => rw [hq] at this; simp at this
    | some y => exact (List.getElem?_eq_some_iff.1 hq).1
  rw [List.length_take] at hlt
  rwa [List.getElem?_take_of_lt (by omega)] at hj

set_option maxRecDepth 100000 in
set_option maxHeartbeats 2000000 in
theorem orders_nil (a : Option Addr) (cap : Nat) (t : Int) (w : World) :
    Calls Try.prog 6 #[.slice a 0 cap, .int .i64 t] w fun e w' => e = .returned (.bool true) ∧ Below w.heap.size w w' := by
  go_enter Try.func6, Try.ntmps6
  go_wp2_with fail
  refine (fixed_true _).mono ?_
  rintro e w1 ⟨rfl, g1⟩
  go_wp2_with fail
  refine (spread_any a 0 cap [] (by simp) (by intro x hx; simp at hx) 0 _ (.inl ⟨_, _, rfl, rfl⟩)).mono ?_
  rintro e w' ⟨rfl, rfl⟩
  rw [show maxL [] - minL [] = 0 from rfl]
  go_wp2_with fail
  go_ret
  exact ⟨rfl, gr_below g1 (Nat.le_refl _) (by simp)⟩

set_option maxRecDepth 100000 in
set_option maxHeartbeats 2000000 in
theorem orders_some (b off cap : Nat) (zs : List Int) (hz : 1 ≤ zs.length) (hcap : zs.length ≤ cap) (hreach : zs.length * 8 ≤ 140737488355328) (h64 : In64 zs) (t : Int) (w : World) (hI : Ints w.heap.size w (.slice (some ⟨b, off, none⟩) zs.length cap) zs) :
    Calls Try.prog 6 #[.slice (some ⟨b, off, none⟩) zs.length cap, .int .i64 t] w fun e w' => e = .returned (.bool true) ∧ Below w.heap.size w w' := by
  obtain ⟨i0, hi, hz0, hz1, hz2⟩ := info_parts Try.info_i64
  have HI := hid hI
  have H64 := hid h64
  have Hr := hid hreach
  clear hI h64 hreach
  obtain ⟨n, hn⟩ : ∃ n, Hid (zs.length = n) := ⟨_, hid rfl⟩
  rw [hn.out] at hz hcap
  have hgoal := hn.out
  rw [hgoal]
  clear hgoal
  have hn0 : ((n : Int) == 0) = false := by simp; omega
  have hn64 : (n : Int) ≤ 9223372036854775807 := by have := Hr.out; rw [hn.out] at this; omega
  have hwn : IntKind.u64.wrap (n : Int) = (n : Int) := by rw [IntKind.wrap_u64]; omega
  obtain ⟨k, hk, hkn⟩ : ∃ k : Nat, Hid (wrap64 ((IntKind.u64.wrap t).tmod (n : Int)) = (k : Int)) ∧ k < n := by
    have h0 : 0 ≤ IntKind.u64.wrap t := by rw [IntKind.wrap_u64]; omega
    refine ⟨((IntKind.u64.wrap t).tmod (n : Int)).toNat, hid ?_, ?_⟩
    · have h1 := Int.tmod_nonneg (n : Int) h0
      have h2 := Int.tmod_lt_of_pos (IntKind.u64.wrap t) (show 0 < (n : Int) by omega)
      unfold wrap64
      omega
    · have h1 := Int.tmod_nonneg (n : Int) h0
      have h2 := Int.tmod_lt_of_pos (IntKind.u64.wrap t) (show 0 < (n : Int) by omega)
      omega
  have hr8 : n * 8 ≤ 140737488355328 := by have := Hr.out; rwa [hn.out] at this
  have e1 : ¬ cap = k := by omega
  have e2 : (k : Int) ≤ (n : Int) := by omega
  have e3 : (k : Int) ≤ (cap : Int) := by omega
  have e4 : ¬ cap = 0 := by omega
  clear hn64
  go_enter Try.func6, Try.ntmps6
  go_wp2_with fail
  refine (fixed_true _).mono ?_
  rintro e w1 ⟨rfl, g1⟩
  go_wp2_with fail
  clear hn0 hwn
  rw [hk.out]
  have Hown0 : Hid ((w1.drew.alloc (.cells #[] 2)).ownsRow w1.heap.size 2 1 (.slice (some ⟨w1.heap.size, 0, none⟩) 0 0) 0 []) := hid (World.ownsRow_made w1.drew #[] 0 (Nat.le_refl _) (by simp) rfl)
  have HBw : Hid (Below w.heap.size w (w1.drew.alloc (.cells #[] 2))) := hid (gr_below (gr_alloc (gr_drew g1) _) (Nat.le_refl _) (by simp))
  have hI1 : Ints w.heap.size (w1.drew.alloc (.cells #[] 2)) (.slice (some ⟨b, off, none⟩) zs.length cap) zs := HI.out.below HBw.out
  have Hn1 := hid (ints_from hI1 k)
  have Hl1 : Hid (((zs.drop k).map (Value.int .i64)).length = (n - k) * 1) := hid (by simp [hn.out])
  have Hl2 : Hid (((zs.take k).map (Value.int .i64)).length = k * 1) := hid (by simp [hn.out]; omega)
  clear hI1
  go_region_law (first
    | (refine step_append_own rfl (.tmp 31) (.tmp 34) 22 rfl w1.heap.size 2 i0 (.int .i64 0) 1 8 Try.underlying22 hi hz0 hz1 hz2 rfl (by decide) (.slice (some ⟨w1.heap.size, 0, none⟩) 0 0) 0 [] (by simp [Act.eval]) Hown0.out ⟨b, off + k, none⟩ (n - k) (cap - k) ((zs.drop k).map (Value.int .i64)) (by simp [Act.eval]) Hl1.out Hn1.out (one_ints _) (by unfold maxLen; omega) (by omega) (by simp) ?_; intro v2 w2 hown2 hg2; have Hown2 := hid hown2; have HB2 : Hid (Below w.heap.size w w2) := hid (HBw.out.trans (gr_below hg2 HBw.out.size (by intro q hq; have : w1.heap.size = q := (by simpa [Value.ownBlock] using hq); have := g1.size; omega))); have HG2 : Hid (w1.heap.size ≤ w2.heap.size) := hid (Nat.le_trans (by simp) hg2.size); have Hn2 := hid (ints_upto (HI.out.below HB2.out) k); clear hown2 hg2)
    | (refine step_append_own rfl (.tmp 35) (.tmp 38) 22 rfl w1.heap.size 2 i0 (.int .i64 0) 1 8 Try.underlying22 hi hz0 hz1 hz2 rfl (by decide) v2 (0 + (n - k)) ([] ++ (zs.drop k).map (Value.int .i64)) (by simp [Act.eval]) Hown2.out ⟨b, off, none⟩ k cap ((zs.take k).map (Value.int .i64)) (by simp [Act.eval]) Hl2.out Hn2.out (one_ints _) (by unfold maxLen; omega) (by omega) HG2.out ?_; intro v3 w3 hown3 hg3; have Hown3 := hid hown3; have HB3 : Hid (Below w.heap.size w w3) := hid (HB2.out.trans (gr_below hg3 HB2.out.size (by intro q hq; have := (Hown2.out.lt q hq).1; have := g1.size; omega))); clear hown3 hg3))
  have hJ := own_ints (zs := zs.drop k ++ zs.take k) (w := w3) (base := w1.heap.size) (e := 2) (v := v3) (by
    have := Hown3.out
    rw [List.nil_append, ← List.map_append] at this
    rw [List.length_append, List.length_drop, List.length_take, hn.out, show n - k + min k n = 0 + (n - k) + k from by omega]
    exact this)
  have Hperm : Hid ((zs.drop k ++ zs.take k).Perm zs) := hid (by
    have := List.perm_append_comm (l₁ := zs.drop k) (l₂ := zs.take k)
    rwa [List.take_append_drop] at this)
  have Hlm : Hid ((zs.drop k ++ zs.take k).length = n) := hid (by rw [Hperm.out.length_eq, hn.out])
  have H64m : Hid (In64 (zs.drop k ++ zs.take k)) := hid (fun x hx => H64.out x (Hperm.out.mem_iff.1 hx))
  obtain ⟨a2, len, cap2, rfl⟩ : ∃ a2 len cap2, v3 = .slice a2 len cap2 := by
    rcases hJ with ⟨a, cap, e, _⟩ | ⟨b, off, cap', e, _⟩
    · exact ⟨_, _, _, e⟩
    · exact ⟨_, _, _, e⟩
  obtain rfl : n = len := by have := hJ.slice; rw [Hlm.out] at this; exact this.symm
  have HJ := hid hJ
  clear hJ Hown3 Hn2 HG2 Hown2 Hown0 HBw Hn1 Hl1 Hl2 hk e1 e2 e3 e4
  obtain ⟨ms, hms⟩ : ∃ ms, Hid (zs.drop k ++ zs.take k = ms) := ⟨_, hid rfl⟩
  rw [hms.out] at Hperm Hlm H64m HJ
  clear hms
  go_wp2_with fail
  have hgS : Calls Try.prog 21 #[.slice (some ⟨b, off, none⟩) n cap] w3 fun e w' => ∃ v, e = .returned v ∧ w'.ownsRow w3.heap.size 2 1 v n ((sortL zs).map (Value.int .i64)) ∧ Below w3.heap.size w3 w' := by
    have := rsorted_any w3.heap.size n zs hn.out hr8 (some ⟨b, off, none⟩) cap w3 (by rw [hn.out]; exact hcap) (Nat.le_refl _) ((HI.out.below HB3.out).mono HB3.out.size)
    rw [hn.out] at this
    exact this
  have HIn := HI
  rw [hn.out] at HIn
  refine hgS.mono ?_
  rintro e w4 ⟨v, rfl, hown, hB4⟩
  obtain ⟨gs, cs, rfl, hgs, hcells⟩ := own_cells hown (by rw [(sortL_perm _).length_eq, hn.out]) hz
  have c0 := hid (hcells 0 (by omega))
  have c1 := hid (hcells (n - 1) (by omega))
  have HB4 := hid (HB3.out.trans (hB4.mono HB3.out.size))
  have HJ4 := hid ((HJ.out.below hB4).mono hB4.size)
  clear hgS hown hcells HJ hB4 HB2 hgs
  have Htol : Hid (tolL ms = tolL zs) := hid (tolL_perm Hperm.out)
  have Hmid : Hid (midL ms = midL zs) := hid (midL_perm Hperm.out)
  have Hmax : Hid (maxL ms = maxL zs) := hid (maxL_perm Hperm.out (by rw [Hlm.out]; exact hz))
  have Hmin : Hid (minL ms = minL zs) := hid (minL_perm Hperm.out (by rw [Hlm.out]; exact hz))
  have Hb1 := tolL_between (zs := zs) (by rw [hn.out]; exact hz)
  have Hb2 := midL_between (zs := zs) (by rw [hn.out]; exact hz)
  rw [hn.out] at Hb1 Hb2
  have Hnz : Hid (zs ≠ []) := hid (by intro h; have := hn.out; rw [h] at this; simp at this; omega)
  have Hnm : Hid (ms ≠ []) := hid (by intro h; have := Hlm.out; rw [h] at this; simp at this; omega)
  obtain ⟨lo, hlo⟩ : ∃ lo, Hid (nth (sortL zs) 0 = lo) := ⟨_, hid rfl⟩
  obtain ⟨hi', hhi⟩ : ∃ hi', Hid (nth (sortL zs) (n - 1) = hi') := ⟨_, hid rfl⟩
  obtain ⟨T, hT⟩ : ∃ T, Hid (tolL zs = T) := ⟨_, hid rfl⟩
  obtain ⟨M, hM⟩ : ∃ M, Hid (midL zs = M) := ⟨_, hid rfl⟩
  obtain ⟨X, hX⟩ : ∃ X, Hid (maxL zs - minL zs = X) := ⟨_, hid rfl⟩
  rw [hlo.out] at c0 Hb1 Hb2
  rw [hhi.out] at c1 Hb1 Hb2
  rw [hT.out] at Htol Hb1
  rw [hM.out] at Hmid Hb2
  obtain ⟨b1, b2⟩ := Hb1
  obtain ⟨b3, b4⟩ := Hb2
  go_wp2_with fail
  refine (tolerant_any (some ⟨b, off, none⟩) n cap zs (by rw [hn.out]; exact hr8) H64.out _ ((HIn.out.below HB4.out).mono HB4.out.size)).mono ?_
  rintro e w5 ⟨rfl, g5⟩
  rw [if_neg Hnz.out, hT.out]
  have HB5 := hid (HB4.out.trans (gr_below g5 HB4.out.size (by simp)))
  have HJ5 := hid ((HJ4.out.below (gr_below g5 (Nat.le_refl _) (by simp))).mono g5.size)
  replace c0 := hid (gr_cell g5 c0.out)
  replace c1 := hid (gr_cell g5 c1.out)
  clear HB4 HJ4 g5
  go_wp2_with fail
  refine (tolerant_any a2 n cap2 ms (by rw [Hlm.out]; exact hr8) H64m.out _ HJ5.out).mono ?_
  rintro e w6 ⟨rfl, g6⟩
  rw [if_neg Hnm.out, Htol.out]
  have HB6 := hid (HB5.out.trans (gr_below g6 HB5.out.size (by simp)))
  have HJ6 := hid ((HJ5.out.below (gr_below g6 (Nat.le_refl _) (by simp))).mono g6.size)
  replace c0 := hid (gr_cell g6 c0.out)
  replace c1 := hid (gr_cell g6 c1.out)
  clear HB5 HJ5 g6
  go_wp2_with fail
  refine (middle_any (some ⟨b, off, none⟩) n cap zs (by rw [hn.out]; exact hr8) H64.out _ ((HIn.out.below HB6.out).mono HB6.out.size)).mono ?_
  rintro e w7 ⟨rfl, g7⟩
  rw [if_neg Hnz.out, hM.out]
  have HB7 := hid (HB6.out.trans (gr_below g7 HB6.out.size (by simp)))
  have HJ7 := hid ((HJ6.out.below (gr_below g7 (Nat.le_refl _) (by simp))).mono g7.size)
  replace c0 := hid (gr_cell g7 c0.out)
  replace c1 := hid (gr_cell g7 c1.out)
  clear HB6 HJ6 g7
  go_wp2_with fail
  refine (middle_any a2 n cap2 ms (by rw [Hlm.out]; exact hr8) H64m.out _ HJ7.out).mono ?_
  rintro e w8 ⟨rfl, g8⟩
  rw [if_neg Hnm.out, Hmid.out]
  have HB8 := hid (HB7.out.trans (gr_below g8 HB7.out.size (by simp)))
  have HJ8 := hid ((HJ7.out.below (gr_below g8 (Nat.le_refl _) (by simp))).mono g8.size)
  replace c0 := hid (gr_cell g8 c0.out)
  replace c1 := hid (gr_cell g8 c1.out)
  clear HB7 HJ7 g8
  have c0' := c0.out
  have c1' := c1.out
  go_wp2_with fail
  refine (spread_any (some ⟨b, off, none⟩) n cap zs (by rw [hn.out]; exact hr8) H64.out _ _ ((HIn.out.below HB8.out).mono HB8.out.size)).mono ?_
  rintro e w' ⟨rfl, rfl⟩
  rw [hX.out]
  have t1 : ((n : Int) - 1).toNat = n - 1 := by omega
  have hX' : Hid (maxL ms - minL ms = X) := hid (by rw [Hmax.out, Hmin.out, hX.out])
  go_wp2_with fail
  refine (spread_any a2 n cap2 ms (by rw [Hlm.out]; exact hr8) H64m.out _ _ HJ8.out).mono ?_
  rintro e w' ⟨rfl, rfl⟩
  rw [hX'.out]
  go_wp2_with fail
  go_ret
  exact ⟨rfl, HB8.out⟩

theorem orders_walk (a : Option Addr) (zs : List Int) (cap : Nat) (hreach : zs.length * 8 ≤ 140737488355328) (h64 : In64 zs) (hcap : zs.length ≤ cap) {w : World} (hI : Ints w.heap.size w (.slice a zs.length cap) zs) (t : Int) (_ : -9223372036854775808 ≤ t ∧ t ≤ 9223372036854775807) :
    Calls Try.prog 6 #[.slice a zs.length cap, .int .i64 t] w fun e w' => e = .returned (.bool true) ∧ Below w.heap.size w w' := by
  rcases id hI with ⟨_, _, _, h⟩ | ⟨b, off, cap', e, hb, hc⟩
  · subst h
    exact orders_nil a cap t w
  · cases e
    by_cases h : zs = []
    · subst h
      exact orders_nil _ cap t w
    · exact orders_some b off cap zs (by cases zs with | nil => exact absurd rfl h | cons x l => simp) hcap hreach h64 t w hI
end Go.Proofs.Ytlcjjbahbfcmoaa
