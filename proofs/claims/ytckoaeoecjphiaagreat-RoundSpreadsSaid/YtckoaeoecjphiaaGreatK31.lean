/- Lemmas: tocsinref02.Half: the floor of the middle. The document's Sorted: the same list. -/
import Derived.Test.YtckoaeoecjphiaaGreatK30
import Derived.Test.YtckoaeoecjphiaaGreatK14
import Derived.Test.YtckoaeoecjphiaaGreatK05
import Derived.Deep.QuietTactic
import Derived.Deep.RegionWith
import Derived.Deep.RegionHeld3
import Derived.BigQuiet

/- tocsinref02.Half: the floor of the middle. -/
namespace Go.Proofs.YtckoaeoecjphiaaGreat
open Go.RowKit Go.Lib

theorem floor_two {w : World} {x y : Value} {n : Int} (hx : IsN w x n 5) (hy : IsN w y 2 4) :
    Calls Tryz.prog 60 #[x, y] w fun e w' => ∃ z, e = .returned z ∧ IsN w' z (n / 2) 900 ∧ w.grownBy w' none := by
  obtain ⟨n1, ds, hw1, e1, l1⟩ := hx
  obtain ⟨n2, cs, hw2, e2, l2⟩ := hy
  obtain ⟨v1, rfl, h1⟩ := hw1.ex
  obtain ⟨v2, rfl, h2⟩ := hw2.ex
  obtain ⟨a1, cp1, rfl⟩ := h1.slice
  obtain ⟨a2, cp2, rfl⟩ := h2.slice
  have h0 := bval_nonneg hw2.dg
  have hc : bval cs = 2 := by
    unfold sgn at e2
    split at e2
    · omega
    · exact e2
  have := floor_any h1 h2 hw1.dg hw2.dg hw2.trm (by omega) (by omega) n e1 (n2 := n2)
  rwa [hc] at this

set_option maxRecDepth 100000 in
set_option maxHeartbeats 1000000 in
theorem rhalf_any {w : World} {a b : Int} (ha : -9223372036854775808 ≤ a ∧ a ≤ 9223372036854775807) (hb : -9223372036854775808 ≤ b ∧ b ≤ 9223372036854775807) :
    Calls Tryz.prog 161 #[.int .i64 a, .int .i64 b] w fun e w' => e = .returned (.int .i64 ((a + b) / 2)) ∧ w.grownBy w' none := by
  have hr : -9223372036854775808 ≤ (a + b) / 2 ∧ (a + b) / 2 ≤ 9223372036854775807 := by omega
  obtain ⟨r, hr0⟩ : ∃ r, Hid ((a + b) / 2 = r) := ⟨_, hid rfl⟩
  rw [hr0.out] at hr
  rw [hr0.out]
  have HA := hid ha
  have HB := hid hb
  have HR := hid hr
  clear ha hb hr
  go_enter Tryz.func161, Tryz.ntmps161
  go_wp2_with fail
  refine (of_any HA.out).mono ?_
  rintro e w1 ⟨x1, rfl, h1, g1⟩
  have H1 := hid h1
  have G1 := hid g1
  clear h1 g1
  go_wp2_with fail
  refine (of_any HB.out).mono ?_
  rintro e w2 ⟨x2, rfl, h2, g2⟩
  have H2 := hid h2
  have H12 := hid (H1.out.grown g2)
  have G2 := hid (gr_trans G1.out g2)
  clear h2 g2
  go_wp2_with fail
  refine (add_any H12.out H2.out (by omega)).mono ?_
  rintro e w3 ⟨x3, rfl, h3, g3⟩
  have H3 := hid h3
  have G3 := hid (gr_trans G2.out g3)
  clear h3 g3
  go_wp2_with fail
  refine (of_any (n := 2) ⟨by omega, by omega⟩).mono ?_
  rintro e w4 ⟨x4, rfl, h4, g4⟩
  have H4 := hid h4
  have H34 := hid (H3.out.grown g4)
  have G4 := hid (gr_trans G3.out g4)
  clear h4 g4
  go_wp2_with fail
  refine (floor_two H34.out H4.out).mono ?_
  rintro e w5 ⟨x5, rfl, h5, g5⟩
  rw [hr0.out] at h5
  have H5 := hid h5
  have G5 := hid (gr_trans G4.out g5)
  clear h5 g5
  go_wp2_with fail
  refine (int_any H5.out HR.out).mono ?_
  rintro e w6 ⟨rfl, g6⟩
  have G6 := hid (gr_trans G5.out g6)
  clear g6
  go_wp2_with fail
  go_ret
  exact ⟨rfl, G6.out⟩
end Go.Proofs.YtckoaeoecjphiaaGreat

/- The document's Sorted: the same list. -/
namespace Go.Proofs.YtckoaeoecjphiaaGreat
open Go.RowKit Go.Lib

theorem merge_nil (xs : List Int) : List.merge xs [] (fun x y => decide (x ≤ y)) = xs := by simp
theorem nil_merge (xs : List Int) : List.merge [] xs (fun x y : Int => decide (x ≤ y)) = xs := by simp

theorem merge_sorted (za zb : List Int) : List.merge (sortL za) (sortL zb) (fun x y => decide (x ≤ y)) = sortL (za ++ zb) := by
  refine (sortL_eq ?_ ?_).symm
  · exact (List.merge_perm_append _).trans ((sortL_perm za).append (sortL_perm zb))
  · have h := List.pairwise_merge (le := fun x y : Int => decide (x ≤ y)) (by intro a b c; simp; omega) (by intro a b; simp; omega) (sortL za) (sortL zb)
      ((sortL_sorted za).imp (by intro a b h; simpa using h)) ((sortL_sorted zb).imp (by intro a b h; simpa using h))
    exact h.imp (by intro a b h; simpa using h)

theorem drop_nth (l : List Int) (i : Nat) (h : i < l.length) : l.drop i = nth l i :: l.drop (i + 1) := by
  rw [List.drop_eq_getElem_cons h]; simp [nth, h]

theorem own_mono {w : World} {base b e size n : Nat} {v : Value} {xs : List Value} (h : w.ownsRow base e size v n xs) (hb : b ≤ base) : w.ownsRow b e size v n xs :=
  ⟨h.1, h.2.imp id fun ⟨g, cap, cur, e1, e2, r⟩ => ⟨g, cap, cur, e1, Nat.le_trans hb e2, r⟩⟩
theorem merge_left (A B : List Int) (i j : Nat) (hi : i < A.length) (hj : j < B.length) (hle : nth A i ≤ nth B j) : List.merge (A.drop i) (B.drop j) (fun x y => decide (x ≤ y)) = nth A i :: List.merge (A.drop (i + 1)) (B.drop j) (fun x y => decide (x ≤ y)) := by
  rw [drop_nth A i hi, drop_nth B j hj, List.cons_merge_cons, if_pos (by simpa using hle)]
theorem merge_right (A B : List Int) (i j : Nat) (hi : i < A.length) (hj : j < B.length) (hle : ¬ nth A i ≤ nth B j) : List.merge (A.drop i) (B.drop j) (fun x y => decide (x ≤ y)) = nth B j :: List.merge (A.drop i) (B.drop (j + 1)) (fun x y => decide (x ≤ y)) := by
  rw [drop_nth A i hi, drop_nth B j hj, List.cons_merge_cons, if_neg (by simpa using hle)]
theorem merge_leftEnd (A B : List Int) (i j : Nat) (hi : i < A.length) (hj : j = B.length) : List.merge (A.drop i) (B.drop j) (fun x y => decide (x ≤ y)) = nth A i :: List.merge (A.drop (i + 1)) (B.drop j) (fun x y => decide (x ≤ y)) := by
  subst hj
  rw [List.drop_length, merge_nil, merge_nil, drop_nth A i hi]
theorem merge_rightEnd (A B : List Int) (i j : Nat) (hi : i = A.length) (hj : j < B.length) : List.merge (A.drop i) (B.drop j) (fun x y => decide (x ≤ y)) = nth B j :: List.merge (A.drop i) (B.drop (j + 1)) (fun x y => decide (x ≤ y)) := by
  subst hi
  rw [List.drop_length, nil_merge, nil_merge, drop_nth B j hj]

theorem ints_take {n₀ : Nat} {w : World} {a : Option Addr} {len cap : Nat} {zs : List Int} (h : Ints n₀ w (.slice a len cap) zs) (k : Nat) (hk : k ≤ zs.length) (h1 : 1 ≤ zs.length) : Ints n₀ w (.slice a k cap) (zs.take k) := by
  rcases h with ⟨_, _, _, rfl⟩ | ⟨b, off, cap', e, hb, hc⟩
  · simp at h1
  · cases e
    refine .inr ⟨b, off, cap, by rw [List.length_take]; congr 1; omega, hb, fun j hj => ?_⟩
    rw [List.length_take] at hj
    rw [hc j (by omega)]
    congr 2
    rw [List.getElem?_take_of_lt (by omega)]

theorem ints_drop {n₀ : Nat} {w : World} {b off len cap : Nat} {zs : List Int} (h : Ints n₀ w (.slice (some ⟨b, off, none⟩) len cap) zs) (k cap' : Nat) (hk : k ≤ zs.length) : Ints n₀ w (.slice (some ⟨b, off + k, none⟩) (zs.length - k) cap') (zs.drop k) := by
  rcases h with ⟨_, _, _, rfl⟩ | ⟨b, off, cap', e, hb, hc⟩
  · exact .inl ⟨some ⟨b, off + k, none⟩, cap', by simp, by simp⟩
  · cases e
    refine .inr ⟨b, off + k, _, by rw [List.length_drop], hb, fun j hj => ?_⟩
    rw [List.length_drop] at hj
    rw [Nat.add_assoc, hc (k + j) (by omega)]
    simp

theorem sortL_short {zs : List Int} (h : zs.length < 2) : sortL zs = zs := by
  match zs, h with
  | [], _ => exact sortL_nil
  | [x], _ => simp [sortL]

set_option maxRecDepth 100000 in
set_option maxHeartbeats 2000000 in
theorem rsorted_small (a : Option Addr) (len cap n₀ : Nat) (zs : List Int) (hlen : zs.length < 2) (w : World) (hn₀ : n₀ ≤ w.heap.size) (hI : Ints n₀ w (.slice a len cap) zs) :
    Calls Tryz.prog 160 #[.slice a len cap] w fun e w' => ∃ v, e = .returned v ∧ w'.ownsRow w.heap.size 2 1 v zs.length ((sortL zs).map (Value.int .i64)) ∧ Below w.heap.size w w' := by
  obtain ⟨i0, hi, hz0, hz1, hz2⟩ := info_parts Tryz.info_i64
  have hl := hI.slice
  subst hl
  rw [sortL_short hlen]
  have HI := hid hI
  clear hI
  have hd : decide ((zs.length : Int) < 2) = true := by simp; omega
  go_enter Tryz.func160, Tryz.ntmps160
  go_wp2_with fail
  clear hd
  go_loopw [3, 4] (fun v i wr => ∃ k : Nat, i = .int .i64 k ∧ k ≤ zs.length ∧ wr.ownsRow w.heap.size 2 1 v k ((zs.take k).map (Value.int .i64)) ∧ Below w.heap.size w wr) (fun _ i _ => zs.length - (intOf i).toNat)
  case atStart => exact ⟨0, rfl, Nat.zero_le _, World.ownsRow_nil _ _ _ _, Below.refl _ _⟩
  case round =>
    obtain ⟨k, rfl, hk, hown, hB⟩ := hrel
    have Hown := hid hown; clear hown
    by_cases hlt : k < zs.length
    · rcases HI.out with ⟨_, _, _, h⟩ | ⟨b, off, cap', e, hb, hc⟩
      · subst h; simp at hlt
      cases e
      have hck := hid ((hB.mono hn₀).cell (p := ⟨b, off + k, none⟩) hb |>.trans (hc k hlt))
      have ht := hid (show zs.take (k + 1) = zs.take k ++ [zs[k]?.getD 0] from by rw [List.take_succ_eq_append_getElem hlt]; simp [hlt])
      have hck' := hck.out
      clear hc hck
      generalize zs[k]?.getD 0 = x at *
      go_wp2_with (at_builtin; refine wpList_append_own _ rfl _ _ 35 rfl w.heap.size 2 i0 (.int .i64 0) 1 8 Tryz.underlying35 hi hz0 hz1 hz2 rfl (by decide) _ _ _ rfl (Hown.out.alloc _) ⟨wr.heap.size, 0, none⟩ 1 1 [.int .i64 x] rfl rfl (cell_one_new _ _ _) (by simp [Value.oneCell']) (by unfold maxLen; omega) (by omega) (by have := hB.size; simp; omega) ?_; intro v2 w2 hown2 hg2 _)
      have hown3 : w2.ownsRow w.heap.size 2 1 v2 (k + 1) ((zs.take (k + 1)).map (Value.int .i64)) := by rw [ht.out, List.map_append]; exact hown2
      have hB2 : Below w.heap.size w w2 := (hB.alloc hB.size _).grown hg2 (by have := hB.size; simp; omega) (fun q hq => (Hown.out.lt q hq).1)
      have Hown3 := hid hown3
      clear hown2 hown3 hg2
      go_wp2_with fail
      go_roundw
      case rel => exact ⟨k + 1, by go_num, by omega, Hown3.out, hB2⟩
      case measure => simp [intOf]; omega
    · obtain rfl : k = zs.length := by omega
      have hown := Hown.out
      rw [List.take_length] at hown
      have Hown' := hid hown
      clear hlt hown Hown
      go_wp2_with fail
      go_ret
      exact ⟨_, rfl, Hown'.out, hB⟩

theorem own_cells {w : World} {base e n : Nat} {v : Value} {A : List Int} (h : w.ownsRow base e 1 v n (A.map (Value.int .i64))) (hl : A.length = n) (hpos : 1 ≤ n) :
    ∃ g cap, v = .slice (some ⟨g, 0, none⟩) n cap ∧ g < w.heap.size ∧ ∀ j, j < n → w.cell? ⟨g, j, none⟩ = some (.int .i64 (nth A j)) := by
  rcases h.2 with ⟨rfl, h0⟩ | ⟨g, cap, cur, rfl, _, hh, hrest⟩
  · omega
  · refine ⟨g, cap, rfl, lt_of_block hh, fun j hj => ?_⟩
    rw [h.cellAt j (by omega)]
    have : j < A.length := by omega
    simp [nth, this]

set_option maxRecDepth 100000 in
set_option maxHeartbeats 2000000 in
theorem rsorted_big (a : Option Addr) (cap n₀ : Nat) (zs : List Int) (hlen : 2 ≤ zs.length) (hcap : zs.length ≤ cap) (hreach : zs.length * 8 ≤ 140737488355328) (w : World) (hn₀ : n₀ ≤ w.heap.size) (hI : Ints n₀ w (.slice a zs.length cap) zs)
    (ih : ∀ (ys : List Int), ys.length < zs.length → ∀ (a : Option Addr) (cap : Nat) (w : World), ys.length ≤ cap → n₀ ≤ w.heap.size → Ints n₀ w (.slice a ys.length cap) ys →
      Calls Tryz.prog 160 #[.slice a ys.length cap] w fun e w' => ∃ v, e = .returned v ∧ w'.ownsRow w.heap.size 2 1 v ys.length ((sortL ys).map (Value.int .i64)) ∧ Below w.heap.size w w') :
    Calls Tryz.prog 160 #[.slice a zs.length cap] w fun e w' => ∃ v, e = .returned v ∧ w'.ownsRow w.heap.size 2 1 v zs.length ((sortL zs).map (Value.int .i64)) ∧ Below w.heap.size w w' := by
  obtain ⟨i0, hi, hz0, hz1, hz2⟩ := info_parts Tryz.info_i64
  rcases id hI with ⟨_, _, _, h⟩ | ⟨b, off, cap', e, hb, hc⟩
  · subst h; simp at hlen
  cases e
  have HI := hid hI
  clear hI hb hc
  obtain ⟨n, hn⟩ : ∃ n, Hid (zs.length = n) := ⟨_, hid rfl⟩
  rw [hn.out] at hlen hreach hcap
  have hgoal : zs.length = n := hn.out
  rw [hgoal]
  clear hgoal
  obtain ⟨h, hh, hh1, hh2⟩ : ∃ h : Nat, (n : Int) / 2 = (h : Int) ∧ 1 ≤ h ∧ h < n := ⟨n / 2, by omega, by omega, by omega⟩
  have hw : IntKind.i64.wrap ((n : Int) / 2) = (h : Int) := by rw [IntKind.wrap_i64]; omega
  have i2 : (h : Int) ≤ (n : Int) := by omega
  have i3 : (h : Int) ≤ (cap : Int) := by omega
  clear hh
  have c0 : ¬ cap = 0 := by omega
  have c1 : ¬ cap = h := by omega
  have ihA : ∀ w', Below n₀ w w' → Calls Tryz.prog 160 #[.slice (some ⟨b, off, none⟩) h cap] w' fun e w'' => ∃ v, e = .returned v ∧ Hid (w''.ownsRow w'.heap.size 2 1 v h ((sortL (zs.take h)).map (Value.int .i64))) ∧ Hid (Below w'.heap.size w' w'') := by
    intro w' hB
    have hl : (zs.take h).length = h := by rw [List.length_take, hn.out]; omega
    have := ih (zs.take h) (by rw [hl, hn.out]; omega) (some ⟨b, off, none⟩) cap w' (by omega) (Nat.le_trans hn₀ hB.size) (by rw [hl]; exact ints_take (HI.out.below hB) h (by rw [hn.out]; omega) (by rw [hn.out]; omega))
    rw [hl] at this
    exact this.mono fun e w'' ⟨v, h1, h2, h3⟩ => ⟨v, h1, hid h2, hid h3⟩
  have ihB : ∀ w', Below n₀ w w' → Calls Tryz.prog 160 #[.slice (some ⟨b, off + h, none⟩) (n - h) (cap - h)] w' fun e w'' => ∃ v, e = .returned v ∧ Hid (w''.ownsRow w'.heap.size 2 1 v (n - h) ((sortL (zs.drop h)).map (Value.int .i64))) ∧ Hid (Below w'.heap.size w' w'') := by
    intro w' hB
    have hl : (zs.drop h).length = n - h := by rw [List.length_drop, hn.out]
    have := ih (zs.drop h) (by rw [hl, hn.out]; omega) (some ⟨b, off + h, none⟩) (cap - h) w' (by omega) (Nat.le_trans hn₀ hB.size) (by rw [hl]; have := ints_drop (HI.out.below hB) h (cap - h) (by rw [hn.out]; omega); rwa [hn.out] at this)
    rw [hl] at this
    exact this.mono fun e w'' ⟨v, h1, h2, h3⟩ => ⟨v, h1, hid h2, hid h3⟩
  have Hmer : Hid (List.merge (sortL (zs.take h)) (sortL (zs.drop h)) (fun x y => decide (x ≤ y)) = sortL zs) := hid (by rw [merge_sorted, List.take_append_drop])
  have Hla : Hid ((sortL (zs.take h)).length = h) := hid (by rw [(sortL_perm _).length_eq, List.length_take, hn.out]; omega)
  have Hlb : Hid ((sortL (zs.drop h)).length = n - h) := hid (by rw [(sortL_perm _).length_eq, List.length_drop, hn.out])
  clear ih HI
  have HdB : Hid (Below n₀ w w.drew) := hid (gr_below (gr_drew (gr_refl w none)) hn₀ (by simp))
  have hd : decide ((n : Int) < 2) = false := by simp; omega
  go_enter Tryz.func160, Tryz.ntmps160
  go_wp2_with fail
  clear hd
  go_region_with (first
    | (go_at_call_of 160 (Value.slice (some ⟨b, off, none⟩) h cap); refine (ihA _ ?_).mono ?_; exact HdB.out; rintro e w1 ⟨va, rfl, hA, hBA⟩; have HBA : Hid (Below n₀ w w1) := hid (HdB.out.trans (hBA.out.mono hn₀)))
    | (go_at_call_of 160 (Value.slice (some ⟨b, off + h, none⟩) (n - h) (cap - h)); refine (ihB _ ?_).mono ?_; exact HBA.out; rintro e w2 ⟨vb, rfl, hB, hBB⟩))
  have hAk := hA.out.kept (below_gr (row := none) hBB.out) (by cases va.ownBlock <;> simp)
  have hB2 : Below w.heap.size w w2 := (gr_below (gr_drew (gr_refl w none)) (Nat.le_refl _) (by simp)).trans (hBA.out.trans (hBB.out.mono hBA.out.size))
  obtain ⟨ga, ca, rfl, hga, hca⟩ := own_cells hAk Hla.out hh1
  obtain ⟨gb, cb, rfl, hgb, hcb⟩ := own_cells hB.out Hlb.out (by omega)
  have Hga := hid hga; have Hgb := hid hgb; have Hca := hid hca; have Hcb := hid hcb
  have HB2 := hid hB2
  clear hga hgb hca hcb hB2 hAk hA hB hBA hBB HBA HdB ihA ihB hw i2 i3 c0 c1
  generalize sortL (zs.take h) = A at *
  generalize sortL (zs.drop h) = B at *
  obtain ⟨S, HS⟩ : ∃ S, Hid (sortL zs = S) := ⟨_, hid rfl⟩
  rw [HS.out] at Hmer
  obtain ⟨m, hm⟩ : ∃ m, n - h = m := ⟨_, rfl⟩
  rw [hm] at Hlb Hcb
  rw [hm]
  obtain rfl : n = h + m := by omega
  have hm1 : 1 ≤ m := by omega
  clear hm hh2 hcap hlen
  go_wp2_with fail
  go_loopw [7, 8, 9] (fun v vi vj wr => ∃ (i j : Nat) (R : List Int), vi = .int .i64 i ∧ vj = .int .i64 j ∧ i ≤ h ∧ j ≤ m ∧ Hid (wr.ownsRow w2.heap.size 2 1 v (i + j) (R.map (Value.int .i64))) ∧ Hid (Below w2.heap.size w2 wr) ∧ Hid (R ++ List.merge (A.drop i) (B.drop j) (fun x y => decide (x ≤ y)) = S)) (fun _ vi vj _ => h + m - (intOf vi).toNat - (intOf vj).toNat)
  case atStart => exact ⟨0, 0, [], rfl, rfl, Nat.zero_le _, Nat.zero_le _, hid (World.ownsRow_nil _ _ _ _), hid (Below.refl _ _), hid (by simpa using Hmer.out)⟩
  case round =>
    obtain ⟨i, j, R, rfl, rfl, hi1, hj1, Hown, HW, hR⟩ := hrel
    rcases (by omega : (i < h ∧ j < m) ∨ (i < h ∧ j = m) ∨ (i = h ∧ j < m) ∨ (i = h ∧ j = m)) with ⟨li, lj⟩ | ⟨li, lj⟩ | ⟨li, lj⟩ | ⟨li, lj⟩
    · by_cases hle : nth A i ≤ nth B j
      · skip
        have hcA := HW.out.cell (p := ⟨ga, i, none⟩) Hga.out |>.trans (Hca.out i li)
        have hcB := HW.out.cell (p := ⟨gb, j, none⟩) Hgb.out |>.trans (Hcb.out j lj)
        have dj : ((j : Int) == (m : Int)) = false := by simp; omega
        have di : (i : Int) < (h : Int) := by omega
        have djl : (j : Int) < (m : Int) := by omega
        have ti : ((i : Int)).toNat = i := by omega
        have tj : ((j : Int)).toNat = j := by omega
        have hqA := hid (HW.out.cell (p := ⟨ga, i, none⟩) Hga.out |>.trans (Hca.out i li))
        have hmg : Hid ((R ++ [nth A i]) ++ List.merge (A.drop (i + 1)) (B.drop (j)) (fun x y => decide (x ≤ y)) = S) := hid (by rw [← hR.out, merge_left A B i j (by rw [Hla.out]; exact li) (by rw [Hlb.out]; exact lj) hle, List.append_assoc]; rfl)
        go_wp2_with fail
        go_quiet (fail)
        obtain ⟨wq, hwq⟩ : ∃ wq, wr.drewN nq = wq := ⟨_, rfl⟩
        have Gq : wr.grownBy wq none := hwq ▸ gr_drewN (gr_refl wr none) nq
        have Hq := hid (Hown.out.kept Gq (by cases u7.ownBlock <;> simp))
        rw [hwq]
        have hcell := gr_cell Gq hqA.out
        have HWq : Hid (Below w2.heap.size w2 wq) := hid (HW.out.trans (gr_below Gq HW.out.size (by simp)))
        clear hwq
        generalize nth A i = x at *
        go_wp2_with (at_builtin; refine wpList_append_own _ rfl _ _ 35 rfl w2.heap.size 2 i0 (.int .i64 0) 1 8 Tryz.underlying35 hi hz0 hz1 hz2 rfl (by decide) _ _ _ rfl (Hq.out.alloc _) ⟨wq.heap.size, 0, none⟩ 1 1 [.int .i64 x] rfl rfl (cell_one_new _ _ _) (by simp [Value.oneCell']) (by unfold maxLen; omega) (by omega) (by have := HWq.out.size; simp; omega) ?_; intro v3 w3 hown3 hg3 _)
        have hown4 : w3.ownsRow w2.heap.size 2 1 v3 (i + j + 1) ((R ++ [x]).map (Value.int .i64)) := by rw [List.map_append]; exact hown3
        have HW3 : Hid (Below w2.heap.size w2 w3) := hid ((HWq.out.alloc HWq.out.size _).grown hg3 (by have := HWq.out.size; simp; omega) (fun q hq => (Hq.out.lt q hq).1))
        have Hown4 := hid hown4
        clear hown3 hown4 hg3
        go_wp2_with fail
        go_roundw
        case rel => exact ⟨i + 1, j, R ++ [x], by go_num, by go_num, by omega, by omega, hid (by rw [show i + 1 + (j) = i + j + 1 from by omega]; exact Hown4.out), HW3, hmg⟩
        case measure => simp [intOf]; omega
      · skip
        have hcA := HW.out.cell (p := ⟨ga, i, none⟩) Hga.out |>.trans (Hca.out i li)
        have hcB := HW.out.cell (p := ⟨gb, j, none⟩) Hgb.out |>.trans (Hcb.out j lj)
        have dj : ((j : Int) == (m : Int)) = false := by simp; omega
        have di : (i : Int) < (h : Int) := by omega
        have djl : (j : Int) < (m : Int) := by omega
        have ti : ((i : Int)).toNat = i := by omega
        have tj : ((j : Int)).toNat = j := by omega
        have hqB := hid (HW.out.cell (p := ⟨gb, j, none⟩) Hgb.out |>.trans (Hcb.out j lj))
        have hmg : Hid ((R ++ [nth B j]) ++ List.merge (A.drop (i)) (B.drop (j + 1)) (fun x y => decide (x ≤ y)) = S) := hid (by rw [← hR.out, merge_right A B i j (by rw [Hla.out]; exact li) (by rw [Hlb.out]; exact lj) hle, List.append_assoc]; rfl)
        go_wp2_with fail
        go_quiet (fail)
        obtain ⟨wq, hwq⟩ : ∃ wq, wr.drewN nq = wq := ⟨_, rfl⟩
        have Gq : wr.grownBy wq none := hwq ▸ gr_drewN (gr_refl wr none) nq
        have Hq := hid (Hown.out.kept Gq (by cases u7.ownBlock <;> simp))
        rw [hwq]
        have hcell := gr_cell Gq hqB.out
        have HWq : Hid (Below w2.heap.size w2 wq) := hid (HW.out.trans (gr_below Gq HW.out.size (by simp)))
        clear hwq
        generalize nth B j = x at *
        go_wp2_with (at_builtin; refine wpList_append_own _ rfl _ _ 35 rfl w2.heap.size 2 i0 (.int .i64 0) 1 8 Tryz.underlying35 hi hz0 hz1 hz2 rfl (by decide) _ _ _ rfl (Hq.out.alloc _) ⟨wq.heap.size, 0, none⟩ 1 1 [.int .i64 x] rfl rfl (cell_one_new _ _ _) (by simp [Value.oneCell']) (by unfold maxLen; omega) (by omega) (by have := HWq.out.size; simp; omega) ?_; intro v3 w3 hown3 hg3 _)
        have hown4 : w3.ownsRow w2.heap.size 2 1 v3 (i + j + 1) ((R ++ [x]).map (Value.int .i64)) := by rw [List.map_append]; exact hown3
        have HW3 : Hid (Below w2.heap.size w2 w3) := hid ((HWq.out.alloc HWq.out.size _).grown hg3 (by have := HWq.out.size; simp; omega) (fun q hq => (Hq.out.lt q hq).1))
        have Hown4 := hid hown4
        clear hown3 hown4 hg3
        go_wp2_with fail
        go_roundw
        case rel => exact ⟨i, j + 1, R ++ [x], by go_num, by go_num, by omega, by omega, hid (by rw [show i + (j + 1) = i + j + 1 from by omega]; exact Hown4.out), HW3, hmg⟩
        case measure => simp [intOf]; omega
    · subst lj
      have hcA := HW.out.cell (p := ⟨ga, i, none⟩) Hga.out |>.trans (Hca.out i li)
      have di : (i : Int) < (h : Int) := by omega
      have ti : ((i : Int)).toNat = i := by omega
      have hqA := hid (HW.out.cell (p := ⟨ga, i, none⟩) Hga.out |>.trans (Hca.out i li))
      have hmg : Hid ((R ++ [nth A i]) ++ List.merge (A.drop (i + 1)) (B.drop (j)) (fun x y => decide (x ≤ y)) = S) := hid (by rw [← hR.out, merge_leftEnd A B i j (by rw [Hla.out]; exact li) Hlb.out.symm, List.append_assoc]; rfl)
      go_wp2_with fail
      go_quiet (fail)
      obtain ⟨wq, hwq⟩ : ∃ wq, wr.drewN nq = wq := ⟨_, rfl⟩
      have Gq : wr.grownBy wq none := hwq ▸ gr_drewN (gr_refl wr none) nq
      have Hq := hid (Hown.out.kept Gq (by cases u7.ownBlock <;> simp))
      rw [hwq]
      have hcell := gr_cell Gq hqA.out
      have HWq : Hid (Below w2.heap.size w2 wq) := hid (HW.out.trans (gr_below Gq HW.out.size (by simp)))
      clear hwq
      generalize nth A i = x at *
      go_wp2_with (at_builtin; refine wpList_append_own _ rfl _ _ 35 rfl w2.heap.size 2 i0 (.int .i64 0) 1 8 Tryz.underlying35 hi hz0 hz1 hz2 rfl (by decide) _ _ _ rfl (Hq.out.alloc _) ⟨wq.heap.size, 0, none⟩ 1 1 [.int .i64 x] rfl rfl (cell_one_new _ _ _) (by simp [Value.oneCell']) (by unfold maxLen; omega) (by omega) (by have := HWq.out.size; simp; omega) ?_; intro v3 w3 hown3 hg3 _)
      have hown4 : w3.ownsRow w2.heap.size 2 1 v3 (i + j + 1) ((R ++ [x]).map (Value.int .i64)) := by rw [List.map_append]; exact hown3
      have HW3 : Hid (Below w2.heap.size w2 w3) := hid ((HWq.out.alloc HWq.out.size _).grown hg3 (by have := HWq.out.size; simp; omega) (fun q hq => (Hq.out.lt q hq).1))
      have Hown4 := hid hown4
      clear hown3 hown4 hg3
      go_wp2_with fail
      go_roundw
      case rel => exact ⟨i + 1, j, R ++ [x], by go_num, by go_num, by omega, by omega, hid (by rw [show i + 1 + (j) = i + j + 1 from by omega]; exact Hown4.out), HW3, hmg⟩
      case measure => simp [intOf]; omega
    · subst li
      have hcB := HW.out.cell (p := ⟨gb, j, none⟩) Hgb.out |>.trans (Hcb.out j lj)
      have dj : ((j : Int) == (m : Int)) = false := by simp; omega
      have djl : (j : Int) < (m : Int) := by omega
      have tj : ((j : Int)).toNat = j := by omega
      have hqB := hid (HW.out.cell (p := ⟨gb, j, none⟩) Hgb.out |>.trans (Hcb.out j lj))
      have hmg : Hid ((R ++ [nth B j]) ++ List.merge (A.drop (i)) (B.drop (j + 1)) (fun x y => decide (x ≤ y)) = S) := hid (by rw [← hR.out, merge_rightEnd A B i j Hla.out.symm (by rw [Hlb.out]; exact lj), List.append_assoc]; rfl)
      go_wp2_with fail
      go_quiet (fail)
      obtain ⟨wq, hwq⟩ : ∃ wq, wr.drewN nq = wq := ⟨_, rfl⟩
      have Gq : wr.grownBy wq none := hwq ▸ gr_drewN (gr_refl wr none) nq
      have Hq := hid (Hown.out.kept Gq (by cases u7.ownBlock <;> simp))
      rw [hwq]
      have hcell := gr_cell Gq hqB.out
      have HWq : Hid (Below w2.heap.size w2 wq) := hid (HW.out.trans (gr_below Gq HW.out.size (by simp)))
      clear hwq
      generalize nth B j = x at *
      go_wp2_with (at_builtin; refine wpList_append_own _ rfl _ _ 35 rfl w2.heap.size 2 i0 (.int .i64 0) 1 8 Tryz.underlying35 hi hz0 hz1 hz2 rfl (by decide) _ _ _ rfl (Hq.out.alloc _) ⟨wq.heap.size, 0, none⟩ 1 1 [.int .i64 x] rfl rfl (cell_one_new _ _ _) (by simp [Value.oneCell']) (by unfold maxLen; omega) (by omega) (by have := HWq.out.size; simp; omega) ?_; intro v3 w3 hown3 hg3 _)
      have hown4 : w3.ownsRow w2.heap.size 2 1 v3 (i + j + 1) ((R ++ [x]).map (Value.int .i64)) := by rw [List.map_append]; exact hown3
      have HW3 : Hid (Below w2.heap.size w2 w3) := hid ((HWq.out.alloc HWq.out.size _).grown hg3 (by have := HWq.out.size; simp; omega) (fun q hq => (Hq.out.lt q hq).1))
      have Hown4 := hid hown4
      clear hown3 hown4 hg3
      go_wp2_with fail
      go_roundw
      case rel => exact ⟨i, j + 1, R ++ [x], by go_num, by go_num, by omega, by omega, hid (by rw [show i + (j + 1) = i + j + 1 from by omega]; exact Hown4.out), HW3, hmg⟩
      case measure => simp [intOf]; omega
    · subst li
      subst lj
      have hS : R = S := by
        have := hR.out
        rw [← Hla.out, ← Hlb.out, List.drop_length, List.drop_length] at this
        simpa using this
      subst hS
      have Hend := hid (own_mono (b := w.heap.size) Hown.out HB2.out.size)
      have HBend := hid (HB2.out.trans (HW.out.mono HB2.out.size))
      clear Hown hR HW
      go_wp2_with fail
      go_ret
      exact ⟨_, rfl, by rw [HS.out]; exact Hend.out, HBend.out⟩

theorem rsorted_any (n₀ : Nat) : ∀ (n : Nat) (zs : List Int), zs.length = n → n * 8 ≤ 140737488355328 → ∀ (a : Option Addr) (cap : Nat) (w : World), zs.length ≤ cap → n₀ ≤ w.heap.size → Ints n₀ w (.slice a zs.length cap) zs →
    Calls Tryz.prog 160 #[.slice a zs.length cap] w fun e w' => ∃ v, e = .returned v ∧ w'.ownsRow w.heap.size 2 1 v zs.length ((sortL zs).map (Value.int .i64)) ∧ Below w.heap.size w w' := by
  intro n
  induction n using Nat.strongRecOn with
  | ind n ih =>
    intro zs hz hr a cap w hcap hn hI
    by_cases h : zs.length < 2
    · exact rsorted_small a zs.length cap n₀ zs h w hn hI
    · exact rsorted_big a cap n₀ zs (by omega) hcap (by omega) w hn hI (fun ys hy a cap w h1 h2 h3 => ih ys.length (by omega) ys rfl (by omega) a cap w h1 h2 h3)
end Go.Proofs.YtckoaeoecjphiaaGreat
