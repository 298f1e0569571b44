/- Lemmas: tocsinref02: the sum. -/
import Derived.Test.YtckoaeoecjphiaaGreatK28
import Derived.Deep.RegionWith

/- tocsinref02: the sum. -/
namespace Go.Proofs.YtckoaeoecjphiaaGreat
open Go.RowKit Go.Lib

theorem sgn_add_same {neg neg' : Bool} {ds es rs ts : List Int} (hv : bval rs = bval ds + bval es) (ht : bval ts = bval rs) (hn : ts ≠ [] → neg' = neg) : sgn neg' (bval ts) = sgn neg (bval ds) + sgn neg (bval es) := by
  by_cases h : ts = []
  · subst h
    have h0 : bval ds + bval es = 0 := by rw [← hv, ← ht]; rfl
    show sgn neg' 0 = _
    rw [sgn_zero]
    cases neg <;> simp [sgn] <;> omega
  · rw [hn h, ht, hv]
    cases neg <;> simp [sgn] <;> omega
theorem sgn_add_diff {n1 n2 neg' : Bool} {ds es rs ts : List Int} (hne : n1 ≠ n2) (hv : bval rs = bval ds - bval es) (ht : bval ts = bval rs) (hn : ts ≠ [] → neg' = n1) : sgn neg' (bval ts) = sgn n1 (bval ds) + sgn n2 (bval es) := by
  by_cases h : ts = []
  · subst h
    have h0 : bval ds - bval es = 0 := by rw [← hv, ← ht]; rfl
    show sgn neg' 0 = _
    rw [sgn_zero]
    cases n1 <;> cases n2 <;> simp [sgn] at * <;> omega
  · rw [hn h, ht, hv]
    cases n1 <;> cases n2 <;> simp [sgn] at * <;> omega
theorem cmp_ge {x y : Int} (h : y ≤ x) : 0 ≤ cmpI x y := by
  unfold cmpI
  rw [if_neg (by omega)]
  split <;> omega
set_option maxRecDepth 100000 in
set_option maxHeartbeats 1000000 in
theorem add_same {w : World} {a1 a2 : Option Addr} {cp1 cp2 : Nat} {ng : Bool} {ds es : List Int} (h1 : Dig w (.slice a1 ds.length cp1) ds) (h2 : Dig w (.slice a2 es.length cp2) es) (d1 : Dg ds) (d2 : Dg es) (M : Nat) (hM : M ≤ 900) (l1 : ds.length ≤ M) (l2 : es.length ≤ M) :
    Calls Tryz.prog 105 #[.agg #[.slice a1 ds.length cp1, .bool ng], .agg #[.slice a2 es.length cp2, .bool ng]] w fun e w' => ∃ z, e = .returned z ∧ IsN w' z (sgn ng (bval ds) + sgn ng (bval es)) (M + 1) ∧ w.grownBy w' none := by
  obtain ⟨bx, hbx⟩ : ∃ bx, Hid (w.heap.size = bx) := ⟨_, hid rfl⟩
  obtain ⟨A, hAw⟩ : ∃ A, Hid (((w.alloc (.cells #[.slice a1 ds.length cp1, .bool ng] 128)).alloc (.cells #[.slice a2 es.length cp2, .bool ng] 128)).alloc (.cells #[.slice none 0 0, .bool false] 128) = A) := ⟨_, hid rfl⟩
  have GA : Hid (w.grownBy A none) := hid (by rw [← hAw.out]; exact gr_alloc (gr_alloc (gr_alloc (gr_refl w none) _) _) _)
  have F0 : Hid (A.heap[bx]? = some (.cells #[.slice a1 ds.length cp1, .bool ng] 128 (0, 0))) := hid (by
    rw [← hAw.out, ← hbx.out]
    exact gr_heap (gr_alloc (gr_alloc (gr_refl _ none) _) _) (heap_alloc_new w _) (by simp))
  have F1 : Hid (A.heap[bx + 1]? = some (.cells #[.slice a2 es.length cp2, .bool ng] 128 (0, 0))) := hid (by
    rw [← hAw.out, ← hbx.out]
    exact gr_heap (gr_alloc (gr_refl _ none) _) (box2 w _ _) (by simp))
  have F2 : Hid (A.heap[bx + 2]? = some (.cells #[.slice none 0 0, .bool false] 128 (0, 0))) := hid (by
    rw [← hAw.out, ← hbx.out]
    exact box3 w _ _ _)
  have H1 := hid (h1.grown GA.out)
  have H2 := hid (h2.grown GA.out)
  have D1 := hid d1
  have D2 := hid d2
  clear h1 h2 d1 d2
  go_enter Tryz.func105, Tryz.ntmps105
  go_wp2_with fail
  rw [hAw.out, hbx.out]
  have c0 := big_cell F0.out 0 _ rfl
  have c1 := big_cell F0.out 1 _ rfl
  have k0 := big_cell F1.out 0 _ rfl
  have k1 := big_cell F1.out 1 _ rfl
  have GN : Hid (A.grownBy A none) := hid (gr_refl A none)
  go_region_with (first
    | (go_at_call 102; refine (plus_any (H1.out.grown (gr_drew GN.out)) (H2.out.grown (gr_drew GN.out)) D1.out D2.out M (by omega) l1 l2).mono ?_; rintro e w5 ⟨v5, rs, rfl, h5, d5, e5, l5, g5⟩; obtain ⟨a5, cp5, rfl⟩ := h5.slice; have G5 := hid (gr_trans (gr_drew (gr_refl A none)) g5); have H5 := hid h5; have D5 := hid d5; have E5 := hid e5; have L5 := hid l5; have c1' := gr_cell G5.out c1; have k1' := gr_cell G5.out k1; clear h5 d5 e5 g5 l5)
    | (go_at_call 101; refine (trim_any ng H5.out D5.out (by have := L5.out; omega)).mono ?_; rintro e w6 ⟨z6, ts, neg', rfl, h6, e6, l6, n6, g6⟩; obtain ⟨v6, rfl, h6'⟩ := h6.ex; obtain ⟨a6, cp6, rfl⟩ := h6'.slice; have G6 := hid (gr_trans G5.out g6); have H6 := hid h6; have E6 := hid (sgn_add_same E5.out e6 n6); have L6 := hid l6; have F6 := hid (gr_heap (gr_trans GN.out G6.out) F2.out (by simp)); have e0 := big_cell F6.out 0 _ rfl; have e1 := big_cell F6.out 1 _ rfl; have e0f := big_froz F6.out 0; have e1f := big_froz F6.out 1; clear h6 h6' e6 n6 g6 l6))
  all_goals (
    go_wp2_with fail
    refine bodyPost_ret (v := .agg #[.slice a6 ts.length cp6, .bool neg']) ?_ rfl ⟨_, rfl, ⟨neg', ts, wide_store H6.out F6.out _ _ _ _, E6.out, by have := L5.out; have := L6.out; omega⟩, ?_⟩
    · simp [results, Tryz.results105, go_sem, e0, e1]
    · exact gr_setNew (gr_setNew (gr_trans GA.out (gr_trans GN.out G6.out)) (by have := hbx.out; omega) 0 _) (by have := hbx.out; omega) 1 _)
set_option maxRecDepth 100000 in
set_option maxHeartbeats 1000000 in
theorem add_ge {w : World} {a1 a2 : Option Addr} {cp1 cp2 : Nat} {n1 n2 : Bool} {ds es : List Int} (h1 : Dig w (.slice a1 ds.length cp1) ds) (h2 : Dig w (.slice a2 es.length cp2) es) (d1 : Dg ds) (d2 : Dg es) (t1 : Trm ds) (t2 : Trm es) (hne : n1 ≠ n2) (hc : es.length ≤ ds.length ∧ bval es ≤ bval ds) (M : Nat) (hM : M ≤ 900) (l1 : ds.length ≤ M) :
    Calls Tryz.prog 105 #[.agg #[.slice a1 ds.length cp1, .bool n1], .agg #[.slice a2 es.length cp2, .bool n2]] w fun e w' => ∃ z, e = .returned z ∧ IsN w' z (sgn n1 (bval ds) + sgn n2 (bval es)) (M + 1) ∧ w.grownBy w' none := by
  obtain ⟨bx, hbx⟩ : ∃ bx, Hid (w.heap.size = bx) := ⟨_, hid rfl⟩
  obtain ⟨A, hAw⟩ : ∃ A, Hid (((w.alloc (.cells #[.slice a1 ds.length cp1, .bool n1] 128)).alloc (.cells #[.slice a2 es.length cp2, .bool n2] 128)).alloc (.cells #[.slice none 0 0, .bool false] 128) = A) := ⟨_, hid rfl⟩
  have GA : Hid (w.grownBy A none) := hid (by rw [← hAw.out]; exact gr_alloc (gr_alloc (gr_alloc (gr_refl w none) _) _) _)
  have F0 : Hid (A.heap[bx]? = some (.cells #[.slice a1 ds.length cp1, .bool n1] 128 (0, 0))) := hid (by
    rw [← hAw.out, ← hbx.out]
    exact gr_heap (gr_alloc (gr_alloc (gr_refl _ none) _) _) (heap_alloc_new w _) (by simp))
  have F1 : Hid (A.heap[bx + 1]? = some (.cells #[.slice a2 es.length cp2, .bool n2] 128 (0, 0))) := hid (by
    rw [← hAw.out, ← hbx.out]
    exact gr_heap (gr_alloc (gr_refl _ none) _) (box2 w _ _) (by simp))
  have F2 : Hid (A.heap[bx + 2]? = some (.cells #[.slice none 0 0, .bool false] 128 (0, 0))) := hid (by
    rw [← hAw.out, ← hbx.out]
    exact box3 w _ _ _)
  have H1 := hid (h1.grown GA.out)
  have H2 := hid (h2.grown GA.out)
  have D1 := hid d1
  have D2 := hid d2
  have T1 := hid t1
  have T2 := hid t2
  have HC := hid hc
  have hneb : (n1 == n2) = false := by simpa using hne
  have HNE := hid hne
  clear t1 t2 hc hne
  clear h1 h2 d1 d2
  go_enter Tryz.func105, Tryz.ntmps105
  go_wp2_with fail
  rw [hAw.out, hbx.out]
  have c0 := big_cell F0.out 0 _ rfl
  have c1 := big_cell F0.out 1 _ rfl
  have k0 := big_cell F1.out 0 _ rfl
  have k1 := big_cell F1.out 1 _ rfl
  clear hneb
  have HCm := hid (compare_any H1.out H2.out D1.out D2.out T1.out T2.out (by omega))
  obtain ⟨r, hr, hr0⟩ : ∃ r, cmpI (bval ds) (bval es) = r ∧ 0 ≤ r := ⟨_, rfl, cmp_ge HC.out.2⟩
  rw [hr] at HCm
  clear hr
  refine HCm.out.mono ?_
  rintro e w3 ⟨rfl, g3⟩
  have GN := hid g3
  have c0' := gr_cell g3 c0
  have c1' := gr_cell g3 c1
  have k0' := gr_cell g3 k0
  have k1' := gr_cell g3 k1
  clear g3 c0 c1 k0 k1 HCm
  have c0 := c0'
  have c1 := c1'
  have k0 := k0'
  have k1 := k1'
  clear c0' c1' k0' k1'
  go_wp2_with fail
  go_region_with (first
    | (go_at_call 104; refine (minus_any (H1.out.grown (gr_drew GN.out)) (H2.out.grown (gr_drew GN.out)) D1.out D2.out (by omega) HC.out.1 HC.out.2).mono ?_; rintro e w5 ⟨v5, rs, rfl, h5, d5, e5, l5, g5⟩; obtain ⟨a5, cp5, rfl⟩ := h5.slice; have G5 := hid (gr_trans (gr_drew (gr_refl w3 none)) g5); have H5 := hid h5; have D5 := hid d5; have E5 := hid e5; have L5 := hid l5; have c1' := gr_cell G5.out c1; have k1' := gr_cell G5.out k1; clear h5 d5 e5 g5 l5)
    | (go_at_call 101; refine (trim_any n1 H5.out D5.out (by have := L5.out; omega)).mono ?_; rintro e w6 ⟨z6, ts, neg', rfl, h6, e6, l6, n6, g6⟩; obtain ⟨v6, rfl, h6'⟩ := h6.ex; obtain ⟨a6, cp6, rfl⟩ := h6'.slice; have G6 := hid (gr_trans G5.out g6); have H6 := hid h6; have E6 := hid (sgn_add_diff HNE.out E5.out e6 n6); have L6 := hid l6; have F6 := hid (gr_heap (gr_trans GN.out G6.out) F2.out (by simp)); have e0 := big_cell F6.out 0 _ rfl; have e1 := big_cell F6.out 1 _ rfl; have e0f := big_froz F6.out 0; have e1f := big_froz F6.out 1; clear h6 h6' e6 n6 g6 l6))
  all_goals (
    go_wp2_with fail
    refine bodyPost_ret (v := .agg #[.slice a6 ts.length cp6, .bool neg']) ?_ rfl ⟨_, rfl, ⟨neg', ts, wide_store H6.out F6.out _ _ _ _, E6.out, by have := L5.out; have := L6.out; omega⟩, ?_⟩
    · simp [results, Tryz.results105, go_sem, e0, e1]
    · exact gr_setNew (gr_setNew (gr_trans GA.out (gr_trans GN.out G6.out)) (by have := hbx.out; omega) 0 _) (by have := hbx.out; omega) 1 _)
set_option maxRecDepth 100000 in
set_option maxHeartbeats 1000000 in
theorem add_lt {w : World} {a1 a2 : Option Addr} {cp1 cp2 : Nat} {n1 n2 : Bool} {ds es : List Int} (h1 : Dig w (.slice a1 ds.length cp1) ds) (h2 : Dig w (.slice a2 es.length cp2) es) (d1 : Dg ds) (d2 : Dg es) (t1 : Trm ds) (t2 : Trm es) (hne : n1 ≠ n2) (hc : ds.length ≤ es.length ∧ bval ds < bval es) (M : Nat) (hM : M ≤ 900) (l1 : ds.length ≤ M) (l2 : es.length ≤ M) :
    Calls Tryz.prog 105 #[.agg #[.slice a1 ds.length cp1, .bool n1], .agg #[.slice a2 es.length cp2, .bool n2]] w fun e w' => ∃ z, e = .returned z ∧ IsN w' z (sgn n1 (bval ds) + sgn n2 (bval es)) (M + 1) ∧ w.grownBy w' none := by
  obtain ⟨bx, hbx⟩ : ∃ bx, Hid (w.heap.size = bx) := ⟨_, hid rfl⟩
  obtain ⟨A, hAw⟩ : ∃ A, Hid (((w.alloc (.cells #[.slice a1 ds.length cp1, .bool n1] 128)).alloc (.cells #[.slice a2 es.length cp2, .bool n2] 128)).alloc (.cells #[.slice none 0 0, .bool false] 128) = A) := ⟨_, hid rfl⟩
  have GA : Hid (w.grownBy A none) := hid (by rw [← hAw.out]; exact gr_alloc (gr_alloc (gr_alloc (gr_refl w none) _) _) _)
  have F0 : Hid (A.heap[bx]? = some (.cells #[.slice a1 ds.length cp1, .bool n1] 128 (0, 0))) := hid (by
    rw [← hAw.out, ← hbx.out]
    exact gr_heap (gr_alloc (gr_alloc (gr_refl _ none) _) _) (heap_alloc_new w _) (by simp))
  have F1 : Hid (A.heap[bx + 1]? = some (.cells #[.slice a2 es.length cp2, .bool n2] 128 (0, 0))) := hid (by
    rw [← hAw.out, ← hbx.out]
    exact gr_heap (gr_alloc (gr_refl _ none) _) (box2 w _ _) (by simp))
  have F2 : Hid (A.heap[bx + 2]? = some (.cells #[.slice none 0 0, .bool false] 128 (0, 0))) := hid (by
    rw [← hAw.out, ← hbx.out]
    exact box3 w _ _ _)
  have H1 := hid (h1.grown GA.out)
  have H2 := hid (h2.grown GA.out)
  have D1 := hid d1
  have D2 := hid d2
  have T1 := hid t1
  have T2 := hid t2
  have HC := hid hc
  have hneb : (n1 == n2) = false := by simpa using hne
  have HNE := hid hne
  clear t1 t2 hc hne
  clear h1 h2 d1 d2
  go_enter Tryz.func105, Tryz.ntmps105
  go_wp2_with fail
  rw [hAw.out, hbx.out]
  have c0 := big_cell F0.out 0 _ rfl
  have c1 := big_cell F0.out 1 _ rfl
  have k0 := big_cell F1.out 0 _ rfl
  have k1 := big_cell F1.out 1 _ rfl
  clear hneb
  have HCm := hid (compare_any H1.out H2.out D1.out D2.out T1.out T2.out (by omega))
  obtain ⟨r, hr, hr0⟩ : ∃ r, cmpI (bval ds) (bval es) = r ∧ r = -1 := ⟨_, rfl, cmpI_lt HC.out.2⟩
  rw [hr] at HCm
  clear hr
  refine HCm.out.mono ?_
  rintro e w3 ⟨rfl, g3⟩
  have GN := hid g3
  have c0' := gr_cell g3 c0
  have c1' := gr_cell g3 c1
  have k0' := gr_cell g3 k0
  have k1' := gr_cell g3 k1
  clear g3 c0 c1 k0 k1 HCm
  have c0 := c0'
  have c1 := c1'
  have k0 := k0'
  have k1 := k1'
  clear c0' c1' k0' k1'
  go_wp2_with fail
  go_region_with (first
    | (go_at_call 104; refine (minus_any (H2.out.grown (gr_drew GN.out)) (H1.out.grown (gr_drew GN.out)) D2.out D1.out (by omega) HC.out.1 (Int.le_of_lt HC.out.2)).mono ?_; rintro e w5 ⟨v5, rs, rfl, h5, d5, e5, l5, g5⟩; obtain ⟨a5, cp5, rfl⟩ := h5.slice; have G5 := hid (gr_trans (gr_drew (gr_refl w3 none)) g5); have H5 := hid h5; have D5 := hid d5; have E5 := hid e5; have L5 := hid l5; have c1' := gr_cell G5.out c1; have k1' := gr_cell G5.out k1; clear h5 d5 e5 g5 l5)
    | (go_at_call 101; refine (trim_any n2 H5.out D5.out (by have := L5.out; omega)).mono ?_; rintro e w6 ⟨z6, ts, neg', rfl, h6, e6, l6, n6, g6⟩; obtain ⟨v6, rfl, h6'⟩ := h6.ex; obtain ⟨a6, cp6, rfl⟩ := h6'.slice; have G6 := hid (gr_trans G5.out g6); have H6 := hid h6; have E6 := hid ((Int.add_comm _ _ ▸ sgn_add_diff (Ne.symm HNE.out) E5.out e6 n6 : sgn neg' (bval ts) = sgn n1 (bval ds) + sgn n2 (bval es))); have L6 := hid l6; have F6 := hid (gr_heap (gr_trans GN.out G6.out) F2.out (by simp)); have e0 := big_cell F6.out 0 _ rfl; have e1 := big_cell F6.out 1 _ rfl; have e0f := big_froz F6.out 0; have e1f := big_froz F6.out 1; clear h6 h6' e6 n6 g6 l6))
  all_goals (
    go_wp2_with fail
    refine bodyPost_ret (v := .agg #[.slice a6 ts.length cp6, .bool neg']) ?_ rfl ⟨_, rfl, ⟨neg', ts, wide_store H6.out F6.out _ _ _ _, E6.out, by have := L5.out; have := L6.out; omega⟩, ?_⟩
    · simp [results, Tryz.results105, go_sem, e0, e1]
    · exact gr_setNew (gr_setNew (gr_trans GA.out (gr_trans GN.out G6.out)) (by have := hbx.out; omega) 0 _) (by have := hbx.out; omega) 1 _)

theorem add_any {w : World} {x y : Value} {n m : Int} {M : Nat} (hx : IsN w x n M) (hy : IsN w y m M) (hM : M ≤ 900) :
    Calls Tryz.prog 105 #[x, y] w fun e w' => ∃ z, e = .returned z ∧ IsN w' z (n + m) (M + 1) ∧ w.grownBy w' none := by
  obtain ⟨n1, ds, hw1, rfl, l1⟩ := hx
  obtain ⟨n2, es, hw2, rfl, l2⟩ := hy
  obtain ⟨v1, rfl, h1⟩ := hw1.ex
  obtain ⟨v2, rfl, h2⟩ := hw2.ex
  obtain ⟨a1, cp1, rfl⟩ := h1.slice
  obtain ⟨a2, cp2, rfl⟩ := h2.slice
  by_cases hne : n1 = n2
  · subst hne
    exact add_same h1 h2 hw1.dg hw2.dg M hM l1 l2
  · by_cases hc : bval es ≤ bval ds
    · refine add_ge h1 h2 hw1.dg hw2.dg hw1.trm hw2.trm hne ⟨?_, hc⟩ M hM l1
      rcases Nat.lt_or_ge ds.length es.length with h | h
      · have := shorter_lt hw1.dg hw2.dg hw2.trm h; omega
      · exact h
    · refine add_lt h1 h2 hw1.dg hw2.dg hw1.trm hw2.trm hne ⟨?_, by omega⟩ M hM l1 l2
      rcases Nat.lt_or_ge es.length ds.length with h | h
      · have := shorter_lt hw2.dg hw1.dg hw1.trm h; omega
      · exact h
end Go.Proofs.YtckoaeoecjphiaaGreat
