/- Lemmas: tocsinref02: the digits of a number of 64 bits. tocsinref02: a number of 64 bits of its digits. -/
import Derived.Test.YtckoaeoecjphiaaGreatK27

/- tocsinref02: the digits of a number of 64 bits. -/
namespace Go.Proofs.YtckoaeoecjphiaaGreat
open Go.RowKit Go.Lib

theorem of_step {rs : List Int} {m d m' N : Int} (h : bval rs + m * pw rs.length = N) (hm : m = d + 65536 * m') : bval (rs ++ [d]) + m' * pw (rs.length + 1) = N := by
  rw [bval_snoc, pw_succ]
  have h1 : m * pw rs.length = d * pw rs.length + 65536 * (m' * pw rs.length) := by rw [hm, Int.add_mul, Int.mul_assoc]
  have h2 : m' * (65536 * pw rs.length) = 65536 * (m' * pw rs.length) := Int.mul_left_comm ..
  omega
theorem of_room {n : Nat} {m m' d : Int} (hn : n ≤ 4) (h0 : 0 < m) (h : m < pw (4 - n)) (hm : m = d + 65536 * m') (d0 : 0 ≤ d) : n + 1 ≤ 4 ∧ m' < pw (4 - (n + 1)) := by
  have h4 : n ≠ 4 := by
    rintro rfl
    have : pw (4 - 4) = 1 := rfl
    omega
  refine ⟨by omega, ?_⟩
  have e : 4 - n = (4 - (n + 1)) + 1 := by omega
  rw [e, pw_succ] at h
  omega
theorem trm_snoc {rs : List Int} {d : Int} (h : d ≠ 0) : Trm (rs ++ [d]) := by
  right
  simp [nth, h]
theorem own_snoc {w : World} {base : Nat} {T : TypeId} {v : Value} {rs : List Int} {d : Int} (h : w.ownsRow base T 1 v (rs.length + 1) (rs.map (Value.int .u32) ++ [.int .u32 d])) : w.ownsRow base T 1 v (rs ++ [d]).length ((rs ++ [d]).map (Value.int .u32)) := by
  rw [List.map_append, List.length_append]; exact h
theorem base_le {w : World} {b : Nat} {o : Obj} (h : w.heap[b + 1]? = some o) (o' : Obj) : b + 2 ≤ (w.alloc o').heap.size := by
  have h1 := lt_of_block h
  have h2 : (w.alloc o').heap.size = w.heap.size + 1 := by simp
  omega
theorem dig_form {w : World} {base : Nat} {T : TypeId} {v : Value} {rs : List Int} {d : Int} (h : w.ownsRow base T 1 v (rs.length + 1) (rs.map (Value.int .u32) ++ [.int .u32 d])) : ∃ a c, v = .slice a (rs.length + 1) c := by
  obtain ⟨a, c, e⟩ := (Dig.own (own_snoc h)).slice
  exact ⟨a, c, by simpa using e⟩
theorem quo_u64 {m : Int} {n : Nat} (h0 : 0 ≤ m) (h : m < pw (4 - n)) : IntKind.u64.wrap (m.tdiv 65536) = m / 65536 := by
  have h1 := pw_mono (show 4 - n ≤ 4 by omega)
  have h2 : pw 4 = 18446744073709551616 := rfl
  rw [Int.tdiv_eq_ediv_of_nonneg h0, IntKind.wrap_u64]
  omega
/-- x is the number n, of L digits at most. -/
def IsN (w : World) (x : Value) (n : Int) (L : Nat) : Prop := ∃ neg ds, Wide w x neg ds ∧ sgn neg (bval ds) = n ∧ ds.length ≤ L
theorem IsN.grown {w w' : World} {x : Value} {n : Int} {L : Nat} (h : IsN w x n L) (g : w.grownBy w' none) : IsN w' x n L := by
  obtain ⟨neg, ds, h1, h2, h3⟩ := h
  exact ⟨neg, ds, h1.grown g, h2, h3⟩
def absI (n : Int) : Int := if n < 0 then -n else n
theorem sgn_abs (n : Int) : sgn (decide (n < 0)) (absI n) = n := by
  unfold sgn absI
  by_cases h : n < 0
  · simp [h]
  · simp [h]
theorem wrap_neg_u64 (n : Int) (h0 : -9223372036854775808 ≤ n) (h1 : n < 0) : IntKind.u64.wrap (-(IntKind.u64.wrap n)) = -n := by
  simp only [IntKind.wrap_u64]
  omega
theorem wrap_pos_u64 (n : Int) (h0 : 0 ≤ n) (h1 : n ≤ 9223372036854775807) : IntKind.u64.wrap n = n := by
  simp only [IntKind.wrap_u64]
  omega
theorem pw_four : pw (4 - 0) = 18446744073709551616 := rfl

set_option maxRecDepth 100000 in
set_option maxHeartbeats 4000000 in
theorem of_any {w : World} {n : Int} (hn : -9223372036854775808 ≤ n ∧ n ≤ 9223372036854775807) :
    Calls Tryz.prog 62 #[.int .i64 n] w fun e w' => ∃ x, e = .returned x ∧ IsN w' x n 4 ∧ w.grownBy w' none := by
  obtain ⟨i0, hi, hz0, hz1, hz2⟩ := info_parts Tryz.info_u32
  obtain ⟨bx, hbx⟩ : ∃ bx, Hid (w.heap.size = bx) := ⟨_, hid rfl⟩
  by_cases h0 : n < 0
  · have hneg : decide (n < 0) = true := by simp [h0]
    obtain ⟨N, hN⟩ : ∃ N, Hid (absI n = N) := ⟨_, hid rfl⟩
    have Hs := hid (sgn_abs n)
    rw [hneg, hN.out] at Hs
    have hN9 := hN.out
    unfold absI at hN9
    rw [if_pos h0] at hN9
    obtain ⟨M, hM⟩ : ∃ M, IntKind.u64.wrap n = M := ⟨_, rfl⟩
    have hM4 : IntKind.u64.wrap (-M) = N := by rw [← hM, wrap_neg_u64 n hn.1 h0]; exact hN9
    have N0 : 0 ≤ N := by omega
    have hNpos : 0 < N := by omega
    have N1 := hid (show N < pw (4 - 0) by rw [pw_four]; omega)
    clear hN9 hn hN
    obtain ⟨A, hAw⟩ : ∃ A, Hid ((w.alloc (.cells #[.slice none 0 0, .bool false] 128)).alloc (.cells #[.slice none 0 0, .bool true] 128) = A) := ⟨_, hid rfl⟩
    have GA : Hid (w.grownBy A none) := hid (by rw [← hAw.out]; exact gr_alloc (gr_alloc (gr_refl w none) _) _)
    have FA : Hid (A.heap[bx]? = some (.cells #[.slice none 0 0, .bool false] 128 (0, 0))) := hid (by
      rw [← hAw.out, ← hbx.out]
      exact gr_heap (gr_alloc (gr_refl _ none) _) (heap_alloc_new w _) (by simp))
    have FB : Hid (A.heap[bx + 1]? = some (.cells #[.slice none 0 0, .bool true] 128 (0, 0))) := hid (by
      rw [← hAw.out, ← hbx.out]
      exact box2 w _ _)
    have SA : Hid (bx + 2 ≤ A.heap.size) := hid (by have := lt_of_block FB.out; omega)
    go_enter Tryz.func62, Tryz.ntmps62
    go_wp2_with fail
    rw [hAw.out, hbx.out]
    clear hAw
    go_loopw [4] (fun v4 wr => ∃ (m : Int) (rs : List Int) (v : Value), v4 = .int .u64 m ∧ 0 ≤ m ∧ rs.length ≤ 4 ∧ Hid (m < pw (4 - rs.length)) ∧ Hid (bval rs + m * pw rs.length = N) ∧ Hid (wr.ownsRow (bx + 2) 28 1 v rs.length (rs.map (Value.int .u32))) ∧ Hid (Dg rs) ∧ Hid (m = 0 → Trm rs) ∧ Hid (wr.heap[bx]? = some (.cells #[.slice none 0 0, .bool false] 128 (0, 0))) ∧ Hid (wr.heap[bx + 1]? = some (.cells #[v, .bool true] 128 (0, 0))) ∧ Hid (w.grownBy wr none)) (fun v4 _ => (intOf v4).toNat)
    case atStart => exact ⟨N, [], .slice none 0 0, rfl, by omega, Nat.zero_le _, N1, hid (by simp [bval, pw]), hid (World.ownsRow_nil _ _ _ _), hid dg_nil, hid (fun _ => .inl rfl), FA, FB, GA⟩
    case round =>
      obtain ⟨m, rs, v, rfl, m0, hl4, HR, HV, HO, HD, HT, F1, F2, HG⟩ := hrel
      obtain ⟨a5, c5, rfl⟩ := (Dig.own HO.out).slice
      have c0 := big_cell F2.out 0 _ rfl
      have c1 := big_cell F2.out 1 _ rfl
      have c0f := big_froz F2.out 0
      have c1f := big_froz F2.out 1
      by_cases hm : 0 < m
      · obtain ⟨d, hd⟩ : ∃ d, m % 65536 = d := ⟨_, rfl⟩
        obtain ⟨m2, hm2⟩ : ∃ m2, m / 65536 = m2 := ⟨_, rfl⟩
        have hmd : m = d + 65536 * m2 := by omega
        have d0 : 0 ≤ d := by omega
        have d1 : d < 65536 := by omega
        have hm0 : 0 ≤ m2 := by omega
        have hml : m2.toNat < m.toNat := by omega
        obtain ⟨hl5, hr5⟩ := of_room hl4 hm HR.out hmd d0
        have HR5 := hid hr5
        have HV5 := hid (of_step HV.out hmd)
        have HD5 := hid (dg_snoc HD.out d0 d1)
        have HT5 : Hid (m2 = 0 → Trm (rs ++ [d])) := hid (fun h => trm_snoc (by omega))
        have hq2 : IntKind.u64.wrap (m.tdiv 65536) = m2 := by rw [quo_u64 m0 HR.out]; exact hm2
        have hwd : IntKind.u32.wrap d = d := by rw [IntKind.wrap_u32]; omega
        clear hr5 hmd
        go_wp2_with (at_builtin; go_loud ( refine wpList_append_own _ rfl _ _ 126 rfl (bx + 2) 28 i0 (.int .u32 0) 1 4 Tryz.underlying126 hi hz0 hz1 hz2 rfl (by decide) _ _ _ rfl (HO.out.alloc _) ⟨wr.heap.size, 0, none⟩ 1 1 [.int .u32 d] rfl rfl (cell_one_new _ _ _) (by simp [Value.oneCell']) (by unfold maxLen; omega) (by omega) (base_le F2.out _) ?_; intro v2 w2 hown2 hg2 _; obtain ⟨a6, c6, rfl⟩ := dig_form hown2; have HO2 : Hid (w2.ownsRow (bx + 2) 28 1 (.slice a6 (rs.length + 1) c6) (rs ++ [d]).length ((rs ++ [d]).map (Value.int .u32))) := hid (own_snoc hown2); have hbn : ∀ k, k < bx + 2 → some k ≠ (Value.slice a5 rs.length c5).ownBlock := fun k hk e => (by have := (HO.out.lt k e.symm).1; omega); have F12 := hid (gr_heap hg2 (gr_heap (gr_alloc (gr_refl wr none) _) F1.out (by simp)) (hbn bx (by omega))); have F22 := hid (gr_heap hg2 (gr_heap (gr_alloc (gr_refl wr none) _) F2.out (by simp)) (hbn (bx + 1) (by omega))); have HG2 : Hid (w.grownBy w2 none) := hid (gr_ownv (gr_alloc HG.out _) hg2 fun q hq => by have := (HO.out.lt q hq).1; have := hbx.out; omega); clear hown2 hg2 hbn c0 c1 c0f c1f; have c0 := big_cell F22.out 0 _ rfl; have c1 := big_cell F22.out 1 _ rfl; have c0f := big_froz F22.out 0; have c1f := big_froz F22.out 1))
        go_roundw
        case rel => exact ⟨m2, rs ++ [d], _, rfl, hm0, by simp; omega, by simpa using HR5, by simpa using HV5, hid (HO2.out.kept (gr_setRow (gr_refl w2 (some (bx + 1))) 0 _) (.inr fun e => by have := (HO2.out.lt _ e).1; omega)), HD5, HT5, hid (duo_other F12.out (by omega) 0 _), hid (duo_set0 F22.out _), hid (gr_setNew HG2.out (by have := hbx.out; omega) 0 _)⟩
        case measure => simpa [intOf] using hml
      · obtain rfl : m = 0 := by omega
        have hv := HV.out
        rw [Int.zero_mul, Int.add_zero] at hv
        have HV' := hid hv
        clear hv hm
        have e0 := big_cell F1.out 0 _ rfl
        have e1 := big_cell F1.out 1 _ rfl
        have e0f := big_froz F1.out 0
        have e1f := big_froz F1.out 1
        have HW : Hid (Wide wr (.agg #[.slice a5 rs.length c5, .bool true]) true rs) := hid ⟨⟨_, rfl, Dig.own HO.out⟩, HD.out, HT.out rfl, fun _ h => by have := HV'.out; have := hNpos; subst h; simp [bval] at *; omega⟩
        go_wp2_with fail
        refine bodyPost_ret (v := .agg #[.slice a5 rs.length c5, .bool true]) ?_ rfl ⟨_, rfl, ⟨true, rs, wide_store HW.out F1.out _ _ _ _, by rw [HV'.out]; exact Hs.out, hl4⟩, ?_⟩
        · simp [results, Tryz.results62, go_sem, e0, e1]
        · exact gr_setNew (gr_setNew HG.out (by have := hbx.out; omega) 0 _) (by have := hbx.out; omega) 1 _
  · have hneg : decide (n < 0) = false := by simp [h0]
    obtain ⟨N, hN⟩ : ∃ N, Hid (absI n = N) := ⟨_, hid rfl⟩
    have Hs := hid (sgn_abs n)
    rw [hneg, hN.out] at Hs
    have hN9 := hN.out
    unfold absI at hN9
    rw [if_neg h0] at hN9
    obtain ⟨M, hM⟩ : ∃ M, IntKind.u64.wrap n = M := ⟨_, rfl⟩
    obtain rfl : N = M := by symm; rw [← hM, wrap_pos_u64 n (by omega) hn.2]; exact hN9
    have N0 : 0 ≤ N := by omega
    have hNpos : 0 ≤ N := by omega
    have N1 := hid (show N < pw (4 - 0) by rw [pw_four]; omega)
    clear hN9 hn hN
    obtain ⟨A, hAw⟩ : ∃ A, Hid ((w.alloc (.cells #[.slice none 0 0, .bool false] 128)).alloc (.cells #[.slice none 0 0, .bool false] 128) = A) := ⟨_, hid rfl⟩
    have GA : Hid (w.grownBy A none) := hid (by rw [← hAw.out]; exact gr_alloc (gr_alloc (gr_refl w none) _) _)
    have FA : Hid (A.heap[bx]? = some (.cells #[.slice none 0 0, .bool false] 128 (0, 0))) := hid (by
      rw [← hAw.out, ← hbx.out]
      exact gr_heap (gr_alloc (gr_refl _ none) _) (heap_alloc_new w _) (by simp))
    have FB : Hid (A.heap[bx + 1]? = some (.cells #[.slice none 0 0, .bool false] 128 (0, 0))) := hid (by
      rw [← hAw.out, ← hbx.out]
      exact box2 w _ _)
    have SA : Hid (bx + 2 ≤ A.heap.size) := hid (by have := lt_of_block FB.out; omega)
    go_enter Tryz.func62, Tryz.ntmps62
    go_wp2_with fail
    rw [hAw.out, hbx.out]
    clear hAw
    go_loopw [4] (fun v4 wr => ∃ (m : Int) (rs : List Int) (v : Value), v4 = .int .u64 m ∧ 0 ≤ m ∧ rs.length ≤ 4 ∧ Hid (m < pw (4 - rs.length)) ∧ Hid (bval rs + m * pw rs.length = N) ∧ Hid (wr.ownsRow (bx + 2) 28 1 v rs.length (rs.map (Value.int .u32))) ∧ Hid (Dg rs) ∧ Hid (m = 0 → Trm rs) ∧ Hid (wr.heap[bx]? = some (.cells #[.slice none 0 0, .bool false] 128 (0, 0))) ∧ Hid (wr.heap[bx + 1]? = some (.cells #[v, .bool false] 128 (0, 0))) ∧ Hid (w.grownBy wr none)) (fun v4 _ => (intOf v4).toNat)
    case atStart => exact ⟨N, [], .slice none 0 0, rfl, by omega, Nat.zero_le _, N1, hid (by simp [bval, pw]), hid (World.ownsRow_nil _ _ _ _), hid dg_nil, hid (fun _ => .inl rfl), FA, FB, GA⟩
    case round =>
      obtain ⟨m, rs, v, rfl, m0, hl4, HR, HV, HO, HD, HT, F1, F2, HG⟩ := hrel
      obtain ⟨a5, c5, rfl⟩ := (Dig.own HO.out).slice
      have c0 := big_cell F2.out 0 _ rfl
      have c1 := big_cell F2.out 1 _ rfl
      have c0f := big_froz F2.out 0
      have c1f := big_froz F2.out 1
      by_cases hm : 0 < m
      · obtain ⟨d, hd⟩ : ∃ d, m % 65536 = d := ⟨_, rfl⟩
        obtain ⟨m2, hm2⟩ : ∃ m2, m / 65536 = m2 := ⟨_, rfl⟩
        have hmd : m = d + 65536 * m2 := by omega
        have d0 : 0 ≤ d := by omega
        have d1 : d < 65536 := by omega
        have hm0 : 0 ≤ m2 := by omega
        have hml : m2.toNat < m.toNat := by omega
        obtain ⟨hl5, hr5⟩ := of_room hl4 hm HR.out hmd d0
        have HR5 := hid hr5
        have HV5 := hid (of_step HV.out hmd)
        have HD5 := hid (dg_snoc HD.out d0 d1)
        have HT5 : Hid (m2 = 0 → Trm (rs ++ [d])) := hid (fun h => trm_snoc (by omega))
        have hq2 : IntKind.u64.wrap (m.tdiv 65536) = m2 := by rw [quo_u64 m0 HR.out]; exact hm2
        have hwd : IntKind.u32.wrap d = d := by rw [IntKind.wrap_u32]; omega
        clear hr5 hmd
        go_wp2_with (at_builtin; go_loud ( refine wpList_append_own _ rfl _ _ 126 rfl (bx + 2) 28 i0 (.int .u32 0) 1 4 Tryz.underlying126 hi hz0 hz1 hz2 rfl (by decide) _ _ _ rfl (HO.out.alloc _) ⟨wr.heap.size, 0, none⟩ 1 1 [.int .u32 d] rfl rfl (cell_one_new _ _ _) (by simp [Value.oneCell']) (by unfold maxLen; omega) (by omega) (base_le F2.out _) ?_; intro v2 w2 hown2 hg2 _; obtain ⟨a6, c6, rfl⟩ := dig_form hown2; have HO2 : Hid (w2.ownsRow (bx + 2) 28 1 (.slice a6 (rs.length + 1) c6) (rs ++ [d]).length ((rs ++ [d]).map (Value.int .u32))) := hid (own_snoc hown2); have hbn : ∀ k, k < bx + 2 → some k ≠ (Value.slice a5 rs.length c5).ownBlock := fun k hk e => (by have := (HO.out.lt k e.symm).1; omega); have F12 := hid (gr_heap hg2 (gr_heap (gr_alloc (gr_refl wr none) _) F1.out (by simp)) (hbn bx (by omega))); have F22 := hid (gr_heap hg2 (gr_heap (gr_alloc (gr_refl wr none) _) F2.out (by simp)) (hbn (bx + 1) (by omega))); have HG2 : Hid (w.grownBy w2 none) := hid (gr_ownv (gr_alloc HG.out _) hg2 fun q hq => by have := (HO.out.lt q hq).1; have := hbx.out; omega); clear hown2 hg2 hbn c0 c1 c0f c1f; have c0 := big_cell F22.out 0 _ rfl; have c1 := big_cell F22.out 1 _ rfl; have c0f := big_froz F22.out 0; have c1f := big_froz F22.out 1))
        go_roundw
        case rel => exact ⟨m2, rs ++ [d], _, rfl, hm0, by simp; omega, by simpa using HR5, by simpa using HV5, hid (HO2.out.kept (gr_setRow (gr_refl w2 (some (bx + 1))) 0 _) (.inr fun e => by have := (HO2.out.lt _ e).1; omega)), HD5, HT5, hid (duo_other F12.out (by omega) 0 _), hid (duo_set0 F22.out _), hid (gr_setNew HG2.out (by have := hbx.out; omega) 0 _)⟩
        case measure => simpa [intOf] using hml
      · obtain rfl : m = 0 := by omega
        have hv := HV.out
        rw [Int.zero_mul, Int.add_zero] at hv
        have HV' := hid hv
        clear hv hm
        have e0 := big_cell F1.out 0 _ rfl
        have e1 := big_cell F1.out 1 _ rfl
        have e0f := big_froz F1.out 0
        have e1f := big_froz F1.out 1
        have HW : Hid (Wide wr (.agg #[.slice a5 rs.length c5, .bool false]) false rs) := hid ⟨⟨_, rfl, Dig.own HO.out⟩, HD.out, HT.out rfl, fun h => absurd h (by decide)⟩
        go_wp2_with fail
        refine bodyPost_ret (v := .agg #[.slice a5 rs.length c5, .bool false]) ?_ rfl ⟨_, rfl, ⟨false, rs, wide_store HW.out F1.out _ _ _ _, by rw [HV'.out]; exact Hs.out, hl4⟩, ?_⟩
        · simp [results, Tryz.results62, go_sem, e0, e1]
        · exact gr_setNew (gr_setNew HG.out (by have := hbx.out; omega) 0 _) (by have := hbx.out; omega) 1 _
end Go.Proofs.YtckoaeoecjphiaaGreat

/- tocsinref02: a number of 64 bits of its digits. -/
namespace Go.Proofs.YtckoaeoecjphiaaGreat
open Go.RowKit Go.Lib

theorem bval_drop_cons {ds : List Int} {i : Nat} (h : i < ds.length) : bval (ds.drop i) = nth ds i + 65536 * bval (ds.drop (i + 1)) := by
  rw [List.drop_eq_getElem_cons h]
  simp [bval, nth, h]
theorem dg_drop {ds : List Int} (h : Dg ds) (n : Nat) : Dg (ds.drop n) := fun d hd => h d (List.mem_of_mem_drop hd)
theorem drop_small {ds : List Int} (h : Dg ds) (hl : ds.length ≤ 4) (i : Nat) : 0 ≤ bval (ds.drop i) ∧ bval (ds.drop i) < 18446744073709551616 := by
  refine ⟨bval_nonneg (dg_drop h i), ?_⟩
  have h1 := bval_lt (dg_drop h i)
  have h2 : pw (ds.drop i).length ≤ pw 4 := pw_mono (by rw [List.length_drop]; omega)
  have h3 : pw 4 = 18446744073709551616 := rfl
  omega
/-- One digit more. -/
theorem int_step {ds : List Int} {i : Nat} {m x : Int} (hd : Dg ds) (hl : ds.length ≤ 4) (hi : i < ds.length) (hm : m = bval (ds.drop (i + 1))) (hx : nth ds i = x) :
    ∃ q m', IntKind.u64.wrap (m * 65536) = q ∧ IntKind.u64.wrap x = x ∧ IntKind.u64.wrap (q + x) = m' ∧ m' = bval (ds.drop i) := by
  have h1 := bval_drop_cons hi
  have h2 := drop_small hd hl i
  have h3 := drop_small hd hl (i + 1)
  have h4 := nth_dg hd i
  rw [hx] at h1 h4
  rw [← hm] at h1 h3
  refine ⟨m * 65536, bval (ds.drop i), ?_, ?_, ?_, rfl⟩
  · rw [IntKind.wrap_u64]; omega
  · rw [IntKind.wrap_u64]; omega
  · rw [IntKind.wrap_u64]; omega
theorem wrap_back {M : Int} (h0 : 0 < M) (h1 : M ≤ 9223372036854775808) : IntKind.i64.wrap (IntKind.u64.wrap (-M)) = -M := by
  rw [IntKind.wrap_u64, IntKind.wrap_i64]; omega
theorem wrap_same {M : Int} (h0 : 0 ≤ M) (h1 : M < 9223372036854775808) : IntKind.i64.wrap M = M := by
  rw [IntKind.wrap_i64]; omega

set_option maxRecDepth 100000 in
set_option maxHeartbeats 4000000 in
theorem int_any {w : World} {x : Value} {n : Int} {L : Nat} (h : IsN w x n L) (hn : -9223372036854775808 ≤ n ∧ n ≤ 9223372036854775807) :
    Calls Tryz.prog 59 #[x] w fun e w' => e = .returned (.tuple #[.int .i64 n, .int .i64 0]) ∧ w.grownBy w' none := by
  obtain ⟨neg, ds, hw, hs, -⟩ := h
  obtain ⟨v, rfl, hv⟩ := hw.ex
  obtain ⟨a, cap, rfl⟩ := hv.slice
  have HV := hid hv
  have DD := hid hw.dg
  obtain ⟨M, hM⟩ : ∃ M, Hid (bval ds = M) := ⟨_, hid rfl⟩
  have hM0 := bval_nonneg hw.dg
  rw [hM.out] at hs hM0
  have hMb : M ≤ 9223372036854775808 ∧ (neg = true → 0 < M) ∧ (neg = false → M < 9223372036854775808) := by
    have h1 : neg = true → M ≠ 0 := fun hn1 h0 => hw.pos hn1 ((trm_zero hw.dg hw.trm).1 (by rw [hM.out]; exact h0))
    unfold sgn at hs
    cases neg
    · simp at hs; simp; omega
    · simp at hs; have := h1 rfl; simp; omega
  have hlen : ds.length ≤ 4 := trm_len hw.dg hw.trm (by rw [hM.out]; have : pw 4 = 18446744073709551616 := rfl; omega)
  clear hv hw
  obtain ⟨k, hk⟩ : ∃ k, Hid (ds.length = k) := ⟨_, hid rfl⟩
  rw [hk.out]
  obtain ⟨W, hW⟩ : ∃ W, Hid (w.alloc (.cells #[.slice a k cap, .bool neg] 128) = W) := ⟨_, hid rfl⟩
  have GW : Hid (w.grownBy W none) := hid (by rw [← hW.out]; exact gr_alloc (gr_refl w none) _)
  have FW : W.heap[w.heap.size]? = some (.cells #[.slice a k cap, .bool neg] 128 (0, 0)) := by rw [← hW.out]; exact heap_alloc_new w _
  have c0 := big_cell FW 0 _ rfl
  have c1 := big_cell FW 1 _ rfl
  have hlen4 := hid hlen
  rw [hk.out] at hlen
  clear FW
  go_enter Tryz.func59, Tryz.ntmps59
  go_wp2_with fail
  rw [hW.out]
  go_loopw [4, 5] (fun v4 v5 wr => ∃ m j : Int, v4 = .int .u64 m ∧ v5 = .int .i64 j ∧ ((j = -1 ∧ m = M) ∨ ∃ i : Nat, j = (i : Int) ∧ i < k ∧ Hid (m = bval (ds.drop (i + 1)))) ∧ wr = W) (fun _ v5 _ => (intOf v5 + 1).toNat)
  case atStart =>
    refine ⟨0, (k : Int) - 1, rfl, by go_num, ?_, rfl⟩
    by_cases h0 : k = 0
    · left
      refine ⟨by omega, ?_⟩
      rw [← hM.out, List.length_eq_zero_iff.1 (hk.out.trans h0)]
      rfl
    · right
      exact ⟨k - 1, by omega, by omega, hid (by rw [List.drop_of_length_le (by rw [hk.out]; omega)]; rfl)⟩
  case round =>
    obtain ⟨m, j, rfl, rfl, hj, rfl⟩ := hrel
    rcases hj with ⟨rfl, rfl⟩ | ⟨i, rfl, hik, hm⟩
    · obtain ⟨M1, M2, M3⟩ := hMb
      cases neg with
      | true =>
        have h0 := M2 rfl
        have hn1 : -m = n := by simpa [sgn] using hs
        obtain ⟨z, hz⟩ : ∃ z, IntKind.u64.wrap (-m) = z := ⟨_, rfl⟩
        have hz2 : IntKind.i64.wrap z = n := by rw [← hz, wrap_back h0 M1]; exact hn1
        clear hs hn1 M2 M3
        go_wp2_with fail
        go_ret2
        exact ⟨rfl, GW.out⟩
      | false =>
        have h0 := M3 rfl
        obtain rfl : m = n := by simpa [sgn] using hs
        have hz2 : IntKind.i64.wrap m = m := wrap_same hM0 h0
        clear hs M2 M3
        go_wp2_with fail
        go_ret2
        exact ⟨rfl, GW.out⟩
    · obtain ⟨b, off, cp, he, -, hca⟩ := HV.out.cells (by rw [hk.out]; omega)
      injection he with he1 he2 he3
      subst he1
      have hx0 := hca _ GW.out i (by rw [hk.out]; exact hik)
      obtain ⟨x, hx⟩ : ∃ x, Hid (nth ds i = x) := ⟨_, hid rfl⟩
      rw [hx.out] at hx0
      obtain ⟨q, m', hq1, hq2, hq3, hm'⟩ := int_step DD.out hlen4.out (by rw [hk.out]; exact hik) hm.out hx.out
      have Hm' := hid hm'
      have hinI : (i : Int) < (k : Int) := by omega
      clear hca he2 he3 hm'
      go_wp2_with fail
      go_roundw
      case rel =>
        refine ⟨m', (i : Int) - 1, rfl, by go_num, ?_, trivial⟩
        cases i with
        | zero => left; exact ⟨by omega, by rw [Hm'.out, ← hM.out]; rfl⟩
        | succ i => right; exact ⟨i, by omega, by omega, Hm'⟩
      case measure => simp [intOf]
end Go.Proofs.YtckoaeoecjphiaaGreat
