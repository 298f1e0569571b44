/- tocsinref02: a number of 64 bits of its digits. -/
import Derived.Test.YtagoiidpcfjebaaBigE
namespace Go.Proofs.Ytagoiidpcfjebaa
open Go.RowKit Go.Lib

theorem bval_drop_cons {ds : List Int} {i : Nat} (h : i < ds.length) : bval (ds.drop i) = nth ds i + 65536 * bval (ds.drop (i + 1)) := by
  rw [List.drop_eq_getElem_cons h]
  simp [bval, nth, h]
theorem dg_drop {ds : List Int} (h : Dg ds) (n : Nat) : Dg (ds.drop n) := fun d hd => h d (List.mem_of_mem_drop hd)
theorem drop_small {ds : List Int} (h : Dg ds) (hl : ds.length ≤ 4) (i : Nat) : 0 ≤ bval (ds.drop i) ∧ bval (ds.drop i) < 18446744073709551616 := by
  refine ⟨bval_nonneg (dg_drop h i), ?_⟩
  have h1 := bval_lt (dg_drop h i)
  have h2 : pw (ds.drop i).length ≤ pw 4 := pw_mono (by rw [List.length_drop]; omega)
  have h3 : pw 4 = 18446744073709551616 := rfl
  omega
/-- One digit more. -/
theorem int_step {ds : List Int} {i : Nat} {m x : Int} (hd : Dg ds) (hl : ds.length ≤ 4) (hi : i < ds.length) (hm : m = bval (ds.drop (i + 1))) (hx : nth ds i = x) :
    ∃ q m', IntKind.u64.wrap (m * 65536) = q ∧ IntKind.u64.wrap x = x ∧ IntKind.u64.wrap (q + x) = m' ∧ m' = bval (ds.drop i) := by
  have h1 := bval_drop_cons hi
  have h2 := drop_small hd hl i
  have h3 := drop_small hd hl (i + 1)
  have h4 := nth_dg hd i
  rw [hx] at h1 h4
  rw [← hm] at h1 h3
  refine ⟨m * 65536, bval (ds.drop i), ?_, ?_, ?_, rfl⟩
  · rw [IntKind.wrap_u64]; omega
  · rw [IntKind.wrap_u64]; omega
  · rw [IntKind.wrap_u64]; omega
theorem wrap_back {M : Int} (h0 : 0 < M) (h1 : M ≤ 9223372036854775808) : IntKind.i64.wrap (IntKind.u64.wrap (-M)) = -M := by
  rw [IntKind.wrap_u64, IntKind.wrap_i64]; omega
theorem wrap_same {M : Int} (h0 : 0 ≤ M) (h1 : M < 9223372036854775808) : IntKind.i64.wrap M = M := by
  rw [IntKind.wrap_i64]; omega

set_option maxRecDepth 100000 in
set_option maxHeartbeats 4000000 in
theorem int_any {w : World} {x : Value} {n : Int} {L : Nat} (h : IsN w x n L) (hn : -9223372036854775808 ≤ n ∧ n ≤ 9223372036854775807) :
    Calls Try.prog 40 #[x] w fun e w' => e = .returned (.tuple #[.int .i64 n, .int .i64 0]) ∧ w.grownBy w' none := by
  obtain ⟨neg, ds, hw, hs, -⟩ := h
  obtain ⟨v, rfl, hv⟩ := hw.ex
  obtain ⟨a, cap, rfl⟩ := hv.slice
  have HV := hid hv
  have DD := hid hw.dg
  obtain ⟨M, hM⟩ : ∃ M, Hid (bval ds = M) := ⟨_, hid rfl⟩
  have hM0 := bval_nonneg hw.dg
  rw [hM.out] at hs hM0
  have hMb : M ≤ 9223372036854775808 ∧ (neg = true → 0 < M) ∧ (neg = false → M < 9223372036854775808) := by
    have h1 : neg = true → M ≠ 0 := fun hn1 h0 => hw.pos hn1 ((trm_zero hw.dg hw.trm).1 (by rw [hM.out]; exact h0))
    unfold sgn at hs
    cases neg
    · simp at hs; simp; omega
    · simp at hs; have := h1 rfl; simp; omega
  have hlen : ds.length ≤ 4 := trm_len hw.dg hw.trm (by rw [hM.out]; have : pw 4 = 18446744073709551616 := rfl; omega)
  clear hv hw
  obtain ⟨k, hk⟩ : ∃ k, Hid (ds.length = k) := ⟨_, hid rfl⟩
  rw [hk.out]
  obtain ⟨W, hW⟩ : ∃ W, Hid (w.alloc (.cells #[.slice a k cap, .bool neg] 84) = W) := ⟨_, hid rfl⟩
  have GW : Hid (w.grownBy W none) := hid (by rw [← hW.out]; exact gr_alloc (gr_refl w none) _)
  have FW : W.heap[w.heap.size]? = some (.cells #[.slice a k cap, .bool neg] 84 (0, 0)) := by rw [← hW.out]; exact heap_alloc_new w _
  have c0 := big_cell FW 0 _ rfl
  have c1 := big_cell FW 1 _ rfl
  have hlen4 := hid hlen
  rw [hk.out] at hlen
  clear FW
  go_enter Try.func40, Try.ntmps40
  go_wp2_with fail
  rw [hW.out]
  go_loopw [4, 5] (fun v4 v5 wr => ∃ m j : Int, v4 = .int .u64 m ∧ v5 = .int .i64 j ∧ ((j = -1 ∧ m = M) ∨ ∃ i : Nat, j = (i : Int) ∧ i < k ∧ Hid (m = bval (ds.drop (i + 1)))) ∧ wr = W) (fun _ v5 _ => (intOf v5 + 1).toNat)
  case atStart =>
    refine ⟨0, (k : Int) - 1, rfl, by go_num, ?_, rfl⟩
    by_cases h0 : k = 0
    · left
      refine ⟨by omega, ?_⟩
      rw [← hM.out, List.length_eq_zero_iff.1 (hk.out.trans h0)]
      rfl
    · right
      exact ⟨k - 1, by omega, by omega, hid (by rw [List.drop_of_length_le (by rw [hk.out]; omega)]; rfl)⟩
  case round =>
    obtain ⟨m, j, rfl, rfl, hj, rfl⟩ := hrel
    rcases hj with ⟨rfl, rfl⟩ | ⟨i, rfl, hik, hm⟩
    · obtain ⟨M1, M2, M3⟩ := hMb
      cases neg with
      | true =>
        have h0 := M2 rfl
        have hn1 : -m = n := by simpa [sgn] using hs
        obtain ⟨z, hz⟩ : ∃ z, IntKind.u64.wrap (-m) = z := ⟨_, rfl⟩
        have hz2 : IntKind.i64.wrap z = n := by rw [← hz, wrap_back h0 M1]; exact hn1
        clear hs hn1 M2 M3
        go_wp2_with fail
        go_ret2
        exact ⟨rfl, GW.out⟩
      | false =>
        have h0 := M3 rfl
        obtain rfl : m = n := by simpa [sgn] using hs
        have hz2 : IntKind.i64.wrap m = m := wrap_same hM0 h0
        clear hs M2 M3
        go_wp2_with fail
        go_ret2
        exact ⟨rfl, GW.out⟩
    · obtain ⟨b, off, cp, he, -, hca⟩ := HV.out.cells (by rw [hk.out]; omega)
      injection he with he1 he2 he3
      subst he1
      have hx0 := hca _ GW.out i (by rw [hk.out]; exact hik)
      obtain ⟨x, hx⟩ : ∃ x, Hid (nth ds i = x) := ⟨_, hid rfl⟩
      rw [hx.out] at hx0
      obtain ⟨q, m', hq1, hq2, hq3, hm'⟩ := int_step DD.out hlen4.out (by rw [hk.out]; exact hik) hm.out hx.out
      have Hm' := hid hm'
      have hinI : (i : Int) < (k : Int) := by omega
      clear hca he2 he3 hm'
      go_wp2_with fail
      go_roundw
      case rel =>
        refine ⟨m', (i : Int) - 1, rfl, by go_num, ?_, trivial⟩
        cases i with
        | zero => left; exact ⟨by omega, by rw [Hm'.out, ← hM.out]; rfl⟩
        | succ i => right; exact ⟨i, by omega, by omega, Hm'⟩
      case measure => simp [intOf]
end Go.Proofs.Ytagoiidpcfjebaa
