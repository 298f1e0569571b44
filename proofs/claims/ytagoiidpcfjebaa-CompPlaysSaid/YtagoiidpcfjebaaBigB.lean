/- tocsinref02: the difference of two sizes; which is greater. -/
import Derived.Test.YtagoiidpcfjebaaBigA
import Derived.Deep.QuietTactic
import Derived.BigQuiet
namespace Go.Proofs.Ytagoiidpcfjebaa
open Go.RowKit Go.Lib

theorem Dig.cells {w : World} {v : Value} {ds : List Int} (h : Dig w v ds) (h1 : 0 < ds.length) : ∃ b off cap, v = .slice (some ⟨b, off, none⟩) ds.length cap ∧ ds.length ≤ cap ∧ ∀ w', w.grownBy w' none → ∀ j, j < ds.length → w'.cell? ⟨b, off + j, none⟩ = some (.int .u32 (nth ds j)) := by
  rcases h with ⟨rfl, _⟩ | ⟨b, off, cap, rfl, hc, hb, hj⟩
  · simp at h1
  · exact ⟨b, off, cap, rfl, hc, fun w' g j hl => gr_cell g (hj j hl)⟩
theorem minus_end {rs ds es : List Int} {c : Int} (c0 : 0 ≤ c) (c1 : c ≤ 1) (hl : rs.length = ds.length) (hd : Dg rs) (hv : bval rs - c * pw ds.length = bval (ds.take ds.length) - bval (es.take ds.length)) (hle : es.length ≤ ds.length) (hge : bval es ≤ bval ds) : bval rs = bval ds - bval es := by
  rw [List.take_of_length_le (Nat.le_refl _), List.take_of_length_le hle] at hv
  have h1 := bval_lt hd
  rw [hl] at h1
  rcases (by omega : c = 0 ∨ c = 1) with rfl | rfl
  · omega
  · omega

set_option maxRecDepth 100000 in
set_option maxHeartbeats 4000000 in
theorem minus_any {w : World} {va vb : Value} {ds es : List Int} (ha : Dig w va ds) (hb : Dig w vb es) (da : Dg ds) (db : Dg es) (la : ds.length ≤ 1000) (hle : es.length ≤ ds.length) (hge : bval es ≤ bval ds) :
    Calls Try.prog 50 #[va, vb] w fun e w' => ∃ v rs, e = .returned v ∧ Dig w' v rs ∧ Dg rs ∧ bval rs = bval ds - bval es ∧ rs.length = ds.length ∧ w.grownBy w' none := by
  obtain ⟨i0, hi, hz0, hz1, hz2⟩ := info_parts Try.info_u32
  obtain ⟨a1, cp1, ea⟩ := ha.slice
  obtain ⟨a2, cp2, eb⟩ := hb.slice
  have HA := hid ha
  have HB := hid hb
  have DA := hid da
  have DB := hid db
  have HGE := hid hge
  clear ha hb da db hge
  rw [ea] at HA
  rw [eb] at HB
  rw [ea, eb]
  clear ea eb
  obtain ⟨n, hn⟩ : ∃ n, Hid (ds.length = n) := ⟨_, hid rfl⟩
  rw [hn.out] at la
  go_enter Try.func50, Try.ntmps50
  go_wp2_with fail
  go_loopw [5, 6, 7] (fun vr vc vi wr => ∃ (i : Nat) (c : Int) (rs : List Int), vi = .int .i64 i ∧ vc = .int .u32 c ∧ (0 ≤ c ∧ c ≤ 1) ∧ i ≤ n ∧ Hid (wr.ownsRow w.heap.size 29 1 vr rs.length (rs.map (Value.int .u32))) ∧ Hid (rs.length = i) ∧ Hid (Dg rs) ∧ Hid (bval rs - c * pw i = bval (ds.take i) - bval (es.take i)) ∧ Hid (w.grownBy wr none)) (fun _ _ vi _ => n - (intOf vi).toNat)
  case atStart => exact ⟨0, 0, [], rfl, rfl, ⟨by omega, by omega⟩, Nat.zero_le _, hid (World.ownsRow_nil _ _ _ _), hid rfl, hid dg_nil, hid (by simp [bval]), hid (gr_refl w none)⟩
  case round =>
    obtain ⟨i, c, rs, rfl, rfl, ⟨c0, c1'⟩, hiM, HO, HL, HD, HV, HG⟩ := hrel
    have hlr : rs.length ≤ 1001 := by have := HL.out; omega
    by_cases h1 : i < n
    · have d1 := nth_dg DA.out i
      have d2 := nth_dg DB.out i
      have HB' := hid (fun m : Nat => digit_at ((HB.out.grown HG.out).grown (gr_drewN (gr_refl wr none) m)) i)
      obtain ⟨b, off, cap, he, hcap, hcell⟩ := HA.out.cells (by rw [hn.out]; omega)
      injection he with he1 he2 he3
      subst he1
      have hx0 := hcell _ HG.out i (by rw [hn.out]; exact h1)
      obtain ⟨x, hx⟩ : ∃ x, Hid (nth ds i = x) := ⟨_, hid rfl⟩
      obtain ⟨y, hy⟩ : ∃ y, Hid (nth es i = y) := ⟨_, hid rfl⟩
      rw [hx.out] at d1 hx0
      rw [hy.out] at d2 HB'
      obtain ⟨x0, x1⟩ := d1
      obtain ⟨y0, y1⟩ := d2
      obtain ⟨s, hs⟩ : ∃ s, Hid (65536 + x - y - c = s) := ⟨_, hid rfl⟩
      obtain ⟨d, hd⟩ : ∃ d, s % 65536 = d := ⟨_, rfl⟩
      obtain ⟨k, hk⟩ : ∃ k, s / 65536 = k := ⟨_, rfl⟩
      obtain ⟨c', hc'⟩ : ∃ c', Hid (1 - k = c') := ⟨_, hid rfl⟩
      have hs' := hs.out
      have hc2 := hc'.out
      have s0 : 0 ≤ s := by omega
      have s1 : s ≤ 131071 := by omega
      have hw1 : IntKind.u32.wrap (65536 + x) = 65536 + x := by rw [IntKind.wrap_u32]; omega
      have hw2 : IntKind.u32.wrap (65536 + x - y) = 65536 + x - y := by rw [IntKind.wrap_u32]; omega
      have hw3 : IntKind.u32.wrap (65536 + x - y - c) = s := by rw [IntKind.wrap_u32]; omega
      have hw4 : IntKind.u32.wrap (1 - k) = c' := by rw [IntKind.wrap_u32]; omega
      have HV2 := hid (minus_step HL.out HV.out (by rw [hx.out, hy.out]; exact hs.out) (show s = d + 65536 * (1 - c') by omega))
      have HD2 := hid (dg_snoc HD.out (show 0 ≤ d by omega) (show d < 65536 by omega))
      have hc3 := hid (show 0 ≤ c' ∧ c' ≤ 1 by omega)
      have hin : (i : Int) < (n : Int) := by omega
      have htn : ((i : Int)).toNat = i := by omega
      rw [hn.out]
      clear hs' hc2 hcell he2 he3
      go_wp2_with fail
      go_quiet ((go_at_call 63; exact Calls.quiet_of_same (HB'.out _)))
      obtain ⟨w5, hw5⟩ : ∃ w5, wr.drewN nq = w5 := ⟨_, rfl⟩
      have G5 : Hid (wr.grownBy w5 none) := hid (hw5 ▸ gr_drewN (gr_refl wr none) nq)
      rw [hw5]
      have HO5 := hid (HO.out.kept G5.out (Classical.em _))
      clear hw5 hx0 nq
      go_wp2_with (at_builtin; refine wpList_append_own _ rfl _ _ 58 rfl w.heap.size 29 i0 (.int .u32 0) 1 4 Try.underlying58 hi hz0 hz1 hz2 rfl (by decide) _ _ _ rfl (HO5.out.alloc _) ⟨w5.heap.size, 0, none⟩ 1 1 [.int .u32 d] rfl rfl (cell_one_new _ _ _) (by simp [Value.oneCell']) (by unfold maxLen; omega) (by omega) (by have := HG.out.size; have := G5.out.size; simp; omega) ?_; intro v2 w2 hown2 hg2 _)
      have HO2 : Hid (w2.ownsRow w.heap.size 29 1 v2 (rs ++ [d]).length ((rs ++ [d]).map (Value.int .u32))) := hid (by rw [List.map_append, List.length_append]; exact hown2)
      have HG2 : Hid (w.grownBy w2 none) := hid (gr_ownv (gr_alloc (gr_trans HG.out G5.out) _) hg2 fun q hq => (HO5.out.lt q hq).1)
      clear hown2 hg2
      go_wp2_with fail
      go_roundw
      case rel => exact ⟨i + 1, c', rs ++ [d], by go_num, rfl, hc3.out, by omega, HO2, hid (by have := HL.out; simp; omega), HD2, HV2, HG2⟩
      case measure => simp [intOf]; omega
    · obtain rfl : i = n := by omega
      have hl2 : rs.length = ds.length := by rw [hn.out]; exact HL.out
      have hv := HV.out
      rw [← hn.out] at hv
      have HV' := hid (minus_end c0 c1' hl2 HD.out hv hle HGE.out)
      rw [hn.out]
      clear hv
      have Hl2 := hid hl2
      clear hl2
      go_wp2_with fail
      go_ret
      exact ⟨_, rs, rfl, Dig.own HO.out, HD.out, HV'.out, Hl2.out, HG.out⟩

def cmpI (x y : Int) : Int := if x < y then -1 else if y < x then 1 else 0
theorem cmpI_lt {x y : Int} (h : x < y) : cmpI x y = -1 := if_pos h
theorem cmpI_gt {x y : Int} (h : y < x) : cmpI x y = 1 := by unfold cmpI; rw [if_neg (by omega), if_pos h]
theorem cmpI_eq {x y : Int} (h : x = y) : cmpI x y = 0 := by unfold cmpI; rw [if_neg (by omega), if_neg (by omega)]

set_option maxRecDepth 100000 in
set_option maxHeartbeats 4000000 in
theorem compare_any {w : World} {va vb : Value} {ds es : List Int} (ha : Dig w va ds) (hb : Dig w vb es) (da : Dg ds) (db : Dg es) (ta : Trm ds) (tb : Trm es) (la : ds.length ≤ 1000) :
    Calls Try.prog 49 #[va, vb] w fun e w' => e = .returned (.int .i64 (cmpI (bval ds) (bval es))) ∧ w.grownBy w' none := by
  obtain ⟨a1, cp1, ea⟩ := ha.slice
  obtain ⟨a2, cp2, eb⟩ := hb.slice
  by_cases hlen : ds.length = es.length
  · have HA := hid ha
    have HB := hid hb
    have DA := hid da
    have DB := hid db
    clear ha hb da db ta tb
    rw [ea] at HA
    rw [eb] at HB
    rw [ea, eb]
    clear ea eb
    obtain ⟨n, hn⟩ : ∃ n, Hid (ds.length = n) := ⟨_, hid rfl⟩
    have hn2 : Hid (es.length = n) := hid (by rw [← hlen, hn.out])
    rw [hn.out, hn2.out]
    rw [hn.out] at la
    clear hlen
    obtain ⟨r, hr⟩ : ∃ r, Hid (cmpI (bval ds) (bval es) = r) := ⟨_, hid rfl⟩
    rw [hr.out]
    go_enter Try.func49, Try.ntmps49
    go_wp2_with fail
    go_loopw [5] (fun vi wr => ∃ j : Int, vi = .int .i64 j ∧ ((j = -1 ∧ Hid (ds = es)) ∨ ∃ i : Nat, j = (i : Int) ∧ i < n ∧ Hid (ds.drop (i + 1) = es.drop (i + 1))) ∧ Hid (w.grownBy wr none)) (fun vi _ => (intOf vi + 1).toNat)
    case atStart =>
      refine ⟨(n : Int) - 1, by go_num, ?_, hid (gr_refl w none)⟩
      by_cases h0 : n = 0
      · left
        exact ⟨by omega, hid (by rw [List.length_eq_zero_iff.1 (hn.out.trans h0), List.length_eq_zero_iff.1 (hn2.out.trans h0)])⟩
      · right
        exact ⟨n - 1, by omega, by omega, hid (by rw [List.drop_of_length_le (by rw [hn.out]; omega), List.drop_of_length_le (by rw [hn2.out]; omega)])⟩
    case round =>
      obtain ⟨j, rfl, hj, HG⟩ := hrel
      rcases hj with ⟨rfl, heq⟩ | ⟨i, rfl, hin, hd⟩
      · have hr0 : r = 0 := by rw [← hr.out, heq.out]; exact cmpI_eq rfl
        subst hr0
        go_wp2_with fail
        go_ret
        exact ⟨rfl, HG.out⟩
      · obtain ⟨b1, off1, c1, he, -, hca⟩ := HA.out.cells (by rw [hn.out]; omega)
        injection he with he1 he2 he3
        subst he1
        obtain ⟨b2, off2, c2, he', -, hcb⟩ := HB.out.cells (by rw [hn2.out]; omega)
        injection he' with he1' he2' he3'
        subst he1'
        have hx0 := hca _ HG.out i (by rw [hn.out]; exact hin)
        have hy0 := hcb _ HG.out i (by rw [hn2.out]; exact hin)
        have Hca := hid (hca)
        have Hcb := hid (hcb)
        obtain ⟨x, hx⟩ : ∃ x, Hid (nth ds i = x) := ⟨_, hid rfl⟩
        obtain ⟨y, hy⟩ : ∃ y, Hid (nth es i = y) := ⟨_, hid rfl⟩
        rw [hx.out] at hx0
        rw [hy.out] at hy0
        have hinI : (i : Int) < (n : Int) := by omega
        have hi0 : (0 : Int) ≤ (i : Int) := by omega
        have htn : ((i : Int)).toNat = i := by omega
        clear hca hcb he2 he3 he2' he3'
        by_cases hlt : x < y
        · have hr0 : r = -1 := by rw [← hr.out]; exact cmpI_lt (digit_lt DA.out DB.out hd.out (by rw [hx.out, hy.out]; exact hlt))
          subst hr0
          go_wp2_with fail
          go_quiet (fail)
          go_wp2_with fail
          go_ret
          exact ⟨rfl, gr_drewN HG.out _⟩
        · go_wp2_with fail
          go_quiet (fail)
          obtain ⟨w5, hw5⟩ : ∃ w5, wr.drewN nq = w5 := ⟨_, rfl⟩
          have G5 : Hid (w.grownBy w5 none) := hid (hw5 ▸ gr_drewN HG.out nq)
          rw [hw5]
          clear hw5 hx0 hy0 nq
          have hx0 := Hca.out _ G5.out i (by rw [hn.out]; exact hin)
          have hy0 := Hcb.out _ G5.out i (by rw [hn2.out]; exact hin)
          rw [hx.out] at hx0
          rw [hy.out] at hy0
          by_cases hgt : y < x
          · have hr0 : r = 1 := by rw [← hr.out]; exact cmpI_gt (digit_lt DB.out DA.out hd.out.symm (by rw [hx.out, hy.out]; exact hgt))
            subst hr0
            go_wp2_with fail
            go_quiet (fail)
            go_wp2_with fail
            go_ret
            exact ⟨rfl, gr_drewN G5.out _⟩
          · have hxy : x = y := by omega
            have hd2 := hid (drop_same (by rw [hn.out]; exact hin) (by rw [hn2.out]; exact hin) hd.out (by rw [hx.out, hy.out]; exact hxy))
            go_wp2_with fail
            go_quiet (fail)
            go_wp2_with fail
            go_roundw
            case rel =>
              refine ⟨(i : Int) - 1, by go_num, ?_, hid (gr_drewN G5.out _)⟩
              cases i with
              | zero => left; exact ⟨by omega, hid (by simpa using hd2.out)⟩
              | succ i => right; exact ⟨i, by omega, by omega, hd2⟩
            case measure => simp [intOf]
  · by_cases hlt : ds.length < es.length
    · rw [cmpI_lt (shorter_lt da db tb hlt), ea, eb]
      clear ha hb da db ta tb ea eb
      go_enter Try.func49, Try.ntmps49
      go_wp2_with fail
      go_ret
      exact ⟨rfl, gr_refl w none⟩
    · rw [cmpI_gt (shorter_lt db da ta (by omega)), ea, eb]
      clear ha hb da db ta tb ea eb
      go_enter Try.func49, Try.ntmps49
      go_wp2_with fail
      go_ret
      exact ⟨rfl, gr_refl w none⟩
end Go.Proofs.Ytagoiidpcfjebaa
