/- tocsinref02: one digit; the sum of two sizes. -/
import Derived.Test.YtagoiidpcfjebaaBigL
import Derived.Test.YtagoiidpcfjebaaBox
namespace Go.Proofs.Ytagoiidpcfjebaa
open Go.RowKit Go.Lib

theorem Try.info_u32 : (Try.prog.info? 29).map (fun i => (i.zero, i.size, i.bytes)) = some (some (.int .u32 0), 1, 4) := by kernel_rfl
theorem nth_out (ds : List Int) (i : Nat) : i < ds.length ∨ nth ds i = 0 := by
  by_cases h : i < ds.length
  · exact .inl h
  · right; unfold nth; rw [List.getElem?_eq_none (by omega)]; rfl
/-- A slice that holds these digits. -/
def Dig (w : World) (v : Value) (ds : List Int) : Prop :=
  (ds = [] ∧ ∃ a cap, v = .slice a 0 cap) ∨ ∃ b off cap, v = .slice (some ⟨b, off, none⟩) ds.length cap ∧ ds.length ≤ cap ∧ b < w.heap.size ∧ ∀ j, j < ds.length → w.cell? ⟨b, off + j, none⟩ = some (.int .u32 (nth ds j))
theorem Dig.slice {w : World} {v : Value} {ds : List Int} (h : Dig w v ds) : ∃ a cap, v = .slice a ds.length cap := by
  rcases h with ⟨rfl, a, cap, rfl⟩ | ⟨b, off, cap, rfl, _⟩
  · exact ⟨_, _, rfl⟩
  · exact ⟨_, _, rfl⟩
theorem Dig.grown {w w' : World} {v : Value} {ds : List Int} (h : Dig w v ds) (g : w.grownBy w' none) : Dig w' v ds := by
  rcases h with h | ⟨b, off, cap, rfl, hc, hb, hj⟩
  · exact .inl h
  · exact .inr ⟨b, off, cap, rfl, hc, Nat.lt_of_lt_of_le hb g.size, fun j hl => gr_cell g (hj j hl)⟩
theorem gr_ownv {a b c : World} {row : Option Nat} (h : a.grownBy b none) (g : b.grownBy c row) (hr : ∀ q, row = some q → a.heap.size ≤ q) : a.grownBy c none := by
  cases row with
  | none => exact gr_trans h g
  | some k => exact gr_own h g (hr k rfl)
theorem Dig.zero (w : World) (a : Option Addr) (cap : Nat) : Dig w (.slice a 0 cap) [] := .inl ⟨rfl, a, cap, rfl⟩
theorem Dig.own {w : World} {base : Nat} {T : TypeId} {v : Value} {ds : List Int} (h : w.ownsRow base T 1 v ds.length (ds.map (Value.int .u32))) : Dig w v ds := by
  rcases h.2 with ⟨rfl, h0⟩ | ⟨g, cap, cur, rfl, _, hh, hn, _⟩
  · exact .inl ⟨List.length_eq_zero_iff.1 h0, _, _, rfl⟩
  · refine .inr ⟨g, 0, cap, rfl, hn, lt_of_block hh, fun j hj => ?_⟩
    rw [Nat.zero_add, h.cellAt j (by omega)]
    simp [nth, hj]

set_option maxRecDepth 100000 in
set_option maxHeartbeats 2000000 in
theorem digit_at {w : World} {v : Value} {ds : List Int} (h : Dig w v ds) (i : Nat) :
    Calls Try.prog 63 #[v, .int .i64 i] w fun e w' => e = .returned (.int .u32 (nth ds i)) ∧ w' = w := by
  by_cases hi : i < ds.length
  · rcases h with ⟨rfl, _⟩ | ⟨b, off, cap, rfl, hc, hb, hj⟩
    · simp at hi
    · have hcell := hj i hi
      clear hj
      generalize nth ds i = x at *
      go_enter Try.func63, Try.ntmps63
      go_wp2_with fail
      go_ret
      exact ⟨rfl, rfl⟩
  · obtain ⟨a, cap, rfl⟩ := h.slice
    have hn : nth ds i = 0 := by unfold nth; rw [List.getElem?_eq_none (by omega)]; rfl
    rw [hn]
    clear h hn
    go_enter Try.func63, Try.ntmps63
    go_wp2_with fail
    go_ret
    exact ⟨rfl, rfl⟩

set_option maxRecDepth 100000 in
set_option maxHeartbeats 4000000 in
theorem plus_any {w : World} {va vb : Value} {ds es : List Int} (ha : Dig w va ds) (hb : Dig w vb es) (da : Dg ds) (db : Dg es) (M : Nat) (hM : M ≤ 1000) (la : ds.length ≤ M) (lb : es.length ≤ M) :
    Calls Try.prog 48 #[va, vb] w fun e w' => ∃ v rs, e = .returned v ∧ Dig w' v rs ∧ Dg rs ∧ bval rs = bval ds + bval es ∧ rs.length ≤ M + 1 ∧ w.grownBy w' none := by
  obtain ⟨i0, hi, hz0, hz1, hz2⟩ := info_parts Try.info_u32
  obtain ⟨a1, c1, ea⟩ := ha.slice
  obtain ⟨a2, c2, eb⟩ := hb.slice
  have HA := hid ha
  have HB := hid hb
  have DA := hid da
  have DB := hid db
  clear ha hb da db
  rw [ea] at HA
  rw [eb] at HB
  rw [ea, eb]
  clear ea eb
  go_enter Try.func48, Try.ntmps48
  go_wp2_with fail
  go_loopw [5, 6, 7] (fun vr vc vi wr => ∃ (i : Nat) (c : Int) (rs : List Int), vi = .int .i64 i ∧ vc = .int .u32 c ∧ (0 ≤ c ∧ c ≤ 1) ∧ (i ≤ M ∨ i = M + 1 ∧ c = 0) ∧ Hid (wr.ownsRow w.heap.size 29 1 vr rs.length (rs.map (Value.int .u32))) ∧ Hid (rs.length = i) ∧ Hid (Dg rs) ∧ Hid (bval rs + c * pw i = bval (ds.take i) + bval (es.take i)) ∧ Hid (w.grownBy wr none)) (fun _ _ vi _ => M + 1 - (intOf vi).toNat)
  case atStart => exact ⟨0, 0, [], rfl, rfl, ⟨by omega, by omega⟩, .inl (Nat.zero_le _), hid (World.ownsRow_nil _ _ _ _), hid rfl, hid dg_nil, hid (by simp [bval]), hid (gr_refl w none)⟩
  case round =>
    obtain ⟨i, c, rs, rfl, rfl, ⟨c0, c1'⟩, hiM, HO, HL, HD, HV, HG⟩ := hrel
    by_cases h1 : i < ds.length
    · have hm : i ≤ M := by omega
      have d1 := nth_dg DA.out i
      have d2 := nth_dg DB.out i
      have HA' := hid (digit_at (HA.out.grown HG.out) i)
      have HB' := hid (digit_at (HB.out.grown HG.out) i)
      obtain ⟨x, hx⟩ : ∃ x, Hid (nth ds i = x) := ⟨_, hid rfl⟩
      obtain ⟨y, hy⟩ : ∃ y, Hid (nth es i = y) := ⟨_, hid rfl⟩
      rw [hx.out] at d1 HA'
      rw [hy.out] at d2 HB'
      obtain ⟨x0, x1⟩ := d1
      obtain ⟨y0, y1⟩ := d2
      obtain ⟨s, hs⟩ : ∃ s, Hid (x + y + c = s) := ⟨_, hid rfl⟩
      obtain ⟨d, hd⟩ : ∃ d, s % 65536 = d := ⟨_, rfl⟩
      obtain ⟨c', hc'⟩ : ∃ c', s / 65536 = c' := ⟨_, rfl⟩
      have hs' := hs.out
      have s0 : 0 ≤ s := by omega
      have s1 : s ≤ 131071 := by omega
      have hw1 : IntKind.u32.wrap (x + y) = x + y := by rw [IntKind.wrap_u32]; omega
      have hw2 : IntKind.u32.wrap (x + y + c) = s := by rw [IntKind.wrap_u32]; omega
      have HV2 := hid (plus_step HL.out HV.out (by rw [hx.out, hy.out]; exact hs.out) (show s = d + 65536 * c' by omega))
      have HD2 := hid (dg_snoc HD.out (show 0 ≤ d by omega) (show d < 65536 by omega))
      have ox := nth_out ds i
      have oy := nth_out es i
      rw [hx.out] at ox
      rw [hy.out] at oy
      have hc2 := hid (show (0 ≤ c' ∧ c' ≤ 1) ∧ (i + 1 ≤ M ∨ i + 1 = M + 1 ∧ c' = 0) by omega)
      clear ox oy
      have hlr : rs.length ≤ 1001 := by have := HL.out; omega
      clear hs'
      go_wp2_with fail
      refine HA'.out.mono ?_
      rintro e w5 ⟨rfl, rfl⟩
      go_wp2_with fail
      refine HB'.out.mono ?_
      rintro e w5 ⟨rfl, rfl⟩
      go_wp2_with (at_builtin; refine wpList_append_own _ rfl _ _ 58 rfl w.heap.size 29 i0 (.int .u32 0) 1 4 Try.underlying58 hi hz0 hz1 hz2 rfl (by decide) _ _ _ rfl (HO.out.alloc _) ⟨w5.heap.size, 0, none⟩ 1 1 [.int .u32 d] rfl rfl (cell_one_new _ _ _) (by simp [Value.oneCell']) (by unfold maxLen; omega) (by omega) (by have := HG.out.size; simp; omega) ?_; intro v2 w2 hown2 hg2 _)
      have HO2 : Hid (w2.ownsRow w.heap.size 29 1 v2 (rs ++ [d]).length ((rs ++ [d]).map (Value.int .u32))) := hid (by rw [List.map_append, List.length_append]; exact hown2)
      have HG2 : Hid (w.grownBy w2 none) := hid (gr_ownv (gr_alloc HG.out _) hg2 fun q hq => (HO.out.lt q hq).1)
      clear hown2 hg2
      go_wp2_with fail
      go_roundw
      case rel => exact ⟨i + 1, c', rs ++ [d], by go_num, by rw [hc'], hc2.out.1, hc2.out.2, HO2, hid (by have := HL.out; simp; omega), HD2, HV2, HG2⟩
      case measure => simp [intOf]; omega
    · by_cases h2 : i < es.length
      · have hm : i ≤ M := by omega
        have d1 := nth_dg DA.out i
        have d2 := nth_dg DB.out i
        have HA' := hid (digit_at (HA.out.grown HG.out) i)
        have HB' := hid (digit_at (HB.out.grown HG.out) i)
        obtain ⟨x, hx⟩ : ∃ x, Hid (nth ds i = x) := ⟨_, hid rfl⟩
        obtain ⟨y, hy⟩ : ∃ y, Hid (nth es i = y) := ⟨_, hid rfl⟩
        rw [hx.out] at d1 HA'
        rw [hy.out] at d2 HB'
        obtain ⟨x0, x1⟩ := d1
        obtain ⟨y0, y1⟩ := d2
        obtain ⟨s, hs⟩ : ∃ s, Hid (x + y + c = s) := ⟨_, hid rfl⟩
        obtain ⟨d, hd⟩ : ∃ d, s % 65536 = d := ⟨_, rfl⟩
        obtain ⟨c', hc'⟩ : ∃ c', s / 65536 = c' := ⟨_, rfl⟩
        have hs' := hs.out
        have s0 : 0 ≤ s := by omega
        have s1 : s ≤ 131071 := by omega
        have hw1 : IntKind.u32.wrap (x + y) = x + y := by rw [IntKind.wrap_u32]; omega
        have hw2 : IntKind.u32.wrap (x + y + c) = s := by rw [IntKind.wrap_u32]; omega
        have HV2 := hid (plus_step HL.out HV.out (by rw [hx.out, hy.out]; exact hs.out) (show s = d + 65536 * c' by omega))
        have HD2 := hid (dg_snoc HD.out (show 0 ≤ d by omega) (show d < 65536 by omega))
        have ox := nth_out ds i
        have oy := nth_out es i
        rw [hx.out] at ox
        rw [hy.out] at oy
        have hc2 := hid (show (0 ≤ c' ∧ c' ≤ 1) ∧ (i + 1 ≤ M ∨ i + 1 = M + 1 ∧ c' = 0) by omega)
        clear ox oy
        have hlr : rs.length ≤ 1001 := by have := HL.out; omega
        clear hs'
        go_wp2_with fail
        refine HA'.out.mono ?_
        rintro e w5 ⟨rfl, rfl⟩
        go_wp2_with fail
        refine HB'.out.mono ?_
        rintro e w5 ⟨rfl, rfl⟩
        go_wp2_with (at_builtin; refine wpList_append_own _ rfl _ _ 58 rfl w.heap.size 29 i0 (.int .u32 0) 1 4 Try.underlying58 hi hz0 hz1 hz2 rfl (by decide) _ _ _ rfl (HO.out.alloc _) ⟨w5.heap.size, 0, none⟩ 1 1 [.int .u32 d] rfl rfl (cell_one_new _ _ _) (by simp [Value.oneCell']) (by unfold maxLen; omega) (by omega) (by have := HG.out.size; simp; omega) ?_; intro v2 w2 hown2 hg2 _)
        have HO2 : Hid (w2.ownsRow w.heap.size 29 1 v2 (rs ++ [d]).length ((rs ++ [d]).map (Value.int .u32))) := hid (by rw [List.map_append, List.length_append]; exact hown2)
        have HG2 : Hid (w.grownBy w2 none) := hid (gr_ownv (gr_alloc HG.out _) hg2 fun q hq => (HO.out.lt q hq).1)
        clear hown2 hg2
        go_wp2_with fail
        go_roundw
        case rel => exact ⟨i + 1, c', rs ++ [d], by go_num, by rw [hc'], hc2.out.1, hc2.out.2, HO2, hid (by have := HL.out; simp; omega), HD2, HV2, HG2⟩
        case measure => simp [intOf]; omega
      · by_cases h3 : 0 < c
        · have hm : i ≤ M := by omega
          have d1 := nth_dg DA.out i
          have d2 := nth_dg DB.out i
          have HA' := hid (digit_at (HA.out.grown HG.out) i)
          have HB' := hid (digit_at (HB.out.grown HG.out) i)
          obtain ⟨x, hx⟩ : ∃ x, Hid (nth ds i = x) := ⟨_, hid rfl⟩
          obtain ⟨y, hy⟩ : ∃ y, Hid (nth es i = y) := ⟨_, hid rfl⟩
          rw [hx.out] at d1 HA'
          rw [hy.out] at d2 HB'
          obtain ⟨x0, x1⟩ := d1
          obtain ⟨y0, y1⟩ := d2
          obtain ⟨s, hs⟩ : ∃ s, Hid (x + y + c = s) := ⟨_, hid rfl⟩
          obtain ⟨d, hd⟩ : ∃ d, s % 65536 = d := ⟨_, rfl⟩
          obtain ⟨c', hc'⟩ : ∃ c', s / 65536 = c' := ⟨_, rfl⟩
          have hs' := hs.out
          have s0 : 0 ≤ s := by omega
          have s1 : s ≤ 131071 := by omega
          have hw1 : IntKind.u32.wrap (x + y) = x + y := by rw [IntKind.wrap_u32]; omega
          have hw2 : IntKind.u32.wrap (x + y + c) = s := by rw [IntKind.wrap_u32]; omega
          have HV2 := hid (plus_step HL.out HV.out (by rw [hx.out, hy.out]; exact hs.out) (show s = d + 65536 * c' by omega))
          have HD2 := hid (dg_snoc HD.out (show 0 ≤ d by omega) (show d < 65536 by omega))
          have ox := nth_out ds i
          have oy := nth_out es i
          rw [hx.out] at ox
          rw [hy.out] at oy
          have hc2 := hid (show (0 ≤ c' ∧ c' ≤ 1) ∧ (i + 1 ≤ M ∨ i + 1 = M + 1 ∧ c' = 0) by omega)
          clear ox oy
          have hlr : rs.length ≤ 1001 := by have := HL.out; omega
          clear hs'
          go_wp2_with fail
          refine HA'.out.mono ?_
          rintro e w5 ⟨rfl, rfl⟩
          go_wp2_with fail
          refine HB'.out.mono ?_
          rintro e w5 ⟨rfl, rfl⟩
          go_wp2_with (at_builtin; refine wpList_append_own _ rfl _ _ 58 rfl w.heap.size 29 i0 (.int .u32 0) 1 4 Try.underlying58 hi hz0 hz1 hz2 rfl (by decide) _ _ _ rfl (HO.out.alloc _) ⟨w5.heap.size, 0, none⟩ 1 1 [.int .u32 d] rfl rfl (cell_one_new _ _ _) (by simp [Value.oneCell']) (by unfold maxLen; omega) (by omega) (by have := HG.out.size; simp; omega) ?_; intro v2 w2 hown2 hg2 _)
          have HO2 : Hid (w2.ownsRow w.heap.size 29 1 v2 (rs ++ [d]).length ((rs ++ [d]).map (Value.int .u32))) := hid (by rw [List.map_append, List.length_append]; exact hown2)
          have HG2 : Hid (w.grownBy w2 none) := hid (gr_ownv (gr_alloc HG.out _) hg2 fun q hq => (HO.out.lt q hq).1)
          clear hown2 hg2
          go_wp2_with fail
          go_roundw
          case rel => exact ⟨i + 1, c', rs ++ [d], by go_num, by rw [hc'], hc2.out.1, hc2.out.2, HO2, hid (by have := HL.out; simp; omega), HD2, HV2, HG2⟩
          case measure => simp [intOf]; omega
        · have hv := HV.out
          obtain rfl : c = 0 := by omega
          rw [List.take_of_length_le (by omega), List.take_of_length_le (by omega), Int.zero_mul, Int.add_zero] at hv
          have HV' := hid hv
          have hl2 : rs.length ≤ M + 1 := by have := HL.out; omega
          clear hv
          go_wp2_with fail
          go_ret
          exact ⟨_, rfl, rs, Dig.own HO.out, HD.out, HV'.out, hl2, HG.out⟩
end Go.Proofs.Ytagoiidpcfjebaa
