/- Lemmas: Numbers as digits of 16 bits, the lowest first: what they are worth. tocsinref02: one digit; the sum of two sizes. tocsinref02: the difference of two sizes; which is greater. tocsinref02: a number without noughts ahead; the other sign. tocsinref02: the other sign; a number's digits. -/
import Derived.Test.YtckoaeoecjphiaaGreatK05
import Derived.Test.YtckoaeoecjphiaaGreatK01
import Derived.Deep.QuietTactic
import Derived.BigQuiet

/- Numbers as digits of 16 bits, the lowest first: what they are worth. -/
namespace Go.Proofs.YtckoaeoecjphiaaGreat
open Go.RowKit Go.Lib

def bval : List Int → Int
  | [] => 0
  | d :: l => d + 65536 * bval l
def Dg (ds : List Int) : Prop := ∀ d ∈ ds, 0 ≤ d ∧ d < 65536
def Trm (ds : List Int) : Prop := ds = [] ∨ nth ds (ds.length - 1) ≠ 0
def pw (n : Nat) : Int := ((65536 ^ n : Nat) : Int)
theorem pw_zero : pw 0 = 1 := rfl
theorem pw_succ (n : Nat) : pw (n + 1) = 65536 * pw n := by unfold pw; rw [Nat.pow_succ, Nat.mul_comm]; exact Int.natCast_mul _ _
theorem pw_pos (n : Nat) : 1 ≤ pw n := by
  unfold pw
  have : 0 < 65536 ^ n := Nat.pow_pos (by omega)
  omega
theorem pw_mono {m n : Nat} (h : m ≤ n) : pw m ≤ pw n := by
  unfold pw
  have := Nat.pow_le_pow_right (n := 65536) (by omega) h
  omega
theorem nth_dg {ds : List Int} (h : Dg ds) (i : Nat) : 0 ≤ nth ds i ∧ nth ds i < 65536 := by
  unfold nth
  by_cases hi : i < ds.length
  · rw [List.getElem?_eq_getElem hi]
    exact h _ (List.getElem_mem hi)
  · rw [List.getElem?_eq_none (by omega)]
    simp
theorem dg_nil : Dg [] := by intro d h; simp at h
theorem dg_snoc {ds : List Int} {d : Int} (h : Dg ds) (h0 : 0 ≤ d) (h1 : d < 65536) : Dg (ds ++ [d]) := by
  intro x hx
  rcases List.mem_append.1 hx with hx | hx
  · exact h x hx
  · rw [List.mem_singleton.1 hx]; exact ⟨h0, h1⟩
theorem dg_take {ds : List Int} (h : Dg ds) (n : Nat) : Dg (ds.take n) := fun d hd => h d (List.mem_of_mem_take hd)
theorem bval_snoc (ds : List Int) (d : Int) : bval (ds ++ [d]) = bval ds + d * pw ds.length := by
  induction ds with
  | nil => simp [bval, pw]
  | cons x l ih =>
    simp only [List.cons_append, bval, List.length_cons]
    rw [ih, pw_succ, Int.mul_add, Int.mul_left_comm]
    omega
theorem bval_take (ds : List Int) (i : Nat) : bval (ds.take (i + 1)) = bval (ds.take i) + nth ds i * pw i := by
  by_cases h : i < ds.length
  · rw [List.take_succ_eq_append_getElem h, bval_snoc, List.length_take, Nat.min_eq_left (by omega)]
    simp [nth, h]
  · rw [List.take_of_length_le (by omega), List.take_of_length_le (by omega)]
    have : nth ds i = 0 := by unfold nth; rw [List.getElem?_eq_none (by omega)]; rfl
    rw [this]
    simp
theorem bval_nonneg {ds : List Int} (h : Dg ds) : 0 ≤ bval ds := by
  induction ds with
  | nil => exact Int.le_refl _
  | cons x l ih =>
    have h1 := h x (List.mem_cons_self ..)
    have h2 := ih fun d hd => h d (List.mem_cons_of_mem _ hd)
    simp only [bval]
    omega
theorem bval_lt {ds : List Int} (h : Dg ds) : bval ds < pw ds.length := by
  induction ds with
  | nil => simp [bval, pw]
  | cons x l ih =>
    have h1 := h x (List.mem_cons_self ..)
    have h2 := ih fun d hd => h d (List.mem_cons_of_mem _ hd)
    simp only [bval, List.length_cons, pw_succ]
    omega
theorem bval_last {ds : List Int} {n : Nat} (hn : ds.length = n + 1) : bval ds = bval (ds.take n) + nth ds n * pw n := by
  have := bval_take ds n
  rwa [List.take_of_length_le (by omega)] at this
/-- A trimmed number is as great as its last digit's place. -/
theorem trm_ge {ds : List Int} (hd : Dg ds) (ht : Trm ds) {n : Nat} (hn : ds.length = n + 1) : pw n ≤ bval ds := by
  rw [bval_last hn]
  have h0 := bval_nonneg (dg_take hd n)
  have h1 := (nth_dg hd n).1
  have h2 : nth ds n ≠ 0 := by
    rcases ht with rfl | ht
    · simp at hn
    · rwa [hn] at ht
  have h3 : 1 * pw n ≤ nth ds n * pw n := Int.mul_le_mul_of_nonneg_right (by omega) (by have := pw_pos n; omega)
  omega
theorem shorter_lt {ds es : List Int} (hd : Dg ds) (he : Dg es) (ht : Trm es) (h : ds.length < es.length) : bval ds < bval es := by
  obtain ⟨n, hn⟩ : ∃ n, es.length = n + 1 := ⟨es.length - 1, by omega⟩
  have h1 := bval_lt hd
  have h2 := trm_ge he ht hn
  have h3 := pw_mono (show ds.length ≤ n by omega)
  omega
theorem trm_len {ds : List Int} (hd : Dg ds) (ht : Trm ds) {n : Nat} (h : bval ds < pw n) : ds.length ≤ n := by
  rcases Nat.lt_or_ge n ds.length with h1 | h1
  · obtain ⟨k, hk⟩ : ∃ k, ds.length = k + 1 := ⟨ds.length - 1, by omega⟩
    have := trm_ge hd ht hk
    have := pw_mono (show n ≤ k by omega)
    omega
  · exact h1
theorem trm_zero {ds : List Int} (hd : Dg ds) (ht : Trm ds) : bval ds = 0 ↔ ds = [] := by
  constructor
  · intro h
    have := trm_len hd ht (n := 0) (by rw [h]; decide)
    exact List.length_eq_zero_iff.1 (by omega)
  · rintro rfl; rfl
theorem bval_drop (ds : List Int) (n : Nat) : bval ds = bval (ds.take n) + pw n * bval (ds.drop n) := by
  induction n generalizing ds with
  | zero => simp [bval, pw]
  | succ n ih =>
    cases ds with
    | nil => simp [bval]
    | cons x l =>
      simp only [List.take_succ_cons, List.drop_succ_cons, bval]
      have := ih l
      rw [this, pw_succ, Int.mul_add, Int.mul_assoc]
      omega
/-- Where the digits above are the same, the digit decides. -/
theorem digit_lt {ds es : List Int} (hd : Dg ds) (he : Dg es) {i : Nat} (hs : ds.drop (i + 1) = es.drop (i + 1)) (h : nth ds i < nth es i) : bval ds < bval es := by
  rw [bval_drop ds (i + 1), bval_drop es (i + 1), hs, bval_take, bval_take]
  have h1 := bval_lt (dg_take hd i)
  have h2 := bval_nonneg (dg_take he i)
  have h3 : pw (ds.take i).length ≤ pw i := pw_mono (by rw [List.length_take]; exact Nat.min_le_left ..)
  have h4 : (nth ds i + 1) * pw i ≤ nth es i * pw i := Int.mul_le_mul_of_nonneg_right (by omega) (by have := pw_pos i; omega)
  rw [Int.add_mul] at h4
  omega
theorem drop_same {ds es : List Int} {i : Nat} (h1 : i < ds.length) (h2 : i < es.length) (hs : ds.drop (i + 1) = es.drop (i + 1)) (h : nth ds i = nth es i) : ds.drop i = es.drop i := by
  rw [List.drop_eq_getElem_cons h1, List.drop_eq_getElem_cons h2, hs]
  simp only [nth, List.getElem?_eq_getElem h1, List.getElem?_eq_getElem h2, Option.getD_some] at h
  rw [h]
/-- One digit of a sum. -/
theorem plus_step {rs ds es : List Int} {i : Nat} {c x d c' : Int} (hl : rs.length = i) (hv : bval rs + c * pw i = bval (ds.take i) + bval (es.take i)) (hx : nth ds i + nth es i + c = x) (hd : x = d + 65536 * c') :
    bval (rs ++ [d]) + c' * pw (i + 1) = bval (ds.take (i + 1)) + bval (es.take (i + 1)) := by
  rw [bval_snoc, hl, bval_take, bval_take, pw_succ]
  have h1 : x * pw i = d * pw i + 65536 * (c' * pw i) := by rw [hd, Int.add_mul, Int.mul_assoc]
  rw [← hx, Int.add_mul, Int.add_mul] at h1
  have h2 : c' * (65536 * pw i) = 65536 * (c' * pw i) := Int.mul_left_comm ..
  omega
theorem minus_step {rs ds es : List Int} {i : Nat} {c x d c' : Int} (hl : rs.length = i) (hv : bval rs - c * pw i = bval (ds.take i) - bval (es.take i)) (hx : 65536 + nth ds i - nth es i - c = x) (hd : x = d + 65536 * (1 - c')) :
    bval (rs ++ [d]) - c' * pw (i + 1) = bval (ds.take (i + 1)) - bval (es.take (i + 1)) := by
  rw [bval_snoc, hl, bval_take, bval_take, pw_succ]
  have h1 : x * pw i = d * pw i + 65536 * pw i - 65536 * (c' * pw i) := by
    rw [hd, Int.add_mul, Int.mul_assoc, Int.sub_mul, Int.mul_sub, Int.one_mul]
    omega
  rw [← hx, Int.sub_mul, Int.sub_mul, Int.add_mul] at h1
  have h2 : c' * (65536 * pw i) = 65536 * (c' * pw i) := Int.mul_left_comm ..
  omega
def sgn (b : Bool) (n : Int) : Int := if b = true then -n else n
end Go.Proofs.YtckoaeoecjphiaaGreat

/- tocsinref02: one digit; the sum of two sizes. -/
namespace Go.Proofs.YtckoaeoecjphiaaGreat
open Go.RowKit Go.Lib

theorem Tryz.info_u32 : (Tryz.prog.info? 28).map (fun i => (i.zero, i.size, i.bytes)) = some (some (.int .u32 0), 1, 4) := by kernel_rfl
theorem nth_out (ds : List Int) (i : Nat) : i < ds.length ∨ nth ds i = 0 := by
  by_cases h : i < ds.length
  · exact .inl h
  · right; unfold nth; rw [List.getElem?_eq_none (by omega)]; rfl
/-- A slice that holds these digits. -/
def Dig (w : World) (v : Value) (ds : List Int) : Prop :=
  (ds = [] ∧ ∃ a cap, v = .slice a 0 cap) ∨ ∃ b off cap, v = .slice (some ⟨b, off, none⟩) ds.length cap ∧ ds.length ≤ cap ∧ b < w.heap.size ∧ ∀ j, j < ds.length → w.cell? ⟨b, off + j, none⟩ = some (.int .u32 (nth ds j))
theorem Dig.slice {w : World} {v : Value} {ds : List Int} (h : Dig w v ds) : ∃ a cap, v = .slice a ds.length cap := by
  rcases h with ⟨rfl, a, cap, rfl⟩ | ⟨b, off, cap, rfl, _⟩
  · exact ⟨_, _, rfl⟩
  · exact ⟨_, _, rfl⟩
theorem Dig.grown {w w' : World} {v : Value} {ds : List Int} (h : Dig w v ds) (g : w.grownBy w' none) : Dig w' v ds := by
  rcases h with h | ⟨b, off, cap, rfl, hc, hb, hj⟩
  · exact .inl h
  · exact .inr ⟨b, off, cap, rfl, hc, Nat.lt_of_lt_of_le hb g.size, fun j hl => gr_cell g (hj j hl)⟩
theorem gr_ownv {a b c : World} {row : Option Nat} (h : a.grownBy b none) (g : b.grownBy c row) (hr : ∀ q, row = some q → a.heap.size ≤ q) : a.grownBy c none := by
  cases row with
  | none => exact gr_trans h g
  | some k => exact gr_own h g (hr k rfl)
theorem Dig.zero (w : World) (a : Option Addr) (cap : Nat) : Dig w (.slice a 0 cap) [] := .inl ⟨rfl, a, cap, rfl⟩
theorem Dig.own {w : World} {base : Nat} {T : TypeId} {v : Value} {ds : List Int} (h : w.ownsRow base T 1 v ds.length (ds.map (Value.int .u32))) : Dig w v ds := by
  rcases h.2 with ⟨rfl, h0⟩ | ⟨g, cap, cur, rfl, _, hh, hn, _⟩
  · exact .inl ⟨List.length_eq_zero_iff.1 h0, _, _, rfl⟩
  · refine .inr ⟨g, 0, cap, rfl, hn, lt_of_block hh, fun j hj => ?_⟩
    rw [Nat.zero_add, h.cellAt j (by omega)]
    simp [nth, hj]

set_option maxRecDepth 100000 in
set_option maxHeartbeats 2000000 in
theorem digit_at {w : World} {v : Value} {ds : List Int} (h : Dig w v ds) (i : Nat) :
    Calls Tryz.prog 107 #[v, .int .i64 i] w fun e w' => e = .returned (.int .u32 (nth ds i)) ∧ w' = w := by
  by_cases hi : i < ds.length
  · rcases h with ⟨rfl, _⟩ | ⟨b, off, cap, rfl, hc, hb, hj⟩
    · simp at hi
    · have hcell := hj i hi
      clear hj
      generalize nth ds i = x at *
      go_enter Tryz.func107, Tryz.ntmps107
      go_wp2_with fail
      go_ret
      exact ⟨rfl, rfl⟩
  · obtain ⟨a, cap, rfl⟩ := h.slice
    have hn : nth ds i = 0 := by unfold nth; rw [List.getElem?_eq_none (by omega)]; rfl
    rw [hn]
    clear h hn
    go_enter Tryz.func107, Tryz.ntmps107
    go_wp2_with fail
    go_ret
    exact ⟨rfl, rfl⟩

set_option maxRecDepth 100000 in
set_option maxHeartbeats 4000000 in
theorem plus_any {w : World} {va vb : Value} {ds es : List Int} (ha : Dig w va ds) (hb : Dig w vb es) (da : Dg ds) (db : Dg es) (M : Nat) (hM : M ≤ 1000) (la : ds.length ≤ M) (lb : es.length ≤ M) :
    Calls Tryz.prog 102 #[va, vb] w fun e w' => ∃ v rs, e = .returned v ∧ Dig w' v rs ∧ Dg rs ∧ bval rs = bval ds + bval es ∧ rs.length ≤ M + 1 ∧ w.grownBy w' none := by
  obtain ⟨i0, hi, hz0, hz1, hz2⟩ := info_parts Tryz.info_u32
  obtain ⟨a1, c1, ea⟩ := ha.slice
  obtain ⟨a2, c2, eb⟩ := hb.slice
  have HA := hid ha
  have HB := hid hb
  have DA := hid da
  have DB := hid db
  clear ha hb da db
  rw [ea] at HA
  rw [eb] at HB
  rw [ea, eb]
  clear ea eb
  go_enter Tryz.func102, Tryz.ntmps102
  go_wp2_with fail
  go_loopw [5, 6, 7] (fun vr vc vi wr => ∃ (i : Nat) (c : Int) (rs : List Int), vi = .int .i64 i ∧ vc = .int .u32 c ∧ (0 ≤ c ∧ c ≤ 1) ∧ (i ≤ M ∨ i = M + 1 ∧ c = 0) ∧ Hid (wr.ownsRow w.heap.size 28 1 vr rs.length (rs.map (Value.int .u32))) ∧ Hid (rs.length = i) ∧ Hid (Dg rs) ∧ Hid (bval rs + c * pw i = bval (ds.take i) + bval (es.take i)) ∧ Hid (w.grownBy wr none)) (fun _ _ vi _ => M + 1 - (intOf vi).toNat)
  case atStart => exact ⟨0, 0, [], rfl, rfl, ⟨by omega, by omega⟩, .inl (Nat.zero_le _), hid (World.ownsRow_nil _ _ _ _), hid rfl, hid dg_nil, hid (by simp [bval]), hid (gr_refl w none)⟩
  case round =>
    obtain ⟨i, c, rs, rfl, rfl, ⟨c0, c1'⟩, hiM, HO, HL, HD, HV, HG⟩ := hrel
    by_cases h1 : i < ds.length
    · have hm : i ≤ M := by omega
      have d1 := nth_dg DA.out i
      have d2 := nth_dg DB.out i
      have HA' := hid (digit_at (HA.out.grown HG.out) i)
      have HB' := hid (digit_at (HB.out.grown HG.out) i)
      obtain ⟨x, hx⟩ : ∃ x, Hid (nth ds i = x) := ⟨_, hid rfl⟩
      obtain ⟨y, hy⟩ : ∃ y, Hid (nth es i = y) := ⟨_, hid rfl⟩
      rw [hx.out] at d1 HA'
      rw [hy.out] at d2 HB'
      obtain ⟨x0, x1⟩ := d1
      obtain ⟨y0, y1⟩ := d2
      obtain ⟨s, hs⟩ : ∃ s, Hid (x + y + c = s) := ⟨_, hid rfl⟩
      obtain ⟨d, hd⟩ : ∃ d, s % 65536 = d := ⟨_, rfl⟩
      obtain ⟨c', hc'⟩ : ∃ c', s / 65536 = c' := ⟨_, rfl⟩
      have hs' := hs.out
      have s0 : 0 ≤ s := by omega
      have s1 : s ≤ 131071 := by omega
      have hw1 : IntKind.u32.wrap (x + y) = x + y := by rw [IntKind.wrap_u32]; omega
      have hw2 : IntKind.u32.wrap (x + y + c) = s := by rw [IntKind.wrap_u32]; omega
      have HV2 := hid (plus_step HL.out HV.out (by rw [hx.out, hy.out]; exact hs.out) (show s = d + 65536 * c' by omega))
      have HD2 := hid (dg_snoc HD.out (show 0 ≤ d by omega) (show d < 65536 by omega))
      have ox := nth_out ds i
      have oy := nth_out es i
      rw [hx.out] at ox
      rw [hy.out] at oy
      have hc2 := hid (show (0 ≤ c' ∧ c' ≤ 1) ∧ (i + 1 ≤ M ∨ i + 1 = M + 1 ∧ c' = 0) by omega)
      clear ox oy
      have hlr : rs.length ≤ 1001 := by have := HL.out; omega
      clear hs'
      go_wp2_with fail
      refine HA'.out.mono ?_
      rintro e w5 ⟨rfl, rfl⟩
      go_wp2_with fail
      refine HB'.out.mono ?_
      rintro e w5 ⟨rfl, rfl⟩
      go_wp2_with (at_builtin; refine wpList_append_own _ rfl _ _ 126 rfl w.heap.size 28 i0 (.int .u32 0) 1 4 Tryz.underlying126 hi hz0 hz1 hz2 rfl (by decide) _ _ _ rfl (HO.out.alloc _) ⟨w5.heap.size, 0, none⟩ 1 1 [.int .u32 d] rfl rfl (cell_one_new _ _ _) (by simp [Value.oneCell']) (by unfold maxLen; omega) (by omega) (by have := HG.out.size; simp; omega) ?_; intro v2 w2 hown2 hg2 _)
      have HO2 : Hid (w2.ownsRow w.heap.size 28 1 v2 (rs ++ [d]).length ((rs ++ [d]).map (Value.int .u32))) := hid (by rw [List.map_append, List.length_append]; exact hown2)
      have HG2 : Hid (w.grownBy w2 none) := hid (gr_ownv (gr_alloc HG.out _) hg2 fun q hq => (HO.out.lt q hq).1)
      clear hown2 hg2
      go_wp2_with fail
      go_roundw
      case rel => exact ⟨i + 1, c', rs ++ [d], by go_num, by rw [hc'], hc2.out.1, hc2.out.2, HO2, hid (by have := HL.out; simp; omega), HD2, HV2, HG2⟩
      case measure => simp [intOf]; omega
    · by_cases h2 : i < es.length
      · have hm : i ≤ M := by omega
        have d1 := nth_dg DA.out i
        have d2 := nth_dg DB.out i
        have HA' := hid (digit_at (HA.out.grown HG.out) i)
        have HB' := hid (digit_at (HB.out.grown HG.out) i)
        obtain ⟨x, hx⟩ : ∃ x, Hid (nth ds i = x) := ⟨_, hid rfl⟩
        obtain ⟨y, hy⟩ : ∃ y, Hid (nth es i = y) := ⟨_, hid rfl⟩
        rw [hx.out] at d1 HA'
        rw [hy.out] at d2 HB'
        obtain ⟨x0, x1⟩ := d1
        obtain ⟨y0, y1⟩ := d2
        obtain ⟨s, hs⟩ : ∃ s, Hid (x + y + c = s) := ⟨_, hid rfl⟩
        obtain ⟨d, hd⟩ : ∃ d, s % 65536 = d := ⟨_, rfl⟩
        obtain ⟨c', hc'⟩ : ∃ c', s / 65536 = c' := ⟨_, rfl⟩
        have hs' := hs.out
        have s0 : 0 ≤ s := by omega
        have s1 : s ≤ 131071 := by omega
        have hw1 : IntKind.u32.wrap (x + y) = x + y := by rw [IntKind.wrap_u32]; omega
        have hw2 : IntKind.u32.wrap (x + y + c) = s := by rw [IntKind.wrap_u32]; omega
        have HV2 := hid (plus_step HL.out HV.out (by rw [hx.out, hy.out]; exact hs.out) (show s = d + 65536 * c' by omega))
        have HD2 := hid (dg_snoc HD.out (show 0 ≤ d by omega) (show d < 65536 by omega))
        have ox := nth_out ds i
        have oy := nth_out es i
        rw [hx.out] at ox
        rw [hy.out] at oy
        have hc2 := hid (show (0 ≤ c' ∧ c' ≤ 1) ∧ (i + 1 ≤ M ∨ i + 1 = M + 1 ∧ c' = 0) by omega)
        clear ox oy
        have hlr : rs.length ≤ 1001 := by have := HL.out; omega
        clear hs'
        go_wp2_with fail
        refine HA'.out.mono ?_
        rintro e w5 ⟨rfl, rfl⟩
        go_wp2_with fail
        refine HB'.out.mono ?_
        rintro e w5 ⟨rfl, rfl⟩
        go_wp2_with (at_builtin; refine wpList_append_own _ rfl _ _ 126 rfl w.heap.size 28 i0 (.int .u32 0) 1 4 Tryz.underlying126 hi hz0 hz1 hz2 rfl (by decide) _ _ _ rfl (HO.out.alloc _) ⟨w5.heap.size, 0, none⟩ 1 1 [.int .u32 d] rfl rfl (cell_one_new _ _ _) (by simp [Value.oneCell']) (by unfold maxLen; omega) (by omega) (by have := HG.out.size; simp; omega) ?_; intro v2 w2 hown2 hg2 _)
        have HO2 : Hid (w2.ownsRow w.heap.size 28 1 v2 (rs ++ [d]).length ((rs ++ [d]).map (Value.int .u32))) := hid (by rw [List.map_append, List.length_append]; exact hown2)
        have HG2 : Hid (w.grownBy w2 none) := hid (gr_ownv (gr_alloc HG.out _) hg2 fun q hq => (HO.out.lt q hq).1)
        clear hown2 hg2
        go_wp2_with fail
        go_roundw
        case rel => exact ⟨i + 1, c', rs ++ [d], by go_num, by rw [hc'], hc2.out.1, hc2.out.2, HO2, hid (by have := HL.out; simp; omega), HD2, HV2, HG2⟩
        case measure => simp [intOf]; omega
      · by_cases h3 : 0 < c
        · have hm : i ≤ M := by omega
          have d1 := nth_dg DA.out i
          have d2 := nth_dg DB.out i
          have HA' := hid (digit_at (HA.out.grown HG.out) i)
          have HB' := hid (digit_at (HB.out.grown HG.out) i)
          obtain ⟨x, hx⟩ : ∃ x, Hid (nth ds i = x) := ⟨_, hid rfl⟩
          obtain ⟨y, hy⟩ : ∃ y, Hid (nth es i = y) := ⟨_, hid rfl⟩
          rw [hx.out] at d1 HA'
          rw [hy.out] at d2 HB'
          obtain ⟨x0, x1⟩ := d1
          obtain ⟨y0, y1⟩ := d2
          obtain ⟨s, hs⟩ : ∃ s, Hid (x + y + c = s) := ⟨_, hid rfl⟩
          obtain ⟨d, hd⟩ : ∃ d, s % 65536 = d := ⟨_, rfl⟩
          obtain ⟨c', hc'⟩ : ∃ c', s / 65536 = c' := ⟨_, rfl⟩
          have hs' := hs.out
          have s0 : 0 ≤ s := by omega
          have s1 : s ≤ 131071 := by omega
          have hw1 : IntKind.u32.wrap (x + y) = x + y := by rw [IntKind.wrap_u32]; omega
          have hw2 : IntKind.u32.wrap (x + y + c) = s := by rw [IntKind.wrap_u32]; omega
          have HV2 := hid (plus_step HL.out HV.out (by rw [hx.out, hy.out]; exact hs.out) (show s = d + 65536 * c' by omega))
          have HD2 := hid (dg_snoc HD.out (show 0 ≤ d by omega) (show d < 65536 by omega))
          have ox := nth_out ds i
          have oy := nth_out es i
          rw [hx.out] at ox
          rw [hy.out] at oy
          have hc2 := hid (show (0 ≤ c' ∧ c' ≤ 1) ∧ (i + 1 ≤ M ∨ i + 1 = M + 1 ∧ c' = 0) by omega)
          clear ox oy
          have hlr : rs.length ≤ 1001 := by have := HL.out; omega
          clear hs'
          go_wp2_with fail
          refine HA'.out.mono ?_
          rintro e w5 ⟨rfl, rfl⟩
          go_wp2_with fail
          refine HB'.out.mono ?_
          rintro e w5 ⟨rfl, rfl⟩
          go_wp2_with (at_builtin; refine wpList_append_own _ rfl _ _ 126 rfl w.heap.size 28 i0 (.int .u32 0) 1 4 Tryz.underlying126 hi hz0 hz1 hz2 rfl (by decide) _ _ _ rfl (HO.out.alloc _) ⟨w5.heap.size, 0, none⟩ 1 1 [.int .u32 d] rfl rfl (cell_one_new _ _ _) (by simp [Value.oneCell']) (by unfold maxLen; omega) (by omega) (by have := HG.out.size; simp; omega) ?_; intro v2 w2 hown2 hg2 _)
          have HO2 : Hid (w2.ownsRow w.heap.size 28 1 v2 (rs ++ [d]).length ((rs ++ [d]).map (Value.int .u32))) := hid (by rw [List.map_append, List.length_append]; exact hown2)
          have HG2 : Hid (w.grownBy w2 none) := hid (gr_ownv (gr_alloc HG.out _) hg2 fun q hq => (HO.out.lt q hq).1)
          clear hown2 hg2
          go_wp2_with fail
          go_roundw
          case rel => exact ⟨i + 1, c', rs ++ [d], by go_num, by rw [hc'], hc2.out.1, hc2.out.2, HO2, hid (by have := HL.out; simp; omega), HD2, HV2, HG2⟩
          case measure => simp [intOf]; omega
        · have hv := HV.out
          obtain rfl : c = 0 := by omega
          rw [List.take_of_length_le (by omega), List.take_of_length_le (by omega), Int.zero_mul, Int.add_zero] at hv
          have HV' := hid hv
          have hl2 : rs.length ≤ M + 1 := by have := HL.out; omega
          clear hv
          go_wp2_with fail
          go_ret
          exact ⟨_, rfl, rs, Dig.own HO.out, HD.out, HV'.out, hl2, HG.out⟩
end Go.Proofs.YtckoaeoecjphiaaGreat

/- tocsinref02: the difference of two sizes; which is greater. -/
namespace Go.Proofs.YtckoaeoecjphiaaGreat
open Go.RowKit Go.Lib

theorem Dig.cells {w : World} {v : Value} {ds : List Int} (h : Dig w v ds) (h1 : 0 < ds.length) : ∃ b off cap, v = .slice (some ⟨b, off, none⟩) ds.length cap ∧ ds.length ≤ cap ∧ ∀ w', w.grownBy w' none → ∀ j, j < ds.length → w'.cell? ⟨b, off + j, none⟩ = some (.int .u32 (nth ds j)) := by
  rcases h with ⟨rfl, _⟩ | ⟨b, off, cap, rfl, hc, hb, hj⟩
  · simp at h1
  · exact ⟨b, off, cap, rfl, hc, fun w' g j hl => gr_cell g (hj j hl)⟩
theorem minus_end {rs ds es : List Int} {c : Int} (c0 : 0 ≤ c) (c1 : c ≤ 1) (hl : rs.length = ds.length) (hd : Dg rs) (hv : bval rs - c * pw ds.length = bval (ds.take ds.length) - bval (es.take ds.length)) (hle : es.length ≤ ds.length) (hge : bval es ≤ bval ds) : bval rs = bval ds - bval es := by
  rw [List.take_of_length_le (Nat.le_refl _), List.take_of_length_le hle] at hv
  have h1 := bval_lt hd
  rw [hl] at h1
  rcases (by omega : c = 0 ∨ c = 1) with rfl | rfl
  · omega
  · omega

set_option maxRecDepth 100000 in
set_option maxHeartbeats 4000000 in
theorem minus_any {w : World} {va vb : Value} {ds es : List Int} (ha : Dig w va ds) (hb : Dig w vb es) (da : Dg ds) (db : Dg es) (la : ds.length ≤ 1000) (hle : es.length ≤ ds.length) (hge : bval es ≤ bval ds) :
    Calls Tryz.prog 104 #[va, vb] w fun e w' => ∃ v rs, e = .returned v ∧ Dig w' v rs ∧ Dg rs ∧ bval rs = bval ds - bval es ∧ rs.length = ds.length ∧ w.grownBy w' none := by
  obtain ⟨i0, hi, hz0, hz1, hz2⟩ := info_parts Tryz.info_u32
  obtain ⟨a1, cp1, ea⟩ := ha.slice
  obtain ⟨a2, cp2, eb⟩ := hb.slice
  have HA := hid ha
  have HB := hid hb
  have DA := hid da
  have DB := hid db
  have HGE := hid hge
  clear ha hb da db hge
  rw [ea] at HA
  rw [eb] at HB
  rw [ea, eb]
  clear ea eb
  obtain ⟨n, hn⟩ : ∃ n, Hid (ds.length = n) := ⟨_, hid rfl⟩
  rw [hn.out] at la
  go_enter Tryz.func104, Tryz.ntmps104
  go_wp2_with fail
  go_loopw [5, 6, 7] (fun vr vc vi wr => ∃ (i : Nat) (c : Int) (rs : List Int), vi = .int .i64 i ∧ vc = .int .u32 c ∧ (0 ≤ c ∧ c ≤ 1) ∧ i ≤ n ∧ Hid (wr.ownsRow w.heap.size 28 1 vr rs.length (rs.map (Value.int .u32))) ∧ Hid (rs.length = i) ∧ Hid (Dg rs) ∧ Hid (bval rs - c * pw i = bval (ds.take i) - bval (es.take i)) ∧ Hid (w.grownBy wr none)) (fun _ _ vi _ => n - (intOf vi).toNat)
  case atStart => exact ⟨0, 0, [], rfl, rfl, ⟨by omega, by omega⟩, Nat.zero_le _, hid (World.ownsRow_nil _ _ _ _), hid rfl, hid dg_nil, hid (by simp [bval]), hid (gr_refl w none)⟩
  case round =>
    obtain ⟨i, c, rs, rfl, rfl, ⟨c0, c1'⟩, hiM, HO, HL, HD, HV, HG⟩ := hrel
    have hlr : rs.length ≤ 1001 := by have := HL.out; omega
    by_cases h1 : i < n
    · have d1 := nth_dg DA.out i
      have d2 := nth_dg DB.out i
      have HB' := hid (fun m : Nat => digit_at ((HB.out.grown HG.out).grown (gr_drewN (gr_refl wr none) m)) i)
      obtain ⟨b, off, cap, he, hcap, hcell⟩ := HA.out.cells (by rw [hn.out]; omega)
      injection he with he1 he2 he3
      subst he1
      have hx0 := hcell _ HG.out i (by rw [hn.out]; exact h1)
      obtain ⟨x, hx⟩ : ∃ x, Hid (nth ds i = x) := ⟨_, hid rfl⟩
      obtain ⟨y, hy⟩ : ∃ y, Hid (nth es i = y) := ⟨_, hid rfl⟩
      rw [hx.out] at d1 hx0
      rw [hy.out] at d2 HB'
      obtain ⟨x0, x1⟩ := d1
      obtain ⟨y0, y1⟩ := d2
      obtain ⟨s, hs⟩ : ∃ s, Hid (65536 + x - y - c = s) := ⟨_, hid rfl⟩
      obtain ⟨d, hd⟩ : ∃ d, s % 65536 = d := ⟨_, rfl⟩
      obtain ⟨k, hk⟩ : ∃ k, s / 65536 = k := ⟨_, rfl⟩
      obtain ⟨c', hc'⟩ : ∃ c', Hid (1 - k = c') := ⟨_, hid rfl⟩
      have hs' := hs.out
      have hc2 := hc'.out
      have s0 : 0 ≤ s := by omega
      have s1 : s ≤ 131071 := by omega
      have hw1 : IntKind.u32.wrap (65536 + x) = 65536 + x := by rw [IntKind.wrap_u32]; omega
      have hw2 : IntKind.u32.wrap (65536 + x - y) = 65536 + x - y := by rw [IntKind.wrap_u32]; omega
      have hw3 : IntKind.u32.wrap (65536 + x - y - c) = s := by rw [IntKind.wrap_u32]; omega
      have hw4 : IntKind.u32.wrap (1 - k) = c' := by rw [IntKind.wrap_u32]; omega
      have HV2 := hid (minus_step HL.out HV.out (by rw [hx.out, hy.out]; exact hs.out) (show s = d + 65536 * (1 - c') by omega))
      have HD2 := hid (dg_snoc HD.out (show 0 ≤ d by omega) (show d < 65536 by omega))
      have hc3 := hid (show 0 ≤ c' ∧ c' ≤ 1 by omega)
      have hin : (i : Int) < (n : Int) := by omega
      have htn : ((i : Int)).toNat = i := by omega
      rw [hn.out]
      clear hs' hc2 hcell he2 he3
      go_wp2_with fail
      go_quiet ((go_at_call 107; exact Calls.quiet_of_same (HB'.out _)))
      obtain ⟨w5, hw5⟩ : ∃ w5, wr.drewN nq = w5 := ⟨_, rfl⟩
      have G5 : Hid (wr.grownBy w5 none) := hid (hw5 ▸ gr_drewN (gr_refl wr none) nq)
      rw [hw5]
      have HO5 := hid (HO.out.kept G5.out (Classical.em _))
      clear hw5 hx0 nq
      go_wp2_with (at_builtin; refine wpList_append_own _ rfl _ _ 126 rfl w.heap.size 28 i0 (.int .u32 0) 1 4 Tryz.underlying126 hi hz0 hz1 hz2 rfl (by decide) _ _ _ rfl (HO5.out.alloc _) ⟨w5.heap.size, 0, none⟩ 1 1 [.int .u32 d] rfl rfl (cell_one_new _ _ _) (by simp [Value.oneCell']) (by unfold maxLen; omega) (by omega) (by have := HG.out.size; have := G5.out.size; simp; omega) ?_; intro v2 w2 hown2 hg2 _)
      have HO2 : Hid (w2.ownsRow w.heap.size 28 1 v2 (rs ++ [d]).length ((rs ++ [d]).map (Value.int .u32))) := hid (by rw [List.map_append, List.length_append]; exact hown2)
      have HG2 : Hid (w.grownBy w2 none) := hid (gr_ownv (gr_alloc (gr_trans HG.out G5.out) _) hg2 fun q hq => (HO5.out.lt q hq).1)
      clear hown2 hg2
      go_wp2_with fail
      go_roundw
      case rel => exact ⟨i + 1, c', rs ++ [d], by go_num, rfl, hc3.out, by omega, HO2, hid (by have := HL.out; simp; omega), HD2, HV2, HG2⟩
      case measure => simp [intOf]; omega
    · obtain rfl : i = n := by omega
      have hl2 : rs.length = ds.length := by rw [hn.out]; exact HL.out
      have hv := HV.out
      rw [← hn.out] at hv
      have HV' := hid (minus_end c0 c1' hl2 HD.out hv hle HGE.out)
      rw [hn.out]
      clear hv
      have Hl2 := hid hl2
      clear hl2
      go_wp2_with fail
      go_ret
      exact ⟨_, rs, rfl, Dig.own HO.out, HD.out, HV'.out, Hl2.out, HG.out⟩

def cmpI (x y : Int) : Int := if x < y then -1 else if y < x then 1 else 0
theorem cmpI_lt {x y : Int} (h : x < y) : cmpI x y = -1 := if_pos h
theorem cmpI_gt {x y : Int} (h : y < x) : cmpI x y = 1 := by unfold cmpI; rw [if_neg (by omega), if_pos h]
theorem cmpI_eq {x y : Int} (h : x = y) : cmpI x y = 0 := by unfold cmpI; rw [if_neg (by omega), if_neg (by omega)]

set_option maxRecDepth 100000 in
set_option maxHeartbeats 4000000 in
theorem compare_any {w : World} {va vb : Value} {ds es : List Int} (ha : Dig w va ds) (hb : Dig w vb es) (da : Dg ds) (db : Dg es) (ta : Trm ds) (tb : Trm es) (la : ds.length ≤ 1000) :
    Calls Tryz.prog 103 #[va, vb] w fun e w' => e = .returned (.int .i64 (cmpI (bval ds) (bval es))) ∧ w.grownBy w' none := by
  obtain ⟨a1, cp1, ea⟩ := ha.slice
  obtain ⟨a2, cp2, eb⟩ := hb.slice
  by_cases hlen : ds.length = es.length
  · have HA := hid ha
    have HB := hid hb
    have DA := hid da
    have DB := hid db
    clear ha hb da db ta tb
    rw [ea] at HA
    rw [eb] at HB
    rw [ea, eb]
    clear ea eb
    obtain ⟨n, hn⟩ : ∃ n, Hid (ds.length = n) := ⟨_, hid rfl⟩
    have hn2 : Hid (es.length = n) := hid (by rw [← hlen, hn.out])
    rw [hn.out, hn2.out]
    rw [hn.out] at la
    clear hlen
    obtain ⟨r, hr⟩ : ∃ r, Hid (cmpI (bval ds) (bval es) = r) := ⟨_, hid rfl⟩
    rw [hr.out]
    go_enter Tryz.func103, Tryz.ntmps103
    go_wp2_with fail
    go_loopw [5] (fun vi wr => ∃ j : Int, vi = .int .i64 j ∧ ((j = -1 ∧ Hid (ds = es)) ∨ ∃ i : Nat, j = (i : Int) ∧ i < n ∧ Hid (ds.drop (i + 1) = es.drop (i + 1))) ∧ Hid (w.grownBy wr none)) (fun vi _ => (intOf vi + 1).toNat)
    case atStart =>
      refine ⟨(n : Int) - 1, by go_num, ?_, hid (gr_refl w none)⟩
      by_cases h0 : n = 0
      · left
        exact ⟨by omega, hid (by rw [List.length_eq_zero_iff.1 (hn.out.trans h0), List.length_eq_zero_iff.1 (hn2.out.trans h0)])⟩
      · right
        exact ⟨n - 1, by omega, by omega, hid (by rw [List.drop_of_length_le (by rw [hn.out]; omega), List.drop_of_length_le (by rw [hn2.out]; omega)])⟩
    case round =>
      obtain ⟨j, rfl, hj, HG⟩ := hrel
      rcases hj with ⟨rfl, heq⟩ | ⟨i, rfl, hin, hd⟩
      · have hr0 : r = 0 := by rw [← hr.out, heq.out]; exact cmpI_eq rfl
        subst hr0
        go_wp2_with fail
        go_ret
        exact ⟨rfl, HG.out⟩
      · obtain ⟨b1, off1, c1, he, -, hca⟩ := HA.out.cells (by rw [hn.out]; omega)
        injection he with he1 he2 he3
        subst he1
        obtain ⟨b2, off2, c2, he', -, hcb⟩ := HB.out.cells (by rw [hn2.out]; omega)
        injection he' with he1' he2' he3'
        subst he1'
        have hx0 := hca _ HG.out i (by rw [hn.out]; exact hin)
        have hy0 := hcb _ HG.out i (by rw [hn2.out]; exact hin)
        have Hca := hid (hca)
        have Hcb := hid (hcb)
        obtain ⟨x, hx⟩ : ∃ x, Hid (nth ds i = x) := ⟨_, hid rfl⟩
        obtain ⟨y, hy⟩ : ∃ y, Hid (nth es i = y) := ⟨_, hid rfl⟩
        rw [hx.out] at hx0
        rw [hy.out] at hy0
        have hinI : (i : Int) < (n : Int) := by omega
        have hi0 : (0 : Int) ≤ (i : Int) := by omega
        have htn : ((i : Int)).toNat = i := by omega
        clear hca hcb he2 he3 he2' he3'
        by_cases hlt : x < y
        · have hr0 : r = -1 := by rw [← hr.out]; exact cmpI_lt (digit_lt DA.out DB.out hd.out (by rw [hx.out, hy.out]; exact hlt))
          subst hr0
          go_wp2_with fail
          go_quiet (fail)
          go_wp2_with fail
          go_ret
          exact ⟨rfl, gr_drewN HG.out _⟩
        · go_wp2_with fail
          go_quiet (fail)
          obtain ⟨w5, hw5⟩ : ∃ w5, wr.drewN nq = w5 := ⟨_, rfl⟩
          have G5 : Hid (w.grownBy w5 none) := hid (hw5 ▸ gr_drewN HG.out nq)
          rw [hw5]
          clear hw5 hx0 hy0 nq
          have hx0 := Hca.out _ G5.out i (by rw [hn.out]; exact hin)
          have hy0 := Hcb.out _ G5.out i (by rw [hn2.out]; exact hin)
          rw [hx.out] at hx0
          rw [hy.out] at hy0
          by_cases hgt : y < x
          · have hr0 : r = 1 := by rw [← hr.out]; exact cmpI_gt (digit_lt DB.out DA.out hd.out.symm (by rw [hx.out, hy.out]; exact hgt))
            subst hr0
            go_wp2_with fail
            go_quiet (fail)
            go_wp2_with fail
            go_ret
            exact ⟨rfl, gr_drewN G5.out _⟩
          · have hxy : x = y := by omega
            have hd2 := hid (drop_same (by rw [hn.out]; exact hin) (by rw [hn2.out]; exact hin) hd.out (by rw [hx.out, hy.out]; exact hxy))
            go_wp2_with fail
            go_quiet (fail)
            go_wp2_with fail
            go_roundw
            case rel =>
              refine ⟨(i : Int) - 1, by go_num, ?_, hid (gr_drewN G5.out _)⟩
              cases i with
              | zero => left; exact ⟨by omega, hid (by simpa using hd2.out)⟩
              | succ i => right; exact ⟨i, by omega, by omega, hd2⟩
            case measure => simp [intOf]
  · by_cases hlt : ds.length < es.length
    · rw [cmpI_lt (shorter_lt da db tb hlt), ea, eb]
      clear ha hb da db ta tb ea eb
      go_enter Tryz.func103, Tryz.ntmps103
      go_wp2_with fail
      go_ret
      exact ⟨rfl, gr_refl w none⟩
    · rw [cmpI_gt (shorter_lt db da ta (by omega)), ea, eb]
      clear ha hb da db ta tb ea eb
      go_enter Tryz.func103, Tryz.ntmps103
      go_wp2_with fail
      go_ret
      exact ⟨rfl, gr_refl w none⟩
end Go.Proofs.YtckoaeoecjphiaaGreat

/- tocsinref02: a number without noughts ahead; the other sign. -/
namespace Go.Proofs.YtckoaeoecjphiaaGreat
open Go.RowKit Go.Lib

theorem big_cell {w : World} {b : Nat} {cells : Array Value} {t : TypeId} (h : w.heap[b]? = some (.cells cells t)) (i : Nat) (v : Value) (hv : cells[i]? = some v) : w.cell? ⟨b, i, none⟩ = some v := by simp [World.cell?, h, hv]
theorem big_froz {w : World} {b : Nat} {cells : Array Value} {t : TypeId} (h : w.heap[b]? = some (.cells cells t)) (i : Nat) : w.frozen? ⟨b, i, none⟩ = false := by simp [World.frozen?, h]
theorem duo_set0 {w : World} {b : Nat} {x y : Value} {T : TypeId} (h : w.heap[b]? = some (.cells #[x, y] T (0, 0))) (x' : Value) : (w.setCell ⟨b, 0, none⟩ x').heap[b]? = some (.cells #[x', y] T (0, 0)) := by
  simp only [World.setCell, Array.getElem?_modify, if_true, h, Option.map_some]
  rfl
theorem duo_other {w : World} {b k : Nat} {o : Obj} (h : w.heap[b]? = some o) (hk : b ≠ k) (i : Nat) (x' : Value) : (w.setCell ⟨k, i, none⟩ x').heap[b]? = some o := by
  rw [Below.heap_setCell _ _ _ _ hk]; exact h
theorem take_nonempty {ds : List Int} {k n : Nat} (hn : ds.length = n) (hk : k + 1 ≤ n) : ds.take (k + 1) ≠ [] := by
  intro h
  have := congrArg List.length h
  rw [List.length_take, List.length_nil] at this
  omega
theorem take_len {ds : List Int} {k n : Nat} (hn : ds.length = n) : (ds.take k).length ≤ n := by rw [List.length_take]; omega
theorem bval_take_zero {ds : List Int} {k : Nat} (h : bval (ds.take (k + 1)) = bval ds) (h0 : nth ds k = 0) : bval (ds.take k) = bval ds := by
  rw [bval_take, h0, Int.zero_mul, Int.add_zero] at h
  exact h
theorem Dig.take {w : World} {a : Option Addr} {n cap : Nat} {ds : List Int} (h : Dig w (.slice a n cap) ds) (k : Nat) (hk : k ≤ ds.length) : Dig w (.slice a k cap) (ds.take k) := by
  rcases h with ⟨rfl, a', cap', e⟩ | ⟨b, off, cap', e, hc, hb, hj⟩
  · injection e with e1 e2 e3
    simp at hk
    subst hk
    exact .inl ⟨by simp, _, _, rfl⟩
  · injection e with e1 e2 e3
    subst e1; subst e3
    refine .inr ⟨b, off, cap, by rw [List.length_take, Nat.min_eq_left hk], by rw [List.length_take, Nat.min_eq_left hk]; omega, hb, fun j hj' => ?_⟩
    rw [List.length_take, Nat.min_eq_left hk] at hj'
    rw [hj j (by omega)]
    simp [nth, hj']
theorem nth_take {ds : List Int} {k i : Nat} (h : i < k) : nth (ds.take k) i = nth ds i := by simp [nth, h]
theorem trm_take {ds : List Int} {k : Nat} (hk : k < ds.length) (h : nth ds k ≠ 0) : Trm (ds.take (k + 1)) := by
  right
  rw [List.length_take, Nat.min_eq_left (by omega), Nat.add_sub_cancel, nth_take (by omega)]
  exact h
/-- A whole number of digits. -/
structure Wide (w : World) (x : Value) (neg : Bool) (ds : List Int) : Prop where
  ex : ∃ v, x = .agg #[v, .bool neg] ∧ Dig w v ds
  dg : Dg ds
  trm : Trm ds
  pos : neg = true → ds ≠ []
theorem Wide.grown {w w' : World} {x : Value} {neg : Bool} {ds : List Int} (h : Wide w x neg ds) (g : w.grownBy w' none) : Wide w' x neg ds :=
  ⟨by obtain ⟨v, e, hv⟩ := h.ex; exact ⟨v, e, hv.grown g⟩, h.dg, h.trm, h.pos⟩

def sliceLen : Option Value → Nat
  | some (.slice _ n _) => n
  | _ => 0

set_option maxRecDepth 100000 in
set_option maxHeartbeats 4000000 in
theorem trim_any {w : World} {va : Value} {ds : List Int} (neg : Bool) (ha : Dig w va ds) (da : Dg ds) (la : ds.length ≤ 1000) :
    Calls Tryz.prog 101 #[.agg #[va, .bool neg]] w fun e w' => ∃ x rs neg', e = .returned x ∧ Wide w' x neg' rs ∧ bval rs = bval ds ∧ rs.length ≤ ds.length ∧ (rs ≠ [] → neg' = neg) ∧ w.grownBy w' none := by
  obtain ⟨a1, cp1, ea⟩ := ha.slice
  have HA := hid ha
  have DA := hid da
  clear ha da
  rw [ea] at HA
  rw [ea]
  clear ea
  obtain ⟨n, hn⟩ : ∃ n, Hid (ds.length = n) := ⟨_, hid rfl⟩
  rw [hn.out] at la HA
  rw [hn.out]
  obtain ⟨bx, hbx⟩ : ∃ bx, Hid (w.heap.size = bx) := ⟨_, hid rfl⟩
  obtain ⟨A, hAw⟩ : ∃ A, (w.alloc (.cells #[.slice a1 n cp1, .bool neg] 128)).alloc (.cells #[.slice none 0 0, .bool false] 128) = A := ⟨_, rfl⟩
  have GA : Hid (w.grownBy A none) := hid (by rw [← hAw]; exact gr_alloc (gr_alloc (gr_refl w none) _) _)
  have FA : Hid (A.heap[bx]? = some (.cells #[.slice a1 n cp1, .bool neg] 128 (0, 0))) := hid (by
    rw [← hAw, ← hbx.out]
    exact gr_heap (gr_alloc (gr_refl _ none) _) (heap_alloc_new w _) (by simp))
  have FB : Hid (A.heap[bx + 1]? = some (.cells #[.slice none 0 0, .bool false] 128 (0, 0))) := hid (by
    rw [← hAw, ← hbx.out]
    have := heap_alloc_new (w.alloc (.cells #[.slice a1 n cp1, .bool neg] 128)) (.cells #[.slice none 0 0, .bool false] 128)
    simpa using this)
  go_enter Tryz.func101, Tryz.ntmps101
  go_wp2_with fail
  rw [hbx.out]
  clear hAw
  go_loopw [3] (fun _ wr => ∃ k : Nat, k ≤ n ∧ Hid (bval (ds.take k) = bval ds) ∧ Hid (wr.heap[bx]? = some (.cells #[.slice a1 k cp1, .bool neg] 128 (0, 0))) ∧ Hid (wr.heap[bx + 1]? = some (.cells #[.slice none 0 0, .bool false] 128 (0, 0))) ∧ Hid (w.grownBy wr none)) (fun _ wr => sliceLen (wr.cell? ⟨bx, 0, none⟩))
  case atStart => exact ⟨n, Nat.le_refl _, hid (by rw [List.take_of_length_le (by rw [hn.out]; exact Nat.le_refl _)]), FA, FB, GA⟩
  case round =>
    obtain ⟨k, hk, HV, F1, F2, HG⟩ := hrel
    have c0 := big_cell F1.out 0 _ rfl
    have c1 := big_cell F1.out 1 _ rfl
    have c0f := big_froz F1.out 0
    have c1f := big_froz F1.out 1
    have e0 := big_cell F2.out 0 _ rfl
    have e1 := big_cell F2.out 1 _ rfl
    have e0f := big_froz F2.out 0
    have e1f := big_froz F2.out 1
    cases k with
    | zero =>
      have hv := HV.out
      go_wp2_with fail
      have G9 := hid (gr_setNew (gr_setNew (gr_setNew HG.out (k := bx) (by have := hbx.out; omega) 1 (.bool false)) (k := bx + 1) (by have := hbx.out; omega) 0 (.slice a1 0 cp1)) (k := bx + 1) (by have := hbx.out; omega) 1 (.bool false))
      refine bodyPost_ret (v := .agg #[.slice a1 0 cp1, .bool false]) ?_ rfl ⟨_, [], false, rfl, ⟨⟨_, rfl, Dig.zero _ _ _⟩, dg_nil, .inl rfl, fun h => absurd h (by decide)⟩, hv, Nat.zero_le _, fun h => absurd rfl h, G9.out⟩
      simp [results, Tryz.results101, go_sem, e0, e1]
    | succ k =>
      obtain ⟨b, off, cap, he, hcap, hcell⟩ := HA.out.cells (by rw [hn.out]; omega)
      injection he with he1 he2 he3
      subst he1
      have hx0 := hcell _ HG.out k (by rw [hn.out]; omega)
      obtain ⟨x, hx⟩ : ∃ x, Hid (nth ds k = x) := ⟨_, hid rfl⟩
      rw [hx.out] at hx0
      have hkI : (k : Int) < ((k + 1 : Nat) : Int) := by omega
      have hkc : k ≤ cp1 := by have := hn.out; omega
      clear hcell he2 he3
      by_cases h0 : x = 0
      · subst h0
        go_wp2_with fail
        go_roundw
        case rel => exact ⟨k, by omega, hid (bval_take_zero HV.out hx.out), hid (duo_set0 F1.out _), hid (duo_other F2.out (by omega) 0 _), hid (gr_setNew HG.out (by have := hbx.out; omega) 0 _)⟩
        case measure =>
          have h9 := big_cell (duo_set0 F1.out (.slice (some ⟨b, off, none⟩) k cp1)) 0 _ rfl
          rw [h9, c0]
          simp [sliceLen]
      · have hv := HV.out
        have hx9 : nth ds k ≠ 0 := by rw [hx.out]; exact h0
        go_wp2_with fail
        have G9 := hid (gr_setNew (gr_setNew HG.out (k := bx + 1) (by have := hbx.out; omega) 0 (.slice (some ⟨b, off, none⟩) (k + 1) cp1)) (k := bx + 1) (by have := hbx.out; omega) 1 (.bool neg))
        refine bodyPost_ret (v := .agg #[.slice (some ⟨b, off, none⟩) (k + 1) cp1, .bool neg]) ?_ rfl ⟨_, ds.take (k + 1), neg, rfl, ⟨⟨_, rfl, (HA.out.grown G9.out).take (k + 1) (by rw [hn.out]; omega)⟩, dg_take DA.out _, trm_take (by rw [hn.out]; omega) hx9, fun _ => take_nonempty hn.out hk⟩, hv, take_len hn.out, fun _ => rfl, G9.out⟩
        simp [results, Tryz.results101, go_sem, e0, e1]
end Go.Proofs.YtckoaeoecjphiaaGreat

/- tocsinref02: the other sign; a number's digits. -/
namespace Go.Proofs.YtckoaeoecjphiaaGreat
open Go.RowKit Go.Lib

theorem box2 (w : World) (o1 o2 : Obj) : ((w.alloc o1).alloc o2).heap[w.heap.size + 1]? = some o2 := by
  have := heap_alloc_new (w.alloc o1) o2
  simpa using this
theorem box3 (w : World) (o1 o2 o3 : Obj) : (((w.alloc o1).alloc o2).alloc o3).heap[w.heap.size + 2]? = some o3 := by
  have := heap_alloc_new ((w.alloc o1).alloc o2) o3
  simpa using this
theorem dig_set {w : World} {v : Value} {ds : List Int} {b : Nat} {a : Option Addr} {n cap : Nat} {neg : Bool} {T : TypeId} (h : Dig w v ds) (hb : w.heap[b]? = some (.cells #[.slice a n cap, .bool neg] T (0, 0))) (i : Nat) (u : Value) : Dig (w.setCell ⟨b, i, none⟩ u) v ds := by
  rcases h with h | ⟨k, off, cap', rfl, hc, hk, hj⟩
  · exact .inl h
  · by_cases h0 : ds.length = 0
    · exact .inl ⟨List.length_eq_zero_iff.1 h0, _, _, by rw [h0]⟩
    · have hne : k ≠ b := by
        rintro rfl
        have h1 := hj 0 (by omega)
        simp only [World.cell?, hb, Nat.add_zero] at h1
        match off, h1 with
        | 0, h1 => simp at h1
        | 1, h1 => simp at h1
        | off + 2, h1 => simp at h1
      refine .inr ⟨k, off, cap', rfl, hc, by simpa [World.setCell] using hk, fun j hl => ?_⟩
      have h2 := hj j hl
      simp only [World.cell?] at h2 ⊢
      rw [Below.heap_setCell _ _ _ _ hne]
      exact h2
theorem wide_store {w : World} {x : Value} {neg' : Bool} {ds : List Int} {b : Nat} {a : Option Addr} {n cap : Nat} {neg : Bool} {T : TypeId} (h : Wide w x neg' ds) (hb : w.heap[b]? = some (.cells #[.slice a n cap, .bool neg] T (0, 0))) (a2 : Option Addr) (n2 cap2 : Nat) (u : Value) : Wide ((w.setCell ⟨b, 0, none⟩ (.slice a2 n2 cap2)).setCell ⟨b, 1, none⟩ u) x neg' ds :=
  ⟨by obtain ⟨v, e, hv⟩ := h.ex; exact ⟨v, e, dig_set (dig_set hv hb _ _) (duo_set0 hb _) _ _⟩, h.dg, h.trm, h.pos⟩
theorem sgn_zero (b : Bool) : sgn b 0 = 0 := by unfold sgn; split <;> rfl
theorem sgn_turn {neg neg' : Bool} {ds rs : List Int} (hv : bval rs = bval ds) (hn : rs ≠ [] → neg' = !neg) : sgn neg' (bval rs) = -sgn neg (bval ds) := by
  by_cases h : rs = []
  · subst h
    rw [← hv]
    show sgn neg' 0 = -sgn neg 0
    rw [sgn_zero, sgn_zero]
    rfl
  · rw [hn h, hv]
    cases neg <;> simp [sgn]

set_option maxRecDepth 100000 in
set_option maxHeartbeats 4000000 in
theorem turn_any {w : World} {x : Value} {neg : Bool} {ds : List Int} (h : Wide w x neg ds) (la : ds.length ≤ 1000) :
    Calls Tryz.prog 106 #[x] w fun e w' => ∃ x' neg' rs, e = .returned x' ∧ Wide w' x' neg' rs ∧ sgn neg' (bval rs) = -sgn neg (bval ds) ∧ rs.length ≤ ds.length ∧ w.grownBy w' none := by
  obtain ⟨v, rfl, hv⟩ := h.ex
  obtain ⟨a, cap, rfl⟩ := hv.slice
  have HV := hid hv
  have HD := hid h.dg
  clear hv h
  obtain ⟨bx, hbx⟩ : ∃ bx, Hid (w.heap.size = bx) := ⟨_, hid rfl⟩
  go_enter Tryz.func106, Tryz.ntmps106
  go_wp2_with fail
  have GA := gr_alloc (gr_alloc (gr_refl w none) (.cells #[.slice a ds.length cap, .bool neg] 128)) (.cells #[.slice none 0 0, .bool false] 128)
  have FB := box2 w (.cells #[.slice a ds.length cap, .bool neg] 128) (.cells #[.slice none 0 0, .bool false] 128)
  refine (trim_any (!neg) (HV.out.grown GA) HD.out la).mono ?_
  rintro e w5 ⟨x', rs, neg', rfl, hw, hb, hl, hneg, g5⟩
  obtain ⟨v', rfl, hv'⟩ := hw.ex
  obtain ⟨a', cap', rfl⟩ := hv'.slice
  have F5 := gr_heap g5 FB (by simp)
  have e0 := big_cell F5 0 _ rfl
  have e1 := big_cell F5 1 _ rfl
  have e0f := big_froz F5 0
  have e1f := big_froz F5 1
  have Hw := hid hw
  have Hr := hid (sgn_turn (neg := neg) hb hneg)
  have G5 := hid (gr_trans GA g5)
  have F6 := hid F5
  clear hw hb hneg g5 GA FB F5 hv'
  go_wp2_with fail
  refine bodyPost_ret (v := .agg #[.slice a' rs.length cap', .bool neg']) ?_ rfl ⟨_, neg', rs, rfl, wide_store Hw.out F6.out _ _ _ _, Hr.out, hl, ?_⟩
  · simp [results, Tryz.results106, go_sem, e0, e1]
  · exact gr_setNew (gr_setNew G5.out (by omega) 0 _) (by omega) 1 _
end Go.Proofs.YtckoaeoecjphiaaGreat
