/- RoundSpreads: for every configuration, clocks, time, rate and span the law answers true: how far apart clocks are, and the bound, are as the document says. No condition. -/
import Derived.Test.YtckoaeoecjphiaaGreatK31
import Derived.Test.YtckoaeoecjphiaaGreatK02
import Derived.Test.YtckoaeoecjphiaaGreatK01
import Derived.Laws.MakeOwn
import Derived.BigQuiet
import Derived.Test.YtckoaeoecjphiaaGreatK43
import Derived.Test.YtckoaeoecjphiaaGreatK53

/- tocsinref02.Mul: the product. -/
namespace Go.Proofs.YtckoaeoecjphiaaGreat
open Go.RowKit Go.Lib

theorem pw_add (i j : Nat) : pw (i + j) = pw i * pw j := by unfold pw; rw [Nat.pow_add]; exact Int.natCast_mul _ _
theorem nth_set_same {ds : List Int} {q : Nat} (h : q < ds.length) (v : Int) : nth (ds.set q v) q = v := by unfold nth; simp [h]
theorem nth_set_ne {ds : List Int} {q p : Nat} (h : p ≠ q) (v : Int) : nth (ds.set q v) p = nth ds p := by unfold nth; rw [List.getElem?_set_ne (Ne.symm h)]
theorem bval_set : ∀ (ds : List Int) (q : Nat) (v : Int), q < ds.length → bval (ds.set q v) = bval ds + (v - nth ds q) * pw q
  | [], _, _, h => by simp at h
  | d :: ds, 0, v, _ => by
    show v + 65536 * bval ds = d + 65536 * bval ds + (v - d) * pw 0
    rw [pw_zero, Int.mul_one]
    omega
  | d :: ds, q + 1, v, h => by
    show d + 65536 * bval (ds.set q v) = d + 65536 * bval ds + (v - nth ds q) * pw (q + 1)
    rw [bval_set ds q v (by simpa using h), pw_succ, Int.mul_add, Int.mul_left_comm (v - nth ds q)]
    omega
theorem dg_set {ds : List Int} (h : Dg ds) {q : Nat} {v : Int} (h0 : 0 ≤ v) (h1 : v < 65536) : Dg (ds.set q v) := by
  intro d hd
  rcases List.mem_or_eq_of_mem_set hd with h2 | h2
  · exact h d h2
  · subst h2; exact ⟨h0, h1⟩
theorem bval_zeros : ∀ n : Nat, bval (List.replicate n 0) = 0
  | 0 => rfl
  | n + 1 => by
    show 0 + 65536 * bval (List.replicate n 0) = 0
    rw [bval_zeros n]
    rfl
theorem nth_zeros (n q : Nat) : nth (List.replicate n 0) q = 0 := by
  unfold nth
  rw [List.getElem?_replicate]
  split <;> rfl
theorem dg_zeros (n : Nat) : Dg (List.replicate n 0) := by
  intro d hd
  have := List.eq_of_mem_replicate hd
  omega
/-- Ahead of the round i of the outer loop. -/
structure MulSt (rs ds es : List Int) (i N : Nat) : Prop where
  len : rs.length = N
  dg : Dg rs
  val : bval rs = bval (ds.take i) * bval es
  zr : ∀ q, i + es.length ≤ q → nth rs q = 0
/-- Ahead of the round j of the inner loop. -/
structure MulIn (rs : List Int) (es : List Int) (V x : Int) (c : Int) (i j N : Nat) : Prop where
  len : rs.length = N
  dg : Dg rs
  val : bval rs + c * pw (i + j) = V + x * bval (es.take j) * pw i
  zr : ∀ q, i + es.length ≤ q → j ≤ es.length → nth rs q = 0
  zr1 : ∀ q, i + es.length + 1 ≤ q → nth rs q = 0
theorem MulSt.begin {rs ds es : List Int} {i N : Nat} (h : MulSt rs ds es i N) (x : Int) : MulIn rs es (bval (ds.take i) * bval es) x 0 i 0 N :=
  ⟨h.len, h.dg, by rw [h.val]; simp [bval], fun q hq _ => h.zr q hq, fun q hq => h.zr q (by omega)⟩
theorem MulIn.step {rs es : List Int} {V x c y r s : Int} {i j N : Nat} (h : MulIn rs es V x c i j N) (hj : j ≤ es.length) (hq : i + j < N) (hy : nth es j = y) (hr : nth rs (i + j) = r) (hs : x * y + r + c = s) :
    MulIn (rs.set (i + j) (s % 65536)) es V x (s / 65536) i (j + 1) N := by
  refine ⟨by rw [List.length_set]; exact h.len, dg_set h.dg (by omega) (by omega), ?_, fun q h1 h2 => ?_, fun q h1 => ?_⟩
  · rw [bval_set _ _ _ (by rw [h.len]; exact hq), hr, bval_take, hy]
    have e1 : i + (j + 1) = (i + j) + 1 := by omega
    rw [e1, pw_succ]
    have h2 := h.val
    have h3 : s / 65536 * (65536 * pw (i + j)) = (s / 65536 * 65536) * pw (i + j) := by rw [Int.mul_assoc]
    have h4 : s / 65536 * 65536 = s - s % 65536 := by omega
    rw [h3, h4]
    have h5 : x * (bval (es.take j) + y * pw j) * pw i = x * bval (es.take j) * pw i + x * y * pw (i + j) := by
      rw [Int.mul_add, Int.add_mul, pw_add]
      congr 1
      rw [← Int.mul_assoc, Int.mul_assoc (x * y), Int.mul_comm (pw j)]
    rw [h5]
    have h6 : (s % 65536 - r) * pw (i + j) + (s - s % 65536) * pw (i + j) = (x * y) * pw (i + j) + c * pw (i + j) := by
      rw [← Int.add_mul, ← Int.add_mul]
      congr 1
      omega
    omega
  · rw [nth_set_ne (by omega)]
    exact h.zr q h1 (by omega)
  · rw [nth_set_ne (by omega)]
    exact h.zr1 q h1
theorem MulIn.end {rs ds es : List Int} {x : Int} {i j N : Nat} (h : MulIn rs es (bval (ds.take i) * bval es) x 0 i j N) (hj : es.length ≤ j) (hx : nth ds i = x) : MulSt rs ds es (i + 1) N := by
  refine ⟨h.len, h.dg, ?_, fun q hq => h.zr1 q (by omega)⟩
  have h1 := h.val
  rw [List.take_of_length_le hj, Int.zero_mul, Int.add_zero] at h1
  rw [h1, bval_take, hx, Int.add_mul]
  congr 1
  rw [Int.mul_assoc, Int.mul_comm (bval es), ← Int.mul_assoc]
/-- A slice's digits, of the call's own. -/
structure RowU (W : World) (rb : Nat) (rs : List Int) : Prop where
  cell : ∀ j, j < rs.length → W.cell? ⟨rb, j, none⟩ = some (.int .u32 (nth rs j))
  froz : ∀ i, W.frozen? ⟨rb, i, none⟩ = false
  lt : rb < W.heap.size
theorem RowU.put {W : World} {rb q : Nat} {rs : List Int} {v : Int} (h : RowU W rb rs) (hq : q < rs.length) : RowU (W.setCell ⟨rb, q, none⟩ (.int .u32 v)) rb (rs.set q v) := by
  refine ⟨fun j hj => ?_, fun i => by simp [h.froz], by simpa [World.setCell] using h.lt⟩
  rw [List.length_set] at hj
  by_cases e : j = q
  · subst e
    have := h.cell j hj
    rw [nth_set_same hj]
    simp [World.cell?_setCell_same, this]
  · rw [World.cell?_setCell_other _ _ _ _ (fun e2 => e (congrArg Addr.off e2).symm), h.cell j hj, nth_set_ne e]
theorem RowU.drewN {W : World} {rb : Nat} {rs : List Int} (h : RowU W rb rs) (n : Nat) : RowU (W.drewN n) rb rs := by
  have g := gr_drewN (gr_refl W none) n
  refine ⟨fun j hj => gr_cell g (h.cell j hj), fun i => ?_, Nat.lt_of_lt_of_le h.lt g.size⟩
  rw [World.frozen?_of_block (w := W) (a := ⟨rb, i, none⟩) (g.block rb h.lt (by simp))]
  exact h.froz i
theorem RowU.dig {W : World} {rb : Nat} {rs : List Int} (h : RowU W rb rs) : Dig W (.slice (some ⟨rb, 0, none⟩) rs.length rs.length) rs :=
  .inr ⟨rb, 0, _, rfl, Nat.le_refl _, h.lt, fun j hj => by rw [Nat.zero_add]; exact h.cell j hj⟩
theorem make_u32s (n : Nat) (hn : n ≤ 100) : ∃ ca : Array Value, (∀ j, j < n → ca[j]? = some (.int .u32 0)) ∧ ∀ W : World, (Instr.makeSlice 126 (.int .i64 (n : Int)) (.int .i64 (n : Int))).run Tryz.prog W = .ok (.slice (some ⟨W.heap.size, 0, none⟩) n n) (W.alloc (.cells ca 28)) := by
  obtain ⟨i0, hi, hz0, hz1, hz2⟩ := info_parts Tryz.info_u32
  refine ⟨madeCells #[.int .u32 0] n, fun j hj => by simp [madeCells, hj, Nat.mod_one], fun W => ?_⟩
  have h := run_make (P := Tryz.prog) W 126 28 i0 (.int .u32 0) Tryz.underlying126 hi hz0 .i64 .i64 (n : Int) (n : Int) (by omega) (Int.le_refl _) (by rw [hz2]; omega) (by omega)
  rw [hz1, show (Value.int .u32 0).cells = #[Value.int .u32 0] from rfl] at h
  simpa using h
theorem sgn_mul {n1 n2 neg : Bool} {ds es rs : List Int} (hv : bval rs = bval ds * bval es) (hn : rs ≠ [] → neg = (n1 != n2)) : sgn neg (bval rs) = sgn n1 (bval ds) * sgn n2 (bval es) := by
  by_cases h : rs = []
  · subst h
    have h0 : bval ds * bval es = 0 := hv.symm
    show sgn neg 0 = _
    rw [sgn_zero]
    rcases Int.mul_eq_zero.1 h0 with h1 | h1
    · rw [h1, sgn_zero, Int.zero_mul]
    · rw [h1, sgn_zero, Int.mul_zero]
  · rw [hn h, hv]
    cases n1 <;> cases n2 <;> simp [sgn, Int.neg_mul, Int.mul_neg]

set_option maxRecDepth 100000 in
set_option maxHeartbeats 8000000 in
theorem mul_at {w : World} {a1 a2 : Option Addr} {cp1 cp2 : Nat} {n1 n2 : Bool} {ds es : List Int} (h1 : Dig w (.slice a1 ds.length cp1) ds) (h2 : Dig w (.slice a2 es.length cp2) es) (d1 : Dg ds) (d2 : Dg es) (l1 : ds.length ≤ 4) (l2 : es.length ≤ 4) :
    Calls Tryz.prog 61 #[.agg #[.slice a1 ds.length cp1, .bool n1], .agg #[.slice a2 es.length cp2, .bool n2]] w fun e w' => ∃ z, e = .returned z ∧ IsN w' z (sgn n1 (bval ds) * sgn n2 (bval es)) 9 ∧ w.grownBy w' none := by
  obtain ⟨la, hla⟩ : ∃ la, Hid (ds.length = la) := ⟨_, hid rfl⟩
  obtain ⟨lb, hlb⟩ : ∃ lb, Hid (es.length = lb) := ⟨_, hid rfl⟩
  rw [hla.out] at h1 l1
  rw [hlb.out] at h2 l2
  rw [hla.out, hlb.out]
  have H1 := hid h1
  have H2 := hid h2
  have D1 := hid d1
  have D2 := hid d2
  clear h1 h2 d1 d2
  obtain ⟨bx, hbx⟩ : ∃ bx, Hid (w.heap.size = bx) := ⟨_, hid rfl⟩
  obtain ⟨N, hN⟩ : ∃ N, Hid (la + lb + 1 = N) := ⟨_, hid rfl⟩
  have hNn := hN.out
  obtain ⟨ca, hca, hmk⟩ := make_u32s N (by omega)
  have Hca := hid hca
  have s1 : IntKind.i64.wrap ((la : Int) + (lb : Int)) = (la : Int) + (lb : Int) := IntWalk.i64_in _ (by omega)
  have s2 : IntKind.i64.wrap ((la : Int) + (lb : Int) + 1) = (N : Int) := by rw [show ((la : Int) + (lb : Int) + 1) = (N : Int) by omega]; exact IntWalk.i64_in _ (by omega)
  obtain ⟨A, hAw⟩ : ∃ A, (((w.alloc (.cells #[.slice a1 la cp1, .bool n1] 128)).alloc (.cells #[.slice a2 lb cp2, .bool n2] 128)).alloc (.cells #[.slice none 0 0, .bool false] 128)).alloc (.cells ca 28) = A := ⟨_, rfl⟩
  have GA : Hid (w.grownBy A none) := hid (by rw [← hAw]; exact gr_alloc (gr_alloc (gr_alloc (gr_alloc (gr_refl w none) _) _) _) _)
  have F0 : Hid (A.heap[bx]? = some (.cells #[.slice a1 la cp1, .bool n1] 128 (0, 0))) := hid (by
    rw [← hAw, ← hbx.out]
    exact gr_heap (gr_alloc (gr_alloc (gr_alloc (gr_refl _ none) _) _) _) (heap_alloc_new w _) (by simp))
  have F1 : Hid (A.heap[bx + 1]? = some (.cells #[.slice a2 lb cp2, .bool n2] 128 (0, 0))) := hid (by
    rw [← hAw, ← hbx.out]
    exact gr_heap (gr_alloc (gr_alloc (gr_refl _ none) _) _) (box2 w _ _) (by simp))
  have F2 : Hid (A.heap[bx + 1 + 1]? = some (.cells #[.slice none 0 0, .bool false] 128 (0, 0))) := hid (by
    rw [← hAw, ← hbx.out]
    exact gr_heap (gr_alloc (gr_refl _ none) _) (box3 w _ _ _) (by simp))
  have F3 : Hid (A.heap[bx + 1 + 1 + 1]? = some (.cells ca 28 (0, 0))) := hid (by
    rw [← hAw, ← hbx.out]
    have := heap_alloc_new (((w.alloc (.cells #[.slice a1 la cp1, .bool n1] 128)).alloc (.cells #[.slice a2 lb cp2, .bool n2] 128)).alloc (.cells #[.slice none 0 0, .bool false] 128)) (.cells ca 28)
    simpa using this)
  have R0 : Hid (RowU A (bx + 1 + 1 + 1) (List.replicate N 0)) := hid ⟨fun j hj => by rw [nth_zeros]; exact hcell F3.out j _ (Hca.out j (by simpa using hj)), fun i => hfroz F3.out i, lt_of_block F3.out⟩
  have HZ : Hid (nth (List.replicate N 0) 0 = 0) := hid (nth_zeros _ _)
  clear hca
  go_enter Tryz.func61, Tryz.ntmps61
  go_wp2_with fail
  rw [hbx.out]
  clear hAw hmk s1 s2
  go_loopw [6] (fun vi wr => ∃ (i : Nat) (rs : List Int), vi = .int .i64 i ∧ i ≤ la ∧ Hid (RowU wr (bx + 1 + 1 + 1) rs) ∧ Hid (MulSt rs ds es i N) ∧ Hid (wr.heap[bx]? = some (.cells #[.slice a1 la cp1, .bool n1] 128 (0, 0))) ∧ Hid (wr.heap[bx + 1]? = some (.cells #[.slice a2 lb cp2, .bool n2] 128 (0, 0))) ∧ Hid (wr.heap[bx + 1 + 1]? = some (.cells #[.slice none 0 0, .bool false] 128 (0, 0))) ∧ Hid (w.grownBy wr none)) (fun vi _ => la - (intOf vi).toNat)
  case atStart => exact ⟨0, _, rfl, Nat.zero_le _, R0, hid ⟨by simp, dg_zeros N, by rw [bval_zeros]; simp [bval], fun q _ => nth_zeros _ _⟩, F0, F1, F2, GA⟩
  case round =>
    obtain ⟨i, rs, rfl, hi, HR, HM, B0, B1, B2, HG⟩ := hrel
    have c0 := big_cell B0.out 0 _ rfl
    have c1 := big_cell B0.out 1 _ rfl
    have k0 := big_cell B1.out 0 _ rfl
    have k1 := big_cell B1.out 1 _ rfl
    by_cases hlt : i < la
    · have hI : (i : Int) < (la : Int) := by omega
      clear c1 k1
      go_wp2_with fail
      go_loopw [7, 8] (fun vc vj wq => ∃ (j : Nat) (c : Int) (rs' : List Int), vj = .int .i64 j ∧ vc = .int .u32 c ∧ (0 ≤ c ∧ c < 65536) ∧ (j ≤ lb ∨ j = lb + 1 ∧ c = 0) ∧ Hid (RowU wq (bx + 1 + 1 + 1) rs') ∧ Hid (MulIn rs' es (bval (ds.take i) * bval es) (nth ds i) c i j N) ∧ Hid (wq.heap[bx]? = some (.cells #[.slice a1 la cp1, .bool n1] 128 (0, 0))) ∧ Hid (wq.heap[bx + 1]? = some (.cells #[.slice a2 lb cp2, .bool n2] 128 (0, 0))) ∧ Hid (wq.heap[bx + 1 + 1]? = some (.cells #[.slice none 0 0, .bool false] 128 (0, 0))) ∧ Hid (w.grownBy wq none)) (fun _ vj _ => lb + 1 - (intOf vj).toNat)
      case atStart => exact ⟨0, 0, rs, rfl, rfl, ⟨by omega, by omega⟩, .inl (Nat.zero_le _), HR, hid (HM.out.begin _), B0, B1, B2, HG⟩
      case round =>
        obtain ⟨j, c, rs', rfl, rfl, ⟨cl, ch⟩, hj, HR', HI, C0, C1, C2, HG'⟩ := hrel
        clear c0 k0
        have c0 := big_cell C0.out 0 _ rfl
        have k0 := big_cell C1.out 0 _ rfl
        have hgo : ((j < lb ∨ 0 < c) ∧ j ≤ lb) ∨ (lb ≤ j ∧ c = 0) := by omega
        rcases hgo with ⟨hgo, hjl⟩ | ⟨hge, rfl⟩
        · obtain ⟨b, off, cap, he, hcap, hcell⟩ := H1.out.cells (by rw [hla.out]; omega)
          injection he with he1 he2 he3
          subst he1
          have hx0 := hcell _ HG'.out i (by rw [hla.out]; exact hlt)
          have hicp : i < cp1 := by have := hla.out; omega
          have hdx := nth_dg D1.out i
          have hdy := nth_dg D2.out j
          have hdr := nth_dg HI.out.dg (i + j)
          have HB' := hid (fun m : Nat => digit_at ((H2.out.grown HG'.out).grown (gr_drewN (gr_refl wr none) m)) j)
          have hlen := HI.out.len
          have hrc := HR'.out.cell (i + j) (by rw [hlen]; omega)
          have hrf := HR'.out.froz (i + j)
          obtain ⟨x, hx⟩ : ∃ x, Hid (nth ds i = x) := ⟨_, hid rfl⟩
          obtain ⟨y, hy⟩ : ∃ y, Hid (nth es j = y) := ⟨_, hid rfl⟩
          obtain ⟨r, hr⟩ : ∃ r, Hid (nth rs' (i + j) = r) := ⟨_, hid rfl⟩
          have hz : Hid (lb ≤ j → y = 0 ∧ r = 0) := hid (fun h => ⟨by rw [← hy.out]; unfold nth; rw [List.getElem?_eq_none (by have := hlb.out; omega)]; rfl, by rw [← hr.out]; exact HI.out.zr (i + j) (by have := hlb.out; omega) (by have := hlb.out; omega)⟩)
          rw [hx.out] at hx0 hdx
          rw [hy.out] at hdy HB'
          rw [hr.out] at hrc hdr
          obtain ⟨x0, x1⟩ := hdx
          obtain ⟨y0, y1⟩ := hdy
          obtain ⟨r0, r1⟩ := hdr
          have hm0 : 0 ≤ x * y := Int.mul_nonneg x0 y0
          have hm1 : x * y ≤ 65535 * 65535 := Int.mul_le_mul (by omega) (by omega) y0 (by omega)
          obtain ⟨m, hm⟩ : ∃ m, x * y = m := ⟨_, rfl⟩
          rw [hm] at hm0 hm1
          obtain ⟨s, hs⟩ : ∃ s, m + r + c = s := ⟨_, rfl⟩
          have HS2 := hid (HI.out.step (s := s) (by have := hlb.out; omega) (show i + j < N by omega) hy.out hr.out (by rw [hx.out, hm]; exact hs))
          obtain ⟨dd, hdd⟩ : ∃ d, s % 65536 = d := ⟨_, rfl⟩
          obtain ⟨c', hc'⟩ : ∃ c', s / 65536 = c' := ⟨_, rfl⟩
          rw [hdd, hc'] at HS2
          have hcn : (0 ≤ c' ∧ c' < 65536) ∧ (j + 1 ≤ lb ∨ j + 1 = lb + 1 ∧ c' = 0) := by
            refine ⟨by omega, ?_⟩
            by_cases h : lb ≤ j
            · obtain ⟨e1, e2⟩ := hz.out h
              subst e1 e2
              rw [Int.mul_zero] at hm
              omega
            · omega
          have Hcn := hid hcn
          have t1 : IntKind.u64.wrap x = x := by rw [IntKind.wrap_u64]; omega
          have t2 : IntKind.u64.wrap y = y := by rw [IntKind.wrap_u64]; omega
          have t3 : IntKind.u64.wrap (x * y) = m := by rw [hm, IntKind.wrap_u64]; omega
          have t4 : IntKind.u64.wrap r = r := by rw [IntKind.wrap_u64]; omega
          have t5 : IntKind.u64.wrap (m + r) = m + r := by rw [IntKind.wrap_u64]; omega
          have t6 : IntKind.u64.wrap c = c := by rw [IntKind.wrap_u64]; omega
          have t7 : IntKind.u64.wrap (m + r + c) = s := by rw [hs, IntKind.wrap_u64]; omega
          have t8 : IntKind.i64.wrap ((i : Int) + (j : Int)) = (i : Int) + (j : Int) := IntWalk.i64_in _ (by omega)
          have t9 : s.tmod 65536 = dd := by rw [Int.tmod_eq_emod_of_nonneg (by omega), hdd]
          have t10 : IntKind.u64.wrap (s.tdiv 65536) = c' := by rw [Int.tdiv_eq_ediv_of_nonneg (by omega), hc', IntKind.wrap_u64]; omega
          have t11 : c' % 4294967296 = c' := by omega
          have t12 : dd % 4294967296 = dd := by omega
          have u1 : ((i : Int) + (j : Int)).toNat = i + j := by omega
          have u2 : (0 : Int) ≤ (i : Int) + (j : Int) := by omega
          have u3 : (i : Int) + (j : Int) < (N : Int) := by omega
          clear hcell he2 he3 hcn hs hm hdd hc' hlen
          have hgg : j < lb ∨ lb ≤ j := by omega
          rcases hgg with hgg | hgg
          · have hJ : (j : Int) < (lb : Int) := by omega
            clear hgo
            go_wp2_with fail
            go_quiet ((go_at_call 107; exact Calls.quiet_of_same (HB'.out _)))
            obtain ⟨w5, hw5⟩ : ∃ w5, wr.drewN nq = w5 := ⟨_, rfl⟩
            have G5 : Hid (wr.grownBy w5 none) := hid (hw5 ▸ gr_drewN (gr_refl wr none) nq)
            have HR5 : Hid (RowU w5 (bx + 1 + 1 + 1) rs') := hid (hw5 ▸ HR'.out.drewN nq)
            have hlen := HI.out.len
            have hrc5 := HR5.out.cell (i + j) (by rw [hlen]; omega)
            rw [hr.out] at hrc5
            have hrf5 := HR5.out.froz (i + j)
            have HRp := hid (HR5.out.put (q := i + j) (v := dd) (by rw [hlen]; omega))
            have HG5 := hid (gr_trans HG'.out G5.out)
            have E0 := hid (duo_other (gr_heap G5.out C0.out (by simp)) (show bx ≠ bx + 1 + 1 + 1 by omega) (i + j) (.int .u32 dd))
            have E1 := hid (duo_other (gr_heap G5.out C1.out (by simp)) (show bx + 1 ≠ bx + 1 + 1 + 1 by omega) (i + j) (.int .u32 dd))
            have E2 := hid (duo_other (gr_heap G5.out C2.out (by simp)) (show bx + 1 + 1 ≠ bx + 1 + 1 + 1 by omega) (i + j) (.int .u32 dd))
            have HG6 := hid (gr_setNew HG5.out (k := bx + 1 + 1 + 1) (by have := hbx.out; omega) (i + j) (.int .u32 dd))
            rw [hw5]
            clear hw5 hlen hx0 c0 k0 hrc hrf
            go_wp2_with fail
            go_roundw
            case rel => exact ⟨j + 1, c', rs'.set (i + j) dd, by go_num, rfl, Hcn.out.1, Hcn.out.2, HRp, HS2, E0, E1, E2, HG6⟩
            case measure => simp [intOf]; omega
          · have hJ : ¬((j : Int) < (lb : Int)) := by omega
            have hC : (0 : Int) < c := by omega
            clear hgo
            go_wp2_with fail
            go_quiet ((go_at_call 107; exact Calls.quiet_of_same (HB'.out _)))
            obtain ⟨w5, hw5⟩ : ∃ w5, wr.drewN nq = w5 := ⟨_, rfl⟩
            have G5 : Hid (wr.grownBy w5 none) := hid (hw5 ▸ gr_drewN (gr_refl wr none) nq)
            have HR5 : Hid (RowU w5 (bx + 1 + 1 + 1) rs') := hid (hw5 ▸ HR'.out.drewN nq)
            have hlen := HI.out.len
            have hrc5 := HR5.out.cell (i + j) (by rw [hlen]; omega)
            rw [hr.out] at hrc5
            have hrf5 := HR5.out.froz (i + j)
            have HRp := hid (HR5.out.put (q := i + j) (v := dd) (by rw [hlen]; omega))
            have HG5 := hid (gr_trans HG'.out G5.out)
            have E0 := hid (duo_other (gr_heap G5.out C0.out (by simp)) (show bx ≠ bx + 1 + 1 + 1 by omega) (i + j) (.int .u32 dd))
            have E1 := hid (duo_other (gr_heap G5.out C1.out (by simp)) (show bx + 1 ≠ bx + 1 + 1 + 1 by omega) (i + j) (.int .u32 dd))
            have E2 := hid (duo_other (gr_heap G5.out C2.out (by simp)) (show bx + 1 + 1 ≠ bx + 1 + 1 + 1 by omega) (i + j) (.int .u32 dd))
            have HG6 := hid (gr_setNew HG5.out (k := bx + 1 + 1 + 1) (by have := hbx.out; omega) (i + j) (.int .u32 dd))
            rw [hw5]
            clear hw5 hlen hx0 c0 k0 hrc hrf
            go_wp2_with fail
            go_roundw
            case rel => exact ⟨j + 1, c', rs'.set (i + j) dd, by go_num, rfl, Hcn.out.1, Hcn.out.2, HRp, HS2, E0, E1, E2, HG6⟩
            case measure => simp [intOf]; omega
        · have HE := hid (HI.out.end (by rw [hlb.out]; exact hge) rfl)
          have hJ : ¬((j : Int) < (lb : Int)) := by omega
          go_wp2_with fail
          go_roundw
          case rel => exact ⟨i + 1, rs', by go_num, by omega, HR', HE, C0, C1, C2, HG'⟩
          case measure => simp [intOf]; omega
    · obtain rfl : i = la := by omega
      clear hlt
      have hv : bval rs = bval ds * bval es := by
        have := HM.out.val
        rwa [List.take_of_length_le (by rw [hla.out]; exact Nat.le_refl _)] at this
      have hrl : rs.length = N := HM.out.len
      have HRd := hid (HR.out.dig)
      rw [hrl] at HRd
      have HRg := hid HM.out.dg
      have HVv := hid hv
      have HRl := hid hrl
      clear hv hrl
      go_wp2_with fail
      refine (trim_any (n1 != n2) HRd.out HRg.out (by rw [HRl.out]; omega)).mono ?_
      rintro e w5 ⟨x', ts, neg', rfl, hw, hb, hl, hneg, g5⟩
      obtain ⟨v', rfl, hv'⟩ := hw.ex
      obtain ⟨a', cap', rfl⟩ := hv'.slice
      have F5 := gr_heap g5 B2.out (by simp)
      have e0 := big_cell F5 0 _ rfl
      have e1 := big_cell F5 1 _ rfl
      have e0f := big_froz F5 0
      have e1f := big_froz F5 1
      have Hw := hid hw
      have Hr := hid (sgn_mul (hb.trans HVv.out) hneg)
      have G5 := hid (gr_trans HG.out g5)
      have F6 := hid F5
      have hl9 : ts.length ≤ 9 := by have := HRl.out; omega
      clear hw hb hneg g5 F5 hv' hl
      go_wp2_with fail
      refine bodyPost_ret (v := .agg #[.slice a' ts.length cap', .bool neg']) ?_ rfl ⟨_, rfl, ⟨neg', ts, wide_store Hw.out F6.out _ _ _ _, Hr.out, hl9⟩, ?_⟩
      · simp [results, Tryz.results61, go_sem, e0, e1]
      · exact gr_setNew (gr_setNew G5.out (by have := hbx.out; omega) 0 _) (by have := hbx.out; omega) 1 _

theorem mul_any {w : World} {x y : Value} {n m : Int} (hx : IsN w x n 4) (hy : IsN w y m 4) :
    Calls Tryz.prog 61 #[x, y] w fun e w' => ∃ z, e = .returned z ∧ IsN w' z (n * m) 9 ∧ w.grownBy w' none := by
  obtain ⟨n1, ds, hw1, rfl, l1⟩ := hx
  obtain ⟨n2, es, hw2, rfl, l2⟩ := hy
  obtain ⟨v1, rfl, h1⟩ := hw1.ex
  obtain ⟨v2, rfl, h2⟩ := hw2.ex
  obtain ⟨a1, cp1, rfl⟩ := h1.slice
  obtain ⟨a2, cp2, rfl⟩ := h2.slice
  exact mul_at h1 h2 hw1.dg hw2.dg l1 l2
theorem floor_at {w : World} {x y : Value} {n c : Int} (hx : IsN w x n 9) (hy : IsN w y c 4) (hc : 0 < c) :
    Calls Tryz.prog 60 #[x, y] w fun e w' => ∃ z, e = .returned z ∧ IsN w' z (n / c) 900 ∧ w.grownBy w' none := by
  obtain ⟨n1, ds, hw1, e1, l1⟩ := hx
  obtain ⟨n2, cs, hw2, e2, l2⟩ := hy
  obtain ⟨v1, rfl, h1⟩ := hw1.ex
  obtain ⟨v2, rfl, h2⟩ := hw2.ex
  obtain ⟨a1, cp1, rfl⟩ := h1.slice
  obtain ⟨a2, cp2, rfl⟩ := h2.slice
  have h0 := bval_nonneg hw2.dg
  have hcc : bval cs = c := by
    unfold sgn at e2
    split at e2
    · omega
    · exact e2
  have := floor_any h1 h2 hw1.dg hw2.dg hw2.trm (by omega) (by omega) n e1 (n2 := n2)
  rwa [hcc] at this

set_option maxRecDepth 100000 in
set_option maxHeartbeats 1000000 in
theorem rmuldiv_any {w : World} {a b c : Int} (ha : -9223372036854775808 ≤ a ∧ a ≤ 9223372036854775807) (hb : -9223372036854775808 ≤ b ∧ b ≤ 9223372036854775807) (hc : 0 < c ∧ c ≤ 9223372036854775807) (hr : -9223372036854775808 ≤ a * b / c ∧ a * b / c ≤ 9223372036854775807) :
    Calls Tryz.prog 21 #[.int .i64 a, .int .i64 b, .int .i64 c] w fun e w' => e = .returned (.tuple #[.int .i64 (a * b / c), .int .i64 0]) ∧ w.grownBy w' none := by
  obtain ⟨r, hr0⟩ : ∃ r, Hid (a * b / c = r) := ⟨_, hid rfl⟩
  rw [hr0.out] at hr
  rw [hr0.out]
  have HA := hid ha
  have HB := hid hb
  have HC := hid hc
  have HR := hid hr
  have hc0 : ¬ c ≤ 0 := by omega
  clear ha hb hr hc
  go_enter Tryz.func21, Tryz.ntmps21
  go_wp2_with fail
  refine (of_any HA.out).mono ?_
  rintro e w1 ⟨x1, rfl, h1, g1⟩
  have H1 := hid h1
  have G1 := hid g1
  clear h1 g1
  go_wp2_with fail
  refine (of_any HB.out).mono ?_
  rintro e w2 ⟨x2, rfl, h2, g2⟩
  have H2 := hid h2
  have H12 := hid (H1.out.grown g2)
  have G2 := hid (gr_trans G1.out g2)
  clear h2 g2
  go_wp2_with fail
  refine (mul_any H12.out H2.out).mono ?_
  rintro e w3 ⟨x3, rfl, h3, g3⟩
  have H3 := hid h3
  have G3 := hid (gr_trans G2.out g3)
  clear h3 g3
  go_wp2_with fail
  refine (of_any (n := c) ⟨by have := HC.out; omega, HC.out.2⟩).mono ?_
  rintro e w4 ⟨x4, rfl, h4, g4⟩
  have H4 := hid h4
  have H34 := hid (H3.out.grown g4)
  have G4 := hid (gr_trans G3.out g4)
  clear h4 g4
  go_wp2_with fail
  refine (floor_at H34.out H4.out HC.out.1).mono ?_
  rintro e w5 ⟨x5, rfl, h5, g5⟩
  have H5 := hid h5
  rw [hr0.out] at H5
  have G5 := hid (gr_trans G4.out g5)
  clear h5 g5
  go_wp2_with fail
  refine (int_any H5.out HR.out).mono ?_
  rintro e w6 ⟨rfl, g6⟩
  have G6 := hid (gr_trans G5.out g6)
  clear g6
  go_wp2_with fail
  go_ret2
  exact ⟨rfl, G6.out⟩
end Go.Proofs.YtckoaeoecjphiaaGreat

/- What the laws' walks share (a copy of RLaw1's beginning, for a claim of its own). -/
namespace Go.Proofs.YtckoaeoecjphiaaGreat
open Go.RowKit Go.Lib

theorem slice_frm' {n₀ : Nat} {W : World} {sv : Value} {k n : Nat} {f : Nat → Nat → Value} (h : SliceAt n₀ W sv k n f) : ∃ a c, sv = .slice a n c := by
  rcases h with ⟨a, c, rfl, h0⟩ | ⟨_, _, c, rfl, _⟩
  · exact ⟨_, _, by rw [h0]⟩
  · exact ⟨_, _, rfl⟩
theorem told_grown {W W' : World} {R : Rd} {vs vb vh va : Value} (h : ToldAt W R vs vb vh va) (g : W.grownBy W' none) : ToldAt W' R vs vb vh va := told_kept h g (fun q hq => by cases hq) (fun q hq => by cases hq) (fun q hq => by cases hq) (fun q hq => by cases hq)
abbrev LawPost (w : World) : Ending → World → Prop := fun e w' => e = .returned (.bool true) ∧ w.grownBy w' none
end Go.Proofs.YtckoaeoecjphiaaGreat

/- RoundSpreads: the walk. -/
namespace Go.Proofs.YtckoaeoecjphiaaGreat
open Go.RowKit Go.Lib

theorem floor04_wild (a : Int) : ∃ n : Int, ∀ w : World, Calls Tryz.prog 94 #[.int .i64 a, .int .i64 1000000000] w fun e w' => e = .returned (.int .i64 n) ∧ w' = w := by
  by_cases h : a.tmod 1000000000 < 0
  · refine ⟨wrap64 (IntKind.i64.wrap (a.tdiv 1000000000) - 1), fun w => ?_⟩
    obtain ⟨q, hq⟩ : ∃ q, IntKind.i64.wrap (a.tdiv 1000000000) = q := ⟨_, rfl⟩
    rw [hq]
    go_enter Tryz.func94, Tryz.ntmps94
    go_wp2
    go_ret
    exact ⟨rfl, rfl⟩
  · refine ⟨IntKind.i64.wrap (a.tdiv 1000000000), fun w => ?_⟩
    have h2 : 0 ≤ a.tmod 1000000000 := by omega
    obtain ⟨q, hq⟩ : ∃ q, IntKind.i64.wrap (a.tdiv 1000000000) = q := ⟨_, rfl⟩
    rw [hq]
    go_enter Tryz.func94, Tryz.ntmps94
    go_wp2
    go_ret
    exact ⟨rfl, rfl⟩
noncomputable def floorN (a : Int) : Int := (floor04_wild a).choose
theorem floorN_at (a : Int) (w : World) : Calls Tryz.prog 94 #[.int .i64 a, .int .i64 1000000000] w fun e w' => e = .returned (.int .i64 (floorN a)) ∧ w' = w := (floor04_wild a).choose_spec w
theorem rat_wild (m ba r t : Int) (w : World) :
    Calls Tryz.prog 48 #[rclk m ba r, .int .i64 t] w fun e w' => (∃ n : Int, e = .returned (.int .i64 n)) ∧ w.grownBy w' none := by
  go_enter Tryz.func48, Tryz.ntmps48
  go_wp2_with fail
  go_quiet ((go_at_call 94; exact Calls.quiet_of_same (floorN_at _ _)))
  go_wp2_with fail
  go_ret
  exact ⟨⟨_, rfl⟩, gr_drewN (gr_alloc (gr_refl w none) _) _⟩
theorem rnow_wild (m ba r t : Int) (w : World) :
    Calls Tryz.prog 19 #[rclk m ba r, .int .i64 t] w fun e w' => (∃ n er : Int, e = .returned (.tuple #[.int .i64 n, .int .i64 er])) ∧ w.grownBy w' none := by
  cases h : nowB m t with
  | false => exact (rnow_bad m ba r t w h).mono fun e w' ⟨h1, h2⟩ => ⟨⟨_, _, h1⟩, h2⟩
  | true =>
    have h' : realB t = true ∧ m ≤ t := by simpa [nowB] using h
    obtain ⟨hr, hmt⟩ := h'
    clear h
    have Hr := hid hr; clear hr
    go_enter Tryz.func19, Tryz.ntmps19
    go_wp2_with (go_at_call 56; refine (rreal_at t _ _ Hr).mono ?_; rintro e w' ⟨rfl, rfl⟩)
    refine (rat_wild m ba r t _).mono ?_
    rintro e w' ⟨⟨n, rfl⟩, hg⟩
    go_wp2_with fail
    go_ret2
    exact ⟨⟨_, _, rfl⟩, gr_trans (gr_alloc (gr_refl w none) _) hg⟩

/-- How far it has come: of k clocks. -/
structure SprSt (l : List Ck) (t : Int) (k : Nat) (g : Bool) (lo hi : Int) : Prop where
  good : g = (decide (0 < l.length) && (l.all newC && (List.range k).all fun j => nowB (nthC l j).m t))
  ends : g = true → 0 < k → lo = minL (upto (fun j => (nthC l j).at_ t) k) ∧ hi = maxL (upto (fun j => (nthC l j).at_ t) k)
theorem SprSt.begin (l : List Ck) (t : Int) : SprSt l t 0 (decide (0 < l.length) && l.all newC) 0 0 := ⟨by simp, fun _ h => absurd h (Nat.lt_irrefl 0)⟩
theorem SprSt.bad {l : List Ck} {t : Int} {k : Nat} {g : Bool} {lo hi : Int} (h : SprSt l t k g lo hi) (hb : g = false ∨ nowB (nthC l k).m t = false) (lo' hi' : Int) : SprSt l t (k + 1) false lo' hi' := by
  refine ⟨?_, fun e => by cases e⟩
  rw [List.range_succ, List.all_append]
  rcases hb with hb | hb
  · rw [hb] at h
    have h1 := h.good
    cases hx : (decide (0 < l.length) && l.all newC) with
    | false =>
      rw [← Bool.and_assoc, hx]
      rfl
    | true =>
      rw [← Bool.and_assoc, hx, Bool.true_and] at h1
      rw [← h1]
      simp
  · simp [hb]
theorem SprSt.step {l : List Ck} {t : Int} {k : Nat} {lo hi : Int} (h : SprSt l t k true lo hi) (hn : nowB (nthC l k).m t = true) {x : Int} (hx : (nthC l k).at_ t = x) : SprSt l t (k + 1) true (if k = 0 then x else min lo x) (if k = 0 then x else max hi x) := by
  refine ⟨?_, fun _ _ => ?_⟩
  · rw [List.range_succ, List.all_append]
    have h1 := h.good
    rw [← Bool.and_assoc] at h1 ⊢
    simp only [List.all_cons, List.all_nil, Bool.and_true, hn]
    exact h1
  · rw [upto_succ, hx]
    by_cases hk : k = 0
    · subst hk
      rw [if_pos rfl, if_pos rfl]
      exact ⟨rfl, rfl⟩
    · rw [if_neg hk, if_neg hk]
      have hne : upto (fun j => (nthC l j).at_ t) k ≠ [] := by
        intro e
        have := upto_length (fun j => (nthC l j).at_ t) k
        rw [e] at this
        simp at this
        omega
      obtain ⟨h1, h2⟩ := h.ends rfl (by omega)
      rw [minL_snoc _ _ hne, maxL_snoc _ _ hne, ← h1, ← h2]
      exact ⟨rfl, rfl⟩
theorem SprSt.end {l : List Ck} {t : Int} {g : Bool} {lo hi : Int} (h : SprSt l t l.length g lo hi) : g = spreadB l t ∧ (g = true → spreadV l t = hi - lo) := by
  have e : (List.range l.length).all (fun j => nowB (nthC l j).m t) = l.all fun k => nowB k.m t := by
    rw [Bool.eq_iff_iff, List.all_eq_true, List.all_eq_true]
    constructor
    · intro hh x hx
      obtain ⟨j, hj, rfl⟩ := List.getElem_of_mem hx
      have := hh j (List.mem_range.2 hj)
      rwa [nthC_get hj] at this
    · intro hh j hj
      exact hh _ (nthC_mem (List.mem_range.1 hj))
  have hg : g = spreadB l t := by rw [h.good, e]; rfl
  refine ⟨hg, fun ht => ?_⟩
  have hb : spreadB l t = true := by rw [← hg]; exact ht
  have h0 : 0 < l.length := by
    unfold spreadB at hb
    simp only [Bool.and_eq_true, decide_eq_true_eq] at hb
    exact hb.1
  obtain ⟨h1, h2⟩ := h.ends ht h0
  unfold spreadV
  rw [if_pos hb, h1, h2, upto_shown]

set_option maxRecDepth 1000000 in
set_option maxHeartbeats 1000000 in
theorem rspr_any (d : Net) (vd ve vl sv : Value) (l : List Ck) (y : Ls) (t0 rho far : Int) (w : World) (hN : NetAt w.heap.size w d vd ve vl) (hs : CksAt w.heap.size w sv l) (hz : l.length * 24 ≤ 140737488351232) :
    Calls Tryz.prog 5 #[cfV d.cf vd ve vl, .agg #[sv, .int .u32 (y.u0 : Int), .int .u32 (y.u1 : Int), .int .u32 (y.w0 : Int), .int .u32 (y.w1 : Int)], .agg #[.int .i64 t0, .int .i64 rho, .int .i64 far]] w (LawPost w) := by
  have HN := hid hN
  have HS := hid hs
  have Hz := hid hz
  obtain ⟨a, cap, rfl⟩ := ckslice hs
  obtain ⟨n, hn⟩ : ∃ n, Hid (l.length = n) := ⟨_, hid rfl⟩
  obtain ⟨x0, x1, x2, x3⟩ := y
  obtain ⟨⟨ho, C, de, wi, pr, qu⟩, hcf⟩ : ∃ c, Hid (d.cf = c) := ⟨_, hid rfl⟩
  rw [hn.out, hcf.out]
  rw [hn.out] at HS
  have hnz : n * 24 ≤ 140737488351232 := by rw [← hn.out]; exact hz
  clear hN hs hz
  obtain ⟨bx, hbx⟩ : ∃ bx, Hid (w.heap.size = bx) := ⟨_, hid rfl⟩
  have G0 := hid (gr_alloc (gr_alloc (gr_alloc (gr_refl w none) (.cells #[.int .i64 ho, .int .i64 C, .int .i64 de, .int .i64 wi, .int .i64 pr, vd, ve, vl, .int .i64 qu] 26)) (.cells #[.slice a n cap, .int .u32 (x0 : Int), .int .u32 (x1 : Int), .int .u32 (x2 : Int), .int .u32 (x3 : Int)] 33)) (.cells #[.int .i64 t0, .int .i64 rho, .int .i64 far] 58))
  have B0 := hid (gr_heap (gr_alloc (gr_alloc (gr_refl _ none) (.cells #[.slice a n cap, .int .u32 (x0 : Int), .int .u32 (x1 : Int), .int .u32 (x2 : Int), .int .u32 (x3 : Int)] 33)) (.cells #[.int .i64 t0, .int .i64 rho, .int .i64 far] 58)) (heap_alloc_new w (.cells #[.int .i64 ho, .int .i64 C, .int .i64 de, .int .i64 wi, .int .i64 pr, vd, ve, vl, .int .i64 qu] 26)) (by simp))
  have B1 := hid (gr_heap (gr_alloc (gr_refl _ none) (.cells #[.int .i64 t0, .int .i64 rho, .int .i64 far] 58)) (box2 w (.cells #[.int .i64 ho, .int .i64 C, .int .i64 de, .int .i64 wi, .int .i64 pr, vd, ve, vl, .int .i64 qu] 26) (.cells #[.slice a n cap, .int .u32 (x0 : Int), .int .u32 (x1 : Int), .int .u32 (x2 : Int), .int .u32 (x3 : Int)] 33)) (by simp))
  have B2 := hid (box3 w (.cells #[.int .i64 ho, .int .i64 C, .int .i64 de, .int .i64 wi, .int .i64 pr, vd, ve, vl, .int .i64 qu] 26) (.cells #[.slice a n cap, .int .u32 (x0 : Int), .int .u32 (x1 : Int), .int .u32 (x2 : Int), .int .u32 (x3 : Int)] 33) (.cells #[.int .i64 t0, .int .i64 rho, .int .i64 far] 58))
  rw [hbx.out] at B0 B1 B2
  have HCK : Hid (∀ W : World, w.grownBy W none → CksAt W.heap.size W (.slice a n cap) l) := hid (fun W g => (SliceAt.grown HS.out g).wider g.size)
  have HNt : Hid (∀ W : World, w.grownBy W none → NetAt W.heap.size W d vd ve vl) := hid (fun W g => HN.out.later g)
  obtain ⟨SB, hSB⟩ : ∃ x, Hid (spreadB l t0 = x) := ⟨_, hid rfl⟩
  obtain ⟨SV, hSV⟩ : ∃ x, Hid (spreadV l t0 = x) := ⟨_, hid rfl⟩
  have HSp : Hid (∀ W : World, w.grownBy W none → Calls Tryz.prog 17 #[.slice a n cap, .int .i64 t0] W fun e w' => e = .returned (.tuple #[.int .i64 SV, .bool SB]) ∧ W.grownBy w' none) := hid (fun W g => by
    have H := spread_any (.slice a n cap) l t0 W (HCK.out _ g) Hz.out
    rw [hSB.out, hSV.out] at H
    exact H)
  have HOf : Hid (∀ W : World, w.grownBy W none → Calls Tryz.prog 12 #[.slice a n cap] W fun e w' => ∃ v, e = .returned v ∧ Hid (CksAt w'.heap.size w' v l) ∧ W.grownBy w' none) := hid (fun W g => (lawof_any _ l W (HCK.out _ g) Hz.out).mono fun e w' ⟨v, h1, h2, h3⟩ => ⟨v, h1, hid h2, h3⟩)
  obtain ⟨NB, hNB⟩ : ∃ x, Hid (l.all newC = x) := ⟨_, hid rfl⟩
  have HCl : Hid (∀ (W : World) (v : Value), CksAt W.heap.size W v l → Calls Tryz.prog 18 #[v] W fun e w' => e = .returned (.bool NB) ∧ W.grownBy w' none) := hid (fun W v hc => by
    have H := rclocks_any v l W hc Hz.out
    rw [hNB.out] at H
    exact H)
  have HBg : Hid (SprSt l t0 0 (decide (0 < n) && NB) 0 0) := hid (by rw [← hn.out, ← hNB.out]; exact SprSt.begin l t0)
  have HEn : Hid (∀ g lo hi, SprSt l t0 n g lo hi → g = SB ∧ (g = true → SV = hi - lo) ∧ (g = false → SV = 0)) := hid (fun g lo hi h => by
    rw [← hn.out] at h
    obtain ⟨h1, h2⟩ := h.end
    rw [hSB.out] at h1
    rw [hSV.out] at h2
    refine ⟨h1, h2, fun hf => ?_⟩
    rw [← hSV.out]
    unfold spreadV
    rw [hSB.out, ← h1, hf]
    simp)
  have HNew : Hid (NB = true → ∀ j, j < n → (nthC l j).ok) := hid (fun h j hj => newC_ok (List.all_eq_true.1 (hNB.out.trans h) _ (nthC_mem (by rw [hn.out]; exact hj))))
  have HGd : Hid (∀ k g lo hi, SprSt l t0 k g lo hi → g = true → NB = true) := hid (fun k g lo hi h hg => by
    have h1 := h.good
    rw [hg, hNB.out] at h1
    have h2 := h1.symm
    simp only [Bool.and_eq_true] at h2
    exact h2.2.1)
  go_enter Tryz.func5, Tryz.ntmps5
  go_wp2_with fail
  rw [hbx.out]
  refine (fixed_true _).mono ?_
  rintro e w1 ⟨rfl, g1⟩
  have C0 := hid (gr_heap g1 B0.out (by simp))
  have C1 := hid (gr_heap g1 B1.out (by simp))
  have C2 := hid (gr_heap g1 B2.out (by simp))
  have G1 := hid (gr_trans G0.out g1)
  clear g1 G0 B0 B1 B2
  have j0 := hcell C1.out 0 _ rfl
  have i0 := hcell C2.out 0 _ rfl
  go_wp2_with fail
  refine (HSp.out _ G1.out).mono ?_
  rintro e w2 ⟨rfl, g2⟩
  have G2 := hid (gr_trans G1.out g2)
  have H12 := hid g2
  clear g2 j0 i0
  have j0 := hcell (gr_heap H12.out C1.out (by simp)) 0 _ rfl
  go_wp2_with fail
  refine (HOf.out _ G2.out).mono ?_
  rintro e w3 ⟨v, rfl, HV, g3⟩
  have H13 := hid (gr_trans H12.out g3)
  clear g3 j0
  obtain ⟨av, cv, e0⟩ := slice_frm' HV.out
  rw [hn.out] at e0
  subst e0
  have HSVb : Hid (-9223372036854775808 ≤ SV ∧ SV ≤ 9223372036854775807) := hid (by
    rw [← hSV.out]
    unfold spreadV
    split
    · rename_i hb
      have hne : shownL l t0 ≠ [] := by
        intro e
        have h1 := shownL_len l t0
        rw [e] at h1
        unfold spreadB at hb
        simp only [Bool.and_eq_true, decide_eq_true_eq] at hb
        simp at h1
        omega
      have b1 := shown_bd hb _ (maxL_mem _ hne)
      have b2 := shown_bd hb _ (minL_mem _ hne)
      omega
    · omega)
  have Hn24 := hid hnz
  clear hnz
  by_cases hn0 : 0 < n
  · have hnI : (0 : Int) < (n : Int) := by omega
    have HCl3 := hid (HCl.out w3 _ HV.out)
    go_wp2_with fail
    refine HCl3.out.mono ?_
    rintro e wL ⟨rfl, g4⟩
    have HL := hid (gr_trans H13.out g4)
    have HVL := hid g4
    rw [decide_eq_true hn0, Bool.true_and] at HBg
    clear g4 hnI
    go_wp2_with fail
    go_loopw [10, 11, 12, 46] (fun vg vlo vhi vi wr => ∃ (k : Nat) (g : Bool) (lo hi : Int), vi = .int .i64 k ∧ k ≤ n ∧ vg = .bool g ∧ vlo = .int .i64 lo ∧ vhi = .int .i64 hi ∧ Hid (SprSt l t0 k g lo hi) ∧ Hid (wL.grownBy wr none)) (fun _ _ _ vi _ => n - (intOf vi).toNat)
    case atStart => exact ⟨0, _, 0, 0, rfl, Nat.zero_le _, rfl, rfl, rfl, HBg, hid (gr_refl wL none)⟩
    case round =>
      obtain ⟨k, g, lo, hi, rfl, hk, rfl, rfl, rfl, HQ, HG⟩ := hrel
      have HX := hid (gr_trans HL.out HG.out)
      have GX := hid (gr_trans G1.out HX.out)
      by_cases hlt : k < n
      · have hk2 : (k : Int) < (n : Int) := by omega
        have hk24 : k * 24 ≤ 140737488351232 := by have := Hn24.out; omega
        obtain ⟨vb, vo, hV1⟩ : ∃ b off, Hid (av = some ⟨b, off, none⟩ ∧ n ≤ cv ∧ wr.cell? ⟨b, off + k * 3, none⟩ = some (.int .i64 (nthC l k).m) ∧ wr.cell? ⟨b, off + k * 3 + 1, none⟩ = some (.int .i64 (nthC l k).b) ∧ wr.cell? ⟨b, off + k * 3 + 2, none⟩ = some (.int .i64 (nthC l k).r)) := by
          rcases HV.out with ⟨_, _, _, h0⟩ | ⟨b, off, c, e, h1, _, hf⟩
          · have := hn.out; omega
          · injection e with e5 e6 e7
            have hkl : k < l.length := by rw [hn.out]; exact hlt
            have gg := gr_trans HVL.out HG.out
            exact ⟨b, off, hid ⟨e5, by have := hn.out; omega, gr_cell gg (hf k hkl 0 (by omega)), gr_cell gg (hf k hkl 1 (by omega)), gr_cell gg (hf k hkl 2 (by omega))⟩⟩
        obtain ⟨rfl, hcv, p0, p1, p2⟩ := hV1.out
        have hkc : k < cv := by omega
        have HOk := hid (fun h : NB = true => HNew.out h k hlt)
        have HGk := hid (HGd.out k g lo hi HQ.out)
        have HBa := hid (fun h lo' hi' => HQ.out.bad (l := l) (t := t0) h lo' hi')
        obtain ⟨⟨km, kb, kr⟩, hkk⟩ : ∃ z, Hid (nthC l k = z) := ⟨_, hid rfl⟩
        have HSt : Hid (g = true → nowB km t0 = true → ∀ x, clockAt km kb kr t0 = x → SprSt l t0 (k + 1) true (if k = 0 then x else min lo x) (if k = 0 then x else max hi x)) := hid (fun hg hn x hx => by
          have h1 := HQ.out
          rw [hg] at h1
          exact h1.step (by rw [hkk.out]; exact hn) (by rw [hkk.out]; exact hx))
        rw [hkk.out] at p0 p1 p2 HOk HBa
        dsimp only at p0 p1 p2 HOk HBa
        have GB := hid (gr_alloc (gr_refl wr none) (.cells #[.int .i64 km, .int .i64 kb, .int .i64 kr] 61))
        have HXB := hid (gr_trans HX.out GB.out)
        have i0 := hcell (gr_heap HXB.out C2.out (by simp)) 0 _ rfl
        by_cases hk0 : k = 0
        · subst hk0
          simp only [Nat.zero_mul, Nat.add_zero] at p0 p1 p2
          cases hg : g with
          | true =>
            have hNB := HGk.out hg
            have hok := HOk.out hNB
            by_cases hnow : nowB km t0 = true
            · obtain ⟨x, hx⟩ : ∃ x, Hid (clockAt km kb kr t0 = x) := ⟨_, hid rfl⟩
              have HS2 := hid (HSt.out hg hnow x hx.out)
              have HNw := hid (rnow_ok km kb kr t0 x (wr.alloc (.cells #[.int .i64 km, .int .i64 kb, .int .i64 kr] 61)) hok hnow hx)
              clear hnow hok hNB hg
              go_wp2_with fail
              refine HNw.out.mono ?_
              rintro e w9 ⟨rfl, g9⟩
              have HG9 := hid (gr_trans HG.out (gr_trans GB.out g9))
              clear g9 p0 p1 p2 i0
              go_wp2_with fail
              go_roundw
              case rel => exact ⟨1, true, _, _, by go_num, by omega, rfl, rfl, rfl, by first | exact HS2 | (rw [if_neg hk0, if_neg hk0] at HS2; exact HS2), HG9⟩
              case measure => simp [intOf]; omega
            · have hnf : nowB km t0 = false := Bool.eq_false_iff.2 hnow
              have HS2 := hid (fun lo' hi' => HBa.out (.inr hnf) lo' hi')
              have HNw := hid (rnow_bad km kb kr t0 (wr.alloc (.cells #[.int .i64 km, .int .i64 kb, .int .i64 kr] 61)) hnf)
              clear hnow hnf hok hNB hg
              go_wp2_with fail
              refine HNw.out.mono ?_
              rintro e w9 ⟨rfl, g9⟩
              have HG9 := hid (gr_trans HG.out (gr_trans GB.out g9))
              clear g9 p0 p1 p2 i0
              go_wp2_with fail
              go_roundw
              case rel => exact ⟨1, false, _, _, by go_num, by omega, rfl, rfl, rfl, hid (HS2.out _ _), HG9⟩
              case measure => simp [intOf]; omega
          | false =>
            have HS2 := hid (fun lo' hi' => HBa.out (.inl hg) lo' hi')
            have HNw := hid (rnow_wild km kb kr t0 (wr.alloc (.cells #[.int .i64 km, .int .i64 kb, .int .i64 kr] 61)))
            clear hg
            go_wp2_with fail
            refine HNw.out.mono ?_
            rintro e w9 ⟨⟨x, er, rfl⟩, g9⟩
            have HG9 := hid (gr_trans HG.out (gr_trans GB.out g9))
            clear g9 p0 p1 p2 i0
            go_wp2_with fail
            go_roundw
            case rel => exact ⟨1, false, _, _, by go_num, by omega, rfl, rfl, rfl, hid (HS2.out _ _), HG9⟩
            case measure => simp [intOf]; omega
        · have hk0' : ((k : Int) == 0) = false := by simp; omega
          cases hg : g with
          | true =>
            have hNB := HGk.out hg
            have hok := HOk.out hNB
            by_cases hnow : nowB km t0 = true
            · obtain ⟨x, hx⟩ : ∃ x, Hid (clockAt km kb kr t0 = x) := ⟨_, hid rfl⟩
              have HS2 := hid (HSt.out hg hnow x hx.out)
              have HNw := hid (rnow_ok km kb kr t0 x (wr.alloc (.cells #[.int .i64 km, .int .i64 kb, .int .i64 kr] 61)) hok hnow hx)
              clear hnow hok hNB hg
              go_wp2_with fail
              refine HNw.out.mono ?_
              rintro e w9 ⟨rfl, g9⟩
              have HG9 := hid (gr_trans HG.out (gr_trans GB.out g9))
              clear g9 p0 p1 p2 i0
              go_wp2_with fail
              go_roundw
              case rel => exact ⟨k + 1, true, _, _, by go_num, by omega, rfl, rfl, rfl, by first | exact HS2 | (rw [if_neg hk0, if_neg hk0] at HS2; exact HS2), HG9⟩
              case measure => simp [intOf]; omega
            · have hnf : nowB km t0 = false := Bool.eq_false_iff.2 hnow
              have HS2 := hid (fun lo' hi' => HBa.out (.inr hnf) lo' hi')
              have HNw := hid (rnow_bad km kb kr t0 (wr.alloc (.cells #[.int .i64 km, .int .i64 kb, .int .i64 kr] 61)) hnf)
              clear hnow hnf hok hNB hg
              go_wp2_with fail
              refine HNw.out.mono ?_
              rintro e w9 ⟨rfl, g9⟩
              have HG9 := hid (gr_trans HG.out (gr_trans GB.out g9))
              clear g9 p0 p1 p2 i0
              go_wp2_with fail
              go_roundw
              case rel => exact ⟨k + 1, false, _, _, by go_num, by omega, rfl, rfl, rfl, hid (HS2.out _ _), HG9⟩
              case measure => simp [intOf]; omega
          | false =>
            have HS2 := hid (fun lo' hi' => HBa.out (.inl hg) lo' hi')
            have HNw := hid (rnow_wild km kb kr t0 (wr.alloc (.cells #[.int .i64 km, .int .i64 kb, .int .i64 kr] 61)))
            clear hg
            go_wp2_with fail
            refine HNw.out.mono ?_
            rintro e w9 ⟨⟨x, er, rfl⟩, g9⟩
            have HG9 := hid (gr_trans HG.out (gr_trans GB.out g9))
            clear g9 p0 p1 p2 i0
            go_wp2_with fail
            go_roundw
            case rel => exact ⟨k + 1, false, _, _, by go_num, by omega, rfl, rfl, rfl, hid (HS2.out _ _), HG9⟩
            case measure => simp [intOf]; omega
      · obtain rfl : k = n := by omega
        clear hlt
        have HEz := HEn.out g lo hi HQ.out
        have HD0 := hid (gr_heap HX.out C0.out (by simp))
        have HD2 := gr_heap HX.out C2.out (by simp)
        have i1 := hcell HD2 1 _ rfl
        have i2 := hcell HD2 2 _ rfl
        clear HD2
        cases SB with
        | true =>
          have hsv : SV = hi - lo := HEz.2.1 HEz.1
          have hgt : g = true := HEz.1
          subst hgt
          have hw1 : IntKind.i64.wrap (hi - lo) = SV := by rw [← hsv]; exact IntWalk.i64_in _ (by have := HSVb.out; omega)
          clear hsv HEz
          go_wp2_with fail
          go_quiet (fail)
          obtain ⟨w8, hw8⟩ : ∃ w8, wr.drewN nq = w8 := ⟨_, rfl⟩
          have H8 : Hid (wr.grownBy w8 none) := hid (hw8 ▸ gr_drewN (gr_refl wr none) nq)
          rw [hw8]
          clear hw8 i1 i2
          have G8 := hid (gr_trans GX.out H8.out)
          have HC0 := gr_heap H8.out HD0.out (by simp)
          have HC0h := hid HC0
          have k0 := hcell HC0 0 _ rfl
          have k1 := hcell HC0 1 _ rfl
          have k2 := hcell HC0 2 _ rfl
          have k3 := hcell HC0 3 _ rfl
          have k4 := hcell HC0 4 _ rfl
          have k5 := hcell HC0 5 _ rfl
          have k6 := hcell HC0 6 _ rfl
          have k7 := hcell HC0 7 _ rfl
          have k8 := hcell HC0 8 _ rfl
          clear HC0
          go_wp2_with fail
          by_cases hok : checkZ d = 0 ∧ (0 ≤ rho ∧ rho ≤ 1000000) ∧ (0 ≤ far ∧ far ≤ 2147483648)
          · obtain ⟨hck, ⟨r0, r1⟩, ⟨f0, f1⟩⟩ := hok
            have hde : 0 ≤ de ∧ de ≤ 1048576 := by
              have h1 := (spansZ_bd (check_cy hck).1).2.1
              rw [hcf.out] at h1
              exact h1
            obtain ⟨d0, d1⟩ := hde
            have HBd : Hid (Calls Tryz.prog 20 #[(.agg #[.int .i64 ho, .int .i64 C, .int .i64 de, .int .i64 wi, .int .i64 pr, vd, ve, vl, .int .i64 qu]), .int .i64 rho, .int .i64 far] w8 fun e w' => e = .returned (.int .i64 (boundZ de rho far)) ∧ w8.grownBy w' none) := hid (by
              have H := bound_ok d vd ve vl rho far w8 (HNt.out _ G8.out) hck ⟨r0, r1⟩ ⟨f0, f1⟩
              rw [hcf.out] at H
              exact H)
            have HCh : Hid (∀ W : World, w.grownBy W none → Calls Tryz.prog 16 #[(.agg #[.int .i64 ho, .int .i64 C, .int .i64 de, .int .i64 wi, .int .i64 pr, vd, ve, vl, .int .i64 qu])] W fun e w' => e = .returned (.int .i64 0) ∧ W.grownBy w' none) := hid (fun W g => by
              have H := rcheck_any d vd ve vl W (HNt.out W g)
              rw [hck, hcf.out] at H
              exact H)
            have hP0 : 0 ≤ 2 * de * rho ∧ 2 * de * rho ≤ 2097152 * 1000000 := ⟨Int.mul_nonneg (by omega) r0, Int.mul_le_mul (by omega) r1 r0 (by omega)⟩
            have hQ0 : 0 ≤ far * rho ∧ far * rho ≤ 2147483648 * 1000000 := ⟨Int.mul_nonneg f0 r0, Int.mul_le_mul f1 r1 r0 (by omega)⟩
            have HM1 : Hid (∀ W : World, Calls Tryz.prog 21 #[.int .i64 (2 * de), .int .i64 rho, .int .i64 1000000000] W fun e w' => e = .returned (.tuple #[.int .i64 (2 * de * rho / 1000000000), .int .i64 0]) ∧ W.grownBy w' none) := hid (fun W => rmuldiv_any ⟨by omega, by omega⟩ ⟨by omega, by omega⟩ ⟨by omega, by omega⟩ ⟨by omega, by omega⟩)
            have HM2 : Hid (∀ W : World, Calls Tryz.prog 21 #[.int .i64 far, .int .i64 rho, .int .i64 1000000000] W fun e w' => e = .returned (.tuple #[.int .i64 (far * rho / 1000000000), .int .i64 0]) ∧ W.grownBy w' none) := hid (fun W => rmuldiv_any ⟨by omega, by omega⟩ ⟨by omega, by omega⟩ ⟨by omega, by omega⟩ ⟨by omega, by omega⟩)
            have HBe : Hid (boundZ de rho far = 2 * (2 * de * rho / 1000000000) + 2 * (far * rho / 1000000000) + 10) := hid (by unfold boundZ; omega)
            rw [HBe.out] at HBd
            have hPb : 0 ≤ 2 * de * rho / 1000000000 ∧ 2 * de * rho / 1000000000 ≤ 4194304 := by omega
            have hQb : 0 ≤ far * rho / 1000000000 ∧ far * rho / 1000000000 ≤ 4294967296 := by omega
            obtain ⟨P, hP⟩ : ∃ P, 2 * de * rho / 1000000000 = P := ⟨_, rfl⟩
            obtain ⟨Q, hQ⟩ : ∃ Q, far * rho / 1000000000 = Q := ⟨_, rfl⟩
            rw [hP] at HM1 HBd hPb
            rw [hQ] at HM2 HBd hQb
            obtain ⟨p0, p1⟩ := hPb
            obtain ⟨q0, q1⟩ := hQb
            have s1 : IntKind.i64.wrap (2 * de) = 2 * de := IntWalk.i64_in _ (by omega)
            have s2 : IntKind.i64.wrap (2 * P) = 2 * P := IntWalk.i64_in _ (by omega)
            have s3 : IntKind.i64.wrap (2 * Q) = 2 * Q := IntWalk.i64_in _ (by omega)
            have s4 : IntKind.i64.wrap (2 * P + 2 * Q) = 2 * P + 2 * Q := IntWalk.i64_in _ (by omega)
            have s5 : IntKind.i64.wrap (2 * P + 2 * Q + 10) = 2 * P + 2 * Q + 10 := IntWalk.i64_in _ (by omega)
            clear hP hQ hP0 hQ0 HBe hck
            refine HBd.out.mono ?_
            rintro e w9 ⟨rfl, g9⟩
            have G9 := hid (gr_trans G8.out g9)
            have HC0 := gr_heap g9 HC0h.out (by simp)
            clear g9 k0 k1 k2 k3 k4 k5 k6 k7 k8
            have HC9 := hid HC0
            have k0 := hcell HC0 0 _ rfl
            have k1 := hcell HC0 1 _ rfl
            have k2 := hcell HC0 2 _ rfl
            have k3 := hcell HC0 3 _ rfl
            have k4 := hcell HC0 4 _ rfl
            have k5 := hcell HC0 5 _ rfl
            have k6 := hcell HC0 6 _ rfl
            have k7 := hcell HC0 7 _ rfl
            have k8 := hcell HC0 8 _ rfl
            clear HC0
            go_wp2_with fail
            refine (HCh.out _ G9.out).mono ?_
            rintro e wa ⟨rfl, ga⟩
            have Ga := hid (gr_trans G9.out ga)
            have HCa := hid (gr_heap ga HC9.out (by simp))
            clear ga k0 k1 k2 k3 k4 k5 k6 k7 k8
            have n1 : ¬ rho < 0 := by omega
            have n2 : ¬ 1000000 < rho := by omega
            have n3 : ¬ far < 0 := by omega
            have n4 : ¬ 2147483648 < far := by omega
            have k2 := hcell HCa.out 2 _ rfl
            go_wp2_with fail
            refine (HM1.out _).mono ?_
            rintro e wb ⟨rfl, gb⟩
            have Gb := hid (gr_trans Ga.out gb)
            clear gb k2
            go_wp2_with fail
            refine (HM2.out _).mono ?_
            rintro e wc ⟨rfl, gc⟩
            have Gc := hid (gr_trans Gb.out gc)
            clear gc
            go_wp2_with fail
            go_ret
            exact ⟨by simp, Gc.out⟩
          · have hbad : checkZ d ≠ 0 ∨ rho < 0 ∨ 1000000 < rho ∨ far < 0 ∨ 2147483648 < far := by
              by_cases hc0 : checkZ d = 0
              · have : ¬((0 ≤ rho ∧ rho ≤ 1000000) ∧ (0 ≤ far ∧ far ≤ 2147483648)) := fun h => hok ⟨hc0, h⟩
                omega
              · exact .inl hc0
            have HBd : Hid (Calls Tryz.prog 20 #[(.agg #[.int .i64 ho, .int .i64 C, .int .i64 de, .int .i64 wi, .int .i64 pr, vd, ve, vl, .int .i64 qu]), .int .i64 rho, .int .i64 far] w8 fun e w' => e = .returned (.int .i64 0) ∧ w8.grownBy w' none) := hid (by
              have H := bound_bad d vd ve vl rho far w8 (HNt.out _ G8.out) hbad
              rw [hcf.out] at H
              exact H)
            obtain ⟨v0, hv0⟩ : ∃ v, Hid (checkZ d = v) := ⟨_, hid rfl⟩
            have HCh : Hid (∀ W : World, w.grownBy W none → Calls Tryz.prog 16 #[(.agg #[.int .i64 ho, .int .i64 C, .int .i64 de, .int .i64 wi, .int .i64 pr, vd, ve, vl, .int .i64 qu])] W fun e w' => e = .returned (.int .i64 v0) ∧ W.grownBy w' none) := hid (fun W g => by
              have H := rcheck_any d vd ve vl W (HNt.out W g)
              rw [hv0.out, hcf.out] at H
              exact H)
            rw [hv0.out] at hbad
            clear hok
            refine HBd.out.mono ?_
            rintro e w9 ⟨rfl, g9⟩
            have G9 := hid (gr_trans G8.out g9)
            have HC0 := gr_heap g9 HC0h.out (by simp)
            clear g9 k0 k1 k2 k3 k4 k5 k6 k7 k8
            have HC9 := hid HC0
            have k0 := hcell HC0 0 _ rfl
            have k1 := hcell HC0 1 _ rfl
            have k2 := hcell HC0 2 _ rfl
            have k3 := hcell HC0 3 _ rfl
            have k4 := hcell HC0 4 _ rfl
            have k5 := hcell HC0 5 _ rfl
            have k6 := hcell HC0 6 _ rfl
            have k7 := hcell HC0 7 _ rfl
            have k8 := hcell HC0 8 _ rfl
            clear HC0
            go_wp2_with fail
            refine (HCh.out _ G9.out).mono ?_
            rintro e wa ⟨rfl, ga⟩
            have Ga := hid (gr_trans G9.out ga)
            clear ga k0 k1 k2 k3 k4 k5 k6 k7 k8
            by_cases hz0 : v0 = 0
            · subst hz0
              have hbad2 := hbad.resolve_left (fun h => h rfl)
              clear hbad
              by_cases m1 : rho < 0
              · go_wp2_with fail
                go_ret
                exact ⟨rfl, Ga.out⟩
              · by_cases m2 : 1000000 < rho
                · go_wp2_with fail
                  go_ret
                  exact ⟨rfl, Ga.out⟩
                · by_cases m3 : far < 0
                  · go_wp2_with fail
                    go_ret
                    exact ⟨rfl, Ga.out⟩
                  · have m4 : 2147483648 < far := by omega
                    go_wp2_with fail
                    go_ret
                    exact ⟨rfl, Ga.out⟩
            · have hvb : (v0 != 0) = true := by simpa using hz0
              clear hbad
              go_wp2_with fail
              go_ret
              exact ⟨rfl, Ga.out⟩
        | false =>
          have hgt : g = false := HEz.1
          subst hgt
          have hsv : SV = 0 := HEz.2.2 rfl
          subst hsv
          clear HEz
          go_wp2_with fail
          go_quiet (fail)
          obtain ⟨w8, hw8⟩ : ∃ w8, wr.drewN nq = w8 := ⟨_, rfl⟩
          have H8 : Hid (wr.grownBy w8 none) := hid (hw8 ▸ gr_drewN (gr_refl wr none) nq)
          rw [hw8]
          clear hw8 i1 i2
          have G8 := hid (gr_trans GX.out H8.out)
          have HC0 := gr_heap H8.out HD0.out (by simp)
          have HC0h := hid HC0
          have k0 := hcell HC0 0 _ rfl
          have k1 := hcell HC0 1 _ rfl
          have k2 := hcell HC0 2 _ rfl
          have k3 := hcell HC0 3 _ rfl
          have k4 := hcell HC0 4 _ rfl
          have k5 := hcell HC0 5 _ rfl
          have k6 := hcell HC0 6 _ rfl
          have k7 := hcell HC0 7 _ rfl
          have k8 := hcell HC0 8 _ rfl
          clear HC0
          go_wp2_with fail
          by_cases hok : checkZ d = 0 ∧ (0 ≤ rho ∧ rho ≤ 1000000) ∧ (0 ≤ far ∧ far ≤ 2147483648)
          · obtain ⟨hck, ⟨r0, r1⟩, ⟨f0, f1⟩⟩ := hok
            have hde : 0 ≤ de ∧ de ≤ 1048576 := by
              have h1 := (spansZ_bd (check_cy hck).1).2.1
              rw [hcf.out] at h1
              exact h1
            obtain ⟨d0, d1⟩ := hde
            have HBd : Hid (Calls Tryz.prog 20 #[(.agg #[.int .i64 ho, .int .i64 C, .int .i64 de, .int .i64 wi, .int .i64 pr, vd, ve, vl, .int .i64 qu]), .int .i64 rho, .int .i64 far] w8 fun e w' => e = .returned (.int .i64 (boundZ de rho far)) ∧ w8.grownBy w' none) := hid (by
              have H := bound_ok d vd ve vl rho far w8 (HNt.out _ G8.out) hck ⟨r0, r1⟩ ⟨f0, f1⟩
              rw [hcf.out] at H
              exact H)
            have HCh : Hid (∀ W : World, w.grownBy W none → Calls Tryz.prog 16 #[(.agg #[.int .i64 ho, .int .i64 C, .int .i64 de, .int .i64 wi, .int .i64 pr, vd, ve, vl, .int .i64 qu])] W fun e w' => e = .returned (.int .i64 0) ∧ W.grownBy w' none) := hid (fun W g => by
              have H := rcheck_any d vd ve vl W (HNt.out W g)
              rw [hck, hcf.out] at H
              exact H)
            have hP0 : 0 ≤ 2 * de * rho ∧ 2 * de * rho ≤ 2097152 * 1000000 := ⟨Int.mul_nonneg (by omega) r0, Int.mul_le_mul (by omega) r1 r0 (by omega)⟩
            have hQ0 : 0 ≤ far * rho ∧ far * rho ≤ 2147483648 * 1000000 := ⟨Int.mul_nonneg f0 r0, Int.mul_le_mul f1 r1 r0 (by omega)⟩
            have HM1 : Hid (∀ W : World, Calls Tryz.prog 21 #[.int .i64 (2 * de), .int .i64 rho, .int .i64 1000000000] W fun e w' => e = .returned (.tuple #[.int .i64 (2 * de * rho / 1000000000), .int .i64 0]) ∧ W.grownBy w' none) := hid (fun W => rmuldiv_any ⟨by omega, by omega⟩ ⟨by omega, by omega⟩ ⟨by omega, by omega⟩ ⟨by omega, by omega⟩)
            have HM2 : Hid (∀ W : World, Calls Tryz.prog 21 #[.int .i64 far, .int .i64 rho, .int .i64 1000000000] W fun e w' => e = .returned (.tuple #[.int .i64 (far * rho / 1000000000), .int .i64 0]) ∧ W.grownBy w' none) := hid (fun W => rmuldiv_any ⟨by omega, by omega⟩ ⟨by omega, by omega⟩ ⟨by omega, by omega⟩ ⟨by omega, by omega⟩)
            have HBe : Hid (boundZ de rho far = 2 * (2 * de * rho / 1000000000) + 2 * (far * rho / 1000000000) + 10) := hid (by unfold boundZ; omega)
            rw [HBe.out] at HBd
            have hPb : 0 ≤ 2 * de * rho / 1000000000 ∧ 2 * de * rho / 1000000000 ≤ 4194304 := by omega
            have hQb : 0 ≤ far * rho / 1000000000 ∧ far * rho / 1000000000 ≤ 4294967296 := by omega
            obtain ⟨P, hP⟩ : ∃ P, 2 * de * rho / 1000000000 = P := ⟨_, rfl⟩
            obtain ⟨Q, hQ⟩ : ∃ Q, far * rho / 1000000000 = Q := ⟨_, rfl⟩
            rw [hP] at HM1 HBd hPb
            rw [hQ] at HM2 HBd hQb
            obtain ⟨p0, p1⟩ := hPb
            obtain ⟨q0, q1⟩ := hQb
            have s1 : IntKind.i64.wrap (2 * de) = 2 * de := IntWalk.i64_in _ (by omega)
            have s2 : IntKind.i64.wrap (2 * P) = 2 * P := IntWalk.i64_in _ (by omega)
            have s3 : IntKind.i64.wrap (2 * Q) = 2 * Q := IntWalk.i64_in _ (by omega)
            have s4 : IntKind.i64.wrap (2 * P + 2 * Q) = 2 * P + 2 * Q := IntWalk.i64_in _ (by omega)
            have s5 : IntKind.i64.wrap (2 * P + 2 * Q + 10) = 2 * P + 2 * Q + 10 := IntWalk.i64_in _ (by omega)
            clear hP hQ hP0 hQ0 HBe hck
            refine HBd.out.mono ?_
            rintro e w9 ⟨rfl, g9⟩
            have G9 := hid (gr_trans G8.out g9)
            have HC0 := gr_heap g9 HC0h.out (by simp)
            clear g9 k0 k1 k2 k3 k4 k5 k6 k7 k8
            have HC9 := hid HC0
            have k0 := hcell HC0 0 _ rfl
            have k1 := hcell HC0 1 _ rfl
            have k2 := hcell HC0 2 _ rfl
            have k3 := hcell HC0 3 _ rfl
            have k4 := hcell HC0 4 _ rfl
            have k5 := hcell HC0 5 _ rfl
            have k6 := hcell HC0 6 _ rfl
            have k7 := hcell HC0 7 _ rfl
            have k8 := hcell HC0 8 _ rfl
            clear HC0
            go_wp2_with fail
            refine (HCh.out _ G9.out).mono ?_
            rintro e wa ⟨rfl, ga⟩
            have Ga := hid (gr_trans G9.out ga)
            have HCa := hid (gr_heap ga HC9.out (by simp))
            clear ga k0 k1 k2 k3 k4 k5 k6 k7 k8
            have n1 : ¬ rho < 0 := by omega
            have n2 : ¬ 1000000 < rho := by omega
            have n3 : ¬ far < 0 := by omega
            have n4 : ¬ 2147483648 < far := by omega
            have k2 := hcell HCa.out 2 _ rfl
            go_wp2_with fail
            refine (HM1.out _).mono ?_
            rintro e wb ⟨rfl, gb⟩
            have Gb := hid (gr_trans Ga.out gb)
            clear gb k2
            go_wp2_with fail
            refine (HM2.out _).mono ?_
            rintro e wc ⟨rfl, gc⟩
            have Gc := hid (gr_trans Gb.out gc)
            clear gc
            go_wp2_with fail
            go_ret
            exact ⟨by simp, Gc.out⟩
          · have hbad : checkZ d ≠ 0 ∨ rho < 0 ∨ 1000000 < rho ∨ far < 0 ∨ 2147483648 < far := by
              by_cases hc0 : checkZ d = 0
              · have : ¬((0 ≤ rho ∧ rho ≤ 1000000) ∧ (0 ≤ far ∧ far ≤ 2147483648)) := fun h => hok ⟨hc0, h⟩
                omega
              · exact .inl hc0
            have HBd : Hid (Calls Tryz.prog 20 #[(.agg #[.int .i64 ho, .int .i64 C, .int .i64 de, .int .i64 wi, .int .i64 pr, vd, ve, vl, .int .i64 qu]), .int .i64 rho, .int .i64 far] w8 fun e w' => e = .returned (.int .i64 0) ∧ w8.grownBy w' none) := hid (by
              have H := bound_bad d vd ve vl rho far w8 (HNt.out _ G8.out) hbad
              rw [hcf.out] at H
              exact H)
            obtain ⟨v0, hv0⟩ : ∃ v, Hid (checkZ d = v) := ⟨_, hid rfl⟩
            have HCh : Hid (∀ W : World, w.grownBy W none → Calls Tryz.prog 16 #[(.agg #[.int .i64 ho, .int .i64 C, .int .i64 de, .int .i64 wi, .int .i64 pr, vd, ve, vl, .int .i64 qu])] W fun e w' => e = .returned (.int .i64 v0) ∧ W.grownBy w' none) := hid (fun W g => by
              have H := rcheck_any d vd ve vl W (HNt.out W g)
              rw [hv0.out, hcf.out] at H
              exact H)
            rw [hv0.out] at hbad
            clear hok
            refine HBd.out.mono ?_
            rintro e w9 ⟨rfl, g9⟩
            have G9 := hid (gr_trans G8.out g9)
            have HC0 := gr_heap g9 HC0h.out (by simp)
            clear g9 k0 k1 k2 k3 k4 k5 k6 k7 k8
            have HC9 := hid HC0
            have k0 := hcell HC0 0 _ rfl
            have k1 := hcell HC0 1 _ rfl
            have k2 := hcell HC0 2 _ rfl
            have k3 := hcell HC0 3 _ rfl
            have k4 := hcell HC0 4 _ rfl
            have k5 := hcell HC0 5 _ rfl
            have k6 := hcell HC0 6 _ rfl
            have k7 := hcell HC0 7 _ rfl
            have k8 := hcell HC0 8 _ rfl
            clear HC0
            go_wp2_with fail
            refine (HCh.out _ G9.out).mono ?_
            rintro e wa ⟨rfl, ga⟩
            have Ga := hid (gr_trans G9.out ga)
            clear ga k0 k1 k2 k3 k4 k5 k6 k7 k8
            by_cases hz0 : v0 = 0
            · subst hz0
              have hbad2 := hbad.resolve_left (fun h => h rfl)
              clear hbad
              by_cases m1 : rho < 0
              · go_wp2_with fail
                go_ret
                exact ⟨rfl, Ga.out⟩
              · by_cases m2 : 1000000 < rho
                · go_wp2_with fail
                  go_ret
                  exact ⟨rfl, Ga.out⟩
                · by_cases m3 : far < 0
                  · go_wp2_with fail
                    go_ret
                    exact ⟨rfl, Ga.out⟩
                  · have m4 : 2147483648 < far := by omega
                    go_wp2_with fail
                    go_ret
                    exact ⟨rfl, Ga.out⟩
            · have hvb : (v0 != 0) = true := by simpa using hz0
              clear hbad
              go_wp2_with fail
              go_ret
              exact ⟨rfl, Ga.out⟩
  · have hnI : ¬ (0 : Int) < (n : Int) := by omega
    rw [decide_eq_false hn0, Bool.false_and] at HBg
    obtain ⟨wL, hwL⟩ : ∃ wL, wL = w3 := ⟨_, rfl⟩
    subst hwL
    have HL := hid H13.out
    have HVL := hid (gr_refl wL none)
    go_wp2_with fail
    go_loopw [10, 11, 12, 46] (fun vg vlo vhi vi wr => ∃ (k : Nat) (g : Bool) (lo hi : Int), vi = .int .i64 k ∧ k ≤ n ∧ vg = .bool g ∧ vlo = .int .i64 lo ∧ vhi = .int .i64 hi ∧ Hid (SprSt l t0 k g lo hi) ∧ Hid (wL.grownBy wr none)) (fun _ _ _ vi _ => n - (intOf vi).toNat)
    case atStart => exact ⟨0, _, 0, 0, rfl, Nat.zero_le _, rfl, rfl, rfl, HBg, hid (gr_refl wL none)⟩
    case round =>
      obtain ⟨k, g, lo, hi, rfl, hk, rfl, rfl, rfl, HQ, HG⟩ := hrel
      have HX := hid (gr_trans HL.out HG.out)
      have GX := hid (gr_trans G1.out HX.out)
      by_cases hlt : k < n
      · exfalso; omega
      · obtain rfl : k = n := by omega
        clear hlt
        have HEz := HEn.out g lo hi HQ.out
        have HD0 := hid (gr_heap HX.out C0.out (by simp))
        have HD2 := gr_heap HX.out C2.out (by simp)
        have i1 := hcell HD2 1 _ rfl
        have i2 := hcell HD2 2 _ rfl
        clear HD2
        cases SB with
        | true =>
          have hsv : SV = hi - lo := HEz.2.1 HEz.1
          have hgt : g = true := HEz.1
          subst hgt
          have hw1 : IntKind.i64.wrap (hi - lo) = SV := by rw [← hsv]; exact IntWalk.i64_in _ (by have := HSVb.out; omega)
          clear hsv HEz
          go_wp2_with fail
          go_quiet (fail)
          obtain ⟨w8, hw8⟩ : ∃ w8, wr.drewN nq = w8 := ⟨_, rfl⟩
          have H8 : Hid (wr.grownBy w8 none) := hid (hw8 ▸ gr_drewN (gr_refl wr none) nq)
          rw [hw8]
          clear hw8 i1 i2
          have G8 := hid (gr_trans GX.out H8.out)
          have HC0 := gr_heap H8.out HD0.out (by simp)
          have HC0h := hid HC0
          have k0 := hcell HC0 0 _ rfl
          have k1 := hcell HC0 1 _ rfl
          have k2 := hcell HC0 2 _ rfl
          have k3 := hcell HC0 3 _ rfl
          have k4 := hcell HC0 4 _ rfl
          have k5 := hcell HC0 5 _ rfl
          have k6 := hcell HC0 6 _ rfl
          have k7 := hcell HC0 7 _ rfl
          have k8 := hcell HC0 8 _ rfl
          clear HC0
          go_wp2_with fail
          by_cases hok : checkZ d = 0 ∧ (0 ≤ rho ∧ rho ≤ 1000000) ∧ (0 ≤ far ∧ far ≤ 2147483648)
          · obtain ⟨hck, ⟨r0, r1⟩, ⟨f0, f1⟩⟩ := hok
            have hde : 0 ≤ de ∧ de ≤ 1048576 := by
              have h1 := (spansZ_bd (check_cy hck).1).2.1
              rw [hcf.out] at h1
              exact h1
            obtain ⟨d0, d1⟩ := hde
            have HBd : Hid (Calls Tryz.prog 20 #[(.agg #[.int .i64 ho, .int .i64 C, .int .i64 de, .int .i64 wi, .int .i64 pr, vd, ve, vl, .int .i64 qu]), .int .i64 rho, .int .i64 far] w8 fun e w' => e = .returned (.int .i64 (boundZ de rho far)) ∧ w8.grownBy w' none) := hid (by
              have H := bound_ok d vd ve vl rho far w8 (HNt.out _ G8.out) hck ⟨r0, r1⟩ ⟨f0, f1⟩
              rw [hcf.out] at H
              exact H)
            have HCh : Hid (∀ W : World, w.grownBy W none → Calls Tryz.prog 16 #[(.agg #[.int .i64 ho, .int .i64 C, .int .i64 de, .int .i64 wi, .int .i64 pr, vd, ve, vl, .int .i64 qu])] W fun e w' => e = .returned (.int .i64 0) ∧ W.grownBy w' none) := hid (fun W g => by
              have H := rcheck_any d vd ve vl W (HNt.out W g)
              rw [hck, hcf.out] at H
              exact H)
            have hP0 : 0 ≤ 2 * de * rho ∧ 2 * de * rho ≤ 2097152 * 1000000 := ⟨Int.mul_nonneg (by omega) r0, Int.mul_le_mul (by omega) r1 r0 (by omega)⟩
            have hQ0 : 0 ≤ far * rho ∧ far * rho ≤ 2147483648 * 1000000 := ⟨Int.mul_nonneg f0 r0, Int.mul_le_mul f1 r1 r0 (by omega)⟩
            have HM1 : Hid (∀ W : World, Calls Tryz.prog 21 #[.int .i64 (2 * de), .int .i64 rho, .int .i64 1000000000] W fun e w' => e = .returned (.tuple #[.int .i64 (2 * de * rho / 1000000000), .int .i64 0]) ∧ W.grownBy w' none) := hid (fun W => rmuldiv_any ⟨by omega, by omega⟩ ⟨by omega, by omega⟩ ⟨by omega, by omega⟩ ⟨by omega, by omega⟩)
            have HM2 : Hid (∀ W : World, Calls Tryz.prog 21 #[.int .i64 far, .int .i64 rho, .int .i64 1000000000] W fun e w' => e = .returned (.tuple #[.int .i64 (far * rho / 1000000000), .int .i64 0]) ∧ W.grownBy w' none) := hid (fun W => rmuldiv_any ⟨by omega, by omega⟩ ⟨by omega, by omega⟩ ⟨by omega, by omega⟩ ⟨by omega, by omega⟩)
            have HBe : Hid (boundZ de rho far = 2 * (2 * de * rho / 1000000000) + 2 * (far * rho / 1000000000) + 10) := hid (by unfold boundZ; omega)
            rw [HBe.out] at HBd
            have hPb : 0 ≤ 2 * de * rho / 1000000000 ∧ 2 * de * rho / 1000000000 ≤ 4194304 := by omega
            have hQb : 0 ≤ far * rho / 1000000000 ∧ far * rho / 1000000000 ≤ 4294967296 := by omega
            obtain ⟨P, hP⟩ : ∃ P, 2 * de * rho / 1000000000 = P := ⟨_, rfl⟩
            obtain ⟨Q, hQ⟩ : ∃ Q, far * rho / 1000000000 = Q := ⟨_, rfl⟩
            rw [hP] at HM1 HBd hPb
            rw [hQ] at HM2 HBd hQb
            obtain ⟨p0, p1⟩ := hPb
            obtain ⟨q0, q1⟩ := hQb
            have s1 : IntKind.i64.wrap (2 * de) = 2 * de := IntWalk.i64_in _ (by omega)
            have s2 : IntKind.i64.wrap (2 * P) = 2 * P := IntWalk.i64_in _ (by omega)
            have s3 : IntKind.i64.wrap (2 * Q) = 2 * Q := IntWalk.i64_in _ (by omega)
            have s4 : IntKind.i64.wrap (2 * P + 2 * Q) = 2 * P + 2 * Q := IntWalk.i64_in _ (by omega)
            have s5 : IntKind.i64.wrap (2 * P + 2 * Q + 10) = 2 * P + 2 * Q + 10 := IntWalk.i64_in _ (by omega)
            clear hP hQ hP0 hQ0 HBe hck
            refine HBd.out.mono ?_
            rintro e w9 ⟨rfl, g9⟩
            have G9 := hid (gr_trans G8.out g9)
            have HC0 := gr_heap g9 HC0h.out (by simp)
            clear g9 k0 k1 k2 k3 k4 k5 k6 k7 k8
            have HC9 := hid HC0
            have k0 := hcell HC0 0 _ rfl
            have k1 := hcell HC0 1 _ rfl
            have k2 := hcell HC0 2 _ rfl
            have k3 := hcell HC0 3 _ rfl
            have k4 := hcell HC0 4 _ rfl
            have k5 := hcell HC0 5 _ rfl
            have k6 := hcell HC0 6 _ rfl
            have k7 := hcell HC0 7 _ rfl
            have k8 := hcell HC0 8 _ rfl
            clear HC0
            go_wp2_with fail
            refine (HCh.out _ G9.out).mono ?_
            rintro e wa ⟨rfl, ga⟩
            have Ga := hid (gr_trans G9.out ga)
            have HCa := hid (gr_heap ga HC9.out (by simp))
            clear ga k0 k1 k2 k3 k4 k5 k6 k7 k8
            have n1 : ¬ rho < 0 := by omega
            have n2 : ¬ 1000000 < rho := by omega
            have n3 : ¬ far < 0 := by omega
            have n4 : ¬ 2147483648 < far := by omega
            have k2 := hcell HCa.out 2 _ rfl
            go_wp2_with fail
            refine (HM1.out _).mono ?_
            rintro e wb ⟨rfl, gb⟩
            have Gb := hid (gr_trans Ga.out gb)
            clear gb k2
            go_wp2_with fail
            refine (HM2.out _).mono ?_
            rintro e wc ⟨rfl, gc⟩
            have Gc := hid (gr_trans Gb.out gc)
            clear gc
            go_wp2_with fail
            go_ret
            exact ⟨by simp, Gc.out⟩
          · have hbad : checkZ d ≠ 0 ∨ rho < 0 ∨ 1000000 < rho ∨ far < 0 ∨ 2147483648 < far := by
              by_cases hc0 : checkZ d = 0
              · have : ¬((0 ≤ rho ∧ rho ≤ 1000000) ∧ (0 ≤ far ∧ far ≤ 2147483648)) := fun h => hok ⟨hc0, h⟩
                omega
              · exact .inl hc0
            have HBd : Hid (Calls Tryz.prog 20 #[(.agg #[.int .i64 ho, .int .i64 C, .int .i64 de, .int .i64 wi, .int .i64 pr, vd, ve, vl, .int .i64 qu]), .int .i64 rho, .int .i64 far] w8 fun e w' => e = .returned (.int .i64 0) ∧ w8.grownBy w' none) := hid (by
              have H := bound_bad d vd ve vl rho far w8 (HNt.out _ G8.out) hbad
              rw [hcf.out] at H
              exact H)
            obtain ⟨v0, hv0⟩ : ∃ v, Hid (checkZ d = v) := ⟨_, hid rfl⟩
            have HCh : Hid (∀ W : World, w.grownBy W none → Calls Tryz.prog 16 #[(.agg #[.int .i64 ho, .int .i64 C, .int .i64 de, .int .i64 wi, .int .i64 pr, vd, ve, vl, .int .i64 qu])] W fun e w' => e = .returned (.int .i64 v0) ∧ W.grownBy w' none) := hid (fun W g => by
              have H := rcheck_any d vd ve vl W (HNt.out W g)
              rw [hv0.out, hcf.out] at H
              exact H)
            rw [hv0.out] at hbad
            clear hok
            refine HBd.out.mono ?_
            rintro e w9 ⟨rfl, g9⟩
            have G9 := hid (gr_trans G8.out g9)
            have HC0 := gr_heap g9 HC0h.out (by simp)
            clear g9 k0 k1 k2 k3 k4 k5 k6 k7 k8
            have HC9 := hid HC0
            have k0 := hcell HC0 0 _ rfl
            have k1 := hcell HC0 1 _ rfl
            have k2 := hcell HC0 2 _ rfl
            have k3 := hcell HC0 3 _ rfl
            have k4 := hcell HC0 4 _ rfl
            have k5 := hcell HC0 5 _ rfl
            have k6 := hcell HC0 6 _ rfl
            have k7 := hcell HC0 7 _ rfl
            have k8 := hcell HC0 8 _ rfl
            clear HC0
            go_wp2_with fail
            refine (HCh.out _ G9.out).mono ?_
            rintro e wa ⟨rfl, ga⟩
            have Ga := hid (gr_trans G9.out ga)
            clear ga k0 k1 k2 k3 k4 k5 k6 k7 k8
            by_cases hz0 : v0 = 0
            · subst hz0
              have hbad2 := hbad.resolve_left (fun h => h rfl)
              clear hbad
              by_cases m1 : rho < 0
              · go_wp2_with fail
                go_ret
                exact ⟨rfl, Ga.out⟩
              · by_cases m2 : 1000000 < rho
                · go_wp2_with fail
                  go_ret
                  exact ⟨rfl, Ga.out⟩
                · by_cases m3 : far < 0
                  · go_wp2_with fail
                    go_ret
                    exact ⟨rfl, Ga.out⟩
                  · have m4 : 2147483648 < far := by omega
                    go_wp2_with fail
                    go_ret
                    exact ⟨rfl, Ga.out⟩
            · have hvb : (v0 != 0) = true := by simpa using hz0
              clear hbad
              go_wp2_with fail
              go_ret
              exact ⟨rfl, Ga.out⟩
        | false =>
          have hgt : g = false := HEz.1
          subst hgt
          have hsv : SV = 0 := HEz.2.2 rfl
          subst hsv
          clear HEz
          go_wp2_with fail
          go_quiet (fail)
          obtain ⟨w8, hw8⟩ : ∃ w8, wr.drewN nq = w8 := ⟨_, rfl⟩
          have H8 : Hid (wr.grownBy w8 none) := hid (hw8 ▸ gr_drewN (gr_refl wr none) nq)
          rw [hw8]
          clear hw8 i1 i2
          have G8 := hid (gr_trans GX.out H8.out)
          have HC0 := gr_heap H8.out HD0.out (by simp)
          have HC0h := hid HC0
          have k0 := hcell HC0 0 _ rfl
          have k1 := hcell HC0 1 _ rfl
          have k2 := hcell HC0 2 _ rfl
          have k3 := hcell HC0 3 _ rfl
          have k4 := hcell HC0 4 _ rfl
          have k5 := hcell HC0 5 _ rfl
          have k6 := hcell HC0 6 _ rfl
          have k7 := hcell HC0 7 _ rfl
          have k8 := hcell HC0 8 _ rfl
          clear HC0
          go_wp2_with fail
          by_cases hok : checkZ d = 0 ∧ (0 ≤ rho ∧ rho ≤ 1000000) ∧ (0 ≤ far ∧ far ≤ 2147483648)
          · obtain ⟨hck, ⟨r0, r1⟩, ⟨f0, f1⟩⟩ := hok
            have hde : 0 ≤ de ∧ de ≤ 1048576 := by
              have h1 := (spansZ_bd (check_cy hck).1).2.1
              rw [hcf.out] at h1
              exact h1
            obtain ⟨d0, d1⟩ := hde
            have HBd : Hid (Calls Tryz.prog 20 #[(.agg #[.int .i64 ho, .int .i64 C, .int .i64 de, .int .i64 wi, .int .i64 pr, vd, ve, vl, .int .i64 qu]), .int .i64 rho, .int .i64 far] w8 fun e w' => e = .returned (.int .i64 (boundZ de rho far)) ∧ w8.grownBy w' none) := hid (by
              have H := bound_ok d vd ve vl rho far w8 (HNt.out _ G8.out) hck ⟨r0, r1⟩ ⟨f0, f1⟩
              rw [hcf.out] at H
              exact H)
            have HCh : Hid (∀ W : World, w.grownBy W none → Calls Tryz.prog 16 #[(.agg #[.int .i64 ho, .int .i64 C, .int .i64 de, .int .i64 wi, .int .i64 pr, vd, ve, vl, .int .i64 qu])] W fun e w' => e = .returned (.int .i64 0) ∧ W.grownBy w' none) := hid (fun W g => by
              have H := rcheck_any d vd ve vl W (HNt.out W g)
              rw [hck, hcf.out] at H
              exact H)
            have hP0 : 0 ≤ 2 * de * rho ∧ 2 * de * rho ≤ 2097152 * 1000000 := ⟨Int.mul_nonneg (by omega) r0, Int.mul_le_mul (by omega) r1 r0 (by omega)⟩
            have hQ0 : 0 ≤ far * rho ∧ far * rho ≤ 2147483648 * 1000000 := ⟨Int.mul_nonneg f0 r0, Int.mul_le_mul f1 r1 r0 (by omega)⟩
            have HM1 : Hid (∀ W : World, Calls Tryz.prog 21 #[.int .i64 (2 * de), .int .i64 rho, .int .i64 1000000000] W fun e w' => e = .returned (.tuple #[.int .i64 (2 * de * rho / 1000000000), .int .i64 0]) ∧ W.grownBy w' none) := hid (fun W => rmuldiv_any ⟨by omega, by omega⟩ ⟨by omega, by omega⟩ ⟨by omega, by omega⟩ ⟨by omega, by omega⟩)
            have HM2 : Hid (∀ W : World, Calls Tryz.prog 21 #[.int .i64 far, .int .i64 rho, .int .i64 1000000000] W fun e w' => e = .returned (.tuple #[.int .i64 (far * rho / 1000000000), .int .i64 0]) ∧ W.grownBy w' none) := hid (fun W => rmuldiv_any ⟨by omega, by omega⟩ ⟨by omega, by omega⟩ ⟨by omega, by omega⟩ ⟨by omega, by omega⟩)
            have HBe : Hid (boundZ de rho far = 2 * (2 * de * rho / 1000000000) + 2 * (far * rho / 1000000000) + 10) := hid (by unfold boundZ; omega)
            rw [HBe.out] at HBd
            have hPb : 0 ≤ 2 * de * rho / 1000000000 ∧ 2 * de * rho / 1000000000 ≤ 4194304 := by omega
            have hQb : 0 ≤ far * rho / 1000000000 ∧ far * rho / 1000000000 ≤ 4294967296 := by omega
            obtain ⟨P, hP⟩ : ∃ P, 2 * de * rho / 1000000000 = P := ⟨_, rfl⟩
            obtain ⟨Q, hQ⟩ : ∃ Q, far * rho / 1000000000 = Q := ⟨_, rfl⟩
            rw [hP] at HM1 HBd hPb
            rw [hQ] at HM2 HBd hQb
            obtain ⟨p0, p1⟩ := hPb
            obtain ⟨q0, q1⟩ := hQb
            have s1 : IntKind.i64.wrap (2 * de) = 2 * de := IntWalk.i64_in _ (by omega)
            have s2 : IntKind.i64.wrap (2 * P) = 2 * P := IntWalk.i64_in _ (by omega)
            have s3 : IntKind.i64.wrap (2 * Q) = 2 * Q := IntWalk.i64_in _ (by omega)
            have s4 : IntKind.i64.wrap (2 * P + 2 * Q) = 2 * P + 2 * Q := IntWalk.i64_in _ (by omega)
            have s5 : IntKind.i64.wrap (2 * P + 2 * Q + 10) = 2 * P + 2 * Q + 10 := IntWalk.i64_in _ (by omega)
            clear hP hQ hP0 hQ0 HBe hck
            refine HBd.out.mono ?_
            rintro e w9 ⟨rfl, g9⟩
            have G9 := hid (gr_trans G8.out g9)
            have HC0 := gr_heap g9 HC0h.out (by simp)
            clear g9 k0 k1 k2 k3 k4 k5 k6 k7 k8
            have HC9 := hid HC0
            have k0 := hcell HC0 0 _ rfl
            have k1 := hcell HC0 1 _ rfl
            have k2 := hcell HC0 2 _ rfl
            have k3 := hcell HC0 3 _ rfl
            have k4 := hcell HC0 4 _ rfl
            have k5 := hcell HC0 5 _ rfl
            have k6 := hcell HC0 6 _ rfl
            have k7 := hcell HC0 7 _ rfl
            have k8 := hcell HC0 8 _ rfl
            clear HC0
            go_wp2_with fail
            refine (HCh.out _ G9.out).mono ?_
            rintro e wa ⟨rfl, ga⟩
            have Ga := hid (gr_trans G9.out ga)
            have HCa := hid (gr_heap ga HC9.out (by simp))
            clear ga k0 k1 k2 k3 k4 k5 k6 k7 k8
            have n1 : ¬ rho < 0 := by omega
            have n2 : ¬ 1000000 < rho := by omega
            have n3 : ¬ far < 0 := by omega
            have n4 : ¬ 2147483648 < far := by omega
            have k2 := hcell HCa.out 2 _ rfl
            go_wp2_with fail
            refine (HM1.out _).mono ?_
            rintro e wb ⟨rfl, gb⟩
            have Gb := hid (gr_trans Ga.out gb)
            clear gb k2
            go_wp2_with fail
            refine (HM2.out _).mono ?_
            rintro e wc ⟨rfl, gc⟩
            have Gc := hid (gr_trans Gb.out gc)
            clear gc
            go_wp2_with fail
            go_ret
            exact ⟨by simp, Gc.out⟩
          · have hbad : checkZ d ≠ 0 ∨ rho < 0 ∨ 1000000 < rho ∨ far < 0 ∨ 2147483648 < far := by
              by_cases hc0 : checkZ d = 0
              · have : ¬((0 ≤ rho ∧ rho ≤ 1000000) ∧ (0 ≤ far ∧ far ≤ 2147483648)) := fun h => hok ⟨hc0, h⟩
                omega
              · exact .inl hc0
            have HBd : Hid (Calls Tryz.prog 20 #[(.agg #[.int .i64 ho, .int .i64 C, .int .i64 de, .int .i64 wi, .int .i64 pr, vd, ve, vl, .int .i64 qu]), .int .i64 rho, .int .i64 far] w8 fun e w' => e = .returned (.int .i64 0) ∧ w8.grownBy w' none) := hid (by
              have H := bound_bad d vd ve vl rho far w8 (HNt.out _ G8.out) hbad
              rw [hcf.out] at H
              exact H)
            obtain ⟨v0, hv0⟩ : ∃ v, Hid (checkZ d = v) := ⟨_, hid rfl⟩
            have HCh : Hid (∀ W : World, w.grownBy W none → Calls Tryz.prog 16 #[(.agg #[.int .i64 ho, .int .i64 C, .int .i64 de, .int .i64 wi, .int .i64 pr, vd, ve, vl, .int .i64 qu])] W fun e w' => e = .returned (.int .i64 v0) ∧ W.grownBy w' none) := hid (fun W g => by
              have H := rcheck_any d vd ve vl W (HNt.out W g)
              rw [hv0.out, hcf.out] at H
              exact H)
            rw [hv0.out] at hbad
            clear hok
            refine HBd.out.mono ?_
            rintro e w9 ⟨rfl, g9⟩
            have G9 := hid (gr_trans G8.out g9)
            have HC0 := gr_heap g9 HC0h.out (by simp)
            clear g9 k0 k1 k2 k3 k4 k5 k6 k7 k8
            have HC9 := hid HC0
            have k0 := hcell HC0 0 _ rfl
            have k1 := hcell HC0 1 _ rfl
            have k2 := hcell HC0 2 _ rfl
            have k3 := hcell HC0 3 _ rfl
            have k4 := hcell HC0 4 _ rfl
            have k5 := hcell HC0 5 _ rfl
            have k6 := hcell HC0 6 _ rfl
            have k7 := hcell HC0 7 _ rfl
            have k8 := hcell HC0 8 _ rfl
            clear HC0
            go_wp2_with fail
            refine (HCh.out _ G9.out).mono ?_
            rintro e wa ⟨rfl, ga⟩
            have Ga := hid (gr_trans G9.out ga)
            clear ga k0 k1 k2 k3 k4 k5 k6 k7 k8
            by_cases hz0 : v0 = 0
            · subst hz0
              have hbad2 := hbad.resolve_left (fun h => h rfl)
              clear hbad
              by_cases m1 : rho < 0
              · go_wp2_with fail
                go_ret
                exact ⟨rfl, Ga.out⟩
              · by_cases m2 : 1000000 < rho
                · go_wp2_with fail
                  go_ret
                  exact ⟨rfl, Ga.out⟩
                · by_cases m3 : far < 0
                  · go_wp2_with fail
                    go_ret
                    exact ⟨rfl, Ga.out⟩
                  · have m4 : 2147483648 < far := by omega
                    go_wp2_with fail
                    go_ret
                    exact ⟨rfl, Ga.out⟩
            · have hvb : (v0 != 0) = true := by simpa using hz0
              clear hbad
              go_wp2_with fail
              go_ret
              exact ⟨rfl, Ga.out⟩
end Go.Proofs.YtckoaeoecjphiaaGreat

/- RoundSpreads: for every configuration, clocks, time, rate and span the law answers true: how far apart clocks are, and the bound, are as the document says. No condition. -/
namespace Go.Proofs.YtckoaeoecjphiaaGreat
open Go.ChangeShapes Go.WideShapes Go.ChangeAt Go.RowKit
open Go.ChangeMaps (open_string shut_string)
set_option linter.unusedVariables false

theorem spreadsrow_all (d : Net) (vd ve vl : Value) {w : World} (hN : NetAt w.heap.size w d vd ve vl) (sv : Value) (l : List Ck) (y : Ls) (hs : CksAt w.heap.size w sv l) (hz : l.length * 24 ≤ 140737488351232) (hy : y.ok) (t0 rho far : Int) (_ : -9223372036854775808 ≤ t0 ∧ t0 ≤ 9223372036854775807) (_ : -9223372036854775808 ≤ rho ∧ rho ≤ 9223372036854775807) (_ : -9223372036854775808 ≤ far ∧ far ≤ 9223372036854775807) :
    Calls Tryz.prog 5 #[cfV d.cf vd ve vl, caseV sv y, .agg #[.int .i64 t0, .int .i64 rho, .int .i64 far]] w fun e w' => e = .returned (.bool true) ∧ Below w.heap.size w w' :=
  (rspr_any d vd ve vl sv l y t0 rho far w hN hs hz).mono fun e w' h => ⟨h.1, gr_below h.2 (Nat.le_refl _) (by simp)⟩

set_option maxRecDepth 100000 in
theorem roundSpreads_lifted (os : Os) (started : os.Started) (H : Type) (enc : TypeId × Value → H) :
    ReturnsInHanded {} Tryz.checked os 5 .any (Rows.roundSpreadsSpec.pre6 enc Tryz.prog Tryz.f5 Rows.roundSpreadsRow.domain false) (Rows.roundSpreadsSpec.post enc Tryz.prog Tryz.f5 false true false false) := by
  refine returnsInHanded_of_change_sized (C := Tryz.checked) own_none started (by kernel_rfl) Tryz.func5
    (ChangeSpec.witness6 (enc := enc) (C := Tryz.checked) false ⟨#[], #[.agg #[.int .i64 0, .int .i64 0, .int .i64 0, .int .i64 0, .int .i64 0, .slice none 0 0, .slice none 0 0, .slice none 0 0, .int .i64 0], .agg #[.slice none 0 0, .int .u32 0, .int .u32 0, .int .u32 0, .int .u32 0], .agg #[.int .i64 0, .int .i64 0, .int .i64 0]], []⟩ 8 (by kernel_rfl) (by kernel_rfl) (by kernel_rfl) (by kernel_rfl)) ?_
  intro W base args ds gs before hval0 hW hcnd hsz0 _
  have hsz : (DataW.weightsEach Tryz.prog (Tryz.f5.params.toList ++ Rows.roundSpreadsSpec.plain.varTypes Tryz.prog) (ds ++ gs)).all (· ≤ reachBytes) = true := hsz0
  clear hsz0
  have hval : ∀ (j : Nat) t v, Tryz.f5.params[j]? = some t → args[j]? = some v → Value.okWide Tryz.prog W .any base t v := hval0
  have hW' := hW
  obtain ⟨p, q, hA0, hV, rfl, hfz, hnd⟩ := hW
  have hA : DataW.TrodAll enc Tryz.prog W 0 (fun _ => true) true Tryz.f5.params.toList args.toList ds p := hA0
  rw [Tryz.params5] at hA hval hsz
  obtain ⟨v0, vs0, d0, ds0, p0, q0, hargs, rfl, rfl, h0, r0⟩ := trodAll_cons hA
  obtain ⟨v1, vs1, d1, ds1, p1, q1, rfl, rfl, rfl, h1, r1⟩ := trodAll_cons r0
  obtain ⟨v2, vs2, d2, ds2, p2, q2, rfl, rfl, rfl, h2, r2⟩ := trodAll_cons r1
  obtain ⟨rfl, rfl, rfl⟩ := trodAll_nil r2
  obtain rfl : args = #[v0, v1, v2] := by cases args; simp_all
  obtain ⟨rfl, rfl⟩ := trodVars_none hV
  have k0 := h0
  have lt0 : ∀ x ∈ p0, x.block < W.heap.size := by obtain ⟨m, hm⟩ := k0; exact DataW.trod_lt m _ _ _ hm
  have k1 := h1
  have lt1 : ∀ x ∈ p1, x.block < W.heap.size := by obtain ⟨m, hm⟩ := k1; exact DataW.trod_lt m _ _ _ hm
  have k2 := h2
  have lt2 : ∀ x ∈ p2, x.block < W.heap.size := by obtain ⟨m, hm⟩ := k2; exact DataW.trod_lt m _ _ _ hm
  obtain ⟨D0, vd0, ve0, vl0, rfl, N0⟩ := open_config (hval 0 26 v0 rfl rfl) h0 (within_arg hsz (j := 0) rfl rfl)
  obtain ⟨sv1, l1, y1, rfl, ck1, z1, ok1⟩ := open_case (hval 1 33 v1 rfl rfl) h1 (within_arg hsz (j := 1) rfl rfl)
  obtain ⟨a2_0, a2_1, a2_2, rfl, b2_0, b2_1, b2_2⟩ := open_arr3 Tryz.underlying58 Tryz.underlying2 (by kernel_rfl) (by kernel_rfl) (hval 2 58 v2 rfl rfl) h2
  clear hA0 hval0
  refine (spreadsrow_all D0 vd0 ve0 vl0 N0 sv1 l1 y1 ck1 z1 ok1 a2_0 a2_1 a2_2 b2_0 b2_1 b2_2).mono fun e W' ⟨he, bel⟩ => ?_
  subst he
  exact ⟨_, rfl, _, _, _, [], _, [], hW', trodAll_mk1 (shut_bool Tryz.underlying4 _), (trodAll_cons_mk (Below.trod laid_out (by kernel_rfl) (of_decide_eq_true (by kernel_rfl)) k0 bel lt0) (trodAll_cons_mk (Below.trod laid_out (by kernel_rfl) (of_decide_eq_true (by kernel_rfl)) k1 bel lt1) (trodAll_cons_mk (Below.trod laid_out (by kernel_rfl) (of_decide_eq_true (by kernel_rfl)) k2 bel lt2) trodAll_mk0))), rfl, bel.frame _, fun h => by cases h⟩

theorem roundSpreads_holds : Rows.RoundSpreadsSaid :=
  OpenClaim.holds_of_wide 5 Tryz.f5 rfl rfl rfl rfl rfl rfl rfl ⟨rfl, rfl, rfl, rfl, rfl⟩ rfl rfl rfl rfl rfl (by kernel_rfl) Tryz.func5 (by kernel_rfl)
    (of_decide_eq_true (by kernel_rfl)) (by unfold Func.isWrapper; rw [if_neg (of_decide_eq_false (by kernel_rfl))]; exact ⟨rfl, rfl⟩)
    (fun os started H enc _ => roundSpreads_lifted os started H enc)

#print axioms roundSpreads_holds
end Go.Proofs.YtckoaeoecjphiaaGreat
