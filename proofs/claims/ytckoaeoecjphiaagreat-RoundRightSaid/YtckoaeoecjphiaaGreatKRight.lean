/- RoundRight: for every configuration, bases and time the law answers true: with right clocks and nothing lost, all that heard a frame show the same behind the round. No condition. -/
import Derived.Test.YtckoaeoecjphiaaGreatK53
import Derived.Test.YtckoaeoecjphiaaGreatK43
import Derived.Test.YtckoaeoecjphiaaGreatK44
import Derived.Test.YtckoaeoecjphiaaGreatK52

/- Arguments opened: integers of other kinds. -/
namespace Go.Proofs.YtckoaeoecjphiaaGreat
open Go.ChangeShapes Go.WideShapes Go.ChangeAt Go.RowKit

section
variable {H : Type} {enc : TypeId × Value → H} {P : Program} {w : World} {base : Nat} {spare : Nat → Bool} {held : Bool}
theorem open_u8 {r : Reach} {b0 : Nat} {t : TypeId} {v : Value} {d : DataW H} {p : List MemPlace} (ht : P.underlying t = some (.int .u8))
    (hv : Value.okWide P w r b0 t v) (h : DataW.Trod enc P w base spare held t v d p) :
    ∃ a : Int, v = .int .u8 a ∧ 0 ≤ a ∧ a ≤ 255 := by
  obtain ⟨x, rfl, _, _, wx⟩ := open_int ht hv h
  exact ⟨x, rfl, by simpa [Lit.wf, IntKind.min, IntKind.max, IntKind.signed, IntKind.bits] using wx⟩
theorem open_i32 {r : Reach} {b0 : Nat} {t : TypeId} {v : Value} {d : DataW H} {p : List MemPlace} (ht : P.underlying t = some (.int .i32))
    (hv : Value.okWide P w r b0 t v) (h : DataW.Trod enc P w base spare held t v d p) :
    ∃ a : Int, v = .int .i32 a ∧ -2147483648 ≤ a ∧ a ≤ 2147483647 := by
  obtain ⟨x, rfl, _, _, wx⟩ := open_int ht hv h
  exact ⟨x, rfl, by simpa [Lit.wf, IntKind.min, IntKind.max, IntKind.signed, IntKind.bits] using wx⟩
theorem open_u64 {r : Reach} {b0 : Nat} {t : TypeId} {v : Value} {d : DataW H} {p : List MemPlace} (ht : P.underlying t = some (.int .u64))
    (hv : Value.okWide P w r b0 t v) (h : DataW.Trod enc P w base spare held t v d p) :
    ∃ a : Int, v = .int .u64 a ∧ 0 ≤ a ∧ a ≤ 18446744073709551615 := by
  obtain ⟨x, rfl, _, _, wx⟩ := open_int ht hv h
  exact ⟨x, rfl, by simpa [Lit.wf, IntKind.min, IntKind.max, IntKind.signed, IntKind.bits] using wx⟩
end
end Go.Proofs.YtckoaeoecjphiaaGreat

/- What the laws' walks share (a copy of RLaw1's beginning, for a claim of its own). -/
namespace Go.Proofs.YtckoaeoecjphiaaGreat
open Go.RowKit Go.Lib

theorem slice_frm' {n₀ : Nat} {W : World} {sv : Value} {k n : Nat} {f : Nat → Nat → Value} (h : SliceAt n₀ W sv k n f) : ∃ a c, sv = .slice a n c := by
  rcases h with ⟨a, c, rfl, h0⟩ | ⟨_, _, c, rfl, _⟩
  · exact ⟨_, _, by rw [h0]⟩
  · exact ⟨_, _, rfl⟩
theorem told_grown {W W' : World} {R : Rd} {vs vb vh va : Value} (h : ToldAt W R vs vb vh va) (g : W.grownBy W' none) : ToldAt W' R vs vb vh va := told_kept h g (fun q hq => by cases hq) (fun q hq => by cases hq) (fun q hq => by cases hq) (fun q hq => by cases hq)
abbrev LawPost (w : World) : Ending → World → Prop := fun e w' => e = .returned (.bool true) ∧ w.grownBy w' none
end Go.Proofs.YtckoaeoecjphiaaGreat

/- The document's round, for a claim of its own. -/

/- A slice of three cells an element (a copy out of RLaw3, for a claim of its own). -/
namespace Go.Proofs.YtckoaeoecjphiaaGreat
open Go.RowKit Go.Lib

/-- A slice of three cells an element: where its cells lie. -/
theorem slice3 {n₀ : Nat} {W : World} {a : Option Addr} {n c : Nat} {g : Nat → Nat → Value} (h : SliceAt n₀ W (.slice a n c) 3 n g) (h0 : 0 < n) : ∃ b off, a = some ⟨b, off, none⟩ ∧ n ≤ c ∧ ∀ W' : World, W.grownBy W' none → ∀ j, j < n → W'.cell? ⟨b, off + j * 3, none⟩ = some (g j 0) ∧ W'.cell? ⟨b, off + j * 3 + 1, none⟩ = some (g j 1) ∧ W'.cell? ⟨b, off + j * 3 + 2, none⟩ = some (g j 2) := by
  rcases h with ⟨_, _, _, h9⟩ | ⟨b, off, cap, e, h1, _, hf⟩
  · omega
  · injection e with e5 e6 e7
    exact ⟨b, off, e5, by omega, fun W' g' j hj => ⟨gr_cell g' (hf j hj 0 (by omega)), gr_cell g' (hf j hj 1 (by omega)), gr_cell g' (hf j hj 2 (by omega))⟩⟩

end Go.Proofs.YtckoaeoecjphiaaGreat

/- RoundRight: the walk. -/
namespace Go.Proofs.YtckoaeoecjphiaaGreat
open Go.RowKit Go.Lib

/-- The bases that come in. -/
def baseZ (zs : List Int) (j : Nat) : Int := if j < zs.length then nth zs j else 0
def rightL (zs : List Int) (C : Int) (n : Nat) : List Ck := (List.range n).map fun j => ⟨0, min (baseZ zs j) C, 0⟩
theorem rightL_len (zs : List Int) (C : Int) (n : Nat) : (rightL zs C n).length = n := by unfold rightL; simp
theorem rightL_nth (zs : List Int) (C : Int) {n j : Nat} (h : j < n) : nthC (rightL zs C n) j = ⟨0, min (baseZ zs j) C, 0⟩ := by unfold nthC rightL; simp [h]
def I32 (zs : List Int) : Prop := ∀ x ∈ zs, -2147483648 ≤ x ∧ x ≤ 2147483647
theorem baseZ_bd {zs : List Int} (h : I32 zs) (j : Nat) : -2147483648 ≤ baseZ zs j ∧ baseZ zs j ≤ 2147483647 := by
  unfold baseZ
  split
  · rename_i hj
    refine h _ ?_
    unfold nth
    rw [List.getElem?_eq_getElem hj]
    exact List.getElem_mem hj
  · omega
theorem right_goes {d : Net} {zs : List Int} (hz : I32 zs) (h : checkZ d = 0) : goesZ d 3 (rightL zs d.cf.cy d.cf.ho.toNat) = true := by
  obtain ⟨⟨c0, c1⟩, _⟩ := spansZ_bd (check_cy h).1
  obtain ⟨h0, h1⟩ := (check_cy h).2.1
  unfold goesZ cleanZ
  rw [rightL_len, decide_eq_true h, decide_eq_true (show (0 : Int) ≤ 3 by omega), show max d.cf.cy 1 = d.cf.cy by omega]
  have hq : (3 : Int) ≤ 1125899906842624 / (2 * d.cf.cy) := (Int.le_ediv_iff_mul_le (by omega)).2 (by omega)
  rw [decide_eq_true hq, decide_eq_true (show ((d.cf.ho.toNat : Nat) : Int) = d.cf.ho by omega)]
  simp only [Bool.true_and, Bool.and_eq_true, Bool.not_eq_true']
  constructor
  · refine List.all_eq_true.2 (fun x hx => ?_)
    obtain ⟨j, hj, rfl⟩ := List.mem_map.1 hx
    have hb := baseZ_bd hz j
    unfold newC newB
    dsimp only
    rw [realB_iff.2 (by omega), fastB_iff.2 (by omega), shownB_iff.2 (by omega)]
    rfl
  · rw [List.any_eq_false]
    intro x hx
    obtain ⟨j, hj, rfl⟩ := List.mem_map.1 hx
    unfold lateC
    dsimp only
    simp
    omega
/-- The round that RoundRight asks for. -/
def rightRd (d : Net) (zs : List Int) : Rd := ⟨d, 3, rightL zs d.cf.cy d.cf.ho.toNat, 0, 0, 0, 0⟩
theorem right_ok {d : Net} {zs : List Int} (hz : I32 zs) (h : checkZ d = 0) : RightR (rightRd d zs) := by
  have h4 : (0 : Nat) < 4294967296 := by decide
  obtain ⟨⟨c0, c1⟩, _⟩ := spansZ_bd (check_cy h).1
  refine ⟨⟨right_goes hz h, h4, h4, h4, h4⟩, fun j hj => ?_, rfl, rfl, rfl, rfl⟩
  have hj' : j < d.cf.ho.toNat := by
    have : (rightRd d zs).l.length = d.cf.ho.toNat := rightL_len _ _ _
    omega
  refine ⟨_, rightL_nth _ _ hj', ?_⟩
  have hb := baseZ_bd hz j
  show _ ∧ _ ≤ 3 * d.cf.cy
  omega
/-- Those that heard, of the first k. -/
noncomputable def heardTo (R : Rd) (k : Nat) : List Ck := ((List.range k).filter fun j => decide (0 < R.hrd j)).map R.aft
theorem heard_yes {R : Rd} {k : Nat} (h : 0 < R.hrd k) : heardTo R (k + 1) = heardTo R k ++ [R.aft k] := by
  unfold heardTo
  rw [List.range_succ, List.filter_append, List.map_append]
  simp [h]
theorem heard_no {R : Rd} {k : Nat} (h : ¬0 < R.hrd k) : heardTo R (k + 1) = heardTo R k := by
  unfold heardTo
  rw [List.range_succ, List.filter_append, List.map_append]
  simp [h]
theorem heard_mem {R : Rd} {k : Nat} {x : Ck} (h : x ∈ heardTo R k) : ∃ j, j < k ∧ 0 < R.hrd j ∧ x = R.aft j := by
  obtain ⟨j, hj, rfl⟩ := List.mem_map.1 h
  obtain ⟨h1, h2⟩ := List.mem_filter.1 hj
  exact ⟨j, List.mem_range.1 h1, of_decide_eq_true h2, rfl⟩
theorem heard_len (R : Rd) (k : Nat) : (heardTo R k).length ≤ k := by
  unfold heardTo
  rw [List.length_map]
  exact Nat.le_trans (List.length_filter_le _ _) (by simp)
theorem flat_snoc (l : List Ck) (x : Ck) : flatQ 3 (l ++ [x]).length (ckF (l ++ [x])) = flatQ 3 l.length (ckF l) ++ [.int .i64 x.m, .int .i64 x.b, .int .i64 x.r] := by
  rw [List.length_append, List.length_singleton, flatQ_succ]
  have e1 : flatQ 3 l.length (ckF (l ++ [x])) = flatQ 3 l.length (ckF l) := flatQ_congr (fun j hj => by
    funext i
    unfold ckF
    have : nthC (l ++ [x]) j = nthC l j := by unfold nthC; rw [List.getElem?_append_left hj]
    rw [this])
  have e2 : nthC (l ++ [x]) l.length = x := by unfold nthC; simp
  rw [e1]
  congr 1
  have e3 : List.range 3 = [0, 1, 2] := rfl
  rw [e3]
  simp only [List.map_cons, List.map_nil, ckF, e2]
theorem rightL_snoc (zs : List Int) (C : Int) (k : Nat) : rightL zs C (k + 1) = rightL zs C k ++ [⟨0, min (baseZ zs k) C, 0⟩] := by unfold rightL; rw [List.range_succ, List.map_append]; rfl
/-- All that heard show the same. -/
theorem right_same {d : Net} {zs : List Int} (hz : I32 zs) (h : checkZ d = 0) {j : Nat} (hj : j < d.cf.ho.toNat) (h0 : 0 < (rightRd d zs).hrd j) :
    (0 ≤ ((rightRd d zs).aft j).m ∧ ((rightRd d zs).aft j).m ≤ 8589934592) ∧ newC ((rightRd d zs).aft j) = true ∧ ∀ t, ((rightRd d zs).aft j).at_ t = (rightRd d zs).p + (rightRd d zs).E - (rightRd d zs).T + t := by
  have hR := right_ok hz h
  obtain ⟨⟨c0, c1⟩, _⟩ := spansZ_bd (check_cy h).1
  have hl : (rightRd d zs).l.length = d.cf.ho.toNat := rightL_len _ _ _
  have hb := baseZ_bd hz j
  have hn := rightL_nth zs d.cf.cy hj
  have hp : (rightRd d zs).p = 3 * d.cf.cy := rfl
  obtain ⟨a1, a2⟩ := hR.aft (j := j) (b := min (baseZ zs j) d.cf.cy) hn (by rw [hp]; omega) (by omega) h0
  obtain ⟨ys, hys⟩ := sorts_ex (rightRd d zs)
  have hby := hR.ok.by_ hys j
  have hEA := hR.ok.EA
  rw [a2]
  dsimp only
  rw [hp] at a1 ⊢
  refine ⟨by omega, ?_, fun t => ?_⟩
  · unfold newC newB
    dsimp only
    rw [realB_iff.2 (by omega), fastB_iff.2 (by omega), shownB_iff.2 (by omega)]
    rfl
  · rw [atm0, a1]
    omega
theorem minmax_same {x : Int} : ∀ {l : List Int}, l ≠ [] → (∀ y ∈ l, y = x) → maxL l - minL l = 0 := by
  intro l hne hl
  have h1 := hl _ (maxL_mem l hne)
  have h2 := hl _ (minL_mem l hne)
  omega
theorem right_spread {d : Net} {zs : List Int} (hz : I32 zs) (h : checkZ d = 0) {last t : Int} (hl : ∀ x ∈ heardTo (rightRd d zs) d.cf.ho.toNat, x.m ≤ last) (h0 : 0 ≤ last ∧ last ≤ 8589934592) (ht : 0 ≤ t ∧ t ≤ 4294967295) :
    spreadB (heardTo (rightRd d zs) d.cf.ho.toNat) (last + t) = decide (0 < (heardTo (rightRd d zs) d.cf.ho.toNat).length) ∧ spreadV (heardTo (rightRd d zs) d.cf.ho.toNat) (last + t) = 0 := by
  have hB : spreadB (heardTo (rightRd d zs) d.cf.ho.toNat) (last + t) = decide (0 < (heardTo (rightRd d zs) d.cf.ho.toNat).length) := by
    unfold spreadB
    have h1 : (heardTo (rightRd d zs) d.cf.ho.toNat).all newC = true := List.all_eq_true.2 (fun x hx => by
      obtain ⟨j, hj, h2, rfl⟩ := heard_mem hx
      exact (right_same hz h hj h2).2.1)
    have h2 : (heardTo (rightRd d zs) d.cf.ho.toNat).all (fun k => nowB k.m (last + t)) = true := List.all_eq_true.2 (fun x hx => by
      unfold nowB
      rw [realB_iff.2 (by omega), Bool.true_and]
      have := hl x hx
      exact decide_eq_true (by omega))
    rw [h1, h2]
    simp
  refine ⟨hB, ?_⟩
  unfold spreadV
  split
  · rename_i hb
    have hne : shownL (heardTo (rightRd d zs) d.cf.ho.toNat) (last + t) ≠ [] := by
      intro e
      have h1 := shownL_len (heardTo (rightRd d zs) d.cf.ho.toNat) (last + t)
      rw [e] at h1
      rw [hB] at hb
      have h2 := of_decide_eq_true hb
      simp at h1
      omega
    refine minmax_same (x := (rightRd d zs).p + (rightRd d zs).E - (rightRd d zs).T + (last + t)) hne (fun y hy => ?_)
    obtain ⟨x, hx, rfl⟩ := List.mem_map.1 hy
    obtain ⟨j, hj, h2, rfl⟩ := heard_mem hx
    exact (right_same hz h hj h2).2.2 _
  · rfl
/-- Numbers of 32 bits, as they are read. -/
def B32At (n₀ : Nat) (w : World) (sv : Value) (zs : List Int) : Prop := SliceAt n₀ w sv 1 zs.length (fun j _ => .int .i32 (nth zs j))

theorem news3 {W : World} {q : Nat} {a b c : Value} {t : TypeId} (h : W.heap[q]? = some (.cells #[a, b, c] t)) : ∀ (j : Nat) (u : Value), [a, b, c][j]? = some u → W.cell? ((⟨q, 0, none⟩ : Addr).add j) = some u := by
  intro j u hj
  rw [add_lit_ints, Nat.zero_add]
  exact hcell h j u (by rw [← hj]; simp)
theorem flat_right (zs : List Int) (C : Int) (k : Nat) {z : Int} (hz : baseZ zs k = z) : flatQ 3 (k + 1) (ckF (rightL zs C (k + 1))) = flatQ 3 k (ckF (rightL zs C k)) ++ [.int .i64 0, .int .i64 (min z C), .int .i64 0] := by
  have h := flat_snoc (rightL zs C k) ⟨0, min (baseZ zs k) C, 0⟩
  rw [← rightL_snoc, rightL_len, rightL_len, hz] at h
  exact h

set_option maxRecDepth 1000000 in
set_option maxHeartbeats 1000000 in
theorem rright_good (d : Net) (vd ve vl bv : Value) (zs : List Int) (t : Int) (w : World) (hN : NetAt w.heap.size w d vd ve vl) (hB : B32At w.heap.size w bv zs) (hz : I32 zs) (ht : 0 ≤ t ∧ t ≤ 4294967295) (hck : checkZ d = 0) :
    Calls Tryz.prog 4 #[cfV d.cf vd ve vl, bv, .int .u32 t] w (LawPost w) := by
  obtain ⟨i0, hi, hz0, hz1, hz2⟩ := info_parts Tryz.info_st
  have HN := hid hN
  have HZ := hid hz
  obtain ⟨a, cap, rfl⟩ := slice_frm' hB
  obtain ⟨m, hm⟩ : ∃ m, Hid (zs.length = m) := ⟨_, hid rfl⟩
  have HBz := hid hB
  obtain ⟨⟨ho, C, de, wi, pr, qu⟩, hcf⟩ : ∃ c, Hid (d.cf = c) := ⟨_, hid rfl⟩
  have hho : 1 ≤ ho ∧ ho ≤ 6 := by
    have h1 := (check_cy hck).2.1
    rw [hcf.out] at h1
    exact h1
  obtain ⟨n, rfl⟩ : ∃ n : Nat, ho = (n : Int) := ⟨ho.toNat, (Int.toNat_of_nonneg (by omega)).symm⟩
  have hn1 : 0 < n ∧ n ≤ 6 := by omega
  have hcy : 1 ≤ C ∧ C ≤ 1073741824 := by
    have h1 := (spansZ_bd (check_cy hck).1).1
    rw [hcf.out] at h1
    exact h1
  obtain ⟨R, hR⟩ : ∃ R, Hid (rightRd d zs = R) := ⟨_, hid rfl⟩
  have HRR : Hid (RightR R) := hid (by rw [← hR.out]; exact right_ok hz hck)
  have hto : d.cf.ho.toNat = n := by rw [hcf.out]; exact Int.toNat_natCast n
  have hRl : Hid (R.l = rightL zs C n) := hid (by rw [← hR.out]; show rightL zs d.cf.cy d.cf.ho.toNat = _; rw [hto, hcf.out])
  have hRn : Hid (R.l.length = n) := hid (by rw [hRl.out, rightL_len])
  have HE : Hid (R.d.cf = ⟨(n : Int), C, de, wi, pr, qu⟩ ∧ R.cy = 3 ∧ R.u0 = 0 ∧ R.u1 = 0 ∧ R.w0 = 0 ∧ R.w1 = 0) := hid (by rw [← hR.out]; exact ⟨hcf.out, rfl, rfl, rfl, rfl, rfl⟩)
  have HRd : Hid (R.d = d) := hid (by rw [← hR.out]; rfl)
  have HSame : Hid (∀ j, j < n → 0 < R.hrd j → 0 ≤ (R.aft j).m ∧ (R.aft j).m ≤ 8589934592) := hid (fun j hj h0 => by
    rw [← hR.out] at h0 ⊢
    exact (right_same hz hck (by rw [hto]; exact hj) h0).1)
  have HSpr : Hid (∀ last : Int, (∀ x ∈ heardTo R n, x.m ≤ last) → 0 ≤ last ∧ last ≤ 8589934592 → spreadB (heardTo R n) (last + t) = decide (0 < (heardTo R n).length) ∧ spreadV (heardTo R n) (last + t) = 0) := hid (fun last h1 h2 => by
    have h3 := right_spread (d := d) hz hck (last := last) (t := t)
    rw [hto, hR.out] at h3
    exact h3 h1 h2 ht)
  have HChk : Hid (∀ W : World, w.grownBy W none → Calls Tryz.prog 16 #[(.agg #[.int .i64 (n : Int), .int .i64 C, .int .i64 de, .int .i64 wi, .int .i64 pr, vd, ve, vl, .int .i64 qu])] W fun e w' => e = .returned (.int .i64 0) ∧ W.grownBy w' none) := hid (fun W g => by
    have H := rcheck_any d vd ve vl W (HN.out.later g)
    rw [hck, hcf.out] at H
    exact H)
  obtain ⟨c0, hc0⟩ : ∃ c, Hid (R.crew 0 = c) := ⟨_, hid rfl⟩
  obtain ⟨c1, hc1⟩ : ∃ c, Hid (R.crew 1 = c) := ⟨_, hid rfl⟩
  have HGo : Hid (∀ (W : World) (sv : Value), w.grownBy W none → CksAt W.heap.size W sv (rightL zs C n) → Calls Tryz.prog 10 #[(.agg #[.int .i64 (n : Int), .int .i64 C, .int .i64 de, .int .i64 wi, .int .i64 pr, vd, ve, vl, .int .i64 qu]), .int .i64 3, sv, .agg #[.int .u32 0, .int .u32 0, .int .u32 0, .int .u32 0]] W fun e w' => ∃ ys yb yh ya, e = .returned (.tuple #[.agg #[ys, .int .u32 (c0 : Int), .int .u32 (c1 : Int), yb, yh, ya], .int .i64 0]) ∧ Hid (ToldAt w' R ys yb yh ya) ∧ Hid (W.grownBy w' none)) := hid (fun W sv g hc => by
    have H := go_ok R HRR.out.ok vd ve vl sv W (by rw [HRd.out]; exact HN.out.later g) (by rw [hRl.out]; exact hc)
    rw [hc0.out, hc1.out, HE.out.1, HE.out.2.1, HE.out.2.2.1, HE.out.2.2.2.1, HE.out.2.2.2.2.1, HE.out.2.2.2.2.2] at H
    exact H.mono fun e w' ⟨v1, v2, v3, v4, h1, h2, h3, _⟩ => ⟨v1, v2, v3, v4, h1, h2, h3⟩)
  rw [hm.out, hcf.out]
  rw [hm.out] at HBz
  have Hck := hid hck
  clear hN hB hz hck hto
  obtain ⟨bx, hbx⟩ : ∃ bx, Hid (w.heap.size = bx) := ⟨_, hid rfl⟩
  have G0 := hid (gr_alloc (gr_refl w none) (.cells #[.int .i64 (n : Int), .int .i64 C, .int .i64 de, .int .i64 wi, .int .i64 pr, vd, ve, vl, .int .i64 qu] 26))
  have B0 := hid (heap_alloc_new w (.cells #[.int .i64 (n : Int), .int .i64 C, .int .i64 de, .int .i64 wi, .int .i64 pr, vd, ve, vl, .int .i64 qu] 26))
  rw [hbx.out] at B0
  go_enter Tryz.func4, Tryz.ntmps4
  go_wp2_with fail
  rw [hbx.out]
  refine (fixed_true _).mono ?_
  rintro e w1 ⟨rfl, g1⟩
  have C0 := hid (gr_heap g1 B0.out (by simp))
  have G1 := hid (gr_trans G0.out g1)
  clear g1 G0 B0
  have k0 := hcell C0.out 0 _ rfl
  have k1 := hcell C0.out 1 _ rfl
  have k2 := hcell C0.out 2 _ rfl
  have k3 := hcell C0.out 3 _ rfl
  have k4 := hcell C0.out 4 _ rfl
  have k5 := hcell C0.out 5 _ rfl
  have k6 := hcell C0.out 6 _ rfl
  have k7 := hcell C0.out 7 _ rfl
  have k8 := hcell C0.out 8 _ rfl
  go_wp2_with fail
  refine (HChk.out _ G1.out).mono ?_
  rintro e w2 ⟨rfl, g2⟩
  have D0 := hid (gr_heap g2 C0.out (by simp))
  have G2 := hid (gr_trans G1.out g2)
  clear g2 G1 C0 k0 k1 k2 k3 k4 k5 k6 k7 k8
  have k0 := hcell D0.out 0 _ rfl
  go_wp2_with fail
  clear k0
  go_loopw [7, 25] (fun vs vi wr => ∃ k : Nat, vi = .int .i64 k ∧ k ≤ n ∧ Hid (wr.ownsRow w2.heap.size 54 3 vs k (flatQ 3 k (ckF (rightL zs C k)))) ∧ Hid (w2.grownBy wr none)) (fun _ vi _ => n - (intOf vi).toNat)
  case atStart => exact ⟨0, rfl, Nat.zero_le _, hid (World.ownsRow_nil _ _ _ _), hid (gr_refl w2 none)⟩
  case round =>
    obtain ⟨k, rfl, hk, HO, HG⟩ := hrel
    by_cases hlt : k < n
    · have hk2 : (k : Int) < (n : Int) := by omega
      have k1 := hcell (gr_heap (gr_alloc HG.out (.cells #[.int .i64 0, .int .i64 0, .int .i64 0] 54)) D0.out (by simp)) 1 _ rfl
      clear k1
      have k1 := hcell (gr_heap HG.out D0.out (by simp)) 1 _ rfl
      by_cases hkm : k < m
      · have hkmI : (k : Int) < (m : Int) := by omega
        obtain ⟨bb, bo, hV1⟩ : ∃ b off, Hid (a = some ⟨b, off, none⟩ ∧ m ≤ cap ∧ wr.cell? ⟨b, off + k, none⟩ = some (.int .i32 (nth zs k))) := by
          rcases HBz.out with ⟨_, _, e, h0⟩ | ⟨b, off, c, e, h1, _, hf⟩
          · have := hm.out; omega
          · injection e with e5 e6 e7
            have hkl : k < zs.length := by rw [hm.out]; exact hkm
            have f0 := gr_cell (gr_trans G2.out HG.out) (hf k hkl 0 (by omega))
            dsimp only at f0
            rw [Nat.mul_one, Nat.add_zero] at f0
            exact ⟨b, off, hid ⟨e5, by have := hm.out; omega, f0⟩⟩
        obtain ⟨rfl, hcv, p0⟩ := hV1.out
        have hkc : k < cap := by omega
        have hbz : baseZ zs k = nth zs k := by unfold baseZ; rw [if_pos (by rw [hm.out]; exact hkm)]
        have hbd := baseZ_bd HZ.out k
        obtain ⟨z, hzz⟩ : ∃ z, Hid (nth zs k = z) := ⟨_, hid rfl⟩
        rw [hbz, hzz.out] at hbd
        rw [hzz.out] at p0
        have HF2 := hid (flat_right zs C k (hbz.trans hzz.out))
        obtain ⟨z0, z1⟩ := hbd
        have s1 : IntKind.i64.wrap z = z := IntWalk.i64_in _ (by omega)
        clear hbz
        go_wp2_with (at_builtin; refine wpList_append_own_at _ rfl (.tmp 37) (.tmp 43) 27 rfl w2.heap.size 54 i0 (.agg #[.int .i64 0, .int .i64 0, .int .i64 0]) 3 24 Tryz.underlying27 hi hz0 hz1 hz2 rfl (by decide) _ _ _ rfl (HO.out.alloc _) ⟨wr.heap.size, 0, none⟩ 1 1 [.int .i64 0, .int .i64 (min z C), .int .i64 0] rfl rfl (news3 (heap_alloc_new wr _)) (by simp [Value.oneCell']) (by unfold maxLen; omega) (by omega) (by have := HG.out.size; simp; omega) ?_; intro v3 w3 hown3 hg3 _ hat3)
        have hg5 : (wr.alloc (.cells #[.int .i64 0, .int .i64 (min z C), .int .i64 0] 54)).grownBy w3 u7.ownBlock := hg3
        have HG3 : Hid (w2.grownBy w3 none) := hid (gr_ownr (gr_alloc HG.out _) hg5 (fun q hq => (HO.out.lt q hq).1))
        have HO3 : Hid (w3.ownsRow w2.heap.size 54 3 v3 (k + 1) (flatQ 3 (k + 1) (ckF (rightL zs C (k + 1))))) := hid (by rw [HF2.out]; exact hown3)
        clear hown3 hg3 hat3 hg5
        refine ⟨⟨k + 1, by go_num, by omega, HO3, HG3⟩, ?_⟩
        simp [intOf]; omega
      · have hkmI : ¬ (k : Int) < (m : Int) := by omega
        have hbz : baseZ zs k = 0 := by unfold baseZ; rw [if_neg (by rw [hm.out]; exact hkm)]
        have HF2 := hid (flat_right zs C k hbz)
        clear hbz
        go_wp2_with (at_builtin; refine wpList_append_own_at _ rfl (.tmp 37) (.tmp 43) 27 rfl w2.heap.size 54 i0 (.agg #[.int .i64 0, .int .i64 0, .int .i64 0]) 3 24 Tryz.underlying27 hi hz0 hz1 hz2 rfl (by decide) _ _ _ rfl (HO.out.alloc _) ⟨wr.heap.size, 0, none⟩ 1 1 [.int .i64 0, .int .i64 (min 0 C), .int .i64 0] rfl rfl (news3 (heap_alloc_new wr _)) (by simp [Value.oneCell']) (by unfold maxLen; omega) (by omega) (by have := HG.out.size; simp; omega) ?_; intro v3 w3 hown3 hg3 _ hat3)
        have hg5 : (wr.alloc (.cells #[.int .i64 0, .int .i64 (min 0 C), .int .i64 0] 54)).grownBy w3 u7.ownBlock := hg3
        have HG3 : Hid (w2.grownBy w3 none) := hid (gr_ownr (gr_alloc HG.out _) hg5 (fun q hq => (HO.out.lt q hq).1))
        have HO3 : Hid (w3.ownsRow w2.heap.size 54 3 v3 (k + 1) (flatQ 3 (k + 1) (ckF (rightL zs C (k + 1))))) := hid (by rw [HF2.out]; exact hown3)
        clear hown3 hg3 hat3 hg5
        refine ⟨⟨k + 1, by go_num, by omega, HO3, HG3⟩, ?_⟩
        simp [intOf]; omega
    · obtain rfl : k = n := by omega
      clear hlt
      have HCk : Hid (CksAt wr.heap.size wr u7 (rightL zs C k)) := hid (by unfold CksAt; rw [rightL_len]; exact slice_own HO.out (fun j hj i hi => flatQ_at _ hj hi))
      have GX := hid (gr_trans G2.out HG.out)
      have E0 := hid (gr_heap HG.out D0.out (by simp))
      have k0 := hcell E0.out 0 _ rfl
      have k1 := hcell E0.out 1 _ rfl
      have k2 := hcell E0.out 2 _ rfl
      have k3 := hcell E0.out 3 _ rfl
      have k4 := hcell E0.out 4 _ rfl
      have k5 := hcell E0.out 5 _ rfl
      have k6 := hcell E0.out 6 _ rfl
      have k7 := hcell E0.out 7 _ rfl
      have k8 := hcell E0.out 8 _ rfl
      go_wp2_with fail
      refine (HGo.out _ _ GX.out HCk.out).mono ?_
      rintro e w5 ⟨ys, yb, yh, ya, rfl, ht, hg⟩
      obtain ⟨aS, cS, e1⟩ := slice_frm' ht.out.sent
      obtain ⟨aB, cB, e2⟩ := slice_frm' ht.out.by_
      obtain ⟨aH, cH, e3⟩ := slice_frm' ht.out.hrd
      obtain ⟨aA, cA, e4⟩ := slice_frm' ht.out.aft
      rw [hRn.out] at e1 e2 e3 e4
      subst e1 e2 e3 e4
      have HT := hid ht.out
      have G5 := hid (gr_trans GX.out hg.out)
      clear ht hg k0 k1 k2 k3 k4 k5 k6 k7 k8
      go_wp2_with fail
      obtain ⟨wB, hwB⟩ : ∃ wB, w5.alloc (.cells #[.slice aS k cS, .int .u32 (c0 : Int), .int .u32 (c1 : Int), .slice aB k cB, .slice aH k cH, .slice aA k cA] 38) = wB := ⟨_, rfl⟩
      have hTB := heap_alloc_new w5 (.cells #[.slice aS k cS, .int .u32 (c0 : Int), .int .u32 (c1 : Int), .slice aB k cB, .slice aH k cH, .slice aA k cA] 38)
      have hB5 := gr_alloc (gr_refl w5 none) (.cells #[.slice aS k cS, .int .u32 (c0 : Int), .int .u32 (c1 : Int), .slice aB k cB, .slice aH k cH, .slice aA k cA] 38)
      rw [hwB] at hTB hB5
      rw [hwB]
      clear hwB
      obtain ⟨tb, htb⟩ : ∃ tb, Hid (w5.heap.size = tb) := ⟨_, hid rfl⟩
      rw [htb.out] at hTB
      rw [htb.out]
      have GB := hid (gr_trans G5.out hB5)
      have HB5 := hid hB5
      have HTB := hid hTB
      obtain ⟨ab, ao, hA1⟩ : ∃ b off, Hid (aA = some ⟨b, off, none⟩ ∧ k ≤ cA ∧ ∀ W' : World, w5.grownBy W' none → ∀ j, j < k → W'.cell? ⟨b, off + j * 3, none⟩ = some (.int .i64 (R.aft j).m) ∧ W'.cell? ⟨b, off + j * 3 + 1, none⟩ = some (.int .i64 (R.aft j).b) ∧ W'.cell? ⟨b, off + j * 3 + 2, none⟩ = some (.int .i64 (R.aft j).r)) := by
        have h := HT.out.aft
        rw [hRn.out] at h
        obtain ⟨b, off, h1, h2, h3⟩ := slice3 h hn1.1
        exact ⟨b, off, hid ⟨h1, h2, h3⟩⟩
      obtain ⟨qb, qo, hQ1⟩ : ∃ b off, Hid (aH = some ⟨b, off, none⟩ ∧ k ≤ cH ∧ ∀ W' : World, w5.grownBy W' none → ∀ j, j < k → W'.cell? ⟨b, off + j, none⟩ = some (.int .i64 (R.hrd j : Int))) := by
        rcases HT.out.hrd with ⟨_, _, _, h0⟩ | ⟨b, off, c, e, h1, _, hf⟩
        · have := hRn.out; omega
        · injection e with e5 e6 e7
          rw [hRn.out] at h1 hf
          exact ⟨b, off, hid ⟨e5, by omega, fun W' g j hj => by have f0 := gr_cell g (hf j hj 0 (by omega)); dsimp only at f0; rwa [Nat.mul_one, Nat.add_zero] at f0⟩⟩
      obtain ⟨rfl, hcA, hAc⟩ := hA1.out
      obtain ⟨rfl, hcH, hQc⟩ := hQ1.out
      have HAc := hid hAc
      have HQc := hid hQc
      have t4 := hcell hTB 5 _ rfl
      clear hAc hQc hA1 hQ1 hTB hB5
      go_wp2_with fail
      clear t4
      go_loopw [12, 13, 58] (fun vh vx vi wr => ∃ (j : Nat) (last : Int), vi = .int .i64 j ∧ j ≤ k ∧ vx = .int .i64 last ∧ (0 ≤ last ∧ last ≤ 8589934592) ∧ Hid (∀ x ∈ heardTo R j, x.m ≤ last) ∧ Hid (wr.ownsRow wB.heap.size 54 3 vh (heardTo R j).length (flatQ 3 (heardTo R j).length (ckF (heardTo R j)))) ∧ Hid (wB.grownBy wr none)) (fun _ _ vi _ => k - (intOf vi).toNat)
      case atStart => exact ⟨0, 0, rfl, Nat.zero_le _, rfl, ⟨by omega, by omega⟩, hid (fun x hx => by simp [heardTo] at hx), hid (World.ownsRow_nil _ _ _ _), hid (gr_refl wB none)⟩
      case round =>
        obtain ⟨j, last, rfl, hj, rfl, ⟨l0, l1⟩, HM, HO2, HG2⟩ := hrel
        have hlen := heard_len R j
        by_cases hlt2 : j < k
        · have hj2 : (j : Int) < (k : Int) := by omega
          have hjA : j < cA := by omega
          have hjH : j < cH := by omega
          obtain ⟨p0, p1, p2⟩ := HAc.out wr (gr_trans HB5.out HG2.out) j hlt2
          have HSm := hid (HSame.out j hlt2)
          have HY := hid (fun h => heard_yes (R := R) (k := j) h)
          have HNo := hid (fun h => heard_no (R := R) (k := j) h)
          obtain ⟨⟨km, kb, kr⟩, hkk⟩ : ∃ x, Hid (R.aft j = x) := ⟨_, hid rfl⟩
          obtain ⟨q, hqq⟩ : ∃ q, Hid (R.hrd j = q) := ⟨_, hid rfl⟩
          rw [hkk.out] at p0 p1 p2 HSm HY
          dsimp only at p0 p1 p2 HSm
          rw [hqq.out] at HSm HY HNo
          obtain ⟨hl, hhl⟩ : ∃ x, Hid ((heardTo R j).length = x) := ⟨_, hid rfl⟩
          obtain ⟨XS, hXS⟩ : ∃ x, Hid (flatQ 3 (heardTo R j).length (ckF (heardTo R j)) = x) := ⟨_, hid rfl⟩
          have HO2' : Hid (wr.ownsRow wB.heap.size 54 3 u12 hl XS) := hid (by rw [← hXS.out, ← hhl.out]; exact HO2.out)
          have hhl6 : hl ≤ 6 := by have := hhl.out; omega
          have gb := gr_alloc (gr_refl wr none) (.cells #[.int .i64 km, .int .i64 kb, .int .i64 kr] 54)
          have r4 := hcell (gr_heap (gr_trans HG2.out gb) HTB.out (by simp)) 4 _ rfl
          have q0 := HQc.out _ (gr_trans HB5.out (gr_trans HG2.out gb)) j hlt2
          rw [hqq.out] at q0
          have HGb := hid (gr_trans HG2.out gb)
          have HOb := hid (HO2'.out.alloc (.cells #[.int .i64 km, .int .i64 kb, .int .i64 kr] 54))
          clear gb
          by_cases hq0 : 0 < q
          · have hqI : (0 : Int) < (q : Int) := by omega
            obtain ⟨m0, m1⟩ := HSm.out hq0
            have HY2 := hid (HY.out hq0)
            have hmx : 0 ≤ max last km ∧ max last km ≤ 8589934592 := by omega
            have HM2 : Hid (∀ x ∈ heardTo R (j + 1), x.m ≤ max last km) := hid (fun x hx => by
              rw [HY2.out] at hx
              rcases List.mem_append.1 hx with hx | hx
              · have := HM.out x hx; omega
              · obtain rfl := List.mem_singleton.1 hx
                show km ≤ _
                omega)
            go_wp2_with (at_builtin; refine wpList_append_own_at _ rfl (.tmp 69) (.tmp 71) 27 rfl wB.heap.size 54 i0 (.agg #[.int .i64 0, .int .i64 0, .int .i64 0]) 3 24 Tryz.underlying27 hi hz0 hz1 hz2 rfl (by decide) _ _ _ rfl (HOb.out.alloc _) ⟨wr.heap.size + 1, 0, none⟩ 1 1 [.int .i64 km, .int .i64 kb, .int .i64 kr] rfl rfl (news3 (box2 wr _ _)) (by simp [Value.oneCell']) (by unfold maxLen; omega) (by omega) (by have := HGb.out.size; simp at this ⊢; omega) ?_; intro v3 w6 hown6 hg6 _ hat6; have HO6 := hid hown6; have HG6 : Hid (wB.grownBy w6 none) := hid (gr_ownr (gr_alloc HGb.out _) hg6 (fun x hx => (HO2'.out.lt x hx).1)); have x0 := hcell (gr_heap hg6 (gr_heap (gr_alloc (gr_refl _ none) (.cells #[.int .i64 km, .int .i64 kb, .int .i64 kr] 54)) (heap_alloc_new wr (.cells #[.int .i64 km, .int .i64 kb, .int .i64 kr] 54)) (by simp)) (fun x => by have := (HO2'.out.lt _ x.symm).2; omega)) 0 _ rfl; clear hown6 hg6 hat6)
            have HO7 : Hid (w6.ownsRow wB.heap.size 54 3 v3 (heardTo R (j + 1)).length (flatQ 3 (heardTo R (j + 1)).length (ckF (heardTo R (j + 1))))) := hid (by
              have h := HO6.out
              rw [HY2.out, flat_snoc, List.length_append, List.length_singleton, hhl.out]
              rw [hhl.out] at hXS
              rw [hXS.out]
              exact h)
            refine ⟨⟨j + 1, max last km, by go_num, by omega, rfl, hmx, HM2, HO7, HG6⟩, ?_⟩
            simp [intOf]; omega
          · have hqI : ¬ (0 : Int) < (q : Int) := by omega
            have HN2 := hid (HNo.out hq0)
            have HM2 : Hid (∀ x ∈ heardTo R (j + 1), x.m ≤ last) := hid (by rw [HN2.out]; exact HM.out)
            have HO7 := hid (HO2.out.alloc (.cells #[.int .i64 km, .int .i64 kb, .int .i64 kr] 54))
            rw [← HN2.out] at HO7
            go_wp2_with fail
            go_roundw
            case rel => exact ⟨j + 1, last, by go_num, by omega, rfl, ⟨l0, l1⟩, HM2, HO7, HGb⟩
            case measure => simp [intOf]; omega
        · obtain rfl : j = k := by omega
          clear hlt2
          obtain ⟨hsb, hsv⟩ := HSpr.out last HM.out ⟨l0, l1⟩
          have HCk2 : Hid (CksAt wr.heap.size wr u12 (heardTo R j)) := hid (by unfold CksAt; exact slice_own HO2.out (fun q hq i hi => flatQ_at _ hq hi))
          have GE := hid (gr_trans GB.out HG2.out)
          obtain ⟨ah, ch, e9⟩ := slice_frm' HCk2.out
          subst e9
          obtain ⟨t0, t1⟩ := ht
          have s1 : IntKind.i64.wrap t = t := IntWalk.i64_in _ (by omega)
          obtain ⟨T, hT⟩ : ∃ T, last + t = T := ⟨_, rfl⟩
          have s2 : wrap64 (last + t) = T := by rw [hT]; unfold wrap64; omega
          have s3 : IntKind.i64.wrap (last + t) = T := by rw [hT]; exact IntWalk.i64_in _ (by omega)
          have HSp := hid (spread_any _ (heardTo R j) (last + t) wr HCk2.out (by omega))
          rw [hsb, hsv, hT] at HSp
          obtain ⟨hl, hhl⟩ : ∃ x, Hid ((heardTo R j).length = x) := ⟨_, hid rfl⟩
          rw [hhl.out] at HSp
          rw [hhl.out]
          clear hsb hsv hT hlen
          by_cases h0 : 0 < hl
          · rw [decide_eq_true h0] at HSp
            have h0I : ((hl : Int) == 0) = false := by simp; omega
            go_wp2_with fail
            refine HSp.out.mono ?_
            rintro e w9 ⟨rfl, g9⟩
            have G9 := hid (gr_trans GE.out g9)
            clear g9
            go_wp2_with fail
            go_ret
            exact ⟨rfl, G9.out⟩
          · obtain rfl : hl = 0 := by omega
            rw [decide_eq_false h0] at HSp
            go_wp2_with fail
            refine HSp.out.mono ?_
            rintro e w9 ⟨rfl, g9⟩
            have G9 := hid (gr_trans GE.out g9)
            clear g9
            go_wp2_with fail
            go_ret
            exact ⟨rfl, G9.out⟩

set_option maxRecDepth 1000000 in
set_option maxHeartbeats 600000 in
theorem rright_bad (d : Net) (vd ve vl bv : Value) (t : Int) (w : World) (hN : NetAt w.heap.size w d vd ve vl) (hck : checkZ d ≠ 0) :
    Calls Tryz.prog 4 #[cfV d.cf vd ve vl, bv, .int .u32 t] w (LawPost w) := by
  have HN := hid hN
  obtain ⟨⟨ho, C, de, wi, pr, qu⟩, hcf⟩ : ∃ c, Hid (d.cf = c) := ⟨_, hid rfl⟩
  obtain ⟨v, hv⟩ : ∃ v, Hid (checkZ d = v) := ⟨_, hid rfl⟩
  have HChk : Hid (∀ W : World, w.grownBy W none → Calls Tryz.prog 16 #[(.agg #[.int .i64 ho, .int .i64 C, .int .i64 de, .int .i64 wi, .int .i64 pr, vd, ve, vl, .int .i64 qu])] W fun e w' => e = .returned (.int .i64 v) ∧ W.grownBy w' none) := hid (fun W g => by
    have H := rcheck_any d vd ve vl W (HN.out.later g)
    rw [hv.out, hcf.out] at H
    exact H)
  have hvb : (v != 0) = true := by rw [hv.out] at hck; simpa using hck
  rw [hcf.out]
  clear hN hck
  obtain ⟨bx, hbx⟩ : ∃ bx, Hid (w.heap.size = bx) := ⟨_, hid rfl⟩
  have G0 := hid (gr_alloc (gr_refl w none) (.cells #[.int .i64 ho, .int .i64 C, .int .i64 de, .int .i64 wi, .int .i64 pr, vd, ve, vl, .int .i64 qu] 26))
  have B0 := hid (heap_alloc_new w (.cells #[.int .i64 ho, .int .i64 C, .int .i64 de, .int .i64 wi, .int .i64 pr, vd, ve, vl, .int .i64 qu] 26))
  rw [hbx.out] at B0
  go_enter Tryz.func4, Tryz.ntmps4
  go_wp2_with fail
  rw [hbx.out]
  refine (fixed_true _).mono ?_
  rintro e w1 ⟨rfl, g1⟩
  have C0 := hid (gr_heap g1 B0.out (by simp))
  have G1 := hid (gr_trans G0.out g1)
  clear g1 G0 B0
  have k0 := hcell C0.out 0 _ rfl
  have k1 := hcell C0.out 1 _ rfl
  have k2 := hcell C0.out 2 _ rfl
  have k3 := hcell C0.out 3 _ rfl
  have k4 := hcell C0.out 4 _ rfl
  have k5 := hcell C0.out 5 _ rfl
  have k6 := hcell C0.out 6 _ rfl
  have k7 := hcell C0.out 7 _ rfl
  have k8 := hcell C0.out 8 _ rfl
  go_wp2_with fail
  refine (HChk.out _ G1.out).mono ?_
  rintro e w2 ⟨rfl, g2⟩
  have G2 := hid (gr_trans G1.out g2)
  clear g2 k0 k1 k2 k3 k4 k5 k6 k7 k8
  go_wp2_with fail
  go_ret
  exact ⟨rfl, G2.out⟩
theorem rright_law (d : Net) (vd ve vl bv : Value) (zs : List Int) (t : Int) (w : World) (hN : NetAt w.heap.size w d vd ve vl) (hB : B32At w.heap.size w bv zs) (hz : I32 zs) (ht : 0 ≤ t ∧ t ≤ 4294967295) :
    Calls Tryz.prog 4 #[cfV d.cf vd ve vl, bv, .int .u32 t] w (LawPost w) := by
  by_cases hck : checkZ d = 0
  · exact rright_good d vd ve vl bv zs t w hN hB hz ht hck
  · exact rright_bad d vd ve vl bv t w hN hck
end Go.Proofs.YtckoaeoecjphiaaGreat

/- Arguments opened: numbers of 32 bits; a word of 32 bits; cases. -/
namespace Go.Proofs.YtckoaeoecjphiaaGreat
open Go.ChangeShapes Go.WideShapes Go.ChangeAt Go.RowKit Go.Deep Go.Lib

section
variable {H : Type} {enc : TypeId × Value → H} {P : Program} {w : World} {base : Nat} {spare : Nat → Bool} {held : Bool}
theorem open_u32w {r : Reach} {b0 : Nat} {t : TypeId} {v : Value} {d : DataW H} {p : List MemPlace} (ht : P.underlying t = some (.int .u32))
    (hv : Value.okWide P w r b0 t v) (h : DataW.Trod enc P w base spare held t v d p) :
    ∃ a : Int, v = .int .u32 a ∧ 0 ≤ a ∧ a ≤ 4294967295 := by
  obtain ⟨x, rfl, _, _, wx⟩ := open_int ht hv h
  exact ⟨x, rfl, by simpa [Lit.wf, IntKind.min, IntKind.max, IntKind.signed, IntKind.bits] using wx⟩
theorem wf_i32 {n : Int} (h : (Lit.int .i32 n).wf = true) : -2147483648 ≤ n ∧ n ≤ 2147483647 := by simpa [Lit.wf, IntKind.min, IntKind.max, IntKind.signed, IntKind.bits] using h
theorem open_i32s {r : Reach} {b0 : Nat} {t e : TypeId} {v : Value} {d : DataW H} {p : List MemPlace} (ht : P.underlying t = some (.slice e)) (hl : leavesOf P 3 e = some [.int .i32]) (hC : P.cellsOf e = 1)
    (h : DataW.Trod enc P w base spare held t v d p) (hv : Value.okWide P w r b0 t v) : ∃ sv l, v = sv ∧ B32At w.heap.size w sv l ∧ I32 l := by
  obtain ⟨a0, len0, cap0, rfl⟩ := okWide_slice ht hv
  obtain ⟨fuel, hf⟩ := h
  obtain ⟨a, len, cap, V, hcs, hr, hc, _⟩ := rows_cells ht hl (by decide) hC hf
  simp [Value.cells] at hcs
  obtain ⟨rfl, rfl, rfl⟩ := hcs
  have hlen : ((List.range len0).map fun i => intOf (V i 0)).length = len0 := by simp
  refine ⟨_, (List.range len0).map fun i => intOf (V i 0), rfl, ?_, ?_⟩
  · unfold B32At
    rw [hlen]
    refine rows_at hr hc (fun j hj i l hl hok => ?_)
    match i, hl with
    | 0, hl =>
      simp at hl
      subst hl
      rw [(leaf_int hok).1]
      simp [nth, hj, intOf]
    | n + 1, hl => simp at hl
  · intro y hy
    obtain ⟨j, hj, rfl⟩ := List.mem_map.1 hy
    have hj' := List.mem_range.1 hj
    rcases hr with rfl | ⟨b, off, rfl, hb, hrow⟩
    · omega
    · obtain ⟨_, h2⟩ := hrow j hj' 0 _ rfl
      exact wf_i32 (leaf_int h2).2
end
end Go.Proofs.YtckoaeoecjphiaaGreat

/- RoundRight: for every configuration, bases and time the law answers true: with right clocks and nothing lost, all that heard a frame show the same behind the round. No condition. -/
namespace Go.Proofs.YtckoaeoecjphiaaGreat
open Go.ChangeShapes Go.WideShapes Go.ChangeAt Go.RowKit
open Go.ChangeMaps (open_string shut_string)
set_option linter.unusedVariables false

theorem rightrow_all (d : Net) (vd ve vl : Value) {w : World} (hN : NetAt w.heap.size w d vd ve vl) (bv : Value) (zs : List Int) (hB : B32At w.heap.size w bv zs) (hz : I32 zs) (t : Int) (ht : 0 ≤ t ∧ t ≤ 4294967295) :
    Calls Tryz.prog 4 #[cfV d.cf vd ve vl, bv, .int .u32 t] w fun e w' => e = .returned (.bool true) ∧ Below w.heap.size w w' :=
  (rright_law d vd ve vl bv zs t w hN hB hz ht).mono fun e w' h => ⟨h.1, gr_below h.2 (Nat.le_refl _) (by simp)⟩

set_option maxRecDepth 100000 in
theorem roundRight_lifted (os : Os) (started : os.Started) (H : Type) (enc : TypeId × Value → H) :
    ReturnsInHanded {} Tryz.checked os 4 .any (Rows.roundRightSpec.pre6 enc Tryz.prog Tryz.f4 Rows.roundRightRow.domain false) (Rows.roundRightSpec.post enc Tryz.prog Tryz.f4 false true false false) := by
  refine returnsInHanded_of_change_sized (C := Tryz.checked) own_none started (by kernel_rfl) Tryz.func4
    (ChangeSpec.witness6 (enc := enc) (C := Tryz.checked) false ⟨#[], #[.agg #[.int .i64 0, .int .i64 0, .int .i64 0, .int .i64 0, .int .i64 0, .slice none 0 0, .slice none 0 0, .slice none 0 0, .int .i64 0], .slice none 0 0, .int .u32 0], []⟩ 8 (by kernel_rfl) (by kernel_rfl) (by kernel_rfl) (by kernel_rfl)) ?_
  intro W base args ds gs before hval0 hW hcnd hsz0 _
  have hsz : (DataW.weightsEach Tryz.prog (Tryz.f4.params.toList ++ Rows.roundRightSpec.plain.varTypes Tryz.prog) (ds ++ gs)).all (· ≤ reachBytes) = true := hsz0
  clear hsz0
  have hval : ∀ (j : Nat) t v, Tryz.f4.params[j]? = some t → args[j]? = some v → Value.okWide Tryz.prog W .any base t v := hval0
  have hW' := hW
  obtain ⟨p, q, hA0, hV, rfl, hfz, hnd⟩ := hW
  have hA : DataW.TrodAll enc Tryz.prog W 0 (fun _ => true) true Tryz.f4.params.toList args.toList ds p := hA0
  rw [Tryz.params4] at hA hval hsz
  obtain ⟨v0, vs0, d0, ds0, p0, q0, hargs, rfl, rfl, h0, r0⟩ := trodAll_cons hA
  obtain ⟨v1, vs1, d1, ds1, p1, q1, rfl, rfl, rfl, h1, r1⟩ := trodAll_cons r0
  obtain ⟨v2, vs2, d2, ds2, p2, q2, rfl, rfl, rfl, h2, r2⟩ := trodAll_cons r1
  obtain ⟨rfl, rfl, rfl⟩ := trodAll_nil r2
  obtain rfl : args = #[v0, v1, v2] := by cases args; simp_all
  obtain ⟨rfl, rfl⟩ := trodVars_none hV
  have k0 := h0
  have lt0 : ∀ x ∈ p0, x.block < W.heap.size := by obtain ⟨m, hm⟩ := k0; exact DataW.trod_lt m _ _ _ hm
  have k1 := h1
  have lt1 : ∀ x ∈ p1, x.block < W.heap.size := by obtain ⟨m, hm⟩ := k1; exact DataW.trod_lt m _ _ _ hm
  have k2 := h2
  have lt2 : ∀ x ∈ p2, x.block < W.heap.size := by obtain ⟨m, hm⟩ := k2; exact DataW.trod_lt m _ _ _ hm
  obtain ⟨D0, vd0, ve0, vl0, rfl, N0⟩ := open_config (hval 0 26 v0 rfl rfl) h0 (within_arg hsz (j := 0) rfl rfl)
  obtain ⟨sv1, zs1, rfl, bk1, ik1⟩ := open_i32s Tryz.underlying51 (by kernel_rfl) (by kernel_rfl) h1 (hval 1 51 v1 rfl rfl)
  obtain ⟨a2, rfl, b2⟩ := open_u32w Tryz.underlying28 (hval 2 28 v2 rfl rfl) h2
  clear hA0 hval0
  refine (rightrow_all D0 vd0 ve0 vl0 N0 v1 zs1 bk1 ik1 a2 b2).mono fun e W' ⟨he, bel⟩ => ?_
  subst he
  exact ⟨_, rfl, _, _, _, [], _, [], hW', trodAll_mk1 (shut_bool Tryz.underlying4 _), (trodAll_cons_mk (Below.trod laid_out (by kernel_rfl) (of_decide_eq_true (by kernel_rfl)) k0 bel lt0) (trodAll_cons_mk (Below.trod laid_out (by kernel_rfl) (of_decide_eq_true (by kernel_rfl)) k1 bel lt1) (trodAll_cons_mk (Below.trod laid_out (by kernel_rfl) (of_decide_eq_true (by kernel_rfl)) k2 bel lt2) trodAll_mk0))), rfl, bel.frame _, fun h => by cases h⟩

theorem roundRight_holds : Rows.RoundRightSaid :=
  OpenClaim.holds_of_wide 4 Tryz.f4 rfl rfl rfl rfl rfl rfl rfl ⟨rfl, rfl, rfl, rfl, rfl⟩ rfl rfl rfl rfl rfl (by kernel_rfl) Tryz.func4 (by kernel_rfl)
    (of_decide_eq_true (by kernel_rfl)) (by unfold Func.isWrapper; rw [if_neg (of_decide_eq_false (by kernel_rfl))]; exact ⟨rfl, rfl⟩)
    (fun os started H enc _ => roundRight_lifted os started H enc)

#print axioms roundRight_holds
end Go.Proofs.YtckoaeoecjphiaaGreat
