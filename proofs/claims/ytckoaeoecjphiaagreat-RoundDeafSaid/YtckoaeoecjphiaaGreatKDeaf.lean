/- RoundDeaf: for every configuration, clocks, losses and host the law answers true: a host at which nothing arrives keeps its clock as it is, and one whose frames are lost is in no crew. No condition. -/
import Derived.Test.YtckoaeoecjphiaaGreatK53
import Derived.Test.YtckoaeoecjphiaaGreatK43
import Derived.Test.YtckoaeoecjphiaaGreatK44
import Derived.Test.YtckoaeoecjphiaaGreatK52

/- Arguments opened: integers of other kinds. -/
namespace Go.Proofs.YtckoaeoecjphiaaGreat
open Go.ChangeShapes Go.WideShapes Go.ChangeAt Go.RowKit

section
variable {H : Type} {enc : TypeId × Value → H} {P : Program} {w : World} {base : Nat} {spare : Nat → Bool} {held : Bool}
theorem open_u8 {r : Reach} {b0 : Nat} {t : TypeId} {v : Value} {d : DataW H} {p : List MemPlace} (ht : P.underlying t = some (.int .u8))
    (hv : Value.okWide P w r b0 t v) (h : DataW.Trod enc P w base spare held t v d p) :
    ∃ a : Int, v = .int .u8 a ∧ 0 ≤ a ∧ a ≤ 255 := by
  obtain ⟨x, rfl, _, _, wx⟩ := open_int ht hv h
  exact ⟨x, rfl, by simpa [Lit.wf, IntKind.min, IntKind.max, IntKind.signed, IntKind.bits] using wx⟩
theorem open_i32 {r : Reach} {b0 : Nat} {t : TypeId} {v : Value} {d : DataW H} {p : List MemPlace} (ht : P.underlying t = some (.int .i32))
    (hv : Value.okWide P w r b0 t v) (h : DataW.Trod enc P w base spare held t v d p) :
    ∃ a : Int, v = .int .i32 a ∧ -2147483648 ≤ a ∧ a ≤ 2147483647 := by
  obtain ⟨x, rfl, _, _, wx⟩ := open_int ht hv h
  exact ⟨x, rfl, by simpa [Lit.wf, IntKind.min, IntKind.max, IntKind.signed, IntKind.bits] using wx⟩
theorem open_u64 {r : Reach} {b0 : Nat} {t : TypeId} {v : Value} {d : DataW H} {p : List MemPlace} (ht : P.underlying t = some (.int .u64))
    (hv : Value.okWide P w r b0 t v) (h : DataW.Trod enc P w base spare held t v d p) :
    ∃ a : Int, v = .int .u64 a ∧ 0 ≤ a ∧ a ≤ 18446744073709551615 := by
  obtain ⟨x, rfl, _, _, wx⟩ := open_int ht hv h
  exact ⟨x, rfl, by simpa [Lit.wf, IntKind.min, IntKind.max, IntKind.signed, IntKind.bits] using wx⟩
end
end Go.Proofs.YtckoaeoecjphiaaGreat

/- What the laws' walks share (a copy of RLaw1's beginning, for a claim of its own). -/
namespace Go.Proofs.YtckoaeoecjphiaaGreat
open Go.RowKit Go.Lib

theorem slice_frm' {n₀ : Nat} {W : World} {sv : Value} {k n : Nat} {f : Nat → Nat → Value} (h : SliceAt n₀ W sv k n f) : ∃ a c, sv = .slice a n c := by
  rcases h with ⟨a, c, rfl, h0⟩ | ⟨_, _, c, rfl, _⟩
  · exact ⟨_, _, by rw [h0]⟩
  · exact ⟨_, _, rfl⟩
theorem told_grown {W W' : World} {R : Rd} {vs vb vh va : Value} (h : ToldAt W R vs vb vh va) (g : W.grownBy W' none) : ToldAt W' R vs vb vh va := told_kept h g (fun q hq => by cases hq) (fun q hq => by cases hq) (fun q hq => by cases hq) (fun q hq => by cases hq)
abbrev LawPost (w : World) : Ending → World → Prop := fun e w' => e = .returned (.bool true) ∧ w.grownBy w' none
end Go.Proofs.YtckoaeoecjphiaaGreat

/- The document's round, for a claim of its own. -/

/- RoundDeaf: the walk. -/
namespace Go.Proofs.YtckoaeoecjphiaaGreat
open Go.RowKit Go.Lib

theorem came_lost {de wi : Int} {lost : Nat} : ∀ (n : Nat) (xs : List Sd), xs.length = n → ∀ x ∈ cameS de wi lost xs, hasN lost x.h = false
  | 0, xs, hl => by
    have : xs = [] := List.length_eq_zero_iff.1 hl
    subst this
    simp [cameS]
  | n + 1, xs, hl => by
    have hne : xs ≠ [] := by intro e; subst e; simp at hl
    obtain ⟨r, x, rfl⟩ : ∃ r x, xs = r ++ [x] := ⟨xs.dropLast, xs.getLast hne, (List.dropLast_concat_getLast hne).symm⟩
    have ih := came_lost (de := de) (wi := wi) (lost := lost) n r (by simpa using hl)
    rw [cameS_snoc]
    intro y hy
    by_cases hx : hasN lost x.h = true
    · have e : takeS de wi lost (cameS de wi lost r) x = cameS de wi lost r := by unfold takeS; rw [if_pos hx]
      rw [e] at hy
      exact ih y hy
    · rcases takeS_sub de wi lost (cameS de wi lost r) x with e | e
      · rw [e] at hy; exact ih y hy
      · rw [e] at hy
        rcases List.mem_append.1 hy with hy | hy
        · exact ih y hy
        · obtain rfl := List.mem_singleton.1 hy
          exact Bool.eq_false_iff.2 hx
theorem crew_bit {R : Rd} (hR : RdOk R) {w h : Nat} (hh : h < 6) (hl : hasN (R.up w) h = true) : hasN (R.crew w) h = false := by
  obtain ⟨ys, hys⟩ := sorts_ex R
  obtain ⟨_, h2, h3⟩ := sdTo_sort R.l R.p hys.perm hys.srt
  have hc := hR.came hys w
  have h6 := hR.len.1
  have h4 := crew_of (de := 0) (cy := 0) (cl := 0) _ (R.came w) rfl (h2.sublist hc.sub) (fun y hy => by have := (h3 y (hc.sub.subset hy)).1; omega)
  rw [Bool.eq_false_iff]
  intro e
  have e' : hasB (R.crew w) h = true := e
  obtain ⟨i, hi, e2⟩ := (h4.has h hh).1 e'
  have hi' : i < (R.came w).length := by simpa using hi
  rw [cith_map hi'] at e2
  have h5 : hasN (R.up w) (nthS (R.came w) i).h = false := came_lost _ _ rfl _ (by rw [nthS_get hi']; exact List.getElem_mem hi')
  have e3 : (nthS (R.came w) i).h = h := e2
  rw [e3, hl] at h5
  cases h5
theorem deaf_all {R : Rd} {h : Nat} (hd : ∀ w, w < 2 → hasN (R.down w) h = true) : R.by_ h = 0 ∧ R.hrd h = 0 ∧ R.aft h = nthC R.l h := by
  have ho : ∀ w, w < 2 → R.on h w = false := fun w hw => by
    unfold Rd.on
    rw [hd w hw]
    simp
  have hf : R.fs h = [] := by
    show R.fr h 1 (R.fr h 0 []) = []
    unfold Rd.fr
    rw [ho 0 (by omega), ho 1 (by omega)]
    simp
  have hz : R.hrd h = 0 := by unfold Rd.hrd; rw [hf]; rfl
  refine ⟨by unfold Rd.by_; rw [hf]; rfl, hz, ?_⟩
  unfold Rd.aft
  rw [hz]
  simp
/-- A word with a bit set. -/
def orN (x h : Nat) : Nat := x ||| 2 ^ h
theorem pow_lt {h : Nat} (hh : h < 6) : 2 ^ h < 64 := by
  match h, hh with
  | 0, _ => decide
  | 1, _ => decide
  | 2, _ => decide
  | 3, _ => decide
  | 4, _ => decide
  | 5, _ => decide
theorem orN_lt {x h : Nat} (hx : x < 4294967296) (hh : h < 6) : orN x h < 4294967296 := by
  have := pow_lt hh
  exact Nat.or_lt_two_pow (n := 32) (by omega) (by omega)
theorem orN_has (x h : Nat) : hasN (orN x h) h = true := by
  unfold hasN orN
  have h1 : (x ||| 2 ^ h).testBit h = true := by rw [Nat.testBit_or, Nat.testBit_two_pow_self, Bool.or_true]
  rw [Nat.testBit_eq_decide_div_mod_eq] at h1
  exact h1
theorem bits_or_u32_nat (a b : Nat) (ha : a < 4294967296) (hb : b < 4294967296) : bits .or .u32 (a : Int) (b : Int) = ((a ||| b : Nat) : Int) := by
  have hx : a ||| b < 2 ^ 32 := Nat.or_lt_two_pow (by omega) (by omega)
  have h1 : (BitVec.ofInt 32 (a : Int)).toNat = a := by
    rw [BitVec.ofInt_natCast, BitVec.toNat_ofNat]; exact Nat.mod_eq_of_lt (by omega)
  have h2 : (BitVec.ofInt 32 (b : Int)).toNat = b := by
    rw [BitVec.ofInt_natCast, BitVec.toNat_ofNat]; exact Nat.mod_eq_of_lt (by omega)
  show IntKind.u32.wrap ((BitVec.ofInt 32 (a : Int) ||| BitVec.ofInt 32 (b : Int)).toNat : Int) = _
  rw [BitVec.toNat_or, h1, h2, IntKind.wrap_u32]
  omega
theorem or_bit32 {x h : Nat} (hx : x < 4294967296) (hh : h < 6) : bits .or .u32 (x : Int) ((2 : Int) ^ h) = (orN x h : Int) := by
  have h1 := bits_or_u32_nat x (2 ^ h) hx (by have := pow_lt hh; omega)
  rw [show ((2 : Int) ^ h) = ((2 ^ h : Nat) : Int) by simp]
  exact h1

set_option maxRecDepth 1000000 in
set_option maxHeartbeats 600000 in
theorem rdeaf_good (d : Net) (vd ve vl sv : Value) (hb : Nat) (l : List Ck) (y : Ls) (w : World) (hN : NetAt w.heap.size w d vd ve vl) (hs : CksAt w.heap.size w sv l) (hz : l.length * 24 ≤ 140737488351232) (hy : y.ok) (hh : hb < 256) (hck : checkZ d = 0) :
    Calls Tryz.prog 6 #[cfV d.cf vd ve vl, .agg #[sv, .int .u32 (y.u0 : Int), .int .u32 (y.u1 : Int), .int .u32 (y.w0 : Int), .int .u32 (y.w1 : Int)], .int .u8 (hb : Int)] w (LawPost w) := by
  have HN := hid hN
  have HS := hid hs
  have Hz := hid hz
  have Hy := hid hy
  obtain ⟨a, cap, rfl⟩ := ckslice hs
  obtain ⟨n, hn⟩ : ∃ n, Hid (l.length = n) := ⟨_, hid rfl⟩
  obtain ⟨x0, x1, x2, x3⟩ := y
  obtain ⟨⟨ho, C, de, wi, pr, qu⟩, hcf⟩ : ∃ c, Hid (d.cf = c) := ⟨_, hid rfl⟩
  rw [hn.out, hcf.out]
  rw [hn.out] at HS
  clear hN hs hz hy
  obtain ⟨bx, hbx⟩ : ∃ bx, Hid (w.heap.size = bx) := ⟨_, hid rfl⟩
  have G0 := hid (gr_alloc (gr_alloc (gr_refl w none) (.cells #[.int .i64 ho, .int .i64 C, .int .i64 de, .int .i64 wi, .int .i64 pr, vd, ve, vl, .int .i64 qu] 26)) (.cells #[.slice a n cap, .int .u32 (x0 : Int), .int .u32 (x1 : Int), .int .u32 (x2 : Int), .int .u32 (x3 : Int)] 33))
  have B0 := hid (gr_heap (gr_alloc (gr_refl _ none) (.cells #[.slice a n cap, .int .u32 (x0 : Int), .int .u32 (x1 : Int), .int .u32 (x2 : Int), .int .u32 (x3 : Int)] 33)) (heap_alloc_new w (.cells #[.int .i64 ho, .int .i64 C, .int .i64 de, .int .i64 wi, .int .i64 pr, vd, ve, vl, .int .i64 qu] 26)) (by simp))
  have B1 := hid (box2 w (.cells #[.int .i64 ho, .int .i64 C, .int .i64 de, .int .i64 wi, .int .i64 pr, vd, ve, vl, .int .i64 qu] 26) (.cells #[.slice a n cap, .int .u32 (x0 : Int), .int .u32 (x1 : Int), .int .u32 (x2 : Int), .int .u32 (x3 : Int)] 33))
  rw [hbx.out] at B0 B1
  have HCK : Hid (∀ W : World, w.grownBy W none → CksAt W.heap.size W (.slice a n cap) l) := hid (fun W g => (SliceAt.grown HS.out g).wider g.size)
  have HNt : Hid (∀ W : World, w.grownBy W none → NetAt W.heap.size W d vd ve vl) := hid (fun W g => HN.out.later g)
  have HChk : Hid (∀ W : World, w.grownBy W none → Calls Tryz.prog 16 #[(.agg #[.int .i64 ho, .int .i64 C, .int .i64 de, .int .i64 wi, .int .i64 pr, vd, ve, vl, .int .i64 qu])] W fun e w' => e = .returned (.int .i64 0) ∧ W.grownBy w' none) := hid (fun W g => by
    have H := rcheck_any d vd ve vl W (HNt.out W g)
    rw [hck, hcf.out] at H
    exact H)
  have hho : 1 ≤ ho ∧ ho ≤ 6 := by
    have h1 := (check_cy hck).2.1
    rw [hcf.out] at h1
    exact h1
  obtain ⟨h, hhe⟩ : ∃ h : Nat, (hb : Int) % ho = (h : Int) := ⟨((hb : Int) % ho).toNat, by rw [Int.toNat_of_nonneg (Int.emod_nonneg _ (by omega))]⟩
  have hhlt : (h : Int) < ho := by rw [← hhe]; exact Int.emod_lt_of_pos _ (by omega)
  have hh6 : h < 6 := by omega
  have htm : (hb : Int).tmod ho = (h : Int) := by rw [Int.tmod_eq_emod_of_nonneg (by omega), hhe]
  have hhz : (ho == 0) = false := by simp; omega
  have Hck := hid hck
  clear hck hhe
  go_enter Tryz.func6, Tryz.ntmps6
  go_wp2_with fail
  rw [hbx.out]
  refine (fixed_true _).mono ?_
  rintro e w1 ⟨rfl, g1⟩
  have C0 := hid (gr_heap g1 B0.out (by simp))
  have C1 := hid (gr_heap g1 B1.out (by simp))
  have G1 := hid (gr_trans G0.out g1)
  clear g1 G0 B0 B1
  have k0 := hcell C0.out 0 _ rfl
  have k1 := hcell C0.out 1 _ rfl
  have k2 := hcell C0.out 2 _ rfl
  have k3 := hcell C0.out 3 _ rfl
  have k4 := hcell C0.out 4 _ rfl
  have k5 := hcell C0.out 5 _ rfl
  have k6 := hcell C0.out 6 _ rfl
  have k7 := hcell C0.out 7 _ rfl
  have k8 := hcell C0.out 8 _ rfl
  go_wp2_with fail
  refine (HChk.out _ G1.out).mono ?_
  rintro e w2 ⟨rfl, g2⟩
  have D0 := hid (gr_heap g2 C0.out (by simp))
  have D1 := hid (gr_heap g2 C1.out (by simp))
  have G2 := hid (gr_trans G1.out g2)
  clear g2 G1 C0 C1 k0 k1 k2 k3 k4 k5 k6 k7 k8
  have k0 := hcell D0.out 0 _ rfl
  have j1 := hcell D1.out 1 _ rfl
  have j2 := hcell D1.out 2 _ rfl
  have j3 := hcell D1.out 3 _ rfl
  have j4 := hcell D1.out 4 _ rfl
  go_wp2_with fail
  obtain ⟨lb, hlb⟩ : ∃ lb, Hid (w2.heap.size = lb) := ⟨_, hid rfl⟩
  have HL0 := hid (heap_alloc_new w2 (.cells #[.int .u32 (x0 : Int), .int .u32 (x1 : Int), .int .u32 (x2 : Int), .int .u32 (x3 : Int)] 31))
  have HG0 := hid (gr_alloc (gr_refl w2 none) (.cells #[.int .u32 (x0 : Int), .int .u32 (x1 : Int), .int .u32 (x2 : Int), .int .u32 (x3 : Int)] 31))
  rw [hlb.out] at HL0
  rw [hlb.out]
  clear k0 j1 j2 j3 j4
  have t1 : IntKind.u64.wrap (h : Int) = (h : Int) := by rw [IntKind.wrap_u64]; omega
  have hpow : (2 : Int) ^ h % 4294967296 = 2 ^ h := by
    have := pow_lt hh6
    have h2 : ((2 : Int) ^ h) = ((2 ^ h : Nat) : Int) := by simp
    rw [h2]
    obtain ⟨q, hq⟩ : ∃ q : Nat, 2 ^ h = q := ⟨_, rfl⟩
    rw [hq] at this ⊢
    omega
  have r0 : bits .or .u32 (x0 : Int) ((2 : Int) ^ h) = (orN x0 h : Int) := or_bit32 Hy.out.1 hh6
  have r1 : bits .or .u32 (x1 : Int) ((2 : Int) ^ h) = (orN x1 h : Int) := or_bit32 Hy.out.2.1 hh6
  have r2 : bits .or .u32 (x2 : Int) ((2 : Int) ^ h) = (orN x2 h : Int) := or_bit32 Hy.out.2.2.1 hh6
  have r3 : bits .or .u32 (x3 : Int) ((2 : Int) ^ h) = (orN x3 h : Int) := or_bit32 Hy.out.2.2.2 hh6
  go_loopw [24] (fun vi wr => ((vi = .int .i64 0 ∧ Hid (wr.heap[lb]? = some (.cells #[.int .u32 (x0 : Int), .int .u32 (x1 : Int), .int .u32 (x2 : Int), .int .u32 (x3 : Int)] 31))) ∨ (vi = .int .i64 1 ∧ Hid (wr.heap[lb]? = some (.cells #[.int .u32 (orN x0 h : Int), .int .u32 (x1 : Int), .int .u32 (orN x2 h : Int), .int .u32 (x3 : Int)] 31))) ∨ (vi = .int .i64 2 ∧ Hid (wr.heap[lb]? = some (.cells #[.int .u32 (orN x0 h : Int), .int .u32 (orN x1 h : Int), .int .u32 (orN x2 h : Int), .int .u32 (orN x3 h : Int)] 31)))) ∧ Hid (w2.grownBy wr none)) (fun vi _ => 2 - (intOf vi).toNat)
  case atStart => exact ⟨.inl ⟨rfl, HL0⟩, HG0⟩
  case round =>
    obtain ⟨hc, HG⟩ := hrel
    rcases hc with ⟨rfl, HL⟩ | ⟨rfl, HL⟩ | ⟨rfl, HL⟩
    · have q0 := hcell HL.out 0 _ rfl
      have q2 := hcell HL.out 2 _ rfl
      have f0 := hfroz HL.out 0
      have f2 := hfroz HL.out 2
      have HL1 := hid (show ((wr.setCell ⟨lb, 2, none⟩ (.int .u32 (orN x2 h : Int))).setCell ⟨lb, 0, none⟩ (.int .u32 (orN x0 h : Int))).heap[lb]? = some (.cells #[.int .u32 (orN x0 h : Int), .int .u32 (x1 : Int), .int .u32 (orN x2 h : Int), .int .u32 (x3 : Int)] 31) by
        rw [set_cells (set_cells HL.out 2 _) 0 _]; simp only [List.setIfInBounds_toArray, List.set_cons_zero, List.set_cons_succ])
      have HG1 := hid (gr_setNew (gr_setNew HG.out (Nat.le_of_eq hlb.out) 2 (.int .u32 (orN x2 h : Int))) (Nat.le_of_eq hlb.out) 0 (.int .u32 (orN x0 h : Int)))
      go_wp2_with fail
      go_roundw
      case rel => exact ⟨.inr (.inl ⟨rfl, HL1⟩), HG1⟩
      case measure => simp [intOf]
    · have q0 := hcell HL.out 1 _ rfl
      have q2 := hcell HL.out 3 _ rfl
      have f0 := hfroz HL.out 1
      have f2 := hfroz HL.out 3
      have HL1 := hid (show ((wr.setCell ⟨lb, 3, none⟩ (.int .u32 (orN x3 h : Int))).setCell ⟨lb, 1, none⟩ (.int .u32 (orN x1 h : Int))).heap[lb]? = some (.cells #[.int .u32 (orN x0 h : Int), .int .u32 (orN x1 h : Int), .int .u32 (orN x2 h : Int), .int .u32 (orN x3 h : Int)] 31) by
        rw [set_cells (set_cells HL.out 3 _) 1 _]; simp only [List.setIfInBounds_toArray, List.set_cons_zero, List.set_cons_succ])
      have HG1 := hid (gr_setNew (gr_setNew HG.out (Nat.le_of_eq hlb.out) 3 (.int .u32 (orN x3 h : Int))) (Nat.le_of_eq hlb.out) 1 (.int .u32 (orN x1 h : Int)))
      go_wp2_with fail
      go_roundw
      case rel => exact ⟨.inr (.inr ⟨rfl, HL1⟩), HG1⟩
      case measure => simp [intOf]
    · clear r0 r1 r2 r3 hpow
      have HGw := hid (gr_trans G2.out HG.out)
      have k0 := hcell (gr_heap HG.out D0.out (by simp))
      have HD0 := gr_heap HG.out D0.out (by simp)
      have HD1 := gr_heap HG.out D1.out (by simp)
      clear k0
      have k0 := hcell HD0 0 _ rfl
      have k1 := hcell HD0 1 _ rfl
      have k2 := hcell HD0 2 _ rfl
      have k3 := hcell HD0 3 _ rfl
      have k4 := hcell HD0 4 _ rfl
      have k5 := hcell HD0 5 _ rfl
      have k6 := hcell HD0 6 _ rfl
      have k7 := hcell HD0 7 _ rfl
      have k8 := hcell HD0 8 _ rfl
      have j0 := hcell HD1 0 _ rfl
      have q0 := hcell HL.out 0 _ rfl
      have q1 := hcell HL.out 1 _ rfl
      have q2 := hcell HL.out 2 _ rfl
      have q3 := hcell HL.out 3 _ rfl
      have Hoks : Hid (Ls.ok ⟨orN x0 h, orN x1 h, orN x2 h, orN x3 h⟩) := hid ⟨orN_lt Hy.out.1 hh6, orN_lt Hy.out.2.1 hh6, orN_lt Hy.out.2.2.1 hh6, orN_lt Hy.out.2.2.2 hh6⟩
      obtain ⟨o0, ho0⟩ : ∃ o, Hid (orN x0 h = o) := ⟨_, hid rfl⟩
      obtain ⟨o1, ho1⟩ : ∃ o, Hid (orN x1 h = o) := ⟨_, hid rfl⟩
      obtain ⟨o2, ho2⟩ : ∃ o, Hid (orN x2 h = o) := ⟨_, hid rfl⟩
      obtain ⟨o3, ho3⟩ : ∃ o, Hid (orN x3 h = o) := ⟨_, hid rfl⟩
      rw [ho0.out] at q0 Hoks
      rw [ho1.out] at q1 Hoks
      rw [ho2.out] at q2 Hoks
      rw [ho3.out] at q3 Hoks
      cases hgo : goesZ d 2 l with
      | false =>
        have HGo : Hid (Calls Tryz.prog 10 #[(.agg #[.int .i64 ho, .int .i64 C, .int .i64 de, .int .i64 wi, .int .i64 pr, vd, ve, vl, .int .i64 qu]), .int .i64 2, .slice a n cap, .agg #[.int .u32 (o0 : Int), .int .u32 (o1 : Int), .int .u32 (o2 : Int), .int .u32 (o3 : Int)]] wr fun e w' => e = .returned (.tuple #[.agg #[.slice none 0 0, .int .u32 0, .int .u32 0, .slice none 0 0, .slice none 0 0, .slice none 0 0], .int .i64 1]) ∧ wr.grownBy w' none) := hid (by
          have H := go_bad d vd ve vl 2 (.slice a n cap) l (.int .u32 (o0 : Int)) (.int .u32 (o1 : Int)) (.int .u32 (o2 : Int)) (.int .u32 (o3 : Int)) wr (HNt.out _ HGw.out) (HCK.out _ HGw.out) Hz.out hgo
          rw [hcf.out] at H
          exact H)
        clear hgo HD0 HD1
        go_wp2_with fail
        refine HGo.out.mono ?_
        rintro e w5 ⟨rfl, g5⟩
        have G5 := hid (gr_alloc (gr_trans HGw.out g5) (.cells #[.slice none 0 0, .int .u32 0, .int .u32 0, .slice none 0 0, .slice none 0 0, .slice none 0 0] 38))
        clear g5 k0 k1 k2 k3 k4 k5 k6 k7 k8 j0 q0 q1 q2 q3
        go_wp2_with fail
        go_ret
        exact ⟨rfl, G5.out⟩
      | true =>
        obtain ⟨R, hR⟩ : ∃ R : Rd, Hid (R = ⟨d, 2, l, o0, o1, o2, o3⟩) := ⟨_, hid rfl⟩
        have HE : Hid (R.d.cf = ⟨ho, C, de, wi, pr, qu⟩ ∧ R.cy = 2 ∧ R.u0 = o0 ∧ R.u1 = o1 ∧ R.w0 = o2 ∧ R.w1 = o3) := hid (by rw [hR.out]; exact ⟨hcf.out, rfl, rfl, rfl, rfl, rfl⟩)
        have HRok : Hid (RdOk R) := hid (by rw [hR.out]; exact ⟨hgo, Hoks.out.1, Hoks.out.2.1, Hoks.out.2.2.1, Hoks.out.2.2.2⟩)
        have hRl : Hid (R.l.length = n) := hid (by rw [hR.out]; exact hn.out)
        have hRn : Hid (nthC R.l h = nthC l h) := hid (by rw [hR.out])
        have hnh : h < n := by
          have h1 := HRok.out.len.2
          rw [hRl.out, HE.out.1] at h1
          have h2 : (n : Int) = ho := h1
          omega
        have HBits : Hid (hasN (R.crew 0) h = false ∧ hasN (R.crew 1) h = false) := hid ⟨crew_bit HRok.out hh6 (by show hasN R.u0 h = true; rw [HE.out.2.2.1, ← ho0.out]; exact orN_has _ _), crew_bit HRok.out hh6 (by show hasN R.u1 h = true; rw [HE.out.2.2.2.1, ← ho1.out]; exact orN_has _ _)⟩
        have HDeaf : Hid (R.by_ h = 0 ∧ R.hrd h = 0 ∧ R.aft h = nthC R.l h) := hid (deaf_all (fun w hw => by
          match w, hw with
          | 0, _ => show hasN R.w0 h = true; rw [HE.out.2.2.2.2.1, ← ho2.out]; exact orN_has _ _
          | 1, _ => show hasN R.w1 h = true; rw [HE.out.2.2.2.2.2, ← ho3.out]; exact orN_has _ _))
        have hcb : ∀ c : Nat, c < 4294967296 → hasN c h = false → bits .and .u32 ((c : Int) / 2 ^ h) 1 = 0 := fun c hc hf => by
          have h1 := and_one32 (c / 2 ^ h) (Nat.lt_of_le_of_lt (Nat.div_le_self _ _) hc)
          have h2 : ((c / 2 ^ h : Nat) : Int) = (c : Int) / 2 ^ h := by simp
          rw [h2] at h1
          rw [h1]
          unfold hasN at hf
          have h3 : ¬ c / 2 ^ h % 2 = 1 := of_decide_eq_false hf
          omega
        have hcl : R.crew 0 < 64 ∧ R.crew 1 < 64 := by
          obtain ⟨ys, hys⟩ := sorts_ex R
          exact ⟨(HRok.out.crew hys 0).1, (HRok.out.crew hys 1).1⟩
        have b0 := hcb (R.crew 0) (by omega) HBits.out.1
        have b1 := hcb (R.crew 1) (by omega) HBits.out.2
        obtain ⟨c0, hc0⟩ : ∃ c, Hid (R.crew 0 = c) := ⟨_, hid rfl⟩
        obtain ⟨c1, hc1⟩ : ∃ c, Hid (R.crew 1 = c) := ⟨_, hid rfl⟩
        rw [hc0.out] at b0
        rw [hc1.out] at b1
        have HGo : Hid (Calls Tryz.prog 10 #[(.agg #[.int .i64 ho, .int .i64 C, .int .i64 de, .int .i64 wi, .int .i64 pr, vd, ve, vl, .int .i64 qu]), .int .i64 2, .slice a n cap, .agg #[.int .u32 (o0 : Int), .int .u32 (o1 : Int), .int .u32 (o2 : Int), .int .u32 (o3 : Int)]] wr fun e w' => ∃ ys yb yh ya, e = .returned (.tuple #[.agg #[ys, .int .u32 (c0 : Int), .int .u32 (c1 : Int), yb, yh, ya], .int .i64 0]) ∧ Hid (ToldAt w' R ys yb yh ya) ∧ Hid (wr.grownBy w' none)) := hid (by
          have H := go_ok R HRok.out vd ve vl (.slice a n cap) wr (by rw [hR.out]; exact HNt.out _ HGw.out) (by rw [hR.out]; exact HCK.out _ HGw.out)
          rw [hc0.out, hc1.out, HE.out.1, HE.out.2.1, HE.out.2.2.1, HE.out.2.2.2.1, HE.out.2.2.2.2.1, HE.out.2.2.2.2.2] at H
          exact H.mono fun e w' ⟨v1, v2, v3, v4, h1, h2, h3, _⟩ => ⟨v1, v2, v3, v4, h1, h2, h3⟩)
        clear hgo HD0 HD1 hcb hcl
        go_wp2_with fail
        refine HGo.out.mono ?_
        rintro e w5 ⟨ys, yb, yh, ya, rfl, ht, hg⟩
        obtain ⟨aS, cS, e1⟩ := slice_frm' ht.out.sent
        obtain ⟨aB, cB, e2⟩ := slice_frm' ht.out.by_
        obtain ⟨aH, cH, e3⟩ := slice_frm' ht.out.hrd
        obtain ⟨aA, cA, e4⟩ := slice_frm' ht.out.aft
        rw [hRl.out] at e1 e2 e3 e4
        subst e1 e2 e3 e4
        have HT := hid ht.out
        have G5 := hid (gr_trans HGw.out hg.out)
        have D15 := hid (gr_heap (gr_trans HG.out hg.out) D1.out (by simp))
        clear ht hg k0 k1 k2 k3 k4 k5 k6 k7 k8 j0 q0 q1 q2 q3
        go_wp2_with fail
        obtain ⟨wB, hwB⟩ : ∃ wB, w5.alloc (.cells #[.slice aS n cS, .int .u32 (c0 : Int), .int .u32 (c1 : Int), .slice aB n cB, .slice aH n cH, .slice aA n cA] 38) = wB := ⟨_, rfl⟩
        have hTB := heap_alloc_new w5 (.cells #[.slice aS n cS, .int .u32 (c0 : Int), .int .u32 (c1 : Int), .slice aB n cB, .slice aH n cH, .slice aA n cA] 38)
        have hB5 := gr_alloc (gr_refl w5 none) (.cells #[.slice aS n cS, .int .u32 (c0 : Int), .int .u32 (c1 : Int), .slice aB n cB, .slice aH n cH, .slice aA n cA] 38)
        rw [hwB] at hTB hB5
        rw [hwB]
        clear hwB
        obtain ⟨tb, htb⟩ : ∃ tb, Hid (w5.heap.size = tb) := ⟨_, hid rfl⟩
        rw [htb.out] at hTB
        rw [htb.out]
        have G6 := hid (gr_trans G5.out hB5)
        have HTo := hid (told_grown HT.out hB5)
        obtain ⟨⟨km, kb, kr⟩, hkk⟩ : ∃ k, Hid (nthC l h = k) := ⟨_, hid rfl⟩
        obtain ⟨d1, d2, d3⟩ := HDeaf.out
        have m0 := hcell hTB 0 _ rfl
        have m1 := hcell hTB 1 _ rfl
        have m2 := hcell hTB 2 _ rfl
        have m3 := hcell hTB 3 _ rfl
        have m4 := hcell hTB 4 _ rfl
        have m5 := hcell hTB 5 _ rfl
        have m9 := hcell (gr_heap hB5 D15.out (by simp)) 0 _ rfl
        have hhI : (h : Int) < (n : Int) := by omega
        obtain ⟨ab, ao, hA1⟩ : ∃ b off, Hid (aA = some ⟨b, off, none⟩ ∧ n ≤ cA ∧ wB.cell? ⟨b, off + h * 3, none⟩ = some (.int .i64 km) ∧ wB.cell? ⟨b, off + h * 3 + 1, none⟩ = some (.int .i64 kb) ∧ wB.cell? ⟨b, off + h * 3 + 2, none⟩ = some (.int .i64 kr)) := by
          rcases HTo.out.aft with ⟨_, _, _, h0⟩ | ⟨b, off, c, e, h1, _, hf⟩
          · have := hRl.out; omega
          · injection e with e5 e6 e7
            rw [hRl.out] at h1 hf
            have f0 := hf h hnh 0 (by omega)
            have f1 := hf h hnh 1 (by omega)
            have f2 := hf h hnh 2 (by omega)
            dsimp only at f0 f1 f2
            rw [d3, hRn.out, hkk.out] at f0 f1 f2
            exact ⟨b, off, hid ⟨e5, by omega, f0, f1, f2⟩⟩
        obtain ⟨pb, po, hP1⟩ : ∃ b off, Hid (a = some ⟨b, off, none⟩ ∧ n ≤ cap ∧ wB.cell? ⟨b, off + h * 3, none⟩ = some (.int .i64 km) ∧ wB.cell? ⟨b, off + h * 3 + 1, none⟩ = some (.int .i64 kb) ∧ wB.cell? ⟨b, off + h * 3 + 2, none⟩ = some (.int .i64 kr)) := by
          rcases HCK.out _ G6.out with ⟨_, _, _, h0⟩ | ⟨b, off, c, e, h1, _, hf⟩
          · have := hn.out; omega
          · injection e with e5 e6 e7
            have hnl : h < l.length := by have := hn.out; omega
            have f0 := hf h hnl 0 (by omega)
            have f1 := hf h hnl 1 (by omega)
            have f2 := hf h hnl 2 (by omega)
            unfold ckF at f0 f1 f2
            rw [hkk.out] at f0 f1 f2
            exact ⟨b, off, hid ⟨e5, by have := hn.out; omega, f0, f1, f2⟩⟩
        obtain ⟨bb, bo, hB1⟩ : ∃ b off, Hid (aB = some ⟨b, off, none⟩ ∧ n ≤ cB ∧ wB.cell? ⟨b, off + h, none⟩ = some (.int .i64 0)) := by
          rcases HTo.out.by_ with ⟨_, _, _, h0⟩ | ⟨b, off, c, e, h1, _, hf⟩
          · have := hRl.out; omega
          · injection e with e5 e6 e7
            rw [hRl.out] at h1 hf
            have f0 := hf h hnh 0 (by omega)
            dsimp only at f0
            rw [Nat.mul_one, Nat.add_zero, d1] at f0
            exact ⟨b, off, hid ⟨e5, by omega, f0⟩⟩
        obtain ⟨qb, qo, hQ1⟩ : ∃ b off, Hid (aH = some ⟨b, off, none⟩ ∧ n ≤ cH ∧ wB.cell? ⟨b, off + h, none⟩ = some (.int .i64 0)) := by
          rcases HTo.out.hrd with ⟨_, _, _, h0⟩ | ⟨b, off, c, e, h1, _, hf⟩
          · have := hRl.out; omega
          · injection e with e5 e6 e7
            rw [hRl.out] at h1 hf
            have f0 := hf h hnh 0 (by omega)
            dsimp only at f0
            rw [Nat.mul_one, Nat.add_zero, d2] at f0
            exact ⟨b, off, hid ⟨e5, by omega, f0⟩⟩
        obtain ⟨rfl, hA2, a0, a1, a2⟩ := hA1.out
        obtain ⟨rfl, hP2, p0, p1, p2⟩ := hP1.out
        obtain ⟨rfl, hB2, b3⟩ := hB1.out
        obtain ⟨rfl, hQ2, q3⟩ := hQ1.out
        have hEq := fun W => eq3_st km kb kr W
        clear hTB hB5 d1 d2 d3 hA1 hP1 hB1 hQ1
        go_quiet (fail)
        go_wp2_with fail
        go_ret
        exact ⟨rfl, gr_drewN G6.out _⟩

set_option maxRecDepth 1000000 in
set_option maxHeartbeats 600000 in
theorem rdeaf_bad (d : Net) (vd ve vl sv : Value) (hb : Nat) (l : List Ck) (y : Ls) (w : World) (hN : NetAt w.heap.size w d vd ve vl) (hs : CksAt w.heap.size w sv l) (hz : l.length * 24 ≤ 140737488351232) (hy : y.ok) (hck : checkZ d ≠ 0) :
    Calls Tryz.prog 6 #[cfV d.cf vd ve vl, .agg #[sv, .int .u32 (y.u0 : Int), .int .u32 (y.u1 : Int), .int .u32 (y.w0 : Int), .int .u32 (y.w1 : Int)], .int .u8 (hb : Int)] w (LawPost w) := by
  have HN := hid hN
  have HS := hid hs
  have Hz := hid hz
  have Hy := hid hy
  obtain ⟨a, cap, rfl⟩ := ckslice hs
  obtain ⟨n, hn⟩ : ∃ n, Hid (l.length = n) := ⟨_, hid rfl⟩
  obtain ⟨x0, x1, x2, x3⟩ := y
  obtain ⟨⟨ho, C, de, wi, pr, qu⟩, hcf⟩ : ∃ c, Hid (d.cf = c) := ⟨_, hid rfl⟩
  rw [hn.out, hcf.out]
  rw [hn.out] at HS
  clear hN hs hz hy
  obtain ⟨bx, hbx⟩ : ∃ bx, Hid (w.heap.size = bx) := ⟨_, hid rfl⟩
  have G0 := hid (gr_alloc (gr_alloc (gr_refl w none) (.cells #[.int .i64 ho, .int .i64 C, .int .i64 de, .int .i64 wi, .int .i64 pr, vd, ve, vl, .int .i64 qu] 26)) (.cells #[.slice a n cap, .int .u32 (x0 : Int), .int .u32 (x1 : Int), .int .u32 (x2 : Int), .int .u32 (x3 : Int)] 33))
  have B0 := hid (gr_heap (gr_alloc (gr_refl _ none) (.cells #[.slice a n cap, .int .u32 (x0 : Int), .int .u32 (x1 : Int), .int .u32 (x2 : Int), .int .u32 (x3 : Int)] 33)) (heap_alloc_new w (.cells #[.int .i64 ho, .int .i64 C, .int .i64 de, .int .i64 wi, .int .i64 pr, vd, ve, vl, .int .i64 qu] 26)) (by simp))
  have B1 := hid (box2 w (.cells #[.int .i64 ho, .int .i64 C, .int .i64 de, .int .i64 wi, .int .i64 pr, vd, ve, vl, .int .i64 qu] 26) (.cells #[.slice a n cap, .int .u32 (x0 : Int), .int .u32 (x1 : Int), .int .u32 (x2 : Int), .int .u32 (x3 : Int)] 33))
  rw [hbx.out] at B0 B1
  have HNt : Hid (∀ W : World, w.grownBy W none → NetAt W.heap.size W d vd ve vl) := hid (fun W g => HN.out.later g)
  obtain ⟨v, hv⟩ : ∃ v, Hid (checkZ d = v) := ⟨_, hid rfl⟩
  have HChk : Hid (∀ W : World, w.grownBy W none → Calls Tryz.prog 16 #[(.agg #[.int .i64 ho, .int .i64 C, .int .i64 de, .int .i64 wi, .int .i64 pr, vd, ve, vl, .int .i64 qu])] W fun e w' => e = .returned (.int .i64 v) ∧ W.grownBy w' none) := hid (fun W g => by
    have H := rcheck_any d vd ve vl W (HNt.out W g)
    rw [hv.out, hcf.out] at H
    exact H)
  have hvb : (v != 0) = true := by rw [hv.out] at hck; simpa using hck
  clear hck
  go_enter Tryz.func6, Tryz.ntmps6
  go_wp2_with fail
  rw [hbx.out]
  refine (fixed_true _).mono ?_
  rintro e w1 ⟨rfl, g1⟩
  have C0 := hid (gr_heap g1 B0.out (by simp))
  have G1 := hid (gr_trans G0.out g1)
  clear g1 G0 B0 B1
  have k0 := hcell C0.out 0 _ rfl
  have k1 := hcell C0.out 1 _ rfl
  have k2 := hcell C0.out 2 _ rfl
  have k3 := hcell C0.out 3 _ rfl
  have k4 := hcell C0.out 4 _ rfl
  have k5 := hcell C0.out 5 _ rfl
  have k6 := hcell C0.out 6 _ rfl
  have k7 := hcell C0.out 7 _ rfl
  have k8 := hcell C0.out 8 _ rfl
  go_wp2_with fail
  refine (HChk.out _ G1.out).mono ?_
  rintro e w2 ⟨rfl, g2⟩
  have G2 := hid (gr_trans G1.out g2)
  clear g2 k0 k1 k2 k3 k4 k5 k6 k7 k8
  go_wp2_with fail
  go_ret
  exact ⟨rfl, G2.out⟩
theorem rdeaf_any (d : Net) (vd ve vl sv : Value) (x : Int) (hx : 0 ≤ x ∧ x ≤ 255) (l : List Ck) (y : Ls) (w : World) (hN : NetAt w.heap.size w d vd ve vl) (hs : CksAt w.heap.size w sv l) (hz : l.length * 24 ≤ 140737488351232) (hy : y.ok) :
    Calls Tryz.prog 6 #[cfV d.cf vd ve vl, .agg #[sv, .int .u32 (y.u0 : Int), .int .u32 (y.u1 : Int), .int .u32 (y.w0 : Int), .int .u32 (y.w1 : Int)], .int .u8 x] w (LawPost w) := by
  obtain ⟨hb, rfl⟩ : ∃ hb : Nat, x = (hb : Int) := ⟨x.toNat, (Int.toNat_of_nonneg hx.1).symm⟩
  by_cases hck : checkZ d = 0
  · exact rdeaf_good d vd ve vl sv hb l y w hN hs hz hy (by omega) hck
  · exact rdeaf_bad d vd ve vl sv hb l y w hN hs hz hy hck
end Go.Proofs.YtckoaeoecjphiaaGreat

/- RoundDeaf: for every configuration, clocks, losses and host the law answers true: a host at which nothing arrives keeps its clock as it is, and one whose frames are lost is in no crew. No condition. -/
namespace Go.Proofs.YtckoaeoecjphiaaGreat
open Go.ChangeShapes Go.WideShapes Go.ChangeAt Go.RowKit
open Go.ChangeMaps (open_string shut_string)
set_option linter.unusedVariables false

theorem deafrow_all (d : Net) (vd ve vl : Value) {w : World} (hN : NetAt w.heap.size w d vd ve vl) (sv : Value) (l : List Ck) (y : Ls) (hs : CksAt w.heap.size w sv l) (hz : l.length * 24 ≤ 140737488351232) (hy : y.ok) (x : Int) (hx : 0 ≤ x ∧ x ≤ 255) :
    Calls Tryz.prog 6 #[cfV d.cf vd ve vl, caseV sv y, .int .u8 x] w fun e w' => e = .returned (.bool true) ∧ Below w.heap.size w w' :=
  (rdeaf_any d vd ve vl sv x hx l y w hN hs hz hy).mono fun e w' h => ⟨h.1, gr_below h.2 (Nat.le_refl _) (by simp)⟩

set_option maxRecDepth 100000 in
theorem roundDeaf_lifted (os : Os) (started : os.Started) (H : Type) (enc : TypeId × Value → H) :
    ReturnsInHanded {} Tryz.checked os 6 .any (Rows.roundDeafSpec.pre6 enc Tryz.prog Tryz.f6 Rows.roundDeafRow.domain false) (Rows.roundDeafSpec.post enc Tryz.prog Tryz.f6 false true false false) := by
  refine returnsInHanded_of_change_sized (C := Tryz.checked) own_none started (by kernel_rfl) Tryz.func6
    (ChangeSpec.witness6 (enc := enc) (C := Tryz.checked) false ⟨#[], #[.agg #[.int .i64 0, .int .i64 0, .int .i64 0, .int .i64 0, .int .i64 0, .slice none 0 0, .slice none 0 0, .slice none 0 0, .int .i64 0], .agg #[.slice none 0 0, .int .u32 0, .int .u32 0, .int .u32 0, .int .u32 0], .int .u8 0], []⟩ 8 (by kernel_rfl) (by kernel_rfl) (by kernel_rfl) (by kernel_rfl)) ?_
  intro W base args ds gs before hval0 hW hcnd hsz0 _
  have hsz : (DataW.weightsEach Tryz.prog (Tryz.f6.params.toList ++ Rows.roundDeafSpec.plain.varTypes Tryz.prog) (ds ++ gs)).all (· ≤ reachBytes) = true := hsz0
  clear hsz0
  have hval : ∀ (j : Nat) t v, Tryz.f6.params[j]? = some t → args[j]? = some v → Value.okWide Tryz.prog W .any base t v := hval0
  have hW' := hW
  obtain ⟨p, q, hA0, hV, rfl, hfz, hnd⟩ := hW
  have hA : DataW.TrodAll enc Tryz.prog W 0 (fun _ => true) true Tryz.f6.params.toList args.toList ds p := hA0
  rw [Tryz.params6] at hA hval hsz
  obtain ⟨v0, vs0, d0, ds0, p0, q0, hargs, rfl, rfl, h0, r0⟩ := trodAll_cons hA
  obtain ⟨v1, vs1, d1, ds1, p1, q1, rfl, rfl, rfl, h1, r1⟩ := trodAll_cons r0
  obtain ⟨v2, vs2, d2, ds2, p2, q2, rfl, rfl, rfl, h2, r2⟩ := trodAll_cons r1
  obtain ⟨rfl, rfl, rfl⟩ := trodAll_nil r2
  obtain rfl : args = #[v0, v1, v2] := by cases args; simp_all
  obtain ⟨rfl, rfl⟩ := trodVars_none hV
  have k0 := h0
  have lt0 : ∀ x ∈ p0, x.block < W.heap.size := by obtain ⟨m, hm⟩ := k0; exact DataW.trod_lt m _ _ _ hm
  have k1 := h1
  have lt1 : ∀ x ∈ p1, x.block < W.heap.size := by obtain ⟨m, hm⟩ := k1; exact DataW.trod_lt m _ _ _ hm
  have k2 := h2
  have lt2 : ∀ x ∈ p2, x.block < W.heap.size := by obtain ⟨m, hm⟩ := k2; exact DataW.trod_lt m _ _ _ hm
  obtain ⟨D0, vd0, ve0, vl0, rfl, N0⟩ := open_config (hval 0 26 v0 rfl rfl) h0 (within_arg hsz (j := 0) rfl rfl)
  obtain ⟨sv1, l1, y1, rfl, ck1, z1, ok1⟩ := open_case (hval 1 33 v1 rfl rfl) h1 (within_arg hsz (j := 1) rfl rfl)
  obtain ⟨a2, rfl, b2⟩ := open_u8 Tryz.underlying5 (hval 2 5 v2 rfl rfl) h2
  clear hA0 hval0
  refine (deafrow_all D0 vd0 ve0 vl0 N0 sv1 l1 y1 ck1 z1 ok1 a2 b2).mono fun e W' ⟨he, bel⟩ => ?_
  subst he
  exact ⟨_, rfl, _, _, _, [], _, [], hW', trodAll_mk1 (shut_bool Tryz.underlying4 _), (trodAll_cons_mk (Below.trod laid_out (by kernel_rfl) (of_decide_eq_true (by kernel_rfl)) k0 bel lt0) (trodAll_cons_mk (Below.trod laid_out (by kernel_rfl) (of_decide_eq_true (by kernel_rfl)) k1 bel lt1) (trodAll_cons_mk (Below.trod laid_out (by kernel_rfl) (of_decide_eq_true (by kernel_rfl)) k2 bel lt2) trodAll_mk0))), rfl, bel.frame _, fun h => by cases h⟩

theorem roundDeaf_holds : Rows.RoundDeafSaid :=
  OpenClaim.holds_of_wide 6 Tryz.f6 rfl rfl rfl rfl rfl rfl rfl ⟨rfl, rfl, rfl, rfl, rfl⟩ rfl rfl rfl rfl rfl (by kernel_rfl) Tryz.func6 (by kernel_rfl)
    (of_decide_eq_true (by kernel_rfl)) (by unfold Func.isWrapper; rw [if_neg (of_decide_eq_false (by kernel_rfl))]; exact ⟨rfl, rfl⟩)
    (fun os started H enc _ => roundDeaf_lifted os started H enc)

#print axioms roundDeaf_holds
end Go.Proofs.YtckoaeoecjphiaaGreat
