/- RoundRuns: for every configuration, time of the first round and cases the law answers true: a run of rounds is each round by itself, told in turn. No condition. -/
import Derived.Test.YtckoaeoecjphiaaGreatK43
import Derived.Test.YtckoaeoecjphiaaGreatK44
import Derived.Test.YtckoaeoecjphiaaGreatK52
import Derived.Test.YtckoaeoecjphiaaGreatK53

/- What the laws' walks share (a copy of RLaw1's beginning, for a claim of its own). -/
namespace Go.Proofs.YtckoaeoecjphiaaGreat
open Go.RowKit Go.Lib

theorem slice_frm' {n₀ : Nat} {W : World} {sv : Value} {k n : Nat} {f : Nat → Nat → Value} (h : SliceAt n₀ W sv k n f) : ∃ a c, sv = .slice a n c := by
  rcases h with ⟨a, c, rfl, h0⟩ | ⟨_, _, c, rfl, _⟩
  · exact ⟨_, _, by rw [h0]⟩
  · exact ⟨_, _, rfl⟩
theorem told_grown {W W' : World} {R : Rd} {vs vb vh va : Value} (h : ToldAt W R vs vb vh va) (g : W.grownBy W' none) : ToldAt W' R vs vb vh va := told_kept h g (fun q hq => by cases hq) (fun q hq => by cases hq) (fun q hq => by cases hq) (fun q hq => by cases hq)
abbrev LawPost (w : World) : Ending → World → Prop := fun e w' => e = .returned (.bool true) ∧ w.grownBy w' none
end Go.Proofs.YtckoaeoecjphiaaGreat

/- The document's round, for a claim of its own. -/

/- RoundRuns: the walk. -/
namespace Go.Proofs.YtckoaeoecjphiaaGreat
open Go.RowKit Go.Lib

/-- Cases: their clocks' slices, and what is lost. -/
def caseF (svs : Nat → Value) (xs : List Ls) (j i : Nat) : Value := match i with
  | 0 => svs j
  | i + 1 => lsF xs j i
structure CasesAt (n₀ : Nat) (w : World) (v : Value) (svs : Nat → Value) (xs : List Ls) (l : List Ck) : Prop where
  row : SliceAt n₀ w v 5 xs.length (caseF svs xs)
  frm : ∀ j, j < xs.length → ∃ a m c, svs j = .slice a m c
  ok : ∀ x ∈ xs, x.ok
  fst : 0 < xs.length → CksAt n₀ w (svs 0) l
  emp : xs.length = 0 → l = []
  lz : l.length * 24 ≤ 140737488351232
  xz : xs.length * 40 ≤ 140737488351232
theorem Tryz.info_loss : (Tryz.prog.info? 31).map (fun i => (i.zero, i.size, i.bytes)) = some (some (.agg #[.int .u32 0, .int .u32 0, .int .u32 0, .int .u32 0]), 4, 16) := by kernel_rfl
theorem news4 {W : World} {q : Nat} {a b c d : Value} {t : TypeId} (h : W.heap[q]? = some (.cells #[a, b, c, d] t)) : ∀ (j : Nat) (u : Value), [a, b, c, d][j]? = some u → W.cell? ((⟨q, 0, none⟩ : Addr).add j) = some u := by
  intro j u hj
  rw [add_lit_ints, Nat.zero_add]
  exact hcell h j u (by rw [← hj]; simp)
theorem flat_ls (xs : List Ls) (k : Nat) {x0 x1 x2 x3 : Nat} (h : nthLs xs k = ⟨x0, x1, x2, x3⟩) : flatQ 4 (k + 1) (lsF xs) = flatQ 4 k (lsF xs) ++ [.int .u32 (x0 : Int), .int .u32 (x1 : Int), .int .u32 (x2 : Int), .int .u32 (x3 : Int)] := by
  rw [flatQ_succ]
  congr 1
  have e3 : List.range 4 = [0, 1, 2, 3] := rfl
  rw [e3]
  simp only [List.map_cons, List.map_nil, lsF, h]
theorem ls_one {l : List Value} {x0 x1 x2 x3 : Int} (hl : l = [.int .u32 x0, .int .u32 x1, .int .u32 x2, .int .u32 x3]) : ∀ u ∈ l, u.oneCell' = true := by
  subst hl
  intro u hu
  simp only [List.mem_cons, List.not_mem_nil, or_false] at hu
  rcases hu with rfl | rfl | rfl | rfl <;> rfl
/-- Where the document's telling lies in a box. -/
def BehindT (F : Value → Option Addr → Nat → Option Addr → Nat → Option Addr → Nat → Option Addr → Nat → Nat → Act) (S : Option Addr → Nat → Option Addr → Nat → Option Addr → Nat → Option Addr → Nat → Nat → World → Prop) : Exit → Act → World → Prop
  | .normal, a, W => ∃ va aS cS aB cB aH cH aA cA g, a = F va aS cS aB cB aH cH aA cA g ∧ S aS cS aB cB aH cH aA cA g W
  | _, _, _ => False
theorem wp_behindT {P : Program} {code : Code} {Q : Exit → Act → World → Prop} {a : Act} {w : World} {F : Value → Option Addr → Nat → Option Addr → Nat → Option Addr → Nat → Option Addr → Nat → Nat → Act} (S : Option Addr → Nat → Option Addr → Nat → Option Addr → Nat → Option Addr → Nat → Nat → World → Prop) (h : code.wp P (BehindT F S) a w) (k : ∀ va aS cS aB cB aH cH aA cA g W, S aS cS aB cB aH cH aA cA g W → Q .normal (F va aS cS aB cB aH cH aA cA g) W) : code.wp P Q a w :=
  Code.wp_mono (fun e a W hb => by
    cases e with
    | normal => obtain ⟨va, aS, cS, aB, cB, aH, cH, aA, cA, g, ha, hs⟩ := hb; subst ha; exact k va aS cS aB cB aH cH aA cA g W hs
    | _ => exact (hb : False).elim) h
/-- A slice of numbers does not lie in a block of other things. -/
theorem slice_off {n₀ : Nat} {W : World} {sv : Value} {k n g : Nat} {f : Nat → Nat → Value} {cs : Array Value} {t : TypeId} (h : SliceAt n₀ W sv k n f) (hk : 0 < k) (hn : 0 < n) (hg : W.heap[g]? = some (.cells cs t)) (hx : ∃ z : Int, f 0 0 = .int .i64 z) (hcs : ∀ v ∈ cs, ∀ z : Int, v ≠ .int .i64 z) : ∀ q, some g = some q → sv.ownBlock ≠ some q := by
  intro q hq e
  obtain rfl : g = q := by simpa using hq
  rcases h with ⟨_, _, _, h0⟩ | ⟨b, off, cap, rfl, _, _, hf⟩
  · omega
  · have hb : b = g := by simpa [Value.ownBlock] using e
    subst hb
    have h1 := hf 0 hn 0 hk
    obtain ⟨z, hz⟩ := hx
    rw [hz] at h1
    simp only [World.cell?, hg] at h1
    have h2 : ∃ i : Nat, cs[i]? = some (Value.int .i64 z) := ⟨off, by simpa using h1⟩
    obtain ⟨i, hi⟩ := h2
    exact hcs _ (Array.mem_of_getElem? hi) z rfl
theorem told_set {W W' : World} {R : Rd} {vs vb vh va : Value} {g : Nat} (h : ToldAt W R vs vb vh va) (h0 : 0 < R.l.length) (hg : W.heap[g]? = some (.cells #[.slice none 0 0, .int .u32 0, .int .u32 0, .slice none 0 0, .slice none 0 0, .slice none 0 0] 48)) (gr : W.grownBy W' (some g)) : ToldAt W' R vs vb vh va := by
  have hcs : ∀ v ∈ (#[.slice none 0 0, .int .u32 0, .int .u32 0, .slice none 0 0, .slice none 0 0, .slice none 0 0] : Array Value), ∀ z : Int, v ≠ .int .i64 z := by
    intro v hv z e
    subst e
    simp at hv
  exact told_kept h gr (slice_off h.sent (by omega) h0 hg ⟨_, rfl⟩ hcs) (slice_off h.by_ (by omega) h0 hg ⟨_, rfl⟩ hcs) (slice_off h.hrd (by omega) h0 hg ⟨_, rfl⟩ hcs) (slice_off h.aft (by omega) h0 hg ⟨_, rfl⟩ hcs)
theorem gr_set6n {a b : World} {g : Nat} (h : a.grownBy b none) (hg : a.heap.size ≤ g) (v0 v1 v2 v3 v4 v5 : Value) : a.grownBy ((((((b.setCell ⟨g, 0, none⟩ v0).setCell ⟨g, 1, none⟩ v1).setCell ⟨g, 2, none⟩ v2).setCell ⟨g, 3, none⟩ v3).setCell ⟨g, 4, none⟩ v4).setCell ⟨g, 5, none⟩ v5) none :=
  gr_setNew (gr_setNew (gr_setNew (gr_setNew (gr_setNew (gr_setNew h hg 0 v0) hg 1 v1) hg 2 v2) hg 3 v3) hg 4 v4) hg 5 v5
theorem gr_set6r (b : World) (g : Nat) (v0 v1 v2 v3 v4 v5 : Value) : b.grownBy ((((((b.setCell ⟨g, 0, none⟩ v0).setCell ⟨g, 1, none⟩ v1).setCell ⟨g, 2, none⟩ v2).setCell ⟨g, 3, none⟩ v3).setCell ⟨g, 4, none⟩ v4).setCell ⟨g, 5, none⟩ v5) (some g) :=
  gr_setRow (gr_setRow (gr_setRow (gr_setRow (gr_setRow (gr_setRow (gr_refl b _) 0 v0) 1 v1) 2 v2) 3 v3) 4 v4) 5 v5
theorem goes_far {d : Net} {cy : Int} {l : List Ck} (h : 1125899906842624 < cy) : goesZ d cy l = false := by
  rw [Bool.eq_false_iff]
  intro e
  have := (goesZ_bd e).1
  omega
/-- Where rounds run on, and where they stop. -/
theorem ends_at {d : Net} {fr : Int} {l : List Ck} {xs : List Ls} {k : Nat} {er : Int} (h : RunEnds d fr l xs k er) (h32 : xs.length ≤ 32) {j : Nat} (hj : j ≤ k) (hn : j < xs.length) :
    (goesZ d (fr + (j : Int)) (clsAt d fr l xs j) = false → k = j ∧ er = 1) ∧ (goesZ d (fr + (j : Int)) (clsAt d fr l xs j) = true → j < k) := by
  have hg := h.goes
  rcases h.fin with ⟨_, hk, he⟩ | ⟨he, hk⟩
  · refine ⟨fun h0 => ?_, fun _ => by omega⟩
    have := hg j (by omega)
    rw [h0] at this
    cases this
  · rcases hk with ⟨h9, _⟩ | ⟨_, hlt, hbad⟩
    · omega
    · by_cases e : j = k
      · subst e
        exact ⟨fun _ => ⟨rfl, he⟩, fun h0 => (by rw [hbad] at h0; cases h0)⟩
      · refine ⟨fun h0 => ?_, fun _ => by omega⟩
        have := hg j (by omega)
        rw [h0] at this
        cases this

set_option maxRecDepth 1000000 in
set_option maxHeartbeats 8000000 in
theorem rruns_any (d : Net) (vd ve vl xv : Value) (fr : Int) (svs : Nat → Value) (xs : List Ls) (l : List Ck) (w : World) (hN : NetAt w.heap.size w d vd ve vl) (hC : CasesAt w.heap.size w xv svs xs l) (hfr : -9223372036854775808 ≤ fr ∧ fr ≤ 9223372036854775807) :
    Calls Tryz.prog 7 #[cfV d.cf vd ve vl, .int .i64 fr, xv] w (LawPost w) := by
  obtain ⟨i0, hi, hz0, hz1, hz2⟩ := info_parts Tryz.info_loss
  have HN := hid hN
  have HC := hid hC
  have HNt : Hid (∀ W : World, w.grownBy W none → NetAt W.heap.size W d vd ve vl) := hid (fun W g => HN.out.later g)
  obtain ⟨⟨ho, C, de, wi, pr, qu⟩, hcf⟩ : ∃ c, Hid (d.cf = c) := ⟨_, hid rfl⟩
  obtain ⟨a, cap, rfl⟩ := slice_frm' hC.row
  obtain ⟨n, hn⟩ : ∃ n, Hid (xs.length = n) := ⟨_, hid rfl⟩
  have hn40 : n * 40 ≤ 140737488351232 := by rw [← hn.out]; exact hC.xz
  have HX : Hid (∀ j, j < n → ∃ b off, a = some ⟨b, off, none⟩ ∧ n ≤ cap ∧ (∃ va vm vc, svs j = .slice va vm vc) ∧ ∀ W : World, w.grownBy W none → W.cell? ⟨b, off + j * 5, none⟩ = some (svs j) ∧ W.cell? ⟨b, off + j * 5 + 1, none⟩ = some (.int .u32 ((nthLs xs j).u0 : Int)) ∧ W.cell? ⟨b, off + j * 5 + 2, none⟩ = some (.int .u32 ((nthLs xs j).u1 : Int)) ∧ W.cell? ⟨b, off + j * 5 + 3, none⟩ = some (.int .u32 ((nthLs xs j).w0 : Int)) ∧ W.cell? ⟨b, off + j * 5 + 4, none⟩ = some (.int .u32 ((nthLs xs j).w1 : Int))) := hid (fun j hj => by
    have hj' : j < xs.length := by rw [hn.out]; exact hj
    rcases HC.out.row with ⟨_, _, _, h0⟩ | ⟨b, off, c, e, h1, _, hf⟩
    · omega
    · injection e with e5 e6 e7
      exact ⟨b, off, e5, by have := hn.out; omega, HC.out.frm j hj', fun W g => ⟨gr_cell g (hf j hj' 0 (by omega)), gr_cell g (hf j hj' 1 (by omega)), gr_cell g (hf j hj' 2 (by omega)), gr_cell g (hf j hj' 3 (by omega)), gr_cell g (hf j hj' 4 (by omega))⟩⟩)
  have Hfr := hid hfr
  rw [hn.out, hcf.out]
  clear hN hC hfr
  obtain ⟨bx, hbx⟩ : ∃ bx, Hid (w.heap.size = bx) := ⟨_, hid rfl⟩
  have G0 := hid (gr_alloc (gr_refl w none) (.cells #[.int .i64 ho, .int .i64 C, .int .i64 de, .int .i64 wi, .int .i64 pr, vd, ve, vl, .int .i64 qu] 26))
  have B0 := hid (heap_alloc_new w (.cells #[.int .i64 ho, .int .i64 C, .int .i64 de, .int .i64 wi, .int .i64 pr, vd, ve, vl, .int .i64 qu] 26))
  rw [hbx.out] at B0
  go_enter Tryz.func7, Tryz.ntmps7
  go_wp2_with fail
  rw [hbx.out]
  refine (fixed_true _).mono ?_
  rintro e w2 ⟨rfl, g1⟩
  have D0 := hid (gr_heap g1 B0.out (by simp))
  have G2 := hid (gr_trans G0.out g1)
  clear g1 G0 B0
  go_wp2_with fail
  go_loopw [7, 20] (fun vs vi wr => ∃ k : Nat, vi = .int .i64 k ∧ k ≤ n ∧ Hid (wr.ownsRow w2.heap.size 31 4 vs k (flatQ 4 k (lsF xs))) ∧ Hid (w2.grownBy wr none)) (fun _ vi _ => n - (intOf vi).toNat)
  case atStart => exact ⟨0, rfl, Nat.zero_le _, hid (World.ownsRow_nil _ _ _ _), hid (gr_refl w2 none)⟩
  case round =>
    obtain ⟨k, rfl, hk, HO, HG⟩ := hrel
    by_cases hlt : k < n
    · have hk2 : (k : Int) < (n : Int) := by omega
      obtain ⟨bb, bo, rfl, hcap, ⟨va, vm, vc, hsv⟩, hcl⟩ := HX.out k hlt
      obtain ⟨p0, p1, p2, p3, p4⟩ := hcl wr (gr_trans G2.out HG.out)
      obtain ⟨⟨x0, x1, x2, x3⟩, hxx⟩ : ∃ x, Hid (nthLs xs k = x) := ⟨_, hid rfl⟩
      rw [hsv] at p0
      rw [hxx.out] at p1 p2 p3 p4
      dsimp only at p1 p2 p3 p4
      have hkc : k < cap := by omega
      have HF := hid (flat_ls xs k hxx.out)
      have HGb := hid (gr_alloc HG.out (.cells #[.slice va vm vc, .int .u32 (x0 : Int), .int .u32 (x1 : Int), .int .u32 (x2 : Int), .int .u32 (x3 : Int)] 33))
      have HOb := hid (HO.out.alloc (.cells #[.slice va vm vc, .int .u32 (x0 : Int), .int .u32 (x1 : Int), .int .u32 (x2 : Int), .int .u32 (x3 : Int)] 33))
      clear hcl hsv
      go_wp2_with (at_builtin; refine wpList_append_own_at _ rfl (.tmp 24) (.tmp 27) 70 rfl w2.heap.size 31 i0 (.agg #[.int .u32 0, .int .u32 0, .int .u32 0, .int .u32 0]) 4 16 Tryz.underlying70 hi hz0 hz1 hz2 rfl (by decide) _ _ _ rfl (HOb.out.alloc _) ⟨wr.heap.size + 1, 0, none⟩ 1 1 [.int .u32 (x0 : Int), .int .u32 (x1 : Int), .int .u32 (x2 : Int), .int .u32 (x3 : Int)] rfl rfl (news4 (box2 wr _ _)) (ls_one rfl) (by unfold maxLen; omega) (by omega) (by have := HGb.out.size; simp at this ⊢; omega) ?_; intro v3 w3 hown3 hg3 _ hat3)
      have hg5 : ((wr.alloc (.cells #[.slice va vm vc, .int .u32 (x0 : Int), .int .u32 (x1 : Int), .int .u32 (x2 : Int), .int .u32 (x3 : Int)] 33)).alloc (.cells #[.int .u32 (x0 : Int), .int .u32 (x1 : Int), .int .u32 (x2 : Int), .int .u32 (x3 : Int)] 31)).grownBy w3 u7.ownBlock := hg3
      have HG3 : Hid (w2.grownBy w3 none) := hid (gr_ownr (gr_alloc HGb.out _) hg5 (fun q hq => (HO.out.lt q hq).1))
      have HO3 : Hid (w3.ownsRow w2.heap.size 31 4 v3 (k + 1) (flatQ 4 (k + 1) (lsF xs))) := hid (by rw [HF.out]; exact hown3)
      clear hown3 hg3 hat3 hg5
      refine ⟨⟨k + 1, by go_num, by omega, HO3, HG3⟩, ?_⟩
      simp [intOf]; omega
    · obtain rfl : k = n := by omega
      clear hlt
      have HLs : Hid (LsAt wr.heap.size wr u7 xs) := hid (by unfold LsAt; rw [hn.out]; exact slice_own HO.out (fun j hj i hi => flatQ_at _ hj hi))
      obtain ⟨aL, cL, e0⟩ := slice_frm' HLs.out
      rw [hn.out] at e0
      subst e0
      have HLc : Hid (∀ j, j < k → ∃ b off, aL = some ⟨b, off, none⟩ ∧ k ≤ cL ∧ ∀ W : World, wr.grownBy W none → W.cell? ⟨b, off + j * 4, none⟩ = some (.int .u32 ((nthLs xs j).u0 : Int)) ∧ W.cell? ⟨b, off + j * 4 + 1, none⟩ = some (.int .u32 ((nthLs xs j).u1 : Int)) ∧ W.cell? ⟨b, off + j * 4 + 2, none⟩ = some (.int .u32 ((nthLs xs j).w0 : Int)) ∧ W.cell? ⟨b, off + j * 4 + 3, none⟩ = some (.int .u32 ((nthLs xs j).w1 : Int))) := hid (fun j hj => by
        have hj' : j < xs.length := by rw [hn.out]; exact hj
        rcases HLs.out with ⟨_, _, _, h0⟩ | ⟨b, off, c, e, h1, _, hf⟩
        · omega
        · injection e with e5 e6 e7
          exact ⟨b, off, e5, by have := hn.out; omega, fun W g => ⟨gr_cell g (hf j hj' 0 (by omega)), gr_cell g (hf j hj' 1 (by omega)), gr_cell g (hf j hj' 2 (by omega)), gr_cell g (hf j hj' 3 (by omega))⟩⟩)
      have GX := hid (gr_trans G2.out HG.out)
      have E0 := hid (gr_heap HG.out D0.out (by simp))
      have HRun : Hid (∀ (sv : Value), CksAt wr.heap.size wr sv l → Calls Tryz.prog 22 #[(.agg #[.int .i64 ho, .int .i64 C, .int .i64 de, .int .i64 wi, .int .i64 pr, vd, ve, vl, .int .i64 qu]), .int .i64 fr, sv, .slice aL k cL] wr fun e w' => ∃ (k : Nat) (er : Int) (vo : Value) (vs vb vh va : Nat → Value), e = .returned (.tuple #[vo, .int .i64 er]) ∧ Hid (RunEnds d fr l xs k er) ∧ Hid (SliceAt w'.heap.size w' vo 6 k (toldF d fr l xs vs vb vh va)) ∧ Hid (∀ j, j < k → ToldAt w' (rdAt d fr l xs j) (vs j) (vb j) (vh j) (va j)) ∧ Hid (wr.grownBy w' none)) := hid (fun sv hc => by
        have H := run_any d vd ve vl fr sv (.slice aL k cL) l xs wr (HNt.out _ GX.out) hc HC.out.lz HLs.out HC.out.ok Hfr.out
        rw [hcf.out] at H
        exact H)
      by_cases hk0 : 0 < k
      · have HCk0 : Hid (CksAt wr.heap.size wr (svs 0) l) := hid ((HC.out.fst (by rw [hn.out]; exact hk0)).keptRow GX.out (fun q hq => by cases hq))
        have k0 := hcell E0.out 0 _ rfl
        have k1 := hcell E0.out 1 _ rfl
        have k2 := hcell E0.out 2 _ rfl
        have k3 := hcell E0.out 3 _ rfl
        have k4 := hcell E0.out 4 _ rfl
        have k5 := hcell E0.out 5 _ rfl
        have k6 := hcell E0.out 6 _ rfl
        have k7 := hcell E0.out 7 _ rfl
        have k8 := hcell E0.out 8 _ rfl
        obtain ⟨fb, fo, rfl, hfc, ⟨fa, fm, fcc, hsv0⟩, hfcl⟩ := HX.out 0 hk0
        obtain ⟨f0, _⟩ := hfcl wr GX.out
        rw [hsv0] at f0 HCk0
        simp only [Nat.zero_mul, Nat.add_zero] at f0
        have hk0I : (0 : Int) < (k : Int) := by omega
        have hcap0 : 0 < cap := by omega
        clear hfcl hsv0
        go_wp2_with fail
        refine (HRun.out _ HCk0.out).mono ?_
        rintro e w4 ⟨kr, er, vo, vs, vb, vh, va', rfl, HEnd, HVo, HTl, H4⟩
        have G4 := hid (gr_trans GX.out H4.out)
        have HCk4 := hid (HCk0.out.keptRow H4.out (fun q hq => by cases hq))
        have E4 := hid (gr_heap H4.out E0.out (by simp))
        obtain ⟨aV, cV, e0⟩ := slice_frm' HVo.out
        subst e0
        have hkr := HEnd.out.le
        rw [hn.out] at hkr
        clear k0 k1 k2 k3 k4 k5 k6 k7 k8
        clear f0 hk0I
        by_cases h32 : 32 < k
        · have hfin : kr = 0 ∧ er = 1 := by
            rcases HEnd.out.fin with ⟨h9, _⟩ | ⟨he, hk⟩
            · have := hn.out; omega
            · rcases hk with ⟨_, h0⟩ | ⟨h9, _⟩
              · exact ⟨h0, he⟩
              · have := hn.out; omega
          obtain ⟨rfl, rfl⟩ := hfin
          have h32I : (32 : Int) < (k : Int) := by omega
          go_wp2_with fail
          go_ret
          exact ⟨rfl, G4.out⟩
        · have h32I : ¬ (32 : Int) < (k : Int) := by omega
          have hx32 : Hid (xs.length ≤ 32) := hid (by rw [hn.out]; omega)
          go_wp2_with fail
          go_loopw [10, 57] (fun vc vi wr => ∃ j : Nat, vi = .int .i64 j ∧ j ≤ kr ∧ Hid (CksAt wr.heap.size wr vc (clsAt d fr l xs j)) ∧ Hid (w4.grownBy wr none)) (fun _ vi _ => k - (intOf vi).toNat)
          case atStart => exact ⟨0, rfl, Nat.zero_le _, HCk4, hid (gr_refl w4 none)⟩
          case round =>
            obtain ⟨j, rfl, hj, HCj, HGj⟩ := hrel
            have GJ := hid (gr_trans G4.out HGj.out)
            by_cases hlt : j < k
            · have hj2 : (j : Int) < (k : Int) := by omega
              obtain ⟨hAt, hAf⟩ := ends_at HEnd.out hx32.out hj (by rw [hn.out]; exact hlt)
              have HAt := hid hAt
              have HAf := hid hAf
              clear hAt hAf
              obtain ⟨lbb, lbo, rfl, hcL, hlc⟩ := HLc.out j hlt
              obtain ⟨p0, p1, p2, p3⟩ := hlc wr (gr_trans H4.out HGj.out)
              have Hxok := hid (HC.out.ok _ (nthLs_mem (show j < xs.length by rw [hn.out]; exact hlt)))
              obtain ⟨⟨x0, x1, x2, x3⟩, hxx⟩ : ∃ x, Hid (nthLs xs j = x) := ⟨_, hid rfl⟩
              rw [hxx.out] at p0 p1 p2 p3 Hxok
              dsimp only at p0 p1 p2 p3
              have hjc : j < cL := by omega
              obtain ⟨hf0, hf1⟩ := Hfr.out
              clear hlc
              obtain ⟨aC, cC, e0⟩ := slice_frm' HCj.out
              rw [clsAt_len] at e0
              subst e0
              have HclsL := hid (clsAt_len d fr l xs j)
              obtain ⟨nl, hnl⟩ : ∃ nl, Hid (l.length = nl) := ⟨_, hid rfl⟩
              rw [hnl.out] at HCj HclsL
              rw [hnl.out]
              have hlz : Hid (nl * 24 ≤ 140737488351232) := hid (by rw [← hnl.out]; exact HC.out.lz)
              obtain ⟨lb, hlb⟩ : ∃ lb, Hid (wr.heap.size = lb) := ⟨_, hid rfl⟩
              obtain ⟨wA, hwA⟩ : ∃ wA, Hid (wr.alloc (.cells #[.int .u32 (x0 : Int), .int .u32 (x1 : Int), .int .u32 (x2 : Int), .int .u32 (x3 : Int)] 31) = wA) := ⟨_, hid rfl⟩
              have hbl := heap_alloc_new wr (.cells #[.int .u32 (x0 : Int), .int .u32 (x1 : Int), .int .u32 (x2 : Int), .int .u32 (x3 : Int)] 31)
              have hga := gr_alloc (gr_refl wr none) (.cells #[.int .u32 (x0 : Int), .int .u32 (x1 : Int), .int .u32 (x2 : Int), .int .u32 (x3 : Int)] 31)
              rw [hwA.out] at hbl hga
              rw [hlb.out] at hbl
              have HBl := hid hbl
              have HGa := hid hga
              clear hbl hga
              have HOf : Hid (∀ W : World, wA.grownBy W none → Calls Tryz.prog 12 #[.slice aC nl cC] W fun e w' => ∃ v, e = .returned v ∧ Hid (CksAt w'.heap.size w' v (clsAt d fr l xs j)) ∧ W.grownBy w' none) := hid (fun W g => by
                have h1 : CksAt wA.heap.size wA (.slice aC nl cC) (clsAt d fr l xs j) := HCj.out.keptRow HGa.out (fun q hq => by cases hq)
                have h2 : CksAt W.heap.size W (.slice aC nl cC) (clsAt d fr l xs j) := h1.keptRow g (fun q hq => by cases hq)
                exact (lawof_any _ (clsAt d fr l xs j) W h2 (by rw [HclsL.out]; exact hlz.out)).mono fun e w' ⟨v, h1, h2, h3⟩ => ⟨v, h1, hid h2, h3⟩)
              have HSK : Hid (∀ W : World, wA.grownBy W none → (fun w' => w'.cell? ⟨bx, 0, none⟩ = some (.int .i64 ho) ∧ w'.cell? ⟨bx, 1, none⟩ = some (.int .i64 C) ∧ w'.cell? ⟨bx, 2, none⟩ = some (.int .i64 de) ∧ w'.cell? ⟨bx, 3, none⟩ = some (.int .i64 wi) ∧ w'.cell? ⟨bx, 4, none⟩ = some (.int .i64 pr) ∧ w'.cell? ⟨bx, 5, none⟩ = some vd ∧ w'.cell? ⟨bx, 6, none⟩ = some ve ∧ w'.cell? ⟨bx, 7, none⟩ = some vl ∧ w'.cell? ⟨bx, 8, none⟩ = some (.int .i64 qu) ∧ w'.cell? ⟨lb, 0, none⟩ = some (.int .u32 (x0 : Int)) ∧ w'.cell? ⟨lb, 1, none⟩ = some (.int .u32 (x1 : Int)) ∧ w'.cell? ⟨lb, 2, none⟩ = some (.int .u32 (x2 : Int)) ∧ w'.cell? ⟨lb, 3, none⟩ = some (.int .u32 (x3 : Int))) W) := hid (fun W g => by
                have h0 := gr_heap (gr_trans HGj.out (gr_trans HGa.out g)) E4.out (by simp)
                have h1 := gr_heap g HBl.out (by simp)
                exact ⟨hcell h0 0 _ rfl, hcell h0 1 _ rfl, hcell h0 2 _ rfl, hcell h0 3 _ rfl, hcell h0 4 _ rfl, hcell h0 5 _ rfl, hcell h0 6 _ rfl, hcell h0 7 _ rfl, hcell h0 8 _ rfl, hcell h1 0 _ rfl, hcell h1 1 _ rfl, hcell h1 2 _ rfl, hcell h1 3 _ rfl⟩)
              by_cases hfar : 1125899906842624 < fr
              · have hj0 : goesZ d (fr + (j : Int)) (clsAt d fr l xs j) = false := goes_far (by omega)
                obtain ⟨rfl, rfl⟩ := HAt.out hj0
                clear hj0
                go_wp2_with fail
                rw [hlb.out, hwA.out]
                go_quiet (fail)
                have G9 := hid (gr_drewN (gr_trans GJ.out HGa.out) nq)
                go_wp2_with fail
                go_ret
                exact ⟨rfl, G9.out⟩
              · have wsp : wrap64 (fr + (j : Int)) = fr + (j : Int) := by unfold wrap64; omega
                have wsp2 : IntKind.i64.wrap (fr + (j : Int)) = fr + (j : Int) := IntWalk.i64_in _ (by omega)
                obtain ⟨p, hp⟩ : ∃ p, Hid (fr + (j : Int) = p) := ⟨_, hid rfl⟩
                have ws1 : wrap64 (fr + (j : Int)) = p := wsp.trans hp.out
                have ws2 : IntKind.i64.wrap (fr + (j : Int)) = p := wsp2.trans hp.out
                obtain ⟨GO, hGO⟩ : ∃ x, Hid (goesZ d (fr + (j : Int)) (clsAt d fr l xs j) = x) := ⟨_, hid rfl⟩
                have HRt : Hid (∀ (W : World) (v : Value), wA.grownBy W none → CksAt W.heap.size W v (clsAt d fr l xs j) → Calls Tryz.prog 11 #[(.agg #[.int .i64 ho, .int .i64 C, .int .i64 de, .int .i64 wi, .int .i64 pr, vd, ve, vl, .int .i64 qu]), .int .i64 p, v] W fun e w' => e = .returned (.bool GO) ∧ W.grownBy w' none) := hid (fun W v g hc => by
                  have H := rright20_any d vd ve vl v (fr + (j : Int)) (clsAt d fr l xs j) W (HNt.out _ (gr_trans GJ.out (gr_trans HGa.out g))) hc (by rw [HclsL.out]; exact hlz.out)
                  rw [hcf.out, hGO.out, hp.out] at H
                  exact H)
                clear wsp wsp2
                go_wp2_with fail
                rw [hlb.out, hwA.out]
                obtain ⟨m0, m1, m2, m3, m4, m5, m6, m7, m8, m9, m10, m11, m12⟩ := HSK.out wA (gr_refl wA _)
                have hdf : decide (1125899906842624 < fr) = false := decide_eq_false (by omega)
                go_region_held3 (fun w' => w'.cell? ⟨bx, 0, none⟩ = some (.int .i64 ho) ∧ w'.cell? ⟨bx, 1, none⟩ = some (.int .i64 C) ∧ w'.cell? ⟨bx, 2, none⟩ = some (.int .i64 de) ∧ w'.cell? ⟨bx, 3, none⟩ = some (.int .i64 wi) ∧ w'.cell? ⟨bx, 4, none⟩ = some (.int .i64 pr) ∧ w'.cell? ⟨bx, 5, none⟩ = some vd ∧ w'.cell? ⟨bx, 6, none⟩ = some ve ∧ w'.cell? ⟨bx, 7, none⟩ = some vl ∧ w'.cell? ⟨bx, 8, none⟩ = some (.int .i64 qu) ∧ w'.cell? ⟨lb, 0, none⟩ = some (.int .u32 (x0 : Int)) ∧ w'.cell? ⟨lb, 1, none⟩ = some (.int .u32 (x1 : Int)) ∧ w'.cell? ⟨lb, 2, none⟩ = some (.int .u32 (x2 : Int)) ∧ w'.cell? ⟨lb, 3, none⟩ = some (.int .u32 (x3 : Int)))
                  (first | exact HSK.out _ (gr_drew (gr_refl wA none)) | exact HSK.out _ HG7.out | exact HSK.out _ HG6.out)
                  (first
                    | (go_at_call 12; refine (HOf.out _ (gr_drew (gr_refl wA none))).mono ?_; rintro e w6 ⟨v6, rfl, HV6, g6⟩; have HG6 : Hid (wA.grownBy w6 none) := hid (gr_trans (gr_drew (gr_refl wA none)) g6); clear g6)
                    | (go_at_call 11; refine (HRt.out _ v6 HG6.out HV6.out).mono ?_; rintro e w7 ⟨rfl, g7⟩; have HG7 : Hid (wA.grownBy w7 none) := hid (gr_trans HG6.out g7); clear g7)
                    | fail)
                clear m0 m1 m2 m3 m4 m5 m6 m7 m8 m9 m10 m11 m12
                cases GO with
                | false =>
                  obtain ⟨rfl, rfl⟩ := HAt.out hGO.out
                  go_wp2_with fail
                  go_ret
                  exact ⟨rfl, gr_trans GJ.out (gr_trans HGa.out HG7.out)⟩
                | true =>
                  have hjk := HAf.out hGO.out
                  have hgo := hGO.out
                  obtain ⟨R, hR⟩ : ∃ R : Rd, Hid (rdAt d fr l xs j = R) := ⟨_, hid rfl⟩
                  have HRok : Hid (RdOk R) := hid (by rw [← hR.out]; exact rdAt_ok hgo (by rw [hxx.out]; exact Hxok.out))
                  have hRl : Hid (R.l.length = nl) := hid (by rw [← hR.out]; exact HclsL.out)
                  have hnl0 : 0 < nl ∧ nl ≤ 6 := by have h := (goesZ_bd hgo).2; rwa [HclsL.out] at h
                  have HE : Hid (R.d.cf = ⟨ho, C, de, wi, pr, qu⟩ ∧ R.cy = p ∧ R.u0 = x0 ∧ R.u1 = x1 ∧ R.w0 = x2 ∧ R.w1 = x3) := hid (by
                    rw [← hR.out]
                    refine ⟨hcf.out, hp.out, ?_, ?_, ?_, ?_⟩
                    · show (nthLs xs j).u0 = _; rw [hxx.out]
                    · show (nthLs xs j).u1 = _; rw [hxx.out]
                    · show (nthLs xs j).w0 = _; rw [hxx.out]
                    · show (nthLs xs j).w1 = _; rw [hxx.out])
                  have HRd : Hid (R.d = d ∧ R.l = clsAt d fr l xs j) := hid (by rw [← hR.out]; exact ⟨rfl, rfl⟩)
                  have HNext : Hid (clsAt d fr l xs (j + 1) = aftL R) := hid (by rw [← hR.out]; rfl)
                  obtain ⟨c0, hc0⟩ : ∃ c, Hid (R.crew 0 = c) := ⟨_, hid rfl⟩
                  obtain ⟨c1, hc1⟩ : ∃ c, Hid (R.crew 1 = c) := ⟨_, hid rfl⟩
                  have HRGo : Hid (∀ (W0 W : World) (v : Value), wA.grownBy W0 none → W0.grownBy W none → CksAt W0.heap.size W0 v (clsAt d fr l xs j) → Calls Tryz.prog 15 #[(.agg #[.int .i64 ho, .int .i64 C, .int .i64 de, .int .i64 wi, .int .i64 pr, vd, ve, vl, .int .i64 qu]), .int .i64 p, v, .agg #[.int .u32 (x0 : Int), .int .u32 (x1 : Int)], .agg #[.int .u32 (x2 : Int), .int .u32 (x3 : Int)]] W fun e w' => ∃ ys yb yh ya, e = .returned (.agg #[ys, .int .u32 (c0 : Int), .int .u32 (c1 : Int), yb, yh, ya]) ∧ Hid (ToldAt w' R ys yb yh ya) ∧ Hid (W.grownBy w' none)) := hid (fun W0 W v g0 g hcW => by
                    have hc : CksAt W.heap.size W v (clsAt d fr l xs j) := SliceAt.keptRow hcW g (fun q hq => by cases hq)
                    have H := rgo_ok R HRok.out vd ve vl v W (by rw [HRd.out.1]; exact HNt.out _ (gr_trans GJ.out (gr_trans HGa.out (gr_trans g0 g)))) (by rw [HRd.out.2]; exact hc)
                    rw [hc0.out, hc1.out, HE.out.1, HE.out.2.1, HE.out.2.2.1, HE.out.2.2.2.1, HE.out.2.2.2.2.1, HE.out.2.2.2.2.2] at H
                    exact H)
                  clear hgo
                  have HGB := hid HG7.out
                  go_wp2_with fail
                  obtain ⟨m0, m1, m2, m3, m4, m5, m6, m7, m8, m9, m10, m11, m12⟩ := HSK.out w7 HGB.out
                  apply wp_behindT (fun aS cS aB cB aH cH aA cA g W => Hid (w7.grownBy W none) ∧ Hid (W.heap[g]? = some (.cells #[.slice aS nl cS, .int .u32 (c0 : Int), .int .u32 (c1 : Int), .slice aB nl cB, .slice aH nl cH, .slice aA nl cA] 48)) ∧ Hid (ToldAt W R (.slice aS nl cS) (.slice aB nl cB) (.slice aH nl cH) (.slice aA nl cA)))
                  case h =>
                    go_region_held3 (fun w' => w'.cell? ⟨bx, 0, none⟩ = some (.int .i64 ho) ∧ w'.cell? ⟨bx, 1, none⟩ = some (.int .i64 C) ∧ w'.cell? ⟨bx, 2, none⟩ = some (.int .i64 de) ∧ w'.cell? ⟨bx, 3, none⟩ = some (.int .i64 wi) ∧ w'.cell? ⟨bx, 4, none⟩ = some (.int .i64 pr) ∧ w'.cell? ⟨bx, 5, none⟩ = some vd ∧ w'.cell? ⟨bx, 6, none⟩ = some ve ∧ w'.cell? ⟨bx, 7, none⟩ = some vl ∧ w'.cell? ⟨bx, 8, none⟩ = some (.int .i64 qu) ∧ w'.cell? ⟨lb, 0, none⟩ = some (.int .u32 (x0 : Int)) ∧ w'.cell? ⟨lb, 1, none⟩ = some (.int .u32 (x1 : Int)) ∧ w'.cell? ⟨lb, 2, none⟩ = some (.int .u32 (x2 : Int)) ∧ w'.cell? ⟨lb, 3, none⟩ = some (.int .u32 (x3 : Int)))
                      (first | (refine HSK.out _ (gr_trans HGB.out ?_); with_reducible exact gr_set6n HGg.out HZl.out _ _ _ _ _ _) | (refine HSK.out _ (gr_trans HGB.out ?_); with_reducible exact HGg.out) | (refine HSK.out _ (gr_trans HGB.out ?_); with_reducible exact HGf.out) | (refine HSK.out _ (gr_trans HGB.out ?_); with_reducible exact gr_drew (gr_refl w7 none)) | (refine HSK.out _ (gr_trans HGB.out ?_); with_reducible exact gr_alloc (gr_drew (gr_refl w7 none)) _) | (refine HSK.out _ (gr_trans HGB.out ?_); with_reducible exact gr_drew (gr_alloc (gr_refl w7 none) _)) | (refine HSK.out _ (gr_trans HGB.out ?_); with_reducible exact gr_alloc HGg.out _) | (refine HSK.out _ (gr_trans HGB.out ?_); with_reducible exact gr_alloc HGf.out _))
                      (first
                        | (go_at_call 12; refine (HOf.out _ (gr_trans HGB.out (gr_drew (gr_alloc (gr_refl w7 none) (.cells #[.slice none 0 0, .int .u32 0, .int .u32 0, .slice none 0 0, .slice none 0 0, .slice none 0 0] 48))))).mono ?_; rintro e wf ⟨vf, rfl, HVf, gf⟩; have HGf : Hid (w7.grownBy wf none) := hid (gr_trans (gr_drew (gr_alloc (gr_refl w7 none) (.cells #[.slice none 0 0, .int .u32 0, .int .u32 0, .slice none 0 0, .slice none 0 0, .slice none 0 0] 48))) gf); have HZ0 := hid (gr_heap gf (heap_alloc_new w7 (.cells #[.slice none 0 0, .int .u32 0, .int .u32 0, .slice none 0 0, .slice none 0 0, .slice none 0 0] 48)) (by simp)); clear gf)
                        | (go_at_call 12; refine (HOf.out _ (gr_trans HGB.out (gr_drew (gr_refl w7 none)))).mono ?_; rintro e wf ⟨vf, rfl, HVf, gf⟩; have HGf : Hid (w7.grownBy wf none) := hid (gr_trans (gr_drew (gr_refl w7 none)) gf); clear gf)
                        | (go_at_call 15; refine (HRGo.out wf _ vf (gr_trans HGB.out HGf.out) (gr_alloc (gr_refl wf none) (.cells #[.slice none 0 0, .int .u32 0, .int .u32 0, .slice none 0 0, .slice none 0 0, .slice none 0 0] 48)) HVf.out).mono ?_; rintro e wg ⟨ys, yb, yh, ya, rfl, ht, hg⟩; obtain ⟨aS, cS, e1⟩ := slice_frm' ht.out.sent; obtain ⟨aB, cB, e2⟩ := slice_frm' ht.out.by_; obtain ⟨aH, cH, e3⟩ := slice_frm' ht.out.hrd; obtain ⟨aA, cA, e4⟩ := slice_frm' ht.out.aft; rw [hRl.out] at e1 e2 e3 e4; subst e1 e2 e3 e4; have HT := hid ht.out; have HGg : Hid (w7.grownBy wg none) := hid (gr_trans (gr_alloc HGf.out (.cells #[.slice none 0 0, .int .u32 0, .int .u32 0, .slice none 0 0, .slice none 0 0, .slice none 0 0] 48)) hg.out); have HZ := hid (gr_heap hg.out (heap_alloc_new wf (.cells #[.slice none 0 0, .int .u32 0, .int .u32 0, .slice none 0 0, .slice none 0 0, .slice none 0 0] 48)) (by simp)); have HZl := hid HGf.out.size; have zz0 := hcell HZ.out 0 _ rfl; have zf0 := hfroz HZ.out 0; have zz1 := hcell HZ.out 1 _ rfl; have zf1 := hfroz HZ.out 1; have zz2 := hcell HZ.out 2 _ rfl; have zf2 := hfroz HZ.out 2; have zz3 := hcell HZ.out 3 _ rfl; have zf3 := hfroz HZ.out 3; have zz4 := hcell HZ.out 4 _ rfl; have zf4 := hfroz HZ.out 4; have zz5 := hcell HZ.out 5 _ rfl; have zf5 := hfroz HZ.out 5; clear hg)
                        | (go_at_call 15; refine (HRGo.out wf wf vf (gr_trans HGB.out HGf.out) (gr_refl wf none) HVf.out).mono ?_; rintro e wg ⟨ys, yb, yh, ya, rfl, ht, hg⟩; obtain ⟨aS, cS, e1⟩ := slice_frm' ht.out.sent; obtain ⟨aB, cB, e2⟩ := slice_frm' ht.out.by_; obtain ⟨aH, cH, e3⟩ := slice_frm' ht.out.hrd; obtain ⟨aA, cA, e4⟩ := slice_frm' ht.out.aft; rw [hRl.out] at e1 e2 e3 e4; subst e1 e2 e3 e4; have HT := hid ht.out; have HGg : Hid (w7.grownBy wg none) := hid (gr_trans HGf.out hg.out); have HZ := hid (gr_heap hg.out HZ0.out (by simp)); have HZl := hid (Nat.le_refl w7.heap.size); have zz0 := hcell HZ.out 0 _ rfl; have zf0 := hfroz HZ.out 0; have zz1 := hcell HZ.out 1 _ rfl; have zf1 := hfroz HZ.out 1; have zz2 := hcell HZ.out 2 _ rfl; have zf2 := hfroz HZ.out 2; have zz3 := hcell HZ.out 3 _ rfl; have zf3 := hfroz HZ.out 3; have zz4 := hcell HZ.out 4 _ rfl; have zf4 := hfroz HZ.out 4; have zz5 := hcell HZ.out 5 _ rfl; have zf5 := hfroz HZ.out 5; clear hg)
                        | (go_at_call 15; refine (HRGo.out wf wf vf (gr_trans HGB.out HGf.out) (gr_refl wf none) HVf.out).mono ?_; rintro e wg ⟨ys, yb, yh, ya, rfl, ht, hg⟩; obtain ⟨aS, cS, e1⟩ := slice_frm' ht.out.sent; obtain ⟨aB, cB, e2⟩ := slice_frm' ht.out.by_; obtain ⟨aH, cH, e3⟩ := slice_frm' ht.out.hrd; obtain ⟨aA, cA, e4⟩ := slice_frm' ht.out.aft; rw [hRl.out] at e1 e2 e3 e4; subst e1 e2 e3 e4; have HT := hid ht.out; have HGg : Hid (w7.grownBy wg none) := hid (gr_trans HGf.out hg.out); clear hg)
                        | fail)
                    all_goals first
                      | (have hx0 := told_kept HT.out (gr_alloc (gr_refl wg none) (.cells #[.slice aS nl cS, .int .u32 (c0 : Int), .int .u32 (c1 : Int), .slice aB nl cB, .slice aH nl cH, .slice aA nl cA] 48)) (fun q hq => by cases hq) (fun q hq => by cases hq) (fun q hq => by cases hq) (fun q hq => by cases hq); obtain ⟨q, hq⟩ : ∃ q, wg.heap.size = q := ⟨_, rfl⟩; have h9 := heap_alloc_new wg (.cells #[.slice aS nl cS, .int .u32 (c0 : Int), .int .u32 (c1 : Int), .slice aB nl cB, .slice aH nl cH, .slice aA nl cA] 48); have hx := gr_alloc HGg.out (.cells #[.slice aS nl cS, .int .u32 (c0 : Int), .int .u32 (c1 : Int), .slice aB nl cB, .slice aH nl cH, .slice aA nl cA] 48); rw [hq] at h9; simp only [hq]; exact ⟨vf, aS, cS, aB, cB, aH, cH, aA, cA, q, rfl, hid hx, hid h9, hid hx0⟩)
                      | (obtain ⟨q, hq⟩ : ∃ q, wf.heap.size = q := ⟨_, rfl⟩; have h9 := HZ.out; have h8 := HZl.out; rw [hq] at h9 h8; simp only [hq]; exact ⟨vf, aS, cS, aB, cB, aH, cH, aA, cA, q, rfl, hid (gr_set6n HGg.out h8 _ _ _ _ _ _), hid (set6h h9), hid (told_set HT.out (by rw [hRl.out]; exact hnl0.1) h9 (gr_set6r wg q _ _ _ _ _ _))⟩)
                      | (obtain ⟨q, hq⟩ : ∃ q, w7.heap.size = q := ⟨_, rfl⟩; have h9 := HZ.out; have h8 : w7.heap.size ≤ q := Nat.le_of_eq hq; rw [hq] at h9; simp only [hq]; exact ⟨vf, aS, cS, aB, cB, aH, cH, aA, cA, q, rfl, hid (gr_set6n HGg.out h8 _ _ _ _ _ _), hid (set6h h9), hid (told_set HT.out (by rw [hRl.out]; exact hnl0.1) h9 (gr_set6r wg q _ _ _ _ _ _))⟩)
                  case k =>
                    intro va aS cS aB cB aH cH aA cA g W hW
                    obtain ⟨HGW, HBW, HTW⟩ := hW
                    have hTj := HTl.out j hjk
                    rw [hR.out] at hTj
                    obtain ⟨pS, qS, e1⟩ := slice_frm' hTj.sent
                    obtain ⟨pB, qB, e2⟩ := slice_frm' hTj.by_
                    obtain ⟨pH, qH, e3⟩ := slice_frm' hTj.hrd
                    obtain ⟨pA, qA, e4⟩ := slice_frm' hTj.aft
                    rw [hRl.out] at e1 e2 e3 e4
                    have HTj := hid hTj
                    clear hTj
                    have HVq := HVo.out
                    rcases HVq with ⟨_, _, _, h0⟩ | ⟨bV, oV, cQ, eV, hcQ, _, hfV⟩
                    · omega
                    injection eV with eV1 eV2 eV3
                    subst eV1 eV3
                    have hr0 := hfV j hjk 0 (by omega)
                    have hr1 := hfV j hjk 1 (by omega)
                    have hr2 := hfV j hjk 2 (by omega)
                    have hr3 := hfV j hjk 3 (by omega)
                    have hr4 := hfV j hjk 4 (by omega)
                    have hr5 := hfV j hjk 5 (by omega)
                    unfold toldF at hr0 hr1 hr2 hr3 hr4 hr5
                    rw [hR.out] at hr1 hr2
                    rw [hc0.out] at hr1
                    rw [hc1.out] at hr2
                    rw [e1] at hr0 HTj
                    rw [e2] at hr3 HTj
                    rw [e3] at hr4 HTj
                    rw [e4] at hr5 HTj
                    clear hfV e1 e2 e3 e4
                    have HG4W := hid (gr_trans HGj.out (gr_trans HGa.out (gr_trans HGB.out HGW.out)))
                    have HSW : Hid (∀ W' : World, W.grownBy W' none → (fun w' => w'.cell? ⟨bV, oV + j * 6, none⟩ = some (.slice pS nl qS) ∧ w'.cell? ⟨bV, oV + j * 6 + 1, none⟩ = some (.int .u32 (c0 : Int)) ∧ w'.cell? ⟨bV, oV + j * 6 + 2, none⟩ = some (.int .u32 (c1 : Int)) ∧ w'.cell? ⟨bV, oV + j * 6 + 3, none⟩ = some (.slice pB nl qB) ∧ w'.cell? ⟨bV, oV + j * 6 + 4, none⟩ = some (.slice pH nl qH) ∧ w'.cell? ⟨bV, oV + j * 6 + 5, none⟩ = some (.slice pA nl qA) ∧ w'.cell? ⟨g, 0, none⟩ = some (.slice aS nl cS) ∧ w'.cell? ⟨g, 1, none⟩ = some (.int .u32 (c0 : Int)) ∧ w'.cell? ⟨g, 2, none⟩ = some (.int .u32 (c1 : Int)) ∧ w'.cell? ⟨g, 3, none⟩ = some (.slice aB nl cB) ∧ w'.cell? ⟨g, 4, none⟩ = some (.slice aH nl cH) ∧ w'.cell? ⟨g, 5, none⟩ = some (.slice aA nl cA)) W') := hid (fun W' gg => by
                      have g9 := gr_trans HG4W.out gg
                      have hb := gr_heap gg HBW.out (by simp)
                      exact ⟨gr_cell g9 hr0, gr_cell g9 hr1, gr_cell g9 hr2, gr_cell g9 hr3, gr_cell g9 hr4, gr_cell g9 hr5, hcell hb 0 _ rfl, hcell hb 1 _ rfl, hcell hb 2 _ rfl, hcell hb 3 _ rfl, hcell hb 4 _ rfl, hcell hb 5 _ rfl⟩)
                    have HTk : Hid (∀ W' : World, W.grownBy W' none → ToldAt W' R (.slice pS nl qS) (.slice pB nl qB) (.slice pH nl qH) (.slice pA nl qA) ∧ ToldAt W' R (.slice aS nl cS) (.slice aB nl cB) (.slice aH nl cH) (.slice aA nl cA)) := hid (fun W' gg => ⟨told_kept HTj.out (gr_trans HG4W.out gg) (fun q hq => by cases hq) (fun q hq => by cases hq) (fun q hq => by cases hq) (fun q hq => by cases hq), told_kept HTW.out gg (fun q hq => by cases hq) (fun q hq => by cases hq) (fun q hq => by cases hq) (fun q hq => by cases hq)⟩)
                    have HSm : Hid (∀ W' : World, W.grownBy W' none → Calls Tryz.prog 14 #[.agg #[.slice pS nl qS, .int .u32 (c0 : Int), .int .u32 (c1 : Int), .slice pB nl qB, .slice pH nl qH, .slice pA nl qA], .agg #[.slice aS nl cS, .int .u32 (c0 : Int), .int .u32 (c1 : Int), .slice aB nl cB, .slice aH nl cH, .slice aA nl cA]] W' fun e w' => e = .returned (.bool true) ∧ W'.grownBy w' none) := hid (fun W' gg => same_any R _ _ _ _ _ _ _ _ c0 c1 W' (HTk.out W' gg).1 (HTk.out W' gg).2 (by rw [hRl.out]; exact hnl0.1) (by rw [hRl.out]; exact hnl0.2))
                    have HAfter : Hid (∀ W' : World, W.grownBy W' none → CksAt W'.heap.size W' (.slice pA nl qA) (clsAt d fr l xs (j + 1)) ∧ w4.grownBy W' none) := hid (fun W' gg => ⟨by rw [HNext.out]; exact told_cks (HTk.out W' gg).1, gr_trans HG4W.out gg⟩)
                    clear hr0 hr1 hr2 hr3 hr4 hr5 m0 m1 m2 m3 m4 m5 m6 m7 m8 m9 m10 m11 m12
                    have hjkI : (j : Int) < (kr : Int) := by omega
                    have hjk0 : (0 : Int) ≤ (j : Int) := by omega
                    have hdg : decide ((kr : Int) ≤ (j : Int)) = false := decide_eq_false (by omega)
                    have hdg2 : decide (kr ≤ j) = false := decide_eq_false (by omega)
                    have hdg3 : ¬ kr ≤ j := by omega
                    have hdg4 : ¬ (kr : Int) ≤ (j : Int) := by omega
                    obtain ⟨r0, r1, r2, r3, r4, r5, s0, s1, s2, s3, s4, s5⟩ := HSW.out W (gr_refl W _)
                    go_wp2_with fail
                    go_region_held3 (fun w' => w'.cell? ⟨bV, oV + j * 6, none⟩ = some (.slice pS nl qS) ∧ w'.cell? ⟨bV, oV + j * 6 + 1, none⟩ = some (.int .u32 (c0 : Int)) ∧ w'.cell? ⟨bV, oV + j * 6 + 2, none⟩ = some (.int .u32 (c1 : Int)) ∧ w'.cell? ⟨bV, oV + j * 6 + 3, none⟩ = some (.slice pB nl qB) ∧ w'.cell? ⟨bV, oV + j * 6 + 4, none⟩ = some (.slice pH nl qH) ∧ w'.cell? ⟨bV, oV + j * 6 + 5, none⟩ = some (.slice pA nl qA) ∧ w'.cell? ⟨g, 0, none⟩ = some (.slice aS nl cS) ∧ w'.cell? ⟨g, 1, none⟩ = some (.int .u32 (c0 : Int)) ∧ w'.cell? ⟨g, 2, none⟩ = some (.int .u32 (c1 : Int)) ∧ w'.cell? ⟨g, 3, none⟩ = some (.slice aB nl cB) ∧ w'.cell? ⟨g, 4, none⟩ = some (.slice aH nl cH) ∧ w'.cell? ⟨g, 5, none⟩ = some (.slice aA nl cA))
                      (first | (refine HSW.out _ ?_; with_reducible exact HG9.out) | (refine HSW.out _ ?_; with_reducible exact gr_drew (gr_refl W none)))
                      (first
                        | (go_at_call 14; refine (HSm.out _ (gr_drew (gr_refl W none))).mono ?_; rintro e w9 ⟨rfl, g9⟩; have HG9 : Hid (W.grownBy w9 none) := hid (gr_trans (gr_drew (gr_refl W none)) g9); clear g9)
                        | fail)
                    obtain ⟨hA1, hA2⟩ := HAfter.out w9 HG9.out
                    have HA1 := hid hA1
                    have HA2 := hid hA2
                    clear hA1 hA2 r0 r1 r2 r3 r4 r5 s0 s1 s2 s3 s4 s5
                    obtain ⟨r0, r1, r2, r3, r4, r5, s0, s1, s2, s3, s4, s5⟩ := HSW.out w9 HG9.out
                    go_wp2_with fail
                    refine ⟨⟨j + 1, by go_num, by omega, HA1, HA2⟩, ?_⟩
                    simp [intOf]; omega
            · obtain rfl : j = k := by omega
              clear hlt
              have hfin : kr = j ∧ er = 0 := by
                rcases HEnd.out.fin with ⟨_, h1, h2⟩ | ⟨_, h1⟩
                · exact ⟨by rw [h1]; exact hn.out, h2⟩
                · have h3 := hn.out
                  have h4 := hx32.out
                  omega
              obtain ⟨rfl, rfl⟩ := hfin
              go_wp2_with fail
              go_ret
              exact ⟨rfl, GJ.out⟩
      · have HCk0 : Hid (CksAt wr.heap.size wr (.slice none 0 0) l) := hid (by rw [HC.out.emp (by rw [hn.out]; omega)]; exact .inl ⟨_, _, rfl, rfl⟩)
        have k0 := hcell E0.out 0 _ rfl
        have k1 := hcell E0.out 1 _ rfl
        have k2 := hcell E0.out 2 _ rfl
        have k3 := hcell E0.out 3 _ rfl
        have k4 := hcell E0.out 4 _ rfl
        have k5 := hcell E0.out 5 _ rfl
        have k6 := hcell E0.out 6 _ rfl
        have k7 := hcell E0.out 7 _ rfl
        have k8 := hcell E0.out 8 _ rfl
        have hk0I : ¬ (0 : Int) < (k : Int) := by omega
        go_wp2_with fail
        refine (HRun.out _ HCk0.out).mono ?_
        rintro e w4 ⟨kr, er, vo, vs, vb, vh, va', rfl, HEnd, HVo, HTl, H4⟩
        have G4 := hid (gr_trans GX.out H4.out)
        have HCk4 := hid (HCk0.out.keptRow H4.out (fun q hq => by cases hq))
        have E4 := hid (gr_heap H4.out E0.out (by simp))
        obtain ⟨aV, cV, e0⟩ := slice_frm' HVo.out
        subst e0
        have hkr := HEnd.out.le
        rw [hn.out] at hkr
        clear k0 k1 k2 k3 k4 k5 k6 k7 k8
        clear hk0I
        by_cases h32 : 32 < k
        · have hfin : kr = 0 ∧ er = 1 := by
            rcases HEnd.out.fin with ⟨h9, _⟩ | ⟨he, hk⟩
            · have := hn.out; omega
            · rcases hk with ⟨_, h0⟩ | ⟨h9, _⟩
              · exact ⟨h0, he⟩
              · have := hn.out; omega
          obtain ⟨rfl, rfl⟩ := hfin
          have h32I : (32 : Int) < (k : Int) := by omega
          go_wp2_with fail
          go_ret
          exact ⟨rfl, G4.out⟩
        · have h32I : ¬ (32 : Int) < (k : Int) := by omega
          have hx32 : Hid (xs.length ≤ 32) := hid (by rw [hn.out]; omega)
          go_wp2_with fail
          obtain rfl : k = 0 := by omega
          go_loopw [10, 57] (fun vc vi wr => vi = .int .i64 0 ∧ Hid (w4.grownBy wr none)) (fun _ vi _ => 0)
          case atStart => exact ⟨rfl, hid (gr_refl w4 none)⟩
          case round =>
            obtain ⟨rfl, HGj⟩ := hrel
            have hfin : kr = 0 ∧ er = 0 := by
              rcases HEnd.out.fin with ⟨_, h1, h2⟩ | ⟨_, h1⟩
              · exact ⟨by rw [h1]; exact hn.out, h2⟩
              · have h3 := hn.out
                omega
            obtain ⟨rfl, rfl⟩ := hfin
            go_wp2_with fail
            go_ret
            exact ⟨rfl, gr_trans G4.out HGj.out⟩

end Go.Proofs.YtckoaeoecjphiaaGreat

/- Arguments opened: cases. -/
namespace Go.Proofs.YtckoaeoecjphiaaGreat
open Go.ChangeShapes Go.WideShapes Go.ChangeAt Go.RowKit Go.Deep Go.Lib

section
variable {H : Type} {enc : TypeId × Value → H} {w : World} {base : Nat} {spare : Nat → Bool} {held : Bool}
set_option maxRecDepth 100000 in
theorem open_cases_cells {fuel : Nat} {cs : List Value} {x : DataW H × List MemPlace} (hf : DataW.trod enc Tryz.prog w base spare held fuel 69 cs = some x) (hw : Within Tryz.prog 69 x.1) :
    ∃ sv svs xs l, cs = [sv] ∧ CasesAt w.heap.size w sv svs xs l := by
  have hC : Tryz.prog.cellsOf 33 = 5 := by kernel_rfl
  have hB : Tryz.prog.bytesOf 33 = 40 := by kernel_rfl
  rcases open_slice Tryz.underlying69 hf with ⟨rfl, rfl⟩ | ⟨a, len, cap, m, n', D, Pl, rfl, _, hlc, _, hmm, rfl, hi⟩
  · exact ⟨_, fun _ => undef, [], [], rfl, ⟨.inl ⟨_, _, rfl, rfl⟩, fun j hj => absurd hj (Nat.not_lt_zero j), fun y hy => by simp at hy, fun h => absurd h (Nat.not_lt_zero 0), fun _ => rfl, by simp, by simp⟩⟩
  · have hlm : len ≤ m := by rw [hmm]; split <;> omega
    have fact : ∀ i, ∃ p : Value × List Ck × Ls, i < len → (∀ q, q < 5 → w.cell? (a.add (i * 5 + q)) = some ([p.1, .int .u32 (p.2.2.u0 : Int), .int .u32 (p.2.2.u1 : Int), .int .u32 (p.2.2.w0 : Int), .int .u32 (p.2.2.w1 : Int)].getD q undef)) ∧ CksAt w.heap.size w p.1 p.2.1 ∧ p.2.1.length * 24 ≤ 140737488351232 ∧ p.2.2.ok := by
      intro i
      by_cases hil : i < len
      · obtain ⟨cs', hc, htr⟩ := hi i (by omega)
        obtain ⟨sv, l, y, h1, h2, h3, rfl⟩ := open_case_cells htr (within_elem Tryz.underlying69 hw (List.mem_map.2 ⟨i, List.mem_range.2 hil, rfl⟩))
        rw [hC] at hc
        obtain ⟨_, _, hat⟩ := World.cells?_some hc
        refine ⟨⟨sv, l, y⟩, fun _ => ⟨fun q hq => ?_, h1, h2, h3⟩⟩
        have h4 := hat q hq
        rw [Go.Deep.add_add] at h4
        rw [h4]
        match q, hq with
        | 0, _ => rfl
        | 1, _ => rfl
        | 2, _ => rfl
        | 3, _ => rfl
        | 4, _ => rfl
      · exact ⟨⟨undef, [], ⟨0, 0, 0, 0⟩⟩, fun h => absurd h hil⟩
    obtain ⟨f, hfx⟩ := Classical.axiomOfChoice fact
    have hws := within_row Tryz.underlying69 hw
    rw [hB] at hws
    simp only [List.length_map, List.length_range] at hws
    have hn : ∀ j, j < len → nthLs ((List.range len).map fun i => (f i).2.2) j = (f j).2.2 := fun j hj => by unfold nthLs; simp [hj]
    refine ⟨_, fun i => (f i).1, (List.range len).map fun i => (f i).2.2, if 0 < len then (f 0).2.1 else [], rfl, ⟨?_, ?_, ?_, ?_, ?_, ?_, ?_⟩⟩
    · by_cases h0 : len = 0
      · subst h0
        exact .inl ⟨_, _, rfl, by simp⟩
      · obtain ⟨b, off, spot⟩ := a
        have h1 := (hfx 0 (by omega)).1 0 (by omega)
        have hsp : spot = none := by simpa [Addr.add] using World.cell?_spot h1
        subst hsp
        have hbl := World.block_lt_of_cell? w _ h1
        refine .inr ⟨b, off, cap, by simp, by simpa using hlc, by simpa [Addr.add] using hbl, fun j hj i hi => ?_⟩
        have hj' : j < len := by simpa using hj
        have h2 := (hfx j hj').1 i hi
        rw [show (⟨b, off + j * 5 + i, none⟩ : Addr) = (⟨b, off, none⟩ : Addr).add (j * 5 + i) by rw [add_lit, Nat.add_assoc], h2]
        match i, hi with
        | 0, _ => rfl
        | 1, _ => simp only [caseF, lsF, hn j hj']; rfl
        | 2, _ => simp only [caseF, lsF, hn j hj']; rfl
        | 3, _ => simp only [caseF, lsF, hn j hj']; rfl
        | 4, _ => simp only [caseF, lsF, hn j hj']; rfl
    · intro j hj
      have hj' : j < len := by simpa using hj
      obtain ⟨a', c', h⟩ := slice_frm' (hfx j hj').2.1
      exact ⟨_, _, _, h⟩
    · intro y hy
      obtain ⟨j, hj, rfl⟩ := List.mem_map.1 hy
      exact (hfx j (List.mem_range.1 hj)).2.2.2
    · intro h0
      have h0' : 0 < len := by simpa using h0
      rw [if_pos h0']
      exact (hfx 0 h0').2.1
    · intro h0
      have h0' : len = 0 := by simpa using h0
      rw [if_neg (by omega)]
    · by_cases h0 : 0 < len
      · rw [if_pos h0]; exact (hfx 0 h0).2.2.1
      · rw [if_neg h0]; simp
    · simp only [List.length_map, List.length_range]
      omega
set_option maxRecDepth 100000 in
theorem open_cases {r : Reach} {b0 : Nat} {v : Value} {d : DataW H} {p : List MemPlace}
    (hv : Value.okWide Tryz.prog w r b0 69 v) (h : DataW.Trod enc Tryz.prog w base spare held 69 v d p) (hw : Within Tryz.prog 69 d) :
    ∃ sv svs xs l, v = sv ∧ CasesAt w.heap.size w sv svs xs l := by
  obtain ⟨a0, len0, cap0, rfl⟩ := okWide_slice Tryz.underlying69 hv
  obtain ⟨fuel, hf⟩ := h
  obtain ⟨sv, svs, xs, l, h1, h2⟩ := open_cases_cells hf hw
  have h3 : [Value.slice a0 len0 cap0] = [sv] := h1
  injection h3 with h4
  exact ⟨sv, svs, xs, l, h4, h2⟩
end
end Go.Proofs.YtckoaeoecjphiaaGreat

/- RoundRuns: for every configuration, time of the first round and cases the law answers true: a run of rounds is each round by itself, told in turn. No condition. -/
namespace Go.Proofs.YtckoaeoecjphiaaGreat
open Go.ChangeShapes Go.WideShapes Go.ChangeAt Go.RowKit
open Go.ChangeMaps (open_string shut_string)
set_option linter.unusedVariables false

theorem runsrow_all (d : Net) (vd ve vl : Value) {w : World} (hN : NetAt w.heap.size w d vd ve vl) (fr : Int) (hfr : -9223372036854775808 ≤ fr ∧ fr ≤ 9223372036854775807) (xv : Value) (svs : Nat → Value) (xs : List Ls) (l : List Ck) (hC : CasesAt w.heap.size w xv svs xs l) :
    Calls Tryz.prog 7 #[cfV d.cf vd ve vl, .int .i64 fr, xv] w fun e w' => e = .returned (.bool true) ∧ Below w.heap.size w w' :=
  (rruns_any d vd ve vl xv fr svs xs l w hN hC hfr).mono fun e w' h => ⟨h.1, gr_below h.2 (Nat.le_refl _) (by simp)⟩

set_option maxRecDepth 100000 in
theorem roundRuns_lifted (os : Os) (started : os.Started) (H : Type) (enc : TypeId × Value → H) :
    ReturnsInHanded {} Tryz.checked os 7 .any (Rows.roundRunsSpec.pre6 enc Tryz.prog Tryz.f7 Rows.roundRunsRow.domain false) (Rows.roundRunsSpec.post enc Tryz.prog Tryz.f7 false true false false) := by
  refine returnsInHanded_of_change_sized (C := Tryz.checked) own_none started (by kernel_rfl) Tryz.func7
    (ChangeSpec.witness6 (enc := enc) (C := Tryz.checked) false ⟨#[], #[.agg #[.int .i64 0, .int .i64 0, .int .i64 0, .int .i64 0, .int .i64 0, .slice none 0 0, .slice none 0 0, .slice none 0 0, .int .i64 0], .int .i64 0, .slice none 0 0], []⟩ 8 (by kernel_rfl) (by kernel_rfl) (by kernel_rfl) (by kernel_rfl)) ?_
  intro W base args ds gs before hval0 hW hcnd hsz0 _
  have hsz : (DataW.weightsEach Tryz.prog (Tryz.f7.params.toList ++ Rows.roundRunsSpec.plain.varTypes Tryz.prog) (ds ++ gs)).all (· ≤ reachBytes) = true := hsz0
  clear hsz0
  have hval : ∀ (j : Nat) t v, Tryz.f7.params[j]? = some t → args[j]? = some v → Value.okWide Tryz.prog W .any base t v := hval0
  have hW' := hW
  obtain ⟨p, q, hA0, hV, rfl, hfz, hnd⟩ := hW
  have hA : DataW.TrodAll enc Tryz.prog W 0 (fun _ => true) true Tryz.f7.params.toList args.toList ds p := hA0
  rw [Tryz.params7] at hA hval hsz
  obtain ⟨v0, vs0, d0, ds0, p0, q0, hargs, rfl, rfl, h0, r0⟩ := trodAll_cons hA
  obtain ⟨v1, vs1, d1, ds1, p1, q1, rfl, rfl, rfl, h1, r1⟩ := trodAll_cons r0
  obtain ⟨v2, vs2, d2, ds2, p2, q2, rfl, rfl, rfl, h2, r2⟩ := trodAll_cons r1
  obtain ⟨rfl, rfl, rfl⟩ := trodAll_nil r2
  obtain rfl : args = #[v0, v1, v2] := by cases args; simp_all
  obtain ⟨rfl, rfl⟩ := trodVars_none hV
  have k0 := h0
  have lt0 : ∀ x ∈ p0, x.block < W.heap.size := by obtain ⟨m, hm⟩ := k0; exact DataW.trod_lt m _ _ _ hm
  have k1 := h1
  have lt1 : ∀ x ∈ p1, x.block < W.heap.size := by obtain ⟨m, hm⟩ := k1; exact DataW.trod_lt m _ _ _ hm
  have k2 := h2
  have lt2 : ∀ x ∈ p2, x.block < W.heap.size := by obtain ⟨m, hm⟩ := k2; exact DataW.trod_lt m _ _ _ hm
  obtain ⟨D0, vd0, ve0, vl0, rfl, N0⟩ := open_config (hval 0 26 v0 rfl rfl) h0 (within_arg hsz (j := 0) rfl rfl)
  obtain ⟨a1, rfl, b1⟩ := open_i64 Tryz.underlying2 (hval 1 2 v1 rfl rfl) h1
  obtain ⟨sv2, svs2, xs2, l2, rfl, cs2⟩ := open_cases (hval 2 69 v2 rfl rfl) h2 (within_arg hsz (j := 2) rfl rfl)
  clear hA0 hval0
  refine (runsrow_all D0 vd0 ve0 vl0 N0 a1 b1 v2 svs2 xs2 l2 cs2).mono fun e W' ⟨he, bel⟩ => ?_
  subst he
  exact ⟨_, rfl, _, _, _, [], _, [], hW', trodAll_mk1 (shut_bool Tryz.underlying4 _), (trodAll_cons_mk (Below.trod laid_out (by kernel_rfl) (of_decide_eq_true (by kernel_rfl)) k0 bel lt0) (trodAll_cons_mk (Below.trod laid_out (by kernel_rfl) (of_decide_eq_true (by kernel_rfl)) k1 bel lt1) (trodAll_cons_mk (Below.trod laid_out (by kernel_rfl) (of_decide_eq_true (by kernel_rfl)) k2 bel lt2) trodAll_mk0))), rfl, bel.frame _, fun h => by cases h⟩

theorem roundRuns_holds : Rows.RoundRunsSaid :=
  OpenClaim.holds_of_wide 7 Tryz.f7 rfl rfl rfl rfl rfl rfl rfl ⟨rfl, rfl, rfl, rfl, rfl⟩ rfl rfl rfl rfl rfl (by kernel_rfl) Tryz.func7 (by kernel_rfl)
    (of_decide_eq_true (by kernel_rfl)) (by unfold Func.isWrapper; rw [if_neg (of_decide_eq_false (by kernel_rfl))]; exact ⟨rfl, rfl⟩)
    (fun os started H enc _ => roundRuns_lifted os started H enc)

#print axioms roundRuns_holds
end Go.Proofs.YtckoaeoecjphiaaGreat
