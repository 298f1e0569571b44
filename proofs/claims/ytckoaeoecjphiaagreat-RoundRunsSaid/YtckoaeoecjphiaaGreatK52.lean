/- Lemmas: The document's round, as a whole. -/
import Derived.Test.YtckoaeoecjphiaaGreatK51
import Derived.Test.YtckoaeoecjphiaaGreatK39

/- The document's round, as a whole. -/
namespace Go.Proofs.YtckoaeoecjphiaaGreat
open Go.RowKit Go.Lib

/-- Those that send, in their order: there is such an order. -/
theorem lex_ins (x : Sd) : ∀ (l : List Sd), l.Pairwise lexS → (∀ y ∈ l, y.h ≠ x.h) → ∃ r : List Sd, r.Perm (x :: l) ∧ r.Pairwise lexS
  | [], _, _ => ⟨[x], List.Perm.refl _, by simp⟩
  | y :: l, h, hn => by
    obtain ⟨h1, h2⟩ := List.pairwise_cons.1 h
    have hy := hn y (by simp)
    by_cases hxy : lexS x y
    · refine ⟨x :: y :: l, List.Perm.refl _, List.pairwise_cons.2 ⟨fun z hz => ?_, h⟩⟩
      rcases List.mem_cons.1 hz with rfl | hz
      · exact hxy
      · exact hxy.trans (h1 z hz)
    · obtain ⟨r, hp, hs⟩ := lex_ins x l h2 (fun z hz => hn z (List.mem_cons_of_mem _ hz))
      refine ⟨y :: r, (hp.cons y).trans (List.Perm.swap x y l), List.pairwise_cons.2 ⟨fun z hz => ?_, hs⟩⟩
      rcases List.mem_cons.1 (hp.subset hz) with rfl | hz
      · unfold lexS at *; omega
      · exact h1 z hz
theorem lex_sorted : ∀ (l : List Sd), l.Pairwise (fun a b => a.h ≠ b.h) → ∃ r : List Sd, r.Perm l ∧ r.Pairwise lexS
  | [], _ => ⟨[], List.Perm.refl _, by simp⟩
  | x :: l, h => by
    obtain ⟨h1, h2⟩ := List.pairwise_cons.1 h
    obtain ⟨r, hp, hs⟩ := lex_sorted l h2
    obtain ⟨r2, hp2, hs2⟩ := lex_ins x r hs (fun y hy => (h1 y (hp.subset hy)).symm)
    exact ⟨r2, hp2.trans (hp.cons x), hs2⟩
theorem sorts_some (R : Rd) : ∃ ys, Sorts R ys := by
  obtain ⟨ys, h1, h2⟩ := lex_sorted (sdTo R.l R.p R.l.length) ((sdTo_inc R.l R.p R.l.length).imp (fun h => by omega))
  exact ⟨ys, h1, h2⟩
theorem boxes5 (w : World) (o1 o2 o3 o4 o5 : Obj) : let W := ((((w.alloc o1).alloc o2).alloc o3).alloc o4).alloc o5; W.heap[w.heap.size]? = some o1 ∧ W.heap[w.heap.size + 1]? = some o2 ∧ W.heap[w.heap.size + 1 + 1]? = some o3 ∧ W.heap[w.heap.size + 1 + 1 + 1]? = some o4 ∧ W.heap[w.heap.size + 1 + 1 + 1 + 1]? = some o5 ∧ w.grownBy W none ∧ W.heap.size = w.heap.size + 5 := by
  obtain ⟨B1, B2, B3, B4, B5, B6⟩ := bxs_new w o1 o2 o3 o4
  have g := gr_alloc (gr_refl ((((w.alloc o1).alloc o2).alloc o3).alloc o4) none) o5
  refine ⟨gr_heap g B1 (by simp), gr_heap g B2 (by simp), gr_heap g B3 (by simp), gr_heap g B4 (by simp), ?_, gr_trans B5 g, ?_⟩
  · have h := heap_alloc_new ((((w.alloc o1).alloc o2).alloc o3).alloc o4) o5
    have e : w.heap.size + 1 + 1 + 1 + 1 = ((((w.alloc o1).alloc o2).alloc o3).alloc o4).heap.size := by rw [B6]
    rw [e]
    exact h
  · simp
set_option maxRecDepth 1000000 in
set_option maxHeartbeats 8000000 in
theorem rgo_ok (R : Rd) (hR : RdOk R) (vd ve vl sv : Value) (w : World) (hN : NetAt w.heap.size w R.d vd ve vl) (hsv : CksAt w.heap.size w sv R.l) :
    Calls Tryz.prog 15 #[cfV R.d.cf vd ve vl, .int .i64 R.cy, sv, .agg #[.int .u32 (R.u0 : Int), .int .u32 (R.u1 : Int)], .agg #[.int .u32 (R.w0 : Int), .int .u32 (R.w1 : Int)]] w fun e w' => ∃ vs vb vh va, e = .returned (.agg #[vs, .int .u32 (R.crew 0 : Int), .int .u32 (R.crew 1 : Int), vb, vh, va]) ∧ Hid (ToldAt w' R vs vb vh va) ∧ Hid (w.grownBy w' none) := by
  have HRd := hid hR
  obtain ⟨ys, hys⟩ := sorts_some R
  have HSo := hid hys
  have HN := hid hN
  have hl6 := hR.len.1
  have hl0 : 0 < R.l.length := by
    obtain ⟨h1, _, _, h4⟩ := cleanZ_iff.1 hR.clean.1
    obtain ⟨_, ⟨h0, _⟩, _⟩ := check_cy h1
    omega
  have hho := hR.len.2
  obtain ⟨lb, off, lcap, rfl, hlcap, hlbs, hlc⟩ : ∃ lb off lcap, sv = .slice (some ⟨lb, off, none⟩) R.l.length lcap ∧ R.l.length ≤ lcap ∧ lb < w.heap.size ∧ ∀ j, j < R.l.length → ∀ i, i < 3 → w.cell? ⟨lb, off + j * 3 + i, none⟩ = some (ckF R.l j i) := by
    rcases hsv with ⟨_, _, _, h0⟩ | ⟨b, of, cp, e, h1, h2, h3⟩
    · omega
    · exact ⟨b, of, cp, e, h1, h2, h3⟩
  have HLc := hid hlc
  obtain ⟨n, hn⟩ : ∃ n, Hid (R.l.length = n) := ⟨_, hid rfl⟩
  obtain ⟨cy, hcy⟩ : ∃ x, Hid (R.cy = x) := ⟨_, hid rfl⟩
  obtain ⟨p, hp⟩ : ∃ x, Hid (R.p = x) := ⟨_, hid rfl⟩
  obtain ⟨a0, ha0⟩ : ∃ x, Hid ((R.u0 : Int) = x) := ⟨_, hid rfl⟩
  obtain ⟨a1, ha1⟩ : ∃ x, Hid ((R.u1 : Int) = x) := ⟨_, hid rfl⟩
  obtain ⟨e0, he0⟩ : ∃ x, Hid ((R.w0 : Int) = x) := ⟨_, hid rfl⟩
  obtain ⟨e1, he1⟩ : ∃ x, Hid ((R.w1 : Int) = x) := ⟨_, hid rfl⟩
  obtain ⟨k0, hk0⟩ : ∃ x, Hid (R.crew 0 = x) := ⟨_, hid rfl⟩
  obtain ⟨k1, hk1⟩ : ∃ x, Hid (R.crew 1 = x) := ⟨_, hid rfl⟩
  obtain ⟨p0, hp0⟩ : ∃ x, Hid (R.pt 0 = x) := ⟨_, hid rfl⟩
  obtain ⟨p1, hp1⟩ : ∃ x, Hid (R.pt 1 = x) := ⟨_, hid rfl⟩
  obtain ⟨y0, hy0⟩ : ∃ x, Hid (cycS R.cy (R.came 0) = x) := ⟨_, hid rfl⟩
  obtain ⟨y1, hy1⟩ : ∃ x, Hid (cycS R.cy (R.came 1) = x) := ⟨_, hid rfl⟩
  obtain ⟨bb0, hb0⟩ : ∃ x, Hid ((!(R.came 0).isEmpty) = x) := ⟨_, hid rfl⟩
  obtain ⟨bb1, hb1⟩ : ∃ x, Hid ((!(R.came 1).isEmpty) = x) := ⟨_, hid rfl⟩
  obtain ⟨C, de, wi, pr, qu, hcf⟩ : ∃ C de wi pr qu, Hid (R.d.cf = ⟨(n : Int), C, de, wi, pr, qu⟩) := by
    refine ⟨R.d.cf.cy, R.d.cf.de, R.d.cf.wi, R.d.cf.pr, R.d.cf.qu, hid ?_⟩
    rw [← hn.out, hho]
  have hpC : Hid (cy * C = p) := hid (by rw [← hcy.out, ← hp.out]; unfold Rd.p; rw [hcf.out])
  have hcoll := fun (sw : Nat) (W : World) (sg scap : Nat) (h1 : R.l.length ≤ scap) (h2 : ∀ j, j < R.l.length → W.cell? ⟨sg, j, none⟩ = some (.int .i64 (R.sent j))) (h3 : sg < W.heap.size) => rcollect_any R hR ys hys sw vd ve vl sg scap W h1 h2 h3
  rw [hcf.out, hcy.out, hn.out] at hcoll
  have HC0 : Hid (∀ (W : World) (sg scap : Nat), n ≤ scap → (∀ j, j < n → W.cell? ⟨sg, j, none⟩ = some (.int .i64 (R.sent j))) → sg < W.heap.size → Calls Tryz.prog 42 #[cfV ⟨(n : Int), C, de, wi, pr, qu⟩ vd ve vl, .int .i64 cy, .slice (some ⟨sg, 0, none⟩) n scap, .int .u32 a0] W fun e w' => e = .returned (.tuple #[resV p0 k0 y0, .bool bb0]) ∧ W.grownBy w' none) := hid (fun W sg scap h1 h2 h3 => by
    have h9 := hcoll 0 W sg scap h1 h2 h3
    have e1 := hy0.out
    rw [hcy.out] at e1
    rw [hp0.out, hk0.out, e1, hb0.out, show ((R.up 0 : Nat) : Int) = a0 from ha0.out] at h9
    exact h9)
  have HC1 : Hid (∀ (W : World) (sg scap : Nat), n ≤ scap → (∀ j, j < n → W.cell? ⟨sg, j, none⟩ = some (.int .i64 (R.sent j))) → sg < W.heap.size → Calls Tryz.prog 42 #[cfV ⟨(n : Int), C, de, wi, pr, qu⟩ vd ve vl, .int .i64 cy, .slice (some ⟨sg, 0, none⟩) n scap, .int .u32 a1] W fun e w' => e = .returned (.tuple #[resV p1 k1 y1, .bool bb1]) ∧ W.grownBy w' none) := hid (fun W sg scap h1 h2 h3 => by
    have h9 := hcoll 1 W sg scap h1 h2 h3
    have e1 := hy1.out
    rw [hcy.out] at e1
    rw [hp1.out, hk1.out, e1, hb1.out, show ((R.up 1 : Nat) : Int) = a1 from ha1.out] at h9
    exact h9)
  have hbb0 : Hid (bb0 = true ↔ R.crew 0 ≠ 0) := hid (by
    have h9 := (hR.crew hys 0).2
    rw [← hb0.out, Ne, h9]
    cases R.came 0 <;> simp)
  have hbb1 : Hid (bb1 = true ↔ R.crew 1 ≠ 0) := hid (by
    have h9 := (hR.crew hys 1).2
    rw [← hb1.out, Ne, h9]
    cases R.came 1 <;> simp)
  have hpb := hid hR.pcy.1
  rw [hp.out] at hpb
  have hrow0 := hid (hR.row hl0 (show 0 < 2 by omega)).1
  rw [hcf.out, hcy.out, hn.out, ha0.out, ha1.out, he0.out, he1.out, hk0.out, hk1.out]
  rw [hn.out] at hl6 hl0 hlcap HLc
  clear hcoll hlc hsv hho
  go_enter Tryz.func15, Tryz.ntmps15
  go_wp2_with fail
  obtain ⟨W0, hW0⟩ : ∃ W0, (((((w.alloc (.cells #[.int .i64 (n : Int), .int .i64 C, .int .i64 de, .int .i64 wi, .int .i64 pr, vd, ve, vl, .int .i64 qu] 26)).alloc (.cells #[.int .u32 a0, .int .u32 a1] 29)).alloc (.cells #[.int .u32 e0, .int .u32 e1] 29)).alloc (.cells #[.slice none 0 0, .int .u32 0, .int .u32 0, .slice none 0 0, .slice none 0 0, .slice none 0 0] 48)).alloc (.cells #[.slice none 0 0, .int .u32 0, .int .u32 0, .slice none 0 0, .slice none 0 0, .slice none 0 0] 48)) = W0 := ⟨_, rfl⟩
  obtain ⟨B1, B2, B3, B4, B5, B6, B7⟩ := boxes5 w (.cells #[.int .i64 (n : Int), .int .i64 C, .int .i64 de, .int .i64 wi, .int .i64 pr, vd, ve, vl, .int .i64 qu] 26) (.cells #[.int .u32 a0, .int .u32 a1] 29) (.cells #[.int .u32 e0, .int .u32 e1] 29) (.cells #[.slice none 0 0, .int .u32 0, .int .u32 0, .slice none 0 0, .slice none 0 0, .slice none 0 0] 48) (.cells #[.slice none 0 0, .int .u32 0, .int .u32 0, .slice none 0 0, .slice none 0 0, .slice none 0 0] 48)
  rw [hW0] at B1 B2 B3 B4 B5 B6 B7 ⊢
  have HB1 := hid B1
  have HB2 := hid B2
  have HB3 := hid B3
  have HB4 := hid B4
  have HB5 := hid B5
  have HB6 := hid B6
  have HB7 := hid B7
  clear B1 B2 B3 B4 B5 B6 B7 hW0
  have HclkW : Hid (∀ W : World, w.grownBy W none → ∀ j, j < n → W.cell? ⟨lb, off + j * 3, none⟩ = some (.int .i64 (nthC R.l j).m) ∧ W.cell? ⟨lb, off + j * 3 + 1, none⟩ = some (.int .i64 (nthC R.l j).b) ∧ W.cell? ⟨lb, off + j * 3 + 2, none⟩ = some (.int .i64 (nthC R.l j).r)) := hid (fun W g j hj => ⟨gr_cell g (HLc.out j hj 0 (by omega)), gr_cell g (HLc.out j hj 1 (by omega)), gr_cell g (HLc.out j hj 2 (by omega))⟩)
  have hD0 : Hid (DG 0 W0 W0 (w.heap.size + 1 + 1 + 1 + 1) R 0 0 (.slice none 0 0) (.slice none 0 0) (.slice none 0 0) (.slice none 0 0) 0 0 0 0) := hid
    { os := rfl, tape := rfl, output := rfl, size := Nat.le_refl _, keep := fun _ _ _ => rfl, told := HB5.out
      row := fun i hi => by
        rcases (by omega : i = 0 ∨ i = 1 ∨ i = 2 ∨ i = 3) with rfl | rfl | rfl | rfl <;> exact World.ownsRow_nil _ _ _ _
      ap := fun i j hi _ _ q hq => by
        rcases (by omega : i = 0 ∨ i = 1 ∨ i = 2 ∨ i = 3) with rfl | rfl | rfl | rfl <;> cases hq
      tl := lt_of_block HB5.out }
  have hS0 : Hid (DSt W0 R w.heap.size (w.heap.size + 1 + 1 + 1 + 1) lb off n (n : Int) C de wi pr qu cy p vd ve vl) := hid
    { cf := HB1.out, clk := HclkW.out W0 HB6.out, lbs := by have := HB7.out; omega, ltb := by omega, btb := by omega, hcy := hpC.out, hp := hp.out, pb := hpb.out }
  refine rloop1 R HRd.out W0 w.heap.size (w.heap.size + 1 + 1 + 1 + 1) lb off lcap n C de wi pr qu cy p vd ve vl hn hl6 hlcap hD0 hS0 _ _ _ _ _ _ _ _ _ _ _ _ _ _ _ _ _ _ _ _ _ _ _ _ _ _ _ _ _ _ _ _ _ _ _ _ _ _ _ _ _ _ _ _ _ _ _ _ _ _ _ _ _ _ _ _ _ _ _ _ _ _ _ _ _ _ _ _ _ _ _ _ _ _ _ _ _ _ _ _ _ _ _ _ _ _ _ _ _ _ _ _ _ _ _ _ _ _ _ _ _ _ _ _ _ _ _ _ _ _ _ _ _ _ _ _ _ _ _ _ _ _ _ _ _ _ _ _ _ _ _ _ _ _ _ _ _ _ _ _ _ _ _ _ _ _ _ _ _ _ _ _ _ _ _ _ _ _ _ _ _ _ _ _ _ _ _ _ _ _ _ _ _ _ _ _ _ _ _ _ _ _ _ _ _ _ (hid ?_)
  intro z13 z14 z30 z31 z32 z33 z34 z35 z36 z37 z38 z39 z40 z41 z42 z43 z44 z45 z46 z47 z48 z49 z50 z51 z52 z53 z54 z55 W1 vs hD1
  have HD1 := hid hD1
  clear hD1
  obtain ⟨sg, scap, hvs, hscap, hsgb, hsgc⟩ : ∃ sg scap, vs = .slice (some ⟨sg, 0, none⟩) n scap ∧ n ≤ scap ∧ (W0.heap.size ≤ sg ∧ sg < W1.heap.size) ∧ ∀ j, j < n → W1.cell? ⟨sg, j, none⟩ = some (.int .i64 (R.sent j)) := by
    have h9 : W1.ownsRow W0.heap.size 2 1 vs n ((List.range n).map fun j => Value.int .i64 (R.sent j)) := HD1.out.row 0 (by omega)
    rcases h9.2 with ⟨_, h0⟩ | ⟨g, cap, cur, e, hb, hh, hc, _⟩
    · omega
    · refine ⟨g, cap, e, hc, ⟨hb, (Array.getElem?_eq_some_iff.1 hh).1⟩, fun j hj => ?_⟩
      rw [e] at h9
      rw [h9.cellAt j (by omega)]
      simp [hj]
  subst hvs
  go_wp2_with fail
  have hzW := HB7.out
  have hzW1 := HD1.out.size
  have gW1 : Hid (w.grownBy W1 none) := hid ⟨HD1.out.os.trans HB6.out.os, HD1.out.tape.trans HB6.out.tape, HD1.out.output.trans HB6.out.output, by omega, fun q hq hq2 => (HD1.out.keep q (by omega) (by omega)).trans (HB6.out.block q hq hq2)⟩
  obtain ⟨wB, hwB⟩ : ∃ W, ((W1.alloc (.cells #[.int .i64 0, .int .u32 0, .int .i64 0, .int .i64 0, .int .u32 0, .int .i64 0] 108)).alloc (.cells #[.bool false, .bool false] 109)) = W := ⟨_, rfl⟩
  have gB : Hid (W1.grownBy wB none) := hid (by rw [← hwB]; exact gr_alloc (gr_alloc (gr_refl W1 none) _) _)
  have hR0 : Hid (wB.heap[W1.heap.size]? = some (.cells #[.int .i64 0, .int .u32 0, .int .i64 0, .int .i64 0, .int .u32 0, .int .i64 0] 108)) := hid (by rw [← hwB]; exact box_heap1 (gr_refl _ none))
  have hH0 : Hid (wB.heap[W1.heap.size + 1]? = some (.cells #[.bool false, .bool false] 109)) := hid (by rw [← hwB]; exact box_heap2 (gr_refl _ none))
  have hzB : Hid (wB.heap.size = W1.heap.size + 2) := hid (by rw [← hwB]; simp)
  rw [hwB]
  clear hwB
  have hT0 : Hid (wB.heap[w.heap.size + 1 + 1 + 1 + 1]? = some (.cells #[.slice (some ⟨sg, 0, none⟩) n scap, .int .u32 0, .int .u32 0, .slice none 0 0, .slice none 0 0, .slice none 0 0] 48)) := hid (gr_heap gB.out HD1.out.told (by simp))
  have hat1 := hid (fun (q : Nat) (o : Obj) (h : W0.heap[q]? = some o) (hne : q ≠ w.heap.size + 1 + 1 + 1 + 1) => gr_heap gB.out ((HD1.out.keep q (lt_of_block h) hne).trans h) (by simp))
  have hS2 : Hid (DS2 wB R w.heap.size (w.heap.size + 1) (w.heap.size + 1 + 1 + 1 + 1) W1.heap.size (W1.heap.size + 1) n (.slice (some ⟨sg, 0, none⟩) n scap) (n : Int) C de wi pr qu a0 a1 vd ve vl) := hid
    { cf := hat1.out _ _ HB1.out (by omega), up := hat1.out _ _ HB2.out (by omega)
      snt := ⟨sg, scap, rfl, hscap, by have := hzB.out; omega, fun j hj => gr_cell gB.out (hsgc j hj)⟩
      d0 := ⟨by omega, by omega, by omega⟩, d1 := ⟨by omega, by omega, by omega⟩
      d2 := fun {g i n' c} e => by
        injection e with e1 _ _
        injection e1 with e1
        injection e1 with e1
        omega
      d3 := ⟨by omega, by omega, by omega⟩, dl := by have := hzB.out; exact ⟨by omega, by omega, by omega⟩ }
  refine rloop2 R wB w.heap.size (w.heap.size + 1) (w.heap.size + 1 + 1 + 1 + 1) W1.heap.size (W1.heap.size + 1) n C de wi pr qu cy a0 a1 vd ve vl (.slice (some ⟨sg, 0, none⟩) n scap) p0 p1 y0 y1 k0 k1 bb0 bb1 hS2 hT0 hR0 hH0 HC0 HC1 _ _ _ _ _ _ _ _ _ _ _ _ _ _ _ _ _ _ _ _ _ _ _ _ _ _ _ _ _ _ _ _ _ _ _ _ _ _ _ _ _ _ _ _ _ _ _ _ _ _ _ _ _ _ _ _ _ _ _ _ _ _ _ _ _ _ _ _ _ _ _ _ _ _ _ _ _ _ _ _ _ _ _ _ _ _ _ _ _ _ _ _ _ _ _ _ _ _ _ _ _ _ _ _ _ _ _ _ _ _ _ _ _ _ _ _ _ _ _ _ _ _ _ _ _ _ _ _ _ _ _ _ _ _ _ _ _ _ _ _ _ _ _ _ _ _ _ _ _ _ _ _ _ _ _ _ _ _ _ _ _ _ _ _ _ _ _ _ _ _ _ _ _ _ _ _ _ _ _ _ _ _ _ _ (hid ?_)
  intro z18 z19 z56 z57 z58 z59 z60 z61 z62 z63 z64 z65 z66 z67 z68 z69 z70 z71 z72 z73 z74 z75 z76 z77 z78 z79 z80 z81 W2 hK hT2 hR2 hH2
  have HK := hid hK
  have HT2 := hid hT2
  have HR2 := hid hR2
  have HH2 := hid hH2
  clear hK hT2 hR2 hH2
  have gW2 : Hid (w.grownBy W2 none) := hid (by
    have g1 := gr_trans gW1.out gB.out
    have hz1 := gW1.out.size
    exact ⟨HK.out.os.trans g1.os, HK.out.tape.trans g1.tape, HK.out.output.trans g1.output, Nat.le_trans g1.size HK.out.size, fun q hq hq2 => (HK.out.keep q (by have := g1.size; omega) (by omega) (by omega) (by omega)).trans (g1.block q hq hq2)⟩)
  have hz2 := HK.out.size
  have hzB' := hzB.out
  have hS3 : Hid (DS3 W2 R w.heap.size (w.heap.size + 1 + 1) (w.heap.size + 1 + 1 + 1 + 1) W1.heap.size (W1.heap.size + 1) lb off sg n (n : Int) C de wi pr qu cy p e0 e1 vd ve vl p0 p1 y0 y1 k0 k1 bb0 bb1) := hid
    { cf := HK.out.at_ (hat1.out _ _ HB1.out (by omega)) ⟨by omega, by omega, by omega⟩
      dn := HK.out.at_ (hat1.out _ _ HB3.out (by omega)) ⟨by omega, by omega, by omega⟩
      res := HR2.out, the := HH2.out, clk := HclkW.out W2 gW2.out
      snt := fun j hj => HK.out.cell_ (gr_cell gB.out (hsgc j hj)) (by omega) ⟨by omega, by omega, by omega⟩
      row := (HN.out.rows.grown gW2.out).wider (by omega)
      r0 := by have := hrow0.out; omega
      d0 := ⟨by omega, by omega, by omega, by omega, by omega, by omega⟩
      lbs := by omega, sgs := by omega, hcy := hpC.out, hp := hp.out }
  go_wp2_with fail
  refine rloop3 R HRd.out ys HSo.out W2 w.heap.size (w.heap.size + 1 + 1) (w.heap.size + 1 + 1 + 1 + 1) W1.heap.size (W1.heap.size + 1) lb off lcap sg scap n C de wi pr qu cy p e0 e1 vd ve vl p0 p1 y0 y1 k0 k1 bb0 bb1 hn hl6 hlcap hscap hS3 (hid (DG.restart HT2.out)) hcf hcy hk0 hk1 hp0 hp1 hy0 hy1 he0 he1 hbb0 hbb1 _ _ _ _ _ _ _ _ _ _ _ _ _ _ _ _ _ _ _ _ _ _ _ _ _ _ _ _ _ _ _ _ _ _ _ _ _ _ _ _ _ _ _ _ _ _ _ _ _ _ _ _ _ _ _ _ _ _ _ _ _ _ _ _ _ _ _ _ _ _ _ _ _ _ _ _ _ _ _ _ _ _ _ _ _ _ _ _ _ _ _ _ _ _ _ _ _ _ _ _ _ _ _ _ _ _ _ _ _ _ _ _ _ _ _ _ _ _ _ _ _ _ _ _ _ _ _ _ _ _ _ _ _ _ _ _ _ _ _ _ _ _ _ _ _ _ _ _ _ _ _ _ _ _ _ _ _ _ _ _ _ _ _ _ _ _ _ _ _ _ _ _ _ _ _ _ _ _ _ _ _ _ _ (hid ?_)
  intro z21 z22 z23 z24 z25 z26 z27 z28 z82 z83 z84 z85 z86 z87 z88 z89 z90 z91 z92 z93 z94 z95 z96 z97 z98 z99 z100 z101 z102 z103 z104 z105 z106 z107 z108 z109 z110 z111 z112 z113 z114 z115 z116 z117 z118 z119 z120 z121 z122 z123 z124 z125 z126 z127 z128 z129 z130 z131 z132 z133 z134 z135 z136 z137 z138 z139 z140 z141 z142 z143 z144 z145 z146 z147 z148 z149 z150 z151 z152 z153 z154 z155 z156 z157 z158 z159 z160 z161 z162 z163 z164 z165 z166 z167 z168 z169 z170 z171 z172 z173 z174 z175 z176 z177 z178 z179 z180 z181 z182 z183 z184 z185 z186 z187 z188 z189 z190 W vb vh va hD3
  have HD3 := hid hD3
  clear hD3
  have hres : Hid (W.heap[w.heap.size + 1 + 1 + 1]? = some (.cells #[.slice none 0 0, .int .u32 0, .int .u32 0, .slice none 0 0, .slice none 0 0, .slice none 0 0] 48)) := hid (by
    have h9 := HK.out.at_ (hat1.out _ _ HB4.out (by omega)) ⟨by omega, by omega, by omega⟩
    exact (HD3.out.keep _ (lt_of_block h9) (by omega)).trans h9)
  obtain ⟨g1, cap1, hv1⟩ := own_sl' (HD3.out.row 1 (by omega))
  obtain ⟨g2, cap2, hv2⟩ := own_sl' (HD3.out.row 2 (by omega))
  obtain ⟨g3, cap3, hv3⟩ := own_sl' (HD3.out.row 3 (by omega))
  have hv1' : vb = .slice g1 n cap1 := hv1
  have hv2' : vh = .slice g2 n cap2 := hv2
  have hv3' : va = .slice g3 n cap3 := hv3
  subst hv1' hv2' hv3'
  have td0 : W.cell? ⟨w.heap.size + 1 + 1 + 1 + 1, 0, none⟩ = some (.slice (some ⟨sg, 0, none⟩) n scap) := hcell HD3.out.told 0 _ rfl
  have td1 := hcell HD3.out.told 1 _ rfl
  have td2 := hcell HD3.out.told 2 _ rfl
  have td3 : W.cell? ⟨w.heap.size + 1 + 1 + 1 + 1, 3, none⟩ = some (.slice g1 n cap1) := hcell HD3.out.told 3 _ rfl
  have td4 : W.cell? ⟨w.heap.size + 1 + 1 + 1 + 1, 4, none⟩ = some (.slice g2 n cap2) := hcell HD3.out.told 4 _ rfl
  have td5 : W.cell? ⟨w.heap.size + 1 + 1 + 1 + 1, 5, none⟩ = some (.slice g3 n cap3) := hcell HD3.out.told 5 _ rfl
  have rs0 := hcell hres.out 0 _ rfl
  have rs1 := hcell hres.out 1 _ rfl
  have rs2 := hcell hres.out 2 _ rfl
  have rs3 := hcell hres.out 3 _ rfl
  have rs4 := hcell hres.out 4 _ rfl
  have rs5 := hcell hres.out 5 _ rfl
  have rf0 := hfroz hres.out 0
  have rf1 := hfroz hres.out 1
  have rf2 := hfroz hres.out 2
  have rf3 := hfroz hres.out 3
  have rf4 := hfroz hres.out 4
  have rf5 := hfroz hres.out 5
  have Hsgc := hid hsgc
  have Hsgb := hid hsgb
  have Hz := hid (show W0.heap.size = w.heap.size + 5 ∧ W0.heap.size ≤ W1.heap.size ∧ wB.heap.size ≤ W2.heap.size ∧ wB.heap.size = W1.heap.size + 2 from ⟨hzW, hzW1, hz2, hzB'⟩)
  clear hv1 hv2 hv3 hsgc hzW hzW1 hz2 hzB' hsgb
  go_wp2_with fail
  obtain ⟨W6, hW6⟩ : ∃ W6, ((((((W.setCell ⟨w.heap.size + 1 + 1 + 1, 0, none⟩ (.slice (some ⟨sg, 0, none⟩) n scap)).setCell ⟨w.heap.size + 1 + 1 + 1, 1, none⟩ (.int .u32 (k0 : Int))).setCell ⟨w.heap.size + 1 + 1 + 1, 2, none⟩ (.int .u32 (k1 : Int))).setCell ⟨w.heap.size + 1 + 1 + 1, 3, none⟩ (.slice g1 n cap1)).setCell ⟨w.heap.size + 1 + 1 + 1, 4, none⟩ (.slice g2 n cap2)).setCell ⟨w.heap.size + 1 + 1 + 1, 5, none⟩ (.slice g3 n cap3)) = W6 := ⟨_, rfl⟩
  have hbx : W6.heap[w.heap.size + 1 + 1 + 1]? = some (.cells #[.slice (some ⟨sg, 0, none⟩) n scap, .int .u32 (k0 : Int), .int .u32 (k1 : Int), .slice g1 n cap1, .slice g2 n cap2, .slice g3 n cap3] 48) := by rw [← hW6]; exact set6_heap hres.out
  have hoth : ∀ q, q ≠ w.heap.size + 1 + 1 + 1 → W6.heap[q]? = W.heap[q]? := fun q hq => by rw [← hW6, setCell_heap (Ne.symm hq), setCell_heap (Ne.symm hq), setCell_heap (Ne.symm hq), setCell_heap (Ne.symm hq), setCell_heap (Ne.symm hq), setCell_heap (Ne.symm hq)]
  have hsz6 : W6.heap.size = W.heap.size := by rw [← hW6]; simp [World.setCell]
  have hos6 : W6.os = W.os := by rw [← hW6]; rfl
  have htp6 : W6.tape = W.tape := by rw [← hW6]; rfl
  have hou6 : W6.output = W.output := by rw [← hW6]; rfl
  rw [hW6]
  clear hW6 td0 td1 td2 td3 td4 td5 rs0 rs1 rs2 rs3 rs4 rs5 rf0 rf1 rf2 rf3 rf4 rf5
  have o0 := hcell hbx 0 _ rfl
  have o1 := hcell hbx 1 _ rfl
  have o2 := hcell hbx 2 _ rfl
  have o3 := hcell hbx 3 _ rfl
  have o4 := hcell hbx 4 _ rfl
  have o5 := hcell hbx 5 _ rfl
  obtain ⟨hz1, hz2, hz3, hz4⟩ := Hz.out
  have hz5 := HD3.out.size
  have hsb := Hsgb.out
  have hsg6 : W6.heap[sg]? = W1.heap[sg]? := by
    rw [hoth sg (by omega), HD3.out.keep sg (by omega) (by omega), HK.out.keep sg (by omega) (by omega) (by omega) (by omega)]
    exact gB.out.block sg (by omega) (by simp)
  have hT6 : ToldAt W6 R (.slice (some ⟨sg, 0, none⟩) n scap) (.slice g1 n cap1) (.slice g2 n cap2) (.slice g3 n cap3) := by
    have r1 : W.ownsRow W2.heap.size 2 1 (.slice g1 n cap1) n ((List.range n).map fun j => Value.int .i64 (R.by_ j)) := HD3.out.row 1 (by omega)
    have r2 : W.ownsRow W2.heap.size 3 1 (.slice g2 n cap2) n ((List.range n).map fun j => Value.int .i64 (R.hrd j)) := HD3.out.row 2 (by omega)
    have r3 : W.ownsRow W2.heap.size 61 3 (.slice g3 n cap3) n (flatF R.aft n) := HD3.out.row 3 (by omega)
    have k1' := own_as (w' := W6) r1 (fun q hq => hoth q (by have := (r1.lt q hq).1; omega))
    have k2' := own_as (w' := W6) r2 (fun q hq => hoth q (by have := (r2.lt q hq).1; omega))
    have k3' := own_as (w' := W6) r3 (fun q hq => hoth q (by have := (r3.lt q hq).1; omega))
    refine ⟨?_, ?_, ?_, ?_⟩
    · rw [hn.out]
      refine .inr ⟨sg, 0, scap, rfl, hscap, by omega, fun j hj i hi => ?_⟩
      obtain rfl : i = 0 := by omega
      rw [World.cell?_of_block (w := W1) (a := ⟨sg, 0 + j * 1 + 0, none⟩) hsg6]
      simpa using Hsgc.out j hj
    · rw [hn.out]; exact slice_own k1' (fun j hj i hi => by obtain rfl : i = 0 := (by omega); simp [hj])
    · rw [hn.out]; exact slice_own k2' (fun j hj i hi => by obtain rfl : i = 0 := (by omega); simp [hj])
    · rw [hn.out]; exact slice_own k3' (fun j hj i hi => by
        rw [flatF_at R.aft hj hi]
        match i, hi with
        | 0, _ => rfl
        | 1, _ => rfl
        | 2, _ => rfl)
  have hG6 : w.grownBy W6 none := ⟨hos6.trans (HD3.out.os.trans gW2.out.os), htp6.trans (HD3.out.tape.trans gW2.out.tape), hou6.trans (HD3.out.output.trans gW2.out.output), by have := gW2.out.size; omega, fun q hq hq2 => by
    rw [hoth q (by omega), HD3.out.keep q (by have := gW2.out.size; omega) (by omega)]
    exact gW2.out.block q hq hq2⟩
  exact bodyPost_ret (v := .agg #[.slice (some ⟨sg, 0, none⟩) n scap, .int .u32 (k0 : Int), .int .u32 (k1 : Int), .slice g1 n cap1, .slice g2 n cap2, .slice g3 n cap3]) (by simp [results, Tryz.results15, go_sem, o0, o1, o2, o3, o4, o5]) rfl ⟨_, _, _, _, rfl, hid hT6, hid hG6⟩
end Go.Proofs.YtckoaeoecjphiaaGreat
