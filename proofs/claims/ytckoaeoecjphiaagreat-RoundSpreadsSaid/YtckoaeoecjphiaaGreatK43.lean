/- Lemmas: tocsinlaw20.fixed: the chapter's examples hold. The document's clocks: of. The document's clocks: Clocks. The document's round: Right. -/
import Derived.Test.YtckoaeoecjphiaaGreatK42
import Derived.Test.YtckoaeoecjphiaaGreatK40
import Derived.Test.YtckoaeoecjphiaaGreatK39
import Derived.Test.YtckoaeoecjphiaaGreatK11

/- tocsinlaw20.fixed: the chapter's examples hold. -/
namespace Go.Proofs.YtckoaeoecjphiaaGreat
open Go.RowKit Go.Lib

theorem ex_aftL {b : Int} (h : b = 0 ∨ b = 300) : aftL (exR b) = [⟨2007001 - b, 2007001 + (b / 2 - b + (b - b / 2 - b / 2)), 0⟩, ⟨2007001, 2007001 + (b - b / 2), 0⟩] := by
  obtain ⟨⟨a0, a1⟩, a2, a3⟩ := ex_aft h
  show [(exR b).aft 0, (exR b).aft 1] = _
  rw [a2, a3, a0, a1]
theorem ex_spread : spreadB (aftL (exR 300)) 3000000 = true ∧ spreadV (aftL (exR 300)) 3000000 = 0 := by
  rw [ex_aftL (.inr rfl)]
  constructor
  · decide
  · decide
theorem two_cks (W : World) (b : Int) (q0 : Nat) (hq0 : W.heap.size = q0) : CksAt (W.alloc (.cells #[.int .i64 0, .int .i64 b, .int .i64 0, .int .i64 0, .int .i64 0, .int .i64 0] 54)).heap.size (W.alloc (.cells #[.int .i64 0, .int .i64 b, .int .i64 0, .int .i64 0, .int .i64 0, .int .i64 0] 54)) (.slice (some ⟨q0, 0, none⟩) 2 2) [⟨0, b, 0⟩, ⟨0, 0, 0⟩] := by
  subst hq0
  have h := heap_alloc_new W (.cells #[.int .i64 0, .int .i64 b, .int .i64 0, .int .i64 0, .int .i64 0, .int .i64 0] 54)
  refine .inr ⟨W.heap.size, 0, 2, rfl, Nat.le_refl _, by simp, fun j hj i hi => ?_⟩
  have hj2 : j < 2 := hj
  match j, hj2, i, hi with
  | 0, _, 0, _ => exact hcell h 0 _ rfl
  | 0, _, 1, _ => exact hcell h 1 _ rfl
  | 0, _, 2, _ => exact hcell h 2 _ rfl
  | 1, _, 0, _ => exact hcell h 3 _ rfl
  | 1, _, 1, _ => exact hcell h 4 _ rfl
  | 1, _, 2, _ => exact hcell h 5 _ rfl
/-- What an example tells. -/
structure ExAt (W : World) (b : Int) (s so t tq u uo : Nat) (va : Value) : Prop where
  s0 : W.cell? ⟨s, so, none⟩ = some (.int .i64 (2000000 - b))
  b0 : W.cell? ⟨t, tq, none⟩ = some (.int .i64 (b / 2 - b + (b - b / 2 - b / 2)))
  b1 : W.cell? ⟨t, tq + 1, none⟩ = some (.int .i64 (b - b / 2))
  h0 : W.cell? ⟨u, uo, none⟩ = some (.int .i64 2)
  af : CksAt W.heap.size W va (aftL (exR b))
theorem ExAt.grown {W W' : World} {b : Int} {s so t tq u uo : Nat} {va : Value} (h : ExAt W b s so t tq u uo va) (g : W.grownBy W' none) : ExAt W' b s so t tq u uo va :=
  ⟨gr_cell g h.s0, gr_cell g h.b0, gr_cell g h.b1, gr_cell g h.h0, (SliceAt.grown h.af g).wider g.size⟩
theorem slice_two {n₀ : Nat} {W : World} {sv : Value} {f : Nat → Nat → Value} (h : SliceAt n₀ W sv 1 2 f) : ∃ b off cap, sv = .slice (some ⟨b, off, none⟩) 2 cap ∧ 2 ≤ cap ∧ W.cell? ⟨b, off, none⟩ = some (f 0 0) ∧ W.cell? ⟨b, off + 1, none⟩ = some (f 1 0) := by
  rcases h with ⟨_, _, _, h0⟩ | ⟨b, off, cap, rfl, hc, _, hf⟩
  · cases h0
  · exact ⟨b, off, cap, rfl, hc, hf 0 (by omega) 0 (by omega), hf 1 (by omega) 0 (by omega)⟩
theorem ex_go {b : Int} (h : b = 0 ∨ b = 300) (vd sv : Value) (w : World) (hN : NetAt w.heap.size w famD vd (.slice none 0 0) (.slice none 0 0)) (hs : CksAt w.heap.size w sv [⟨0, b, 0⟩, ⟨0, 0, 0⟩]) :
    Calls Tryz.prog 10 #[cfV famD.cf vd (.slice none 0 0) (.slice none 0 0), .int .i64 1, sv, .agg #[.int .u32 0, .int .u32 0, .int .u32 0, .int .u32 0]] w fun e w' => ∃ s so cs t tq ct u uo cu aa ca, e = .returned (.tuple #[.agg #[.slice (some ⟨s, so, none⟩) 2 cs, .int .u32 3, .int .u32 3, .slice (some ⟨t, tq, none⟩) 2 ct, .slice (some ⟨u, uo, none⟩) 2 cu, .slice aa 2 ca], .int .i64 0]) ∧ (2 ≤ cs ∧ 2 ≤ ct ∧ 2 ≤ cu) ∧ Hid (ExAt w' b s so t tq u uo (.slice aa 2 ca)) ∧ Hid (w.grownBy w' none) := by
  have hR := ex_ok h
  have H := go_ok (exR b) hR.ok vd (.slice none 0 0) (.slice none 0 0) sv w hN hs
  refine H.mono ?_
  rintro e w' ⟨vs, vb, vh, va, rfl, hT, hG, _⟩
  have hT' := hT.out
  have hl : (exR b).l.length = 2 := rfl
  obtain ⟨s0, s1⟩ := ex_sent h
  obtain ⟨⟨b0, b1⟩, _, _⟩ := ex_aft h
  obtain ⟨h0, h1⟩ := ex_hrd h
  obtain ⟨s, so, cs, rfl, k1, c1, _⟩ := slice_two hT'.sent
  obtain ⟨t, tq, ct, rfl, k2, c2, c3⟩ := slice_two hT'.by_
  obtain ⟨u, uo, cu, rfl, k3, c4, _⟩ := slice_two hT'.hrd
  have hck := told_cks hT'
  obtain ⟨aa, ca, rfl⟩ := ckslice hck
  rw [aftL_len, hl] at hck
  refine ⟨s, so, cs, t, tq, ct, u, uo, cu, aa, ca, ?_, ⟨k1, k2, k3⟩, hid ⟨?_, ?_, ?_, ?_, hck⟩, hG⟩
  · rw [hR.crew1, ex_crew h, aftL_len, hl]
    rfl
  · rw [c1, s0]
  · rw [c2, b0]
  · rw [c3, b1]
  · rw [c4, h0]; rfl
theorem bad_go (vd : Value) (w : World) (hN : NetAt w.heap.size w famD vd (.slice none 0 0) (.slice none 0 0)) :
    Calls Tryz.prog 10 #[cfV famD.cf vd (.slice none 0 0) (.slice none 0 0), .int .i64 1, .slice none 0 0, .agg #[.int .u32 0, .int .u32 0, .int .u32 0, .int .u32 0]] w fun e w' => e = .returned (.tuple #[.agg #[.slice none 0 0, .int .u32 0, .int .u32 0, .slice none 0 0, .slice none 0 0, .slice none 0 0], .int .i64 1]) ∧ w.grownBy w' none :=
  go_bad famD vd (.slice none 0 0) (.slice none 0 0) 1 (.slice none 0 0) [] _ _ _ _ w hN (.inl ⟨_, _, rfl, rfl⟩) (by decide) (by decide)

set_option maxRecDepth 1000000 in
set_option maxHeartbeats 300000 in
theorem fixed_true (w : World) : Calls Tryz.prog 9 #[] w fun e w' => e = .returned (.bool true) ∧ w.grownBy w' none := by
  go_enter Tryz.func9, Tryz.ntmps9
  go_wp2_with fail
  refine (rfam_20 _).mono ?_
  rintro e w1 ⟨vd, rfl, HN, G1⟩
  obtain ⟨av, mv, cv, rfl⟩ : ∃ a m c, vd = .slice a m c := by
    obtain ⟨dv, h1, _⟩ := HN.out.rows
    exact slice_frm h1
  unfold cfV famD
  dsimp only
  obtain ⟨c, hc⟩ : ∃ c, Hid (w1.heap.size = c) := ⟨_, hid rfl⟩
  have HBC := hid (heap_alloc_new w1 (.cells #[.int .i64 2, .int .i64 2000000, .int .i64 2000, .int .i64 1000, .int .i64 500, (.slice av mv cv), .slice none 0 0, .slice none 0 0, .int .i64 8] 26))
  rw [hc.out] at HBC
  have GC := hid (gr_alloc (gr_refl w1 none) (.cells #[.int .i64 2, .int .i64 2000000, .int .i64 2000, .int .i64 1000, .int .i64 500, (.slice av mv cv), .slice none 0 0, .slice none 0 0, .int .i64 8] 26))
  have GC2 := hid (gr_alloc GC.out (.cells #[.int .i64 0, .int .i64 0, .int .i64 0, .int .i64 0, .int .i64 0, .int .i64 0] 54))
  have HN2 := hid (HN.out.later GC2.out)
  have HS2 := hid (two_cks (w1.alloc (.cells #[.int .i64 2, .int .i64 2000000, .int .i64 2000, .int .i64 1000, .int .i64 500, (.slice av mv cv), .slice none 0 0, .slice none 0 0, .int .i64 8] 26)) 0 (w1.heap.size + 1) (by simp))
  go_wp2_with fail
  have HGo := hid (ex_go (.inl rfl) (.slice av mv cv) _ _ HN2.out HS2.out)
  refine HGo.out.mono ?_
  rintro e w2 ⟨s1, so1, cs1, t1, tq1, ct1, u1, uo1, cu1, aa1, ca1, rfl, ⟨k1, k2, k3⟩, HX, H2⟩
  have G2 := hid (gr_trans G1.out (gr_trans GC2.out H2.out))
  have HBC2 := hid (gr_heap (gr_trans (gr_alloc (gr_refl _ none) (.cells #[.int .i64 0, .int .i64 0, .int .i64 0, .int .i64 0, .int .i64 0, .int .i64 0] 54)) H2.out) (heap_alloc_new w1 (.cells #[.int .i64 2, .int .i64 2000000, .int .i64 2000, .int .i64 1000, .int .i64 500, (.slice av mv cv), .slice none 0 0, .slice none 0 0, .int .i64 8] 26)) (by simp))
  have HNa := hid (HN2.out.later H2.out)
  clear HGo HN2 HS2 GC2 H2 HBC GC HN
  have GT := hid (gr_alloc (gr_refl w2 none) (.cells #[.slice (some ⟨s1, so1, none⟩) 2 cs1, .int .u32 3, .int .u32 3, .slice (some ⟨t1, tq1, none⟩) 2 ct1, .slice (some ⟨u1, uo1, none⟩) 2 cu1, .slice aa1 2 ca1] 38))
  have HT1 := hid (heap_alloc_new w2 (.cells #[.slice (some ⟨s1, so1, none⟩) 2 cs1, .int .u32 3, .int .u32 3, .slice (some ⟨t1, tq1, none⟩) 2 ct1, .slice (some ⟨u1, uo1, none⟩) 2 cu1, .slice aa1 2 ca1] 38))
  have hbc := gr_heap GT.out HBC2.out (by simp)
  have m0 := hcell hbc 0 _ rfl
  have m1 := hcell hbc 1 _ rfl
  have m2 := hcell hbc 2 _ rfl
  have m3 := hcell hbc 3 _ rfl
  have m4 := hcell hbc 4 _ rfl
  have m5 := hcell hbc 5 _ rfl
  have m6 := hcell hbc 6 _ rfl
  have m7 := hcell hbc 7 _ rfl
  have m8 := hcell hbc 8 _ rfl
  have GT2 := hid (gr_alloc GT.out (.cells #[.int .i64 0, .int .i64 300, .int .i64 0, .int .i64 0, .int .i64 0, .int .i64 0] 54))
  have HN3 := hid (HNa.out.later GT2.out)
  have HS3 := hid (two_cks (w2.alloc (.cells #[.slice (some ⟨s1, so1, none⟩) 2 cs1, .int .u32 3, .int .u32 3, .slice (some ⟨t1, tq1, none⟩) 2 ct1, .slice (some ⟨u1, uo1, none⟩) 2 cu1, .slice aa1 2 ca1] 38)) 300 (w2.heap.size + 1) (by simp))
  clear hbc
  go_wp2_with fail
  have HGo := hid (ex_go (.inr rfl) (.slice av mv cv) _ _ HN3.out HS3.out)
  refine HGo.out.mono ?_
  rintro e w3 ⟨s2, so2, cs2, t2, tq2, ct2, u2, uo2, cu2, aa2, ca2, rfl, ⟨l1, l2, l3⟩, HY, H3⟩
  have H23 := hid (gr_trans GT2.out H3.out)
  have G3 := hid (gr_trans G2.out H23.out)
  have HBC3 := hid (gr_heap H23.out HBC2.out (by simp))
  have HT13 := hid (gr_heap (gr_trans (gr_alloc (gr_refl _ none) (.cells #[.int .i64 0, .int .i64 300, .int .i64 0, .int .i64 0, .int .i64 0, .int .i64 0] 54)) H3.out) HT1.out (by simp))
  have HNb := hid (HN3.out.later H3.out)
  have HXb := hid (HX.out.grown H23.out)
  clear HGo HN3 HS3 GT2 H3 HBC2 HX GT m0 m1 m2 m3 m4 m5 m6 m7 m8 HT1 HNa
  have GT := hid (gr_alloc (gr_refl w3 none) (.cells #[.slice (some ⟨s2, so2, none⟩) 2 cs2, .int .u32 3, .int .u32 3, .slice (some ⟨t2, tq2, none⟩) 2 ct2, .slice (some ⟨u2, uo2, none⟩) 2 cu2, .slice aa2 2 ca2] 38))
  have HT2 := hid (heap_alloc_new w3 (.cells #[.slice (some ⟨s2, so2, none⟩) 2 cs2, .int .u32 3, .int .u32 3, .slice (some ⟨t2, tq2, none⟩) 2 ct2, .slice (some ⟨u2, uo2, none⟩) 2 cu2, .slice aa2 2 ca2] 38))
  have hbc := gr_heap GT.out HBC3.out (by simp)
  have m0 := hcell hbc 0 _ rfl
  have m1 := hcell hbc 1 _ rfl
  have m2 := hcell hbc 2 _ rfl
  have m3 := hcell hbc 3 _ rfl
  have m4 := hcell hbc 4 _ rfl
  have m5 := hcell hbc 5 _ rfl
  have m6 := hcell hbc 6 _ rfl
  have m7 := hcell hbc 7 _ rfl
  have m8 := hcell hbc 8 _ rfl
  have HN4 := hid (HNb.out.later GT.out)
  clear hbc
  go_wp2_with fail
  refine (bad_go (.slice av mv cv) _ HN4.out).mono ?_
  rintro e w4 ⟨rfl, H4⟩
  have H34 := hid (gr_trans GT.out H4)
  have H35 := hid (gr_alloc H34.out (.cells #[.slice none 0 0, .int .u32 0, .int .u32 0, .slice none 0 0, .slice none 0 0, .slice none 0 0] 38))
  have H45 := hid (gr_alloc (gr_refl w4 none) (.cells #[.slice none 0 0, .int .u32 0, .int .u32 0, .slice none 0 0, .slice none 0 0, .slice none 0 0] 38))
  have G5 := hid (gr_trans G3.out H35.out)
  have HT14 := hid (gr_heap H35.out HT13.out (by simp))
  have HT24 := hid (gr_heap (gr_trans H4 H45.out) HT2.out (by simp))
  have HBC5 := hid (gr_heap H35.out HBC3.out (by simp))
  have HNc := hid (HNb.out.later H35.out)
  have HXc := hid (HXb.out.grown H35.out)
  have HYc := hid (HY.out.grown H35.out)
  clear HT13 HT2 HBC3 HN4 HNb HXb HY GT m0 m1 m2 m3 m4 m5 m6 m7 m8 H4 H34
  have p0 := hcell HT14.out 0 _ rfl
  have p3 := hcell HT14.out 3 _ rfl
  have p4 := hcell HT14.out 4 _ rfl
  have q0 := hcell HT24.out 0 _ rfl
  have q3 := hcell HT24.out 3 _ rfl
  have q5 := hcell HT24.out 5 _ rfl
  go_wp2_with fail
  have HSp := hid (spread_any (.slice aa2 2 ca2) (aftL (exR 300)) 3000000 _ HYc.out.af (by decide))
  rw [ex_spread.1, ex_spread.2] at HSp
  refine HSp.out.mono ?_
  rintro e w5 ⟨rfl, g5⟩
  have H5 := hid g5
  have G6 := hid (gr_trans G5.out g5)
  clear g5 HSp p0 p3 p4 q0 q3 q5
  have HT15 := gr_heap H5.out HT14.out (by simp)
  have HT25 := gr_heap H5.out HT24.out (by simp)
  have hbc := gr_heap H5.out HBC5.out (by simp)
  have p0 := hcell HT15 0 _ rfl
  have p2 := hcell HT15 2 _ rfl
  have p3 := hcell HT15 3 _ rfl
  have p4 := hcell HT15 4 _ rfl
  have q0 := hcell HT25 0 _ rfl
  have q3 := hcell HT25 3 _ rfl
  have m0 := hcell hbc 0 _ rfl
  have m1 := hcell hbc 1 _ rfl
  have m2 := hcell hbc 2 _ rfl
  have m3 := hcell hbc 3 _ rfl
  have m4 := hcell hbc 4 _ rfl
  have m5 := hcell hbc 5 _ rfl
  have m6 := hcell hbc 6 _ rfl
  have m7 := hcell hbc 7 _ rfl
  have m8 := hcell hbc 8 _ rfl
  have x1 := (HXc.out.grown H5.out).s0
  have x2 := (HXc.out.grown H5.out).b1
  have x3 := (HXc.out.grown H5.out).h0
  have y1 := (HYc.out.grown H5.out).s0
  have y2 := (HYc.out.grown H5.out).b0
  have y3 := (HYc.out.grown H5.out).b1
  rw [show (2000000 : Int) - 0 = 2000000 from rfl] at x1
  rw [show (0 : Int) - 0 / 2 = 0 from rfl] at x2
  rw [show (2000000 : Int) - 300 = 1999700 from rfl] at y1
  rw [show (300 : Int) / 2 - 300 + (300 - 300 / 2 - 300 / 2) = -150 from rfl] at y2
  rw [show (300 : Int) - 300 / 2 = 150 from rfl] at y3
  have HNd := hid (HNc.out.later H5.out)
  clear HT15 HT25 hbc
  go_wp2_with fail
  have HBd := hid (bound_ok famD (.slice av mv cv) (.slice none 0 0) (.slice none 0 0) 0 5 w5 HNd.out (by decide) (by decide) (by decide))
  rw [show boundZ famD.cf.de 0 5 = 10 by decide] at HBd
  refine HBd.out.mono ?_
  rintro e w6 ⟨rfl, g6⟩
  have G7 := hid (gr_trans G6.out g6)
  clear g6 HBd
  go_wp2_with fail
  go_ret
  exact ⟨rfl, G7.out⟩
end Go.Proofs.YtckoaeoecjphiaaGreat

/- The document's clocks: of. -/
namespace Go.Proofs.YtckoaeoecjphiaaGreat
open Go.RowKit Go.Lib

theorem Tryz.info_ck20 : (Tryz.prog.info? 61).map (fun i => (i.zero, i.size, i.bytes)) = some (some (.agg #[.int .i64 0, .int .i64 0, .int .i64 0]), 3, 24) := by kernel_rfl
theorem cells3_new2 (w : World) (o : Obj) (a b c : Value) (t : TypeId) : ∀ (j : Nat) (u : Value), [a, b, c][j]? = some u → ((w.alloc o).alloc (.cells #[a, b, c] t)).cell? ((⟨w.heap.size + 1, 0, none⟩ : Addr).add j) = some u := by
  intro j u hu
  have h := cells3_new (w.alloc o) a b c t j u hu
  have e : (w.alloc o).heap.size = w.heap.size + 1 := by simp
  rw [e] at h
  exact h
set_option maxRecDepth 100000 in
set_option maxHeartbeats 4000000 in
theorem lawof_any (sv : Value) (l : List Ck) (w : World) (hs : CksAt w.heap.size w sv l) (hz : l.length * 24 ≤ 140737488351232) :
    Calls Tryz.prog 12 #[sv] w fun e w' => ∃ v, e = .returned v ∧ CksAt w'.heap.size w' v l ∧ w.grownBy w' none := by
  obtain ⟨a, cap, rfl⟩ := ckslice hs
  have HS := hid (fun h0 : 0 < l.length => ckcells hs h0)
  obtain ⟨n, hn⟩ : ∃ n, Hid (l.length = n) := ⟨_, hid rfl⟩
  obtain ⟨i3, hi3, hw0, hw1, hw2⟩ := info_parts Tryz.info_ck20
  rw [hn.out] at hz
  rw [hn.out]
  clear hs
  go_enter Tryz.func12, Tryz.ntmps12
  go_wp2_with fail
  go_loopw [3, 8] (fun x i wr => ∃ k : Nat, k ≤ n ∧ i = .int .i64 k ∧ Hid (wr.ownsRow w.heap.size 61 3 x k (flatF (nthC l) k)) ∧ Hid (w.grownBy wr none)) (fun _ i _ => n - (intOf i).toNat)
  case atStart => exact ⟨0, by omega, rfl, hid (World.ownsRow_nil _ _ _ _), hid (gr_refl w none)⟩
  case round =>
    obtain ⟨k, hk, rfl, HO, HG⟩ := hrel
    by_cases hlt : k < n
    · obtain ⟨b, off, cap', hv, hcap, hc⟩ := HS.out (by rw [hn.out]; omega)
      rw [hn.out] at hv hcap
      injection hv with hv1 _ hv3
      subst hv1 hv3
      have hk2 : (k : Int) < (n : Int) := by omega
      have hkc : k < cap := by omega
      obtain ⟨q0, q1, q2⟩ := hc wr HG.out k (by rw [hn.out]; exact hlt)
      have wsk : IntKind.i64.wrap ((k : Int) + 1) = (k : Int) + 1 := IntWalk.i64_in _ (by omega)
      obtain ⟨⟨m, ba, r⟩, hkk⟩ : ∃ kk, Hid (nthC l k = kk) := ⟨_, hid rfl⟩
      rw [hkk.out] at q0 q1 q2
      dsimp only at q0 q1 q2
      have Hbase := hid HG.out.size
      clear hc
      go_wp2_with (at_builtin; refine wpList_append_own_at _ rfl (.tmp 12) (.tmp 20) 43 rfl w.heap.size 61 i3 (.agg #[.int .i64 0, .int .i64 0, .int .i64 0]) 3 24 Tryz.underlying43 hi3 hw0 hw1 hw2 rfl (by decide) _ k _ rfl ((HO.out.alloc _).alloc _) ⟨wr.heap.size + 1, 0, none⟩ 1 1 [.int .i64 m, .int .i64 ba, .int .i64 r] rfl rfl (cells3_new2 _ _ _ _ _ _) (by simp [Value.oneCell']) (by unfold maxLen; omega) (by omega) (by have := Hbase.out; simp; omega) ?_; intro v4 w4 hown4 hg4 _ hat4; have HO4 : Hid (w4.ownsRow w.heap.size 61 3 v4 (k + 1) (flatF (nthC l) (k + 1))) := hid (by rw [flatF_succ, hkk.out]; exact hown4); have HG4 : Hid (w.grownBy w4 none) := hid (gr_ownr (gr_alloc (gr_alloc HG.out _) _) hg4 (fun q hq => (HO.out.lt q hq).1)); clear hown4 hg4 hat4)
      go_roundw
      case rel => exact ⟨k + 1, by omega, by go_num, HO4, HG4⟩
      case measure => simp [intOf]; omega
    · obtain rfl : k = n := by omega
      have HG2 := hid HG.out
      have HF : Hid (CksAt wr.heap.size wr u3 l) := hid (by
        unfold CksAt
        rw [hn.out]
        exact slice_own HO.out (fun j hj i hi => by
          rw [flatF_at (nthC l) hj hi]
          match i, hi with
          | 0, _ => rfl
          | 1, _ => rfl
          | 2, _ => rfl))
      clear hlt
      go_wp2_with fail
      go_ret
      exact ⟨_, rfl, HF.out, HG2.out⟩
end Go.Proofs.YtckoaeoecjphiaaGreat

/- The document's clocks: Clocks. -/
namespace Go.Proofs.YtckoaeoecjphiaaGreat
open Go.RowKit Go.Lib

set_option maxRecDepth 100000 in
set_option maxHeartbeats 4000000 in
theorem rclocks_any (sv : Value) (l : List Ck) (w : World) (hs : CksAt w.heap.size w sv l) (hz : l.length * 24 ≤ 140737488351232) :
    Calls Tryz.prog 18 #[sv] w fun e w' => e = .returned (.bool (l.all newC)) ∧ w.grownBy w' none := by
  obtain ⟨a, cap, rfl⟩ := ckslice hs
  have HS := hid (fun h0 : 0 < l.length => ckcells hs h0)
  obtain ⟨n, hn⟩ : ∃ n, Hid (l.length = n) := ⟨_, hid rfl⟩
  obtain ⟨R, hR⟩ : ∃ R, Hid (l.all newC = R) := ⟨_, hid rfl⟩
  rw [hR.out]
  have hT : Hid ((∀ j, j < n → newC (nthC l j) = true) → R = true) := hid (fun h => by
    rw [← hR.out]
    refine List.all_eq_true.2 (fun x hx => ?_)
    obtain ⟨j, hj, rfl⟩ := List.getElem_of_mem hx
    have := h j (by rw [← hn.out]; exact hj)
    unfold nthC at this
    rw [List.getElem?_eq_getElem hj] at this
    exact this)
  have hF : Hid (∀ j, j < n → newC (nthC l j) = false → R = false) := hid (fun j hj h => by
    rw [← hR.out, Bool.eq_false_iff]
    intro e
    have := List.all_eq_true.1 e _ (nthC_mem (show j < l.length by rw [hn.out]; exact hj))
    rw [h] at this
    cases this)
  rw [hn.out] at hz
  rw [hn.out]
  clear hs
  go_enter Tryz.func18, Tryz.ntmps18
  go_wp2_with fail
  go_loopw [3] (fun i wr => ∃ k : Nat, k ≤ n ∧ i = .int .i64 k ∧ Hid (∀ j, j < k → newC (nthC l j) = true) ∧ Hid (w.grownBy wr none)) (fun i _ => n - (intOf i).toNat)
  case atStart => exact ⟨0, by omega, rfl, hid (fun j hj => absurd hj (Nat.not_lt_zero j)), hid (gr_refl w none)⟩
  case round =>
    obtain ⟨k, hk, rfl, HA, HG⟩ := hrel
    by_cases hlt : k < n
    · obtain ⟨b, off, cap', hv, hcap, hc⟩ := HS.out (by rw [hn.out]; omega)
      rw [hn.out] at hv hcap
      injection hv with hv1 _ hv3
      subst hv1 hv3
      have hk2 : (k : Int) < (n : Int) := by omega
      have hkc : k < cap := by omega
      obtain ⟨q0, q1, q2⟩ := hc wr HG.out k (by rw [hn.out]; exact hlt)
      have hFk := hid (hF.out k hlt)
      obtain ⟨⟨m, ba, r⟩, hkk⟩ : ∃ kk, Hid (nthC l k = kk) := ⟨_, hid rfl⟩
      rw [hkk.out] at q0 q1 q2 hFk
      dsimp only at q0 q1 q2
      obtain ⟨v1, hv1⟩ : ∃ v, Hid (realB m = v) := ⟨_, hid rfl⟩
      obtain ⟨v2, hv2⟩ : ∃ v, Hid (shownB ba = v) := ⟨_, hid rfl⟩
      obtain ⟨v3, hv3⟩ : ∃ v, Hid (fastB r = v) := ⟨_, hid rfl⟩
      have hnew : Hid (newC ⟨m, ba, r⟩ = (v1 && v3 && v2)) := hid (by unfold newC newB; dsimp only; rw [hv1.out, hv2.out, hv3.out])
      have HG2 := hid HG.out
      clear hc
      cases v1
      · have hR2 := hid (hFk.out (by rw [hnew.out]; rfl))
        go_wp2_with (go_at_call 56; refine (rreal_at m _ _ hv1).mono ?_; rintro e w' ⟨rfl, rfl⟩)
        go_ret
        exact ⟨by rw [hR2.out]; rfl, HG2.out⟩
      · cases v2
        · have hR2 := hid (hFk.out (by rw [hnew.out]; cases v3 <;> rfl))
          go_wp2_with (first | (go_at_call 56; refine (rreal_at m _ _ hv1).mono ?_; rintro e w' ⟨rfl, rfl⟩) | (go_at_call 57; refine (rshown_at ba _ _ hv2).mono ?_; rintro e w' ⟨rfl, rfl⟩))
          go_ret
          exact ⟨by rw [hR2.out]; rfl, HG2.out⟩
        · cases v3
          · have hR2 := hid (hFk.out (by rw [hnew.out]; rfl))
            go_wp2_with (first | (go_at_call 56; refine (rreal_at m _ _ hv1).mono ?_; rintro e w' ⟨rfl, rfl⟩) | (go_at_call 57; refine (rshown_at ba _ _ hv2).mono ?_; rintro e w' ⟨rfl, rfl⟩) | (go_at_call 58; refine (rfast_at r _ _ hv3).mono ?_; rintro e w' ⟨rfl, rfl⟩))
            go_ret
            exact ⟨by rw [hR2.out]; rfl, HG2.out⟩
          · have HA2 : Hid (∀ j, j < k + 1 → newC (nthC l j) = true) := hid (fun j hj => by
              by_cases e : j = k
              · subst e; rw [hkk.out, hnew.out]; rfl
              · exact HA.out j (by omega))
            go_wp2_with (first | (go_at_call 56; refine (rreal_at m _ _ hv1).mono ?_; rintro e w' ⟨rfl, rfl⟩) | (go_at_call 57; refine (rshown_at ba _ _ hv2).mono ?_; rintro e w' ⟨rfl, rfl⟩) | (go_at_call 58; refine (rfast_at r _ _ hv3).mono ?_; rintro e w' ⟨rfl, rfl⟩))
            go_roundw
            case rel => exact ⟨k + 1, by omega, by go_num, HA2, HG2⟩
            case measure => simp [intOf]; omega
    · obtain rfl : k = n := by omega
      have hR2 := hid (hT.out HA.out)
      have HG2 := hid HG.out
      clear hlt
      go_wp2_with fail
      go_ret
      exact ⟨by rw [hR2.out]; rfl, HG2.out⟩
end Go.Proofs.YtckoaeoecjphiaaGreat

/- The document's round: Right. -/
namespace Go.Proofs.YtckoaeoecjphiaaGreat
open Go.RowKit Go.Lib

set_option maxRecDepth 100000 in
set_option maxHeartbeats 4000000 in
theorem rright20_any (d : Net) (vd ve vl sv : Value) (cy : Int) (l : List Ck) (w : World) (hN : NetAt w.heap.size w d vd ve vl) (hs : CksAt w.heap.size w sv l) (hz : l.length * 24 ≤ 140737488351232) :
    Calls Tryz.prog 11 #[cfV d.cf vd ve vl, .int .i64 cy, sv] w fun e w' => e = .returned (.bool (goesZ d cy l)) ∧ w.grownBy w' none := by
  have HC := hid (fun (W : World) (g : w.grownBy W none) => rcheck_any d vd ve vl W (hN.later g))
  have HK := hid (fun (W : World) (g : w.grownBy W none) => rclocks_any sv l W ((SliceAt.grown hs g).wider g.size) hz)
  have HB := hid (fun (p : Int) (W : World) (g : w.grownBy W none) => rbelow_any sv l p W ((SliceAt.grown hs g).wider g.size) hz)
  obtain ⟨a, cap, rfl⟩ := ckslice hs
  obtain ⟨n, hn⟩ : ∃ n, Hid (l.length = n) := ⟨_, hid rfl⟩
  rw [hn.out] at HK HB hz
  rw [hn.out]
  obtain ⟨R, hR⟩ : ∃ R, Hid (goesZ d cy l = R) := ⟨_, hid rfl⟩
  rw [hR.out]
  obtain ⟨v, hv⟩ : ∃ v, Hid (checkZ d = v) := ⟨_, hid rfl⟩
  rw [hv.out] at HC
  have hcc := hid (fun h : checkZ d = 0 => check_cy h)
  have hgo : Hid (R = (decide (v = 0) && (decide (0 ≤ cy) && (decide (cy ≤ 1125899906842624 / (2 * max d.cf.cy 1)) && decide ((n : Int) = d.cf.ho))) && (l.all newC && !(l.any (lateC (cy * d.cf.cy)))))) := hid (by rw [← hR.out]; unfold goesZ cleanZ; rw [hv.out, hn.out])
  obtain ⟨v4, hv4⟩ : ∃ v, Hid (l.all newC = v) := ⟨_, hid rfl⟩
  rw [hv4.out] at HK hgo
  obtain ⟨c, rows, ents, lnks⟩ := d
  obtain ⟨ho, C, de, wi, pr, qu⟩ := c
  dsimp only at *
  clear hs hN
  have g0 := hid (gr_alloc (gr_refl w none) (.cells #[.int .i64 ho, .int .i64 C, .int .i64 de, .int .i64 wi, .int .i64 pr, vd, ve, vl, .int .i64 qu] 26))
  have hbx := heap_alloc_new w (.cells #[.int .i64 ho, .int .i64 C, .int .i64 de, .int .i64 wi, .int .i64 pr, vd, ve, vl, .int .i64 qu] 26)
  have Hbx := hid hbx
  clear hbx
  by_cases hv0 : v = 0
  · have hb := hcc.out (hv.out.trans hv0)
    obtain ⟨⟨C0, C1⟩, _⟩ := spansZ_bd hb.1
    dsimp only at C0 C1
    have hm : max C 1 = C := by omega
    rw [hm] at hgo
    obtain ⟨q, hq⟩ : ∃ q, 1125899906842624 / (2 * C) = q := ⟨_, rfl⟩
    have hq0 : 0 ≤ q := by rw [← hq]; exact Int.ediv_nonneg (by omega) (by omega)
    have hq1 : q ≤ 1125899906842624 := by rw [← hq]; exact Int.ediv_le_self _ (by omega)
    have ht : (1125899906842624 : Int).tdiv (2 * C) = q := by rw [← hq]; exact Int.tdiv_eq_ediv_of_nonneg (by omega)
    have hqC : Hid (cy ≤ q → cy * (2 * C) ≤ 1125899906842624) := hid (fun h => by rw [← hq] at h; exact (Int.le_ediv_iff_mul_le (by omega)).1 h)
    have hC' : (2 * C == 0) = false := by simp; omega
    have s0 : IntKind.i64.wrap (2 * C) = 2 * C := IntWalk.i64_in _ (by omega)
    have s1 : IntKind.i64.wrap q = q := IntWalk.i64_in _ (by omega)
    have s2 : wrap64 q = q := by unfold wrap64; omega
    rw [hq] at hgo
    subst hv0
    clear hq hb
    have k0 := hcell Hbx.out 0 _ rfl
    have k1 := hcell Hbx.out 1 _ rfl
    have k2 := hcell Hbx.out 2 _ rfl
    have k3 := hcell Hbx.out 3 _ rfl
    have k4 := hcell Hbx.out 4 _ rfl
    have k5 := hcell Hbx.out 5 _ rfl
    have k6 := hcell Hbx.out 6 _ rfl
    have k7 := hcell Hbx.out 7 _ rfl
    have k8 := hcell Hbx.out 8 _ rfl
    by_cases h1 : cy < 0
    · have hF : Hid (R = false) := hid (by rw [hgo.out, decide_eq_false (show ¬0 ≤ cy by omega)]; simp)
      go_enter Tryz.func11, Tryz.ntmps11
      go_wp2_with fail
      refine (HC.out _ g0.out).mono ?_
      rintro e w1 ⟨rfl, g1⟩
      have B1 := hid (gr_heap g1 Hbx.out (by simp))
      have G1 := hid (gr_trans g0.out g1)
      clear g1 k0 k1 k2 k3 k4 k5 k6 k7 k8
      have k0 := hcell B1.out 0 _ rfl
      have k1 := hcell B1.out 1 _ rfl
      go_wp2_with fail
      go_ret
      exact ⟨by rw [hF.out]; rfl, G1.out⟩
    · by_cases h2 : q < cy
      · have hF : Hid (R = false) := hid (by rw [hgo.out, decide_eq_false (show ¬cy ≤ q by omega)]; simp)
        go_enter Tryz.func11, Tryz.ntmps11
        go_wp2_with fail
        refine (HC.out _ g0.out).mono ?_
        rintro e w1 ⟨rfl, g1⟩
        have B1 := hid (gr_heap g1 Hbx.out (by simp))
        have G1 := hid (gr_trans g0.out g1)
        clear g1 k0 k1 k2 k3 k4 k5 k6 k7 k8
        have k0 := hcell B1.out 0 _ rfl
        have k1 := hcell B1.out 1 _ rfl
        go_wp2_with fail
        go_ret
        exact ⟨by rw [hF.out]; rfl, G1.out⟩
      · by_cases h3 : (n : Int) = ho
        · have hp0 : 0 ≤ cy * C := Int.mul_nonneg (by omega) (by omega)
          have hp1 : cy * C ≤ 562949953421312 := by
            have h9 := hqC.out (by omega)
            rw [Int.mul_left_comm] at h9
            omega
          have hF : Hid (R = (v4 && !(l.any (lateC (cy * C))))) := hid (by rw [hgo.out, decide_eq_true (show (0 : Int) = 0 from rfl), decide_eq_true (show 0 ≤ cy by omega), decide_eq_true (show cy ≤ q by omega), decide_eq_true h3]; simp)
          have hne : ((n : Int) != ho) = false := by simp; exact h3
          obtain ⟨p, hp⟩ : ∃ p, Hid (cy * C = p) := ⟨_, hid rfl⟩
          have HBp := hid (HB.out (cy * C))
          obtain ⟨v5, hv5⟩ : ∃ v, Hid ((!(l.any (lateC (cy * C)))) = v) := ⟨_, hid rfl⟩
          rw [hv5.out, hp.out] at HBp
          rw [hv5.out] at hF
          rw [hp.out] at hp0 hp1
          have wsp : IntKind.i64.wrap (cy * C) = p := by rw [hp.out]; exact IntWalk.i64_in _ (by omega)
          clear h3
          cases v4
          · go_enter Tryz.func11, Tryz.ntmps11
            go_wp2_with fail
            refine (HC.out _ g0.out).mono ?_
            rintro e w1 ⟨rfl, g1⟩
            have B1 := hid (gr_heap g1 Hbx.out (by simp))
            have G1 := hid (gr_trans g0.out g1)
            clear g1 k0 k1 k2 k3 k4 k5 k6 k7 k8
            have k0 := hcell B1.out 0 _ rfl
            have k1 := hcell B1.out 1 _ rfl
            go_wp2_with fail
            refine (HK.out _ G1.out).mono ?_
            rintro e w2 ⟨rfl, g2⟩
            have G2 := hid (gr_trans G1.out g2)
            clear g2
            go_wp2_with fail
            go_ret
            exact ⟨by rw [hF.out]; rfl, G2.out⟩
          · go_enter Tryz.func11, Tryz.ntmps11
            go_wp2_with fail
            refine (HC.out _ g0.out).mono ?_
            rintro e w1 ⟨rfl, g1⟩
            have B1 := hid (gr_heap g1 Hbx.out (by simp))
            have G1 := hid (gr_trans g0.out g1)
            clear g1 k0 k1 k2 k3 k4 k5 k6 k7 k8
            have k0 := hcell B1.out 0 _ rfl
            have k1 := hcell B1.out 1 _ rfl
            go_wp2_with fail
            refine (HK.out _ G1.out).mono ?_
            rintro e w2 ⟨rfl, g2⟩
            have G2 := hid (gr_trans G1.out g2)
            have B2 := hid (gr_heap g2 B1.out (by simp))
            clear g2 k0 k1
            have k1 := hcell B2.out 1 _ rfl
            go_wp2_with fail
            refine (HBp.out _ G2.out).mono ?_
            rintro e w3 ⟨rfl, g3⟩
            have G3 := hid (gr_trans G2.out g3)
            clear g3
            go_wp2_with fail
            go_ret
            exact ⟨by rw [hF.out]; rfl, G3.out⟩
        · have hF : Hid (R = false) := hid (by rw [hgo.out, decide_eq_false h3]; simp)
          have hne : ((n : Int) != ho) = true := by simp; exact h3
          go_enter Tryz.func11, Tryz.ntmps11
          go_wp2_with fail
          refine (HC.out _ g0.out).mono ?_
          rintro e w1 ⟨rfl, g1⟩
          have B1 := hid (gr_heap g1 Hbx.out (by simp))
          have G1 := hid (gr_trans g0.out g1)
          clear g1 k0 k1 k2 k3 k4 k5 k6 k7 k8
          have k0 := hcell B1.out 0 _ rfl
          have k1 := hcell B1.out 1 _ rfl
          go_wp2_with fail
          go_ret
          exact ⟨by rw [hF.out]; rfl, G1.out⟩
  · have hF : Hid (R = false) := hid (by rw [hgo.out, decide_eq_false hv0]; rfl)
    have hvb : (v != 0) = true := by simpa using hv0
    clear hv0
    have k0 := hcell Hbx.out 0 _ rfl
    have k1 := hcell Hbx.out 1 _ rfl
    have k2 := hcell Hbx.out 2 _ rfl
    have k3 := hcell Hbx.out 3 _ rfl
    have k4 := hcell Hbx.out 4 _ rfl
    have k5 := hcell Hbx.out 5 _ rfl
    have k6 := hcell Hbx.out 6 _ rfl
    have k7 := hcell Hbx.out 7 _ rfl
    have k8 := hcell Hbx.out 8 _ rfl
    go_enter Tryz.func11, Tryz.ntmps11
    go_wp2_with fail
    refine (HC.out _ g0.out).mono ?_
    rintro e w1 ⟨rfl, g1⟩
    have B1 := hid (gr_heap g1 Hbx.out (by simp))
    have G1 := hid (gr_trans g0.out g1)
    clear g1 k0 k1 k2 k3 k4 k5 k6 k7 k8
    have k0 := hcell B1.out 0 _ rfl
    have k1 := hcell B1.out 1 _ rfl
    go_wp2_with fail
    go_ret
    exact ⟨by rw [hF.out]; rfl, G1.out⟩
end Go.Proofs.YtckoaeoecjphiaaGreat
