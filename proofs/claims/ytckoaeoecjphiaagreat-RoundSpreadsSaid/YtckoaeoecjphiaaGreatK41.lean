/- Lemmas: round.Go: a round that may be. -/
import Derived.Test.YtckoaeoecjphiaaGreatK39
import Derived.OwnWalk
import Derived.BigRegion

/- round.Go: a round that may be. -/
namespace Go.Proofs.YtckoaeoecjphiaaGreat
open Go.RowKit Go.Lib

set_option maxRecDepth 100000 in
set_option maxHeartbeats 8000000 in
theorem go_ok (R : Rd) (hR : RdOk R) (vd ve vl sv : Value) (w : World) (hN : NetAt w.heap.size w R.d vd ve vl) (hs : CksAt w.heap.size w sv R.l) :
    Calls Tryz.prog 10 #[cfV R.d.cf vd ve vl, .int .i64 R.cy, sv, .agg #[.int .u32 (R.u0 : Int), .int .u32 (R.u1 : Int), .int .u32 (R.w0 : Int), .int .u32 (R.w1 : Int)]] w fun e w' => ∃ vs vb vh va, e = .returned (.tuple #[.agg #[vs, .int .u32 (R.crew 0 : Int), .int .u32 (R.crew 1 : Int), vb, vh, va], .int .i64 0]) ∧ Hid (ToldAt w' R vs vb vh va) ∧ Hid (w.grownBy w' none) ∧ Hid (FreshT w.heap.size vs vb vh va) := by
  have HRd := hid hR
  have hz : R.l.length * 24 ≤ 140737488351232 := by have := hR.len.1; omega
  have HCK : Hid (∀ W, w.grownBy W none → Calls Tryz.prog 24 #[cfV R.d.cf vd ve vl] W fun e w' => e = .returned (.int .i64 (checkZ R.d)) ∧ W.grownBy w' none) := hid (fun W g => check_any R.d vd ve vl W (hN.later g))
  have HMD : Hid (∀ W, w.grownBy W none → Calls Tryz.prog 25 #[sv] W fun e w' => ∃ v ps, e = .returned (.tuple #[v, .bool true]) ∧ Ptrs W.heap.size w' v R.l.length ps (nthC R.l) ∧ W.grownBy w' none) := hid (fun W g => made_ok sv R.l W ((SliceAt.grown hs g).wider g.size) hz (fun k hk => List.all_eq_true.1 hR.clean.2.1 k hk))
  have HS := hid hs
  have HN := hid hN
  obtain ⟨h1, h2, h3, h4⟩ := cleanZ_iff.1 hR.clean.1
  obtain ⟨⟨C0, C1⟩, _⟩ := hR.span
  rw [h1] at HCK
  rw [show max R.d.cf.cy 1 = R.d.cf.cy by omega] at h3
  have HP := hid hR.pcy
  have HLate := hid hR.clean.2.2
  have HZ := hid hz
  obtain ⟨n, hn⟩ : ∃ n, Hid (R.l.length = n) := ⟨_, hid rfl⟩
  obtain ⟨a, cap, rfl⟩ : ∃ a cap, sv = .slice a n cap := by
    rw [← hn.out]
    rcases hs with ⟨a, cap, rfl, h0⟩ | ⟨b, off, cap, rfl, _⟩
    · exact ⟨a, cap, by rw [h0]⟩
    · exact ⟨_, cap, rfl⟩
  have hn6 : n ≤ 6 := by rw [← hn.out]; exact hR.len.1
  have hn1 : 0 < n := by have h8 := (check_cy h1).2.1.1; rw [← h4, hn.out] at h8; omega
  rw [hn.out] at h4 HMD
  have HX : Hid (R.crew 0 = R.crew 0) := hid rfl
  clear hN hs hz h1 hR
  obtain ⟨p, hp⟩ : ∃ p, Hid (R.cy * R.d.cf.cy = p) := ⟨_, hid rfl⟩
  obtain ⟨ho, hho⟩ : ∃ x, Hid (R.d.cf.ho = x) := ⟨_, hid rfl⟩
  obtain ⟨C, hC⟩ : ∃ x, Hid (R.d.cf.cy = x) := ⟨_, hid rfl⟩
  obtain ⟨cy, hcy⟩ : ∃ x, Hid (R.cy = x) := ⟨_, hid rfl⟩
  have hcf : Hid (cfV R.d.cf vd ve vl = cfV ⟨ho, C, R.d.cf.de, R.d.cf.wi, R.d.cf.pr, R.d.cf.qu⟩ vd ve vl) := hid (by rw [← hho.out, ← hC.out])
  rw [hcf.out, hcy.out]
  rw [hcf.out] at HCK
  rw [hcy.out] at h2 h3 hp
  rw [hC.out] at h3 C0 C1 hp
  rw [hho.out] at h4
  obtain ⟨de, hde⟩ : ∃ x, Hid (R.d.cf.de = x) := ⟨_, hid rfl⟩
  obtain ⟨wi, hwi⟩ : ∃ x, Hid (R.d.cf.wi = x) := ⟨_, hid rfl⟩
  obtain ⟨pr, hpr⟩ : ∃ x, Hid (R.d.cf.pr = x) := ⟨_, hid rfl⟩
  obtain ⟨qu, hqu⟩ : ∃ x, Hid (R.d.cf.qu = x) := ⟨_, hid rfl⟩
  rw [hde.out, hwi.out, hpr.out, hqu.out] at HCK hcf ⊢
  subst h4
  obtain ⟨q, hq⟩ : ∃ q, 1125899906842624 / (2 * C) = q := ⟨_, rfl⟩
  have hq1 : q ≤ 1125899906842624 := by rw [← hq]; exact Int.ediv_le_self _ (by omega)
  have ht : (1125899906842624 : Int).tdiv (2 * C) = q := by rw [← hq]; exact Int.tdiv_eq_ediv_of_nonneg (by omega)
  have hC' : (2 * C == 0) = false := by simp; omega
  have hm : max C 1 = C := by omega
  have s0 : IntKind.i64.wrap (2 * C) = 2 * C := IntWalk.i64_in _ (by omega)
  rw [hq] at h3
  clear hq
  have hq0 : 0 ≤ q := by omega
  have s1 : IntKind.i64.wrap q = q := IntWalk.i64_in _ (by omega)
  have s2 : wrap64 q = q := by unfold wrap64; omega
  have h20 : decide (0 ≤ cy) = true := decide_eq_true h2
  have h30 : decide (cy ≤ q) = true := decide_eq_true h3
  obtain ⟨a0, ha0⟩ : ∃ x, Hid ((R.u0 : Int) = x) := ⟨_, hid rfl⟩
  obtain ⟨a1, ha1⟩ : ∃ x, Hid ((R.u1 : Int) = x) := ⟨_, hid rfl⟩
  obtain ⟨b0, hb0⟩ : ∃ x, Hid ((R.w0 : Int) = x) := ⟨_, hid rfl⟩
  obtain ⟨b1, hb1⟩ : ∃ x, Hid ((R.w1 : Int) = x) := ⟨_, hid rfl⟩
  rw [ha0.out, ha1.out, hb0.out, hb1.out]
  go_enter Tryz.func10, Tryz.ntmps10
  go_wp2_with fail
  obtain ⟨W0, hW0⟩ : ∃ W, (((w.alloc (.cells #[.int .i64 (n : Int), .int .i64 C, .int .i64 de, .int .i64 wi, .int .i64 pr, vd, ve, vl, .int .i64 qu] 26)).alloc (.cells #[.int .i64 cy] 2)).alloc (.cells #[.int .u32 a0, .int .u32 a1, .int .u32 b0, .int .u32 b1] 31)).alloc (.cells #[.slice none 0 0, .int .u32 0, .int .u32 0, .slice none 0 0, .slice none 0 0, .slice none 0 0] 38) = W := ⟨_, rfl⟩
  rw [hW0]
  obtain ⟨B1, B2, B3, B4, B5, B6⟩ := bxs_new w (.cells #[.int .i64 (n : Int), .int .i64 C, .int .i64 de, .int .i64 wi, .int .i64 pr, vd, ve, vl, .int .i64 qu] 26) (.cells #[.int .i64 cy] 2) (.cells #[.int .u32 a0, .int .u32 a1, .int .u32 b0, .int .u32 b1] 31) (.cells #[.slice none 0 0, .int .u32 0, .int .u32 0, .slice none 0 0, .slice none 0 0, .slice none 0 0] 38)
  rw [hW0] at B1 B2 B3 B4 B5
  have HB3 := hid B3
  have HsW : Hid (W0.heap.size = w.heap.size + 4) := hid (by rw [← hW0]; exact B6)
  clear B3 B6 hW0
  have HB4 := hid B4
  have HB5 := hid B5
  have n0 := grn_cell (hcell B1 0 _ rfl)
  have n1 := grn_cell (hcell B1 1 _ rfl)
  have n2 := grn_cell (hcell B1 2 _ rfl)
  have n3 := grn_cell (hcell B1 3 _ rfl)
  have n4 := grn_cell (hcell B1 4 _ rfl)
  have n5 := grn_cell (hcell B1 5 _ rfl)
  have n6 := grn_cell (hcell B1 6 _ rfl)
  have n7 := grn_cell (hcell B1 7 _ rfl)
  have n8 := grn_cell (hcell B1 8 _ rfl)
  have n9 := grn_cell (hcell B2 0 _ rfl)
  have HB1 := hid B1
  have HB2 := hid B2
  clear B1 B2 B4 B5
  refine wp_region_grown (by kernel_rfl) (by kernel_rfl) ?_
  repeat (go_big_quiet_step ((go_at_call 24; refine (HCK.out _ (gr_trans HB5.out (Grn.gr _))).mono ?_; rintro e w6 ⟨rfl, g6⟩; exact ⟨rfl, ⟨_, gr_trans (Grn.gr _) g6⟩, rfl⟩)))
  refine wpQuiet_nil ?_
  rintro w7 ⟨X7, hX7⟩
  have G7 := hid (gr_trans HB5.out (show W0.grownBy w7 none from hX7 ▸ X7.gr))
  have HB7 := hid (gr_heap (show W0.grownBy w7 none from hX7 ▸ X7.gr) HB4.out (by simp))
  have HX7 := hid (show W0.grownBy w7 none from hX7 ▸ X7.gr)
  clear hX7 X7 n0 n1 n2 n3 n4 n5 n6 n7 n8 n9
  go_wp2_with fail
  refine (HMD.out _ G7.out).mono ?_
  rintro e w8 ⟨v11, ps, rfl, hP8, g8⟩
  have HP8 := hid hP8
  have G8 := hid (gr_trans G7.out g8)
  have HW8 := hid (gr_trans HX7.out g8)
  have Hs7 : Hid (w.heap.size + 4 ≤ w7.heap.size) := hid (by have := HX7.out.size; have := HsW.out; omega)
  clear g8 hP8
  go_wp2_with fail
  refine (ahead2_any (w.heap.size + 1) w.heap.size ⟨(n : Int), C, de, wi, pr, qu⟩ vd ve vl cy (cy * C) _ R.l false _ ((SliceAt.grown HS.out G8.out).wider G8.out.size) HZ.out (hcell (gr_heap HW8.out HB2.out (by simp)) 0 _ rfl) (gr_heap HW8.out HB1.out (by simp)) (hid rfl) (hid (by have := HP.out.1; unfold Rd.p at this; rw [hcy.out, hC.out] at this; omega)) (hid (by have := HLate.out; unfold Rd.p at this; rw [hcy.out, hC.out] at this; exact this))).mono ?_
  rintro e w9 ⟨rfl, g9⟩
  have HP9 := hid (HP8.out.grown g9)
  have G9 := hid (gr_trans G8.out g9)
  have HW9 := hid (gr_trans HW8.out g9)
  clear g9
  obtain ⟨pg, cp, rfl, hcp, hpg, hpgn, hpc⟩ := HP9.out.cells hn1
  have HST : Hid (Stat w9 w.heap.size (n : Int) C de wi pr qu cy a0 a1 b0 b1 vd ve vl pg n ps) := hid ⟨gr_heap HW9.out HB1.out (by simp), gr_heap HW9.out HB2.out (by simp), gr_heap HW9.out HB3.out (by simp), gr_heap HW9.out HB4.out (by simp), hpc⟩
  have Hpg := hid (And.intro hpg hpgn)
  clear hpc hpg hpgn HMD HCK HW9 HW8 HX7 G8 HP8 HB7 HB1 HB2 HB3 HB4 HB5 G7 HS HLate s0 s1 s2 h20 h30 ht hq0 hq1 hm hC' h3
  go_wp2_with fail
  obtain ⟨wA, hwA⟩ : ∃ W, w9.alloc (.cells #[.slice none 0 0, .int .u32 0, .int .u32 0, .slice none 0 0, .slice none 0 0, .slice none 0 0] 38) = W := ⟨_, rfl⟩
  rw [hwA]
  have HsA : Hid (wA.heap.size = w9.heap.size + 1) := hid (by rw [← hwA]; simp)
  have HgA : Hid (w9.grownBy wA none) := hid (by rw [← hwA]; exact gr_alloc (gr_refl w9 none) _)
  have HL0 : Hid (Lp1 wA wA w9.heap.size (sdTo R.l p 0) (fun h => sentZ p (nthC R.l h)) 0 (.slice none 0 0) (.slice none 0 0)) := hid ⟨World.ownsRow_nil _ _ _ _, World.ownsRow_nil _ _ _ _, by simp [Value.ownBlock], by rw [← hwA]; exact heap_alloc_new w9 _, gr_refl _ _, by rw [HsA.out]; omega⟩
  clear hwA
  have wsp : IntKind.i64.wrap (cy * C) = p := by rw [hp.out]; exact IntWalk.i64_in _ (by have := HP.out.1; unfold Rd.p at this; rw [hcy.out, hC.out, hp.out] at this; omega)
  go_loopw [14, 76] (fun v14 i wr => ∃ (k : Nat) (vs : Value), k ≤ n ∧ i = .int .i64 k ∧ Hid (Lp1 wA wr w9.heap.size (sdTo R.l p k) (fun h => sentZ p (nthC R.l h)) k v14 vs)) (fun _ i _ => n - (intOf i).toNat)
  case atStart => exact ⟨0, _, Nat.zero_le _, rfl, HL0⟩
  case round =>
    obtain ⟨k, vs, hk, rfl, HLk⟩ := hrel
    by_cases hlt : k < n
    · have hkeep := lp1_keep HLk.out HgA.out
      have hST := hid (HST.out.keep9 Hpg.out.1.2 hkeep)
      have hck : Hid (ClkC wr (ps k) (nthC R.l k)) := hid ((hkeep _ (HP9.out.clk k hlt).lt).trans (HP9.out.clk k hlt))
      have hok : Hid (nthC R.l k).ok := hid ((HRd.out.ck (by rw [hn.out]; exact hlt)).2)
      have z0 := hST.out.ptr k hlt
      have z1 := hcell hST.out.cyc 0 _ rfl
      have z2 := hcell hST.out.cf 1 _ rfl
      have hk1 : k < cp := by omega
      have hk2 : (k : Int) < n := by omega
      obtain ⟨i0, hi, hz0, hz1, hz2⟩ := info_parts Tryz.info_sd
      obtain ⟨i1, hi1, hy0, hy1, hy2⟩ := info_parts Tryz.info_i64
      have hSl := hid (sdTo_len R.l p k)
      have HbA : Hid (wA.heap.size ≤ wr.heap.size) := hid HLk.out.gr.size
      clear hkeep
      rcases whenR_cases (nthC R.l k) hok.out p with ⟨t, hwt, ew⟩ | ⟨hnone, ew⟩
      · have hsd : Hid (sdTo R.l p (k + 1) = sdTo R.l p k ++ [⟨k, t⟩]) := hid (by simp only [sdTo]; rw [ew]; rfl)
        have hse : Hid (sentZ p (nthC R.l k) = t) := hid (by unfold sentZ; rw [ew]; rfl)
        have HW : Hid (IsWhen (nthC R.l k).m (nthC R.l k).b (nthC R.l k).r p t) := hid hwt
        clear hwt ew
        go_wp2_with fail
        refine (when_ok (ps k) _ _ _ p t wr hck.out hok.out HW.out).mono ?_
        rintro e w2 ⟨rfl, g2⟩
        have HL2 := hid (HLk.out.grown g2)
        have Hb2 := hid (Nat.le_trans HbA.out g2.size)
        clear g2 z0 z1 z2
        go_wp2_with (first
          | (at_builtin; refine wpList_append_own_at _ rfl (.tmp 92) (.tmp 96) 82 rfl wA.heap.size 86 i0 (.agg #[.int .i64 0, .int .i64 0]) 2 16 Tryz.underlying82 hi hz0 hz1 hz2 rfl (by decide) u14 _ _ rfl (HL2.out.sd.alloc _) ⟨w2.heap.size, 0, none⟩ 1 1 [.int .i64 (k : Int), .int .i64 t] rfl rfl (cells2_new _ _ _ _) (by simp [Value.oneCell']) (by have := hSl.out; unfold maxLen; omega) (by have := hSl.out; omega) (by have := Hb2.out; simp; omega) ?_; intro v4 w4 hown4 hg4 _ hat4; have HL4 := hid (Lp1.send (x := ⟨k, t⟩) HL2.out hown4 hg4 hat4); have y0 := hcell HL4.out.told 0 _ rfl; clear hown4 hg4 hat4)
          | (at_builtin; refine wpList_append_own_at _ rfl (.tmp 99) (.tmp 101) 35 rfl wA.heap.size 2 i1 (.int .i64 0) 1 8 Tryz.underlying35 hi1 hy0 hy1 hy2 rfl (by decide) vs k _ rfl (HL4.out.sn.alloc _) ⟨w4.heap.size, 0, none⟩ 1 1 [.int .i64 t] rfl rfl (cell_one_new' _ _ _) (by simp [Value.oneCell']) (by unfold maxLen; omega) (by omega) (by have := HL4.out.gr.size; simp; omega) ?_; intro v6 w6 hown6 hg6 _ hat6; obtain ⟨g6, cap6, rfl⟩ := own_slice hown6; have HL7 := hid (Lp1.tell HL4.out hse.out hown6 hg6 hat6); have hb6 := Lp1.at6 HL4.out hg6; have y1 := hcell hb6 0 _ rfl; have y2 := hfroz hb6 0; clear hown6 hg6 hat6 hb6))
        refine ⟨⟨k + 1, _, by omega, by go_num, hid (by rw [hsd.out]; exact HL7.out)⟩, ?_⟩
        simp [intOf]; omega
      · have hsd : Hid (sdTo R.l p (k + 1) = sdTo R.l p k) := hid (by simp only [sdTo]; rw [ew]; rfl)
        have hse : Hid (sentZ p (nthC R.l k) = -1) := hid (by unfold sentZ; rw [ew]; rfl)
        have HW := hid hnone
        clear hnone ew
        go_wp2_with fail
        refine (when_none (ps k) _ _ _ p wr hck.out hok.out HW.out).mono ?_
        rintro e w2 ⟨rfl, g2⟩
        have HL2 := hid (HLk.out.grown g2)
        have y0 := hcell HL2.out.told 0 _ rfl
        clear g2 z0 z1 z2
        go_wp2_with (at_builtin; refine wpList_append_own_at _ rfl (.tmp 99) (.tmp 101) 35 rfl wA.heap.size 2 i1 (.int .i64 0) 1 8 Tryz.underlying35 hi1 hy0 hy1 hy2 rfl (by decide) vs k _ rfl (HL2.out.sn.alloc _) ⟨w2.heap.size, 0, none⟩ 1 1 [.int .i64 (-1)] rfl rfl (cell_one_new' _ _ _) (by simp [Value.oneCell']) (by unfold maxLen; omega) (by omega) (by have := HL2.out.gr.size; simp; omega) ?_; intro v6 w6 hown6 hg6 _ hat6; obtain ⟨g6, cap6, rfl⟩ := own_slice hown6; have HL7 := hid (Lp1.tell HL2.out hse.out hown6 hg6 hat6); have hb6 := Lp1.at6 HL2.out hg6; have y1 := hcell hb6 0 _ rfl; have y2 := hfroz hb6 0; clear hown6 hg6 hat6 hb6)
        refine ⟨⟨k + 1, _, by omega, by go_num, hid (by rw [hsd.out]; exact HL7.out)⟩, ?_⟩
        simp [intOf]; omega
    · obtain rfl : k = n := by omega
      clear hlt
      have hpp : R.p = p := by unfold Rd.p; rw [hcy.out, hC.out]; exact hp.out
      have HLn : Hid (Lp1 wA wr w9.heap.size (sdTo R.l R.p R.l.length) (fun h => sentZ R.p (nthC R.l h)) R.l.length u14 vs) := hid (by rw [hpp, hn.out]; exact HLk.out)
      have Hpp := hid hpp
      clear hpp HLk
      go_wp2_with fail
      refine (sort_step HRd.out HLn.out).mono ?_
      rintro e w2 ⟨rfl, ys, HSo, HM2⟩
      clear HLn HL0
      obtain ⟨p0, hp0⟩ : ∃ x, Hid (R.pt 0 = x) := ⟨_, hid rfl⟩
      obtain ⟨p1, hp1⟩ : ∃ x, Hid (R.pt 1 = x) := ⟨_, hid rfl⟩
      obtain ⟨c0, hc0⟩ : ∃ x, Hid (R.crew 0 = x) := ⟨_, hid rfl⟩
      obtain ⟨c1, hc1⟩ : ∃ x, Hid (R.crew 1 = x) := ⟨_, hid rfl⟩
      obtain ⟨y0, hy0⟩ : ∃ x, Hid (cycS R.cy (R.came 0) = x) := ⟨_, hid rfl⟩
      obtain ⟨y1, hy1⟩ : ∃ x, Hid (cycS R.cy (R.came 1) = x) := ⟨_, hid rfl⟩
      have hcol : ∀ (sw : Nat), sw < 2 → ∀ W, w.grownBy W none → SentV W u14 ys → Calls Tryz.prog 32 #[cfV ⟨(k : Int), C, de, wi, pr, qu⟩ vd ve vl, .int .i64 cy, u14, .int .i64 (sw : Int), .int .u32 (R.up sw : Int)] W fun e w' => e = .returned (.tuple #[resV (R.pt sw) (R.crew sw) (cycS R.cy (R.came sw)), .bool (!(R.came sw).isEmpty)]) ∧ W.grownBy w' none := by
        intro sw hsw W g hV
        have := collect_any R.d vd ve vl R.cy u14 ys sw (R.up sw) W ((HN.out.later g).rows) hV (HRd.out.col HSo.out hsw) (by have := HSo.out.perm.length_eq; have := sdTo_len R.l R.p R.l.length; have := HRd.out.len.1; omega)
        rw [hcf.out, hcy.out] at this
        unfold Rd.pt Rd.crew Rd.came
        rw [HSo.out.eq, hcy.out]
        exact this
      have HCOL0 : Hid (∀ W, w.grownBy W none → SentV W u14 ys → Calls Tryz.prog 32 #[cfV ⟨(k : Int), C, de, wi, pr, qu⟩ vd ve vl, .int .i64 cy, u14, .int .i64 0, .int .u32 a0] W fun e w' => e = .returned (.tuple #[resV p0 c0 y0, .bool (!(R.came 0).isEmpty)]) ∧ W.grownBy w' none) := hid (by
        intro W g hV
        have := hcol 0 (by omega) W g hV
        rw [hp0.out, hc0.out, hy0.out, show ((R.up 0 : Nat) : Int) = a0 from ha0.out] at this
        exact this)
      have HCOL1 : Hid (∀ W, w.grownBy W none → SentV W u14 ys → Calls Tryz.prog 32 #[cfV ⟨(k : Int), C, de, wi, pr, qu⟩ vd ve vl, .int .i64 cy, u14, .int .i64 1, .int .u32 a1] W fun e w' => e = .returned (.tuple #[resV p1 c1 y1, .bool (!(R.came 1).isEmpty)]) ∧ W.grownBy w' none) := hid (by
        intro W g hV
        have := hcol 1 (by omega) W g hV
        rw [hp1.out, hc1.out, hy1.out, show ((R.up 1 : Nat) : Int) = a1 from ha1.out] at this
        exact this)
      obtain ⟨bb0, hbb0⟩ : ∃ b, (!(R.came 0).isEmpty) = b := ⟨_, rfl⟩
      obtain ⟨bb1, hbb1⟩ : ∃ b, (!(R.came 1).isEmpty) = b := ⟨_, rfl⟩
      rw [hbb0] at HCOL0
      rw [hbb1] at HCOL1
      clear hcol hbb0 hbb1
      go_wp2_with fail
      refine wp_loop_rounds 3 ?_
      rw [rounds_succ]
      go_wp2_with fail
      obtain ⟨W2, hW2⟩ : ∃ W, w2.alloc (.cells #[.int .i64 0, .int .u32 0, .int .i64 0, .int .i64 0, .int .u32 0, .int .i64 0] 92) = W := ⟨_, rfl⟩
      rw [hW2]
      have HL2 : Hid (Lp2 w9 wA W2 R 0 0 ys u14 vs w.heap.size pg k (k : Int) C de wi pr qu cy a0 a1 b0 b1 vd ve vl ps w2.heap.size (.int .i64 0) (.int .u32 0) (.int .i64 0) (.int .i64 0) (.int .u32 0) (.int .i64 0)) := hid (by
        have g := hW2 ▸ gr_alloc (gr_refl w2 none) (.cells #[.int .i64 0, .int .u32 0, .int .i64 0, .int .i64 0, .int .u32 0, .int .i64 0] 92)
        have hm := HM2.out
        refine ⟨hm.grown g, (HST.out.keep9 Hpg.out.1.2 (mid_keep (hm.grown g) HgA.out)), hW2 ▸ heap_alloc_new w2 _, hm.gr.size, fun e => by have := (hm.sn.lt _ e).2; omega, ?_, Hpg.out.1.2, by have := Hpg.out.1; have := Hs7.out; omega, HsA.out⟩
        intro g' cap' e hne
        rcases hm.snt with ⟨_, _, _, h0⟩ | ⟨g2, cap2, e2, _, h3⟩
        · exact absurd h0 hne
        · rw [e] at e2
          injection e2 with e3 _ _
          injection e3 with e3
          injection e3 with e3
          have := h3.lt
          omega)
      have HG2 : Hid (w.grownBy W2 none) := hid (mid_gr HL2.out.mid G9.out HgA.out)
      obtain ⟨rb, hrb⟩ : ∃ x, w2.heap.size = x := ⟨_, rfl⟩
      rw [hrb] at HL2
      have Hrb := hid hrb
      rw [hrb]
      clear hW2 hrb HM2
      have Hgw : Hid (w.heap.size ≤ w2.heap.size) := hid (by have := HG2.out.size; have := HL2.out.rlo; have h1 := G9.out.size; have h2 := HsA.out; have := Hrb.out; omega)
      have m0 := hcell HL2.out.sta.cf 0 _ rfl
      have m1 := hcell HL2.out.sta.cf 1 _ rfl
      have m2 := hcell HL2.out.sta.cf 2 _ rfl
      have m3 := hcell HL2.out.sta.cf 3 _ rfl
      have m4 := hcell HL2.out.sta.cf 4 _ rfl
      have m5 := hcell HL2.out.sta.cf 5 _ rfl
      have m6 := hcell HL2.out.sta.cf 6 _ rfl
      have m7 := hcell HL2.out.sta.cf 7 _ rfl
      have m8 := hcell HL2.out.sta.cf 8 _ rfl
      have mc := hcell HL2.out.sta.cyc 0 _ rfl
      have ml := hcell HL2.out.sta.los 0 _ rfl
      apply wp_behind0 (fun W => Hid (Lp2 w9 wA W R 0 0 ys u14 vs w.heap.size pg k (k : Int) C de wi pr qu cy a0 a1 b0 b1 vd ve vl ps rb (.int .i64 p0) (.int .u32 (c0 : Int)) (.int .i64 y0) (.int .i64 0) (.int .u32 0) (.int .i64 0)) ∧ Hid (w.grownBy W none))
      case h =>
        go_region_with (go_at_call 32; refine (HCOL0.out _ (gr_drew HG2.out) (HL2.out.mid.snt.grown (gr_drew (gr_refl W2 none)))).mono ?_; rintro e w5 ⟨rfl, g5⟩; have HL5 := hid (HL2.out.grown (gr_trans (gr_drew (gr_refl W2 none)) g5)); have HG5 := hid (gr_trans (gr_drew HG2.out) g5); have k0 := hcell HL5.out.res 0 _ rfl; have f0 := hfroz HL5.out.res 0; have k1 := hcell HL5.out.res 1 _ rfl; have f1 := hfroz HL5.out.res 1; have k2 := hcell HL5.out.res 2 _ rfl; have f2 := hfroz HL5.out.res 2; clear g5)
        all_goals exact ⟨rfl, hid (HL5.out.put0), hid (gr_setNew (gr_setNew (gr_setNew HG5.out (by have := Hrb.out; have := Hgw.out; omega) _ _) (by have := Hrb.out; have := Hgw.out; omega) _ _) (by have := Hrb.out; have := Hgw.out; omega) _ _)⟩
      case k =>
        intro w3 hS
        obtain ⟨HL3, HG3⟩ := hS
        clear m0 m1 m2 m3 m4 m5 m6 m7 m8 mc ml HL2 HG2
        have k1 := hcell HL3.out.res 1 _ rfl
        have t1 := hcell HL3.out.mid.told 1 _ rfl
        have f1 := hfroz HL3.out.mid.told 1
        have HL4 := hid (HL3.out.tell0 c0)
        have HG4 := hid (gr_setNew HG3.out (show w.heap.size ≤ w9.heap.size from G9.out.size) 1 (.int .u32 (c0 : Int)))
        go_wp2_with fail
        rw [rounds_succ]
        go_wp2_with fail
        obtain ⟨w4, hw4⟩ : ∃ W, w3.setCell ⟨w9.heap.size, 1, none⟩ (.int .u32 (c0 : Int)) = W := ⟨_, rfl⟩
        rw [hw4] at HL4 HG4 ⊢
        clear hw4 k1 t1 f1 HL3 HG3
        have m0 := hcell HL4.out.sta.cf 0 _ rfl
        have m1 := hcell HL4.out.sta.cf 1 _ rfl
        have m2 := hcell HL4.out.sta.cf 2 _ rfl
        have m3 := hcell HL4.out.sta.cf 3 _ rfl
        have m4 := hcell HL4.out.sta.cf 4 _ rfl
        have m5 := hcell HL4.out.sta.cf 5 _ rfl
        have m6 := hcell HL4.out.sta.cf 6 _ rfl
        have m7 := hcell HL4.out.sta.cf 7 _ rfl
        have m8 := hcell HL4.out.sta.cf 8 _ rfl
        have mc := hcell HL4.out.sta.cyc 0 _ rfl
        have ml := hcell HL4.out.sta.los 1 _ rfl
        apply wp_behind0 (fun W => Hid (Lp2 w9 wA W R c0 0 ys u14 vs w.heap.size pg k (k : Int) C de wi pr qu cy a0 a1 b0 b1 vd ve vl ps rb (.int .i64 p0) (.int .u32 (c0 : Int)) (.int .i64 y0) (.int .i64 p1) (.int .u32 (c1 : Int)) (.int .i64 y1)) ∧ Hid (w.grownBy W none))
        case h =>
          go_region_with (go_at_call 32; refine (HCOL1.out _ (gr_drew HG4.out) (HL4.out.mid.snt.grown (gr_drew (gr_refl w4 none)))).mono ?_; rintro e w5 ⟨rfl, g5⟩; have HL5 := hid (HL4.out.grown (gr_trans (gr_drew (gr_refl w4 none)) g5)); have HG5 := hid (gr_trans (gr_drew HG4.out) g5); have k0 := hcell HL5.out.res 3 _ rfl; have f0 := hfroz HL5.out.res 3; have k1 := hcell HL5.out.res 4 _ rfl; have f1 := hfroz HL5.out.res 4; have k2 := hcell HL5.out.res 5 _ rfl; have f2 := hfroz HL5.out.res 5; clear g5)
          all_goals exact ⟨rfl, hid (HL5.out.put1), hid (gr_setNew (gr_setNew (gr_setNew HG5.out (by have := Hrb.out; have := Hgw.out; omega) _ _) (by have := Hrb.out; have := Hgw.out; omega) _ _) (by have := Hrb.out; have := Hgw.out; omega) _ _)⟩
        case k =>
          intro w6 hS
          obtain ⟨HL6, HG6⟩ := hS
          clear m0 m1 m2 m3 m4 m5 m6 m7 m8 mc ml HL4 HG4
          have k1 := hcell HL6.out.res 4 _ rfl
          have t1 := hcell HL6.out.mid.told 2 _ rfl
          have f1 := hfroz HL6.out.mid.told 2
          have HL7 := hid (HL6.out.tell1 c1)
          have HG7 := hid (gr_setNew HG6.out (show w.heap.size ≤ w9.heap.size from G9.out.size) 2 (.int .u32 (c1 : Int)))
          go_wp2_with fail
          rw [rounds_succ]
          go_wp2_with fail
          obtain ⟨w7, hw7⟩ : ∃ W, w6.setCell ⟨w9.heap.size, 2, none⟩ (.int .u32 (c1 : Int)) = W := ⟨_, rfl⟩
          rw [hw7] at HL7 HG7 ⊢
          clear hw7 k1 t1 f1 HL6 HG6
          obtain ⟨vg, vcap, rfl, hSt⟩ := st3_begin HL7.out HP9.out Hs7.out Hpg.out.1 Hpg.out.2 hn.out hn1
          have HSt := hid hSt
          have HLb := hid (lp3_begin HL7.out HP9.out HgA.out)
          have hcfe : Hid (R.d.cf = ⟨(k : Int), C, de, wi, pr, qu⟩) := hid (by
            rw [← hho.out, ← hC.out, ← hde.out, ← hwi.out, ← hpr.out, ← hqu.out])
          have HNw := hid (HN.out.grown HG7.out)
          clear hSt
          refine loop3 R HRd.out ys HSo.out w7 w.heap.size w9.heap.size rb pg vg vcap cp k ps C de wi pr qu cy a0 a1 b0 b1 vd ve vl p0 p1 y0 y1 c0 c1 hn hn1 hcp HLb HSt HNw hcfe hcy hc0 hc1 hp0 hp1 hy0 hy1 hb0 hb1 _ _ _ _ _ _ _ _ _ _ _ _ _ _ _ _ _ _ _ _ _ _ _ _ _ _ _ _ _ _ _ _ _ _ _ _ _ _ _ _ _ _ _ _ _ _ _ _ _ _ _ _ _ _ _ _ _ _ _ _ _ _ _ _ _ _ _ _ _ _ _ _ _ _ _ _ _ _ _ _ _ _ _ _ _ _ _ _ _ _ _ _ _ _ _ _ _ _ _ _ _ _ _ _ _ _ _ _ _ _ _ _ _ _ _ _ _ _ _ _ _ _ _ _ _ _ _ _ _ _ _ _ _ _ _ _ _ _ _ _ _ _ _ _ _ _ _ _ _ _ _ _ _ _ _ _ _ _ _ _ _ _ _ _ _ _ _ _ _ _ _ _ _ _ _ _ _ _ _ _ _ _ _ _ _ _ _ _ _ _ _ _ _ _ _ _ _ _ _ _ _ _ _ _ _ _ _ _ _ _ _ _ (hid ?_)
          intro z21 z22 z23 z24 z25 z26 z27 z28 z29 z30 z31 z32 z135 z136 z137 z138 z139 z140 z141 z142 z143 z144 z145 z146 z147 z148 z149 z150 z151 z152 z153 z154 z155 z156 z157 z158 z159 z160 z161 z162 z163 z164 z165 z166 z167 z168 z169 z170 z171 z172 z173 z174 z175 z176 z177 z178 z179 z180 z181 z182 z183 z184 z185 z186 z187 z188 z189 z190 z191 z192 z193 z194 z195 z196 z197 z198 z199 z200 z201 z202 z203 z204 z205 z206 z207 z208 z209 z210 z211 z212 z213 z214 z215 z216 z217 z218 W vb vh va HLe
          have HLE := hid HLe
          have hSTe : Hid (Stat W w.heap.size (k : Int) C de wi pr qu cy a0 a1 b0 b1 vd ve vl pg k ps) := hid (HSt.out.sta.kept (fun q hq => by
            have h1 := HSt.out.far q (by omega)
            have h2 := HSt.out.pgs
            have h3 := lt_of_block HSt.out.sta.res
            exact HLE.out.keep q (by omega) h1.1 h1.2))
          have td0 := hcell HLe.told 0 _ rfl
          have td1 := hcell HLe.told 1 _ rfl
          have td2 := hcell HLe.told 2 _ rfl
          have td3 := hcell HLe.told 3 _ rfl
          have td4 := hcell HLe.told 4 _ rfl
          have td5 := hcell HLe.told 5 _ rfl
          have rs0 := hcell hSTe.out.res 0 _ rfl
          have rs1 := hcell hSTe.out.res 1 _ rfl
          have rs2 := hcell hSTe.out.res 2 _ rfl
          have rs3 := hcell hSTe.out.res 3 _ rfl
          have rs4 := hcell hSTe.out.res 4 _ rfl
          have rs5 := hcell hSTe.out.res 5 _ rfl
          have rf0 := hfroz hSTe.out.res 0
          have rf1 := hfroz hSTe.out.res 1
          have rf2 := hfroz hSTe.out.res 2
          have rf3 := hfroz hSTe.out.res 3
          have rf4 := hfroz hSTe.out.res 4
          have rf5 := hfroz hSTe.out.res 5
          obtain ⟨g1, cap1, rfl⟩ := own_sl' HLe.rb
          obtain ⟨g2, cap2, rfl⟩ := own_sl' HLe.rh
          obtain ⟨g3, cap3, rfl⟩ := own_sl' HLe.ra
          clear HLe
          go_wp2_with fail
          obtain ⟨W6, hW6⟩ : ∃ W6, ((((((W.setCell ⟨w.heap.size + 1 + 1 + 1, 0, none⟩ (.slice (some ⟨vg, 0, none⟩) k vcap)).setCell ⟨w.heap.size + 1 + 1 + 1, 1, none⟩ (.int .u32 (c0 : Int))).setCell ⟨w.heap.size + 1 + 1 + 1, 2, none⟩ (.int .u32 (c1 : Int))).setCell ⟨w.heap.size + 1 + 1 + 1, 3, none⟩ (.slice g1 k cap1)).setCell ⟨w.heap.size + 1 + 1 + 1, 4, none⟩ (.slice g2 k cap2)).setCell ⟨w.heap.size + 1 + 1 + 1, 5, none⟩ (.slice g3 k cap3)) = W6 := ⟨_, rfl⟩
          have hbx : W6.heap[w.heap.size + 1 + 1 + 1]? = some (.cells #[.slice (some ⟨vg, 0, none⟩) k vcap, .int .u32 (c0 : Int), .int .u32 (c1 : Int), .slice g1 k cap1, .slice g2 k cap2, .slice g3 k cap3] 38) := by rw [← hW6]; exact set6_heap hSTe.out.res
          have hoth : ∀ q, q ≠ w.heap.size + 1 + 1 + 1 → W6.heap[q]? = W.heap[q]? := fun q hq => by rw [← hW6, setCell_heap (Ne.symm hq), setCell_heap (Ne.symm hq), setCell_heap (Ne.symm hq), setCell_heap (Ne.symm hq), setCell_heap (Ne.symm hq), setCell_heap (Ne.symm hq)]
          have hsz6 : W6.heap.size = W.heap.size := by rw [← hW6]; simp [World.setCell]
          have hos6 : W6.os = W.os := by rw [← hW6]; rfl
          have htp6 : W6.tape = W.tape := by rw [← hW6]; rfl
          have hou6 : W6.output = W.output := by rw [← hW6]; rfl
          rw [hW6]
          clear hW6 td0 td1 td2 td3 td4 td5 rs0 rs1 rs2 rs3 rs4 rs5 rf0 rf1 rf2 rf3 rf4 rf5
          have o0 := hcell hbx 0 _ rfl
          have o1 := hcell hbx 1 _ rfl
          have o2 := hcell hbx 2 _ rfl
          have o3 := hcell hbx 3 _ rfl
          have o4 := hcell hbx 4 _ rfl
          have o5 := hcell hbx 5 _ rfl
          have hsn7 := HL7.out.mid.sn
          rw [hn.out] at hsn7
          have hz9 := HsA.out
          have hz7 := HL7.out.mid.gr.size
          have hwl := HL7.out.wlo
          obtain ⟨hE1, hE2, hE3⟩ := told_end HLE.out hn.out hsn7 (by omega) (fun j hj => by have := (HP9.out.clk j hj).lt; omega) (show w.heap.size + 1 + 1 + 1 < wA.heap.size by omega) (by omega) HG7.out (by omega) G9.out.size (fun j hj => by have := HP9.out.lo j hj; have := Hs7.out; omega) hoth hsz6 hos6 htp6 hou6
          refine bodyPost_ret (v := .tuple #[.agg #[.slice (some ⟨vg, 0, none⟩) k vcap, .int .u32 (c0 : Int), .int .u32 (c1 : Int), .slice g1 k cap1, .slice g2 k cap2, .slice g3 k cap3], .int .i64 0]) (by simp [results, Tryz.results10, go_sem, o0, o1, o2, o3, o4, o5]) rfl ⟨_, _, _, _, by rw [hc0.out, hc1.out], hid hE1, hid hE2, hid hE3⟩
end Go.Proofs.YtckoaeoecjphiaaGreat
