/- Lemmas: The document's round: Close of whatever was heard; hear. -/
import Derived.Test.YtckoaeoecjphiaaGreatK49
import Derived.Test.YtckoaeoecjphiaaGreatK37

/- The document's round: Close of whatever was heard; hear. -/
namespace Go.Proofs.YtckoaeoecjphiaaGreat
open Go.RowKit Go.Lib

theorem rclose12_any (c : Cf) (vd ve vl v : Value) (base : Nat) (cy p : Int) (fs : List Hd) (w : World) (hk : KH w base v p (expZ c) cy fs) (hlen : fs.length ≤ 2)
    (hsp : spansZ c = true) (hp : Hid (cy * c.cy = p)) (h1 : 0 ≤ p ∧ p ≤ 562949953421312) (hx : ∀ x ∈ fs, x.cr < 64 ∧ (-4194304 ≤ x.by_ ∧ x.by_ ≤ 4194304)) :
    Calls Tryz.prog 45 #[v, cfV c vd ve vl] w fun e w' => e = .returned (.tuple #[.int .i64 (bestH fs).by_, .int .u32 ((bestH fs).cr : Int), .int .i64 (fs.length : Int)]) ∧ w.grownBy w' none := by
  rcases fs with _ | ⟨x, _ | ⟨y, _ | ⟨z, l⟩⟩⟩
  · refine (rclose12_nil c vd ve vl v base p (expZ c) cy w hk).mono ?_
    rintro e w' ⟨rfl, g⟩
    exact ⟨rfl, g⟩
  · refine (rclose12_one c vd ve vl v base cy p x w hk hsp hp h1 (hx x (by simp)).2).mono ?_
    rintro e w' ⟨rfl, g⟩
    exact ⟨rfl, g⟩
  · refine (rclose12_two c vd ve vl v base cy p x y w hk hsp hp h1 (hx x (by simp)).2 (hx y (by simp)).2 (hx x (by simp)).1 (hx y (by simp)).1).mono ?_
    rintro e w' ⟨rfl, g⟩
    refine ⟨?_, g⟩
    have e1 : bestH [x, y] = if betterH y x = true then y else x := rfl
    rw [e1]
    by_cases h : betterH y x = true
    · simp [h]
    · simp [h]
  · simp at hlen
set_option maxRecDepth 100000 in
set_option maxHeartbeats 4000000 in
theorem rhear20_any (base : Nat) (c : Cf) (vd ve vl v : Value) (k : Ck) (fs : List Hd) (cy p pt dly : Int) (cr sw : Nat) (w : World) (hk : KH w base v p (expZ c) cy fs) (hbase : base ≤ w.heap.size) (hlen : fs.length ≤ 10) (hno : ∀ j, j < fs.length → (nthH fs j).fr ≠ 6 + (sw : Int))
    (ho : k.ok) (hsp : spansZ c = true) (hp : Hid (cy * c.cy = p)) (h0 : 0 ≤ cy ∧ cy ≤ 562949953421312) (h1 : 0 ≤ p ∧ p ≤ 562949953421312) (hcr : 0 < cr ∧ cr < 64) (hsw : sw < 2) (hd0 : 0 ≤ dly ∧ dly ≤ c.de) (hpt : -4503599627370496 ≤ pt ∧ pt ≤ 4503599627370496) :
    Calls Tryz.prog 44 #[cfV c vd ve vl, .int .i64 cy, ckV k, v, .agg #[.int .i64 pt, .int .u32 (cr : Int), .int .i64 cy], .int .i64 dly, .int .i64 (sw : Int)] w fun e w' => ∃ v', e = .returned v' ∧ Hid (KH w' base v' p (expZ c) cy (hearsF k p (expZ c) (accZ c) c.de c.wi pt dly cr (6 + (sw : Int)) fs)) ∧ Hid (Below base w w') := by
  obtain ⟨_, ⟨d0, d1⟩, ⟨e0, e1⟩, _⟩ := spansZ_bd hsp
  have HH := hid (fun (l : Int) (W : World) (hK : KH W base v p (expZ c) cy fs) (hB : base ≤ W.heap.size) => rhear12_any base c vd ve vl v fs cy l p cr (6 + (sw : Int)) W hK hB hlen hno hsp hp h0 h1 hcr (by omega))
  have HK := hid hk
  have Hb := hid hbase
  obtain ⟨E, hE⟩ : ∃ x, Hid (expZ c = x) := ⟨_, hid rfl⟩
  obtain ⟨A, hA⟩ : ∃ x, Hid (accZ c = x) := ⟨_, hid rfl⟩
  rw [hE.out, hA.out] at HH
  rw [hE.out] at HK
  rw [hE.out, hA.out]
  clear hk hbase hno hsp hp hE hA
  obtain ⟨hos, C, de, wi, pr, qu⟩ := c
  dsimp only at *
  have HD := hid (fun W : World => rdue_any k (pt + wi + dly) dly de W ho ⟨by omega, d1⟩ ⟨hd0.1, hd0.2⟩)
  obtain ⟨X, hX⟩ : ∃ X, dueR k (pt + wi + dly) dly de = X := ⟨_, rfl⟩
  have HF : Hid (hearsF k p E A de wi pt dly cr (6 + (sw : Int)) fs = if X.2 = 0 then hearF (k.at_ X.1) p E A cr (6 + (sw : Int)) fs else fs) := hid (by unfold hearsF; rw [hX])
  have HN : Hid (X.2 = 0 → nowB k.m X.1 = true) := hid (fun h => by have := dueR_now ho (t := pt + wi + dly) (cl := dly) (dl := de) (by rw [hX]; exact h); rw [hX] at this; exact this)
  rw [hX] at HD
  have HO := hid ho
  clear ho hX h0 h1
  obtain ⟨p0, p1⟩ := hpt
  obtain ⟨l0, l1⟩ := hd0
  have s1 : IntKind.i64.wrap (pt + wi) = pt + wi := IntWalk.i64_in _ (by omega)
  have s2 : IntKind.i64.wrap (pt + wi + dly) = pt + wi + dly := IntWalk.i64_in _ (by omega)
  have s3 : IntKind.i64.wrap (6 + (sw : Int)) = 6 + (sw : Int) := IntWalk.i64_in _ (by omega)
  obtain ⟨x1, x2⟩ := X
  obtain ⟨m, ba, r⟩ := k
  dsimp only [ckV] at *
  obtain ⟨R, hR⟩ : ∃ R, hearsF ⟨m, ba, r⟩ p E A de wi pt dly cr (6 + (sw : Int)) fs = R := ⟨_, rfl⟩
  rw [hR] at HF ⊢
  clear hR
  go_enter Tryz.func44, Tryz.ntmps44
  go_wp2_with fail
  obtain ⟨W0, hW0⟩ : ∃ W0, (((w.alloc (.cells #[.int .i64 hos, .int .i64 C, .int .i64 de, .int .i64 wi, .int .i64 pr, vd, ve, vl, .int .i64 qu] 26)).alloc (.cells #[.int .i64 m, .int .i64 ba, .int .i64 r] 61)).alloc (.cells #[.int .i64 pt, .int .u32 (cr : Int), .int .i64 cy] 107)) = W0 := ⟨_, rfl⟩
  have b0 := hid (show W0.heap[w.heap.size]? = some (.cells #[.int .i64 hos, .int .i64 C, .int .i64 de, .int .i64 wi, .int .i64 pr, vd, ve, vl, .int .i64 qu] 26) by rw [← hW0]; exact box_heap (gr_alloc (gr_alloc (gr_refl _ none) _) _))
  have b1 := hid (show W0.heap[w.heap.size + 1]? = some (.cells #[.int .i64 m, .int .i64 ba, .int .i64 r] 61) by rw [← hW0]; exact box_heap2 (gr_alloc (gr_refl _ none) _))
  have b2 := hid (show W0.heap[w.heap.size + 1 + 1]? = some (.cells #[.int .i64 pt, .int .u32 (cr : Int), .int .i64 cy] 107) by rw [← hW0]; have := box_heap2 (gr_refl (((w.alloc (.cells #[.int .i64 hos, .int .i64 C, .int .i64 de, .int .i64 wi, .int .i64 pr, vd, ve, vl, .int .i64 qu] 26)).alloc (.cells #[.int .i64 m, .int .i64 ba, .int .i64 r] 61)).alloc (.cells #[.int .i64 pt, .int .u32 (cr : Int), .int .i64 cy] 107)) none); simpa using this)
  have g0 := hid (show w.grownBy W0 none by rw [← hW0]; exact gr_alloc (gr_alloc (gr_alloc (gr_refl w none) _) _) _)
  rw [hW0]
  clear hW0
  have k0 := hcell b1.out 0 _ rfl
  have k1 := hcell b1.out 1 _ rfl
  have k2 := hcell b1.out 2 _ rfl
  have j0 := hcell b2.out 0 _ rfl
  have c3 := hcell b0.out 3 _ rfl
  have c2 := hcell b0.out 2 _ rfl
  go_wp2_with fail
  refine (HD.out _).mono ?_
  rintro e w1 ⟨rfl, g1⟩
  have B0 := hid (gr_heap g1 b0.out (by simp))
  have B1 := hid (gr_heap g1 b1.out (by simp))
  have B2 := hid (gr_heap g1 b2.out (by simp))
  have G1 := hid (gr_trans g0.out g1)
  clear g1 k0 k1 k2 j0 c3 c2 b0 b1 b2 g0 s1 s2
  by_cases hx : x2 = 0
  · subst hx
    obtain ⟨now, hnow⟩ : ∃ n, Hid (clockAt m ba r x1 = n) := ⟨_, hid rfl⟩
    have HRR : Hid (R = hearF now p E A cr (6 + (sw : Int)) fs) := hid (by rw [HF.out, if_pos rfl, show (Ck.mk m ba r).at_ x1 = now from hnow.out])
    have k0 := hcell B1.out 0 _ rfl
    have k1 := hcell B1.out 1 _ rfl
    have k2 := hcell B1.out 2 _ rfl
    go_wp2_with fail
    refine (rnow_ok m ba r x1 now _ HO.out (HN.out (by simp)) hnow).mono ?_
    rintro e w2 ⟨rfl, g2⟩
    have C0 := hid (gr_heap g2 B0.out (by simp))
    have C2 := hid (gr_heap g2 B2.out (by simp))
    have G2 := hid (gr_trans G1.out g2)
    clear g2 k0 k1 k2
    have m0 := hcell C0.out 0 _ rfl
    have m1 := hcell C0.out 1 _ rfl
    have m2 := hcell C0.out 2 _ rfl
    have m3 := hcell C0.out 3 _ rfl
    have m4 := hcell C0.out 4 _ rfl
    have m5 := hcell C0.out 5 _ rfl
    have m6 := hcell C0.out 6 _ rfl
    have m7 := hcell C0.out 7 _ rfl
    have m8 := hcell C0.out 8 _ rfl
    have n1 := hcell C2.out 1 _ rfl
    have n2 := hcell C2.out 2 _ rfl
    go_wp2_with fail
    refine (HH.out now _ (HK.out.grown G2.out) (Nat.le_trans Hb.out G2.out.size)).mono ?_
    rintro e w3 ⟨x, v', rfl, hK3, hB3⟩
    have HB3 := hid ((gr_below G2.out Hb.out (by simp)).trans hB3.out)
    clear m0 m1 m2 m3 m4 m5 m6 m7 m8 n1 n2
    go_wp2_with fail
    go_ret
    exact ⟨_, rfl, hid (by rw [HRR.out]; exact hK3.out), HB3⟩
  · have hxb : (x2 != 0) = true := by simpa using hx
    have HRR : Hid (R = fs) := hid (by rw [HF.out, if_neg hx])
    clear hx
    go_wp2_with fail
    go_ret
    exact ⟨_, rfl, hid (by rw [HRR.out]; exact HK.out.grown G1.out), hid (gr_below G1.out Hb.out (by simp))⟩
/-- The document's host hears a switch, by the round's own words. -/
theorem rhear_rd {R : Rd} (hR : RdOk R) {ys : List Sd} (hs : Sorts R ys) {n : Nat} {C de wi pr qu cy : Int} (hcf : R.d.cf = ⟨(n : Int), C, de, wi, pr, qu⟩) (hcy : R.cy = cy) {k sw : Nat} (hk : k < R.l.length) (hsw : sw < 2) (h0 : 0 ≤ R.sent k) {kz : Nat} {pz yz dz : Int} (hcr : R.crew sw = kz) (hk0 : kz ≠ 0) (hhas : hasN (R.down sw) k = false) (hpt : R.pt sw = pz) (hyz : cycS R.cy (R.came sw) = yz) (hdz : nth (nthR R.d.rows k) sw = dz)
    (base : Nat) (vd ve vl v : Value) (w : World) (hal : KH w base v R.p R.E cy (R.frTo k sw)) (hbase : base ≤ w.heap.size) :
    Calls Tryz.prog 44 #[cfV ⟨(n : Int), C, de, wi, pr, qu⟩ vd ve vl, .int .i64 cy, ckV (nthC R.l k), v, .agg #[.int .i64 pz, .int .u32 (kz : Int), .int .i64 yz], .int .i64 dz, .int .i64 (sw : Int)] w fun e w' =>
      ∃ v', e = .returned v' ∧ Hid (KH w' base v' R.p R.E cy (R.frTo k (sw + 1))) ∧ Hid (Below base w w') := by
  obtain ⟨r1, r2, r3, r4⟩ := hR.row hk hsw
  obtain ⟨f1, f2⟩ := hR.frs hs k sw (by omega)
  obtain ⟨s1, s2, s3, s4⟩ := hR.span
  obtain ⟨q1, q2⟩ := hR.pcy
  obtain ⟨g1, g2⟩ := hR.crew hs sw
  have g3 := hR.pt hs sw
  have hsp : spansZ R.d.cf = true := (check_cy (cleanZ_iff.1 hR.clean.1).1).1
  have hcm : R.came sw ≠ [] := fun e => hk0 (hcr ▸ g2.2 e)
  have hyc : yz = R.cy := by
    rw [← hyz]
    unfold cycS
    rw [if_neg hcm]
  subst hyc hcr hpt hcy hdz
  rw [Rd.on_ h0 hk0 hhas]
  have := rhear20_any base R.d.cf vd ve vl v (nthC R.l k) (R.frTo k sw) R.cy R.p (R.pt sw) (nth (nthR R.d.rows k) sw) (R.crew sw) sw w hal hbase (by omega) (fun j hj e => by have := (f2 _ (nthH_mem hj)).2.1.2; omega) (hR.ck hk).2 hsp (hid rfl) q2 q1 ⟨by omega, g1⟩ hsw ⟨r3, r4⟩ g3
  rw [hcf] at this ⊢
  unfold Rd.E Rd.A
  rw [hcf]
  exact this
end Go.Proofs.YtckoaeoecjphiaaGreat
