/- RoundGoes: for every configuration, cycle, clocks and losses the law answers true: a round of any clocks, with anything lost, is as the document says, or refused. No condition. -/
import Derived.Test.YtckoaeoecjphiaaGreatK43
import Derived.Test.YtckoaeoecjphiaaGreatK44
import Derived.Test.YtckoaeoecjphiaaGreatK52
import Derived.Test.YtckoaeoecjphiaaGreatK53

/- RoundGoes: the walk. -/
namespace Go.Proofs.YtckoaeoecjphiaaGreat
open Go.RowKit Go.Lib

theorem slice_frm' {n₀ : Nat} {W : World} {sv : Value} {k n : Nat} {f : Nat → Nat → Value} (h : SliceAt n₀ W sv k n f) : ∃ a c, sv = .slice a n c := by
  rcases h with ⟨a, c, rfl, h0⟩ | ⟨_, _, c, rfl, _⟩
  · exact ⟨_, _, by rw [h0]⟩
  · exact ⟨_, _, rfl⟩
theorem told_grown {W W' : World} {R : Rd} {vs vb vh va : Value} (h : ToldAt W R vs vb vh va) (g : W.grownBy W' none) : ToldAt W' R vs vb vh va := told_kept h g (fun q hq => by cases hq) (fun q hq => by cases hq) (fun q hq => by cases hq) (fun q hq => by cases hq)
abbrev LawPost (w : World) : Ending → World → Prop := fun e w' => e = .returned (.bool true) ∧ w.grownBy w' none
set_option maxRecDepth 1000000 in
set_option maxHeartbeats 2000000 in
theorem rgoes_bad (d : Net) (vd ve vl sv : Value) (cy : Int) (l : List Ck) (y : Ls) (w : World) (hN : NetAt w.heap.size w d vd ve vl) (hs : CksAt w.heap.size w sv l) (hz : l.length * 24 ≤ 140737488351232) (hy : y.ok) (hgo : goesZ d cy l = false) :
    Calls Tryz.prog 3 #[cfV d.cf vd ve vl, .int .i64 cy, .agg #[sv, .int .u32 (y.u0 : Int), .int .u32 (y.u1 : Int), .int .u32 (y.w0 : Int), .int .u32 (y.w1 : Int)]] w (LawPost w) := by
  have HN := hid hN
  have HS := hid hs
  have Hz := hid hz
  have Hy := hid hy
  obtain ⟨a, cap, rfl⟩ := ckslice hs
  obtain ⟨n, hn⟩ : ∃ n, Hid (l.length = n) := ⟨_, hid rfl⟩
  obtain ⟨x0, x1, x2, x3⟩ := y
  obtain ⟨⟨ho, C, de, wi, pr, qu⟩, hcf⟩ : ∃ c, Hid (d.cf = c) := ⟨_, hid rfl⟩
  rw [hn.out, hcf.out]
  rw [hn.out] at HS
  clear hN hs hz hy
  obtain ⟨bx, hbx⟩ : ∃ bx, Hid (w.heap.size = bx) := ⟨_, hid rfl⟩
  have G0 := hid (gr_alloc (gr_alloc (gr_refl w none) (.cells #[.int .i64 ho, .int .i64 C, .int .i64 de, .int .i64 wi, .int .i64 pr, vd, ve, vl, .int .i64 qu] 26)) (.cells #[.slice a n cap, .int .u32 (x0 : Int), .int .u32 (x1 : Int), .int .u32 (x2 : Int), .int .u32 (x3 : Int)] 33))
  have B0 := hid (gr_heap (gr_alloc (gr_refl _ none) (.cells #[.slice a n cap, .int .u32 (x0 : Int), .int .u32 (x1 : Int), .int .u32 (x2 : Int), .int .u32 (x3 : Int)] 33)) (heap_alloc_new w (.cells #[.int .i64 ho, .int .i64 C, .int .i64 de, .int .i64 wi, .int .i64 pr, vd, ve, vl, .int .i64 qu] 26)) (by simp))
  have B1 := hid (box2 w (.cells #[.int .i64 ho, .int .i64 C, .int .i64 de, .int .i64 wi, .int .i64 pr, vd, ve, vl, .int .i64 qu] 26) (.cells #[.slice a n cap, .int .u32 (x0 : Int), .int .u32 (x1 : Int), .int .u32 (x2 : Int), .int .u32 (x3 : Int)] 33))
  rw [hbx.out] at B0 B1
  have HCK : Hid (∀ W : World, w.grownBy W none → CksAt W.heap.size W (.slice a n cap) l) := hid (fun W g => (SliceAt.grown HS.out g).wider g.size)
  have HNt : Hid (∀ W : World, w.grownBy W none → NetAt W.heap.size W d vd ve vl) := hid (fun W g => HN.out.later g)
  have HGo : Hid (∀ W : World, w.grownBy W none → Calls Tryz.prog 10 #[(.agg #[.int .i64 ho, .int .i64 C, .int .i64 de, .int .i64 wi, .int .i64 pr, vd, ve, vl, .int .i64 qu]), .int .i64 cy, .slice a n cap, (.agg #[.int .u32 (x0 : Int), .int .u32 (x1 : Int), .int .u32 (x2 : Int), .int .u32 (x3 : Int)])] W fun e w' => e = .returned (.tuple #[.agg #[.slice none 0 0, .int .u32 0, .int .u32 0, .slice none 0 0, .slice none 0 0, .slice none 0 0], .int .i64 1]) ∧ W.grownBy w' none) := hid (fun W g => by
    have H := go_bad d vd ve vl cy (.slice a n cap) l (.int .u32 (x0 : Int)) (.int .u32 (x1 : Int)) (.int .u32 (x2 : Int)) (.int .u32 (x3 : Int)) W (HNt.out _ g) (HCK.out _ g) Hz.out hgo
    rw [hcf.out] at H
    exact H)
  go_enter Tryz.func3, Tryz.ntmps3
  go_wp2_with fail
  rw [hbx.out]
  refine (fixed_true _).mono ?_
  rintro e w1 ⟨rfl, g1⟩
  have C0 := hid (gr_heap g1 B0.out (by simp))
  have C1 := hid (gr_heap g1 B1.out (by simp))
  have G1 := hid (gr_trans G0.out g1)
  clear g1 G0 B0 B1
  have k0 := hcell C0.out 0 _ rfl
  have k1 := hcell C0.out 1 _ rfl
  have k2 := hcell C0.out 2 _ rfl
  have k3 := hcell C0.out 3 _ rfl
  have k4 := hcell C0.out 4 _ rfl
  have k5 := hcell C0.out 5 _ rfl
  have k6 := hcell C0.out 6 _ rfl
  have k7 := hcell C0.out 7 _ rfl
  have k8 := hcell C0.out 8 _ rfl
  have j0 := hcell C1.out 0 _ rfl
  have j1 := hcell C1.out 1 _ rfl
  have j2 := hcell C1.out 2 _ rfl
  have j3 := hcell C1.out 3 _ rfl
  have j4 := hcell C1.out 4 _ rfl
  go_wp2_with fail
  refine (HGo.out _ G1.out).mono ?_
  rintro e w5 ⟨rfl, g5⟩
  have G5 := hid (gr_trans G1.out g5)
  have D0 := hid (gr_heap g5 C0.out (by simp))
  have D1 := hid (gr_heap g5 C1.out (by simp))
  clear g5 C0 C1 G1 k0 k1 k2 k3 k4 k5 k6 k7 k8 j0 j1 j2 j3 j4
  go_wp2_with fail
  obtain ⟨wB, hwB⟩ : ∃ wB, w5.alloc (.cells #[.slice none 0 0, .int .u32 0, .int .u32 0, .slice none 0 0, .slice none 0 0, .slice none 0 0] 38) = wB := ⟨_, rfl⟩
  have hB5 := hid (gr_alloc (gr_refl w5 none) (.cells #[.slice none 0 0, .int .u32 0, .int .u32 0, .slice none 0 0, .slice none 0 0, .slice none 0 0] 38))
  have HTB := hid (heap_alloc_new w5 (.cells #[.slice none 0 0, .int .u32 0, .int .u32 0, .slice none 0 0, .slice none 0 0, .slice none 0 0] 38))
  rw [hwB] at hB5 HTB
  rw [hwB]
  clear hwB
  have GB := hid (gr_trans G5.out hB5.out)
  obtain ⟨tb, htb⟩ : ∃ tb, Hid (w5.heap.size = tb) := ⟨_, hid rfl⟩
  rw [htb.out] at HTB
  rw [htb.out]
  have HSK : Hid (∀ W : World, wB.grownBy W none → (fun w' => w'.cell? ⟨bx, 0, none⟩ = some (.int .i64 ho) ∧ w'.cell? ⟨bx, 1, none⟩ = some (.int .i64 C) ∧ w'.cell? ⟨bx, 2, none⟩ = some (.int .i64 de) ∧ w'.cell? ⟨bx, 3, none⟩ = some (.int .i64 wi) ∧ w'.cell? ⟨bx, 4, none⟩ = some (.int .i64 pr) ∧ w'.cell? ⟨bx, 5, none⟩ = some vd ∧ w'.cell? ⟨bx, 6, none⟩ = some ve ∧ w'.cell? ⟨bx, 7, none⟩ = some vl ∧ w'.cell? ⟨bx, 8, none⟩ = some (.int .i64 qu) ∧ w'.cell? ⟨bx + 1, 0, none⟩ = some (.slice a n cap)) W) := hid (fun W g => by
    have h0 := gr_heap (gr_trans hB5.out g) D0.out (by simp)
    have h1 := gr_heap (gr_trans hB5.out g) D1.out (by simp)
    exact ⟨hcell h0 0 _ rfl, hcell h0 1 _ rfl, hcell h0 2 _ rfl, hcell h0 3 _ rfl, hcell h0 4 _ rfl, hcell h0 5 _ rfl, hcell h0 6 _ rfl, hcell h0 7 _ rfl, hcell h0 8 _ rfl, hcell h1 0 _ rfl⟩)
  have HOf : Hid (∀ W : World, w.grownBy W none → Calls Tryz.prog 12 #[.slice a n cap] W fun e w' => ∃ v, e = .returned v ∧ Hid (CksAt w'.heap.size w' v l) ∧ W.grownBy w' none) := hid (fun W g => (lawof_any _ l W (HCK.out _ g) Hz.out).mono fun e w' ⟨v, h1, h2, h3⟩ => ⟨v, h1, hid h2, h3⟩)
  have HRt : Hid (∀ (W : World) (v : Value), w.grownBy W none → CksAt W.heap.size W v l → Calls Tryz.prog 11 #[(.agg #[.int .i64 ho, .int .i64 C, .int .i64 de, .int .i64 wi, .int .i64 pr, vd, ve, vl, .int .i64 qu]), .int .i64 cy, v] W fun e w' => e = .returned (.bool false) ∧ W.grownBy w' none) := hid (fun W v g hc => by
    have H := rright20_any d vd ve vl v cy l W (HNt.out _ g) hc Hz.out
    rw [hcf.out, hgo] at H
    exact H)
  have HGo0 := hid hgo
  clear hgo
  obtain ⟨m0, m1, m2, m3, m4, m5, m6, m7, m8, m9⟩ := HSK.out wB (gr_refl wB _)
  go_region_held3 (fun w' => w'.cell? ⟨bx, 0, none⟩ = some (.int .i64 ho) ∧ w'.cell? ⟨bx, 1, none⟩ = some (.int .i64 C) ∧ w'.cell? ⟨bx, 2, none⟩ = some (.int .i64 de) ∧ w'.cell? ⟨bx, 3, none⟩ = some (.int .i64 wi) ∧ w'.cell? ⟨bx, 4, none⟩ = some (.int .i64 pr) ∧ w'.cell? ⟨bx, 5, none⟩ = some vd ∧ w'.cell? ⟨bx, 6, none⟩ = some ve ∧ w'.cell? ⟨bx, 7, none⟩ = some vl ∧ w'.cell? ⟨bx, 8, none⟩ = some (.int .i64 qu) ∧ w'.cell? ⟨bx + 1, 0, none⟩ = some (.slice a n cap))
    (first | exact HSK.out _ (gr_drew (gr_refl wB none)) | exact HSK.out _ HG7.out | exact HSK.out _ HG6.out)
    (first
      | (go_at_call 12; refine (HOf.out _ (gr_drew GB.out)).mono ?_; rintro e w6 ⟨v6, rfl, HV6, g6⟩; have HG6 : Hid (wB.grownBy w6 none) := hid (gr_trans (gr_drew (gr_refl wB none)) g6); clear g6)
      | (go_at_call 11; refine (HRt.out _ v6 (gr_trans GB.out HG6.out) HV6.out).mono ?_; rintro e w7 ⟨rfl, g7⟩; have HG7 : Hid (wB.grownBy w7 none) := hid (gr_trans HG6.out g7); clear g7)
      | fail)
  clear m0 m1 m2 m3 m4 m5 m6 m7 m8 m9
  have HT7 := gr_heap HG7.out HTB.out (by simp)
  have q0 := hcell HT7 0 _ rfl
  have q3 := hcell HT7 3 _ rfl
  have q4 := hcell HT7 4 _ rfl
  have q5 := hcell HT7 5 _ rfl
  have G7 := hid (gr_trans GB.out HG7.out)
  clear HT7
  go_wp2_with fail
  go_ret
  exact ⟨rfl, G7.out⟩
set_option maxRecDepth 1000000 in
set_option maxHeartbeats 400000 in
theorem rgoes_good (d : Net) (vd ve vl sv : Value) (cy : Int) (l : List Ck) (y : Ls) (w : World) (hN : NetAt w.heap.size w d vd ve vl) (hs : CksAt w.heap.size w sv l) (hz : l.length * 24 ≤ 140737488351232) (hy : y.ok) (hgo : goesZ d cy l = true) :
    Calls Tryz.prog 3 #[cfV d.cf vd ve vl, .int .i64 cy, .agg #[sv, .int .u32 (y.u0 : Int), .int .u32 (y.u1 : Int), .int .u32 (y.w0 : Int), .int .u32 (y.w1 : Int)]] w (LawPost w) := by
  have HN := hid hN
  have HS := hid hs
  have Hz := hid hz
  have Hy := hid hy
  obtain ⟨a, cap, rfl⟩ := ckslice hs
  obtain ⟨n, hn⟩ : ∃ n, Hid (l.length = n) := ⟨_, hid rfl⟩
  obtain ⟨x0, x1, x2, x3⟩ := y
  obtain ⟨⟨ho, C, de, wi, pr, qu⟩, hcf⟩ : ∃ c, Hid (d.cf = c) := ⟨_, hid rfl⟩
  rw [hn.out, hcf.out]
  rw [hn.out] at HS
  clear hN hs hz hy
  obtain ⟨bx, hbx⟩ : ∃ bx, Hid (w.heap.size = bx) := ⟨_, hid rfl⟩
  have G0 := hid (gr_alloc (gr_alloc (gr_refl w none) (.cells #[.int .i64 ho, .int .i64 C, .int .i64 de, .int .i64 wi, .int .i64 pr, vd, ve, vl, .int .i64 qu] 26)) (.cells #[.slice a n cap, .int .u32 (x0 : Int), .int .u32 (x1 : Int), .int .u32 (x2 : Int), .int .u32 (x3 : Int)] 33))
  have B0 := hid (gr_heap (gr_alloc (gr_refl _ none) (.cells #[.slice a n cap, .int .u32 (x0 : Int), .int .u32 (x1 : Int), .int .u32 (x2 : Int), .int .u32 (x3 : Int)] 33)) (heap_alloc_new w (.cells #[.int .i64 ho, .int .i64 C, .int .i64 de, .int .i64 wi, .int .i64 pr, vd, ve, vl, .int .i64 qu] 26)) (by simp))
  have B1 := hid (box2 w (.cells #[.int .i64 ho, .int .i64 C, .int .i64 de, .int .i64 wi, .int .i64 pr, vd, ve, vl, .int .i64 qu] 26) (.cells #[.slice a n cap, .int .u32 (x0 : Int), .int .u32 (x1 : Int), .int .u32 (x2 : Int), .int .u32 (x3 : Int)] 33))
  rw [hbx.out] at B0 B1
  have HCK : Hid (∀ W : World, w.grownBy W none → CksAt W.heap.size W (.slice a n cap) l) := hid (fun W g => (SliceAt.grown HS.out g).wider g.size)
  have HNt : Hid (∀ W : World, w.grownBy W none → NetAt W.heap.size W d vd ve vl) := hid (fun W g => HN.out.later g)
  obtain ⟨R, hR⟩ : ∃ R : Rd, Hid (R = ⟨d, cy, l, x0, x1, x2, x3⟩) := ⟨_, hid rfl⟩
  have HE : Hid (R.d.cf = ⟨ho, C, de, wi, pr, qu⟩ ∧ R.cy = cy ∧ R.u0 = x0 ∧ R.u1 = x1 ∧ R.w0 = x2 ∧ R.w1 = x3) := hid (by rw [hR.out]; exact ⟨hcf.out, rfl, rfl, rfl, rfl, rfl⟩)
  have HRok : Hid (RdOk R) := hid (by rw [hR.out]; exact ⟨hgo, Hy.out.1, Hy.out.2.1, Hy.out.2.2.1, Hy.out.2.2.2⟩)
  have hRl : Hid (R.l.length = n) := hid (by rw [hR.out]; exact hn.out)
  obtain ⟨c0, hc0⟩ : ∃ c, Hid (R.crew 0 = c) := ⟨_, hid rfl⟩
  obtain ⟨c1, hc1⟩ : ∃ c, Hid (R.crew 1 = c) := ⟨_, hid rfl⟩
  have hn6 : 0 < n ∧ n ≤ 6 := by
    have h1 := (goesZ_bd hgo).2
    rw [hn.out] at h1
    exact h1
  have hspan : Hid (spansZ d.cf = true) := hid (by
    obtain ⟨h1, _⟩ := cleanZ_iff.1 HRok.out.clean.1
    rw [hR.out] at h1
    exact (check_cy h1).1)
  obtain ⟨A, hA⟩ : ∃ A, Hid (accZ d.cf = A) := ⟨_, hid rfl⟩
  have hA0 : 0 ≤ A ∧ A ≤ 4194304 := by
    have h1 := HRok.out.EA.2
    rw [hR.out] at h1
    rw [← hA.out]
    exact h1
  have HBy : Hid (∀ j, -A ≤ R.by_ j ∧ R.by_ j ≤ A) := hid (fun j => by
    obtain ⟨ys, hys⟩ := sorts_ex R
    have h1 := HRok.out.by_ hys j
    have h2 : R.A = A := by rw [← hA.out, hR.out]
    rw [h2] at h1
    exact h1)
  have HGo : Hid (∀ W : World, w.grownBy W none → Calls Tryz.prog 10 #[(.agg #[.int .i64 ho, .int .i64 C, .int .i64 de, .int .i64 wi, .int .i64 pr, vd, ve, vl, .int .i64 qu]), .int .i64 cy, .slice a n cap, (.agg #[.int .u32 (x0 : Int), .int .u32 (x1 : Int), .int .u32 (x2 : Int), .int .u32 (x3 : Int)])] W fun e w' => ∃ ys yb yh ya, e = .returned (.tuple #[.agg #[ys, .int .u32 (c0 : Int), .int .u32 (c1 : Int), yb, yh, ya], .int .i64 0]) ∧ Hid (ToldAt w' R ys yb yh ya) ∧ Hid (W.grownBy w' none)) := hid (fun W g => by
    have H := go_ok R HRok.out vd ve vl (.slice a n cap) W (by rw [hR.out]; exact HNt.out _ g) (by rw [hR.out]; exact HCK.out _ g)
    rw [hc0.out, hc1.out, HE.out.1, HE.out.2.1, HE.out.2.2.1, HE.out.2.2.2.1, HE.out.2.2.2.2.1, HE.out.2.2.2.2.2] at H
    exact H.mono fun e w' ⟨v1, v2, v3, v4, h1, h2, h3, _⟩ => ⟨v1, v2, v3, v4, h1, h2, h3⟩)
  have HRGo : Hid (∀ (W : World) (v : Value), w.grownBy W none → CksAt W.heap.size W v l → Calls Tryz.prog 15 #[(.agg #[.int .i64 ho, .int .i64 C, .int .i64 de, .int .i64 wi, .int .i64 pr, vd, ve, vl, .int .i64 qu]), .int .i64 cy, v, .agg #[.int .u32 (x0 : Int), .int .u32 (x1 : Int)], .agg #[.int .u32 (x2 : Int), .int .u32 (x3 : Int)]] W fun e w' => ∃ ys yb yh ya, e = .returned (.agg #[ys, .int .u32 (c0 : Int), .int .u32 (c1 : Int), yb, yh, ya]) ∧ Hid (ToldAt w' R ys yb yh ya) ∧ Hid (W.grownBy w' none)) := hid (fun W v g hc => by
    have H := rgo_ok R HRok.out vd ve vl v W (by rw [hR.out]; exact HNt.out _ g) (by rw [hR.out]; exact hc)
    rw [hc0.out, hc1.out, HE.out.1, HE.out.2.1, HE.out.2.2.1, HE.out.2.2.2.1, HE.out.2.2.2.2.1, HE.out.2.2.2.2.2] at H
    exact H)
  have HAcc : Hid (∀ W : World, w.grownBy W none → Calls Tryz.prog 13 #[(.agg #[.int .i64 ho, .int .i64 C, .int .i64 de, .int .i64 wi, .int .i64 pr, vd, ve, vl, .int .i64 qu])] W fun e w' => e = .returned (.int .i64 A) ∧ W.grownBy w' none) := hid (fun W _ => by
    have H := raccept_any d.cf vd ve vl W hspan.out
    rw [hcf.out] at H
    rw [hcf.out] at hA
    rw [hA.out] at H
    exact H)
  go_enter Tryz.func3, Tryz.ntmps3
  go_wp2_with fail
  rw [hbx.out]
  refine (fixed_true _).mono ?_
  rintro e w1 ⟨rfl, g1⟩
  have C0 := hid (gr_heap g1 B0.out (by simp))
  have C1 := hid (gr_heap g1 B1.out (by simp))
  have G1 := hid (gr_trans G0.out g1)
  clear g1 G0 B0 B1
  have k0 := hcell C0.out 0 _ rfl
  have k1 := hcell C0.out 1 _ rfl
  have k2 := hcell C0.out 2 _ rfl
  have k3 := hcell C0.out 3 _ rfl
  have k4 := hcell C0.out 4 _ rfl
  have k5 := hcell C0.out 5 _ rfl
  have k6 := hcell C0.out 6 _ rfl
  have k7 := hcell C0.out 7 _ rfl
  have k8 := hcell C0.out 8 _ rfl
  have j0 := hcell C1.out 0 _ rfl
  have j1 := hcell C1.out 1 _ rfl
  have j2 := hcell C1.out 2 _ rfl
  have j3 := hcell C1.out 3 _ rfl
  have j4 := hcell C1.out 4 _ rfl
  go_wp2_with fail
  refine (HGo.out _ G1.out).mono ?_
  rintro e w5 ⟨ys, yb, yh, ya, rfl, ht, hg⟩
  have g5 := hg.out
  obtain ⟨aS, cS, e1⟩ := slice_frm' ht.out.sent
  obtain ⟨aB, cB, e2⟩ := slice_frm' ht.out.by_
  obtain ⟨aH, cH, e3⟩ := slice_frm' ht.out.hrd
  obtain ⟨aA, cA, e4⟩ := slice_frm' ht.out.aft
  rw [hRl.out] at e1 e2 e3 e4
  subst e1 e2 e3 e4
  have HT := hid ht.out
  have G5 := hid (gr_trans G1.out g5)
  have D0 := hid (gr_heap g5 C0.out (by simp))
  have D1 := hid (gr_heap g5 C1.out (by simp))
  clear g5 ht hg C0 C1 G1 k0 k1 k2 k3 k4 k5 k6 k7 k8 j0 j1 j2 j3 j4
  go_wp2_with fail
  obtain ⟨wB, hwB⟩ : ∃ wB, w5.alloc (.cells #[.slice aS n cS, .int .u32 (c0 : Int), .int .u32 (c1 : Int), .slice aB n cB, .slice aH n cH, .slice aA n cA] 38) = wB := ⟨_, rfl⟩
  have hB5 := hid (gr_alloc (gr_refl w5 none) (.cells #[.slice aS n cS, .int .u32 (c0 : Int), .int .u32 (c1 : Int), .slice aB n cB, .slice aH n cH, .slice aA n cA] 38))
  have HTB := hid (heap_alloc_new w5 (.cells #[.slice aS n cS, .int .u32 (c0 : Int), .int .u32 (c1 : Int), .slice aB n cB, .slice aH n cH, .slice aA n cA] 38))
  rw [hwB] at hB5 HTB
  rw [hwB]
  clear hwB
  have GB := hid (gr_trans G5.out hB5.out)
  obtain ⟨tb, htb⟩ : ∃ tb, Hid (w5.heap.size = tb) := ⟨_, hid rfl⟩
  rw [htb.out] at HTB
  rw [htb.out]
  have HSK : Hid (∀ W : World, wB.grownBy W none → (fun w' => w'.cell? ⟨bx, 0, none⟩ = some (.int .i64 ho) ∧ w'.cell? ⟨bx, 1, none⟩ = some (.int .i64 C) ∧ w'.cell? ⟨bx, 2, none⟩ = some (.int .i64 de) ∧ w'.cell? ⟨bx, 3, none⟩ = some (.int .i64 wi) ∧ w'.cell? ⟨bx, 4, none⟩ = some (.int .i64 pr) ∧ w'.cell? ⟨bx, 5, none⟩ = some vd ∧ w'.cell? ⟨bx, 6, none⟩ = some ve ∧ w'.cell? ⟨bx, 7, none⟩ = some vl ∧ w'.cell? ⟨bx, 8, none⟩ = some (.int .i64 qu) ∧ w'.cell? ⟨bx + 1, 0, none⟩ = some (.slice a n cap)) W) := hid (fun W g => by
    have h0 := gr_heap (gr_trans hB5.out g) D0.out (by simp)
    have h1 := gr_heap (gr_trans hB5.out g) D1.out (by simp)
    exact ⟨hcell h0 0 _ rfl, hcell h0 1 _ rfl, hcell h0 2 _ rfl, hcell h0 3 _ rfl, hcell h0 4 _ rfl, hcell h0 5 _ rfl, hcell h0 6 _ rfl, hcell h0 7 _ rfl, hcell h0 8 _ rfl, hcell h1 0 _ rfl⟩)
  have HOf : Hid (∀ W : World, w.grownBy W none → Calls Tryz.prog 12 #[.slice a n cap] W fun e w' => ∃ v, e = .returned v ∧ Hid (CksAt w'.heap.size w' v l) ∧ W.grownBy w' none) := hid (fun W g => (lawof_any _ l W (HCK.out _ g) Hz.out).mono fun e w' ⟨v, h1, h2, h3⟩ => ⟨v, h1, hid h2, h3⟩)
  have HRt : Hid (∀ (W : World) (v : Value), w.grownBy W none → CksAt W.heap.size W v l → Calls Tryz.prog 11 #[(.agg #[.int .i64 ho, .int .i64 C, .int .i64 de, .int .i64 wi, .int .i64 pr, vd, ve, vl, .int .i64 qu]), .int .i64 cy, v] W fun e w' => e = .returned (.bool true) ∧ W.grownBy w' none) := hid (fun W v g hc => by
    have H := rright20_any d vd ve vl v cy l W (HNt.out _ g) hc Hz.out
    rw [hcf.out, hgo] at H
    exact H)
  have HGo0 := hid hgo
  clear hgo
  obtain ⟨m0, m1, m2, m3, m4, m5, m6, m7, m8, m9⟩ := HSK.out wB (gr_refl wB _)
  go_region_held3 (fun w' => w'.cell? ⟨bx, 0, none⟩ = some (.int .i64 ho) ∧ w'.cell? ⟨bx, 1, none⟩ = some (.int .i64 C) ∧ w'.cell? ⟨bx, 2, none⟩ = some (.int .i64 de) ∧ w'.cell? ⟨bx, 3, none⟩ = some (.int .i64 wi) ∧ w'.cell? ⟨bx, 4, none⟩ = some (.int .i64 pr) ∧ w'.cell? ⟨bx, 5, none⟩ = some vd ∧ w'.cell? ⟨bx, 6, none⟩ = some ve ∧ w'.cell? ⟨bx, 7, none⟩ = some vl ∧ w'.cell? ⟨bx, 8, none⟩ = some (.int .i64 qu) ∧ w'.cell? ⟨bx + 1, 0, none⟩ = some (.slice a n cap))
    (first | exact HSK.out _ (gr_drew (gr_refl wB none)) | exact HSK.out _ HG7.out | exact HSK.out _ HG6.out)
    (first
      | (go_at_call 12; refine (HOf.out _ (gr_drew GB.out)).mono ?_; rintro e w6 ⟨v6, rfl, HV6, g6⟩; have HG6 : Hid (wB.grownBy w6 none) := hid (gr_trans (gr_drew (gr_refl wB none)) g6); clear g6)
      | (go_at_call 11; refine (HRt.out _ v6 (gr_trans GB.out HG6.out) HV6.out).mono ?_; rintro e w7 ⟨rfl, g7⟩; have HG7 : Hid (wB.grownBy w7 none) := hid (gr_trans HG6.out g7); clear g7)
      | fail)
  clear m0 m1 m2 m3 m4 m5 m6 m7 m8 m9
  have HT7 := gr_heap HG7.out HTB.out (by simp)
  have q3 := hcell HT7 3 _ rfl
  have G7 := hid (gr_trans GB.out HG7.out)
  have H57 := hid (gr_trans hB5.out HG7.out)
  clear HT7
  obtain ⟨bb, ob, hBc⟩ : ∃ b off, Hid (aB = some ⟨b, off, none⟩ ∧ n ≤ cB ∧ ∀ W : World, w5.grownBy W none → ∀ j, j < n → W.cell? ⟨b, off + j, none⟩ = some (.int .i64 (R.by_ j))) := by
    rcases HT.out.by_ with ⟨_, _, _, h0⟩ | ⟨b, off, c, e, h1, _, hf⟩
    · have := hRl.out; omega
    · injection e with e5 e6 e7
      rw [hRl.out] at h1 hf
      exact ⟨b, off, hid ⟨e5, by omega, fun W g j hj => by have := gr_cell g (hf j hj 0 (by omega)); rwa [Nat.mul_one, Nat.add_zero] at this⟩⟩
  obtain ⟨hab, hnc, hcb⟩ := hBc.out
  subst hab
  have HCb := hid hcb
  clear hcb hBc
  go_wp2_with fail
  go_loopw [53] (fun vi wr => ∃ k : Nat, vi = .int .i64 k ∧ k ≤ n ∧ Hid (w7.grownBy wr none)) (fun vi _ => n - (intOf vi).toNat)
  case atStart => exact ⟨0, rfl, Nat.zero_le _, hid (gr_refl w7 none)⟩
  case round =>
    obtain ⟨k, rfl, hk, HG⟩ := hrel
    have HB7 := hid (gr_trans HG7.out HG.out)
    obtain ⟨m0, m1, m2, m3, m4, m5, m6, m7, m8, m9⟩ := HSK.out wr HB7.out
    by_cases hlt : k < n
    · have hk2 : (k : Int) < (n : Int) := by omega
      have hkc : k < cB := by omega
      have b0 := HCb.out wr (gr_trans H57.out HG.out) k hlt
      obtain ⟨hz0, hz1⟩ := HBy.out k
      obtain ⟨z, hz⟩ : ∃ z, Hid (R.by_ k = z) := ⟨_, hid rfl⟩
      rw [hz.out] at b0 hz0 hz1
      obtain ⟨A0, A1⟩ := hA0
      have s1 : IntKind.i64.wrap (-A) = -A := IntWalk.i64_in _ (by omega)
      have s2 : wrap64 (-A) = -A := by unfold wrap64; omega
      have c1' : ¬ A < z := by omega
      have c2' : ¬ z < -A := by omega
      go_wp2_with fail
      refine (HAcc.out _ (gr_trans G7.out HG.out)).mono ?_
      rintro e w8 ⟨rfl, g8⟩
      have HG8 := hid (gr_trans HG.out g8)
      have HB8 := hid (gr_trans HB7.out g8)
      clear g8 m0 m1 m2 m3 m4 m5 m6 m7 m8 m9 b0
      obtain ⟨m0, m1, m2, m3, m4, m5, m6, m7, m8, m9⟩ := HSK.out w8 HB8.out
      go_wp2_with fail
      refine (HAcc.out _ (gr_trans G7.out HG8.out)).mono ?_
      rintro e w9 ⟨rfl, g9⟩
      have HG9 := hid (gr_trans HG8.out g9)
      clear g9 m0 m1 m2 m3 m4 m5 m6 m7 m8 m9
      go_wp2_with fail
      go_roundw
      case rel => exact ⟨k + 1, by go_num, by omega, HG9⟩
      case measure => simp [intOf]; omega
    · obtain rfl : k = n := by omega
      clear hlt
      have GR := hid (gr_trans G7.out HG.out)
      have HTr := hid (gr_heap HB7.out HTB.out (by simp))
      have HTo := hid (told_grown HT.out (gr_trans H57.out HG.out))
      have HSR : Hid (∀ W : World, wr.grownBy W none → (fun w' => w'.cell? ⟨bx, 0, none⟩ = some (.int .i64 ho) ∧ w'.cell? ⟨bx, 1, none⟩ = some (.int .i64 C) ∧ w'.cell? ⟨bx, 2, none⟩ = some (.int .i64 de) ∧ w'.cell? ⟨bx, 3, none⟩ = some (.int .i64 wi) ∧ w'.cell? ⟨bx, 4, none⟩ = some (.int .i64 pr) ∧ w'.cell? ⟨bx, 5, none⟩ = some vd ∧ w'.cell? ⟨bx, 6, none⟩ = some ve ∧ w'.cell? ⟨bx, 7, none⟩ = some vl ∧ w'.cell? ⟨bx, 8, none⟩ = some (.int .i64 qu) ∧ w'.cell? ⟨bx + 1, 0, none⟩ = some (.slice a k cap) ∧ w'.cell? ⟨bx + 1, 1, none⟩ = some (.int .u32 (x0 : Int)) ∧ w'.cell? ⟨bx + 1, 2, none⟩ = some (.int .u32 (x1 : Int)) ∧ w'.cell? ⟨bx + 1, 3, none⟩ = some (.int .u32 (x2 : Int)) ∧ w'.cell? ⟨bx + 1, 4, none⟩ = some (.int .u32 (x3 : Int)) ∧ w'.cell? ⟨tb, 0, none⟩ = some (.slice aS k cS) ∧ w'.cell? ⟨tb, 1, none⟩ = some (.int .u32 (c0 : Int)) ∧ w'.cell? ⟨tb, 2, none⟩ = some (.int .u32 (c1 : Int)) ∧ w'.cell? ⟨tb, 3, none⟩ = some (.slice (some ⟨bb, ob, none⟩) k cB) ∧ w'.cell? ⟨tb, 4, none⟩ = some (.slice aH k cH) ∧ w'.cell? ⟨tb, 5, none⟩ = some (.slice aA k cA)) W) := hid (fun W g => by
        have h0 := gr_heap (gr_trans hB5.out (gr_trans HB7.out g)) D0.out (by simp)
        have h1 := gr_heap (gr_trans hB5.out (gr_trans HB7.out g)) D1.out (by simp)
        have h2 := gr_heap g HTr.out (by simp)
        exact ⟨hcell h0 0 _ rfl, hcell h0 1 _ rfl, hcell h0 2 _ rfl, hcell h0 3 _ rfl, hcell h0 4 _ rfl, hcell h0 5 _ rfl, hcell h0 6 _ rfl, hcell h0 7 _ rfl, hcell h0 8 _ rfl, hcell h1 0 _ rfl, hcell h1 1 _ rfl, hcell h1 2 _ rfl, hcell h1 3 _ rfl, hcell h1 4 _ rfl, hcell h2 0 _ rfl, hcell h2 1 _ rfl, hcell h2 2 _ rfl, hcell h2 3 _ rfl, hcell h2 4 _ rfl, hcell h2 5 _ rfl⟩)
      have HSame : Hid (∀ (W : World) (v1 v2 v3 v4 : Value), wr.grownBy W none → ToldAt W R v1 v2 v3 v4 → Calls Tryz.prog 14 #[.agg #[.slice aS k cS, .int .u32 (c0 : Int), .int .u32 (c1 : Int), .slice (some ⟨bb, ob, none⟩) k cB, .slice aH k cH, .slice aA k cA], .agg #[v1, .int .u32 (c0 : Int), .int .u32 (c1 : Int), v2, v3, v4]] W fun e w' => e = .returned (.bool true) ∧ W.grownBy w' none) := hid (fun W v1 v2 v3 v4 g h => same_any R _ _ _ _ v1 v2 v3 v4 c0 c1 W (told_grown HTo.out g) h (by rw [hRl.out]; omega) (by rw [hRl.out]; omega))
      clear m0 m1 m2 m3 m4 m5 m6 m7 m8 m9
      obtain ⟨m0, m1, m2, m3, m4, m5, m6, m7, m8, m9, m10, m11, m12, m13, m14, m15, m16, m17, m18, m19⟩ := HSR.out wr (gr_refl wr _)
      go_wp2_with fail
      go_region_held3 (fun w' => w'.cell? ⟨bx, 0, none⟩ = some (.int .i64 ho) ∧ w'.cell? ⟨bx, 1, none⟩ = some (.int .i64 C) ∧ w'.cell? ⟨bx, 2, none⟩ = some (.int .i64 de) ∧ w'.cell? ⟨bx, 3, none⟩ = some (.int .i64 wi) ∧ w'.cell? ⟨bx, 4, none⟩ = some (.int .i64 pr) ∧ w'.cell? ⟨bx, 5, none⟩ = some vd ∧ w'.cell? ⟨bx, 6, none⟩ = some ve ∧ w'.cell? ⟨bx, 7, none⟩ = some vl ∧ w'.cell? ⟨bx, 8, none⟩ = some (.int .i64 qu) ∧ w'.cell? ⟨bx + 1, 0, none⟩ = some (.slice a k cap) ∧ w'.cell? ⟨bx + 1, 1, none⟩ = some (.int .u32 (x0 : Int)) ∧ w'.cell? ⟨bx + 1, 2, none⟩ = some (.int .u32 (x1 : Int)) ∧ w'.cell? ⟨bx + 1, 3, none⟩ = some (.int .u32 (x2 : Int)) ∧ w'.cell? ⟨bx + 1, 4, none⟩ = some (.int .u32 (x3 : Int)) ∧ w'.cell? ⟨tb, 0, none⟩ = some (.slice aS k cS) ∧ w'.cell? ⟨tb, 1, none⟩ = some (.int .u32 (c0 : Int)) ∧ w'.cell? ⟨tb, 2, none⟩ = some (.int .u32 (c1 : Int)) ∧ w'.cell? ⟨tb, 3, none⟩ = some (.slice (some ⟨bb, ob, none⟩) k cB) ∧ w'.cell? ⟨tb, 4, none⟩ = some (.slice aH k cH) ∧ w'.cell? ⟨tb, 5, none⟩ = some (.slice aA k cA))
        (first | exact HSR.out _ (gr_drew (gr_refl wr none)) | exact HSR.out _ HGc.out | exact HSR.out _ HGb.out | exact HSR.out _ HGa.out)
        (first
          | (go_at_call 12; refine (HOf.out _ (gr_drew GR.out)).mono ?_; rintro e wa ⟨va, rfl, HVa, ga⟩; have HGa : Hid (wr.grownBy wa none) := hid (gr_trans (gr_drew (gr_refl wr none)) ga); clear ga)
          | (go_at_call 15; refine (HRGo.out _ va (gr_trans GR.out HGa.out) HVa.out).mono ?_; rintro e wb ⟨v1, v2, v3, v4, rfl, HVb, gb⟩; have HGb : Hid (wr.grownBy wb none) := hid (gr_trans HGa.out gb.out); clear gb)
          | (go_at_call 14; refine (HSame.out _ v1 v2 v3 v4 HGb.out HVb.out).mono ?_; rintro e wc ⟨rfl, gc⟩; have HGc : Hid (wr.grownBy wc none) := hid (gr_trans HGb.out gc); clear gc)
          | fail)
      go_wp2_with fail
      go_ret
      exact ⟨rfl, gr_trans GR.out HGc.out⟩
theorem rgoes_any (d : Net) (vd ve vl sv : Value) (cy : Int) (l : List Ck) (y : Ls) (w : World) (hN : NetAt w.heap.size w d vd ve vl) (hs : CksAt w.heap.size w sv l) (hz : l.length * 24 ≤ 140737488351232) (hy : y.ok) :
    Calls Tryz.prog 3 #[cfV d.cf vd ve vl, .int .i64 cy, .agg #[sv, .int .u32 (y.u0 : Int), .int .u32 (y.u1 : Int), .int .u32 (y.w0 : Int), .int .u32 (y.w1 : Int)]] w (LawPost w) := by
  cases hgo : goesZ d cy l with
  | true => exact rgoes_good d vd ve vl sv cy l y w hN hs hz hy hgo
  | false => exact rgoes_bad d vd ve vl sv cy l y w hN hs hz hy hgo
end Go.Proofs.YtckoaeoecjphiaaGreat

/- RoundGoes: for every configuration, cycle, clocks and losses the law answers true: a round of any clocks, with anything lost, is as the document says, or refused. No condition. -/
namespace Go.Proofs.YtckoaeoecjphiaaGreat
open Go.ChangeShapes Go.WideShapes Go.ChangeAt Go.RowKit
open Go.ChangeMaps (open_string shut_string)
set_option linter.unusedVariables false

theorem goes_all (d : Net) (vd ve vl : Value) {w : World} (hN : NetAt w.heap.size w d vd ve vl) (cy : Int) (_ : -9223372036854775808 ≤ cy ∧ cy ≤ 9223372036854775807) (sv : Value) (l : List Ck) (y : Ls) (hs : CksAt w.heap.size w sv l) (hz : l.length * 24 ≤ 140737488351232) (hy : y.ok) :
    Calls Tryz.prog 3 #[cfV d.cf vd ve vl, .int .i64 cy, caseV sv y] w fun e w' => e = .returned (.bool true) ∧ Below w.heap.size w w' :=
  (rgoes_any d vd ve vl sv cy l y w hN hs hz hy).mono fun e w' h => ⟨h.1, gr_below h.2 (Nat.le_refl _) (by simp)⟩

set_option maxRecDepth 100000 in
theorem roundGoes_lifted (os : Os) (started : os.Started) (H : Type) (enc : TypeId × Value → H) :
    ReturnsInHanded {} Tryz.checked os 3 .any (Rows.roundGoesSpec.pre6 enc Tryz.prog Tryz.f3 Rows.roundGoesRow.domain false) (Rows.roundGoesSpec.post enc Tryz.prog Tryz.f3 false true false false) := by
  refine returnsInHanded_of_change_sized (C := Tryz.checked) own_none started (by kernel_rfl) Tryz.func3
    (ChangeSpec.witness6 (enc := enc) (C := Tryz.checked) false ⟨#[], #[.agg #[.int .i64 0, .int .i64 0, .int .i64 0, .int .i64 0, .int .i64 0, .slice none 0 0, .slice none 0 0, .slice none 0 0, .int .i64 0], .int .i64 0, .agg #[.slice none 0 0, .int .u32 0, .int .u32 0, .int .u32 0, .int .u32 0]], []⟩ 8 (by kernel_rfl) (by kernel_rfl) (by kernel_rfl) (by kernel_rfl)) ?_
  intro W base args ds gs before hval0 hW hcnd hsz0 _
  have hsz : (DataW.weightsEach Tryz.prog (Tryz.f3.params.toList ++ Rows.roundGoesSpec.plain.varTypes Tryz.prog) (ds ++ gs)).all (· ≤ reachBytes) = true := hsz0
  clear hsz0
  have hval : ∀ (j : Nat) t v, Tryz.f3.params[j]? = some t → args[j]? = some v → Value.okWide Tryz.prog W .any base t v := hval0
  have hW' := hW
  obtain ⟨p, q, hA0, hV, rfl, hfz, hnd⟩ := hW
  have hA : DataW.TrodAll enc Tryz.prog W 0 (fun _ => true) true Tryz.f3.params.toList args.toList ds p := hA0
  rw [Tryz.params3] at hA hval hsz
  obtain ⟨v0, vs0, d0, ds0, p0, q0, hargs, rfl, rfl, h0, r0⟩ := trodAll_cons hA
  obtain ⟨v1, vs1, d1, ds1, p1, q1, rfl, rfl, rfl, h1, r1⟩ := trodAll_cons r0
  obtain ⟨v2, vs2, d2, ds2, p2, q2, rfl, rfl, rfl, h2, r2⟩ := trodAll_cons r1
  obtain ⟨rfl, rfl, rfl⟩ := trodAll_nil r2
  obtain rfl : args = #[v0, v1, v2] := by cases args; simp_all
  obtain ⟨rfl, rfl⟩ := trodVars_none hV
  have k0 := h0
  have lt0 : ∀ x ∈ p0, x.block < W.heap.size := by obtain ⟨m, hm⟩ := k0; exact DataW.trod_lt m _ _ _ hm
  have k1 := h1
  have lt1 : ∀ x ∈ p1, x.block < W.heap.size := by obtain ⟨m, hm⟩ := k1; exact DataW.trod_lt m _ _ _ hm
  have k2 := h2
  have lt2 : ∀ x ∈ p2, x.block < W.heap.size := by obtain ⟨m, hm⟩ := k2; exact DataW.trod_lt m _ _ _ hm
  obtain ⟨D0, vd0, ve0, vl0, rfl, N0⟩ := open_config (hval 0 26 v0 rfl rfl) h0 (within_arg hsz (j := 0) rfl rfl)
  obtain ⟨a1, rfl, b1⟩ := open_i64 Tryz.underlying2 (hval 1 2 v1 rfl rfl) h1
  obtain ⟨sv2, l2, y2, rfl, ck2, z2, ok2⟩ := open_case (hval 2 33 v2 rfl rfl) h2 (within_arg hsz (j := 2) rfl rfl)
  clear hA0 hval0
  refine (goes_all D0 vd0 ve0 vl0 N0 a1 b1 sv2 l2 y2 ck2 z2 ok2).mono fun e W' ⟨he, bel⟩ => ?_
  subst he
  exact ⟨_, rfl, _, _, _, [], _, [], hW', trodAll_mk1 (shut_bool Tryz.underlying4 _), (trodAll_cons_mk (Below.trod laid_out (by kernel_rfl) (of_decide_eq_true (by kernel_rfl)) k0 bel lt0) (trodAll_cons_mk (Below.trod laid_out (by kernel_rfl) (of_decide_eq_true (by kernel_rfl)) k1 bel lt1) (trodAll_cons_mk (Below.trod laid_out (by kernel_rfl) (of_decide_eq_true (by kernel_rfl)) k2 bel lt2) trodAll_mk0))), rfl, bel.frame _, fun h => by cases h⟩

theorem roundGoes_holds : Rows.RoundGoesSaid :=
  OpenClaim.holds_of_wide 3 Tryz.f3 rfl rfl rfl rfl rfl rfl rfl ⟨rfl, rfl, rfl, rfl, rfl⟩ rfl rfl rfl rfl rfl (by kernel_rfl) Tryz.func3 (by kernel_rfl)
    (of_decide_eq_true (by kernel_rfl)) (by unfold Func.isWrapper; rw [if_neg (of_decide_eq_false (by kernel_rfl))]; exact ⟨rfl, rfl⟩)
    (fun os started H enc _ => roundGoes_lifted os started H enc)

#print axioms roundGoes_holds
end Go.Proofs.YtckoaeoecjphiaaGreat
