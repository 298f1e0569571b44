/- RoundOnce: for every configuration, clocks and losses the law answers true: two rounds by two calls, or by one run, tell the same. No condition. -/
import Derived.Test.YtckoaeoecjphiaaGreatK43
import Derived.Test.YtckoaeoecjphiaaGreatK44
import Derived.Test.YtckoaeoecjphiaaGreatK52
import Derived.Test.YtckoaeoecjphiaaGreatK53

/- What the laws' walks share (a copy of RLaw1's beginning, for a claim of its own). -/
namespace Go.Proofs.YtckoaeoecjphiaaGreat
open Go.RowKit Go.Lib

theorem slice_frm' {n₀ : Nat} {W : World} {sv : Value} {k n : Nat} {f : Nat → Nat → Value} (h : SliceAt n₀ W sv k n f) : ∃ a c, sv = .slice a n c := by
  rcases h with ⟨a, c, rfl, h0⟩ | ⟨_, _, c, rfl, _⟩
  · exact ⟨_, _, by rw [h0]⟩
  · exact ⟨_, _, rfl⟩
theorem told_grown {W W' : World} {R : Rd} {vs vb vh va : Value} (h : ToldAt W R vs vb vh va) (g : W.grownBy W' none) : ToldAt W' R vs vb vh va := told_kept h g (fun q hq => by cases hq) (fun q hq => by cases hq) (fun q hq => by cases hq) (fun q hq => by cases hq)
abbrev LawPost (w : World) : Ending → World → Prop := fun e w' => e = .returned (.bool true) ∧ w.grownBy w' none
end Go.Proofs.YtckoaeoecjphiaaGreat

/- The document's round, for a claim of its own. -/

/- RoundOnce: the walk. -/
namespace Go.Proofs.YtckoaeoecjphiaaGreat
open Go.RowKit Go.Lib

theorem two_ls (W : World) (x0 x1 x2 x3 : Nat) (q0 : Nat) (hq0 : W.heap.size = q0) : LsAt (W.alloc (.cells #[.int .u32 (x0 : Int), .int .u32 (x1 : Int), .int .u32 (x2 : Int), .int .u32 (x3 : Int), .int .u32 0, .int .u32 0, .int .u32 0, .int .u32 0] 31)).heap.size (W.alloc (.cells #[.int .u32 (x0 : Int), .int .u32 (x1 : Int), .int .u32 (x2 : Int), .int .u32 (x3 : Int), .int .u32 0, .int .u32 0, .int .u32 0, .int .u32 0] 31)) (.slice (some ⟨q0, 0, none⟩) 2 2) [⟨x0, x1, x2, x3⟩, ⟨0, 0, 0, 0⟩] := by
  subst hq0
  have h := heap_alloc_new W (.cells #[.int .u32 (x0 : Int), .int .u32 (x1 : Int), .int .u32 (x2 : Int), .int .u32 (x3 : Int), .int .u32 0, .int .u32 0, .int .u32 0, .int .u32 0] 31)
  refine .inr ⟨W.heap.size, 0, 2, rfl, Nat.le_refl _, by simp, fun j hj i hi => ?_⟩
  have hj2 : j < 2 := hj
  match j, hj2, i, hi with
  | 0, _, 0, _ => exact hcell h 0 _ rfl
  | 0, _, 1, _ => exact hcell h 1 _ rfl
  | 0, _, 2, _ => exact hcell h 2 _ rfl
  | 0, _, 3, _ => exact hcell h 3 _ rfl
  | 1, _, 0, _ => exact hcell h 4 _ rfl
  | 1, _, 1, _ => exact hcell h 5 _ rfl
  | 1, _, 2, _ => exact hcell h 6 _ rfl
  | 1, _, 3, _ => exact hcell h 7 _ rfl
/-- How two rounds end. -/
theorem ends_two {d : Net} {fr : Int} {l : List Ck} {xs : List Ls} {k : Nat} {er : Int} (h : RunEnds d fr l xs k er) (hx : xs.length = 2) :
    (goesZ d (fr + ((0 : Nat) : Int)) (clsAt d fr l xs 0) = false → k = 0 ∧ er = 1) ∧ (goesZ d (fr + ((0 : Nat) : Int)) (clsAt d fr l xs 0) = true → goesZ d (fr + ((1 : Nat) : Int)) (clsAt d fr l xs 1) = false → k = 1 ∧ er = 1) ∧ (goesZ d (fr + ((0 : Nat) : Int)) (clsAt d fr l xs 0) = true → goesZ d (fr + ((1 : Nat) : Int)) (clsAt d fr l xs 1) = true → k = 2 ∧ er = 0) := by
  have hle := h.le
  have hg := h.goes
  rcases h.fin with ⟨_, hk, he⟩ | ⟨he, hk⟩
  · refine ⟨fun h0 => ?_, fun _ h1 => ?_, fun _ _ => ⟨by omega, he⟩⟩
    · have := hg 0 (by omega); rw [h0] at this; cases this
    · have := hg 1 (by omega); rw [h1] at this; cases this
  · rcases hk with ⟨h32, _⟩ | ⟨_, hlt, hbad⟩
    · omega
    · have hk2 : k = 0 ∨ k = 1 := by omega
      rcases hk2 with rfl | rfl
      · exact ⟨fun _ => ⟨rfl, he⟩, fun h0 => (by rw [hbad] at h0; cases h0), fun h0 => (by rw [hbad] at h0; cases h0)⟩
      · refine ⟨fun h0 => ?_, fun _ _ => ⟨rfl, he⟩, fun _ h1 => (by rw [hbad] at h1; cases h1)⟩
        have := hg 0 (by omega); rw [h0] at this; cases this
/-- A slice of three cells an element: where its cells lie. -/
theorem slice3 {n₀ : Nat} {W : World} {a : Option Addr} {n c : Nat} {g : Nat → Nat → Value} (h : SliceAt n₀ W (.slice a n c) 3 n g) (h0 : 0 < n) : ∃ b off, a = some ⟨b, off, none⟩ ∧ n ≤ c ∧ ∀ W' : World, W.grownBy W' none → ∀ j, j < n → W'.cell? ⟨b, off + j * 3, none⟩ = some (g j 0) ∧ W'.cell? ⟨b, off + j * 3 + 1, none⟩ = some (g j 1) ∧ W'.cell? ⟨b, off + j * 3 + 2, none⟩ = some (g j 2) := by
  rcases h with ⟨_, _, _, h9⟩ | ⟨b, off, cap, e, h1, _, hf⟩
  · omega
  · injection e with e5 e6 e7
    exact ⟨b, off, e5, by omega, fun W' g' j hj => ⟨gr_cell g' (hf j hj 0 (by omega)), gr_cell g' (hf j hj 1 (by omega)), gr_cell g' (hf j hj 2 (by omega))⟩⟩

set_option maxRecDepth 1000000 in
set_option maxHeartbeats 1000000 in
theorem ronce_any (d : Net) (vd ve vl sv : Value) (l : List Ck) (y : Ls) (w : World) (hN : NetAt w.heap.size w d vd ve vl) (hs : CksAt w.heap.size w sv l) (hz : l.length * 24 ≤ 140737488351232) (hy : y.ok) :
    Calls Tryz.prog 8 #[cfV d.cf vd ve vl, .agg #[sv, .int .u32 (y.u0 : Int), .int .u32 (y.u1 : Int), .int .u32 (y.w0 : Int), .int .u32 (y.w1 : Int)]] w (LawPost w) := by
  have HN := hid hN
  have HS := hid hs
  have Hz := hid hz
  have Hy := hid hy
  obtain ⟨a, cap, rfl⟩ := ckslice hs
  obtain ⟨n, hn⟩ : ∃ n, Hid (l.length = n) := ⟨_, hid rfl⟩
  obtain ⟨x0, x1, x2, x3⟩ := y
  obtain ⟨⟨ho, C, de, wi, pr, qu⟩, hcf⟩ : ∃ c, Hid (d.cf = c) := ⟨_, hid rfl⟩
  rw [hn.out, hcf.out]
  rw [hn.out] at HS
  clear hN hs hz hy
  obtain ⟨bx, hbx⟩ : ∃ bx, Hid (w.heap.size = bx) := ⟨_, hid rfl⟩
  have G0 := hid (gr_alloc (gr_alloc (gr_refl w none) (.cells #[.int .i64 ho, .int .i64 C, .int .i64 de, .int .i64 wi, .int .i64 pr, vd, ve, vl, .int .i64 qu] 26)) (.cells #[.slice a n cap, .int .u32 (x0 : Int), .int .u32 (x1 : Int), .int .u32 (x2 : Int), .int .u32 (x3 : Int)] 33))
  have B0 := hid (gr_heap (gr_alloc (gr_refl _ none) (.cells #[.slice a n cap, .int .u32 (x0 : Int), .int .u32 (x1 : Int), .int .u32 (x2 : Int), .int .u32 (x3 : Int)] 33)) (heap_alloc_new w (.cells #[.int .i64 ho, .int .i64 C, .int .i64 de, .int .i64 wi, .int .i64 pr, vd, ve, vl, .int .i64 qu] 26)) (by simp))
  have B1 := hid (box2 w (.cells #[.int .i64 ho, .int .i64 C, .int .i64 de, .int .i64 wi, .int .i64 pr, vd, ve, vl, .int .i64 qu] 26) (.cells #[.slice a n cap, .int .u32 (x0 : Int), .int .u32 (x1 : Int), .int .u32 (x2 : Int), .int .u32 (x3 : Int)] 33))
  rw [hbx.out] at B0 B1
  have HCK : Hid (∀ W : World, w.grownBy W none → CksAt W.heap.size W (.slice a n cap) l) := hid (fun W g => (SliceAt.grown HS.out g).wider g.size)
  have HNt : Hid (∀ W : World, w.grownBy W none → NetAt W.heap.size W d vd ve vl) := hid (fun W g => HN.out.later g)
  obtain ⟨xs, hxs⟩ : ∃ xs : List Ls, Hid (xs = [⟨x0, x1, x2, x3⟩, ⟨0, 0, 0, 0⟩]) := ⟨_, hid rfl⟩
  have hx2 : Hid (xs.length = 2) := hid (by rw [hxs.out]; rfl)
  have hxok : Hid (∀ x ∈ xs, x.ok) := hid (by
    rw [hxs.out]
    intro x hx
    simp only [List.mem_cons, List.not_mem_nil, or_false] at hx
    rcases hx with rfl | rfl
    · exact Hy.out
    · exact ⟨by decide, by decide, by decide, by decide⟩)
  obtain ⟨R0, hR0⟩ : ∃ R : Rd, Hid (rdAt d 2 l xs 0 = R) := ⟨_, hid rfl⟩
  obtain ⟨R1, hR1⟩ : ∃ R : Rd, Hid (rdAt d 2 l xs 1 = R) := ⟨_, hid rfl⟩
  have hE0 : Hid (R0 = ⟨d, 2, l, x0, x1, x2, x3⟩) := hid (by rw [← hR0.out, hxs.out]; rfl)
  have hE1 : Hid (R1 = ⟨d, 3, aftL R0, 0, 0, 0, 0⟩) := hid (by rw [← hR1.out, ← hR0.out, hxs.out]; rfl)
  have hg0 : Hid (goesZ d (2 + ((0 : Nat) : Int)) (clsAt d 2 l xs 0) = goesZ d 2 l) := hid rfl
  have hg1 : Hid (goesZ d (2 + ((1 : Nat) : Int)) (clsAt d 2 l xs 1) = goesZ d 3 (aftL R0)) := hid (by rw [← hR0.out]; rfl)
  have F0 : Hid (R0.d.cf = ⟨ho, C, de, wi, pr, qu⟩ ∧ R0.cy = 2 ∧ R0.u0 = x0 ∧ R0.u1 = x1 ∧ R0.w0 = x2 ∧ R0.w1 = x3) := hid (by rw [hE0.out]; exact ⟨hcf.out, rfl, rfl, rfl, rfl, rfl⟩)
  have F1 : Hid (R1.d.cf = ⟨ho, C, de, wi, pr, qu⟩ ∧ R1.cy = 3 ∧ R1.u0 = 0 ∧ R1.u1 = 0 ∧ R1.w0 = 0 ∧ R1.w1 = 0) := hid (by rw [hE1.out]; exact ⟨hcf.out, rfl, rfl, rfl, rfl, rfl⟩)
  have l0 : Hid (R0.l.length = n) := hid (by rw [hE0.out]; exact hn.out)
  have l1 : Hid (R1.l.length = n) := hid (by rw [hE1.out]; show (aftL R0).length = n; rw [aftL_len]; exact l0.out)
  have HRun : Hid (∀ (W : World) (lv : Value), w.grownBy W none → LsAt W.heap.size W lv xs → Calls Tryz.prog 22 #[(.agg #[.int .i64 ho, .int .i64 C, .int .i64 de, .int .i64 wi, .int .i64 pr, vd, ve, vl, .int .i64 qu]), .int .i64 2, .slice a n cap, lv] W fun e w' => ∃ (k : Nat) (er : Int) (vo : Value) (vs vb vh va : Nat → Value), e = .returned (.tuple #[vo, .int .i64 er]) ∧ Hid (RunEnds d 2 l xs k er) ∧ Hid (SliceAt w'.heap.size w' vo 6 k (toldF d 2 l xs vs vb vh va)) ∧ Hid (∀ j, j < k → ToldAt w' (rdAt d 2 l xs j) (vs j) (vb j) (vh j) (va j)) ∧ Hid (W.grownBy w' none)) := hid (fun W lv g hl => by
    have H := run_any d vd ve vl 2 (.slice a n cap) lv l xs W (HNt.out _ g) (HCK.out _ g) Hz.out hl hxok.out ⟨by omega, by omega⟩
    rw [hcf.out] at H
    exact H)
  go_enter Tryz.func8, Tryz.ntmps8
  go_wp2_with fail
  rw [hbx.out]
  refine (fixed_true _).mono ?_
  rintro e w1 ⟨rfl, g1⟩
  have C0 := hid (gr_heap g1 B0.out (by simp))
  have C1 := hid (gr_heap g1 B1.out (by simp))
  have G1 := hid (gr_trans G0.out g1)
  clear g1 G0 B0 B1
  have k0 := hcell C0.out 0 _ rfl
  have k1 := hcell C0.out 1 _ rfl
  have k2 := hcell C0.out 2 _ rfl
  have k3 := hcell C0.out 3 _ rfl
  have k4 := hcell C0.out 4 _ rfl
  have k5 := hcell C0.out 5 _ rfl
  have k6 := hcell C0.out 6 _ rfl
  have k7 := hcell C0.out 7 _ rfl
  have k8 := hcell C0.out 8 _ rfl
  have j0 := hcell C1.out 0 _ rfl
  have j1 := hcell C1.out 1 _ rfl
  have j2 := hcell C1.out 2 _ rfl
  have j3 := hcell C1.out 3 _ rfl
  have j4 := hcell C1.out 4 _ rfl
  have HLs := hid (two_ls w1 x0 x1 x2 x3 w1.heap.size rfl)
  have GL := hid (gr_alloc (gr_refl w1 none) (.cells #[.int .u32 (x0 : Int), .int .u32 (x1 : Int), .int .u32 (x2 : Int), .int .u32 (x3 : Int), .int .u32 0, .int .u32 0, .int .u32 0, .int .u32 0] 31))
  rw [← hxs.out] at HLs
  go_wp2_with fail
  refine (HRun.out _ _ (gr_trans G1.out GL.out) HLs.out).mono ?_
  rintro e w2 ⟨k, er, vo, vs, vb, vh, va, rfl, HEnd, HVo, HTl, H2⟩
  have G2 := hid (gr_trans G1.out (gr_trans GL.out H2.out))
  have D0 := hid (gr_heap (gr_trans GL.out H2.out) C0.out (by simp))
  have D1 := hid (gr_heap (gr_trans GL.out H2.out) C1.out (by simp))
  obtain ⟨aV, cV, rfl⟩ := slice_frm' HVo.out
  have hends := ends_two HEnd.out hx2.out
  rw [hg0.out, hg1.out] at hends
  have Hends := hid hends
  clear hends C0 C1 G1 GL HLs k0 k1 k2 k3 k4 k5 k6 k7 k8 j0 j1 j2 j3 j4 H2
  have k0 := hcell D0.out 0 _ rfl
  have k1 := hcell D0.out 1 _ rfl
  have k2 := hcell D0.out 2 _ rfl
  have k3 := hcell D0.out 3 _ rfl
  have k4 := hcell D0.out 4 _ rfl
  have k5 := hcell D0.out 5 _ rfl
  have k6 := hcell D0.out 6 _ rfl
  have k7 := hcell D0.out 7 _ rfl
  have k8 := hcell D0.out 8 _ rfl
  have j0 := hcell D1.out 0 _ rfl
  have j1 := hcell D1.out 1 _ rfl
  have j2 := hcell D1.out 2 _ rfl
  have j3 := hcell D1.out 3 _ rfl
  have j4 := hcell D1.out 4 _ rfl
  cases hgo : goesZ d 2 l with
  | false =>
    obtain ⟨rfl, rfl⟩ := Hends.out.1 hgo
    have HGo : Hid (Calls Tryz.prog 10 #[(.agg #[.int .i64 ho, .int .i64 C, .int .i64 de, .int .i64 wi, .int .i64 pr, vd, ve, vl, .int .i64 qu]), .int .i64 2, .slice a n cap, (.agg #[.int .u32 (x0 : Int), .int .u32 (x1 : Int), .int .u32 (x2 : Int), .int .u32 (x3 : Int)])] w2 fun e w' => e = .returned (.tuple #[.agg #[.slice none 0 0, .int .u32 0, .int .u32 0, .slice none 0 0, .slice none 0 0, .slice none 0 0], .int .i64 1]) ∧ w2.grownBy w' none) := hid (by
      have H := go_bad d vd ve vl 2 (.slice a n cap) l (.int .u32 (x0 : Int)) (.int .u32 (x1 : Int)) (.int .u32 (x2 : Int)) (.int .u32 (x3 : Int)) w2 (HNt.out _ G2.out) (HCK.out _ G2.out) Hz.out hgo
      rw [hcf.out] at H
      exact H)
    clear hgo
    go_wp2_with fail
    refine HGo.out.mono ?_
    rintro e w3 ⟨rfl, g3⟩
    have G3 := hid (gr_alloc (gr_trans G2.out g3) (.cells #[.slice none 0 0, .int .u32 0, .int .u32 0, .slice none 0 0, .slice none 0 0, .slice none 0 0] 38))
    clear g3 k0 k1 k2 k3 k4 k5 k6 k7 k8 j0 j1 j2 j3 j4
    go_wp2_with fail
    go_ret
    exact ⟨rfl, G3.out⟩
  | true =>
    have HR0 : Hid (RdOk R0) := hid (by rw [hE0.out]; exact ⟨hgo, Hy.out.1, Hy.out.2.1, Hy.out.2.2.1, Hy.out.2.2.2⟩)
    have hn0 : 0 < n ∧ n ≤ 6 := by have := (goesZ_bd hgo).2; rwa [hn.out] at this
    obtain ⟨c00, hc00⟩ : ∃ c, Hid (R0.crew 0 = c) := ⟨_, hid rfl⟩
    obtain ⟨c10, hc10⟩ : ∃ c, Hid (R0.crew 1 = c) := ⟨_, hid rfl⟩
    have HGo : Hid (Calls Tryz.prog 10 #[(.agg #[.int .i64 ho, .int .i64 C, .int .i64 de, .int .i64 wi, .int .i64 pr, vd, ve, vl, .int .i64 qu]), .int .i64 2, .slice a n cap, (.agg #[.int .u32 (x0 : Int), .int .u32 (x1 : Int), .int .u32 (x2 : Int), .int .u32 (x3 : Int)])] w2 fun e w' => ∃ ys yb yh ya, e = .returned (.tuple #[.agg #[ys, .int .u32 (c00 : Int), .int .u32 (c10 : Int), yb, yh, ya], .int .i64 0]) ∧ Hid (ToldAt w' R0 ys yb yh ya) ∧ Hid (w2.grownBy w' none)) := hid (by
      have H := go_ok R0 HR0.out vd ve vl (.slice a n cap) w2 (by rw [hE0.out]; exact HNt.out _ G2.out) (by rw [hE0.out]; exact HCK.out _ G2.out)
      rw [hc00.out, hc10.out, F0.out.1, F0.out.2.1, F0.out.2.2.1, F0.out.2.2.2.1, F0.out.2.2.2.2.1, F0.out.2.2.2.2.2] at H
      exact H.mono fun e w' ⟨v1, v2, v3, v4, h1, h2, h3, _⟩ => ⟨v1, v2, v3, v4, h1, h2, h3⟩)
    have Hgo := hid hgo
    clear hgo
    go_wp2_with fail
    refine HGo.out.mono ?_
    rintro e w3 ⟨ys, yb, yh, ya, rfl, ht, hg⟩
    obtain ⟨aS0, cS0, e0⟩ := slice_frm' ht.out.sent
    obtain ⟨aB0, cB0, e1⟩ := slice_frm' ht.out.by_
    obtain ⟨aH0, cH0, e2⟩ := slice_frm' ht.out.hrd
    obtain ⟨aA0, cA0, e3⟩ := slice_frm' ht.out.aft
    rw [l0.out] at e0 e1 e2 e3
    subst e0 e1 e2 e3
    have HT0 := hid ht.out
    have H3 := hid hg.out
    have G3 := hid (gr_trans G2.out hg.out)
    have E0 := hid (gr_heap (gr_alloc hg.out (.cells #[.slice aS0 n cS0, .int .u32 (c00 : Int), .int .u32 (c10 : Int), .slice aB0 n cB0, .slice aH0 n cH0, .slice aA0 n cA0] 38)) D0.out (by simp))
    have B7 := hid (heap_alloc_new w3 (.cells #[.slice aS0 n cS0, .int .u32 (c00 : Int), .int .u32 (c10 : Int), .slice aB0 n cB0, .slice aH0 n cH0, .slice aA0 n cA0] 38))
    have GA := hid (gr_alloc (gr_refl w3 none) (.cells #[.slice aS0 n cS0, .int .u32 (c00 : Int), .int .u32 (c10 : Int), .slice aB0 n cB0, .slice aH0 n cH0, .slice aA0 n cA0] 38))
    have G4 := hid (gr_trans G3.out GA.out)
    have HT0A := hid (told_grown HT0.out GA.out)
    have HCA := hid (told_cks HT0A.out)
    have HNA := hid (HNt.out _ G4.out)
    clear ht hg k0 k1 k2 k3 k4 k5 k6 k7 k8 j0 j1 j2 j3 j4 HGo
    have k0 := hcell E0.out 0 _ rfl
    have k1 := hcell E0.out 1 _ rfl
    have k2 := hcell E0.out 2 _ rfl
    have k3 := hcell E0.out 3 _ rfl
    have k4 := hcell E0.out 4 _ rfl
    have k5 := hcell E0.out 5 _ rfl
    have k6 := hcell E0.out 6 _ rfl
    have k7 := hcell E0.out 7 _ rfl
    have k8 := hcell E0.out 8 _ rfl
    cases hgo : goesZ d 3 (aftL R0) with
    | false =>
      obtain ⟨rfl, rfl⟩ := Hends.out.2.1 Hgo.out hgo
      have HGo : Hid (Calls Tryz.prog 10 #[(.agg #[.int .i64 ho, .int .i64 C, .int .i64 de, .int .i64 wi, .int .i64 pr, vd, ve, vl, .int .i64 qu]), .int .i64 3, .slice aA0 n cA0, .agg #[.int .u32 0, .int .u32 0, .int .u32 0, .int .u32 0]] (w3.alloc (.cells #[.slice aS0 n cS0, .int .u32 (c00 : Int), .int .u32 (c10 : Int), .slice aB0 n cB0, .slice aH0 n cH0, .slice aA0 n cA0] 38)) fun e w' => e = .returned (.tuple #[.agg #[.slice none 0 0, .int .u32 0, .int .u32 0, .slice none 0 0, .slice none 0 0, .slice none 0 0], .int .i64 1]) ∧ (w3.alloc (.cells #[.slice aS0 n cS0, .int .u32 (c00 : Int), .int .u32 (c10 : Int), .slice aB0 n cB0, .slice aH0 n cH0, .slice aA0 n cA0] 38)).grownBy w' none) := hid (by
        have H := go_bad d vd ve vl 3 (.slice aA0 n cA0) (aftL R0) (.int .u32 0) (.int .u32 0) (.int .u32 0) (.int .u32 0) _ HNA.out HCA.out (by rw [aftL_len, l0.out]; omega) hgo
        rw [hcf.out] at H
        exact H)
      clear hgo
      go_wp2_with fail
      refine HGo.out.mono ?_
      rintro e w4 ⟨rfl, g4⟩
      have G5 := hid (gr_alloc (gr_trans G4.out g4) (.cells #[.slice none 0 0, .int .u32 0, .int .u32 0, .slice none 0 0, .slice none 0 0, .slice none 0 0] 38))
      clear g4 k0 k1 k2 k3 k4 k5 k6 k7 k8
      go_wp2_with fail
      go_ret
      exact ⟨rfl, G5.out⟩
    | true =>
      obtain ⟨rfl, rfl⟩ := Hends.out.2.2 Hgo.out hgo
      have HR1 : Hid (RdOk R1) := hid (by
        rw [hE1.out]
        have hz4 : (0 : Nat) < 4294967296 := by decide
        exact ⟨hgo, hz4, hz4, hz4, hz4⟩)
      obtain ⟨c01, hc01⟩ : ∃ c, Hid (R1.crew 0 = c) := ⟨_, hid rfl⟩
      obtain ⟨c11, hc11⟩ : ∃ c, Hid (R1.crew 1 = c) := ⟨_, hid rfl⟩
      have HGo : Hid (Calls Tryz.prog 10 #[(.agg #[.int .i64 ho, .int .i64 C, .int .i64 de, .int .i64 wi, .int .i64 pr, vd, ve, vl, .int .i64 qu]), .int .i64 3, .slice aA0 n cA0, .agg #[.int .u32 0, .int .u32 0, .int .u32 0, .int .u32 0]] (w3.alloc (.cells #[.slice aS0 n cS0, .int .u32 (c00 : Int), .int .u32 (c10 : Int), .slice aB0 n cB0, .slice aH0 n cH0, .slice aA0 n cA0] 38)) fun e w' => ∃ ys yb yh ya, e = .returned (.tuple #[.agg #[ys, .int .u32 (c01 : Int), .int .u32 (c11 : Int), yb, yh, ya], .int .i64 0]) ∧ Hid (ToldAt w' R1 ys yb yh ya) ∧ Hid ((w3.alloc (.cells #[.slice aS0 n cS0, .int .u32 (c00 : Int), .int .u32 (c10 : Int), .slice aB0 n cB0, .slice aH0 n cH0, .slice aA0 n cA0] 38)).grownBy w' none)) := hid (by
        have H := go_ok R1 HR1.out vd ve vl (.slice aA0 n cA0) (w3.alloc (.cells #[.slice aS0 n cS0, .int .u32 (c00 : Int), .int .u32 (c10 : Int), .slice aB0 n cB0, .slice aH0 n cH0, .slice aA0 n cA0] 38)) (by rw [hE1.out]; exact HNA.out) (by rw [hE1.out]; exact HCA.out)
        rw [hc01.out, hc11.out, F1.out.1, F1.out.2.1, F1.out.2.2.1, F1.out.2.2.2.1, F1.out.2.2.2.2.1, F1.out.2.2.2.2.2] at H
        exact H.mono fun e w' ⟨v1, v2, v3, v4, h1, h2, h3, _⟩ => ⟨v1, v2, v3, v4, h1, h2, h3⟩)
      clear hgo
      go_wp2_with fail
      refine HGo.out.mono ?_
      rintro e w4 ⟨ys, yb, yh, ya, rfl, ht, hg⟩
      obtain ⟨aS1, cS1, e0⟩ := slice_frm' ht.out.sent
      obtain ⟨aB1, cB1, e1⟩ := slice_frm' ht.out.by_
      obtain ⟨aH1, cH1, e2⟩ := slice_frm' ht.out.hrd
      obtain ⟨aA1, cA1, e3⟩ := slice_frm' ht.out.aft
      rw [l1.out] at e0 e1 e2 e3
      subst e0 e1 e2 e3
      have HT1 := hid ht.out
      have G5 := hid (gr_trans G4.out hg.out)
      have B74 := hid (gr_heap hg.out B7.out (by simp))
      have H34 := hid (gr_trans GA.out hg.out)
      clear ht hg k0 k1 k2 k3 k4 k5 k6 k7 k8 HGo
      go_wp2_with fail
      obtain ⟨wB, hwB⟩ : ∃ wB, w4.alloc (.cells #[.slice aS1 n cS1, .int .u32 (c01 : Int), .int .u32 (c11 : Int), .slice aB1 n cB1, .slice aH1 n cH1, .slice aA1 n cA1] 38) = wB := ⟨_, rfl⟩
      have hTB := heap_alloc_new w4 (.cells #[.slice aS1 n cS1, .int .u32 (c01 : Int), .int .u32 (c11 : Int), .slice aB1 n cB1, .slice aH1 n cH1, .slice aA1 n cA1] 38)
      have hB5 := gr_alloc (gr_refl w4 none) (.cells #[.slice aS1 n cS1, .int .u32 (c01 : Int), .int .u32 (c11 : Int), .slice aB1 n cB1, .slice aH1 n cH1, .slice aA1 n cA1] 38)
      rw [hwB] at hTB hB5
      rw [hwB]
      clear hwB
      obtain ⟨tb, htb⟩ : ∃ tb, Hid (w4.heap.size = tb) := ⟨_, hid rfl⟩
      obtain ⟨ta, hta⟩ : ∃ ta, Hid (w3.heap.size = ta) := ⟨_, hid rfl⟩
      rw [htb.out] at hTB
      rw [hta.out] at B74
      rw [htb.out, hta.out]
      have GB := hid (gr_trans G5.out hB5)
      have H3B := hid (gr_trans H34.out hB5)
      have H2B := hid (gr_trans H3.out H3B.out)
      obtain ⟨bV, oV, hV1⟩ : ∃ b off, Hid (aV = some ⟨b, off, none⟩ ∧ 2 ≤ cV ∧ ∀ W' : World, w2.grownBy W' none → W'.cell? ⟨b, off + 5, none⟩ = some (va 0) ∧ W'.cell? ⟨b, off + 6 + 5, none⟩ = some (va 1) ∧ W'.cell? ⟨b, off + 11, none⟩ = some (va 1)) := by
        rcases HVo.out with ⟨_, _, _, h9⟩ | ⟨b, off, c, e, h1, _, hf⟩
        · cases h9
        · injection e with e5 e6 e7
          have f0 := hf 0 (by omega) 5 (by omega)
          have f1 := hf 1 (by omega) 5 (by omega)
          exact ⟨b, off, hid ⟨e5, by omega, fun W' g => ⟨gr_cell g f0, gr_cell g f1, gr_cell g f1⟩⟩⟩
      have HTa := hid (HTl.out 0 (by omega))
      have HTb := hid (HTl.out 1 (by omega))
      rw [hR0.out] at HTa
      rw [hR1.out] at HTb
      obtain ⟨aP, cP, eP⟩ := slice_frm' HTa.out.aft
      obtain ⟨aQ, cQ, eQ⟩ := slice_frm' HTb.out.aft
      rw [l0.out] at eP
      rw [l1.out] at eQ
      have hPs := HTa.out.aft
      have hQs := HTb.out.aft
      have hAs := HT0.out.aft
      have hBs := HT1.out.aft
      rw [l0.out] at hAs hPs
      rw [l1.out] at hBs hQs
      rw [eP] at hPs hV1
      rw [eQ] at hQs hV1
      obtain ⟨pb, po, rfl, hcP, hPc⟩ := slice3 hPs hn0.1
      obtain ⟨qb, qo, rfl, hcQ, hQc⟩ := slice3 hQs hn0.1
      obtain ⟨ab, ao, rfl, hcA, hAc⟩ := slice3 hAs hn0.1
      obtain ⟨bb, bo, rfl, hcB, hBc⟩ := slice3 hBs hn0.1
      obtain ⟨rfl, hcV, hVc⟩ := hV1.out
      have HPc := hid hPc
      have HQc := hid hQc
      have HAc := hid hAc
      have HBc := hid hBc
      have HVc := hid hVc
      have HtB := hid hTB
      have HtA := hid (gr_heap hB5 B74.out (by simp))
      have HB5 := hid hB5
      obtain ⟨v0, v1, v2⟩ := hVc wB H2B.out
      have a5 := hcell HtA.out 5 _ rfl
      have b5 := hcell hTB 5 _ rfl
      clear hPc hQc hAc hBc hVc hPs hQs hAs hBs eP eQ hTB hB5
      go_wp2_with fail
      go_quiet (fail)
      obtain ⟨wC, hwC⟩ : ∃ wC, wB.drewN nq = wC := ⟨_, rfl⟩
      have HBC : Hid (wB.grownBy wC none) := hid (hwC ▸ gr_drewN (gr_refl wB none) nq)
      rw [hwC]
      have a5c := hcell (gr_heap HBC.out HtA.out (by simp)) 5 _ rfl
      clear hwC nq v0 v1 v2 a5 b5
      go_wp2_with fail
      go_loopw [94] (fun vi wr => ∃ k : Nat, vi = .int .i64 k ∧ k ≤ n ∧ Hid (wB.grownBy wr none)) (fun vi _ => n - (intOf vi).toNat)
      case atStart => exact ⟨0, rfl, Nat.zero_le _, HBC⟩
      case round =>
        obtain ⟨k, rfl, hk, HG⟩ := hrel
        by_cases hlt : k < n
        · have hk2 : (k : Int) < (n : Int) := by omega
          have hkP : k < cP := by omega
          have hkQ : k < cQ := by omega
          have hkA : k < cA0 := by omega
          have hkB : k < cA1 := by omega
          obtain ⟨v0, v1, v2⟩ := HVc.out wr (gr_trans H2B.out HG.out)
          have a5 := hcell (gr_heap HG.out HtA.out (by simp)) 5 _ rfl
          have b5 := hcell (gr_heap HG.out HtB.out (by simp)) 5 _ rfl
          obtain ⟨p0, p1, p2⟩ := HPc.out wr (gr_trans H2B.out HG.out) k hlt
          obtain ⟨q0, q1, q2⟩ := HQc.out wr (gr_trans H2B.out HG.out) k hlt
          obtain ⟨r0, r1, r2⟩ := HAc.out wr (gr_trans H3B.out HG.out) k hlt
          obtain ⟨t0, t1, t2⟩ := HBc.out wr (gr_trans HB5.out HG.out) k hlt
          try dsimp only at p0 p1 p2 q0 q1 q2 r0 r1 r2 t0 t1 t2
          obtain ⟨⟨km, kb, kr⟩, hkk⟩ : ∃ z, Hid (R0.aft k = z) := ⟨_, hid rfl⟩
          obtain ⟨⟨lm, lb, lr⟩, hll⟩ : ∃ z, Hid (R1.aft k = z) := ⟨_, hid rfl⟩
          rw [hkk.out] at p0 p1 p2 r0 r1 r2
          rw [hll.out] at q0 q1 q2 t0 t1 t2
          try dsimp only at p0 p1 p2 q0 q1 q2 r0 r1 r2 t0 t1 t2
          have hEq1 := fun W => eq3_st km kb kr W
          have hEq2 := fun W => eq3_st lm lb lr W
          go_wp2_with fail
          go_quiet (fail)
          have HG2 := hid (gr_trans HG.out (gr_drewN (gr_refl wr none) nq))
          go_wp2_with fail
          go_roundw
          case rel => exact ⟨k + 1, by go_num, by omega, HG2⟩
          case measure => simp [intOf]; omega
        · obtain rfl : k = n := by omega
          clear hlt
          go_wp2_with fail
          go_ret
          exact ⟨rfl, gr_trans GB.out HG.out⟩
end Go.Proofs.YtckoaeoecjphiaaGreat

/- RoundOnce: for every configuration, clocks and losses the law answers true: two rounds by two calls, or by one run, tell the same. No condition. -/
namespace Go.Proofs.YtckoaeoecjphiaaGreat
open Go.ChangeShapes Go.WideShapes Go.ChangeAt Go.RowKit
open Go.ChangeMaps (open_string shut_string)
set_option linter.unusedVariables false

theorem oncerow_all (d : Net) (vd ve vl : Value) {w : World} (hN : NetAt w.heap.size w d vd ve vl) (sv : Value) (l : List Ck) (y : Ls) (hs : CksAt w.heap.size w sv l) (hz : l.length * 24 ≤ 140737488351232) (hy : y.ok) :
    Calls Tryz.prog 8 #[cfV d.cf vd ve vl, caseV sv y] w fun e w' => e = .returned (.bool true) ∧ Below w.heap.size w w' :=
  (ronce_any d vd ve vl sv l y w hN hs hz hy).mono fun e w' h => ⟨h.1, gr_below h.2 (Nat.le_refl _) (by simp)⟩

set_option maxRecDepth 100000 in
theorem roundOnce_lifted (os : Os) (started : os.Started) (H : Type) (enc : TypeId × Value → H) :
    ReturnsInHanded {} Tryz.checked os 8 .any (Rows.roundOnceSpec.pre6 enc Tryz.prog Tryz.f8 Rows.roundOnceRow.domain false) (Rows.roundOnceSpec.post enc Tryz.prog Tryz.f8 false true false false) := by
  refine returnsInHanded_of_change_sized (C := Tryz.checked) own_none started (by kernel_rfl) Tryz.func8
    (ChangeSpec.witness6 (enc := enc) (C := Tryz.checked) false ⟨#[], #[.agg #[.int .i64 0, .int .i64 0, .int .i64 0, .int .i64 0, .int .i64 0, .slice none 0 0, .slice none 0 0, .slice none 0 0, .int .i64 0], .agg #[.slice none 0 0, .int .u32 0, .int .u32 0, .int .u32 0, .int .u32 0]], []⟩ 8 (by kernel_rfl) (by kernel_rfl) (by kernel_rfl) (by kernel_rfl)) ?_
  intro W base args ds gs before hval0 hW hcnd hsz0 _
  have hsz : (DataW.weightsEach Tryz.prog (Tryz.f8.params.toList ++ Rows.roundOnceSpec.plain.varTypes Tryz.prog) (ds ++ gs)).all (· ≤ reachBytes) = true := hsz0
  clear hsz0
  have hval : ∀ (j : Nat) t v, Tryz.f8.params[j]? = some t → args[j]? = some v → Value.okWide Tryz.prog W .any base t v := hval0
  have hW' := hW
  obtain ⟨p, q, hA0, hV, rfl, hfz, hnd⟩ := hW
  have hA : DataW.TrodAll enc Tryz.prog W 0 (fun _ => true) true Tryz.f8.params.toList args.toList ds p := hA0
  rw [Tryz.params8] at hA hval hsz
  obtain ⟨v0, vs0, d0, ds0, p0, q0, hargs, rfl, rfl, h0, r0⟩ := trodAll_cons hA
  obtain ⟨v1, vs1, d1, ds1, p1, q1, rfl, rfl, rfl, h1, r1⟩ := trodAll_cons r0
  obtain ⟨rfl, rfl, rfl⟩ := trodAll_nil r1
  obtain rfl : args = #[v0, v1] := by cases args; simp_all
  obtain ⟨rfl, rfl⟩ := trodVars_none hV
  have k0 := h0
  have lt0 : ∀ x ∈ p0, x.block < W.heap.size := by obtain ⟨m, hm⟩ := k0; exact DataW.trod_lt m _ _ _ hm
  have k1 := h1
  have lt1 : ∀ x ∈ p1, x.block < W.heap.size := by obtain ⟨m, hm⟩ := k1; exact DataW.trod_lt m _ _ _ hm
  obtain ⟨D0, vd0, ve0, vl0, rfl, N0⟩ := open_config (hval 0 26 v0 rfl rfl) h0 (within_arg hsz (j := 0) rfl rfl)
  obtain ⟨sv1, l1, y1, rfl, ck1, z1, ok1⟩ := open_case (hval 1 33 v1 rfl rfl) h1 (within_arg hsz (j := 1) rfl rfl)
  clear hA0 hval0
  refine (oncerow_all D0 vd0 ve0 vl0 N0 sv1 l1 y1 ck1 z1 ok1).mono fun e W' ⟨he, bel⟩ => ?_
  subst he
  exact ⟨_, rfl, _, _, _, [], _, [], hW', trodAll_mk1 (shut_bool Tryz.underlying4 _), (trodAll_cons_mk (Below.trod laid_out (by kernel_rfl) (of_decide_eq_true (by kernel_rfl)) k0 bel lt0) (trodAll_cons_mk (Below.trod laid_out (by kernel_rfl) (of_decide_eq_true (by kernel_rfl)) k1 bel lt1) trodAll_mk0)), rfl, bel.frame _, fun h => by cases h⟩

theorem roundOnce_holds : Rows.RoundOnceSaid :=
  OpenClaim.holds_of_wide 8 Tryz.f8 rfl rfl rfl rfl rfl rfl rfl ⟨rfl, rfl, rfl, rfl, rfl⟩ rfl rfl rfl rfl rfl (by kernel_rfl) Tryz.func8 (by kernel_rfl)
    (of_decide_eq_true (by kernel_rfl)) (by unfold Func.isWrapper; rw [if_neg (of_decide_eq_false (by kernel_rfl))]; exact ⟨rfl, rfl⟩)
    (fun os started H enc _ => roundOnce_lifted os started H enc)

#print axioms roundOnce_holds
end Go.Proofs.YtckoaeoecjphiaaGreat
