/- Lemmas: comp.Add: behind the window, or there already. tocsinlaw11: from, fixed; comp.Frame. round.hears. A stable sort of at most nineteen: what it comes to, in plain lists; and its comparison. -/
import Derived.Test.YtckoaeoecjphiaaGreatK20
import Derived.Test.YtckoaeoecjphiaaGreatK16
import Derived.Test.YtckoaeoecjphiaaGreatK21
import Derived.Test.YtckoaeoecjphiaaGreatK01
import Derived.Test.YtckoaeoecjphiaaGreatRows
import Derived.WalkKit
import Derived.WalkSpells
import Derived.WalkLawsBesides

/- comp.Add: behind the window, or there already. -/
namespace Go.Proofs.YtckoaeoecjphiaaGreat
open Go.RowKit Go.Lib

set_option maxRecDepth 100000 in
set_option maxHeartbeats 4000000 in
theorem add_range (b : Nat) (win first : Int) (vr vc : Value) (cm : Nat) (l fr cy cr cl : Int) (h : Nat) (hfr : fr = (h : Int)) (hh : h < 6) (w : World)
    (hc : Cmp w b win true first vr vc cm) (hr : rightB 1 fr cy cr cl = true) (hl : -1125899906842624 ≤ l ∧ l ≤ 1125899906842624)
    (hout : l < first ∨ first + win < l) (hf : -1125899906842624 ≤ first ∧ first ≤ 1125899906842624) (hw : 0 ≤ win ∧ win ≤ 1048576) :
    Calls Tryz.prog 79 #[.pointer (some ⟨b, 0, none⟩), .int .i64 l, ctl 1 fr cy cr cl] w fun e w' => e = .returned (.tuple #[.int .i64 0, .int .i64 4]) ∧ w.grownBy w' none := by
  subst hfr
  have Hr := hid hr
  have Hc := hid hc
  have Hout := hid hout
  clear hr hc hout
  obtain ⟨l0, l1⟩ := hl
  obtain ⟨f0, f1⟩ := hf
  obtain ⟨m0, m1⟩ := hw
  go_enter Tryz.func79, Tryz.ntmps79
  go_wp2_with fail
  refine (control_ok 1 h cy cr cl _ Hr.out).mono ?_
  rintro e w1 ⟨⟨vv, rfl⟩, g1⟩
  have Hc1 := hid (Hc.out.kept (bx_gr g1) (by simp))
  have c0 := Hc1.out.c0
  have c1 := Hc1.out.c1
  have c2 := Hc1.out.c2
  have d0 : w1.cell? ⟨w.heap.size, 0, none⟩ = some (.int .i64 1) := bx_cell g1 0 _ rfl
  have d1 : w1.cell? ⟨w.heap.size, 1, none⟩ = some (.int .i64 (h : Int)) := bx_cell g1 1 _ rfl
  have wf : IntKind.i64.wrap (first + win) = first + win := by rw [IntKind.wrap_i64]; omega
  have G1 := hid g1
  clear g1
  go_wp2_with fail
  by_cases h1 : l < first
  · go_quiet (fail)
    go_wp2_with fail
    go_ret2
    exact ⟨rfl, gr_drewN (bx_gr G1.out) _⟩
  · have h2 : first + win < l := by rcases Hout.out with h | h <;> omega
    go_quiet (fail)
    go_wp2_with fail
    go_ret2
    exact ⟨rfl, gr_drewN (bx_gr G1.out) _⟩

set_option maxRecDepth 100000 in
set_option maxHeartbeats 4000000 in
theorem add_there (b : Nat) (win first : Int) (vr vc : Value) (cm : Nat) (l fr cy cr cl : Int) (h : Nat) (hfr : fr = (h : Int)) (hh : h < 6) (w : World)
    (hc : Cmp w b win true first vr vc cm) (hcm : cm < 64) (hr : rightB 1 fr cy cr cl = true) (hl : -1125899906842624 ≤ l ∧ l ≤ 1125899906842624)
    (hin : first ≤ l ∧ l ≤ first + win) (hf : -1125899906842624 ≤ first ∧ first ≤ 1125899906842624) (hw : 0 ≤ win ∧ win ≤ 1048576) (hyes : hasB cm h = true) :
    Calls Tryz.prog 79 #[.pointer (some ⟨b, 0, none⟩), .int .i64 l, ctl 1 fr cy cr cl] w fun e w' => e = .returned (.tuple #[.int .i64 0, .int .i64 7]) ∧ w.grownBy w' none := by
  subst hfr
  have Hr := hid hr
  have Hc := hid hc
  clear hr hc
  obtain ⟨l0, l1⟩ := hl
  obtain ⟨n0, n1⟩ := hin
  obtain ⟨f0, f1⟩ := hf
  obtain ⟨m0, m1⟩ := hw
  go_enter Tryz.func79, Tryz.ntmps79
  go_wp2_with fail
  refine (control_ok 1 h cy cr cl _ Hr.out).mono ?_
  rintro e w1 ⟨⟨vv, rfl⟩, g1⟩
  have Hc1 := hid (Hc.out.kept (bx_gr g1) (by simp))
  have c0 := Hc1.out.c0
  have c1 := Hc1.out.c1
  have c2 := Hc1.out.c2
  have d0 : w1.cell? ⟨w.heap.size, 0, none⟩ = some (.int .i64 1) := bx_cell g1 0 _ rfl
  have d1 : w1.cell? ⟨w.heap.size, 1, none⟩ = some (.int .i64 (h : Int)) := bx_cell g1 1 _ rfl
  have D1 := hid d1
  have wf : IntKind.i64.wrap (first + win) = first + win := by rw [IntKind.wrap_i64]; omega
  have G1 := hid g1
  clear g1
  go_wp2_with fail
  go_quiet (fail)
  obtain ⟨w2, hw2⟩ : ∃ w2, w1.drewN nq = w2 := ⟨_, rfl⟩
  have G2 : w1.grownBy w2 none := hw2 ▸ gr_drewN (gr_refl w1 none) nq
  rw [hw2]
  clear hw2 c0 c1 c2 d0 d1 nq
  have Hc2 := hid (Hc1.out.kept G2 (by simp))
  have c5 := Hc2.out.c5
  have d1 := gr_cell G2 D1.out
  have HG2 := hid G2
  clear G2
  go_wp2_with fail
  go_quiet ((go_at_call 34; exact Calls.quiet_of_same (has_same _ _ hcm hh _)))
  rw [hyes]
  go_wp2_with fail
  go_ret2
  exact ⟨rfl, gr_drewN (gr_trans (bx_gr G1.out) HG2.out) _⟩
end Go.Proofs.YtckoaeoecjphiaaGreat

/- tocsinlaw11: from, fixed; comp.Frame. -/
namespace Go.Proofs.YtckoaeoecjphiaaGreat
open Go.RowKit Go.Lib

set_option maxHeartbeats 1000000 in
theorem frame_any (p : Int) (c : Nat) (cy fr : Int) (w : World) :
    Calls Tryz.prog 83 #[resV p c cy, .int .i64 fr] w fun e w' => e = .returned (.agg #[.int .i64 2, .int .i64 fr, .int .i64 cy, .int .u32 (c : Int), .int .i64 0]) ∧ w.grownBy w' none := by
  go_enter Tryz.func83, Tryz.ntmps83
  go_wp2_with fail
  exact bodyPost_ret (v := .agg #[.int .i64 2, .int .i64 fr, .int .i64 cy, .int .u32 (c : Int), .int .i64 0]) (by simp [results, Tryz.results83, go_sem]) rfl ⟨rfl, gr_alloc (gr_alloc (gr_refl w none) _) _⟩
theorem Coll.grown {P : Nat → Prop} {W W' : World} {base b : Nat} {win first : Int} {rs cs : List Int} {cm : Nat} (h : Coll P W base b win first rs cs cm) (G : W.grownBy W' none) : Coll P W' base b win first rs cs cm := by
  obtain ⟨vr, vc, hc, hr, hc', n1, n2, ap, bb, hP⟩ := h.ex
  exact ⟨vr, vc, hc.kept G (by simp), hr.kept G (by cases vr.ownBlock <;> simp), hc'.kept G (by cases vc.ownBlock <;> simp), n1, n2, ap, bb, fun q hq => ⟨Nat.lt_of_lt_of_le (hP q hq).1 G.size, (hP q hq).2⟩⟩
theorem Coll.cmp {P : Nat → Prop} {W : World} {base b : Nat} {win first : Int} {rs cs : List Int} {cm : Nat} (h : Coll P W base b win first rs cs cm) : ∃ vr vc, Cmp W b win true first vr vc cm := by
  obtain ⟨vr, vc, hc, _⟩ := h.ex
  exact ⟨vr, vc, hc⟩
theorem Coll.at {P : Nat → Prop} {W : World} {base b : Nat} {win first : Int} {rs cs : List Int} {cm : Nat} (h : Coll P W base b win first rs cs cm) : base ≤ b ∧ b < W.heap.size := by
  obtain ⟨vr, vc, hc, _, _, _, _, _, bb, _⟩ := h.ex
  exact ⟨bb, hc.lt⟩

theorem cell_of {w : World} {b : Nat} {cells : Array Value} {t : TypeId} (h : w.heap[b]? = some (.cells cells t)) (i : Nat) (v : Value) (hv : cells[i]? = some v) : w.cell? ⟨b, i, none⟩ = some v := by simp [World.cell?, h, hv]
theorem frozen_of {w : World} {b : Nat} {cells : Array Value} {t : TypeId} (h : w.heap[b]? = some (.cells cells t)) (i : Nat) : w.frozen? ⟨b, i, none⟩ = false := by simp [World.frozen?, h]

theorem tol_fixed : tolL [0, 10, 90] = 10 := by
  have hs : sortL [0, 10, 90] = [0, 10, 90] := sortL_eq (List.Perm.refl _) (by decide)
  unfold tolL
  rw [hs]
  decide
theorem most_fixed : mostL [3, 3, 3] = 3 := most_unique (by decide) (by decide)

end Go.Proofs.YtckoaeoecjphiaaGreat

/- round.hears. -/
namespace Go.Proofs.YtckoaeoecjphiaaGreat
open Go.RowKit Go.Lib

theorem RowsIn.cellAt {n₀ : Nat} {W : World} {vd : Value} {rows : List (List Int)} (h : RowsIn n₀ W vd rows) {j i : Nat} (hj : j < rows.length) (hi : i < (nthR rows j).length) :
    ∃ b off cap b2 off2 cap2, vd = .slice (some ⟨b, off, none⟩) rows.length cap ∧ rows.length ≤ cap ∧ (nthR rows j).length ≤ cap2 ∧ W.cell? ⟨b, off + j, none⟩ = some (.slice (some ⟨b2, off2, none⟩) (nthR rows j).length cap2) ∧ W.cell? ⟨b2, off2 + i, none⟩ = some (.int .i64 (nth (nthR rows j) i)) := by
  obtain ⟨dv, h1, h2⟩ := h
  rcases h1 with ⟨_, _, _, h0⟩ | ⟨b, off, cap, rfl, hcap, _, hf⟩
  · omega
  · have c1 := hf j hj 0 (by omega)
    rcases h2 j hj with ⟨_, _, _, h0⟩ | ⟨b2, off2, cap2, e, hcap2, _, hf2⟩
    · omega
    · have c2 := hf2 i hi 0 (by omega)
      dsimp only at c1
      rw [e] at c1
      exact ⟨b, off, cap, b2, off2, cap2, rfl, hcap, hcap2, by simpa using c1, by simpa using c2⟩
/-- What is heard, when a switch's frame comes. -/
noncomputable def hearsF (k : Ck) (p E A de wi pt delay : Int) (cr : Nat) (fr : Int) (fs : List Hd) : List Hd :=
  if (dueR k (pt + wi + delay) delay de).2 = 0 then hearF (k.at_ (dueR k (pt + wi + delay) delay de).1) p E A cr fr fs else fs
theorem dueR_now {k : Ck} (ho : k.ok) {t cl dl : Int} (h : (dueR k t cl dl).2 = 0) : nowB k.m (dueR k t cl dl).1 = true := by
  unfold dueR at *
  by_cases hb : nowB k.m t = true
  · rw [if_pos hb] at h ⊢
    rcases whenR_cases k ho (k.at_ t + dl - cl) with ⟨x, hx, e⟩ | ⟨_, e⟩
    · rw [e]; exact hx.now ho
    · rw [e] at h; cases h
  · rw [if_neg hb] at h; cases h
theorem dueR_err {k : Ck} (ho : k.ok) (t cl dl : Int) : (dueR k t cl dl).2 = 0 ∨ (dueR k t cl dl).2 = 1 ∨ (dueR k t cl dl).2 = 5 := by
  unfold dueR
  by_cases hb : nowB k.m t = true
  · rw [if_pos hb]
    rcases whenR_cases k ho (k.at_ t + dl - cl) with ⟨x, hx, e⟩ | ⟨_, e⟩
    · rw [e]; exact .inl rfl
    · rw [e]; exact .inr (.inr rfl)
  · rw [if_neg hb]; exact .inr (.inl rfl)

set_option maxRecDepth 100000 in
set_option maxHeartbeats 4000000 in
theorem hears_any (n₀ base kb ab : Nat) (d : Net) (vd ve vl : Value) (k : Ck) (E A cy p pt dly : Int) (cr h sw : Nat) (vf : Value) (fs : List Hd) (w : World)
    (hN : RowsIn n₀ w vd d.rows) (hh : h < d.rows.length) (hrow : (nthR d.rows h).length = 2) (hsw : sw < 2) (hdl : Hid (nth (nthR d.rows h) sw = dly)) (hd0 : 0 ≤ dly ∧ dly ≤ d.cf.de) (hde : d.cf.de ≤ 1048576) (hwi : 0 ≤ d.cf.wi ∧ d.cf.wi ≤ 1048576)
    (hc : ClkC w kb k) (ho : k.ok) (hal : AlS base w ab d.cf.cy E A vf fs) (hbase : base ≤ w.heap.size) (hlen : fs.length ≤ 10) (hno : ∀ j, j < fs.length → (nthH fs j).fr ≠ 6 + (sw : Int))
    (h0 : 0 ≤ cy) (hC : 1 ≤ d.cf.cy ∧ d.cf.cy ≤ 1073741824) (hp : Hid (cy * d.cf.cy = p)) (h1 : p ≤ 1125899906842624) (hE : 0 ≤ E ∧ E ≤ 4194304) (hA : 0 ≤ A ∧ A ≤ 4194304) (hcr : 0 < cr ∧ cr < 64) (hpt : -4503599627370496 ≤ pt ∧ pt ≤ 4503599627370496) :
    Calls Tryz.prog 35 #[cfV d.cf vd ve vl, .int .i64 cy, .pointer (some ⟨kb, 0, none⟩), .pointer (some ⟨ab, 0, none⟩), .agg #[.int .i64 pt, .int .u32 (cr : Int), .int .i64 cy], .int .i64 (h : Int), .int .i64 (sw : Int)] w fun e w' =>
      ∃ vf', e = .returned (.tuple #[]) ∧ Hid (AlS base w' ab d.cf.cy E A vf' (hearsF k p E A d.cf.de d.cf.wi pt dly cr (6 + (sw : Int)) fs)) ∧ Hid (Below base w w') := by
  obtain ⟨b, off, cap, b2, off2, cap2, rfl, hcap, hcap2, c1, c2⟩ := hN.cellAt hh (i := sw) (by omega)
  have HC := hid hc
  have HO := hid ho
  have HA := hid hal
  have HNo := hid hno
  have Hb := hid hbase
  rw [hrow] at c1 hcap2
  rw [hdl.out] at c2
  clear hN hdl hc ho hal hno hbase
  obtain ⟨c, rows, ents, lnks⟩ := d
  dsimp only at *
  obtain ⟨hos, C, de, wi, pr, qu⟩ := c
  dsimp only at *
  generalize rows.length = n at *
  have g0 := gr_alloc (gr_alloc (gr_refl w none) (.cells #[.int .i64 hos, .int .i64 C, .int .i64 de, .int .i64 wi, .int .i64 pr, .slice (some ⟨b, off, none⟩) n cap, ve, vl, .int .i64 qu] 26)) (.cells #[.int .i64 pt, .int .u32 (cr : Int), .int .i64 cy] 91)
  have c1 := gr_cell g0 c1
  have c2 := gr_cell g0 c2
  have G0 := hid g0
  clear g0 hrow
  obtain ⟨d0, d1⟩ := hd0
  obtain ⟨w0, w1⟩ := hwi
  obtain ⟨t0, t1⟩ := hpt
  have ws : IntKind.i64.wrap (pt + wi) = pt + wi := IntWalk.i64_in _ (by omega)
  have ws2 : IntKind.i64.wrap (pt + wi + dly) = pt + wi + dly := IntWalk.i64_in _ (by omega)
  have ws3 : IntKind.i64.wrap (6 + (sw : Int)) = 6 + sw := IntWalk.i64_in _ (by omega)
  obtain ⟨X, hX⟩ : ∃ X, dueR k (pt + wi + dly) dly de = X := ⟨_, rfl⟩
  have Hdue : Hid (∀ w', w.grownBy w' none → Calls Tryz.prog 81 #[.pointer (some ⟨kb, 0, none⟩), .int .i64 (pt + wi + dly), .int .i64 dly, .int .i64 de] w' fun e w2 => e = .returned (.tuple #[.int .i64 X.1, .int .i64 X.2]) ∧ w'.grownBy w2 none) := hid (fun w' g => by rw [← hX]; exact due_any kb k _ _ _ w' (HC.out.kept g (by simp)) HO.out ⟨by omega, hde⟩ ⟨d0, d1⟩)
  have hcap' : h < cap := by omega
  have hcap3 : sw < cap2 := by omega
  have hhn : (h : Int) < n := by omega
  have hsn : (sw : Int) < 2 := by omega
  by_cases hX0 : X.2 = 0
  · have hF : Hid (hearsF k p E A de wi pt dly cr (6 + (sw : Int)) fs = hearF (k.at_ X.1) p E A cr (6 + (sw : Int)) fs) := hid (by unfold hearsF; rw [hX, if_pos hX0])
    have Hnow : Hid (nowB k.m X.1 = true) := hid (by have := dueR_now HO.out (t := pt + wi + dly) (cl := dly) (dl := de) (by rw [hX]; exact hX0); rw [hX] at this; exact this)
    obtain ⟨x1, x2⟩ := X
    dsimp only at *
    subst hX0
    obtain ⟨now, hnow⟩ : ∃ n, Hid (clockAt k.m k.b k.r x1 = n) := ⟨_, hid rfl⟩
    clear hX
    go_enter Tryz.func35, Tryz.ntmps35
    go_wp2_with fail
    refine (Hdue.out _ G0.out).mono ?_
    rintro e u1 ⟨rfl, g1⟩
    have HR1 := hid (box_heap2 g1)
    have G1 := hid (gr_trans G0.out g1)
    clear g1 c1 c2
    go_wp2_with fail
    refine (now_ok kb _ _ _ x1 now _ (HC.out.kept G1.out (by simp)) HO.out Hnow.out hnow).mono ?_
    rintro e u2 ⟨rfl, g2⟩
    have HR2 := hid (gr_heap g2 HR1.out (by simp))
    have G2 := hid (gr_trans G1.out g2)
    clear g2
    have r0 := hcell HR2.out 0 _ rfl
    have r1 := hcell HR2.out 1 _ rfl
    have r2 := hcell HR2.out 2 _ rfl
    go_wp2_with fail
    refine (frame_any pt cr cy _ _).mono ?_
    rintro e u3 ⟨rfl, g3⟩
    have G3 := hid (gr_trans G2.out g3)
    have HA3 := hid (HA.out.grown G3.out)
    clear g3 r0 r1 r2
    go_wp2_with fail
    refine (hear_any base ab C E A cy now p vf fs cr (6 + (sw : Int)) u3 HA3.out hlen HNo.out h0 hC.1 hC.2 hp h1 hE hA hcr (by omega)).mono ?_
    rintro e u4 ⟨x, vf', rfl, HA4, hB4⟩
    have HB4 := hid (Below.trans (gr_below G3.out Hb.out (by simp)) hB4)
    clear hB4
    go_wp2_with fail
    exact bodyPost_end (by simp [results, Tryz.results35, go_sem]) rfl ⟨vf', rfl, hid (by rw [hF.out, show k.at_ x1 = now from hnow.out]; exact HA4.out), HB4⟩
  · have hF : Hid (hearsF k p E A de wi pt dly cr (6 + (sw : Int)) fs = fs) := hid (by unfold hearsF; rw [hX, if_neg hX0])
    obtain ⟨x1, x2⟩ := X
    dsimp only at *
    have hne : (x2 != 0) = true := by simpa using hX0
    clear hX hX0
    go_enter Tryz.func35, Tryz.ntmps35
    go_wp2_with fail
    refine (Hdue.out _ G0.out).mono ?_
    rintro e u1 ⟨rfl, g1⟩
    have G1 := hid (gr_trans G0.out g1)
    clear g1 c1 c2
    go_wp2_with fail
    exact bodyPost_ret (v := .tuple #[]) (by simp [results, Tryz.results35, go_sem]) rfl ⟨vf, rfl, hid (by rw [hF.out]; exact HA.out.grown G1.out), hid (gr_below G1.out Hb.out (by simp))⟩
end Go.Proofs.YtckoaeoecjphiaaGreat

/- A stable sort of at most nineteen: what it comes to, in plain lists; and its comparison. -/
namespace Go.Proofs.YtckoaeoecjphiaaGreat
open Go.RowKit Go.Lib

/-- One that sends, and when. -/
structure Sd where
  h : Nat
  t : Int
def nthS (l : List Sd) (j : Nat) : Sd := l[j]?.getD ⟨0, 0⟩
def lexS (a b : Sd) : Prop := a.t < b.t ∨ a.t = b.t ∧ a.h < b.h
theorem lexS.trans {a b c : Sd} (h : lexS a b) (k : lexS b c) : lexS a c := by unfold lexS at *; omega
theorem nthS_app_lt {a b : List Sd} {j : Nat} (h : j < a.length) : nthS (a ++ b) j = nthS a j := by unfold nthS; rw [List.getElem?_append_left h]
theorem nthS_app_ge {a b : List Sd} {j : Nat} (h : a.length ≤ j) : nthS (a ++ b) j = nthS b (j - a.length) := by unfold nthS; rw [List.getElem?_append_right h]
theorem nthS_mid (a : List Sd) (x : Sd) (b : List Sd) : nthS (a ++ x :: b) a.length = x := by rw [nthS_app_ge (Nat.le_refl _)]; simp [nthS]
/-- The moving element's neighbour is passed. -/
theorem nthS_swap (a : List Sd) (p x : Sd) (b : List Sd) (t : Nat) (h1 : t ≠ a.length) (h2 : t ≠ a.length + 1) : nthS (a ++ x :: p :: b) t = nthS (a ++ p :: x :: b) t := by
  by_cases h : t < a.length
  · rw [nthS_app_lt h, nthS_app_lt h]
  · rw [nthS_app_ge (by omega), nthS_app_ge (by omega)]
    obtain ⟨k, hk⟩ : ∃ k, t - a.length = k + 2 := ⟨t - a.length - 2, by omega⟩
    rw [hk]
    simp [nthS]
theorem nthS_two (a : List Sd) (p x : Sd) (b : List Sd) : nthS (a ++ p :: x :: b) a.length = p ∧ nthS (a ++ p :: x :: b) (a.length + 1) = x := by
  refine ⟨nthS_mid a p _, ?_⟩
  rw [nthS_app_ge (by omega)]
  simp [nthS]

/-- The moving one's state: A is not reached yet, B has been passed. -/
structure Ins (P : List Sd) (x : Sd) (A B : List Sd) : Prop where
  eq : A ++ B = P
  pass : ∀ b ∈ B, x.t < b.t
theorem Ins.start (P : List Sd) (x : Sd) : Ins P x P [] := ⟨List.append_nil P, fun b hb => absurd hb (by simp)⟩
theorem Ins.step {P : List Sd} {x p : Sd} {A B : List Sd} (h : Ins P x (A ++ [p]) B) (hp : x.t < p.t) : Ins P x A (p :: B) :=
  ⟨by rw [← h.eq]; simp, fun b hb => by
    rcases List.mem_cons.1 hb with rfl | hb
    · exact hp
    · exact h.pass b hb⟩
/-- The place is found: the first ones, and the new one, are in order. -/
theorem Ins.done {P : List Sd} {x : Sd} {A B : List Sd} (h : Ins P x A B) (hP : P.Pairwise lexS) (hx : ∀ p ∈ P, p.h < x.h) (hA : A = [] ∨ ∃ A' p, A = A' ++ [p] ∧ p.t ≤ x.t) : (A ++ x :: B).Pairwise lexS := by
  have hP' := hP
  rw [← h.eq] at hP' hx
  rw [List.pairwise_append] at hP' ⊢
  obtain ⟨h1, h2, h3⟩ := hP'
  have hAx : ∀ a ∈ A, lexS a x := by
    intro a ha
    rcases hA with rfl | ⟨A', p, rfl, hp⟩
    · simp at ha
    · have hax := hx a (List.mem_append_left _ ha)
      rcases List.mem_append.1 ha with ha' | ha'
      · rw [List.pairwise_append] at h1
        have := h1.2.2 a ha' p (by simp)
        unfold lexS at *
        omega
      · simp at ha'
        subst ha'
        unfold lexS
        omega
  refine ⟨h1, ?_, ?_⟩
  · rw [List.pairwise_cons]
    exact ⟨fun b hb => .inl (h.pass b hb), h2⟩
  · intro a ha b hb
    rcases List.mem_cons.1 hb with rfl | hb
    · exact hAx a ha
    · exact h3 a ha b hb
theorem Ins.perm {P : List Sd} {x : Sd} {A B : List Sd} (h : Ins P x A B) : (A ++ x :: B).Perm (P ++ [x]) := by
  rw [← h.eq]
  refine (List.perm_middle).trans ?_
  exact (List.perm_append_singleton x (A ++ B)).symm
/-- The order is the only one. -/
theorem lex_unique : ∀ {a b : List Sd}, a.Perm b → a.Pairwise lexS → b.Pairwise lexS → a = b
  | [], b, hp, _, _ => by simpa using hp.symm
  | x :: a, [], hp, _, _ => by have := hp.length_eq; simp at this
  | x :: a, y :: b, hp, ha, hb => by
    rw [List.pairwise_cons] at ha hb
    have hxy : x = y := by
      have h1 : x ∈ y :: b := hp.subset (by simp)
      have h2 : y ∈ x :: a := hp.symm.subset (by simp)
      rcases List.mem_cons.1 h1 with h1 | h1
      · exact h1
      · rcases List.mem_cons.1 h2 with h2 | h2
        · exact h2.symm
        · have h3 := hb.1 x h1
          have h4 := ha.1 y h2
          unfold lexS at *
          omega
    subst hxy
    rw [lex_unique (List.Perm.cons_inv hp) ha.2 hb.2]

/-- cmp.Compare. -/
def cmpZ (a b : Int) : Int := if a < b then -1 else if b < a then 1 else 0
theorem nan_any (a : Int) (w : World) : Calls Tryz.prog 77 #[.int .i64 a] w fun e w' => e = .returned (.bool false) ∧ w = w' := by
  go_enter Tryz.func77, Tryz.ntmps77
  go_wp2_with fail
  go_ret
  exact ⟨by simp, rfl⟩
theorem cmp3_any (a b : Int) (w : World) : Calls Tryz.prog 31 #[.int .i64 a, .int .i64 b] w fun e w' => e = .returned (.int .i64 (cmpZ a b)) ∧ w = w' := by
  have h : (a < b ∧ cmpZ a b = -1) ∨ (b < a ∧ cmpZ a b = 1) ∨ (a = b ∧ cmpZ a b = 0) := by
    unfold cmpZ
    by_cases h1 : a < b
    · exact .inl ⟨h1, if_pos h1⟩
    · by_cases h2 : b < a
      · exact .inr (.inl ⟨h2, by rw [if_neg h1, if_pos h2]⟩)
      · exact .inr (.inr ⟨by omega, by rw [if_neg h1, if_neg h2]⟩)
  rcases h with ⟨h1, e⟩ | ⟨h1, e⟩ | ⟨h1, e⟩
  all_goals
    rw [e]
    clear e
  case inr.inr =>
    subst h1
    go_enter Tryz.func31, Tryz.ntmps31
    go_wp2_with (go_at_call 77; refine (nan_any _ _).mono ?_; rintro e w' ⟨rfl, rfl⟩)
    go_ret
    exact ⟨rfl, rfl⟩
  case inl =>
    go_enter Tryz.func31, Tryz.ntmps31
    go_wp2_with (go_at_call 77; refine (nan_any _ _).mono ?_; rintro e w' ⟨rfl, rfl⟩)
    go_ret
    exact ⟨rfl, rfl⟩
  case inr.inl =>
    have h2 : ¬ a < b := by omega
    have h3 : decide (a < b) = false := decide_eq_false h2
    clear h2
    go_enter Tryz.func31, Tryz.ntmps31
    go_wp2_with (go_at_call 77; refine (nan_any _ _).mono ?_; rintro e w' ⟨rfl, rfl⟩)
    go_ret
    exact ⟨rfl, rfl⟩
theorem later_any (a b : Sd) (w : World) : Calls Tryz.prog 30 #[.agg #[.int .i64 (a.h : Int), .int .i64 a.t], .agg #[.int .i64 (b.h : Int), .int .i64 b.t]] w fun e w' => e = .returned (.int .i64 (cmpZ a.t b.t)) ∧ w.grownBy w' none := by
  obtain ⟨h, t⟩ := a
  obtain ⟨h', t'⟩ := b
  dsimp only
  have ga := gr_alloc (gr_alloc (gr_refl w none) (.cells #[.int .i64 (h : Int), .int .i64 t] 86)) (.cells #[.int .i64 (h' : Int), .int .i64 t'] 86)
  have c1 := hcell (box_heap1 (gr_refl ((w.alloc (.cells #[.int .i64 (h : Int), .int .i64 t] 86)).alloc (.cells #[.int .i64 (h' : Int), .int .i64 t'] 86)) none)) 1 _ rfl
  have GA := hid ga
  clear ga
  go_enter Tryz.func30, Tryz.ntmps30
  go_wp2_with fail
  refine (cmp3_any _ _ _).mono ?_
  rintro e w1 ⟨rfl, rfl⟩
  go_wp2_with fail
  go_ret
  exact ⟨rfl, GA.out⟩
end Go.Proofs.YtckoaeoecjphiaaGreat
