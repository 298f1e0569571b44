/- Lemmas: align.Hear. -/
import Derived.Test.YtckoaeoecjphiaaGreatK12
import Derived.Test.YtckoaeoecjphiaaGreatK16

/- align.Hear. -/
namespace Go.Proofs.YtckoaeoecjphiaaGreat
open Go.RowKit Go.Lib

/-- One that hears, with its frames. -/
structure AlS (base : Nat) (W : World) (b : Nat) (C E A : Int) (vf : Value) (fs : List Hd) : Prop where
  at_ : AlAt W b C E A vf
  row : W.ownsRow base 160 3 vf fs.length (flatD fs)
  ne : vf.ownBlock ≠ some b
  bb : base ≤ b
theorem AlS.grown {base : Nat} {W W' : World} {b : Nat} {C E A : Int} {vf : Value} {fs : List Hd} (h : AlS base W b C E A vf fs) (g : W.grownBy W' none) : AlS base W' b C E A vf fs :=
  ⟨gr_heap g h.at_ (by simp), h.row.kept g (by cases vf.ownBlock <;> simp), h.ne, h.bb⟩
theorem AlS.lt {base : Nat} {W : World} {b : Nat} {C E A : Int} {vf : Value} {fs : List Hd} (h : AlS base W b C E A vf fs) : b < W.heap.size := lt_of_block h.at_
theorem cells4_3 {w : World} {g : Nat} {a b c d d' : Value} {t : TypeId} (h : w.heap[g]? = some (.cells #[a, b, c, d] t)) : (w.setCell ⟨g, 3, none⟩ d').heap[g]? = some (.cells #[a, b, c, d'] t) := by
  simp only [World.setCell, Array.getElem?_modify, if_true, h, Option.map_some]
  rfl
theorem setCell_heap {w : World} {g i q : Nat} {v : Value} (h : g ≠ q) : (w.setCell ⟨g, i, none⟩ v).heap[q]? = w.heap[q]? := by
  simp only [World.setCell, Array.getElem?_modify, if_neg h]
theorem own_as {w w' : World} {base e size n : Nat} {v : Value} {xs : List Value} (h : w.ownsRow base e size v n xs) (hw : ∀ q, v.ownBlock = some q → w'.heap[q]? = w.heap[q]?) : w'.ownsRow base e size v n xs :=
  ⟨h.1, h.2.imp id (fun ⟨g, cap, cur, e, hg, hh, r⟩ => ⟨g, cap, cur, e, hg, (hw g (by rw [e]; rfl)).trans hh, r⟩)⟩
theorem own_other {w : World} {base e size n g i : Nat} {v x : Value} {xs : List Value} (h : w.ownsRow base e size v n xs) (hg : v.ownBlock ≠ some g) : (w.setCell ⟨g, i, none⟩ x).ownsRow base e size v n xs :=
  own_as h (fun _ hq => setCell_heap (fun e => hg (e ▸ hq)))
/-- A frame has been laid behind the others. -/
theorem AlS.push {base : Nat} {W W4 : World} {b : Nat} {C E A : Int} {vf v4 : Value} {fs : List Hd} {x : Hd} {o : Obj} (h : AlS base W b C E A vf fs)
    (hown : W4.ownsRow base 160 3 v4 (fs.length + 1) (flatD fs ++ hC x)) (hg : (W.alloc o).grownBy W4 vf.ownBlock) (hat : v4.ownBlock = vf.ownBlock ∨ v4.ownBlock = some (W.alloc o).heap.size) :
    AlS base (W4.setCell ⟨b, 3, none⟩ v4) b C E A v4 (fs ++ [x]) := by
  have hne : v4.ownBlock ≠ some b := by
    intro e
    rcases hat with h1 | h1
    · exact h.ne (h1 ▸ e)
    · rw [h1] at e
      simp at e
      have := h.lt
      omega
  refine ⟨?_, ?_, hne, h.bb⟩
  · have h1 : AlAt W4 b C E A vf := gr_heap hg (gr_heap (gr_alloc (gr_refl W none) o) h.at_ (by simp)) (fun e => h.ne e.symm)
    exact cells4_3 h1
  · rw [flatD_snoc, List.length_append]
    exact own_other hown hne
theorem hC_length (x : Hd) : (hC x).length = 3 := rfl
theorem flatD_at {xs : List Hd} {i c : Nat} (hi : i < xs.length) (hc : c < 3) : (flatD xs)[i * 3 + c]? = (hC (nthH xs i))[c]? := by
  induction xs generalizing i with
  | nil => simp at hi
  | cons x l ih =>
    have e : flatD (x :: l) = hC x ++ flatD l := by simp [flatD]
    rw [e]
    cases i with
    | zero =>
      rw [List.getElem?_append_left (by rw [hC_length]; omega)]
      simp [nthH]
    | succ i =>
      rw [List.getElem?_append_right (by rw [hC_length]; omega), hC_length]
      have e2 : (i + 1) * 3 + c - 3 = i * 3 + c := by omega
      rw [e2, ih (by simpa using hi)]
      simp [nthH]
/-- The frames' slice, and its cells wherever its block is as it was. -/
theorem AlS.cells {base : Nat} {W : World} {b : Nat} {C E A : Int} {vf : Value} {fs : List Hd} (h : AlS base W b C E A vf fs) (h1 : 0 < fs.length) :
    ∃ g cap, vf = .slice (some ⟨g, 0, none⟩) fs.length cap ∧ fs.length ≤ cap ∧ ∀ i, i < fs.length → W.cell? ⟨g, i * 3, none⟩ = some (.int .i64 (nthH fs i).by_) ∧ W.cell? ⟨g, i * 3 + 1, none⟩ = some (.int .u32 ((nthH fs i).cr : Int)) ∧ W.cell? ⟨g, i * 3 + 2, none⟩ = some (.int .i64 (nthH fs i).fr) := by
  rcases h.row.2 with ⟨_, h0⟩ | ⟨g, cap, cur, rfl, _, _, hc, _⟩
  · omega
  · refine ⟨g, cap, rfl, hc, fun i hi => ?_⟩
    have key : ∀ c, c < 3 → W.cell? ⟨g, i * 3 + c, none⟩ = (hC (nthH fs i))[c]? := fun c hc => by
      rw [h.row.cellAt (i * 3 + c) (by omega), flatD_at hi hc]
    exact ⟨key 0 (by omega), key 1 (by omega), key 2 (by omega)⟩
theorem AlS.none {base : Nat} {W : World} {b : Nat} {C E A : Int} {vf : Value} {fs : List Hd} (h : AlS base W b C E A vf fs) (h1 : fs.length = 0) : ∃ a cap, vf = .slice a 0 cap := by
  rcases h.row.2 with ⟨rfl, _⟩ | ⟨g, cap, cur, rfl, _⟩
  · exact ⟨_, _, rfl⟩
  · exact ⟨_, _, by rw [h1]⟩

theorem cells3_new (w : World) (a b c : Value) (t : TypeId) : ∀ (j : Nat) (u : Value), [a, b, c][j]? = some u → (w.alloc (.cells #[a, b, c] t)).cell? ((⟨w.heap.size, 0, none⟩ : Addr).add j) = some u := by
  intro j u h
  have hh := heap_alloc_new w (.cells #[a, b, c] t)
  match j, h with
  | 0, h => exact hcell hh 0 _ (by simpa using h)
  | 1, h => exact hcell hh 1 _ (by simpa using h)
  | 2, h => exact hcell hh 2 _ (by simpa using h)
  | n + 3, h => simp at h
theorem push_below {base : Nat} {w W W4 : World} {b : Nat} {C E A : Int} {vf x : Value} {fs : List Hd} {o : Obj} (g : w.grownBy W none) (hz : base ≤ w.heap.size) (h : AlS base W b C E A vf fs) (hg : (W.alloc o).grownBy W4 vf.ownBlock) : Below base w (W4.setCell ⟨b, 3, none⟩ x) := by
  have s1 := g.size
  have s2 := hg.size
  have b1 := h.bb
  have hr : ∀ q, vf.ownBlock = some q → base ≤ q := by
    intro q hq
    rcases h.row.2 with ⟨rfl, _⟩ | ⟨g, cap, cur, rfl, h2, _⟩
    · cases hq
    · have : g = q := by simpa [Value.ownBlock] using hq
      omega
  have s3 : W.heap.size ≤ (W.alloc o).heap.size := by simp
  exact Below.setCell (Below.grown (Below.alloc (gr_below g hz (by simp)) (by omega) o) hg (by omega) hr) (p := ⟨b, 3, none⟩) b1 x
def hearB (l p E A : Int) : Bool := decide (0 ≤ l ∧ l ≤ 1125899906842624) && lateB (l - p - E) A
def hearF (l p E A : Int) (cr : Nat) (fr : Int) (fs : List Hd) : List Hd := if hearB l p E A = true then fs ++ [⟨-(l - p - E), cr, fr⟩] else fs

set_option linter.unusedSimpArgs false in
theorem far_any (n : Int) (w : World) :
    Calls Tryz.prog 135 #[.int .i64 n] w fun e w' => e = .returned (.bool (!decide (0 ≤ n ∧ n ≤ 1125899906842624))) ∧ w = w' := by
  have h : (!decide (0 ≤ n ∧ n ≤ 1125899906842624)) = (decide (n < 0) || decide (1125899906842624 < n)) := by
    rw [Bool.eq_iff_iff]
    simp only [Bool.not_eq_true', decide_eq_false_iff_not, Bool.or_eq_true, decide_eq_true_eq]
    omega
  rw [h]
  clear h
  by_cases h1 : n < 0
  all_goals
    go_enter Tryz.func135, Tryz.ntmps135
    go_wp2_with fail
    go_ret
    refine ⟨?_, rfl⟩
    first | (simp [h1]; done) | (simp [h1]; omega)
theorem Tryz.info_hd : (Tryz.prog.info? 160).map (fun i => (i.zero, i.size, i.bytes)) = some (some (.agg #[.int .i64 0, .int .u32 0, .int .i64 0]), 3, 24) := by kernel_rfl

set_option maxRecDepth 100000 in
set_option maxHeartbeats 4000000 in
theorem hear_any (base b : Nat) (C E A cy l p : Int) (vf : Value) (fs : List Hd) (cr : Nat) (fr : Int) (w : World) (h : AlS base w b C E A vf fs) (hlen : fs.length ≤ 10) (hno : ∀ j, j < fs.length → (nthH fs j).fr ≠ fr)
    (h0 : 0 ≤ cy) (hC : 1 ≤ C) (hC1 : C ≤ 1073741824) (hp : Hid (cy * C = p)) (h1 : p ≤ 1125899906842624) (hE : 0 ≤ E ∧ E ≤ 4194304) (hA : 0 ≤ A ∧ A ≤ 4194304) (hcr : 0 < cr ∧ cr < 64) (hfr : 6 ≤ fr ∧ fr ≤ 7) :
    Calls Tryz.prog 82 #[.pointer (some ⟨b, 0, none⟩), .int .i64 cy, .int .i64 l, .agg #[.int .i64 2, .int .i64 fr, .int .i64 cy, .int .u32 (cr : Int), .int .i64 0]] w fun e w' => ∃ (x : Int) (vf' : Value), e = .returned (.int .i64 x) ∧ Hid (AlS base w' b C E A vf' (hearF l p E A cr fr fs)) ∧ Below base w w' := by
  have hp0 : 0 ≤ p := by rw [← hp.out]; exact Int.mul_nonneg h0 (by omega)
  have hcy1 : cy ≤ 1125899906842624 := by
    have h2 : cy ≤ cy * C := by have := Int.mul_le_mul_of_nonneg_left hC h0; omega
    rw [hp.out] at h2
    omega
  have hright : Hid (rightB 2 fr cy cr 0 = true) := hid (by
    unfold rightB inB
    rw [decide_eq_true (show 0 ≤ fr ∧ fr ≤ 7 by omega), decide_eq_true (show 0 ≤ cy ∧ cy ≤ 1125899906842624 by omega), decide_eq_true (show (cr : Int) < 64 by omega)]
    rfl)
  have HS := hid h
  have HNo := hid hno
  have Hbb := hid h.bb
  have Hlt := hid h.lt
  obtain ⟨cr0, cr1⟩ := hcr
  obtain ⟨fr0, fr1⟩ := hfr
  have hcz : ((cr : Int) == 0) = false := by simp; omega
  have hz : Hid (base ≤ w.heap.size) := hid (by have := h.bb; have := h.lt; omega)
  obtain ⟨v1, hv1⟩ : ∃ v, Hid (decide (0 ≤ l ∧ l ≤ 1125899906842624) = v) := ⟨_, hid rfl⟩
  have Hfc := hid (far_any cy)
  have Hfl : Hid (∀ w' : World, Calls Tryz.prog 135 #[.int .i64 l] w' fun e w2 => e = .returned (.bool (!v1)) ∧ w' = w2) := hid (fun w' => by rw [← hv1.out]; exact far_any l w')
  have Hfc2 : Hid (∀ w' : World, Calls Tryz.prog 135 #[.int .i64 cy] w' fun e w2 => e = .returned (.bool false) ∧ w' = w2) := hid (fun w' => by have := far_any cy w'; rw [decide_eq_true (show 0 ≤ cy ∧ cy ≤ 1125899906842624 by omega)] at this; exact this)
  obtain ⟨n, hn⟩ : ∃ n, Hid (fs.length = n) := ⟨_, hid rfl⟩
  obtain ⟨ad, cap, rfl⟩ : ∃ a cap, vf = .slice a n cap := by
    rw [← hn.out]
    rcases Nat.eq_zero_or_pos fs.length with h0 | h0
    · obtain ⟨a, cap, e⟩ := HS.out.none h0
      exact ⟨a, cap, by rw [h0]; exact e⟩
    · obtain ⟨g, cap, e, _⟩ := HS.out.cells h0
      exact ⟨_, cap, e⟩
  rw [hn.out] at hlen
  have e6 : decide (fr < 6) = false := decide_eq_false (by omega)
  clear h hno Hfc
  go_enter Tryz.func82, Tryz.ntmps82
  go_wp2_with fail
  refine (control_ok 2 fr cy cr 0 _ hright.out).mono ?_
  rintro e w1 ⟨⟨vv, rfl⟩, g1⟩
  have HB1 := hid (box_heap g1)
  have G1 := hid (bx_gr g1)
  have c0 := hcell HB1.out 0 _ rfl
  have c1 := hcell HB1.out 1 _ rfl
  have c2 := hcell HB1.out 2 _ rfl
  have c3 := hcell HB1.out 3 _ rfl
  have HS1 := hid (HS.out.grown G1.out)
  have a3 := hcell HS1.out.at_ 3 _ rfl
  clear g1
  cases v1
  · have hF : Hid (hearF l p E A cr fr fs = fs) := hid (by unfold hearF hearB; rw [hv1.out, if_neg (by simp)])
    go_wp2_with (go_at_call 135; first | (refine (Hfc2.out _).mono ?_; rintro e w' ⟨rfl, rfl⟩) | (refine (Hfl.out _).mono ?_; rintro e w' ⟨rfl, rfl⟩))
    go_ret
    exact ⟨_, _, rfl, hid (by rw [hF.out]; exact HS1.out), gr_below G1.out hz.out (by simp)⟩
  · have hl2 := of_decide_eq_true hv1.out
    go_wp2_with (go_at_call 135; first | (refine (Hfc2.out _).mono ?_; rintro e w' ⟨rfl, rfl⟩) | (refine (Hfl.out _).mono ?_; rintro e w' ⟨rfl, rfl⟩))
    have HG := hid (gr_refl w1 none)
    go_wp2_with (go_at_call 135; first | (refine (Hfc2.out _).mono ?_; rintro e w' ⟨rfl, rfl⟩) | (refine (Hfl.out _).mono ?_; rintro e w' ⟨rfl, rfl⟩))
    obtain ⟨wo, hwo⟩ : ∃ wo : World, wo = w1 := ⟨_, rfl⟩
    subst hwo
    go_loopw [54] (fun i wr => ∃ k : Nat, k ≤ n ∧ i = .int .i64 k ∧ Hid (wo.grownBy wr none)) (fun i _ => n - (intOf i).toNat)
    case atStart => exact ⟨0, Nat.zero_le _, rfl, hid (gr_refl _ none)⟩
    case round =>
      obtain ⟨k, hk, rfl, HGk⟩ := hrel
      by_cases hlt : k < n
      · obtain ⟨g, cap', hvf, hcap, hcl⟩ := (HS1.out.grown HGk.out).cells (by rw [hn.out]; omega)
        injection hvf with e1 _ e3
        subst e1
        subst e3
        obtain ⟨q0, q1, q2⟩ := hcl k (by rw [hn.out]; omega)
        have z1 : (wr.alloc (.cells #[.int .i64 (nthH fs k).by_, .int .u32 ((nthH fs k).cr : Int), .int .i64 (nthH fs k).fr] 160)).cell? ⟨w.heap.size, 1, none⟩ = some (.int .i64 fr) := gr_cell (gr_alloc HGk.out _) c1
        have hne : (((nthH fs k).fr : Int) == fr) = false := by simpa using HNo.out k (by rw [hn.out]; omega)
        have hk1 : k < cap := by rw [hn.out] at hcap; omega
        have hk2 : (k : Int) < n := by omega
        clear hcl
        go_wp2_with fail
        go_roundw
        case rel => exact ⟨k + 1, by omega, by go_num, hid (gr_alloc HGk.out _)⟩
        case measure => simp [intOf]; omega
      · obtain rfl : k = n := by omega
        clear hlt
        have HSr := hid (HS1.out.grown HGk.out)
        have HBr := hid ((gr_heap HGk.out HB1.out (by simp)))
        have HGr := hid (gr_trans G1.out HGk.out)
        clear HG HGk HB1 c0 c1 c2 c3 a3 HS1 G1
        go_wp2_with fail
        refine (alate_any b C E A cy l p _ wr HSr.out.at_ h0 hC hC1 hp h1 hE hA hl2).mono ?_
        rintro e wl ⟨⟨d, rfl, hd⟩, gl⟩
        have HSl := hid (HSr.out.grown gl)
        have HBl := hid (gr_heap gl HBr.out (by simp))
        have HGl := hid (gr_trans HGr.out gl)
        clear gl HSr HBr HGr
        have c1 := hcell HBl.out 1 _ rfl
        have c2 := hcell HBl.out 2 _ rfl
        have c3 := hcell HBl.out 3 _ rfl
        have a3 := hcell HSl.out.at_ 3 _ rfl
        obtain ⟨v2, hv2⟩ : ∃ v, Hid (lateB (l - p - E) A = v) := ⟨_, hid rfl⟩
        rw [hv2.out]
        rw [hv2.out] at hd
        cases v2
        · have hF : Hid (hearF l p E A cr fr fs = fs) := hid (by unfold hearF hearB; rw [hv1.out, hv2.out, if_neg (by simp)])
          go_wp2_with fail
          go_ret
          exact ⟨_, _, rfl, hid (by rw [hF.out]; exact HSl.out), gr_below HGl.out hz.out (by simp)⟩
        · have hd2 := hd.out rfl
          have hF : Hid (hearF l p E A cr fr fs = fs ++ [⟨-d, cr, fr⟩]) := hid (by unfold hearF hearB; rw [hv1.out, hv2.out, if_pos (by simp), hd2])
          obtain ⟨d0, d1⟩ : -A ≤ d ∧ d ≤ A := by
            have h2 := hv2.out
            unfold lateB at h2
            rw [← hd2] at h2
            simpa using h2
          have ws : IntKind.i64.wrap (-d) = -d := IntWalk.i64_in _ (by omega)
          clear hd hd2 hv2 hv1 Hfl Hfc2 HNo
          obtain ⟨i0, hi, hz0, hz1, hz2⟩ := info_parts Tryz.info_hd
          have hzl : Hid (base ≤ wl.heap.size) := hid (Nat.le_trans hz.out HGl.out.size)
          have HSd : Hid (AlS base wl.drew b C E A (.slice ad k cap) fs) := hid (HSl.out.grown (gr_drew (gr_refl wl none)))
          have HGd : Hid (w.grownBy wl.drew none) := hid (gr_drew HGl.out)
          have Hrow : Hid ((wl.drew.alloc (.cells #[.int .i64 (-d), .int .u32 (cr : Int), .int .i64 fr] 160)).ownsRow base 160 3 (.slice ad k cap) k (flatD fs)) := hid (by have := HSd.out.row.alloc (.cells #[.int .i64 (-d), .int .u32 (cr : Int), .int .i64 fr] 160); rw [hn.out] at this; exact this)
          have Hcl3 : Hid (∀ (j : Nat) (u : Value), [Value.int .i64 (-d), .int .u32 (cr : Int), .int .i64 fr][j]? = some u → (wl.drew.alloc (.cells #[.int .i64 (-d), .int .u32 (cr : Int), .int .i64 fr] 160)).cell? ((⟨wl.heap.size, 0, none⟩ : Addr).add j) = some u) := hid (cells3_new wl.drew _ _ _ _)
          have g3 : (wl.alloc (.cells #[.int .i64 (-d), .int .u32 (cr : Int), .int .i64 fr] 160)).cell? ⟨b, 3, none⟩ = some (.slice ad k cap) := gr_cell (gr_alloc (gr_refl wl none) _) a3
          go_wp2_with fail
          apply wp_behind (fun g c W => Hid (AlS base W b C E A (.slice (some ⟨g, 0, none⟩) (k + 1) c) (fs ++ [⟨-d, cr, fr⟩])) ∧ Hid (Below base w W))
          case h =>
            go_region_law (refine step_append_at rfl (.tmp 83) (.tmp 91) 153 rfl base 160 i0 (.agg #[.int .i64 0, .int .u32 0, .int .i64 0]) 3 24 Tryz.underlying153 hi hz0 hz1 hz2 rfl (by decide) (.slice ad k cap) k (flatD fs) (by simp [Act.eval]) Hrow.out ⟨wl.heap.size, 0, none⟩ 1 1 [.int .i64 (-d), .int .u32 (cr : Int), .int .i64 fr] (by simp [Act.eval]) rfl Hcl3.out (by simp [Value.oneCell']) (by unfold maxLen; omega) (by omega) (by have := hzl.out; simp; omega) ?_; intro v4 w4 hown4 hg4 hat4; obtain ⟨g4, cap4, rfl⟩ := own_slice hown4; have HN4 := hid (HSd.out.ne); have hb4 := gr_heap hg4 (gr_heap (gr_alloc (gr_refl wl.drew none) _) HSd.out.at_ (by simp)) (fun e => HN4.out e.symm); have k3 := hcell hb4 3 _ rfl; have z3 := hfroz hb4 3; clear hb4; have S5 := hid (AlS.push (x := ⟨-d, cr, fr⟩) HSd.out (by rw [hn.out]; exact hown4) hg4 hat4); have B5 := hid (push_below (x := .slice (some ⟨g4, 0, none⟩) (k + 1) cap4) HGd.out hz.out HSd.out hg4); clear hown4 hg4 hat4)
            all_goals exact ⟨g4, cap4, rfl, S5, B5⟩
          case k =>
            intro g4 cap4 w5 hS
            obtain ⟨S5, B5⟩ := hS
            go_wp2_with fail
            go_ret
            exact ⟨_, _, rfl, hid (by rw [hF.out]; exact S5.out), B5.out⟩
end Go.Proofs.YtckoaeoecjphiaaGreat
