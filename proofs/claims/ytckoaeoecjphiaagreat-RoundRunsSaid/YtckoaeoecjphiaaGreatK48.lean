/- Lemmas: The document's round: Hear. -/
import Derived.Test.YtckoaeoecjphiaaGreatK40
import Derived.Test.YtckoaeoecjphiaaGreatK26
import Derived.Test.YtckoaeoecjphiaaGreatK36
import Derived.BigQuiet

/- The document's round: Hear. -/
namespace Go.Proofs.YtckoaeoecjphiaaGreat
open Go.RowKit Go.Lib

/-- A frame that was heard, as the document keeps it. -/
def h12 (p E cy : Int) (x : Hd) : List Value := [.int .i64 (p + E - x.by_), .int .i64 2, .int .i64 x.fr, .int .i64 cy, .int .u32 (x.cr : Int), .int .i64 0]
theorem h12_length (p E cy : Int) (x : Hd) : (h12 p E cy x).length = 6 := rfl
def flatH (p E cy : Int) (fs : List Hd) : List Value := fs.flatMap (h12 p E cy)
theorem flatH_snoc (p E cy : Int) (fs : List Hd) (x : Hd) : flatH p E cy (fs ++ [x]) = flatH p E cy fs ++ h12 p E cy x := by simp [flatH]
theorem flatH_len (p E cy : Int) (fs : List Hd) : (flatH p E cy fs).length = fs.length * 6 := by
  induction fs with
  | nil => rfl
  | cons x l ih =>
    have e : flatH p E cy (x :: l) = h12 p E cy x ++ flatH p E cy l := by simp [flatH]
    rw [e, List.length_append, ih, h12_length, List.length_cons]
    omega
theorem flatH_at {p E cy : Int} {fs : List Hd} {i c : Nat} (hi : i < fs.length) (hc : c < 6) : (flatH p E cy fs)[i * 6 + c]? = (h12 p E cy (nthH fs i))[c]? := by
  induction fs generalizing i with
  | nil => simp at hi
  | cons x l ih =>
    have e : flatH p E cy (x :: l) = h12 p E cy x ++ flatH p E cy l := by simp [flatH]
    rw [e]
    cases i with
    | zero =>
      rw [List.getElem?_append_left (by rw [h12_length]; omega)]
      simp [nthH]
    | succ i =>
      rw [List.getElem?_append_right (by rw [h12_length]; omega), h12_length]
      have e2 : (i + 1) * 6 + c - 6 = i * 6 + c := by omega
      rw [e2, ih (by simpa using hi)]
      simp [nthH]
/-- The frames that were heard, in memory of their own. -/
def KH (W : World) (base : Nat) (v : Value) (p E cy : Int) (fs : List Hd) : Prop := W.ownsRow base 174 6 v fs.length (flatH p E cy fs)
theorem KH.grown {W W' : World} {base : Nat} {v : Value} {p E cy : Int} {fs : List Hd} (h : KH W base v p E cy fs) (g : W.grownBy W' none) : KH W' base v p E cy fs := World.ownsRow.kept h g (by cases v.ownBlock <;> simp)
theorem KH.cells {W : World} {base : Nat} {v : Value} {p E cy : Int} {fs : List Hd} (h : KH W base v p E cy fs) (h1 : 0 < fs.length) : ∃ g cap, v = .slice (some ⟨g, 0, none⟩) fs.length cap ∧ fs.length ≤ cap ∧ (base ≤ g ∧ g < W.heap.size) ∧ ∀ W' : World, W'.heap[g]? = W.heap[g]? → ∀ i, i < fs.length → ∀ c x, c < 6 → (h12 p E cy (nthH fs i))[c]? = some x → W'.cell? ⟨g, i * 6 + c, none⟩ = some x := by
  have hl := flatH_len p E cy fs
  have h' : W.ownsRow base 174 6 v fs.length (flatH p E cy fs) := h
  rcases h'.2 with ⟨_, h0⟩ | ⟨g, cap, cur, rfl, hb, hh, hc, _⟩
  · omega
  · refine ⟨g, cap, rfl, hc, ⟨hb, (Array.getElem?_eq_some_iff.1 hh).1⟩, fun W' hW i hi c x hc6 hx => ?_⟩
    rw [World.cell?_of_block (w := W) (a := ⟨g, i * 6 + c, none⟩) hW, h'.cellAt (i * 6 + c) (by omega), flatH_at hi hc6, hx]
theorem Tryz.info_h12 : (Tryz.prog.info? 174).map (fun i => (i.zero, i.size, i.bytes)) = some (some (.agg #[.int .i64 0, .int .i64 0, .int .i64 0, .int .i64 0, .int .u32 0, .int .i64 0]), 6, 48) := by kernel_rfl
theorem KH.snoc {W : World} {base n cr : Nat} {v : Value} {p E cy l fr : Int} {fs : List Hd} (hn : fs.length = n) (h : W.ownsRow base 174 6 v (n + 1) (flatH p E cy fs ++ [.int .i64 l, .int .i64 2, .int .i64 fr, .int .i64 cy, .int .u32 (cr : Int), .int .i64 0])) : KH W base v p E cy (fs ++ [⟨-(l - p - E), cr, fr⟩]) := by
  unfold KH
  rw [flatH_snoc, List.length_append, hn]
  have e1 : p + E - -(l - p - E) = l := by omega
  unfold h12
  rw [e1]
  exact h
set_option maxRecDepth 100000 in
set_option maxHeartbeats 4000000 in
theorem rhear12_any (base : Nat) (c : Cf) (vd ve vl v : Value) (fs : List Hd) (cy l p : Int) (cr : Nat) (fr : Int) (w : World) (hk : KH w base v p (expZ c) cy fs) (hbase : base ≤ w.heap.size) (hlen : fs.length ≤ 10) (hno : ∀ j, j < fs.length → (nthH fs j).fr ≠ fr)
    (hsp : spansZ c = true) (hp : Hid (cy * c.cy = p)) (h0 : 0 ≤ cy ∧ cy ≤ 562949953421312) (h1 : 0 ≤ p ∧ p ≤ 562949953421312) (hcr : 0 < cr ∧ cr < 64) (hfr : 6 ≤ fr ∧ fr ≤ 7) :
    Calls Tryz.prog 92 #[v, cfV c vd ve vl, .int .i64 cy, .int .i64 l, .agg #[.int .i64 2, .int .i64 fr, .int .i64 cy, .int .u32 (cr : Int), .int .i64 0]] w fun e w' => ∃ (x : Int) (v' : Value), e = .returned (.tuple #[v', .int .i64 x]) ∧ Hid (KH w' base v' p (expZ c) cy (hearF l p (expZ c) (accZ c) cr fr fs)) ∧ Hid (Below base w w') := by
  have HR := hid (rright_any 2 fr cy (cr : Int) 0)
  have hright : rightB 2 fr cy (cr : Int) 0 = true := by
    unfold rightB inB
    rw [decide_eq_true (show 0 ≤ fr ∧ fr ≤ 7 by omega), decide_eq_true (show 0 ≤ cy ∧ cy ≤ 1125899906842624 by omega), decide_eq_true (show (cr : Int) < 64 by omega)]
    rfl
  rw [hright] at HR
  obtain ⟨v2, hv2⟩ : ∃ v, Hid (lateB (l - p - expZ c) (accZ c) = v) := ⟨_, hid rfl⟩
  have HIT : Hid (0 ≤ l ∧ l ≤ 1125899906842624 → ∀ W : World, Calls Tryz.prog 140 #[cfV c vd ve vl, .int .i64 cy, .int .i64 l] W fun e w' => e = .returned (.bool v2) ∧ W.grownBy w' none) := hid (fun hl W => by rw [← hv2.out]; exact rintime_any c vd ve vl cy l p W hsp hp h1 hl)
  obtain ⟨E, hE⟩ : ∃ x, Hid (expZ c = x) := ⟨_, hid rfl⟩
  obtain ⟨A, hA⟩ : ∃ x, Hid (accZ c = x) := ⟨_, hid rfl⟩
  rw [hE.out, hA.out] at hv2
  rw [hE.out] at hk
  rw [hE.out, hA.out]
  clear hright hsp hp hE hA
  have HK := hid hk
  have HNo := hid hno
  have Hb := hid hbase
  obtain ⟨n, hn⟩ : ∃ n, Hid (fs.length = n) := ⟨_, hid rfl⟩
  obtain ⟨a, cap, hv⟩ := own_form hk
  rw [hn.out] at hv
  subst hv
  rw [hn.out] at hlen
  obtain ⟨c0, c1⟩ := h0
  obtain ⟨r0, r1⟩ := hcr
  obtain ⟨f0, f1⟩ := hfr
  have hcz : ((cr : Int) == 0) = false := by simp; omega
  obtain ⟨ho, C, de, wi, pr, qu⟩ := c
  clear hk hno hbase h1
  by_cases hl : 0 ≤ l ∧ l ≤ 1125899906842624
  · have HT := hid (HIT.out hl)
    obtain ⟨l0, l1⟩ := hl
    clear HIT
    go_enter Tryz.func92, Tryz.ntmps92
    go_wp2_with fail
    obtain ⟨W0, hW0⟩ : ∃ W0, (w.alloc (.cells #[.int .i64 ho, .int .i64 C, .int .i64 de, .int .i64 wi, .int .i64 pr, vd, ve, vl, .int .i64 qu] 26)).alloc (.cells #[.int .i64 2, .int .i64 fr, .int .i64 cy, .int .u32 (cr : Int), .int .i64 0] 150) = W0 := ⟨_, rfl⟩
    have hB0 := hid (show W0.heap[w.heap.size]? = some (.cells #[.int .i64 ho, .int .i64 C, .int .i64 de, .int .i64 wi, .int .i64 pr, vd, ve, vl, .int .i64 qu] 26) by rw [← hW0]; exact box_heap1 (gr_refl _ none))
    have hB1 := hid (show W0.heap[w.heap.size + 1]? = some (.cells #[.int .i64 2, .int .i64 fr, .int .i64 cy, .int .u32 (cr : Int), .int .i64 0] 150) by rw [← hW0]; exact box_heap2 (gr_refl _ none))
    have g0 := hid (show w.grownBy W0 none by rw [← hW0]; exact gr_alloc (gr_alloc (gr_refl w none) _) _)
    rw [hW0]
    clear hW0
    have b0 := hcell hB1.out 0 _ rfl
    have b1 := hcell hB1.out 1 _ rfl
    have b2 := hcell hB1.out 2 _ rfl
    have b3 := hcell hB1.out 3 _ rfl
    have b4 := hcell hB1.out 4 _ rfl
    go_wp2_with fail
    refine (HR.out _).mono ?_
    rintro e w1 ⟨rfl, g1⟩
    have H0 := hid (gr_heap g1 hB0.out (by simp))
    have H1 := hid (gr_heap g1 hB1.out (by simp))
    have G1 := hid (gr_trans g0.out g1)
    clear g1 g0 hB0 hB1 b0 b1 b2 b3 b4
    have b0 := hcell H1.out 0 _ rfl
    have b1 := hcell H1.out 1 _ rfl
    have b2 := hcell H1.out 2 _ rfl
    have b3 := hcell H1.out 3 _ rfl
    have b4 := hcell H1.out 4 _ rfl
    go_wp2_with fail
    clear b0 b1 b2 b3 b4
    go_loopw [12] (fun vi wr => ∃ i : Nat, vi = .int .i64 i ∧ i ≤ n ∧ Hid (w1.grownBy wr none)) (fun vi _ => n - (intOf vi).toNat)
    case atStart => exact ⟨0, rfl, Nat.zero_le _, hid (gr_refl w1 none)⟩
    case round =>
      obtain ⟨i, rfl, hi, HG⟩ := hrel
      have H1r := hid (gr_heap HG.out H1.out (by simp))
      have b1 := hcell H1r.out 1 _ rfl
      by_cases hin : i < n
      · have hi2 : (i : Int) < (n : Int) := by omega
        obtain ⟨g, cap', hg, hcap, ⟨hg0, hg1⟩, hcells⟩ := HK.out.cells (by rw [hn.out]; omega)
        rw [hn.out] at hg hcap
        injection hg with hga _ hgc
        subst hga hgc
        have hic : i < cap := by omega
        have q2 := hcells wr ((gr_trans G1.out HG.out).block g hg1 (by simp)) i (by rw [hn.out]; exact hin) 2 _ (by omega) rfl
        have hne : ((nthH fs i).fr == fr) = false := by
          have := HNo.out i (by rw [hn.out]; exact hin)
          simpa using this
        obtain ⟨y, hy⟩ : ∃ y, (nthH fs i).fr = y := ⟨_, rfl⟩
        rw [hy] at q2 hne
        clear hcells hg0 hg1 hy
        go_wp2_with fail
        go_quiet (fail)
        go_wp2_with fail
        go_roundw
        case rel => exact ⟨i + 1, by go_num, by omega, hid (gr_drewN HG.out _)⟩
        case measure => simp [intOf]; omega
      · obtain rfl : i = n := by omega
        clear hin
        have H0r := hid (gr_heap HG.out H0.out (by simp))
        have GR := hid (gr_trans G1.out HG.out)
        have m0 := hcell H0r.out 0 _ rfl
        have m1 := hcell H0r.out 1 _ rfl
        have m2 := hcell H0r.out 2 _ rfl
        have m3 := hcell H0r.out 3 _ rfl
        have m4 := hcell H0r.out 4 _ rfl
        have m5 := hcell H0r.out 5 _ rfl
        have m6 := hcell H0r.out 6 _ rfl
        have m7 := hcell H0r.out 7 _ rfl
        have m8 := hcell H0r.out 8 _ rfl
        have b2 := hcell H1r.out 2 _ rfl
        clear b1
        have hin1 : Hid ((decide (0 ≤ l ∧ l ≤ 1125899906842624)) = true) := hid (decide_eq_true ⟨l0, l1⟩)
        cases v2
        · have hF : Hid (hearF l p E A cr fr fs = fs) := hid (by unfold hearF hearB; rw [hv2.out, hin1.out]; rfl)
          go_wp2_with fail
          refine (HT.out _).mono ?_
          rintro e w2 ⟨rfl, g2⟩
          have G2 := hid (gr_trans GR.out g2)
          clear g2 m0 m1 m2 m3 m4 m5 m6 m7 m8 b2
          go_wp2_with fail
          go_ret2
          exact ⟨_, _, rfl, hid (by rw [hF.out]; exact HK.out.grown G2.out), hid (gr_below G2.out Hb.out (by simp))⟩
        · have hF : Hid (hearF l p E A cr fr fs = fs ++ [⟨-(l - p - E), cr, fr⟩]) := hid (by unfold hearF hearB; rw [hv2.out, hin1.out]; rfl)
          obtain ⟨i0, hi0, hz0, hz1, hz2⟩ := info_parts Tryz.info_h12
          go_wp2_with fail
          refine (HT.out _).mono ?_
          rintro e w2 ⟨rfl, g2⟩
          have G2 := hid (gr_trans GR.out g2)
          have H2 := hid (gr_heap g2 H1r.out (by simp))
          clear g2 m0 m1 m2 m3 m4 m5 m6 m7 m8 b2
          have b0 := hcell H2.out 0 _ rfl
          have b1 := hcell H2.out 1 _ rfl
          have b2 := hcell H2.out 2 _ rfl
          have b3 := hcell H2.out 3 _ rfl
          have b4 := hcell H2.out 4 _ rfl
          have HK2 : Hid (w2.ownsRow base 174 6 (.slice a i cap) i (flatH p E cy fs)) := hid (by have := HK.out.grown G2.out; unfold KH at this; rw [hn.out] at this; exact this)
          have Hb2 := hid (Nat.le_trans Hb.out G2.out.size)
          go_wp2_with (at_builtin; refine wpList_append_own_at _ rfl (.tmp 76) (.tmp 80) 112 rfl base 174 i0 (.agg #[.int .i64 0, .int .i64 0, .int .i64 0, .int .i64 0, .int .u32 0, .int .i64 0]) 6 48 Tryz.underlying112 hi0 hz0 hz1 hz2 rfl (by decide) _ i _ rfl (HK2.out.alloc _) ⟨w2.heap.size, 0, none⟩ 1 1 [.int .i64 l, .int .i64 2, .int .i64 fr, .int .i64 cy, .int .u32 (cr : Int), .int .i64 0] rfl rfl (kcells_new w2 _ _) (by simp [Value.oneCell']) (by unfold maxLen; omega) (by omega) (by have := Hb2.out; simp; omega) ?_; intro v4 w4 hown4 hg4 _ hat4; have HO4 := hid (KH.snoc hn.out hown4); have HB4 : Hid (Below base w w4) := hid ((gr_below (gr_alloc G2.out _) Hb.out (by simp)).trans (gr_below hg4 (by have := Hb2.out; simp; omega) (fun q hq => (HK2.out.lt q hq).1))); clear hown4 hg4 hat4)
          go_ret2
          exact ⟨_, _, rfl, hid (by rw [hF.out]; exact HO4.out), HB4⟩
  · clear HIT
    have hF : Hid (hearF l p E A cr fr fs = fs) := hid (by unfold hearF hearB; rw [decide_eq_false hl]; rfl)
    rw [hF.out]
    by_cases hl0 : l < 0
    all_goals
      have hl1 := hl0
      go_enter Tryz.func92, Tryz.ntmps92
      go_wp2_with fail
      obtain ⟨W0, hW0⟩ : ∃ W0, (w.alloc (.cells #[.int .i64 ho, .int .i64 C, .int .i64 de, .int .i64 wi, .int .i64 pr, vd, ve, vl, .int .i64 qu] 26)).alloc (.cells #[.int .i64 2, .int .i64 fr, .int .i64 cy, .int .u32 (cr : Int), .int .i64 0] 150) = W0 := ⟨_, rfl⟩
      have hB1 := hid (show W0.heap[w.heap.size + 1]? = some (.cells #[.int .i64 2, .int .i64 fr, .int .i64 cy, .int .u32 (cr : Int), .int .i64 0] 150) by rw [← hW0]; exact box_heap2 (gr_refl _ none))
      have g0 := hid (show w.grownBy W0 none by rw [← hW0]; exact gr_alloc (gr_alloc (gr_refl w none) _) _)
      rw [hW0]
      clear hW0
      have b0 := hcell hB1.out 0 _ rfl
      have b1 := hcell hB1.out 1 _ rfl
      have b2 := hcell hB1.out 2 _ rfl
      have b3 := hcell hB1.out 3 _ rfl
      have b4 := hcell hB1.out 4 _ rfl
      go_wp2_with fail
      refine (HR.out _).mono ?_
      rintro e w1 ⟨rfl, g1⟩
      have H1 := hid (gr_heap g1 hB1.out (by simp))
      have G1 := hid (gr_trans g0.out g1)
      clear g1 g0 hB1 b0 b1 b2 b3 b4
      have b0 := hcell H1.out 0 _ rfl
      have b1 := hcell H1.out 1 _ rfl
      have b2 := hcell H1.out 2 _ rfl
      have b3 := hcell H1.out 3 _ rfl
      have b4 := hcell H1.out 4 _ rfl
      have hl2 : l < 0 ∨ 1125899906842624 < l := by omega
      go_wp2_with fail
      go_ret2
      exact ⟨_, _, rfl, hid (HK.out.grown G1.out), hid (gr_below G1.out Hb.out (by simp))⟩
end Go.Proofs.YtckoaeoecjphiaaGreat
