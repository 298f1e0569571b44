/- Lemmas: The document's Times; rows. The document's entries: what is wrong with them. -/
import Derived.Test.YtckoaeoecjphiaaGreatK06

/- The document's Times; rows. -/
namespace Go.Proofs.YtckoaeoecjphiaaGreat
open Go.RowKit Go.Lib

theorem cells5 {w : World} {g : Nat} {a b c d e a' b' c' d' e' : Value} {t : TypeId} (h : w.heap[g]? = some (.cells #[a, b, c, d, e] t)) : (((((w.setCell ⟨g, 0, none⟩ a').setCell ⟨g, 1, none⟩ b').setCell ⟨g, 2, none⟩ c').setCell ⟨g, 3, none⟩ d').setCell ⟨g, 4, none⟩ e').heap[g]? = some (.cells #[a', b', c', d', e'] t) := by
  simp only [World.setCell, Array.getElem?_modify, if_true, h, Option.map_some]
  rfl
/-- The forwarding time and the latest, where the entry is plain. -/
def fwN (c : Cf) (x : Ent) : Int := x.ph + timeZ x.sz + c.de + 2 * c.pr
def ltN (c : Cf) (x : Ent) : Int := fwN c x + timeZ x.sz + c.de + c.pr

set_option maxHeartbeats 400000 in
theorem rtimes_any (c : Cf) (vd ve vl : Value) (x : Ent) (w : World) (hsp : spansZ c = true) (hph : -1125899906842624 ≤ x.ph ∧ x.ph ≤ 1125899906842624) :
    Calls Tryz.prog 97 #[cfV c vd ve vl, x.v] w fun e w' => e = .returned (.agg #[.int .i64 (x.ph + timeZ x.sz - c.pr), .int .i64 (x.ph + timeZ x.sz + c.de + c.pr), .int .i64 (fwN c x), .int .i64 (fwN c x + timeZ x.sz - c.pr), .int .i64 (ltN c x)]) ∧ w.grownBy w' none := by
  obtain ⟨⟨c0, c1⟩, ⟨d0, d1⟩, ⟨e0, e1⟩, ⟨f0, f1⟩⟩ := spansZ_bd hsp
  obtain ⟨p0, p1⟩ := hph
  have ht := timeZ_bd x.sz
  obtain ⟨T, hT⟩ : ∃ T, Hid (timeZ x.sz = T) := ⟨_, hid rfl⟩
  have htm : ∀ w' : World, Calls Tryz.prog 98 #[.int .i64 x.sz] w' fun e w2 => e = .returned (.int .i64 T) ∧ w' = w2 := by rw [← hT.out]; exact fun w' => rtime_any x.sz w'
  have Htm := hid htm
  rw [hT.out] at ht
  obtain ⟨t0, t1⟩ := ht
  obtain ⟨F, hF⟩ : ∃ F, Hid (fwN c x = F) := ⟨_, hid rfl⟩
  obtain ⟨L, hL⟩ : ∃ L, Hid (ltN c x = L) := ⟨_, hid rfl⟩
  have HF : Hid (x.ph + T + c.de + c.pr + c.pr = F) := hid (by rw [← hF.out, ← hT.out]; unfold fwN; omega)
  have HL : Hid (x.ph + T + c.de + c.pr + c.pr + T + c.de + c.pr = L) := hid (by rw [← hL.out, ← hT.out]; unfold ltN fwN; omega)
  rw [hF.out, hL.out, hT.out]
  have hb : Hid (∀ w1 : World, ((w.alloc (.cells #[.int .i64 c.ho, .int .i64 c.cy, .int .i64 c.de, .int .i64 c.wi, .int .i64 c.pr, vd, ve, vl, .int .i64 c.qu] 26)).alloc (.cells #[.int .i64 x.fr, .int .u32 (x.to : Int), .int .i64 x.ph, .int .i64 x.sz] 134)).grownBy w1 none → w.grownBy w1 none) := hid fun w1 g => bx_gr2 g
  clear hsp htm hT hF hL
  obtain ⟨fr, to, ph, sz⟩ := x
  obtain ⟨ho, cy, de, wi, pr, qu⟩ := c
  dsimp only at *
  obtain ⟨w0, hw0⟩ : ∃ w0, w0 = ((w.alloc (.cells #[.int .i64 ho, .int .i64 cy, .int .i64 de, .int .i64 wi, .int .i64 pr, vd, ve, vl, .int .i64 qu] 26)).alloc (.cells #[.int .i64 fr, .int .u32 (to : Int), .int .i64 ph, .int .i64 sz] 134)).alloc (.cells #[.int .i64 0, .int .i64 0, .int .i64 0, .int .i64 0, .int .i64 0] 176) := ⟨_, rfl⟩
  have gA : (((w.alloc (.cells #[.int .i64 ho, .int .i64 cy, .int .i64 de, .int .i64 wi, .int .i64 pr, vd, ve, vl, .int .i64 qu] 26)).alloc (.cells #[.int .i64 fr, .int .u32 (to : Int), .int .i64 ph, .int .i64 sz] 134)).alloc (.cells #[.int .i64 0, .int .i64 0, .int .i64 0, .int .i64 0, .int .i64 0] 176)).grownBy w0 none := by rw [hw0]; exact gr_refl _ none
  have k2 := hcell (box_heap1 (bx_gr gA)) 2 _ rfl
  have k4 := hcell (box_heap1 (bx_gr gA)) 4 _ rfl
  have q2 := hcell (box_heap2 (bx_gr gA)) 2 _ rfl
  have q3 := hcell (box_heap2 (bx_gr gA)) 3 _ rfl
  have zz : w0.heap[w.heap.size + 1 + 1]? = some (.cells #[.int .i64 0, .int .i64 0, .int .i64 0, .int .i64 0, .int .i64 0] 176) := by simpa using box_heap gA
  have ZZ := hid zz
  have fz := hfroz zz
  have G0 := hid (bx_gr2 (bx_gr gA))
  have Hw0 := hid hw0
  clear zz gA hw0 hb
  have z0 := hcell ZZ.out 0 _ rfl
  have z1 := hcell ZZ.out 1 _ rfl
  have z2 := hcell ZZ.out 2 _ rfl
  have z3 := hcell ZZ.out 3 _ rfl
  have z4 := hcell ZZ.out 4 _ rfl
  go_enter Tryz.func97, Tryz.ntmps97
  go_wp2_with fail
  rw [← Hw0.out]
  refine (Htm.out _).mono ?_
  rintro e w1 ⟨rfl, rfl⟩
  go_wp2_with fail
  refine bodyPost_ret (v := .agg #[.int .i64 (ph + T - pr), .int .i64 (ph + T + de + pr), .int .i64 (ph + T + de + pr + pr), .int .i64 (ph + T + de + pr + pr + T - pr), .int .i64 (ph + T + de + pr + pr + T + de + pr)]) ?_ rfl ⟨by rw [HL.out, HF.out], ?_⟩
  · have F5 := cells5 (a' := .int .i64 (ph + T - pr)) (b' := .int .i64 (ph + T + de + pr)) (c' := .int .i64 (ph + T + de + pr + pr)) (d' := .int .i64 (ph + T + de + pr + pr + T - pr)) (e' := .int .i64 (ph + T + de + pr + pr + T + de + pr)) ZZ.out
    clear z0 z1 z2 z3 z4 k2 k4 q2 q3 ZZ
    have r0 := hcell F5 0 _ rfl
    have r1 := hcell F5 1 _ rfl
    have r2 := hcell F5 2 _ rfl
    have r3 := hcell F5 3 _ rfl
    have r4 := hcell F5 4 _ rfl
    generalize (((((w0.setCell ⟨w.heap.size + 1 + 1, 0, none⟩ _).setCell ⟨w.heap.size + 1 + 1, 1, none⟩ _).setCell ⟨w.heap.size + 1 + 1, 2, none⟩ _).setCell ⟨w.heap.size + 1 + 1, 3, none⟩ _).setCell ⟨w.heap.size + 1 + 1, 4, none⟩ _) = W9 at *
    simp [results, Tryz.results97, go_sem, r0, r1, r2, r3, r4]
  · exact gr_setNew (gr_setNew (gr_setNew (gr_setNew (gr_setNew G0.out (by omega) 0 _) (by omega) 1 _) (by omega) 2 _) (by omega) 3 _) (by omega) 4 _

theorem any_takeR (rows : List (List Int)) (p : List Int → Bool) {k : Nat} (hk : k < rows.length) (h : (rows.take k).any p = false) (hp : p (nthR rows k) = false) : (rows.take (k + 1)).any p = false := by
  rw [List.take_succ_eq_append_getElem hk, List.any_append, h]
  unfold nthR at hp
  rw [List.getElem?_eq_getElem hk] at hp
  simpa using hp
theorem any_overR (rows : List (List Int)) (p : List Int → Bool) {k : Nat} (hk : k < rows.length) (hp : p (nthR rows k) = true) : rows.any p = true := by
  rw [List.any_eq_true]
  exact ⟨_, nthR_mem hk, hp⟩

set_option maxRecDepth 100000 in
set_option maxHeartbeats 1000000 in
theorem rrows_any (d : Net) (vd ve vl : Value) (w : World) (hN : NetAt w.heap.size w d vd ve vl) :
    Calls Tryz.prog 50 #[cfV d.cf vd ve vl] w fun e w' => e = .returned (.bool (rowsZ d)) ∧ w.grownBy w' none := by
  obtain ⟨c, rows, ents, lnks⟩ := d
  obtain ⟨dv, hr, hrr⟩ := hN.rows
  have hzz := hN.zr
  clear hN
  unfold rowsZ
  dsimp only at *
  obtain ⟨r, hres⟩ : ∃ r, Hid ((decide ((rows.length : Int) = c.ho) && !rows.any (badR c.de)) = r) := ⟨_, hid rfl⟩
  rw [hres.out]
  obtain ⟨a, cap, hvd⟩ : ∃ a cap, Hid (vd = .slice a rows.length cap) := by
    rcases hr with ⟨a, cap, rfl, h0⟩ | ⟨b, off, cap, rfl, _⟩
    · exact ⟨a, cap, hid (by rw [show rows.length = 0 from h0])⟩
    · exact ⟨_, cap, hid rfl⟩
  have HR := hid hr; have HRR := hid hrr
  clear hr hrr
  obtain ⟨n, hn⟩ : ∃ n, Hid (rows.length = n) := ⟨_, hid rfl⟩
  rw [hn.out] at hvd hzz
  obtain ⟨w0, hw0⟩ : ∃ w0, w0 = w.alloc (.cells #[.int .i64 c.ho, .int .i64 c.cy, .int .i64 c.de, .int .i64 c.wi, .int .i64 c.pr, vd, ve, vl, .int .i64 c.qu] 26) := ⟨_, rfl⟩
  have gA : (w.alloc (.cells #[.int .i64 c.ho, .int .i64 c.cy, .int .i64 c.de, .int .i64 c.wi, .int .i64 c.pr, vd, ve, vl, .int .i64 c.qu] 26)).grownBy w0 none := by rw [hw0]; exact gr_refl _ none
  have HC : Hid (CfAt w0 w.heap.size c vd ve vl) := hid (box_heap gA)
  have G0 := hid (bx_gr gA)
  have HW := hid hw0
  clear gA hw0
  obtain ⟨ho, cy, de, wi, pr, qu⟩ := c
  dsimp only at *
  have k0 := hcell HC.out 0 _ rfl
  have k5 := hcell HC.out 5 _ rfl
  by_cases h2 : (n : Int) = ho
  · subst h2
    have hres2 : (!rows.any (badR de)) = r := by rw [← hres.out, hn.out]; simp
    have Hres := hid hres2
    clear hres hres2
    rw [hvd.out] at k5 HW HC HR ⊢
    go_enter Tryz.func50, Tryz.ntmps50
    go_wp2_with fail
    rw [← HW.out]
    clear k0 k5
    go_loopw [3] (fun i wr => ∃ k : Nat, k ≤ n ∧ i = .int .i64 k ∧ Hid ((rows.take k).any (badR de) = false) ∧ w0.grownBy wr none) (fun i _ => n - (intOf i).toNat)
    case atStart => exact ⟨0, Nat.zero_le _, rfl, hid rfl, gr_refl _ none⟩
    case round =>
      obtain ⟨k, hk, rfl, hno, g⟩ := hrel
      have hC := HC.out.kept g
      have k2 := hcell hC 2 _ rfl
      have k5 := hcell hC 5 _ rfl
      by_cases hlt : k < n
      · have hkr : k < rows.length := by rw [hn.out]; exact hlt
        rcases HR.out with ⟨_, _, _, h0⟩ | ⟨b, off, cap', e, _, _, hf⟩
        · exfalso; omega
        simp only [Value.slice.injEq] at e
        obtain ⟨rfl, hdrop, rfl⟩ := e
        clear hdrop
        have gw := gr_trans G0.out g
        have q0 : wr.cell? ⟨b, off + k, none⟩ = some (dv k) := by
          have h3 := gr_cell gw (hf k hkr 0 (by omega))
          rw [Nat.mul_one, Nat.add_zero] at h3
          exact h3
        have hrow := HRR.out k hkr
        obtain ⟨row, hrw⟩ : ∃ row, Hid (nthR rows k = row) := ⟨_, hid rfl⟩
        rw [hrw.out] at hrow
        obtain ⟨rv, hrv⟩ : ∃ rv, Hid (dv k = rv) := ⟨_, hid rfl⟩
        rw [hrv.out] at hrow q0
        obtain ⟨ra, rc, hrs⟩ : ∃ ra rc, Hid (rv = .slice ra row.length rc) := by
          rcases hrow with ⟨a, cap, rfl, h0⟩ | ⟨b, off, cap, rfl, _⟩
          · exact ⟨a, cap, hid (by rw [h0])⟩
          · exact ⟨_, cap, hid rfl⟩
        rw [hrs.out] at q0 hrow
        have Hrow := hid hrow
        clear hf hrow hrs hrv hC
        by_cases hl2 : row.length = 2
        · rcases Hrow.out with ⟨_, _, _, h0⟩ | ⟨b2, off2, cap2, e2, _, _, hf2⟩
          · exfalso; omega
          simp only [Value.slice.injEq] at e2
          obtain ⟨rfl, hdrop, rfl⟩ := e2
          clear hdrop
          have Hf2 := hid hf2
          have G := hid g
          have HL2 := hid hl2
          rw [hl2] at q0
          have hk2 : (k : Int) < n := by omega
          have Q := hid (And.intro q0 (And.intro k2 k5))
          clear hf2 gw hl2 Hrow
          go_wp2_with fail
          obtain ⟨wo, hwo⟩ : ∃ wo : World, wo = wr := ⟨_, rfl⟩
          subst hwo
          go_loopw [4] (fun i w2 => ∃ j : Nat, j ≤ 2 ∧ i = .int .i64 j ∧ Hid ((row.take j).any (badN de) = false) ∧ wo.grownBy w2 none) (fun i _ => 2 - (intOf i).toNat)
          case atStart => exact ⟨0, by omega, rfl, hid rfl, gr_refl _ none⟩
          case round =>
            obtain ⟨j, hj, rfl, hnj, gj⟩ := hrel
            by_cases hj2 : j < 2
            · obtain ⟨q0, k2, k5⟩ := Q.out
              have q0 := gr_cell gj q0
              have k2 := gr_cell gj k2
              have k5 := gr_cell gj k5
              obtain ⟨y, hy⟩ : ∃ y, Hid (nth row j = y) := ⟨_, hid rfl⟩
              have x0 : wr.cell? ⟨b2, off2 + j, none⟩ = some (.int .i64 y) := by
                have h3 := gr_cell (gr_trans G0.out (gr_trans G.out gj)) (Hf2.out j (by rw [HL2.out]; exact hj2) 0 (by omega))
                rw [Nat.mul_one, Nat.add_zero] at h3
                rw [← hy.out]
                exact h3
              have a0 : (0 : Int) ≤ (k : Int) := by omega
              have a1 : (k : Int) < n := by omega
              have a2 : (0 : Int) ≤ (j : Int) := by omega
              have a3 : (j : Int) < 2 := by omega
              have hbn : Hid (badN de y = (decide (y < 0) || decide (de < y))) := hid (by unfold badN inZ; rw [Bool.eq_iff_iff]; simp only [Bool.not_eq_true', decide_eq_false_iff_not, Bool.or_eq_true, decide_eq_true_eq]; omega)
              have htk : Hid ((row.take (j + 1)).any (badN de) = badN de y) := hid (by
                have h4 : j < row.length := by rw [HL2.out]; exact hj2
                rw [List.take_succ_eq_append_getElem h4, List.any_append, hnj.out, ← hy.out]
                unfold nth
                rw [List.getElem?_eq_getElem h4]
                simp)
              have hbad : Hid (badN de y = true → rows.any (badR de) = true) := hid (fun h5 => any_overR rows _ hkr (by
                rw [hrw.out]
                unfold badR
                have h6 : row.any (badN de) = true := by
                  rw [List.any_eq_true]
                  exact ⟨y, by rw [← hy.out]; unfold nth; rw [List.getElem?_eq_getElem (by rw [HL2.out]; exact hj2)]; exact List.getElem_mem _, h5⟩
                rw [h6, Bool.or_true]))
              by_cases hy0 : y < 0
              · go_wp2_with fail
                go_quiet (fail)
                go_wp2_with fail
                go_ret
                exact ⟨congrArg (fun b => Ending.returned (.bool b)) (by rw [← Hres.out, hbad.out (by rw [hbn.out, decide_eq_true hy0]; rfl)]; rfl), gr_drewN (gr_trans G0.out (gr_trans G.out gj)) _⟩
              · have hy1 : 0 ≤ y := by omega
                have hd0 : decide (y < 0) = false := decide_eq_false hy0
                clear hy0
                by_cases hy2 : de < y
                · go_wp2_with fail
                  go_quiet (fail)
                  go_wp2_with fail
                  go_ret
                  exact ⟨congrArg (fun b => Ending.returned (.bool b)) (by rw [← Hres.out, hbad.out (by rw [hbn.out, decide_eq_true hy2, Bool.or_true])]; rfl), gr_drewN (gr_trans G0.out (gr_trans G.out gj)) _⟩
                · have hy3 : y ≤ de := by omega
                  have hnx : Hid ((row.take (j + 1)).any (badN de) = false) := hid (by rw [htk.out, hbn.out, hd0, decide_eq_false hy2]; rfl)
                  clear hy2
                  go_wp2_with fail
                  go_quiet (fail)
                  go_wp2_with fail
                  go_roundw
                  case rel => exact ⟨j + 1, by omega, by go_num, hnx, gr_drewN gj _⟩
                  case measure => simp [intOf]; omega
            · obtain rfl : j = 2 := by omega
              have hrowb : Hid ((rows.take (k + 1)).any (badR de) = false) := hid (any_takeR rows _ hkr hno.out (by
                rw [hrw.out]
                unfold badR
                have h6 := hnj.out
                rw [List.take_of_length_le (by rw [HL2.out]; exact Nat.le_refl _)] at h6
                rw [h6, HL2.out]
                rfl))
              clear hj2 q0 k2 k5
              go_wp2_with fail
              go_roundw
              case rel => first | exact ⟨k + 1, by omega, by go_num, hrowb, gr_trans G.out gj⟩ | ((repeat apply Exists.intro); exact ⟨⟨k + 1, by omega, by go_num, hrowb, gr_trans G.out gj⟩, rfl⟩)
              case measure => simp [intOf]; omega
        · have hl2' : ((row.length : Int) != 2) = true := by simp; omega
          have hbad : rows.any (badR de) = true := any_overR rows _ hkr (by rw [hrw.out]; unfold badR; rw [decide_eq_false hl2]; rfl)
          have hk2 : (k : Int) < n := by omega
          clear hl2
          go_wp2_with fail
          go_ret
          exact ⟨congrArg (fun b => Ending.returned (.bool b)) (by rw [← Hres.out, hbad]; rfl), gw⟩
      · obtain rfl : k = n := by omega
        have hall : rows.any (badR de) = false := by
          have h3 := hno.out
          rw [List.take_of_length_le (by rw [hn.out]; exact Nat.le_refl _)] at h3
          exact h3
        clear hlt
        go_wp2_with fail
        go_ret
        exact ⟨congrArg (fun b => Ending.returned (.bool b)) (by rw [← Hres.out, hall]; rfl), gr_trans G0.out g⟩
  · have hn' : ((n : Int) != ho) = true := by simpa using h2
    have hres2 : false = r := by rw [← hres.out, hn.out, decide_eq_false h2]; rfl
    clear h2 hres
    have Hres := hid hres2
    clear hres2
    rw [hvd.out] at k5 HW ⊢
    go_enter Tryz.func50, Tryz.ntmps50
    go_wp2_with fail
    go_ret
    exact ⟨congrArg (fun b => Ending.returned (.bool b)) Hres.out, HW.out ▸ G0.out⟩
end Go.Proofs.YtckoaeoecjphiaaGreat

/- The document's entries: what is wrong with them. -/
namespace Go.Proofs.YtckoaeoecjphiaaGreat
open Go.RowKit Go.Lib

set_option maxRecDepth 100000 in
set_option maxHeartbeats 2000000 in
theorem rentries5 (c : Cf) (ents : List Ent) (vd ve vl : Value) (w : World) (hs : SliceAt w.heap.size w ve 4 ents.length (entF (nthE ents))) (hte : ∀ e ∈ ents, e.to < 4294967296) (hze : ents.length ≤ 140737488351232) (h0 : 1 ≤ c.ho) (h1 : c.ho ≤ 6) :
    Calls Tryz.prog 51 #[cfV c vd ve vl, .int .i64 5] w fun e w' => e = .returned (.bool (decide (16 < ents.length) || ents.any (badRoute c))) ∧ w.grownBy w' none := by
  obtain ⟨r, hres⟩ : ∃ r, Hid ((decide (16 < ents.length) || ents.any (badRoute c)) = r) := ⟨_, hid rfl⟩
  rw [hres.out]
  obtain ⟨n, hn⟩ : ∃ n, Hid (ents.length = n) := ⟨_, hid rfl⟩
  rw [hn.out] at hze hs
  obtain ⟨a, cap, hve⟩ : ∃ a cap, Hid (ve = .slice a n cap) := by
    rcases hs with ⟨a, cap, rfl, h0⟩ | ⟨b, off, cap, rfl, _⟩
    · exact ⟨a, cap, hid (by rw [h0])⟩
    · exact ⟨_, cap, hid rfl⟩
  have HS := hid hs
  clear hs
  obtain ⟨w0, hw0⟩ : ∃ w0, w0 = w.alloc (.cells #[.int .i64 c.ho, .int .i64 c.cy, .int .i64 c.de, .int .i64 c.wi, .int .i64 c.pr, vd, ve, vl, .int .i64 c.qu] 26) := ⟨_, rfl⟩
  have gA : (w.alloc (.cells #[.int .i64 c.ho, .int .i64 c.cy, .int .i64 c.de, .int .i64 c.wi, .int .i64 c.pr, vd, ve, vl, .int .i64 c.qu] 26)).grownBy w0 none := by rw [hw0]; exact gr_refl _ none
  have HC : Hid (CfAt w0 w.heap.size c vd ve vl) := hid (box_heap gA)
  have G0 := hid (bx_gr gA)
  have HW := hid hw0
  clear gA hw0
  rw [hve.out] at HW HC HS ⊢
  have HB : Hid (∀ k, k < n → ∃ b off, a = some ⟨b, off, none⟩ ∧ ∀ wr : World, w.grownBy wr none → wr.cell? ⟨b, off + k * 4, none⟩ = some (.int .i64 (nthE ents k).fr) ∧ wr.cell? ⟨b, off + k * 4 + 1, none⟩ = some (.int .u32 ((nthE ents k).to : Int)) ∧ wr.cell? ⟨b, off + k * 4 + 2, none⟩ = some (.int .i64 (nthE ents k).ph) ∧ wr.cell? ⟨b, off + k * 4 + 3, none⟩ = some (.int .i64 (nthE ents k).sz)) := hid (fun k hk => by
    rcases HS.out with ⟨_, _, e, h0⟩ | ⟨b, off, cap', e, _, _, hf⟩
    · exfalso; omega
    · simp only [Value.slice.injEq] at e
      exact ⟨b, off, e.1, fun wr g => ⟨gr_cell g (hf k hk 0 (by omega)), gr_cell g (hf k hk 1 (by omega)), gr_cell g (hf k hk 2 (by omega)), gr_cell g (hf k hk 3 (by omega))⟩⟩)
  have HM : Hid (∀ k, k < n → nthE ents k ∈ ents) := hid (fun k hk => nthE_mem (by rw [hn.out]; exact hk))
  clear HS
  have HRt : Hid (∀ k, k < n → ∀ w' : World, Calls Tryz.prog 52 #[.int .i64 c.ho, .int .i64 (nthE ents k).fr, .int .u32 ((nthE ents k).to : Int), .int .i64 (nthE ents k).sz] w' fun e w2 => e = .returned (.bool (!badRoute c (nthE ents k))) ∧ w' = w2) := hid (fun k hk w' => by
    unfold badRoute
    rw [Bool.not_not]
    exact rroute_any c.ho _ _ _ w' h0 h1 (hid (hte _ (HM.out k hk))))
  clear hte
  have k6 := hcell HC.out 6 _ rfl
  by_cases h16 : 16 < n
  · have h16' : (16 : Int) < n := by omega
    have Hres : Hid (true = r) := hid (by rw [← hres.out, hn.out, decide_eq_true h16]; rfl)
    clear h16 hres
    obtain ⟨ho, cy, de, wi, pr, qu⟩ := c
    dsimp only at *
    go_enter Tryz.func51, Tryz.ntmps51
    go_wp2_with fail
    go_ret
    exact ⟨congrArg (fun b => Ending.returned (.bool b)) Hres.out, HW.out ▸ G0.out⟩
  have h16' : (n : Int) ≤ 16 := by omega
  have Hres : Hid (ents.any (badRoute c) = r) := hid (by rw [← hres.out, hn.out, decide_eq_false h16]; rfl)
  clear h16 hres
  have BAD : Hid (∀ k, k < n → badRoute c (nthE ents k) = true → true = r) := hid (fun k hk h => by rw [← Hres.out]; symm; rw [List.any_eq_true]; exact ⟨_, HM.out k hk, h⟩)
  have FIN : Hid ((∀ k, k < n → badRoute c (nthE ents k) = false) → false = r) := hid (fun h => by
    rw [← Hres.out]; symm; rw [List.any_eq_false]
    intro x hx
    obtain ⟨j, hj, rfl⟩ := List.getElem_of_mem hx
    have := h j (by rw [← hn.out]; exact hj)
    unfold nthE at this
    rw [List.getElem?_eq_getElem hj] at this
    simpa using this)
  clear Hres
  obtain ⟨ho, cy, de, wi, pr, qu⟩ := c
  dsimp only at *
  go_enter Tryz.func51, Tryz.ntmps51
  go_wp2_with fail
  rw [← HW.out]
  clear k6
  go_loopw [5] (fun i wr => ∃ k : Nat, k ≤ n ∧ i = .int .i64 k ∧ Hid (∀ j, j < k → badRoute ⟨ho, cy, de, wi, pr, qu⟩ (nthE ents j) = false) ∧ w0.grownBy wr none) (fun i _ => n - (intOf i).toNat)
  case atStart => exact ⟨0, Nat.zero_le _, rfl, hid (fun j hj => absurd hj (Nat.not_lt_zero _)), gr_refl _ none⟩
  case round =>
    obtain ⟨k, hk, rfl, hno, g⟩ := hrel
    obtain ⟨wo, hwo⟩ : ∃ wo : World, wo = wr := ⟨_, rfl⟩
    subst hwo
    have G := hid g
    have k6 := hcell (HC.out.kept g) 6 _ rfl
    by_cases hlt : k < n
    · obtain ⟨b, off, rfl, hq⟩ := HB.out k hlt
      obtain ⟨q0, q1, q2, q3⟩ := hq wo (gr_trans G0.out g)
      obtain ⟨x, hx⟩ : ∃ x, Hid (nthE ents k = x) := ⟨_, hid rfl⟩
      rw [hx.out] at q0 q1 q2 q3
      obtain ⟨W1, hW1⟩ : ∃ W1, W1 = wo.alloc (.cells #[.int .i64 x.fr, .int .u32 (x.to : Int), .int .i64 x.ph, .int .i64 x.sz] 134) := ⟨_, rfl⟩
      have gB : (wo.alloc (.cells #[.int .i64 x.fr, .int .u32 (x.to : Int), .int .i64 x.ph, .int .i64 x.sz] 134)).grownBy W1 none := by rw [hW1]; exact gr_refl _ none
      have HX : Hid (W1.heap[wo.heap.size]? = some (.cells #[.int .i64 x.fr, .int .u32 (x.to : Int), .int .i64 x.ph, .int .i64 x.sz] 134)) := hid (box_heap gB)
      have HG1 : Hid (wo.grownBy W1 none) := hid (bx_gr gB)
      have HC1 := hid (HC.out.kept (gr_trans G.out HG1.out))
      have HW1 := hid hW1
      have hk2 : (k : Int) < n := by omega
      have hk0 : (0 : Int) ≤ (k : Int) := by omega
      clear gB hW1 hq g
      obtain ⟨v, hv⟩ : ∃ v, Hid (badRoute ⟨ho, cy, de, wi, pr, qu⟩ x = v) := ⟨_, hid rfl⟩
      have hrt := HRt.out k hlt
      rw [hx.out, hv.out] at hrt
      have Hrt := hid hrt
      have j0 := hcell HC1.out 0 _ rfl
      rw [HW1.out] at j0
      clear hrt
      go_wp2_with fail
      rw [← HW1.out]
      clear k6 q0 q1 q2 q3 j0
      refine (Hrt.out _).mono ?_
      rintro e w2 ⟨rfl, rfl⟩
      cases v
      · go_wp2_with fail
        refine wp_region_grown (by kernel_rfl) (by kernel_rfl) ?_
        repeat (go_big_quiet_step (fail))
        refine wpQuiet_nil ?_
        rintro _ ⟨⟨w7, g7⟩, rfl⟩
        have hnx : Hid (∀ j, j < k + 1 → badRoute ⟨ho, cy, de, wi, pr, qu⟩ (nthE ents j) = false) := hid (fun j hj => by
          by_cases h : j < k
          · exact hno.out j h
          · obtain rfl : j = k := by omega
            rw [hx.out]; exact hv.out)
        have gfin := hid (gr_trans (gr_trans G.out HG1.out) g7)
        go_wp2_with fail
        refine wp_loop_rounds 1 ?_
        rw [rounds_succ]
        go_wp2_with fail
        all_goals
          go_roundw
          case rel => first | exact ⟨k + 1, by omega, by go_num, hnx, gfin.out⟩ | ((repeat apply Exists.intro); exact ⟨⟨k + 1, by omega, by go_num, hnx, gfin.out⟩, rfl⟩)
          case measure => simp [intOf]; omega
      · go_wp2_with fail
        go_ret
        exact ⟨congrArg (fun b => Ending.returned (.bool b)) (BAD.out k hlt (by rw [hx.out]; exact hv.out)), gr_trans G0.out (gr_trans G.out HG1.out)⟩
    · obtain rfl : k = n := by omega
      clear hlt
      go_wp2_with fail
      go_ret
      exact ⟨congrArg (fun b => Ending.returned (.bool b)) (FIN.out hno.out), gr_trans G0.out g⟩
end Go.Proofs.YtckoaeoecjphiaaGreat
