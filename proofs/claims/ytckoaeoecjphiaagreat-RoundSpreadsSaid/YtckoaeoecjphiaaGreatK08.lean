/- Lemmas: The document's entries at 6. -/
import Derived.Test.YtckoaeoecjphiaaGreatK07

/- The document's entries at 6. -/
namespace Go.Proofs.YtckoaeoecjphiaaGreat
open Go.RowKit Go.Lib

set_option maxRecDepth 100000 in
set_option maxHeartbeats 2000000 in
theorem rentries6 (c : Cf) (ents : List Ent) (vd ve vl : Value) (w : World) (hs : SliceAt w.heap.size w ve 4 ents.length (entF (nthE ents))) (hze : ents.length ≤ 140737488351232) (hsp : spansZ c = true) (hpl : ∀ e ∈ ents, quietZ c ≤ e.ph → e.ph < c.cy → plainZ c e = true) :
    Calls Tryz.prog 51 #[cfV c vd ve vl, .int .i64 6] w fun e w' => e = .returned (.bool (ents.any (bad6 c))) ∧ w.grownBy w' none := by
  obtain ⟨r, hres⟩ : ∃ r, Hid ((ents.any (bad6 c)) = r) := ⟨_, hid rfl⟩
  rw [hres.out]
  obtain ⟨n, hn⟩ : ∃ n, Hid (ents.length = n) := ⟨_, hid rfl⟩
  rw [hn.out] at hze hs
  obtain ⟨a, cap, hve⟩ : ∃ a cap, Hid (ve = .slice a n cap) := by
    rcases hs with ⟨a, cap, rfl, h0⟩ | ⟨b, off, cap, rfl, _⟩
    · exact ⟨a, cap, hid (by rw [h0])⟩
    · exact ⟨_, cap, hid rfl⟩
  have HS := hid hs
  clear hs
  obtain ⟨w0, hw0⟩ : ∃ w0, w0 = w.alloc (.cells #[.int .i64 c.ho, .int .i64 c.cy, .int .i64 c.de, .int .i64 c.wi, .int .i64 c.pr, vd, ve, vl, .int .i64 c.qu] 26) := ⟨_, rfl⟩
  have gA : (w.alloc (.cells #[.int .i64 c.ho, .int .i64 c.cy, .int .i64 c.de, .int .i64 c.wi, .int .i64 c.pr, vd, ve, vl, .int .i64 c.qu] 26)).grownBy w0 none := by rw [hw0]; exact gr_refl _ none
  have HC : Hid (CfAt w0 w.heap.size c vd ve vl) := hid (box_heap gA)
  have G0 := hid (bx_gr gA)
  have HW := hid hw0
  clear gA hw0
  rw [hve.out] at HW HC HS ⊢
  have HB : Hid (∀ k, k < n → ∃ b off, a = some ⟨b, off, none⟩ ∧ ∀ wr : World, w.grownBy wr none → wr.cell? ⟨b, off + k * 4, none⟩ = some (.int .i64 (nthE ents k).fr) ∧ wr.cell? ⟨b, off + k * 4 + 1, none⟩ = some (.int .u32 ((nthE ents k).to : Int)) ∧ wr.cell? ⟨b, off + k * 4 + 2, none⟩ = some (.int .i64 (nthE ents k).ph) ∧ wr.cell? ⟨b, off + k * 4 + 3, none⟩ = some (.int .i64 (nthE ents k).sz)) := hid (fun k hk => by
    rcases HS.out with ⟨_, _, e, h0⟩ | ⟨b, off, cap', e, _, _, hf⟩
    · exfalso; omega
    · simp only [Value.slice.injEq] at e
      exact ⟨b, off, e.1, fun wr g => ⟨gr_cell g (hf k hk 0 (by omega)), gr_cell g (hf k hk 1 (by omega)), gr_cell g (hf k hk 2 (by omega)), gr_cell g (hf k hk 3 (by omega))⟩⟩)
  have HM : Hid (∀ k, k < n → nthE ents k ∈ ents) := hid (fun k hk => nthE_mem (by rw [hn.out]; exact hk))
  clear HS
  have BAD : Hid (∀ k, k < n → bad6 c (nthE ents k) = true → true = r) := hid (fun k hk h => by rw [← hres.out]; symm; rw [List.any_eq_true]; exact ⟨_, HM.out k hk, h⟩)
  have FIN : Hid ((∀ k, k < n → bad6 c (nthE ents k) = false) → false = r) := hid (fun h => by
    rw [← hres.out]; symm; rw [List.any_eq_false]
    intro x hx
    obtain ⟨j, hj, rfl⟩ := List.getElem_of_mem hx
    have := h j (by rw [← hn.out]; exact hj)
    unfold nthE at this
    rw [List.getElem?_eq_getElem hj] at this
    simpa using this)
  have HPL : Hid (∀ k, k < n → quietZ c ≤ (nthE ents k).ph → (nthE ents k).ph < c.cy → plainZ c (nthE ents k) = true) := hid (fun k hk => hpl _ (HM.out k hk))
  have HSP := hid hsp
  obtain ⟨⟨cy0, cy1⟩, _⟩ := spansZ_bd hsp
  obtain ⟨Q, hQ⟩ : ∃ Q, Hid (quietZ c = Q) := ⟨_, hid rfl⟩
  have HQ : Hid (∀ w' : World, Calls Tryz.prog 96 #[cfV c vd (.slice a n cap) vl] w' fun e w2 => e = .returned (.int .i64 Q) ∧ w'.grownBy w2 none) := hid (fun w' => by rw [← hQ.out]; exact rquiet_any c vd _ vl w' hsp)
  have HQ0 : 0 ≤ Q := by rw [← hQ.out]; have := spansZ_bd hsp; unfold quietZ; omega
  clear hpl hsp hres
  have k6 := hcell HC.out 6 _ rfl
  obtain ⟨ho, cy, de, wi, pr, qu⟩ := c
  dsimp only at *
  go_enter Tryz.func51, Tryz.ntmps51
  go_wp2_with fail
  rw [← HW.out]
  clear k6
  go_loopw [5] (fun i wr => ∃ k : Nat, k ≤ n ∧ i = .int .i64 k ∧ Hid (∀ j, j < k → bad6 ⟨ho, cy, de, wi, pr, qu⟩ (nthE ents j) = false) ∧ w0.grownBy wr none) (fun i _ => n - (intOf i).toNat)
  case atStart => exact ⟨0, Nat.zero_le _, rfl, hid (fun j hj => absurd hj (Nat.not_lt_zero _)), gr_refl _ none⟩
  case round =>
    obtain ⟨k, hk, rfl, hno, g⟩ := hrel
    obtain ⟨wo, hwo⟩ : ∃ wo : World, wo = wr := ⟨_, rfl⟩
    subst hwo
    have G := hid g
    have k6 := hcell (HC.out.kept g) 6 _ rfl
    by_cases hlt : k < n
    · obtain ⟨b, off, rfl, hq⟩ := HB.out k hlt
      obtain ⟨q0, q1, q2, q3⟩ := hq wo (gr_trans G0.out g)
      obtain ⟨x, hx⟩ : ∃ x, Hid (nthE ents k = x) := ⟨_, hid rfl⟩
      rw [hx.out] at q0 q1 q2 q3
      obtain ⟨W1, hW1⟩ : ∃ W1, W1 = wo.alloc (.cells #[.int .i64 x.fr, .int .u32 (x.to : Int), .int .i64 x.ph, .int .i64 x.sz] 134) := ⟨_, rfl⟩
      have gB : (wo.alloc (.cells #[.int .i64 x.fr, .int .u32 (x.to : Int), .int .i64 x.ph, .int .i64 x.sz] 134)).grownBy W1 none := by rw [hW1]; exact gr_refl _ none
      have HX : Hid (W1.heap[wo.heap.size]? = some (.cells #[.int .i64 x.fr, .int .u32 (x.to : Int), .int .i64 x.ph, .int .i64 x.sz] 134)) := hid (box_heap gB)
      have HG1 : Hid (wo.grownBy W1 none) := hid (bx_gr gB)
      have HC1 := hid (HC.out.kept (gr_trans G.out HG1.out))
      have HW1 := hid hW1
      have hk2 : (k : Int) < n := by omega
      have hk0 : (0 : Int) ≤ (k : Int) := by omega
      clear gB hW1 hq g
      obtain ⟨v1, hv1⟩ : ∃ v, decide (x.ph < Q) = v := ⟨_, rfl⟩
      obtain ⟨v2, hv2⟩ : ∃ v, decide (cy ≤ x.ph) = v := ⟨_, rfl⟩
      obtain ⟨L, hL⟩ : ∃ L, Hid (ltN ⟨ho, cy, de, wi, pr, qu⟩ x = L) := ⟨_, hid rfl⟩
      obtain ⟨v3, hv3⟩ : ∃ v, decide (cy ≤ L) = v := ⟨_, rfl⟩
      have HV := hid (And.intro hv1 (And.intro hv2 hv3))
      have hb6 : Hid (bad6 ⟨ho, cy, de, wi, pr, qu⟩ x = (v1 || (v2 || v3))) := hid (by
        unfold bad6
        rw [hQ.out, hv1, hv2]
        cases v1
        · cases v2
          · have h1 := of_decide_eq_false hv1
            have h2 := of_decide_eq_false hv2
            have hp := HPL.out k hlt (by rw [hQ.out, hx.out]; omega) (by rw [hx.out]; omega)
            rw [hx.out] at hp
            have e : lateZ ⟨ho, cy, de, wi, pr, qu⟩ x = L := by
              rw [← hL.out]
              unfold lateZ ltN forwardZ fwN
              rw [if_pos hp, if_pos hp]
            rw [e, hv3]
          · rfl
        · rfl)
      obtain ⟨a0, ha0⟩ : ∃ a, Hid (x.ph + timeZ x.sz - pr = a) := ⟨_, hid rfl⟩
      obtain ⟨a1, ha1⟩ : ∃ a, Hid (x.ph + timeZ x.sz + de + pr = a) := ⟨_, hid rfl⟩
      obtain ⟨a2, ha2⟩ : ∃ a, Hid (fwN ⟨ho, cy, de, wi, pr, qu⟩ x = a) := ⟨_, hid rfl⟩
      obtain ⟨a3, ha3⟩ : ∃ a, Hid (a2 + timeZ x.sz - pr = a) := ⟨_, hid rfl⟩
      have HT : Hid (v1 = false → v2 = false → ∀ w' : World, Calls Tryz.prog 97 #[cfV ⟨ho, cy, de, wi, pr, qu⟩ vd (.slice (some ⟨b, off, none⟩) n cap) vl, x.v] w' fun e w2 => e = .returned (.agg #[.int .i64 a0, .int .i64 a1, .int .i64 a2, .int .i64 a3, .int .i64 L]) ∧ w'.grownBy w2 none) := hid (fun e1 e2 w' => by
        have h1 := of_decide_eq_false (hv1.trans e1)
        have h2 := of_decide_eq_false (hv2.trans e2)
        rw [← hL.out, ← ha0.out, ← ha1.out, ← ha3.out, ← ha2.out]
        exact rtimes_any ⟨ho, cy, de, wi, pr, qu⟩ vd _ vl x w' HSP.out (by omega))
      have hix : ∀ w', (Instr.index 176 (.agg #[.int .i64 a0, .int .i64 a1, .int .i64 a2, .int .i64 a3, .int .i64 L]) (.int .i64 4)).run Tryz.prog w' = .ok (.int .i64 L) w' := fun _ => by kernel_rfl
      have n0 := grn_cell (hcell HC1.out 0 _ rfl)
      have n1 := grn_cell (hcell HC1.out 1 _ rfl)
      have n2 := grn_cell (hcell HC1.out 2 _ rfl)
      have n3 := grn_cell (hcell HC1.out 3 _ rfl)
      have n4 := grn_cell (hcell HC1.out 4 _ rfl)
      have n5 := grn_cell (hcell HC1.out 5 _ rfl)
      have n6 := grn_cell (hcell HC1.out 6 _ rfl)
      have n7 := grn_cell (hcell HC1.out 7 _ rfl)
      have n8 := grn_cell (hcell HC1.out 8 _ rfl)
      have m0 := grn_cell (hcell HX.out 0 _ rfl)
      have m1 := grn_cell (hcell HX.out 1 _ rfl)
      have m2 := grn_cell (hcell HX.out 2 _ rfl)
      have m3 := grn_cell (hcell HX.out 3 _ rfl)
      have N := hid (And.intro n0 (And.intro n1 (And.intro n2 (And.intro n3 (And.intro n4 (And.intro n5 (And.intro n6 (And.intro n7 (And.intro n8 (And.intro m0 (And.intro m1 (And.intro m2 m3))))))))))))
      clear n0 n1 n2 n3 n4 n5 n6 n7 n8 m0 m1 m2 m3 hv1 hv2 hv3
      go_wp2_with fail
      rw [← HW1.out]
      clear k6 q0 q1 q2 q3
      have hbd := HV.out
      obtain ⟨hv1, hv2, hv3⟩ := hbd
      obtain ⟨n0, n1, n2, n3, n4, n5, n6, n7, n8, m0, m1, m2, m3⟩ := N.out
      obtain ⟨fr, to, ph, sz⟩ := x
      dsimp only at *
      cases v1 <;> cases v2 <;> cases v3
      all_goals
        go_wp2_with fail
        refine wp_region_grown (by kernel_rfl) (by kernel_rfl) ?_
        repeat (go_big_quiet_step (first
          | (go_at_call 96; refine (HQ.out _).mono ?_; rintro e w6 ⟨rfl, g6⟩; exact ⟨rfl, ⟨_, gr_trans (Grn.gr _) g6⟩, rfl⟩)
          | (go_at_call 97; refine (HT.out (by trivial) (by trivial) _).mono ?_; rintro e w6 ⟨rfl, g6⟩; exact ⟨rfl, ⟨_, gr_trans (Grn.gr _) g6⟩, rfl⟩)))
        refine wpQuiet_nil ?_
        rintro _ ⟨⟨w7, g7⟩, rfl⟩
        have gfin := hid (gr_trans (gr_trans G.out HG1.out) g7)
        clear n0 n1 n2 n3 n4 n5 n6 n7 n8 m0 m1 m2 m3
      all_goals
        first
          | (go_wp2_with fail
             go_ret
             exact ⟨congrArg (fun b => Ending.returned (.bool b)) (BAD.out k hlt (by rw [hx.out, hb6.out]; rfl)), gr_trans G0.out gfin.out⟩)
          | (have hnx : Hid (∀ j, j < k + 1 → bad6 ⟨ho, cy, de, wi, pr, qu⟩ (nthE ents j) = false) := hid (fun j hj => by
               by_cases h : j < k
               · exact hno.out j h
               · obtain rfl : j = k := by omega
                 rw [hx.out, hb6.out]; rfl)
             go_wp2_with fail
             refine wp_loop_rounds 1 ?_
             rw [rounds_succ]
             go_wp2_with fail
             all_goals
               go_roundw
               case rel => first | exact ⟨k + 1, by omega, by go_num, hnx, gfin.out⟩ | ((repeat apply Exists.intro); exact ⟨⟨k + 1, by omega, by go_num, hnx, gfin.out⟩, rfl⟩)
               case measure => simp [intOf]; omega)
    · obtain rfl : k = n := by omega
      clear hlt
      go_wp2_with fail
      go_ret
      exact ⟨congrArg (fun b => Ending.returned (.bool b)) (FIN.out hno.out), gr_trans G0.out g⟩
end Go.Proofs.YtckoaeoecjphiaaGreat
