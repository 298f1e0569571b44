/- Lemmas: The document's entries at 7. -/
import Derived.Test.YtckoaeoecjphiaaGreatK08

/- The document's entries at 7. -/
namespace Go.Proofs.YtckoaeoecjphiaaGreat
open Go.RowKit Go.Lib

set_option maxRecDepth 100000 in
set_option maxHeartbeats 2000000 in
theorem rentries7 (c : Cf) (ents : List Ent) (vd ve vl : Value) (w : World) (hs : SliceAt w.heap.size w ve 4 ents.length (entF (nthE ents))) (hze : ents.length ≤ 140737488351232) (hph : ∀ e ∈ ents, -1125899906842624 ≤ e.ph ∧ e.ph ≤ 1125899906842624) :
    Calls Tryz.prog 51 #[cfV c vd ve vl, .int .i64 7] w fun e w' => e = .returned (.bool (pairsB bad7 ents)) ∧ w.grownBy w' none := by
  obtain ⟨r, hres⟩ : ∃ r, Hid ((pairsB bad7 ents) = r) := ⟨_, hid rfl⟩
  rw [hres.out]
  obtain ⟨n, hn⟩ : ∃ n, Hid (ents.length = n) := ⟨_, hid rfl⟩
  rw [hn.out] at hze hs
  obtain ⟨a, cap, hve⟩ : ∃ a cap, Hid (ve = .slice a n cap) := by
    rcases hs with ⟨a, cap, rfl, h0⟩ | ⟨b, off, cap, rfl, _⟩
    · exact ⟨a, cap, hid (by rw [h0])⟩
    · exact ⟨_, cap, hid rfl⟩
  have HS := hid hs
  clear hs
  obtain ⟨w0, hw0⟩ : ∃ w0, w0 = w.alloc (.cells #[.int .i64 c.ho, .int .i64 c.cy, .int .i64 c.de, .int .i64 c.wi, .int .i64 c.pr, vd, ve, vl, .int .i64 c.qu] 26) := ⟨_, rfl⟩
  have gA : (w.alloc (.cells #[.int .i64 c.ho, .int .i64 c.cy, .int .i64 c.de, .int .i64 c.wi, .int .i64 c.pr, vd, ve, vl, .int .i64 c.qu] 26)).grownBy w0 none := by rw [hw0]; exact gr_refl _ none
  have HC : Hid (CfAt w0 w.heap.size c vd ve vl) := hid (box_heap gA)
  have G0 := hid (bx_gr gA)
  have HW := hid hw0
  clear gA hw0
  rw [hve.out] at HW HC HS ⊢
  have HB : Hid (∀ k, k < n → ∃ b off, a = some ⟨b, off, none⟩ ∧ ∀ wr : World, w.grownBy wr none → wr.cell? ⟨b, off + k * 4, none⟩ = some (.int .i64 (nthE ents k).fr) ∧ wr.cell? ⟨b, off + k * 4 + 1, none⟩ = some (.int .u32 ((nthE ents k).to : Int)) ∧ wr.cell? ⟨b, off + k * 4 + 2, none⟩ = some (.int .i64 (nthE ents k).ph) ∧ wr.cell? ⟨b, off + k * 4 + 3, none⟩ = some (.int .i64 (nthE ents k).sz)) := hid (fun k hk => by
    rcases HS.out with ⟨_, _, e, h0⟩ | ⟨b, off, cap', e, _, _, hf⟩
    · exfalso; omega
    · simp only [Value.slice.injEq] at e
      exact ⟨b, off, e.1, fun wr g => ⟨gr_cell g (hf k hk 0 (by omega)), gr_cell g (hf k hk 1 (by omega)), gr_cell g (hf k hk 2 (by omega)), gr_cell g (hf k hk 3 (by omega))⟩⟩)
  have HM : Hid (∀ k, k < n → nthE ents k ∈ ents) := hid (fun k hk => nthE_mem (by rw [hn.out]; exact hk))
  clear HS
  have BAD : Hid (∀ i j, j < i → i < n → (bad7) (nthE ents i) (nthE ents j) = true → true = r) := hid (fun i j hj hi h => by
    rw [← hres.out]; symm; unfold pairsB; rw [List.any_eq_true]
    refine ⟨i, List.mem_range.2 (by rw [hn.out]; exact hi), ?_⟩
    rw [List.any_eq_true]
    exact ⟨j, List.mem_range.2 hj, h⟩)
  have FIN : Hid ((∀ i, i < n → ∀ j, j < i → (bad7) (nthE ents i) (nthE ents j) = false) → false = r) := hid (fun h => by
    rw [← hres.out]; symm; unfold pairsB; rw [List.any_eq_false]
    intro i hi
    rw [Bool.not_eq_true, List.any_eq_false]
    intro j hj
    rw [h i (by rw [← hn.out]; exact List.mem_range.1 hi) j (List.mem_range.1 hj)]
    simp)
  have HPH : Hid (∀ k, k < n → -1125899906842624 ≤ (nthE ents k).ph ∧ (nthE ents k).ph ≤ 1125899906842624) := hid (fun k hk => hph _ (HM.out k hk))
  clear hph hres
  have k6 := hcell HC.out 6 _ rfl
  obtain ⟨ho, cy, de, wi, pr, qu⟩ := c
  dsimp only at *
  go_enter Tryz.func51, Tryz.ntmps51
  go_wp2_with fail
  rw [← HW.out]
  clear k6
  go_loopw [5] (fun i wr => ∃ k : Nat, k ≤ n ∧ i = .int .i64 k ∧ Hid (∀ i, i < k → ∀ j, j < i → (bad7) (nthE ents i) (nthE ents j) = false) ∧ w0.grownBy wr none) (fun i _ => n - (intOf i).toNat)
  case atStart => exact ⟨0, Nat.zero_le _, rfl, hid (fun j hj => absurd hj (Nat.not_lt_zero _)), gr_refl _ none⟩
  case round =>
    obtain ⟨k, hk, rfl, hno, g⟩ := hrel
    obtain ⟨wo, hwo⟩ : ∃ wo : World, wo = wr := ⟨_, rfl⟩
    subst hwo
    have G := hid g
    have k6 := hcell (HC.out.kept g) 6 _ rfl
    by_cases hlt : k < n
    · obtain ⟨b, off, rfl, hq⟩ := HB.out k hlt
      obtain ⟨q0, q1, q2, q3⟩ := hq wo (gr_trans G0.out g)
      obtain ⟨x, hx⟩ : ∃ x, Hid (nthE ents k = x) := ⟨_, hid rfl⟩
      rw [hx.out] at q0 q1 q2 q3
      obtain ⟨W1, hW1⟩ : ∃ W1, W1 = wo.alloc (.cells #[.int .i64 x.fr, .int .u32 (x.to : Int), .int .i64 x.ph, .int .i64 x.sz] 134) := ⟨_, rfl⟩
      have gB : (wo.alloc (.cells #[.int .i64 x.fr, .int .u32 (x.to : Int), .int .i64 x.ph, .int .i64 x.sz] 134)).grownBy W1 none := by rw [hW1]; exact gr_refl _ none
      have HX : Hid (W1.heap[wo.heap.size]? = some (.cells #[.int .i64 x.fr, .int .u32 (x.to : Int), .int .i64 x.ph, .int .i64 x.sz] 134)) := hid (box_heap gB)
      have HG1 : Hid (wo.grownBy W1 none) := hid (bx_gr gB)
      have HC1 := hid (HC.out.kept (gr_trans G.out HG1.out))
      have HW1 := hid hW1
      have hk2 : (k : Int) < n := by omega
      have hk0 : (0 : Int) ≤ (k : Int) := by omega
      clear gB hW1 hq g
      go_wp2_with fail
      rw [← HW1.out]
      clear k6 q0 q1 q2 q3
      refine wp_region_grown (by kernel_rfl) (by kernel_rfl) ?_
      repeat (go_big_quiet_step (fail))
      refine wpQuiet_nil ?_
      rintro w7 ⟨X7, hX7⟩
      have g7 : W1.grownBy w7 none := hX7 ▸ X7.gr
      clear hX7 X7
      have G7 := hid (gr_trans (gr_trans G.out HG1.out) g7)
      have HX7 := hid (gr_heap g7 HX.out (by simp))
      clear g7 HX
      go_wp2_with fail
      go_loopw [7] (fun jv w2 => ∃ j : Nat, j ≤ k ∧ jv = .int .i64 j ∧ Hid (∀ t, t < j → (bad7) x (nthE ents t) = false) ∧ w7.grownBy w2 none) (fun jv _ => k - (intOf jv).toNat)
      case atStart => exact ⟨0, Nat.zero_le _, rfl, hid (fun j hj => absurd hj (Nat.not_lt_zero _)), gr_refl _ none⟩
      case round =>
        obtain ⟨j, hj, rfl, hnj, gj⟩ := hrel
        have GJ := hid gj
        have hjk : (j : Int) ≤ (k : Int) := by omega
        by_cases hlj : j < k
        · have hjk2 : (j : Int) < (k : Int) := by omega
          have hjn : j < n := by omega
          have hjn2 : (j : Int) < n := by omega
          have hj0 : (0 : Int) ≤ (j : Int) := by omega
          obtain ⟨b', off', ea, hq⟩ := HB.out j hjn
          simp only [Option.some.injEq, Addr.mk.injEq, and_true] at ea
          obtain ⟨rfl, rfl⟩ := ea
          obtain ⟨q0, q1, q2, q3⟩ := hq wr (gr_trans G0.out (gr_trans G7.out gj))
          obtain ⟨y, hy⟩ : ∃ y, Hid (nthE ents j = y) := ⟨_, hid rfl⟩
          rw [hy.out] at q0 q1 q2 q3
          have k6 := hcell (HC.out.kept (gr_trans G7.out gj)) 6 _ rfl
          obtain ⟨W2, hW2⟩ : ∃ W2, W2 = wr.alloc (.cells #[.int .i64 y.fr, .int .u32 (y.to : Int), .int .i64 y.ph, .int .i64 y.sz] 134) := ⟨_, rfl⟩
          have gB : (wr.alloc (.cells #[.int .i64 y.fr, .int .u32 (y.to : Int), .int .i64 y.ph, .int .i64 y.sz] 134)).grownBy W2 none := by rw [hW2]; exact gr_refl _ none
          have HY : Hid (W2.heap[wr.heap.size]? = some (.cells #[.int .i64 y.fr, .int .u32 (y.to : Int), .int .i64 y.ph, .int .i64 y.sz] 134)) := hid (box_heap gB)
          have HG2 : Hid (wr.grownBy W2 none) := hid (bx_gr gB)
          have HX2 : Hid (W2.heap[wo.heap.size]? = some (.cells #[.int .i64 x.fr, .int .u32 (x.to : Int), .int .i64 x.ph, .int .i64 x.sz] 134)) := hid (gr_heap (gr_trans gj HG2.out) HX7.out (by simp))
          have HC2 := hid (HC.out.kept (gr_trans G7.out (gr_trans gj HG2.out)))
          have HW2 := hid hW2
          have htx := timeZ_bd x.sz
          have hty := timeZ_bd y.sz
          obtain ⟨Tx, hTx⟩ : ∃ T, Hid (timeZ x.sz = T) := ⟨_, hid rfl⟩
          obtain ⟨Ty, hTy⟩ : ∃ T, Hid (timeZ y.sz = T) := ⟨_, hid rfl⟩
          have Htx : Hid (∀ w' : World, Calls Tryz.prog 98 #[.int .i64 x.sz] w' fun e w2 => e = .returned (.int .i64 Tx) ∧ w2 = w') := hid (fun w' => by rw [← hTx.out]; exact (rtime_any x.sz w').mono fun _ _ h => ⟨h.1, h.2.symm⟩)
          have Hty : Hid (∀ w' : World, Calls Tryz.prog 98 #[.int .i64 y.sz] w' fun e w2 => e = .returned (.int .i64 Ty) ∧ w2 = w') := hid (fun w' => by rw [← hTy.out]; exact (rtime_any y.sz w').mono fun _ _ h => ⟨h.1, h.2.symm⟩)
          rw [hTx.out] at htx
          rw [hTy.out] at hty
          clear gB hW2 hq gj
          obtain ⟨v, hv⟩ : ∃ v, Hid (meetZ x.ph y.ph Tx Ty = v) := ⟨_, hid rfl⟩
          have Hm : Hid (∀ w' : World, Calls Tryz.prog 99 #[.int .i64 x.ph, .int .i64 Tx, .int .i64 y.ph, .int .i64 Ty] w' fun e w2 => e = .returned (.bool v) ∧ w' = w2) := hid (fun w' => by
            rw [← hv.out]
            have hx2 := HPH.out k hlt
            have hy2 := HPH.out j hjn
            rw [hx.out] at hx2
            rw [hy.out] at hy2
            exact rmeet_any x.ph Tx y.ph Ty w' ⟨hx2.1, by omega⟩ ⟨hy2.1, by omega⟩ htx hty)
          have hbv : Hid (bad7 x y = (decide (x.fr = y.fr) && v)) := hid (by unfold bad7; rw [hTx.out, hTy.out, hv.out])
          have HBAD : Hid (bad7 x y = true → true = r) := hid (fun h => BAD.out k j hlj hlt (by rw [hx.out, hy.out]; exact h))
          have hnt : Hid (bad7 x y = false → ∀ t, t < j + 1 → bad7 x (nthE ents t) = false) := hid (fun h t ht => by
            by_cases h2 : t < j
            · exact hnj.out t h2
            · obtain rfl : t = j := by omega
              rw [hy.out]; exact h)
          obtain ⟨fr, to, ph, sz⟩ := x
          obtain ⟨fr', to', ph', sz'⟩ := y
          dsimp only at *
          clear htx hty hTx hTy hv hx hy
          have x0 := hcell HX2.out 0 _ rfl
          have x2 := hcell HX2.out 2 _ rfl
          have x3 := hcell HX2.out 3 _ rfl
          have y0 := hcell HY.out 0 _ rfl
          have y2 := hcell HY.out 2 _ rfl
          have y3 := hcell HY.out 3 _ rfl
          have FX := hid (And.intro x0 (And.intro x2 (And.intro x3 (And.intro y0 (And.intro y2 y3)))))
          clear x0 x2 x3 y0 y2 y3
          go_wp2_with fail
          rw [← HW2.out]
          clear k6 q0 q1 q2 q3
          obtain ⟨x0, x2, x3, y0, y2, y3⟩ := FX.out
          go_quiet ((go_at_call 98; first | exact Calls.quiet_of_same (Htx.out _) | exact Calls.quiet_of_same (Hty.out _)))
          have gd := gr_drewN (gr_trans (gr_trans G7.out GJ.out) HG2.out) nq
          have gd7 := gr_drewN (gr_trans GJ.out HG2.out) nq
          by_cases hfr : fr = fr'
          · subst hfr
            cases v
            · have hb : Hid (∀ t, t < j + 1 → bad7 ⟨fr, to, ph, sz⟩ (nthE ents t) = false) := hid (hnt.out (by rw [hbv.out]; simp))
              have GD := hid gd; have GD7 := hid gd7
              clear gd gd7
              go_wp2_with fail
              refine (Hm.out _).mono ?_
              rintro e w8 ⟨rfl, rfl⟩
              go_wp2_with fail
              refine wp_region_grown (by kernel_rfl) (by kernel_rfl) ?_
              repeat (go_big_quiet_step (fail))
              refine wpQuiet_nil ?_
              rintro _ ⟨⟨w9, g9⟩, rfl⟩
              have G9 := hid (gr_trans GD7.out g9)
              clear g9
              go_wp2_with fail
              go_roundw
              case rel => exact ⟨j + 1, by omega, by go_num, hb, G9.out⟩
              case measure => simp [intOf]; omega
            · have hb : true = r := HBAD.out (by rw [hbv.out]; simp)
              have Hb := hid hb; have GD := hid gd
              clear gd gd7 hb
              go_wp2_with fail
              refine (Hm.out _).mono ?_
              rintro e w8 ⟨rfl, rfl⟩
              go_wp2_with fail
              go_ret
              exact ⟨congrArg (fun b => Ending.returned (.bool b)) Hb.out, gr_trans G0.out GD.out⟩
          · have hfr' : (fr == fr') = false := by simpa using hfr
            have hb : Hid (∀ t, t < j + 1 → bad7 ⟨fr, to, ph, sz⟩ (nthE ents t) = false) := hid (hnt.out (by rw [hbv.out, decide_eq_false hfr]; rfl))
            have GD := hid gd; have GD7 := hid gd7
            clear gd gd7 hfr
            go_wp2_with fail
            refine wp_region_grown (by kernel_rfl) (by kernel_rfl) ?_
            repeat (go_big_quiet_step (fail))
            refine wpQuiet_nil ?_
            rintro _ ⟨⟨w9, g9⟩, rfl⟩
            have G9 := hid (gr_trans GD7.out g9)
            clear g9
            go_wp2_with fail
            go_roundw
            case rel => exact ⟨j + 1, by omega, by go_num, hb, G9.out⟩
            case measure => simp [intOf]; omega
        · obtain rfl : j = k := by omega
          have hnx : Hid (∀ i, i < j + 1 → ∀ t, t < i → (bad7) (nthE ents i) (nthE ents t) = false) := hid (fun i hi t ht => by
            by_cases h : i < j
            · exact hno.out i h t ht
            · obtain rfl : i = j := by omega
              rw [hx.out]; exact hnj.out t ht)
          have gfin := hid (gr_trans G7.out gj)
          clear hlj hjk
          go_wp2_with fail
          go_roundw
          case rel => first | exact ⟨j + 1, by omega, by go_num, hnx, gfin.out⟩ | ((repeat apply Exists.intro); exact ⟨⟨j + 1, by omega, by go_num, hnx, gfin.out⟩, rfl⟩)
          case measure => simp [intOf]; omega
    · obtain rfl : k = n := by omega
      clear hlt
      go_wp2_with fail
      go_ret
      exact ⟨congrArg (fun b => Ending.returned (.bool b)) (FIN.out hno.out), gr_trans G0.out g⟩
end Go.Proofs.YtckoaeoecjphiaaGreat
