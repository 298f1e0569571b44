/- Lemmas: slices.SortStableFunc of at most nineteen senders, walked. -/
import Derived.Test.YtckoaeoecjphiaaGreatK22
import Derived.BigRegion
import Derived.LoopN

/- slices.SortStableFunc of at most nineteen senders, walked. -/
namespace Go.Proofs.YtckoaeoecjphiaaGreat
open Go.RowKit Go.Lib

/-- The senders' cells in block g. -/
structure SdAt (W : World) (g n : Nat) (xs : List Sd) : Prop where
  cell : ∀ t, t < n → W.cell? ⟨g, t * 2, none⟩ = some (.int .i64 ((nthS xs t).h : Int)) ∧ W.cell? ⟨g, t * 2 + 1, none⟩ = some (.int .i64 (nthS xs t).t)
  froz : ∀ i, W.frozen? ⟨g, i, none⟩ = false
  lt : g < W.heap.size
theorem SdAt.grown {W W' : World} {g n : Nat} {xs : List Sd} (h : SdAt W g n xs) (k : W.grownBy W' none) : SdAt W' g n xs := by
  refine ⟨fun t ht => ⟨gr_cell k (h.cell t ht).1, gr_cell k (h.cell t ht).2⟩, fun i => ?_, Nat.lt_of_lt_of_le h.lt k.size⟩
  have e := k.block g h.lt (by simp)
  have h2 := h.froz i
  unfold World.frozen? at *
  simp only [e]
  exact h2
theorem cso {w : World} {g i j : Nat} {u : Value} (h : i ≠ j) : (w.setCell ⟨g, i, none⟩ u).cell? ⟨g, j, none⟩ = w.cell? ⟨g, j, none⟩ :=
  World.cell?_setCell_other _ _ _ _ (fun e => h (congrArg Addr.off e))
theorem css {w : World} {g i : Nat} {u v : Value} (h : w.cell? ⟨g, i, none⟩ = some v) : (w.setCell ⟨g, i, none⟩ u).cell? ⟨g, i, none⟩ = some u :=
  World.cell?_setCell_same _ _ _ h
/-- Two neighbours change their places. -/
theorem SdAt.swap {W : World} {g n : Nat} {A B : List Sd} {p x : Sd} (h : SdAt W g n (A ++ p :: x :: B)) (hn : A.length + 2 ≤ n) :
    SdAt ((((W.setCell ⟨g, (A.length + 1) * 2, none⟩ (.int .i64 (p.h : Int))).setCell ⟨g, (A.length + 1) * 2 + 1, none⟩ (.int .i64 p.t)).setCell ⟨g, A.length * 2, none⟩ (.int .i64 (x.h : Int))).setCell ⟨g, A.length * 2 + 1, none⟩ (.int .i64 x.t)) g n (A ++ x :: p :: B) := by
  obtain ⟨e1, e2⟩ := nthS_two A p x B
  obtain ⟨d1, d2⟩ := nthS_two A x p B
  have c0 := (h.cell A.length (by omega)).1
  have c1 := (h.cell A.length (by omega)).2
  have c2 := (h.cell (A.length + 1) (by omega)).1
  have c3 := (h.cell (A.length + 1) (by omega)).2
  refine ⟨fun t ht => ?_, fun i => ?_, ?_⟩
  · by_cases ht1 : t = A.length
    · subst ht1
      rw [d1]
      constructor
      · rw [cso (by omega)]
        refine css (v := .int .i64 ((nthS (A ++ p :: x :: B) A.length).h : Int)) ?_
        rw [cso (by omega), cso (by omega)]
        exact c0
      · refine css (v := .int .i64 (nthS (A ++ p :: x :: B) A.length).t) ?_
        rw [cso (by omega), cso (by omega), cso (by omega)]
        exact c1
    · by_cases ht2 : t = A.length + 1
      · subst ht2
        rw [d2]
        constructor
        · rw [cso (by omega), cso (by omega), cso (by omega)]
          exact css c2
        · rw [cso (by omega), cso (by omega)]
          refine css (v := .int .i64 (nthS (A ++ p :: x :: B) (A.length + 1)).t) ?_
          rw [cso (by omega)]
          exact c3
      · rw [nthS_swap A p x B t ht1 ht2]
        constructor
        · rw [cso (by omega), cso (by omega), cso (by omega), cso (by omega)]
          exact (h.cell t ht).1
        · rw [cso (by omega), cso (by omega), cso (by omega), cso (by omega)]
          exact (h.cell t ht).2
  · simp [h.froz]
  · simpa [World.setCell] using h.lt

/-- The moving one has found its place. -/
theorem place_ok {n i : Nat} {xs P A B : List Sd} {x : Sd} (hi : i < n) (hPl : P.length = i) (hPp : P.Perm (xs.take i)) (hPs : P.Pairwise lexS) (htake : xs.take (i + 1) = xs.take i ++ [x]) (hPx : ∀ p ∈ P, p.h < x.h) (hIn : Ins P x A B) (hA : A = [] ∨ ∃ A' p, A = A' ++ [p] ∧ p.t ≤ x.t) :
    (A ++ x :: B).length = min (i + 1) n ∧ (A ++ x :: B).Perm (xs.take (i + 1)) ∧ (A ++ x :: B).Pairwise lexS := by
  refine ⟨?_, ?_, hIn.done hPs hPx hA⟩
  · have h1 := hIn.perm.length_eq
    rw [h1]
    simp
    omega
  · rw [htake]
    exact hIn.perm.trans (hPp.append_right [x])

theorem gr_set4 {w w' : World} {g : Nat} (h : w.grownBy w' (some g)) (i j k l : Nat) (a b c d : Value) : w.grownBy ((((w'.setCell ⟨g, i, none⟩ a).setCell ⟨g, j, none⟩ b).setCell ⟨g, k, none⟩ c).setCell ⟨g, l, none⟩ d) (some g) :=
  gr_setRow (gr_setRow (gr_setRow (gr_setRow h i a) j b) k c) l d

set_option maxRecDepth 100000 in
set_option maxHeartbeats 2000000 in
theorem isort_any (g n cap : Nat) (xs : List Sd) (w : World) (hl : xs.length = n) (hn : n ≤ 19) (h : SdAt w g n xs) (hinc : xs.Pairwise fun a b => a.h < b.h) :
    Calls Tryz.prog 128 #[.slice (some ⟨g, 0, none⟩) n cap, .int .i64 0, .int .i64 n, .func (.func 30) #[] #[]] w fun e w' => e = .returned (.tuple #[]) ∧ (∃ ys, (ys.Perm xs ∧ ys.Pairwise lexS) ∧ SdAt w' g n ys) ∧ w.grownBy w' (some g) := by
  have H := hid h; have HL := hid hl; have HI := hid hinc
  clear h hl hinc
  go_enter Tryz.func128, Tryz.ntmps128
  go_wp2_with fail
  go_loopw [8] (fun vi wr => ∃ (i : Nat) (P : List Sd), vi = .int .i64 i ∧ 1 ≤ i ∧ (i ≤ n ∨ i = 1) ∧ Hid (P.length = min i n) ∧ Hid (P.Perm (xs.take i)) ∧ Hid (P.Pairwise lexS) ∧ Hid (SdAt wr g n (P ++ xs.drop i)) ∧ Hid (w.grownBy wr (some g))) (fun vi _ => n - (intOf vi).toNat)
  case atStart =>
    refine ⟨1, xs.take 1, rfl, Nat.le_refl _, .inr rfl, hid (by rw [List.length_take, HL.out]), hid (List.Perm.refl _), hid ?_, hid ?_, hid (gr_refl w _)⟩
    · cases xs with
      | nil => simp
      | cons x t => simp
    · rw [List.take_append_drop]; exact H.out
  case round =>
    obtain ⟨i, P, rfl, hi1, hi2, hPl, hPp, hPs, HS, HG⟩ := hrel
    by_cases hlt : i < n
    · have hi3 : (i : Int) < n := by omega
      obtain ⟨x, hx⟩ : ∃ x, Hid (nthS xs i = x) := ⟨_, hid rfl⟩
      have hdrop : Hid (xs.drop i = x :: xs.drop (i + 1)) := hid (by
        rw [← hx.out]
        have := HL.out
        rw [List.drop_eq_getElem_cons (by omega)]
        unfold nthS
        rw [List.getElem?_eq_getElem (by omega)]
        rfl)
      have htake : Hid (xs.take (i + 1) = xs.take i ++ [x]) := hid (by
        have := HL.out
        rw [List.take_succ_eq_append_getElem (by omega), ← hx.out]
        unfold nthS
        rw [List.getElem?_eq_getElem (by omega)]
        rfl)
      have hPx : Hid (∀ p ∈ P, p.h < x.h) := hid (fun p hp => by
        have h1 := HI.out
        have h2 : xs = xs.take i ++ x :: xs.drop (i + 1) := by rw [← hdrop.out, List.take_append_drop]
        rw [h2, List.pairwise_append] at h1
        exact h1.2.2 p (hPp.out.subset hp) x (by simp))
      have hPl2 : Hid (P.length = i) := hid (by rw [hPl.out]; omega)
      have HS2 : Hid (SdAt wr g n (P ++ x :: xs.drop (i + 1))) := hid (by rw [← hdrop.out]; exact HS.out)
      go_wp2_with fail
      obtain ⟨wo, hwo⟩ : ∃ wo : World, wo = wr := ⟨_, rfl⟩
      subst hwo
      go_loopw [9] (fun vj wr => ∃ (j : Nat) (A B : List Sd), vj = .int .i64 j ∧ Hid (A.length = j) ∧ j ≤ i ∧ Hid (Ins P x A B) ∧ Hid (SdAt wr g n (A ++ x :: (B ++ xs.drop (i + 1)))) ∧ Hid (w.grownBy wr (some g))) (fun vj _ => (intOf vj).toNat)
      case atStart => exact ⟨i, P, [], rfl, hPl2, Nat.le_refl _, hid (Ins.start P x), HS2, HG⟩
      case round =>
        obtain ⟨j, A, B, rfl, hAl, hj, HIn, HSj, HGj⟩ := hrel
        rcases Nat.eq_zero_or_pos j with hj0 | hj0
        · subst hj0
          obtain rfl : A = [] := List.length_eq_zero_iff.1 hAl.out
          go_wp2_with fail
          refine wp_region_grown (by kernel_rfl) (by kernel_rfl) ?_
          repeat (go_big_quiet_step (fail))
          refine wpQuiet_nil ?_
          rintro w7 ⟨X7, hX7⟩
          have g7 : wr.grownBy w7 none := hX7 ▸ X7.gr
          clear hX7 X7
          have HP := hid (place_ok hlt hPl2.out hPp.out hPs.out htake.out hPx.out HIn.out (.inl rfl))
          have HS7 : Hid (SdAt w7 g n (([] ++ x :: B) ++ xs.drop (i + 1))) := hid (HSj.out.grown g7)
          have HG7 := hid (gr_trans HGj.out (gr_none g7))
          go_wp2_with fail
          refine ⟨⟨i + 1, [] ++ x :: B, by go_num, by omega, by omega, hid HP.out.1, hid HP.out.2.1, hid HP.out.2.2, HS7, HG7⟩, ?_⟩
          simp [intOf]; omega
        · obtain ⟨k, rfl⟩ : ∃ k, j = k + 1 := ⟨j - 1, by omega⟩
          obtain ⟨A', p, rfl⟩ : ∃ A' p, A = A' ++ [p] := by
            have h1 := hAl.out
            rcases List.eq_nil_or_concat A with h2 | ⟨A', p, h2⟩
            · subst h2; simp at h1
            · exact ⟨A', p, by rw [h2, List.concat_eq_append]⟩
          have hAk : Hid (A'.length = k) := hid (by have := hAl.out; simp at this; exact this)
          have HSk : Hid (SdAt wr g n (A' ++ p :: x :: (B ++ xs.drop (i + 1)))) := hid (by have := HSj.out; simpa using this)
          obtain ⟨e1, e2⟩ := nthS_two A' p x (B ++ xs.drop (i + 1))
          have c := HSk.out.cell A'.length (by rw [hAk.out]; omega)
          have d := HSk.out.cell (A'.length + 1) (by rw [hAk.out]; omega)
          rw [e1] at c
          rw [e2] at d
          rw [hAk.out] at c d
          have n0 := grn_cell c.1
          have n1 := grn_cell c.2
          have n2 := grn_cell d.1
          have n3 := grn_cell d.2
          have hk1 : (k : Int) + 1 < n := by omega
          have hk0 : (0 : Int) ≤ (k : Int) := by omega
          have hcm : Hid (∀ w' : World, Calls Tryz.prog 30 #[.agg #[.int .i64 (x.h : Int), .int .i64 x.t], .agg #[.int .i64 (p.h : Int), .int .i64 p.t]] w' fun e w2 => e = .returned (.int .i64 (cmpZ x.t p.t)) ∧ w'.grownBy w2 none) := hid (fun w' => later_any x p w')
          clear e1 e2 c d
          by_cases hxp : x.t < p.t
          · have ec : cmpZ x.t p.t = -1 := by unfold cmpZ; rw [if_pos hxp]
            rw [ec] at hcm
            clear ec
            go_wp2_with fail
            refine wp_region_grown (by kernel_rfl) (by kernel_rfl) ?_
            repeat (go_big_quiet_step ((go_at_call 30; refine (hcm.out _).mono ?_; rintro e w6 ⟨rfl, g6⟩; exact ⟨rfl, ⟨_, gr_trans (Grn.gr _) g6⟩, rfl⟩)))
            refine wpQuiet_nil ?_
            rintro w7 ⟨X7, hX7⟩
            have g7 : wr.grownBy w7 none := hX7 ▸ X7.gr
            clear hX7 X7 n0 n1 n2 n3
            have HS7 := hid (HSk.out.grown g7)
            have HG7 := hid (gr_trans HGj.out (gr_none g7))
            have HI2 : Hid (Ins P x A' (p :: B)) := hid (HIn.out.step hxp)
            obtain ⟨e1, e2⟩ := nthS_two A' p x (B ++ xs.drop (i + 1))
            have c := HS7.out.cell A'.length (by rw [hAk.out]; omega)
            have d := HS7.out.cell (A'.length + 1) (by rw [hAk.out]; omega)
            rw [e1] at c
            rw [e2] at d
            rw [hAk.out] at c d
            obtain ⟨c0, c1⟩ := c
            obtain ⟨d0, d1⟩ := d
            have fz := HS7.out.froz
            clear e1 e2
            go_wp2_with fail
            go_region
            have HS9 := hid ((HS7.out.swap (by rw [hAk.out]; omega)).grown (gr_drew (gr_refl _ none)))
            have HG9 := hid (gr_drew (gr_set4 HG7.out ((k + 1) * 2) ((k + 1) * 2 + 1) (k * 2) (k * 2 + 1) (.int .i64 (p.h : Int)) (.int .i64 p.t) (.int .i64 (x.h : Int)) (.int .i64 x.t)))
            rw [hAk.out] at HS9
            clear c0 c1 d0 d1 fz
            go_wp2_with fail
            go_roundw
            case rel => exact ⟨k, A', p :: B, by go_num, hAk, by omega, HI2, HS9, HG9⟩
            case measure => simp [intOf]
          · have hxp2 : p.t ≤ x.t := by omega
            have hc0 : (0 : Int) ≤ cmpZ x.t p.t := by unfold cmpZ; rw [if_neg hxp]; split <;> omega
            obtain ⟨q, hq⟩ : ∃ q, cmpZ x.t p.t = q := ⟨_, rfl⟩
            rw [hq] at hcm hc0
            clear hq hxp
            go_wp2_with fail
            refine wp_region_grown (by kernel_rfl) (by kernel_rfl) ?_
            repeat (go_big_quiet_step ((go_at_call 30; refine (hcm.out _).mono ?_; rintro e w6 ⟨rfl, g6⟩; exact ⟨rfl, ⟨_, gr_trans (Grn.gr _) g6⟩, rfl⟩)))
            refine wpQuiet_nil ?_
            rintro w7 ⟨X7, hX7⟩
            have g7 : wr.grownBy w7 none := hX7 ▸ X7.gr
            clear hX7 X7 n0 n1 n2 n3
            have HP := hid (place_ok hlt hPl2.out hPp.out hPs.out htake.out hPx.out HIn.out (.inr ⟨A', p, rfl, hxp2⟩))
            have HS7 : Hid (SdAt w7 g n (((A' ++ [p]) ++ x :: B) ++ xs.drop (i + 1))) := hid (by rw [List.append_assoc]; exact HSj.out.grown g7)
            have HG7 := hid (gr_trans HGj.out (gr_none g7))
            go_wp2_with fail
            refine ⟨⟨i + 1, (A' ++ [p]) ++ x :: B, by go_num, by omega, by omega, hid HP.out.1, hid HP.out.2.1, hid HP.out.2.2, HS7, HG7⟩, ?_⟩
            simp [intOf]; omega
    · have hfin : Hid (P.Perm xs ∧ SdAt wr g n P) := hid (by
        have h1 := HL.out
        have h2 := hPp.out
        have h3 := HS.out
        rw [List.take_of_length_le (by omega)] at h2
        rw [List.drop_of_length_le (by omega), List.append_nil] at h3
        exact ⟨h2, h3⟩)
      have hge : (n : Int) ≤ (i : Int) := by omega
      clear hlt hi2
      go_wp2_with fail
      exact bodyPost_end (by simp [results, Tryz.results128, go_sem]) rfl ⟨rfl, ⟨P, ⟨hfin.out.1, hPs.out⟩, hfin.out.2⟩, HG.out⟩

theorem stable_any (g n cap : Nat) (xs : List Sd) (w : World) (hl : xs.length = n) (hn : n ≤ 19) (h : SdAt w g n xs) (hinc : xs.Pairwise fun a b => a.h < b.h) :
    Calls Tryz.prog 29 #[.slice (some ⟨g, 0, none⟩) n cap, .func (.func 30) #[] #[]] w fun e w' => e = .returned (.tuple #[]) ∧ (∃ ys, (ys.Perm xs ∧ ys.Pairwise lexS) ∧ SdAt w' g n ys) ∧ w.grownBy w' (some g) := by
  have HS : Hid (Calls Tryz.prog 128 #[.slice (some ⟨g, 0, none⟩) n cap, .int .i64 0, .int .i64 n, .func (.func 30) #[] #[]] w fun e w' => e = .returned (.tuple #[]) ∧ (∃ ys, (ys.Perm xs ∧ ys.Pairwise lexS) ∧ SdAt w' g n ys) ∧ w.grownBy w' (some g)) := hid (isort_any g n cap xs w hl hn h hinc)
  have hn2 : (n : Int) ≤ 19 := by omega
  clear h hl hinc
  have HC : Hid (Calls Tryz.prog 76 #[.slice (some ⟨g, 0, none⟩) n cap, .int .i64 n, .func (.func 30) #[] #[]] w fun e w' => e = .returned (.tuple #[]) ∧ (∃ ys, (ys.Perm xs ∧ ys.Pairwise lexS) ∧ SdAt w' g n ys) ∧ w.grownBy w' (some g)) := by
    refine hid ?_
    go_enter Tryz.func76, Tryz.ntmps76
    go_wp2_with fail
    refine wp_loop_rounds 1 ?_
    rw [rounds_succ]
    go_wp2_with fail
    refine HS.out.mono ?_
    rintro e w1 ⟨rfl, h1, h2⟩
    have H1 := hid h1; have H2 := hid h2
    clear h1 h2
    go_wp2_with fail
    refine wp_loop_rounds 1 ?_
    rw [rounds_succ]
    go_wp2_with fail
    exact bodyPost_end (by simp [results, Tryz.results76, go_sem]) rfl ⟨rfl, H1.out, H2.out⟩
  clear HS
  go_enter Tryz.func29, Tryz.ntmps29
  go_wp2_with fail
  refine HC.out.mono ?_
  rintro e w1 ⟨rfl, h1, h2⟩
  have H1 := hid h1; have H2 := hid h2
  clear h1 h2
  go_wp2_with fail
  exact bodyPost_end (by simp [results, Tryz.results29, go_sem]) rfl ⟨rfl, H1.out, H2.out⟩

/-- Of none. -/
theorem stable_none (a : Option Addr) (cap : Nat) (w : World) :
    Calls Tryz.prog 29 #[.slice a 0 cap, .func (.func 30) #[] #[]] w fun e w' => e = .returned (.tuple #[]) ∧ w = w' := by
  have HS : Hid (Calls Tryz.prog 128 #[.slice a 0 cap, .int .i64 0, .int .i64 0, .func (.func 30) #[] #[]] w fun e w' => e = .returned (.tuple #[]) ∧ w = w') := by
    refine hid ?_
    go_enter Tryz.func128, Tryz.ntmps128
    go_wp2_with fail
    refine wp_loop_rounds 1 ?_
    rw [rounds_succ]
    go_wp2_with fail
    exact bodyPost_end (by simp [results, Tryz.results128, go_sem]) rfl ⟨rfl, rfl⟩
  have HC : Hid (Calls Tryz.prog 76 #[.slice a 0 cap, .int .i64 0, .func (.func 30) #[] #[]] w fun e w' => e = .returned (.tuple #[]) ∧ w = w') := by
    refine hid ?_
    go_enter Tryz.func76, Tryz.ntmps76
    go_wp2_with fail
    refine wp_loop_rounds 1 ?_
    rw [rounds_succ]
    go_wp2_with fail
    refine HS.out.mono ?_
    rintro e w1 ⟨rfl, rfl⟩
    go_wp2_with fail
    refine wp_loop_rounds 1 ?_
    rw [rounds_succ]
    go_wp2_with fail
    exact bodyPost_end (by simp [results, Tryz.results76, go_sem]) rfl ⟨rfl, rfl⟩
  clear HS
  go_enter Tryz.func29, Tryz.ntmps29
  go_wp2_with fail
  refine HC.out.mono ?_
  rintro e w1 ⟨rfl, rfl⟩
  go_wp2_with fail
  exact bodyPost_end (by simp [results, Tryz.results29, go_sem]) rfl ⟨rfl, rfl⟩
end Go.Proofs.YtckoaeoecjphiaaGreat
