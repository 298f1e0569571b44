/- Lemmas: The document's round: InTime, Members. The document's clocks: of, below, Clocks; SameNumbers. slices.Clone of clocks. Steps of a region that draws its order: an append, a call. Rounds, one behind the other: in plain words. -/
import Derived.Test.YtckoaeoecjphiaaGreatK39
import Derived.Test.YtckoaeoecjphiaaGreatK06
import Derived.Test.YtckoaeoecjphiaaGreatK01
import Derived.OwnWalk
import Derived.Test.YtckoaeoecjphiaaGreatK35
import Derived.Test.YtckoaeoecjphiaaGreatK36
import Derived.BigQuiet
import Derived.Test.YtckoaeoecjphiaaGreatK31
import Derived.Deep.RegionLaw
import Derived.Maps.AppendAt

/- The document's round: InTime, Members. -/
namespace Go.Proofs.YtckoaeoecjphiaaGreat
open Go.RowKit Go.Lib

set_option maxRecDepth 100000 in
set_option maxHeartbeats 4000000 in
theorem rintime_any (c : Cf) (vd ve vl : Value) (cy l p : Int) (w : World) (hsp : spansZ c = true) (hp : Hid (cy * c.cy = p)) (h1 : 0 ≤ p ∧ p ≤ 562949953421312) (hl : 0 ≤ l ∧ l ≤ 1125899906842624) :
    Calls Tryz.prog 140 #[cfV c vd ve vl, .int .i64 cy, .int .i64 l] w fun e w' => e = .returned (.bool (lateB (l - p - expZ c) (accZ c))) ∧ w.grownBy w' none := by
  obtain ⟨⟨c0, c1⟩, ⟨d0, d1⟩, ⟨e0, e1⟩, ⟨f0, f1⟩⟩ := spansZ_bd hsp
  have HO := hid (fun W : World => roffset_any c vd ve vl W hsp)
  have HA := hid (fun W : World => raccept_any c vd ve vl W hsp)
  clear hsp
  obtain ⟨E, hE⟩ : ∃ x, Hid (expZ c = x) := ⟨_, hid rfl⟩
  obtain ⟨A, hA⟩ : ∃ x, Hid (accZ c = x) := ⟨_, hid rfl⟩
  rw [hE.out] at HO
  rw [hA.out] at HA
  rw [hE.out, hA.out]
  have hEb : 0 ≤ E ∧ E ≤ 4194304 := by rw [← hE.out]; unfold expZ; omega
  have hAb : 0 ≤ A ∧ A ≤ 4194304 := by rw [← hA.out]; unfold accZ; omega
  obtain ⟨ho, C, de, wi, pr, qu⟩ := c
  dsimp only at *
  obtain ⟨l0, l1⟩ := hl
  obtain ⟨p0, p1⟩ := h1
  obtain ⟨E0, E1⟩ := hEb
  obtain ⟨A0, A1⟩ := hAb
  obtain ⟨q, hqq⟩ : ∃ q, (1125900980584448 : Int) / C = q := ⟨_, rfl⟩
  have hq0 : 0 ≤ q := by rw [← hqq]; exact Int.ediv_nonneg (by omega) (by omega)
  have hq1 : q ≤ 1125900980584448 := by rw [← hqq]; exact Int.ediv_le_self _ (by omega)
  have ht : (1125900980584448 : Int).tdiv C = q := by rw [← hqq]; exact Int.tdiv_eq_ediv_of_nonneg (by omega)
  have hqc : cy ≤ q := by rw [← hqq]; exact Int.le_ediv_of_mul_le (by omega) (by rw [hp.out]; omega)
  have hC' : (C == 0) = false := by simp; omega
  have s1 : IntKind.i64.wrap q = q := IntWalk.i64_in _ (by omega)
  have s2 : IntKind.i64.wrap (cy * C) = p := by rw [hp.out]; exact IntWalk.i64_in _ (by omega)
  have s3 : IntKind.i64.wrap (l - p) = l - p := IntWalk.i64_in _ (by omega)
  have s4 : IntKind.i64.wrap (E - A) = E - A := IntWalk.i64_in _ (by omega)
  have s5 : IntKind.i64.wrap (E + A) = E + A := IntWalk.i64_in _ (by omega)
  have hL : Hid (lateB (l - p - E) A = (decide (E - A ≤ l - p) && decide (l - p ≤ E + A))) := hid (by
    unfold lateB
    congr 1
    · exact decide_eq_decide.2 (by omega)
    · exact decide_eq_decide.2 (by omega))
  rw [hL.out]
  obtain ⟨d, hd⟩ : ∃ d, Hid (l - p = d) := ⟨_, hid rfl⟩
  have hd2 := hd.out
  rw [hd2] at s3 ⊢
  obtain ⟨v, hv⟩ : ∃ v, decide (E - A ≤ d) = v := ⟨_, rfl⟩
  rw [hv]
  clear hqq hL
  cases v
  all_goals
    go_enter Tryz.func140, Tryz.ntmps140
    go_wp2_with fail
    obtain ⟨W0, hW0⟩ : ∃ W0, w.alloc (.cells #[.int .i64 ho, .int .i64 C, .int .i64 de, .int .i64 wi, .int .i64 pr, vd, ve, vl, .int .i64 qu] 26) = W0 := ⟨_, rfl⟩
    have hB0 : W0.heap[w.heap.size]? = some (.cells #[.int .i64 ho, .int .i64 C, .int .i64 de, .int .i64 wi, .int .i64 pr, vd, ve, vl, .int .i64 qu] 26) := by rw [← hW0]; exact heap_alloc_new w _
    have g0 : w.grownBy W0 none := by rw [← hW0]; exact gr_alloc (gr_refl w none) _
    rw [hW0]
    clear hW0
    have q0 := grn_cell (hcell hB0 0 _ rfl)
    have q1 := grn_cell (hcell hB0 1 _ rfl)
    have q2 := grn_cell (hcell hB0 2 _ rfl)
    have q3 := grn_cell (hcell hB0 3 _ rfl)
    have q4 := grn_cell (hcell hB0 4 _ rfl)
    have q5 := grn_cell (hcell hB0 5 _ rfl)
    have q6 := grn_cell (hcell hB0 6 _ rfl)
    have q7 := grn_cell (hcell hB0 7 _ rfl)
    have q8 := grn_cell (hcell hB0 8 _ rfl)
    clear hB0
    refine wp_region_grown (by kernel_rfl) (by kernel_rfl) ?_
    repeat (go_big_quiet_step (first
      | (go_at_call 46; refine (HO.out _).mono ?_; rintro e w6 ⟨rfl, g6⟩; exact ⟨rfl, ⟨_, gr_trans (Grn.gr _) g6⟩, rfl⟩)
      | (go_at_call 13; refine (HA.out _).mono ?_; rintro e w6 ⟨rfl, g6⟩; exact ⟨rfl, ⟨_, gr_trans (Grn.gr _) g6⟩, rfl⟩)))
    refine wpQuiet_nil ?_
    rintro w4 ⟨X, rfl⟩
    have gX := gr_trans g0 X.gr
    go_wp2_with fail
    go_ret
    exact ⟨rfl, gX⟩
theorem own_form {w : World} {base e size n : Nat} {v : Value} {xs : List Value} (h : w.ownsRow base e size v n xs) : ∃ a c, v = .slice a n c := by
  rcases h.2 with ⟨rfl, rfl⟩ | ⟨g, cap, cur, rfl, _⟩
  · exact ⟨_, _, rfl⟩
  · exact ⟨_, _, rfl⟩
set_option maxRecDepth 100000 in
set_option maxHeartbeats 4000000 in
/-- The members' number. -/
theorem rmembers_any (c : Nat) (hc : c < 64) (w : World) :
    Calls Tryz.prog 93 #[.int .u32 (c : Int)] w fun e w' => ∃ a cap, e = .returned (.slice a (cntN c) cap) ∧ w.grownBy w' none := by
  obtain ⟨i0, hi, hz0, hz1, hz2⟩ := info_parts Tryz.info_int
  have HH := hid (fun (h : Nat) (hh : h < 6) (W : World) => rhas_at c h (hid (by omega)) hh W)
  obtain ⟨f, hf⟩ : ∃ f : Nat → Nat, Hid (f = fun i => ((List.range i).filter fun h => hasN c h).length) := ⟨_, hid rfl⟩
  have hf0 : f 0 = 0 := by rw [hf.out]; rfl
  have hfs : Hid (∀ i, f (i + 1) = f i + if hasN c i = true then 1 else 0) := hid (fun i => by
    rw [hf.out]
    dsimp only
    rw [List.range_succ, List.filter_append, List.length_append]
    congr 1
    cases h : hasN c i <;> simp [h])
  have hf6 : Hid (f 6 = cntN c) := hid (by
    rw [hfs.out 5, hfs.out 4, hfs.out 3, hfs.out 2, hfs.out 1, hfs.out 0, hf0]
    unfold cntN
    omega)
  have hfl : Hid (∀ i, f i ≤ i) := hid (fun i => by
    rw [hf.out]
    exact Nat.le_trans (List.length_filter_le _ _) (by simp))
  rw [← hf6.out]
  clear hf
  go_enter Tryz.func93, Tryz.ntmps93
  go_wp2_with fail
  go_loopw [3, 4] (fun x i wr => ∃ (k : Nat) (xs : List Value), k ≤ 6 ∧ i = .int .i64 k ∧ Hid (wr.ownsRow w.heap.size 3 1 x (f k) xs) ∧ Hid (w.grownBy wr none)) (fun _ i _ => 6 - (intOf i).toNat)
  case atStart => exact ⟨0, [], by omega, rfl, hid (by rw [hf0]; exact World.ownsRow_nil _ _ _ _), hid (gr_refl w none)⟩
  case round =>
    obtain ⟨k, xs, hk, rfl, HO, HG⟩ := hrel
    by_cases hlt : k < 6
    · have hk2 : (k : Int) < 6 := by omega
      have hfk := hfs.out k
      have hfb := hfl.out k
      obtain ⟨v, hv⟩ : ∃ v, hasN c k = v := ⟨_, rfl⟩
      have HC : Hid (∀ W, Calls Tryz.prog 43 #[.int .u32 (c : Int), .int .i64 (k : Int)] W fun e w' => e = .returned (.bool v) ∧ W = w') := hid (by rw [← hv]; exact HH.out k hlt)
      rw [hv] at hfk
      have hfk' := hid hfk
      clear hfk hv
      cases v
      · go_wp2_with fail
        refine (HC.out _).mono ?_
        rintro e w2 ⟨rfl, rfl⟩
        go_wp2_with fail
        go_roundw
        case rel => exact ⟨k + 1, xs, by omega, by go_num, hid (by rw [hfk'.out]; exact HO.out), HG⟩
        case measure => simp [intOf]; omega
      · go_wp2_with fail
        refine (HC.out _).mono ?_
        rintro e w2 ⟨rfl, rfl⟩
        go_wp2_with (at_builtin; refine wpList_append_own_at _ rfl (.tmp 12) (.tmp 14) 36 rfl w.heap.size 3 i0 (.int .i64 0) 1 8 Tryz.underlying36 hi hz0 hz1 hz2 rfl (by decide) _ (f k) _ rfl (HO.out.alloc _) ⟨wr.heap.size, 0, none⟩ 1 1 [.int .i64 (k : Int)] rfl rfl (cell_one_new' _ _ _) (by simp [Value.oneCell']) (by unfold maxLen; omega) (by omega) (by have := HG.out.size; simp; omega) ?_; intro v4 w4 hown4 hg4 _ hat4; have HO4 := hid hown4; have HG4 : Hid (w.grownBy w4 none) := hid (gr_ownr (gr_alloc HG.out _) hg4 (fun q hq => (HO.out.lt q hq).1)); clear hown4 hg4 hat4)
        go_roundw
        case rel => exact ⟨k + 1, _, by omega, by go_num, hid (by rw [hfk'.out]; exact HO4.out), HG4⟩
        case measure => simp [intOf]; omega
    · obtain rfl : k = 6 := by omega
      clear hlt
      obtain ⟨a, cap, rfl⟩ := own_form HO.out
      have HG2 := hid HG.out
      go_wp2_with fail
      go_ret
      exact ⟨a, cap, rfl, HG2.out⟩
end Go.Proofs.YtckoaeoecjphiaaGreat

/- The document's clocks: of, below, Clocks; SameNumbers. -/
namespace Go.Proofs.YtckoaeoecjphiaaGreat
open Go.RowKit Go.Lib

theorem ckslice {n₀ : Nat} {w : World} {sv : Value} {l : List Ck} (h : CksAt n₀ w sv l) : ∃ a cap, sv = .slice a l.length cap := by
  rcases h with ⟨a, cap, rfl, h0⟩ | ⟨b, off, cap, rfl, _⟩
  · exact ⟨a, cap, by rw [h0]⟩
  · exact ⟨_, _, rfl⟩
theorem ckcells {n₀ : Nat} {w : World} {sv : Value} {l : List Ck} (h : CksAt n₀ w sv l) (h0 : 0 < l.length) : ∃ b off cap, sv = .slice (some ⟨b, off, none⟩) l.length cap ∧ l.length ≤ cap ∧ ∀ W : World, w.grownBy W none → ∀ j, j < l.length → W.cell? ⟨b, off + j * 3, none⟩ = some (.int .i64 (nthC l j).m) ∧ W.cell? ⟨b, off + j * 3 + 1, none⟩ = some (.int .i64 (nthC l j).b) ∧ W.cell? ⟨b, off + j * 3 + 2, none⟩ = some (.int .i64 (nthC l j).r) := by
  rcases h with ⟨_, _, _, h9⟩ | ⟨b, off, cap, rfl, hc, _, hf⟩
  · omega
  · exact ⟨b, off, cap, rfl, hc, fun W g j hj => ⟨gr_cell g (hf j hj 0 (by omega)), gr_cell g (hf j hj 1 (by omega)), gr_cell g (hf j hj 2 (by omega))⟩⟩
set_option maxRecDepth 100000 in
set_option maxHeartbeats 4000000 in
theorem rbelow_any (sv : Value) (l : List Ck) (p : Int) (w : World) (hs : CksAt w.heap.size w sv l) (hz : l.length * 24 ≤ 140737488351232) :
    Calls Tryz.prog 39 #[sv, .int .i64 p] w fun e w' => e = .returned (.bool (!(l.any (lateC p)))) ∧ w.grownBy w' none := by
  obtain ⟨a, cap, rfl⟩ := ckslice hs
  have HS := hid (fun h0 : 0 < l.length => ckcells hs h0)
  obtain ⟨n, hn⟩ : ∃ n, Hid (l.length = n) := ⟨_, hid rfl⟩
  have HT : Hid (l.any (lateC p) = ((List.range n).any fun j => lateC p (nthC l j))) := hid (by rw [← hn.out]; exact (any_nthC l (lateC p)).symm)
  obtain ⟨R, hR⟩ : ∃ R, Hid ((!(l.any (lateC p))) = R) := ⟨_, hid rfl⟩
  rw [hR.out]
  rw [hn.out] at hz
  rw [hn.out]
  clear hs
  go_enter Tryz.func39, Tryz.ntmps39
  go_wp2_with fail
  go_loopw [5] (fun i wr => ∃ k : Nat, k ≤ n ∧ i = .int .i64 k ∧ Hid (∀ j, j < k → lateC p (nthC l j) = false) ∧ Hid (w.grownBy wr none)) (fun i _ => n - (intOf i).toNat)
  case atStart => exact ⟨0, by omega, rfl, hid (fun j hj => absurd hj (Nat.not_lt_zero j)), hid (gr_refl w none)⟩
  case round =>
    obtain ⟨k, hk, rfl, HA, HG⟩ := hrel
    by_cases hlt : k < n
    · obtain ⟨b, off, cap', hv, hcap, hc⟩ := HS.out (by rw [hn.out]; omega)
      rw [hn.out] at hv hcap
      injection hv with hv1 _ hv3
      subst hv1 hv3
      have hk2 : (k : Int) < (n : Int) := by omega
      have hkc : k < cap := by omega
      have q1 := (hc wr HG.out k (by rw [hn.out]; exact hlt)).2.1
      obtain ⟨z, hzb⟩ : ∃ z, Hid ((nthC l k).b = z) := ⟨_, hid rfl⟩
      rw [hzb.out] at q1
      clear hc
      by_cases hl : p < z
      · have hd : decide (p < z) = true := decide_eq_true hl
        have hR2 : Hid (R = false) := hid (by
          rw [← hR.out, HT.out]
          have : ((List.range n).any fun j => lateC p (nthC l j)) = true := List.any_eq_true.2 ⟨k, List.mem_range.2 hlt, by unfold lateC; rw [hzb.out]; exact hd⟩
          rw [this]
          rfl)
        have HG2 := hid HG.out
        clear hl
        go_wp2_with fail
        go_ret
        exact ⟨by rw [hR2.out]; rfl, HG2.out⟩
      · have hd : decide (p < z) = false := decide_eq_false hl
        have HA2 : Hid (∀ j, j < k + 1 → lateC p (nthC l j) = false) := hid (fun j hj => by
          by_cases e : j = k
          · subst e; unfold lateC; rw [hzb.out]; exact hd
          · exact HA.out j (by omega))
        clear hl
        go_wp2_with fail
        go_roundw
        case rel => exact ⟨k + 1, by omega, by go_num, HA2, HG⟩
        case measure => simp [intOf]; omega
    · obtain rfl : k = n := by omega
      have hR2 : Hid (R = true) := hid (by
        rw [← hR.out, HT.out]
        have : ((List.range k).any fun j => lateC p (nthC l j)) = false := by
          rw [Bool.eq_false_iff]
          intro e
          obtain ⟨j, hj, e2⟩ := List.any_eq_true.1 e
          rw [HA.out j (List.mem_range.1 hj)] at e2
          cases e2
        rw [this]
        rfl)
      have HG2 := hid HG.out
      clear hlt
      go_wp2_with fail
      go_ret
      exact ⟨by rw [hR2.out]; rfl, HG2.out⟩
set_option maxRecDepth 100000 in
set_option maxHeartbeats 4000000 in
/-- Are the numbers the same? -/
theorem rsame_any (n₀ : Nat) (v1 v2 : Value) (n : Nat) (f g : Nat → Int) (w : World) (h1 : SliceAt n₀ w v1 1 n (fun j _ => .int .i64 (f j))) (h2 : SliceAt n₀ w v2 1 n (fun j _ => .int .i64 (g j))) (hfg : ∀ j, j < n → f j = g j) (hn : n ≤ 100) :
    Calls Tryz.prog 40 #[v1, v2] w fun e w' => e = .returned (.bool true) ∧ w.grownBy w' none := by
  obtain ⟨a1, c1, e1, H1⟩ : ∃ a c, v1 = .slice a n c ∧ Hid (∀ j, j < n → ∃ b off, a = some ⟨b, off, none⟩ ∧ n ≤ c ∧ w.cell? ⟨b, off + j, none⟩ = some (.int .i64 (f j))) := by
    rcases h1 with ⟨a, c, rfl, h0⟩ | ⟨b, off, c, rfl, hc, _, hf⟩
    · exact ⟨a, c, by rw [h0], hid (fun j hj => by omega)⟩
    · exact ⟨_, c, rfl, hid (fun j hj => ⟨b, off, rfl, hc, by simpa using hf j hj 0 (by omega)⟩)⟩
  obtain ⟨a2, c2, e2, H2⟩ : ∃ a c, v2 = .slice a n c ∧ Hid (∀ j, j < n → ∃ b off, a = some ⟨b, off, none⟩ ∧ n ≤ c ∧ w.cell? ⟨b, off + j, none⟩ = some (.int .i64 (f j))) := by
    rcases h2 with ⟨a, c, rfl, h0⟩ | ⟨b, off, c, rfl, hc, _, hf⟩
    · exact ⟨a, c, by rw [h0], hid (fun j hj => by omega)⟩
    · exact ⟨_, c, rfl, hid (fun j hj => ⟨b, off, rfl, hc, by rw [hfg j hj]; simpa using hf j hj 0 (by omega)⟩)⟩
  subst e1 e2
  clear h1 h2 hfg
  go_enter Tryz.func40, Tryz.ntmps40
  go_wp2_with fail
  go_loopw [5] (fun i wr => ∃ k : Nat, k ≤ n ∧ i = .int .i64 k ∧ Hid (w.grownBy wr none)) (fun i _ => n - (intOf i).toNat)
  case atStart => exact ⟨0, by omega, rfl, hid (gr_refl w none)⟩
  case round =>
    obtain ⟨k, hk, rfl, HG⟩ := hrel
    by_cases hlt : k < n
    · obtain ⟨b1, o1, ha1, hc1, q1⟩ := H1.out k hlt
      obtain ⟨b2, o2, ha2, hc2, q2⟩ := H2.out k hlt
      subst ha1 ha2
      have q1 := gr_cell HG.out q1
      have q2 := gr_cell HG.out q2
      have hk2 : (k : Int) < (n : Int) := by omega
      have hk3 : k < c1 := by omega
      have hk4 : k < c2 := by omega
      obtain ⟨z, hz⟩ : ∃ z, f k = z := ⟨_, rfl⟩
      rw [hz] at q1 q2
      clear hz
      go_wp2_with fail
      go_quiet (fail)
      go_wp2_with fail
      go_roundw
      case rel => exact ⟨k + 1, by omega, by go_num, hid (gr_drewN HG.out _)⟩
      case measure => simp [intOf]; omega
    · obtain rfl : k = n := by omega
      have HG2 := hid HG.out
      clear hlt
      go_wp2_with fail
      go_ret
      exact ⟨rfl, HG2.out⟩
end Go.Proofs.YtckoaeoecjphiaaGreat

/- slices.Clone of clocks. -/
namespace Go.Proofs.YtckoaeoecjphiaaGreat
open Go.RowKit Go.Lib

/-- The cells of a slice's elements, one behind the other. -/
def flatQ (k n : Nat) (f : Nat → Nat → Value) : List Value := (List.range (n * k)).map fun q => f (q / k) (q % k)
theorem flatQ_len (k n : Nat) (f : Nat → Nat → Value) : (flatQ k n f).length = n * k := by unfold flatQ; simp
theorem flatQ_at {k n : Nat} (f : Nat → Nat → Value) {j i : Nat} (hj : j < n) (hi : i < k) : (flatQ k n f)[j * k + i]? = some (f j i) := by
  have h1 : j * k + i < n * k := by
    have : (j + 1) * k ≤ n * k := Nat.mul_le_mul_right _ hj
    rw [Nat.add_mul, Nat.one_mul] at this
    omega
  unfold flatQ
  have e1 : (j * k + i) / k = j := by rw [Nat.mul_comm, Nat.mul_add_div (by omega), Nat.div_eq_of_lt hi, Nat.add_zero]
  have e2 : (j * k + i) % k = i := by rw [Nat.mul_comm, Nat.mul_add_mod, Nat.mod_eq_of_lt hi]
  simp [h1, e1, e2]
theorem add_lit (b off j : Nat) : (⟨b, off, none⟩ : Addr).add j = ⟨b, off + j, none⟩ := by
  simp only [Addr.add]
  split
  · rename_i h; rw [h]; rfl
  · rfl
theorem flatQ_news {k n : Nat} {f : Nat → Nat → Value} {W : World} {b off : Nat} (h : ∀ j, j < n → ∀ i, i < k → W.cell? ⟨b, off + j * k + i, none⟩ = some (f j i)) : ∀ (q : Nat) (u : Value), (flatQ k n f)[q]? = some u → W.cell? ((⟨b, off, none⟩ : Addr).add q) = some u := by
  intro q u hq
  have hl : q < n * k := by
    have := (List.getElem?_eq_some_iff.1 hq).1
    rwa [flatQ_len] at this
  have hk : 0 < k := by
    rcases Nat.eq_zero_or_pos k with h0 | h0
    · subst h0; simp at hl
    · exact h0
  have h2 : q % k < k := Nat.mod_lt _ hk
  have h1 : q / k < n := by rw [Nat.div_lt_iff_lt_mul hk]; exact hl
  have h3 := h _ h1 _ h2
  have e : off + q / k * k + q % k = off + q := by rw [Nat.add_assoc, Nat.div_add_mod']
  rw [e] at h3
  unfold flatQ at hq
  rw [List.getElem?_map, List.getElem?_range hl] at hq
  simp only [Option.map_some, Option.some.injEq] at hq
  rw [← hq, add_lit]
  exact h3
theorem ckF_one (l : List Ck) (j i : Nat) : (ckF l j i).oneCell' = true := by
  unfold ckF
  split <;> rfl

set_option maxRecDepth 100000 in
set_option maxHeartbeats 4000000 in
theorem clone_st (sv : Value) (l : List Ck) (w : World) (hs : CksAt w.heap.size w sv l) (hz : l.length * 24 ≤ 140737488351232) :
    Calls Tryz.prog 63 #[sv] w fun e w' => ∃ v, e = .returned v ∧ Hid (CksAt w'.heap.size w' v l) ∧ Hid (∀ q, v.ownBlock = some q → w.heap.size ≤ q) ∧ Hid (w.grownBy w' none) := by
  obtain ⟨i0, hi, hz0, hz1, hz2⟩ := info_parts Tryz.info_st
  obtain ⟨a, cap, rfl⟩ := ckslice hs
  obtain ⟨n, hn⟩ : ∃ n, Hid (l.length = n) := ⟨_, hid rfl⟩
  have HS := hid hs
  clear hs
  rw [hn.out] at hz
  rw [hn.out]
  cases a with
  | none =>
    have h0 : n = 0 := by
      rcases HS.out with ⟨_, _, _, h0⟩ | ⟨b, off, c, e, _⟩
      · rw [← hn.out]; exact h0
      · simp at e
    subst h0
    clear HS
    go_enter Tryz.func63, Tryz.ntmps63
    have he : ∀ w : World, (binOp .eql 27 (.slice none 0 cap) (.slice none 0 0)).run Tryz.prog w = .ok (.bool true) w := fun _ => rfl
    go_wp2_with fail
    go_ret
    exact ⟨_, rfl, hid (.inl ⟨_, _, rfl, hn.out⟩), hid (by simp [Value.ownBlock]), hid (gr_refl w none)⟩
  | some ad =>
    obtain ⟨b, off, h1⟩ : ∃ b off, Hid (0 < n → ad = ⟨b, off, none⟩ ∧ ∀ j, j < n → ∀ i, i < 3 → w.cell? ⟨b, off + j * 3 + i, none⟩ = some (ckF l j i)) := by
      rcases HS.out with ⟨_, _, _, h0⟩ | ⟨b, off, c, e, _, _, hf⟩
      · exact ⟨0, 0, hid (fun h => by have := hn.out; omega)⟩
      · simp only [Value.slice.injEq, Option.some.injEq] at e
        exact ⟨b, off, hid (fun _ => ⟨e.1, fun j hj => hf j (by rw [hn.out]; exact hj)⟩)⟩
    have hnews : Hid (∀ (q : Nat) (u : Value), (flatQ 3 n (ckF l))[q]? = some u → (w.alloc (.cells #[] 54)).cell? (ad.add q) = some u) := hid (by
      intro q u hq
      have hl : q < n * 3 := by
        have := (List.getElem?_eq_some_iff.1 hq).1
        rwa [flatQ_len] at this
      obtain ⟨rfl, hf⟩ := h1.out (by omega)
      exact flatQ_news (fun j hj i hi => gr_cell (World.grownBy_alloc w (.cells #[] 54) none) (hf j hj i hi)) q u hq)
    have hown0 := hid (World.ownsRow_made (base := w.heap.size) (e := 54) (size := 3) w #[] 0 (Nat.le_refl _) (by simp) rfl)
    have hone : Hid (∀ u ∈ flatQ 3 n (ckF l), u.oneCell' = true) := hid (by
      intro u hu
      unfold flatQ at hu
      obtain ⟨q, _, rfl⟩ := List.mem_map.1 hu
      exact ckF_one l _ _)
    obtain ⟨news, hnw⟩ : ∃ news, Hid (flatQ 3 n (ckF l) = news) := ⟨_, hid rfl⟩
    have hnl : news.length = n * 3 := by rw [← hnw.out, flatQ_len]
    rw [hnw.out] at hnews hone
    clear HS h1
    have he : ∀ w : World, (binOp .eql 27 (.slice (some ad) n cap) (.slice none 0 0)).run Tryz.prog w = .ok (.bool false) w := fun _ => rfl
    go_enter Tryz.func63, Tryz.ntmps63
    go_wp2_with (at_builtin; refine wpList_append_own _ rfl _ _ 27 rfl w.heap.size 54 i0 (.agg #[.int .i64 0, .int .i64 0, .int .i64 0]) 3 24 Tryz.underlying27 hi hz0 hz1 hz2 rfl (by decide) _ _ _ rfl hown0.out ad n cap news rfl hnl hnews.out hone.out (by unfold maxLen; omega) (by omega) (by simp) ?_; intro v2 w2 hown2 hg2 _)
    rw [Nat.zero_add, List.nil_append] at hown2
    have HJ : Hid (CksAt w2.heap.size w2 v2 l) := hid (by
      unfold CksAt
      rw [hn.out]
      refine slice_own hown2 (fun j hj i hi => ?_)
      rw [← hnw.out]
      exact flatQ_at (ckF l) hj hi)
    have HF : Hid (∀ q, v2.ownBlock = some q → w.heap.size ≤ q) := hid (fun q hq => (hown2.lt q hq).1)
    have HG : Hid (w.grownBy w2 none) := hid (gr_ownr (gr_alloc (gr_refl w none) _) hg2 (fun q hq => by
      have : w.heap.size = q := (by simpa [Act.eval, Value.ownBlock] using hq)
      omega))
    clear hown2 hg2 hnews hown0 hone
    go_wp2_with fail
    go_ret
    exact ⟨_, rfl, HJ, HF, HG⟩
end Go.Proofs.YtckoaeoecjphiaaGreat

/- Steps of a region that draws its order: an append, a call. -/
namespace Go.Proofs.YtckoaeoecjphiaaGreat
open Go.RowKit Go.Lib

theorem step_append_own {P : Program} {w : World} {ops : Array Oper} {o : Oper} {a : Act} {K : Act → World → Prop} {Q : Exit → Act → World → Prop} {E : Prop} (hgd : o.guard = none) (s x : Operand) (t : TypeId)
    (ho : o.op = .call { callee := .builtin .append, args := #[s, x], argTypes := #[t, t] })
    (base : Nat) (e : TypeId) (i : TypeInfo) (z : Value) (size bytes : Nat) (ht : P.underlying t = some (.slice e)) (hi : P.info? e = some i) (hz : i.zero = some z)
    (hsize : i.size = size) (hby : i.bytes = bytes) (hzs : z.cells.size = size) (hsz : 0 < size)
    (v : Value) (n : Nat) (xs : List Value) (hs : a.eval s = v) (hown : w.ownsRow base e size v n xs)
    (ad : Addr) (m c : Nat) (news : List Value) (hx : a.eval x = .slice (some ad) m c) (hl : news.length = m * size) (hnews : ∀ j u, news[j]? = some u → w.cell? (ad.add j) = some u) (h1 : ∀ u ∈ news, u.oneCell' = true)
    (h63 : n + m ≤ maxLen) (hbytes : (n + m) * bytes ≤ 140737488355328) (hbase : base ≤ w.heap.size)
    (h : ∀ v' w', w'.ownsRow base e size v' (n + m) (xs ++ news) → w.grownBy w' v.ownBlock → K (a.put o.dst v') w') :
    if Region.wanted o (yielded ops a.tmps) = true then Oper.wp P o a w K Q else E := by
  have hw : Region.wanted o (yielded ops a.tmps) = true := by simp [Region.wanted, hgd]
  rw [if_pos hw]
  exact wp_append_own w s x t ho base e i z size bytes ht hi hz hsize hby hzs hsz v n xs hs hown ad m c news hx hl hnews h1 h63 hbytes hbase fun v' w' h2 h3 _ => h v' w' h2 h3

theorem one_ints (l : List Int) : ∀ u ∈ l.map (Value.int .i64), u.oneCell' = true := by
  intro u hu
  obtain ⟨x, _, rfl⟩ := List.mem_map.1 hu
  rfl

theorem add_lit_ints (b off j : Nat) : (⟨b, off, none⟩ : Addr).add j = ⟨b, off + j, none⟩ := by
  simp only [Addr.add]
  split
  · rename_i h; rw [h]; rfl
  · rfl
theorem ints_news {n₀ : Nat} {w : World} {ad : Addr} {cap : Nat} {zs : List Int} (h : Ints n₀ w (.slice (some ad) zs.length cap) zs) : ∀ j u, (zs.map (Value.int .i64))[j]? = some u → w.cell? (ad.add j) = some u := by
  intro j u hj
  rcases h with ⟨_, _, _, rfl⟩ | ⟨b, off, cap', e, _, hc⟩
  · simp at hj
  · cases e
    have hlt : j < zs.length := by have := (List.getElem?_eq_some_iff.1 hj).1; simpa using this
    have := hc j hlt
    rw [add_lit_ints, this, ← hj]
    simp [hlt]

/-- The cells of the numbers from number k on. -/
theorem ints_from {n₀ : Nat} {w : World} {b off cap : Nat} {zs : List Int} (h : Ints n₀ w (.slice (some ⟨b, off, none⟩) zs.length cap) zs) (k : Nat) : ∀ j u, ((zs.drop k).map (Value.int .i64))[j]? = some u → w.cell? ((⟨b, off + k, none⟩ : Addr).add j) = some u := by
  intro j u hj
  have := ints_news h (k + j) u (by rw [List.getElem?_map] at hj ⊢; rwa [List.getElem?_drop] at hj)
  rw [add_lit_ints] at this ⊢
  rwa [Nat.add_assoc]
theorem ints_upto {n₀ : Nat} {w : World} {b off cap : Nat} {zs : List Int} (h : Ints n₀ w (.slice (some ⟨b, off, none⟩) zs.length cap) zs) (k : Nat) : ∀ j u, ((zs.take k).map (Value.int .i64))[j]? = some u → w.cell? ((⟨b, off, none⟩ : Addr).add j) = some u := by
  intro j u hj
  refine ints_news h j u ?_
  rw [List.getElem?_map] at hj ⊢
  have hlt : j < (zs.take k).length := by
    have := hj
    cases hq : (zs.take k)[j]? with
    | none => rw [hq] at this; simp at this
    | some y => exact (List.getElem?_eq_some_iff.1 hq).1
  rw [List.length_take] at hlt
  rwa [List.getElem?_take_of_lt (by omega)] at hj

/-- A call of a function by its contract. -/
theorem step_call {P : Program} {w : World} {ops : Array Oper} {o : Oper} {a : Act} {K : Act → World → Prop} {Q : Exit → Act → World → Prop} {E : Prop} (hgd : o.guard = none) {f : FuncId} {xs : Array Value}
    (hrun : (execOp a.eval o).run P w = .ok (.enter f xs) w) (h : Calls P f xs w fun e w' => ∃ v, e = .returned v ∧ K (a.put o.dst v) w') :
    if Region.wanted o (yielded ops a.tmps) = true then Oper.wp P o a w K Q else E := by
  have hw : Region.wanted o (yielded ops a.tmps) = true := by simp [Region.wanted, hgd]
  rw [if_pos hw]
  unfold Oper.wp
  rw [hrun]
  refine h.mono ?_
  rintro e w' ⟨v, rfl, hk⟩
  exact hk
end Go.Proofs.YtckoaeoecjphiaaGreat

/- Rounds, one behind the other: in plain words. -/
namespace Go.Proofs.YtckoaeoecjphiaaGreat
open Go.RowKit Go.Lib

/-- What is lost, as data. -/
structure Ls where
  u0 : Nat
  u1 : Nat
  w0 : Nat
  w1 : Nat
def nthLs (xs : List Ls) (j : Nat) : Ls := xs[j]?.getD ⟨0, 0, 0, 0⟩
theorem nthLs_mem {l : List Ls} {j : Nat} (h : j < l.length) : nthLs l j ∈ l := by unfold nthLs; rw [List.getElem?_eq_getElem h]; exact List.getElem_mem h
def lsF (xs : List Ls) (j i : Nat) : Value := match i with
  | 0 => .int .u32 ((nthLs xs j).u0 : Int)
  | 1 => .int .u32 ((nthLs xs j).u1 : Int)
  | 2 => .int .u32 ((nthLs xs j).w0 : Int)
  | _ => .int .u32 ((nthLs xs j).w1 : Int)
abbrev LsAt (n₀ : Nat) (w : World) (sv : Value) (xs : List Ls) : Prop := SliceAt n₀ w sv 4 xs.length (lsF xs)
def Ls.ok (x : Ls) : Prop := x.u0 < 4294967296 ∧ x.u1 < 4294967296 ∧ x.w0 < 4294967296 ∧ x.w1 < 4294967296
noncomputable def aftL (R : Rd) : List Ck := (List.range R.l.length).map R.aft
theorem aftL_len (R : Rd) : (aftL R).length = R.l.length := by unfold aftL; simp
theorem aftL_nth (R : Rd) {j : Nat} (h : j < R.l.length) : nthC (aftL R) j = R.aft j := by unfold nthC aftL; simp [h]
def rdOf (d : Net) (cy : Int) (l : List Ck) (x : Ls) : Rd := ⟨d, cy, l, x.u0, x.u1, x.w0, x.w1⟩
noncomputable def clsAt (d : Net) (fr : Int) (l : List Ck) (xs : List Ls) : Nat → List Ck
  | 0 => l
  | k + 1 => aftL (rdOf d (fr + (k : Int)) (clsAt d fr l xs k) (nthLs xs k))
noncomputable def rdAt (d : Net) (fr : Int) (l : List Ck) (xs : List Ls) (k : Nat) : Rd := rdOf d (fr + (k : Int)) (clsAt d fr l xs k) (nthLs xs k)
theorem clsAt_len (d : Net) (fr : Int) (l : List Ck) (xs : List Ls) : ∀ k, (clsAt d fr l xs k).length = l.length
  | 0 => rfl
  | k + 1 => by
    show (aftL (rdOf d (fr + (k : Int)) (clsAt d fr l xs k) (nthLs xs k))).length = _
    rw [aftL_len]
    exact clsAt_len d fr l xs k
theorem rdAt_len (d : Net) (fr : Int) (l : List Ck) (xs : List Ls) (k : Nat) : (rdAt d fr l xs k).l.length = l.length := clsAt_len d fr l xs k
theorem rdAt_ok {d : Net} {fr : Int} {l : List Ck} {xs : List Ls} {k : Nat} (h : goesZ d (fr + (k : Int)) (clsAt d fr l xs k) = true) (hx : (nthLs xs k).ok) : RdOk (rdAt d fr l xs k) :=
  ⟨h, hx.1, hx.2.1, hx.2.2.1, hx.2.2.2⟩
theorem goesZ_bd {d : Net} {cy : Int} {l : List Ck} (h : goesZ d cy l = true) : (0 ≤ cy ∧ cy ≤ 562949953421312) ∧ (0 < l.length ∧ l.length ≤ 6) := by
  have hR : RdOk (rdOf d cy l ⟨0, 0, 0, 0⟩) := ⟨h, by simp [rdOf], by simp [rdOf], by simp [rdOf], by simp [rdOf]⟩
  have h1 := hR.pcy.2
  have h2 := hR.len
  obtain ⟨h3, _, _, h5⟩ := cleanZ_iff.1 hR.clean.1
  obtain ⟨_, ⟨h4, _⟩, _⟩ := check_cy h3
  have h6 : (rdOf d cy l ⟨0, 0, 0, 0⟩).l = l := rfl
  have h7 : (rdOf d cy l ⟨0, 0, 0, 0⟩).cy = cy := rfl
  rw [h6] at h2 h5
  rw [h7] at h1
  exact ⟨h1, by omega, h2.1⟩
/-- How rounds end: k of them, and the error. -/
structure RunEnds (d : Net) (fr : Int) (l : List Ck) (xs : List Ls) (k : Nat) (er : Int) : Prop where
  le : k ≤ xs.length
  goes : ∀ j, j < k → goesZ d (fr + (j : Int)) (clsAt d fr l xs j) = true
  fin : (xs.length ≤ 32 ∧ k = xs.length ∧ er = 0) ∨ (er = 1 ∧ (32 < xs.length ∧ k = 0 ∨ xs.length ≤ 32 ∧ k < xs.length ∧ goesZ d (fr + (k : Int)) (clsAt d fr l xs k) = false))
noncomputable def toldF (d : Net) (fr : Int) (l : List Ck) (xs : List Ls) (vs vb vh va : Nat → Value) (j i : Nat) : Value := match i with
  | 0 => vs j
  | 1 => .int .u32 ((rdAt d fr l xs j).crew 0 : Int)
  | 2 => .int .u32 ((rdAt d fr l xs j).crew 1 : Int)
  | 3 => vb j
  | 4 => vh j
  | _ => va j
theorem told_cks {W : World} {R : Rd} {vs vb vh va : Value} (h : ToldAt W R vs vb vh va) : CksAt W.heap.size W va (aftL R) := by
  unfold CksAt
  rw [aftL_len]
  refine h.aft.congr (fun j hj i hi => ?_)
  unfold ckF
  rw [aftL_nth R hj]
  match i, hi with
  | 0, _ => rfl
  | 1, _ => rfl
  | 2, _ => rfl
/-- A slice that isn't in the block that may turn. -/
theorem SliceAt.keptRow {W W' : World} {sv : Value} {k n : Nat} {f : Nat → Nat → Value} {row : Option Nat} (h : SliceAt W.heap.size W sv k n f) (g : W.grownBy W' row) (hne : ∀ q, row = some q → sv.ownBlock ≠ some q) : SliceAt W'.heap.size W' sv k n f := by
  rcases h with h | ⟨b, off, cap, rfl, hc, hb, hf⟩
  · exact .inl h
  · refine .inr ⟨b, off, cap, rfl, hc, Nat.lt_of_lt_of_le hb g.size, fun j hj i hi => ?_⟩
    rw [World.cell?_of_block (w := W) (a := ⟨b, off + j * k + i, none⟩) (g.block b hb (fun e => hne b e.symm rfl))]
    exact hf j hj i hi
theorem SliceAt.blk {n₀ : Nat} {W : World} {sv : Value} {k n : Nat} {f : Nat → Nat → Value} (h : SliceAt n₀ W sv k n f) (hn : 0 < n) : ∀ q, sv.ownBlock = some q → q < n₀ := by
  intro q hq
  rcases h with ⟨_, _, _, h0⟩ | ⟨b, off, cap, rfl, _, hb, _⟩
  · omega
  · simp [Value.ownBlock] at hq
    omega
theorem told_kept {W W' : World} {R : Rd} {vs vb vh va : Value} {row : Option Nat} (h : ToldAt W R vs vb vh va) (g : W.grownBy W' row) (h1 : ∀ q, row = some q → vs.ownBlock ≠ some q) (h2 : ∀ q, row = some q → vb.ownBlock ≠ some q) (h3 : ∀ q, row = some q → vh.ownBlock ≠ some q) (h4 : ∀ q, row = some q → va.ownBlock ≠ some q) : ToldAt W' R vs vb vh va :=
  ⟨h.sent.keptRow g h1, h.by_.keptRow g h2, h.hrd.keptRow g h3, h.aft.keptRow g h4⟩
theorem flatQ_succ (k n : Nat) (f : Nat → Nat → Value) : flatQ k (n + 1) f = flatQ k n f ++ (List.range k).map (f n) := by
  refine List.ext_getElem? (fun q => ?_)
  rcases Nat.lt_or_ge q (n * k) with h | h
  · rw [List.getElem?_append_left (by rw [flatQ_len]; exact h)]
    unfold flatQ
    have h2 : q < (n + 1) * k := by rw [Nat.add_mul]; omega
    simp [h, h2]
  · rw [List.getElem?_append_right (by rw [flatQ_len]; exact h), flatQ_len]
    obtain ⟨i, rfl⟩ : ∃ i, q = n * k + i := ⟨q - n * k, by omega⟩
    rw [Nat.add_sub_cancel_left]
    rcases Nat.lt_or_ge i k with hi | hi
    · rw [flatQ_at f (Nat.lt_succ_self n) hi]
      simp [hi]
    · have h1 : (flatQ k (n + 1) f).length ≤ n * k + i := by rw [flatQ_len, Nat.add_mul]; omega
      rw [List.getElem?_eq_none h1]
      simp [hi]
theorem flatQ_congr {k n : Nat} {f g : Nat → Nat → Value} (h : ∀ j, j < n → f j = g j) : flatQ k n f = flatQ k n g := by
  unfold flatQ
  refine List.map_congr_left (fun q hq => ?_)
  have hq' := List.mem_range.1 hq
  have hk : 0 < k := by
    rcases Nat.eq_zero_or_pos k with h0 | h0
    · subst h0; simp at hq'
    · exact h0
  rw [h (q / k) (by rw [Nat.div_lt_iff_lt_mul hk]; exact hq')]
/-- What holds while rounds run. -/
structure RunSt (w W : World) (B : Nat) (d : Net) (fr : Int) (l : List Ck) (xs : List Ls) (sc vo : Value) (k : Nat) (vs vb vh va : Nat → Value) : Prop where
  cks : CksAt W.heap.size W sc (clsAt d fr l xs k)
  row : W.ownsRow B 38 6 vo k (flatQ 6 k (toldF d fr l xs vs vb vh va))
  told : ∀ j, j < k → ToldAt W (rdAt d fr l xs j) (vs j) (vb j) (vh j) (va j)
  nc : ∀ q, vo.ownBlock = some q → sc.ownBlock ≠ some q
  nt : ∀ q, vo.ownBlock = some q → ∀ j, j < k → (vs j).ownBlock ≠ some q ∧ (vb j).ownBlock ≠ some q ∧ (vh j).ownBlock ≠ some q ∧ (va j).ownBlock ≠ some q
  gr : w.grownBy W none
  lo : B ≤ W.heap.size ∧ w.heap.size ≤ B
section
variable {w W W' : World} {B : Nat} {d : Net} {fr : Int} {l : List Ck} {xs : List Ls} {sc vo : Value} {k : Nat} {vs vb vh va : Nat → Value}
theorem RunSt.grown (h : RunSt w W B d fr l xs sc vo k vs vb vh va) (g : W.grownBy W' none) : RunSt w W' B d fr l xs sc vo k vs vb vh va :=
  ⟨h.cks.keptRow g (fun q hq => by cases hq), h.row.kept g (by cases vo.ownBlock <;> simp), fun j hj => told_kept (h.told j hj) g (fun q hq => by cases hq) (fun q hq => by cases hq) (fun q hq => by cases hq) (fun q hq => by cases hq), h.nc, h.nt, gr_trans h.gr g, ⟨Nat.le_trans h.lo.1 g.size, h.lo.2⟩⟩
def updV (f : Nat → Value) (i : Nat) (v : Value) : Nat → Value := fun j => if j = i then v else f j
theorem updV_same (f : Nat → Value) (i : Nat) (v : Value) : updV f i v i = v := if_pos rfl
theorem updV_ne (f : Nat → Value) {i j : Nat} (v : Value) (h : j ≠ i) : updV f i v j = f j := if_neg h
/-- One round more: W = ahead of it, told at W1, the row and the clone at W4. -/
theorem RunSt.step {W1 W4 : World} {ys yb yh ya v2 v8 : Value} (h : RunSt w W B d fr l xs sc vo k vs vb vh va) (h0 : 0 < l.length)
    (g1 : W.grownBy W1 none) (ht : ToldAt W1 (rdAt d fr l xs k) ys yb yh ya) (hf : FreshT W.heap.size ys yb yh ya) (g4 : W1.grownBy W4 vo.ownBlock)
    (hrow : W4.ownsRow B 38 6 v2 (k + 1) (flatQ 6 k (toldF d fr l xs vs vb vh va) ++ [ys, .int .u32 ((rdAt d fr l xs k).crew 0 : Int), .int .u32 ((rdAt d fr l xs k).crew 1 : Int), yb, yh, ya]))
    (hck : CksAt W4.heap.size W4 v8 (aftL (rdAt d fr l xs k))) (hne : ∀ q, v2.ownBlock = some q → v8.ownBlock ≠ some q) (hnew : ∀ q, v2.ownBlock = some q → vo.ownBlock = some q ∨ W1.heap.size ≤ q) :
    RunSt w W4 B d fr l xs v8 v2 (k + 1) (updV vs k ys) (updV vb k yb) (updV vh k yh) (updV va k ya) := by
  have hlen := fun j => rdAt_len d fr l xs j
  have hrl : ∀ q, vo.ownBlock = some q → q < W.heap.size := fun q hq => (h.row.lt q hq).2
  have h1 := h.grown g1
  have hblk : ∀ j, j < k → ∀ q, ((vs j).ownBlock = some q → q < W1.heap.size) ∧ ((vb j).ownBlock = some q → q < W1.heap.size) ∧ ((vh j).ownBlock = some q → q < W1.heap.size) ∧ ((va j).ownBlock = some q → q < W1.heap.size) := fun j hj q => by
    have h2 := h1.told j hj
    have h3 : 0 < (rdAt d fr l xs j).l.length := by rw [hlen]; exact h0
    exact ⟨h2.sent.blk h3 q, h2.by_.blk h3 q, h2.hrd.blk h3 q, h2.aft.blk h3 q⟩
  have hblkk : ∀ q, (ys.ownBlock = some q → q < W1.heap.size) ∧ (yb.ownBlock = some q → q < W1.heap.size) ∧ (yh.ownBlock = some q → q < W1.heap.size) ∧ (ya.ownBlock = some q → q < W1.heap.size) := fun q => by
    have h3 : 0 < (rdAt d fr l xs k).l.length := by rw [hlen]; exact h0
    exact ⟨ht.sent.blk h3 q, ht.by_.blk h3 q, ht.hrd.blk h3 q, ht.aft.blk h3 q⟩
  refine ⟨hck, ?_, ?_, hne, ?_, gr_ownr h1.gr g4 (fun q hq => by have := (h.row.lt q hq).1; have := h.lo.2; omega), ⟨by have := h.lo; have := g1.size; have := g4.size; omega, h.lo.2⟩⟩
  · rw [flatQ_succ]
    have e1 : flatQ 6 k (toldF d fr l xs (updV vs k ys) (updV vb k yb) (updV vh k yh) (updV va k ya)) = flatQ 6 k (toldF d fr l xs vs vb vh va) := flatQ_congr (fun j hj => by
      have hj' : j ≠ k := by omega
      funext i
      unfold toldF
      rw [updV_ne vs ys hj', updV_ne vb yb hj', updV_ne vh yh hj', updV_ne va ya hj'])
    have e2 : (List.range 6).map (toldF d fr l xs (updV vs k ys) (updV vb k yb) (updV vh k yh) (updV va k ya) k) = [ys, .int .u32 ((rdAt d fr l xs k).crew 0 : Int), .int .u32 ((rdAt d fr l xs k).crew 1 : Int), yb, yh, ya] := by
      have e3 : List.range 6 = [0, 1, 2, 3, 4, 5] := rfl
      rw [e3]
      simp only [List.map_cons, List.map_nil, toldF, updV_same]
    rw [e1, e2]
    exact hrow
  · intro j hj
    by_cases e : j = k
    · subst e
      rw [updV_same, updV_same, updV_same, updV_same]
      exact told_kept ht g4 (fun q hq e => by have := hf.s q e; have := hrl q hq; omega) (fun q hq e => by have := hf.b q e; have := hrl q hq; omega) (fun q hq e => by have := hf.h q e; have := hrl q hq; omega) (fun q hq e => by have := hf.a q e; have := hrl q hq; omega)
    · rw [updV_ne _ _ e, updV_ne _ _ e, updV_ne _ _ e, updV_ne _ _ e]
      have h5 := h1.told j (by omega)
      exact told_kept h5 g4 (fun q hq => (h.nt q hq j (by omega)).1) (fun q hq => (h.nt q hq j (by omega)).2.1) (fun q hq => (h.nt q hq j (by omega)).2.2.1) (fun q hq => (h.nt q hq j (by omega)).2.2.2)
  · intro q hq j hj
    by_cases e : j = k
    · subst e
      rw [updV_same, updV_same, updV_same, updV_same]
      obtain ⟨b1, b2, b3, b4⟩ := hblkk q
      rcases hnew q hq with h6 | h6
      · have h7 := hrl q h6
        exact ⟨fun e => by have := hf.s q e; omega, fun e => by have := hf.b q e; omega, fun e => by have := hf.h q e; omega, fun e => by have := hf.a q e; omega⟩
      · exact ⟨fun e => by have := b1 e; omega, fun e => by have := b2 e; omega, fun e => by have := b3 e; omega, fun e => by have := b4 e; omega⟩
    · rw [updV_ne _ _ e, updV_ne _ _ e, updV_ne _ _ e, updV_ne _ _ e]
      obtain ⟨b1, b2, b3, b4⟩ := hblk j (by omega) q
      rcases hnew q hq with h6 | h6
      · exact h.nt q h6 j (by omega)
      · exact ⟨fun e => by have := b1 e; omega, fun e => by have := b2 e; omega, fun e => by have := b3 e; omega, fun e => by have := b4 e; omega⟩
end
end Go.Proofs.YtckoaeoecjphiaaGreat
