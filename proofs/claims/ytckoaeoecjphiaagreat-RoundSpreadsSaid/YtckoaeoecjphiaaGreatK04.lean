/- Lemmas: conf.schedule's closures; meet by the forwarding times; pairs. -/
import Derived.Test.YtckoaeoecjphiaaGreatK02
import Derived.Test.YtckoaeoecjphiaaGreatK03
import Derived.LoopN

/- conf.schedule's closures; meet by the forwarding times; pairs. -/
namespace Go.Proofs.YtckoaeoecjphiaaGreat
open Go.RowKit Go.Lib

theorem forwardZ_bd (c : Cf) (e : Ent) : -1125899906842624 ≤ forwardZ c e ∧ forwardZ c e ≤ 1125909906842624 := by
  unfold forwardZ
  split
  · rename_i h
    obtain ⟨hsp, _, p0, p1⟩ := plainZ_bd h
    have := spansZ_bd hsp
    have := timeZ_bd e.sz
    omega
  · omega

set_option maxHeartbeats 400000 in
theorem meet_fw (bx : Nat) (c : Cf) (vd ve vl : Value) (a b : Ent) (hao : Hid (a.to < 4294967296)) (hbo : Hid (b.to < 4294967296)) (w : World) (hcw : CfAt w bx c vd ve vl) :
    Calls Tryz.prog 122 #[a.v, b.v, .func (.func 113) #[] #[.pointer (some ⟨bx, 0, none⟩)]] w fun e w' => e = .returned (.bool (meetZ (forwardZ c a) (forwardZ c b) (timeZ a.sz) (timeZ b.sz))) ∧ w.grownBy w' none := by
  have g0 := gr_alloc (gr_alloc (gr_refl w none) (.cells #[.int .i64 a.fr, .int .u32 (a.to : Int), .int .i64 a.ph, .int .i64 a.sz] 134)) (.cells #[.int .i64 b.fr, .int .u32 (b.to : Int), .int .i64 b.ph, .int .i64 b.sz] 134)
  obtain ⟨w0, hw0⟩ : ∃ w0, w0 = (w.alloc (.cells #[.int .i64 a.fr, .int .u32 (a.to : Int), .int .i64 a.ph, .int .i64 a.sz] 134)).alloc (.cells #[.int .i64 b.fr, .int .u32 (b.to : Int), .int .i64 b.ph, .int .i64 b.sz] 134) := ⟨_, rfl⟩
  have gg := gr_refl w0 none
  have hA := box_heap1 (o := .cells #[.int .i64 a.fr, .int .u32 (a.to : Int), .int .i64 a.ph, .int .i64 a.sz] 134) (o' := .cells #[.int .i64 b.fr, .int .u32 (b.to : Int), .int .i64 b.ph, .int .i64 b.sz] 134) (w := w) (w1 := w0) (hw0 ▸ gg)
  have hB := box_heap2 (o := .cells #[.int .i64 a.fr, .int .u32 (a.to : Int), .int .i64 a.ph, .int .i64 a.sz] 134) (o' := .cells #[.int .i64 b.fr, .int .u32 (b.to : Int), .int .i64 b.ph, .int .i64 b.sz] 134) (w := w) (w1 := w0) (hw0 ▸ gg)
  have n0 := grn_cell (hcell hA 0 _ rfl)
  have n1 := grn_cell (hcell hA 1 _ rfl)
  have n2 := grn_cell (hcell hA 2 _ rfl)
  have n3 := grn_cell (hcell hA 3 _ rfl)
  have m0 := grn_cell (hcell hB 0 _ rfl)
  have m1 := grn_cell (hcell hB 1 _ rfl)
  have m2 := grn_cell (hcell hB 2 _ rfl)
  have m3 := grn_cell (hcell hB 3 _ rfl)
  rw [← hw0] at g0
  have G0 := hid g0; have Hw0 := hid hw0
  clear gg hA hB g0 hw0
  have hta := timeZ_bd a.sz
  have htb := timeZ_bd b.sz
  obtain ⟨Ta, hTa⟩ : ∃ T, Hid (timeZ a.sz = T) := ⟨_, hid rfl⟩
  obtain ⟨Tb, hTb⟩ : ∃ T, Hid (timeZ b.sz = T) := ⟨_, hid rfl⟩
  have ta := fun w' : World => time_any a.sz w'
  have tb := fun w' : World => time_any b.sz w'
  have ha := forwardZ_bd c a
  have hb := forwardZ_bd c b
  obtain ⟨pa, hpa⟩ : ∃ p, Hid (forwardZ c a = p) := ⟨_, hid rfl⟩
  obtain ⟨pb, hpb⟩ : ∃ p, Hid (forwardZ c b = p) := ⟨_, hid rfl⟩
  have qa := fun (w' : World) (g : w.grownBy w' none) => ahead_any bx c vd ve vl a hao w' (hcw.kept g)
  have qb := fun (w' : World) (g : w.grownBy w' none) => ahead_any bx c vd ve vl b hbo w' (hcw.kept g)
  rw [hpa.out] at ha
  rw [hpb.out] at hb
  simp only [hpa.out] at qa
  simp only [hpb.out] at qb
  rw [hpa.out, hpb.out]
  rw [hTa.out] at hta
  rw [hTb.out] at htb
  simp only [hTa.out] at ta
  simp only [hTb.out] at tb
  rw [hTa.out, hTb.out]
  have Hta := hid ta; have Htb := hid tb; have Hpa := hid qa; have Hpb := hid qb
  clear ta tb qa qb hTa hTb hpa hpb hao hbo hcw
  obtain ⟨fa, oa, qa, sa⟩ := a
  obtain ⟨fb, ob, qb, sb⟩ := b
  dsimp only at *
  obtain ⟨a0, a1⟩ := ha
  obtain ⟨b0, b1⟩ := hb
  obtain ⟨x0, x1⟩ := hta
  obtain ⟨y0, y1⟩ := htb
  have s0 : IntKind.i64.wrap (pb + Tb) = pb + Tb := IntWalk.i64_in _ (by omega)
  have s1 : IntKind.i64.wrap (pa + Ta) = pa + Ta := IntWalk.i64_in _ (by omega)
  obtain ⟨v, hv⟩ : ∃ v, decide (pa < pb + Tb) = v := ⟨_, rfl⟩
  have Hv := hid hv
  unfold meetZ
  rw [hv]
  cases v
  all_goals
    go_enter Tryz.func122, Tryz.ntmps122
    go_wp2_with fail
    rw [← Hw0.out]
    refine wp_region_grown (by kernel_rfl) (by kernel_rfl) ?_
    repeat (go_big_quiet_step (first
      | (go_at_call 113; first | (with_reducible refine (Hpa.out _ (gr_trans G0.out (Grn.gr _))).mono ?_; rintro e w6 ⟨rfl, g6⟩; exact ⟨rfl, ⟨_, gr_trans (Grn.gr _) g6⟩, rfl⟩) | (with_reducible refine (Hpb.out _ (gr_trans G0.out (Grn.gr _))).mono ?_; rintro e w6 ⟨rfl, g6⟩; exact ⟨rfl, ⟨_, gr_trans (Grn.gr _) g6⟩, rfl⟩))
      | (go_at_call 144; first | (with_reducible refine (Hta.out _).mono ?_; rintro e w6 ⟨rfl, rfl⟩; exact ⟨rfl, ⟨_, Grn.gr _⟩, rfl⟩) | (with_reducible refine (Htb.out _).mono ?_; rintro e w6 ⟨rfl, rfl⟩; exact ⟨rfl, ⟨_, Grn.gr _⟩, rfl⟩))))
    refine wpQuiet_nil ?_
    rintro _ ⟨⟨w7, g7⟩, rfl⟩
    clear n0 n1 n2 n3 m0 m1 m2 m3
    go_wp2_with fail
    go_ret
    exact ⟨rfl, gr_trans G0.out g7⟩

/-- The closure of pairs. -/
theorem pair1_any (K : Nat) (caps : Array Value) (f0 : Nat) (a0 : Nat) (x y : Value) (t : TypeId) (v : Bool) (fr to ph sz : Value) (w : World) (eg : ∀ args w, (callFunc K args).run Tryz.prog w = .ok (.enter K args) w)
    (hf : w.cell? ⟨f0, 0, none⟩ = some (.func (.func K) #[] caps)) (ha : w.heap[a0]? = some (.cells #[fr, to, ph, sz] t)) (hx : x = .agg #[fr, to, ph, sz]) (b0 b1 b2 b3 : Value) (hy : y = .agg #[b0, b1, b2, b3])
    (hK : Hid (∀ w', w.grownBy w' none → Calls Tryz.prog K (#[x, y] ++ caps) w' fun e w2 => e = .returned (.bool v) ∧ w'.grownBy w2 none)) :
    Calls Tryz.prog 146 #[y, .pointer (some ⟨f0, 0, none⟩), .pointer (some ⟨a0, 0, none⟩)] w fun e w' => e = .returned (.bool v) ∧ w.grownBy w' none := by
  subst hx hy
  have h0 := hcell ha 0 _ rfl
  have h1 := hcell ha 1 _ rfl
  have h2 := hcell ha 2 _ rfl
  have h3 := hcell ha 3 _ rfl
  have g0 := gr_alloc (gr_refl w none) (.cells #[b0, b1, b2, b3] 134)
  have f1 := gr_cell g0 hf
  have h0 := gr_cell g0 h0
  have h1 := gr_cell g0 h1
  have h2 := gr_cell g0 h2
  have h3 := gr_cell g0 h3
  have G0 := hid g0
  clear g0 hf ha
  go_enter Tryz.func146, Tryz.ntmps146
  go_wp2_with fail
  refine (hK.out _ G0.out).mono ?_
  rintro e w1 ⟨rfl, g1⟩
  go_wp2_with fail
  go_ret
  exact ⟨rfl, gr_trans G0.out g1⟩

theorem any_pairs (bad : Nat → Nat → Bool) (k : Nat) : (List.range (k + 1)).any (fun i => (List.range i).any (bad i)) = ((List.range k).any (fun i => (List.range i).any (bad i)) || (List.range k).any (bad k)) := by
  rw [List.range_succ, List.any_append]; simp

/-- Entries as cells. -/
def entF (x : Nat → Ent) (j i : Nat) : Value := match i with
  | 0 => .int .i64 (x j).fr
  | 1 => .int .u32 ((x j).to : Int)
  | 2 => .int .i64 (x j).ph
  | _ => .int .i64 (x j).sz

set_option maxRecDepth 100000 in
set_option maxHeartbeats 400000 in
/-- Does the closure find two that it calls bad? -/
theorem pairs_any (K : Nat) (caps : Array Value) (sv : Value) (n : Nat) (x : Nat → Ent) (bad : Nat → Nat → Bool) (w : World) (hs : SliceAt w.heap.size w sv 4 n (entF x)) (hn : n ≤ 140737488351232)
    (eg : ∀ args w, (callFunc K args).run Tryz.prog w = .ok (.enter K args) w)
    (hK : ∀ i j, j < i → i < n → ∀ w', w.grownBy w' none → Calls Tryz.prog K (#[(x i).v, (x j).v] ++ caps) w' fun e w2 => e = .returned (.bool (bad i j)) ∧ w'.grownBy w2 none) :
    Calls Tryz.prog 120 #[sv, .func (.func K) #[] caps] w fun e w' => e = .returned (.bool ((List.range n).any fun i => (List.range i).any (bad i))) ∧ w.grownBy w' none := by
  have HK := hid hK; clear hK
  have Eg := hid eg; clear eg
  rcases hs with ⟨a, cap, rfl, rfl⟩ | ⟨b, off, cap, rfl, hcap, hb, hf⟩
  · go_enter Tryz.func120, Tryz.ntmps120
    go_wp2_with fail
    refine wp_loop_rounds 1 ?_
    rw [rounds_succ]
    go_wp2_with fail
    go_ret
    exact ⟨rfl, gr_alloc (gr_refl w none) _⟩
  · have Hf := hid hf; clear hf
    go_enter Tryz.func120, Tryz.ntmps120
    go_wp2_with fail
    have g0 := gr_alloc (gr_refl w none) (.cells #[.func (.func K) #[] caps] 194)
    go_loopw [9] (fun i wr => ∃ k : Nat, k ≤ n ∧ i = .int .i64 k ∧ Hid ((List.range k).any (fun i => (List.range i).any (bad i)) = false) ∧ (w.alloc (.cells #[.func (.func K) #[] caps] 194)).grownBy wr none) (fun i _ => n - (intOf i).toNat)
    case atStart => exact ⟨0, Nat.zero_le _, rfl, hid rfl, gr_refl _ none⟩
    case round =>
      obtain ⟨k, hk, rfl, hno, g⟩ := hrel
      have gw : w.grownBy wr none := bx_gr g
      have hf := Hf.out
      by_cases hlt : k < n
      · have q0 : wr.cell? ⟨b, off + k * 4, none⟩ = some (.int .i64 (x k).fr) := gr_cell gw (hf k hlt 0 (by omega))
        have q1 : wr.cell? ⟨b, off + k * 4 + 1, none⟩ = some (.int .u32 ((x k).to : Int)) := gr_cell gw (hf k hlt 1 (by omega))
        have q2 : wr.cell? ⟨b, off + k * 4 + 2, none⟩ = some (.int .i64 (x k).ph) := gr_cell gw (hf k hlt 2 (by omega))
        have q3 : wr.cell? ⟨b, off + k * 4 + 3, none⟩ = some (.int .i64 (x k).sz) := gr_cell gw (hf k hlt 3 (by omega))
        have hfb := bx_cell g 0 _ rfl
        have hsl : SliceAt (wr.alloc (.cells #[.int .i64 (x k).fr, .int .u32 ((x k).to : Int), .int .i64 (x k).ph, .int .i64 (x k).sz] 134)).heap.size (wr.alloc (.cells #[.int .i64 (x k).fr, .int .u32 ((x k).to : Int), .int .i64 (x k).ph, .int .i64 (x k).sz] 134)) (.slice (some ⟨b, off, none⟩) k cap) 4 k (entF x) := by
          refine .inr ⟨b, off, cap, rfl, by omega, ?_, fun j hj i hi => ?_⟩
          · have := gw.size; simp; omega
          · exact gr_cell (gr_alloc gw _) (hf j (by omega) i hi)
        have Hsl := hid hsl
        have Hfb := hid hfb
        have G := hid g
        have Gw := hid gw
        have hk1 : k ≤ cap := by omega
        have hk2 : (k : Int) < n := by omega
        clear hf hsl hfb g gw
        go_wp2_with fail
        obtain ⟨v, hv⟩ : ∃ v, Hid ((List.range k).any (bad k) = v) := ⟨_, hid rfl⟩
        refine (contains_ent 146 #[.pointer (some ⟨w.heap.size, 0, none⟩), .pointer (some ⟨wr.heap.size, 0, none⟩)] _ k (entF x) (bad k) v _ Hsl.out (by omega) hv Tryz.call146 ?_).mono ?_
        · intro j hj w' g'
          have g2 := bx_gr g'
          refine (pair1_any K caps w.heap.size wr.heap.size (x k).v (x j).v 134 (bad k j) _ _ _ _ w' Eg.out (gr_cell g2 Hfb.out) (box_heap g') rfl _ _ _ _ rfl (hid ?_)).mono fun e w2 h => h
          intro w3 g3
          exact HK.out k j hj hlt w3 (gr_trans (gr_trans Gw.out g2) g3)
        · rintro e w2 ⟨rfl, g2⟩
          have g2' := bx_gr g2
          have hv' : (List.range (k + 1)).any (fun i => (List.range i).any (bad i)) = v := by rw [any_pairs, hno.out, hv.out]; rfl
          have Hv' := hid hv'
          clear g2 hv' hv hno q0 q1 q2 q3
          cases v
          · go_wp2_with fail
            go_roundw
            case rel => exact ⟨k + 1, by omega, by go_num, Hv', gr_trans G.out g2'⟩
            case measure => simp [intOf]; omega
          · go_wp2_with fail
            go_ret
            refine ⟨congrArg (fun b => Ending.returned (.bool b)) ?_, gr_trans Gw.out g2'⟩
            have h1 := Hv'.out
            rw [List.any_eq_true] at h1
            symm
            rw [List.any_eq_true]
            obtain ⟨y, hy, hp⟩ := h1
            exact ⟨y, by simp at hy ⊢; omega, hp⟩
      · obtain rfl : k = n := by omega
        clear hlt hf
        go_wp2_with fail
        go_ret
        exact ⟨congrArg (fun b => Ending.returned (.bool b)) hno.out.symm, gw⟩
end Go.Proofs.YtckoaeoecjphiaaGreat
