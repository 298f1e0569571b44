/- Lemmas: conf.schedule's closures; meet. Slices as they are read: k cells an element. No program is named here. -/
import Derived.Test.YtckoaeoecjphiaaGreatK01

/- conf.schedule's closures; meet. -/
namespace Go.Proofs.YtckoaeoecjphiaaGreat
open Go.RowKit Go.Lib

theorem phase_any (x : Ent) (w : World) :
    Calls Tryz.prog 112 #[x.v] w fun e w' => e = .returned (.int .i64 x.ph) ∧ w.grownBy w' none := by
  obtain ⟨fr, to, ph, sz⟩ := x
  go_enter Tryz.func112, Tryz.ntmps112
  go_wp2_with fail
  go_ret
  exact ⟨rfl, gr_alloc (gr_refl w none) _⟩

theorem CfAt.kept {w w' : World} {b : Nat} {c : Cf} {vd ve vl : Value} (h : CfAt w b c vd ve vl) (g : w.grownBy w' none) : CfAt w' b c vd ve vl := gr_heap g h (by simp)
theorem CfAt.lt {w : World} {b : Nat} {c : Cf} {vd ve vl : Value} (h : CfAt w b c vd ve vl) : b < w.heap.size := lt_of_block h

theorem ahead_any (bx : Nat) (c : Cf) (vd ve vl : Value) (x : Ent) (hx : Hid (x.to < 4294967296)) (w : World) (hc : CfAt w bx c vd ve vl) :
    Calls Tryz.prog 113 #[x.v, .pointer (some ⟨bx, 0, none⟩)] w fun e w' => e = .returned (.int .i64 (forwardZ c x)) ∧ w.grownBy w' none := by
  have g0 := gr_alloc (gr_refl w none) (.cells #[.int .i64 x.fr, .int .u32 (x.to : Int), .int .i64 x.ph, .int .i64 x.sz] 134)
  have hc1 : CfAt (w.alloc (.cells #[.int .i64 x.fr, .int .u32 (x.to : Int), .int .i64 x.ph, .int .i64 x.sz] 134)) bx c vd ve vl := hc.kept g0
  have k0 := hcell hc1 0 _ rfl
  have k1 := hcell hc1 1 _ rfl
  have k2 := hcell hc1 2 _ rfl
  have k3 := hcell hc1 3 _ rfl
  have k4 := hcell hc1 4 _ rfl
  have k5 := hcell hc1 5 _ rfl
  have k6 := hcell hc1 6 _ rfl
  have k7 := hcell hc1 7 _ rfl
  have k8 := hcell hc1 8 _ rfl
  clear hc hc1
  have hfw := fun w' : World => forward_any c vd ve vl x hx w'
  have Hfw := hid hfw; clear hfw
  obtain ⟨F, hF⟩ : ∃ F, Hid (forwardZ c x = F) := ⟨_, hid rfl⟩
  rw [hF.out] at Hfw ⊢
  clear hF
  have G0 := hid g0; clear g0
  obtain ⟨fr, to, ph, sz⟩ := x
  obtain ⟨ho, cy, de, wi, pr, qu⟩ := c
  dsimp only at *
  go_enter Tryz.func113, Tryz.ntmps113
  go_wp2_with fail
  refine (Hfw.out _).mono ?_
  rintro e w1 ⟨rfl, g1⟩
  go_wp2_with fail
  go_ret
  exact ⟨rfl, gr_trans G0.out g1⟩

/-- Do two meet, by their times? -/
def meetZ (x y tx ty : Int) : Bool := decide (x < y + ty) && decide (y < x + tx)

set_option maxHeartbeats 400000 in
theorem meet_ph (a b : Ent) (w : World) (ha : -1125899906842624 ≤ a.ph ∧ a.ph ≤ 1125909906842624) (hb : -1125899906842624 ≤ b.ph ∧ b.ph ≤ 1125909906842624) :
    Calls Tryz.prog 122 #[a.v, b.v, .func (.func 112) #[] #[]] w fun e w' => e = .returned (.bool (meetZ a.ph b.ph (timeZ a.sz) (timeZ b.sz))) ∧ w.grownBy w' none := by
  have g0 := gr_alloc (gr_alloc (gr_refl w none) (.cells #[.int .i64 a.fr, .int .u32 (a.to : Int), .int .i64 a.ph, .int .i64 a.sz] 134)) (.cells #[.int .i64 b.fr, .int .u32 (b.to : Int), .int .i64 b.ph, .int .i64 b.sz] 134)
  obtain ⟨w0, hw0⟩ : ∃ w0, w0 = (w.alloc (.cells #[.int .i64 a.fr, .int .u32 (a.to : Int), .int .i64 a.ph, .int .i64 a.sz] 134)).alloc (.cells #[.int .i64 b.fr, .int .u32 (b.to : Int), .int .i64 b.ph, .int .i64 b.sz] 134) := ⟨_, rfl⟩
  have gg := gr_refl w0 none
  have hA := box_heap1 (o := .cells #[.int .i64 a.fr, .int .u32 (a.to : Int), .int .i64 a.ph, .int .i64 a.sz] 134) (o' := .cells #[.int .i64 b.fr, .int .u32 (b.to : Int), .int .i64 b.ph, .int .i64 b.sz] 134) (w := w) (w1 := w0) (hw0 ▸ gg)
  have hB := box_heap2 (o := .cells #[.int .i64 a.fr, .int .u32 (a.to : Int), .int .i64 a.ph, .int .i64 a.sz] 134) (o' := .cells #[.int .i64 b.fr, .int .u32 (b.to : Int), .int .i64 b.ph, .int .i64 b.sz] 134) (w := w) (w1 := w0) (hw0 ▸ gg)
  have n0 := grn_cell (hcell hA 0 _ rfl)
  have n1 := grn_cell (hcell hA 1 _ rfl)
  have n2 := grn_cell (hcell hA 2 _ rfl)
  have n3 := grn_cell (hcell hA 3 _ rfl)
  have m0 := grn_cell (hcell hB 0 _ rfl)
  have m1 := grn_cell (hcell hB 1 _ rfl)
  have m2 := grn_cell (hcell hB 2 _ rfl)
  have m3 := grn_cell (hcell hB 3 _ rfl)
  rw [← hw0] at g0
  have G0 := hid g0; have Hw0 := hid hw0
  clear gg hA hB g0 hw0
  have hta := timeZ_bd a.sz
  have htb := timeZ_bd b.sz
  obtain ⟨Ta, hTa⟩ : ∃ T, Hid (timeZ a.sz = T) := ⟨_, hid rfl⟩
  obtain ⟨Tb, hTb⟩ : ∃ T, Hid (timeZ b.sz = T) := ⟨_, hid rfl⟩
  have ta := fun w' : World => time_any a.sz w'
  have tb := fun w' : World => time_any b.sz w'
  have pa := fun w' : World => phase_any a w'
  have pb := fun w' : World => phase_any b w'
  rw [hTa.out] at hta
  rw [hTb.out] at htb
  simp only [hTa.out] at ta
  simp only [hTb.out] at tb
  rw [hTa.out, hTb.out]
  have Hta := hid ta; have Htb := hid tb; have Hpa := hid pa; have Hpb := hid pb
  clear ta tb pa pb hTa hTb
  obtain ⟨fa, oa, pa, sa⟩ := a
  obtain ⟨fb, ob, pb, sb⟩ := b
  dsimp only at *
  obtain ⟨a0, a1⟩ := ha
  obtain ⟨b0, b1⟩ := hb
  obtain ⟨x0, x1⟩ := hta
  obtain ⟨y0, y1⟩ := htb
  have s0 : IntKind.i64.wrap (pb + Tb) = pb + Tb := IntWalk.i64_in _ (by omega)
  have s1 : IntKind.i64.wrap (pa + Ta) = pa + Ta := IntWalk.i64_in _ (by omega)
  obtain ⟨v, hv⟩ : ∃ v, decide (pa < pb + Tb) = v := ⟨_, rfl⟩
  have Hv := hid hv
  unfold meetZ
  rw [hv]
  cases v
  all_goals
    go_enter Tryz.func122, Tryz.ntmps122
    go_wp2_with fail
    rw [← Hw0.out]
    refine wp_region_grown (by kernel_rfl) (by kernel_rfl) ?_
    repeat (go_big_quiet_step (first
      | (go_at_call 112; first | (with_reducible refine (Hpa.out _).mono ?_; rintro e w6 ⟨rfl, g6⟩; exact ⟨rfl, ⟨_, gr_trans (Grn.gr _) g6⟩, rfl⟩) | (with_reducible refine (Hpb.out _).mono ?_; rintro e w6 ⟨rfl, g6⟩; exact ⟨rfl, ⟨_, gr_trans (Grn.gr _) g6⟩, rfl⟩))
      | (go_at_call 144; first | (with_reducible refine (Hta.out _).mono ?_; rintro e w6 ⟨rfl, rfl⟩; exact ⟨rfl, ⟨_, Grn.gr _⟩, rfl⟩) | (with_reducible refine (Htb.out _).mono ?_; rintro e w6 ⟨rfl, rfl⟩; exact ⟨rfl, ⟨_, Grn.gr _⟩, rfl⟩))))
    refine wpQuiet_nil ?_
    rintro _ ⟨⟨w7, g7⟩, rfl⟩
    clear n0 n1 n2 n3 m0 m1 m2 m3
    go_wp2_with fail
    go_ret
    exact ⟨rfl, gr_trans G0.out g7⟩
end Go.Proofs.YtckoaeoecjphiaaGreat

/- Slices as they are read: k cells an element. No program is named here. -/
namespace Go.Proofs.YtckoaeoecjphiaaGreat
open Go.RowKit Go.Lib

/-- The slice value sv has n elements of k cells: f j i is the i-th cell of the j-th; it lies in a block below n₀, or it is empty. -/
def SliceAt (n₀ : Nat) (W : World) (sv : Value) (k n : Nat) (f : Nat → Nat → Value) : Prop :=
  (∃ a cap, sv = .slice a 0 cap ∧ n = 0) ∨ ∃ b off cap, sv = .slice (some ⟨b, off, none⟩) n cap ∧ n ≤ cap ∧ b < n₀ ∧ ∀ j, j < n → ∀ i, i < k → W.cell? ⟨b, off + j * k + i, none⟩ = some (f j i)

theorem SliceAt.grown {n₀ : Nat} {A B : World} {sv : Value} {k n : Nat} {f : Nat → Nat → Value} (h : SliceAt n₀ A sv k n f) (g : A.grownBy B none) : SliceAt n₀ B sv k n f := by
  rcases h with h | ⟨b, off, cap, e, hc, hb, hf⟩
  · exact .inl h
  · exact .inr ⟨b, off, cap, e, hc, hb, fun j hj i hi => gr_cell g (hf j hj i hi)⟩
theorem SliceAt.wider {n₀ n₁ : Nat} {A : World} {sv : Value} {k n : Nat} {f : Nat → Nat → Value} (h : SliceAt n₀ A sv k n f) (g : n₀ ≤ n₁) : SliceAt n₁ A sv k n f := by
  rcases h with h | ⟨b, off, cap, e, hc, hb, hf⟩
  · exact .inl h
  · exact .inr ⟨b, off, cap, e, hc, by omega, hf⟩
/-- A write to the block row, which is not the slice's. -/
theorem SliceAt.below {n₀ : Nat} {A B : World} {sv : Value} {k n : Nat} {f : Nat → Nat → Value} (h : SliceAt n₀ A sv k n f) (g : Below n₀ A B) : SliceAt n₀ B sv k n f := by
  rcases h with h | ⟨b, off, cap, e, hc, hb, hf⟩
  · exact .inl h
  · exact .inr ⟨b, off, cap, e, hc, hb, fun j hj i hi => by rw [g.cell (p := ⟨b, off + j * k + i, none⟩) hb]; exact hf j hj i hi⟩
theorem SliceAt.nil {n₀ : Nat} {A : World} {k : Nat} {f : Nat → Nat → Value} : SliceAt n₀ A (.slice none 0 0) k 0 f := .inl ⟨none, 0, rfl, rfl⟩
theorem SliceAt.congr {n₀ : Nat} {A : World} {sv : Value} {k n : Nat} {f f' : Nat → Nat → Value} (h : SliceAt n₀ A sv k n f) (hf : ∀ j, j < n → ∀ i, i < k → f j i = f' j i) : SliceAt n₀ A sv k n f' := by
  rcases h with h | ⟨b, off, cap, e, hc, hb, hg⟩
  · exact .inl h
  · exact .inr ⟨b, off, cap, e, hc, hb, fun j hj i hi => by rw [← hf j hj i hi]; exact hg j hj i hi⟩
/-- The first n' elements. -/
theorem SliceAt.cut {n₀ : Nat} {A : World} {b off n cap n' : Nat} {k : Nat} {f : Nat → Nat → Value} (h : SliceAt n₀ A (.slice (some ⟨b, off, none⟩) n cap) k n f) (hn : n' ≤ n) : SliceAt n₀ A (.slice (some ⟨b, off, none⟩) n' cap) k n' f := by
  rcases h with ⟨a, c, e, h0⟩ | ⟨b', off', cap', e, hc, hb, hg⟩
  · obtain rfl : n' = 0 := by omega
    exact .inl ⟨_, _, rfl, rfl⟩
  · simp only [Value.slice.injEq, Option.some.injEq, Addr.mk.injEq, true_and, and_true] at e
    obtain ⟨⟨rfl, rfl⟩, rfl⟩ := e
    exact .inr ⟨b, off, cap, rfl, by omega, hb, fun j hj i hi => hg j (by omega) i hi⟩
end Go.Proofs.YtckoaeoecjphiaaGreat
