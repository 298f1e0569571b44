/- Lemmas: comp.Add where no collection is open: the first frame. -/
import Derived.Test.YtckoaeoecjphiaaGreatK20

/- comp.Add where no collection is open: the first frame. -/
namespace Go.Proofs.YtckoaeoecjphiaaGreat
open Go.RowKit Go.Lib

theorem Cmp.stored {w : World} {b : Nat} {win : Int} {op : Bool} {first : Int} {vr vc : Value} {cr : Nat} (h : Cmp w b win op first vr vc cr) (a0 a1 a2 a3 a4 : Value) (c : Nat) (l' : Int) (h0 : a0 = .int .i64 win) (h1 : a1 = .bool true) (h2 : a2 = .int .i64 l') (h3 : a3 = .slice none 0 0) (h4 : a4 = .slice none 0 0) :
    Cmp ((((((w.setCell ⟨b, 0, none⟩ a0).setCell ⟨b, 1, none⟩ a1).setCell ⟨b, 2, none⟩ a2).setCell ⟨b, 3, none⟩ a3).setCell ⟨b, 4, none⟩ a4).setCell ⟨b, 5, none⟩ (.int .u32 (c : Int))) b win true l' (.slice none 0 0) (.slice none 0 0) c := by
  subst h0 h1 h2 h3 h4
  unfold Cmp at *
  simp only [World.setCell, Array.getElem?_modify, if_true, h, Option.map_some]
  rfl

set_option maxRecDepth 100000 in
set_option maxHeartbeats 4000000 in
theorem add_open (P : Nat → Prop) (base b : Nat) (win first : Int) (vr vc : Value) (cm0 : Nat) (l fr cy cr cl : Int) (h : Nat) (hfr : fr = (h : Int)) (hh : h < 6) (w : World)
    (hc : Cmp w b win false first vr vc cm0) (hbb : base ≤ b) (hP : ∀ q, P q → q < w.heap.size ∧ q ≠ b) (hr : rightB 1 fr cy cr cl = true) (hl : -1125899906842624 ≤ l ∧ l ≤ 1125899906842624) (hw : 0 ≤ win ∧ win ≤ 1048576) :
    Calls Tryz.prog 79 #[.pointer (some ⟨b, 0, none⟩), .int .i64 l, ctl 1 fr cy cr cl] w fun e w' => e = .returned (.tuple #[.int .i64 (l + win), .int .i64 0]) ∧ Coll P w' base b win l [0] [cy] (2 ^ h) ∧ Below base w w' ∧ ∀ q, P q → w'.heap[q]? = w.heap[q]? := by
  subst hfr
  obtain ⟨i0, hi, hz0, hz1, hz2⟩ := info_parts Tryz.info_i64
  have Hr := hid hr
  have Hc0 := hid hc
  have Hbl := hid hc.lt
  have Hbb := hid hbb
  have HP := hid hP
  clear hr hc hbb hP
  obtain ⟨l0, l1⟩ := hl
  obtain ⟨m0, m1⟩ := hw
  go_enter Tryz.func79, Tryz.ntmps79
  go_wp2_with fail
  refine (control_ok 1 h cy cr cl _ Hr.out).mono ?_
  rintro e w1 ⟨⟨vv, rfl⟩, g1⟩
  have Hc1 := hid (Hc0.out.kept (bx_gr g1) (by simp))
  have c0 := Hc1.out.c0
  have c1 := Hc1.out.c1
  have c2 := Hc1.out.c2
  have c3 := Hc1.out.c3
  have c4 := Hc1.out.c4
  have c5 := Hc1.out.c5
  have z0 := Hc1.out.f 0
  have z1 := Hc1.out.f 1
  have z2 := Hc1.out.f 2
  have z3 := Hc1.out.f 3
  have z4 := Hc1.out.f 4
  have z5 := Hc1.out.f 5
  have d0 : w1.cell? ⟨w.heap.size, 0, none⟩ = some (.int .i64 1) := bx_cell g1 0 _ rfl
  have d1 : w1.cell? ⟨w.heap.size, 1, none⟩ = some (.int .i64 (h : Int)) := bx_cell g1 1 _ rfl
  have d2 : Hid (w1.cell? ⟨w.heap.size, 2, none⟩ = some (.int .i64 cy)) := hid (bx_cell g1 2 _ rfl)
  have d1' := hid d1
  have Hg1 := hid g1
  clear g1
  go_wp2_with fail
  have hgb : w.heap.size ≠ b := by have := Hbl.out; omega
  obtain ⟨w3, hw3⟩ : ∃ w3, ((((((w1.setCell ⟨b, 0, none⟩ (.int .i64 win)).setCell ⟨b, 1, none⟩ (.bool true)).setCell ⟨b, 2, none⟩ (.int .i64 l)).setCell ⟨b, 3, none⟩ (.slice none 0 0)).setCell ⟨b, 4, none⟩ (.slice none 0 0)).setCell ⟨b, 5, none⟩ (.int .u32 0)) = w3 := ⟨_, rfl⟩
  have S3 : Hid (CS P w w3 base b w.heap.size win l (.slice none 0 0) (.slice none 0 0) [] [] 0 h cy) := hid (by
    subst hw3
    exact
    { cmp := Cmp.stored Hc1.out _ _ _ _ _ 0 l rfl rfl rfl rfl rfl
      rr := World.ownsRow_nil _ _ _ _
      rc := World.ownsRow_nil _ _ _ _
      n1 := by simp [Value.ownBlock]
      n2 := by simp [Value.ownBlock]
      ap := by simp [Value.ownBlock]
      m1 := by simp [Value.ownBlock]
      m2 := by simp [Value.ownBlock]
      gb := hgb
      glt := by have := Hg1.out.size; simp [World.setCell] at *; omega
      bb := Hbb.out
      b1 := by rw [cell_set_other hgb, cell_set_other hgb, cell_set_other hgb, cell_set_other hgb, cell_set_other hgb, cell_set_other hgb]; exact d1'.out
      b2 := by rw [cell_set_other hgb, cell_set_other hgb, cell_set_other hgb, cell_set_other hgb, cell_set_other hgb, cell_set_other hgb]; exact d2.out
      bel := (gr_below (bx_gr Hg1.out) (by have := Hbl.out; have := Hbb.out; omega) (by simp)).trans (gr_below (gr_setRow (gr_setRow (gr_setRow (gr_setRow (gr_setRow (gr_setRow (gr_refl w1 (some b)) 0 _) 1 _) 2 _) 3 _) 4 _) 5 _) (by have := Hbl.out; have := Hbb.out; have := Hg1.out.size; simp at this; omega) (by intro q e; simp at e; have := Hbb.out; omega))
      pk := fun q hq => by
        obtain ⟨h1, h2⟩ := HP.out q hq
        refine ⟨h1, h2, by simp [Value.ownBlock], by simp [Value.ownBlock], ?_⟩
        rw [Below.heap_setCell _ _ _ _ (by simpa using h2), Below.heap_setCell _ _ _ _ (by simpa using h2), Below.heap_setCell _ _ _ _ (by simpa using h2), Below.heap_setCell _ _ _ _ (by simpa using h2), Below.heap_setCell _ _ _ _ (by simpa using h2), Below.heap_setCell _ _ _ _ (by simpa using h2)]
        exact (bx_gr Hg1.out).block q h1 (by simp) })
  have Hz3 : Hid (base ≤ w3.heap.size) := hid (by have := S3.out.cmp.lt; have := Hbb.out; omega)
  rw [hw3]
  clear hw3 c0 c1 c2 c3 c4 c5 z0 z1 z2 z3 z4 z5 d0 d1 d2 d1' Hc1 Hc0 Hg1
  obtain ⟨first', hfe⟩ : ∃ f, Hid (f = l) := ⟨_, hid rfl⟩
  obtain ⟨cm, hce⟩ : ∃ c : Nat, Hid (c = 0) := ⟨_, hid rfl⟩
  obtain ⟨rs, hre⟩ : ∃ r : List Int, Hid (r = []) := ⟨_, hid rfl⟩
  obtain ⟨cs, hse⟩ : ∃ r : List Int, Hid (r = []) := ⟨_, hid rfl⟩
  obtain ⟨vr', hve⟩ : ∃ v : Value, Hid (v = .slice none 0 0) := ⟨_, hid rfl⟩
  obtain ⟨vc', hwe⟩ : ∃ v : Value, Hid (v = .slice none 0 0) := ⟨_, hid rfl⟩
  have S3 : Hid (CS P w w3 base b w.heap.size win first' vr' vc' rs cs cm h cy) := hid (by rw [hfe.out, hce.out, hre.out, hse.out, hve.out, hwe.out]; exact S3.out)
  have f0 : -1125899906842624 ≤ first' := by rw [hfe.out]; exact l0
  have f1 : first' ≤ 1125899906842624 := by rw [hfe.out]; exact l1
  have n0 : first' ≤ l := by rw [hfe.out]; exact Int.le_refl _
  have n1 : l ≤ first' + win := by rw [hfe.out]; omega
  have q0 : rs.length ≤ 100 := by rw [hre.out]; simp
  have q1 : cs.length ≤ 100 := by rw [hse.out]; simp
  have hcm : cm < 64 := by rw [hce.out]; omega
  have hno : hasB cm h = false := by rw [hce.out]; simp [hasB]
  have wf : IntKind.i64.wrap (first' + win) = first' + win := by rw [IntKind.wrap_i64]; omega
  clear first vr vc
  have c2 := S3.out.cmp.c2
  have c3 := S3.out.cmp.c3
  go_wp2_with fail
  have hfz := S3.out.cmp.f 3
  have ws : IntKind.i64.wrap (l - first') = l - first' := by rw [IntKind.wrap_i64]; omega
  have S3d : Hid (CS P w w3.drew base b w.heap.size win first' vr' vc' rs cs cm h cy) := hid (S3.out.grown (gr_drew (gr_refl w3 none)) Hz3.out)
  have Hrs3 : Hid ((w3.drew.alloc (.cells #[.int .i64 (l - first')] 2)).ownsRow base 2 1 vr' rs.length (rs.map (Value.int .i64))) := hid (S3d.out.rr.alloc _)
  have a3 : (w3.alloc (.cells #[.int .i64 (l - first')] 2)).cell? ⟨b, 3, none⟩ = some vr' := gr_cell (gr_alloc (gr_refl w3 none) _) c3
  apply wp_behind (fun g c W => Hid (CS P w W base b w.heap.size win first' (.slice (some ⟨g, 0, none⟩) (rs.length + 1) c) vc' (rs ++ [l - first']) cs cm h cy) ∧ Hid (base ≤ W.heap.size))
  case h =>
    go_region_law (refine step_append_at rfl (.tmp 85) (.tmp 92) 35 rfl base 2 i0 (.int .i64 0) 1 8 Tryz.underlying35 hi hz0 hz1 hz2 rfl (by decide) vr' rs.length (rs.map (Value.int .i64)) (by simp [Act.eval]) Hrs3.out ⟨w3.heap.size, 0, none⟩ 1 1 [.int .i64 (l - first')] (by simp [Act.eval]) rfl (cell_one_new _ _ _) (by simp [Value.oneCell']) (by unfold maxLen; omega) (by omega) (by have := Hz3.out; simp; omega) ?_; intro v4 w4 hown4 hg4 hat4; obtain ⟨g4, cap4, rfl⟩ := own_slice hown4; have hc4 := (S3d.out.cmp.kept (World.grownBy_alloc _ (.cells #[.int .i64 (l - first')] 2) none) (by simp)).kept hg4 (fun e => S3d.out.n1 e.symm); have k3 := hc4.c3; have z3 := hc4.f 3; have S5 := hid (S3d.out.readings Hz3.out hown4 hg4 hat4); have Hz5 : Hid (base ≤ w4.heap.size) := hid (by have := hg4.size; have := Hz3.out; simp at *; omega); clear hc4 hg4 hown4 hat4)
    all_goals exact ⟨g4, cap4, rfl, S5, hid (by simpa [World.setCell] using Hz5.out)⟩
  case k =>
    intro g4 cap4 w5 hS
    obtain ⟨S5, Hz6⟩ := hS
    clear hfz ws S3d Hrs3 a3 S3 Hz3 c2 c3
    have c4 := S5.out.cmp.c4
    have d2 := S5.out.b2
    go_wp2_with fail
    have hfz := S5.out.cmp.f 4
    have S5d : Hid (CS P w w5.drew base b w.heap.size win first' (.slice (some ⟨g4, 0, none⟩) (rs.length + 1) cap4) vc' (rs ++ [l - first']) cs cm h cy) := hid (S5.out.grown (gr_drew (gr_refl w5 none)) Hz6.out)
    have Hcs5 : Hid ((w5.drew.alloc (.cells #[.int .i64 cy] 2)).ownsRow base 2 1 vc' cs.length (cs.map (Value.int .i64))) := hid (S5d.out.rc.alloc _)
    have a4 : (w5.alloc (.cells #[.int .i64 cy] 2)).cell? ⟨b, 4, none⟩ = some vc' := gr_cell (gr_alloc (gr_refl w5 none) _) c4
    apply wp_behind (fun g c W => Hid (CS P w W base b w.heap.size win first' (.slice (some ⟨g4, 0, none⟩) (rs.length + 1) cap4) (.slice (some ⟨g, 0, none⟩) (cs.length + 1) c) (rs ++ [l - first']) (cs ++ [cy]) cm h cy) ∧ Hid (base ≤ W.heap.size))
    case h =>
      go_region_law (refine step_append_at rfl (.tmp 100) (.tmp 103) 35 rfl base 2 i0 (.int .i64 0) 1 8 Tryz.underlying35 hi hz0 hz1 hz2 rfl (by decide) vc' cs.length (cs.map (Value.int .i64)) (by simp [Act.eval]) Hcs5.out ⟨w5.heap.size, 0, none⟩ 1 1 [.int .i64 cy] (by simp [Act.eval]) rfl (cell_one_new _ _ _) (by simp [Value.oneCell']) (by unfold maxLen; omega) (by omega) (by have := Hz6.out; simp; omega) ?_; intro v6 w6 hown6 hg6 hat6; obtain ⟨g6, cap6, rfl⟩ := own_slice hown6; have hc6 := (S5d.out.cmp.kept (World.grownBy_alloc _ (.cells #[.int .i64 cy] 2) none) (by simp)).kept hg6 (fun e => S5d.out.n2 e.symm); have k4 := hc6.c4; have z4 := hc6.f 4; have S7 := hid (S5d.out.cycles Hz6.out hown6 hg6 hat6); have Hz7 : Hid (base ≤ w6.heap.size) := hid (by have := hg6.size; have := Hz6.out; simp at *; omega); clear hc6 hg6 hown6 hat6)
      all_goals exact ⟨g6, cap6, rfl, S7, hid (by simpa [World.setCell] using Hz7.out)⟩
    case k =>
      intro g6 cap6 w7 hS
      obtain ⟨S7, Hz8⟩ := hS
      clear hfz S5d Hcs5 a4 S5 Hz6 c4 d2
      have c5 := S7.out.cmp.c5
      have d1 := S7.out.b1
      have hfz := S7.out.cmp.f 5
      go_wp2_with fail
      have hor : bits .or .u32 (cm : Int) ((2 : Int) ^ h) = ((cm + 2 ^ h : Nat) : Int) := by
        have := or_bit ⟨cm, hcm⟩ ⟨h, hh⟩
        simp only [hno] at this
        simpa using this
      have S7d := hid (S7.out.grown (gr_alloc (gr_drew (gr_refl w7 none)) (.cells #[.int .i64 (h : Int)] 3)) Hz8.out)
      have HcellO : Hid ((w7.drew.alloc (.cells #[.int .i64 (h : Int)] 3)).cell? ⟨w7.heap.size, 0, none⟩ = some (.int .i64 (h : Int))) := hid (World.cell?_alloc_new w7.drew _ _ 0)
      have a5 : (w7.alloc (.cells #[.int .i64 (h : Int)] 3)).cell? ⟨b, 5, none⟩ = some (.int .u32 (cm : Int)) := gr_cell (gr_alloc (gr_refl w7 none) _) c5
      have z5 : (w7.alloc (.cells #[.int .i64 (h : Int)] 3)).frozen? ⟨b, 5, none⟩ = false := S7d.out.cmp.f 5
      apply wp_behind0 (fun W => Hid (CS P w W base b w.heap.size win first' (.slice (some ⟨g4, 0, none⟩) (rs.length + 1) cap4) (.slice (some ⟨g6, 0, none⟩) (cs.length + 1) cap6) (rs ++ [l - first']) (cs ++ [cy]) (cm + 2 ^ h) h cy) ∧ Hid (base ≤ W.heap.size))
      case h =>
        go_region_with (go_at_call 131; refine (of_one _ h hh _ ?_).mono ?_; exact HcellO.out; rintro e w' ⟨rfl, rfl⟩)
        all_goals exact ⟨rfl, hid (S7d.out.crew (by have := Hz8.out; simp; omega) (cm + 2 ^ h)), hid (by have := Hz8.out; simp [World.setCell]; omega)⟩
      case k =>
        intro w9 hS
        obtain ⟨S9, Hz9⟩ := hS
        have c0 := S9.out.cmp.c0
        have c2 := S9.out.cmp.c2
        go_wp2_with fail
        go_quiet (fail)
        have S10 := S9.out.grown (gr_drewN (gr_refl w9 none) nq) Hz9.out
        go_wp2_with fail
        go_ret2
        have hA := S10.coll
        have hB := S10.bel
        have hK := S10.keeps
        rw [hfe.out, hce.out, hre.out, hse.out] at hA
        refine ⟨by rw [hfe.out]; rfl, ?_, hB, hK⟩
        simpa using hA
end Go.Proofs.YtckoaeoecjphiaaGreat
