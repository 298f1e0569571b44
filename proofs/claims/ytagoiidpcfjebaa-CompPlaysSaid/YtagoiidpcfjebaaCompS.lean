/- A collection's world while a frame is laid into it. -/
import Derived.Test.YtagoiidpcfjebaaCompA
import Derived.OneCell
namespace Go.Proofs.Ytagoiidpcfjebaa
open Go.RowKit Go.Lib

theorem Cmp.set3 {w : World} {b : Nat} {win : Int} {op : Bool} {first : Int} {vr vc : Value} {cr : Nat} (h : Cmp w b win op first vr vc cr) (v : Value) : Cmp (w.setCell ⟨b, 3, none⟩ v) b win op first v vc cr := by
  unfold Cmp at *
  simp only [World.setCell, Array.getElem?_modify, if_true, h, Option.map_some]
  rfl
theorem Cmp.set4 {w : World} {b : Nat} {win : Int} {op : Bool} {first : Int} {vr vc : Value} {cr : Nat} (h : Cmp w b win op first vr vc cr) (v : Value) : Cmp (w.setCell ⟨b, 4, none⟩ v) b win op first vr v cr := by
  unfold Cmp at *
  simp only [World.setCell, Array.getElem?_modify, if_true, h, Option.map_some]
  rfl
theorem Cmp.set5 {w : World} {b : Nat} {win : Int} {op : Bool} {first : Int} {vr vc : Value} {cr : Nat} (h : Cmp w b win op first vr vc cr) (c : Nat) : Cmp (w.setCell ⟨b, 5, none⟩ (.int .u32 (c : Int))) b win op first vr vc c := by
  unfold Cmp at *
  simp only [World.setCell, Array.getElem?_modify, if_true, h, Option.map_some]
  rfl

/-- The collection, its two rows apart, the frame in its box g; nothing below base has turned since w. -/
structure CS (P : Nat → Prop) (w W : World) (base b g : Nat) (win first : Int) (vr vc : Value) (rs cs : List Int) (cm h : Nat) (cy : Int) : Prop where
  cmp : Cmp W b win true first vr vc cm
  rr : W.ownsRow base 2 1 vr rs.length (rs.map (Value.int .i64))
  rc : W.ownsRow base 2 1 vc cs.length (cs.map (Value.int .i64))
  n1 : vr.ownBlock ≠ some b
  n2 : vc.ownBlock ≠ some b
  ap : ∀ q, vr.ownBlock = some q → vc.ownBlock ≠ some q
  m1 : vr.ownBlock ≠ some g
  m2 : vc.ownBlock ≠ some g
  gb : g ≠ b
  glt : g < W.heap.size
  bb : base ≤ b
  b1 : W.cell? ⟨g, 1, none⟩ = some (.int .i64 (h : Int))
  b2 : W.cell? ⟨g, 2, none⟩ = some (.int .i64 cy)
  bel : Below base w W
  pk : ∀ q, P q → q < w.heap.size ∧ q ≠ b ∧ vr.ownBlock ≠ some q ∧ vc.ownBlock ≠ some q ∧ W.heap[q]? = w.heap[q]?

section
variable {P : Nat → Prop} {w W : World} {base b g : Nat} {win first : Int} {vr vc : Value} {rs cs : List Int} {cm h : Nat} {cy : Int}

theorem CS.grown {W' : World} (s : CS P w W base b g win first vr vc rs cs cm h cy) (G : W.grownBy W' none) (hb : base ≤ W.heap.size) : CS P w W' base b g win first vr vc rs cs cm h cy where
  cmp := s.cmp.kept G (by simp)
  rr := s.rr.kept G (by cases vr.ownBlock <;> simp)
  rc := s.rc.kept G (by cases vc.ownBlock <;> simp)
  n1 := s.n1
  n2 := s.n2
  ap := s.ap
  m1 := s.m1
  m2 := s.m2
  gb := s.gb
  glt := Nat.lt_of_lt_of_le s.glt G.size
  bb := s.bb
  b1 := gr_cell G s.b1
  b2 := gr_cell G s.b2
  bel := s.bel.trans (gr_below G hb (by simp))
  pk := fun q hq => by
    obtain ⟨h1, h2, h3, h4, h5⟩ := s.pk q hq
    refine ⟨h1, h2, h3, h4, (G.block q ?_ (by simp)).trans h5⟩
    have := s.bel.size
    omega

theorem cell_set_other {W : World} {b g i j : Nat} (h : g ≠ b) (u : Value) : (W.setCell ⟨b, i, none⟩ u).cell? ⟨g, j, none⟩ = W.cell? ⟨g, j, none⟩ := by
  unfold World.cell?
  rw [Below.heap_setCell _ _ _ _ (by simpa using h)]

theorem CS.readings {W4 : World} {o : Obj} {g4 cap4 : Nat} {x : Int} (s : CS P w W base b g win first vr vc rs cs cm h cy) (hb : base ≤ W.heap.size)
    (hown : W4.ownsRow base 2 1 (.slice (some ⟨g4, 0, none⟩) (rs.length + 1) cap4) (rs.length + 1) (rs.map (Value.int .i64) ++ [.int .i64 x]))
    (hg : (W.alloc o).grownBy W4 vr.ownBlock) (hat : (Value.slice (some ⟨g4, 0, none⟩) (rs.length + 1) cap4).ownBlock = vr.ownBlock ∨ (Value.slice (some ⟨g4, 0, none⟩) (rs.length + 1) cap4).ownBlock = some (W.alloc o).heap.size) :
    CS P w (W4.setCell ⟨b, 3, none⟩ (.slice (some ⟨g4, 0, none⟩) (rs.length + 1) cap4)) base b g win first (.slice (some ⟨g4, 0, none⟩) (rs.length + 1) cap4) vc (rs ++ [x]) cs cm h cy := by
  have hbl := s.cmp.lt
  have hgl := s.glt
  have hob : (Value.slice (some ⟨g4, 0, none⟩) (rs.length + 1) cap4).ownBlock = some g4 := rfl
  rw [hob] at hat
  have hsz : (W.alloc o).heap.size = W.heap.size + 1 := by simp
  have hne : ∀ q, q < W.heap.size → vr.ownBlock ≠ some q → g4 ≠ q := by
    rintro q hq hv rfl
    rcases hat with e | e
    · exact hv e.symm
    · rw [hsz] at e; simp at e; omega
  have hvc : ∀ q, vc.ownBlock = some q → q < W.heap.size := fun q hq => (s.rc.lt q hq).2
  have hap : vc.ownBlock ≠ some g4 := by
    intro e
    refine hne g4 (hvc _ e) ?_ rfl
    intro e'
    exact s.ap g4 e' e
  have hlen : (rs ++ [x]).length = rs.length + 1 := by simp
  have hcells : ∀ i v, W.cell? ⟨g, i, none⟩ = some v → (W4.setCell ⟨b, 3, none⟩ (.slice (some ⟨g4, 0, none⟩) (rs.length + 1) cap4)).cell? ⟨g, i, none⟩ = some v := by
    intro i v hv
    rw [cell_set_other s.gb]
    have h1 : (W.alloc o).cell? ⟨g, i, none⟩ = some v := gr_cell (World.grownBy_alloc W o none) hv
    exact hg.cell h1 (fun e => s.m1 e.symm)
  exact
  { cmp := Cmp.set3 ((s.cmp.kept (World.grownBy_alloc W o none) (by simp)).kept hg (fun e => s.n1 e.symm)) _
    rr := by
      rw [hlen, List.map_append]
      exact ownsRow_setCell_other hown (by rw [hob]; simpa using hne b hbl s.n1) _
    rc := ownsRow_setCell_other ((s.rc.alloc o).kept hg (by
      cases hq : vc.ownBlock with
      | none => exact .inl rfl
      | some q => exact .inr (fun e => s.ap q e.symm hq))) (by simpa using s.n2) _
    n1 := by rw [hob]; simpa using hne b hbl s.n1
    n2 := s.n2
    ap := by intro q hq; rw [hob] at hq; cases hq; exact hap
    m1 := by rw [hob]; simpa using hne g hgl s.m1
    m2 := s.m2
    gb := s.gb
    glt := by have := hg.size; simp [World.setCell] at *; omega
    bb := s.bb
    b1 := hcells 1 _ s.b1
    b2 := hcells 2 _ s.b2
    bel := by
      refine (((s.bel.alloc hb o)).trans (gr_below hg (by simp; omega) (fun q e => (s.rr.lt q e).1))).trans (gr_below (gr_setRow (gr_refl W4 (some b)) 3 _) ?_ (by intro q e; simp at e; have := s.bb; omega))
      have := hg.size; simp at this; omega
    pk := fun q hq => by
      obtain ⟨h1, h2, h3, h4, h5⟩ := s.pk q hq
      have hqW : q < W.heap.size := Nat.lt_of_lt_of_le h1 s.bel.size
      refine ⟨h1, h2, ?_, h4, ?_⟩
      · rw [hob]; simpa using hne q hqW h3
      · rw [Below.heap_setCell _ _ _ _ (by simpa using h2)]
        exact ((hg.block q (by simp; omega) (fun e => h3 e.symm)).trans ((World.grownBy_alloc W o none).block q hqW (by simp))).trans h5 }
theorem CS.cycles {W4 : World} {o : Obj} {g4 cap4 : Nat} {x : Int} (s : CS P w W base b g win first vr vc rs cs cm h cy) (hb : base ≤ W.heap.size)
    (hown : W4.ownsRow base 2 1 (.slice (some ⟨g4, 0, none⟩) (cs.length + 1) cap4) (cs.length + 1) (cs.map (Value.int .i64) ++ [.int .i64 x]))
    (hg : (W.alloc o).grownBy W4 vc.ownBlock) (hat : (Value.slice (some ⟨g4, 0, none⟩) (cs.length + 1) cap4).ownBlock = vc.ownBlock ∨ (Value.slice (some ⟨g4, 0, none⟩) (cs.length + 1) cap4).ownBlock = some (W.alloc o).heap.size) :
    CS P w (W4.setCell ⟨b, 4, none⟩ (.slice (some ⟨g4, 0, none⟩) (cs.length + 1) cap4)) base b g win first vr (.slice (some ⟨g4, 0, none⟩) (cs.length + 1) cap4) rs (cs ++ [x]) cm h cy := by
  have hbl := s.cmp.lt
  have hgl := s.glt
  have hob : (Value.slice (some ⟨g4, 0, none⟩) (cs.length + 1) cap4).ownBlock = some g4 := rfl
  rw [hob] at hat
  have hsz : (W.alloc o).heap.size = W.heap.size + 1 := by simp
  have hne : ∀ q, q < W.heap.size → vc.ownBlock ≠ some q → g4 ≠ q := by
    rintro q hq hv rfl
    rcases hat with e | e
    · exact hv e.symm
    · rw [hsz] at e; simp at e; omega
  have hvr : ∀ q, vr.ownBlock = some q → q < W.heap.size := fun q hq => (s.rr.lt q hq).2
  have hap : vr.ownBlock ≠ some g4 := by
    intro e
    refine hne g4 (hvr _ e) ?_ rfl
    exact s.ap g4 e
  have hlen : (cs ++ [x]).length = cs.length + 1 := by simp
  have hcells : ∀ i v, W.cell? ⟨g, i, none⟩ = some v → (W4.setCell ⟨b, 4, none⟩ (.slice (some ⟨g4, 0, none⟩) (cs.length + 1) cap4)).cell? ⟨g, i, none⟩ = some v := by
    intro i v hv
    rw [cell_set_other s.gb]
    have h1 : (W.alloc o).cell? ⟨g, i, none⟩ = some v := gr_cell (World.grownBy_alloc W o none) hv
    exact hg.cell h1 (fun e => s.m2 e.symm)
  exact
  { cmp := Cmp.set4 ((s.cmp.kept (World.grownBy_alloc W o none) (by simp)).kept hg (fun e => s.n2 e.symm)) _
    rr := ownsRow_setCell_other ((s.rr.alloc o).kept hg (by
      cases hq : vr.ownBlock with
      | none => exact .inl rfl
      | some q => exact .inr (fun e => s.ap q hq e.symm))) (by simpa using s.n1) _
    rc := by
      rw [hlen, List.map_append]
      exact ownsRow_setCell_other hown (by rw [hob]; simpa using hne b hbl s.n2) _
    n1 := s.n1
    n2 := by rw [hob]; simpa using hne b hbl s.n2
    ap := by intro q hq e; rw [hob] at e; cases e; exact hap hq
    m1 := s.m1
    m2 := by rw [hob]; simpa using hne g hgl s.m2
    gb := s.gb
    glt := by have := hg.size; simp [World.setCell] at *; omega
    bb := s.bb
    b1 := hcells 1 _ s.b1
    b2 := hcells 2 _ s.b2
    bel := by
      refine (((s.bel.alloc hb o)).trans (gr_below hg (by simp; omega) (fun q e => (s.rc.lt q e).1))).trans (gr_below (gr_setRow (gr_refl W4 (some b)) 4 _) ?_ (by intro q e; simp at e; have := s.bb; omega))
      have := hg.size; simp at this; omega
    pk := fun q hq => by
      obtain ⟨h1, h2, h3, h4, h5⟩ := s.pk q hq
      have hqW : q < W.heap.size := Nat.lt_of_lt_of_le h1 s.bel.size
      refine ⟨h1, h2, h3, ?_, ?_⟩
      · rw [hob]; simpa using hne q hqW h4
      · rw [Below.heap_setCell _ _ _ _ (by simpa using h2)]
        exact ((hg.block q (by simp; omega) (fun e => h4 e.symm)).trans ((World.grownBy_alloc W o none).block q hqW (by simp))).trans h5 }

theorem CS.crew (s : CS P w W base b g win first vr vc rs cs cm h cy) (hb : base ≤ W.heap.size) (c : Nat) :
    CS P w (W.setCell ⟨b, 5, none⟩ (.int .u32 (c : Int))) base b g win first vr vc rs cs c h cy where
  cmp := Cmp.set5 s.cmp c
  rr := ownsRow_setCell_other s.rr (by simpa using s.n1) _
  rc := ownsRow_setCell_other s.rc (by simpa using s.n2) _
  n1 := s.n1
  n2 := s.n2
  ap := s.ap
  m1 := s.m1
  m2 := s.m2
  gb := s.gb
  glt := by have := s.glt; simp [World.setCell]; exact this
  bb := s.bb
  b1 := by rw [cell_set_other s.gb]; exact s.b1
  b2 := by rw [cell_set_other s.gb]; exact s.b2
  bel := s.bel.trans (gr_below (gr_setRow (gr_refl W (some b)) 5 _) hb (by intro q e; simp at e; have := s.bb; omega))
  pk := fun q hq => by
    obtain ⟨h1, h2, h3, h4, h5⟩ := s.pk q hq
    refine ⟨h1, h2, h3, h4, ?_⟩
    rw [Below.heap_setCell _ _ _ _ (by simpa using h2)]
    exact h5
end

/-- An open collection. -/
structure Coll (P : Nat → Prop) (W : World) (base b : Nat) (win first : Int) (rs cs : List Int) (cm : Nat) : Prop where
  ex : ∃ vr vc, Cmp W b win true first vr vc cm ∧ W.ownsRow base 2 1 vr rs.length (rs.map (Value.int .i64)) ∧ W.ownsRow base 2 1 vc cs.length (cs.map (Value.int .i64)) ∧
    vr.ownBlock ≠ some b ∧ vc.ownBlock ≠ some b ∧ (∀ q, vr.ownBlock = some q → vc.ownBlock ≠ some q) ∧ base ≤ b ∧ ∀ q, P q → q < W.heap.size ∧ q ≠ b ∧ vr.ownBlock ≠ some q ∧ vc.ownBlock ≠ some q
theorem CS.coll {P : Nat → Prop} {w W : World} {base b g : Nat} {win first : Int} {vr vc : Value} {rs cs : List Int} {cm h : Nat} {cy : Int} (s : CS P w W base b g win first vr vc rs cs cm h cy) : Coll P W base b win first rs cs cm :=
  ⟨vr, vc, s.cmp, s.rr, s.rc, s.n1, s.n2, s.ap, s.bb, fun q hq => ⟨Nat.lt_of_lt_of_le (s.pk q hq).1 s.bel.size, (s.pk q hq).2.1, (s.pk q hq).2.2.1, (s.pk q hq).2.2.2.1⟩⟩
theorem CS.keeps {P : Nat → Prop} {w W : World} {base b g : Nat} {win first : Int} {vr vc : Value} {rs cs : List Int} {cm h : Nat} {cy : Int} (s : CS P w W base b g win first vr vc rs cs cm h cy) : ∀ q, P q → W.heap[q]? = w.heap[q]? := fun q hq => (s.pk q hq).2.2.2.2
theorem CS.start {P : Nat → Prop} {w w1 : World} {base b : Nat} {win first : Int} {vr vc : Value} {rs cs : List Int} {cm h : Nat} {k cy cl : Int} {cr : Int} {t : TypeId}
    (hc : Cmp w b win true first vr vc cm) (hr : w.ownsRow base 2 1 vr rs.length (rs.map (Value.int .i64))) (hc' : w.ownsRow base 2 1 vc cs.length (cs.map (Value.int .i64)))
    (n1 : vr.ownBlock ≠ some b) (n2 : vc.ownBlock ≠ some b) (ap : ∀ q, vr.ownBlock = some q → vc.ownBlock ≠ some q) (bb : base ≤ b) (hP : ∀ q, P q → q < w.heap.size ∧ q ≠ b ∧ vr.ownBlock ≠ some q ∧ vc.ownBlock ≠ some q)
    (g1 : (w.alloc (.cells #[.int .i64 k, .int .i64 (h : Int), .int .i64 cy, .int .u32 cr, .int .i64 cl] t)).grownBy w1 none) : CS P w w1 base b w.heap.size win first vr vc rs cs cm h cy where
  cmp := hc.kept (bx_gr g1) (by simp)
  rr := hr.kept (bx_gr g1) (by cases vr.ownBlock <;> simp)
  rc := hc'.kept (bx_gr g1) (by cases vc.ownBlock <;> simp)
  n1 := n1
  n2 := n2
  ap := ap
  m1 := fun e => by have := (hr.lt _ e).2; omega
  m2 := fun e => by have := (hc'.lt _ e).2; omega
  gb := by have := hc.lt; omega
  glt := by have := g1.size; simp at this; omega
  bb := bb
  b1 := bx_cell g1 1 _ rfl
  b2 := bx_cell g1 2 _ rfl
  bel := gr_below (bx_gr g1) (by have := hc.lt; omega) (by simp)
  pk := fun q hq => by
    obtain ⟨h1, h2, h3, h4⟩ := hP q hq
    exact ⟨h1, h2, h3, h4, (bx_gr g1).block q h1 (by simp)⟩
end Go.Proofs.Ytagoiidpcfjebaa
