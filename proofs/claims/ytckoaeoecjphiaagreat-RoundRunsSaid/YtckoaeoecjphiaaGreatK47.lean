/- Lemmas: The document's round: what is told, as its loops tell it. The document's round: its first loop. The document's round: its second loop. -/
import Derived.Test.YtckoaeoecjphiaaGreatK46
import Derived.Test.YtckoaeoecjphiaaGreatK36
import Derived.OwnWalk
import Derived.Test.YtckoaeoecjphiaaGreatK38
import Derived.BigRegion
import Derived.Test.YtckoaeoecjphiaaGreatK16
import Derived.Deep.RegionHeld3

/- The document's round: what is told, as its loops tell it. -/
namespace Go.Proofs.YtckoaeoecjphiaaGreat
open Go.RowKit Go.Lib

def upf {α : Type} (f : Nat → α) (i : Nat) (v : α) : Nat → α := fun j => if j = i then v else f j
/-- The four rows that are told: their types, their elements' sizes, where they lie in what is told. -/
def tyD : Nat → TypeId
  | 0 => 2
  | 1 => 2
  | 2 => 3
  | _ => 61
def szD : Nat → Nat
  | 0 => 1
  | 1 => 1
  | 2 => 1
  | _ => 3
def ofD : Nat → Nat
  | 0 => 0
  | 1 => 3
  | 2 => 4
  | _ => 5
structure DL (lo : Nat) (wC W : World) (tb c0 c1 : Nat) (v : Nat → Value) (n : Nat → Nat) (xs : Nat → List Value) : Prop where
  os : W.os = wC.os
  tape : W.tape = wC.tape
  output : W.output = wC.output
  size : wC.heap.size ≤ W.heap.size
  keep : ∀ q, q < wC.heap.size → q ≠ tb → W.heap[q]? = wC.heap[q]?
  told : W.heap[tb]? = some (.cells #[v 0, .int .u32 (c0 : Int), .int .u32 (c1 : Int), v 1, v 2, v 3] 48)
  row : ∀ i, lo ≤ i ∧ i < 4 → W.ownsRow wC.heap.size (tyD i) (szD i) (v i) (n i) (xs i)
  ap : ∀ i j, lo ≤ i ∧ i < 4 → lo ≤ j ∧ j < 4 → i ≠ j → ∀ q, (v i).ownBlock = some q → (v j).ownBlock ≠ some q
  tl : tb < wC.heap.size
section
variable {lo : Nat} {wC W W' W4 : World} {tb c0 c1 : Nat} {v v' : Nat → Value} {n n' : Nat → Nat} {xs xs' : Nat → List Value}
theorem DL.congr (h : DL lo wC W tb c0 c1 v n xs) (h1 : ∀ i, i < 4 → v i = v' i) (h2 : ∀ i, i < 4 → n i = n' i) (h3 : ∀ i, i < 4 → xs i = xs' i) : DL lo wC W tb c0 c1 v' n' xs' :=
  { os := h.os, tape := h.tape, output := h.output, size := h.size, keep := h.keep, tl := h.tl
    told := by rw [← h1 0 (by omega), ← h1 1 (by omega), ← h1 2 (by omega), ← h1 3 (by omega)]; exact h.told
    row := fun i hi => by rw [← h1 i hi.2, ← h2 i hi.2, ← h3 i hi.2]; exact h.row i hi
    ap := fun i j hi hj hij => by rw [← h1 i hi.2, ← h1 j hj.2]; exact h.ap i j hi hj hij }
theorem DL.below (h : DL lo wC W tb c0 c1 v n xs) (g : Below W.heap.size W W') : DL lo wC W' tb c0 c1 v n xs :=
  have hs := h.size
  have ht := h.tl
  { os := g.os.trans h.os, tape := g.tape.trans h.tape, output := g.output.trans h.output, size := Nat.le_trans h.size g.size
    keep := fun q hq hn => (g.block q (by omega)).trans (h.keep q hq hn)
    told := (g.block _ (by omega)).trans h.told
    row := fun i hi => own_as (h.row i hi) (fun q hq => g.block q ((h.row i hi).lt q hq).2)
    ap := h.ap, tl := h.tl }
theorem DL.grown (h : DL lo wC W tb c0 c1 v n xs) (g : W.grownBy W' none) : DL lo wC W' tb c0 c1 v n xs := h.below (gr_below g (Nat.le_refl _) (by simp))
theorem DL.ne (h : DL lo wC W tb c0 c1 v n xs) {i : Nat} (hi : lo ≤ i ∧ i < 4) : (v i).ownBlock ≠ some tb := fun e => by
  have := ((h.row i hi).lt tb e).1
  have := h.tl
  omega
theorem cells6_i {w : World} {g : Nat} {t : TypeId} {c0 c1 x : Value} {v : Nat → Value} (h : w.heap[g]? = some (.cells #[v 0, c0, c1, v 1, v 2, v 3] t)) : ∀ i, i < 4 → (w.setCell ⟨g, ofD i, none⟩ x).heap[g]? = some (.cells #[upf v i x 0, c0, c1, upf v i x 1, upf v i x 2, upf v i x 3] t)
  | 0, _ => by simp only [World.setCell, Array.getElem?_modify, if_true, h, Option.map_some]; rfl
  | 1, _ => by simp only [World.setCell, Array.getElem?_modify, if_true, h, Option.map_some]; rfl
  | 2, _ => by simp only [World.setCell, Array.getElem?_modify, if_true, h, Option.map_some]; rfl
  | 3, _ => by simp only [World.setCell, Array.getElem?_modify, if_true, h, Option.map_some]; rfl
/-- A row has grown, and is told. -/
theorem DL.push {o : Obj} {v4 : Value} {m : Nat} {ys : List Value} (h : DL lo wC W tb c0 c1 v n xs) {i : Nat} (hi : lo ≤ i ∧ i < 4) (hown : W4.ownsRow wC.heap.size (tyD i) (szD i) v4 m ys) (hg : (W.alloc o).grownBy W4 (v i).ownBlock)
    (hat : v4.ownBlock = (v i).ownBlock ∨ v4.ownBlock = some (W.alloc o).heap.size) :
    DL lo wC (W4.setCell ⟨tb, ofD i, none⟩ v4) tb c0 c1 (upf v i v4) (upf n i m) (upf xs i ys) :=
  have hs := h.size
  have ht := h.tl
  have h0 := h.grown (gr_alloc (gr_refl W none) o)
  have hz : (W.alloc o).heap.size ≤ W4.heap.size := hg.size
  have hza : (W.alloc o).heap.size = W.heap.size + 1 := by simp
  have hoth : ∀ q, q ≠ tb → (W4.setCell ⟨tb, ofD i, none⟩ v4).heap[q]? = W4.heap[q]? := fun q hq => setCell_heap (Ne.symm hq)
  have hfar : ∀ j, lo ≤ j ∧ j < 4 → j ≠ i → W4.ownsRow wC.heap.size (tyD j) (szD j) (v j) (n j) (xs j) := fun j hj hne => own_as (h0.row j hj) (fun q hq => hg.block q ((h0.row j hj).lt q hq).2 (fun e => h.ap j i hj hi hne q hq e.symm))
  have hv4 : v4.ownBlock ≠ some tb := fun e => by have := (hown.lt tb e).1; omega
  { os := hg.os.trans h0.os, tape := hg.tape.trans h0.tape, output := hg.output.trans h0.output
    size := by have : (W4.setCell ⟨tb, ofD i, none⟩ v4).heap.size = W4.heap.size := by simp [World.setCell]
               omega
    keep := fun q hq hn => by
      rw [hoth q hn, hg.block q (by omega) (fun e => by have := ((h.row i hi).lt q e.symm).1; omega)]
      exact h0.keep q hq hn
    told := cells6_i ((hg.block tb (by omega) (fun e => h.ne hi e.symm)).trans h0.told) i hi.2
    row := fun j hj => by
      by_cases e : j = i
      · subst e
        have e1 : upf v j v4 j = v4 := if_pos rfl
        have e2 : upf n j m j = m := if_pos rfl
        have e3 : upf xs j ys j = ys := if_pos rfl
        rw [e1, e2, e3]
        exact own_as hown (fun q hq => hoth q (fun e => hv4 (e ▸ hq)))
      · have e1 : upf v i v4 j = v j := if_neg e
        have e2 : upf n i m j = n j := if_neg e
        have e3 : upf xs i ys j = xs j := if_neg e
        rw [e1, e2, e3]
        exact own_as (hfar j hj e) (fun q hq => hoth q (fun e2 => h.ne hj (e2 ▸ hq)))
    ap := fun a b ha hb hab q hq e => by
      unfold upf at hq e
      by_cases ea : a = i
      · rw [if_pos ea] at hq
        have eb : b ≠ i := fun e2 => hab (ea.trans e2.symm)
        rw [if_neg eb] at e
        rcases hat with h2 | h2
        · rw [h2] at hq
          exact h.ap i b hi hb (Ne.symm eb) q hq e
        · rw [h2] at hq
          have h3 := ((h0.row b hb).lt q e).2
          cases hq
          omega
      · rw [if_neg ea] at hq
        by_cases eb : b = i
        · rw [if_pos eb] at e
          rcases hat with h2 | h2
          · rw [h2] at e
            exact h.ap a i ha hi ea q hq e
          · rw [h2] at e
            have h3 := ((h0.row a ha).lt q hq).2
            cases e
            omega
        · rw [if_neg eb] at e
          exact h.ap a b ha hb hab q hq e
    tl := h.tl }
/-- A switch's crew is told. -/
theorem DL.crew0 (h : DL lo wC W tb c0 c1 v n xs) (c : Nat) : DL lo wC (W.setCell ⟨tb, 1, none⟩ (.int .u32 (c : Int))) tb c c1 v n xs :=
  have hs := h.size
  { os := h.os, tape := h.tape, output := h.output, size := by simpa [World.setCell] using h.size, keep := fun q hq hn => (setCell_heap (Ne.symm hn)).trans (h.keep q hq hn)
    told := by simp only [World.setCell, Array.getElem?_modify, if_true, h.told, Option.map_some]; rfl
    row := fun i hi => own_other (h.row i hi) (h.ne hi), ap := h.ap, tl := h.tl }
theorem DL.crew1 (h : DL lo wC W tb c0 c1 v n xs) (c : Nat) : DL lo wC (W.setCell ⟨tb, 2, none⟩ (.int .u32 (c : Int))) tb c0 c v n xs :=
  have hs := h.size
  { os := h.os, tape := h.tape, output := h.output, size := by simpa [World.setCell] using h.size, keep := fun q hq hn => (setCell_heap (Ne.symm hn)).trans (h.keep q hq hn)
    told := by simp only [World.setCell, Array.getElem?_modify, if_true, h.told, Option.map_some]; rfl
    row := fun i hi => own_other (h.row i hi) (h.ne hi), ap := h.ap, tl := h.tl }
end
def q4 {α : Type} (a b c d : α) : Nat → α
  | 0 => a
  | 1 => b
  | 2 => c
  | _ => d
/-- What has been told of the first ks hosts' sendings, and of the first kb, kh, ka behind the round. -/
def DG (lo : Nat) (wC W : World) (tb : Nat) (R : Rd) (c0 c1 : Nat) (vs vb vh va : Value) (ks kb kh ka : Nat) : Prop :=
  DL lo wC W tb c0 c1 (q4 vs vb vh va) (q4 ks kb kh ka) (q4 ((List.range ks).map fun j => Value.int .i64 (R.sent j)) ((List.range kb).map fun j => Value.int .i64 (R.by_ j)) ((List.range kh).map fun j => Value.int .i64 (R.hrd j)) (flatF R.aft ka))
section
variable {lo : Nat} {wC W W4 : World} {tb c0 c1 ks kb kh ka : Nat} {R : Rd} {vs vb vh va v4 : Value} {o : Obj}
theorem DG.push0 (h : DG 0 wC W tb R c0 c1 vs vb vh va ks kb kh ka) (hown : W4.ownsRow wC.heap.size 2 1 v4 (ks + 1) (((List.range ks).map fun j => Value.int .i64 (R.sent j)) ++ [.int .i64 (R.sent ks)])) (hg : (W.alloc o).grownBy W4 vs.ownBlock) (hat : v4.ownBlock = vs.ownBlock ∨ v4.ownBlock = some (W.alloc o).heap.size) :
    DG 0 wC (W4.setCell ⟨tb, 0, none⟩ v4) tb R c0 c1 v4 vb vh va (ks + 1) kb kh ka :=
  (DL.push h (i := 0) (by omega) hown hg hat).congr (fun i hi => by rcases (by omega : i = 0 ∨ i = 1 ∨ i = 2 ∨ i = 3) with rfl | rfl | rfl | rfl <;> rfl) (fun i hi => by rcases (by omega : i = 0 ∨ i = 1 ∨ i = 2 ∨ i = 3) with rfl | rfl | rfl | rfl <;> rfl)
    (fun i hi => by
      rcases (by omega : i = 0 ∨ i = 1 ∨ i = 2 ∨ i = 3) with rfl | rfl | rfl | rfl
      · show _ = (List.range (ks + 1)).map _; rw [List.range_succ, List.map_append]; rfl
      · rfl
      · rfl
      · rfl)
theorem DG.push1 (h : DG 1 wC W tb R c0 c1 vs vb vh va ks kb kh ka) (hown : W4.ownsRow wC.heap.size 2 1 v4 (kb + 1) (((List.range kb).map fun j => Value.int .i64 (R.by_ j)) ++ [.int .i64 (R.by_ kb)])) (hg : (W.alloc o).grownBy W4 vb.ownBlock) (hat : v4.ownBlock = vb.ownBlock ∨ v4.ownBlock = some (W.alloc o).heap.size) :
    DG 1 wC (W4.setCell ⟨tb, 3, none⟩ v4) tb R c0 c1 vs v4 vh va ks (kb + 1) kh ka :=
  (DL.push h (i := 1) (by omega) hown hg hat).congr (fun i hi => by rcases (by omega : i = 0 ∨ i = 1 ∨ i = 2 ∨ i = 3) with rfl | rfl | rfl | rfl <;> rfl) (fun i hi => by rcases (by omega : i = 0 ∨ i = 1 ∨ i = 2 ∨ i = 3) with rfl | rfl | rfl | rfl <;> rfl)
    (fun i hi => by
      rcases (by omega : i = 0 ∨ i = 1 ∨ i = 2 ∨ i = 3) with rfl | rfl | rfl | rfl
      · rfl
      · show _ = (List.range (kb + 1)).map _; rw [List.range_succ, List.map_append]; rfl
      · rfl
      · rfl)
theorem DG.push2 (h : DG 1 wC W tb R c0 c1 vs vb vh va ks kb kh ka) (hown : W4.ownsRow wC.heap.size 3 1 v4 (kh + 1) (((List.range kh).map fun j => Value.int .i64 (R.hrd j)) ++ [.int .i64 (R.hrd kh)])) (hg : (W.alloc o).grownBy W4 vh.ownBlock) (hat : v4.ownBlock = vh.ownBlock ∨ v4.ownBlock = some (W.alloc o).heap.size) :
    DG 1 wC (W4.setCell ⟨tb, 4, none⟩ v4) tb R c0 c1 vs vb v4 va ks kb (kh + 1) ka :=
  (DL.push h (i := 2) (by omega) hown hg hat).congr (fun i hi => by rcases (by omega : i = 0 ∨ i = 1 ∨ i = 2 ∨ i = 3) with rfl | rfl | rfl | rfl <;> rfl) (fun i hi => by rcases (by omega : i = 0 ∨ i = 1 ∨ i = 2 ∨ i = 3) with rfl | rfl | rfl | rfl <;> rfl)
    (fun i hi => by
      rcases (by omega : i = 0 ∨ i = 1 ∨ i = 2 ∨ i = 3) with rfl | rfl | rfl | rfl
      · rfl
      · rfl
      · show _ = (List.range (kh + 1)).map _; rw [List.range_succ, List.map_append]; rfl
      · rfl)
theorem DG.push3 (h : DG 1 wC W tb R c0 c1 vs vb vh va ks kb kh ka) (hown : W4.ownsRow wC.heap.size 61 3 v4 (ka + 1) (flatF R.aft ka ++ kC (R.aft ka))) (hg : (W.alloc o).grownBy W4 va.ownBlock) (hat : v4.ownBlock = va.ownBlock ∨ v4.ownBlock = some (W.alloc o).heap.size) :
    DG 1 wC (W4.setCell ⟨tb, 5, none⟩ v4) tb R c0 c1 vs vb vh v4 ks kb kh (ka + 1) :=
  (DL.push h (i := 3) (by omega) hown hg hat).congr (fun i hi => by rcases (by omega : i = 0 ∨ i = 1 ∨ i = 2 ∨ i = 3) with rfl | rfl | rfl | rfl <;> rfl) (fun i hi => by rcases (by omega : i = 0 ∨ i = 1 ∨ i = 2 ∨ i = 3) with rfl | rfl | rfl | rfl <;> rfl)
    (fun i hi => by
      rcases (by omega : i = 0 ∨ i = 1 ∨ i = 2 ∨ i = 3) with rfl | rfl | rfl | rfl
      · rfl
      · rfl
      · rfl
      · show _ = flatF R.aft (ka + 1); rw [flatF_succ]; rfl)
/-- The rows behind the round begin, over what is there now. -/
theorem DG.restart {W' : World} (h : W'.heap[tb]? = some (.cells #[vs, .int .u32 (c0 : Int), .int .u32 (c1 : Int), .slice none 0 0, .slice none 0 0, .slice none 0 0] 48)) : DG 1 W' W' tb R c0 c1 vs (.slice none 0 0) (.slice none 0 0) (.slice none 0 0) ks 0 0 0 :=
  { os := rfl, tape := rfl, output := rfl, size := Nat.le_refl _, keep := fun _ _ _ => rfl, told := h
    row := fun i hi => by
      rcases (by omega : i = 1 ∨ i = 2 ∨ i = 3) with rfl | rfl | rfl
      · exact World.ownsRow_nil _ _ _ _
      · exact World.ownsRow_nil _ _ _ _
      · exact World.ownsRow_nil _ _ _ _
    ap := fun i j hi hj _ q hq => by
      rcases (by omega : i = 1 ∨ i = 2 ∨ i = 3) with rfl | rfl | rfl
      · cases hq
      · cases hq
      · cases hq
    tl := lt_of_block h }
end
end Go.Proofs.YtckoaeoecjphiaaGreat

/- The document's round: its first loop. -/
namespace Go.Proofs.YtckoaeoecjphiaaGreat
open Go.RowKit Go.Lib

/-- What does not turn in the document's round. -/
structure DSt (wC : World) (R : Rd) (b0 tb lb off n : Nat) (ho C de wi pr qu cy p : Int) (vd ve vl : Value) : Prop where
  cf : wC.heap[b0]? = some (.cells #[.int .i64 ho, .int .i64 C, .int .i64 de, .int .i64 wi, .int .i64 pr, vd, ve, vl, .int .i64 qu] 26)
  clk : ∀ j, j < n → wC.cell? ⟨lb, off + j * 3, none⟩ = some (.int .i64 (nthC R.l j).m) ∧ wC.cell? ⟨lb, off + j * 3 + 1, none⟩ = some (.int .i64 (nthC R.l j).b) ∧ wC.cell? ⟨lb, off + j * 3 + 2, none⟩ = some (.int .i64 (nthC R.l j).r)
  lbs : lb < wC.heap.size
  ltb : lb ≠ tb
  btb : b0 ≠ tb
  hcy : cy * C = p
  hp : R.p = p
  pb : 0 ≤ p ∧ p ≤ 562949953421312
theorem DL.at_ {lo : Nat} {wC W W4 : World} {tb c0 c1 : Nat} {v : Nat → Value} {n : Nat → Nat} {xs : Nat → List Value} {o : Obj} (h : DL lo wC W tb c0 c1 v n xs) {i : Nat} (hi : lo ≤ i ∧ i < 4) (hg : (W.alloc o).grownBy W4 (v i).ownBlock) : W4.heap[tb]? = some (.cells #[v 0, .int .u32 (c0 : Int), .int .u32 (c1 : Int), v 1, v 2, v 3] 48) :=
  gr_heap hg ((h.grown (gr_alloc (gr_refl W none) o)).told) (fun e => h.ne hi e.symm)
noncomputable def rbody1 : Code := (((Tryz.f15.body.map loopsOf).getD [])[0]?).getD .skip
set_option maxRecDepth 1000000 in
set_option maxHeartbeats 8000000 in
theorem rloop1 (R : Rd) (hR : RdOk R) (wC : World) (b0 tb lb off lcap n : Nat) (C de wi pr qu cy p : Int) (vd ve vl : Value) (hn : Hid (R.l.length = n)) (hn6 : n ≤ 6) (hcap : n ≤ lcap)
    (hD : Hid (DG 0 wC wC tb R 0 0 (.slice none 0 0) (.slice none 0 0) (.slice none 0 0) (.slice none 0 0) 0 0 0 0)) (hS : Hid (DSt wC R b0 tb lb off n (n : Int) C de wi pr qu cy p vd ve vl))
    {Q0 : Exit → Act → World → Prop} (c3 c4 c6 c7 c8 c9 c10 c15 c16 c17 c18 c19 c20 c21 c22 c23 c24 c25 c26 c27 c28 c29 c56 c57 c58 c59 c60 c61 c62 c63 c64 c65 c66 c67 c68 c69 c70 c71 c72 c73 c74 c75 c76 c77 c78 c79 c80 c81 c82 c83 c84 c85 c86 c87 c88 c89 c90 c91 c92 c93 c94 c95 c96 c97 c98 c99 c100 c101 c102 c103 c104 c105 c106 c107 c108 c109 c110 c111 c112 c113 c114 c115 c116 c117 c118 c119 c120 c121 c122 c123 c124 c125 c126 c127 c128 c129 c130 c131 c132 c133 c134 c135 c136 c137 c138 c139 c140 c141 c142 c143 c144 c145 c146 c147 c148 c149 c150 c151 c152 c153 c154 c155 c156 c157 c158 c159 c160 c161 c162 c163 c164 c165 c166 c167 c168 c169 c170 c171 c172 c173 c174 c175 c176 c177 c178 c179 c180 c181 c182 c183 c184 c185 c186 c187 c188 c189 c190 c191 : Value) (u13 u14 u30 u31 u32 u33 u34 u35 u36 u37 u38 u39 u40 u41 u42 u43 u44 u45 u46 u47 u48 u49 u50 u51 u52 u53 u54 u55 : Value)
    (hexit : Hid (∀ (u13 u14 u30 u31 u32 u33 u34 u35 u36 u37 u38 u39 u40 u41 u42 u43 u44 u45 u46 u47 u48 u49 u50 u51 u52 u53 u54 u55 : Value) (W : World) (vs : Value), DG 0 wC W tb R 0 0 vs (.slice none 0 0) (.slice none 0 0) (.slice none 0 0) n 0 0 0 → Q0 (.exit 0) ⟨(List.toArray (cfV ⟨(n : Int), C, de, wi, pr, qu⟩ vd ve vl :: .int .i64 cy :: .slice (some ⟨lb, off, none⟩) n lcap :: c3 :: c4 :: .pointer (some ⟨b0, 0, none⟩) :: c6 :: c7 :: c8 :: c9 :: c10 :: .pointer (some ⟨tb, 0, none⟩) :: .int .i64 (n : Int) :: u13 :: u14 :: c15 :: c16 :: c17 :: c18 :: c19 :: c20 :: c21 :: c22 :: c23 :: c24 :: c25 :: c26 :: c27 :: c28 :: c29 :: u30 :: u31 :: u32 :: u33 :: u34 :: u35 :: u36 :: u37 :: u38 :: u39 :: u40 :: u41 :: u42 :: u43 :: u44 :: u45 :: u46 :: u47 :: u48 :: u49 :: u50 :: u51 :: u52 :: u53 :: u54 :: u55 :: c56 :: c57 :: c58 :: c59 :: c60 :: c61 :: c62 :: c63 :: c64 :: c65 :: c66 :: c67 :: c68 :: c69 :: c70 :: c71 :: c72 :: c73 :: c74 :: c75 :: c76 :: c77 :: c78 :: c79 :: c80 :: c81 :: c82 :: c83 :: c84 :: c85 :: c86 :: c87 :: c88 :: c89 :: c90 :: c91 :: c92 :: c93 :: c94 :: c95 :: c96 :: c97 :: c98 :: c99 :: c100 :: c101 :: c102 :: c103 :: c104 :: c105 :: c106 :: c107 :: c108 :: c109 :: c110 :: c111 :: c112 :: c113 :: c114 :: c115 :: c116 :: c117 :: c118 :: c119 :: c120 :: c121 :: c122 :: c123 :: c124 :: c125 :: c126 :: c127 :: c128 :: c129 :: c130 :: c131 :: c132 :: c133 :: c134 :: c135 :: c136 :: c137 :: c138 :: c139 :: c140 :: c141 :: c142 :: c143 :: c144 :: c145 :: c146 :: c147 :: c148 :: c149 :: c150 :: c151 :: c152 :: c153 :: c154 :: c155 :: c156 :: c157 :: c158 :: c159 :: c160 :: c161 :: c162 :: c163 :: c164 :: c165 :: c166 :: c167 :: c168 :: c169 :: c170 :: c171 :: c172 :: c173 :: c174 :: c175 :: c176 :: c177 :: c178 :: c179 :: c180 :: c181 :: c182 :: c183 :: c184 :: c185 :: c186 :: c187 :: c188 :: c189 :: c190 :: c191 :: [])), []⟩ W)) :
    Code.wp Tryz.prog (Code.loop rbody1) Q0 ⟨(List.toArray (cfV ⟨(n : Int), C, de, wi, pr, qu⟩ vd ve vl :: .int .i64 cy :: .slice (some ⟨lb, off, none⟩) n lcap :: c3 :: c4 :: .pointer (some ⟨b0, 0, none⟩) :: c6 :: c7 :: c8 :: c9 :: c10 :: .pointer (some ⟨tb, 0, none⟩) :: .int .i64 0 :: u13 :: u14 :: c15 :: c16 :: c17 :: c18 :: c19 :: c20 :: c21 :: c22 :: c23 :: c24 :: c25 :: c26 :: c27 :: c28 :: c29 :: u30 :: u31 :: u32 :: u33 :: u34 :: u35 :: u36 :: u37 :: u38 :: u39 :: u40 :: u41 :: u42 :: u43 :: u44 :: u45 :: u46 :: u47 :: u48 :: u49 :: u50 :: u51 :: u52 :: u53 :: u54 :: u55 :: c56 :: c57 :: c58 :: c59 :: c60 :: c61 :: c62 :: c63 :: c64 :: c65 :: c66 :: c67 :: c68 :: c69 :: c70 :: c71 :: c72 :: c73 :: c74 :: c75 :: c76 :: c77 :: c78 :: c79 :: c80 :: c81 :: c82 :: c83 :: c84 :: c85 :: c86 :: c87 :: c88 :: c89 :: c90 :: c91 :: c92 :: c93 :: c94 :: c95 :: c96 :: c97 :: c98 :: c99 :: c100 :: c101 :: c102 :: c103 :: c104 :: c105 :: c106 :: c107 :: c108 :: c109 :: c110 :: c111 :: c112 :: c113 :: c114 :: c115 :: c116 :: c117 :: c118 :: c119 :: c120 :: c121 :: c122 :: c123 :: c124 :: c125 :: c126 :: c127 :: c128 :: c129 :: c130 :: c131 :: c132 :: c133 :: c134 :: c135 :: c136 :: c137 :: c138 :: c139 :: c140 :: c141 :: c142 :: c143 :: c144 :: c145 :: c146 :: c147 :: c148 :: c149 :: c150 :: c151 :: c152 :: c153 :: c154 :: c155 :: c156 :: c157 :: c158 :: c159 :: c160 :: c161 :: c162 :: c163 :: c164 :: c165 :: c166 :: c167 :: c168 :: c169 :: c170 :: c171 :: c172 :: c173 :: c174 :: c175 :: c176 :: c177 :: c178 :: c179 :: c180 :: c181 :: c182 :: c183 :: c184 :: c185 :: c186 :: c187 :: c188 :: c189 :: c190 :: c191 :: [])), []⟩ wC := by
  have hpb := hS.out.pb
  have wsp : IntKind.i64.wrap (cy * C) = p := by rw [hS.out.hcy]; exact IntWalk.i64_in _ (by omega)
  obtain ⟨i1, hi1, hy0, hy1, hy2⟩ := info_parts Tryz.info_i64
  clear hpb
  conv => arg 2; arg 1; whnf
  go_loopw [12] (fun i wr => ∃ (k : Nat) (vs : Value), k ≤ n ∧ i = .int .i64 k ∧ Hid (DG 0 wC wr tb R 0 0 vs (.slice none 0 0) (.slice none 0 0) (.slice none 0 0) k 0 0 0)) (fun i _ => n - (intOf i).toNat)
  case atStart => exact ⟨0, _, Nat.zero_le _, rfl, hD⟩
  case round =>
    obtain ⟨k, vs, hk, rfl, HDk⟩ := hrel
    by_cases hlt : k < n
    · have hk2 : (k : Int) < (n : Int) := by omega
      have hkc : k < lcap := by omega
      have HW := hid (fun W : World => rwhen_any (nthC R.l k) p W (hR.ck (show k < R.l.length by rw [hn.out]; exact hlt)).2)
      have hse : Hid (R.sent k = if (whenR (nthC R.l k) p).2 = 0 then (whenR (nthC R.l k) p).1 else -1) := hid (by unfold Rd.sent sentZ; rw [hS.out.hp])
      obtain ⟨X, hX⟩ : ∃ X, whenR (nthC R.l k) p = X := ⟨_, rfl⟩
      rw [hX] at HW hse
      obtain ⟨x1, x2⟩ := X
      obtain ⟨q0, q1, q2⟩ := hS.out.clk k hlt
      have hlb := HDk.out.keep lb hS.out.lbs hS.out.ltb
      have q0 := (World.cell?_of_block (w := wC) (a := ⟨lb, off + k * 3, none⟩) hlb).trans q0
      have q1 := (World.cell?_of_block (w := wC) (a := ⟨lb, off + k * 3 + 1, none⟩) hlb).trans q1
      have q2 := (World.cell?_of_block (w := wC) (a := ⟨lb, off + k * 3 + 2, none⟩) hlb).trans q2
      have hcb := (HDk.out.keep b0 (lt_of_block hS.out.cf) hS.out.btb).trans hS.out.cf
      obtain ⟨kk, hkk⟩ : ∃ kk, nthC R.l k = kk := ⟨_, rfl⟩
      rw [hkk] at HW q0 q1 q2
      obtain ⟨m, ba, r⟩ := kk
      dsimp only [ckV] at HW q0 q1 q2 hse
      have n0 := grn_cell q0
      have n1 := grn_cell q1
      have n2 := grn_cell q2
      have n3 := grn_cell (hcell hcb 1 _ rfl)
      clear hX hlb hcb hkk q0 q1 q2
      go_wp2_with fail
      refine wp_region_grown (by kernel_rfl) (by kernel_rfl) ?_
      repeat (go_big_quiet_step ((go_at_call 41; refine (HW.out _).mono ?_; rintro e w6 ⟨rfl, g6⟩; exact ⟨rfl, ⟨_, gr_trans (Grn.gr _) g6⟩, rfl⟩)))
      refine wpQuiet_nil ?_
      rintro w4 ⟨X, hX⟩
      have g4 : wr.grownBy w4 none := hX ▸ X.gr
      have HD4 := hid (DL.grown HDk.out g4)
      have t0 := hcell HD4.out.told 0 _ rfl
      clear hX X g4 n0 n1 n2 n3
      by_cases hx : x2 = 0
      · subst hx
        have hse' : Hid (R.sent k = x1) := hid (by rw [hse.out, if_pos rfl])
        clear hse
        go_wp2_with (at_builtin; refine wpList_append_own_at _ rfl (.tmp 51) (.tmp 53) 35 rfl wC.heap.size 2 i1 (.int .i64 0) 1 8 Tryz.underlying35 hi1 hy0 hy1 hy2 rfl (by decide) vs k _ rfl ((HD4.out.row 0 (by omega)).alloc _) ⟨w4.heap.size, 0, none⟩ 1 1 [.int .i64 x1] rfl rfl (cell_one_new' _ _ _) (by simp [Value.oneCell']) (by unfold maxLen; omega) (by omega) (by have := HD4.out.size; simp; omega) ?_; intro v6 w6 hown6 hg6 _ hat6; obtain ⟨g6, cap6, rfl⟩ := own_slice hown6; have hb6 := DL.at_ (i := 0) HD4.out (by omega) hg6; have y1 := hcell hb6 0 _ rfl; have y2 := hfroz hb6 0; have HD7 := hid (DG.push0 HD4.out (by rw [hse'.out]; exact hown6) hg6 hat6); clear hown6 hg6 hat6 hb6)
        go_roundw
        case rel => exact ⟨k + 1, _, by omega, by go_num, HD7⟩
        case measure => simp [intOf]; omega
      · have hxb : (x2 != 0) = true := by simpa using hx
        have hse' : Hid (R.sent k = -1) := hid (by rw [hse.out, if_neg hx])
        clear hse hx
        go_wp2_with (at_builtin; refine wpList_append_own_at _ rfl (.tmp 51) (.tmp 53) 35 rfl wC.heap.size 2 i1 (.int .i64 0) 1 8 Tryz.underlying35 hi1 hy0 hy1 hy2 rfl (by decide) vs k _ rfl ((HD4.out.row 0 (by omega)).alloc _) ⟨w4.heap.size, 0, none⟩ 1 1 [.int .i64 (-1)] rfl rfl (cell_one_new' _ _ _) (by simp [Value.oneCell']) (by unfold maxLen; omega) (by omega) (by have := HD4.out.size; simp; omega) ?_; intro v6 w6 hown6 hg6 _ hat6; obtain ⟨g6, cap6, rfl⟩ := own_slice hown6; have hb6 := DL.at_ (i := 0) HD4.out (by omega) hg6; have y1 := hcell hb6 0 _ rfl; have y2 := hfroz hb6 0; have HD7 := hid (DG.push0 HD4.out (by rw [hse'.out]; exact hown6) hg6 hat6); clear hown6 hg6 hat6 hb6)
        go_roundw
        case rel => exact ⟨k + 1, _, by omega, by go_num, HD7⟩
        case measure => simp [intOf]; omega
    · obtain rfl : k = n := by omega
      clear hlt
      have HDe := hid HDk.out
      go_wp2_with fail
      exact hexit.out _ _ _ _ _ _ _ _ _ _ _ _ _ _ _ _ _ _ _ _ _ _ _ _ _ _ _ _ _ _ HDe.out
end Go.Proofs.YtckoaeoecjphiaaGreat

/- The document's round: its second loop. -/
namespace Go.Proofs.YtckoaeoecjphiaaGreat
open Go.RowKit Go.Lib

/-- What has not turned since wB: all but what is told, the results, and whether they are there. -/
structure KB (wB W : World) (tb rb hb : Nat) : Prop where
  os : W.os = wB.os
  tape : W.tape = wB.tape
  output : W.output = wB.output
  size : wB.heap.size ≤ W.heap.size
  keep : ∀ q, q < wB.heap.size → q ≠ tb → q ≠ rb → q ≠ hb → W.heap[q]? = wB.heap[q]?
section
variable {wB W W' : World} {tb rb hb : Nat}
theorem KB.at_ (h : KB wB W tb rb hb) {q : Nat} {o : Obj} (hq : wB.heap[q]? = some o) (hne : q ≠ tb ∧ q ≠ rb ∧ q ≠ hb) : W.heap[q]? = some o := (h.keep q (lt_of_block hq) hne.1 hne.2.1 hne.2.2).trans hq
theorem KB.cell_ (h : KB wB W tb rb hb) {q i : Nat} {v : Value} (hc : wB.cell? ⟨q, i, none⟩ = some v) (hq : q < wB.heap.size) (hne : q ≠ tb ∧ q ≠ rb ∧ q ≠ hb) : W.cell? ⟨q, i, none⟩ = some v := (World.cell?_of_block (w := wB) (a := ⟨q, i, none⟩) (h.keep q hq hne.1 hne.2.1 hne.2.2)).trans hc
theorem KB.grown (h : KB wB W tb rb hb) (g : W.grownBy W' none) : KB wB W' tb rb hb :=
  ⟨g.os.trans h.os, g.tape.trans h.tape, g.output.trans h.output, Nat.le_trans h.size g.size, fun q hq h1 h2 h3 => (g.block q (Nat.lt_of_lt_of_le hq h.size) (by simp)).trans (h.keep q hq h1 h2 h3)⟩
theorem KB.set (h : KB wB W tb rb hb) {q i : Nat} {v : Value} (hq : q = tb ∨ q = rb ∨ q = hb) : KB wB (W.setCell ⟨q, i, none⟩ v) tb rb hb :=
  ⟨h.os, h.tape, h.output, by simpa [World.setCell] using h.size, fun p hp h1 h2 h3 => (setCell_heap (by rcases hq with rfl | rfl | rfl <;> omega)).trans (h.keep p hp h1 h2 h3)⟩
end
theorem l2_step0 {W : World} {tb rb hb : Nat} {s c0 c1 x1 x2 x3 r0 r1 r2 r3 r4 r5 h0 h1 p k y b : Value} {t1 t2 t3 : TypeId} (hT : W.heap[tb]? = some (.cells #[s, c0, c1, x1, x2, x3] t1)) (hR : W.heap[rb]? = some (.cells #[r0, r1, r2, r3, r4, r5] t2)) (hH : W.heap[hb]? = some (.cells #[h0, h1] t3)) (hd : tb ≠ rb ∧ tb ≠ hb ∧ rb ≠ hb) :
    (((((W.setCell ⟨rb, 0, none⟩ p).setCell ⟨rb, 1, none⟩ k).setCell ⟨rb, 2, none⟩ y).setCell ⟨hb, 0, none⟩ b).setCell ⟨tb, 1, none⟩ k).heap[tb]? = some (.cells #[s, k, c1, x1, x2, x3] t1) ∧ (((((W.setCell ⟨rb, 0, none⟩ p).setCell ⟨rb, 1, none⟩ k).setCell ⟨rb, 2, none⟩ y).setCell ⟨hb, 0, none⟩ b).setCell ⟨tb, 1, none⟩ k).heap[rb]? = some (.cells #[p, k, y, r3, r4, r5] t2) ∧ (((((W.setCell ⟨rb, 0, none⟩ p).setCell ⟨rb, 1, none⟩ k).setCell ⟨rb, 2, none⟩ y).setCell ⟨hb, 0, none⟩ b).setCell ⟨tb, 1, none⟩ k).heap[hb]? = some (.cells #[b, h1] t3) := by
  obtain ⟨n1, n2, n3⟩ := hd
  refine ⟨?_, ?_, ?_⟩
  · simp only [World.setCell, Array.getElem?_modify, if_true, if_neg n1.symm, if_neg n2.symm, hT, Option.map_some]
    rfl
  · simp only [World.setCell, Array.getElem?_modify, if_true, if_neg n1, if_neg n3.symm, hR, Option.map_some]
    rfl
  · simp only [World.setCell, Array.getElem?_modify, if_true, if_neg n2, if_neg n3, hH, Option.map_some]
    rfl
theorem l2_step1 {W : World} {tb rb hb : Nat} {s c0 c1 x1 x2 x3 r0 r1 r2 r3 r4 r5 h0 h1 p k y b : Value} {t1 t2 t3 : TypeId} (hT : W.heap[tb]? = some (.cells #[s, c0, c1, x1, x2, x3] t1)) (hR : W.heap[rb]? = some (.cells #[r0, r1, r2, r3, r4, r5] t2)) (hH : W.heap[hb]? = some (.cells #[h0, h1] t3)) (hd : tb ≠ rb ∧ tb ≠ hb ∧ rb ≠ hb) :
    (((((W.setCell ⟨rb, 3, none⟩ p).setCell ⟨rb, 4, none⟩ k).setCell ⟨rb, 5, none⟩ y).setCell ⟨hb, 1, none⟩ b).setCell ⟨tb, 2, none⟩ k).heap[tb]? = some (.cells #[s, c0, k, x1, x2, x3] t1) ∧ (((((W.setCell ⟨rb, 3, none⟩ p).setCell ⟨rb, 4, none⟩ k).setCell ⟨rb, 5, none⟩ y).setCell ⟨hb, 1, none⟩ b).setCell ⟨tb, 2, none⟩ k).heap[rb]? = some (.cells #[r0, r1, r2, p, k, y] t2) ∧ (((((W.setCell ⟨rb, 3, none⟩ p).setCell ⟨rb, 4, none⟩ k).setCell ⟨rb, 5, none⟩ y).setCell ⟨hb, 1, none⟩ b).setCell ⟨tb, 2, none⟩ k).heap[hb]? = some (.cells #[h0, b] t3) := by
  obtain ⟨n1, n2, n3⟩ := hd
  refine ⟨?_, ?_, ?_⟩
  · simp only [World.setCell, Array.getElem?_modify, if_true, if_neg n1.symm, if_neg n2.symm, hT, Option.map_some]
    rfl
  · simp only [World.setCell, Array.getElem?_modify, if_true, if_neg n1, if_neg n3.symm, hR, Option.map_some]
    rfl
  · simp only [World.setCell, Array.getElem?_modify, if_true, if_neg n2, if_neg n3, hH, Option.map_some]
    rfl
/-- What lies there, as the second loop begins. -/
structure DS2 (wB : World) (R : Rd) (b0 b1 tb rb hb n : Nat) (vs : Value) (ho C de wi pr qu a0 a1 : Int) (vd ve vl : Value) : Prop where
  cf : wB.heap[b0]? = some (.cells #[.int .i64 ho, .int .i64 C, .int .i64 de, .int .i64 wi, .int .i64 pr, vd, ve, vl, .int .i64 qu] 26)
  up : wB.heap[b1]? = some (.cells #[.int .u32 a0, .int .u32 a1] 29)
  snt : ∃ sg scap, vs = .slice (some ⟨sg, 0, none⟩) n scap ∧ n ≤ scap ∧ sg < wB.heap.size ∧ ∀ j, j < n → wB.cell? ⟨sg, j, none⟩ = some (.int .i64 (R.sent j))
  d0 : b0 ≠ tb ∧ b0 ≠ rb ∧ b0 ≠ hb
  d1 : b1 ≠ tb ∧ b1 ≠ rb ∧ b1 ≠ hb
  d2 : ∀ {g i : Nat} {n c : Nat}, vs = .slice (some ⟨g, i, none⟩) n c → g ≠ tb ∧ g ≠ rb ∧ g ≠ hb
  d3 : tb ≠ rb ∧ tb ≠ hb ∧ rb ≠ hb
  dl : tb < wB.heap.size ∧ rb < wB.heap.size ∧ hb < wB.heap.size
noncomputable def rbody2 : Code := (((Tryz.f15.body.map loopsOf).getD [])[1]?).getD .skip
set_option maxRecDepth 1000000 in
set_option maxHeartbeats 8000000 in
theorem rloop2 (R : Rd) (wB : World) (b0 b1 tb rb hb n : Nat) (C de wi pr qu cy a0 a1 : Int) (vd ve vl vs : Value) (p0 p1 y0 y1 : Int) (k0 k1 : Nat) (bb0 bb1 : Bool)
    (hS : Hid (DS2 wB R b0 b1 tb rb hb n vs (n : Int) C de wi pr qu a0 a1 vd ve vl))
    (hT0 : Hid (wB.heap[tb]? = some (.cells #[vs, .int .u32 0, .int .u32 0, .slice none 0 0, .slice none 0 0, .slice none 0 0] 48)))
    (hR0 : Hid (wB.heap[rb]? = some (.cells #[.int .i64 0, .int .u32 0, .int .i64 0, .int .i64 0, .int .u32 0, .int .i64 0] 108))) (hH0 : Hid (wB.heap[hb]? = some (.cells #[.bool false, .bool false] 109)))
    (HC0 : Hid (∀ (W : World) (sg scap : Nat), n ≤ scap → (∀ j, j < n → W.cell? ⟨sg, j, none⟩ = some (.int .i64 (R.sent j))) → sg < W.heap.size → Calls Tryz.prog 42 #[cfV ⟨(n : Int), C, de, wi, pr, qu⟩ vd ve vl, .int .i64 cy, .slice (some ⟨sg, 0, none⟩) n scap, .int .u32 a0] W fun e w' => e = .returned (.tuple #[resV p0 k0 y0, .bool bb0]) ∧ W.grownBy w' none))
    (HC1 : Hid (∀ (W : World) (sg scap : Nat), n ≤ scap → (∀ j, j < n → W.cell? ⟨sg, j, none⟩ = some (.int .i64 (R.sent j))) → sg < W.heap.size → Calls Tryz.prog 42 #[cfV ⟨(n : Int), C, de, wi, pr, qu⟩ vd ve vl, .int .i64 cy, .slice (some ⟨sg, 0, none⟩) n scap, .int .u32 a1] W fun e w' => e = .returned (.tuple #[resV p1 k1 y1, .bool bb1]) ∧ W.grownBy w' none))
    {Q0 : Exit → Act → World → Prop} (c2 c3 c4 c6 c7 c9 c10 c12 c13 c14 c20 c21 c22 c23 c24 c25 c26 c27 c28 c29 c30 c31 c32 c33 c34 c35 c36 c37 c38 c39 c40 c41 c42 c43 c44 c45 c46 c47 c48 c49 c50 c51 c52 c53 c54 c55 c82 c83 c84 c85 c86 c87 c88 c89 c90 c91 c92 c93 c94 c95 c96 c97 c98 c99 c100 c101 c102 c103 c104 c105 c106 c107 c108 c109 c110 c111 c112 c113 c114 c115 c116 c117 c118 c119 c120 c121 c122 c123 c124 c125 c126 c127 c128 c129 c130 c131 c132 c133 c134 c135 c136 c137 c138 c139 c140 c141 c142 c143 c144 c145 c146 c147 c148 c149 c150 c151 c152 c153 c154 c155 c156 c157 c158 c159 c160 c161 c162 c163 c164 c165 c166 c167 c168 c169 c170 c171 c172 c173 c174 c175 c176 c177 c178 c179 c180 c181 c182 c183 c184 c185 c186 c187 c188 c189 c190 c191 : Value) (u18 u19 u56 u57 u58 u59 u60 u61 u62 u63 u64 u65 u66 u67 u68 u69 u70 u71 u72 u73 u74 u75 u76 u77 u78 u79 u80 u81 : Value)
    (hexit : Hid (∀ (u18 u19 u56 u57 u58 u59 u60 u61 u62 u63 u64 u65 u66 u67 u68 u69 u70 u71 u72 u73 u74 u75 u76 u77 u78 u79 u80 u81 : Value) (W : World), KB wB W tb rb hb → W.heap[tb]? = some (.cells #[vs, .int .u32 (k0 : Int), .int .u32 (k1 : Int), .slice none 0 0, .slice none 0 0, .slice none 0 0] 48) →
      W.heap[rb]? = some (.cells #[.int .i64 p0, .int .u32 (k0 : Int), .int .i64 y0, .int .i64 p1, .int .u32 (k1 : Int), .int .i64 y1] 108) → W.heap[hb]? = some (.cells #[.bool bb0, .bool bb1] 109) → Q0 (.exit 2) ⟨(List.toArray (cfV ⟨(n : Int), C, de, wi, pr, qu⟩ vd ve vl :: .int .i64 cy :: c2 :: c3 :: c4 :: .pointer (some ⟨b0, 0, none⟩) :: c6 :: c7 :: .pointer (some ⟨b1, 0, none⟩) :: c9 :: c10 :: .pointer (some ⟨tb, 0, none⟩) :: c12 :: c13 :: c14 :: .pointer (some ⟨rb, 0, none⟩) :: .pointer (some ⟨hb, 0, none⟩) :: .int .i64 2 :: u18 :: u19 :: c20 :: c21 :: c22 :: c23 :: c24 :: c25 :: c26 :: c27 :: c28 :: c29 :: c30 :: c31 :: c32 :: c33 :: c34 :: c35 :: c36 :: c37 :: c38 :: c39 :: c40 :: c41 :: c42 :: c43 :: c44 :: c45 :: c46 :: c47 :: c48 :: c49 :: c50 :: c51 :: c52 :: c53 :: c54 :: c55 :: u56 :: u57 :: u58 :: u59 :: u60 :: u61 :: u62 :: u63 :: u64 :: u65 :: u66 :: u67 :: u68 :: u69 :: u70 :: u71 :: u72 :: u73 :: u74 :: u75 :: u76 :: u77 :: u78 :: u79 :: u80 :: u81 :: c82 :: c83 :: c84 :: c85 :: c86 :: c87 :: c88 :: c89 :: c90 :: c91 :: c92 :: c93 :: c94 :: c95 :: c96 :: c97 :: c98 :: c99 :: c100 :: c101 :: c102 :: c103 :: c104 :: c105 :: c106 :: c107 :: c108 :: c109 :: c110 :: c111 :: c112 :: c113 :: c114 :: c115 :: c116 :: c117 :: c118 :: c119 :: c120 :: c121 :: c122 :: c123 :: c124 :: c125 :: c126 :: c127 :: c128 :: c129 :: c130 :: c131 :: c132 :: c133 :: c134 :: c135 :: c136 :: c137 :: c138 :: c139 :: c140 :: c141 :: c142 :: c143 :: c144 :: c145 :: c146 :: c147 :: c148 :: c149 :: c150 :: c151 :: c152 :: c153 :: c154 :: c155 :: c156 :: c157 :: c158 :: c159 :: c160 :: c161 :: c162 :: c163 :: c164 :: c165 :: c166 :: c167 :: c168 :: c169 :: c170 :: c171 :: c172 :: c173 :: c174 :: c175 :: c176 :: c177 :: c178 :: c179 :: c180 :: c181 :: c182 :: c183 :: c184 :: c185 :: c186 :: c187 :: c188 :: c189 :: c190 :: c191 :: [])), []⟩ W)) :
    Code.wp Tryz.prog (Code.loop rbody2) Q0 ⟨(List.toArray (cfV ⟨(n : Int), C, de, wi, pr, qu⟩ vd ve vl :: .int .i64 cy :: c2 :: c3 :: c4 :: .pointer (some ⟨b0, 0, none⟩) :: c6 :: c7 :: .pointer (some ⟨b1, 0, none⟩) :: c9 :: c10 :: .pointer (some ⟨tb, 0, none⟩) :: c12 :: c13 :: c14 :: .pointer (some ⟨rb, 0, none⟩) :: .pointer (some ⟨hb, 0, none⟩) :: .int .i64 0 :: u18 :: u19 :: c20 :: c21 :: c22 :: c23 :: c24 :: c25 :: c26 :: c27 :: c28 :: c29 :: c30 :: c31 :: c32 :: c33 :: c34 :: c35 :: c36 :: c37 :: c38 :: c39 :: c40 :: c41 :: c42 :: c43 :: c44 :: c45 :: c46 :: c47 :: c48 :: c49 :: c50 :: c51 :: c52 :: c53 :: c54 :: c55 :: u56 :: u57 :: u58 :: u59 :: u60 :: u61 :: u62 :: u63 :: u64 :: u65 :: u66 :: u67 :: u68 :: u69 :: u70 :: u71 :: u72 :: u73 :: u74 :: u75 :: u76 :: u77 :: u78 :: u79 :: u80 :: u81 :: c82 :: c83 :: c84 :: c85 :: c86 :: c87 :: c88 :: c89 :: c90 :: c91 :: c92 :: c93 :: c94 :: c95 :: c96 :: c97 :: c98 :: c99 :: c100 :: c101 :: c102 :: c103 :: c104 :: c105 :: c106 :: c107 :: c108 :: c109 :: c110 :: c111 :: c112 :: c113 :: c114 :: c115 :: c116 :: c117 :: c118 :: c119 :: c120 :: c121 :: c122 :: c123 :: c124 :: c125 :: c126 :: c127 :: c128 :: c129 :: c130 :: c131 :: c132 :: c133 :: c134 :: c135 :: c136 :: c137 :: c138 :: c139 :: c140 :: c141 :: c142 :: c143 :: c144 :: c145 :: c146 :: c147 :: c148 :: c149 :: c150 :: c151 :: c152 :: c153 :: c154 :: c155 :: c156 :: c157 :: c158 :: c159 :: c160 :: c161 :: c162 :: c163 :: c164 :: c165 :: c166 :: c167 :: c168 :: c169 :: c170 :: c171 :: c172 :: c173 :: c174 :: c175 :: c176 :: c177 :: c178 :: c179 :: c180 :: c181 :: c182 :: c183 :: c184 :: c185 :: c186 :: c187 :: c188 :: c189 :: c190 :: c191 :: [])), []⟩ wB := by
  obtain ⟨sg, scap, hsl, hscap, hsg, hsnt⟩ := hS.out.snt
  subst hsl
  have HSn := hid hsnt
  have Hsg := hid hsg
  clear hsnt hsg
  have HK0 : Hid (KB wB wB tb rb hb) := hid ⟨rfl, rfl, rfl, Nat.le_refl _, fun _ _ _ _ _ => rfl⟩
  conv => arg 2; arg 1; whnf
  refine wp_loop_rounds 3 ?_
  rw [rounds_succ]
  go_wp2_with fail
  have hcb0 := hid (KB.at_ HK0.out hS.out.cf hS.out.d0)
  have hub0 := hid (KB.at_ HK0.out hS.out.up hS.out.d1)
  have m0 := hcell hcb0.out 0 _ rfl
  have m1 := hcell hcb0.out 1 _ rfl
  have m2 := hcell hcb0.out 2 _ rfl
  have m3 := hcell hcb0.out 3 _ rfl
  have m4 := hcell hcb0.out 4 _ rfl
  have m5 := hcell hcb0.out 5 _ rfl
  have m6 := hcell hcb0.out 6 _ rfl
  have m7 := hcell hcb0.out 7 _ rfl
  have m8 := hcell hcb0.out 8 _ rfl
  have mt := hcell hT0.out 0 _ rfl
  have mu := hcell hub0.out 0 _ rfl
  have e0 := World.new_ne wB ⟨b0, 0, none⟩ m0
  have e1 := World.new_ne wB ⟨tb, 0, none⟩ mt
  have e2 := World.new_ne wB ⟨b1, 0, none⟩ mu
  have hcall0 := hid (fun (W : World) (g : wB.grownBy W none) => HC0.out W sg scap hscap (fun j hj => (gr_cell g (KB.cell_ HK0.out (HSn.out j hj) Hsg.out (hS.out.d2 rfl)))) (Nat.lt_of_lt_of_le (Nat.lt_of_lt_of_le Hsg.out HK0.out.size) g.size))
  apply wp_behind1 (fun g W => Hid (wB.grownBy W none) ∧ Hid (W.heap[g]? = some (.cells #[.int .i64 p0, .int .u32 (k0 : Int), .int .i64 y0] 107)) ∧ wB.heap.size ≤ g)
  case h =>
    go_region_held3 (fun w' => w'.cell? ⟨b0, 0, none⟩ = some (.int .i64 (n : Int)) ∧ w'.cell? ⟨b0, 1, none⟩ = some (.int .i64 C) ∧ w'.cell? ⟨b0, 2, none⟩ = some (.int .i64 de) ∧ w'.cell? ⟨b0, 3, none⟩ = some (.int .i64 wi) ∧ w'.cell? ⟨b0, 4, none⟩ = some (.int .i64 pr) ∧ w'.cell? ⟨b0, 5, none⟩ = some vd ∧ w'.cell? ⟨b0, 6, none⟩ = some ve ∧ w'.cell? ⟨b0, 7, none⟩ = some vl ∧ w'.cell? ⟨b0, 8, none⟩ = some (.int .i64 qu) ∧ w'.cell? ⟨tb, 0, none⟩ = some (.slice (some ⟨sg, 0, none⟩) n scap) ∧ w'.cell? ⟨b1, 0, none⟩ = some (.int .u32 a0)) (first | go_keep | (refine ⟨gr_cell g5 ?_, gr_cell g5 ?_, gr_cell g5 ?_, gr_cell g5 ?_, gr_cell g5 ?_, gr_cell g5 ?_, gr_cell g5 ?_, gr_cell g5 ?_, gr_cell g5 ?_, gr_cell g5 ?_, gr_cell g5 ?_⟩ <;> first | (simp [*]; done) | go_keep) | (refine ⟨gr_cell (gr_alloc g5 _) ?_, gr_cell (gr_alloc g5 _) ?_, gr_cell (gr_alloc g5 _) ?_, gr_cell (gr_alloc g5 _) ?_, gr_cell (gr_alloc g5 _) ?_, gr_cell (gr_alloc g5 _) ?_, gr_cell (gr_alloc g5 _) ?_, gr_cell (gr_alloc g5 _) ?_, gr_cell (gr_alloc g5 _) ?_, gr_cell (gr_alloc g5 _) ?_, gr_cell (gr_alloc g5 _) ?_⟩ <;> first | (simp [*]; done) | go_keep) | fail)
      (first | (go_at_call 42; refine (hcall0.out _ (gr_drew (gr_refl wB none))).mono ?_; rintro e w5 ⟨rfl, g5⟩; have HG5 := hid (gr_trans (gr_drew (gr_refl wB none)) g5); have HX := hid (gr_alloc HG5.out (.cells #[.int .i64 p0, .int .u32 (k0 : Int), .int .i64 y0] 107))) | (go_at_call 42; refine (hcall0.out _ (gr_alloc (gr_drew (gr_refl wB none)) _)).mono ?_; rintro e w5 ⟨rfl, g5⟩; have HG5 := hid (gr_trans (gr_alloc (gr_drew (gr_refl wB none)) _) g5); have HX : Hid (w5.heap[wB.heap.size]? = some (.cells #[.int .i64 0, .int .u32 0, .int .i64 0] 107)) := hid (gr_heap g5 (heap_alloc_new wB.drew _) (by simp)); have zz0 := hcell HX.out 0 _ rfl; have zz1 := hcell HX.out 1 _ rfl; have zz2 := hcell HX.out 2 _ rfl; have zf0 := hfroz HX.out 0; have zf1 := hfroz HX.out 1; have zf2 := hfroz HX.out 2))
    all_goals first
      | (obtain ⟨q, hq⟩ : ∃ q, w5.heap.size = q := ⟨_, rfl⟩; have h9 := heap_alloc_new w5 (.cells #[.int .i64 p0, .int .u32 (k0 : Int), .int .i64 y0] 107); have h8 := HG5.out.size; rw [hq] at h9 h8; simp only [hq]; exact ⟨q, rfl, HX, hid h9, h8⟩)
      | (obtain ⟨q, hq⟩ : ∃ q, wB.heap.size = q := ⟨_, rfl⟩; have h9 := HX.out; rw [hq] at h9; simp only [hq]; exact ⟨q, rfl, hid (gr_setNew (gr_setNew (gr_setNew HG5.out (Nat.le_of_eq hq) 0 _) (Nat.le_of_eq hq) 1 _) (Nat.le_of_eq hq) 2 _), hid (set3h h9), Nat.le_refl _⟩)
  case k =>
  intro gx0 wx0 hS0
  obtain ⟨HG0, HX0, hgx0⟩ := hS0
  have HTx0 := hid (gr_heap HG0.out hT0.out (by simp))
  have HRx0 := hid (gr_heap HG0.out hR0.out (by simp))
  have HHx0 := hid (gr_heap HG0.out hH0.out (by simp))
  have HKx0 := hid (KB.grown HK0.out HG0.out)
  have x0 := hcell HX0.out 0 _ rfl
  have x1 := hcell HX0.out 1 _ rfl
  have x2 := hcell HX0.out 2 _ rfl
  have r0 := hcell HRx0.out 0 _ rfl
  have r1 := hcell HRx0.out 1 _ rfl
  have r2 := hcell HRx0.out 2 _ rfl
  have f0 := hfroz HRx0.out 0
  have f1 := hfroz HRx0.out 1
  have f2 := hfroz HRx0.out 2
  have h0 := hcell HHx0.out 0 _ rfl
  have h1 := hfroz HHx0.out 0
  have t0 := hcell HTx0.out 1 _ rfl
  have t1 := hfroz HTx0.out 1
  have nx1 : rb ≠ gx0 := by have := hS.out.dl; have := HK0.out.size; omega
  have nx2 : hb ≠ gx0 := by have := hS.out.dl; have := HK0.out.size; omega
  have nx3 : gx0 ≠ rb := nx1.symm
  have nx4 : gx0 ≠ hb := nx2.symm
  have nx5 : rb ≠ hb := hS.out.d3.2.2
  have nx6 : hb ≠ rb := nx5.symm
  have nx7 : rb ≠ tb := hS.out.d3.1.symm
  have nx8 : hb ≠ tb := hS.out.d3.2.1.symm
  have nx9 : tb ≠ rb := hS.out.d3.1
  have nx10 : tb ≠ hb := hS.out.d3.2.1
  clear m0 m1 m2 m3 m4 m5 m6 m7 m8 mt mu e0 e1 e2
  go_wp2_with fail
  obtain ⟨wy0, hwy0⟩ : ∃ W, (((((wx0.setCell ⟨rb, 0, none⟩ (.int .i64 p0)).setCell ⟨rb, 1, none⟩ (.int .u32 (k0 : Int))).setCell ⟨rb, 2, none⟩ (.int .i64 y0)).setCell ⟨hb, 0, none⟩ (.bool bb0)).setCell ⟨tb, 1, none⟩ (.int .u32 (k0 : Int))) = W := ⟨_, rfl⟩
  have HKy0 := hid (show KB wB wy0 tb rb hb by rw [← hwy0]; exact ((((HKx0.out.set (.inr (.inl rfl))).set (.inr (.inl rfl))).set (.inr (.inl rfl))).set (.inr (.inr rfl))).set (.inl rfl))
  obtain ⟨hTy, hRy, hHy⟩ := l2_step0 HTx0.out HRx0.out HHx0.out hS.out.d3 (p := .int .i64 p0) (k := .int .u32 (k0 : Int)) (y := .int .i64 y0) (b := .bool bb0)
  rw [hwy0] at hTy hRy hHy ⊢
  have HTy0 := hid hTy
  have HRy0 := hid hRy
  have HHy0 := hid hHy
  clear hTy hRy hHy hwy0 x0 x1 x2 r0 r1 r2 f0 f1 f2 h0 h1 t0 t1 nx1 nx2 nx3 nx4 nx5 nx6 nx7 nx8 nx9 nx10 HG0 HX0 hgx0 HTx0 HRx0 HHx0 HKx0
  go_wp2_with fail
  rw [rounds_succ]
  go_wp2_with fail
  have hcb1 := hid (KB.at_ HKy0.out hS.out.cf hS.out.d0)
  have hub1 := hid (KB.at_ HKy0.out hS.out.up hS.out.d1)
  have m0 := hcell hcb1.out 0 _ rfl
  have m1 := hcell hcb1.out 1 _ rfl
  have m2 := hcell hcb1.out 2 _ rfl
  have m3 := hcell hcb1.out 3 _ rfl
  have m4 := hcell hcb1.out 4 _ rfl
  have m5 := hcell hcb1.out 5 _ rfl
  have m6 := hcell hcb1.out 6 _ rfl
  have m7 := hcell hcb1.out 7 _ rfl
  have m8 := hcell hcb1.out 8 _ rfl
  have mt := hcell HTy0.out 0 _ rfl
  have mu := hcell hub1.out 1 _ rfl
  have e0 := World.new_ne wy0 ⟨b0, 0, none⟩ m0
  have e1 := World.new_ne wy0 ⟨tb, 0, none⟩ mt
  have e2 := World.new_ne wy0 ⟨b1, 1, none⟩ mu
  have hcall1 := hid (fun (W : World) (g : wy0.grownBy W none) => HC1.out W sg scap hscap (fun j hj => (gr_cell g (KB.cell_ HKy0.out (HSn.out j hj) Hsg.out (hS.out.d2 rfl)))) (Nat.lt_of_lt_of_le (Nat.lt_of_lt_of_le Hsg.out HKy0.out.size) g.size))
  apply wp_behind1 (fun g W => Hid (wy0.grownBy W none) ∧ Hid (W.heap[g]? = some (.cells #[.int .i64 p1, .int .u32 (k1 : Int), .int .i64 y1] 107)) ∧ wy0.heap.size ≤ g)
  case h =>
    go_region_held3 (fun w' => w'.cell? ⟨b0, 0, none⟩ = some (.int .i64 (n : Int)) ∧ w'.cell? ⟨b0, 1, none⟩ = some (.int .i64 C) ∧ w'.cell? ⟨b0, 2, none⟩ = some (.int .i64 de) ∧ w'.cell? ⟨b0, 3, none⟩ = some (.int .i64 wi) ∧ w'.cell? ⟨b0, 4, none⟩ = some (.int .i64 pr) ∧ w'.cell? ⟨b0, 5, none⟩ = some vd ∧ w'.cell? ⟨b0, 6, none⟩ = some ve ∧ w'.cell? ⟨b0, 7, none⟩ = some vl ∧ w'.cell? ⟨b0, 8, none⟩ = some (.int .i64 qu) ∧ w'.cell? ⟨tb, 0, none⟩ = some (.slice (some ⟨sg, 0, none⟩) n scap) ∧ w'.cell? ⟨b1, 1, none⟩ = some (.int .u32 a1)) (first | go_keep | (refine ⟨gr_cell g5 ?_, gr_cell g5 ?_, gr_cell g5 ?_, gr_cell g5 ?_, gr_cell g5 ?_, gr_cell g5 ?_, gr_cell g5 ?_, gr_cell g5 ?_, gr_cell g5 ?_, gr_cell g5 ?_, gr_cell g5 ?_⟩ <;> first | (simp [*]; done) | go_keep) | (refine ⟨gr_cell (gr_alloc g5 _) ?_, gr_cell (gr_alloc g5 _) ?_, gr_cell (gr_alloc g5 _) ?_, gr_cell (gr_alloc g5 _) ?_, gr_cell (gr_alloc g5 _) ?_, gr_cell (gr_alloc g5 _) ?_, gr_cell (gr_alloc g5 _) ?_, gr_cell (gr_alloc g5 _) ?_, gr_cell (gr_alloc g5 _) ?_, gr_cell (gr_alloc g5 _) ?_, gr_cell (gr_alloc g5 _) ?_⟩ <;> first | (simp [*]; done) | go_keep) | fail)
      (first | (go_at_call 42; refine (hcall1.out _ (gr_drew (gr_refl wy0 none))).mono ?_; rintro e w5 ⟨rfl, g5⟩; have HG5 := hid (gr_trans (gr_drew (gr_refl wy0 none)) g5); have HX := hid (gr_alloc HG5.out (.cells #[.int .i64 p1, .int .u32 (k1 : Int), .int .i64 y1] 107))) | (go_at_call 42; refine (hcall1.out _ (gr_alloc (gr_drew (gr_refl wy0 none)) _)).mono ?_; rintro e w5 ⟨rfl, g5⟩; have HG5 := hid (gr_trans (gr_alloc (gr_drew (gr_refl wy0 none)) _) g5); have HX : Hid (w5.heap[wy0.heap.size]? = some (.cells #[.int .i64 0, .int .u32 0, .int .i64 0] 107)) := hid (gr_heap g5 (heap_alloc_new wy0.drew _) (by simp)); have zz0 := hcell HX.out 0 _ rfl; have zz1 := hcell HX.out 1 _ rfl; have zz2 := hcell HX.out 2 _ rfl; have zf0 := hfroz HX.out 0; have zf1 := hfroz HX.out 1; have zf2 := hfroz HX.out 2))
    all_goals first
      | (obtain ⟨q, hq⟩ : ∃ q, w5.heap.size = q := ⟨_, rfl⟩; have h9 := heap_alloc_new w5 (.cells #[.int .i64 p1, .int .u32 (k1 : Int), .int .i64 y1] 107); have h8 := HG5.out.size; rw [hq] at h9 h8; simp only [hq]; exact ⟨q, rfl, HX, hid h9, h8⟩)
      | (obtain ⟨q, hq⟩ : ∃ q, wy0.heap.size = q := ⟨_, rfl⟩; have h9 := HX.out; rw [hq] at h9; simp only [hq]; exact ⟨q, rfl, hid (gr_setNew (gr_setNew (gr_setNew HG5.out (Nat.le_of_eq hq) 0 _) (Nat.le_of_eq hq) 1 _) (Nat.le_of_eq hq) 2 _), hid (set3h h9), Nat.le_refl _⟩)
  case k =>
  intro gx1 wx1 hS1
  obtain ⟨HG1, HX1, hgx1⟩ := hS1
  have HTx1 := hid (gr_heap HG1.out HTy0.out (by simp))
  have HRx1 := hid (gr_heap HG1.out HRy0.out (by simp))
  have HHx1 := hid (gr_heap HG1.out HHy0.out (by simp))
  have HKx1 := hid (KB.grown HKy0.out HG1.out)
  have x0 := hcell HX1.out 0 _ rfl
  have x1 := hcell HX1.out 1 _ rfl
  have x2 := hcell HX1.out 2 _ rfl
  have r0 := hcell HRx1.out 3 _ rfl
  have r1 := hcell HRx1.out 4 _ rfl
  have r2 := hcell HRx1.out 5 _ rfl
  have f0 := hfroz HRx1.out 3
  have f1 := hfroz HRx1.out 4
  have f2 := hfroz HRx1.out 5
  have h0 := hcell HHx1.out 1 _ rfl
  have h1 := hfroz HHx1.out 1
  have t0 := hcell HTx1.out 2 _ rfl
  have t1 := hfroz HTx1.out 2
  have nx1 : rb ≠ gx1 := by have := hS.out.dl; have := HKy0.out.size; omega
  have nx2 : hb ≠ gx1 := by have := hS.out.dl; have := HKy0.out.size; omega
  have nx3 : gx1 ≠ rb := nx1.symm
  have nx4 : gx1 ≠ hb := nx2.symm
  have nx5 : rb ≠ hb := hS.out.d3.2.2
  have nx6 : hb ≠ rb := nx5.symm
  have nx7 : rb ≠ tb := hS.out.d3.1.symm
  have nx8 : hb ≠ tb := hS.out.d3.2.1.symm
  have nx9 : tb ≠ rb := hS.out.d3.1
  have nx10 : tb ≠ hb := hS.out.d3.2.1
  clear m0 m1 m2 m3 m4 m5 m6 m7 m8 mt mu e0 e1 e2
  go_wp2_with fail
  obtain ⟨wy1, hwy1⟩ : ∃ W, (((((wx1.setCell ⟨rb, 3, none⟩ (.int .i64 p1)).setCell ⟨rb, 4, none⟩ (.int .u32 (k1 : Int))).setCell ⟨rb, 5, none⟩ (.int .i64 y1)).setCell ⟨hb, 1, none⟩ (.bool bb1)).setCell ⟨tb, 2, none⟩ (.int .u32 (k1 : Int))) = W := ⟨_, rfl⟩
  have HKy1 := hid (show KB wB wy1 tb rb hb by rw [← hwy1]; exact ((((HKx1.out.set (.inr (.inl rfl))).set (.inr (.inl rfl))).set (.inr (.inl rfl))).set (.inr (.inr rfl))).set (.inl rfl))
  obtain ⟨hTy, hRy, hHy⟩ := l2_step1 HTx1.out HRx1.out HHx1.out hS.out.d3 (p := .int .i64 p1) (k := .int .u32 (k1 : Int)) (y := .int .i64 y1) (b := .bool bb1)
  rw [hwy1] at hTy hRy hHy ⊢
  have HTy1 := hid hTy
  have HRy1 := hid hRy
  have HHy1 := hid hHy
  clear hTy hRy hHy hwy1 x0 x1 x2 r0 r1 r2 f0 f1 f2 h0 h1 t0 t1 nx1 nx2 nx3 nx4 nx5 nx6 nx7 nx8 nx9 nx10 HG1 HX1 hgx1 HTx1 HRx1 HHx1 HKx1
  go_wp2_with fail
  rw [rounds_succ]
  go_wp2_with fail
  exact hexit.out _ _ _ _ _ _ _ _ _ _ _ _ _ _ _ _ _ _ _ _ _ _ _ _ _ _ _ _ _ HKy1.out HTy1.out HRy1.out HHy1.out
end Go.Proofs.YtckoaeoecjphiaaGreat
