/- Lemmas: The document's round: its third loop. -/
import Derived.Test.YtckoaeoecjphiaaGreatK47
import Derived.Test.YtckoaeoecjphiaaGreatK50

/- The document's round: its third loop. -/
namespace Go.Proofs.YtckoaeoecjphiaaGreat
open Go.RowKit Go.Lib

theorem cell_one_new2 (w : World) (o : Obj) (v : Value) (t : TypeId) : ∀ (j : Nat) (u : Value), [v][j]? = some u → ((w.alloc o).alloc (.cells #[v] t)).cell? ((⟨w.heap.size + 1, 0, none⟩ : Addr).add j) = some u := by
  intro j u hu
  have h := cell_one_new' (w.alloc o) v t j u hu
  have e : (w.alloc o).heap.size = w.heap.size + 1 := by simp
  rw [e] at h
  exact h
theorem set_size (w : World) (p : Addr) (x : Value) : (w.setCell p x).heap.size = w.heap.size := by simp [World.setCell]
theorem cell_one_set (w : World) (p : Addr) (x v : Value) (t : TypeId) : ∀ (j : Nat) (u : Value), [v][j]? = some u → ((w.setCell p x).alloc (.cells #[v] t)).cell? ((⟨w.heap.size, 0, none⟩ : Addr).add j) = some u := by
  intro j u hu
  have h := cell_one_new' (w.setCell p x) v t j u hu
  rw [set_size] at h
  exact h
theorem cells3_set (w : World) (p : Addr) (x a b c : Value) (t : TypeId) : ∀ (j : Nat) (u : Value), [a, b, c][j]? = some u → ((w.setCell p x).alloc (.cells #[a, b, c] t)).cell? ((⟨w.heap.size, 0, none⟩ : Addr).add j) = some u := by
  intro j u hu
  have h := cells3_new (w.setCell p x) a b c t j u hu
  rw [set_size] at h
  exact h
theorem DL.setO {lo : Nat} {wC W : World} {tb c0 c1 : Nat} {v : Nat → Value} {n : Nat → Nat} {xs : Nat → List Value} (h : DL lo wC W tb c0 c1 v n xs) {q i : Nat} {x : Value} (hq : wC.heap.size ≤ q) (ho : ∀ j, lo ≤ j ∧ j < 4 → (v j).ownBlock ≠ some q) : DL lo wC (W.setCell ⟨q, i, none⟩ x) tb c0 c1 v n xs :=
  have ht := h.tl
  { os := h.os, tape := h.tape, output := h.output, size := by simpa [World.setCell] using h.size
    keep := fun p hp hn => (setCell_heap (by omega)).trans (h.keep p hp hn)
    told := (setCell_heap (by omega)).trans h.told
    row := fun j hj => own_other (h.row j hj) (ho j hj), ap := h.ap, tl := h.tl }
theorem DL.set3o {lo : Nat} {wC W : World} {tb c0 c1 : Nat} {v : Nat → Value} {n : Nat → Nat} {xs : Nat → List Value} (h : DL lo wC W tb c0 c1 v n xs) {q : Nat} {x y z : Value} (hq : wC.heap.size ≤ q) (ho : ∀ j, lo ≤ j ∧ j < 4 → (v j).ownBlock ≠ some q) : DL lo wC (((W.setCell ⟨q, 0, none⟩ x).setCell ⟨q, 1, none⟩ y).setCell ⟨q, 2, none⟩ z) tb c0 c1 v n xs := ((h.setO hq ho).setO hq ho).setO hq ho
theorem dl_no {vs vb vh va : Value} {b : Nat} (h : (∀ q, vb.ownBlock = some q → q ≠ b) ∧ (∀ q, vh.ownBlock = some q → q ≠ b) ∧ (∀ q, va.ownBlock = some q → q ≠ b)) {j : Nat} (hj : 1 ≤ j ∧ j < 4) : (q4 vs vb vh va j).ownBlock ≠ some b := fun e => by
  rcases (by omega : j = 1 ∨ j = 2 ∨ j = 3) with rfl | rfl | rfl
  · exact h.1 _ e rfl
  · exact h.2.1 _ e rfl
  · exact h.2.2 _ e rfl
/-- Behind a call that gives one value: the ways are forgotten. -/
def BehindW (F : Value → Act) (S : Value → World → Prop) : Exit → Act → World → Prop
  | .normal, a, W => ∃ v, a = F v ∧ S v W
  | _, _, _ => False
theorem wp_behindW {P : Program} {code : Code} {Q : Exit → Act → World → Prop} {a : Act} {w : World} {F : Value → Act} (S : Value → World → Prop) (h : code.wp P (BehindW F S) a w) (k : ∀ v W, S v W → Q .normal (F v) W) : code.wp P Q a w :=
  Code.wp_mono (fun e a W hb => by
    cases e with
    | normal => obtain ⟨v, ha, hs⟩ := hb; subst ha; exact k v W hs
    | _ => exact (hb : False).elim) h
theorem Tryz.info_ck04 : (Tryz.prog.info? 61).map (fun i => (i.zero, i.size, i.bytes)) = some (some (.agg #[.int .i64 0, .int .i64 0, .int .i64 0]), 3, 24) := by kernel_rfl
theorem bel_narrow {a b : World} {B B' : Nat} (h : Below B a b) (hB : B' ≤ B) : Below B' a b := ⟨h.os, h.tape, h.output, h.size, fun q hq => h.block q (by omega)⟩
theorem rows_form {n₀ : Nat} {W : World} {vd : Value} {rows : List (List Int)} (h : RowsIn n₀ W vd rows) (h0 : 0 < rows.length) : ∃ b off cap, vd = .slice (some ⟨b, off, none⟩) rows.length cap ∧ rows.length ≤ cap ∧
    ∀ W' : World, Below n₀ W W' → ∀ j, j < rows.length → ∀ i, i < (nthR rows j).length → ∃ b2 off2 cap2, (nthR rows j).length ≤ cap2 ∧ W'.cell? ⟨b, off + j, none⟩ = some (.slice (some ⟨b2, off2, none⟩) (nthR rows j).length cap2) ∧ W'.cell? ⟨b2, off2 + i, none⟩ = some (.int .i64 (nth (nthR rows j) i)) ∧ (b < n₀ ∧ b2 < n₀) := by
  obtain ⟨dv, h1, h2⟩ := h
  rcases h1 with ⟨_, _, _, h9⟩ | ⟨b, off, cap, rfl, hcap, hb, hf⟩
  · omega
  · refine ⟨b, off, cap, rfl, hcap, fun W' hB j hj i hi => ?_⟩
    have c1 := hf j hj 0 (by omega)
    rcases h2 j hj with ⟨_, _, _, h9⟩ | ⟨b2, off2, cap2, e, hcap2, hb2, hf2⟩
    · omega
    · have c2 := hf2 i hi 0 (by omega)
      dsimp only at c1
      rw [e] at c1
      refine ⟨b2, off2, cap2, hcap2, ?_, ?_, hb, hb2⟩
      · rw [hB.cell (p := ⟨b, off + j, none⟩) hb]; simpa using c1
      · rw [hB.cell (p := ⟨b2, off2 + i, none⟩) hb2]; simpa using c2
/-- What lies there, as the third loop begins. -/
structure DS3 (wC : World) (R : Rd) (b0 b2 tb rb hb lb off sg n : Nat) (ho C de wi pr qu cy p e0 e1 : Int) (vd ve vl : Value) (p0 p1 y0 y1 : Int) (k0 k1 : Nat) (bb0 bb1 : Bool) : Prop where
  cf : wC.heap[b0]? = some (.cells #[.int .i64 ho, .int .i64 C, .int .i64 de, .int .i64 wi, .int .i64 pr, vd, ve, vl, .int .i64 qu] 26)
  dn : wC.heap[b2]? = some (.cells #[.int .u32 e0, .int .u32 e1] 29)
  res : wC.heap[rb]? = some (.cells #[.int .i64 p0, .int .u32 (k0 : Int), .int .i64 y0, .int .i64 p1, .int .u32 (k1 : Int), .int .i64 y1] 108)
  the : wC.heap[hb]? = some (.cells #[.bool bb0, .bool bb1] 109)
  clk : ∀ j, j < n → wC.cell? ⟨lb, off + j * 3, none⟩ = some (.int .i64 (nthC R.l j).m) ∧ wC.cell? ⟨lb, off + j * 3 + 1, none⟩ = some (.int .i64 (nthC R.l j).b) ∧ wC.cell? ⟨lb, off + j * 3 + 2, none⟩ = some (.int .i64 (nthC R.l j).r)
  snt : ∀ j, j < n → wC.cell? ⟨sg, j, none⟩ = some (.int .i64 (R.sent j))
  row : RowsIn tb wC vd R.d.rows
  r0 : 0 < R.d.rows.length
  d0 : b0 ≠ tb ∧ b2 ≠ tb ∧ rb ≠ tb ∧ hb ≠ tb ∧ lb ≠ tb ∧ sg ≠ tb
  lbs : lb < wC.heap.size
  sgs : sg < wC.heap.size
  hcy : cy * C = p
  hp : R.p = p
noncomputable def rbody3 : Code := (((Tryz.f15.body.map loopsOf).getD [])[2]?).getD .skip
set_option maxRecDepth 1000000 in
set_option maxHeartbeats 8000000 in
theorem rloop3 (R : Rd) (hR : RdOk R) (ys : List Sd) (hs : Sorts R ys) (wC : World) (b0 b2 tb rb hb lb off lcap sg scap n : Nat) (C de wi pr qu cy p e0 e1 : Int) (vd ve vl : Value) (p0 p1 y0 y1 : Int) (k0 k1 : Nat) (bb0 bb1 : Bool)
    (hn : Hid (R.l.length = n)) (hn6 : n ≤ 6) (hcap : n ≤ lcap) (hscap : n ≤ scap)
    (hS : Hid (DS3 wC R b0 b2 tb rb hb lb off sg n (n : Int) C de wi pr qu cy p e0 e1 vd ve vl p0 p1 y0 y1 k0 k1 bb0 bb1))
    (hD : Hid (DG 1 wC wC tb R k0 k1 (.slice (some ⟨sg, 0, none⟩) n scap) (.slice none 0 0) (.slice none 0 0) (.slice none 0 0) n 0 0 0))
    (hcf : Hid (R.d.cf = ⟨(n : Int), C, de, wi, pr, qu⟩)) (hcy : Hid (R.cy = cy)) (hcr0 : Hid (R.crew 0 = k0)) (hcr1 : Hid (R.crew 1 = k1)) (hp0 : Hid (R.pt 0 = p0)) (hp1 : Hid (R.pt 1 = p1)) (hy0 : Hid (cycS R.cy (R.came 0) = y0)) (hy1 : Hid (cycS R.cy (R.came 1) = y1)) (he0 : Hid ((R.w0 : Int) = e0)) (he1 : Hid ((R.w1 : Int) = e1))
    (hbb0 : Hid (bb0 = true ↔ R.crew 0 ≠ 0)) (hbb1 : Hid (bb1 = true ↔ R.crew 1 ≠ 0))
    {Q0 : Exit → Act → World → Prop} (c3 c4 c6 c7 c8 c10 c12 c13 c14 c17 c18 c19 c29 c30 c31 c32 c33 c34 c35 c36 c37 c38 c39 c40 c41 c42 c43 c44 c45 c46 c47 c48 c49 c50 c51 c52 c53 c54 c55 c56 c57 c58 c59 c60 c61 c62 c63 c64 c65 c66 c67 c68 c69 c70 c71 c72 c73 c74 c75 c76 c77 c78 c79 c80 c81 c191 : Value) (u21 u22 u23 u24 u25 u26 u27 u28 u82 u83 u84 u85 u86 u87 u88 u89 u90 u91 u92 u93 u94 u95 u96 u97 u98 u99 u100 u101 u102 u103 u104 u105 u106 u107 u108 u109 u110 u111 u112 u113 u114 u115 u116 u117 u118 u119 u120 u121 u122 u123 u124 u125 u126 u127 u128 u129 u130 u131 u132 u133 u134 u135 u136 u137 u138 u139 u140 u141 u142 u143 u144 u145 u146 u147 u148 u149 u150 u151 u152 u153 u154 u155 u156 u157 u158 u159 u160 u161 u162 u163 u164 u165 u166 u167 u168 u169 u170 u171 u172 u173 u174 u175 u176 u177 u178 u179 u180 u181 u182 u183 u184 u185 u186 u187 u188 u189 u190 : Value)
    (hexit : Hid (∀ (u21 u22 u23 u24 u25 u26 u27 u28 u82 u83 u84 u85 u86 u87 u88 u89 u90 u91 u92 u93 u94 u95 u96 u97 u98 u99 u100 u101 u102 u103 u104 u105 u106 u107 u108 u109 u110 u111 u112 u113 u114 u115 u116 u117 u118 u119 u120 u121 u122 u123 u124 u125 u126 u127 u128 u129 u130 u131 u132 u133 u134 u135 u136 u137 u138 u139 u140 u141 u142 u143 u144 u145 u146 u147 u148 u149 u150 u151 u152 u153 u154 u155 u156 u157 u158 u159 u160 u161 u162 u163 u164 u165 u166 u167 u168 u169 u170 u171 u172 u173 u174 u175 u176 u177 u178 u179 u180 u181 u182 u183 u184 u185 u186 u187 u188 u189 u190 : Value) (W : World) (vb vh va : Value), DG 1 wC W tb R k0 k1 (.slice (some ⟨sg, 0, none⟩) n scap) vb vh va n n n n → Q0 (.exit 4) ⟨(List.toArray (cfV ⟨(n : Int), C, de, wi, pr, qu⟩ vd ve vl :: .int .i64 cy :: .slice (some ⟨lb, off, none⟩) n lcap :: c3 :: c4 :: .pointer (some ⟨b0, 0, none⟩) :: c6 :: c7 :: c8 :: .pointer (some ⟨b2, 0, none⟩) :: c10 :: .pointer (some ⟨tb, 0, none⟩) :: c12 :: c13 :: c14 :: .pointer (some ⟨rb, 0, none⟩) :: .pointer (some ⟨hb, 0, none⟩) :: c17 :: c18 :: c19 :: .int .i64 (n : Int) :: u21 :: u22 :: u23 :: u24 :: u25 :: u26 :: u27 :: u28 :: c29 :: c30 :: c31 :: c32 :: c33 :: c34 :: c35 :: c36 :: c37 :: c38 :: c39 :: c40 :: c41 :: c42 :: c43 :: c44 :: c45 :: c46 :: c47 :: c48 :: c49 :: c50 :: c51 :: c52 :: c53 :: c54 :: c55 :: c56 :: c57 :: c58 :: c59 :: c60 :: c61 :: c62 :: c63 :: c64 :: c65 :: c66 :: c67 :: c68 :: c69 :: c70 :: c71 :: c72 :: c73 :: c74 :: c75 :: c76 :: c77 :: c78 :: c79 :: c80 :: c81 :: u82 :: u83 :: u84 :: u85 :: u86 :: u87 :: u88 :: u89 :: u90 :: u91 :: u92 :: u93 :: u94 :: u95 :: u96 :: u97 :: u98 :: u99 :: u100 :: u101 :: u102 :: u103 :: u104 :: u105 :: u106 :: u107 :: u108 :: u109 :: u110 :: u111 :: u112 :: u113 :: u114 :: u115 :: u116 :: u117 :: u118 :: u119 :: u120 :: u121 :: u122 :: u123 :: u124 :: u125 :: u126 :: u127 :: u128 :: u129 :: u130 :: u131 :: u132 :: u133 :: u134 :: u135 :: u136 :: u137 :: u138 :: u139 :: u140 :: u141 :: u142 :: u143 :: u144 :: u145 :: u146 :: u147 :: u148 :: u149 :: u150 :: u151 :: u152 :: u153 :: u154 :: u155 :: u156 :: u157 :: u158 :: u159 :: u160 :: u161 :: u162 :: u163 :: u164 :: u165 :: u166 :: u167 :: u168 :: u169 :: u170 :: u171 :: u172 :: u173 :: u174 :: u175 :: u176 :: u177 :: u178 :: u179 :: u180 :: u181 :: u182 :: u183 :: u184 :: u185 :: u186 :: u187 :: u188 :: u189 :: u190 :: c191 :: [])), []⟩ W)) :
    Code.wp Tryz.prog (Code.loop rbody3) Q0 ⟨(List.toArray (cfV ⟨(n : Int), C, de, wi, pr, qu⟩ vd ve vl :: .int .i64 cy :: .slice (some ⟨lb, off, none⟩) n lcap :: c3 :: c4 :: .pointer (some ⟨b0, 0, none⟩) :: c6 :: c7 :: c8 :: .pointer (some ⟨b2, 0, none⟩) :: c10 :: .pointer (some ⟨tb, 0, none⟩) :: c12 :: c13 :: c14 :: .pointer (some ⟨rb, 0, none⟩) :: .pointer (some ⟨hb, 0, none⟩) :: c17 :: c18 :: c19 :: .int .i64 0 :: u21 :: u22 :: u23 :: u24 :: u25 :: u26 :: u27 :: u28 :: c29 :: c30 :: c31 :: c32 :: c33 :: c34 :: c35 :: c36 :: c37 :: c38 :: c39 :: c40 :: c41 :: c42 :: c43 :: c44 :: c45 :: c46 :: c47 :: c48 :: c49 :: c50 :: c51 :: c52 :: c53 :: c54 :: c55 :: c56 :: c57 :: c58 :: c59 :: c60 :: c61 :: c62 :: c63 :: c64 :: c65 :: c66 :: c67 :: c68 :: c69 :: c70 :: c71 :: c72 :: c73 :: c74 :: c75 :: c76 :: c77 :: c78 :: c79 :: c80 :: c81 :: u82 :: u83 :: u84 :: u85 :: u86 :: u87 :: u88 :: u89 :: u90 :: u91 :: u92 :: u93 :: u94 :: u95 :: u96 :: u97 :: u98 :: u99 :: u100 :: u101 :: u102 :: u103 :: u104 :: u105 :: u106 :: u107 :: u108 :: u109 :: u110 :: u111 :: u112 :: u113 :: u114 :: u115 :: u116 :: u117 :: u118 :: u119 :: u120 :: u121 :: u122 :: u123 :: u124 :: u125 :: u126 :: u127 :: u128 :: u129 :: u130 :: u131 :: u132 :: u133 :: u134 :: u135 :: u136 :: u137 :: u138 :: u139 :: u140 :: u141 :: u142 :: u143 :: u144 :: u145 :: u146 :: u147 :: u148 :: u149 :: u150 :: u151 :: u152 :: u153 :: u154 :: u155 :: u156 :: u157 :: u158 :: u159 :: u160 :: u161 :: u162 :: u163 :: u164 :: u165 :: u166 :: u167 :: u168 :: u169 :: u170 :: u171 :: u172 :: u173 :: u174 :: u175 :: u176 :: u177 :: u178 :: u179 :: u180 :: u181 :: u182 :: u183 :: u184 :: u185 :: u186 :: u187 :: u188 :: u189 :: u190 :: c191 :: [])), []⟩ wC := by
  obtain ⟨db, dof, dcap, hvd, hdcap, hrows⟩ := rows_form hS.out.row (by have := hS.out.r0; exact this)
  subst hvd
  have HRows := hid hrows
  obtain ⟨rl, hrl⟩ : ∃ x, Hid (R.d.rows.length = x) := ⟨_, hid rfl⟩
  rw [hrl.out] at HRows hdcap hexit
  rw [hrl.out]
  have hrn : n ≤ rl := by
    rw [← hrl.out, ← hn.out]
    by_cases h0 : R.l.length = 0
    · omega
    · have := (hR.row (show R.l.length - 1 < R.l.length by omega) (show 0 < 2 by omega)).1
      omega
  obtain ⟨i1, hi1, hy0', hy1', hy2'⟩ := info_parts Tryz.info_i64
  obtain ⟨i2, hi2, hx0', hx1', hx2'⟩ := info_parts Tryz.info_int
  obtain ⟨i3, hi3, hw0', hw1', hw2'⟩ := info_parts Tryz.info_ck04
  have hsp : Hid (spansZ (⟨(n : Int), C, de, wi, pr, qu⟩ : Cf) = true) := hid (by rw [← hcf.out]; exact (check_cy (cleanZ_iff.1 hR.clean.1).1).1)
  have hE : Hid (expZ (⟨(n : Int), C, de, wi, pr, qu⟩ : Cf) = R.E) := hid (by unfold Rd.E; rw [hcf.out])
  have hA : Hid (accZ (⟨(n : Int), C, de, wi, pr, qu⟩ : Cf) = R.A) := hid (by unfold Rd.A; rw [hcf.out])
  have HOf := hid (fun W : World => roffset_any ⟨(n : Int), C, de, wi, pr, qu⟩ (.slice (some ⟨db, dof, none⟩) rl dcap) ve vl W hsp.out)
  have HAc := hid (fun W : World => raccept_any ⟨(n : Int), C, de, wi, pr, qu⟩ (.slice (some ⟨db, dof, none⟩) rl dcap) ve vl W hsp.out)
  rw [hE.out] at HOf
  rw [hA.out] at HAc
  have hpb := hR.pcy.1
  have hEA := hR.EA
  have hpp : Hid (R.p = p) := hid hS.out.hp
  rw [hpp.out] at hpb
  obtain ⟨E, hEe⟩ : ∃ x, Hid (R.E = x) := ⟨_, hid rfl⟩
  obtain ⟨A, hAe⟩ : ∃ x, Hid (R.A = x) := ⟨_, hid rfl⟩
  rw [hEe.out] at HOf hE hEA
  rw [hAe.out] at HAc hA hEA
  obtain ⟨⟨E0, E1⟩, ⟨A0, A1⟩⟩ := hEA
  obtain ⟨pb0, pb1⟩ := hpb
  have wsp : IntKind.i64.wrap (cy * C) = p := by rw [hS.out.hcy]; exact IntWalk.i64_in _ (by omega)
  have ws1 : IntKind.i64.wrap (p + E) = p + E := IntWalk.i64_in _ (by omega)
  have ws2 : IntKind.i64.wrap (p + E + A) = p + E + A := IntWalk.i64_in _ (by omega)
  have ws3 : IntKind.i64.wrap (p + E + A + 1) = p + E + A + 1 := IntWalk.i64_in _ (by omega)
  clear hrows
  conv => arg 2; arg 1; whnf
  go_loopw [20] (fun i wr => ∃ (k : Nat) (vb vh va : Value), k ≤ n ∧ i = .int .i64 k ∧ Hid (DG 1 wC wr tb R k0 k1 (.slice (some ⟨sg, 0, none⟩) n scap) vb vh va n k k k)) (fun i _ => n - (intOf i).toNat)
  case atStart => exact ⟨0, _, _, _, Nat.zero_le _, rfl, hD⟩
  case round =>
    obtain ⟨k, vb, vh, va, hk, rfl, HDk⟩ := hrel
    by_cases hlt : k < n
    · have hk2 : (k : Int) < (n : Int) := by omega
      have hkc : k < lcap := by omega
      have hksc : k < scap := by omega
      have hkl : k < R.l.length := by rw [hn.out]; exact hlt
      have hko := hid (hR.ck hkl).2
      obtain ⟨s3, hs3⟩ : ∃ s, Hid (wr.heap.size = s) := ⟨_, hid rfl⟩
      have hcs : Hid (wC.heap.size ≤ s3) := hid (by rw [← hs3.out]; exact HDk.out.size)
      have kp := hid (fun (q : Nat) (h1 : q < wC.heap.size) (h2 : q ≠ tb) => HDk.out.keep q h1 h2)
      have hcb : Hid (wr.heap[b0]? = some (.cells #[.int .i64 (n : Int), .int .i64 C, .int .i64 de, .int .i64 wi, .int .i64 pr, .slice (some ⟨db, dof, none⟩) rl dcap, ve, vl, .int .i64 qu] 26)) := hid (by have := hS.out.cf; rw [hrl.out] at this; exact (kp.out b0 (lt_of_block this) hS.out.d0.1).trans this)
      have hdn := hid ((kp.out b2 (lt_of_block hS.out.dn) hS.out.d0.2.1).trans hS.out.dn)
      have hre := hid ((kp.out rb (lt_of_block hS.out.res) hS.out.d0.2.2.1).trans hS.out.res)
      have hth := hid ((kp.out hb (lt_of_block hS.out.the) hS.out.d0.2.2.2.1).trans hS.out.the)
      obtain ⟨q0, q1, q2⟩ := hS.out.clk k hlt
      have hlb := kp.out lb hS.out.lbs hS.out.d0.2.2.2.2.1
      have hsgb := kp.out sg hS.out.sgs hS.out.d0.2.2.2.2.2
      have hq0 := hid ((World.cell?_of_block (w := wC) (a := ⟨lb, off + k * 3, none⟩) hlb).trans q0)
      have hq1 := hid ((World.cell?_of_block (w := wC) (a := ⟨lb, off + k * 3 + 1, none⟩) hlb).trans q1)
      have hq2 := hid ((World.cell?_of_block (w := wC) (a := ⟨lb, off + k * 3 + 2, none⟩) hlb).trans q2)
      have hsn := hid ((World.cell?_of_block (w := wC) (a := ⟨sg, k, none⟩) hsgb).trans (hS.out.snt k hlt))
      have hblC : Hid (Below tb wC wr) := hid ⟨HDk.out.os, HDk.out.tape, HDk.out.output, HDk.out.size, fun q hq => kp.out q (by have := HDk.out.tl; omega) (by omega)⟩
      have htbs : Hid (tb < wC.heap.size) := hid HDk.out.tl
      have hnk := hid (show nthC R.l k = nthC R.l k from rfl)
      obtain ⟨kk, hkk⟩ : ∃ kk, Hid (nthC R.l k = kk) := ⟨_, hid rfl⟩
      rw [hkk.out] at hko
      rw [hkk.out] at hq0 hq1 hq2
      obtain ⟨m, ba, r⟩ := kk
      dsimp only at hq0 hq1 hq2
      clear hlb hsgb q0 q1 q2 hnk
      go_wp2_with fail
      obtain ⟨wo, hwo⟩ : ∃ wo : World, wo = wr := ⟨_, rfl⟩
      subst hwo
      go_loopw [21, 22] (fun x i wx => ∃ (sw : Nat), sw ≤ 2 ∧ i = .int .i64 sw ∧ Hid (KH wx s3 x R.p E cy (R.frTo k sw)) ∧ Hid (Below s3 wo wx)) (fun _ i _ => 2 - (intOf i).toNat)
      case atStart => exact ⟨0, by omega, rfl, hid (World.ownsRow_nil _ _ _ _), hid (Below.refl _ _)⟩
      case round =>
        obtain ⟨sw, hsw, rfl, HKx, HBx⟩ := hrel
        have HDx := hid (DL.below HDk.out (W' := wr) (by rw [hs3.out]; exact HBx.out))
        by_cases hs2 : sw < 2
        · have h01 : sw = 0 ∨ sw = 1 := by omega
          have t0 : wr.cell? ⟨tb, 0, none⟩ = some (.slice (some ⟨sg, 0, none⟩) n scap) := hcell HDx.out.told 0 _ rfl
          have hsx := (HBx.out.cell (p := ⟨sg, k, none⟩) (by have := hS.out.sgs; have := hcs.out; show sg < s3; omega)).trans hsn.out
          have hthx := hid ((HBx.out.block hb (by have := lt_of_block hS.out.the; have := hcs.out; omega)).trans hth.out)
          have hdnx := hid ((HBx.out.block b2 (by have := lt_of_block hS.out.dn; have := hcs.out; omega)).trans hdn.out)
          rcases h01 with rfl | rfl
          · have HBB := hid (hbb0.out)
            by_cases hsnn : 0 ≤ R.sent k
            · have hs0 : decide (0 ≤ R.sent k) = true := decide_eq_true hsnn
              have t1 := hcell hthx.out 0 _ rfl
              have t2 := hcell hdnx.out 0 _ rfl
              cases hbv : bb0
              · rw [hbv] at t1
                have hon := hid (Rd.off_crew (k := k) (sw := 0) (R := R) (by
                  have h9 := HBB.out
                  rw [hbv] at h9
                  by_cases e : R.crew 0 = 0
                  · exact e
                  · exact absurd (h9.2 e) (by simp)))
                clear hbv HBB
                go_wp2_with fail
                go_roundw
                case rel => exact ⟨0 + 1, by omega, by go_num, hid (by rw [hon.out]; exact HKx.out), HBx⟩
                case measure => simp [intOf]
              · rw [hbv] at t1
                have hk00 : R.crew 0 ≠ 0 := by have h9 := HBB.out; rw [hbv] at h9; exact h9.1 rfl
                obtain ⟨v3, hv3⟩ : ∃ v, Hid (hasN (R.down 0) k = v) := ⟨_, hid rfl⟩
                have hhas : Hid (∀ w', Calls Tryz.prog 43 #[.int .u32 e0, .int .i64 (k : Int)] w' fun e w2 => e = .returned (.bool v3) ∧ w' = w2) := hid (fun w' => by
                  rw [← hv3.out, ← he0.out]
                  exact rhas_at R.w0 k (hid hR.w0) (by have := hR.len.1; rw [hn.out] at this; omega) w')
                clear hbv HBB
                cases v3
                · obtain ⟨dz, hdz⟩ : ∃ z, Hid (nth (nthR R.d.rows k) 0 = z) := ⟨_, hid rfl⟩
                  have hrow := hR.row hkl (show 0 < 2 by omega)
                  have hkrl : k < rl := by omega
                  obtain ⟨db2, dof2, dcap2, hdc2, hrc1, hrc2, hdl⟩ := HRows.out wr (hblC.out.trans (bel_narrow HBx.out (by have := htbs.out; have := hcs.out; omega))) k hkrl 0 (by rw [hrow.2.1]; omega)
                  rw [hrow.2.1] at hdc2 hrc1
                  rw [hdz.out] at hrc2
                  have hdc3 : 0 < dcap2 := by omega
                  have hkrl2 : (k : Int) < (rl : Int) := by omega
                  have hkd : k < dcap := by omega
                  have hcall : Hid (∀ W : World, KH W s3 u21 R.p E cy (R.frTo k 0) → s3 ≤ W.heap.size → Calls Tryz.prog 44 #[.agg #[.int .i64 (n : Int), .int .i64 C, .int .i64 de, .int .i64 wi, .int .i64 pr, .slice (some ⟨db, dof, none⟩) rl dcap, ve, vl, .int .i64 qu], .int .i64 cy, .agg #[.int .i64 m, .int .i64 ba, .int .i64 r], u21, .agg #[.int .i64 p0, .int .u32 (k0 : Int), .int .i64 y0], .int .i64 dz, .int .i64 0] W fun e w' => ∃ v', e = .returned v' ∧ Hid (KH w' s3 v' R.p E cy (R.frTo k (0 + 1))) ∧ Hid (Below s3 W w')) := hid (fun W hK hB => by
                    have h9 := rhear_rd hR hs hcf.out hcy.out hkl (show 0 < 2 by omega) hsnn hcr0.out (by rw [← hcr0.out]; exact hk00) hv3.out hp0.out hy0.out hdz.out s3 (.slice (some ⟨db, dof, none⟩) rl dcap) ve vl u21 W (by rw [hEe.out]; exact hK) hB
                    rw [hkk.out, hEe.out] at h9
                    exact h9)
                  have hcbx := hid ((HBx.out.block b0 (by have := lt_of_block hS.out.cf; have := hcs.out; omega)).trans hcb.out)
                  have hrex := hid ((HBx.out.block rb (by have := lt_of_block hS.out.res; have := hcs.out; omega)).trans hre.out)
                  have hqx0 := (HBx.out.cell (p := ⟨lb, off + k * 3, none⟩) (by have := hS.out.lbs; have := hcs.out; show lb < s3; omega)).trans hq0.out
                  have hqx1 := (HBx.out.cell (p := ⟨lb, off + k * 3 + 1, none⟩) (by have := hS.out.lbs; have := hcs.out; show lb < s3; omega)).trans hq1.out
                  have hqx2 := (HBx.out.cell (p := ⟨lb, off + k * 3 + 2, none⟩) (by have := hS.out.lbs; have := hcs.out; show lb < s3; omega)).trans hq2.out
                  have hszx : Hid (s3 ≤ wr.heap.size) := hid (by have h9 := HBx.out.size; rw [hs3.out] at h9; exact h9)
                  clear hk00 hrow
                  go_wp2_with fail
                  refine (hhas.out _).mono ?_
                  rintro e w2 ⟨rfl, rfl⟩
                  go_wp2_with fail
                  have HS0 : Hid ((fun w' : World => w'.cell? ⟨b0, 0, none⟩ = some (.int .i64 (n : Int)) ∧ w'.cell? ⟨b0, 1, none⟩ = some (.int .i64 C) ∧ w'.cell? ⟨b0, 2, none⟩ = some (.int .i64 de) ∧ w'.cell? ⟨b0, 3, none⟩ = some (.int .i64 wi) ∧ w'.cell? ⟨b0, 4, none⟩ = some (.int .i64 pr) ∧ w'.cell? ⟨b0, 5, none⟩ = some (.slice (some ⟨db, dof, none⟩) rl dcap) ∧ w'.cell? ⟨b0, 6, none⟩ = some ve ∧ w'.cell? ⟨b0, 7, none⟩ = some vl ∧ w'.cell? ⟨b0, 8, none⟩ = some (.int .i64 qu) ∧ w'.cell? ⟨lb, off + k * 3, none⟩ = some (.int .i64 m) ∧ w'.cell? ⟨lb, off + k * 3 + 1, none⟩ = some (.int .i64 ba) ∧ w'.cell? ⟨lb, off + k * 3 + 2, none⟩ = some (.int .i64 r) ∧ w'.cell? ⟨rb, 0, none⟩ = some (.int .i64 p0) ∧ w'.cell? ⟨rb, 1, none⟩ = some (.int .u32 (k0 : Int)) ∧ w'.cell? ⟨rb, 2, none⟩ = some (.int .i64 y0) ∧ w'.cell? ⟨db, dof + k, none⟩ = some (.slice (some ⟨db2, dof2, none⟩) 2 dcap2) ∧ w'.cell? ⟨db2, dof2, none⟩ = some (.int .i64 dz)) wr) := hid ⟨hcell hcbx.out 0 _ rfl, hcell hcbx.out 1 _ rfl, hcell hcbx.out 2 _ rfl, hcell hcbx.out 3 _ rfl, hcell hcbx.out 4 _ rfl, hcell hcbx.out 5 _ rfl, hcell hcbx.out 6 _ rfl, hcell hcbx.out 7 _ rfl, hcell hcbx.out 8 _ rfl, hqx0, hqx1, hqx2, hcell hrex.out 0 _ rfl, hcell hrex.out 1 _ rfl, hcell hrex.out 2 _ rfl, hrc1, hrc2⟩
                  have HSb := hid (fun (W : World) (hB : Below s3 wr W) => (HBx.out.trans hB))
                  have hS5 : Hid (∀ W : World, Below s3 wr W → (fun w' : World => w'.cell? ⟨b0, 0, none⟩ = some (.int .i64 (n : Int)) ∧ w'.cell? ⟨b0, 1, none⟩ = some (.int .i64 C) ∧ w'.cell? ⟨b0, 2, none⟩ = some (.int .i64 de) ∧ w'.cell? ⟨b0, 3, none⟩ = some (.int .i64 wi) ∧ w'.cell? ⟨b0, 4, none⟩ = some (.int .i64 pr) ∧ w'.cell? ⟨b0, 5, none⟩ = some (.slice (some ⟨db, dof, none⟩) rl dcap) ∧ w'.cell? ⟨b0, 6, none⟩ = some ve ∧ w'.cell? ⟨b0, 7, none⟩ = some vl ∧ w'.cell? ⟨b0, 8, none⟩ = some (.int .i64 qu) ∧ w'.cell? ⟨lb, off + k * 3, none⟩ = some (.int .i64 m) ∧ w'.cell? ⟨lb, off + k * 3 + 1, none⟩ = some (.int .i64 ba) ∧ w'.cell? ⟨lb, off + k * 3 + 2, none⟩ = some (.int .i64 r) ∧ w'.cell? ⟨rb, 0, none⟩ = some (.int .i64 p0) ∧ w'.cell? ⟨rb, 1, none⟩ = some (.int .u32 (k0 : Int)) ∧ w'.cell? ⟨rb, 2, none⟩ = some (.int .i64 y0) ∧ w'.cell? ⟨db, dof + k, none⟩ = some (.slice (some ⟨db2, dof2, none⟩) 2 dcap2) ∧ w'.cell? ⟨db2, dof2, none⟩ = some (.int .i64 dz)) W) := hid (fun W hB => by
                    obtain ⟨s0, s1, s2, s3', s4, s5, s6, s7, s8, s9, s10, s11, s12, s13, s14, s15, s16⟩ := HS0.out
                    have hb0s : b0 < s3 := by have := lt_of_block hS.out.cf; have := hcs.out; omega
                    have hrbs : rb < s3 := by have := lt_of_block hS.out.res; have := hcs.out; omega
                    have htbs3 : tb < s3 := by have := htbs.out; have := hcs.out; omega
                    have hlbs : lb < s3 := by have := hS.out.lbs; have := hcs.out; omega
                    exact ⟨(hB.cell (p := ⟨b0, 0, none⟩) hb0s).trans s0, (hB.cell (p := ⟨b0, 1, none⟩) hb0s).trans s1, (hB.cell (p := ⟨b0, 2, none⟩) hb0s).trans s2, (hB.cell (p := ⟨b0, 3, none⟩) hb0s).trans s3', (hB.cell (p := ⟨b0, 4, none⟩) hb0s).trans s4, (hB.cell (p := ⟨b0, 5, none⟩) hb0s).trans s5, (hB.cell (p := ⟨b0, 6, none⟩) hb0s).trans s6, (hB.cell (p := ⟨b0, 7, none⟩) hb0s).trans s7, (hB.cell (p := ⟨b0, 8, none⟩) hb0s).trans s8, (hB.cell (p := ⟨lb, off + k * 3, none⟩) hlbs).trans s9, (hB.cell (p := ⟨lb, off + k * 3 + 1, none⟩) hlbs).trans s10, (hB.cell (p := ⟨lb, off + k * 3 + 2, none⟩) hlbs).trans s11, (hB.cell (p := ⟨rb, 0, none⟩) hrbs).trans s12, (hB.cell (p := ⟨rb, 1, none⟩) hrbs).trans s13, (hB.cell (p := ⟨rb, 2, none⟩) hrbs).trans s14, (hB.cell (p := ⟨db, dof + k, none⟩) (by have := hdl.1; show db < s3; omega)).trans s15, (hB.cell (p := ⟨db2, dof2, none⟩) (by have := hdl.2; show db2 < s3; omega)).trans s16⟩)
                  have HS1 := HS0.out
                  obtain ⟨j0, j1, j2, j3, j4, j5, j6, j7, j8, j9, j10, j11, j12, j13, j14, j15, j16⟩ := HS1
                  apply wp_behindW (fun v W => Hid (KH W s3 v R.p E cy (R.frTo k (0 + 1))) ∧ Hid (Below s3 wr W))
                  case h =>
                    go_region_held3 (fun w' => w'.cell? ⟨b0, 0, none⟩ = some (.int .i64 (n : Int)) ∧ w'.cell? ⟨b0, 1, none⟩ = some (.int .i64 C) ∧ w'.cell? ⟨b0, 2, none⟩ = some (.int .i64 de) ∧ w'.cell? ⟨b0, 3, none⟩ = some (.int .i64 wi) ∧ w'.cell? ⟨b0, 4, none⟩ = some (.int .i64 pr) ∧ w'.cell? ⟨b0, 5, none⟩ = some (.slice (some ⟨db, dof, none⟩) rl dcap) ∧ w'.cell? ⟨b0, 6, none⟩ = some ve ∧ w'.cell? ⟨b0, 7, none⟩ = some vl ∧ w'.cell? ⟨b0, 8, none⟩ = some (.int .i64 qu) ∧ w'.cell? ⟨lb, off + k * 3, none⟩ = some (.int .i64 m) ∧ w'.cell? ⟨lb, off + k * 3 + 1, none⟩ = some (.int .i64 ba) ∧ w'.cell? ⟨lb, off + k * 3 + 2, none⟩ = some (.int .i64 r) ∧ w'.cell? ⟨rb, 0, none⟩ = some (.int .i64 p0) ∧ w'.cell? ⟨rb, 1, none⟩ = some (.int .u32 (k0 : Int)) ∧ w'.cell? ⟨rb, 2, none⟩ = some (.int .i64 y0) ∧ w'.cell? ⟨db, dof + k, none⟩ = some (.slice (some ⟨db2, dof2, none⟩) 2 dcap2) ∧ w'.cell? ⟨db2, dof2, none⟩ = some (.int .i64 dz)) (first | go_keep | exact S5 | fail)
                      (first | (go_at_call 44; refine (hcall.out wr.drew (HKx.out.grown (gr_drew (gr_refl wr none))) hszx.out).mono ?_; rintro e w5 ⟨v5, rfl, hK5, hB5⟩; have HK5 := hid hK5.out; have HB5 := hid ((Below.refl s3 wr).drew.trans hB5.out); have S5 := hS5.out w5 HB5.out; clear hK5 hB5))
                    all_goals exact ⟨v5, rfl, HK5, HB5⟩
                  case k =>
                    intro v5 w5 hS55
                    obtain ⟨HK5, HB5⟩ := hS55
                    have HB6 := hid (HBx.out.trans HB5.out)
                    clear j0 j1 j2 j3 j4 j5 j6 j7 j8 j9 j10 j11 j12 j13 j14 j15 j16 hrc1 hrc2 hqx0 hqx1 hqx2
                    go_wp2_with fail
                    go_roundw
                    case rel => exact ⟨0 + 1, by omega, by go_num, HK5, HB6⟩
                    case measure => simp [intOf]
                · have hon := hid (Rd.off_lost (R := R) (k := k) (sw := 0) hv3.out)
                  clear hk00
                  go_wp2_with fail
                  refine (hhas.out _).mono ?_
                  rintro e w2 ⟨rfl, rfl⟩
                  go_wp2_with fail
                  go_roundw
                  case rel => exact ⟨0 + 1, by omega, by go_num, hid (by rw [hon.out]; exact HKx.out), HBx⟩
                  case measure => simp [intOf]
            · have hon := hid (Rd.off_sent (sw := 0) hsnn)
              have hs0 : decide (0 ≤ R.sent k) = false := decide_eq_false hsnn
              go_wp2_with fail
              go_roundw
              case rel => exact ⟨0 + 1, by omega, by go_num, hid (by rw [hon.out]; exact HKx.out), HBx⟩
              case measure => simp [intOf]
          · have HBB := hid (hbb1.out)
            by_cases hsnn : 0 ≤ R.sent k
            · have hs0 : decide (0 ≤ R.sent k) = true := decide_eq_true hsnn
              have t1 := hcell hthx.out 1 _ rfl
              have t2 := hcell hdnx.out 1 _ rfl
              cases hbv : bb1
              · rw [hbv] at t1
                have hon := hid (Rd.off_crew (k := k) (sw := 1) (R := R) (by
                  have h9 := HBB.out
                  rw [hbv] at h9
                  by_cases e : R.crew 1 = 0
                  · exact e
                  · exact absurd (h9.2 e) (by simp)))
                clear hbv HBB
                go_wp2_with fail
                go_roundw
                case rel => exact ⟨1 + 1, by omega, by go_num, hid (by rw [hon.out]; exact HKx.out), HBx⟩
                case measure => simp [intOf]
              · rw [hbv] at t1
                have hk00 : R.crew 1 ≠ 0 := by have h9 := HBB.out; rw [hbv] at h9; exact h9.1 rfl
                obtain ⟨v3, hv3⟩ : ∃ v, Hid (hasN (R.down 1) k = v) := ⟨_, hid rfl⟩
                have hhas : Hid (∀ w', Calls Tryz.prog 43 #[.int .u32 e1, .int .i64 (k : Int)] w' fun e w2 => e = .returned (.bool v3) ∧ w' = w2) := hid (fun w' => by
                  rw [← hv3.out, ← he1.out]
                  exact rhas_at R.w1 k (hid hR.w1) (by have := hR.len.1; rw [hn.out] at this; omega) w')
                clear hbv HBB
                cases v3
                · obtain ⟨dz, hdz⟩ : ∃ z, Hid (nth (nthR R.d.rows k) 1 = z) := ⟨_, hid rfl⟩
                  have hrow := hR.row hkl (show 1 < 2 by omega)
                  have hkrl : k < rl := by omega
                  obtain ⟨db2, dof2, dcap2, hdc2, hrc1, hrc2, hdl⟩ := HRows.out wr (hblC.out.trans (bel_narrow HBx.out (by have := htbs.out; have := hcs.out; omega))) k hkrl 1 (by rw [hrow.2.1]; omega)
                  rw [hrow.2.1] at hdc2 hrc1
                  rw [hdz.out] at hrc2
                  have hdc3 : 1 < dcap2 := by omega
                  have hkrl2 : (k : Int) < (rl : Int) := by omega
                  have hkd : k < dcap := by omega
                  have hcall : Hid (∀ W : World, KH W s3 u21 R.p E cy (R.frTo k 1) → s3 ≤ W.heap.size → Calls Tryz.prog 44 #[.agg #[.int .i64 (n : Int), .int .i64 C, .int .i64 de, .int .i64 wi, .int .i64 pr, .slice (some ⟨db, dof, none⟩) rl dcap, ve, vl, .int .i64 qu], .int .i64 cy, .agg #[.int .i64 m, .int .i64 ba, .int .i64 r], u21, .agg #[.int .i64 p1, .int .u32 (k1 : Int), .int .i64 y1], .int .i64 dz, .int .i64 1] W fun e w' => ∃ v', e = .returned v' ∧ Hid (KH w' s3 v' R.p E cy (R.frTo k (1 + 1))) ∧ Hid (Below s3 W w')) := hid (fun W hK hB => by
                    have h9 := rhear_rd hR hs hcf.out hcy.out hkl (show 1 < 2 by omega) hsnn hcr1.out (by rw [← hcr1.out]; exact hk00) hv3.out hp1.out hy1.out hdz.out s3 (.slice (some ⟨db, dof, none⟩) rl dcap) ve vl u21 W (by rw [hEe.out]; exact hK) hB
                    rw [hkk.out, hEe.out] at h9
                    exact h9)
                  have hcbx := hid ((HBx.out.block b0 (by have := lt_of_block hS.out.cf; have := hcs.out; omega)).trans hcb.out)
                  have hrex := hid ((HBx.out.block rb (by have := lt_of_block hS.out.res; have := hcs.out; omega)).trans hre.out)
                  have hqx0 := (HBx.out.cell (p := ⟨lb, off + k * 3, none⟩) (by have := hS.out.lbs; have := hcs.out; show lb < s3; omega)).trans hq0.out
                  have hqx1 := (HBx.out.cell (p := ⟨lb, off + k * 3 + 1, none⟩) (by have := hS.out.lbs; have := hcs.out; show lb < s3; omega)).trans hq1.out
                  have hqx2 := (HBx.out.cell (p := ⟨lb, off + k * 3 + 2, none⟩) (by have := hS.out.lbs; have := hcs.out; show lb < s3; omega)).trans hq2.out
                  have hszx : Hid (s3 ≤ wr.heap.size) := hid (by have h9 := HBx.out.size; rw [hs3.out] at h9; exact h9)
                  clear hk00 hrow
                  go_wp2_with fail
                  refine (hhas.out _).mono ?_
                  rintro e w2 ⟨rfl, rfl⟩
                  go_wp2_with fail
                  have HS0 : Hid ((fun w' : World => w'.cell? ⟨b0, 0, none⟩ = some (.int .i64 (n : Int)) ∧ w'.cell? ⟨b0, 1, none⟩ = some (.int .i64 C) ∧ w'.cell? ⟨b0, 2, none⟩ = some (.int .i64 de) ∧ w'.cell? ⟨b0, 3, none⟩ = some (.int .i64 wi) ∧ w'.cell? ⟨b0, 4, none⟩ = some (.int .i64 pr) ∧ w'.cell? ⟨b0, 5, none⟩ = some (.slice (some ⟨db, dof, none⟩) rl dcap) ∧ w'.cell? ⟨b0, 6, none⟩ = some ve ∧ w'.cell? ⟨b0, 7, none⟩ = some vl ∧ w'.cell? ⟨b0, 8, none⟩ = some (.int .i64 qu) ∧ w'.cell? ⟨lb, off + k * 3, none⟩ = some (.int .i64 m) ∧ w'.cell? ⟨lb, off + k * 3 + 1, none⟩ = some (.int .i64 ba) ∧ w'.cell? ⟨lb, off + k * 3 + 2, none⟩ = some (.int .i64 r) ∧ w'.cell? ⟨rb, 3, none⟩ = some (.int .i64 p1) ∧ w'.cell? ⟨rb, 4, none⟩ = some (.int .u32 (k1 : Int)) ∧ w'.cell? ⟨rb, 5, none⟩ = some (.int .i64 y1) ∧ w'.cell? ⟨db, dof + k, none⟩ = some (.slice (some ⟨db2, dof2, none⟩) 2 dcap2) ∧ w'.cell? ⟨db2, dof2 + 1, none⟩ = some (.int .i64 dz)) wr) := hid ⟨hcell hcbx.out 0 _ rfl, hcell hcbx.out 1 _ rfl, hcell hcbx.out 2 _ rfl, hcell hcbx.out 3 _ rfl, hcell hcbx.out 4 _ rfl, hcell hcbx.out 5 _ rfl, hcell hcbx.out 6 _ rfl, hcell hcbx.out 7 _ rfl, hcell hcbx.out 8 _ rfl, hqx0, hqx1, hqx2, hcell hrex.out 3 _ rfl, hcell hrex.out 4 _ rfl, hcell hrex.out 5 _ rfl, hrc1, hrc2⟩
                  have HSb := hid (fun (W : World) (hB : Below s3 wr W) => (HBx.out.trans hB))
                  have hS5 : Hid (∀ W : World, Below s3 wr W → (fun w' : World => w'.cell? ⟨b0, 0, none⟩ = some (.int .i64 (n : Int)) ∧ w'.cell? ⟨b0, 1, none⟩ = some (.int .i64 C) ∧ w'.cell? ⟨b0, 2, none⟩ = some (.int .i64 de) ∧ w'.cell? ⟨b0, 3, none⟩ = some (.int .i64 wi) ∧ w'.cell? ⟨b0, 4, none⟩ = some (.int .i64 pr) ∧ w'.cell? ⟨b0, 5, none⟩ = some (.slice (some ⟨db, dof, none⟩) rl dcap) ∧ w'.cell? ⟨b0, 6, none⟩ = some ve ∧ w'.cell? ⟨b0, 7, none⟩ = some vl ∧ w'.cell? ⟨b0, 8, none⟩ = some (.int .i64 qu) ∧ w'.cell? ⟨lb, off + k * 3, none⟩ = some (.int .i64 m) ∧ w'.cell? ⟨lb, off + k * 3 + 1, none⟩ = some (.int .i64 ba) ∧ w'.cell? ⟨lb, off + k * 3 + 2, none⟩ = some (.int .i64 r) ∧ w'.cell? ⟨rb, 3, none⟩ = some (.int .i64 p1) ∧ w'.cell? ⟨rb, 4, none⟩ = some (.int .u32 (k1 : Int)) ∧ w'.cell? ⟨rb, 5, none⟩ = some (.int .i64 y1) ∧ w'.cell? ⟨db, dof + k, none⟩ = some (.slice (some ⟨db2, dof2, none⟩) 2 dcap2) ∧ w'.cell? ⟨db2, dof2 + 1, none⟩ = some (.int .i64 dz)) W) := hid (fun W hB => by
                    obtain ⟨s0, s1, s2, s3', s4, s5, s6, s7, s8, s9, s10, s11, s12, s13, s14, s15, s16⟩ := HS0.out
                    have hb0s : b0 < s3 := by have := lt_of_block hS.out.cf; have := hcs.out; omega
                    have hrbs : rb < s3 := by have := lt_of_block hS.out.res; have := hcs.out; omega
                    have htbs3 : tb < s3 := by have := htbs.out; have := hcs.out; omega
                    have hlbs : lb < s3 := by have := hS.out.lbs; have := hcs.out; omega
                    exact ⟨(hB.cell (p := ⟨b0, 0, none⟩) hb0s).trans s0, (hB.cell (p := ⟨b0, 1, none⟩) hb0s).trans s1, (hB.cell (p := ⟨b0, 2, none⟩) hb0s).trans s2, (hB.cell (p := ⟨b0, 3, none⟩) hb0s).trans s3', (hB.cell (p := ⟨b0, 4, none⟩) hb0s).trans s4, (hB.cell (p := ⟨b0, 5, none⟩) hb0s).trans s5, (hB.cell (p := ⟨b0, 6, none⟩) hb0s).trans s6, (hB.cell (p := ⟨b0, 7, none⟩) hb0s).trans s7, (hB.cell (p := ⟨b0, 8, none⟩) hb0s).trans s8, (hB.cell (p := ⟨lb, off + k * 3, none⟩) hlbs).trans s9, (hB.cell (p := ⟨lb, off + k * 3 + 1, none⟩) hlbs).trans s10, (hB.cell (p := ⟨lb, off + k * 3 + 2, none⟩) hlbs).trans s11, (hB.cell (p := ⟨rb, 3, none⟩) hrbs).trans s12, (hB.cell (p := ⟨rb, 4, none⟩) hrbs).trans s13, (hB.cell (p := ⟨rb, 5, none⟩) hrbs).trans s14, (hB.cell (p := ⟨db, dof + k, none⟩) (by have := hdl.1; show db < s3; omega)).trans s15, (hB.cell (p := ⟨db2, dof2 + 1, none⟩) (by have := hdl.2; show db2 < s3; omega)).trans s16⟩)
                  have HS1 := HS0.out
                  obtain ⟨j0, j1, j2, j3, j4, j5, j6, j7, j8, j9, j10, j11, j12, j13, j14, j15, j16⟩ := HS1
                  apply wp_behindW (fun v W => Hid (KH W s3 v R.p E cy (R.frTo k (1 + 1))) ∧ Hid (Below s3 wr W))
                  case h =>
                    go_region_held3 (fun w' => w'.cell? ⟨b0, 0, none⟩ = some (.int .i64 (n : Int)) ∧ w'.cell? ⟨b0, 1, none⟩ = some (.int .i64 C) ∧ w'.cell? ⟨b0, 2, none⟩ = some (.int .i64 de) ∧ w'.cell? ⟨b0, 3, none⟩ = some (.int .i64 wi) ∧ w'.cell? ⟨b0, 4, none⟩ = some (.int .i64 pr) ∧ w'.cell? ⟨b0, 5, none⟩ = some (.slice (some ⟨db, dof, none⟩) rl dcap) ∧ w'.cell? ⟨b0, 6, none⟩ = some ve ∧ w'.cell? ⟨b0, 7, none⟩ = some vl ∧ w'.cell? ⟨b0, 8, none⟩ = some (.int .i64 qu) ∧ w'.cell? ⟨lb, off + k * 3, none⟩ = some (.int .i64 m) ∧ w'.cell? ⟨lb, off + k * 3 + 1, none⟩ = some (.int .i64 ba) ∧ w'.cell? ⟨lb, off + k * 3 + 2, none⟩ = some (.int .i64 r) ∧ w'.cell? ⟨rb, 3, none⟩ = some (.int .i64 p1) ∧ w'.cell? ⟨rb, 4, none⟩ = some (.int .u32 (k1 : Int)) ∧ w'.cell? ⟨rb, 5, none⟩ = some (.int .i64 y1) ∧ w'.cell? ⟨db, dof + k, none⟩ = some (.slice (some ⟨db2, dof2, none⟩) 2 dcap2) ∧ w'.cell? ⟨db2, dof2 + 1, none⟩ = some (.int .i64 dz)) (first | go_keep | exact S5 | fail)
                      (first | (go_at_call 44; refine (hcall.out wr.drew (HKx.out.grown (gr_drew (gr_refl wr none))) hszx.out).mono ?_; rintro e w5 ⟨v5, rfl, hK5, hB5⟩; have HK5 := hid hK5.out; have HB5 := hid ((Below.refl s3 wr).drew.trans hB5.out); have S5 := hS5.out w5 HB5.out; clear hK5 hB5))
                    all_goals exact ⟨v5, rfl, HK5, HB5⟩
                  case k =>
                    intro v5 w5 hS55
                    obtain ⟨HK5, HB5⟩ := hS55
                    have HB6 := hid (HBx.out.trans HB5.out)
                    clear j0 j1 j2 j3 j4 j5 j6 j7 j8 j9 j10 j11 j12 j13 j14 j15 j16 hrc1 hrc2 hqx0 hqx1 hqx2
                    go_wp2_with fail
                    go_roundw
                    case rel => exact ⟨1 + 1, by omega, by go_num, HK5, HB6⟩
                    case measure => simp [intOf]
                · have hon := hid (Rd.off_lost (R := R) (k := k) (sw := 1) hv3.out)
                  clear hk00
                  go_wp2_with fail
                  refine (hhas.out _).mono ?_
                  rintro e w2 ⟨rfl, rfl⟩
                  go_wp2_with fail
                  go_roundw
                  case rel => exact ⟨1 + 1, by omega, by go_num, hid (by rw [hon.out]; exact HKx.out), HBx⟩
                  case measure => simp [intOf]
            · have hon := hid (Rd.off_sent (sw := 1) hsnn)
              have hs0 : decide (0 ≤ R.sent k) = false := decide_eq_false hsnn
              go_wp2_with fail
              go_roundw
              case rel => exact ⟨1 + 1, by omega, by go_num, hid (by rw [hon.out]; exact HKx.out), HBx⟩
              case measure => simp [intOf]

        · obtain rfl : sw = 2 := by omega
          clear hs2
          obtain ⟨by1, hby⟩ : ∃ z, Hid (R.by_ k = z) := ⟨_, hid rfl⟩
          obtain ⟨hd1, hhd⟩ : ∃ z : Int, Hid ((R.hrd k : Int) = z) := ⟨_, hid rfl⟩
          obtain ⟨cc, hcc⟩ : ∃ z, Hid ((bestH (R.frTo k 2)).cr = z) := ⟨_, hid rfl⟩
          have hbyb := hR.by_ hs k
          rw [hby.out, hAe.out] at hbyb
          obtain ⟨hbyb0, hbyb1⟩ := hbyb
          have hhd0 : Hid (0 ≤ hd1) := hid (by rw [← hhd.out]; omega)
          have hcl : Hid (Calls Tryz.prog 45 #[u21, cfV ⟨(n : Int), C, de, wi, pr, qu⟩ (.slice (some ⟨db, dof, none⟩) rl dcap) ve vl] wr fun e w' => e = .returned (.tuple #[.int .i64 by1, .int .u32 (cc : Int), .int .i64 hd1]) ∧ wr.grownBy w' none) := hid (by
            have hfs := hR.frs hs k 2 (Nat.le_refl _)
            have h9 := rclose12_any ⟨(n : Int), C, de, wi, pr, qu⟩ (.slice (some ⟨db, dof, none⟩) rl dcap) ve vl u21 s3 cy p (R.frTo k 2) wr (by rw [hE.out, ← hpp.out]; exact HKx.out) hfs.1 hsp.out (hid hS.out.hcy) ⟨pb0, pb1⟩ (fun x hx => ⟨(hfs.2 x hx).1, by have := (hfs.2 x hx).2.2; rw [hAe.out] at this; omega⟩)
            rw [hcc.out, show (bestH (R.frTo k 2)).by_ = by1 from hby.out, show (((R.frTo k 2).length : Nat) : Int) = hd1 from hhd.out] at h9
            exact h9)
          have hcbx := hid ((HBx.out.block b0 (by have := lt_of_block hS.out.cf; have := hcs.out; omega)).trans hcb.out)
          have hqx0 := hid ((HBx.out.cell (p := ⟨lb, off + k * 3, none⟩) (by have := hS.out.lbs; have := hcs.out; show lb < s3; omega)).trans hq0.out)
          have hqx1 := hid ((HBx.out.cell (p := ⟨lb, off + k * 3 + 1, none⟩) (by have := hS.out.lbs; have := hcs.out; show lb < s3; omega)).trans hq1.out)
          have hqx2 := hid ((HBx.out.cell (p := ⟨lb, off + k * 3 + 2, none⟩) (by have := hS.out.lbs; have := hcs.out; show lb < s3; omega)).trans hq2.out)
          have m0 := hcell hcbx.out 0 _ rfl
          have m1 := hcell hcbx.out 1 _ rfl
          have m2 := hcell hcbx.out 2 _ rfl
          have m3 := hcell hcbx.out 3 _ rfl
          have m4 := hcell hcbx.out 4 _ rfl
          have m5 := hcell hcbx.out 5 _ rfl
          have m6 := hcell hcbx.out 6 _ rfl
          have m7 := hcell hcbx.out 7 _ rfl
          have m8 := hcell hcbx.out 8 _ rfl
          go_wp2_with fail
          refine hcl.out.mono ?_
          rintro e w2 ⟨rfl, g2⟩
          have HD2 := hid (DL.grown HDx.out g2)
          have hcb2 := hid (gr_heap g2 hcbx.out (by simp))
          have q0 := gr_cell g2 hqx0.out
          have q1 := gr_cell g2 hqx1.out
          have q2 := gr_cell g2 hqx2.out
          have hz2 := hid g2.size
          clear g2 m0 m1 m2 m3 m4 m5 m6 m7 m8 hcl
          have hbo : Hid ((∀ q, vb.ownBlock = some q → q ≠ w2.heap.size) ∧ (∀ q, vh.ownBlock = some q → q ≠ w2.heap.size) ∧ (∀ q, va.ownBlock = some q → q ≠ w2.heap.size)) := hid ⟨fun q hq => Nat.ne_of_lt ((HD2.out.row 1 (by omega)).lt q hq).2, fun q hq => Nat.ne_of_lt ((HD2.out.row 2 (by omega)).lt q hq).2, fun q hq => Nat.ne_of_lt ((HD2.out.row 3 (by omega)).lt q hq).2⟩
          have hbt : Hid (tb ≠ w2.heap.size) := hid (by have := HD2.out.tl; have := HD2.out.size; omega)
          by_cases hd0 : 0 < hd1
          · have hd2 : decide (0 < hd1) = true := decide_eq_true hd0
            have hset : Hid (R.aft k = setR ⟨m, ba, r⟩ (p + E + A + 1) by1) := hid (by
              unfold Rd.aft
              rw [if_pos (by have := hhd.out; omega), hkk.out, hby.out, hpp.out, hEe.out, hAe.out])
            go_wp2_with fail
            obtain ⟨w4, hw4⟩ : ∃ W, w2.alloc (.cells #[.int .i64 m, .int .i64 ba, .int .i64 r] 61) = W := ⟨_, rfl⟩
            have HD4' := hid (show DG 1 wC w4 tb R k0 k1 (.slice (some ⟨sg, 0, none⟩) n scap) vb vh va n k k k by rw [← hw4]; exact DL.grown HD2.out (gr_alloc (gr_refl w2 none) _))
            have HX4' := hid (show w4.heap[w2.heap.size]? = some (.cells #[.int .i64 m, .int .i64 ba, .int .i64 r] 61) by rw [← hw4]; exact heap_alloc_new w2 _)
            have hcb4 := hid (show w4.heap[b0]? = some (.cells #[.int .i64 (n : Int), .int .i64 C, .int .i64 de, .int .i64 wi, .int .i64 pr, .slice (some ⟨db, dof, none⟩) rl dcap, ve, vl, .int .i64 qu] 26) by rw [← hw4]; exact gr_heap (gr_alloc (gr_refl w2 none) _) hcb2.out (by simp))
            rw [hw4]
            clear hw4 q0 q1 q2 hd2 hd0
            have HW := hid (fun W : World => rwhen_any ⟨m, ba, r⟩ (p + E + A + 1) W hko.out)
            obtain ⟨X, hX⟩ : ∃ X, whenR ⟨m, ba, r⟩ (p + E + A + 1) = X := ⟨_, rfl⟩
            have hXw : Hid (X.2 = 0 → m ≤ X.1 ∧ X.1 ≤ 1125899906842624 ∧ nowB m X.1 = true) := hid (fun h0 => by
              rcases whenR_cases ⟨m, ba, r⟩ hko.out (p + E + A + 1) with ⟨t, ht, e⟩ | ⟨_, e⟩
              · rw [hX] at e
                rw [e]
                exact ⟨ht.lo, ht.hi, ht.now hko.out⟩
              · rw [hX] at e
                rw [e] at h0
                cases h0)
            unfold setR at hset
            rw [hX] at HW hset
            obtain ⟨x1, x2⟩ := X
            dsimp only [ckV] at HW hset hXw
            clear hX
            have n0 := grn_cell (hcell HX4'.out 0 _ rfl)
            have n1 := grn_cell (hcell HX4'.out 1 _ rfl)
            have n2 := grn_cell (hcell HX4'.out 2 _ rfl)
            have m0 := grn_cell (hcell hcb4.out 0 _ rfl)
            have m1 := grn_cell (hcell hcb4.out 1 _ rfl)
            have m2 := grn_cell (hcell hcb4.out 2 _ rfl)
            have m3 := grn_cell (hcell hcb4.out 3 _ rfl)
            have m4 := grn_cell (hcell hcb4.out 4 _ rfl)
            have m5 := grn_cell (hcell hcb4.out 5 _ rfl)
            have m6 := grn_cell (hcell hcb4.out 6 _ rfl)
            have m7 := grn_cell (hcell hcb4.out 7 _ rfl)
            have m8 := grn_cell (hcell hcb4.out 8 _ rfl)
            refine wp_region_grown (by kernel_rfl) (by kernel_rfl) ?_
            repeat (go_big_quiet_step (first
              | (go_at_call 46; refine (HOf.out _).mono ?_; rintro e w6 ⟨rfl, g6⟩; exact ⟨rfl, ⟨_, gr_trans (Grn.gr _) g6⟩, rfl⟩)
              | (go_at_call 13; refine (HAc.out _).mono ?_; rintro e w6 ⟨rfl, g6⟩; exact ⟨rfl, ⟨_, gr_trans (Grn.gr _) g6⟩, rfl⟩)
              | (go_at_call 41; refine (HW.out _).mono ?_; rintro e w6 ⟨rfl, g6⟩; exact ⟨rfl, ⟨_, gr_trans (Grn.gr _) g6⟩, rfl⟩)))
            refine wpQuiet_nil ?_
            rintro w5 ⟨X, hX5⟩
            have g5 : w4.grownBy w5 none := hX5 ▸ X.gr
            have HD4 := hid (DL.grown HD4'.out g5)
            have HX4 := hid (gr_heap g5 HX4'.out (by simp))
            clear hX5 X g5 n0 n1 n2 m0 m1 m2 m3 m4 m5 m6 m7 m8 HD4' HX4'
            by_cases hx : x2 = 0
            · subst hx
              obtain ⟨hx1, hx2, hx3⟩ := hXw.out (by simp)
              obtain ⟨z, hz⟩ : ∃ z, Hid (clockAt m ba r x1 = z) := ⟨_, hid rfl⟩
              have hzb := clockAt_bd hko.out hx1
              have hzb2 : -4611686018427387904 ≤ z ∧ z ≤ 4611686018427387904 := by
                have h8 := hz.out
                dsimp only at hzb
                rw [h8] at hzb
                omega
              obtain ⟨z0, z1⟩ := hzb2
              have wsz : IntKind.i64.wrap (z + by1) = z + by1 := IntWalk.i64_in _ (by omega)
              have HAt := hid (fun W : World => rat_ok m ba r x1 z W hko.out hx1 hx2 hz)
              obtain ⟨am, ab, ar, e9, haft, HSt⟩ : ∃ (am ab ar e9 : Int), Hid (R.aft k = ⟨am, ab, ar⟩) ∧ Hid (∀ W : World, Calls Tryz.prog 47 #[rclk m ba r, .int .i64 x1, .int .i64 (z + by1)] W fun e w' => e = .returned (.tuple #[.agg #[.int .i64 am, .int .i64 ab, .int .i64 ar], .int .i64 e9]) ∧ W.grownBy w' none) := by
                have hset' := hset.out
                rw [if_pos rfl, show (Ck.mk m ba r).at_ x1 = z from hz.out] at hset'
                by_cases hsh : shownB (z + by1) = true
                · rw [if_pos hsh] at hset'
                  exact ⟨x1, z + by1, r, 0, hid hset', hid (fun W => rset_ok m ba r x1 (z + by1) W hx3 hsh)⟩
                · rw [if_neg hsh] at hset'
                  exact ⟨m, ba, r, 1, hid hset', hid (fun W => rset_bad m ba r x1 (z + by1) W (by rw [Bool.eq_false_iff.2 hsh, Bool.and_false]))⟩
              clear hset hXw hx1 hx2 hx3 hzb z0 z1 HW
              go_wp2_with fail
              have n0 := hcell HX4.out 0 _ rfl
              have n1 := hcell HX4.out 1 _ rfl
              have n2 := hcell HX4.out 2 _ rfl
              apply wp_behind0 (fun W => Hid (DG 1 wC W tb R k0 k1 (.slice (some ⟨sg, 0, none⟩) n scap) vb vh va n k k k) ∧ Hid (W.heap[w2.heap.size]? = some (.cells #[.int .i64 am, .int .i64 ab, .int .i64 ar] 61)))
              case h =>
                go_region_with (first
                  | (go_at_call 48; refine (HAt.out _).mono ?_; rintro e w6 ⟨rfl, g6⟩; have HG6 := hid (gr_trans (gr_drew (gr_refl w5 none)) g6); have n0 := gr_cell HG6.out n0; have n1 := gr_cell HG6.out n1; have n2 := gr_cell HG6.out n2; clear g6)
                  | (go_at_call 47; refine (HSt.out _).mono ?_; rintro e w7 ⟨rfl, g7⟩; have HG7 := hid (gr_trans HG6.out g7); have HX7 := hid (gr_heap HG7.out HX4.out (by simp)); have j0 := hcell HX7.out 0 _ rfl; have j1 := hcell HX7.out 1 _ rfl; have j2 := hcell HX7.out 2 _ rfl; have f0 := hfroz HX7.out 0; have f1 := hfroz HX7.out 1; have f2 := hfroz HX7.out 2; clear g7))
                all_goals try simp only [Act.put, List.getElem_toArray, List.getElem_cons_zero, List.getElem_cons_succ, List.setIfInBounds_toArray, List.set_cons_zero, List.set_cons_succ]
                all_goals exact ⟨rfl, hid (DL.set3o (DL.grown HD4.out HG7.out) (by have := HD2.out.size; omega) (fun j hj => dl_no hbo.out hj)), hid (set3h HX7.out)⟩
              case k =>
                intro w8 hS8
                obtain ⟨HD4, HX4⟩ := hS8
                clear n0 n1 n2
                have t3 : w8.cell? ⟨tb, 3, none⟩ = some vb := hcell HD4.out.told 3 _ rfl
                go_wp2_with (first
                  | (at_builtin; refine wpList_append_own_at _ rfl (.tmp 174) (.tmp 176) 35 rfl wC.heap.size 2 i1 (.int .i64 0) 1 8 Tryz.underlying35 hi1 hy0' hy1' hy2' rfl (by decide) vb k _ rfl ((HD4.out.row 1 (by omega)).alloc _) ⟨w8.heap.size, 0, none⟩ 1 1 [.int .i64 by1] rfl rfl (cell_one_new' _ _ _) (by simp [Value.oneCell']) (by unfold maxLen; omega) (by omega) (by have := HD4.out.size; simp; omega) ?_; intro v6 w6 hown6 hg6 _ hat6; obtain ⟨g6, cap6, rfl⟩ := own_slice hown6; have hb6 := DL.at_ (i := 1) HD4.out (by omega) hg6; have y1 := hcell hb6 3 _ rfl; have y2 := hfroz hb6 3; have HD5 := hid (DG.push1 HD4.out (by rw [hby.out]; exact hown6) hg6 hat6); have u4 : (w6.setCell ⟨tb, 3, none⟩ (.slice (some ⟨g6, 0, none⟩) (k + 1) cap6)).cell? ⟨tb, 4, none⟩ = some vh := hcell HD5.out.told 4 _ rfl; have HX5 := hid ((setCell_heap (i := 3) (v := .slice (some ⟨g6, 0, none⟩) (k + 1) cap6) hbt.out).trans (gr_heap hg6 (gr_heap (gr_alloc (gr_refl w8 none) _) HX4.out (by simp)) (fun e => hbo.out.1 _ e.symm rfl))); clear hown6 hg6 hat6 hb6)
                  | (at_builtin; refine wpList_append_own_at _ rfl (.tmp 180) (.tmp 182) 36 rfl wC.heap.size 3 i2 (.int .i64 0) 1 8 Tryz.underlying36 hi2 hx0' hx1' hx2' rfl (by decide) vh k _ rfl ((HD5.out.row 2 (by omega)).alloc _) ⟨w6.heap.size, 0, none⟩ 1 1 [.int .i64 hd1] rfl rfl (cell_one_set _ _ _ _ _) (by simp [Value.oneCell']) (by unfold maxLen; omega) (by omega) (by have := HD5.out.size; simp; simp [World.setCell] at this; omega) ?_; intro v7 w7 hown7 hg7 _ hat7; obtain ⟨g7, cap7, rfl⟩ := own_slice hown7; have hb7 := DL.at_ (i := 2) HD5.out (by omega) hg7; have y3 := hcell hb7 4 _ rfl; have y4 := hfroz hb7 4; have HD6 := hid (DG.push2 HD5.out (by rw [hhd.out]; exact hown7) hg7 hat7); have u5 : (w7.setCell ⟨tb, 4, none⟩ (.slice (some ⟨g7, 0, none⟩) (k + 1) cap7)).cell? ⟨tb, 5, none⟩ = some va := hcell HD6.out.told 5 _ rfl; have HX6 := (setCell_heap (i := 4) (v := .slice (some ⟨g7, 0, none⟩) (k + 1) cap7) hbt.out).trans (gr_heap hg7 (gr_heap (gr_alloc (gr_refl _ none) _) HX5.out (by simp)) (fun e => hbo.out.2.1 _ e.symm rfl)); have c0 := hcell HX6 0 _ rfl; have c1 := hcell HX6 1 _ rfl; have c2 := hcell HX6 2 _ rfl; clear HX6 hown7 hg7 hat7 hb7)
                  | (at_builtin; refine wpList_append_own_at _ rfl (.tmp 186) (.tmp 188) 43 rfl wC.heap.size 61 i3 (.agg #[.int .i64 0, .int .i64 0, .int .i64 0]) 3 24 Tryz.underlying43 hi3 hw0' hw1' hw2' rfl (by decide) va k _ rfl ((HD6.out.row 3 (by omega)).alloc _) ⟨w7.heap.size, 0, none⟩ 1 1 [.int .i64 am, .int .i64 ab, .int .i64 ar] rfl rfl (cells3_set _ _ _ _ _ _ _) (by simp [Value.oneCell']) (by unfold maxLen; omega) (by omega) (by have := HD6.out.size; simp; simp [World.setCell] at this; omega) ?_; intro v8 w8 hown8 hg8 _ hat8; obtain ⟨g8, cap8, rfl⟩ := own_slice hown8; have hb8 := DL.at_ (i := 3) HD6.out (by omega) hg8; have y5 := hcell hb8 5 _ rfl; have y6 := hfroz hb8 5; have HD7 := hid (DG.push3 HD6.out (by rw [haft.out]; exact hown8) hg8 hat8); clear hown8 hg8 hat8 hb8))
                go_roundw
                case rel => exact ⟨k + 1, _, _, _, by omega, by go_num, HD7⟩
                case measure => simp [intOf]; omega
            · have hxb : (x2 == 0) = false := by simpa using hx
              have haft : Hid (R.aft k = ⟨m, ba, r⟩) := hid (by rw [hset.out, if_neg hx])
              clear hx hset
              have t3 : w5.cell? ⟨tb, 3, none⟩ = some vb := hcell HD4.out.told 3 _ rfl
              go_wp2_with (first
                | (at_builtin; refine wpList_append_own_at _ rfl (.tmp 174) (.tmp 176) 35 rfl wC.heap.size 2 i1 (.int .i64 0) 1 8 Tryz.underlying35 hi1 hy0' hy1' hy2' rfl (by decide) vb k _ rfl ((HD4.out.row 1 (by omega)).alloc _) ⟨w5.heap.size, 0, none⟩ 1 1 [.int .i64 by1] rfl rfl (cell_one_new' _ _ _) (by simp [Value.oneCell']) (by unfold maxLen; omega) (by omega) (by have := HD4.out.size; simp; omega) ?_; intro v6 w6 hown6 hg6 _ hat6; obtain ⟨g6, cap6, rfl⟩ := own_slice hown6; have hb6 := DL.at_ (i := 1) HD4.out (by omega) hg6; have y1 := hcell hb6 3 _ rfl; have y2 := hfroz hb6 3; have HD5 := hid (DG.push1 HD4.out (by rw [hby.out]; exact hown6) hg6 hat6); have u4 : (w6.setCell ⟨tb, 3, none⟩ (.slice (some ⟨g6, 0, none⟩) (k + 1) cap6)).cell? ⟨tb, 4, none⟩ = some vh := hcell HD5.out.told 4 _ rfl; have HX5 := hid ((setCell_heap (i := 3) (v := .slice (some ⟨g6, 0, none⟩) (k + 1) cap6) hbt.out).trans (gr_heap hg6 (gr_heap (gr_alloc (gr_refl w5 none) _) HX4.out (by simp)) (fun e => hbo.out.1 _ e.symm rfl))); clear hown6 hg6 hat6 hb6)
                | (at_builtin; refine wpList_append_own_at _ rfl (.tmp 180) (.tmp 182) 36 rfl wC.heap.size 3 i2 (.int .i64 0) 1 8 Tryz.underlying36 hi2 hx0' hx1' hx2' rfl (by decide) vh k _ rfl ((HD5.out.row 2 (by omega)).alloc _) ⟨w6.heap.size, 0, none⟩ 1 1 [.int .i64 hd1] rfl rfl (cell_one_set _ _ _ _ _) (by simp [Value.oneCell']) (by unfold maxLen; omega) (by omega) (by have := HD5.out.size; simp; simp [World.setCell] at this; omega) ?_; intro v7 w7 hown7 hg7 _ hat7; obtain ⟨g7, cap7, rfl⟩ := own_slice hown7; have hb7 := DL.at_ (i := 2) HD5.out (by omega) hg7; have y3 := hcell hb7 4 _ rfl; have y4 := hfroz hb7 4; have HD6 := hid (DG.push2 HD5.out (by rw [hhd.out]; exact hown7) hg7 hat7); have u5 : (w7.setCell ⟨tb, 4, none⟩ (.slice (some ⟨g7, 0, none⟩) (k + 1) cap7)).cell? ⟨tb, 5, none⟩ = some va := hcell HD6.out.told 5 _ rfl; have HX6 := (setCell_heap (i := 4) (v := .slice (some ⟨g7, 0, none⟩) (k + 1) cap7) hbt.out).trans (gr_heap hg7 (gr_heap (gr_alloc (gr_refl _ none) _) HX5.out (by simp)) (fun e => hbo.out.2.1 _ e.symm rfl)); have c0 := hcell HX6 0 _ rfl; have c1 := hcell HX6 1 _ rfl; have c2 := hcell HX6 2 _ rfl; clear HX6 hown7 hg7 hat7 hb7)
                | (at_builtin; refine wpList_append_own_at _ rfl (.tmp 186) (.tmp 188) 43 rfl wC.heap.size 61 i3 (.agg #[.int .i64 0, .int .i64 0, .int .i64 0]) 3 24 Tryz.underlying43 hi3 hw0' hw1' hw2' rfl (by decide) va k _ rfl ((HD6.out.row 3 (by omega)).alloc _) ⟨w7.heap.size, 0, none⟩ 1 1 [.int .i64 m, .int .i64 ba, .int .i64 r] rfl rfl (cells3_set _ _ _ _ _ _ _) (by simp [Value.oneCell']) (by unfold maxLen; omega) (by omega) (by have := HD6.out.size; simp; simp [World.setCell] at this; omega) ?_; intro v8 w8 hown8 hg8 _ hat8; obtain ⟨g8, cap8, rfl⟩ := own_slice hown8; have hb8 := DL.at_ (i := 3) HD6.out (by omega) hg8; have y5 := hcell hb8 5 _ rfl; have y6 := hfroz hb8 5; have HD7 := hid (DG.push3 HD6.out (by rw [haft.out]; exact hown8) hg8 hat8); clear hown8 hg8 hat8 hb8))
              go_roundw
              case rel => exact ⟨k + 1, _, _, _, by omega, by go_num, HD7⟩
              case measure => simp [intOf]; omega
          · have hd2 : decide (0 < hd1) = false := decide_eq_false hd0
            have haft : Hid (R.aft k = ⟨m, ba, r⟩) := hid (by
              unfold Rd.aft
              rw [if_neg (by have := hhd.out; omega)]
              exact hkk.out)
            have HD4 := hid (DL.grown HD2.out (gr_alloc (gr_refl w2 none) (.cells #[.int .i64 m, .int .i64 ba, .int .i64 r] 61)))
            have HX4 := hid (heap_alloc_new w2 (.cells #[.int .i64 m, .int .i64 ba, .int .i64 r] 61))
            have t3 : (w2.alloc (.cells #[.int .i64 m, .int .i64 ba, .int .i64 r] 61)).cell? ⟨tb, 3, none⟩ = some vb := hcell HD4.out.told 3 _ rfl
            go_wp2_with (first
              | (at_builtin; refine wpList_append_own_at _ rfl (.tmp 174) (.tmp 176) 35 rfl wC.heap.size 2 i1 (.int .i64 0) 1 8 Tryz.underlying35 hi1 hy0' hy1' hy2' rfl (by decide) vb k _ rfl ((HD4.out.row 1 (by omega)).alloc _) ⟨w2.heap.size + 1, 0, none⟩ 1 1 [.int .i64 by1] rfl rfl (cell_one_new2 _ _ _ _) (by simp [Value.oneCell']) (by unfold maxLen; omega) (by omega) (by have := HD2.out.size; simp; omega) ?_; intro v6 w6 hown6 hg6 _ hat6; obtain ⟨g6, cap6, rfl⟩ := own_slice hown6; have hb6 := DL.at_ (i := 1) HD4.out (by omega) hg6; have y1 := hcell hb6 3 _ rfl; have y2 := hfroz hb6 3; have HD5 := hid (DG.push1 HD4.out (by rw [hby.out]; exact hown6) hg6 hat6); have u4 : (w6.setCell ⟨tb, 3, none⟩ (.slice (some ⟨g6, 0, none⟩) (k + 1) cap6)).cell? ⟨tb, 4, none⟩ = some vh := hcell HD5.out.told 4 _ rfl; have HX5 := hid ((setCell_heap (i := 3) (v := .slice (some ⟨g6, 0, none⟩) (k + 1) cap6) hbt.out).trans (gr_heap hg6 (gr_heap (gr_alloc (gr_refl (w2.alloc (.cells #[.int .i64 m, .int .i64 ba, .int .i64 r] 61)) none) _) HX4.out (by simp)) (fun e => hbo.out.1 _ e.symm rfl))); clear hown6 hg6 hat6 hb6)
              | (at_builtin; refine wpList_append_own_at _ rfl (.tmp 180) (.tmp 182) 36 rfl wC.heap.size 3 i2 (.int .i64 0) 1 8 Tryz.underlying36 hi2 hx0' hx1' hx2' rfl (by decide) vh k _ rfl ((HD5.out.row 2 (by omega)).alloc _) ⟨w6.heap.size, 0, none⟩ 1 1 [.int .i64 hd1] rfl rfl (cell_one_set _ _ _ _ _) (by simp [Value.oneCell']) (by unfold maxLen; omega) (by omega) (by have := HD5.out.size; simp; simp [World.setCell] at this; omega) ?_; intro v7 w7 hown7 hg7 _ hat7; obtain ⟨g7, cap7, rfl⟩ := own_slice hown7; have hb7 := DL.at_ (i := 2) HD5.out (by omega) hg7; have y3 := hcell hb7 4 _ rfl; have y4 := hfroz hb7 4; have HD6 := hid (DG.push2 HD5.out (by rw [hhd.out]; exact hown7) hg7 hat7); have u5 : (w7.setCell ⟨tb, 4, none⟩ (.slice (some ⟨g7, 0, none⟩) (k + 1) cap7)).cell? ⟨tb, 5, none⟩ = some va := hcell HD6.out.told 5 _ rfl; have HX6 := (setCell_heap (i := 4) (v := .slice (some ⟨g7, 0, none⟩) (k + 1) cap7) hbt.out).trans (gr_heap hg7 (gr_heap (gr_alloc (gr_refl _ none) _) HX5.out (by simp)) (fun e => hbo.out.2.1 _ e.symm rfl)); have c0 := hcell HX6 0 _ rfl; have c1 := hcell HX6 1 _ rfl; have c2 := hcell HX6 2 _ rfl; clear HX6 hown7 hg7 hat7 hb7)
              | (at_builtin; refine wpList_append_own_at _ rfl (.tmp 186) (.tmp 188) 43 rfl wC.heap.size 61 i3 (.agg #[.int .i64 0, .int .i64 0, .int .i64 0]) 3 24 Tryz.underlying43 hi3 hw0' hw1' hw2' rfl (by decide) va k _ rfl ((HD6.out.row 3 (by omega)).alloc _) ⟨w7.heap.size, 0, none⟩ 1 1 [.int .i64 m, .int .i64 ba, .int .i64 r] rfl rfl (cells3_set _ _ _ _ _ _ _) (by simp [Value.oneCell']) (by unfold maxLen; omega) (by omega) (by have := HD6.out.size; simp; simp [World.setCell] at this; omega) ?_; intro v8 w8 hown8 hg8 _ hat8; obtain ⟨g8, cap8, rfl⟩ := own_slice hown8; have hb8 := DL.at_ (i := 3) HD6.out (by omega) hg8; have y5 := hcell hb8 5 _ rfl; have y6 := hfroz hb8 5; have HD7 := hid (DG.push3 HD6.out (by rw [haft.out]; exact hown8) hg8 hat8); clear hown8 hg8 hat8 hb8))
            go_roundw
            case rel => exact ⟨k + 1, _, _, _, by omega, by go_num, HD7⟩
            case measure => simp [intOf]; omega
    · obtain rfl : k = n := by omega
      clear hlt
      have HDe := hid HDk.out
      go_wp2_with fail
      exact hexit.out _ _ _ _ _ _ _ _ _ _ _ _ _ _ _ _ _ _ _ _ _ _ _ _ _ _ _ _ _ _ _ _ _ _ _ _ _ _ _ _ _ _ _ _ _ _ _ _ _ _ _ _ _ _ _ _ _ _ _ _ _ _ _ _ _ _ _ _ _ _ _ _ _ _ _ _ _ _ _ _ _ _ _ _ _ _ _ _ _ _ _ _ _ _ _ _ _ _ _ _ _ _ _ _ _ _ _ _ _ _ _ _ _ _ _ _ _ _ _ _ _ HDe.out
end Go.Proofs.YtckoaeoecjphiaaGreat
