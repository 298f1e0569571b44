/- Lemmas: round.Go: its third loop. -/
import Derived.Test.YtckoaeoecjphiaaGreatK37
import Derived.BigRegion

/- round.Go: its third loop. -/
namespace Go.Proofs.YtckoaeoecjphiaaGreat
open Go.RowKit Go.Lib

/-- The loops of a code, one behind the other. -/
def loopsOf : Code → List Code
  | .loop c => [c]
  | .seq a b => loopsOf a ++ loopsOf b
  | .block _ c => loopsOf c
  | .scope c => loopsOf c
  | .cond _ a b => loopsOf a ++ loopsOf b
  | _ => []
noncomputable def body3 : Code := (((Tryz.f10.body.map loopsOf).getD [])[2]?).getD .skip
/-- What does not turn in the third loop. -/
structure St3 (wC : World) (R : Rd) (w0 tb rb pg vg vcap n : Nat) (ps : Nat → Nat) (ho C de wi pr qu cy a0 a1 b0 b1 : Int) (vd ve vl : Value) (p0 p1 y0 y1 : Int) (c0 c1 : Nat) : Prop where
  sta : Stat wC w0 ho C de wi pr qu cy a0 a1 b0 b1 vd ve vl pg n ps
  res : wC.heap[rb]? = some (.cells #[.int .i64 p0, .int .u32 (c0 : Int), .int .i64 y0, .int .i64 p1, .int .u32 (c1 : Int), .int .i64 y1] 92)
  snt : ∀ j, j < n → wC.cell? ⟨vg, j, none⟩ = some (.int .i64 (R.sent j))
  vgs : vg < wC.heap.size
  far : ∀ q, q = w0 ∨ q = w0 + 1 ∨ q = w0 + 2 ∨ q = w0 + 3 ∨ q = pg ∨ q = rb ∨ q = vg → q ≠ tb ∧ ∀ j, j < n → q ≠ ps j
  pgs : pg < wC.heap.size
  vcp : n ≤ vcap
  lo : w0 ≤ tb ∧ (∀ j, j < n → w0 ≤ ps j) ∧ w0 ≤ wC.heap.size

theorem Lp3.cong {wC W : World} {tb n : Nat} {ps : Nat → Nat} {vs vb vh va : Value} {c0 c1 : Nat} {f f' : Nat → Ck} {by_ : Nat → Int} {hrd : Nat → Nat} {aft : Nat → Ck} {k : Nat} (h : Lp3 wC W tb n ps vs vb vh va c0 c1 f by_ hrd aft k) (he : ∀ j, j < n → f j = f' j) : Lp3 wC W tb n ps vs vb vh va c0 c1 f' by_ hrd aft k :=
  { h with clk := fun j hj => by have := h.clk j hj; rw [he j hj] at this; exact this }
set_option maxRecDepth 1000000 in
set_option maxHeartbeats 8000000 in
theorem loop3 (R : Rd) (hR : RdOk R) (ys : List Sd) (hs : Sorts R ys) (wC : World) (w0 tb rb pg vg vcap cp n : Nat) (ps : Nat → Nat) (C de wi pr qu cy a0 a1 b0 b1 : Int) (vd ve vl : Value) (p0 p1 y0 y1 : Int) (k0 k1 : Nat)
    (hn : Hid (R.l.length = n)) (hn1 : 0 < n) (hcp : n ≤ cp)
    (hL : Hid (Lp3 wC wC tb n ps (.slice (some ⟨vg, 0, none⟩) n vcap) (.slice none 0 0) (.slice none 0 0) (.slice none 0 0) k0 k1 (nthC R.l) R.by_ R.hrd R.aft 0))
    (hT : Hid (St3 wC R w0 tb rb pg vg vcap n ps (n : Int) C de wi pr qu cy a0 a1 b0 b1 vd ve vl p0 p1 y0 y1 k0 k1))
    (hNet : Hid (NetAt w0 wC R.d vd ve vl)) (hcf : Hid (R.d.cf = ⟨(n : Int), C, de, wi, pr, qu⟩)) (hcy : Hid (R.cy = cy))
    (hcr0 : Hid (R.crew 0 = k0)) (hcr1 : Hid (R.crew 1 = k1)) (hp0 : Hid (R.pt 0 = p0)) (hp1 : Hid (R.pt 1 = p1)) (hy0 : Hid (cycS R.cy (R.came 0) = y0)) (hy1 : Hid (cycS R.cy (R.came 1) = y1)) (hb0 : Hid ((R.w0 : Int) = b0)) (hb1 : Hid ((R.w1 : Int) = b1))
    {Q0 : Exit → Act → World → Prop} (c0 c1 c2 c3 c6 c8 c9 c10 c11 c12 c14 c15 c16 c17 c18 c20 c33 c34 c35 c36 c37 c38 c39 c40 c41 c42 c43 c44 c45 c46 c47 c48 c49 c50 c51 c52 c53 c54 c55 c56 c57 c58 c59 c60 c61 c62 c63 c64 c65 c66 c67 c68 c69 c70 c71 c72 c73 c74 c75 c76 c77 c78 c79 c80 c81 c82 c83 c84 c85 c86 c87 c88 c89 c90 c91 c92 c93 c94 c95 c96 c97 c98 c99 c100 c101 c102 c103 c104 c105 c106 c107 c108 c109 c110 c111 c112 c113 c114 c115 c116 c117 c118 c119 c120 c121 c122 c123 c124 c125 c126 c127 c128 c129 c130 c131 c219 : Value) (u21 u22 u23 u24 u25 u26 u27 u28 u29 u30 u31 u32 u135 u136 u137 u138 u139 u140 u141 u142 u143 u144 u145 u146 u147 u148 u149 u150 u151 u152 u153 u154 u155 u156 u157 u158 u159 u160 u161 u162 u163 u164 u165 u166 u167 u168 u169 u170 u171 u172 u173 u174 u175 u176 u177 u178 u179 u180 u181 u182 u183 u184 u185 u186 u187 u188 u189 u190 u191 u192 u193 u194 u195 u196 u197 u198 u199 u200 u201 u202 u203 u204 u205 u206 u207 u208 u209 u210 u211 u212 u213 u214 u215 u216 u217 u218 : Value)
    (hexit : Hid (∀ (u21 u22 u23 u24 u25 u26 u27 u28 u29 u30 u31 u32 u135 u136 u137 u138 u139 u140 u141 u142 u143 u144 u145 u146 u147 u148 u149 u150 u151 u152 u153 u154 u155 u156 u157 u158 u159 u160 u161 u162 u163 u164 u165 u166 u167 u168 u169 u170 u171 u172 u173 u174 u175 u176 u177 u178 u179 u180 u181 u182 u183 u184 u185 u186 u187 u188 u189 u190 u191 u192 u193 u194 u195 u196 u197 u198 u199 u200 u201 u202 u203 u204 u205 u206 u207 u208 u209 u210 u211 u212 u213 u214 u215 u216 u217 u218 : Value) (W : World) (vb vh va : Value), Lp3 wC W tb n ps (.slice (some ⟨vg, 0, none⟩) n vcap) vb vh va k0 k1 R.aft R.by_ R.hrd R.aft n → Q0 (.exit 4) ⟨(List.toArray (c0 :: c1 :: c2 :: c3 :: .pointer (some ⟨w0, 0, none⟩) :: .pointer (some ⟨w0 + 1, 0, none⟩) :: c6 :: .pointer (some ⟨w0 + 1 + 1, 0, none⟩) :: c8 :: c9 :: c10 :: c11 :: c12 :: .pointer (some ⟨tb, 0, none⟩) :: c14 :: c15 :: c16 :: c17 :: c18 :: .pointer (some ⟨rb, 0, none⟩) :: c20 :: u21 :: u22 :: u23 :: u24 :: u25 :: u26 :: u27 :: u28 :: u29 :: u30 :: u31 :: u32 :: c33 :: c34 :: c35 :: c36 :: c37 :: c38 :: c39 :: c40 :: c41 :: c42 :: c43 :: c44 :: c45 :: c46 :: c47 :: c48 :: c49 :: c50 :: c51 :: c52 :: c53 :: c54 :: c55 :: c56 :: c57 :: c58 :: c59 :: c60 :: c61 :: c62 :: c63 :: c64 :: c65 :: c66 :: c67 :: c68 :: c69 :: c70 :: c71 :: c72 :: c73 :: c74 :: c75 :: c76 :: c77 :: c78 :: c79 :: c80 :: c81 :: c82 :: c83 :: c84 :: c85 :: c86 :: c87 :: c88 :: c89 :: c90 :: c91 :: c92 :: c93 :: c94 :: c95 :: c96 :: c97 :: c98 :: c99 :: c100 :: c101 :: c102 :: c103 :: c104 :: c105 :: c106 :: c107 :: c108 :: c109 :: c110 :: c111 :: c112 :: c113 :: c114 :: c115 :: c116 :: c117 :: c118 :: c119 :: c120 :: c121 :: c122 :: c123 :: c124 :: c125 :: c126 :: c127 :: c128 :: c129 :: c130 :: c131 :: .slice (some ⟨pg, 0, none⟩) n cp :: .int .i64 (n : Int) :: .int .i64 (n : Int) :: u135 :: u136 :: u137 :: u138 :: u139 :: u140 :: u141 :: u142 :: u143 :: u144 :: u145 :: u146 :: u147 :: u148 :: u149 :: u150 :: u151 :: u152 :: u153 :: u154 :: u155 :: u156 :: u157 :: u158 :: u159 :: u160 :: u161 :: u162 :: u163 :: u164 :: u165 :: u166 :: u167 :: u168 :: u169 :: u170 :: u171 :: u172 :: u173 :: u174 :: u175 :: u176 :: u177 :: u178 :: u179 :: u180 :: u181 :: u182 :: u183 :: u184 :: u185 :: u186 :: u187 :: u188 :: u189 :: u190 :: u191 :: u192 :: u193 :: u194 :: u195 :: u196 :: u197 :: u198 :: u199 :: u200 :: u201 :: u202 :: u203 :: u204 :: u205 :: u206 :: u207 :: u208 :: u209 :: u210 :: u211 :: u212 :: u213 :: u214 :: u215 :: u216 :: u217 :: u218 :: c219 :: [])), []⟩ W)) :
    Code.wp Tryz.prog (Code.loop body3) Q0 ⟨(List.toArray (c0 :: c1 :: c2 :: c3 :: .pointer (some ⟨w0, 0, none⟩) :: .pointer (some ⟨w0 + 1, 0, none⟩) :: c6 :: .pointer (some ⟨w0 + 1 + 1, 0, none⟩) :: c8 :: c9 :: c10 :: c11 :: c12 :: .pointer (some ⟨tb, 0, none⟩) :: c14 :: c15 :: c16 :: c17 :: c18 :: .pointer (some ⟨rb, 0, none⟩) :: c20 :: u21 :: u22 :: u23 :: u24 :: u25 :: u26 :: u27 :: u28 :: u29 :: u30 :: u31 :: u32 :: c33 :: c34 :: c35 :: c36 :: c37 :: c38 :: c39 :: c40 :: c41 :: c42 :: c43 :: c44 :: c45 :: c46 :: c47 :: c48 :: c49 :: c50 :: c51 :: c52 :: c53 :: c54 :: c55 :: c56 :: c57 :: c58 :: c59 :: c60 :: c61 :: c62 :: c63 :: c64 :: c65 :: c66 :: c67 :: c68 :: c69 :: c70 :: c71 :: c72 :: c73 :: c74 :: c75 :: c76 :: c77 :: c78 :: c79 :: c80 :: c81 :: c82 :: c83 :: c84 :: c85 :: c86 :: c87 :: c88 :: c89 :: c90 :: c91 :: c92 :: c93 :: c94 :: c95 :: c96 :: c97 :: c98 :: c99 :: c100 :: c101 :: c102 :: c103 :: c104 :: c105 :: c106 :: c107 :: c108 :: c109 :: c110 :: c111 :: c112 :: c113 :: c114 :: c115 :: c116 :: c117 :: c118 :: c119 :: c120 :: c121 :: c122 :: c123 :: c124 :: c125 :: c126 :: c127 :: c128 :: c129 :: c130 :: c131 :: .slice (some ⟨pg, 0, none⟩) n cp :: .int .i64 (n : Int) :: .int .i64 0 :: u135 :: u136 :: u137 :: u138 :: u139 :: u140 :: u141 :: u142 :: u143 :: u144 :: u145 :: u146 :: u147 :: u148 :: u149 :: u150 :: u151 :: u152 :: u153 :: u154 :: u155 :: u156 :: u157 :: u158 :: u159 :: u160 :: u161 :: u162 :: u163 :: u164 :: u165 :: u166 :: u167 :: u168 :: u169 :: u170 :: u171 :: u172 :: u173 :: u174 :: u175 :: u176 :: u177 :: u178 :: u179 :: u180 :: u181 :: u182 :: u183 :: u184 :: u185 :: u186 :: u187 :: u188 :: u189 :: u190 :: u191 :: u192 :: u193 :: u194 :: u195 :: u196 :: u197 :: u198 :: u199 :: u200 :: u201 :: u202 :: u203 :: u204 :: u205 :: u206 :: u207 :: u208 :: u209 :: u210 :: u211 :: u212 :: u213 :: u214 :: u215 :: u216 :: u217 :: u218 :: c219 :: [])), []⟩ wC := by
  conv => arg 2; arg 1; whnf
  go_loopw [134] (fun i wr => ∃ (k : Nat) (vb vh va : Value), k ≤ n ∧ i = .int .i64 k ∧ Hid (Lp3 wC wr tb n ps (.slice (some ⟨vg, 0, none⟩) n vcap) vb vh va k0 k1 (fun j => if j < k then R.aft j else nthC R.l j) R.by_ R.hrd R.aft k)) (fun i _ => n - (intOf i).toNat)
  case atStart => exact ⟨0, _, _, _, Nat.zero_le _, rfl, by simpa using hL⟩
  case round =>
    obtain ⟨k, vb, vh, va, hk, rfl, HLk⟩ := hrel
    by_cases hlt : k < n
    · have hw0 := lt_of_block hT.out.sta.res
      have hfar := hid hT.out.far
      have hST : Hid (Stat wr w0 (n : Int) C de wi pr qu cy a0 a1 b0 b1 vd ve vl pg n ps) := hid (hT.out.sta.kept (fun q hq => by
        have h1 := hT.out.far q (by omega)
        have h2 := hT.out.pgs
        exact HLk.out.keep q (by omega) h1.1 h1.2))
      have hRS : Hid (wr.heap[rb]? = some (.cells #[.int .i64 p0, .int .u32 (k0 : Int), .int .i64 y0, .int .i64 p1, .int .u32 (k1 : Int), .int .i64 y1] 92)) := hid (by
        have h1 := hT.out.far rb (by omega)
        exact HLk.out.free hT.out.res h1.1 h1.2)
      have hSN : Hid (wr.cell? ⟨vg, k, none⟩ = some (.int .i64 (R.sent k))) := hid (by
        have h1 := hT.out.far vg (by omega)
        rw [World.cell?_of_block (w := wC) (a := ⟨vg, k, none⟩) (HLk.out.keep vg hT.out.vgs h1.1 h1.2)]
        exact hT.out.snt k hlt)
      have hBW : Hid (Below w0 wC wr) := hid ⟨HLk.out.os, HLk.out.tape, HLk.out.output, HLk.out.size, fun q hq => HLk.out.keep q (by have := hT.out.lo.2.2; omega) (by have := hT.out.lo.1; omega) (fun j hj => by have := hT.out.lo.2.1 j hj; omega)⟩
      have hNW : Hid (NetAt wr.heap.size wr R.d vd ve vl) := hid ((hNet.out.below hBW.out).wider (Nat.le_trans hT.out.lo.2.2 HLk.out.size))
      have hCK := hid (cleanZ_iff.1 hR.clean.1)
      have hnew : Hid (Calls Tryz.prog 33 #[cfV ⟨(n : Int), C, de, wi, pr, qu⟩ vd ve vl] wr fun e w' => ∃ b, e = .returned (.tuple #[.pointer (some ⟨b, 0, none⟩), .int .i64 0]) ∧ AlAt w' b C R.E R.A (.slice none 0 0) ∧ wr.heap.size ≤ b ∧ wr.grownBy w' none) := hid (by
        have := alnew_any R.d vd ve vl wr hNW.out hCK.out.1 (check_cy hCK.out.1).1
        unfold Rd.E Rd.A
        rw [hcf.out] at this ⊢
        exact this)
      have z0 := hST.out.ptr k hlt
      have m0 := hcell hST.out.cf 0 _ rfl
      have m1 := hcell hST.out.cf 1 _ rfl
      have m2 := hcell hST.out.cf 2 _ rfl
      have m3 := hcell hST.out.cf 3 _ rfl
      have m4 := hcell hST.out.cf 4 _ rfl
      have m5 := hcell hST.out.cf 5 _ rfl
      have m6 := hcell hST.out.cf 6 _ rfl
      have m7 := hcell hST.out.cf 7 _ rfl
      have m8 := hcell hST.out.cf 8 _ rfl
      have hk1 : k < cp := by omega
      have hk2 : (k : Int) < n := by omega
      clear hw0
      go_wp2_with fail
      refine hnew.out.mono ?_
      rintro e w1 ⟨ab, rfl, hal, hab, g1⟩
      have HAL := hid (als_empty (base := wr.heap.size) hal hab)
      have G1 := hid g1
      have hR1 := gr_heap g1 hRS.out (by simp)
      have r0 := hcell hR1 0 _ rfl
      have r1 := hcell hR1 1 _ rfl
      have r2 := hcell hR1 2 _ rfl
      have r3 := hcell hR1 3 _ rfl
      have r4 := hcell hR1 4 _ rfl
      have r5 := hcell hR1 5 _ rfl
      clear hal hab g1 hR1 hnew z0 m0 m1 m2 m3 m4 m5 m6 m7 m8
      go_wp2_with fail
      have hi0 : ∀ w', (Instr.index 92 (.agg #[.int .i64 p0, .int .u32 (k0 : Int), .int .i64 y0, .int .i64 p1, .int .u32 (k1 : Int), .int .i64 y1]) (.int .i64 0)).run Tryz.prog w' = .ok (.agg #[.int .i64 p0, .int .u32 (k0 : Int), .int .i64 y0]) w' := fun _ => by kernel_rfl
      have hi1 : ∀ w', (Instr.index 92 (.agg #[.int .i64 p0, .int .u32 (k0 : Int), .int .i64 y0, .int .i64 p1, .int .u32 (k1 : Int), .int .i64 y1]) (.int .i64 1)).run Tryz.prog w' = .ok (.agg #[.int .i64 p1, .int .u32 (k1 : Int), .int .i64 y1]) w' := fun _ => by kernel_rfl
      obtain ⟨s3, hs3⟩ : ∃ s, Hid (wr.heap.size = s) := ⟨_, hid rfl⟩
      rw [hs3.out] at HAL
      have HB1 : Hid (Below s3 wr w1) := hid (gr_below G1.out (by rw [hs3.out]; exact Nat.le_refl _) (by simp))
      obtain ⟨wo, hwo⟩ : ∃ wo : World, wo = wr := ⟨_, rfl⟩
      subst hwo
      clear r0 r1 r2 r3 r4 r5
      go_loopw [145] (fun i wx => ∃ (sw : Nat) (vf : Value), sw ≤ 2 ∧ i = .int .i64 sw ∧ Hid (AlS s3 wx ab C R.E R.A vf (R.frTo k sw)) ∧ Hid (Below s3 wo wx)) (fun i _ => 2 - (intOf i).toNat)
      case atStart => exact ⟨0, _, by omega, rfl, HAL, HB1⟩
      case round =>
        obtain ⟨sw, vf, hsw, rfl, HAx, HBx⟩ := hrel
        by_cases hs2 : sw < 2
        · have h01 : sw = 0 ∨ sw = 1 := by omega
          have HLr := hid (HLk.out.below (by rw [hs3.out]; exact HBx.out))
          have hSr := hid (hST.out.kept (W' := wr) (fun q hq => HBx.out.block q (by
            have h1 := lt_of_block hST.out.res
            have h2 := hT.out.pgs
            have h3 := HLk.out.size
            rw [hs3.out] at h1 h3
            omega)))
          have hRr := hid ((HBx.out.block rb (by have := lt_of_block hRS.out; rw [hs3.out] at this; exact this)).trans hRS.out)
          have hNr := hid ((HBx.out.cell (p := ⟨vg, k, none⟩) (by have := hT.out.vgs; have h3 := HLk.out.size; rw [hs3.out] at h3; show vg < s3; omega)).trans hSN.out)
          have t0 := hcell HLr.out.told 0 _ rfl
          have hvc : k < vcap := by have := hT.out.vcp; omega
          rcases h01 with rfl | rfl
          · have gB := hid (fun (o : Obj) => HBx.out.trans (gr_below (gr_alloc (gr_refl wr none) o) (B := s3) (by have := HBx.out.size; rw [hs3.out] at this; exact this) (by simp)))
            by_cases hsn : 0 ≤ R.sent k
            · have hs0 : decide (0 ≤ R.sent k) = true := decide_eq_true hsn
              have g0 := gr_alloc (gr_refl wr none) (.cells #[.int .i64 p0, .int .u32 (k0 : Int), .int .i64 y0] 91)
              have t1 := gr_cell g0 t0
              have t2 := gr_cell g0 hNr.out
              have t3 := gr_cell g0 (hcell hSr.out.los 2 _ rfl)
              by_cases hk00 : k0 = 0
              · have hkz : ((k0 : Int) != 0) = false := by simp [hk00]
                have hon := hid (Rd.off_crew (k := k) (hcr0.out.trans hk00))
                clear hk00
                go_wp2_with fail
                go_roundw
                case rel => exact ⟨0 + 1, vf, by omega, by go_num, hid (by rw [hon.out]; exact HAx.out.grown g0), hid (gB.out _)⟩
                case measure => simp [intOf]
              · have hkz : ((k0 : Int) != 0) = true := by simp; omega
                obtain ⟨v3, hv3⟩ : ∃ v, Hid (hasN (R.down 0) k = v) := ⟨_, hid rfl⟩
                have hhas : Hid (∀ w', Calls Tryz.prog 34 #[.int .u32 b0, .int .i64 (k : Int)] w' fun e w2 => e = .returned (.bool v3) ∧ w' = w2) := hid (fun w' => by
                  rw [← hv3.out, ← hb0.out]
                  exact hasN_at R.w0 k (hid hR.w0) (by have := hR.len.1; rw [hn.out] at this; omega) w')
                cases v3
                · have hhe : Hid (∀ w', Below s3 wo w' → AlS s3 w' ab C R.E R.A vf (R.frTo k 0) → Calls Tryz.prog 35 #[cfV ⟨(n : Int), C, de, wi, pr, qu⟩ vd ve vl, .int .i64 cy, .pointer (some ⟨ps k, 0, none⟩), .pointer (some ⟨ab, 0, none⟩), .agg #[.int .i64 p0, .int .u32 (k0 : Int), .int .i64 y0], .int .i64 (k : Int), .int .i64 0] w' fun e w'' => ∃ vf', e = .returned (.tuple #[]) ∧ Hid (AlS s3 w'' ab C R.E R.A vf' (R.frTo k (0 + 1))) ∧ Hid (Below s3 w' w'')) := hid (fun w' hB hA => hears_rd hR hs hcf.out hcy.out (by rw [hn.out]; exact hlt) (by omega) hsn hcr0.out hk00 hv3.out hp0.out hy0.out s3 s3 (ps k) ab vd ve vl vf w' (by have := hNW.out.rows; rw [hs3.out] at this; exact this.below hB) (by have := (HLk.out.below (by rw [hs3.out]; exact hB)).clk k hlt; rw [if_neg (Nat.lt_irrefl k)] at this; exact this) hA (by have h9 := hB.size; rw [hs3.out] at h9; exact h9))
                  have m0 := gr_cell g0 (hcell hSr.out.cf 0 _ rfl)
                  have m1 := gr_cell g0 (hcell hSr.out.cf 1 _ rfl)
                  have m2 := gr_cell g0 (hcell hSr.out.cf 2 _ rfl)
                  have m3 := gr_cell g0 (hcell hSr.out.cf 3 _ rfl)
                  have m4 := gr_cell g0 (hcell hSr.out.cf 4 _ rfl)
                  have m5 := gr_cell g0 (hcell hSr.out.cf 5 _ rfl)
                  have m6 := gr_cell g0 (hcell hSr.out.cf 6 _ rfl)
                  have m7 := gr_cell g0 (hcell hSr.out.cf 7 _ rfl)
                  have m8 := gr_cell g0 (hcell hSr.out.cf 8 _ rfl)
                  have m9 := gr_cell g0 (hcell hSr.out.cyc 0 _ rfl)
                  clear hk00
                  go_wp2_with fail
                  refine (hhas.out _).mono ?_
                  rintro e w2 ⟨rfl, rfl⟩
                  go_wp2_with fail
                  refine (hhe.out _ (gB.out _) (HAx.out.grown g0)).mono ?_
                  rintro e w3 ⟨vf3, rfl, HA3, HB3⟩
                  have HB4 := hid ((gB.out _).trans HB3.out)
                  clear HB3 m0 m1 m2 m3 m4 m5 m6 m7 m8 m9 t1 t2 t3 g0
                  go_wp2_with fail
                  go_roundw
                  case rel => exact ⟨0 + 1, vf3, by omega, by go_num, HA3, HB4⟩
                  case measure => simp [intOf]
                · have hon := hid (Rd.off_lost (R := R) (k := k) (sw := 0) hv3.out)
                  clear hk00
                  go_wp2_with fail
                  refine (hhas.out _).mono ?_
                  rintro e w2 ⟨rfl, rfl⟩
                  go_wp2_with fail
                  go_roundw
                  case rel => exact ⟨0 + 1, vf, by omega, by go_num, hid (by rw [hon.out]; exact HAx.out.grown g0), hid (gB.out _)⟩
                  case measure => simp [intOf]
            · have hon := hid (Rd.off_sent (sw := 0) hsn)
              have hs0 : decide (0 ≤ R.sent k) = false := decide_eq_false hsn
              have g0 := gr_alloc (gr_refl wr none) (.cells #[.int .i64 p0, .int .u32 (k0 : Int), .int .i64 y0] 91)
              have t1 := gr_cell g0 t0
              have t2 := gr_cell g0 hNr.out
              go_wp2_with fail
              go_roundw
              case rel => exact ⟨0 + 1, vf, by omega, by go_num, hid (by rw [hon.out]; exact HAx.out.grown g0), hid (gB.out _)⟩
              case measure => simp [intOf]
          · have gB := hid (fun (o : Obj) => HBx.out.trans (gr_below (gr_alloc (gr_refl wr none) o) (B := s3) (by have := HBx.out.size; rw [hs3.out] at this; exact this) (by simp)))
            by_cases hsn : 0 ≤ R.sent k
            · have hs0 : decide (0 ≤ R.sent k) = true := decide_eq_true hsn
              have g0 := gr_alloc (gr_refl wr none) (.cells #[.int .i64 p1, .int .u32 (k1 : Int), .int .i64 y1] 91)
              have t1 := gr_cell g0 t0
              have t2 := gr_cell g0 hNr.out
              have t3 := gr_cell g0 (hcell hSr.out.los 3 _ rfl)
              by_cases hk00 : k1 = 0
              · have hkz : ((k1 : Int) != 0) = false := by simp [hk00]
                have hon := hid (Rd.off_crew (k := k) (hcr1.out.trans hk00))
                clear hk00
                go_wp2_with fail
                go_roundw
                case rel => exact ⟨1 + 1, vf, by omega, by go_num, hid (by rw [hon.out]; exact HAx.out.grown g0), hid (gB.out _)⟩
                case measure => simp [intOf]
              · have hkz : ((k1 : Int) != 0) = true := by simp; omega
                obtain ⟨v3, hv3⟩ : ∃ v, Hid (hasN (R.down 1) k = v) := ⟨_, hid rfl⟩
                have hhas : Hid (∀ w', Calls Tryz.prog 34 #[.int .u32 b1, .int .i64 (k : Int)] w' fun e w2 => e = .returned (.bool v3) ∧ w' = w2) := hid (fun w' => by
                  rw [← hv3.out, ← hb1.out]
                  exact hasN_at R.w1 k (hid hR.w1) (by have := hR.len.1; rw [hn.out] at this; omega) w')
                cases v3
                · have hhe : Hid (∀ w', Below s3 wo w' → AlS s3 w' ab C R.E R.A vf (R.frTo k 1) → Calls Tryz.prog 35 #[cfV ⟨(n : Int), C, de, wi, pr, qu⟩ vd ve vl, .int .i64 cy, .pointer (some ⟨ps k, 0, none⟩), .pointer (some ⟨ab, 0, none⟩), .agg #[.int .i64 p1, .int .u32 (k1 : Int), .int .i64 y1], .int .i64 (k : Int), .int .i64 1] w' fun e w'' => ∃ vf', e = .returned (.tuple #[]) ∧ Hid (AlS s3 w'' ab C R.E R.A vf' (R.frTo k (1 + 1))) ∧ Hid (Below s3 w' w'')) := hid (fun w' hB hA => hears_rd hR hs hcf.out hcy.out (by rw [hn.out]; exact hlt) (by omega) hsn hcr1.out hk00 hv3.out hp1.out hy1.out s3 s3 (ps k) ab vd ve vl vf w' (by have := hNW.out.rows; rw [hs3.out] at this; exact this.below hB) (by have := (HLk.out.below (by rw [hs3.out]; exact hB)).clk k hlt; rw [if_neg (Nat.lt_irrefl k)] at this; exact this) hA (by have h9 := hB.size; rw [hs3.out] at h9; exact h9))
                  have m0 := gr_cell g0 (hcell hSr.out.cf 0 _ rfl)
                  have m1 := gr_cell g0 (hcell hSr.out.cf 1 _ rfl)
                  have m2 := gr_cell g0 (hcell hSr.out.cf 2 _ rfl)
                  have m3 := gr_cell g0 (hcell hSr.out.cf 3 _ rfl)
                  have m4 := gr_cell g0 (hcell hSr.out.cf 4 _ rfl)
                  have m5 := gr_cell g0 (hcell hSr.out.cf 5 _ rfl)
                  have m6 := gr_cell g0 (hcell hSr.out.cf 6 _ rfl)
                  have m7 := gr_cell g0 (hcell hSr.out.cf 7 _ rfl)
                  have m8 := gr_cell g0 (hcell hSr.out.cf 8 _ rfl)
                  have m9 := gr_cell g0 (hcell hSr.out.cyc 0 _ rfl)
                  clear hk00
                  go_wp2_with fail
                  refine (hhas.out _).mono ?_
                  rintro e w2 ⟨rfl, rfl⟩
                  go_wp2_with fail
                  refine (hhe.out _ (gB.out _) (HAx.out.grown g0)).mono ?_
                  rintro e w3 ⟨vf3, rfl, HA3, HB3⟩
                  have HB4 := hid ((gB.out _).trans HB3.out)
                  clear HB3 m0 m1 m2 m3 m4 m5 m6 m7 m8 m9 t1 t2 t3 g0
                  go_wp2_with fail
                  go_roundw
                  case rel => exact ⟨1 + 1, vf3, by omega, by go_num, HA3, HB4⟩
                  case measure => simp [intOf]
                · have hon := hid (Rd.off_lost (R := R) (k := k) (sw := 1) hv3.out)
                  clear hk00
                  go_wp2_with fail
                  refine (hhas.out _).mono ?_
                  rintro e w2 ⟨rfl, rfl⟩
                  go_wp2_with fail
                  go_roundw
                  case rel => exact ⟨1 + 1, vf, by omega, by go_num, hid (by rw [hon.out]; exact HAx.out.grown g0), hid (gB.out _)⟩
                  case measure => simp [intOf]
            · have hon := hid (Rd.off_sent (sw := 1) hsn)
              have hs0 : decide (0 ≤ R.sent k) = false := decide_eq_false hsn
              have g0 := gr_alloc (gr_refl wr none) (.cells #[.int .i64 p1, .int .u32 (k1 : Int), .int .i64 y1] 91)
              have t1 := gr_cell g0 t0
              have t2 := gr_cell g0 hNr.out
              go_wp2_with fail
              go_roundw
              case rel => exact ⟨1 + 1, vf, by omega, by go_num, hid (by rw [hon.out]; exact HAx.out.grown g0), hid (gB.out _)⟩
              case measure => simp [intOf]
        · obtain rfl : sw = 2 := by omega
          clear hs2
          have hfs := hR.frs hs k 2 (Nat.le_refl _)
          have hby := hid (hR.by_ hs k)
          obtain ⟨cc, hcc⟩ : ∃ c, Hid ((bestH (R.frTo k 2)).cr = c) := ⟨_, hid rfl⟩
          obtain ⟨by1, hby1⟩ : ∃ c, Hid (R.by_ k = c) := ⟨_, hid rfl⟩
          obtain ⟨hd1, hhd1⟩ : ∃ c, Hid (R.hrd k = c) := ⟨_, hid rfl⟩
          have hcl : Hid (Calls Tryz.prog 36 #[.pointer (some ⟨ab, 0, none⟩)] wr fun e w' => ∃ vf', e = .returned (.tuple #[.int .i64 by1, .int .u32 (cc : Int), .int .i64 (hd1 : Int)]) ∧ Hid (AlAt w' ab C R.E R.A vf') ∧ Hid (Below s3 wr w')) := hid (by
            rw [← hby1.out, ← hhd1.out, ← hcc.out]
            exact close_any s3 ab C R.E R.A vf (R.frTo k 2) wr HAx.out hfs.1 (fun x hx => (hfs.2 x hx).1) (by have := HBx.out.size; rw [hs3.out] at this; exact this))
          have hck0 : Hid (ClkC wo (ps k) (nthC R.l k)) := hid (by have := HLk.out.clk k hlt; rw [if_neg (Nat.lt_irrefl k)] at this; exact this)
          have hok := hid ((hR.ck (show k < R.l.length by rw [hn.out]; exact hlt)).2)
          clear hfs
          go_wp2_with fail
          refine hcl.out.mono ?_
          rintro e w2 ⟨vf2, rfl, HA2, HB2⟩
          have HB02 := hid (HBx.out.trans HB2.out)
          have HL2 := hid (HLk.out.below (by rw [hs3.out]; exact HB02.out))
          have hck2 : Hid (ClkC w2 (ps k) (nthC R.l k)) := hid (by have := HL2.out.clk k hlt; rw [if_neg (Nat.lt_irrefl k)] at this; exact this)
          by_cases hd0 : 0 < hd1
          · have hd2 : decide ((0 : Int) < (hd1 : Int)) = true := decide_eq_true (by omega)
            have haft : Hid (R.aft k = setR (nthC R.l k) (cy * C + R.E + R.A + 1) by1) := hid (by
              unfold Rd.aft
              rw [hhd1.out, if_pos hd0, hby1.out]
              unfold Rd.p
              rw [hcy.out, hcf.out])
            have hz1 := hR.span
            have hz2 := hR.pcy
            unfold Rd.p at hz2
            rw [hcf.out] at hz1 hz2
            rw [hcy.out] at hz2
            dsimp only at hz1 hz2
            have zc : w2.cell? ⟨w0 + 1, 0, none⟩ = some (.int .i64 cy) := hcell ((HB02.out.block _ (by have := lt_of_block hST.out.cyc; rw [hs3.out] at this; exact this)).trans hST.out.cyc) 0 _ rfl
            go_wp2_with fail
            refine (rset_any (ps k) ab (nthC R.l k) C R.E R.A cy by1 vf2 w2 hck2.out hok.out HA2.out hz2.2.1 hz1.1.1 (by omega) hR.EA.1 hR.EA.2 (by have := hby.out; rw [hby1.out] at this; have := hR.EA.2; omega)).mono ?_
            rintro e w3 ⟨rfl, HC3, G3⟩
            have HL3 := hid (HL2.out.set hlt (by rw [haft.out]; exact HC3.out) G3.out (k' := R.aft k))
            have hck3 : Hid (ClkC w3 (ps k) (R.aft k)) := hid (by rw [haft.out]; exact HC3.out)
            clear hz1 hz2 HL2 hck2 HC3 G3 zc
            go_wp2_with fail
            refine (mark_ok (ps k) _ _ _ w3 hck3.out).mono ?_
            rintro e w4 ⟨rfl, g4⟩
            have HL4 := hid (HL3.out.grown g4)
            clear g4
            go_wp2_with fail
            have htold := HL4.out.told
            change Code.wp Tryz.prog reg38 _ _ _
            refine reg38_any _ w4 wC.heap.size tb k vb vh va by1 (hd1 : Int) (R.aft k).m (R.aft k).b (R.aft k).r _ _ _ rfl rfl rfl rfl rfl rfl rfl _ _ _ htold HL4.out.tl (by have := hR.len.1; rw [hn.out] at this; omega) HL4.out.a3_ ?_
            intro x W Kl ub uh ua hA5
            rw [← hby1.out, ← hhd1.out] at hA5
            have HL5 := hid (HL4.out.tell hA5)
            obtain ⟨W5, hW5⟩ : ∃ W5, (((W.setCell ⟨tb, 3, none⟩ ub).setCell ⟨tb, 4, none⟩ uh).setCell ⟨tb, 5, none⟩ ua) = W5 := ⟨_, rfl⟩
            rw [hW5] at HL5 ⊢
            clear hW5 hA5 htold
            simp only [putL]
            have hn6 : n ≤ 6 := by have := hR.len.1; rw [hn.out] at this; exact this
            go_wp2_with fail
            go_roundw
            case rel => exact ⟨k + 1, ub, uh, ua, by omega, by go_num, hid (HL5.out.cong (fun j hj => by
              by_cases e : j = k
              · subst e
                rw [if_pos rfl, if_pos (Nat.lt_succ_self _)]
              · by_cases e2 : j < k
                · rw [if_neg e, if_pos e2, if_pos (by omega)]
                · rw [if_neg e, if_neg e2, if_neg (by omega)]))⟩
            case measure => simp [intOf]; omega
          · have hd2 : decide ((0 : Int) < (hd1 : Int)) = false := decide_eq_false (by omega)
            have haft : Hid (R.aft k = nthC R.l k) := hid (by
              unfold Rd.aft
              rw [hhd1.out, if_neg hd0])
            go_wp2_with fail
            refine (mark_ok (ps k) _ _ _ w2 hck2.out).mono ?_
            rintro e w4 ⟨rfl, g4⟩
            have HL4 := hid (HL2.out.grown g4)
            clear g4
            go_wp2_with fail
            have htold := HL4.out.told
            change Code.wp Tryz.prog reg38 _ _ _
            refine reg38_any _ w4 wC.heap.size tb k vb vh va by1 (hd1 : Int) (nthC R.l k).m (nthC R.l k).b (nthC R.l k).r _ _ _ rfl rfl rfl rfl rfl rfl rfl _ _ _ htold HL4.out.tl (by have := hR.len.1; rw [hn.out] at this; omega) HL4.out.a3_ ?_
            intro x W Kl ub uh ua hA5
            rw [← hby1.out, ← hhd1.out, ← haft.out] at hA5
            have HL5 := hid (HL4.out.tell hA5)
            obtain ⟨W5, hW5⟩ : ∃ W5, (((W.setCell ⟨tb, 3, none⟩ ub).setCell ⟨tb, 4, none⟩ uh).setCell ⟨tb, 5, none⟩ ua) = W5 := ⟨_, rfl⟩
            rw [hW5] at HL5 ⊢
            clear hW5 hA5 htold
            simp only [putL]
            have hn6 : n ≤ 6 := by have := hR.len.1; rw [hn.out] at this; exact this
            go_wp2_with fail
            go_roundw
            case rel => exact ⟨k + 1, ub, uh, ua, by omega, by go_num, hid (HL5.out.cong (fun j hj => by
              by_cases e : j = k
              · subst e
                rw [if_neg (Nat.lt_irrefl _), ← haft.out, if_pos (Nat.lt_succ_self _)]
              · by_cases e2 : j < k
                · rw [if_pos e2, if_pos (by omega)]
                · rw [if_neg e2, if_neg (by omega)]))⟩
            case measure => simp [intOf]; omega
    · obtain rfl : k = n := by omega
      clear hlt
      have HLe := hid (HLk.out.cong (f' := R.aft) (fun j hj => by rw [if_pos hj]))
      go_wp2_with fail
      exact hexit.out _ _ _ _ _ _ _ _ _ _ _ _ _ _ _ _ _ _ _ _ _ _ _ _ _ _ _ _ _ _ _ _ _ _ _ _ _ _ _ _ _ _ _ _ _ _ _ _ _ _ _ _ _ _ _ _ _ _ _ _ _ _ _ _ _ _ _ _ _ _ _ _ _ _ _ _ _ _ _ _ _ _ _ _ _ _ _ _ _ _ _ _ _ _ _ _ _ _ _ _ HLe.out
end Go.Proofs.YtckoaeoecjphiaaGreat
