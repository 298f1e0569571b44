/- Lemmas: comp.Close: a collection is compressed. -/
import Derived.Test.YtckoaeoecjphiaaGreatK16

/- comp.Close: a collection is compressed. -/
namespace Go.Proofs.YtckoaeoecjphiaaGreat
open Go.RowKit Go.Lib

set_option maxRecDepth 100000 in
set_option maxHeartbeats 4000000 in
theorem close_ok {P : Nat → Prop} (base b : Nat) (win first : Int) (rs cs : List Int) (cm : Nat) (l : Int) (w : World)
    (hC : Coll P w base b win first rs cs cm) (hf : -1125899906842624 ≤ first ∧ first ≤ 1125899906842624) (hw : 0 ≤ win ∧ win ≤ 1048576) (hl : first + win ≤ l) (hrs1 : rs ≠ []) (hcs1 : cs ≠ []) (hsm : rs.length ≤ 100 ∧ cs.length ≤ 100)
    (hrr : ∀ x ∈ rs, 0 ≤ x ∧ x ≤ 1048576) :
    Calls Tryz.prog 80 #[.pointer (some ⟨b, 0, none⟩), .int .i64 l] w fun e w' => e = .returned (.tuple #[resV (first + tolL rs) cm (mostL cs), .bool true]) ∧ Cmp w' b win false 0 (.slice none 0 0) (.slice none 0 0) 0 ∧ w.grownBy w' (some b) := by
  obtain ⟨vr, vc, hc, hrs, hcs, hb1, hb2, hap, hbb, _⟩ := hC.ex
  have hrl : 1 ≤ rs.length := by cases rs with | nil => exact absurd rfl hrs1 | cons x l => simp
  have hcl : 1 ≤ cs.length := by cases cs with | nil => exact absurd rfl hcs1 | cons x l => simp
  have A0 := gr_alloc (gr_refl w none) (.cells #[.int .i64 0, .int .u32 0, .int .i64 0] 91)
  have Hc := hid (hc.kept A0 (by simp))
  have Hr := hid (hrs.kept A0 (by cases vr.ownBlock <;> simp))
  have Hcy := hid (hcs.kept A0 (by cases vc.ownBlock <;> simp))
  have Hbl := hid hc.lt
  have Hbb := hid hbb
  have Hno := hid (And.intro hb1 (And.intro hb2 hap))
  clear hc hrs hcs A0 hb1 hb2 hap hbb hC
  have c0 := Hc.out.c0
  have c2 := Hc.out.c2
  obtain ⟨f0, f1⟩ := hf
  obtain ⟨m0, m1⟩ := hw
  obtain ⟨q0, q1⟩ := hsm
  have wf : IntKind.i64.wrap (first + win) = first + win := by rw [IntKind.wrap_i64]; omega
  go_enter Tryz.func80, Tryz.ntmps80
  go_wp2_with fail
  have hd : decide (l < first + win) = false := by simp; omega
  go_quiet ((go_at_call 132; exact Calls.quiet_of_same (open_same _ _ _ _ _ _ _ _ Hc.out)))
  clear wf hd c0 c2
  obtain ⟨w2, hw2⟩ : ∃ w2, (w.alloc (.cells #[.int .i64 0, .int .u32 0, .int .i64 0] 91)).drewN nq = w2 := ⟨_, rfl⟩
  have G2 : (w.alloc (.cells #[.int .i64 0, .int .u32 0, .int .i64 0] 91)).grownBy w2 none := hw2 ▸ gr_drewN (gr_refl _ none) nq
  rw [hw2]
  clear hw2
  obtain ⟨gr, capr, rfl⟩ := own_at Hr.out hrl
  obtain ⟨gc, capc, rfl⟩ := own_at Hcy.out hcl
  have Hc2 := hid (Hc.out.kept G2 (by simp))
  have Hr2 := hid (Hr.out.kept G2 (.inr (by simp [Value.ownBlock])))
  have Hcy2 := hid (Hcy.out.kept G2 (.inr (by simp [Value.ownBlock])))
  have Hz2 : Hid (b < w2.heap.size ∧ w.heap.size < w2.heap.size) := hid ⟨Hc2.out.lt, by have := G2.size; simp at this; omega⟩
  have d0 : Hid (w2.heap[w.heap.size]? = some (.cells #[.int .i64 0, .int .u32 0, .int .i64 0] 91)) := hid (gr_heap G2 (heap_alloc_new w _) (by simp))
  have B2 : Hid (w.grownBy w2 none) := hid (bx_gr G2)
  have k3 := Hc2.out.c3
  have H64 : Hid (In64 rs) := hid (fun x hx => by have := hrr x hx; omega)
  have ht := tolL_bounds hrr hrl
  obtain ⟨t, hte⟩ : ∃ t, Hid (tolL rs = t) := ⟨_, hid rfl⟩
  rw [hte.out] at ht
  obtain ⟨t0, t1⟩ := ht
  have HI2 := hid (own_ints' Hr2.out)
  clear Hc Hr Hcy G2
  go_wp2_with fail
  refine (tolerant_ok _ _ _ rs hrs1 (by omega) H64.out _ HI2.out).mono ?_
  rintro e w3 ⟨rfl, g3⟩
  rw [hte.out]
  have Hc3 := hid (Hc2.out.kept g3 (by simp))
  have Hcy3 := hid (Hcy2.out.kept g3 (.inr (by simp [Value.ownBlock])))
  have k2 := Hc3.out.c2
  have k4 := Hc3.out.c4
  have k5 := Hc3.out.c5
  clear k3
  go_wp2_with fail
  have wf : IntKind.i64.wrap (first + t) = first + t := by rw [IntKind.wrap_i64]; omega
  have HI3 : Hid (∀ W, w3.grownBy W none → Ints W.heap.size W (.slice (some ⟨gc, 0, none⟩) cs.length capc) cs) := hid (fun W G => own_ints' (Hcy3.out.kept G (.inr (by simp [Value.ownBlock]))))
  have HG3 : Hid (∀ W, w3.grownBy W none → Cmp W b win true first (.slice (some ⟨gr, 0, none⟩) rs.length capr) (.slice (some ⟨gc, 0, none⟩) cs.length capc) cm) := hid (fun W G => Hc3.out.kept G (by simp))
  have D0 : Hid (∀ W, w3.grownBy W none → W.heap[w.heap.size]? = some (.cells #[.int .i64 0, .int .u32 0, .int .i64 0] 91)) := hid (fun W G => gr_heap G (gr_heap g3 d0.out (by simp)) (by simp))
  have B3 : Hid (w.grownBy w3 none) := hid (gr_trans B2.out g3)
  have A3 := gr_alloc (gr_refl w3 none) (.cells #[.int .i64 0, .int .u32 0, .int .i64 0] 91)
  have a2 := gr_cell A3 k2
  have a4 := gr_cell A3 k4
  have a5 := gr_cell A3 k5
  have Hsz : Hid (w2.heap.size ≤ w3.heap.size) := hid g3.size
  clear Hno Hc2 Hr2 Hcy2 d0 B2 H64 HI2 g3 A3
  obtain ⟨y, hy⟩ : ∃ y, Hid (mostL cs = y) := ⟨_, hid rfl⟩
  have HR : Hid ((b < w.heap.size ∧ base ≤ b) ∧ (b < w2.heap.size ∧ w.heap.size < w2.heap.size) ∧ w2.heap.size ≤ w3.heap.size ∧ tolL rs = t ∧ (first + win ≤ l) ∧ (∀ W, w3.grownBy W none → W.heap[w.heap.size]? = some (.cells #[.int .i64 0, .int .u32 0, .int .i64 0] 91)) ∧ w.grownBy w3 none) := hid ⟨⟨Hbl.out, Hbb.out⟩, Hz2.out, Hsz.out, hte.out, hl, D0.out, B3.out⟩
  clear Hbl Hbb Hz2 hte Hsz D0 B3 hl hrs1 hrr hrl hcl Hc3 Hcy3 f0 f1 m0 m1 q0 t0 t1
  apply wp_behind1 (fun g W => Hid (w3.grownBy W none ∧ w3.heap.size ≤ g ∧ g < W.heap.size ∧ W.heap[g]? = some (.cells #[.int .i64 (first + t), .int .u32 (cm : Int), .int .i64 y] 91)))
  case h =>
    go_region_with (go_at_call 134; refine (most_any _ _ _ cs hcs1 (by omega) _ (HI3.out _ ?_)).mono ?_; (first | exact gr_drew (gr_refl w3 none) | exact gr_alloc (gr_drew (gr_refl w3 none)) _); rintro e w5 ⟨rfl, g5⟩; rw [hy.out]; have G5 : Hid (w3.grownBy w5 none) := hid (by first | exact gr_trans (gr_drew (gr_refl w3 none)) g5 | exact gr_trans (gr_alloc (gr_drew (gr_refl w3 none)) _) g5); have m2 := (HG3.out _ G5.out).c2; have m5 := (HG3.out _ G5.out).c5; have A5 := gr_alloc G5.out (.cells #[.int .i64 0, .int .u32 0, .int .i64 0] 91); have n2 := (HG3.out _ A5).c2; have n5 := (HG3.out _ A5).c5; clear A5; try (have D8 : w5.heap[w3.heap.size]? = some (.cells #[.int .i64 0, .int .u32 0, .int .i64 0] 91) := gr_heap g5 (heap_alloc_new _ _) (by simp); have z0 : w5.frozen? ⟨w3.heap.size, 0, none⟩ = false := (by simp [World.frozen?, D8]); have z1 : w5.frozen? ⟨w3.heap.size, 1, none⟩ = false := (by simp [World.frozen?, D8]); have z2 : w5.frozen? ⟨w3.heap.size, 2, none⟩ = false := (by simp [World.frozen?, D8]); have e0 : w5.cell? ⟨w3.heap.size, 0, none⟩ = some (.int .i64 0) := (by simp [World.cell?, D8]); have e1 : w5.cell? ⟨w3.heap.size, 1, none⟩ = some (.int .u32 0) := (by simp [World.cell?, D8]); have e2 : w5.cell? ⟨w3.heap.size, 2, none⟩ = some (.int .i64 0) := (by simp [World.cell?, D8]); have D9 : Hid (w5.heap[w3.heap.size]? = some (.cells #[.int .i64 0, .int .u32 0, .int .i64 0] 91)) := hid D8; clear D8); clear g5)
    all_goals first
      | (obtain ⟨g8, hg8⟩ : ∃ g, g = w5.heap.size := ⟨_, rfl⟩
         rw [← hg8]
         refine Exists.intro g8 (And.intro rfl (hid ⟨gr_alloc G5.out _, by have := G5.out.size; omega, by simp [hg8], by rw [hg8]; exact heap_alloc_new _ _⟩)))
      | (obtain ⟨g8, hg8⟩ : ∃ g, g = w3.heap.size := ⟨_, rfl⟩
         have hD := D9.out
         have hlt := lt_of_block hD
         rw [← hg8] at hD hlt ⊢
         refine Exists.intro g8 (And.intro rfl (hid ⟨gr_setNew (gr_setNew (gr_setNew G5.out (by omega) 0 _) (by omega) 1 _) (by omega) 2 _, by omega, by simpa [World.setCell] using hlt, cells3 hD⟩)))
  case k =>
    intro g8 w6 hS
    have Hc6 := hid (HG3.out _ hS.out.1)
    have k0 := Hc6.out.c0
    have k1 := Hc6.out.c1
    have k2 := Hc6.out.c2
    have k3 := Hc6.out.c3
    have k4 := Hc6.out.c4
    have k5 := Hc6.out.c5
    have z0 := Hc6.out.f 0
    have z1 := Hc6.out.f 1
    have z2 := Hc6.out.f 2
    have z3 := Hc6.out.f 3
    have z4 := Hc6.out.f 4
    have z5 := Hc6.out.f 5
    have r0 : w6.cell? ⟨g8, 0, none⟩ = some (.int .i64 (first + t)) := by simp [World.cell?, hS.out.2.2.2]
    have r1 : w6.cell? ⟨g8, 1, none⟩ = some (.int .u32 (cm : Int)) := by simp [World.cell?, hS.out.2.2.2]
    have r2 : w6.cell? ⟨g8, 2, none⟩ = some (.int .i64 y) := by simp [World.cell?, hS.out.2.2.2]
    have hgb : g8 ≠ b := by have := HR.out.2.1; have := hS.out.2.1; have := HR.out.2.2.1; omega
    have hgw : g8 ≠ w.heap.size := by have := HR.out.2.1; have := hS.out.2.1; have := HR.out.2.2.1; omega
    have hbw : b ≠ w.heap.size := by have := HR.out.1; omega
    have hD := HR.out.2.2.2.2.2.1 _ hS.out.1
    have v0 : w6.cell? ⟨w.heap.size, 0, none⟩ = some (.int .i64 0) := by simp [World.cell?, hD]
    have v1 : w6.cell? ⟨w.heap.size, 1, none⟩ = some (.int .u32 0) := by simp [World.cell?, hD]
    have v2 : w6.cell? ⟨w.heap.size, 2, none⟩ = some (.int .i64 0) := by simp [World.cell?, hD]
    have y0 : w6.frozen? ⟨w.heap.size, 0, none⟩ = false := by simp [World.frozen?, hD]
    have y1 : w6.frozen? ⟨w.heap.size, 1, none⟩ = false := by simp [World.frozen?, hD]
    have y2 : w6.frozen? ⟨w.heap.size, 2, none⟩ = false := by simp [World.frozen?, hD]
    clear hD
    have hGz := gr_none (row := some b) (gr_trans HR.out.2.2.2.2.2.2 hS.out.1)
    have HGz := hid hGz
    clear hGz
    go_wp2_with fail
    refine bodyPost_ret (v := .tuple #[resV (first + t) cm y, .bool true]) ?_ rfl ⟨?_, ?_, ?_⟩
    · simp [results, Tryz.results80, go_sem, v0, v1, v2]
    · rw [HR.out.2.2.2.1, hy.out]
    · exact (((Hc6.out.laid win false 0 (.slice none 0 0) (.slice none 0 0) 0).other hbw).other hbw).other hbw
    · exact gr_setNew (gr_setNew (gr_setNew (gr_setRow (gr_setRow (gr_setRow (gr_setRow (gr_setRow (gr_setRow HGz.out 0 _) 1 _) 2 _) 3 _) 4 _) 5 _) (Nat.le_refl _) 0 _) (Nat.le_refl _) 1 _) (Nat.le_refl _) 2 _
end Go.Proofs.YtckoaeoecjphiaaGreat
