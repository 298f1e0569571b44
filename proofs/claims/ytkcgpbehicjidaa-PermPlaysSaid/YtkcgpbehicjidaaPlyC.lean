/- The document's own Take: the list with the frame, in its order. -/
import Derived.Test.YtkcgpbehicjidaaPlyB
namespace Go.Proofs.Ytkcgpbehicjidaa
open Go.RowKit Go.Lib

theorem Try.info_held : (Try.prog.info? 60).map (fun i => (i.zero, i.size, i.bytes)) = some (some (.agg #[.int .i64 0, .int .i64 0, .int .i64 0, .int .u32 0, .int .i64 0, .int .i64 0]), 6, 48) := by kernel_rfl
theorem heap_new2 (w : World) (o o' : Obj) : ((w.alloc o).alloc o').heap[w.heap.size + 1]? = some o' := by
  have h := heap_alloc_new (w.alloc o) o'
  have e : (w.alloc o).heap.size = w.heap.size + 1 := by simp
  rw [e] at h
  exact h
theorem own_step {a b c : World} {o : Obj} {v : Value} (h : a.grownBy b none) (g : (b.alloc o).grownBy c v.ownBlock) (hv : ∀ k, v.ownBlock = some k → a.heap.size ≤ k) : a.grownBy c none :=
  ⟨g.os.trans h.os, g.tape.trans h.tape, g.output.trans h.output, Nat.le_trans h.size (by have := g.size; simp at this; omega), fun k hk _ => ((g.block k (by have := h.size; simp; omega) (fun e => by have := hv k e.symm; omega)).trans ((World.grownBy_alloc b o none).block k (by have := h.size; omega) (by simp))).trans (h.block k hk (by simp))⟩
/-- Nothing is laid in yet: no more than n are there. -/
def Few (s : List It × Bool) (n : Nat) : Prop := s.2 = false → s.1.length ≤ n
theorem step_len (x : It) (s : List It × Bool) (y : It) (n : Nat) (h : s.1.length ≤ n + 1) (hf : s.2 = false → s.1.length ≤ n) : (stepH x s y).1.length ≤ n + 2 ∧ ((stepH x s y).2 = false → (stepH x s y).1.length ≤ n + 1) := by
  unfold stepH
  split
  · rename_i hh
    have := hf hh.1
    simp
    omega
  · constructor
    · simp; omega
    · intro h2; have := hf h2; simp; omega
theorem take_ith (ls : List It) (i : Nat) (h : i < ls.length) : ls.take (i + 1) = ls.take i ++ [ith ls i] := by
  rw [List.take_add_one, List.getElem?_eq_getElem h]
  simp [ith, h]
theorem ls_cells {W : World} {g off : Nat} {ls : List It} {i : Nat} {y : It} (hy : ith ls i = y) (h : ∀ c, c < 6 → W.cell? ⟨g, off + i * 6 + c, none⟩ = (hC (ith ls i))[c]?) :
    W.cell? ⟨g, off + i * 6, none⟩ = some (.int .i64 y.k) ∧ W.cell? ⟨g, off + i * 6 + 1, none⟩ = some (.int .i64 y.fr) ∧ W.cell? ⟨g, off + i * 6 + 2, none⟩ = some (.int .i64 y.cy) ∧ W.cell? ⟨g, off + i * 6 + 3, none⟩ = some (.int .u32 y.cr) ∧ W.cell? ⟨g, off + i * 6 + 4, none⟩ = some (.int .i64 y.cl) ∧ W.cell? ⟨g, off + i * 6 + 5, none⟩ = some (.int .i64 y.t) := by
  rw [hy] at h
  exact ⟨h 0 (by omega), h 1 (by omega), h 2 (by omega), h 3 (by omega), h 4 (by omega), h 5 (by omega)⟩

set_option maxRecDepth 100000 in
set_option maxHeartbeats 8000000 in
theorem rtake_ok (m ba r dl t k fr cy cr cl d num : Int) (ls : List It) (a : Option Addr) (cap : Nat) (w : World) (ho : ClockOk m ba r) (hL : LS w (.slice a ls.length cap) ls) (hl : ls.length < 64) (hr : rightB k fr cy cr cl = true) (hcl : cl ≤ dl) (hd : Due10 m ba r t cl dl d 0) :
    Calls Try.prog 16 #[.slice a ls.length cap, .int .i64 dl, rclk m ba r, .int .i64 t, .agg #[.int .i64 k, .int .i64 fr, .int .i64 cy, .int .u32 cr, .int .i64 cl]] w fun e w' =>
      ∃ v2, e = .returned (.tuple #[v2, .int .i64 d, .int .i64 0]) ∧ LS w' v2 (insH ⟨d, fr, 0, num + 1, k, fr, cy, cr, cl⟩ ls) ∧ (∀ k, v2.ownBlock = some k → w.heap.size ≤ k ∧ k < w'.heap.size) ∧ w.grownBy w' none := by
  obtain ⟨i0, hi, hz0, hz1, hz2⟩ := info_parts Try.info_held
  obtain ⟨x, hx⟩ : ∃ x : It, Hid (x = ⟨d, fr, 0, num + 1, k, fr, cy, cr, cl⟩) := ⟨_, hid rfl⟩
  have hxd : x.t = d ∧ x.fr = fr := by rw [hx.out]; exact ⟨rfl, rfl⟩
  have Hxd := hid hxd
  have Hxc : Hid (hC x = [.int .i64 k, .int .i64 fr, .int .i64 cy, .int .u32 cr, .int .i64 cl, .int .i64 d]) := hid (by rw [hx.out]; rfl)
  rw [← hx.out]
  have HL := hid hL
  have Hr := hid hr
  have Hd := hid hd
  have Ho := hid ho
  obtain ⟨n, hn⟩ : ∃ n, Hid (ls.length = n) := ⟨_, hid rfl⟩
  rw [hn.out] at hl
  have hn64 : ((n : Int) == 64) = false := by simp; omega
  clear hL hr hd ho hxd
  rw [hn.out]
  go_enter Try.func16, Try.ntmps16
  go_wp2_with fail
  refine (rright_any k fr cy cr cl _).mono ?_
  rintro e w1 ⟨rfl, g1⟩
  rw [Hr.out]
  have D0 : w1.heap[w.heap.size]? = some (.cells #[.int .i64 m, .int .i64 ba, .int .i64 r] 53) := gr_heap g1 (gr_heap (gr_alloc (gr_refl _ none) _) (heap_alloc_new w _) (by simp)) (by simp)
  have D1 : w1.heap[w.heap.size + 1]? = some (.cells #[.int .i64 k, .int .i64 fr, .int .i64 cy, .int .u32 cr, .int .i64 cl] 37) := gr_heap g1 (heap_new2 w _ _) (by simp)
  have G1 := hid (bx_gr2 g1)
  have HD1 := hid D1
  have y0 := cell_of D0 0 (.int .i64 m) rfl
  have y1 := cell_of D0 1 (.int .i64 ba) rfl
  have y2 := cell_of D0 2 (.int .i64 r) rfl
  have y3 := cell_of D1 4 (.int .i64 cl) rfl
  clear g1 D0 D1
  go_wp2_with fail
  refine (rdue_any m ba r t cl dl d 0 _ Ho.out Hd.out).mono ?_
  rintro e w2 ⟨rfl, g2⟩
  have G2 := hid (gr_trans G1.out g2)
  have HD2 := hid (gr_heap g2 HD1.out (by simp))
  clear g2 y0 y1 y2 y3 G1 HD1
  obtain ⟨B, hB⟩ : ∃ B, Hid (w2.heap.size = B) := ⟨_, hid rfl⟩
  have hwB : w.heap.size + 1 < B := by have := lt_of_block HD2.out; rw [← hB.out]; exact this
  have HwB := hid hwB
  have HL2 : Hid (LS w2 (.slice a n cap) ls) := hid (by
    have h1 := HL.out
    rw [hn.out] at h1
    by_cases h0 : ls = []
    · subst h0
      have := hn.out
      simp at this
      subst this
      exact .inl ⟨rfl, _, _, rfl⟩
    · have hpos : 0 < ls.length := List.length_pos_iff.2 h0
      exact h1.keep G2.out.size fun k hk => G2.out.block k (h1.lt hpos k hk) (by simp))
  clear hwB HL
  go_wp2_with fail
  go_loopw [15, 16, 17] (fun vo vp vi wr => ∃ (i : Nat) (s : List It × Bool), vi = .int .i64 i ∧ i ≤ n ∧ vp = .bool s.2 ∧ Hid (s = (ls.take i).foldl (stepH x) ([], false)) ∧ s.1.length ≤ i + 1 ∧ Hid (Few s i) ∧ Hid (wr.ownsRow B 60 6 vo s.1.length (flatH s.1)) ∧ Hid (w2.grownBy wr none)) (fun _ _ vi _ => n - (intOf vi).toNat)
  case atStart => exact ⟨0, ([], false), rfl, Nat.zero_le _, rfl, hid rfl, Nat.zero_le _, hid fun _ => Nat.zero_le _, hid (World.ownsRow_nil _ _ _ _), hid (gr_refl _ _)⟩
  case round =>
    obtain ⟨i, ⟨os, p⟩, rfl, hin, rfl, HS, hsl, HF, Hor, HB⟩ := hrel
    by_cases hlt : i < n
    · have hsn := step_len x (os, p) (ith ls i) i hsl HF.out
      have Hsn := hid hsn
      have HS' : Hid (stepH x (os, p) (ith ls i) = (ls.take (i + 1)).foldl (stepH x) ([], false)) := hid (by
        rw [take_ith ls i (by rw [hn.out]; exact hlt), List.foldl_append, ← HS.out]
        rfl)
      have hsl' : os.length ≤ i + 1 := hsl
      clear hsn hsl
      rcases HL2.out with ⟨h0, _⟩ | ⟨g, off, c', e, hcap, hg, hcell⟩
      · exfalso; have := hn.out; rw [h0] at this; simp at this; omega
      obtain ⟨rfl, -, rfl⟩ := Value.slice.inj e
      have hnc : n ≤ cap := by rw [← hn.out]; exact hcap
      obtain ⟨y, hy⟩ : ∃ y, Hid (ith ls i = y) := ⟨_, hid rfl⟩
      have key : ∀ c, c < 6 → wr.cell? ⟨g, off + i * 6 + c, none⟩ = (hC (ith ls i))[c]? := fun c hc => by
        have h1 := hcell i (by rw [hn.out]; exact hlt) c hc
        have h2 : c < (hC (ith ls i)).length := hc
        rw [List.getElem?_eq_getElem h2] at h1 ⊢
        exact gr_cell HB.out h1
      obtain ⟨q0, q1, q2, q3, q4, q5⟩ := ls_cells (W := wr) hy.out key
      have hdt := Hxd.out.1
      have hdf := Hxd.out.2
      have Hgt : Hid (gtB y x = decide (d < y.t ∨ y.t = d ∧ fr < y.fr)) := hid (by unfold gtB; rw [hdt, hdf])
      clear hdt hdf
      cases p with
      | true =>
        have hst : stepH x (os, true) y = (os ++ [y], true) := if_neg (fun e => by cases e.1)
        have b1 := cell_of (gr_heap HB.out HD2.out (by simp)) 1 (.int .i64 fr) rfl
        have HD3 := hid (gr_heap HB.out HD2.out (by simp))
        have HS4 : Hid ((os ++ [y], true) = (ls.take (i + 1)).foldl (stepH x) ([], false)) := hid (by rw [← HS'.out, hy.out, hst])
        have hl4 : ((os ++ [y], true)).1.length ≤ (i + 1) + 1 := by have := Hsn.out.1; rw [hy.out, hst] at this; exact this
        have HF4 : Hid (Few ((os ++ [y], true)) (i + 1)) := hid (by have := Hsn.out.2; rw [hy.out, hst] at this; exact this)
        clear hcell key e hst
        go_wp2_with fail
        go_quiet (fail)
        obtain ⟨w3, hw3⟩ : ∃ w3, wr.drewN nq = w3 := ⟨_, rfl⟩
        have g3 : wr.grownBy w3 none := hw3 ▸ gr_drewN (gr_refl wr none) nq
        rw [hw3]
        have HB3 := hid (gr_trans HB.out g3)
        have HB3s : Hid (B ≤ w3.heap.size) := hid (by rw [← hB.out]; exact HB3.out.size)
        have Hor3 := hid (Hor.out.kept g3 (by cases u15.ownBlock <;> simp))
        have r0 := gr_cell g3 q0
        have r1 := gr_cell g3 q1
        have r2 := gr_cell g3 q2
        have r3 := gr_cell g3 q3
        have r4 := gr_cell g3 q4
        have r5 := gr_cell g3 q5
        clear hw3 g3 q0 q1 q2 q3 q4 q5 HB Hor b1
        go_wp2_with (at_builtin; refine wpList_append_own_at _ rfl (.tmp 87) (.tmp 92) 54 rfl B 60 i0 (.agg #[.int .i64 0, .int .i64 0, .int .i64 0, .int .u32 0, .int .i64 0, .int .i64 0]) 6 48 Try.underlying54 hi hz0 hz1 hz2 rfl (by decide) _ _ _ rfl (Hor3.out.alloc _) ⟨w3.heap.size, 0, none⟩ 1 1 [.int .i64 y.k, .int .i64 y.fr, .int .i64 y.cy, .int .u32 y.cr, .int .i64 y.cl, .int .i64 y.t] rfl rfl (cells_new _ _ _) (by simp [Value.oneCell']) (by unfold maxLen; omega) (by omega) (by have := HB3s.out; simp; omega) ?_; intro v4 w4 hown4 hg4 _ hat4; have Hor4 : Hid (w4.ownsRow B 60 6 v4 (os ++ [y]).length (flatH (os ++ [y]))) := hid (by rw [flatH_snoc, List.length_append]; exact hown4); have HB4 : Hid (w2.grownBy w4 none) := hid (own_step HB3.out hg4 (fun k hk => by have := (Hor3.out.lt k hk).1; have := hB.out; omega)); clear hown4 hg4 hat4)
        go_roundw
        case rel => exact ⟨i + 1, (os ++ [y], true), by go_num, by omega, rfl, HS4, hl4, HF4, Hor4, HB4⟩
        case measure => simp [intOf]; omega
      | false =>
        have hos : os.length ≤ i := HF.out rfl
        rcases Int.lt_trichotomy y.t d with hyt | hyt | hyt
        · have hne : ¬ y.t = d := by omega
          have hng : ¬ d < y.t := by omega
          have hst : stepH x (os, false) y = (os ++ [y], false) := if_neg (fun e => by have h1 := e.2; rw [Hgt.out] at h1; simp only [decide_eq_true_eq] at h1; omega)
          have b1 := cell_of (gr_heap HB.out HD2.out (by simp)) 1 (.int .i64 fr) rfl
          have HD3 := hid (gr_heap HB.out HD2.out (by simp))
          have HS4 : Hid ((os ++ [y], false) = (ls.take (i + 1)).foldl (stepH x) ([], false)) := hid (by rw [← HS'.out, hy.out, hst])
          have hl4 : ((os ++ [y], false)).1.length ≤ (i + 1) + 1 := by have := Hsn.out.1; rw [hy.out, hst] at this; exact this
          have HF4 : Hid (Few ((os ++ [y], false)) (i + 1)) := hid (by have := Hsn.out.2; rw [hy.out, hst] at this; exact this)
          clear hcell key e hst
          go_wp2_with fail
          go_quiet (fail)
          obtain ⟨w3, hw3⟩ : ∃ w3, wr.drewN nq = w3 := ⟨_, rfl⟩
          have g3 : wr.grownBy w3 none := hw3 ▸ gr_drewN (gr_refl wr none) nq
          rw [hw3]
          have HB3 := hid (gr_trans HB.out g3)
          have HB3s : Hid (B ≤ w3.heap.size) := hid (by rw [← hB.out]; exact HB3.out.size)
          have Hor3 := hid (Hor.out.kept g3 (by cases u15.ownBlock <;> simp))
          have r0 := gr_cell g3 q0
          have r1 := gr_cell g3 q1
          have r2 := gr_cell g3 q2
          have r3 := gr_cell g3 q3
          have r4 := gr_cell g3 q4
          have r5 := gr_cell g3 q5
          clear hw3 g3 q0 q1 q2 q3 q4 q5 HB Hor b1
          go_wp2_with (at_builtin; refine wpList_append_own_at _ rfl (.tmp 87) (.tmp 92) 54 rfl B 60 i0 (.agg #[.int .i64 0, .int .i64 0, .int .i64 0, .int .u32 0, .int .i64 0, .int .i64 0]) 6 48 Try.underlying54 hi hz0 hz1 hz2 rfl (by decide) _ _ _ rfl (Hor3.out.alloc _) ⟨w3.heap.size, 0, none⟩ 1 1 [.int .i64 y.k, .int .i64 y.fr, .int .i64 y.cy, .int .u32 y.cr, .int .i64 y.cl, .int .i64 y.t] rfl rfl (cells_new _ _ _) (by simp [Value.oneCell']) (by unfold maxLen; omega) (by omega) (by have := HB3s.out; simp; omega) ?_; intro v4 w4 hown4 hg4 _ hat4; have Hor4 : Hid (w4.ownsRow B 60 6 v4 (os ++ [y]).length (flatH (os ++ [y]))) := hid (by rw [flatH_snoc, List.length_append]; exact hown4); have HB4 : Hid (w2.grownBy w4 none) := hid (own_step HB3.out hg4 (fun k hk => by have := (Hor3.out.lt k hk).1; have := hB.out; omega)); clear hown4 hg4 hat4)
          go_roundw
          case rel => exact ⟨i + 1, (os ++ [y], false), by go_num, by omega, rfl, HS4, hl4, HF4, Hor4, HB4⟩
          case measure => simp [intOf]; omega
        · subst hyt
          have hng : ¬ y.t < y.t := by omega
          by_cases hyf : fr < y.fr
          · have hst : stepH x (os, false) y = (os ++ [x] ++ [y], true) := if_pos ⟨rfl, by rw [Hgt.out]; exact decide_eq_true (.inr ⟨rfl, hyf⟩)⟩
            have b1 := cell_of (gr_heap HB.out HD2.out (by simp)) 1 (.int .i64 fr) rfl
            have HD3 := hid (gr_heap HB.out HD2.out (by simp))
            have HS4 : Hid ((os ++ [x] ++ [y], true) = (ls.take (i + 1)).foldl (stepH x) ([], false)) := hid (by rw [← HS'.out, hy.out, hst])
            have hl4 : ((os ++ [x] ++ [y], true)).1.length ≤ (i + 1) + 1 := by have := Hsn.out.1; rw [hy.out, hst] at this; exact this
            have HF4 : Hid (Few ((os ++ [x] ++ [y], true)) (i + 1)) := hid (by have := Hsn.out.2; rw [hy.out, hst] at this; exact this)
            have key2 : ∀ c, c < 6 → w2.cell? ⟨g, off + i * 6 + c, none⟩ = (hC (ith ls i))[c]? := fun c hc => hcell i (by rw [hn.out]; exact hlt) c hc
            clear hcell key e hst
            go_wp2_with fail
            go_quiet (fail)
            obtain ⟨w3, hw3⟩ : ∃ w3, wr.drewN nq = w3 := ⟨_, rfl⟩
            have g3 : wr.grownBy w3 none := hw3 ▸ gr_drewN (gr_refl wr none) nq
            rw [hw3]
            have HB3 := hid (gr_trans HB.out g3)
            have HB3s : Hid (B ≤ w3.heap.size) := hid (by rw [← hB.out]; exact HB3.out.size)
            have Hor3 := hid (Hor.out.kept g3 (by cases u15.ownBlock <;> simp))
            have HD4 := hid (gr_heap g3 HD3.out (by simp))
            have b0 := cell_of HD4.out 0 (.int .i64 k) rfl
            replace b1 := cell_of HD4.out 1 (.int .i64 fr) rfl
            have b2 := cell_of HD4.out 2 (.int .i64 cy) rfl
            have b3 := cell_of HD4.out 3 (.int .u32 cr) rfl
            have b4 := cell_of HD4.out 4 (.int .i64 cl) rfl
            have r0 := gr_cell g3 q0
            have r1 := gr_cell g3 q1
            have r2 := gr_cell g3 q2
            have r3 := gr_cell g3 q3
            have r4 := gr_cell g3 q4
            have r5 := gr_cell g3 q5
            obtain ⟨p0, p1, p2, p3, p4, p5⟩ := ls_cells (W := w2) hy.out key2
            clear hw3 g3 q0 q1 q2 q3 q4 q5 HB Hor key2
            go_wp2_with (first
              | (at_builtin; refine wpList_append_own_at _ rfl (.tmp 81) (.tmp 85) 54 rfl B 60 i0 (.agg #[.int .i64 0, .int .i64 0, .int .i64 0, .int .u32 0, .int .i64 0, .int .i64 0]) 6 48 Try.underlying54 hi hz0 hz1 hz2 rfl (by decide) _ _ _ rfl (Hor3.out.alloc _) ⟨w3.heap.size, 0, none⟩ 1 1 [.int .i64 k, .int .i64 fr, .int .i64 cy, .int .u32 cr, .int .i64 cl, .int .i64 y.t] rfl rfl (cells_new _ _ _) (by simp [Value.oneCell']) (by unfold maxLen; omega) (by omega) (by have := HB3s.out; simp; omega) ?_; intro v4 w4 hown4 hg4 _ hat4; have Hor4 : Hid (w4.ownsRow B 60 6 v4 (os ++ [x]).length (flatH (os ++ [x]))) := hid (by rw [flatH_snoc, List.length_append, Hxc.out]; exact hown4); have HB4 : Hid (w2.grownBy w4 none) := hid (own_step HB3.out hg4 (fun k hk => by have := (Hor3.out.lt k hk).1; have := hB.out; omega)); have HB4s : Hid (B ≤ w4.heap.size) := hid (by rw [← hB.out]; exact HB4.out.size); have Hl4 : Hid ((os ++ [x]).length = os.length + 1) := hid (by simp); replace r0 := gr_cell HB4.out p0; replace r1 := gr_cell HB4.out p1; replace r2 := gr_cell HB4.out p2; replace r3 := gr_cell HB4.out p3; replace r4 := gr_cell HB4.out p4; replace r5 := gr_cell HB4.out p5; clear hown4 hg4 hat4 p0 p1 p2 p3 p4 p5 b0 b1 b2 b3 b4)
              | (at_builtin; refine wpList_append_own_at _ rfl (.tmp 87) (.tmp 92) 54 rfl B 60 i0 (.agg #[.int .i64 0, .int .i64 0, .int .i64 0, .int .u32 0, .int .i64 0, .int .i64 0]) 6 48 Try.underlying54 hi hz0 hz1 hz2 rfl (by decide) _ _ _ rfl (Hor4.out.alloc _) ⟨w4.heap.size, 0, none⟩ 1 1 [.int .i64 y.k, .int .i64 y.fr, .int .i64 y.cy, .int .u32 y.cr, .int .i64 y.cl, .int .i64 y.t] rfl rfl (cells_new _ _ _) (by simp [Value.oneCell']) (by have := Hl4.out; unfold maxLen; omega) (by have := Hl4.out; omega) (by have := HB4s.out; simp; omega) ?_; intro v5 w5 hown5 hg5 _ hat5; have Hor5 : Hid (w5.ownsRow B 60 6 v5 (os ++ [x] ++ [y]).length (flatH (os ++ [x] ++ [y]))) := hid (by rw [flatH_snoc, List.length_append]; exact hown5); have HB5 : Hid (w2.grownBy w5 none) := hid (own_step HB4.out hg5 (fun k hk => by have := (Hor4.out.lt k hk).1; have := hB.out; omega)); clear hown5 hg5 hat5))
            go_roundw
            case rel => exact ⟨i + 1, (os ++ [x] ++ [y], true), by go_num, by omega, rfl, HS4, hl4, HF4, Hor5, HB5⟩
            case measure => simp [intOf]; omega
          · have hst : stepH x (os, false) y = (os ++ [y], false) := if_neg (fun e => by have h1 := e.2; rw [Hgt.out] at h1; simp only [decide_eq_true_eq] at h1; omega)
            have b1 := cell_of (gr_heap HB.out HD2.out (by simp)) 1 (.int .i64 fr) rfl
            have HD3 := hid (gr_heap HB.out HD2.out (by simp))
            have HS4 : Hid ((os ++ [y], false) = (ls.take (i + 1)).foldl (stepH x) ([], false)) := hid (by rw [← HS'.out, hy.out, hst])
            have hl4 : ((os ++ [y], false)).1.length ≤ (i + 1) + 1 := by have := Hsn.out.1; rw [hy.out, hst] at this; exact this
            have HF4 : Hid (Few ((os ++ [y], false)) (i + 1)) := hid (by have := Hsn.out.2; rw [hy.out, hst] at this; exact this)
            clear hcell key e hst
            go_wp2_with fail
            go_quiet (fail)
            obtain ⟨w3, hw3⟩ : ∃ w3, wr.drewN nq = w3 := ⟨_, rfl⟩
            have g3 : wr.grownBy w3 none := hw3 ▸ gr_drewN (gr_refl wr none) nq
            rw [hw3]
            have HB3 := hid (gr_trans HB.out g3)
            have HB3s : Hid (B ≤ w3.heap.size) := hid (by rw [← hB.out]; exact HB3.out.size)
            have Hor3 := hid (Hor.out.kept g3 (by cases u15.ownBlock <;> simp))
            have r0 := gr_cell g3 q0
            have r1 := gr_cell g3 q1
            have r2 := gr_cell g3 q2
            have r3 := gr_cell g3 q3
            have r4 := gr_cell g3 q4
            have r5 := gr_cell g3 q5
            clear hw3 g3 q0 q1 q2 q3 q4 q5 HB Hor b1
            go_wp2_with (at_builtin; refine wpList_append_own_at _ rfl (.tmp 87) (.tmp 92) 54 rfl B 60 i0 (.agg #[.int .i64 0, .int .i64 0, .int .i64 0, .int .u32 0, .int .i64 0, .int .i64 0]) 6 48 Try.underlying54 hi hz0 hz1 hz2 rfl (by decide) _ _ _ rfl (Hor3.out.alloc _) ⟨w3.heap.size, 0, none⟩ 1 1 [.int .i64 y.k, .int .i64 y.fr, .int .i64 y.cy, .int .u32 y.cr, .int .i64 y.cl, .int .i64 y.t] rfl rfl (cells_new _ _ _) (by simp [Value.oneCell']) (by unfold maxLen; omega) (by omega) (by have := HB3s.out; simp; omega) ?_; intro v4 w4 hown4 hg4 _ hat4; have Hor4 : Hid (w4.ownsRow B 60 6 v4 (os ++ [y]).length (flatH (os ++ [y]))) := hid (by rw [flatH_snoc, List.length_append]; exact hown4); have HB4 : Hid (w2.grownBy w4 none) := hid (own_step HB3.out hg4 (fun k hk => by have := (Hor3.out.lt k hk).1; have := hB.out; omega)); clear hown4 hg4 hat4)
            go_roundw
            case rel => exact ⟨i + 1, (os ++ [y], false), by go_num, by omega, rfl, HS4, hl4, HF4, Hor4, HB4⟩
            case measure => simp [intOf]; omega
        · have hst : stepH x (os, false) y = (os ++ [x] ++ [y], true) := if_pos ⟨rfl, by rw [Hgt.out]; simp only [decide_eq_true_eq]; omega⟩
          have b1 := cell_of (gr_heap HB.out HD2.out (by simp)) 1 (.int .i64 fr) rfl
          have HD3 := hid (gr_heap HB.out HD2.out (by simp))
          have HS4 : Hid ((os ++ [x] ++ [y], true) = (ls.take (i + 1)).foldl (stepH x) ([], false)) := hid (by rw [← HS'.out, hy.out, hst])
          have hl4 : ((os ++ [x] ++ [y], true)).1.length ≤ (i + 1) + 1 := by have := Hsn.out.1; rw [hy.out, hst] at this; exact this
          have HF4 : Hid (Few ((os ++ [x] ++ [y], true)) (i + 1)) := hid (by have := Hsn.out.2; rw [hy.out, hst] at this; exact this)
          have key2 : ∀ c, c < 6 → w2.cell? ⟨g, off + i * 6 + c, none⟩ = (hC (ith ls i))[c]? := fun c hc => hcell i (by rw [hn.out]; exact hlt) c hc
          clear hcell key e hst
          go_wp2_with fail
          go_quiet (fail)
          obtain ⟨w3, hw3⟩ : ∃ w3, wr.drewN nq = w3 := ⟨_, rfl⟩
          have g3 : wr.grownBy w3 none := hw3 ▸ gr_drewN (gr_refl wr none) nq
          rw [hw3]
          have HB3 := hid (gr_trans HB.out g3)
          have HB3s : Hid (B ≤ w3.heap.size) := hid (by rw [← hB.out]; exact HB3.out.size)
          have Hor3 := hid (Hor.out.kept g3 (by cases u15.ownBlock <;> simp))
          have HD4 := hid (gr_heap g3 HD3.out (by simp))
          have b0 := cell_of HD4.out 0 (.int .i64 k) rfl
          replace b1 := cell_of HD4.out 1 (.int .i64 fr) rfl
          have b2 := cell_of HD4.out 2 (.int .i64 cy) rfl
          have b3 := cell_of HD4.out 3 (.int .u32 cr) rfl
          have b4 := cell_of HD4.out 4 (.int .i64 cl) rfl
          have r0 := gr_cell g3 q0
          have r1 := gr_cell g3 q1
          have r2 := gr_cell g3 q2
          have r3 := gr_cell g3 q3
          have r4 := gr_cell g3 q4
          have r5 := gr_cell g3 q5
          obtain ⟨p0, p1, p2, p3, p4, p5⟩ := ls_cells (W := w2) hy.out key2
          clear hw3 g3 q0 q1 q2 q3 q4 q5 HB Hor key2
          go_wp2_with (first
            | (at_builtin; refine wpList_append_own_at _ rfl (.tmp 81) (.tmp 85) 54 rfl B 60 i0 (.agg #[.int .i64 0, .int .i64 0, .int .i64 0, .int .u32 0, .int .i64 0, .int .i64 0]) 6 48 Try.underlying54 hi hz0 hz1 hz2 rfl (by decide) _ _ _ rfl (Hor3.out.alloc _) ⟨w3.heap.size, 0, none⟩ 1 1 [.int .i64 k, .int .i64 fr, .int .i64 cy, .int .u32 cr, .int .i64 cl, .int .i64 d] rfl rfl (cells_new _ _ _) (by simp [Value.oneCell']) (by unfold maxLen; omega) (by omega) (by have := HB3s.out; simp; omega) ?_; intro v4 w4 hown4 hg4 _ hat4; have Hor4 : Hid (w4.ownsRow B 60 6 v4 (os ++ [x]).length (flatH (os ++ [x]))) := hid (by rw [flatH_snoc, List.length_append, Hxc.out]; exact hown4); have HB4 : Hid (w2.grownBy w4 none) := hid (own_step HB3.out hg4 (fun k hk => by have := (Hor3.out.lt k hk).1; have := hB.out; omega)); have HB4s : Hid (B ≤ w4.heap.size) := hid (by rw [← hB.out]; exact HB4.out.size); have Hl4 : Hid ((os ++ [x]).length = os.length + 1) := hid (by simp); replace r0 := gr_cell HB4.out p0; replace r1 := gr_cell HB4.out p1; replace r2 := gr_cell HB4.out p2; replace r3 := gr_cell HB4.out p3; replace r4 := gr_cell HB4.out p4; replace r5 := gr_cell HB4.out p5; clear hown4 hg4 hat4 p0 p1 p2 p3 p4 p5 b0 b1 b2 b3 b4)
            | (at_builtin; refine wpList_append_own_at _ rfl (.tmp 87) (.tmp 92) 54 rfl B 60 i0 (.agg #[.int .i64 0, .int .i64 0, .int .i64 0, .int .u32 0, .int .i64 0, .int .i64 0]) 6 48 Try.underlying54 hi hz0 hz1 hz2 rfl (by decide) _ _ _ rfl (Hor4.out.alloc _) ⟨w4.heap.size, 0, none⟩ 1 1 [.int .i64 y.k, .int .i64 y.fr, .int .i64 y.cy, .int .u32 y.cr, .int .i64 y.cl, .int .i64 y.t] rfl rfl (cells_new _ _ _) (by simp [Value.oneCell']) (by have := Hl4.out; unfold maxLen; omega) (by have := Hl4.out; omega) (by have := HB4s.out; simp; omega) ?_; intro v5 w5 hown5 hg5 _ hat5; have Hor5 : Hid (w5.ownsRow B 60 6 v5 (os ++ [x] ++ [y]).length (flatH (os ++ [x] ++ [y]))) := hid (by rw [flatH_snoc, List.length_append]; exact hown5); have HB5 : Hid (w2.grownBy w5 none) := hid (own_step HB4.out hg5 (fun k hk => by have := (Hor4.out.lt k hk).1; have := hB.out; omega)); clear hown5 hg5 hat5))
          go_roundw
          case rel => exact ⟨i + 1, (os ++ [x] ++ [y], true), by go_num, by omega, rfl, HS4, hl4, HF4, Hor5, HB5⟩
          case measure => simp [intOf]; omega
    · obtain rfl : i = n := by omega
      have htk : ls.take i = ls := by rw [← hn.out]; exact List.take_length
      rw [htk] at HS
      have hs' := HF.out
      cases p with
      | true =>
        have HE : Hid (insH x ls = os) := hid (by unfold insH; rw [← HS.out]; rfl)
        clear htk hs'
        go_wp2_with fail
        refine bodyPost_ret (v := .tuple #[u15, .int .i64 d, .int .i64 0]) (by simp [results, Try.results16, go_sem]) rfl ⟨u15, rfl, by rw [HE.out]; exact LS.own Hor.out, fun k hk => ⟨by have := (Hor.out.lt k hk).1; have := HwB.out; omega, (Hor.out.lt k hk).2⟩, gr_trans G2.out HB.out⟩
      | false =>
        have hos : os.length ≤ i := hs' rfl
        have HE : Hid (insH x ls = os ++ [x]) := hid (by unfold insH; rw [← HS.out]; rfl)
        have HD3 := hid (gr_heap HB.out HD2.out (by simp))
        have b0 := cell_of HD3.out 0 (.int .i64 k) rfl
        have b1 := cell_of HD3.out 1 (.int .i64 fr) rfl
        have b2 := cell_of HD3.out 2 (.int .i64 cy) rfl
        have b3 := cell_of HD3.out 3 (.int .u32 cr) rfl
        have b4 := cell_of HD3.out 4 (.int .i64 cl) rfl
        have HBs : Hid (B ≤ wr.heap.size) := hid (by rw [← hB.out]; exact HB.out.size)
        clear htk hs'
        go_wp2_with (at_builtin; refine wpList_append_own_at _ rfl (.tmp 96) (.tmp 100) 54 rfl B 60 i0 (.agg #[.int .i64 0, .int .i64 0, .int .i64 0, .int .u32 0, .int .i64 0, .int .i64 0]) 6 48 Try.underlying54 hi hz0 hz1 hz2 rfl (by decide) _ _ _ rfl (Hor.out.alloc _) ⟨wr.heap.size, 0, none⟩ 1 1 [.int .i64 k, .int .i64 fr, .int .i64 cy, .int .u32 cr, .int .i64 cl, .int .i64 d] rfl rfl (cells_new _ _ _) (by simp [Value.oneCell']) (by unfold maxLen; omega) (by omega) (by have := HBs.out; simp; omega) ?_; intro v4 w4 hown4 hg4 _ hat4; have Hor4 : Hid (w4.ownsRow B 60 6 v4 (os ++ [x]).length (flatH (os ++ [x]))) := hid (by rw [flatH_snoc, List.length_append, Hxc.out]; exact hown4); have HB4 : Hid (w2.grownBy w4 none) := hid (own_step HB.out hg4 (fun k hk => by have := (Hor.out.lt k hk).1; have := hB.out; omega)); clear hown4 hg4 hat4)
        refine bodyPost_ret (v := .tuple #[v4, .int .i64 d, .int .i64 0]) (by simp [results, Try.results16, go_sem]) rfl ⟨v4, rfl, by rw [HE.out]; exact LS.own Hor4.out, fun k hk => ⟨by have := (Hor4.out.lt k hk).1; have := HwB.out; omega, (Hor4.out.lt k hk).2⟩, gr_trans G2.out HB4.out⟩
end Go.Proofs.Ytkcgpbehicjidaa
