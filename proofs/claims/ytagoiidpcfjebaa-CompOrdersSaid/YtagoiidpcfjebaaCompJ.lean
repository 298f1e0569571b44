/- tocsinlaw11.all: a compression of frames of the hosts 0, 1, 2, .. -/
import Derived.Test.YtagoiidpcfjebaaCompG
import Derived.Test.YtagoiidpcfjebaaCompH
import Derived.Test.YtagoiidpcfjebaaRefSorted
import Derived.Maps.AppendAt
namespace Go.Proofs.Ytagoiidpcfjebaa
open Go.RowKit Go.Lib

/-- The slice's own bytes. -/
def Byts (n₀ : Nat) (W : World) (sv : Value) (gs : List Int) : Prop :=
  (∃ a cap, sv = .slice a 0 cap ∧ gs = []) ∨ ∃ b off cap, sv = .slice (some ⟨b, off, none⟩) gs.length cap ∧ b < n₀ ∧ ∀ j, j < gs.length → W.cell? ⟨b, off + j, none⟩ = some (.int .u8 (nth gs j))
def InB (l : List Int) : Prop := ∀ x ∈ l, 0 ≤ x ∧ x ≤ 255

theorem ownsRow_same {w w' : World} {base e size n : Nat} {v : Value} {xs : List Value} (h : w.ownsRow base e size v n xs) (hw : ∀ q, v.ownBlock = some q → w'.heap[q]? = w.heap[q]?) : w'.ownsRow base e size v n xs :=
  ⟨h.1, h.2.imp id (fun ⟨g, cap, cur, e, hg, hh, r⟩ => ⟨g, cap, cur, e, hg, (hw g (by rw [e]; rfl)).trans hh, r⟩)⟩
theorem own_one (w : World) (base : Nat) (hb : base ≤ w.heap.size) (x : Int) : (w.alloc (.cells #[.int .i64 x] 2)).ownsRow base 2 1 (.slice (some ⟨w.heap.size, 0, none⟩) 1 1) 1 [.int .i64 x] :=
  ⟨rfl, .inr ⟨w.heap.size, 1, _, rfl, hb, heap_alloc_new w _, by omega, by unfold maxLen; omega, rfl, rfl⟩⟩

theorem Coll.away {W W2 : World} {o : Obj} {vl v2 : Value} {base b : Nat} {win first : Int} {rs cs : List Int} {cm : Nat} (h : Coll (fun q => vl.ownBlock = some q) W base b win first rs cs cm)
    (hg : (W.alloc o).grownBy W2 vl.ownBlock) (hat : v2.ownBlock = vl.ownBlock ∨ v2.ownBlock = some (W.alloc o).heap.size) (hlt : ∀ q, v2.ownBlock = some q → q < W2.heap.size) : Coll (fun q => v2.ownBlock = some q) W2 base b win first rs cs cm := by
  obtain ⟨vr, vc, hc, hr, hc', n1, n2, ap, bb, hP⟩ := h.ex
  have hsz : (W.alloc o).heap.size = W.heap.size + 1 := by simp
  have apart : ∀ v : Value, (∀ q, vl.ownBlock = some q → v.ownBlock ≠ some q) → v.ownBlock = none ∨ v.ownBlock ≠ vl.ownBlock := by
    intro v hv
    cases hb : v.ownBlock with
    | none => exact .inl rfl
    | some q => exact .inr fun e => hv q e.symm hb
  refine ⟨vr, vc, (hc.kept (gr_alloc (gr_refl W none) o) (by simp)).kept hg ?_, (hr.alloc o).kept hg (apart vr (fun q hq => (hP q hq).2.2.1)), (hc'.alloc o).kept hg (apart vc (fun q hq => (hP q hq).2.2.2)), n1, n2, ap, bb, ?_⟩
  · intro e; exact (hP b e.symm).2.1 rfl
  · intro q hq
    refine ⟨hlt q hq, ?_⟩
    rcases hat with e | e
    · rw [e] at hq; exact (hP q hq).2
    · rw [e, hsz] at hq
      have hq' : q = W.heap.size + 1 := by simpa using hq.symm
      subst hq'
      refine ⟨?_, ?_, ?_⟩
      · have := hc.lt; omega
      · intro e'; have := (hr.lt _ e').2; omega
      · intro e'; have := (hc'.lt _ e').2; omega

theorem right_host {h : Int} (h0 : 0 ≤ h) (h1 : h ≤ 7) : rightB 1 h 3 0 0 = true := by
  simp [rightB, inB]
  omega
theorem crew_next : ∀ k : Fin 5, hasB (2 ^ (k.val + 1) - 1) (k.val + 1) = false ∧ 2 ^ (k.val + 1) - 1 < 64 ∧ 2 ^ (k.val + 1) - 1 + 2 ^ (k.val + 1) = 2 ^ (k.val + 1 + 1) - 1 := by decide
theorem most_rep (k : Nat) : mostL (List.replicate (k + 1) 3) = 3 := by
  refine most_unique (by simp) ?_
  intro x hx
  have := List.eq_of_mem_replicate hx
  subst this
  exact .inr ⟨rfl, Int.le_refl _⟩

set_option maxRecDepth 100000 in
set_option maxHeartbeats 4000000 in
theorem all_any (first : Int) (hf : -8589934592 ≤ first ∧ first ≤ 8589934592) (a : Option Addr) (gs : List Int) (cap : Nat) (hcap : gs.length ≤ cap) (hreach : gs.length * 1 ≤ 140737488355328) (h8 : InB gs) (w : World) (hI : Byts w.heap.size w (.slice a gs.length cap) gs) :
    Calls Try.prog 17 #[.int .i64 first, .slice a gs.length cap] w fun e w' => ∃ v, e = .returned (.tuple #[resV (first + tolL (0 :: gs.take 5)) (2 ^ ((gs.take 5).length + 1) - 1) 3, v, .bool true]) ∧
      w'.ownsRow w.heap.size 2 1 v ((gs.take 5).length + 1) ((first :: (gs.take 5).map (first + ·)).map (Value.int .i64)) ∧ w.grownBy w' none := by
  obtain ⟨i0, hi, hz0, hz1, hz2⟩ := info_parts Try.info_i64
  obtain ⟨n, hn⟩ : ∃ n, Hid ((gs.take 5).length = n) := ⟨_, hid rfl⟩
  have hn5 : n ≤ 5 := by rw [← hn.out]; simp; omega
  have hnl : n ≤ gs.length := by rw [← hn.out]; simp; omega
  have hmin : min (gs.length : Int) 5 = (n : Int) := by have := hn.out; simp at this; omega
  have hnc : n ≤ cap := by omega
  have HI := hid hI
  have H8 := hid h8
  clear hI h8
  obtain ⟨b, hb⟩ : ∃ b, Hid (w.heap.size + 1 = b) := ⟨_, hid rfl⟩
  go_enter Try.func17, Try.ntmps17
  go_wp2_with fail
  refine (comp_new_ok 1000 _ (by omega) (by omega)).mono ?_
  rintro e w1 ⟨rfl, hc, hg, hsz⟩
  obtain ⟨A, hA⟩ : ∃ A, w.alloc (.cells #[.int .i64 0, .int .u32 0, .int .i64 0] 39) = A := ⟨_, rfl⟩
  have hAb : A.heap.size = b := by rw [← hA, ← hb.out]; simp
  have HwA : Hid (w.grownBy A none) := hid (hA ▸ gr_alloc (gr_refl w none) _)
  have D0 : Hid (A.heap[w.heap.size]? = some (.cells #[.int .i64 0, .int .u32 0, .int .i64 0] 39)) := hid (hA ▸ heap_alloc_new w _)
  rw [hA] at hc hsz hg
  rw [hA]
  clear hA
  rw [hAb] at hc hsz
  rw [hAb]
  have HC := hid hc
  have HB := hid hg
  have HI0 : Hid (Byts w.heap.size A (.slice a gs.length cap) gs) := hid (by
    rcases HI.out with ⟨a', c', e, hz⟩ | ⟨b', o', c', e, hlt, hcell⟩
    · exact .inl ⟨a', c', e, hz⟩
    · exact .inr ⟨b', o', c', e, hlt, fun j hj => gr_cell HwA.out (hcell j hj)⟩)
  have Hle : Hid (A.heap.size ≤ b) := hid (by omega)
  clear hc hg HI hAb
  obtain ⟨f0, f1⟩ := hf
  go_wp2_with fail
  refine (from_at 0 _).mono ?_
  rintro e v1 ⟨rfl, g⟩
  have Hor : Hid (v1.ownsRow b 2 1 (.slice (some ⟨b + 1, 0, none⟩) 1 1) 1 [.int .i64 first]) := hid (by
    have h1 := own_one w1 b (by omega) first
    rw [hsz] at h1
    exact ownsRow_same h1 (fun q hq => g.block q (by have := (h1.lt q hq).2; omega) (by simp)))
  have HC1 := hid (HC.out.kept (bx_gr g) (by simp))
  have HB1 := hid (gr_trans HB.out (bx_gr g))
  have Hv1 : Hid (b + 1 < v1.heap.size) := hid (by have := g.size; simp at this; omega)
  clear g HC HB
  go_wp2_with fail
  refine (add_open (fun q => (Value.slice (some ⟨b + 1, 0, none⟩) 1 1).ownBlock = some q) b b 1000 0 _ _ 0 first 0 3 0 0 0 rfl (by omega) _ HC1.out (Nat.le_refl _) (fun q hq => by have hq' : b + 1 = q := (by simpa [Value.ownBlock] using hq); subst hq'; have := Hv1.out; exact ⟨by omega, by omega⟩) (right_host (by omega) (by omega)) (by omega) (by omega)).mono ?_
  rintro e v2 ⟨rfl, hC, hB, hK⟩
  have HC2 := hid hC
  have Hor2 := hid (ownsRow_same Hor.out hK)
  have HB2 : Hid (A.grownBy v2 none) := hid (⟨hB.os.trans HB1.out.os, hB.tape.trans HB1.out.tape, hB.output.trans HB1.out.output, Nat.le_trans HB1.out.size hB.size, fun k hk _ => (hB.block k (by have := Hle.out; omega)).trans (HB1.out.block k hk (by simp))⟩)
  clear hC hB hK HC1 HB1 Hor Hv1 hsz
  go_wp2_with fail
  go_loopw [9, 12, 41] (fun vl vok vi wr => ∃ k : Nat, vi = .int .i64 k ∧ k ≤ n ∧ vok = .bool true ∧ Hid (Coll (fun q => vl.ownBlock = some q) wr b b 1000 first (0 :: (gs.take 5).take k) (List.replicate (k + 1) 3) (2 ^ (k + 1) - 1)) ∧ Hid (wr.ownsRow b 2 1 vl (k + 1) ((first :: ((gs.take 5).take k).map (first + ·)).map (Value.int .i64))) ∧ Hid (A.grownBy wr none)) (fun _ _ vi _ => n - (intOf vi).toNat)
  case atStart => exact ⟨0, rfl, Nat.zero_le _, rfl, HC2, Hor2, HB2⟩
  case round =>
    obtain ⟨k, rfl, hk, rfl, HC, Hor, HB⟩ := hrel
    by_cases hlt : k < n
    · rcases HI0.out with ⟨_, _, _, hz⟩ | ⟨b', off, cap', e, hb', hcell⟩
      · exfalso; rw [hz] at hnl; simp at hnl; omega
      have e' : a = some ⟨b', off, none⟩ ∧ cap = cap' := by simpa using e
      obtain ⟨rfl, rfl⟩ := e'
      have hx0 := gr_cell HB.out (hcell k (by omega))
      have hxb := H8.out _ (nth_mem (l := gs) (i := k) (by omega))
      have htk : Hid ((gs.take 5).take (k + 1) = (gs.take 5).take k ++ [nth gs k]) := hid (by
        rw [take_nth _ _ (by rw [hn.out]; exact hlt)]
        congr 2
        unfold nth
        rw [List.getElem?_take_of_lt (by omega)])
      obtain ⟨x, hxe⟩ : ∃ x, Hid (nth gs k = x) := ⟨_, hid rfl⟩
      rw [hxe.out] at hx0 hxb htk
      obtain ⟨x0, x1⟩ := hxb
      have hcr := crew_next ⟨k, by omega⟩
      obtain ⟨hno, hcm, hnx⟩ := hcr
      simp only at hno hcm hnx
      have Hno := hid hno
      have Hcm := hid hcm
      have Hnx := hid hnx
      have Hlen : Hid ((0 :: (gs.take 5).take k).length ≤ 100 ∧ (List.replicate (k + 1) (3 : Int)).length ≤ 100) := hid (by simp; omega)
      clear hcell e hno hcm hnx
      go_wp2_with fail
      refine (from_at _ _).mono ?_
      rintro e v3 ⟨rfl, g⟩
      have HC3 := hid (HC.out.grown g)
      have Hor3 := hid (Hor.out.kept g (by cases u9.ownBlock <;> simp))
      have HB3 := hid (gr_trans HB.out g)
      clear g HC Hor HB hx0
      go_wp2_with fail
      refine (add_more (fun q => u9.ownBlock = some q) b b 1000 first _ _ _ (first + x) _ 3 0 0 (k + 1) (by omega) (by omega) _ HC3.out Hcm.out (right_host (by omega) (by omega)) (by omega) (by omega) (by omega) (by omega) Hno.out Hlen.out).mono ?_
      rintro e v4 ⟨rfl, hC, hB, hK⟩
      have HC4 : Hid (Coll (fun q => u9.ownBlock = some q) v4 b b 1000 first (0 :: (gs.take 5).take (k + 1)) (List.replicate (k + 1 + 1) 3) (2 ^ (k + 1 + 1) - 1)) := hid (by
        rw [Hnx.out] at hC
        have e1 : first + x - first = x := by omega
        rw [e1] at hC
        rw [htk.out, List.replicate_succ']
        simpa using hC)
      have Hor4 := hid (ownsRow_same Hor3.out hK)
      have HB4 : Hid (A.grownBy v4 none) := hid (⟨hB.os.trans HB3.out.os, hB.tape.trans HB3.out.tape, hB.output.trans HB3.out.output, Nat.le_trans HB3.out.size hB.size, fun k hk _ => (hB.block k (by have := Hle.out; omega)).trans (HB3.out.block k hk (by simp))⟩)
      have Hbz : Hid (b ≤ v4.heap.size) := hid (by have := HC4.out.at; omega)
      clear hC hB hK HC3 Hor3 HB3 Hlen Hno Hcm Hnx
      go_wp2_with (at_builtin; refine wpList_append_own_at _ rfl (.tmp 63) (.tmp 68) 49 rfl b 2 i0 (.int .i64 0) 1 8 Try.underlying49 hi hz0 hz1 hz2 rfl (by decide) _ _ _ rfl (Hor4.out.alloc _) ⟨v4.heap.size, 0, none⟩ 1 1 [.int .i64 (first + x)] rfl rfl (cell_one_new _ _ _) (by simp [Value.oneCell']) (by unfold maxLen; omega) (by omega) (by have := Hbz.out; simp; omega) ?_; intro v2 w2 hown2 hg2 _ hat2; have HC5 := hid (HC4.out.away hg2 hat2 (fun q hq => (hown2.lt q hq).2)); have Hor5 : Hid (w2.ownsRow b 2 1 v2 (k + 1 + 1) ((first :: ((gs.take 5).take (k + 1)).map (first + ·)).map (Value.int .i64))) := hid (by rw [htk.out]; simpa using hown2); have HB5 : Hid (A.grownBy w2 none) := hid (⟨hg2.os.trans HB4.out.os, hg2.tape.trans HB4.out.tape, hg2.output.trans HB4.out.output, Nat.le_trans HB4.out.size (by have := hg2.size; simp at this; omega), fun k hk _ => ((hg2.block k (by have := HB4.out.size; simp; omega) (fun e => by have := (Hor4.out.lt k e.symm).1; have := Hle.out; omega)).trans ((World.grownBy_alloc v4 _ none).block k (by have := HB4.out.size; omega) (by simp))).trans (HB4.out.block k hk (by simp))⟩); clear hown2 hg2 hat2)
      go_roundw
      case rel => exact ⟨k + 1, by go_num, by omega, rfl, HC5, Hor5, HB5⟩
      case measure => simp [intOf]; omega
    · obtain rfl : k = n := by omega
      have htk : (gs.take 5).take k = gs.take 5 := by have := List.take_length (l := gs.take 5); rwa [hn.out] at this
      rw [htk] at HC Hor
      have Hne : Hid ((0 :: gs.take 5) ≠ [] ∧ List.replicate (k + 1) (3 : Int) ≠ [] ∧ (0 :: gs.take 5).length ≤ 100 ∧ (List.replicate (k + 1) (3 : Int)).length ≤ 100) := hid (by simp; omega)
      have Hrr : Hid (∀ x ∈ 0 :: gs.take 5, 0 ≤ x ∧ x ≤ 1048576) := hid (by
        intro x hx
        rcases List.mem_cons.1 hx with rfl | hx
        · omega
        · have := H8.out x (List.mem_of_mem_take hx); omega)
      have Hmr := hid (most_rep k)
      have ht := tolL_bounds Hrr.out (by simp)
      obtain ⟨t, hte⟩ : ∃ t, Hid (tolL (0 :: gs.take 5) = t) := ⟨_, hid rfl⟩
      obtain ⟨c, hce⟩ : ∃ c, Hid (2 ^ (k + 1) - 1 = c) := ⟨_, hid rfl⟩
      rw [hte.out] at ht
      rw [hce.out] at HC
      obtain ⟨t0, t1⟩ := ht
      clear htk
      go_wp2_with fail
      refine (close_ok b b 1000 first _ _ _ (first + 1000) _ HC.out (by omega) (by omega) (by omega) Hne.out.1 Hne.out.2.1 Hne.out.2.2 Hrr.out).mono ?_
      rintro e v5 ⟨rfl, hcm, hg5⟩
      rw [hte.out, Hmr.out]
      have Hor5 := hid (Hor.out.kept hg5 (by
        cases hq : u9.ownBlock with
        | none => exact .inl rfl
        | some q =>
          obtain ⟨vr, vc, _, _, _, _, _, _, _, hP⟩ := HC.out.ex
          exact .inr (fun e => (hP q hq).2.1 (Option.some.inj e))))
      have HB5 : Hid (w.grownBy v5 none) := hid (gr_own (gr_trans HwA.out HB.out) hg5 (by have := hb.out; omega))
      have D6 : v5.heap[w.heap.size]? = some (.cells #[.int .i64 0, .int .u32 0, .int .i64 0] 39) := (hg5.block _ (lt_of_block (gr_heap HB.out D0.out (by simp))) (by intro e; simp at e; have := hb.out; omega)).trans (gr_heap HB.out D0.out (by simp))
      have D7 : (v5.alloc (.cells #[.int .i64 (first + t), .int .u32 (c : Int), .int .i64 3] 39)).heap[w.heap.size]? = some (.cells #[.int .i64 0, .int .u32 0, .int .i64 0] 39) := gr_heap (gr_alloc (gr_refl v5 none) _) D6 (by simp)
      have z0 : (v5.alloc (.cells #[.int .i64 (first + t), .int .u32 (c : Int), .int .i64 3] 39)).frozen? ⟨w.heap.size, 0, none⟩ = false := frozen_of D7 _
      have z1 : (v5.alloc (.cells #[.int .i64 (first + t), .int .u32 (c : Int), .int .i64 3] 39)).frozen? ⟨w.heap.size, 1, none⟩ = false := frozen_of D7 _
      have z2 : (v5.alloc (.cells #[.int .i64 (first + t), .int .u32 (c : Int), .int .i64 3] 39)).frozen? ⟨w.heap.size, 2, none⟩ = false := frozen_of D7 _
      have y0 : (v5.alloc (.cells #[.int .i64 (first + t), .int .u32 (c : Int), .int .i64 3] 39)).cell? ⟨w.heap.size, 0, none⟩ = some (.int .i64 0) := cell_of D7 _ _ rfl
      have y1 : (v5.alloc (.cells #[.int .i64 (first + t), .int .u32 (c : Int), .int .i64 3] 39)).cell? ⟨w.heap.size, 1, none⟩ = some (.int .u32 0) := cell_of D7 _ _ rfl
      have y2 : (v5.alloc (.cells #[.int .i64 (first + t), .int .u32 (c : Int), .int .i64 3] 39)).cell? ⟨w.heap.size, 2, none⟩ = some (.int .i64 0) := cell_of D7 _ _ rfl
      have hwv : w.heap.size < v5.heap.size := lt_of_block D6
      have Hwv := hid hwv
      clear hcm hg5 D6 D7 HC HB Hor hwv
      go_wp2_with fail
      rw [hte.out, hn.out, hce.out]
      have hne : u9.ownBlock ≠ some w.heap.size := fun e => by have := (Hor5.out.lt _ e).1; have := hb.out; omega
      refine bodyPost_ret (v := .tuple #[resV (first + t) c 3, u9, .bool true]) ?_ rfl ⟨u9, rfl, ?_, ?_⟩
      · simp [results, Try.results17, go_sem, y0, y1, y2]
      · exact own_mono (ownsRow_setCell_other (ownsRow_setCell_other (ownsRow_setCell_other (Hor5.out.alloc _) hne _) hne _) hne _) (by have := hb.out; omega)
      · exact gr_setNew (gr_setNew (gr_setNew (gr_alloc HB5.out _) (Nat.le_refl _) 0 _) (Nat.le_refl _) 1 _) (Nat.le_refl _) 2 _
end Go.Proofs.Ytagoiidpcfjebaa
