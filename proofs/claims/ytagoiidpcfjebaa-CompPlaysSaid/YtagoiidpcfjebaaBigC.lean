/- tocsinref02: a number without noughts ahead; the other sign. -/
import Derived.Test.YtagoiidpcfjebaaBigB
namespace Go.Proofs.Ytagoiidpcfjebaa
open Go.RowKit Go.Lib

theorem big_cell {w : World} {b : Nat} {cells : Array Value} {t : TypeId} (h : w.heap[b]? = some (.cells cells t)) (i : Nat) (v : Value) (hv : cells[i]? = some v) : w.cell? ⟨b, i, none⟩ = some v := by simp [World.cell?, h, hv]
theorem big_froz {w : World} {b : Nat} {cells : Array Value} {t : TypeId} (h : w.heap[b]? = some (.cells cells t)) (i : Nat) : w.frozen? ⟨b, i, none⟩ = false := by simp [World.frozen?, h]
theorem duo_set0 {w : World} {b : Nat} {x y : Value} {T : TypeId} (h : w.heap[b]? = some (.cells #[x, y] T (0, 0))) (x' : Value) : (w.setCell ⟨b, 0, none⟩ x').heap[b]? = some (.cells #[x', y] T (0, 0)) := by
  simp only [World.setCell, Array.getElem?_modify, if_true, h, Option.map_some]
  rfl
theorem duo_other {w : World} {b k : Nat} {o : Obj} (h : w.heap[b]? = some o) (hk : b ≠ k) (i : Nat) (x' : Value) : (w.setCell ⟨k, i, none⟩ x').heap[b]? = some o := by
  rw [Below.heap_setCell _ _ _ _ hk]; exact h
theorem take_nonempty {ds : List Int} {k n : Nat} (hn : ds.length = n) (hk : k + 1 ≤ n) : ds.take (k + 1) ≠ [] := by
  intro h
  have := congrArg List.length h
  rw [List.length_take, List.length_nil] at this
  omega
theorem take_len {ds : List Int} {k n : Nat} (hn : ds.length = n) : (ds.take k).length ≤ n := by rw [List.length_take]; omega
theorem bval_take_zero {ds : List Int} {k : Nat} (h : bval (ds.take (k + 1)) = bval ds) (h0 : nth ds k = 0) : bval (ds.take k) = bval ds := by
  rw [bval_take, h0, Int.zero_mul, Int.add_zero] at h
  exact h
theorem Dig.take {w : World} {a : Option Addr} {n cap : Nat} {ds : List Int} (h : Dig w (.slice a n cap) ds) (k : Nat) (hk : k ≤ ds.length) : Dig w (.slice a k cap) (ds.take k) := by
  rcases h with ⟨rfl, a', cap', e⟩ | ⟨b, off, cap', e, hc, hb, hj⟩
  · injection e with e1 e2 e3
    simp at hk
    subst hk
    exact .inl ⟨by simp, _, _, rfl⟩
  · injection e with e1 e2 e3
    subst e1; subst e3
    refine .inr ⟨b, off, cap, by rw [List.length_take, Nat.min_eq_left hk], by rw [List.length_take, Nat.min_eq_left hk]; omega, hb, fun j hj' => ?_⟩
    rw [List.length_take, Nat.min_eq_left hk] at hj'
    rw [hj j (by omega)]
    simp [nth, hj']
theorem nth_take {ds : List Int} {k i : Nat} (h : i < k) : nth (ds.take k) i = nth ds i := by simp [nth, h]
theorem trm_take {ds : List Int} {k : Nat} (hk : k < ds.length) (h : nth ds k ≠ 0) : Trm (ds.take (k + 1)) := by
  right
  rw [List.length_take, Nat.min_eq_left (by omega), Nat.add_sub_cancel, nth_take (by omega)]
  exact h
/-- A whole number of digits. -/
structure Wide (w : World) (x : Value) (neg : Bool) (ds : List Int) : Prop where
  ex : ∃ v, x = .agg #[v, .bool neg] ∧ Dig w v ds
  dg : Dg ds
  trm : Trm ds
  pos : neg = true → ds ≠ []
theorem Wide.grown {w w' : World} {x : Value} {neg : Bool} {ds : List Int} (h : Wide w x neg ds) (g : w.grownBy w' none) : Wide w' x neg ds :=
  ⟨by obtain ⟨v, e, hv⟩ := h.ex; exact ⟨v, e, hv.grown g⟩, h.dg, h.trm, h.pos⟩

def sliceLen : Option Value → Nat
  | some (.slice _ n _) => n
  | _ => 0

set_option maxRecDepth 100000 in
set_option maxHeartbeats 4000000 in
theorem trim_any {w : World} {va : Value} {ds : List Int} (neg : Bool) (ha : Dig w va ds) (da : Dg ds) (la : ds.length ≤ 1000) :
    Calls Try.prog 47 #[.agg #[va, .bool neg]] w fun e w' => ∃ x rs neg', e = .returned x ∧ Wide w' x neg' rs ∧ bval rs = bval ds ∧ rs.length ≤ ds.length ∧ (rs ≠ [] → neg' = neg) ∧ w.grownBy w' none := by
  obtain ⟨a1, cp1, ea⟩ := ha.slice
  have HA := hid ha
  have DA := hid da
  clear ha da
  rw [ea] at HA
  rw [ea]
  clear ea
  obtain ⟨n, hn⟩ : ∃ n, Hid (ds.length = n) := ⟨_, hid rfl⟩
  rw [hn.out] at la HA
  rw [hn.out]
  obtain ⟨bx, hbx⟩ : ∃ bx, Hid (w.heap.size = bx) := ⟨_, hid rfl⟩
  obtain ⟨A, hAw⟩ : ∃ A, (w.alloc (.cells #[.slice a1 n cp1, .bool neg] 84)).alloc (.cells #[.slice none 0 0, .bool false] 84) = A := ⟨_, rfl⟩
  have GA : Hid (w.grownBy A none) := hid (by rw [← hAw]; exact gr_alloc (gr_alloc (gr_refl w none) _) _)
  have FA : Hid (A.heap[bx]? = some (.cells #[.slice a1 n cp1, .bool neg] 84 (0, 0))) := hid (by
    rw [← hAw, ← hbx.out]
    exact gr_heap (gr_alloc (gr_refl _ none) _) (heap_alloc_new w _) (by simp))
  have FB : Hid (A.heap[bx + 1]? = some (.cells #[.slice none 0 0, .bool false] 84 (0, 0))) := hid (by
    rw [← hAw, ← hbx.out]
    have := heap_alloc_new (w.alloc (.cells #[.slice a1 n cp1, .bool neg] 84)) (.cells #[.slice none 0 0, .bool false] 84)
    simpa using this)
  go_enter Try.func47, Try.ntmps47
  go_wp2_with fail
  rw [hbx.out]
  clear hAw
  go_loopw [3] (fun _ wr => ∃ k : Nat, k ≤ n ∧ Hid (bval (ds.take k) = bval ds) ∧ Hid (wr.heap[bx]? = some (.cells #[.slice a1 k cp1, .bool neg] 84 (0, 0))) ∧ Hid (wr.heap[bx + 1]? = some (.cells #[.slice none 0 0, .bool false] 84 (0, 0))) ∧ Hid (w.grownBy wr none)) (fun _ wr => sliceLen (wr.cell? ⟨bx, 0, none⟩))
  case atStart => exact ⟨n, Nat.le_refl _, hid (by rw [List.take_of_length_le (by rw [hn.out]; exact Nat.le_refl _)]), FA, FB, GA⟩
  case round =>
    obtain ⟨k, hk, HV, F1, F2, HG⟩ := hrel
    have c0 := big_cell F1.out 0 _ rfl
    have c1 := big_cell F1.out 1 _ rfl
    have c0f := big_froz F1.out 0
    have c1f := big_froz F1.out 1
    have e0 := big_cell F2.out 0 _ rfl
    have e1 := big_cell F2.out 1 _ rfl
    have e0f := big_froz F2.out 0
    have e1f := big_froz F2.out 1
    cases k with
    | zero =>
      have hv := HV.out
      go_wp2_with fail
      have G9 := hid (gr_setNew (gr_setNew (gr_setNew HG.out (k := bx) (by have := hbx.out; omega) 1 (.bool false)) (k := bx + 1) (by have := hbx.out; omega) 0 (.slice a1 0 cp1)) (k := bx + 1) (by have := hbx.out; omega) 1 (.bool false))
      refine bodyPost_ret (v := .agg #[.slice a1 0 cp1, .bool false]) ?_ rfl ⟨_, [], false, rfl, ⟨⟨_, rfl, Dig.zero _ _ _⟩, dg_nil, .inl rfl, fun h => absurd h (by decide)⟩, hv, Nat.zero_le _, fun h => absurd rfl h, G9.out⟩
      simp [results, Try.results47, go_sem, e0, e1]
    | succ k =>
      obtain ⟨b, off, cap, he, hcap, hcell⟩ := HA.out.cells (by rw [hn.out]; omega)
      injection he with he1 he2 he3
      subst he1
      have hx0 := hcell _ HG.out k (by rw [hn.out]; omega)
      obtain ⟨x, hx⟩ : ∃ x, Hid (nth ds k = x) := ⟨_, hid rfl⟩
      rw [hx.out] at hx0
      have hkI : (k : Int) < ((k + 1 : Nat) : Int) := by omega
      have hkc : k ≤ cp1 := by have := hn.out; omega
      clear hcell he2 he3
      by_cases h0 : x = 0
      · subst h0
        go_wp2_with fail
        go_roundw
        case rel => exact ⟨k, by omega, hid (bval_take_zero HV.out hx.out), hid (duo_set0 F1.out _), hid (duo_other F2.out (by omega) 0 _), hid (gr_setNew HG.out (by have := hbx.out; omega) 0 _)⟩
        case measure =>
          have h9 := big_cell (duo_set0 F1.out (.slice (some ⟨b, off, none⟩) k cp1)) 0 _ rfl
          rw [h9, c0]
          simp [sliceLen]
      · have hv := HV.out
        have hx9 : nth ds k ≠ 0 := by rw [hx.out]; exact h0
        go_wp2_with fail
        have G9 := hid (gr_setNew (gr_setNew HG.out (k := bx + 1) (by have := hbx.out; omega) 0 (.slice (some ⟨b, off, none⟩) (k + 1) cp1)) (k := bx + 1) (by have := hbx.out; omega) 1 (.bool neg))
        refine bodyPost_ret (v := .agg #[.slice (some ⟨b, off, none⟩) (k + 1) cp1, .bool neg]) ?_ rfl ⟨_, ds.take (k + 1), neg, rfl, ⟨⟨_, rfl, (HA.out.grown G9.out).take (k + 1) (by rw [hn.out]; omega)⟩, dg_take DA.out _, trm_take (by rw [hn.out]; omega) hx9, fun _ => take_nonempty hn.out hk⟩, hv, take_len hn.out, fun _ => rfl, G9.out⟩
        simp [results, Try.results47, go_sem, e0, e1]
end Go.Proofs.Ytagoiidpcfjebaa
