/- tocsinref02: the other sign; a number's digits. -/
import Derived.Test.YtagoiidpcfjebaaBigC
namespace Go.Proofs.Ytagoiidpcfjebaa
open Go.RowKit Go.Lib

theorem box2 (w : World) (o1 o2 : Obj) : ((w.alloc o1).alloc o2).heap[w.heap.size + 1]? = some o2 := by
  have := heap_alloc_new (w.alloc o1) o2
  simpa using this
theorem box3 (w : World) (o1 o2 o3 : Obj) : (((w.alloc o1).alloc o2).alloc o3).heap[w.heap.size + 2]? = some o3 := by
  have := heap_alloc_new ((w.alloc o1).alloc o2) o3
  simpa using this
theorem dig_set {w : World} {v : Value} {ds : List Int} {b : Nat} {a : Option Addr} {n cap : Nat} {neg : Bool} {T : TypeId} (h : Dig w v ds) (hb : w.heap[b]? = some (.cells #[.slice a n cap, .bool neg] T (0, 0))) (i : Nat) (u : Value) : Dig (w.setCell ⟨b, i, none⟩ u) v ds := by
  rcases h with h | ⟨k, off, cap', rfl, hc, hk, hj⟩
  · exact .inl h
  · by_cases h0 : ds.length = 0
    · exact .inl ⟨List.length_eq_zero_iff.1 h0, _, _, by rw [h0]⟩
    · have hne : k ≠ b := by
        rintro rfl
        have h1 := hj 0 (by omega)
        simp only [World.cell?, hb, Nat.add_zero] at h1
        match off, h1 with
        | 0, h1 => simp at h1
        | 1, h1 => simp at h1
        | off + 2, h1 => simp at h1
      refine .inr ⟨k, off, cap', rfl, hc, by simpa [World.setCell] using hk, fun j hl => ?_⟩
      have h2 := hj j hl
      simp only [World.cell?] at h2 ⊢
      rw [Below.heap_setCell _ _ _ _ hne]
      exact h2
theorem wide_store {w : World} {x : Value} {neg' : Bool} {ds : List Int} {b : Nat} {a : Option Addr} {n cap : Nat} {neg : Bool} {T : TypeId} (h : Wide w x neg' ds) (hb : w.heap[b]? = some (.cells #[.slice a n cap, .bool neg] T (0, 0))) (a2 : Option Addr) (n2 cap2 : Nat) (u : Value) : Wide ((w.setCell ⟨b, 0, none⟩ (.slice a2 n2 cap2)).setCell ⟨b, 1, none⟩ u) x neg' ds :=
  ⟨by obtain ⟨v, e, hv⟩ := h.ex; exact ⟨v, e, dig_set (dig_set hv hb _ _) (duo_set0 hb _) _ _⟩, h.dg, h.trm, h.pos⟩
theorem sgn_zero (b : Bool) : sgn b 0 = 0 := by unfold sgn; split <;> rfl
theorem sgn_turn {neg neg' : Bool} {ds rs : List Int} (hv : bval rs = bval ds) (hn : rs ≠ [] → neg' = !neg) : sgn neg' (bval rs) = -sgn neg (bval ds) := by
  by_cases h : rs = []
  · subst h
    rw [← hv]
    show sgn neg' 0 = -sgn neg 0
    rw [sgn_zero, sgn_zero]
    rfl
  · rw [hn h, hv]
    cases neg <;> simp [sgn]

set_option maxRecDepth 100000 in
set_option maxHeartbeats 4000000 in
theorem turn_any {w : World} {x : Value} {neg : Bool} {ds : List Int} (h : Wide w x neg ds) (la : ds.length ≤ 1000) :
    Calls Try.prog 51 #[x] w fun e w' => ∃ x' neg' rs, e = .returned x' ∧ Wide w' x' neg' rs ∧ sgn neg' (bval rs) = -sgn neg (bval ds) ∧ rs.length ≤ ds.length ∧ w.grownBy w' none := by
  obtain ⟨v, rfl, hv⟩ := h.ex
  obtain ⟨a, cap, rfl⟩ := hv.slice
  have HV := hid hv
  have HD := hid h.dg
  clear hv h
  obtain ⟨bx, hbx⟩ : ∃ bx, Hid (w.heap.size = bx) := ⟨_, hid rfl⟩
  go_enter Try.func51, Try.ntmps51
  go_wp2_with fail
  have GA := gr_alloc (gr_alloc (gr_refl w none) (.cells #[.slice a ds.length cap, .bool neg] 84)) (.cells #[.slice none 0 0, .bool false] 84)
  have FB := box2 w (.cells #[.slice a ds.length cap, .bool neg] 84) (.cells #[.slice none 0 0, .bool false] 84)
  refine (trim_any (!neg) (HV.out.grown GA) HD.out la).mono ?_
  rintro e w5 ⟨x', rs, neg', rfl, hw, hb, hl, hneg, g5⟩
  obtain ⟨v', rfl, hv'⟩ := hw.ex
  obtain ⟨a', cap', rfl⟩ := hv'.slice
  have F5 := gr_heap g5 FB (by simp)
  have e0 := big_cell F5 0 _ rfl
  have e1 := big_cell F5 1 _ rfl
  have e0f := big_froz F5 0
  have e1f := big_froz F5 1
  have Hw := hid hw
  have Hr := hid (sgn_turn (neg := neg) hb hneg)
  have G5 := hid (gr_trans GA g5)
  have F6 := hid F5
  clear hw hb hneg g5 GA FB F5 hv'
  go_wp2_with fail
  refine bodyPost_ret (v := .agg #[.slice a' rs.length cap', .bool neg']) ?_ rfl ⟨_, neg', rs, rfl, wide_store Hw.out F6.out _ _ _ _, Hr.out, hl, ?_⟩
  · simp [results, Try.results51, go_sem, e0, e1]
  · exact gr_setNew (gr_setNew G5.out (by omega) 0 _) (by omega) 1 _
end Go.Proofs.Ytagoiidpcfjebaa
