/- Lemmas: slices.IndexFunc, ContainsFunc, by what the closure answers. -/
import Derived.Test.YtckoaeoecjphiaaGreatRows
import Derived.Test.YtckoaeoecjphiaaGreatK02
import Derived.LoopN
import Derived.RangeFuncBox

/- slices.IndexFunc, ContainsFunc, by what the closure answers. -/
namespace Go.Proofs.YtckoaeoecjphiaaGreat
open Go.RowKit Go.Lib

set_option maxRecDepth 100000 in
set_option maxHeartbeats 400000 in
theorem index_ent (K : Nat) (caps : Array Value) (sv : Value) (n : Nat) (f : Nat → Nat → Value) (p : Nat → Bool) (w : World) (hs : SliceAt w.heap.size w sv 4 n f)
    (hn : n ≤ 140737488351232)
    (eg : ∀ args w, (callFunc K args).run Tryz.prog w = .ok (.enter K args) w) (hK : ∀ j, j < n → ∀ w', w.grownBy w' none → Calls Tryz.prog K (#[.agg #[f j 0, f j 1, f j 2, f j 3]] ++ caps) w' fun e w2 => e = .returned (.bool (p j)) ∧ w'.grownBy w2 none) :
    Calls Tryz.prog 145 #[sv, .func (.func K) #[] caps] w fun e w' => ∃ i : Int, e = .returned (.int .i64 i) ∧ Hid (decide (0 ≤ i) = (List.range n).any p) ∧ w.grownBy w' none := by
  have HK := hid hK; clear hK
  rcases hs with ⟨a, cap, rfl, rfl⟩ | ⟨b, off, cap, rfl, hcap, hb, hf⟩
  · go_enter Tryz.func145, Tryz.ntmps145
    go_wp2_with fail
    refine wp_loop_rounds 1 ?_
    rw [rounds_succ]
    go_wp2_with fail
    go_ret
    exact ⟨_, rfl, hid rfl, gr_refl w none⟩
  · have Hf := hid hf; clear hf
    go_enter Tryz.func145, Tryz.ntmps145
    go_wp2_with fail
    go_loopw [8] (fun i wr => ∃ k : Nat, k ≤ n ∧ i = .int .i64 k ∧ Hid ((List.range k).any p = false) ∧ w.grownBy wr none) (fun i _ => n - (intOf i).toNat)
    case atStart => exact ⟨0, Nat.zero_le _, rfl, hid rfl, gr_refl w none⟩
    case round =>
      obtain ⟨k, hk, rfl, hno, g⟩ := hrel
      have hf := Hf.out
      by_cases hlt : k < n
      · have hno1 := hno.out
        have q0 := gr_cell g (hf k hlt 0 (by omega))
        have q1 := gr_cell g (hf k hlt 1 (by omega))
        have q2 := gr_cell g (hf k hlt 2 (by omega))
        have q3 := gr_cell g (hf k hlt 3 (by omega))
        rw [Nat.add_zero] at q0
        clear hf
        obtain ⟨v, hv⟩ : ∃ v, Hid (p k = v) := ⟨_, hid rfl⟩
        have hno2 : (List.range (k + 1)).any p = v := by rw [List.range_succ, List.any_append, hno1, ← hv.out]; simp
        have Hno2 := hid hno2
        clear hno1 hno2
        go_wp2_with fail
        refine (HK.out k hlt _ g).mono ?_
        rintro e w2 ⟨rfl, g2⟩
        rw [hv.out]
        clear q0 q1 q2 q3
        cases v
        · go_wp2_with fail
          go_roundw
          case rel => exact ⟨k + 1, by omega, by go_num, Hno2, gr_trans g g2⟩
          case measure => simp [intOf]; omega
        · go_wp2_with fail
          go_ret
          refine ⟨_, rfl, hid ?_, gr_trans g g2⟩
          have h1 := Hno2.out
          have h2 : (List.range n).any p = true := by
            rw [List.any_eq_true] at h1 ⊢
            obtain ⟨x, hx, hp⟩ := h1
            exact ⟨x, by simp at hx ⊢; omega, hp⟩
          rw [h2]
          exact decide_eq_true (by omega)
      · obtain rfl : k = n := by omega
        clear hlt hf
        go_wp2_with fail
        go_ret
        exact ⟨_, rfl, hid (by rw [hno.out]; rfl), g⟩

theorem contains_ent (K : Nat) (caps : Array Value) (sv : Value) (n : Nat) (f : Nat → Nat → Value) (p : Nat → Bool) (q : Bool) (w : World) (hs : SliceAt w.heap.size w sv 4 n f)
    (hn : n ≤ 140737488351232) (hq : Hid ((List.range n).any p = q))
    (eg : ∀ args w, (callFunc K args).run Tryz.prog w = .ok (.enter K args) w) (hK : ∀ j, j < n → ∀ w', w.grownBy w' none → Calls Tryz.prog K (#[.agg #[f j 0, f j 1, f j 2, f j 3]] ++ caps) w' fun e w2 => e = .returned (.bool (p j)) ∧ w'.grownBy w2 none) :
    Calls Tryz.prog 115 #[sv, .func (.func K) #[] caps] w fun e w' => e = .returned (.bool q) ∧ w.grownBy w' none := by
  have HK := hid hK; clear hK
  go_enter Tryz.func115, Tryz.ntmps115
  go_wp2_with fail
  refine (index_ent K caps sv n f p _ hs hn eg HK.out).mono ?_
  rintro e w2 ⟨i, rfl, hi, g⟩
  go_wp2_with fail
  go_ret
  refine ⟨?_, g⟩
  rw [← hq.out, ← hi.out]
  rfl

set_option maxRecDepth 100000 in
set_option maxHeartbeats 400000 in
theorem index_lnk (K : Nat) (caps : Array Value) (sv : Value) (n : Nat) (f : Nat → Nat → Value) (p : Nat → Bool) (w : World) (hs : SliceAt w.heap.size w sv 4 n f)
    (hn : n ≤ 140737488351232)
    (eg : ∀ args w, (callFunc K args).run Tryz.prog w = .ok (.enter K args) w) (hK : ∀ j, j < n → ∀ w', w.grownBy w' none → Calls Tryz.prog K (#[.agg #[f j 0, f j 1, f j 2, f j 3]] ++ caps) w' fun e w2 => e = .returned (.bool (p j)) ∧ w'.grownBy w2 none) :
    Calls Tryz.prog 124 #[sv, .func (.func K) #[] caps] w fun e w' => ∃ i : Int, e = .returned (.int .i64 i) ∧ Hid (decide (0 ≤ i) = (List.range n).any p) ∧ w.grownBy w' none := by
  have HK := hid hK; clear hK
  rcases hs with ⟨a, cap, rfl, rfl⟩ | ⟨b, off, cap, rfl, hcap, hb, hf⟩
  · go_enter Tryz.func124, Tryz.ntmps124
    go_wp2_with fail
    refine wp_loop_rounds 1 ?_
    rw [rounds_succ]
    go_wp2_with fail
    go_ret
    exact ⟨_, rfl, hid rfl, gr_refl w none⟩
  · have Hf := hid hf; clear hf
    go_enter Tryz.func124, Tryz.ntmps124
    go_wp2_with fail
    go_loopw [8] (fun i wr => ∃ k : Nat, k ≤ n ∧ i = .int .i64 k ∧ Hid ((List.range k).any p = false) ∧ w.grownBy wr none) (fun i _ => n - (intOf i).toNat)
    case atStart => exact ⟨0, Nat.zero_le _, rfl, hid rfl, gr_refl w none⟩
    case round =>
      obtain ⟨k, hk, rfl, hno, g⟩ := hrel
      have hf := Hf.out
      by_cases hlt : k < n
      · have hno1 := hno.out
        have q0 := gr_cell g (hf k hlt 0 (by omega))
        have q1 := gr_cell g (hf k hlt 1 (by omega))
        have q2 := gr_cell g (hf k hlt 2 (by omega))
        have q3 := gr_cell g (hf k hlt 3 (by omega))
        rw [Nat.add_zero] at q0
        clear hf
        obtain ⟨v, hv⟩ : ∃ v, Hid (p k = v) := ⟨_, hid rfl⟩
        have hno2 : (List.range (k + 1)).any p = v := by rw [List.range_succ, List.any_append, hno1, ← hv.out]; simp
        have Hno2 := hid hno2
        clear hno1 hno2
        go_wp2_with fail
        refine (HK.out k hlt _ g).mono ?_
        rintro e w2 ⟨rfl, g2⟩
        rw [hv.out]
        clear q0 q1 q2 q3
        cases v
        · go_wp2_with fail
          go_roundw
          case rel => exact ⟨k + 1, by omega, by go_num, Hno2, gr_trans g g2⟩
          case measure => simp [intOf]; omega
        · go_wp2_with fail
          go_ret
          refine ⟨_, rfl, hid ?_, gr_trans g g2⟩
          have h1 := Hno2.out
          have h2 : (List.range n).any p = true := by
            rw [List.any_eq_true] at h1 ⊢
            obtain ⟨x, hx, hp⟩ := h1
            exact ⟨x, by simp at hx ⊢; omega, hp⟩
          rw [h2]
          exact decide_eq_true (by omega)
      · obtain rfl : k = n := by omega
        clear hlt hf
        go_wp2_with fail
        go_ret
        exact ⟨_, rfl, hid (by rw [hno.out]; rfl), g⟩

theorem contains_lnk (K : Nat) (caps : Array Value) (sv : Value) (n : Nat) (f : Nat → Nat → Value) (p : Nat → Bool) (q : Bool) (w : World) (hs : SliceAt w.heap.size w sv 4 n f)
    (hn : n ≤ 140737488351232) (hq : Hid ((List.range n).any p = q))
    (eg : ∀ args w, (callFunc K args).run Tryz.prog w = .ok (.enter K args) w) (hK : ∀ j, j < n → ∀ w', w.grownBy w' none → Calls Tryz.prog K (#[.agg #[f j 0, f j 1, f j 2, f j 3]] ++ caps) w' fun e w2 => e = .returned (.bool (p j)) ∧ w'.grownBy w2 none) :
    Calls Tryz.prog 69 #[sv, .func (.func K) #[] caps] w fun e w' => e = .returned (.bool q) ∧ w.grownBy w' none := by
  have HK := hid hK; clear hK
  go_enter Tryz.func69, Tryz.ntmps69
  go_wp2_with fail
  refine (index_lnk K caps sv n f p _ hs hn eg HK.out).mono ?_
  rintro e w2 ⟨i, rfl, hi, g⟩
  go_wp2_with fail
  go_ret
  refine ⟨?_, g⟩
  rw [← hq.out, ← hi.out]
  rfl

set_option maxRecDepth 100000 in
set_option maxHeartbeats 400000 in
theorem index_row (K : Nat) (caps : Array Value) (sv : Value) (n : Nat) (f : Nat → Nat → Value) (p : Nat → Bool) (w : World) (hs : SliceAt w.heap.size w sv 1 n f)
    (hn : n ≤ 140737488351232)
    (eg : ∀ args w, (callFunc K args).run Tryz.prog w = .ok (.enter K args) w) (hK : ∀ j, j < n → ∀ w', w.grownBy w' none → Calls Tryz.prog K (#[f j 0] ++ caps) w' fun e w2 => e = .returned (.bool (p j)) ∧ w'.grownBy w2 none) :
    Calls Tryz.prog 141 #[sv, .func (.func K) #[] caps] w fun e w' => ∃ i : Int, e = .returned (.int .i64 i) ∧ Hid (decide (0 ≤ i) = (List.range n).any p) ∧ w.grownBy w' none := by
  have HK := hid hK; clear hK
  rcases hs with ⟨a, cap, rfl, rfl⟩ | ⟨b, off, cap, rfl, hcap, hb, hf⟩
  · go_enter Tryz.func141, Tryz.ntmps141
    go_wp2_with fail
    refine wp_loop_rounds 1 ?_
    rw [rounds_succ]
    go_wp2_with fail
    go_ret
    exact ⟨_, rfl, hid rfl, gr_refl w none⟩
  · have Hf := hid hf; clear hf
    go_enter Tryz.func141, Tryz.ntmps141
    go_wp2_with fail
    go_loopw [8] (fun i wr => ∃ k : Nat, k ≤ n ∧ i = .int .i64 k ∧ Hid ((List.range k).any p = false) ∧ w.grownBy wr none) (fun i _ => n - (intOf i).toNat)
    case atStart => exact ⟨0, Nat.zero_le _, rfl, hid rfl, gr_refl w none⟩
    case round =>
      obtain ⟨k, hk, rfl, hno, g⟩ := hrel
      have hf := Hf.out
      by_cases hlt : k < n
      · have hno1 := hno.out
        have q0 := gr_cell g (hf k hlt 0 (by omega))
        rw [Nat.mul_one, Nat.add_zero] at q0
        clear hf
        obtain ⟨v, hv⟩ : ∃ v, Hid (p k = v) := ⟨_, hid rfl⟩
        have hno2 : (List.range (k + 1)).any p = v := by rw [List.range_succ, List.any_append, hno1, ← hv.out]; simp
        have Hno2 := hid hno2
        clear hno1 hno2
        go_wp2_with fail
        refine (HK.out k hlt _ g).mono ?_
        rintro e w2 ⟨rfl, g2⟩
        rw [hv.out]
        clear q0
        cases v
        · go_wp2_with fail
          go_roundw
          case rel => exact ⟨k + 1, by omega, by go_num, Hno2, gr_trans g g2⟩
          case measure => simp [intOf]; omega
        · go_wp2_with fail
          go_ret
          refine ⟨_, rfl, hid ?_, gr_trans g g2⟩
          have h1 := Hno2.out
          have h2 : (List.range n).any p = true := by
            rw [List.any_eq_true] at h1 ⊢
            obtain ⟨x, hx, hp⟩ := h1
            exact ⟨x, by simp at hx ⊢; omega, hp⟩
          rw [h2]
          exact decide_eq_true (by omega)
      · obtain rfl : k = n := by omega
        clear hlt hf
        go_wp2_with fail
        go_ret
        exact ⟨_, rfl, hid (by rw [hno.out]; rfl), g⟩

theorem contains_row (K : Nat) (caps : Array Value) (sv : Value) (n : Nat) (f : Nat → Nat → Value) (p : Nat → Bool) (q : Bool) (w : World) (hs : SliceAt w.heap.size w sv 1 n f)
    (hn : n ≤ 140737488351232) (hq : Hid ((List.range n).any p = q))
    (eg : ∀ args w, (callFunc K args).run Tryz.prog w = .ok (.enter K args) w) (hK : ∀ j, j < n → ∀ w', w.grownBy w' none → Calls Tryz.prog K (#[f j 0] ++ caps) w' fun e w2 => e = .returned (.bool (p j)) ∧ w'.grownBy w2 none) :
    Calls Tryz.prog 108 #[sv, .func (.func K) #[] caps] w fun e w' => e = .returned (.bool q) ∧ w.grownBy w' none := by
  have HK := hid hK; clear hK
  go_enter Tryz.func108, Tryz.ntmps108
  go_wp2_with fail
  refine (index_row K caps sv n f p _ hs hn eg HK.out).mono ?_
  rintro e w2 ⟨i, rfl, hi, g⟩
  go_wp2_with fail
  go_ret
  refine ⟨?_, g⟩
  rw [← hq.out, ← hi.out]
  rfl

set_option maxRecDepth 100000 in
set_option maxHeartbeats 400000 in
theorem index_num (K : Nat) (caps : Array Value) (sv : Value) (n : Nat) (f : Nat → Nat → Value) (p : Nat → Bool) (w : World) (hs : SliceAt w.heap.size w sv 1 n f)
    (hn : n ≤ 140737488351232)
    (eg : ∀ args w, (callFunc K args).run Tryz.prog w = .ok (.enter K args) w) (hK : ∀ j, j < n → ∀ w', w.grownBy w' none → Calls Tryz.prog K (#[f j 0] ++ caps) w' fun e w2 => e = .returned (.bool (p j)) ∧ w'.grownBy w2 none) :
    Calls Tryz.prog 142 #[sv, .func (.func K) #[] caps] w fun e w' => ∃ i : Int, e = .returned (.int .i64 i) ∧ Hid (decide (0 ≤ i) = (List.range n).any p) ∧ w.grownBy w' none := by
  have HK := hid hK; clear hK
  rcases hs with ⟨a, cap, rfl, rfl⟩ | ⟨b, off, cap, rfl, hcap, hb, hf⟩
  · go_enter Tryz.func142, Tryz.ntmps142
    go_wp2_with fail
    refine wp_loop_rounds 1 ?_
    rw [rounds_succ]
    go_wp2_with fail
    go_ret
    exact ⟨_, rfl, hid rfl, gr_refl w none⟩
  · have Hf := hid hf; clear hf
    go_enter Tryz.func142, Tryz.ntmps142
    go_wp2_with fail
    go_loopw [8] (fun i wr => ∃ k : Nat, k ≤ n ∧ i = .int .i64 k ∧ Hid ((List.range k).any p = false) ∧ w.grownBy wr none) (fun i _ => n - (intOf i).toNat)
    case atStart => exact ⟨0, Nat.zero_le _, rfl, hid rfl, gr_refl w none⟩
    case round =>
      obtain ⟨k, hk, rfl, hno, g⟩ := hrel
      have hf := Hf.out
      by_cases hlt : k < n
      · have hno1 := hno.out
        have q0 := gr_cell g (hf k hlt 0 (by omega))
        rw [Nat.mul_one, Nat.add_zero] at q0
        clear hf
        obtain ⟨v, hv⟩ : ∃ v, Hid (p k = v) := ⟨_, hid rfl⟩
        have hno2 : (List.range (k + 1)).any p = v := by rw [List.range_succ, List.any_append, hno1, ← hv.out]; simp
        have Hno2 := hid hno2
        clear hno1 hno2
        go_wp2_with fail
        refine (HK.out k hlt _ g).mono ?_
        rintro e w2 ⟨rfl, g2⟩
        rw [hv.out]
        clear q0
        cases v
        · go_wp2_with fail
          go_roundw
          case rel => exact ⟨k + 1, by omega, by go_num, Hno2, gr_trans g g2⟩
          case measure => simp [intOf]; omega
        · go_wp2_with fail
          go_ret
          refine ⟨_, rfl, hid ?_, gr_trans g g2⟩
          have h1 := Hno2.out
          have h2 : (List.range n).any p = true := by
            rw [List.any_eq_true] at h1 ⊢
            obtain ⟨x, hx, hp⟩ := h1
            exact ⟨x, by simp at hx ⊢; omega, hp⟩
          rw [h2]
          exact decide_eq_true (by omega)
      · obtain rfl : k = n := by omega
        clear hlt hf
        go_wp2_with fail
        go_ret
        exact ⟨_, rfl, hid (by rw [hno.out]; rfl), g⟩

theorem contains_num (K : Nat) (caps : Array Value) (sv : Value) (n : Nat) (f : Nat → Nat → Value) (p : Nat → Bool) (q : Bool) (w : World) (hs : SliceAt w.heap.size w sv 1 n f)
    (hn : n ≤ 140737488351232) (hq : Hid ((List.range n).any p = q))
    (eg : ∀ args w, (callFunc K args).run Tryz.prog w = .ok (.enter K args) w) (hK : ∀ j, j < n → ∀ w', w.grownBy w' none → Calls Tryz.prog K (#[f j 0] ++ caps) w' fun e w2 => e = .returned (.bool (p j)) ∧ w'.grownBy w2 none) :
    Calls Tryz.prog 110 #[sv, .func (.func K) #[] caps] w fun e w' => e = .returned (.bool q) ∧ w.grownBy w' none := by
  have HK := hid hK; clear hK
  go_enter Tryz.func110, Tryz.ntmps110
  go_wp2_with fail
  refine (index_num K caps sv n f p _ hs hn eg HK.out).mono ?_
  rintro e w2 ⟨i, rfl, hi, g⟩
  go_wp2_with fail
  go_ret
  refine ⟨?_, g⟩
  rw [← hq.out, ← hi.out]
  rfl

set_option maxRecDepth 100000 in
set_option maxHeartbeats 400000 in
theorem index_sta (K : Nat) (caps : Array Value) (sv : Value) (n : Nat) (f : Nat → Nat → Value) (p : Nat → Bool) (w : World) (hs : SliceAt w.heap.size w sv 3 n f)
    (hn : n ≤ 140737488351232)
    (eg : ∀ args w, (callFunc K args).run Tryz.prog w = .ok (.enter K args) w) (hK : ∀ j, j < n → ∀ w', w.grownBy w' none → Calls Tryz.prog K (#[.agg #[f j 0, f j 1, f j 2]] ++ caps) w' fun e w2 => e = .returned (.bool (p j)) ∧ w'.grownBy w2 none) :
    Calls Tryz.prog 73 #[sv, .func (.func K) #[] caps] w fun e w' => ∃ i : Int, e = .returned (.int .i64 i) ∧ Hid (decide (0 ≤ i) = (List.range n).any p) ∧ w.grownBy w' none := by
  have HK := hid hK; clear hK
  rcases hs with ⟨a, cap, rfl, rfl⟩ | ⟨b, off, cap, rfl, hcap, hb, hf⟩
  · go_enter Tryz.func73, Tryz.ntmps73
    go_wp2_with fail
    refine wp_loop_rounds 1 ?_
    rw [rounds_succ]
    go_wp2_with fail
    go_ret
    exact ⟨_, rfl, hid rfl, gr_refl w none⟩
  · have Hf := hid hf; clear hf
    go_enter Tryz.func73, Tryz.ntmps73
    go_wp2_with fail
    go_loopw [8] (fun i wr => ∃ k : Nat, k ≤ n ∧ i = .int .i64 k ∧ Hid ((List.range k).any p = false) ∧ w.grownBy wr none) (fun i _ => n - (intOf i).toNat)
    case atStart => exact ⟨0, Nat.zero_le _, rfl, hid rfl, gr_refl w none⟩
    case round =>
      obtain ⟨k, hk, rfl, hno, g⟩ := hrel
      have hf := Hf.out
      by_cases hlt : k < n
      · have hno1 := hno.out
        have q0 := gr_cell g (hf k hlt 0 (by omega))
        have q1 := gr_cell g (hf k hlt 1 (by omega))
        have q2 := gr_cell g (hf k hlt 2 (by omega))
        rw [Nat.add_zero] at q0
        clear hf
        obtain ⟨v, hv⟩ : ∃ v, Hid (p k = v) := ⟨_, hid rfl⟩
        have hno2 : (List.range (k + 1)).any p = v := by rw [List.range_succ, List.any_append, hno1, ← hv.out]; simp
        have Hno2 := hid hno2
        clear hno1 hno2
        go_wp2_with fail
        refine (HK.out k hlt _ g).mono ?_
        rintro e w2 ⟨rfl, g2⟩
        rw [hv.out]
        clear q0 q1 q2
        cases v
        · go_wp2_with fail
          go_roundw
          case rel => exact ⟨k + 1, by omega, by go_num, Hno2, gr_trans g g2⟩
          case measure => simp [intOf]; omega
        · go_wp2_with fail
          go_ret
          refine ⟨_, rfl, hid ?_, gr_trans g g2⟩
          have h1 := Hno2.out
          have h2 : (List.range n).any p = true := by
            rw [List.any_eq_true] at h1 ⊢
            obtain ⟨x, hx, hp⟩ := h1
            exact ⟨x, by simp at hx ⊢; omega, hp⟩
          rw [h2]
          exact decide_eq_true (by omega)
      · obtain rfl : k = n := by omega
        clear hlt hf
        go_wp2_with fail
        go_ret
        exact ⟨_, rfl, hid (by rw [hno.out]; rfl), g⟩

theorem contains_sta (K : Nat) (caps : Array Value) (sv : Value) (n : Nat) (f : Nat → Nat → Value) (p : Nat → Bool) (q : Bool) (w : World) (hs : SliceAt w.heap.size w sv 3 n f)
    (hn : n ≤ 140737488351232) (hq : Hid ((List.range n).any p = q))
    (eg : ∀ args w, (callFunc K args).run Tryz.prog w = .ok (.enter K args) w) (hK : ∀ j, j < n → ∀ w', w.grownBy w' none → Calls Tryz.prog K (#[.agg #[f j 0, f j 1, f j 2]] ++ caps) w' fun e w2 => e = .returned (.bool (p j)) ∧ w'.grownBy w2 none) :
    Calls Tryz.prog 26 #[sv, .func (.func K) #[] caps] w fun e w' => e = .returned (.bool q) ∧ w.grownBy w' none := by
  have HK := hid hK; clear hK
  go_enter Tryz.func26, Tryz.ntmps26
  go_wp2_with fail
  refine (index_sta K caps sv n f p _ hs hn eg HK.out).mono ?_
  rintro e w2 ⟨i, rfl, hi, g⟩
  go_wp2_with fail
  go_ret
  refine ⟨?_, g⟩
  rw [← hq.out, ← hi.out]
  rfl
end Go.Proofs.YtckoaeoecjphiaaGreat
