/- comp.Close, Frame. -/
import Derived.Test.YtagoiidpcfjebaaCompB
import Derived.Test.YtagoiidpcfjebaaCompM
namespace Go.Proofs.Ytagoiidpcfjebaa
open Go.RowKit Go.Lib

abbrev resV (p : Int) (c : Nat) (cy : Int) : Value := .agg #[.int .i64 p, .int .u32 (c : Int), .int .i64 cy]

theorem open_same (b : Nat) (win : Int) (op : Bool) (first : Int) (vr vc : Value) (cr : Nat) (w : World) (hc : Cmp w b win op first vr vc cr) :
    Calls Try.prog 16 #[.pointer (some ⟨b, 0, none⟩)] w fun e w' => e = .returned (.bool op) ∧ w' = w :=
  (comp_open b win op first vr vc cr w hc).mono fun _ _ ⟨h1, h2⟩ => ⟨h1, h2.symm⟩
theorem open_nil_same (w : World) : Calls Try.prog 16 #[.pointer none] w fun e w' => e = .returned (.bool false) ∧ w' = w :=
  (comp_open_nil w).mono fun _ _ ⟨h1, h2⟩ => ⟨h1, h2.symm⟩

set_option maxHeartbeats 1000000 in
theorem close_nil (l : Int) (w : World) :
    Calls Try.prog 13 #[.pointer none, .int .i64 l] w fun e w' => e = .returned (.tuple #[resV 0 0 0, .bool false]) ∧ w.grownBy w' none := by
  go_enter Try.func13, Try.ntmps13
  go_wp2_with fail
  go_quiet ((go_at_call 16; exact Calls.quiet_of_same (open_nil_same _)))
  go_wp2_with fail
  exact bodyPost_ret (v := .tuple #[resV 0 0 0, .bool false]) (by simp [results, Try.results13, go_sem]) rfl ⟨rfl, gr_setNew (gr_setNew (gr_setNew (gr_drewN (gr_alloc (gr_refl w none) _) _) (Nat.le_refl _) 0 _) (Nat.le_refl _) 1 _) (Nat.le_refl _) 2 _⟩

set_option maxHeartbeats 1000000 in
theorem close_shut (b : Nat) (win first : Int) (vr vc : Value) (cr : Nat) (l : Int) (w : World) (hc : Cmp w b win false first vr vc cr) :
    Calls Try.prog 13 #[.pointer (some ⟨b, 0, none⟩), .int .i64 l] w fun e w' => e = .returned (.tuple #[resV 0 0 0, .bool false]) ∧ w.grownBy w' none := by
  have Hc := hid (hc.kept (gr_alloc (gr_refl w none) (.cells #[.int .i64 0, .int .u32 0, .int .i64 0] 39)) (by simp))
  clear hc
  go_enter Try.func13, Try.ntmps13
  go_wp2_with fail
  go_quiet ((go_at_call 16; exact Calls.quiet_of_same (open_same _ _ _ _ _ _ _ _ Hc.out)))
  go_wp2_with fail
  exact bodyPost_ret (v := .tuple #[resV 0 0 0, .bool false]) (by simp [results, Try.results13, go_sem]) rfl ⟨rfl, gr_setNew (gr_setNew (gr_setNew (gr_drewN (gr_alloc (gr_refl w none) _) _) (Nat.le_refl _) 0 _) (Nat.le_refl _) 1 _) (Nat.le_refl _) 2 _⟩

set_option maxHeartbeats 1000000 in
theorem close_early (b : Nat) (win first : Int) (vr vc : Value) (cr : Nat) (l : Int) (w : World) (hc : Cmp w b win true first vr vc cr) (hf : -1125899906842624 ≤ first ∧ first ≤ 1125899906842624) (hw : 0 ≤ win ∧ win ≤ 1048576) (hl : l < first + win) :
    Calls Try.prog 13 #[.pointer (some ⟨b, 0, none⟩), .int .i64 l] w fun e w' => e = .returned (.tuple #[resV 0 0 0, .bool false]) ∧ w.grownBy w' none := by
  have Hc := hid (hc.kept (gr_alloc (gr_refl w none) (.cells #[.int .i64 0, .int .u32 0, .int .i64 0] 39)) (by simp))
  clear hc
  have c0 := Hc.out.c0
  have c2 := Hc.out.c2
  obtain ⟨f0, f1⟩ := hf
  obtain ⟨m0, m1⟩ := hw
  have wf : IntKind.i64.wrap (first + win) = first + win := by rw [IntKind.wrap_i64]; omega
  go_enter Try.func13, Try.ntmps13
  go_wp2_with fail
  have hd : decide (l < first + win) = true := by simpa using hl
  go_quiet ((go_at_call 16; exact Calls.quiet_of_same (open_same _ _ _ _ _ _ _ _ Hc.out)))
  clear wf hd c0 c2
  go_wp2_with fail
  exact bodyPost_ret (v := .tuple #[resV 0 0 0, .bool false]) (by simp [results, Try.results13, go_sem]) rfl ⟨rfl, gr_setNew (gr_setNew (gr_setNew (gr_drewN (gr_alloc (gr_refl w none) _) _) (Nat.le_refl _) 0 _) (Nat.le_refl _) 1 _) (Nat.le_refl _) 2 _⟩

theorem tolerant_ok (a : Option Addr) (len cap : Nat) (zs : List Int) (hz : zs ≠ []) (hreach : zs.length ≤ 1000) (h64 : In64 zs) (w : World) (hI : Ints w.heap.size w (.slice a len cap) zs) :
    Calls Try.prog 24 #[.slice a len cap] w fun e w' => e = .returned (.tuple #[.int .i64 (tolL zs), .int .i64 0]) ∧ w.grownBy w' none := by
  refine (tolerant_any a len cap zs (by omega) h64 w hI).mono ?_
  rintro e w' ⟨h, g⟩
  rw [if_neg hz] at h
  exact ⟨h, g⟩

theorem own_ints' {w : World} {base e : Nat} {v : Value} {zs : List Int} (h : w.ownsRow base e 1 v zs.length (zs.map (Value.int .i64))) : Ints w.heap.size w v zs := by
  rcases h.2 with ⟨rfl, h0⟩ | ⟨g, cap, cur, rfl, _, hh, _⟩
  · exact .inl ⟨_, _, rfl, List.eq_nil_of_length_eq_zero h0⟩
  · refine .inr ⟨g, 0, cap, rfl, lt_of_block hh, fun j hj => ?_⟩
    rw [Nat.zero_add, h.cellAt j (by omega)]
    simp [hj]

/-- Behind a region: one new block has a name. -/
def Behind1 (F : Nat → Act) (S : Nat → World → Prop) : Exit → Act → World → Prop
  | .normal, a, W => ∃ g, a = F g ∧ S g W
  | _, _, _ => False
theorem wp_behind1 {P : Program} {code : Code} {Q : Exit → Act → World → Prop} {a : Act} {w : World} {F : Nat → Act} (S : Nat → World → Prop) (h : code.wp P (Behind1 F S) a w) (k : ∀ g W, S g W → Q .normal (F g) W) : code.wp P Q a w :=
  Code.wp_mono (fun e a W hb => by
    cases e with
    | normal => obtain ⟨g, ha, hs⟩ := hb; subst ha; exact k g W hs
    | _ => exact (hb : False).elim) h
theorem cells3 {w : World} {g : Nat} {a b c a' b' c' : Value} {t : TypeId} (h : w.heap[g]? = some (.cells #[a, b, c] t)) :
    (((w.setCell ⟨g, 0, none⟩ a').setCell ⟨g, 1, none⟩ b').setCell ⟨g, 2, none⟩ c').heap[g]? = some (.cells #[a', b', c'] t) := by
  simp only [World.setCell, Array.getElem?_modify, if_true, h, Option.map_some]
  rfl

/-- A struct laid over the collection. -/
theorem Cmp.laid {w : World} {b : Nat} {win : Int} {op : Bool} {first : Int} {vr vc : Value} {cr : Nat} (h : Cmp w b win op first vr vc cr) (win' : Int) (op' : Bool) (first' : Int) (vr' vc' : Value) (c : Nat) :
    Cmp ((((((w.setCell ⟨b, 0, none⟩ (.int .i64 win')).setCell ⟨b, 1, none⟩ (.bool op')).setCell ⟨b, 2, none⟩ (.int .i64 first')).setCell ⟨b, 3, none⟩ vr').setCell ⟨b, 4, none⟩ vc').setCell ⟨b, 5, none⟩ (.int .u32 (c : Int))) b win' op' first' vr' vc' c := by
  unfold Cmp at *
  simp only [World.setCell, Array.getElem?_modify, if_true, h, Option.map_some]
  rfl
theorem Cmp.other {w : World} {b g i : Nat} {win : Int} {op : Bool} {first : Int} {vr vc u : Value} {cr : Nat} (h : Cmp w b win op first vr vc cr) (hg : b ≠ g) : Cmp (w.setCell ⟨g, i, none⟩ u) b win op first vr vc cr := by
  unfold Cmp at *
  rw [Below.heap_setCell _ _ _ _ (by simpa using hg)]
  exact h
theorem own_at {w : World} {base e size n : Nat} {v : Value} {xs : List Value} (h : w.ownsRow base e size v n xs) (hn : 1 ≤ n) : ∃ g cap, v = .slice (some ⟨g, 0, none⟩) n cap := by
  rcases h.2 with ⟨_, h0⟩ | ⟨g, cap, cur, rfl, _⟩
  · omega
  · exact ⟨g, cap, rfl⟩
theorem tolL_bounds {zs : List Int} {lo hi : Int} (h : ∀ x ∈ zs, lo ≤ x ∧ x ≤ hi) (h1 : 1 ≤ zs.length) : lo ≤ tolL zs ∧ tolL zs ≤ hi := by
  have hl := (sortL_perm zs).length_eq
  have a := h _ ((sortL_perm zs).mem_iff.1 (nth_mem (l := sortL zs) (i := 0) (by omega)))
  have b := h _ ((sortL_perm zs).mem_iff.1 (nth_mem (l := sortL zs) (i := zs.length - 1) (by omega)))
  have c := tolL_between h1
  omega

end Go.Proofs.Ytagoiidpcfjebaa
