/- Lemmas: comp.most: the number that stands most often, the greatest of several. comp.Close, Frame. -/
import Derived.Test.YtckoaeoecjphiaaGreatK05
import Derived.Test.YtckoaeoecjphiaaGreatK14
import Derived.Test.YtckoaeoecjphiaaGreatK15

/- comp.most: the number that stands most often, the greatest of several. -/
namespace Go.Proofs.YtckoaeoecjphiaaGreat
open Go.RowKit Go.Shelf Go.Sort Go.Lib

def mostF (cs l : List Int) : Int × Nat := l.foldl (fun p n => if p.2 ≤ cs.count n then (n, cs.count n) else p) (0, 0)
def mostL (cs : List Int) : Int := (mostF cs (sortL cs)).1

theorem mostF_snoc (cs l : List Int) (n : Int) : mostF cs (l ++ [n]) = if (mostF cs l).2 ≤ cs.count n then (n, cs.count n) else mostF cs l := by
  unfold mostF
  rw [List.foldl_append]
  rfl
theorem mostF_spec (cs : List Int) {s : List Int} (hs : s.Pairwise (· ≤ ·)) : ∀ k, k ≤ s.length → (k = 0 ∧ mostF cs (s.take k) = (0, 0)) ∨
    ((mostF cs (s.take k)).1 ∈ s.take k ∧ (mostF cs (s.take k)).2 = cs.count (mostF cs (s.take k)).1 ∧ ∀ x ∈ s.take k, cs.count x < cs.count (mostF cs (s.take k)).1 ∨ cs.count x = cs.count (mostF cs (s.take k)).1 ∧ x ≤ (mostF cs (s.take k)).1)
  | 0, _ => .inl ⟨rfl, by simp [mostF]⟩
  | k + 1, hk => by
    right
    have ih := mostF_spec cs hs k (by omega)
    have ht := take_nth s k (by omega)
    have hp : (s.take (k + 1)).Pairwise (· ≤ ·) := hs.sublist (List.take_sublist _ _)
    rw [ht, List.pairwise_append] at hp
    rw [ht, mostF_snoc]
    rcases ih with ⟨rfl, h0⟩ | ⟨h1, h2, h3⟩
    · rw [h0]
      simp
    · by_cases h : (mostF cs (s.take k)).2 ≤ cs.count (nth s k)
      · rw [if_pos h]
        refine ⟨by simp, rfl, ?_⟩
        intro x hx
        rcases List.mem_append.1 hx with hx | hx
        · have a := h3 x hx
          have b := hp.2.2 x hx (nth s k) (by simp)
          simp only
          omega
        · have : x = nth s k := by simpa using hx
          subst this
          exact .inr ⟨rfl, Int.le_refl _⟩
      · rw [if_neg h]
        refine ⟨List.mem_append_left _ h1, h2, ?_⟩
        intro x hx
        rcases List.mem_append.1 hx with hx | hx
        · exact h3 x hx
        · have : x = nth s k := by simpa using hx
          subst this
          left
          omega
theorem most_spec {cs : List Int} (h : cs ≠ []) : mostL cs ∈ cs ∧ ∀ x ∈ cs, cs.count x < cs.count (mostL cs) ∨ cs.count x = cs.count (mostL cs) ∧ x ≤ mostL cs := by
  have hl := (sortL_perm cs).length_eq
  have hs := mostF_spec cs (sortL_sorted cs) (sortL cs).length (Nat.le_refl _)
  rw [List.take_length] at hs
  rcases hs with ⟨h0, _⟩ | ⟨h1, h2, h3⟩
  · exfalso; apply h; exact List.eq_nil_of_length_eq_zero (by omega)
  · exact ⟨(sortL_perm cs).mem_iff.1 h1, fun x hx => h3 x ((sortL_perm cs).mem_iff.2 hx)⟩
/-- One number is that, whatever else. -/
theorem most_unique {cs : List Int} {m : Int} (hm : m ∈ cs) (h : ∀ x ∈ cs, cs.count x < cs.count m ∨ cs.count x = cs.count m ∧ x ≤ m) : mostL cs = m := by
  have hne : cs ≠ [] := by rintro rfl; simp at hm
  have a := most_spec hne
  have b := h _ a.1
  have c := a.2 _ hm
  omega
theorem mostL_perm {a b : List Int} (h : a.Perm b) (hne : b ≠ []) : mostL a = mostL b := by
  have hb := most_spec hne
  refine most_unique (h.mem_iff.2 hb.1) ?_
  intro x hx
  rw [h.count_eq, h.count_eq]
  exact hb.2 x (h.mem_iff.1 hx)

set_option maxHeartbeats 2000000 in
theorem most_any (a : Option Addr) (len cap : Nat) (zs : List Int) (hz : zs ≠ []) (hs : zs.length ≤ 1000) (w : World) (hI : Ints w.heap.size w (.slice a len cap) zs) :
    Calls Tryz.prog 134 #[.slice a len cap] w fun e w' => e = .returned (.int .i64 (mostL zs)) ∧ w.grownBy w' none := by
  have hS := hid (sorted_values a len cap zs (by omega) w hI)
  have hL := hid ((sortL_perm zs).length_eq)
  rcases hI with ⟨_, _, _, h⟩ | ⟨b, off, cap', e, hb, hc⟩
  · exact absurd h hz
  cases e
  obtain ⟨n, hn⟩ : ∃ n, Hid (zs.length = n) := ⟨_, hid rfl⟩
  have hs' : n ≤ 1000 := by rw [← hn.out]; exact hs
  have hgoal := hn.out
  have Hc := hid hc
  have Hz := hid hz
  rw [hgoal] at Hc hL hS ⊢
  clear hgoal hc hz hs
  go_enter Tryz.func134, Tryz.ntmps134
  go_wp2_with fail
  refine (values_call _ _ cap _).mono ?_
  rintro e w' ⟨rfl, rfl⟩
  go_wp2_with fail
  refine hS.out.mono ?_
  rintro e w1 ⟨v, rfl, ⟨h, rfl⟩ | ⟨_, g, cap2, rfl, hcs⟩, hg⟩
  · exact absurd h Hz.out
  have Hcs := hid hcs
  have Hg := hid hg
  have Hcz : Hid (∀ j, j < n → w1.cell? ⟨b, off + j, none⟩ = some (.int .i64 (nth zs j))) := hid (fun j hj => gr_cell hg (Hc.out j hj))
  clear hcs hg hS Hc
  go_wp2_with fail
  go_loop [3, 4, 14] (fun vb vt vi => ∃ (k : Nat) (best : Int) (t : Nat), Hid (mostF zs ((sortL zs).take k) = (best, t)) ∧ vi = .int .i64 k ∧ k ≤ n ∧ vb = .int .i64 best ∧ vt = .int .i64 t ∧ t ≤ n) (fun _ _ i => n - (intOf i).toNat)
  case atStart => exact ⟨0, 0, 0, hid (by simp [mostF]), rfl, Nat.zero_le _, rfl, rfl, Nat.zero_le _⟩
  case round =>
    obtain ⟨k, best, t, HM, rfl, hk, rfl, rfl, ht⟩ := hrel
    by_cases hlt : k < n
    · have hx0 := Hcs.out k hlt
      obtain ⟨x, hxe⟩ : ∃ x, Hid (nth (sortL zs) k = x) := ⟨_, hid rfl⟩
      rw [hxe.out] at hx0
      go_wp2_with fail
      go_loop [7, 20] (fun vk vi => ∃ (m c : Nat), Hid ((zs.take m).count x = c) ∧ vi = .int .i64 m ∧ m ≤ n ∧ vk = .int .i64 c ∧ c ≤ m) (fun _ i => n - (intOf i).toNat)
      case atStart => exact ⟨0, 0, hid (by simp), rfl, Nat.zero_le _, rfl, Nat.le_refl _⟩
      case round =>
        obtain ⟨m, c, HC, rfl, hm, rfl, hcm⟩ := hrel
        by_cases hmn : m < n
        · have hy0 := Hcz.out m hmn
          obtain ⟨y, hye⟩ : ∃ y, Hid (nth zs m = y) := ⟨_, hid rfl⟩
          rw [hye.out] at hy0
          have htk : Hid (zs.take (m + 1) = zs.take m ++ [y]) := hid (by rw [← hye.out]; exact take_nth zs m (by rw [hn.out]; exact hmn))
          by_cases hyx : y = x
          · subst hyx
            go_wp2_with fail
            go_round
            case rel => exact ⟨m + 1, c + 1, hid (by rw [htk.out, List.count_append, HC.out]; simp), by go_num, by omega, by go_num, by omega⟩
            case measure => simp [intOf]; omega
          · go_wp2_with fail
            go_round
            case rel => exact ⟨m + 1, c, hid (by rw [htk.out, List.count_append, HC.out]; simp [hyx]), by go_num, by omega, rfl, by omega⟩
            case measure => simp [intOf]; omega
        · obtain rfl : m = n := by omega
          have hcz : Hid (zs.count x = c) := hid (by rw [← HC.out, ← hn.out, List.take_length])
          have hst : Hid (mostF zs ((sortL zs).take (k + 1)) = if t ≤ c then (x, c) else (best, t)) := hid (by
            rw [take_nth _ _ (by rw [hL.out]; exact hlt), mostF_snoc, HM.out, hxe.out, hcz.out])
          by_cases htc : t ≤ c
          · go_wp2_with fail
            go_round
            case rel => exact ⟨k + 1, x, c, hid (by rw [hst.out, if_pos htc]), by go_num, by omega, rfl, rfl, by omega⟩
            case measure => simp [intOf]; omega
          · go_wp2_with fail
            go_round
            case rel => exact ⟨k + 1, best, t, hid (by rw [hst.out, if_neg htc]), by go_num, by omega, rfl, rfl, by omega⟩
            case measure => simp [intOf]; omega
    · obtain rfl : k = n := by omega
      have hfin : mostL zs = best := by
        have := HM.out
        rw [← hL.out, List.take_length] at this
        unfold mostL
        rw [this]
      have Hfin := hid hfin
      clear hfin
      go_wp2_with fail
      go_ret
      exact ⟨by rw [Hfin.out]; rfl, Hg.out⟩
end Go.Proofs.YtckoaeoecjphiaaGreat

/- comp.Close, Frame. -/
namespace Go.Proofs.YtckoaeoecjphiaaGreat
open Go.RowKit Go.Lib

abbrev resV (p : Int) (c : Nat) (cy : Int) : Value := .agg #[.int .i64 p, .int .u32 (c : Int), .int .i64 cy]

theorem open_same (b : Nat) (win : Int) (op : Bool) (first : Int) (vr vc : Value) (cr : Nat) (w : World) (hc : Cmp w b win op first vr vc cr) :
    Calls Tryz.prog 132 #[.pointer (some ⟨b, 0, none⟩)] w fun e w' => e = .returned (.bool op) ∧ w' = w :=
  (comp_open b win op first vr vc cr w hc).mono fun _ _ ⟨h1, h2⟩ => ⟨h1, h2.symm⟩
theorem open_nil_same (w : World) : Calls Tryz.prog 132 #[.pointer none] w fun e w' => e = .returned (.bool false) ∧ w' = w :=
  (comp_open_nil w).mono fun _ _ ⟨h1, h2⟩ => ⟨h1, h2.symm⟩

set_option maxHeartbeats 1000000 in
theorem close_nil (l : Int) (w : World) :
    Calls Tryz.prog 80 #[.pointer none, .int .i64 l] w fun e w' => e = .returned (.tuple #[resV 0 0 0, .bool false]) ∧ w.grownBy w' none := by
  go_enter Tryz.func80, Tryz.ntmps80
  go_wp2_with fail
  go_quiet ((go_at_call 132; exact Calls.quiet_of_same (open_nil_same _)))
  go_wp2_with fail
  exact bodyPost_ret (v := .tuple #[resV 0 0 0, .bool false]) (by simp [results, Tryz.results80, go_sem]) rfl ⟨rfl, gr_setNew (gr_setNew (gr_setNew (gr_drewN (gr_alloc (gr_refl w none) _) _) (Nat.le_refl _) 0 _) (Nat.le_refl _) 1 _) (Nat.le_refl _) 2 _⟩

set_option maxHeartbeats 1000000 in
theorem close_shut (b : Nat) (win first : Int) (vr vc : Value) (cr : Nat) (l : Int) (w : World) (hc : Cmp w b win false first vr vc cr) :
    Calls Tryz.prog 80 #[.pointer (some ⟨b, 0, none⟩), .int .i64 l] w fun e w' => e = .returned (.tuple #[resV 0 0 0, .bool false]) ∧ w.grownBy w' none := by
  have Hc := hid (hc.kept (gr_alloc (gr_refl w none) (.cells #[.int .i64 0, .int .u32 0, .int .i64 0] 91)) (by simp))
  clear hc
  go_enter Tryz.func80, Tryz.ntmps80
  go_wp2_with fail
  go_quiet ((go_at_call 132; exact Calls.quiet_of_same (open_same _ _ _ _ _ _ _ _ Hc.out)))
  go_wp2_with fail
  exact bodyPost_ret (v := .tuple #[resV 0 0 0, .bool false]) (by simp [results, Tryz.results80, go_sem]) rfl ⟨rfl, gr_setNew (gr_setNew (gr_setNew (gr_drewN (gr_alloc (gr_refl w none) _) _) (Nat.le_refl _) 0 _) (Nat.le_refl _) 1 _) (Nat.le_refl _) 2 _⟩

set_option maxHeartbeats 1000000 in
theorem close_early (b : Nat) (win first : Int) (vr vc : Value) (cr : Nat) (l : Int) (w : World) (hc : Cmp w b win true first vr vc cr) (hf : -1125899906842624 ≤ first ∧ first ≤ 1125899906842624) (hw : 0 ≤ win ∧ win ≤ 1048576) (hl : l < first + win) :
    Calls Tryz.prog 80 #[.pointer (some ⟨b, 0, none⟩), .int .i64 l] w fun e w' => e = .returned (.tuple #[resV 0 0 0, .bool false]) ∧ w.grownBy w' none := by
  have Hc := hid (hc.kept (gr_alloc (gr_refl w none) (.cells #[.int .i64 0, .int .u32 0, .int .i64 0] 91)) (by simp))
  clear hc
  have c0 := Hc.out.c0
  have c2 := Hc.out.c2
  obtain ⟨f0, f1⟩ := hf
  obtain ⟨m0, m1⟩ := hw
  have wf : IntKind.i64.wrap (first + win) = first + win := by rw [IntKind.wrap_i64]; omega
  go_enter Tryz.func80, Tryz.ntmps80
  go_wp2_with fail
  have hd : decide (l < first + win) = true := by simpa using hl
  go_quiet ((go_at_call 132; exact Calls.quiet_of_same (open_same _ _ _ _ _ _ _ _ Hc.out)))
  clear wf hd c0 c2
  go_wp2_with fail
  exact bodyPost_ret (v := .tuple #[resV 0 0 0, .bool false]) (by simp [results, Tryz.results80, go_sem]) rfl ⟨rfl, gr_setNew (gr_setNew (gr_setNew (gr_drewN (gr_alloc (gr_refl w none) _) _) (Nat.le_refl _) 0 _) (Nat.le_refl _) 1 _) (Nat.le_refl _) 2 _⟩

theorem tolerant_ok (a : Option Addr) (len cap : Nat) (zs : List Int) (hz : zs ≠ []) (hreach : zs.length ≤ 1000) (h64 : In64 zs) (w : World) (hI : Ints w.heap.size w (.slice a len cap) zs) :
    Calls Tryz.prog 133 #[.slice a len cap] w fun e w' => e = .returned (.tuple #[.int .i64 (tolL zs), .int .i64 0]) ∧ w.grownBy w' none := by
  refine (tolerant_any a len cap zs (by omega) h64 w hI).mono ?_
  rintro e w' ⟨h, g⟩
  rw [if_neg hz] at h
  exact ⟨h, g⟩

theorem own_ints' {w : World} {base e : Nat} {v : Value} {zs : List Int} (h : w.ownsRow base e 1 v zs.length (zs.map (Value.int .i64))) : Ints w.heap.size w v zs := by
  rcases h.2 with ⟨rfl, h0⟩ | ⟨g, cap, cur, rfl, _, hh, _⟩
  · exact .inl ⟨_, _, rfl, List.eq_nil_of_length_eq_zero h0⟩
  · refine .inr ⟨g, 0, cap, rfl, lt_of_block hh, fun j hj => ?_⟩
    rw [Nat.zero_add, h.cellAt j (by omega)]
    simp [hj]

/-- Behind a region: one new block has a name. -/
def Behind1 (F : Nat → Act) (S : Nat → World → Prop) : Exit → Act → World → Prop
  | .normal, a, W => ∃ g, a = F g ∧ S g W
  | _, _, _ => False
theorem wp_behind1 {P : Program} {code : Code} {Q : Exit → Act → World → Prop} {a : Act} {w : World} {F : Nat → Act} (S : Nat → World → Prop) (h : code.wp P (Behind1 F S) a w) (k : ∀ g W, S g W → Q .normal (F g) W) : code.wp P Q a w :=
  Code.wp_mono (fun e a W hb => by
    cases e with
    | normal => obtain ⟨g, ha, hs⟩ := hb; subst ha; exact k g W hs
    | _ => exact (hb : False).elim) h
theorem cells3 {w : World} {g : Nat} {a b c a' b' c' : Value} {t : TypeId} (h : w.heap[g]? = some (.cells #[a, b, c] t)) :
    (((w.setCell ⟨g, 0, none⟩ a').setCell ⟨g, 1, none⟩ b').setCell ⟨g, 2, none⟩ c').heap[g]? = some (.cells #[a', b', c'] t) := by
  simp only [World.setCell, Array.getElem?_modify, if_true, h, Option.map_some]
  rfl

/-- A struct laid over the collection. -/
theorem Cmp.laid {w : World} {b : Nat} {win : Int} {op : Bool} {first : Int} {vr vc : Value} {cr : Nat} (h : Cmp w b win op first vr vc cr) (win' : Int) (op' : Bool) (first' : Int) (vr' vc' : Value) (c : Nat) :
    Cmp ((((((w.setCell ⟨b, 0, none⟩ (.int .i64 win')).setCell ⟨b, 1, none⟩ (.bool op')).setCell ⟨b, 2, none⟩ (.int .i64 first')).setCell ⟨b, 3, none⟩ vr').setCell ⟨b, 4, none⟩ vc').setCell ⟨b, 5, none⟩ (.int .u32 (c : Int))) b win' op' first' vr' vc' c := by
  unfold Cmp at *
  simp only [World.setCell, Array.getElem?_modify, if_true, h, Option.map_some]
  rfl
theorem Cmp.other {w : World} {b g i : Nat} {win : Int} {op : Bool} {first : Int} {vr vc u : Value} {cr : Nat} (h : Cmp w b win op first vr vc cr) (hg : b ≠ g) : Cmp (w.setCell ⟨g, i, none⟩ u) b win op first vr vc cr := by
  unfold Cmp at *
  rw [Below.heap_setCell _ _ _ _ (by simpa using hg)]
  exact h
theorem own_at {w : World} {base e size n : Nat} {v : Value} {xs : List Value} (h : w.ownsRow base e size v n xs) (hn : 1 ≤ n) : ∃ g cap, v = .slice (some ⟨g, 0, none⟩) n cap := by
  rcases h.2 with ⟨_, h0⟩ | ⟨g, cap, cur, rfl, _⟩
  · omega
  · exact ⟨g, cap, rfl⟩
theorem tolL_bounds {zs : List Int} {lo hi : Int} (h : ∀ x ∈ zs, lo ≤ x ∧ x ≤ hi) (h1 : 1 ≤ zs.length) : lo ≤ tolL zs ∧ tolL zs ≤ hi := by
  have hl := (sortL_perm zs).length_eq
  have a := h _ ((sortL_perm zs).mem_iff.1 (nth_mem (l := sortL zs) (i := 0) (by omega)))
  have b := h _ ((sortL_perm zs).mem_iff.1 (nth_mem (l := sortL zs) (i := zs.length - 1) (by omega)))
  have c := tolL_between h1
  omega

end Go.Proofs.YtckoaeoecjphiaaGreat
