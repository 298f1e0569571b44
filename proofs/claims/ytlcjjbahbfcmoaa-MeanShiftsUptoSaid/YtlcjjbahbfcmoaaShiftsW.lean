/- tocsinlaw03.MeanShifts, walked. -/
import Derived.Test.YtlcjjbahbfcmoaaTwinsW
import Derived.Test.YtlcjjbahbfcmoaaSortPlain
import Derived.Maps.AppendAt
namespace Go.Proofs.Ytlcjjbahbfcmoaa
open Go.RowKit Go.Lib

def addL (c : Int) (zs : List Int) : List Int := zs.map (· + c)
theorem addL_len (c : Int) (zs : List Int) : (addL c zs).length = zs.length := by simp [addL]
theorem sortL_add (c : Int) (zs : List Int) : sortL (addL c zs) = addL c (sortL zs) :=
  sortL_eq ((sortL_perm zs).map _) (by
    unfold addL
    rw [List.pairwise_map]
    exact (sortL_sorted zs).imp (by intro a b h; omega))
theorem nth_add (c : Int) {zs : List Int} {i : Nat} (h : i < zs.length) : nth (addL c zs) i = nth zs i + c := by simp [nth, addL, h]
theorem tolL_add (c : Int) {zs : List Int} (h : 1 ≤ zs.length) : tolL (addL c zs) = tolL zs + c := by
  have hl := (sortL_perm zs).length_eq
  unfold tolL
  rw [addL_len, sortL_add]
  by_cases h1 : zs.length = 1
  · rw [if_pos h1, if_pos h1, nth_add c (by omega)]
  · rw [if_neg h1, if_neg h1]
    by_cases h2 : zs.length = 2
    · rw [if_pos h2, if_pos h2, nth_add c (by omega), nth_add c (by omega)]; omega
    · rw [if_neg h2, if_neg h2, nth_add c (by omega), nth_add c (by omega)]; omega
theorem midL_add (c : Int) {zs : List Int} (h : 1 ≤ zs.length) : midL (addL c zs) = midL zs + c := by
  have hl := (sortL_perm zs).length_eq
  unfold midL
  rw [addL_len, sortL_add, nth_add c (by omega), nth_add c (by omega)]; omega
theorem spread_add (c : Int) {zs : List Int} (h : 1 ≤ zs.length) : maxL (addL c zs) - minL (addL c zs) = maxL zs - minL zs := by
  have hl := (sortL_perm zs).length_eq
  rw [maxL_sort (by rw [addL_len]; exact h), minL_sort (by rw [addL_len]; exact h), maxL_sort h, minL_sort h, addL_len, sortL_add, nth_add c (by omega), nth_add c (by omega)]; omega

def In32 (l : List Int) : Prop := ∀ x ∈ l, -2147483648 ≤ x ∧ x ≤ 2147483647
theorem In32.mean {l : List Int} (h : In32 l) (h1 : 1 ≤ l.length) : (-2147483648 ≤ tolL l ∧ tolL l ≤ 2147483647) ∧ (-2147483648 ≤ midL l ∧ midL l ≤ 2147483647) := by
  have hl := (sortL_perm l).length_eq
  have a := h _ ((sortL_perm l).mem_iff.1 (nth_mem (l := sortL l) (i := 0) (by omega)))
  have b := h _ ((sortL_perm l).mem_iff.1 (nth_mem (l := sortL l) (i := l.length - 1) (by omega)))
  have c := tolL_between h1
  have d := midL_between h1
  omega

/-- The slice's own numbers of 32 bits. -/
def Ints32 (n₀ : Nat) (W : World) (sv : Value) (zs : List Int) : Prop :=
  (∃ a cap, sv = .slice a 0 cap ∧ zs = []) ∨ ∃ b off cap, sv = .slice (some ⟨b, off, none⟩) zs.length cap ∧ b < n₀ ∧ ∀ j, j < zs.length → W.cell? ⟨b, off + j, none⟩ = some (.int .i32 (nth zs j))

theorem apart_of {a b : Value} (h : ∀ q, a.ownBlock = some q → b.ownBlock ≠ some q) : b.ownBlock = none ∨ b.ownBlock ≠ a.ownBlock := by
  cases hb : b.ownBlock with
  | none => exact .inl rfl
  | some q => exact .inr fun e => h q e.symm hb
theorem apart_new {a b v : Value} {n : Nat} (h : ∀ q, a.ownBlock = some q → b.ownBlock ≠ some q) (hv : v.ownBlock = a.ownBlock ∨ v.ownBlock = some n) (hb : ∀ q, b.ownBlock = some q → q < n) : ∀ q, v.ownBlock = some q → b.ownBlock ≠ some q := by
  intro q hq hb'
  rcases hv with e | e
  · exact h q (e ▸ hq) hb'
  · rw [e] at hq
    cases hq
    exact absurd (hb _ hb') (by omega)

set_option maxRecDepth 100000 in
set_option maxHeartbeats 4000000 in
theorem shifts_walk (a : Option Addr) (zs : List Int) (cap : Nat) (hsmall : zs.length ≤ 1048576) (h32 : In32 zs) {w : World} (hI : Ints32 w.heap.size w (.slice a zs.length cap) zs) (c : Int) (bc : -2147483648 ≤ c ∧ c ≤ 2147483647) :
    Calls Try.prog 7 #[.slice a zs.length cap, .int .i32 c] w fun e w' => e = .returned (.bool true) ∧ Below w.heap.size w w' := by
  obtain ⟨i0, hi, hz0, hz1, hz2⟩ := info_parts Try.info_i64
  have HI := hid hI
  have H32 := hid h32
  clear hI h32
  obtain ⟨bc0, bc1⟩ := bc
  obtain ⟨n, hn⟩ : ∃ n, Hid (zs.length = n) := ⟨_, hid rfl⟩
  rw [hn.out] at hsmall
  have hgoal := hn.out
  rw [hgoal]
  clear hgoal
  have HIn := HI
  rw [hn.out] at HIn
  go_enter Try.func7, Try.ntmps7
  go_wp2_with fail
  refine (fixed_true _).mono ?_
  rintro e w1 ⟨rfl, g1⟩
  go_wp2_with fail
  go_loopw [5, 6, 21] (fun va vb vi wr => ∃ k : Nat, vi = .int .i64 k ∧ k ≤ n ∧ Hid (wr.ownsRow w1.heap.size 2 1 va k ((zs.take k).map (Value.int .i64))) ∧ Hid (wr.ownsRow w1.heap.size 2 1 vb k ((addL c (zs.take k)).map (Value.int .i64))) ∧ Hid (∀ q, va.ownBlock = some q → vb.ownBlock ≠ some q) ∧ Hid (Below w1.heap.size w1 wr)) (fun _ _ vi _ => n - (intOf vi).toNat)
  case atStart => exact ⟨0, rfl, Nat.zero_le _, hid (World.ownsRow_nil _ _ _ _), hid (World.ownsRow_nil _ _ _ _), hid (by intro q hq; simp [Value.ownBlock] at hq), hid (Below.refl _ _)⟩
  case round =>
    obtain ⟨k, rfl, hk, Hoa, Hob, Hne, HB⟩ := hrel
    by_cases hlt : k < n
    · rcases HIn.out with ⟨_, _, e, h⟩ | ⟨b, off, cap', e, hb, hc⟩
      · exfalso; have := hn.out; rw [h] at this; simp at this; omega
      have e' : a = some ⟨b, off, none⟩ ∧ cap = cap' := by rw [hn.out] at e; simpa using e
      obtain ⟨rfl, rfl⟩ := e'
      have hlt' : k < zs.length := by rw [hn.out]; exact hlt
      have hck := HB.out.cell (p := ⟨b, off + k, none⟩) (Nat.lt_of_lt_of_le hb g1.size) |>.trans (gr_cell g1 (hc k hlt'))
      have hx := H32.out _ (nth_mem hlt')
      have ht := hid (take_nth zs k hlt')
      have hta : Hid (addL c (zs.take (k + 1)) = addL c (zs.take k) ++ [nth zs k + c]) := hid (by rw [ht.out]; simp [addL])
      clear hc e hlt'
      obtain ⟨x, hxe⟩ : ∃ x, Hid (nth zs k = x) := ⟨_, hid rfl⟩
      rw [hxe.out] at hck hx ht hta
      obtain ⟨x0, x1⟩ := hx
      go_wp2_with (first
        | (at_builtin; refine wpList_append_own_at _ rfl (.tmp 25) (.tmp 28) 22 rfl w1.heap.size 2 i0 (.int .i64 0) 1 8 Try.underlying22 hi hz0 hz1 hz2 rfl (by decide) _ _ _ rfl (Hoa.out.alloc _) ⟨wr.heap.size, 0, none⟩ 1 1 [.int .i64 x] rfl rfl (cell_one_new _ _ _) (by simp [Value.oneCell']) (by unfold maxLen; omega) (by omega) (by have := HB.out.size; simp; omega) ?_; intro v2 w2 hown2 hg2 _ hat2; have HB2 : Hid (Below w1.heap.size w1 w2) := hid ((HB.out.alloc HB.out.size _).grown hg2 (by have := HB.out.size; simp; omega) (fun q hq => (Hoa.out.lt q hq).1)); have Hob2 : Hid (w2.ownsRow w1.heap.size 2 1 u6 k ((addL c (zs.take k)).map (Value.int .i64))) := hid ((Hob.out.alloc _).kept hg2 (apart_of Hne.out)); have Hoa2 : Hid (w2.ownsRow w1.heap.size 2 1 v2 (k + 1) ((zs.take (k + 1)).map (Value.int .i64))) := hid (by rw [ht.out, List.map_append]; exact hown2); have Hne2 : Hid (∀ q, v2.ownBlock = some q → u6.ownBlock ≠ some q) := hid (apart_new Hne.out hat2 (fun q hq => by have := (Hob.out.lt q hq).2; simp; omega)); clear hown2 hg2 hat2)
        | (at_builtin; refine wpList_append_own_at _ rfl (.tmp 30) (.tmp 36) 22 rfl w1.heap.size 2 i0 (.int .i64 0) 1 8 Try.underlying22 hi hz0 hz1 hz2 rfl (by decide) _ _ _ rfl (Hob2.out.alloc _) ⟨w2.heap.size, 0, none⟩ 1 1 [.int .i64 (x + c)] rfl rfl (cell_one_new _ _ _) (by simp [Value.oneCell']) (by unfold maxLen; omega) (by omega) (by have := HB2.out.size; simp; omega) ?_; intro v3 w3 hown3 hg3 _ hat3; have HB3 : Hid (Below w1.heap.size w1 w3) := hid ((HB2.out.alloc HB2.out.size _).grown hg3 (by have := HB2.out.size; simp; omega) (fun q hq => (Hob2.out.lt q hq).1)); have Hoa3 : Hid (w3.ownsRow w1.heap.size 2 1 v2 (k + 1) ((zs.take (k + 1)).map (Value.int .i64))) := hid ((Hoa2.out.alloc _).kept hg3 (apart_of (fun q h1 h2 => Hne2.out q h2 h1))); have Hob3 : Hid (w3.ownsRow w1.heap.size 2 1 v3 (k + 1) ((addL c (zs.take (k + 1))).map (Value.int .i64))) := hid (by rw [hta.out, List.map_append]; exact hown3); have Hne3 : Hid (∀ q, v3.ownBlock = some q → v2.ownBlock ≠ some q) := hid (apart_new (fun q h1 h2 => Hne2.out q h2 h1) hat3 (fun q hq => by have := (Hoa2.out.lt q hq).2; simp; omega)); clear hown3 hg3 hat3))
      go_wp2_with fail
      go_roundw
      case rel => exact ⟨k + 1, by go_num, by omega, Hoa3, Hob3, hid (fun q h1 h2 => Hne3.out q h2 h1), HB3⟩
      case measure => simp [intOf]; omega
    · obtain rfl : k = n := by omega
      clear hlt
      have htk : zs.take k = zs := by have := List.take_length (l := zs); rwa [hn.out] at this
      have hoa := Hoa.out
      have hob := Hob.out
      rw [htk] at hoa hob
      have hla : (addL c zs).length = k := by rw [addL_len]; exact hn.out
      have hJa := own_ints (zs := zs) (by rw [hn.out]; exact hoa)
      have hJb := own_ints (zs := addL c zs) (by rw [hla]; exact hob)
      obtain ⟨aa, lena, capa, rfl⟩ : ∃ a2 len cap2, u5 = .slice a2 len cap2 := by
        rcases hJa with ⟨a, cap, e, _⟩ | ⟨b, off, cap', e, _⟩
        · exact ⟨_, _, _, e⟩
        · exact ⟨_, _, _, e⟩
      obtain ⟨ab, lenb, capb, rfl⟩ : ∃ a2 len cap2, u6 = .slice a2 len cap2 := by
        rcases hJb with ⟨a, cap, e, _⟩ | ⟨b, off, cap', e, _⟩
        · exact ⟨_, _, _, e⟩
        · exact ⟨_, _, _, e⟩
      obtain rfl : k = lena := by have := hJa.slice; rw [hn.out] at this; exact this.symm
      obtain rfl : k = lenb := by have := hJb.slice; rw [hla] at this; exact this.symm
      have HJa := hid hJa
      have HJb := hid hJb
      have HB0 : Hid (Below w.heap.size w wr) := hid ((gr_below g1 (Nat.le_refl _) (by simp)).trans (HB.out.mono g1.size))
      have Hla := hid hla
      have H64a : Hid (In64 zs) := hid (fun x hx => by have := H32.out x hx; omega)
      have H64b : Hid (In64 (addL c zs)) := hid (fun x hx => by
        obtain ⟨y, hy, rfl⟩ := List.mem_map.1 hx
        have := H32.out y hy
        omega)
      have Hra : Hid (zs.length * 8 ≤ 140737488355328) := hid (by rw [hn.out]; omega)
      have Hrb : Hid ((addL c zs).length * 8 ≤ 140737488355328) := hid (by rw [hla]; omega)
      clear hJa hJb hoa hob Hoa Hob Hne HB htk hk hla HI HIn
      by_cases hk0 : k = 0
      · subst hk0
        have hz : Hid (zs = []) := hid (List.eq_nil_of_length_eq_zero hn.out)
        have hzb : Hid (addL c zs = []) := hid (List.eq_nil_of_length_eq_zero Hla.out)
        have hnn : ((0 : Nat) : Int) = 0 := rfl
        go_wp2_with fail
        refine (tolerant_any aa 0 capa zs Hra.out H64a.out _ HJa.out).mono ?_
        rintro e v1 ⟨rfl, g1'⟩
        rw [if_pos hz.out]
        have HB1 := hid (HB0.out.trans (gr_below g1' HB0.out.size (by simp)))
        have HJa1 := hid ((HJa.out.below (gr_below g1' (Nat.le_refl _) (by simp))).mono g1'.size)
        have HJb1 := hid ((HJb.out.below (gr_below g1' (Nat.le_refl _) (by simp))).mono g1'.size)
        clear HB0 HJa HJb g1'
        go_wp2_with fail
        refine (tolerant_any ab 0 capb (addL c zs) Hrb.out H64b.out _ HJb1.out).mono ?_
        rintro e v2 ⟨rfl, g2'⟩
        rw [if_pos hzb.out]
        have HB2 := hid (HB1.out.trans (gr_below g2' HB1.out.size (by simp)))
        have HJa2 := hid ((HJa1.out.below (gr_below g2' (Nat.le_refl _) (by simp))).mono g2'.size)
        have HJb2 := hid ((HJb1.out.below (gr_below g2' (Nat.le_refl _) (by simp))).mono g2'.size)
        clear HB1 HJa1 HJb1 g2'
        go_wp2_with fail
        refine (middle_any aa 0 capa zs Hra.out H64a.out _ HJa2.out).mono ?_
        rintro e v3 ⟨rfl, g3'⟩
        rw [if_pos hz.out]
        have HB3 := hid (HB2.out.trans (gr_below g3' HB2.out.size (by simp)))
        have HJa3 := hid ((HJa2.out.below (gr_below g3' (Nat.le_refl _) (by simp))).mono g3'.size)
        have HJb3 := hid ((HJb2.out.below (gr_below g3' (Nat.le_refl _) (by simp))).mono g3'.size)
        clear HB2 HJa2 HJb2 g3'
        go_wp2_with fail
        refine (middle_any ab 0 capb (addL c zs) Hrb.out H64b.out _ HJb3.out).mono ?_
        rintro e v4 ⟨rfl, g4'⟩
        rw [if_pos hzb.out]
        have HB4 := hid (HB3.out.trans (gr_below g4' HB3.out.size (by simp)))
        have HJa4 := hid ((HJa3.out.below (gr_below g4' (Nat.le_refl _) (by simp))).mono g4'.size)
        have HJb4 := hid ((HJb3.out.below (gr_below g4' (Nat.le_refl _) (by simp))).mono g4'.size)
        clear HB3 HJa3 HJb3 g4'
        go_wp2_with fail
        go_ret
        exact ⟨rfl, HB4.out⟩
      · have hk1 : 1 ≤ k := by omega
        have hz : Hid (zs ≠ []) := hid (by intro h; have := hn.out; rw [h] at this; simp at this; omega)
        have hzb : Hid (addL c zs ≠ []) := hid (by intro h; have := Hla.out; rw [h] at this; simp at this; omega)
        have hk2 : ((k : Int) == 0) = false := by simp; omega
        have hta := hid (tolL_add c (zs := zs) (by rw [hn.out]; exact hk1))
        have hma := hid (midL_add c (zs := zs) (by rw [hn.out]; exact hk1))
        have hsa := hid (spread_add c (zs := zs) (by rw [hn.out]; exact hk1))
        have hbd := H32.out.mean (by rw [hn.out]; exact hk1)
        obtain ⟨T, hT⟩ : ∃ T, Hid (tolL zs = T) := ⟨_, hid rfl⟩
        obtain ⟨M, hM⟩ : ∃ M, Hid (midL zs = M) := ⟨_, hid rfl⟩
        obtain ⟨X, hX⟩ : ∃ X, Hid (maxL zs - minL zs = X) := ⟨_, hid rfl⟩
        rw [hT.out] at hta
        rw [hM.out] at hma
        rw [hX.out] at hsa
        rw [hT.out, hM.out] at hbd
        obtain ⟨⟨d0, d1⟩, d2, d3⟩ := hbd
        clear hk0
        go_wp2_with fail
        refine (tolerant_any aa k capa zs Hra.out H64a.out _ HJa.out).mono ?_
        rintro e v1 ⟨rfl, g1'⟩
        rw [if_neg hz.out, hT.out]
        have HB1 := hid (HB0.out.trans (gr_below g1' HB0.out.size (by simp)))
        have HJa1 := hid ((HJa.out.below (gr_below g1' (Nat.le_refl _) (by simp))).mono g1'.size)
        have HJb1 := hid ((HJb.out.below (gr_below g1' (Nat.le_refl _) (by simp))).mono g1'.size)
        clear HB0 HJa HJb g1'
        go_wp2_with fail
        refine (tolerant_any ab k capb (addL c zs) Hrb.out H64b.out _ HJb1.out).mono ?_
        rintro e v2 ⟨rfl, g2'⟩
        rw [if_neg hzb.out, hta.out]
        have HB2 := hid (HB1.out.trans (gr_below g2' HB1.out.size (by simp)))
        have HJa2 := hid ((HJa1.out.below (gr_below g2' (Nat.le_refl _) (by simp))).mono g2'.size)
        have HJb2 := hid ((HJb1.out.below (gr_below g2' (Nat.le_refl _) (by simp))).mono g2'.size)
        clear HB1 HJa1 HJb1 g2'
        go_wp2_with fail
        refine (middle_any aa k capa zs Hra.out H64a.out _ HJa2.out).mono ?_
        rintro e v3 ⟨rfl, g3'⟩
        rw [if_neg hz.out, hM.out]
        have HB3 := hid (HB2.out.trans (gr_below g3' HB2.out.size (by simp)))
        have HJa3 := hid ((HJa2.out.below (gr_below g3' (Nat.le_refl _) (by simp))).mono g3'.size)
        have HJb3 := hid ((HJb2.out.below (gr_below g3' (Nat.le_refl _) (by simp))).mono g3'.size)
        clear HB2 HJa2 HJb2 g3'
        go_wp2_with fail
        refine (middle_any ab k capb (addL c zs) Hrb.out H64b.out _ HJb3.out).mono ?_
        rintro e v4 ⟨rfl, g4'⟩
        rw [if_neg hzb.out, hma.out]
        have HB4 := hid (HB3.out.trans (gr_below g4' HB3.out.size (by simp)))
        have HJa4 := hid ((HJa3.out.below (gr_below g4' (Nat.le_refl _) (by simp))).mono g4'.size)
        have HJb4 := hid ((HJb3.out.below (gr_below g4' (Nat.le_refl _) (by simp))).mono g4'.size)
        clear HB3 HJa3 HJb3 g4'
        go_wp2_with fail
        refine (spread_any aa k capa zs Hra.out H64a.out _ _ HJa4.out).mono ?_
        rintro e w' ⟨rfl, rfl⟩
        rw [hX.out]
        go_wp2_with fail
        refine (spread_any ab k capb (addL c zs) Hrb.out H64b.out _ _ HJb4.out).mono ?_
        rintro e w' ⟨rfl, rfl⟩
        rw [hsa.out]
        go_wp2_with fail
        go_ret
        exact ⟨rfl, HB4.out⟩
end Go.Proofs.Ytlcjjbahbfcmoaa
