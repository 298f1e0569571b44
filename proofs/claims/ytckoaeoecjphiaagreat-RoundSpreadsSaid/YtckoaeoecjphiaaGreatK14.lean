/- Lemmas: What 'rising' means, in plain lists. slices.Max, Min at int64; mean.Spread. The means in plain numbers: the order is no matter; between the least and the greatest; one bad reading. comp: New, Open; crew: Has, Of one host. A collection's world while a frame is laid into it. -/
import Derived.Test.YtckoaeoecjphiaaGreatK05
import Derived.Test.YtckoaeoecjphiaaGreatK13
import Derived.OneCell

/- What 'rising' means, in plain lists. -/
namespace Go.Proofs.YtckoaeoecjphiaaGreat

theorem sortL_sorted (zs : List Int) : (sortL zs).Pairwise (· ≤ ·) := by
  have h := List.pairwise_mergeSort (le := fun x y : Int => decide (x ≤ y)) (by intro a b c; simp; omega) (by intro a b; simp; omega) zs
  exact h.imp (by intro a b h; simpa using h)

theorem sorted_unique : ∀ (a b : List Int), a.Perm b → a.Pairwise (· ≤ ·) → b.Pairwise (· ≤ ·) → a = b
  | [], b, hp, _, _ => by simpa using hp.symm
  | x :: a, [], hp, _, _ => by have := hp.length_eq; simp at this
  | x :: a, y :: b, hp, ha, hb => by
    have hx : x ∈ y :: b := hp.subset (by simp)
    have hy : y ∈ x :: a := hp.symm.subset (by simp)
    rw [List.pairwise_cons] at ha hb
    have h1 : x ≤ y := by
      rcases List.mem_cons.1 hy with h | h
      · omega
      · exact ha.1 y h
    have h2 : y ≤ x := by
      rcases List.mem_cons.1 hx with h | h
      · omega
      · exact hb.1 x h
    obtain rfl : x = y := by omega
    rw [sorted_unique a b (List.Perm.cons_inv hp) ha.2 hb.2]

theorem sortL_eq {zs t : List Int} (hp : t.Perm zs) (ht : t.Pairwise (· ≤ ·)) : sortL zs = t :=
  sorted_unique _ _ ((sortL_perm zs).trans hp.symm) (sortL_sorted zs) ht

end Go.Proofs.YtckoaeoecjphiaaGreat

/- slices.Max, Min at int64; mean.Spread. -/
namespace Go.Proofs.YtckoaeoecjphiaaGreat
open Go.RowKit Go.Shelf Go.Sort Go.Lib

def maxL : List Int → Int
  | [] => 0
  | x :: l => l.foldl max x
def minL : List Int → Int
  | [] => 0
  | x :: l => l.foldl min x

theorem maxL_snoc (l : List Int) (x : Int) (h : l ≠ []) : maxL (l ++ [x]) = max (maxL l) x := by
  cases l with
  | nil => exact absurd rfl h
  | cons y l => simp [maxL]
theorem minL_snoc (l : List Int) (x : Int) (h : l ≠ []) : minL (l ++ [x]) = min (minL l) x := by
  cases l with
  | nil => exact absurd rfl h
  | cons y l => simp [minL]

theorem max_any (a : Option Addr) (len cap : Nat) (zs : List Int) (hz : zs ≠ []) (hreach : zs.length * 8 ≤ 140737488355328) (n₀ : Nat) (w : World) (hI : Ints n₀ w (.slice a len cap) zs) :
    Calls Tryz.prog 54 #[.slice a len cap] w fun e w' => e = .returned (.int .i64 (maxL zs)) ∧ w = w' := by
  rcases hI with ⟨_, _, _, rfl⟩ | ⟨b, off, cap', e, _, hc⟩
  · exact absurd rfl hz
  · cases e
    have hlen : 1 ≤ zs.length := by cases zs with | nil => exact absurd rfl hz | cons x l => simp
    have hc' : ∀ j, j < zs.length → w.cell? ⟨b, off + j, none⟩ = some (.int .i64 (nth zs j)) := hc
    have Hc := hid hc'
    have c0 : w.cell? ⟨b, off, none⟩ = some (.int .i64 (nth zs 0)) := hc' 0 (by omega)
    have Hz := hid hz
    clear hc hc' hz
    go_enter Tryz.func54, Tryz.ntmps54
    go_wp2
    go_loop [3, 4] (fun m i => ∃ k : Nat, i = .int .i64 k ∧ 1 ≤ k ∧ k ≤ zs.length ∧ m = .int .i64 (maxL (zs.take k))) (fun _ i => zs.length - (intOf i).toNat)
    case atStart => exact ⟨1, rfl, Nat.le_refl _, hlen, by rw [show (1 : Nat) = 0 + 1 from rfl, take_nth zs 0 (by omega)]; rfl⟩
    case round =>
      obtain ⟨k, rfl, hk1, hk, rfl⟩ := hrel
      by_cases hlt : k < zs.length
      · have hck := Hc.out k hlt
        go_wp2
        go_round
        case rel => exact ⟨k + 1, by go_num, by omega, by omega, by rw [take_nth zs k hlt, maxL_snoc _ _ (take_ne zs hk1 hk hlen)]⟩
        case measure => simp [intOf]; omega
      · obtain rfl : k = zs.length := by omega
        clear hlt
        go_wp2
        go_ret
        exact ⟨rfl, rfl⟩
theorem min_any (a : Option Addr) (len cap : Nat) (zs : List Int) (hz : zs ≠ []) (hreach : zs.length * 8 ≤ 140737488355328) (n₀ : Nat) (w : World) (hI : Ints n₀ w (.slice a len cap) zs) :
    Calls Tryz.prog 55 #[.slice a len cap] w fun e w' => e = .returned (.int .i64 (minL zs)) ∧ w = w' := by
  rcases hI with ⟨_, _, _, rfl⟩ | ⟨b, off, cap', e, _, hc⟩
  · exact absurd rfl hz
  · cases e
    have hlen : 1 ≤ zs.length := by cases zs with | nil => exact absurd rfl hz | cons x l => simp
    have hc' : ∀ j, j < zs.length → w.cell? ⟨b, off + j, none⟩ = some (.int .i64 (nth zs j)) := hc
    have Hc := hid hc'
    have c0 : w.cell? ⟨b, off, none⟩ = some (.int .i64 (nth zs 0)) := hc' 0 (by omega)
    have Hz := hid hz
    clear hc hc' hz
    go_enter Tryz.func55, Tryz.ntmps55
    go_wp2
    go_loop [3, 4] (fun m i => ∃ k : Nat, i = .int .i64 k ∧ 1 ≤ k ∧ k ≤ zs.length ∧ m = .int .i64 (minL (zs.take k))) (fun _ i => zs.length - (intOf i).toNat)
    case atStart => exact ⟨1, rfl, Nat.le_refl _, hlen, by rw [show (1 : Nat) = 0 + 1 from rfl, take_nth zs 0 (by omega)]; rfl⟩
    case round =>
      obtain ⟨k, rfl, hk1, hk, rfl⟩ := hrel
      by_cases hlt : k < zs.length
      · have hck := Hc.out k hlt
        go_wp2
        go_round
        case rel => exact ⟨k + 1, by go_num, by omega, by omega, by rw [take_nth zs k hlt, minL_snoc _ _ (take_ne zs hk1 hk hlen)]⟩
        case measure => simp [intOf]; omega
      · obtain rfl : k = zs.length := by omega
        clear hlt
        go_wp2
        go_ret
        exact ⟨rfl, rfl⟩

theorem maxL_mem (zs : List Int) (h : zs ≠ []) : maxL zs ∈ zs := by
  cases zs with
  | nil => exact absurd rfl h
  | cons x l =>
    show l.foldl max x ∈ x :: l
    induction l generalizing x with
    | nil => simp
    | cons y l ih =>
      simp only [List.foldl_cons]
      have := ih (max x y) (by simp)
      rcases List.mem_cons.1 this with h1 | h1
      · rw [h1]
        rcases Int.le_total x y with h2 | h2
        · rw [Int.max_eq_right h2]; simp
        · rw [Int.max_eq_left h2]; simp
      · exact List.mem_cons_of_mem _ (List.mem_cons_of_mem _ h1)
theorem minL_mem (zs : List Int) (h : zs ≠ []) : minL zs ∈ zs := by
  cases zs with
  | nil => exact absurd rfl h
  | cons x l =>
    show l.foldl min x ∈ x :: l
    induction l generalizing x with
    | nil => simp
    | cons y l ih =>
      simp only [List.foldl_cons]
      have := ih (min x y) (by simp)
      rcases List.mem_cons.1 this with h1 | h1
      · rw [h1]
        rcases Int.le_total x y with h2 | h2
        · rw [Int.min_eq_left h2]; simp
        · rw [Int.min_eq_right h2]; simp
      · exact List.mem_cons_of_mem _ (List.mem_cons_of_mem _ h1)
theorem le_maxL (zs : List Int) : ∀ x ∈ zs, x ≤ maxL zs := by
  cases zs with
  | nil => simp
  | cons x l =>
    show ∀ y ∈ x :: l, y ≤ l.foldl max x
    induction l generalizing x with
    | nil => simp
    | cons z l ih =>
      intro y hy
      simp only [List.foldl_cons]
      have h1 := ih (max x z)
      have h2 := h1 (max x z) (by simp)
      rcases List.mem_cons.1 hy with rfl | hy
      · omega
      · rcases List.mem_cons.1 hy with rfl | hy
        · omega
        · exact h1 y (List.mem_cons_of_mem _ hy)
theorem minL_le (zs : List Int) : ∀ x ∈ zs, minL zs ≤ x := by
  cases zs with
  | nil => simp
  | cons x l =>
    show ∀ y ∈ x :: l, l.foldl min x ≤ y
    induction l generalizing x with
    | nil => simp
    | cons z l ih =>
      intro y hy
      simp only [List.foldl_cons]
      have h1 := ih (min x z)
      have h2 := h1 (min x z) (by simp)
      rcases List.mem_cons.1 hy with rfl | hy
      · omega
      · rcases List.mem_cons.1 hy with rfl | hy
        · omega
        · exact h1 y (List.mem_cons_of_mem _ hy)

end Go.Proofs.YtckoaeoecjphiaaGreat

/- The means in plain numbers: the order is no matter; between the least and the greatest; one bad reading. -/
namespace Go.Proofs.YtckoaeoecjphiaaGreat
open Go.RowKit Go.Lib

theorem sortL_of_perm {a b : List Int} (h : a.Perm b) : sortL a = sortL b := sortL_eq ((sortL_perm b).trans h.symm) (sortL_sorted b)

theorem nth_mem {l : List Int} {i : Nat} (h : i < l.length) : nth l i ∈ l := by
  simp [nth, h]
theorem mem_nth {l : List Int} {x : Int} (h : x ∈ l) : ∃ i, i < l.length ∧ nth l i = x := by
  obtain ⟨i, hi, rfl⟩ := List.getElem_of_mem h
  exact ⟨i, hi, by simp [nth, hi]⟩
theorem nth_le {S : List Int} (h : S.Pairwise (· ≤ ·)) {i j : Nat} (hij : i ≤ j) (hj : j < S.length) : nth S i ≤ nth S j := by
  rcases Nat.lt_or_eq_of_le hij with hlt | rfl
  · have := List.pairwise_iff_getElem.1 h i j (by omega) hj hlt
    simpa [nth, hj, Nat.lt_trans hlt hj] using this
  · omega

theorem foldl_max : ∀ (l : List Int) (a : Int), a ≤ l.foldl max a ∧ (∀ x ∈ l, x ≤ l.foldl max a) ∧ (l.foldl max a = a ∨ l.foldl max a ∈ l)
  | [], a => by simp
  | y :: l, a => by
    obtain ⟨h1, h2, h3⟩ := foldl_max l (max a y)
    refine ⟨by simp only [List.foldl_cons]; omega, ?_, ?_⟩
    · intro x hx
      simp only [List.foldl_cons]
      rcases List.mem_cons.1 hx with rfl | hx
      · omega
      · exact h2 x hx
    · simp only [List.foldl_cons, List.mem_cons]
      rcases h3 with h3 | h3
      · rw [h3]
        rcases Int.le_total a y with h | h
        · right; left; omega
        · left; omega
      · right; right; exact h3
theorem foldl_min : ∀ (l : List Int) (a : Int), l.foldl min a ≤ a ∧ (∀ x ∈ l, l.foldl min a ≤ x) ∧ (l.foldl min a = a ∨ l.foldl min a ∈ l)
  | [], a => by simp
  | y :: l, a => by
    obtain ⟨h1, h2, h3⟩ := foldl_min l (min a y)
    refine ⟨by simp only [List.foldl_cons]; omega, ?_, ?_⟩
    · intro x hx
      simp only [List.foldl_cons]
      rcases List.mem_cons.1 hx with rfl | hx
      · omega
      · exact h2 x hx
    · simp only [List.foldl_cons, List.mem_cons]
      rcases h3 with h3 | h3
      · rw [h3]
        rcases Int.le_total a y with h | h
        · left; omega
        · right; left; omega
      · right; right; exact h3

theorem maxL_sort {zs : List Int} (h : 1 ≤ zs.length) : maxL zs = nth (sortL zs) (zs.length - 1) := by
  have hl := (sortL_perm zs).length_eq
  have hin := (sortL_perm zs).mem_iff.1 (nth_mem (l := sortL zs) (i := zs.length - 1) (by omega))
  have hub : ∀ x ∈ zs, x ≤ nth (sortL zs) (zs.length - 1) := by
    intro x hx
    obtain ⟨i, hi, rfl⟩ := mem_nth ((sortL_perm zs).mem_iff.2 hx)
    exact nth_le (sortL_sorted zs) (by omega) (by omega)
  match zs, h with
  | y :: l, _ =>
    obtain ⟨h1, h2, h3⟩ := foldl_max l y
    have e : maxL (y :: l) = l.foldl max y := rfl
    have a1 : maxL (y :: l) ≤ nth (sortL (y :: l)) ((y :: l).length - 1) := by
      rw [e]
      rcases h3 with h3 | h3
      · rw [h3]; exact hub y (by simp)
      · exact hub _ (by simp [h3])
    have a2 : nth (sortL (y :: l)) ((y :: l).length - 1) ≤ maxL (y :: l) := by
      rw [e]
      rcases List.mem_cons.1 hin with hq | hq
      · rw [hq]; exact h1
      · exact h2 _ hq
    omega
theorem minL_sort {zs : List Int} (h : 1 ≤ zs.length) : minL zs = nth (sortL zs) 0 := by
  have hl := (sortL_perm zs).length_eq
  have hin := (sortL_perm zs).mem_iff.1 (nth_mem (l := sortL zs) (i := 0) (by omega))
  have hub : ∀ x ∈ zs, nth (sortL zs) 0 ≤ x := by
    intro x hx
    obtain ⟨i, hi, rfl⟩ := mem_nth ((sortL_perm zs).mem_iff.2 hx)
    exact nth_le (sortL_sorted zs) (by omega) (by omega)
  match zs, h with
  | y :: l, _ =>
    obtain ⟨h1, h2, h3⟩ := foldl_min l y
    have e : minL (y :: l) = l.foldl min y := rfl
    have a1 : nth (sortL (y :: l)) 0 ≤ minL (y :: l) := by
      rw [e]
      rcases h3 with h3 | h3
      · rw [h3]; exact hub y (by simp)
      · exact hub _ (by simp [h3])
    have a2 : minL (y :: l) ≤ nth (sortL (y :: l)) 0 := by
      rw [e]
      rcases List.mem_cons.1 hin with hq | hq
      · rw [hq]; exact h1
      · exact h2 _ hq
    omega

theorem tolL_perm {a b : List Int} (h : a.Perm b) : tolL a = tolL b := by
  unfold tolL; rw [sortL_of_perm h, h.length_eq]
theorem midL_perm {a b : List Int} (h : a.Perm b) : midL a = midL b := by
  unfold midL; rw [sortL_of_perm h, h.length_eq]
theorem maxL_perm {a b : List Int} (h : a.Perm b) (h1 : 1 ≤ a.length) : maxL a = maxL b := by
  have := h.length_eq
  rw [maxL_sort h1, maxL_sort (by omega), sortL_of_perm h, this]
theorem minL_perm {a b : List Int} (h : a.Perm b) (h1 : 1 ≤ a.length) : minL a = minL b := by
  have := h.length_eq
  rw [minL_sort h1, minL_sort (by omega), sortL_of_perm h]

theorem tolL_between {zs : List Int} (h : 1 ≤ zs.length) : nth (sortL zs) 0 ≤ tolL zs ∧ tolL zs ≤ nth (sortL zs) (zs.length - 1) := by
  have hl := (sortL_perm zs).length_eq
  have hs := sortL_sorted zs
  unfold tolL
  split
  · rename_i e
    rw [e]; simp
  · split
    · rename_i e e2
      rw [e2]
      have := nth_le hs (i := 0) (j := 1) (by omega) (by omega)
      show _ ∧ _ ≤ nth (sortL zs) 1
      omega
    · rename_i e1 e2
      have h1 := nth_le hs (i := 0) (j := 1) (by omega) (by omega)
      have h2 := nth_le hs (i := 1) (j := zs.length - 2) (by omega) (by omega)
      have h3 := nth_le hs (i := zs.length - 2) (j := zs.length - 1) (by omega) (by omega)
      omega
theorem midL_between {zs : List Int} (h : 1 ≤ zs.length) : nth (sortL zs) 0 ≤ midL zs ∧ midL zs ≤ nth (sortL zs) (zs.length - 1) := by
  have hl := (sortL_perm zs).length_eq
  have hs := sortL_sorted zs
  unfold midL
  have h1 := nth_le hs (i := 0) (j := (zs.length - 1) / 2) (by omega) (by omega)
  have h2 := nth_le hs (i := (zs.length - 1) / 2) (j := zs.length / 2) (by omega) (by omega)
  have h3 := nth_le hs (i := zs.length / 2) (j := zs.length - 1) (by omega) (by omega)
  omega

/-- One more reading, whatever it is: the tolerant mean stays between the others' least and greatest. -/
theorem tolL_bad {l good : List Int} {bad : Int} (hp : l.Perm (bad :: good)) (h2 : 2 ≤ good.length) : nth (sortL good) 0 ≤ tolL l ∧ tolL l ≤ nth (sortL good) (good.length - 1) := by
  have hlen := hp.length_eq
  have hl := (sortL_perm l).length_eq
  have hg := (sortL_perm good).length_eq
  have hs := sortL_sorted l
  have hsg := sortL_sorted good
  have hL : (sortL l).Perm (bad :: good) := (sortL_perm l).trans hp
  simp only [List.length_cons] at hlen
  have low : ∀ x ∈ good, nth (sortL good) 0 ≤ x := by
    intro x hx
    obtain ⟨i, hi, rfl⟩ := mem_nth ((sortL_perm good).mem_iff.2 hx)
    exact nth_le hsg (by omega) (by omega)
  have up : ∀ x ∈ good, x ≤ nth (sortL good) (good.length - 1) := by
    intro x hx
    obtain ⟨i, hi, rfl⟩ := mem_nth ((sortL_perm good).mem_iff.2 hx)
    exact nth_le hsg (by omega) (by omega)
  have a1 : nth (sortL good) 0 ≤ nth (sortL l) 1 := by
    have h01 := nth_le hs (i := 0) (j := 1) (by omega) (by omega)
    have hx := hL.mem_iff.1 (nth_mem (l := sortL l) (i := 0) (by omega))
    rcases List.mem_cons.1 hx with e | hx
    · have hd : sortL l = nth (sortL l) 0 :: (sortL l).drop 1 := by
        have : 0 < (sortL l).length := by omega
        rw [List.drop_one]
        cases hq : sortL l with
        | nil => rw [hq] at this; simp at this
        | cons y t => simp [nth]
      rw [hd, e] at hL
      have hc := hL.cons_inv
      have hm : nth (sortL l) 1 ∈ (sortL l).drop 1 := by
        have : nth (sortL l) 1 = nth ((sortL l).drop 1) 0 := by simp [nth]
        rw [this]
        exact nth_mem (by rw [List.length_drop]; omega)
      exact low _ (hc.mem_iff.1 hm)
    · exact Int.le_trans (low _ hx) h01
  have a2 : nth (sortL l) (l.length - 2) ≤ nth (sortL good) (good.length - 1) := by
    have h01 := nth_le hs (i := l.length - 2) (j := l.length - 1) (by omega) (by omega)
    have hx := hL.mem_iff.1 (nth_mem (l := sortL l) (i := l.length - 1) (by omega))
    rcases List.mem_cons.1 hx with e | hx
    · have hd : sortL l = (sortL l).take (l.length - 1) ++ [nth (sortL l) (l.length - 1)] := by
        rw [← take_nth _ _ (by omega), show l.length - 1 + 1 = (sortL l).length from by omega, List.take_length]
      have hL' : ((sortL l).take (l.length - 1) ++ [nth (sortL l) (l.length - 1)]).Perm (bad :: good) := by rw [← hd]; exact hL
      rw [e] at hL'
      have hc := (List.perm_append_comm.trans hL').cons_inv
      have hm : nth (sortL l) (l.length - 2) ∈ (sortL l).take (l.length - 1) := by
        have : nth (sortL l) (l.length - 2) = nth ((sortL l).take (l.length - 1)) (l.length - 2) := by
          simp only [nth]; rw [List.getElem?_take_of_lt (by omega)]
        rw [this]
        exact nth_mem (by rw [List.length_take]; omega)
      exact up _ (hc.mem_iff.1 hm)
    · exact Int.le_trans h01 (up _ hx)
  have a3 := nth_le hs (i := 1) (j := l.length - 2) (by omega) (by omega)
  unfold tolL
  rw [if_neg (by omega), if_neg (by omega)]
  omega
end Go.Proofs.YtckoaeoecjphiaaGreat

/- comp: New, Open; crew: Has, Of one host. -/
namespace Go.Proofs.YtckoaeoecjphiaaGreat
open Go.RowKit Go.Lib

/-- A collection in its block. -/
def Cmp (w : World) (b : Nat) (win : Int) (op : Bool) (first : Int) (vr vc : Value) (cr : Nat) : Prop :=
  w.heap[b]? = some (.cells #[.int .i64 win, .bool op, .int .i64 first, vr, vc, .int .u32 (cr : Int)] 199 (0, 0))
section
variable {w : World} {b : Nat} {win : Int} {op : Bool} {first : Int} {vr vc : Value} {cr : Nat}
theorem Cmp.c0 (h : Cmp w b win op first vr vc cr) : w.cell? ⟨b, 0, none⟩ = some (.int .i64 win) := by unfold Cmp at h; simp [World.cell?, h]
theorem Cmp.c1 (h : Cmp w b win op first vr vc cr) : w.cell? ⟨b, 1, none⟩ = some (.bool op) := by unfold Cmp at h; simp [World.cell?, h]
theorem Cmp.c2 (h : Cmp w b win op first vr vc cr) : w.cell? ⟨b, 2, none⟩ = some (.int .i64 first) := by unfold Cmp at h; simp [World.cell?, h]
theorem Cmp.c3 (h : Cmp w b win op first vr vc cr) : w.cell? ⟨b, 3, none⟩ = some vr := by unfold Cmp at h; simp [World.cell?, h]
theorem Cmp.c4 (h : Cmp w b win op first vr vc cr) : w.cell? ⟨b, 4, none⟩ = some vc := by unfold Cmp at h; simp [World.cell?, h]
theorem Cmp.c5 (h : Cmp w b win op first vr vc cr) : w.cell? ⟨b, 5, none⟩ = some (.int .u32 (cr : Int)) := by unfold Cmp at h; simp [World.cell?, h]
theorem Cmp.f (h : Cmp w b win op first vr vc cr) (i : Nat) : w.frozen? ⟨b, i, none⟩ = false := by unfold Cmp at h; simp [World.frozen?, h]
theorem Cmp.lt (h : Cmp w b win op first vr vc cr) : b < w.heap.size := lt_of_block h
theorem Cmp.kept {w' : World} {row : Option Nat} (h : Cmp w b win op first vr vc cr) (hg : w.grownBy w' row) (hr : some b ≠ row) : Cmp w' b win op first vr vc cr := gr_heap hg h hr
end
theorem Cmp.new (w : World) (win : Int) : Cmp (w.alloc (.cells #[.int .i64 win, .bool false, .int .i64 0, .slice none 0 0, .slice none 0 0, .int .u32 0] 199)) w.heap.size win false 0 (.slice none 0 0) (.slice none 0 0) 0 := by
  unfold Cmp; exact heap_alloc_new w _

theorem comp_new_ok (win : Int) (w : World) (h0 : 0 ≤ win) (h1 : win ≤ 1048576) :
    Calls Tryz.prog 78 #[.int .i64 win] w fun e w' => e = .returned (.tuple #[.pointer (some ⟨w.heap.size, 0, none⟩), .int .i64 0]) ∧ Cmp w' w.heap.size win false 0 (.slice none 0 0) (.slice none 0 0) 0 ∧ w.grownBy w' none ∧ w'.heap.size = w.heap.size + 1 := by
  go_enter Tryz.func78, Tryz.ntmps78
  go_wp2_with fail
  go_ret2
  exact ⟨rfl, Cmp.new w win, gr_alloc (gr_refl w none) _, by simp⟩
theorem comp_new_bad (win : Int) (w : World) (h : win < 0 ∨ 1048576 < win) :
    Calls Tryz.prog 78 #[.int .i64 win] w fun e w' => e = .returned (.tuple #[.pointer none, .int .i64 1]) ∧ w = w' := by
  rcases h with h | h
  · go_enter Tryz.func78, Tryz.ntmps78
    go_wp2_with fail
    go_ret2
    exact ⟨rfl, rfl⟩
  · go_enter Tryz.func78, Tryz.ntmps78
    go_wp2_with fail
    go_ret2
    exact ⟨rfl, rfl⟩

theorem comp_open_nil (w : World) : Calls Tryz.prog 132 #[.pointer none] w fun e w' => e = .returned (.bool false) ∧ w = w' := by
  go_enter Tryz.func132, Tryz.ntmps132
  go_wp2_with fail
  go_ret
  exact ⟨rfl, rfl⟩
theorem comp_open (b : Nat) (win : Int) (op : Bool) (first : Int) (vr vc : Value) (cr : Nat) (w : World) (hc : Cmp w b win op first vr vc cr) :
    Calls Tryz.prog 132 #[.pointer (some ⟨b, 0, none⟩)] w fun e w' => e = .returned (.bool op) ∧ w = w' := by
  have c1 := hc.c1
  clear hc
  go_enter Tryz.func132, Tryz.ntmps132
  go_wp2_with fail
  go_ret
  exact ⟨rfl, rfl⟩

/-- Is the host in the crew? -/
def hasB (c : Nat) (h : Nat) : Bool := decide (c / 2 ^ h % 2 = 1)

theorem and_one : ∀ m : Fin 64, bits .and .u32 ((m.val : Nat) : Int) 1 = ((m.val % 2 : Nat) : Int) := of_decide_eq_true (by kernel_rfl)
theorem or_bit : ∀ (m : Fin 64) (h : Fin 6), bits .or .u32 ((m.val : Nat) : Int) ((2 ^ h.val : Nat) : Int) = (((if hasB m.val h.val = true then m.val else m.val + 2 ^ h.val : Nat)) : Int) := of_decide_eq_true (by kernel_rfl)

theorem has_at (c h : Nat) (hc : c < 64) (hh : h < 6) (w : World) :
    Calls Tryz.prog 34 #[.int .u32 (c : Int), .int .i64 (h : Int)] w fun e w' => e = .returned (.bool (hasB c h)) ∧ w = w' := by
  have h1 : (h : Int) < 6 := by omega
  have hb : bits .and .u32 ((c : Int) / 2 ^ h) 1 = ((c / 2 ^ h % 2 : Nat) : Int) := by
    have := and_one ⟨c / 2 ^ h, Nat.lt_of_le_of_lt (Nat.div_le_self _ _) hc⟩
    simp only at this
    rw [← this]
    congr 1
  have hr : (bits .and .u32 ((c : Int) / 2 ^ h) 1 == 1) = hasB c h := by
    rw [hb]
    unfold hasB
    generalize c / 2 ^ h % 2 = m
    rw [Bool.eq_iff_iff]
    simp
    omega
  have Hr := hid hr
  clear hr hb
  go_enter Tryz.func34, Tryz.ntmps34
  go_wp2_with fail
  go_ret
  refine ⟨?_, rfl⟩
  rw [← Hr.out]
  rfl

theorem has_same (c h : Nat) (hc : c < 64) (hh : h < 6) (w : World) :
    Calls Tryz.prog 34 #[.int .u32 (c : Int), .int .i64 (h : Int)] w fun e w' => e = .returned (.bool (hasB c h)) ∧ w' = w :=
  (has_at c h hc hh w).mono fun _ _ ⟨h1, h2⟩ => ⟨h1, h2.symm⟩

theorem or_nought : ∀ h : Fin 6, bits .or .u32 0 ((2 : Int) ^ h.val % 4294967296) = ((2 ^ h.val : Nat) : Int) := of_decide_eq_true (by kernel_rfl)

theorem of_one (g h : Nat) (hh : h < 6) (w : World) (hc : w.cell? ⟨g, 0, none⟩ = some (.int .i64 (h : Int))) :
    Calls Tryz.prog 131 #[.slice (some ⟨g, 0, none⟩) 1 1] w fun e w' => e = .returned (.int .u32 ((2 ^ h : Nat) : Int)) ∧ w = w' := by
  have h1 : (h : Int) < 6 := by omega
  go_enter Tryz.func131, Tryz.ntmps131
  go_wp2_with fail
  refine wp_loop_rounds 2 ?_
  rw [rounds_succ]
  go_wp2_with fail
  have hb := or_nought ⟨h, hh⟩
  simp only at hb
  rw [hb]
  clear hb
  rw [rounds_succ]
  go_wp2_with fail
  go_ret
  exact ⟨rfl, rfl⟩
end Go.Proofs.YtckoaeoecjphiaaGreat

/- A collection's world while a frame is laid into it. -/
namespace Go.Proofs.YtckoaeoecjphiaaGreat
open Go.RowKit Go.Lib

theorem Cmp.set3 {w : World} {b : Nat} {win : Int} {op : Bool} {first : Int} {vr vc : Value} {cr : Nat} (h : Cmp w b win op first vr vc cr) (v : Value) : Cmp (w.setCell ⟨b, 3, none⟩ v) b win op first v vc cr := by
  unfold Cmp at *
  simp only [World.setCell, Array.getElem?_modify, if_true, h, Option.map_some]
  rfl
theorem Cmp.set4 {w : World} {b : Nat} {win : Int} {op : Bool} {first : Int} {vr vc : Value} {cr : Nat} (h : Cmp w b win op first vr vc cr) (v : Value) : Cmp (w.setCell ⟨b, 4, none⟩ v) b win op first vr v cr := by
  unfold Cmp at *
  simp only [World.setCell, Array.getElem?_modify, if_true, h, Option.map_some]
  rfl
theorem Cmp.set5 {w : World} {b : Nat} {win : Int} {op : Bool} {first : Int} {vr vc : Value} {cr : Nat} (h : Cmp w b win op first vr vc cr) (c : Nat) : Cmp (w.setCell ⟨b, 5, none⟩ (.int .u32 (c : Int))) b win op first vr vc c := by
  unfold Cmp at *
  simp only [World.setCell, Array.getElem?_modify, if_true, h, Option.map_some]
  rfl

/-- The collection, its two rows apart, the frame in its box g; nothing below base has turned since w. -/
structure CS (P : Nat → Prop) (w W : World) (base b g : Nat) (win first : Int) (vr vc : Value) (rs cs : List Int) (cm h : Nat) (cy : Int) : Prop where
  cmp : Cmp W b win true first vr vc cm
  rr : W.ownsRow base 2 1 vr rs.length (rs.map (Value.int .i64))
  rc : W.ownsRow base 2 1 vc cs.length (cs.map (Value.int .i64))
  n1 : vr.ownBlock ≠ some b
  n2 : vc.ownBlock ≠ some b
  ap : ∀ q, vr.ownBlock = some q → vc.ownBlock ≠ some q
  m1 : vr.ownBlock ≠ some g
  m2 : vc.ownBlock ≠ some g
  gb : g ≠ b
  glt : g < W.heap.size
  bb : base ≤ b
  b1 : W.cell? ⟨g, 1, none⟩ = some (.int .i64 (h : Int))
  b2 : W.cell? ⟨g, 2, none⟩ = some (.int .i64 cy)
  bel : Below base w W
  pk : ∀ q, P q → q < w.heap.size ∧ q ≠ b ∧ vr.ownBlock ≠ some q ∧ vc.ownBlock ≠ some q ∧ W.heap[q]? = w.heap[q]?

section
variable {P : Nat → Prop} {w W : World} {base b g : Nat} {win first : Int} {vr vc : Value} {rs cs : List Int} {cm h : Nat} {cy : Int}

theorem CS.grown {W' : World} (s : CS P w W base b g win first vr vc rs cs cm h cy) (G : W.grownBy W' none) (hb : base ≤ W.heap.size) : CS P w W' base b g win first vr vc rs cs cm h cy where
  cmp := s.cmp.kept G (by simp)
  rr := s.rr.kept G (by cases vr.ownBlock <;> simp)
  rc := s.rc.kept G (by cases vc.ownBlock <;> simp)
  n1 := s.n1
  n2 := s.n2
  ap := s.ap
  m1 := s.m1
  m2 := s.m2
  gb := s.gb
  glt := Nat.lt_of_lt_of_le s.glt G.size
  bb := s.bb
  b1 := gr_cell G s.b1
  b2 := gr_cell G s.b2
  bel := s.bel.trans (gr_below G hb (by simp))
  pk := fun q hq => by
    obtain ⟨h1, h2, h3, h4, h5⟩ := s.pk q hq
    refine ⟨h1, h2, h3, h4, (G.block q ?_ (by simp)).trans h5⟩
    have := s.bel.size
    omega

theorem cell_set_other {W : World} {b g i j : Nat} (h : g ≠ b) (u : Value) : (W.setCell ⟨b, i, none⟩ u).cell? ⟨g, j, none⟩ = W.cell? ⟨g, j, none⟩ := by
  unfold World.cell?
  rw [Below.heap_setCell _ _ _ _ (by simpa using h)]

theorem CS.readings {W4 : World} {o : Obj} {g4 cap4 : Nat} {x : Int} (s : CS P w W base b g win first vr vc rs cs cm h cy) (hb : base ≤ W.heap.size)
    (hown : W4.ownsRow base 2 1 (.slice (some ⟨g4, 0, none⟩) (rs.length + 1) cap4) (rs.length + 1) (rs.map (Value.int .i64) ++ [.int .i64 x]))
    (hg : (W.alloc o).grownBy W4 vr.ownBlock) (hat : (Value.slice (some ⟨g4, 0, none⟩) (rs.length + 1) cap4).ownBlock = vr.ownBlock ∨ (Value.slice (some ⟨g4, 0, none⟩) (rs.length + 1) cap4).ownBlock = some (W.alloc o).heap.size) :
    CS P w (W4.setCell ⟨b, 3, none⟩ (.slice (some ⟨g4, 0, none⟩) (rs.length + 1) cap4)) base b g win first (.slice (some ⟨g4, 0, none⟩) (rs.length + 1) cap4) vc (rs ++ [x]) cs cm h cy := by
  have hbl := s.cmp.lt
  have hgl := s.glt
  have hob : (Value.slice (some ⟨g4, 0, none⟩) (rs.length + 1) cap4).ownBlock = some g4 := rfl
  rw [hob] at hat
  have hsz : (W.alloc o).heap.size = W.heap.size + 1 := by simp
  have hne : ∀ q, q < W.heap.size → vr.ownBlock ≠ some q → g4 ≠ q := by
    rintro q hq hv rfl
    rcases hat with e | e
    · exact hv e.symm
    · rw [hsz] at e; simp at e; omega
  have hvc : ∀ q, vc.ownBlock = some q → q < W.heap.size := fun q hq => (s.rc.lt q hq).2
  have hap : vc.ownBlock ≠ some g4 := by
    intro e
    refine hne g4 (hvc _ e) ?_ rfl
    intro e'
    exact s.ap g4 e' e
  have hlen : (rs ++ [x]).length = rs.length + 1 := by simp
  have hcells : ∀ i v, W.cell? ⟨g, i, none⟩ = some v → (W4.setCell ⟨b, 3, none⟩ (.slice (some ⟨g4, 0, none⟩) (rs.length + 1) cap4)).cell? ⟨g, i, none⟩ = some v := by
    intro i v hv
    rw [cell_set_other s.gb]
    have h1 : (W.alloc o).cell? ⟨g, i, none⟩ = some v := gr_cell (World.grownBy_alloc W o none) hv
    exact hg.cell h1 (fun e => s.m1 e.symm)
  exact
  { cmp := Cmp.set3 ((s.cmp.kept (World.grownBy_alloc W o none) (by simp)).kept hg (fun e => s.n1 e.symm)) _
    rr := by
      rw [hlen, List.map_append]
      exact ownsRow_setCell_other hown (by rw [hob]; simpa using hne b hbl s.n1) _
    rc := ownsRow_setCell_other ((s.rc.alloc o).kept hg (by
      cases hq : vc.ownBlock with
      | none => exact .inl rfl
      | some q => exact .inr (fun e => s.ap q e.symm hq))) (by simpa using s.n2) _
    n1 := by rw [hob]; simpa using hne b hbl s.n1
    n2 := s.n2
    ap := by intro q hq; rw [hob] at hq; cases hq; exact hap
    m1 := by rw [hob]; simpa using hne g hgl s.m1
    m2 := s.m2
    gb := s.gb
    glt := by have := hg.size; simp [World.setCell] at *; omega
    bb := s.bb
    b1 := hcells 1 _ s.b1
    b2 := hcells 2 _ s.b2
    bel := by
      refine (((s.bel.alloc hb o)).trans (gr_below hg (by simp; omega) (fun q e => (s.rr.lt q e).1))).trans (gr_below (gr_setRow (gr_refl W4 (some b)) 3 _) ?_ (by intro q e; simp at e; have := s.bb; omega))
      have := hg.size; simp at this; omega
    pk := fun q hq => by
      obtain ⟨h1, h2, h3, h4, h5⟩ := s.pk q hq
      have hqW : q < W.heap.size := Nat.lt_of_lt_of_le h1 s.bel.size
      refine ⟨h1, h2, ?_, h4, ?_⟩
      · rw [hob]; simpa using hne q hqW h3
      · rw [Below.heap_setCell _ _ _ _ (by simpa using h2)]
        exact ((hg.block q (by simp; omega) (fun e => h3 e.symm)).trans ((World.grownBy_alloc W o none).block q hqW (by simp))).trans h5 }
theorem CS.cycles {W4 : World} {o : Obj} {g4 cap4 : Nat} {x : Int} (s : CS P w W base b g win first vr vc rs cs cm h cy) (hb : base ≤ W.heap.size)
    (hown : W4.ownsRow base 2 1 (.slice (some ⟨g4, 0, none⟩) (cs.length + 1) cap4) (cs.length + 1) (cs.map (Value.int .i64) ++ [.int .i64 x]))
    (hg : (W.alloc o).grownBy W4 vc.ownBlock) (hat : (Value.slice (some ⟨g4, 0, none⟩) (cs.length + 1) cap4).ownBlock = vc.ownBlock ∨ (Value.slice (some ⟨g4, 0, none⟩) (cs.length + 1) cap4).ownBlock = some (W.alloc o).heap.size) :
    CS P w (W4.setCell ⟨b, 4, none⟩ (.slice (some ⟨g4, 0, none⟩) (cs.length + 1) cap4)) base b g win first vr (.slice (some ⟨g4, 0, none⟩) (cs.length + 1) cap4) rs (cs ++ [x]) cm h cy := by
  have hbl := s.cmp.lt
  have hgl := s.glt
  have hob : (Value.slice (some ⟨g4, 0, none⟩) (cs.length + 1) cap4).ownBlock = some g4 := rfl
  rw [hob] at hat
  have hsz : (W.alloc o).heap.size = W.heap.size + 1 := by simp
  have hne : ∀ q, q < W.heap.size → vc.ownBlock ≠ some q → g4 ≠ q := by
    rintro q hq hv rfl
    rcases hat with e | e
    · exact hv e.symm
    · rw [hsz] at e; simp at e; omega
  have hvr : ∀ q, vr.ownBlock = some q → q < W.heap.size := fun q hq => (s.rr.lt q hq).2
  have hap : vr.ownBlock ≠ some g4 := by
    intro e
    refine hne g4 (hvr _ e) ?_ rfl
    exact s.ap g4 e
  have hlen : (cs ++ [x]).length = cs.length + 1 := by simp
  have hcells : ∀ i v, W.cell? ⟨g, i, none⟩ = some v → (W4.setCell ⟨b, 4, none⟩ (.slice (some ⟨g4, 0, none⟩) (cs.length + 1) cap4)).cell? ⟨g, i, none⟩ = some v := by
    intro i v hv
    rw [cell_set_other s.gb]
    have h1 : (W.alloc o).cell? ⟨g, i, none⟩ = some v := gr_cell (World.grownBy_alloc W o none) hv
    exact hg.cell h1 (fun e => s.m2 e.symm)
  exact
  { cmp := Cmp.set4 ((s.cmp.kept (World.grownBy_alloc W o none) (by simp)).kept hg (fun e => s.n2 e.symm)) _
    rr := ownsRow_setCell_other ((s.rr.alloc o).kept hg (by
      cases hq : vr.ownBlock with
      | none => exact .inl rfl
      | some q => exact .inr (fun e => s.ap q hq e.symm))) (by simpa using s.n1) _
    rc := by
      rw [hlen, List.map_append]
      exact ownsRow_setCell_other hown (by rw [hob]; simpa using hne b hbl s.n2) _
    n1 := s.n1
    n2 := by rw [hob]; simpa using hne b hbl s.n2
    ap := by intro q hq e; rw [hob] at e; cases e; exact hap hq
    m1 := s.m1
    m2 := by rw [hob]; simpa using hne g hgl s.m2
    gb := s.gb
    glt := by have := hg.size; simp [World.setCell] at *; omega
    bb := s.bb
    b1 := hcells 1 _ s.b1
    b2 := hcells 2 _ s.b2
    bel := by
      refine (((s.bel.alloc hb o)).trans (gr_below hg (by simp; omega) (fun q e => (s.rc.lt q e).1))).trans (gr_below (gr_setRow (gr_refl W4 (some b)) 4 _) ?_ (by intro q e; simp at e; have := s.bb; omega))
      have := hg.size; simp at this; omega
    pk := fun q hq => by
      obtain ⟨h1, h2, h3, h4, h5⟩ := s.pk q hq
      have hqW : q < W.heap.size := Nat.lt_of_lt_of_le h1 s.bel.size
      refine ⟨h1, h2, h3, ?_, ?_⟩
      · rw [hob]; simpa using hne q hqW h4
      · rw [Below.heap_setCell _ _ _ _ (by simpa using h2)]
        exact ((hg.block q (by simp; omega) (fun e => h4 e.symm)).trans ((World.grownBy_alloc W o none).block q hqW (by simp))).trans h5 }

theorem CS.crew (s : CS P w W base b g win first vr vc rs cs cm h cy) (hb : base ≤ W.heap.size) (c : Nat) :
    CS P w (W.setCell ⟨b, 5, none⟩ (.int .u32 (c : Int))) base b g win first vr vc rs cs c h cy where
  cmp := Cmp.set5 s.cmp c
  rr := ownsRow_setCell_other s.rr (by simpa using s.n1) _
  rc := ownsRow_setCell_other s.rc (by simpa using s.n2) _
  n1 := s.n1
  n2 := s.n2
  ap := s.ap
  m1 := s.m1
  m2 := s.m2
  gb := s.gb
  glt := by have := s.glt; simp [World.setCell]; exact this
  bb := s.bb
  b1 := by rw [cell_set_other s.gb]; exact s.b1
  b2 := by rw [cell_set_other s.gb]; exact s.b2
  bel := s.bel.trans (gr_below (gr_setRow (gr_refl W (some b)) 5 _) hb (by intro q e; simp at e; have := s.bb; omega))
  pk := fun q hq => by
    obtain ⟨h1, h2, h3, h4, h5⟩ := s.pk q hq
    refine ⟨h1, h2, h3, h4, ?_⟩
    rw [Below.heap_setCell _ _ _ _ (by simpa using h2)]
    exact h5
end

/-- An open collection. -/
structure Coll (P : Nat → Prop) (W : World) (base b : Nat) (win first : Int) (rs cs : List Int) (cm : Nat) : Prop where
  ex : ∃ vr vc, Cmp W b win true first vr vc cm ∧ W.ownsRow base 2 1 vr rs.length (rs.map (Value.int .i64)) ∧ W.ownsRow base 2 1 vc cs.length (cs.map (Value.int .i64)) ∧
    vr.ownBlock ≠ some b ∧ vc.ownBlock ≠ some b ∧ (∀ q, vr.ownBlock = some q → vc.ownBlock ≠ some q) ∧ base ≤ b ∧ ∀ q, P q → q < W.heap.size ∧ q ≠ b ∧ vr.ownBlock ≠ some q ∧ vc.ownBlock ≠ some q
theorem CS.coll {P : Nat → Prop} {w W : World} {base b g : Nat} {win first : Int} {vr vc : Value} {rs cs : List Int} {cm h : Nat} {cy : Int} (s : CS P w W base b g win first vr vc rs cs cm h cy) : Coll P W base b win first rs cs cm :=
  ⟨vr, vc, s.cmp, s.rr, s.rc, s.n1, s.n2, s.ap, s.bb, fun q hq => ⟨Nat.lt_of_lt_of_le (s.pk q hq).1 s.bel.size, (s.pk q hq).2.1, (s.pk q hq).2.2.1, (s.pk q hq).2.2.2.1⟩⟩
theorem CS.keeps {P : Nat → Prop} {w W : World} {base b g : Nat} {win first : Int} {vr vc : Value} {rs cs : List Int} {cm h : Nat} {cy : Int} (s : CS P w W base b g win first vr vc rs cs cm h cy) : ∀ q, P q → W.heap[q]? = w.heap[q]? := fun q hq => (s.pk q hq).2.2.2.2
theorem CS.start {P : Nat → Prop} {w w1 : World} {base b : Nat} {win first : Int} {vr vc : Value} {rs cs : List Int} {cm h : Nat} {k cy cl : Int} {cr : Int} {t : TypeId}
    (hc : Cmp w b win true first vr vc cm) (hr : w.ownsRow base 2 1 vr rs.length (rs.map (Value.int .i64))) (hc' : w.ownsRow base 2 1 vc cs.length (cs.map (Value.int .i64)))
    (n1 : vr.ownBlock ≠ some b) (n2 : vc.ownBlock ≠ some b) (ap : ∀ q, vr.ownBlock = some q → vc.ownBlock ≠ some q) (bb : base ≤ b) (hP : ∀ q, P q → q < w.heap.size ∧ q ≠ b ∧ vr.ownBlock ≠ some q ∧ vc.ownBlock ≠ some q)
    (g1 : (w.alloc (.cells #[.int .i64 k, .int .i64 (h : Int), .int .i64 cy, .int .u32 cr, .int .i64 cl] t)).grownBy w1 none) : CS P w w1 base b w.heap.size win first vr vc rs cs cm h cy where
  cmp := hc.kept (bx_gr g1) (by simp)
  rr := hr.kept (bx_gr g1) (by cases vr.ownBlock <;> simp)
  rc := hc'.kept (bx_gr g1) (by cases vc.ownBlock <;> simp)
  n1 := n1
  n2 := n2
  ap := ap
  m1 := fun e => by have := (hr.lt _ e).2; omega
  m2 := fun e => by have := (hc'.lt _ e).2; omega
  gb := by have := hc.lt; omega
  glt := by have := g1.size; simp at this; omega
  bb := bb
  b1 := bx_cell g1 1 _ rfl
  b2 := bx_cell g1 2 _ rfl
  bel := gr_below (bx_gr g1) (by have := hc.lt; omega) (by simp)
  pk := fun q hq => by
    obtain ⟨h1, h2, h3, h4⟩ := hP q hq
    exact ⟨h1, h2, h3, h4, (bx_gr g1).block q h1 (by simp)⟩
end Go.Proofs.YtckoaeoecjphiaaGreat
