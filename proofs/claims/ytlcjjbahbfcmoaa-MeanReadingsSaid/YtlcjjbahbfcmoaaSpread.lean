/- slices.Max, Min at int64; mean.Spread. -/
import Derived.Test.YtlcjjbahbfcmoaaMean
namespace Go.Proofs.Ytlcjjbahbfcmoaa
open Go.RowKit Go.Shelf Go.Sort Go.Lib

def maxL : List Int → Int
  | [] => 0
  | x :: l => l.foldl max x
def minL : List Int → Int
  | [] => 0
  | x :: l => l.foldl min x

theorem maxL_snoc (l : List Int) (x : Int) (h : l ≠ []) : maxL (l ++ [x]) = max (maxL l) x := by
  cases l with
  | nil => exact absurd rfl h
  | cons y l => simp [maxL]
theorem minL_snoc (l : List Int) (x : Int) (h : l ≠ []) : minL (l ++ [x]) = min (minL l) x := by
  cases l with
  | nil => exact absurd rfl h
  | cons y l => simp [minL]

theorem max_any (a : Option Addr) (len cap : Nat) (zs : List Int) (hz : zs ≠ []) (hreach : zs.length * 8 ≤ 140737488355328) (n₀ : Nat) (w : World) (hI : Ints n₀ w (.slice a len cap) zs) :
    Calls Try.prog 29 #[.slice a len cap] w fun e w' => e = .returned (.int .i64 (maxL zs)) ∧ w = w' := by
  rcases hI with ⟨_, _, _, rfl⟩ | ⟨b, off, cap', e, _, hc⟩
  · exact absurd rfl hz
  · cases e
    have hlen : 1 ≤ zs.length := by cases zs with | nil => exact absurd rfl hz | cons x l => simp
    have hc' : ∀ j, j < zs.length → w.cell? ⟨b, off + j, none⟩ = some (.int .i64 (nth zs j)) := hc
    have Hc := hid hc'
    have c0 : w.cell? ⟨b, off, none⟩ = some (.int .i64 (nth zs 0)) := hc' 0 (by omega)
    have Hz := hid hz
    clear hc hc' hz
    go_enter Try.func29, Try.ntmps29
    go_wp2
    go_loop [3, 4] (fun m i => ∃ k : Nat, i = .int .i64 k ∧ 1 ≤ k ∧ k ≤ zs.length ∧ m = .int .i64 (maxL (zs.take k))) (fun _ i => zs.length - (intOf i).toNat)
    case atStart => exact ⟨1, rfl, Nat.le_refl _, hlen, by rw [show (1 : Nat) = 0 + 1 from rfl, take_nth zs 0 (by omega)]; rfl⟩
    case round =>
      obtain ⟨k, rfl, hk1, hk, rfl⟩ := hrel
      by_cases hlt : k < zs.length
      · have hck := Hc.out k hlt
        go_wp2
        go_round
        case rel => exact ⟨k + 1, by go_num, by omega, by omega, by rw [take_nth zs k hlt, maxL_snoc _ _ (take_ne zs hk1 hk hlen)]⟩
        case measure => simp [intOf]; omega
      · obtain rfl : k = zs.length := by omega
        clear hlt
        go_wp2
        go_ret
        exact ⟨rfl, rfl⟩
theorem min_any (a : Option Addr) (len cap : Nat) (zs : List Int) (hz : zs ≠ []) (hreach : zs.length * 8 ≤ 140737488355328) (n₀ : Nat) (w : World) (hI : Ints n₀ w (.slice a len cap) zs) :
    Calls Try.prog 30 #[.slice a len cap] w fun e w' => e = .returned (.int .i64 (minL zs)) ∧ w = w' := by
  rcases hI with ⟨_, _, _, rfl⟩ | ⟨b, off, cap', e, _, hc⟩
  · exact absurd rfl hz
  · cases e
    have hlen : 1 ≤ zs.length := by cases zs with | nil => exact absurd rfl hz | cons x l => simp
    have hc' : ∀ j, j < zs.length → w.cell? ⟨b, off + j, none⟩ = some (.int .i64 (nth zs j)) := hc
    have Hc := hid hc'
    have c0 : w.cell? ⟨b, off, none⟩ = some (.int .i64 (nth zs 0)) := hc' 0 (by omega)
    have Hz := hid hz
    clear hc hc' hz
    go_enter Try.func30, Try.ntmps30
    go_wp2
    go_loop [3, 4] (fun m i => ∃ k : Nat, i = .int .i64 k ∧ 1 ≤ k ∧ k ≤ zs.length ∧ m = .int .i64 (minL (zs.take k))) (fun _ i => zs.length - (intOf i).toNat)
    case atStart => exact ⟨1, rfl, Nat.le_refl _, hlen, by rw [show (1 : Nat) = 0 + 1 from rfl, take_nth zs 0 (by omega)]; rfl⟩
    case round =>
      obtain ⟨k, rfl, hk1, hk, rfl⟩ := hrel
      by_cases hlt : k < zs.length
      · have hck := Hc.out k hlt
        go_wp2
        go_round
        case rel => exact ⟨k + 1, by go_num, by omega, by omega, by rw [take_nth zs k hlt, minL_snoc _ _ (take_ne zs hk1 hk hlen)]⟩
        case measure => simp [intOf]; omega
      · obtain rfl : k = zs.length := by omega
        clear hlt
        go_wp2
        go_ret
        exact ⟨rfl, rfl⟩

theorem maxL_mem (zs : List Int) (h : zs ≠ []) : maxL zs ∈ zs := by
  cases zs with
  | nil => exact absurd rfl h
  | cons x l =>
    show l.foldl max x ∈ x :: l
    induction l generalizing x with
    | nil => simp
    | cons y l ih =>
      simp only [List.foldl_cons]
      have := ih (max x y) (by simp)
      rcases List.mem_cons.1 this with h1 | h1
      · rw [h1]
        rcases Int.le_total x y with h2 | h2
        · rw [Int.max_eq_right h2]; simp
        · rw [Int.max_eq_left h2]; simp
      · exact List.mem_cons_of_mem _ (List.mem_cons_of_mem _ h1)
theorem minL_mem (zs : List Int) (h : zs ≠ []) : minL zs ∈ zs := by
  cases zs with
  | nil => exact absurd rfl h
  | cons x l =>
    show l.foldl min x ∈ x :: l
    induction l generalizing x with
    | nil => simp
    | cons y l ih =>
      simp only [List.foldl_cons]
      have := ih (min x y) (by simp)
      rcases List.mem_cons.1 this with h1 | h1
      · rw [h1]
        rcases Int.le_total x y with h2 | h2
        · rw [Int.min_eq_left h2]; simp
        · rw [Int.min_eq_right h2]; simp
      · exact List.mem_cons_of_mem _ (List.mem_cons_of_mem _ h1)
theorem le_maxL (zs : List Int) : ∀ x ∈ zs, x ≤ maxL zs := by
  cases zs with
  | nil => simp
  | cons x l =>
    show ∀ y ∈ x :: l, y ≤ l.foldl max x
    induction l generalizing x with
    | nil => simp
    | cons z l ih =>
      intro y hy
      simp only [List.foldl_cons]
      have h1 := ih (max x z)
      have h2 := h1 (max x z) (by simp)
      rcases List.mem_cons.1 hy with rfl | hy
      · omega
      · rcases List.mem_cons.1 hy with rfl | hy
        · omega
        · exact h1 y (List.mem_cons_of_mem _ hy)
theorem minL_le (zs : List Int) : ∀ x ∈ zs, minL zs ≤ x := by
  cases zs with
  | nil => simp
  | cons x l =>
    show ∀ y ∈ x :: l, l.foldl min x ≤ y
    induction l generalizing x with
    | nil => simp
    | cons z l ih =>
      intro y hy
      simp only [List.foldl_cons]
      have h1 := ih (min x z)
      have h2 := h1 (min x z) (by simp)
      rcases List.mem_cons.1 hy with rfl | hy
      · omega
      · rcases List.mem_cons.1 hy with rfl | hy
        · omega
        · exact h1 y (List.mem_cons_of_mem _ hy)

theorem spread_any (a : Option Addr) (len cap : Nat) (zs : List Int) (hreach : zs.length * 8 ≤ 140737488355328) (h64 : In64 zs) (n₀ : Nat) (w : World) (hI : Ints n₀ w (.slice a len cap) zs) :
    Calls Try.prog 16 #[.slice a len cap] w fun e w' => e = .returned (.int .u64 (maxL zs - minL zs)) ∧ w = w' := by
  have hl := hI.slice
  subst hl
  by_cases hz : zs = []
  · subst hz
    clear hI
    go_enter Try.func16, Try.ntmps16
    go_wp2
    go_ret
    exact ⟨rfl, rfl⟩
  · have hlen : 1 ≤ zs.length := by cases zs with | nil => exact absurd rfl hz | cons x l => simp
    have e0 : ((zs.length : Int) == 0) = false := by simp; omega
    have hx := h64 _ (maxL_mem zs hz)
    have hn := h64 _ (minL_mem zs hz)
    have hle := le_maxL zs _ (minL_mem zs hz)
    have hfin : IntKind.u64.wrap (IntKind.u64.wrap (maxL zs) - IntKind.u64.wrap (minL zs)) = maxL zs - minL zs := by rw [IntKind.wrap_u64, IntKind.wrap_u64, IntKind.wrap_u64]; omega
    have Hfin := hid hfin; have Hz := hid hz; have HI := hid hI
    clear hfin hz hx hn hle hI h64
    go_enter Try.func16, Try.ntmps16
    go_wp2_with fail
    refine (max_any a _ cap zs Hz.out hreach n₀ _ HI.out).mono ?_
    rintro e w' ⟨rfl, rfl⟩
    go_wp2_with fail
    refine (min_any a _ cap zs Hz.out hreach n₀ _ HI.out).mono ?_
    rintro e w' ⟨rfl, rfl⟩
    go_wp2_with fail
    go_ret
    refine ⟨?_, rfl⟩
    rw [← Hfin.out]
    rfl
end Go.Proofs.Ytlcjjbahbfcmoaa
