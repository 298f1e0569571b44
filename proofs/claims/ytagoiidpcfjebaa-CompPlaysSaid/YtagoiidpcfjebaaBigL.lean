/- Numbers as digits of 16 bits, the lowest first: what they are worth. -/
import Derived.Test.YtagoiidpcfjebaaMean
namespace Go.Proofs.Ytagoiidpcfjebaa
open Go.RowKit Go.Lib

def bval : List Int → Int
  | [] => 0
  | d :: l => d + 65536 * bval l
def Dg (ds : List Int) : Prop := ∀ d ∈ ds, 0 ≤ d ∧ d < 65536
def Trm (ds : List Int) : Prop := ds = [] ∨ nth ds (ds.length - 1) ≠ 0
def pw (n : Nat) : Int := ((65536 ^ n : Nat) : Int)
theorem pw_zero : pw 0 = 1 := rfl
theorem pw_succ (n : Nat) : pw (n + 1) = 65536 * pw n := by unfold pw; rw [Nat.pow_succ, Nat.mul_comm]; exact Int.natCast_mul _ _
theorem pw_pos (n : Nat) : 1 ≤ pw n := by
  unfold pw
  have : 0 < 65536 ^ n := Nat.pow_pos (by omega)
  omega
theorem pw_mono {m n : Nat} (h : m ≤ n) : pw m ≤ pw n := by
  unfold pw
  have := Nat.pow_le_pow_right (n := 65536) (by omega) h
  omega
theorem nth_dg {ds : List Int} (h : Dg ds) (i : Nat) : 0 ≤ nth ds i ∧ nth ds i < 65536 := by
  unfold nth
  by_cases hi : i < ds.length
  · rw [List.getElem?_eq_getElem hi]
    exact h _ (List.getElem_mem hi)
  · rw [List.getElem?_eq_none (by omega)]
    simp
theorem dg_nil : Dg [] := by intro d h; simp at h
theorem dg_snoc {ds : List Int} {d : Int} (h : Dg ds) (h0 : 0 ≤ d) (h1 : d < 65536) : Dg (ds ++ [d]) := by
  intro x hx
  rcases List.mem_append.1 hx with hx | hx
  · exact h x hx
  · rw [List.mem_singleton.1 hx]; exact ⟨h0, h1⟩
theorem dg_take {ds : List Int} (h : Dg ds) (n : Nat) : Dg (ds.take n) := fun d hd => h d (List.mem_of_mem_take hd)
theorem bval_snoc (ds : List Int) (d : Int) : bval (ds ++ [d]) = bval ds + d * pw ds.length := by
  induction ds with
  | nil => simp [bval, pw]
  | cons x l ih =>
    simp only [List.cons_append, bval, List.length_cons]
    rw [ih, pw_succ, Int.mul_add, Int.mul_left_comm]
    omega
theorem bval_take (ds : List Int) (i : Nat) : bval (ds.take (i + 1)) = bval (ds.take i) + nth ds i * pw i := by
  by_cases h : i < ds.length
  · rw [List.take_succ_eq_append_getElem h, bval_snoc, List.length_take, Nat.min_eq_left (by omega)]
    simp [nth, h]
  · rw [List.take_of_length_le (by omega), List.take_of_length_le (by omega)]
    have : nth ds i = 0 := by unfold nth; rw [List.getElem?_eq_none (by omega)]; rfl
    rw [this]
    simp
theorem bval_nonneg {ds : List Int} (h : Dg ds) : 0 ≤ bval ds := by
  induction ds with
  | nil => exact Int.le_refl _
  | cons x l ih =>
    have h1 := h x (List.mem_cons_self ..)
    have h2 := ih fun d hd => h d (List.mem_cons_of_mem _ hd)
    simp only [bval]
    omega
theorem bval_lt {ds : List Int} (h : Dg ds) : bval ds < pw ds.length := by
  induction ds with
  | nil => simp [bval, pw]
  | cons x l ih =>
    have h1 := h x (List.mem_cons_self ..)
    have h2 := ih fun d hd => h d (List.mem_cons_of_mem _ hd)
    simp only [bval, List.length_cons, pw_succ]
    omega
theorem bval_last {ds : List Int} {n : Nat} (hn : ds.length = n + 1) : bval ds = bval (ds.take n) + nth ds n * pw n := by
  have := bval_take ds n
  rwa [List.take_of_length_le (by omega)] at this
/-- A trimmed number is as great as its last digit's place. -/
theorem trm_ge {ds : List Int} (hd : Dg ds) (ht : Trm ds) {n : Nat} (hn : ds.length = n + 1) : pw n ≤ bval ds := by
  rw [bval_last hn]
  have h0 := bval_nonneg (dg_take hd n)
  have h1 := (nth_dg hd n).1
  have h2 : nth ds n ≠ 0 := by
    rcases ht with rfl | ht
    · simp at hn
    · rwa [hn] at ht
  have h3 : 1 * pw n ≤ nth ds n * pw n := Int.mul_le_mul_of_nonneg_right (by omega) (by have := pw_pos n; omega)
  omega
theorem shorter_lt {ds es : List Int} (hd : Dg ds) (he : Dg es) (ht : Trm es) (h : ds.length < es.length) : bval ds < bval es := by
  obtain ⟨n, hn⟩ : ∃ n, es.length = n + 1 := ⟨es.length - 1, by omega⟩
  have h1 := bval_lt hd
  have h2 := trm_ge he ht hn
  have h3 := pw_mono (show ds.length ≤ n by omega)
  omega
theorem trm_len {ds : List Int} (hd : Dg ds) (ht : Trm ds) {n : Nat} (h : bval ds < pw n) : ds.length ≤ n := by
  rcases Nat.lt_or_ge n ds.length with h1 | h1
  · obtain ⟨k, hk⟩ : ∃ k, ds.length = k + 1 := ⟨ds.length - 1, by omega⟩
    have := trm_ge hd ht hk
    have := pw_mono (show n ≤ k by omega)
    omega
  · exact h1
theorem trm_zero {ds : List Int} (hd : Dg ds) (ht : Trm ds) : bval ds = 0 ↔ ds = [] := by
  constructor
  · intro h
    have := trm_len hd ht (n := 0) (by rw [h]; decide)
    exact List.length_eq_zero_iff.1 (by omega)
  · rintro rfl; rfl
theorem bval_drop (ds : List Int) (n : Nat) : bval ds = bval (ds.take n) + pw n * bval (ds.drop n) := by
  induction n generalizing ds with
  | zero => simp [bval, pw]
  | succ n ih =>
    cases ds with
    | nil => simp [bval]
    | cons x l =>
      simp only [List.take_succ_cons, List.drop_succ_cons, bval]
      have := ih l
      rw [this, pw_succ, Int.mul_add, Int.mul_assoc]
      omega
/-- Where the digits above are the same, the digit decides. -/
theorem digit_lt {ds es : List Int} (hd : Dg ds) (he : Dg es) {i : Nat} (hs : ds.drop (i + 1) = es.drop (i + 1)) (h : nth ds i < nth es i) : bval ds < bval es := by
  rw [bval_drop ds (i + 1), bval_drop es (i + 1), hs, bval_take, bval_take]
  have h1 := bval_lt (dg_take hd i)
  have h2 := bval_nonneg (dg_take he i)
  have h3 : pw (ds.take i).length ≤ pw i := pw_mono (by rw [List.length_take]; exact Nat.min_le_left ..)
  have h4 : (nth ds i + 1) * pw i ≤ nth es i * pw i := Int.mul_le_mul_of_nonneg_right (by omega) (by have := pw_pos i; omega)
  rw [Int.add_mul] at h4
  omega
theorem drop_same {ds es : List Int} {i : Nat} (h1 : i < ds.length) (h2 : i < es.length) (hs : ds.drop (i + 1) = es.drop (i + 1)) (h : nth ds i = nth es i) : ds.drop i = es.drop i := by
  rw [List.drop_eq_getElem_cons h1, List.drop_eq_getElem_cons h2, hs]
  simp only [nth, List.getElem?_eq_getElem h1, List.getElem?_eq_getElem h2, Option.getD_some] at h
  rw [h]
/-- One digit of a sum. -/
theorem plus_step {rs ds es : List Int} {i : Nat} {c x d c' : Int} (hl : rs.length = i) (hv : bval rs + c * pw i = bval (ds.take i) + bval (es.take i)) (hx : nth ds i + nth es i + c = x) (hd : x = d + 65536 * c') :
    bval (rs ++ [d]) + c' * pw (i + 1) = bval (ds.take (i + 1)) + bval (es.take (i + 1)) := by
  rw [bval_snoc, hl, bval_take, bval_take, pw_succ]
  have h1 : x * pw i = d * pw i + 65536 * (c' * pw i) := by rw [hd, Int.add_mul, Int.mul_assoc]
  rw [← hx, Int.add_mul, Int.add_mul] at h1
  have h2 : c' * (65536 * pw i) = 65536 * (c' * pw i) := Int.mul_left_comm ..
  omega
theorem minus_step {rs ds es : List Int} {i : Nat} {c x d c' : Int} (hl : rs.length = i) (hv : bval rs - c * pw i = bval (ds.take i) - bval (es.take i)) (hx : 65536 + nth ds i - nth es i - c = x) (hd : x = d + 65536 * (1 - c')) :
    bval (rs ++ [d]) - c' * pw (i + 1) = bval (ds.take (i + 1)) - bval (es.take (i + 1)) := by
  rw [bval_snoc, hl, bval_take, bval_take, pw_succ]
  have h1 : x * pw i = d * pw i + 65536 * pw i - 65536 * (c' * pw i) := by
    rw [hd, Int.add_mul, Int.mul_assoc, Int.sub_mul, Int.mul_sub, Int.one_mul]
    omega
  rw [← hx, Int.sub_mul, Int.sub_mul, Int.add_mul] at h1
  have h2 : c' * (65536 * pw i) = 65536 * (c' * pw i) := Int.mul_left_comm ..
  omega
def sgn (b : Bool) (n : Int) : Int := if b = true then -n else n
end Go.Proofs.Ytagoiidpcfjebaa
