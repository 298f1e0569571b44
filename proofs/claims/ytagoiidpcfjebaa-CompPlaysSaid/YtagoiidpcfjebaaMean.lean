/- mean.Tolerant, Middle: what they come to. -/
import Derived.Test.YtagoiidpcfjebaaSorted
import Derived.Test.YtagoiidpcfjebaaHalf
import Derived.Test.YtagoiidpcfjebaaBox
import Derived.Deep.QuietTactic
import Derived.BigQuiet
namespace Go.Proofs.Ytagoiidpcfjebaa
open Go.RowKit Go.Shelf Go.Sort Go.Lib

def nth (l : List Int) (j : Nat) : Int := l[j]?.getD 0
def In64 (l : List Int) : Prop := ∀ x ∈ l, -9223372036854775808 ≤ x ∧ x ≤ 9223372036854775807
theorem In64.nth {l : List Int} (h : In64 l) (j : Nat) : -9223372036854775808 ≤ nth l j ∧ nth l j ≤ 9223372036854775807 := by
  unfold Go.Proofs.Ytagoiidpcfjebaa.nth
  cases hj : l[j]? with
  | none => simp
  | some x => simpa using h x (List.mem_of_getElem? hj)
theorem In64.sort {l : List Int} (h : In64 l) : In64 (sortL l) := fun x hx => h x ((sortL_perm l).mem_iff.1 hx)

theorem take_nth (zs : List Int) (k : Nat) (h : k < zs.length) : zs.take (k + 1) = zs.take k ++ [nth zs k] := by
  rw [List.take_succ_eq_append_getElem h]; simp [nth, h]

theorem take_ne (zs : List Int) {k : Nat} (h1 : 1 ≤ k) (_ : k ≤ zs.length) (_ : 1 ≤ zs.length) : zs.take k ≠ [] := by
  intro h
  have := congrArg List.length h
  rw [List.length_take] at this
  simp only [List.length_nil] at this
  omega

theorem half_same (a b : Int) (w : World) (a0 : -9223372036854775808 ≤ a ∧ a ≤ 9223372036854775807) (b0 : -9223372036854775808 ≤ b ∧ b ≤ 9223372036854775807) :
    Calls Try.prog 33 #[.int .i64 a, .int .i64 b] w fun e w' => e = .returned (.int .i64 ((a + b) / 2)) ∧ w' = w :=
  (half_any a b w a0.1 a0.2 b0.1 b0.2).mono fun _ _ ⟨h1, h2⟩ => ⟨h1, h2.symm⟩

/-- The tolerant mean of numbers, where there are any. -/
def tolL (zs : List Int) : Int :=
  if zs.length = 1 then nth (sortL zs) 0 else if zs.length = 2 then (nth (sortL zs) 0 + nth (sortL zs) 1) / 2 else (nth (sortL zs) 1 + nth (sortL zs) (zs.length - 2)) / 2

theorem own_nth {w : World} {base e cap g : Nat} {v : List Int} {n : Nat} (h : w.ownsRow base e 1 (.slice (some ⟨g, 0, none⟩) n cap) n (v.map (Value.int .i64))) : ∀ j, j < n → w.cell? ⟨g, j, none⟩ = some (.int .i64 (nth v j)) := by
  intro j hj
  rw [h.cellAt j (by omega)]
  have hl := h.1
  have hv : j < v.length := by simp at hl; omega
  simp [nth, hv]

theorem Ints.slice {n₀ : Nat} {W : World} {a : Option Addr} {len cap : Nat} {zs : List Int} (h : Ints n₀ W (.slice a len cap) zs) : len = zs.length := by
  rcases h with ⟨a', cap', e, rfl⟩ | ⟨b, off, cap', e, _⟩
  · cases e; rfl
  · cases e; rfl

/-- The numbers that the call sorts. -/
theorem sorted_values (a : Option Addr) (len cap : Nat) (zs : List Int) (hreach : zs.length * 8 ≤ 140737488355328) (w : World) (hI : Ints w.heap.size w (.slice a len cap) zs) :
    Calls Try.prog 31 #[.func (.func 39) #[] #[.pointer (some ⟨w.heap.size, 0, none⟩)]] (w.alloc (.cells #[.slice a len cap] 49)) fun e w' =>
      ∃ v, e = .returned v ∧ (zs = [] ∧ v = .slice none 0 0 ∨ zs ≠ [] ∧ ∃ g cap, v = .slice (some ⟨g, 0, none⟩) zs.length cap ∧ ∀ j, j < zs.length → w'.cell? ⟨g, j, none⟩ = some (.int .i64 (nth (sortL zs) j))) ∧ w.grownBy w' none := by
  have hb : Below w.heap.size w (w.alloc (.cells #[.slice a len cap] 49)) := (Below.refl _ w).alloc (Nat.le_refl _) _
  refine (sorted_call w.heap.size (.slice a len cap) zs hreach _ (by simp) (by rw [World.cell?_alloc_new]; rfl) ((hI.below hb).mono (by simp))).mono ?_
  rintro e w' ⟨v, rfl, hown, hnil, hB⟩
  refine ⟨v, rfl, ?_, below_gr (hb.trans (hB.mono (by simp)))⟩
  by_cases hz : zs = []
  · exact .inl ⟨hz, hnil.2 hz⟩
  · right
    refine ⟨hz, ?_⟩
    rcases hown.2 with ⟨rfl, _⟩ | ⟨g, cap', cur, rfl, _⟩
    · exact absurd (hnil.1 rfl) hz
    · exact ⟨g, cap', rfl, own_nth hown⟩

set_option maxHeartbeats 1000000 in
theorem tolerant_any (a : Option Addr) (len cap : Nat) (zs : List Int) (hreach : zs.length * 8 ≤ 140737488355328) (h64 : In64 zs) (w : World) (hI : Ints w.heap.size w (.slice a len cap) zs) :
    Calls Try.prog 24 #[.slice a len cap] w fun e w' => e = .returned (.tuple (if zs = [] then #[.int .i64 0, .int .i64 5] else #[.int .i64 (tolL zs), .int .i64 0])) ∧ w.grownBy w' none := by
  have hS := hid (sorted_values a len cap zs hreach w hI)
  have h0 := h64.sort.nth 0; have h1 := h64.sort.nth 1; have h2 := h64.sort.nth (zs.length - 2)
  clear hI
  by_cases hz : zs = []
  · rw [if_pos hz]
    have Hz := hid hz; clear hz
    go_enter Try.func24, Try.ntmps24
    go_wp2_with fail
    refine (values_call a len cap _).mono ?_
    rintro e w' ⟨rfl, rfl⟩
    go_wp2_with fail
    refine hS.out.mono ?_
    rintro e w1 ⟨v, rfl, ⟨_, rfl⟩ | ⟨h, _⟩, hg⟩
    · go_wp2_with fail
      go_ret2
      exact ⟨rfl, hg⟩
    · exact absurd Hz.out h
  · rw [if_neg hz]
    have hlen : 1 ≤ zs.length := by cases zs with | nil => exact absurd rfl hz | cons x l => simp
    obtain ⟨n, hn⟩ : ∃ n, Hid (zs.length = n) := ⟨_, hid rfl⟩
    obtain ⟨r, hr⟩ : ∃ r, Hid (tolL zs = r) := ⟨_, hid rfl⟩
    have hR := hr.out
    unfold tolL at hR
    rw [hr.out]
    rw [hn.out] at hR hlen h2
    have hreach' : n * 8 ≤ 140737488355328 := by rw [← hn.out]; exact hreach
    have HR := hid hR; have Hz := hid hz; clear hR hz hreach h64
    by_cases hn1 : n = 1
    · subst hn1
      go_enter Try.func24, Try.ntmps24
      go_wp2_with fail
      refine (values_call a len cap _).mono ?_
      rintro e w' ⟨rfl, rfl⟩
      go_wp2_with fail
      refine hS.out.mono ?_
      rintro e w1 ⟨v, rfl, ⟨h, rfl⟩ | ⟨_, g, cap', rfl, hc⟩, hg⟩
      · exact absurd h Hz.out
      · rw [hn.out] at hc
        have c0 := hc 0 (by omega)
        clear hc
        rw [hn.out]
        go_wp2_with fail
        go_ret2
        rw [← HR.out]
        exact ⟨rfl, hg⟩
    by_cases hn2 : n = 2
    · subst hn2
      go_enter Try.func24, Try.ntmps24
      go_wp2_with fail
      refine (values_call a len cap _).mono ?_
      rintro e w' ⟨rfl, rfl⟩
      go_wp2_with fail
      refine hS.out.mono ?_
      rintro e w1 ⟨v, rfl, ⟨h, rfl⟩ | ⟨_, g, cap', rfl, hc⟩, hg⟩
      · exact absurd h Hz.out
      · rw [hn.out] at hc
        have c0 := hc 0 (by omega)
        have c1 := hc 1 (by omega)
        clear hc
        rw [hn.out]
        go_wp2_with fail
        go_quiet ((go_at_call 33; exact Calls.quiet_of_same (half_same _ _ _ h0 h1)))
        go_wp2_with fail
        go_ret2
        rw [← HR.out]
        exact ⟨rfl, gr_drewN hg _⟩
    · have e0 : ((n : Int) == 0) = false := by simp; omega
      have e1 : ((n : Int) == 1) = false := by simp; omega
      have e2 : ((n : Int) == 2) = false := by simp; omega
      have hn3 : 3 ≤ n := by omega
      rw [if_neg hn1, if_neg hn2] at HR
      clear hn1 hn2
      go_enter Try.func24, Try.ntmps24
      go_wp2_with fail
      refine (values_call a len cap _).mono ?_
      rintro e w' ⟨rfl, rfl⟩
      go_wp2_with fail
      refine hS.out.mono ?_
      rintro e w1 ⟨v, rfl, ⟨h, rfl⟩ | ⟨_, g, cap', rfl, hc⟩, hg⟩
      · exact absurd h Hz.out
      · rw [hn.out] at hc
        have c0 := hc 1 (by omega)
        have c1 := hc (n - 2) (by omega)
        clear hc
        rw [hn.out]
        go_wp2_with fail
        have w1' : IntKind.i64.wrap ((n : Int) - 2) = (n : Int) - 2 := by rw [IntKind.wrap_i64]; omega
        have w2' : 0 ≤ (n : Int) - 2 := by omega
        have w3' : ((n : Int) - 2).toNat = n - 2 := by omega
        have w4' : (n : Int) - 2 < (n : Int) := by omega
        have w5' : (1 : Int) < (n : Int) := by omega
        go_quiet ((go_at_call 33; exact Calls.quiet_of_same (half_same _ _ _ h1 h2)))
        clear w1' w2' w3' w4' w5'
        go_wp2_with fail
        go_ret2
        rw [← HR.out]
        exact ⟨rfl, gr_drewN hg _⟩

/-- The middle. -/
def midL (zs : List Int) : Int := (nth (sortL zs) ((zs.length - 1) / 2) + nth (sortL zs) (zs.length / 2)) / 2

end Go.Proofs.Ytagoiidpcfjebaa
