/- tocsinref07.Of: the crew of hosts. -/
import Derived.Test.YtagoiidpcfjebaaMean
namespace Go.Proofs.Ytagoiidpcfjebaa
open Go.RowKit Go.Shelf Go.Sort Go.Lib

def crewTo (hs : List Int) : Nat → Int
  | 0 => 0
  | n + 1 => crewTo hs n + if (n : Int) ∈ hs then ((2 ^ n : Nat) : Int) else 0
theorem crewTo_lt (hs : List Int) (n : Nat) : 0 ≤ crewTo hs n ∧ crewTo hs n < ((2 ^ n : Nat) : Int) := by
  induction n with
  | zero => simp [crewTo]
  | succ n ih =>
    have h : ((2 ^ (n + 1) : Nat) : Int) = 2 * ((2 ^ n : Nat) : Int) := by rw [Nat.pow_succ]; omega
    unfold crewTo
    rw [h]
    split <;> omega
theorem pow_le64 {h : Nat} (hh : h ≤ 6) : 1 ≤ ((2 ^ h : Nat) : Int) ∧ ((2 ^ h : Nat) : Int) ≤ 64 := by
  have h1 := Nat.two_pow_pos h
  have h2 := Nat.pow_le_pow_right (n := 2) (by omega) hh
  have h3 : 2 ^ 6 = 64 := rfl
  omega
theorem crew_mem {hs : List Int} {i : Nat} (h : i < hs.length) : nth hs i ∈ hs := by simp [nth, h]
theorem crew_notmem {hs : List Int} {x : Int} (h : ∀ i, i < hs.length → nth hs i ≠ x) : x ∉ hs := by
  intro hx
  obtain ⟨i, hi, e⟩ := List.getElem_of_mem hx
  exact h i hi (by simp [nth, hi, e])

set_option maxRecDepth 100000 in
set_option maxHeartbeats 1000000 in
theorem rcrew_any {n₀ : Nat} (a : Option Addr) (cap : Nat) (hs : List Int) (hl : hs.length ≤ 100) (w : World) (hI : Ints n₀ w (.slice a hs.length cap) hs) :
    Calls Try.prog 27 #[.slice a hs.length cap] w fun e w' => e = .returned (.int .u32 (crewTo hs 6)) ∧ w.grownBy w' none := by
  have HI : Hid (∀ w' : World, w.grownBy w' none → ∀ i, i < hs.length → ∃ b off, a = some ⟨b, off, none⟩ ∧ w'.cell? ⟨b, off + i, none⟩ = some (.int .i64 (nth hs i))) := hid (fun w' g i hi => by
    rcases hI with ⟨_, _, _, h⟩ | ⟨b, off, cap', e, hb, hc⟩
    · subst h; simp at hi
    · injection e with e1 e2 e3
      refine ⟨b, off, e1, ?_⟩
      have := gr_cell g (hc i hi)
      rw [this]
      rfl)
  clear hI
  obtain ⟨n, hn⟩ : ∃ n, Hid (hs.length = n) := ⟨_, hid rfl⟩
  rw [hn.out] at hl
  rw [hn.out]
  go_enter Try.func27, Try.ntmps27
  go_wp2_with fail
  go_loopw [3, 4, 5] (fun v3 v4 v5 wr => ∃ (h : Nat) (c bt : Int), v3 = .int .u32 c ∧ v4 = .int .u32 bt ∧ v5 = .int .i64 h ∧ h ≤ 6 ∧ Hid (c = crewTo hs h) ∧ Hid (bt = ((2 ^ h : Nat) : Int)) ∧ Hid (w.grownBy wr none)) (fun _ _ v5 _ => 6 - (intOf v5).toNat)
  case atStart => exact ⟨0, 0, 1, rfl, rfl, rfl, by omega, hid rfl, hid rfl, hid (gr_refl w none)⟩
  case round =>
    obtain ⟨h, c, bt, rfl, rfl, rfl, hh, HC, HB, HG⟩ := hrel
    by_cases h6 : h < 6
    · have hp := pow_le64 (show h + 1 ≤ 6 by omega)
      have hp2 : ((2 ^ (h + 1) : Nat) : Int) = 2 * bt := by rw [HB.out, Nat.pow_succ]; omega
      have hcl := crewTo_lt hs h
      rw [← HC.out, ← HB.out] at hcl
      rw [hp2] at hp
      obtain ⟨c0, c1⟩ := hcl
      obtain ⟨p0, p1⟩ := hp
      have hw1 : IntKind.u32.wrap (c + bt) = c + bt := by rw [IntKind.wrap_u32]; omega
      have hw2 : IntKind.u32.wrap (bt * 2) = bt * 2 := by rw [IntKind.wrap_u32]; omega
      have HB2 : Hid (bt * 2 = ((2 ^ (h + 1) : Nat) : Int)) := hid (by rw [hp2]; omega)
      clear hp2
      go_wp2_with fail
      go_loopw [3, 6] (fun v3 v6 wr => ∃ i : Nat, v3 = .int .u32 c ∧ v6 = .int .i64 i ∧ i ≤ n ∧ Hid (∀ j, j < i → nth hs j ≠ (h : Int)) ∧ Hid (w.grownBy wr none)) (fun _ v6 _ => n - (intOf v6).toNat)
      case atStart => exact ⟨0, rfl, rfl, Nat.zero_le _, hid (fun j hj => absurd hj (by omega)), HG⟩
      case round =>
        clear HG
        obtain ⟨i, rfl, rfl, hi, HN, HG⟩ := hrel
        by_cases hin : i < n
        · obtain ⟨b, off, ea, hcell⟩ := HI.out _ HG.out i (by rw [hn.out]; exact hin)
          subst ea
          obtain ⟨x, hx⟩ : ∃ x, Hid (nth hs i = x) := ⟨_, hid rfl⟩
          rw [hx.out] at hcell
          by_cases hxe : x = (h : Int)
          · have HC2 : Hid (c + bt = crewTo hs (h + 1)) := hid (by
              have hm : (h : Int) ∈ hs := by rw [← hxe, ← hx.out]; exact crew_mem (by rw [hn.out]; exact hin)
              unfold crewTo
              rw [if_pos hm, ← HC.out, ← HB.out])
            have hxb : (x == (h : Int)) = true := by simp [hxe]
            go_wp2_with fail
            go_roundw
            case rel => exact ⟨h + 1, c + bt, bt * 2, rfl, rfl, by go_num, by omega, HC2, HB2, HG⟩
            case measure => simp [intOf]; omega
          · have hxb : (x == (h : Int)) = false := by simp [hxe]
            have HN2 : Hid (∀ j, j < i + 1 → nth hs j ≠ (h : Int)) := hid (fun j hj => by
              rcases (by omega : j < i ∨ j = i) with hj | rfl
              · exact HN.out j hj
              · rw [hx.out]; exact hxe)
            go_wp2_with fail
            go_roundw
            case rel => exact ⟨i + 1, rfl, by go_num, by omega, HN2, HG⟩
            case measure => simp [intOf]; omega
        · have HC2 : Hid (c = crewTo hs (h + 1)) := hid (by
            have hm : (h : Int) ∉ hs := crew_notmem fun j hj => HN.out j (by rw [hn.out] at hj; omega)
            unfold crewTo
            rw [if_neg hm, ← HC.out]
            omega)
          go_wp2_with fail
          go_roundw
          case rel => exact ⟨h + 1, c, bt * 2, rfl, rfl, by go_num, by omega, HC2, HB2, HG⟩
          case measure => simp [intOf]; omega
    · obtain rfl : h = 6 := by omega
      go_wp2_with fail
      go_ret
      exact ⟨by rw [← HC.out]; rfl, HG.out⟩
end Go.Proofs.Ytagoiidpcfjebaa
