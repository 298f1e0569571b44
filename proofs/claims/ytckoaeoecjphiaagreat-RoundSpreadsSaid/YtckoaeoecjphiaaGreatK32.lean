/- Lemmas: tocsinref03.Tolerant, Middle. -/
import Derived.Test.YtckoaeoecjphiaaGreatK31

/- tocsinref03.Tolerant, Middle. -/
namespace Go.Proofs.YtckoaeoecjphiaaGreat
open Go.RowKit Go.Shelf Go.Sort Go.Lib

theorem rhalf_of {w : World} {a b r : Int} (ha : -9223372036854775808 ≤ a ∧ a ≤ 9223372036854775807) (hb : -9223372036854775808 ≤ b ∧ b ≤ 9223372036854775807) (hr : (a + b) / 2 = r) :
    Calls Tryz.prog 161 #[.int .i64 a, .int .i64 b] w fun e w' => e = .returned (.int .i64 r) ∧ w.grownBy w' none := by
  subst hr
  exact rhalf_any ha hb
theorem own_cells2 {w : World} {base e n : Nat} {v : Value} {A : List Int} (h : w.ownsRow base e 1 v n (A.map (Value.int .i64))) (hl : A.length = n) (hpos : 1 ≤ n) :
    ∃ g cap, v = .slice (some ⟨g, 0, none⟩) n cap ∧ n ≤ cap ∧ ∀ w', w.grownBy w' none → ∀ j, j < n → w'.cell? ⟨g, j, none⟩ = some (.int .i64 (nth A j)) := by
  rcases h.2 with ⟨rfl, h0⟩ | ⟨g, cap, cur, rfl, _, hh, hn, hrest⟩
  · omega
  · refine ⟨g, cap, rfl, hn, fun w' g' j hj => ?_⟩
    refine gr_cell g' ?_
    rw [h.cellAt j (by omega)]
    have : j < A.length := by omega
    simp [nth, this]
theorem own_empty {w : World} {base e : Nat} {v : Value} {xs : List Value} (h : w.ownsRow base e 1 v 0 xs) : ∃ a c, v = .slice a 0 c := by
  rcases h.2 with ⟨rfl, _⟩ | ⟨g, cap', cur, rfl, _⟩
  · exact ⟨_, _, rfl⟩
  · exact ⟨_, _, rfl⟩

set_option maxRecDepth 100000 in
set_option maxHeartbeats 1000000 in
theorem rtol_any (a : Option Addr) (len cap : Nat) (zs : List Int) (hcap : len ≤ cap) (hreach : zs.length * 8 ≤ 140737488355328) (h64 : In64 zs) (w : World) (hI : Ints w.heap.size w (.slice a len cap) zs) :
    Calls Tryz.prog 139 #[.slice a len cap] w fun e w' => e = .returned (.tuple (if zs = [] then #[.int .i64 0, .int .i64 5] else #[.int .i64 (tolL zs), .int .i64 0])) ∧ w.grownBy w' none := by
  obtain rfl := hI.slice
  have HS := hid (rsorted_any w.heap.size zs.length zs rfl hreach a cap w hcap (Nat.le_refl _) hI)
  have HN := hid h64.sort
  clear hI h64
  by_cases hz : zs = []
  · rw [if_pos hz]
    subst hz
    go_enter Tryz.func139, Tryz.ntmps139
    go_wp2_with fail
    refine HS.out.mono ?_
    rintro e w1 ⟨v, rfl, hown, hB⟩
    obtain ⟨a5, c5, rfl⟩ := own_empty hown
    have G := hid (below_gr (row := none) hB)
    clear hown hB HS
    go_wp2_with fail
    go_ret2
    exact ⟨rfl, G.out⟩
  · rw [if_neg hz]
    have hn1 : 1 ≤ zs.length := by cases zs with | nil => exact absurd rfl hz | cons => simp
    obtain ⟨n, hn⟩ : ∃ n, Hid (zs.length = n) := ⟨_, hid rfl⟩
    obtain ⟨r, hr⟩ : ∃ r, Hid (tolL zs = r) := ⟨_, hid rfl⟩
    have hls := hid (sortL_length zs)
    obtain ⟨S, hS⟩ : ∃ S, Hid (sortL zs = S) := ⟨_, hid rfl⟩
    rw [hS.out] at HS HN hls
    have hT := hr.out
    unfold tolL at hT
    rw [hS.out, hn.out] at hT
    rw [hr.out]
    rw [hn.out] at HS hn1 hreach hls hcap
    rw [hn.out]
    clear hz
    have HT := hid hT
    clear hT
    go_enter Tryz.func139, Tryz.ntmps139
    go_wp2_with fail
    refine HS.out.mono ?_
    rintro e w1 ⟨v, rfl, hown, hB⟩
    obtain ⟨g, cp, rfl, hcp, hcells⟩ := own_cells2 hown hls.out hn1
    have G := hid (below_gr (row := none) hB)
    have HC := hid hcells
    clear hown hB HS hcells
    by_cases e1 : n = 1
    · subst e1
      have c0 := HC.out _ (gr_refl w1 none) 0 (by omega)
      have HV : Hid ((nth S 0 + nth S 0) / 2 = r) := hid (by have := HT.out; rw [if_pos rfl] at this; omega)
      go_wp2_with fail
      go_region_with (go_at_call 161; refine (rhalf_of (HN.out.nth 0) (HN.out.nth 0) HV.out).mono ?_; rintro e w2 ⟨rfl, g2⟩; have G2 := hid (gr_trans G.out (gr_trans (gr_drew (gr_refl w1 none)) g2)); clear g2)
      all_goals (
        go_wp2_with fail
        go_ret2
        exact ⟨rfl, G2.out⟩)
    by_cases e2 : n = 2
    · subst e2
      have c0 := HC.out _ (gr_refl w1 none) 0 (by omega)
      have c1 := HC.out _ (gr_refl w1 none) 1 (by omega)
      have HV : Hid ((nth S 0 + nth S 1) / 2 = r) := hid (by have := HT.out; rw [if_neg (by omega), if_pos rfl] at this; exact this)
      go_wp2_with fail
      go_region_with (go_at_call 161; refine (rhalf_of (HN.out.nth 0) (HN.out.nth 1) HV.out).mono ?_; rintro e w2 ⟨rfl, g2⟩; have G2 := hid (gr_trans G.out (gr_trans (gr_drew (gr_refl w1 none)) g2)); clear g2)
      all_goals (
        go_wp2_with fail
        go_ret2
        exact ⟨rfl, G2.out⟩)
    · have hn3 : 3 ≤ n := by omega
      have hcp1 : ¬ cp = 1 := by omega
      have hcpI : (n : Int) - 1 ≤ (cp : Int) := by omega
      have w1' : IntKind.i64.wrap ((n : Int) - 1) = (n : Int) - 1 := by rw [IntKind.wrap_i64]; omega
      have w3' : ((n : Int) - 1).toNat = n - 1 := by omega
      go_wp2_with fail
      clear w1' w3' hcp1 hcpI
      obtain ⟨k, hk⟩ : ∃ k, n - 1 - 1 = k := ⟨_, rfl⟩
      rw [hk]
      have c0 := HC.out _ (gr_refl w1 none) 1 (by omega)
      have c1 := HC.out _ (gr_refl w1 none) (1 + (k - 1)) (by omega)
      have HV : Hid ((nth S 1 + nth S (1 + (k - 1))) / 2 = r) := hid (by
        have h9 := HT.out
        rw [if_neg e1, if_neg e2] at h9
        rw [show 1 + (k - 1) = n - 2 by omega]
        exact h9)
      have f1 : IntKind.i64.wrap ((k : Int) - 1) = (k : Int) - 1 := by rw [IntKind.wrap_i64]; omega
      have f2 : 0 ≤ (k : Int) - 1 := by omega
      have f3 : ((k : Int) - 1).toNat = k - 1 := by omega
      have f4 : (k : Int) - 1 < (k : Int) := by omega
      have f5 : (0 : Int) < (k : Int) := by omega
      go_region_with (go_at_call 161; refine (rhalf_of (HN.out.nth 1) (HN.out.nth (1 + (k - 1))) HV.out).mono ?_; rintro e w2 ⟨rfl, g2⟩; have G2 := hid (gr_trans G.out (gr_trans (gr_drew (gr_refl w1 none)) g2)); clear g2)
      all_goals (
        go_wp2_with fail
        go_ret2
        exact ⟨rfl, G2.out⟩)

end Go.Proofs.YtckoaeoecjphiaaGreat
