/- tocsinref03.Spread; tocsinlaw03.MeanReadings, walked. -/
import Derived.Test.YtlcjjbahbfcmoaaRefMean
import Derived.Test.YtlcjjbahbfcmoaaSortPlain
import Derived.Test.YtlcjjbahbfcmoaaFixed03
namespace Go.Proofs.Ytlcjjbahbfcmoaa
open Go.RowKit Go.Shelf Go.Sort Go.Lib

theorem spread_wrap {x y : Int} (hx : -9223372036854775808 ≤ x ∧ x ≤ 9223372036854775807) (hy : -9223372036854775808 ≤ y ∧ y ≤ 9223372036854775807) (h : y ≤ x) : IntKind.u64.wrap (IntKind.u64.wrap x - IntKind.u64.wrap y) = x - y := by
  simp only [IntKind.wrap_u64]
  omega

set_option maxRecDepth 100000 in
set_option maxHeartbeats 1000000 in
theorem rspread_any (a : Option Addr) (len cap : Nat) (zs : List Int) (hcap : len ≤ cap) (hreach : zs.length * 8 ≤ 140737488355328) (h64 : In64 zs) (w : World) (hI : Ints w.heap.size w (.slice a len cap) zs) :
    Calls Try.prog 17 #[.slice a len cap] w fun e w' => e = .returned (.int .u64 (maxL zs - minL zs)) ∧ w.grownBy w' none := by
  obtain rfl := hI.slice
  have HS := hid (rsorted_any w.heap.size zs.length zs rfl hreach a cap w hcap (Nat.le_refl _) hI)
  have HN := hid h64.sort
  clear hI h64
  by_cases hz : zs = []
  · subst hz
    go_enter Try.func17, Try.ntmps17
    go_wp2_with fail
    refine HS.out.mono ?_
    rintro e w1 ⟨v, rfl, hown, hB⟩
    obtain ⟨a5, c5, rfl⟩ := own_empty hown
    have G := hid (below_gr (row := none) hB)
    clear hown hB HS
    go_wp2_with fail
    go_ret
    exact ⟨rfl, G.out⟩
  · have hn1 : 1 ≤ zs.length := by cases zs with | nil => exact absurd rfl hz | cons => simp
    have hmx := maxL_sort hn1
    have hmn := minL_sort hn1
    have hle := nth_le (sortL_sorted zs) (Nat.zero_le (zs.length - 1)) (by rw [sortL_length]; omega)
    obtain ⟨n, hn⟩ : ∃ n, Hid (zs.length = n) := ⟨_, hid rfl⟩
    have hls := hid (sortL_length zs)
    obtain ⟨S, hS⟩ : ∃ S, Hid (sortL zs = S) := ⟨_, hid rfl⟩
    rw [hS.out] at HS HN hls hmx hmn hle
    rw [hn.out] at HS hn1 hreach hls hcap hmx hle
    rw [hn.out]
    obtain ⟨x, hx⟩ : ∃ x, Hid (nth S (n - 1) = x) := ⟨_, hid rfl⟩
    obtain ⟨y, hy⟩ : ∃ y, Hid (nth S 0 = y) := ⟨_, hid rfl⟩
    have bx := HN.out.nth (n - 1)
    have by' := HN.out.nth 0
    rw [hx.out] at hmx hle bx
    rw [hy.out] at hmn hle by'
    rw [hmx, hmn]
    obtain ⟨x1, hx1⟩ : ∃ x1, IntKind.u64.wrap x = x1 := ⟨_, rfl⟩
    obtain ⟨y1, hy1⟩ : ∃ y1, IntKind.u64.wrap y = y1 := ⟨_, rfl⟩
    have hxy : IntKind.u64.wrap (x1 - y1) = x - y := by rw [← hx1, ← hy1]; exact spread_wrap bx by' hle
    clear hz hmx hmn bx by' hle
    go_enter Try.func17, Try.ntmps17
    go_wp2_with fail
    refine HS.out.mono ?_
    rintro e w1 ⟨v, rfl, hown, hB⟩
    obtain ⟨g, cp, rfl, hcp, hcells⟩ := own_cells2 hown hls.out hn1
    have G := hid (below_gr (row := none) hB)
    have c0 := hcells _ (gr_refl w1 none) 0 (by omega)
    have c1 := hcells _ (gr_refl w1 none) (n - 1) (by omega)
    rw [hx.out] at c1
    rw [hy.out] at c0
    have w1' : IntKind.i64.wrap ((n : Int) - 1) = (n : Int) - 1 := by rw [IntKind.wrap_i64]; omega
    have w2' : 0 ≤ (n : Int) - 1 := by omega
    have w3' : ((n : Int) - 1).toNat = n - 1 := by omega
    have w4' : (n : Int) - 1 < (n : Int) := by omega
    have w5' : (0 : Int) < (n : Int) := by omega
    clear hown hB HS hcells
    go_wp2_with fail
    go_quiet (fail)
    go_wp2_with fail
    go_ret
    exact ⟨rfl, gr_drewN G.out _⟩

set_option maxRecDepth 100000 in
set_option maxHeartbeats 1000000 in
theorem readings_walk (a : Option Addr) (zs : List Int) (cap : Nat) (hreach : zs.length * 8 ≤ 140737488355328) (h64 : In64 zs) (hcap : zs.length ≤ cap) {w : World} (hI : Ints w.heap.size w (.slice a zs.length cap) zs) :
    Calls Try.prog 3 #[.slice a zs.length cap] w fun e w' => e = .returned (.bool true) ∧ Below w.heap.size w w' := by
  have HI := hid hI
  have H64 := hid h64
  clear hI h64
  have later : Hid (∀ w', w.grownBy w' none → Ints w'.heap.size w' (.slice a zs.length cap) zs) := hid (fun w' g => (HI.out.below (gr_below g (Nat.le_refl _) (by simp))).mono g.size)
  obtain ⟨t, ht⟩ : ∃ t, Hid ((if zs = [] then #[Value.int .i64 0, .int .i64 5] else #[.int .i64 (tolL zs), .int .i64 0]) = t) := ⟨_, hid rfl⟩
  obtain ⟨m, hm⟩ : ∃ m, Hid ((if zs = [] then #[Value.int .i64 0, .int .i64 5] else #[.int .i64 (midL zs), .int .i64 0]) = m) := ⟨_, hid rfl⟩
  obtain ⟨x, e, ht2⟩ : ∃ x e, t = #[.int .i64 x, .int .i64 e] := by
    rw [← ht.out]; split
    · exact ⟨_, _, rfl⟩
    · exact ⟨_, _, rfl⟩
  obtain ⟨y, f, hm2⟩ : ∃ y f, m = #[.int .i64 y, .int .i64 f] := by
    rw [← hm.out]; split
    · exact ⟨_, _, rfl⟩
    · exact ⟨_, _, rfl⟩
  subst ht2
  subst hm2
  go_enter Try.func3, Try.ntmps3
  go_wp2_with fail
  refine (fixed_true _).mono ?_
  rintro e' w1 ⟨rfl, g1⟩
  have G1 := hid g1
  clear g1
  go_wp2_with fail
  refine (tolerant_any a zs.length cap zs hreach H64.out _ (later.out _ G1.out)).mono ?_
  rintro e' w2 ⟨rfl, g2⟩
  rw [ht.out]
  have G2 := hid (gr_trans G1.out g2)
  clear g2
  go_wp2_with fail
  refine (middle_any a zs.length cap zs hreach H64.out _ (later.out _ G2.out)).mono ?_
  rintro e' w3 ⟨rfl, g3⟩
  rw [hm.out]
  have G3 := hid (gr_trans G2.out g3)
  clear g3
  go_wp2_with fail
  refine (rtol_any a zs.length cap zs hcap hreach H64.out _ (later.out _ G3.out)).mono ?_
  rintro e' w4 ⟨rfl, g4⟩
  rw [ht.out]
  have G4 := hid (gr_trans G3.out g4)
  clear g4
  go_wp2_with fail
  refine (rmid_any a zs.length cap zs hcap hreach H64.out _ (later.out _ G4.out)).mono ?_
  rintro e' w5 ⟨rfl, g5⟩
  rw [hm.out]
  have G5 := hid (gr_trans G4.out g5)
  clear g5
  obtain ⟨s, hs⟩ : ∃ s, Hid (maxL zs - minL zs = s) := ⟨_, hid rfl⟩
  go_wp2_with fail
  refine (spread_any a zs.length cap zs hreach H64.out _ _ (later.out _ G5.out)).mono ?_
  rintro e' w6 ⟨rfl, rfl⟩
  rw [hs.out]
  go_wp2_with fail
  refine (rspread_any a zs.length cap zs hcap hreach H64.out _ (later.out _ G5.out)).mono ?_
  rintro e' w7 ⟨rfl, g7⟩
  rw [hs.out]
  have G7 := hid (gr_trans G5.out g7)
  clear g7
  go_wp2_with fail
  go_ret
  exact ⟨rfl, gr_below G7.out (Nat.le_refl _) (by simp)⟩
end Go.Proofs.Ytlcjjbahbfcmoaa
