/- tocsinlaw11.CompOrders, walked. -/
import Derived.Test.YtagoiidpcfjebaaCompL
import Derived.Test.YtagoiidpcfjebaaRegs
namespace Go.Proofs.Ytagoiidpcfjebaa
open Go.RowKit Go.Lib

/-- The crew behind i frames of the turned order. -/
def crewR (n r : Nat) : Nat → Nat
  | 0 => 1
  | i + 1 => crewR n r i + 2 ^ ((i + r) % n + 1)
theorem crewR_fits : ∀ n r i : Fin 6, i < n → hasB (crewR n r i) ((i.val + r.val) % n.val + 1) = false ∧ crewR n r i < 64 := of_decide_eq_true (by kernel_rfl)
theorem crewR_full : ∀ n r : Fin 6, 1 ≤ n.val → crewR n r n = 2 ^ (n.val + 1) - 1 := of_decide_eq_true (by kernel_rfl)

/-- i numbers of the turned order. -/
def rotL (hs : List Int) (r i : Nat) : List Int := (List.range i).map fun j => nth hs ((j + r) % hs.length)
theorem rotL_succ (hs : List Int) (r i : Nat) : rotL hs r (i + 1) = rotL hs r i ++ [nth hs ((i + r) % hs.length)] := by simp [rotL, List.range_succ]
theorem rotL_full (hs : List Int) (r : Nat) (h : r < hs.length) : rotL hs r hs.length = hs.drop r ++ hs.take r := by
  apply List.ext_getElem
  · simp [rotL]; omega
  · intro i h1 h2
    have hi : i < hs.length := by simpa [rotL] using h1
    simp only [rotL, List.getElem_map, List.getElem_range]
    by_cases hlt : i < hs.length - r
    · rw [List.getElem_append_left (by simpa using hlt), Nat.mod_eq_of_lt (by omega)]
      simp [nth, show r + i < hs.length from by omega, Nat.add_comm]
    · rw [List.getElem_append_right (by simpa using hlt)]
      have hm : (i + r) % hs.length = i + r - hs.length := by
        rw [Nat.mod_eq_sub_mod (by omega), Nat.mod_eq_of_lt (by omega)]
      rw [hm]
      simp only [List.length_drop, List.getElem_take]
      have e : i - (hs.length - r) = i + r - hs.length := by omega
      simp only [e]
      simp [nth, show i + r - hs.length < hs.length from by omega]
theorem rotL_perm (hs : List Int) (r : Nat) (h : r < hs.length) : (rotL hs r hs.length).Perm hs := by
  rw [rotL_full hs r h]
  have := List.perm_append_comm (l₁ := hs.drop r) (l₂ := hs.take r)
  rwa [List.take_append_drop] at this

set_option maxRecDepth 100000 in
set_option maxHeartbeats 8000000 in
theorem corders_walk (f : Int) (bf : -2147483648 ≤ f ∧ f ≤ 2147483647) (a : Option Addr) (gs : List Int) (cap : Nat) (hreach : gs.length * 1 ≤ 140737488355328) (h8 : InB gs) (hcap : gs.length ≤ cap) {w : World} (hI : Byts w.heap.size w (.slice a gs.length cap) gs) (bd : Int) (bb : 0 ≤ bd ∧ bd ≤ 255) :
    Calls Try.prog 5 #[.int .i32 f, .slice a gs.length cap, .int .u8 bd] w fun e w' => e = .returned (.bool true) ∧ Below w.heap.size w w' := by
  obtain ⟨bf0, bf1⟩ := bf
  obtain ⟨bb0, bb1⟩ := bb
  have H8 := hid h8
  have HI := hid hI
  clear h8 hI
  obtain ⟨hs, hhs⟩ : ∃ hs, Hid (gs.take 5 = hs) := ⟨_, hid rfl⟩
  have Hr : Hid (∀ x ∈ 0 :: hs, 0 ≤ x ∧ x ≤ 255) := hid (by
    intro x hx
    rcases List.mem_cons.1 hx with rfl | hx
    · omega
    · rw [← hhs.out] at hx; exact H8.out x (List.mem_of_mem_take hx))
  obtain ⟨n, hn⟩ : ∃ n, Hid (hs.length = n) := ⟨_, hid rfl⟩
  have hn5 : n ≤ 5 := by rw [← hn.out, ← hhs.out]; simp; omega
  have ht := tolL_bounds Hr.out (by simp)
  obtain ⟨t, hte⟩ : ∃ t, Hid (tolL (0 :: hs) = t) := ⟨_, hid rfl⟩
  obtain ⟨c, hce⟩ : ∃ c, Hid (2 ^ (n + 1) - 1 = c) := ⟨_, hid rfl⟩
  rw [hte.out] at ht
  obtain ⟨t0, t1⟩ := ht
  obtain ⟨p, hp⟩ : ∃ p, Hid (f + t = p) := ⟨_, hid rfl⟩
  go_enter Try.func5, Try.ntmps5
  go_wp2_with fail
  refine (fixed_true w).mono ?_
  rintro e w1 ⟨rfl, g1⟩
  have HB := hid g1
  have HI1 := hid (HI.out.on g1)
  clear g1
  go_wp2_with fail
  refine (all_any f (by omega) a gs cap hcap hreach H8.out _ HI1.out).mono ?_
  rintro e w2 ⟨v2, rfl, hown, g2⟩
  rw [hhs.out, hn.out, hte.out, hce.out, hp.out]
  rw [hhs.out, hn.out] at hown
  obtain ⟨g, capL, rfl⟩ := own_at hown (by omega)
  have Hcells : Hid (∀ j, j < n → w2.cell? ⟨g, j + 1, none⟩ = some (.int .i64 (f + nth hs j))) := hid (fun j hj => by
    rw [hown.cellAt (j + 1) (by omega)]
    simp [nth, show j < hs.length from by rw [hn.out]; exact hj])
  have HB := hid (gr_trans HB.out g2)
  obtain ⟨A, hA⟩ : ∃ A, w2.alloc (.cells #[.int .i64 p, .int .u32 (c : Int), .int .i64 3] 39) = A := ⟨_, rfl⟩
  have HA : Hid (w2.grownBy A none) := hid (hA ▸ gr_alloc (gr_refl w2 none) _)
  have D : Hid (A.heap[w2.heap.size]? = some (.cells #[.int .i64 p, .int .u32 (c : Int), .int .i64 3] 39)) := hid (hA ▸ heap_alloc_new w2 _)
  clear g2 HI1 hown
  by_cases hn0 : n = 0
  · subst hn0
    go_wp2_with fail
    go_ret
    exact ⟨rfl, gr_below (gr_trans HB.out HA.out) (Nat.le_refl _) (by simp)⟩
  obtain ⟨r, hr⟩ : ∃ r : Nat, Hid (bd.toNat % n = r) := ⟨_, hid rfl⟩
  have hrn : r < n := by rw [← hr.out]; exact Nat.mod_lt _ (by omega)
  have hn1 : ((n : Int) == 0) = false := by simp; omega
  go_wp2_with fail
  refine (comp_new_ok 1000 _ (by omega) (by omega)).mono ?_
  rintro e w3 ⟨rfl, hc, hg, hsz⟩
  obtain ⟨b, hb⟩ : ∃ b, Hid (A.heap.size = b) := ⟨_, hid rfl⟩
  rw [hb.out] at hc
  rw [hb.out]
  have HC := hid hc
  have HG := hid hg
  have Hle : Hid (A.heap.size ≤ b) := hid (Nat.le_of_eq hb.out)
  clear hc hg hsz hA
  go_wp2_with fail
  refine (from_at 0 _).mono ?_
  rintro e w4 ⟨rfl, g4⟩
  have HC := hid (HC.out.kept g4 (by simp))
  have HG := hid (gr_trans HG.out g4)
  clear g4
  go_wp2_with fail
  refine (add_open (fun _ => False) b b 1000 0 _ _ 0 f 0 3 0 0 0 rfl (by omega) _ HC.out (Nat.le_refl _) (fun _ h => h.elim) (right_host (by omega) (by omega)) (by omega) (by omega)).mono ?_
  rintro e w5 ⟨rfl, hC, hB, _⟩
  have HC5 := hid hC
  have HG5 := hid (below_some HG.out Hle.out hB)
  clear hC hB HC HG
  go_wp2_with fail
  go_loopw [50] (fun vi wr => ∃ i : Nat, vi = .int .i64 i ∧ i ≤ n ∧ Hid (Coll (fun _ => False) wr b b 1000 f (0 :: rotL hs r i) (List.replicate (i + 1) 3) (crewR n r i)) ∧ Hid (A.grownBy wr none)) (fun vi _ => n - (intOf vi).toNat)
  case atStart => exact ⟨0, rfl, Nat.zero_le _, HC5, HG5⟩
  case round =>
    obtain ⟨i, rfl, hi, HC, HG⟩ := hrel
    by_cases hlt : i < n
    · obtain ⟨k, hk⟩ : ∃ k, Hid ((i + r) % n = k) := ⟨_, hid rfl⟩
      have hkn : k < n := by rw [← hk.out]; exact Nat.mod_lt _ (by omega)
      have Hki : Hid (((i : Int) + bd) % (n : Int) = (k : Int)) := hid (by
        have h1 : ((i : Int) + bd) = ((i + bd.toNat : Nat) : Int) := by omega
        rw [h1, ← Int.natCast_emod]
        congr 1
        rw [← hk.out, ← hr.out, Nat.add_mod_mod])
      have hx0 := gr_cell (gr_trans HA.out HG.out) (Hcells.out k hkn)
      have hxb := Hr.out _ (List.mem_cons_of_mem 0 (nth_mem (l := hs) (i := k) (by rw [hn.out]; exact hkn)))
      have hstep := crewR_fits ⟨n, by omega⟩ ⟨r, by omega⟩ ⟨i, by omega⟩ (by simpa using hlt)
      simp only [hk.out] at hstep
      obtain ⟨hno, hcm⟩ := hstep
      have Hno := hid hno
      have Hcm := hid hcm
      have Hrs : Hid (rotL hs r (i + 1) = rotL hs r i ++ [nth hs k]) := hid (by rw [rotL_succ, hn.out, hk.out])
      have Hcs : Hid (crewR n r (i + 1) = crewR n r i + 2 ^ (k + 1)) := hid (by simp only [crewR, hk.out])
      obtain ⟨x, hxe⟩ : ∃ x, Hid (nth hs k = x) := ⟨_, hid rfl⟩
      rw [hxe.out] at hx0 hxb Hrs
      obtain ⟨x0, x1⟩ := hxb
      have Hlen : Hid ((0 :: rotL hs r i).length ≤ 100 ∧ (List.replicate (i + 1) (3 : Int)).length ≤ 100) := hid (by simp [rotL]; omega)
      clear hno hcm
      go_wp2_with fail
      rw [Hki.out]
      have x2 : IntKind.i64.wrap ((k : Int) + 1) = (k : Int) + 1 := by rw [IntKind.wrap_i64]; omega
      have x3 : 0 ≤ (k : Int) + 1 := by omega
      have x4 : ((k : Int) + 1).toNat = k + 1 := by omega
      have x5 : (k : Int) + 1 < (n : Int) + 1 := by omega
      have x6 : (k : Int) < (n : Int) := by omega
      have HX0 := hid hx0
      go_region_law (first
        | (refine step_call rfl (f := 19) (xs := #[.int .i64 ((k : Int) + 1)]) (by go_simp) (Calls.mono (from_at _ _) ?_); rintro e w6 ⟨rfl, g6⟩; refine ⟨_, rfl, ?_⟩; have G6 : Hid (wr.grownBy w6 none) := hid (gr_trans (gr_drew (gr_refl wr none)) g6); have hx6 := gr_cell G6.out HX0.out; have HC6 := hid (HC.out.grown G6.out); have HG6 := hid (gr_trans HG.out G6.out); clear g6)
        | (refine step_call rfl (f := 11) (xs := #[.pointer (some ⟨b, 0, none⟩), .int .i64 (f + x), ctl 1 ((k : Int) + 1) 3 0 0]) (by go_simp) (Calls.mono (add_more (fun _ => False) b b 1000 f _ _ _ (f + x) _ 3 0 0 (k + 1) (by omega) (by omega) _ HC6.out Hcm.out (right_host (by omega) (by omega)) (by omega) (by omega) (by omega) (by omega) Hno.out Hlen.out) ?_); rintro e w7 ⟨rfl, hC, hB, hnone⟩; refine ⟨_, rfl, ?_⟩; have HC7 := hid hC; have HG7 := hid (below_some HG6.out Hle.out hB); clear hC hB hnone))
      all_goals
        have HC8 : Hid (Coll (fun _ => False) w7 b b 1000 f (0 :: rotL hs r (i + 1)) (List.replicate (i + 1 + 1) 3) (crewR n r (i + 1))) := hid (by
          have hC := HC7.out
          have e1 : f + x - f = x := by omega
          rw [e1] at hC
          rw [Hrs.out, Hcs.out, List.replicate_succ' (n := i + 1)]
          exact hC)
        clear HC7 HC6 HG6 HC HG hx0 hx6 HX0 Hno Hcm Hlen x2 x3 x4 x5 x6
        go_wp2_with fail
        go_roundw
        case rel => first
          | exact ⟨i + 1, by go_num, by omega, HC8, HG7⟩
          | ((repeat apply Exists.intro); exact ⟨⟨i + 1, by go_num, by omega, HC8, HG7⟩, rfl⟩)
        case measure => simp [intOf]; omega
    · obtain rfl : i = n := by omega
      have Hfull : Hid (crewR i r i = c) := hid (by rw [← hce.out]; exact crewR_full ⟨i, by omega⟩ ⟨r, by omega⟩ (by simp; omega))
      have Hpm : Hid ((0 :: rotL hs r i).Perm (0 :: hs)) := hid (by have := rotL_perm hs r (by rw [hn.out]; exact hrn); rw [hn.out] at this; exact this.cons 0)
      have Htl : Hid (tolL (0 :: rotL hs r i) = t) := hid (by rw [tolL_perm Hpm.out, hte.out])
      have Hne : Hid ((0 :: rotL hs r i) ≠ [] ∧ List.replicate (i + 1) (3 : Int) ≠ [] ∧ (0 :: rotL hs r i).length ≤ 100 ∧ (List.replicate (i + 1) (3 : Int)).length ≤ 100) := hid (by simp [rotL]; omega)
      have Hrr : Hid (∀ x ∈ 0 :: rotL hs r i, 0 ≤ x ∧ x ≤ 1048576) := hid (by
        intro x hx
        have := Hr.out x (Hpm.out.mem_iff.1 hx)
        omega)
      have Hmr := hid (most_rep i)
      have HC' := HC.out
      rw [Hfull.out] at HC'
      have HC9 := hid HC'
      clear HC' HC
      go_wp2_with fail
      refine (close_ok b b 1000 f _ _ _ (f + 1000) _ HC9.out (by omega) (by omega) (by omega) Hne.out.1 Hne.out.2.1 Hne.out.2.2 Hrr.out).mono ?_
      rintro e w8 ⟨rfl, _, hg8⟩
      rw [Htl.out, Hmr.out, hp.out]
      have HG9 : Hid (A.grownBy w8 none) := hid (gr_own HG.out hg8 Hle.out)
      have D9 := gr_heap HG9.out D.out (by simp)
      have D10 := gr_heap (gr_alloc (gr_refl w8 none) (.cells #[.int .i64 p, .int .u32 (c : Int), .int .i64 3] 39)) D9 (by simp)
      have y0 := cell_of D10 0 (.int .i64 p) rfl
      have y1 := cell_of D10 1 (.int .u32 (c : Int)) rfl
      have y2 := cell_of D10 2 (.int .i64 3) rfl
      clear hg8 D9 D10 HC9
      go_wp2_with fail
      go_ret
      exact ⟨rfl, gr_below (gr_trans (gr_trans HB.out HA.out) (gr_alloc HG9.out _)) (Nat.le_refl _) (by simp)⟩
end Go.Proofs.Ytagoiidpcfjebaa
