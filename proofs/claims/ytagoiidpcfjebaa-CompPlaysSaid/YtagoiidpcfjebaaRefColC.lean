/- tocsinref11.Add: a host that is there; a frame laid in. -/
import Derived.Test.YtagoiidpcfjebaaRefColB
namespace Go.Proofs.Ytagoiidpcfjebaa
open Go.RowKit Go.Lib

theorem Try.info_came : (Try.prog.info? 43).map (fun i => (i.zero, i.size, i.bytes)) = some (some (.agg #[.int .i64 0, .int .i64 0, .int .i64 0, .int .i64 0, .int .u32 0, .int .i64 0]), 6, 48) := by kernel_rfl
theorem cith_snoc0 {ls : List CI} (x : CI) (h : 0 < ls.length) : cith (ls ++ [x]) 0 = cith ls 0 := by
  unfold cith
  rw [List.getElem?_append_left h]
theorem own_snocK {w : World} {base n : Nat} {v : Value} {ls : List CI} {x : CI} (hl : ls.length = n) (h : w.ownsRow base 43 6 v (n + 1) (flatK ls ++ cC x)) : KR w base v (ls ++ [x]) := by
  unfold KR
  rw [flatK_snoc, List.length_append, hl]
  exact h
theorem KR.grown {W W' : World} {base : Nat} {v : Value} {ls : List CI} (h : KR W base v ls) (g : W.grownBy W' none) : KR W' base v ls := h.kept g (Classical.em _)
theorem form_snocK {w : World} {base n : Nat} {v : Value} {ls : List CI} {x : CI} (h : w.ownsRow base 43 6 v (n + 1) (flatK ls ++ cC x)) : ∃ g cap, v = .slice (some ⟨g, 0, none⟩) (n + 1) cap := own_slice h

theorem kcells_new (w : World) (l : List Value) (t : TypeId) : ∀ j u, l[j]? = some u → (w.alloc (.cells l.toArray t)).cell? ((⟨w.heap.size, 0, none⟩ : Addr).add j) = some u := by
  intro j u hj
  have e : (⟨w.heap.size, 0, none⟩ : Addr).add j = ⟨w.heap.size, j, none⟩ := by
    simp only [Addr.add]
    split
    · rename_i h; rw [h]
    · simp
  rw [e, World.cell?_alloc_new]
  simpa using hj
/-- A frame has been laid into the row v. -/
def LaidK (w w' : World) (base : Nat) (v v2 : Value) (ls : List CI) : Prop := KR w' base v2 ls ∧ ∃ w4 o, w.grownBy w4 none ∧ (w4.alloc o).grownBy w' v.ownBlock ∧ (v2.ownBlock = v.ownBlock ∨ v2.ownBlock = some (w4.alloc o).heap.size)
set_option maxRecDepth 100000 in
set_option maxHeartbeats 1000000 in
theorem radd_there (base : Nat) (v : Value) (ls : List CI) (win l cy cr cl first : Int) (h : Nat) (w : World) (hk : KR w base v ls) (h1 : 0 < ls.length) (hfirst : (cith ls 0).l = first) (hl : -1125899906842624 ≤ l ∧ l ≤ 1125899906842624) (hf : -1125899906842624 ≤ first ∧ first ≤ 1125899906842624) (hr : rightB 1 (h : Int) cy cr cl = true) (hh : h < 6) (hin : first ≤ l ∧ l ≤ first + win) (hw : 0 ≤ win ∧ win ≤ 1048576) (hyes : ∃ j, j < ls.length ∧ (cith ls j).h = h) (hlen : ls.length ≤ 100) :
    Calls Try.prog 12 #[v, .int .i64 win, .int .i64 l, .agg #[.int .i64 1, .int .i64 (h : Int), .int .i64 cy, .int .u32 cr, .int .i64 cl]] w fun e w' =>
      e = .returned (.tuple #[v, .int .i64 0, .int .i64 7]) ∧ w.grownBy w' none := by
  have HY := hid hyes
  clear hyes
  obtain ⟨g, cap, rfl, hcap, ⟨hg0, hg1⟩, hcell⟩ := hk.cells h1
  obtain ⟨n, hn⟩ : ∃ n, Hid (ls.length = n) := ⟨_, hid rfl⟩
  rw [hn.out] at h1 hcap hlen
  rw [hn.out]
  have HR := hid (rright_any 1 (h : Int) cy cr cl)
  rw [hr] at HR
  obtain ⟨l0, l1⟩ := hl
  obtain ⟨f0, f1⟩ := hf
  obtain ⟨w0, w1'⟩ := hw
  obtain ⟨i1', i2'⟩ := hin
  have hw1 : IntKind.i64.wrap (l - first) = l - first := by rw [IntKind.wrap_i64]; omega
  have hf5 : ¬ 5 < (h : Int) := by omega
  have ho1 : ¬ l < first := by omega
  have ho2 : ¬ win < l - first := by omega
  have HC := hid (fun W' (e : W'.heap[g]? = w.heap[g]?) => (hcell W' e 0 (by rw [hn.out]; exact h1)).1)
  rw [hfirst] at HC
  have HH := hid (fun W' (e : W'.heap[g]? = w.heap[g]?) i (hi : i < n) => (hcell W' e i (by rw [hn.out]; exact hi)).2.2.1)
  clear hcell hk hr
  have hn0 : (0 : Int) < (n : Int) := by omega
  go_enter Try.func12, Try.ntmps12
  go_wp2_with fail
  refine (HR.out _).mono ?_
  rintro e w1 ⟨rfl, g1⟩
  have B1 := hid (gr_heap g1 (heap_alloc_new w (.cells #[.int .i64 1, .int .i64 (h : Int), .int .i64 cy, .int .u32 cr, .int .i64 cl] 31)) (by simp))
  have b0 := kcell B1.out 0 (.int .i64 1) rfl
  have b1 := kcell B1.out 1 (.int .i64 (h : Int)) rfl
  have G1 := hid (bx_gr g1)
  have c0 := HC.out w1 (G1.out.block g hg1 (by simp))
  rw [Nat.zero_mul] at c0
  clear g1
  go_wp2_with fail
  clear b0 b1 c0 hw1 ho1 ho2
  go_loopw [11] (fun vi wr => ∃ i : Nat, vi = .int .i64 i ∧ i ≤ n ∧ Hid (∀ j, j < i → (cith ls j).h ≠ h) ∧ Hid (w1.grownBy wr none)) (fun vi _ => n - (intOf vi).toNat)
  case atStart => exact ⟨0, rfl, Nat.zero_le _, hid (fun j hj => absurd hj (by omega)), hid (gr_refl w1 none)⟩
  case round =>
    obtain ⟨i, rfl, hi, HN, HG⟩ := hrel
    by_cases hin : i < n
    · have b1 := kcell (gr_heap HG.out B1.out (by simp)) 1 (.int .i64 (h : Int)) rfl
      have q2 := HH.out wr ((gr_trans G1.out HG.out).block g hg1 (by simp)) i hin
      obtain ⟨x, hx⟩ : ∃ x, Hid ((cith ls i).h = x) := ⟨_, hid rfl⟩
      rw [hx.out] at q2
      have f2 : (i : Int) < (n : Int) := by omega
      have f3 : ((i : Int)).toNat = i := by omega
      by_cases hxe : x = h
      · subst hxe
        have hxb : ((x : Int) == (x : Int)) = true := by simp
        go_wp2_with fail
        go_quiet (fail)
        go_wp2_with fail
        exact bodyPost_ret (v := .tuple #[.slice (some ⟨g, 0, none⟩) n cap, .int .i64 0, .int .i64 7]) (by simp [results, Try.results12, go_sem]) rfl ⟨rfl, gr_trans G1.out (gr_drewN HG.out _)⟩
      · have hxb : ((x : Int) == (h : Int)) = false := by simp; omega
        have HN2 : Hid (∀ j, j < i + 1 → (cith ls j).h ≠ h) := hid (fun j hj => by
          rcases (by omega : j < i ∨ j = i) with hj | rfl
          · exact HN.out j hj
          · rw [hx.out]; exact hxe)
        go_wp2_with fail
        go_quiet (fail)
        go_wp2_with fail
        go_roundw
        case rel => exact ⟨i + 1, by go_num, by omega, HN2, hid (gr_drewN HG.out _)⟩
        case measure => simp [intOf]; omega
    · obtain rfl : i = n := by omega
      exfalso
      obtain ⟨j, hj, e⟩ := HY.out
      exact HN.out j (by rw [hn.out] at hj; exact hj) e

set_option maxRecDepth 100000 in
set_option maxHeartbeats 1000000 in
theorem radd_more (base : Nat) (v : Value) (ls : List CI) (win l cy cr cl first : Int) (h : Nat) (w : World) (hk : KR w base v ls) (h1 : 0 < ls.length) (hfirst : (cith ls 0).l = first) (hl : -1125899906842624 ≤ l ∧ l ≤ 1125899906842624) (hf : -1125899906842624 ≤ first ∧ first ≤ 1125899906842624) (hr : rightB 1 (h : Int) cy cr cl = true) (hh : h < 6) (hin : first ≤ l ∧ l ≤ first + win) (hw : 0 ≤ win ∧ win ≤ 1048576) (hno : ∀ j, j < ls.length → (cith ls j).h ≠ h) (hlen : ls.length ≤ 100) (hbase : base ≤ w.heap.size) :
    Calls Try.prog 12 #[v, .int .i64 win, .int .i64 l, .agg #[.int .i64 1, .int .i64 (h : Int), .int .i64 cy, .int .u32 cr, .int .i64 cl]] w fun e w' => ∃ v2, e = .returned (.tuple #[v2, .int .i64 (first + win), .int .i64 0]) ∧ LaidK w w' base v v2 (ls ++ [⟨l, h, cy, cr, cl⟩]) := by
  obtain ⟨i0, hi0, hz0, hz1, hz2⟩ := info_parts Try.info_came
  obtain ⟨g, cap, rfl, hcap, ⟨hg0, hg1⟩, hcell⟩ := hk.cells h1
  obtain ⟨n, hn⟩ : ∃ n, Hid (ls.length = n) := ⟨_, hid rfl⟩
  rw [hn.out] at h1 hcap hlen
  have HK := hid hk
  rw [hn.out]
  have HR := hid (rright_any 1 (h : Int) cy cr cl)
  rw [hr] at HR
  obtain ⟨l0, l1⟩ := hl
  obtain ⟨f0, f1⟩ := hf
  obtain ⟨w0, w1'⟩ := hw
  obtain ⟨i1', i2'⟩ := hin
  have hw1 : IntKind.i64.wrap (l - first) = l - first := by rw [IntKind.wrap_i64]; omega
  have hf5 : ¬ 5 < (h : Int) := by omega
  have ho1 : ¬ l < first := by omega
  have ho2 : ¬ win < l - first := by omega
  have HC := hid (fun W' (e : W'.heap[g]? = w.heap[g]?) => (hcell W' e 0 (by rw [hn.out]; exact h1)).1)
  rw [hfirst] at HC
  have HH := hid (fun W' (e : W'.heap[g]? = w.heap[g]?) i (hi : i < n) => (hcell W' e i (by rw [hn.out]; exact hi)).2.2.1)
  clear hcell hk hr
  have hn0 : (0 : Int) < (n : Int) := by omega
  go_enter Try.func12, Try.ntmps12
  go_wp2_with fail
  refine (HR.out _).mono ?_
  rintro e w1 ⟨rfl, g1⟩
  have B1 := hid (gr_heap g1 (heap_alloc_new w (.cells #[.int .i64 1, .int .i64 (h : Int), .int .i64 cy, .int .u32 cr, .int .i64 cl] 31)) (by simp))
  have b0 := kcell B1.out 0 (.int .i64 1) rfl
  have b1 := kcell B1.out 1 (.int .i64 (h : Int)) rfl
  have G1 := hid (bx_gr g1)
  have c0 := HC.out w1 (G1.out.block g hg1 (by simp))
  rw [Nat.zero_mul] at c0
  clear g1
  go_wp2_with fail
  clear b0 b1 c0 hw1 ho1 ho2
  go_loopw [11] (fun vi wr => ∃ i : Nat, vi = .int .i64 i ∧ i ≤ n ∧ Hid (∀ j, j < i → (cith ls j).h ≠ h) ∧ Hid (w1.grownBy wr none)) (fun vi _ => n - (intOf vi).toNat)
  case atStart => exact ⟨0, rfl, Nat.zero_le _, hid (fun j hj => absurd hj (by omega)), hid (gr_refl w1 none)⟩
  case round =>
    obtain ⟨i, rfl, hi, HN, HG⟩ := hrel
    by_cases hin : i < n
    · have b1 := kcell (gr_heap HG.out B1.out (by simp)) 1 (.int .i64 (h : Int)) rfl
      have q2 := HH.out wr ((gr_trans G1.out HG.out).block g hg1 (by simp)) i hin
      obtain ⟨x, hx⟩ : ∃ x, Hid ((cith ls i).h = x) := ⟨_, hid rfl⟩
      rw [hx.out] at q2
      have f2 : (i : Int) < (n : Int) := by omega
      have f3 : ((i : Int)).toNat = i := by omega
      by_cases hxe : x = h
      · exact absurd (hx.out.trans hxe) (hno i (by rw [hn.out]; exact hin))
      · have hxb : ((x : Int) == (h : Int)) = false := by simp; omega
        have HN2 : Hid (∀ j, j < i + 1 → (cith ls j).h ≠ h) := hid (fun j hj => by
          rcases (by omega : j < i ∨ j = i) with hj | rfl
          · exact HN.out j hj
          · rw [hx.out]; exact hxe)
        go_wp2_with fail
        go_quiet (fail)
        go_wp2_with fail
        go_roundw
        case rel => exact ⟨i + 1, by go_num, by omega, HN2, hid (gr_drewN HG.out _)⟩
        case measure => simp [intOf]; omega
    · obtain rfl : i = n := by omega
      have HKw := hid (show KR wr base (.slice (some ⟨g, 0, none⟩) i cap) ls from (by have h9 := HK.out.grown (gr_trans G1.out HG.out); rw [hn.out] at h9; exact h9))
      have hlk := hn.out
      have HKn := hid (show wr.ownsRow base 43 6 (.slice (some ⟨g, 0, none⟩) i cap) i (flatK ls) by have h9 := HKw.out; unfold KR at h9; rw [hlk] at h9; exact h9)
      have HB : Hid (base ≤ wr.heap.size) := hid (Nat.le_trans hbase ((gr_trans G1.out HG.out)).size)
      have b0 := kcell (gr_heap HG.out B1.out (by simp)) 0 (.int .i64 1) rfl
      have b1 := kcell (gr_heap HG.out B1.out (by simp)) 1 (.int .i64 (h : Int)) rfl
      have b2 := kcell (gr_heap HG.out B1.out (by simp)) 2 (.int .i64 cy) rfl
      have b3 := kcell (gr_heap HG.out B1.out (by simp)) 3 (.int .u32 cr) rfl
      have b4 := kcell (gr_heap HG.out B1.out (by simp)) 4 (.int .i64 cl) rfl
      go_wp2_with (at_builtin; go_loud (refine wpList_append_own_at _ rfl (.tmp 72) (.tmp 76) 28 rfl base 43 i0 (.agg #[.int .i64 0, .int .i64 0, .int .i64 0, .int .i64 0, .int .u32 0, .int .i64 0]) 6 48 Try.underlying28 hi0 hz0 hz1 hz2 rfl (by decide) _ _ _ rfl (HKn.out.alloc _) ⟨wr.heap.size, 0, none⟩ 1 1 [.int .i64 l, .int .i64 1, .int .i64 (h : Int), .int .i64 cy, .int .u32 cr, .int .i64 cl] rfl rfl (kcells_new _ _ _) (by simp [Value.oneCell']) (by unfold maxLen; omega) (by omega) (by have := HB.out; simp; omega) ?_; intro v4 w4 hown4 hg4 _ hat4; have Hat := hid hat4; have Hg4 := hid hg4; have HK4 := hid (own_snocK (x := ⟨l, h, cy, cr, cl⟩) hlk hown4); obtain ⟨g4, cap4, rfl⟩ := form_snocK (ls := ls) (x := ⟨l, h, cy, cr, cl⟩) hown4; clear hown4 hg4 hat4 b0 b1 b2 b3 b4))
      obtain ⟨g5, cap5, e5, -, -, hc5⟩ := HK4.out.cells (by simp)
      injection e5 with e51 e52 e53
      injection e51 with e54
      injection e54 with e55 e56
      subst e55
      have q0 := (hc5 w4 rfl 0 (by simp)).1
      rw [Nat.zero_mul, cith_snoc0 _ (by rw [hn.out]; exact h1), hfirst] at q0
      clear hc5 e52 e53 e56
      have hwf : IntKind.i64.wrap (first + win) = first + win := by rw [IntKind.wrap_i64]; omega
      have hp0 : (0 : Int) < (i : Int) + 1 := by omega
      go_upto_region 11 with fail
      go_quiet (fail)
      go_wp2_with fail
      exact bodyPost_ret (v := .tuple #[.slice (some ⟨g4, 0, none⟩) (i + 1) cap4, .int .i64 (first + win), .int .i64 0]) (by simp [results, Try.results12, go_sem]) rfl ⟨_, rfl, HK4.out.grown (gr_drewN (gr_refl w4 none) _), _, _, (gr_trans G1.out HG.out), gr_drewN Hg4.out _, Hat.out⟩

set_option maxRecDepth 100000 in
set_option maxHeartbeats 1000000 in
theorem radd_first (base : Nat) (v : Value) (win l cy cr cl : Int) (h : Nat) (w : World) (hk : KR w base v []) (hl : -1125899906842624 ≤ l ∧ l ≤ 1125899906842624) (hr : rightB 1 (h : Int) cy cr cl = true) (hh : h < 6) (hw : 0 ≤ win ∧ win ≤ 1048576) (hbase : base ≤ w.heap.size) :
    Calls Try.prog 12 #[v, .int .i64 win, .int .i64 l, .agg #[.int .i64 1, .int .i64 (h : Int), .int .i64 cy, .int .u32 cr, .int .i64 cl]] w fun e w' => ∃ v2, e = .returned (.tuple #[v2, .int .i64 (l + win), .int .i64 0]) ∧ LaidK w w' base v v2 ([] ++ [⟨l, h, cy, cr, cl⟩]) := by
  obtain ⟨i0, hi0, hz0, hz1, hz2⟩ := info_parts Try.info_came
  obtain ⟨a9, c9, rfl⟩ := hk.slice
  have HK := hid hk
  have HR := hid (rright_any 1 (h : Int) cy cr cl)
  rw [hr] at HR
  obtain ⟨l0, l1⟩ := hl
  obtain ⟨w0, w1'⟩ := hw
  have hf5 : ¬ 5 < (h : Int) := by omega
  clear hk hr
  go_enter Try.func12, Try.ntmps12
  go_wp2_with fail
  refine (HR.out _).mono ?_
  rintro e w1 ⟨rfl, g1⟩
  have B1 := hid (gr_heap g1 (heap_alloc_new w (.cells #[.int .i64 1, .int .i64 (h : Int), .int .i64 cy, .int .u32 cr, .int .i64 cl] 31)) (by simp))
  have b0 := kcell B1.out 0 (.int .i64 1) rfl
  have b1 := kcell B1.out 1 (.int .i64 (h : Int)) rfl
  have G1 := hid (bx_gr g1)
  clear g1
  go_upto_region 5 with fail
  clear b0 b1
  go_wp2_with fail
  refine wp_loop_rounds 1 ?_
  rw [rounds_succ]
  have HKw := hid (show KR w1 base (.slice a9 0 c9) ([] : List CI) from HK.out.grown G1.out)
  have hlk := (rfl : ([] : List CI).length = 0)
  have HKn := hid (show w1.ownsRow base 43 6 (.slice a9 0 c9) 0 (flatK []) by have h9 := HKw.out; unfold KR at h9; rw [hlk] at h9; exact h9)
  have HB : Hid (base ≤ w1.heap.size) := hid (Nat.le_trans hbase (G1.out).size)
  have b0 := kcell (B1.out) 0 (.int .i64 1) rfl
  have b1 := kcell (B1.out) 1 (.int .i64 (h : Int)) rfl
  have b2 := kcell (B1.out) 2 (.int .i64 cy) rfl
  have b3 := kcell (B1.out) 3 (.int .u32 cr) rfl
  have b4 := kcell (B1.out) 4 (.int .i64 cl) rfl
  go_wp2_with (at_builtin; go_loud (refine wpList_append_own_at _ rfl (.tmp 72) (.tmp 76) 28 rfl base 43 i0 (.agg #[.int .i64 0, .int .i64 0, .int .i64 0, .int .i64 0, .int .u32 0, .int .i64 0]) 6 48 Try.underlying28 hi0 hz0 hz1 hz2 rfl (by decide) _ _ _ rfl (HKn.out.alloc _) ⟨w1.heap.size, 0, none⟩ 1 1 [.int .i64 l, .int .i64 1, .int .i64 (h : Int), .int .i64 cy, .int .u32 cr, .int .i64 cl] rfl rfl (kcells_new _ _ _) (by simp [Value.oneCell']) (by unfold maxLen; omega) (by omega) (by have := HB.out; simp; omega) ?_; intro v4 w4 hown4 hg4 _ hat4; have Hat := hid hat4; have Hg4 := hid hg4; have HK4 := hid (own_snocK (x := ⟨l, h, cy, cr, cl⟩) hlk hown4); obtain ⟨g4, cap4, rfl⟩ := form_snocK (ls := []) (x := ⟨l, h, cy, cr, cl⟩) hown4; clear hown4 hg4 hat4 b0 b1 b2 b3 b4))
  obtain ⟨g5, cap5, e5, -, -, hc5⟩ := HK4.out.cells (by simp)
  injection e5 with e51 e52 e53
  injection e51 with e54
  injection e54 with e55 e56
  subst e55
  have q0 := (hc5 w4 rfl 0 (by simp)).1
  rw [Nat.zero_mul, show cith ([] ++ [(⟨l, h, cy, cr, cl⟩ : CI)]) 0 = ⟨l, h, cy, cr, cl⟩ from rfl] at q0
  clear hc5 e52 e53 e56
  have hwf : IntKind.i64.wrap (l + win) = l + win := by rw [IntKind.wrap_i64]; omega
  have hp0 : (0 : Int) < (0 : Int) + 1 := by omega
  go_upto_region 11 with fail
  go_quiet (fail)
  go_wp2_with fail
  exact bodyPost_ret (v := .tuple #[.slice (some ⟨g4, 0, none⟩) (0 + 1) cap4, .int .i64 (l + win), .int .i64 0]) (by simp [results, Try.results12, go_sem]) rfl ⟨_, rfl, HK4.out.grown (gr_drewN (gr_refl w4 none) _), _, _, G1.out, gr_drewN Hg4.out _, Hat.out⟩
end Go.Proofs.Ytagoiidpcfjebaa
