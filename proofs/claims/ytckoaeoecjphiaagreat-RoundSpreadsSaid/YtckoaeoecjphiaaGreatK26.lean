/- Lemmas: tocsinref11.Add: a host that is there; a frame laid in. tocsinref07.Of: the crew of hosts. tocsinref11.Compress: the rows that it makes, and the cycle that most hosts send, in plain words. -/
import Derived.Test.YtckoaeoecjphiaaGreatK25
import Derived.Test.YtckoaeoecjphiaaGreatK05
import Derived.Test.YtckoaeoecjphiaaGreatK16

/- tocsinref11.Add: a host that is there; a frame laid in. -/
namespace Go.Proofs.YtckoaeoecjphiaaGreat
open Go.RowKit Go.Lib

theorem Tryz.info_came : (Tryz.prog.info? 207).map (fun i => (i.zero, i.size, i.bytes)) = some (some (.agg #[.int .i64 0, .int .i64 0, .int .i64 0, .int .i64 0, .int .u32 0, .int .i64 0]), 6, 48) := by kernel_rfl
theorem cith_snoc0 {ls : List CI} (x : CI) (h : 0 < ls.length) : cith (ls ++ [x]) 0 = cith ls 0 := by
  unfold cith
  rw [List.getElem?_append_left h]
theorem own_snocK {w : World} {base n : Nat} {v : Value} {ls : List CI} {x : CI} (hl : ls.length = n) (h : w.ownsRow base 207 6 v (n + 1) (flatK ls ++ cC x)) : KR w base v (ls ++ [x]) := by
  unfold KR
  rw [flatK_snoc, List.length_append, hl]
  exact h
theorem KR.grown {W W' : World} {base : Nat} {v : Value} {ls : List CI} (h : KR W base v ls) (g : W.grownBy W' none) : KR W' base v ls := h.kept g (Classical.em _)
theorem form_snocK {w : World} {base n : Nat} {v : Value} {ls : List CI} {x : CI} (h : w.ownsRow base 207 6 v (n + 1) (flatK ls ++ cC x)) : ∃ g cap, v = .slice (some ⟨g, 0, none⟩) (n + 1) cap := own_slice h

theorem kcells_new (w : World) (l : List Value) (t : TypeId) : ∀ j u, l[j]? = some u → (w.alloc (.cells l.toArray t)).cell? ((⟨w.heap.size, 0, none⟩ : Addr).add j) = some u := by
  intro j u hj
  have e : (⟨w.heap.size, 0, none⟩ : Addr).add j = ⟨w.heap.size, j, none⟩ := by
    simp only [Addr.add]
    split
    · rename_i h; rw [h]
    · simp
  rw [e, World.cell?_alloc_new]
  simpa using hj
/-- A frame has been laid into the row v. -/
def LaidK (w w' : World) (base : Nat) (v v2 : Value) (ls : List CI) : Prop := KR w' base v2 ls ∧ ∃ w4 o, w.grownBy w4 none ∧ (w4.alloc o).grownBy w' v.ownBlock ∧ (v2.ownBlock = v.ownBlock ∨ v2.ownBlock = some (w4.alloc o).heap.size)
set_option maxRecDepth 100000 in
set_option maxHeartbeats 1000000 in
theorem radd_there (base : Nat) (v : Value) (ls : List CI) (win l cy cr cl first : Int) (h : Nat) (w : World) (hk : KR w base v ls) (h1 : 0 < ls.length) (hfirst : (cith ls 0).l = first) (hl : -1125899906842624 ≤ l ∧ l ≤ 1125899906842624) (hf : -1125899906842624 ≤ first ∧ first ≤ 1125899906842624) (hr : rightB 1 (h : Int) cy cr cl = true) (hh : h < 6) (hin : first ≤ l ∧ l ≤ first + win) (hw : 0 ≤ win ∧ win ≤ 1048576) (hyes : ∃ j, j < ls.length ∧ (cith ls j).h = h) (hlen : ls.length ≤ 100) :
    Calls Tryz.prog 89 #[v, .int .i64 win, .int .i64 l, .agg #[.int .i64 1, .int .i64 (h : Int), .int .i64 cy, .int .u32 cr, .int .i64 cl]] w fun e w' =>
      e = .returned (.tuple #[v, .int .i64 0, .int .i64 7]) ∧ w.grownBy w' none := by
  have HY := hid hyes
  clear hyes
  obtain ⟨g, cap, rfl, hcap, ⟨hg0, hg1⟩, hcell⟩ := hk.cells h1
  obtain ⟨n, hn⟩ : ∃ n, Hid (ls.length = n) := ⟨_, hid rfl⟩
  rw [hn.out] at h1 hcap hlen
  rw [hn.out]
  have HR := hid (rright_any 1 (h : Int) cy cr cl)
  rw [hr] at HR
  obtain ⟨l0, l1⟩ := hl
  obtain ⟨f0, f1⟩ := hf
  obtain ⟨w0, w1'⟩ := hw
  obtain ⟨i1', i2'⟩ := hin
  have hw1 : IntKind.i64.wrap (l - first) = l - first := by rw [IntKind.wrap_i64]; omega
  have hf5 : ¬ 5 < (h : Int) := by omega
  have ho1 : ¬ l < first := by omega
  have ho2 : ¬ win < l - first := by omega
  have HC := hid (fun W' (e : W'.heap[g]? = w.heap[g]?) => (hcell W' e 0 (by rw [hn.out]; exact h1)).1)
  rw [hfirst] at HC
  have HH := hid (fun W' (e : W'.heap[g]? = w.heap[g]?) i (hi : i < n) => (hcell W' e i (by rw [hn.out]; exact hi)).2.2.1)
  clear hcell hk hr
  have hn0 : (0 : Int) < (n : Int) := by omega
  go_enter Tryz.func89, Tryz.ntmps89
  go_wp2_with fail
  refine (HR.out _).mono ?_
  rintro e w1 ⟨rfl, g1⟩
  have B1 := hid (gr_heap g1 (heap_alloc_new w (.cells #[.int .i64 1, .int .i64 (h : Int), .int .i64 cy, .int .u32 cr, .int .i64 cl] 150)) (by simp))
  have b0 := kcell B1.out 0 (.int .i64 1) rfl
  have b1 := kcell B1.out 1 (.int .i64 (h : Int)) rfl
  have G1 := hid (bx_gr g1)
  have c0 := HC.out w1 (G1.out.block g hg1 (by simp))
  rw [Nat.zero_mul] at c0
  clear g1
  go_wp2_with fail
  clear b0 b1 c0 hw1 ho1 ho2
  go_loopw [11] (fun vi wr => ∃ i : Nat, vi = .int .i64 i ∧ i ≤ n ∧ Hid (∀ j, j < i → (cith ls j).h ≠ h) ∧ Hid (w1.grownBy wr none)) (fun vi _ => n - (intOf vi).toNat)
  case atStart => exact ⟨0, rfl, Nat.zero_le _, hid (fun j hj => absurd hj (by omega)), hid (gr_refl w1 none)⟩
  case round =>
    obtain ⟨i, rfl, hi, HN, HG⟩ := hrel
    by_cases hin : i < n
    · have b1 := kcell (gr_heap HG.out B1.out (by simp)) 1 (.int .i64 (h : Int)) rfl
      have q2 := HH.out wr ((gr_trans G1.out HG.out).block g hg1 (by simp)) i hin
      obtain ⟨x, hx⟩ : ∃ x, Hid ((cith ls i).h = x) := ⟨_, hid rfl⟩
      rw [hx.out] at q2
      have f2 : (i : Int) < (n : Int) := by omega
      have f3 : ((i : Int)).toNat = i := by omega
      by_cases hxe : x = h
      · subst hxe
        have hxb : ((x : Int) == (x : Int)) = true := by simp
        go_wp2_with fail
        go_quiet (fail)
        go_wp2_with fail
        exact bodyPost_ret (v := .tuple #[.slice (some ⟨g, 0, none⟩) n cap, .int .i64 0, .int .i64 7]) (by simp [results, Tryz.results89, go_sem]) rfl ⟨rfl, gr_trans G1.out (gr_drewN HG.out _)⟩
      · have hxb : ((x : Int) == (h : Int)) = false := by simp; omega
        have HN2 : Hid (∀ j, j < i + 1 → (cith ls j).h ≠ h) := hid (fun j hj => by
          rcases (by omega : j < i ∨ j = i) with hj | rfl
          · exact HN.out j hj
          · rw [hx.out]; exact hxe)
        go_wp2_with fail
        go_quiet (fail)
        go_wp2_with fail
        go_roundw
        case rel => exact ⟨i + 1, by go_num, by omega, HN2, hid (gr_drewN HG.out _)⟩
        case measure => simp [intOf]; omega
    · obtain rfl : i = n := by omega
      exfalso
      obtain ⟨j, hj, e⟩ := HY.out
      exact HN.out j (by rw [hn.out] at hj; exact hj) e

set_option maxRecDepth 100000 in
set_option maxHeartbeats 1000000 in
theorem radd_more (base : Nat) (v : Value) (ls : List CI) (win l cy cr cl first : Int) (h : Nat) (w : World) (hk : KR w base v ls) (h1 : 0 < ls.length) (hfirst : (cith ls 0).l = first) (hl : -1125899906842624 ≤ l ∧ l ≤ 1125899906842624) (hf : -1125899906842624 ≤ first ∧ first ≤ 1125899906842624) (hr : rightB 1 (h : Int) cy cr cl = true) (hh : h < 6) (hin : first ≤ l ∧ l ≤ first + win) (hw : 0 ≤ win ∧ win ≤ 1048576) (hno : ∀ j, j < ls.length → (cith ls j).h ≠ h) (hlen : ls.length ≤ 100) (hbase : base ≤ w.heap.size) :
    Calls Tryz.prog 89 #[v, .int .i64 win, .int .i64 l, .agg #[.int .i64 1, .int .i64 (h : Int), .int .i64 cy, .int .u32 cr, .int .i64 cl]] w fun e w' => ∃ v2, e = .returned (.tuple #[v2, .int .i64 (first + win), .int .i64 0]) ∧ LaidK w w' base v v2 (ls ++ [⟨l, h, cy, cr, cl⟩]) := by
  obtain ⟨i0, hi0, hz0, hz1, hz2⟩ := info_parts Tryz.info_came
  obtain ⟨g, cap, rfl, hcap, ⟨hg0, hg1⟩, hcell⟩ := hk.cells h1
  obtain ⟨n, hn⟩ : ∃ n, Hid (ls.length = n) := ⟨_, hid rfl⟩
  rw [hn.out] at h1 hcap hlen
  have HK := hid hk
  rw [hn.out]
  have HR := hid (rright_any 1 (h : Int) cy cr cl)
  rw [hr] at HR
  obtain ⟨l0, l1⟩ := hl
  obtain ⟨f0, f1⟩ := hf
  obtain ⟨w0, w1'⟩ := hw
  obtain ⟨i1', i2'⟩ := hin
  have hw1 : IntKind.i64.wrap (l - first) = l - first := by rw [IntKind.wrap_i64]; omega
  have hf5 : ¬ 5 < (h : Int) := by omega
  have ho1 : ¬ l < first := by omega
  have ho2 : ¬ win < l - first := by omega
  have HC := hid (fun W' (e : W'.heap[g]? = w.heap[g]?) => (hcell W' e 0 (by rw [hn.out]; exact h1)).1)
  rw [hfirst] at HC
  have HH := hid (fun W' (e : W'.heap[g]? = w.heap[g]?) i (hi : i < n) => (hcell W' e i (by rw [hn.out]; exact hi)).2.2.1)
  clear hcell hk hr
  have hn0 : (0 : Int) < (n : Int) := by omega
  go_enter Tryz.func89, Tryz.ntmps89
  go_wp2_with fail
  refine (HR.out _).mono ?_
  rintro e w1 ⟨rfl, g1⟩
  have B1 := hid (gr_heap g1 (heap_alloc_new w (.cells #[.int .i64 1, .int .i64 (h : Int), .int .i64 cy, .int .u32 cr, .int .i64 cl] 150)) (by simp))
  have b0 := kcell B1.out 0 (.int .i64 1) rfl
  have b1 := kcell B1.out 1 (.int .i64 (h : Int)) rfl
  have G1 := hid (bx_gr g1)
  have c0 := HC.out w1 (G1.out.block g hg1 (by simp))
  rw [Nat.zero_mul] at c0
  clear g1
  go_wp2_with fail
  clear b0 b1 c0 hw1 ho1 ho2
  go_loopw [11] (fun vi wr => ∃ i : Nat, vi = .int .i64 i ∧ i ≤ n ∧ Hid (∀ j, j < i → (cith ls j).h ≠ h) ∧ Hid (w1.grownBy wr none)) (fun vi _ => n - (intOf vi).toNat)
  case atStart => exact ⟨0, rfl, Nat.zero_le _, hid (fun j hj => absurd hj (by omega)), hid (gr_refl w1 none)⟩
  case round =>
    obtain ⟨i, rfl, hi, HN, HG⟩ := hrel
    by_cases hin : i < n
    · have b1 := kcell (gr_heap HG.out B1.out (by simp)) 1 (.int .i64 (h : Int)) rfl
      have q2 := HH.out wr ((gr_trans G1.out HG.out).block g hg1 (by simp)) i hin
      obtain ⟨x, hx⟩ : ∃ x, Hid ((cith ls i).h = x) := ⟨_, hid rfl⟩
      rw [hx.out] at q2
      have f2 : (i : Int) < (n : Int) := by omega
      have f3 : ((i : Int)).toNat = i := by omega
      by_cases hxe : x = h
      · exact absurd (hx.out.trans hxe) (hno i (by rw [hn.out]; exact hin))
      · have hxb : ((x : Int) == (h : Int)) = false := by simp; omega
        have HN2 : Hid (∀ j, j < i + 1 → (cith ls j).h ≠ h) := hid (fun j hj => by
          rcases (by omega : j < i ∨ j = i) with hj | rfl
          · exact HN.out j hj
          · rw [hx.out]; exact hxe)
        go_wp2_with fail
        go_quiet (fail)
        go_wp2_with fail
        go_roundw
        case rel => exact ⟨i + 1, by go_num, by omega, HN2, hid (gr_drewN HG.out _)⟩
        case measure => simp [intOf]; omega
    · obtain rfl : i = n := by omega
      have HKw := hid (show KR wr base (.slice (some ⟨g, 0, none⟩) i cap) ls from (by have h9 := HK.out.grown (gr_trans G1.out HG.out); rw [hn.out] at h9; exact h9))
      have hlk := hn.out
      have HKn := hid (show wr.ownsRow base 207 6 (.slice (some ⟨g, 0, none⟩) i cap) i (flatK ls) by have h9 := HKw.out; unfold KR at h9; rw [hlk] at h9; exact h9)
      have HB : Hid (base ≤ wr.heap.size) := hid (Nat.le_trans hbase ((gr_trans G1.out HG.out)).size)
      have b0 := kcell (gr_heap HG.out B1.out (by simp)) 0 (.int .i64 1) rfl
      have b1 := kcell (gr_heap HG.out B1.out (by simp)) 1 (.int .i64 (h : Int)) rfl
      have b2 := kcell (gr_heap HG.out B1.out (by simp)) 2 (.int .i64 cy) rfl
      have b3 := kcell (gr_heap HG.out B1.out (by simp)) 3 (.int .u32 cr) rfl
      have b4 := kcell (gr_heap HG.out B1.out (by simp)) 4 (.int .i64 cl) rfl
      go_wp2_with (at_builtin; go_loud (refine wpList_append_own_at _ rfl (.tmp 72) (.tmp 76) 164 rfl base 207 i0 (.agg #[.int .i64 0, .int .i64 0, .int .i64 0, .int .i64 0, .int .u32 0, .int .i64 0]) 6 48 Tryz.underlying164 hi0 hz0 hz1 hz2 rfl (by decide) _ _ _ rfl (HKn.out.alloc _) ⟨wr.heap.size, 0, none⟩ 1 1 [.int .i64 l, .int .i64 1, .int .i64 (h : Int), .int .i64 cy, .int .u32 cr, .int .i64 cl] rfl rfl (kcells_new _ _ _) (by simp [Value.oneCell']) (by unfold maxLen; omega) (by omega) (by have := HB.out; simp; omega) ?_; intro v4 w4 hown4 hg4 _ hat4; have Hat := hid hat4; have Hg4 := hid hg4; have HK4 := hid (own_snocK (x := ⟨l, h, cy, cr, cl⟩) hlk hown4); obtain ⟨g4, cap4, rfl⟩ := form_snocK (ls := ls) (x := ⟨l, h, cy, cr, cl⟩) hown4; clear hown4 hg4 hat4 b0 b1 b2 b3 b4))
      obtain ⟨g5, cap5, e5, -, -, hc5⟩ := HK4.out.cells (by simp)
      injection e5 with e51 e52 e53
      injection e51 with e54
      injection e54 with e55 e56
      subst e55
      have q0 := (hc5 w4 rfl 0 (by simp)).1
      rw [Nat.zero_mul, cith_snoc0 _ (by rw [hn.out]; exact h1), hfirst] at q0
      clear hc5 e52 e53 e56
      have hwf : IntKind.i64.wrap (first + win) = first + win := by rw [IntKind.wrap_i64]; omega
      have hp0 : (0 : Int) < (i : Int) + 1 := by omega
      go_upto_region 11 with fail
      go_quiet (fail)
      go_wp2_with fail
      exact bodyPost_ret (v := .tuple #[.slice (some ⟨g4, 0, none⟩) (i + 1) cap4, .int .i64 (first + win), .int .i64 0]) (by simp [results, Tryz.results89, go_sem]) rfl ⟨_, rfl, HK4.out.grown (gr_drewN (gr_refl w4 none) _), _, _, (gr_trans G1.out HG.out), gr_drewN Hg4.out _, Hat.out⟩

set_option maxRecDepth 100000 in
set_option maxHeartbeats 1000000 in
theorem radd_first (base : Nat) (v : Value) (win l cy cr cl : Int) (h : Nat) (w : World) (hk : KR w base v []) (hl : -1125899906842624 ≤ l ∧ l ≤ 1125899906842624) (hr : rightB 1 (h : Int) cy cr cl = true) (hh : h < 6) (hw : 0 ≤ win ∧ win ≤ 1048576) (hbase : base ≤ w.heap.size) :
    Calls Tryz.prog 89 #[v, .int .i64 win, .int .i64 l, .agg #[.int .i64 1, .int .i64 (h : Int), .int .i64 cy, .int .u32 cr, .int .i64 cl]] w fun e w' => ∃ v2, e = .returned (.tuple #[v2, .int .i64 (l + win), .int .i64 0]) ∧ LaidK w w' base v v2 ([] ++ [⟨l, h, cy, cr, cl⟩]) := by
  obtain ⟨i0, hi0, hz0, hz1, hz2⟩ := info_parts Tryz.info_came
  obtain ⟨a9, c9, rfl⟩ := hk.slice
  have HK := hid hk
  have HR := hid (rright_any 1 (h : Int) cy cr cl)
  rw [hr] at HR
  obtain ⟨l0, l1⟩ := hl
  obtain ⟨w0, w1'⟩ := hw
  have hf5 : ¬ 5 < (h : Int) := by omega
  clear hk hr
  go_enter Tryz.func89, Tryz.ntmps89
  go_wp2_with fail
  refine (HR.out _).mono ?_
  rintro e w1 ⟨rfl, g1⟩
  have B1 := hid (gr_heap g1 (heap_alloc_new w (.cells #[.int .i64 1, .int .i64 (h : Int), .int .i64 cy, .int .u32 cr, .int .i64 cl] 150)) (by simp))
  have b0 := kcell B1.out 0 (.int .i64 1) rfl
  have b1 := kcell B1.out 1 (.int .i64 (h : Int)) rfl
  have G1 := hid (bx_gr g1)
  clear g1
  go_upto_region 5 with fail
  clear b0 b1
  go_wp2_with fail
  refine wp_loop_rounds 1 ?_
  rw [rounds_succ]
  have HKw := hid (show KR w1 base (.slice a9 0 c9) ([] : List CI) from HK.out.grown G1.out)
  have hlk := (rfl : ([] : List CI).length = 0)
  have HKn := hid (show w1.ownsRow base 207 6 (.slice a9 0 c9) 0 (flatK []) by have h9 := HKw.out; unfold KR at h9; rw [hlk] at h9; exact h9)
  have HB : Hid (base ≤ w1.heap.size) := hid (Nat.le_trans hbase (G1.out).size)
  have b0 := kcell (B1.out) 0 (.int .i64 1) rfl
  have b1 := kcell (B1.out) 1 (.int .i64 (h : Int)) rfl
  have b2 := kcell (B1.out) 2 (.int .i64 cy) rfl
  have b3 := kcell (B1.out) 3 (.int .u32 cr) rfl
  have b4 := kcell (B1.out) 4 (.int .i64 cl) rfl
  go_wp2_with (at_builtin; go_loud (refine wpList_append_own_at _ rfl (.tmp 72) (.tmp 76) 164 rfl base 207 i0 (.agg #[.int .i64 0, .int .i64 0, .int .i64 0, .int .i64 0, .int .u32 0, .int .i64 0]) 6 48 Tryz.underlying164 hi0 hz0 hz1 hz2 rfl (by decide) _ _ _ rfl (HKn.out.alloc _) ⟨w1.heap.size, 0, none⟩ 1 1 [.int .i64 l, .int .i64 1, .int .i64 (h : Int), .int .i64 cy, .int .u32 cr, .int .i64 cl] rfl rfl (kcells_new _ _ _) (by simp [Value.oneCell']) (by unfold maxLen; omega) (by omega) (by have := HB.out; simp; omega) ?_; intro v4 w4 hown4 hg4 _ hat4; have Hat := hid hat4; have Hg4 := hid hg4; have HK4 := hid (own_snocK (x := ⟨l, h, cy, cr, cl⟩) hlk hown4); obtain ⟨g4, cap4, rfl⟩ := form_snocK (ls := []) (x := ⟨l, h, cy, cr, cl⟩) hown4; clear hown4 hg4 hat4 b0 b1 b2 b3 b4))
  obtain ⟨g5, cap5, e5, -, -, hc5⟩ := HK4.out.cells (by simp)
  injection e5 with e51 e52 e53
  injection e51 with e54
  injection e54 with e55 e56
  subst e55
  have q0 := (hc5 w4 rfl 0 (by simp)).1
  rw [Nat.zero_mul, show cith ([] ++ [(⟨l, h, cy, cr, cl⟩ : CI)]) 0 = ⟨l, h, cy, cr, cl⟩ from rfl] at q0
  clear hc5 e52 e53 e56
  have hwf : IntKind.i64.wrap (l + win) = l + win := by rw [IntKind.wrap_i64]; omega
  have hp0 : (0 : Int) < (0 : Int) + 1 := by omega
  go_upto_region 11 with fail
  go_quiet (fail)
  go_wp2_with fail
  exact bodyPost_ret (v := .tuple #[.slice (some ⟨g4, 0, none⟩) (0 + 1) cap4, .int .i64 (l + win), .int .i64 0]) (by simp [results, Tryz.results89, go_sem]) rfl ⟨_, rfl, HK4.out.grown (gr_drewN (gr_refl w4 none) _), _, _, G1.out, gr_drewN Hg4.out _, Hat.out⟩
end Go.Proofs.YtckoaeoecjphiaaGreat

/- tocsinref07.Of: the crew of hosts. -/
namespace Go.Proofs.YtckoaeoecjphiaaGreat
open Go.RowKit Go.Shelf Go.Sort Go.Lib

def crewTo (hs : List Int) : Nat → Int
  | 0 => 0
  | n + 1 => crewTo hs n + if (n : Int) ∈ hs then ((2 ^ n : Nat) : Int) else 0
theorem crewTo_lt (hs : List Int) (n : Nat) : 0 ≤ crewTo hs n ∧ crewTo hs n < ((2 ^ n : Nat) : Int) := by
  induction n with
  | zero => simp [crewTo]
  | succ n ih =>
    have h : ((2 ^ (n + 1) : Nat) : Int) = 2 * ((2 ^ n : Nat) : Int) := by rw [Nat.pow_succ]; omega
    unfold crewTo
    rw [h]
    split <;> omega
theorem pow_le64 {h : Nat} (hh : h ≤ 6) : 1 ≤ ((2 ^ h : Nat) : Int) ∧ ((2 ^ h : Nat) : Int) ≤ 64 := by
  have h1 := Nat.two_pow_pos h
  have h2 := Nat.pow_le_pow_right (n := 2) (by omega) hh
  have h3 : 2 ^ 6 = 64 := rfl
  omega
theorem crew_mem {hs : List Int} {i : Nat} (h : i < hs.length) : nth hs i ∈ hs := by simp [nth, h]
theorem crew_notmem {hs : List Int} {x : Int} (h : ∀ i, i < hs.length → nth hs i ≠ x) : x ∉ hs := by
  intro hx
  obtain ⟨i, hi, e⟩ := List.getElem_of_mem hx
  exact h i hi (by simp [nth, hi, e])

set_option maxRecDepth 100000 in
set_option maxHeartbeats 1000000 in
theorem rcrew_any {n₀ : Nat} (a : Option Addr) (cap : Nat) (hs : List Int) (hl : hs.length ≤ 100) (w : World) (hI : Ints n₀ w (.slice a hs.length cap) hs) :
    Calls Tryz.prog 64 #[.slice a hs.length cap] w fun e w' => e = .returned (.int .u32 (crewTo hs 6)) ∧ w.grownBy w' none := by
  have HI : Hid (∀ w' : World, w.grownBy w' none → ∀ i, i < hs.length → ∃ b off, a = some ⟨b, off, none⟩ ∧ w'.cell? ⟨b, off + i, none⟩ = some (.int .i64 (nth hs i))) := hid (fun w' g i hi => by
    rcases hI with ⟨_, _, _, h⟩ | ⟨b, off, cap', e, hb, hc⟩
    · subst h; simp at hi
    · injection e with e1 e2 e3
      refine ⟨b, off, e1, ?_⟩
      have := gr_cell g (hc i hi)
      rw [this]
      rfl)
  clear hI
  obtain ⟨n, hn⟩ : ∃ n, Hid (hs.length = n) := ⟨_, hid rfl⟩
  rw [hn.out] at hl
  rw [hn.out]
  go_enter Tryz.func64, Tryz.ntmps64
  go_wp2_with fail
  go_loopw [3, 4, 5] (fun v3 v4 v5 wr => ∃ (h : Nat) (c bt : Int), v3 = .int .u32 c ∧ v4 = .int .u32 bt ∧ v5 = .int .i64 h ∧ h ≤ 6 ∧ Hid (c = crewTo hs h) ∧ Hid (bt = ((2 ^ h : Nat) : Int)) ∧ Hid (w.grownBy wr none)) (fun _ _ v5 _ => 6 - (intOf v5).toNat)
  case atStart => exact ⟨0, 0, 1, rfl, rfl, rfl, by omega, hid rfl, hid rfl, hid (gr_refl w none)⟩
  case round =>
    obtain ⟨h, c, bt, rfl, rfl, rfl, hh, HC, HB, HG⟩ := hrel
    by_cases h6 : h < 6
    · have hp := pow_le64 (show h + 1 ≤ 6 by omega)
      have hp2 : ((2 ^ (h + 1) : Nat) : Int) = 2 * bt := by rw [HB.out, Nat.pow_succ]; omega
      have hcl := crewTo_lt hs h
      rw [← HC.out, ← HB.out] at hcl
      rw [hp2] at hp
      obtain ⟨c0, c1⟩ := hcl
      obtain ⟨p0, p1⟩ := hp
      have hw1 : IntKind.u32.wrap (c + bt) = c + bt := by rw [IntKind.wrap_u32]; omega
      have hw2 : IntKind.u32.wrap (bt * 2) = bt * 2 := by rw [IntKind.wrap_u32]; omega
      have HB2 : Hid (bt * 2 = ((2 ^ (h + 1) : Nat) : Int)) := hid (by rw [hp2]; omega)
      clear hp2
      go_wp2_with fail
      go_loopw [3, 6] (fun v3 v6 wr => ∃ i : Nat, v3 = .int .u32 c ∧ v6 = .int .i64 i ∧ i ≤ n ∧ Hid (∀ j, j < i → nth hs j ≠ (h : Int)) ∧ Hid (w.grownBy wr none)) (fun _ v6 _ => n - (intOf v6).toNat)
      case atStart => exact ⟨0, rfl, rfl, Nat.zero_le _, hid (fun j hj => absurd hj (by omega)), HG⟩
      case round =>
        clear HG
        obtain ⟨i, rfl, rfl, hi, HN, HG⟩ := hrel
        by_cases hin : i < n
        · obtain ⟨b, off, ea, hcell⟩ := HI.out _ HG.out i (by rw [hn.out]; exact hin)
          subst ea
          obtain ⟨x, hx⟩ : ∃ x, Hid (nth hs i = x) := ⟨_, hid rfl⟩
          rw [hx.out] at hcell
          by_cases hxe : x = (h : Int)
          · have HC2 : Hid (c + bt = crewTo hs (h + 1)) := hid (by
              have hm : (h : Int) ∈ hs := by rw [← hxe, ← hx.out]; exact crew_mem (by rw [hn.out]; exact hin)
              unfold crewTo
              rw [if_pos hm, ← HC.out, ← HB.out])
            have hxb : (x == (h : Int)) = true := by simp [hxe]
            go_wp2_with fail
            go_roundw
            case rel => exact ⟨h + 1, c + bt, bt * 2, rfl, rfl, by go_num, by omega, HC2, HB2, HG⟩
            case measure => simp [intOf]; omega
          · have hxb : (x == (h : Int)) = false := by simp [hxe]
            have HN2 : Hid (∀ j, j < i + 1 → nth hs j ≠ (h : Int)) := hid (fun j hj => by
              rcases (by omega : j < i ∨ j = i) with hj | rfl
              · exact HN.out j hj
              · rw [hx.out]; exact hxe)
            go_wp2_with fail
            go_roundw
            case rel => exact ⟨i + 1, rfl, by go_num, by omega, HN2, HG⟩
            case measure => simp [intOf]; omega
        · have HC2 : Hid (c = crewTo hs (h + 1)) := hid (by
            have hm : (h : Int) ∉ hs := crew_notmem fun j hj => HN.out j (by rw [hn.out] at hj; omega)
            unfold crewTo
            rw [if_neg hm, ← HC.out]
            omega)
          go_wp2_with fail
          go_roundw
          case rel => exact ⟨h + 1, c, bt * 2, rfl, rfl, by go_num, by omega, HC2, HB2, HG⟩
          case measure => simp [intOf]; omega
    · obtain rfl : h = 6 := by omega
      go_wp2_with fail
      go_ret
      exact ⟨by rw [← HC.out]; rfl, HG.out⟩
end Go.Proofs.YtckoaeoecjphiaaGreat

/- tocsinref11.Compress: the rows that it makes, and the cycle that most hosts send, in plain words. -/
namespace Go.Proofs.YtckoaeoecjphiaaGreat
open Go.RowKit Go.Shelf Go.Sort Go.Lib

theorem osame {w w' : World} {base e size n : Nat} {v : Value} {xs : List Value} (h : w.ownsRow base e size v n xs) (hw : ∀ q, v.ownBlock = some q → w'.heap[q]? = w.heap[q]?) : w'.ownsRow base e size v n xs :=
  ⟨h.1, h.2.imp id (fun ⟨g, cap, cur, e, hg, hh, r⟩ => ⟨g, cap, cur, e, hg, (hw g (by rw [e]; rfl)).trans hh, r⟩)⟩
theorem gr_ownw {a b c : World} {row : Option Nat} (h : a.grownBy b none) (g : b.grownBy c row) (hr : ∀ q, row = some q → a.heap.size ≤ q) : a.grownBy c none := by
  cases row with
  | none => exact gr_trans h g
  | some k => exact gr_own h g (hr k rfl)
/-- Two rows of the call's own. -/
structure TwoR (w W : World) (vr vh : Value) (i1 i2 : Nat) (rs hs : List Int) : Prop where
  rr : W.ownsRow w.heap.size 2 1 vr i1 ((rs.take i1).map (Value.int .i64))
  rh : W.ownsRow w.heap.size 3 1 vh i2 ((hs.take i2).map (Value.int .i64))
  ap : ∀ q, vr.ownBlock = some q → vh.ownBlock ≠ some q
  g : w.grownBy W none
theorem TwoR.grown {w W W' : World} {vr vh : Value} {i1 i2 : Nat} {rs hs : List Int} (h : TwoR w W vr vh i1 i2 rs hs) (g : W.grownBy W' none) : TwoR w W' vr vh i1 i2 rs hs :=
  ⟨h.rr.kept g (Classical.em _), h.rh.kept g (Classical.em _), h.ap, gr_trans h.g g⟩
theorem take_snocI {rs : List Int} {i : Nat} (hi : i < rs.length) : (rs.take (i + 1)).map (Value.int .i64) = (rs.take i).map (Value.int .i64) ++ [.int .i64 (nth rs i)] := by
  rw [take_nth rs i hi, List.map_append]
  rfl
theorem TwoR.one {w W W4 : World} {o : Obj} {vr vh v4 : Value} {i1 i2 : Nat} {rs hs : List Int} {x : Int} (h : TwoR w W vr vh i1 i2 rs hs) (hi : i1 < rs.length) (hx : nth rs i1 = x)
    (hown : W4.ownsRow w.heap.size 2 1 v4 (i1 + 1) ((rs.take i1).map (Value.int .i64) ++ [.int .i64 x])) (hg : (W.alloc o).grownBy W4 vr.ownBlock) (hat : v4.ownBlock = vr.ownBlock ∨ v4.ownBlock = some (W.alloc o).heap.size) : TwoR w W4 v4 vh (i1 + 1) i2 rs hs where
  rr := by rw [take_snocI hi, hx]; exact hown
  rh := osame h.rh fun q hq => by
    have h1 := (h.rh.lt q hq).2
    rw [hg.block q (by simp; omega) (fun e => h.ap q e.symm hq)]
    exact (World.grownBy_alloc W o none).block q h1 (by simp)
  ap := by
    intro q hq1 hq2
    rcases hat with h1 | h1
    · exact h.ap q (h1 ▸ hq1) hq2
    · rw [h1] at hq1
      have h2 := (h.rh.lt q hq2).2
      have h3 : (W.alloc o).heap.size = W.heap.size + 1 := by simp
      injection hq1 with h4
      omega
  g := gr_ownw (gr_alloc h.g o) hg fun q hq => (h.rr.lt q hq).1
theorem TwoR.two {w W W4 : World} {o : Obj} {vr vh v4 : Value} {i1 i2 : Nat} {rs hs : List Int} {x : Int} (h : TwoR w W vr vh i1 i2 rs hs) (hi : i2 < hs.length) (hx : nth hs i2 = x)
    (hown : W4.ownsRow w.heap.size 3 1 v4 (i2 + 1) ((hs.take i2).map (Value.int .i64) ++ [.int .i64 x])) (hg : (W.alloc o).grownBy W4 vh.ownBlock) (hat : v4.ownBlock = vh.ownBlock ∨ v4.ownBlock = some (W.alloc o).heap.size) : TwoR w W4 vr v4 i1 (i2 + 1) rs hs where
  rh := by rw [take_snocI hi, hx]; exact hown
  rr := osame h.rr fun q hq => by
    have h1 := (h.rr.lt q hq).2
    rw [hg.block q (by simp; omega) (fun e => h.ap q hq e.symm)]
    exact (World.grownBy_alloc W o none).block q h1 (by simp)
  ap := by
    intro q hq1 hq2
    rcases hat with h1 | h1
    · exact h.ap q hq1 (h1 ▸ hq2)
    · rw [h1] at hq2
      have h2 := (h.rr.lt q hq1).2
      have h3 : (W.alloc o).heap.size = W.heap.size + 1 := by simp
      injection hq2 with h4
      omega
  g := gr_ownw (gr_alloc h.g o) hg fun q hq => (h.rh.lt q hq).1

def bestF (cs : List Int) (p : Int × Nat) (n : Int) : Int × Nat := if p.2 < cs.count n ∨ cs.count n = p.2 ∧ p.1 < n then (n, cs.count n) else p
def bestOf (cs : List Int) : Int := (cs.foldl (bestF cs) (0, 0)).1
theorem bestF_spec (cs : List Int) (l : List Int) (hl : ∀ x ∈ l, x ∈ cs) (hne : l ≠ []) :
    (l.foldl (bestF cs) (0, 0)).1 ∈ l ∧ (l.foldl (bestF cs) (0, 0)).2 = cs.count (l.foldl (bestF cs) (0, 0)).1 ∧ ∀ x ∈ l, cs.count x < cs.count (l.foldl (bestF cs) (0, 0)).1 ∨ cs.count x = cs.count (l.foldl (bestF cs) (0, 0)).1 ∧ x ≤ (l.foldl (bestF cs) (0, 0)).1 := by
  suffices key : ∀ (r : List Int), (∀ x ∈ r, x ∈ cs) → r = [] ∧ r.reverse.foldl (bestF cs) (0, 0) = (0, 0) ∨ ((r.reverse.foldl (bestF cs) (0, 0)).1 ∈ r ∧ (r.reverse.foldl (bestF cs) (0, 0)).2 = cs.count (r.reverse.foldl (bestF cs) (0, 0)).1 ∧ ∀ x ∈ r, cs.count x < cs.count (r.reverse.foldl (bestF cs) (0, 0)).1 ∨ cs.count x = cs.count (r.reverse.foldl (bestF cs) (0, 0)).1 ∧ x ≤ (r.reverse.foldl (bestF cs) (0, 0)).1) by
    have := key l.reverse (fun x hx => hl x (by simpa using hx))
    rw [List.reverse_reverse] at this
    rcases this with ⟨h, _⟩ | ⟨h1, h2, h3⟩
    · exact absurd (List.reverse_eq_nil_iff.1 h) hne
    · exact ⟨by simpa using h1, h2, fun x hx => h3 x (by simpa using hx)⟩
  intro r
  induction r with
  | nil => intro _; exact .inl ⟨rfl, rfl⟩
  | cons y r ih =>
    intro hr
    right
    have hy := hr y (List.mem_cons_self ..)
    have hcy : 0 < cs.count y := List.count_pos_iff.2 hy
    rw [List.reverse_cons, List.foldl_append]
    simp only [List.foldl_cons, List.foldl_nil]
    rcases ih (fun x hx => hr x (List.mem_cons_of_mem _ hx)) with ⟨rfl, h⟩ | ⟨h1, h2, h3⟩
    · rw [h]
      unfold bestF
      rw [if_pos (.inl hcy)]
      refine ⟨List.mem_cons_self .., rfl, fun x hx => ?_⟩
      rw [List.mem_singleton.1 hx]
      exact .inr ⟨rfl, Int.le_refl _⟩
    · obtain ⟨p, hp⟩ : ∃ p, r.reverse.foldl (bestF cs) (0, 0) = p := ⟨_, rfl⟩
      rw [hp] at h1 h2 h3 ⊢
      unfold bestF
      by_cases hc : p.2 < cs.count y ∨ cs.count y = p.2 ∧ p.1 < y
      · rw [if_pos hc]
        refine ⟨List.mem_cons_self .., rfl, fun x hx => ?_⟩
        rcases List.mem_cons.1 hx with rfl | hx
        · exact .inr ⟨rfl, Int.le_refl _⟩
        · have := h3 x hx
          rw [h2] at hc
          simp only
          omega
      · rw [if_neg hc]
        refine ⟨List.mem_cons_of_mem _ h1, h2, fun x hx => ?_⟩
        rcases List.mem_cons.1 hx with rfl | hx
        · rw [h2] at hc; omega
        · exact h3 x hx
/-- The same as the program's own. -/
theorem bestOf_most {cs : List Int} (hne : cs ≠ []) : bestOf cs = mostL cs := by
  obtain ⟨h1, _, h3⟩ := bestF_spec cs cs (fun _ h => h) hne
  exact (most_unique h1 h3).symm
theorem count_take {cs : List Int} {j : Nat} (c : Int) (hj : j < cs.length) : (cs.take (j + 1)).count c = (cs.take j).count c + if nth cs j = c then 1 else 0 := by
  rw [take_nth cs j hj, List.count_append, List.count_singleton]
  simp [beq_iff_eq]
end Go.Proofs.YtckoaeoecjphiaaGreat
