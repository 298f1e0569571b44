/- Lemmas: tocsinref11.Compress, walked. -/
import Derived.Test.YtckoaeoecjphiaaGreatK26
import Derived.Test.YtckoaeoecjphiaaGreatK32
import Derived.Deep.RegionWith

/- tocsinref11.Compress, walked. -/
namespace Go.Proofs.YtckoaeoecjphiaaGreat
open Go.RowKit Go.Shelf Go.Sort Go.Lib

theorem kfroz {w : World} {b : Nat} {cells : Array Value} {t : TypeId} (h : w.heap[b]? = some (.cells cells t)) (i : Nat) : w.frozen? ⟨b, i, none⟩ = false := by simp [World.frozen?, h]
theorem Tryz.info_int : (Tryz.prog.info? 3).map (fun i => (i.zero, i.size, i.bytes)) = some (some (.int .i64 0), 1, 8) := by kernel_rfl
def rsK (first : Int) (ls : List CI) : List Int := ls.map fun x => x.l - first
def hsK (ls : List CI) : List Int := ls.map fun x => (x.h : Int)
def csK (ls : List CI) : List Int := ls.map fun x => x.cy
theorem nth_rsK {first : Int} {ls : List CI} {i : Nat} (h : i < ls.length) : nth (rsK first ls) i = (cith ls i).l - first := by simp [nth, rsK, cith, h]
theorem nth_hsK {ls : List CI} {i : Nat} (h : i < ls.length) : nth (hsK ls) i = ((cith ls i).h : Int) := by simp [nth, hsK, cith, h]
theorem nth_csK {ls : List CI} {i : Nat} (h : i < ls.length) : nth (csK ls) i = (cith ls i).cy := by simp [nth, csK, cith, h]
/-- The best so far. -/
def bestTo (cs : List Int) (i : Nat) : Int × Nat := (cs.take i).foldl (bestF cs) (0, 0)
theorem bestTo_succ {cs : List Int} {i : Nat} (h : i < cs.length) : bestTo cs (i + 1) = bestF cs (bestTo cs i) (nth cs i) := by
  unfold bestTo
  rw [take_nth cs i h, List.foldl_append]
  rfl
theorem count_le_len (cs : List Int) (c : Int) (j : Nat) : (cs.take j).count c ≤ cs.length := Nat.le_trans List.count_le_length (by rw [List.length_take]; omega)
theorem ints_of_own {w : World} {base e : Nat} {v : Value} {zs : List Int} (n : Nat) (hn : zs.length = n) (h : w.ownsRow base e 1 v n ((zs.take n).map (Value.int .i64))) : Ints w.heap.size w v zs ∧ ∃ a c, v = .slice a n c ∧ n ≤ c := by
  rw [List.take_of_length_le (by omega)] at h
  subst hn
  refine ⟨own_ints' h, ?_⟩
  rcases h.2 with ⟨rfl, h0⟩ | ⟨g, cap, cur, rfl, _, hh, hn, _⟩
  · rw [h0]; exact ⟨_, _, rfl, Nat.le_refl _⟩
  · exact ⟨_, _, rfl, hn⟩

set_option maxRecDepth 100000 in
set_option maxHeartbeats 2000000 in
theorem rcompress_any (base : Nat) (v : Value) (ls : List CI) (first win : Int) (w : World) (hk : KR w base v ls) (h1 : 0 < ls.length) (hlen : ls.length ≤ 100) (hfirst : (cith ls 0).l = first) (hf : -1125899906842624 ≤ first ∧ first ≤ 1125899906842624) (hw : 0 ≤ win ∧ win ≤ 1048576)
    (hin : ∀ i, i < ls.length → first ≤ (cith ls i).l ∧ (cith ls i).l ≤ first + win) :
    Calls Tryz.prog 90 #[v] w fun e w' => e = .returned (.agg #[.int .i64 (first + tolL (rsK first ls)), .int .u32 (crewTo (hsK ls) 6), .int .i64 (bestTo (csK ls) ls.length).1]) ∧ w.grownBy w' none := by
  obtain ⟨i0, hi0, hz0, hz1, hz2⟩ := info_parts Tryz.info_i64
  obtain ⟨j0, hj0, hy0, hy1, hy2⟩ := info_parts Tryz.info_int
  obtain ⟨g, cap, rfl, hcap, ⟨hg0, hg1⟩, hcell⟩ := hk.cells h1
  obtain ⟨n, hn⟩ : ∃ n, Hid (ls.length = n) := ⟨_, hid rfl⟩
  have hin0 : ∀ x ∈ rsK first ls, 0 ≤ x ∧ x ≤ 1048576 := by
    intro x hx
    obtain ⟨y, hy, rfl⟩ := List.mem_map.1 hx
    obtain ⟨i, hi, e⟩ := List.getElem_of_mem hy
    have h9 := hin i hi
    have e2 : cith ls i = y := by simp [cith, hi, e]
    rw [e2] at h9
    omega
  have hrl : (rsK first ls).length = n := by simp [rsK, hn.out]
  have hhl : (hsK ls).length = n := by simp [hsK, hn.out]
  have hcl : (csK ls).length = n := by simp [csK, hn.out]
  have HRN := hid (fun i (hi : i < n) => nth_rsK (first := first) (ls := ls) (i := i) (by rw [hn.out]; exact hi))
  have HHN := hid (fun i (hi : i < n) => nth_hsK (ls := ls) (i := i) (by rw [hn.out]; exact hi))
  have HCN := hid (fun i (hi : i < n) => nth_csK (ls := ls) (i := i) (by rw [hn.out]; exact hi))
  have HI0 := hid hin0
  have HIN := hid hin
  rw [hn.out] at h1 hcap hlen
  rw [hn.out]
  obtain ⟨rs, hrs⟩ : ∃ rs, Hid (rsK first ls = rs) := ⟨_, hid rfl⟩
  obtain ⟨hs, hhs⟩ : ∃ hs, Hid (hsK ls = hs) := ⟨_, hid rfl⟩
  obtain ⟨cs, hcs⟩ : ∃ cs, Hid (csK ls = cs) := ⟨_, hid rfl⟩
  rw [hrs.out] at hrl HRN HI0
  rw [hhs.out] at hhl HHN
  rw [hcs.out] at hcl HCN
  rw [hrs.out, hhs.out, hcs.out]
  have HRL := hid hrl
  have HHL := hid hhl
  have HCL := hid hcl
  obtain ⟨f0, f1⟩ := hf
  obtain ⟨w0, w1'⟩ := hw
  have key : Hid (∀ W : World, w.grownBy W none → ∀ i, i < n → W.cell? ⟨g, i * 6, none⟩ = some (.int .i64 (cith ls i).l) ∧ W.cell? ⟨g, i * 6 + 2, none⟩ = some (.int .i64 (nth hs i)) ∧ W.cell? ⟨g, i * 6 + 3, none⟩ = some (.int .i64 (nth cs i))) := hid (fun W gW i hi => by
    obtain ⟨q0, _, q2, q3⟩ := hcell W (gW.block g hg1 (by simp)) i (by rw [hn.out]; exact hi)
    rw [HHN.out i hi, HCN.out i hi]
    exact ⟨q0, q2, q3⟩)
  have key0 : Hid (∀ W : World, w.grownBy W none → W.cell? ⟨g, 0, none⟩ = some (.int .i64 first)) := hid (fun W gW => by
    have h9 := (key.out W gW 0 h1).1
    rw [Nat.zero_mul, hfirst] at h9
    exact h9)
  clear hk hin hin0 hcell hrl hhl hcl
  obtain ⟨m, hm⟩ : ∃ m, Hid (tolL rs = m) := ⟨_, hid rfl⟩
  obtain ⟨r, hr⟩ : ∃ r, Hid (crewTo hs 6 = r) := ⟨_, hid rfl⟩
  obtain ⟨bb, hbb⟩ : ∃ bb, Hid ((bestTo cs n).1 = bb) := ⟨_, hid rfl⟩
  rw [hm.out, hr.out, hbb.out]
  obtain ⟨bx, hbx⟩ : ∃ bx, Hid (w.heap.size = bx) := ⟨_, hid rfl⟩
  obtain ⟨A, hA⟩ : ∃ A, Hid (w.alloc (.cells #[.int .i64 0, .int .u32 0, .int .i64 0] 107) = A) := ⟨_, hid rfl⟩
  have GA : Hid (w.grownBy A none) := hid (by rw [← hA.out]; exact gr_alloc (gr_refl w none) _)
  have FA : Hid (A.heap[bx]? = some (.cells #[.int .i64 0, .int .u32 0, .int .i64 0] 107 (0, 0))) := hid (by rw [← hA.out, ← hbx.out]; exact heap_alloc_new w _)
  go_enter Tryz.func90, Tryz.ntmps90
  go_wp2_with fail
  rw [hA.out, hbx.out]
  go_loopw [3, 4, 5, 6, 7] (fun vr vh vb vt vi wr => ∃ (i : Nat) (b : Int) (t : Nat), vi = .int .i64 i ∧ vb = .int .i64 b ∧ vt = .int .i64 t ∧ i ≤ n ∧ t ≤ 100 ∧ Hid (bestTo cs i = (b, t)) ∧ Hid (TwoR A wr vr vh i i rs hs)) (fun _ _ _ _ vi _ => n - (intOf vi).toNat)
  case atStart => exact ⟨0, 0, 0, rfl, rfl, rfl, Nat.zero_le _, by omega, hid rfl, hid ⟨World.ownsRow_nil _ _ _ _, World.ownsRow_nil _ _ _ _, by simp [Value.ownBlock], gr_refl A none⟩⟩
  case round =>
    obtain ⟨i, b, t, rfl, rfl, rfl, hi, ht, HB, HT⟩ := hrel
    by_cases hlt : i < n
    · have G0 := hid (gr_trans GA.out HT.out.g)
      have k0 := key0.out wr G0.out
      obtain ⟨q0, -, -⟩ := key.out wr G0.out i hlt
      obtain ⟨x, hx⟩ : ∃ x, Hid ((cith ls i).l = x) := ⟨_, hid rfl⟩
      rw [hx.out] at q0
      have hxb := HIN.out i (by rw [hn.out]; exact hlt)
      rw [hx.out] at hxb
      obtain ⟨x0, x1⟩ := hxb
      have ws : IntKind.i64.wrap (x - first) = x - first := by rw [IntKind.wrap_i64]; omega
      have f2 : (i : Int) < (n : Int) := by omega
      have f3 : ((i : Int)).toNat = i := by omega
      have f4 : (0 : Int) < (n : Int) := by omega
      have hrx : Hid (nth rs i = x - first) := hid (by rw [HRN.out i hlt, hx.out])
      have HTd := hid (HT.out.grown (gr_drew (gr_refl wr none)))
      have HTa : Hid ((wr.drew.alloc (.cells #[.int .i64 (x - first)] 2)).ownsRow A.heap.size 2 1 u3 i ((rs.take i).map (Value.int .i64))) := hid (HTd.out.rr.alloc _)
      have HBs : Hid (A.heap.size ≤ wr.heap.size) := hid HT.out.g.size
      go_wp2_with fail
      apply wp_behind (fun g c W => Hid (TwoR A W (.slice (some ⟨g, 0, none⟩) (i + 1) c) u4 (i + 1) i rs hs))
      case h =>
        go_region_law (refine step_append_at rfl (.tmp 18) (.tmp 29) 35 rfl A.heap.size 2 i0 (.int .i64 0) 1 8 Tryz.underlying35 hi0 hz0 hz1 hz2 rfl (by decide) u3 i ((rs.take i).map (Value.int .i64)) (by simp [Act.eval]) HTa.out ⟨wr.heap.size, 0, none⟩ 1 1 [.int .i64 (x - first)] (by simp [Act.eval]) rfl (cell_one_new _ _ _) (by simp [Value.oneCell']) (by unfold maxLen; omega) (by omega) (by have := HBs.out; simp; omega) ?_; intro v4 w4 hown4 hg4 hat4; obtain ⟨g4, cap4, rfl⟩ := own_slice hown4; have T4 := hid (HTd.out.one (by rw [HRL.out]; exact hlt) hrx.out hown4 hg4 hat4); clear hown4 hg4 hat4)
        all_goals exact ⟨g4, cap4, rfl, T4⟩
      case k =>
        intro g4 cap4 w5 T4
        clear HTa HBs HTd HT k0 q0 ws
        have G5 := hid (gr_trans GA.out T4.out.g)
        obtain ⟨-, q2, -⟩ := key.out w5 G5.out i hlt
        obtain ⟨y, hy⟩ : ∃ y, Hid (nth hs i = y) := ⟨_, hid rfl⟩
        rw [hy.out] at q2
        have HTa : Hid ((w5.alloc (.cells #[.int .i64 y] 3)).ownsRow A.heap.size 3 1 u4 i ((hs.take i).map (Value.int .i64))) := hid (T4.out.rh.alloc _)
        have HBs : Hid (A.heap.size ≤ w5.heap.size) := hid T4.out.g.size
        go_wp2_with (at_builtin; go_loud (refine wpList_append_own_at _ rfl (.tmp 31) (.tmp 38) 36 rfl A.heap.size 3 j0 (.int .i64 0) 1 8 Tryz.underlying36 hj0 hy0 hy1 hy2 rfl (by decide) _ _ _ rfl HTa.out ⟨w5.heap.size, 0, none⟩ 1 1 [.int .i64 y] rfl rfl (cell_one_new _ _ _) (by simp [Value.oneCell']) (by unfold maxLen; omega) (by omega) (by have := HBs.out; simp; omega) ?_; intro v6 w6 hown6 hg6 _ hat6; have T6 := hid (T4.out.two (by rw [HHL.out]; exact hlt) hy.out hown6 hg6 hat6); clear hown6 hg6 hat6))
        clear HTa HBs q2
        have G6 := hid (gr_trans GA.out T6.out.g)
        obtain ⟨c, hc⟩ : ∃ c, Hid (nth cs i = c) := ⟨_, hid rfl⟩
        go_loopw [8, 9] (fun vk vj wr => ∃ (j k : Nat), vk = .int .i64 k ∧ vj = .int .i64 j ∧ j ≤ n ∧ k ≤ j ∧ Hid ((cs.take j).count c = k) ∧ Hid (w6.grownBy wr none)) (fun _ vj _ => n - (intOf vj).toNat)
        case atStart => exact ⟨0, 0, rfl, rfl, Nat.zero_le _, Nat.le_refl _, hid (by simp), hid (gr_refl w6 none)⟩
        case round =>
          obtain ⟨j, k, rfl, rfl, hj, hkj, HK, HG⟩ := hrel
          by_cases hjn : j < n
          · have Gr := gr_trans G6.out HG.out
            obtain ⟨-, -, p3⟩ := key.out wr Gr j hjn
            obtain ⟨-, -, p4⟩ := key.out wr Gr i hlt
            rw [hc.out] at p4
            obtain ⟨d, hd⟩ : ∃ d, Hid (nth cs j = d) := ⟨_, hid rfl⟩
            rw [hd.out] at p3
            have f5 : (j : Int) < (n : Int) := by omega
            have f6 : ((j : Int)).toNat = j := by omega
            have hct := hid (count_take (cs := cs) (j := j) c (by rw [HCL.out]; exact hjn))
            clear Gr
            by_cases hdc : d = c
            · subst hdc
              go_wp2_with fail
              go_quiet (fail)
              go_wp2_with fail
              go_roundw
              case rel => exact ⟨j + 1, k + 1, by go_num, by go_num, by omega, by omega, hid (by rw [hct.out, hd.out, HK.out, if_pos rfl]), hid (gr_drewN HG.out _)⟩
              case measure => simp [intOf]; omega
            · have hdb : (d == c) = false := by simp [hdc]
              go_wp2_with fail
              go_quiet (fail)
              go_wp2_with fail
              go_roundw
              case rel => exact ⟨j + 1, k, rfl, by go_num, by omega, by omega, hid (by rw [hct.out, hd.out, HK.out, if_neg hdc]; rfl), hid (gr_drewN HG.out _)⟩
              case measure => simp [intOf]; omega
          · obtain rfl : j = n := by omega
            have hk9 : Hid (cs.count c = k) := hid (by have := HK.out; rwa [List.take_of_length_le (by rw [HCL.out]; exact Nat.le_refl _)] at this)
            have Gr := gr_trans G6.out HG.out
            obtain ⟨-, -, p4⟩ := key.out wr Gr i hlt
            rw [hc.out] at p4
            have T9 := hid (T6.out.grown HG.out)
            have HS := hid (bestTo_succ (cs := cs) (i := i) (by rw [HCL.out]; exact hlt))
            clear Gr
            by_cases h1t : t < k
            · have f7 : (t : Int) < (k : Int) := by omega
              have HB2 : Hid (bestTo cs (i + 1) = (c, k)) := hid (by rw [HS.out, HB.out, hc.out]; unfold bestF; rw [if_pos (.inl (by rw [hk9.out]; exact h1t)), hk9.out])
              go_wp2_with fail
              go_roundw
              case rel => exact ⟨i + 1, c, k, by go_num, rfl, rfl, by omega, by omega, HB2, T9⟩
              case measure => simp [intOf]; omega
            · by_cases h2t : k = t ∧ b < c
              · obtain ⟨h3t, h4t⟩ := h2t
                subst h3t
                have HB2 : Hid (bestTo cs (i + 1) = (c, k)) := hid (by rw [HS.out, HB.out, hc.out]; unfold bestF; rw [if_pos (.inr ⟨hk9.out, h4t⟩), hk9.out])
                have f8 : ((k : Int) == (k : Int)) = true := by simp
                go_wp2_with fail
                go_roundw
                case rel => exact ⟨i + 1, c, k, by go_num, rfl, rfl, by omega, by omega, HB2, T9⟩
                case measure => simp [intOf]; omega
              · have HB2 : Hid (bestTo cs (i + 1) = (b, t)) := hid (by rw [HS.out, HB.out, hc.out]; unfold bestF; rw [if_neg (by rw [hk9.out]; simp only; omega)])
                have f7 : ¬ (t : Int) < (k : Int) := by omega
                by_cases h3t : k = t
                · subst h3t
                  have h4t : ¬ b < c := fun h => h2t ⟨rfl, h⟩
                  have f8 : ((k : Int) == (k : Int)) = true := by simp
                  clear h2t
                  go_wp2_with fail
                  go_roundw
                  case rel => exact ⟨i + 1, b, k, by go_num, rfl, rfl, by omega, by omega, HB2, T9⟩
                  case measure => simp [intOf]; omega
                · have f8 : ((k : Int) == (t : Int)) = false := by simp; omega
                  clear h2t
                  go_wp2_with fail
                  go_roundw
                  case rel => exact ⟨i + 1, b, t, by go_num, rfl, rfl, by omega, by omega, HB2, T9⟩
                  case measure => simp [intOf]; omega
    · obtain rfl : i = n := by omega
      obtain ⟨hIr, ar, cr, rfl, hcr⟩ := ints_of_own i HRL.out HT.out.rr
      obtain ⟨hIh, ah, ch, rfl, -⟩ := ints_of_own i HHL.out HT.out.rh
      have hne : rs ≠ [] := by
        intro h
        have := HRL.out
        rw [h] at this
        simp at this
        omega
      have htb := tolL_bounds HI0.out (by rw [HRL.out]; omega)
      have h64 : In64 rs := fun x hx => by have := HI0.out x hx; omega
      have HTol := hid (rtol_any ar i cr rs hcr (by rw [HRL.out]; omega) h64 wr hIr)
      rw [if_neg hne] at HTol
      rw [hm.out] at HTol htb
      obtain ⟨t0, t1⟩ := htb
      have HIh := hid hIh
      have HCrew : Hid (∀ W : World, wr.grownBy W none → Calls Tryz.prog 64 #[.slice ah i ch] W fun e w' => e = .returned (.int .u32 r) ∧ W.grownBy w' none) := hid (fun W gW => by
        have h9 := rcrew_any (n₀ := wr.heap.size) ah ch hs (by rw [HHL.out]; exact hlen) W (by rw [HHL.out]; exact HIh.out.below (gr_below gW (Nat.le_refl _) (by simp)))
        rw [HHL.out, hr.out] at h9
        exact h9)
      have wf : IntKind.i64.wrap (first + m) = first + m := by rw [IntKind.wrap_i64]; omega
      obtain rfl : b = bb := by rw [← hbb.out, HB.out]
      have f4 : (0 : Int) < (i : Int) := by omega
      clear hIr hIh hne h64 hlt
      go_wp2_with fail
      refine HTol.out.mono ?_
      rintro e w7 ⟨rfl, g7⟩
      have G7 := hid g7
      have k0 := key0.out w7 (gr_trans GA.out (gr_trans HT.out.g g7))
      clear g7
      go_wp2_with fail
      go_region_with (go_at_call 64; refine (HCrew.out _ (gr_drew G7.out)).mono ?_; rintro e w8 ⟨rfl, g8⟩; have G8 := hid (gr_trans HT.out.g (gr_trans (gr_drew G7.out) g8)); have k0' := key0.out w8 (gr_trans GA.out G8.out); have F8 := hid (gr_heap G8.out FA.out (by simp)); have e0 := kcell F8.out 0 _ rfl; have e1 := kcell F8.out 1 _ rfl; have e2 := kcell F8.out 2 _ rfl; have z0 := kfroz F8.out 0; have z1 := kfroz F8.out 1; have z2 := kfroz F8.out 2; clear g8)
      all_goals (
        go_wp2_with fail
        refine bodyPost_ret (v := .agg #[.int .i64 (first + m), .int .u32 r, .int .i64 b]) (by simp [results, Tryz.results90, go_sem, e0, e1, e2]) rfl ⟨rfl, ?_⟩
        exact gr_setNew (gr_setNew (gr_setNew (gr_trans GA.out G8.out) (by have := hbx.out; omega) 0 _) (by have := hbx.out; omega) 1 _) (by have := hbx.out; omega) 2 _)
end Go.Proofs.YtckoaeoecjphiaaGreat
