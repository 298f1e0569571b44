/- Lemmas: round.Spread. round.Run. The document's Family(2, 0). Rounds of right clocks, in plain words; the chapter's two examples. round.Bound. -/
import Derived.Test.YtckoaeoecjphiaaGreatK41
import Derived.Test.YtckoaeoecjphiaaGreatK14
import Derived.Test.YtckoaeoecjphiaaGreatK40
import Derived.Test.YtckoaeoecjphiaaGreatK35
import Derived.Deep.RegionHeld3

/- round.Spread. -/
namespace Go.Proofs.YtckoaeoecjphiaaGreat
open Go.RowKit Go.Lib

def shownL (l : List Ck) (t : Int) : List Int := l.map fun k => k.at_ t
def spreadB (l : List Ck) (t : Int) : Bool := decide (0 < l.length) && (l.all newC && l.all fun k => nowB k.m t)
def spreadV (l : List Ck) (t : Int) : Int := if spreadB l t = true then maxL (shownL l t) - minL (shownL l t) else 0
theorem nthC_get {l : List Ck} {j : Nat} (hj : j < l.length) : nthC l j = l[j] := by unfold nthC; rw [List.getElem?_eq_getElem hj]; rfl
theorem all_nthC {l : List Ck} {p : Ck → Bool} (h : ∀ j, j < l.length → p (nthC l j) = true) : l.all p = true := by
  refine List.all_eq_true.2 (fun x hx => ?_)
  obtain ⟨j, hj, rfl⟩ := List.getElem_of_mem hx
  have := h j hj
  rwa [nthC_get hj] at this
theorem any_not {l : List Ck} {p : Ck → Bool} {j : Nat} (hj : j < l.length) (h : p (nthC l j) = false) : l.all p = false := by
  rw [Bool.eq_false_iff]
  intro e
  have := List.all_eq_true.1 e _ (nthC_mem hj)
  rw [h] at this
  cases this
theorem upto_shown (l : List Ck) (t : Int) : upto (fun j => (nthC l j).at_ t) l.length = shownL l t := by
  unfold upto shownL
  refine List.ext_getElem (by simp) (fun i h1 h2 => ?_)
  simp at h2
  simp [nthC_get h2]
theorem shown_bd {l : List Ck} {t : Int} (h : spreadB l t = true) : ∀ x ∈ shownL l t, -3377699720527872 ≤ x ∧ x ≤ 3377699720527872 := by
  intro x hx
  obtain ⟨k, hk, rfl⟩ := List.mem_map.1 hx
  unfold spreadB at h
  simp only [Bool.and_eq_true, decide_eq_true_eq] at h
  have h1 := List.all_eq_true.1 h.2.1 k hk
  have h2 := List.all_eq_true.1 h.2.2 k hk
  have h' : realB t = true ∧ k.m ≤ t := by simpa [nowB] using h2
  have h3 := realB_iff.1 h'.1
  have h4 := clockAt_bd (newC_ok h1) h'.2
  unfold Ck.at_
  omega
theorem shownL_len (l : List Ck) (t : Int) : (shownL l t).length = l.length := List.length_map _

set_option maxRecDepth 100000 in
set_option maxHeartbeats 4000000 in
theorem spread_made (sv : Value) (l : List Ck) (t : Int) (w : World) (hs : CksAt w.heap.size w sv l) (hz : l.length * 24 ≤ 140737488351232) (hn : l.all newC = true) (h0 : 0 < l.length) :
    Calls Tryz.prog 17 #[sv, .int .i64 t] w fun e w' => e = .returned (.tuple #[.int .i64 (spreadV l t), .bool (spreadB l t)]) ∧ w.grownBy w' none := by
  obtain ⟨i0, hi, hz0, hz1, hz2⟩ := info_parts Tryz.info_i64
  have HM := hid (made_ok sv l w hs hz (fun k hk => List.all_eq_true.1 hn k hk))
  have HOk : Hid (∀ j, j < l.length → (nthC l j).ok) := hid (fun j hj => newC_ok (List.all_eq_true.1 hn _ (nthC_mem hj)))
  have HF : Hid (∀ j, j < l.length → nowB (nthC l j).m t = false → spreadB l t = false) := hid (fun j hj h => by
    unfold spreadB
    rw [any_not (p := fun k => nowB k.m t) hj h]
    simp)
  have HT : Hid ((∀ j, j < l.length → nowB (nthC l j).m t = true) → spreadB l t = true) := hid (fun h => by
    unfold spreadB
    rw [all_nthC (p := fun k => nowB k.m t) h, hn, decide_eq_true h0]
    rfl)
  have HV : Hid (spreadB l t = true → spreadV l t = maxL (upto (fun j => (nthC l j).at_ t) l.length) - minL (upto (fun j => (nthC l j).at_ t) l.length) ∧ IntKind.i64.wrap (maxL (upto (fun j => (nthC l j).at_ t) l.length) - minL (upto (fun j => (nthC l j).at_ t) l.length)) = maxL (upto (fun j => (nthC l j).at_ t) l.length) - minL (upto (fun j => (nthC l j).at_ t) l.length)) := hid (fun h => by
    rw [upto_shown]
    have hne : shownL l t ≠ [] := by intro e; have := shownL_len l t; rw [e] at this; simp at this; omega
    have b1 := shown_bd h _ (maxL_mem _ hne)
    have b2 := shown_bd h _ (minL_mem _ hne)
    refine ⟨by unfold spreadV; rw [if_pos h], IntWalk.i64_in _ (by omega)⟩)
  have HV0 : Hid (spreadB l t = false → spreadV l t = 0) := hid (fun h => by unfold spreadV; rw [h]; simp)
  obtain ⟨n, hnn⟩ : ∃ n, Hid (l.length = n) := ⟨_, hid rfl⟩
  rw [hnn.out] at HM HOk HF HT HV h0 hz
  obtain ⟨B, hB⟩ : ∃ B, Hid (spreadB l t = B) := ⟨_, hid rfl⟩
  obtain ⟨V, hVV⟩ : ∃ V, Hid (spreadV l t = V) := ⟨_, hid rfl⟩
  rw [hB.out] at HF HT HV HV0
  rw [hVV.out] at HV HV0
  rw [hB.out, hVV.out]
  clear hs hn
  go_enter Tryz.func17, Tryz.ntmps17
  go_wp2_with fail
  refine HM.out.mono ?_
  rintro e w1 ⟨v, ps, rfl, hP, g1⟩
  have HP := hid hP
  have G1 := hid g1
  have Hn0 := hid h0
  obtain ⟨pb, pcap, rfl, hpc, ⟨hpl, hph⟩, hpne, hpp⟩ := hP.cells h0
  have HPP := hid hpp
  have hnz : ((n : Int) == 0) = false := by simp; omega
  clear g1 hP hpp hpne
  go_wp2_with fail
  go_loopw [8, 27] (fun vs vi wr => ∃ k : Nat, vi = .int .i64 k ∧ k ≤ n ∧ Hid (∀ j, j < k → nowB (nthC l j).m t = true) ∧ Hid (wr.ownsRow w1.heap.size 2 1 vs k ((upto (fun j => (nthC l j).at_ t) k).map (Value.int .i64))) ∧ Hid (w1.grownBy wr none)) (fun _ vi _ => n - (intOf vi).toNat)
  case atStart => exact ⟨0, rfl, Nat.zero_le _, hid (fun j hj => absurd hj (Nat.not_lt_zero j)), hid (World.ownsRow_nil _ _ _ _), hid (gr_refl w1 none)⟩
  case round =>
    obtain ⟨k, rfl, hk, HA, HO, HG⟩ := hrel
    by_cases hlt : k < n
    · have hk2 : (k : Int) < (n : Int) := by omega
      have hkc : k < pcap := by omega
      have q0 : wr.cell? ⟨pb, k, none⟩ = some (.pointer (some ⟨ps k, 0, none⟩)) := gr_cell HG.out (HPP.out k hlt)
      have HC := hid ((HP.out.clk k hlt).kept HG.out (by simp))
      have HOk1 := hid (HOk.out k hlt)
      have HFk := hid (HF.out k hlt)
      have HA1 : Hid (nowB (nthC l k).m t = true → ∀ j, j < k + 1 → nowB (nthC l j).m t = true) := hid (fun h j hj => by
        by_cases e : j = k
        · subst e; exact h
        · exact HA.out j (by omega))
      have HU : Hid ((upto (fun j => (nthC l j).at_ t) (k + 1)).map (Value.int .i64) = (upto (fun j => (nthC l j).at_ t) k).map (Value.int .i64) ++ [Value.int .i64 ((nthC l k).at_ t)]) := hid (by rw [upto_succ, List.map_append]; rfl)
      obtain ⟨⟨m, ba, r⟩, hkk⟩ : ∃ kk, Hid (nthC l k = kk) := ⟨_, hid rfl⟩
      rw [hkk.out] at HC HOk1 HFk HA1 HU
      dsimp only at HC HOk1 HFk HA1 HU
      by_cases hnow : nowB m t = true
      · have Hnow := hid hnow
        obtain ⟨x, hx⟩ : ∃ x, Hid (clockAt m ba r t = x) := ⟨_, hid rfl⟩
        have HU2 : Hid ((upto (fun j => (nthC l j).at_ t) (k + 1)).map (Value.int .i64) = (upto (fun j => (nthC l j).at_ t) k).map (Value.int .i64) ++ [Value.int .i64 x]) := hid (by rw [HU.out]; unfold Ck.at_; dsimp only; rw [hx.out])
        clear hnow
        go_wp2_with fail
        refine (now_ok (ps k) m ba r t x _ HC.out HOk1.out Hnow.out hx).mono ?_
        rintro e w2 ⟨rfl, g2⟩
        have G2 := hid (gr_trans HG.out g2)
        have HO2 := hid (HO.out.kept g2 (by cases u8.ownBlock <;> simp))
        clear g2 q0
        go_wp2_with (at_builtin; refine wpList_append_own_at _ rfl (.tmp 39) (.tmp 41) 35 rfl w1.heap.size 2 i0 (.int .i64 0) 1 8 Tryz.underlying35 hi hz0 hz1 hz2 rfl (by decide) _ _ _ rfl (HO2.out.alloc _) ⟨w2.heap.size, 0, none⟩ 1 1 [.int .i64 x] rfl rfl (cell_one_new' _ _ _) (by simp [Value.oneCell']) (by unfold maxLen; omega) (by omega) (by have := G2.out.size; simp; omega) ?_; intro v2 w3 hown3 hg3 _ hat3)
        have hg5 : (w2.alloc (.cells #[.int .i64 x] 2)).grownBy w3 u8.ownBlock := hg3
        have HG3 : Hid (w1.grownBy w3 none) := hid (gr_ownr (gr_alloc G2.out _) hg5 (fun q hq => (HO2.out.lt q hq).1))
        have HO3 : Hid (w3.ownsRow w1.heap.size 2 1 v2 (k + 1) ((upto (fun j => (nthC l j).at_ t) (k + 1)).map (Value.int .i64))) := hid (by rw [HU2.out]; exact hown3)
        have HA2 := hid (HA1.out Hnow.out)
        clear hown3 hg3 hat3 hg5
        refine ⟨⟨k + 1, by go_num, by omega, HA2, HO3, HG3⟩, ?_⟩
        simp [intOf]; omega
      · have hnf : nowB m t = false := Bool.eq_false_iff.2 hnow
        have Hnf := hid hnf
        have HB0 := hid (HFk.out hnf)
        have HV1 := hid (HV0.out HB0.out)
        have G2 := hid (gr_trans G1.out HG.out)
        clear hnow hnf
        go_wp2_with fail
        refine (now_bad (ps k) m ba r t _ HC.out Hnf.out).mono ?_
        rintro e w2 ⟨rfl, rfl⟩
        go_wp2_with fail
        go_ret2
        exact ⟨by rw [HB0.out, HV1.out]; rfl, G2.out⟩
    · obtain rfl : k = n := by omega
      clear hlt
      have hB1 := HT.out HA.out
      obtain ⟨hV1, hw⟩ := HV.out hB1
      have HB1 := hid hB1
      have HV1 := hid hV1
      have G2 := hid (gr_trans G1.out HG.out)
      have hul : (upto (fun j => (nthC l j).at_ t) k).length = k := upto_length _ _
      have hJ := own_ints' (w := wr) (zs := upto (fun j => (nthC l j).at_ t) k) (by rw [hul]; exact HO.out)
      obtain ⟨a, len, cap, rfl⟩ : ∃ a2 len cap2, u8 = .slice a2 len cap2 := by
        rcases hJ with ⟨a, cap, e, _⟩ | ⟨b, off, cap', e, _⟩
        · exact ⟨_, _, _, e⟩
        · exact ⟨_, _, _, e⟩
      have HJ := hid hJ
      have Hne : Hid (upto (fun j => (nthC l j).at_ t) k ≠ []) := hid (by intro e; rw [e] at hul; simp at hul; have := Hn0.out; omega)
      have Hz8 : Hid ((upto (fun j => (nthC l j).at_ t) k).length * 8 ≤ 140737488355328) := hid (by rw [hul]; omega)
      obtain ⟨zs, hzs⟩ : ∃ zs, Hid (upto (fun j => (nthC l j).at_ t) k = zs) := ⟨_, hid rfl⟩
      rw [hzs.out] at HJ Hne Hz8 HV1 hw
      clear hB1 hV1 hul hJ HO
      go_wp2_with fail
      refine (max_any a len cap zs Hne.out Hz8.out _ _ HJ.out).mono ?_
      rintro e w2 ⟨rfl, rfl⟩
      go_wp2_with fail
      refine (min_any a len cap zs Hne.out Hz8.out _ _ HJ.out).mono ?_
      rintro e w2 ⟨rfl, rfl⟩
      go_wp2_with fail
      go_ret2
      exact ⟨by rw [HB1.out, HV1.out]; rfl, G2.out⟩

set_option maxRecDepth 100000 in
set_option maxHeartbeats 4000000 in
theorem spread_not (sv : Value) (l : List Ck) (t : Int) (w : World) (hs : CksAt w.heap.size w sv l) (hz : l.length * 24 ≤ 140737488351232) (hn : l.all newC = false ∨ l.length = 0) :
    Calls Tryz.prog 17 #[sv, .int .i64 t] w fun e w' => e = .returned (.tuple #[.int .i64 0, .bool false]) ∧ w.grownBy w' none := by
  cases hal : l.all newC with
  | false =>
    have HM := hid (made_any sv l w hs hz)
    rw [hal] at HM
    clear hs hn
    go_enter Tryz.func17, Tryz.ntmps17
    go_wp2_with fail
    refine HM.out.mono ?_
    rintro e w1 ⟨v, rfl, g1⟩
    go_wp2_with fail
    go_ret2
    exact ⟨rfl, g1⟩
  | true =>
    have h0 : l.length = 0 := by
      rcases hn with h | h
      · rw [hal] at h; cases h
      · exact h
    have HM := hid (made_ok sv l w hs hz (fun k hk => List.all_eq_true.1 hal k hk))
    rw [h0] at HM
    clear hs hn hal
    go_enter Tryz.func17, Tryz.ntmps17
    go_wp2_with fail
    refine HM.out.mono ?_
    rintro e w1 ⟨v, ps, rfl, hP, g1⟩
    obtain ⟨a, cap, rfl⟩ : ∃ a cap, v = .slice a 0 cap := by
      rcases hP.row.2 with ⟨rfl, _⟩ | ⟨g, cap, cur, rfl, _⟩
      · exact ⟨_, _, rfl⟩
      · exact ⟨_, _, rfl⟩
    clear hP
    go_wp2_with fail
    go_ret2
    exact ⟨rfl, g1⟩
theorem spread_any (sv : Value) (l : List Ck) (t : Int) (w : World) (hs : CksAt w.heap.size w sv l) (hz : l.length * 24 ≤ 140737488351232) :
    Calls Tryz.prog 17 #[sv, .int .i64 t] w fun e w' => e = .returned (.tuple #[.int .i64 (spreadV l t), .bool (spreadB l t)]) ∧ w.grownBy w' none := by
  by_cases h0 : 0 < l.length
  · cases hal : l.all newC with
    | true => exact spread_made sv l t w hs hz hal h0
    | false =>
      have hb : spreadB l t = false := by unfold spreadB; rw [hal]; simp
      have hv : spreadV l t = 0 := by unfold spreadV; rw [hb]; simp
      rw [hb, hv]
      exact spread_not sv l t w hs hz (.inl hal)
  · have hb : spreadB l t = false := by unfold spreadB; rw [decide_eq_false h0]; rfl
    have hv : spreadV l t = 0 := by unfold spreadV; rw [hb]; simp
    rw [hb, hv]
    exact spread_not sv l t w hs hz (.inr (by omega))
end Go.Proofs.YtckoaeoecjphiaaGreat

/- round.Run. -/
namespace Go.Proofs.YtckoaeoecjphiaaGreat
open Go.RowKit Go.Lib

theorem step_append_own_at {P : Program} {w : World} {ops : Array Oper} {o : Oper} {a : Act} {K : Act → World → Prop} {Q : Exit → Act → World → Prop} {E : Prop} (hgd : o.guard = none) (s x : Operand) (t : TypeId)
    (ho : o.op = .call { callee := .builtin .append, args := #[s, x], argTypes := #[t, t] })
    (base : Nat) (e : TypeId) (i : TypeInfo) (z : Value) (size bytes : Nat) (ht : P.underlying t = some (.slice e)) (hi : P.info? e = some i) (hz : i.zero = some z)
    (hsize : i.size = size) (hby : i.bytes = bytes) (hzs : z.cells.size = size) (hsz : 0 < size)
    (v : Value) (n : Nat) (xs : List Value) (hs : a.eval s = v) (hown : w.ownsRow base e size v n xs)
    (ad : Addr) (m c : Nat) (news : List Value) (hx : a.eval x = .slice (some ad) m c) (hl : news.length = m * size) (hnews : ∀ j u, news[j]? = some u → w.cell? (ad.add j) = some u) (h1 : ∀ u ∈ news, u.oneCell' = true)
    (h63 : n + m ≤ maxLen) (hbytes : (n + m) * bytes ≤ 140737488355328) (hbase : base ≤ w.heap.size)
    (h : ∀ v' w', w'.ownsRow base e size v' (n + m) (xs ++ news) → w.grownBy w' v.ownBlock → (v'.ownBlock = v.ownBlock ∨ v'.ownBlock = some w.heap.size) → K (a.put o.dst v') w') :
    if Region.wanted o (yielded ops a.tmps) = true then Oper.wp P o a w K Q else E := by
  have hw : Region.wanted o (yielded ops a.tmps) = true := by simp [Region.wanted, hgd]
  rw [if_pos hw]
  obtain ⟨v', w', hr, h2, h3, _, h5⟩ := run_append_own_at (P := P) w base t o.type e i z size bytes ht hi hz hsize hby hzs hsz v n xs hown ad m c news hl hnews h1 h63 hbytes hbase
  unfold Oper.wp execOp
  simp only [ho, resolve, invoke, builtin, Sem.run_bind, Sem.run_pure, Result.andThen_ok, List.map_toArray, List.map_cons, List.map_nil, hs, hx, hr]
  exact h _ _ h2 h3 h5
theorem Tryz.info_td : (Tryz.prog.info? 38).map (fun i => (i.zero, i.size, i.bytes)) = some (some (.agg #[.slice none 0 0, .int .u32 0, .int .u32 0, .slice none 0 0, .slice none 0 0, .slice none 0 0]), 6, 104) := by kernel_rfl
/-- Behind the last region of a round: the row and the clone. -/
structure RunFin (wB W4 : World) (B : Nat) (vo v2 v8 : Value) (k : Nat) (xs news : List Value) (L : List Ck) : Prop where
  gr : wB.grownBy W4 vo.ownBlock
  row : W4.ownsRow B 38 6 v2 (k + 1) (xs ++ news)
  cks : CksAt W4.heap.size W4 v8 L
  ne : ∀ q, v2.ownBlock = some q → v8.ownBlock ≠ some q
  new : ∀ q, v2.ownBlock = some q → vo.ownBlock = some q ∨ wB.heap.size ≤ q
theorem gr_row {a b c : World} {row : Option Nat} (h : a.grownBy b none) (g : b.grownBy c row) : a.grownBy c row := gr_trans (gr_none h) g
theorem gr_row2 {a b c : World} {row : Option Nat} (h : a.grownBy b row) (g : b.grownBy c none) : a.grownBy c row := gr_trans h (gr_none g)
section
variable {wB W1 w3 w8 : World} {B k : Nat} {vo v2 v8 : Value} {xs news : List Value} {L : List Ck}
theorem fin_clone_last (g1 : wB.grownBy W1 none) (hown : w3.ownsRow B 38 6 v2 (k + 1) (xs ++ news)) (hg3 : W1.grownBy w3 vo.ownBlock) (hat : v2.ownBlock = vo.ownBlock ∨ v2.ownBlock = some W1.heap.size)
    (hck : CksAt w8.heap.size w8 v8 L) (hf : ∀ q, v8.ownBlock = some q → w3.heap.size ≤ q) (hg8 : w3.grownBy w8 none) : RunFin wB w8 B vo v2 v8 k xs news L :=
  ⟨gr_row2 (gr_row g1 hg3) hg8, hown.kept hg8 (by cases v2.ownBlock <;> simp), hck, fun q h1 h2 => by have := (hown.lt q h1).2; have := hf q h2; omega, fun q hq => by
    rcases hat with h | h
    · exact .inl (by rw [← h]; exact hq)
    · rw [h] at hq
      have := g1.size
      simp at hq
      exact .inr (by omega)⟩
theorem fin_append_last (hvo : ∀ q, vo.ownBlock = some q → q < wB.heap.size) (hL : 0 < L.length) (g8 : wB.grownBy w8 none) (hck : CksAt w8.heap.size w8 v8 L) (hf : ∀ q, v8.ownBlock = some q → wB.heap.size ≤ q)
    (g1 : w8.grownBy W1 none) (hown : w3.ownsRow B 38 6 v2 (k + 1) (xs ++ news)) (hg3 : W1.grownBy w3 vo.ownBlock) (hat : v2.ownBlock = vo.ownBlock ∨ v2.ownBlock = some W1.heap.size) : RunFin wB w3 B vo v2 v8 k xs news L := by
  refine ⟨gr_row (gr_trans g8 g1) hg3, hown, ?_, ?_, ?_⟩
  · have h1 : CksAt W1.heap.size W1 v8 L := hck.keptRow g1 (fun q hq => by cases hq)
    exact h1.keptRow hg3 (fun q hq e => by have := hvo q hq; have := hf q e; omega)
  · intro q h1 h2
    have h3 := hck.blk hL q h2
    have h4 := hf q h2
    rcases hat with h | h
    · have := hvo q (by rw [← h]; exact h1)
      omega
    · rw [h] at h1
      have := g1.size
      simp at h1
      omega
  · intro q hq
    rcases hat with h | h
    · exact .inl (by rw [← h]; exact hq)
    · rw [h] at hq
      have := g1.size
      have := g8.size
      simp at hq
      exact .inr (by omega)
end
theorem news6 {W : World} {q : Nat} {a b c d e f : Value} {t : TypeId} (h : W.heap[q]? = some (.cells #[a, b, c, d, e, f] t)) : ∀ (j : Nat) (u : Value), [a, b, c, d, e, f][j]? = some u → W.cell? ((⟨q, 0, none⟩ : Addr).add j) = some u := by
  intro j u hj
  have e1 : (⟨q, 0, none⟩ : Addr).add j = ⟨q, j, none⟩ := by rw [add_lit_ints, Nat.zero_add]
  rw [e1]
  exact hcell h j u (by rw [← hj]; simp)
theorem one6 {vs vb vh va : Value} {x y : Int} (h1 : vs.oneCell' = true) (h2 : vb.oneCell' = true) (h3 : vh.oneCell' = true) (h4 : va.oneCell' = true) : ∀ u ∈ [vs, .int .u32 x, .int .u32 y, vb, vh, va], u.oneCell' = true := by
  intro u hu
  simp only [List.mem_cons, List.not_mem_nil, or_false] at hu
  rcases hu with rfl | rfl | rfl | rfl | rfl | rfl
  · exact h1
  · rfl
  · rfl
  · exact h2
  · exact h3
  · exact h4
theorem slice_one {n₀ : Nat} {W : World} {sv : Value} {k n : Nat} {f : Nat → Nat → Value} (h : SliceAt n₀ W sv k n f) : sv.oneCell' = true := by
  rcases h with ⟨_, _, rfl, _⟩ | ⟨_, _, _, rfl, _⟩ <;> rfl
theorem slice_frm {n₀ : Nat} {W : World} {sv : Value} {k n : Nat} {f : Nat → Nat → Value} (h : SliceAt n₀ W sv k n f) : ∃ a m c, sv = .slice a m c := by
  rcases h with ⟨a, c, rfl, _⟩ | ⟨_, _, c, rfl, _⟩
  · exact ⟨_, _, _, rfl⟩
  · exact ⟨_, _, _, rfl⟩
theorem lsslice {n₀ : Nat} {w : World} {sv : Value} {l : List Ls} (h : LsAt n₀ w sv l) : ∃ a cap, sv = .slice a l.length cap := by
  rcases h with ⟨a, cap, rfl, h0⟩ | ⟨b, off, cap, rfl, _⟩
  · exact ⟨a, cap, by rw [h0]⟩
  · exact ⟨_, _, rfl⟩

set_option maxRecDepth 100000 in
set_option maxHeartbeats 600000 in
theorem run_few (d : Net) (vd ve vl : Value) (fr : Int) (sv lv : Value) (l : List Ck) (xs : List Ls) (w : World) (hN : NetAt w.heap.size w d vd ve vl) (hs : CksAt w.heap.size w sv l) (hz : l.length * 24 ≤ 140737488351232)
    (hl : LsAt w.heap.size w lv xs) (hx : ∀ x ∈ xs, x.ok) (hxl : xs.length ≤ 32) (hfr : -9223372036854775808 ≤ fr ∧ fr ≤ 9223372036854775807) :
    Calls Tryz.prog 22 #[cfV d.cf vd ve vl, .int .i64 fr, sv, lv] w fun e w' => ∃ (k : Nat) (er : Int) (vo : Value) (vs vb vh va : Nat → Value), e = .returned (.tuple #[vo, .int .i64 er]) ∧ Hid (RunEnds d fr l xs k er) ∧ Hid (SliceAt w'.heap.size w' vo 6 k (toldF d fr l xs vs vb vh va)) ∧ Hid (∀ j, j < k → ToldAt w' (rdAt d fr l xs j) (vs j) (vb j) (vh j) (va j)) ∧ Hid (w.grownBy w' none) := by
  obtain ⟨i1, hi1, hy0, hy1, hy2⟩ := info_parts Tryz.info_td
  have HN := hid hN
  have HS := hid hs
  obtain ⟨a, cap, rfl⟩ := lsslice hl
  obtain ⟨n, hn⟩ : ∃ n, Hid (xs.length = n) := ⟨_, hid rfl⟩
  have HXs := hid hx
  have HL : Hid (∀ k, k < n → (∃ b off, a = some ⟨b, off, none⟩ ∧ ∀ wr : World, w.grownBy wr none → wr.cell? ⟨b, off + k * 4, none⟩ = some (.int .u32 ((nthLs xs k).u0 : Int)) ∧ wr.cell? ⟨b, off + k * 4 + 1, none⟩ = some (.int .u32 ((nthLs xs k).u1 : Int)) ∧ wr.cell? ⟨b, off + k * 4 + 2, none⟩ = some (.int .u32 ((nthLs xs k).w0 : Int)) ∧ wr.cell? ⟨b, off + k * 4 + 3, none⟩ = some (.int .u32 ((nthLs xs k).w1 : Int))) ∧ n ≤ cap ∧ (nthLs xs k).ok) := hid (fun k hk => by
    have hk' : k < xs.length := by rw [hn.out]; exact hk
    rcases hl with ⟨_, _, _, h0⟩ | ⟨b, off, cap', e, hc, _, hf⟩
    · exfalso; omega
    · simp only [Value.slice.injEq] at e
      rw [← hn.out]
      exact ⟨⟨b, off, e.1, fun wr g => ⟨gr_cell g (hf k hk' 0 (by omega)), gr_cell g (hf k hk' 1 (by omega)), gr_cell g (hf k hk' 2 (by omega)), gr_cell g (hf k hk' 3 (by omega))⟩⟩, by omega, HXs.out _ (nthLs_mem hk')⟩)
  have HEnd : Hid (∀ k, k ≤ n → (∀ j, j < k → goesZ d (fr + (j : Int)) (clsAt d fr l xs j) = true) → (k = n → RunEnds d fr l xs k 0) ∧ (k < n → goesZ d (fr + (k : Int)) (clsAt d fr l xs k) = false → RunEnds d fr l xs k 1)) := hid (fun k hk hg =>
    ⟨fun e => ⟨by rw [hn.out]; exact hk, hg, .inl ⟨hxl, by rw [hn.out]; exact e, rfl⟩⟩, fun hk2 hb => ⟨by rw [hn.out]; exact hk, hg, .inr ⟨rfl, .inr ⟨hxl, by rw [hn.out]; exact hk2, hb⟩⟩⟩⟩)
  have hfrk : Hid (∀ k, k < n → (∀ j, j < k → goesZ d (fr + (j : Int)) (clsAt d fr l xs j) = true) → wrap64 (fr + (k : Int)) = fr + (k : Int)) := hid (fun k hk hg => by
    rw [hn.out] at hxl
    rcases Nat.eq_zero_or_pos k with h0 | h0
    · subst h0
      unfold wrap64; omega
    · have h1 := (goesZ_bd (hg 0 h0)).1
      unfold wrap64; omega)
  have Hz := hid hz
  rw [hn.out] at hxl
  rw [hn.out]
  obtain ⟨⟨ho, C, de, wi, pr, qu⟩, hcf⟩ : ∃ c, Hid (d.cf = c) := ⟨_, hid rfl⟩
  rw [hcf.out]
  have h32 : ¬ (32 : Int) < (n : Int) := by omega
  obtain ⟨w0, hw0⟩ : ∃ w0, w.alloc (.cells #[.int .i64 ho, .int .i64 C, .int .i64 de, .int .i64 wi, .int .i64 pr, vd, ve, vl, .int .i64 qu] 26) = w0 := ⟨_, rfl⟩
  have G0 := hid (gr_alloc (gr_refl w none) (.cells #[.int .i64 ho, .int .i64 C, .int .i64 de, .int .i64 wi, .int .i64 pr, vd, ve, vl, .int .i64 qu] 26))
  have Hbx := hid (heap_alloc_new w (.cells #[.int .i64 ho, .int .i64 C, .int .i64 de, .int .i64 wi, .int .i64 pr, vd, ve, vl, .int .i64 qu] 26))
  rw [hw0] at G0 Hbx
  have hB0 : Hid (w0.heap.size = w.heap.size + 1) := hid (by rw [← hw0]; simp)
  clear hN hs hl hx hz hfr
  go_enter Tryz.func22, Tryz.ntmps22
  go_wp2_with fail
  clear hw0
  go_loopw [2, 10, 20] (fun sc vo vi wr => ∃ (k : Nat) (vs vb vh va : Nat → Value), vi = .int .i64 k ∧ k ≤ n ∧ Hid (∀ j, j < k → goesZ d (fr + (j : Int)) (clsAt d fr l xs j) = true) ∧ Hid (RunSt w0 wr w0.heap.size d fr l xs sc vo k vs vb vh va)) (fun _ _ vi _ => n - (intOf vi).toNat)
  case atStart =>
    exact ⟨0, fun _ => .slice none 0 0, fun _ => .slice none 0 0, fun _ => .slice none 0 0, fun _ => .slice none 0 0, rfl, Nat.zero_le _, hid (fun j hj => absurd hj (Nat.not_lt_zero j)), hid (RunSt.mk ((SliceAt.grown HS.out G0.out).wider G0.out.size) (World.ownsRow_nil _ _ _ _) (fun j hj => absurd hj (Nat.not_lt_zero j)) (fun q hq => by simp [Value.ownBlock] at hq) (fun q hq => by simp [Value.ownBlock] at hq) (gr_refl w0 none) ⟨Nat.le_refl _, Nat.le_refl _⟩)⟩
  case round =>
    obtain ⟨k, vs, vb, vh, va, rfl, hk, HA, HR⟩ := hrel
    have HGr := hid (gr_trans G0.out HR.out.gr)
    by_cases hlt : k < n
    · obtain ⟨⟨b, off, rfl, hq⟩, hcap, hok⟩ := HL.out k hlt
      obtain ⟨q0, q1, q2, q3⟩ := hq wr HGr.out
      have hk2 : (k : Int) < (n : Int) := by omega
      have hkc : k < cap := by omega
      have Hok := hid hok
      obtain ⟨p, hp⟩ : ∃ p, Hid (fr + (k : Int) = p) := ⟨_, hid rfl⟩
      have ws : wrap64 (fr + (k : Int)) = p := (hfrk.out k hlt HA.out).trans hp.out
      obtain ⟨⟨x0, x1, x2, x3⟩, hxx⟩ : ∃ x, Hid (nthLs xs k = x) := ⟨_, hid rfl⟩
      rw [hxx.out] at q0 q1 q2 q3
      dsimp only at q0 q1 q2 q3
      have hbx2 := gr_heap (gr_alloc (gr_refl wr none) (.cells #[.int .u32 (x0 : Int), .int .u32 (x1 : Int), .int .u32 (x2 : Int), .int .u32 (x3 : Int)] 31)) (gr_heap HR.out.gr Hbx.out (by simp)) (by simp)
      have k0 := hcell hbx2 0 _ rfl
      have k1 := hcell hbx2 1 _ rfl
      have k2 := hcell hbx2 2 _ rfl
      have k3 := hcell hbx2 3 _ rfl
      have k4 := hcell hbx2 4 _ rfl
      have k5 := hcell hbx2 5 _ rfl
      have k6 := hcell hbx2 6 _ rfl
      have k7 := hcell hbx2 7 _ rfl
      have k8 := hcell hbx2 8 _ rfl
      have hzk : Hid ((clsAt d fr l xs k).length * 24 ≤ 140737488351232) := hid (by rw [clsAt_len]; exact Hz.out)
      by_cases hgo : goesZ d (fr + (k : Int)) (clsAt d fr l xs k) = true
      · have HA1 : Hid (∀ j, j < k + 1 → goesZ d (fr + (j : Int)) (clsAt d fr l xs j) = true) := hid (fun j hj => by
          by_cases e : j = k
          · subst e; exact hgo
          · exact HA.out j (by omega))
        have hl0 := hid (show 0 < l.length by have := (goesZ_bd hgo).2.1; rwa [clsAt_len] at this)
        obtain ⟨c0, hc0⟩ : ∃ c, Hid ((rdAt d fr l xs k).crew 0 = c) := ⟨_, hid rfl⟩
        obtain ⟨c1, hc1⟩ : ∃ c, Hid ((rdAt d fr l xs k).crew 1 = c) := ⟨_, hid rfl⟩
        have HGo : Hid (∀ W : World, wr.grownBy W none → Calls Tryz.prog 10 #[.agg #[.int .i64 ho, .int .i64 C, .int .i64 de, .int .i64 wi, .int .i64 pr, vd, ve, vl, .int .i64 qu], .int .i64 p, u2, .agg #[.int .u32 (x0 : Int), .int .u32 (x1 : Int), .int .u32 (x2 : Int), .int .u32 (x3 : Int)]] W fun e w' => ∃ ys yb yh ya, e = .returned (.tuple #[.agg #[ys, .int .u32 (c0 : Int), .int .u32 (c1 : Int), yb, yh, ya], .int .i64 0]) ∧ Hid (ToldAt w' (rdAt d fr l xs k) ys yb yh ya) ∧ Hid (W.grownBy w' none) ∧ Hid (FreshT W.heap.size ys yb yh ya)) := hid (fun W g => by
          have H := go_ok (rdAt d fr l xs k) (rdAt_ok hgo Hok.out) vd ve vl u2 W (HN.out.later (gr_trans HGr.out g)) (HR.out.grown g).cks
          have e1 : (rdAt d fr l xs k).d.cf = ⟨ho, C, de, wi, pr, qu⟩ := hcf.out
          have e2 : (rdAt d fr l xs k).cy = p := hp.out
          have e3 : (rdAt d fr l xs k).u0 = x0 := by show (nthLs xs k).u0 = _; rw [hxx.out]
          have e4 : (rdAt d fr l xs k).u1 = x1 := by show (nthLs xs k).u1 = _; rw [hxx.out]
          have e5 : (rdAt d fr l xs k).w0 = x2 := by show (nthLs xs k).w0 = _; rw [hxx.out]
          have e6 : (rdAt d fr l xs k).w1 = x3 := by show (nthLs xs k).w1 = _; rw [hxx.out]
          rw [e1, e2, e3, e4, e5, e6, hc0.out, hc1.out] at H
          exact H)
        have HLen := hid (rdAt_len d fr l xs k)
        clear hgo hok hq hbx2
        go_wp2_with fail
        refine (HGo.out _ (gr_alloc (gr_refl wr none) _)).mono ?_
        rintro e w5 ⟨ys, yb, yh, ya, rfl, ht, hg, hf⟩
        obtain ⟨aS, mS, cS, rfl⟩ := slice_frm ht.out.sent
        obtain ⟨aB, mB, cB, rfl⟩ := slice_frm ht.out.by_
        obtain ⟨aH, mH, cH, rfl⟩ := slice_frm ht.out.hrd
        obtain ⟨aA, mA, cA, rfl⟩ := slice_frm ht.out.aft
        have HT := hid ht.out
        have HF : Hid (FreshT wr.heap.size (.slice aS mS cS) (.slice aB mB cB) (.slice aH mH cH) (.slice aA mA cA)) := hid ⟨fun q e => by have := hf.out.s q e; simp at this; omega, fun q e => by have := hf.out.b q e; simp at this; omega, fun q e => by have := hf.out.h q e; simp at this; omega, fun q e => by have := hf.out.a q e; simp at this; omega⟩
        have G5 := hid (gr_trans (gr_alloc (gr_refl wr none) _) hg.out)
        clear ht hg hf q0 q1 q2 q3 k0 k1 k2 k3 k4 k5 k6 k7 k8
        go_wp2_with fail
        obtain ⟨tb, htb⟩ : ∃ tb, Hid (w5.heap.size = tb) := ⟨_, hid rfl⟩
        have hTB0 := heap_alloc_new w5 (.cells #[.slice aS mS cS, .int .u32 (c0 : Int), .int .u32 (c1 : Int), .slice aB mB cB, .slice aH mH cH, .slice aA mA cA] 38)
        have hgB0 := gr_alloc (gr_refl w5 none) (.cells #[.slice aS mS cS, .int .u32 (c0 : Int), .int .u32 (c1 : Int), .slice aB mB cB, .slice aH mH cH, .slice aA mA cA] 38)
        obtain ⟨wB, hwB⟩ : ∃ wB, w5.alloc (.cells #[.slice aS mS cS, .int .u32 (c0 : Int), .int .u32 (c1 : Int), .slice aB mB cB, .slice aH mH cH, .slice aA mA cA] 38) = wB := ⟨_, rfl⟩
        rw [hwB, htb.out] at hTB0
        rw [hwB] at hgB0
        rw [hwB, htb.out]
        have hsB : Hid (wB.heap.size = tb + 1) := hid (by rw [← hwB, ← htb.out]; simp)
        clear hwB
        have GB := hid (gr_trans G5.out hgB0)
        have HTB := hid (told_kept HT.out hgB0 (fun q hq => by cases hq) (fun q hq => by cases hq) (fun q hq => by cases hq) (fun q hq => by cases hq))
        have Hvo : Hid (∀ q, u10.ownBlock = some q → q < wB.heap.size) := hid (fun q hq => by have := (HR.out.row.lt q hq).2; have := GB.out.size; omega)
        have HSK : Hid (∀ W : World, wB.grownBy W u10.ownBlock → ((fun w' => w'.cell? ⟨tb, 0, none⟩ = some (.slice aS mS cS) ∧ w'.cell? ⟨tb, 1, none⟩ = some (.int .u32 (c0 : Int)) ∧ w'.cell? ⟨tb, 2, none⟩ = some (.int .u32 (c1 : Int)) ∧ w'.cell? ⟨tb, 3, none⟩ = some (.slice aB mB cB) ∧ w'.cell? ⟨tb, 4, none⟩ = some (.slice aH mH cH) ∧ w'.cell? ⟨tb, 5, none⟩ = some (.slice aA mA cA)) W)) := hid (fun W g => by
          have h1 := gr_heap g hTB0 (fun e => by have := (HR.out.row.lt tb e.symm).2; have := G5.out.size; have := htb.out; omega)
          exact ⟨hcell h1 0 _ rfl, hcell h1 1 _ rfl, hcell h1 2 _ rfl, hcell h1 3 _ rfl, hcell h1 4 _ rfl, hcell h1 5 _ rfl⟩)
        obtain ⟨XS, hXS⟩ : ∃ XS, Hid (flatQ 6 k (toldF d fr l xs vs vb vh va) = XS) := ⟨_, hid rfl⟩
        obtain ⟨L, hL⟩ : ∃ L, Hid (aftL (rdAt d fr l xs k) = L) := ⟨_, hid rfl⟩
        have HL0 : Hid (0 < L.length) := hid (by rw [← hL.out, aftL_len, HLen.out]; exact hl0.out)
        have HRow : Hid (∀ W : World, wB.grownBy W none → W.ownsRow w0.heap.size 38 6 u10 k XS) := hid (fun W g => by rw [← hXS.out]; exact (HR.out.grown (gr_trans GB.out g)).row)
        have HBs : Hid (∀ W : World, wB.grownBy W none → w0.heap.size ≤ W.heap.size) := hid (fun W g => by have := HR.out.lo; have := GB.out.size; have := g.size; omega)
        have HOne := hid (one6 (x := (c0 : Int)) (y := (c1 : Int)) (slice_one HT.out.sent) (slice_one HT.out.by_) (slice_one HT.out.hrd) (slice_one HT.out.aft))
        have HCL : Hid (∀ W : World, wB.grownBy W u10.ownBlock → Calls Tryz.prog 63 #[.slice aA mA cA] W fun e w' => ∃ v, e = .returned v ∧ Hid (CksAt w'.heap.size w' v L) ∧ Hid (∀ q, v.ownBlock = some q → W.heap.size ≤ q) ∧ Hid (W.grownBy w' none)) := hid (fun W g => by
          rw [← hL.out]
          exact clone_st _ (aftL (rdAt d fr l xs k)) W ((told_cks HTB.out).keptRow g (fun q hq e => by have := HF.out.a q e; have := (HR.out.row.lt q hq).2; omega)) (by rw [aftL_len, HLen.out]; exact Hz.out))
        have HX1 := hid (heap_alloc_new wB.drew (.cells #[.slice aS mS cS, .int .u32 (c0 : Int), .int .u32 (c1 : Int), .slice aB mB cB, .slice aH mH cH, .slice aA mA cA] 38))
        have HSTEP : Hid (∀ (W4 : World) (v2 v8 : Value), RunFin wB W4 w0.heap.size u10 v2 v8 k XS [.slice aS mS cS, .int .u32 (c0 : Int), .int .u32 (c1 : Int), .slice aB mB cB, .slice aH mH cH, .slice aA mA cA] L → RunSt w0 W4 w0.heap.size d fr l xs v8 v2 (k + 1) (updV vs k (.slice aS mS cS)) (updV vb k (.slice aB mB cB)) (updV vh k (.slice aH mH cH)) (updV va k (.slice aA mA cA))) := hid (fun W4 v2 v8 hf => by
          refine HR.out.step hl0.out GB.out HTB.out HF.out hf.gr ?_ (by rw [hL.out]; exact hf.cks) hf.ne hf.new
          rw [hXS.out, hc0.out, hc1.out]
          exact hf.row)
        have m := HSK.out wB (gr_refl wB _)
        obtain ⟨m0, m1, m2, m3, m4, m5⟩ := m
        go_region_held3 (fun w' => w'.cell? ⟨tb, 0, none⟩ = some (.slice aS mS cS) ∧ w'.cell? ⟨tb, 1, none⟩ = some (.int .u32 (c0 : Int)) ∧ w'.cell? ⟨tb, 2, none⟩ = some (.int .u32 (c1 : Int)) ∧ w'.cell? ⟨tb, 3, none⟩ = some (.slice aB mB cB) ∧ w'.cell? ⟨tb, 4, none⟩ = some (.slice aH mH cH) ∧ w'.cell? ⟨tb, 5, none⟩ = some (.slice aA mA cA))
          (first | exact HSK.out _ (gr_none (gr_drew (gr_refl wB none))) | exact HSK.out _ (gr_none (gr_alloc (gr_drew (gr_refl wB none)) (.cells #[.slice aS mS cS, .int .u32 (c0 : Int), .int .u32 (c1 : Int), .slice aB mB cB, .slice aH mH cH, .slice aA mA cA] 38))) | exact HSK.out _ HG3.out | exact HSK.out _ (gr_none HG8.out) | exact HSK.out _ HG8.out | exact HSK.out _ (gr_none (gr_alloc HG8.out (.cells #[.slice aS mS cS, .int .u32 (c0 : Int), .int .u32 (c1 : Int), .slice aB mB cB, .slice aH mH cH, .slice aA mA cA] 38))))
          (first
            | (refine step_append_own_at rfl (.tmp 39) (.tmp 41) 71 rfl w0.heap.size 38 i1 (.agg #[.slice none 0 0, .int .u32 0, .int .u32 0, .slice none 0 0, .slice none 0 0, .slice none 0 0]) 6 104 Tryz.underlying71 hi1 hy0 hy1 hy2 rfl (by decide) u10 k XS (by simp [Act.eval]) (HRow.out _ (gr_alloc (gr_drew (gr_refl wB none)) (.cells #[.slice aS mS cS, .int .u32 (c0 : Int), .int .u32 (c1 : Int), .slice aB mB cB, .slice aH mH cH, .slice aA mA cA] 38))) ⟨wB.heap.size, 0, none⟩ 1 1 [.slice aS mS cS, .int .u32 (c0 : Int), .int .u32 (c1 : Int), .slice aB mB cB, .slice aH mH cH, .slice aA mA cA] (by simp [Act.eval]) rfl (news6 HX1.out) HOne.out (by unfold maxLen; omega) (by omega) (HBs.out _ (gr_alloc (gr_drew (gr_refl wB none)) (.cells #[.slice aS mS cS, .int .u32 (c0 : Int), .int .u32 (c1 : Int), .slice aB mB cB, .slice aH mH cH, .slice aA mA cA] 38))) ?_; intro v2 w3 hown3 hg3 hat3; have HG3 : Hid (wB.grownBy w3 u10.ownBlock) := hid (gr_row (gr_alloc (gr_drew (gr_refl wB none)) (.cells #[.slice aS mS cS, .int .u32 (c0 : Int), .int .u32 (c1 : Int), .slice aB mB cB, .slice aH mH cH, .slice aA mA cA] 38)) hg3); have HR3 := hid hown3; have HH3 := hid hg3; have HA3 := hid hat3; clear hown3 hg3 hat3)
            | (refine step_append_own_at rfl (.tmp 39) (.tmp 41) 71 rfl w0.heap.size 38 i1 (.agg #[.slice none 0 0, .int .u32 0, .int .u32 0, .slice none 0 0, .slice none 0 0, .slice none 0 0]) 6 104 Tryz.underlying71 hi1 hy0 hy1 hy2 rfl (by decide) u10 k XS (by simp [Act.eval]) (HRow.out _ HG8.out) ⟨wB.heap.size, 0, none⟩ 1 1 [.slice aS mS cS, .int .u32 (c0 : Int), .int .u32 (c1 : Int), .slice aB mB cB, .slice aH mH cH, .slice aA mA cA] (by simp [Act.eval]) rfl (news6 HX8.out) HOne.out (by unfold maxLen; omega) (by omega) (HBs.out _ HG8.out) ?_; intro v2 w3 hown3 hg3 hat3; have HG3 : Hid (wB.grownBy w3 u10.ownBlock) := hid (gr_row HG8.out hg3); have HFIN : Hid (RunFin wB w3 w0.heap.size u10 v2 v8 k XS [.slice aS mS cS, .int .u32 (c0 : Int), .int .u32 (c1 : Int), .slice aB mB cB, .slice aH mH cH, .slice aA mA cA] L) := hid (fin_append_last Hvo.out HL0.out HG8.out HCK8.out HF8.out (gr_refl w8 none) hown3 hg3 hat3); clear hown3 hg3 hat3)
            | (refine step_append_own_at rfl (.tmp 39) (.tmp 41) 71 rfl w0.heap.size 38 i1 (.agg #[.slice none 0 0, .int .u32 0, .int .u32 0, .slice none 0 0, .slice none 0 0, .slice none 0 0]) 6 104 Tryz.underlying71 hi1 hy0 hy1 hy2 rfl (by decide) u10 k XS (by simp [Act.eval]) (HRow.out _ (gr_alloc HG8.out (.cells #[.slice aS mS cS, .int .u32 (c0 : Int), .int .u32 (c1 : Int), .slice aB mB cB, .slice aH mH cH, .slice aA mA cA] 38))) ⟨w8.heap.size, 0, none⟩ 1 1 [.slice aS mS cS, .int .u32 (c0 : Int), .int .u32 (c1 : Int), .slice aB mB cB, .slice aH mH cH, .slice aA mA cA] (by simp [Act.eval]) rfl (news6 (heap_alloc_new w8 (.cells #[.slice aS mS cS, .int .u32 (c0 : Int), .int .u32 (c1 : Int), .slice aB mB cB, .slice aH mH cH, .slice aA mA cA] 38))) HOne.out (by unfold maxLen; omega) (by omega) (HBs.out _ (gr_alloc HG8.out (.cells #[.slice aS mS cS, .int .u32 (c0 : Int), .int .u32 (c1 : Int), .slice aB mB cB, .slice aH mH cH, .slice aA mA cA] 38))) ?_; intro v2 w3 hown3 hg3 hat3; have HG3 : Hid (wB.grownBy w3 u10.ownBlock) := hid (gr_row (gr_alloc HG8.out (.cells #[.slice aS mS cS, .int .u32 (c0 : Int), .int .u32 (c1 : Int), .slice aB mB cB, .slice aH mH cH, .slice aA mA cA] 38)) hg3); have HFIN : Hid (RunFin wB w3 w0.heap.size u10 v2 v8 k XS [.slice aS mS cS, .int .u32 (c0 : Int), .int .u32 (c1 : Int), .slice aB mB cB, .slice aH mH cH, .slice aA mA cA] L) := hid (fin_append_last Hvo.out HL0.out HG8.out HCK8.out HF8.out (gr_alloc (gr_refl w8 none) _) hown3 hg3 hat3); clear hown3 hg3 hat3)
            | (go_at_call 63; refine (HCL.out _ (gr_none (gr_alloc (gr_drew (gr_refl wB none)) (.cells #[.slice aS mS cS, .int .u32 (c0 : Int), .int .u32 (c1 : Int), .slice aB mB cB, .slice aH mH cH, .slice aA mA cA] 38)))).mono ?_; rintro e w8 ⟨v8, rfl, HCK8, hf8, hg8⟩; have HG8 : Hid (wB.grownBy w8 none) := hid (gr_trans (gr_alloc (gr_drew (gr_refl wB none)) (.cells #[.slice aS mS cS, .int .u32 (c0 : Int), .int .u32 (c1 : Int), .slice aB mB cB, .slice aH mH cH, .slice aA mA cA] 38)) hg8.out); have HX8 := hid (gr_heap hg8.out HX1.out (by simp)); have HF8 : Hid (∀ q, v8.ownBlock = some q → wB.heap.size ≤ q) := hid (fun q hq => by have := hf8.out q hq; have := (World.grownBy.size (gr_alloc (gr_drew (gr_refl wB none)) (.cells #[.slice aS mS cS, .int .u32 (c0 : Int), .int .u32 (c1 : Int), .slice aB mB cB, .slice aH mH cH, .slice aA mA cA] 38))); omega); clear hf8 hg8)
            | (go_at_call 63; refine (HCL.out _ (gr_none (gr_drew (gr_refl wB none)))).mono ?_; rintro e w8 ⟨v8, rfl, HCK8, hf8, hg8⟩; have HG8 : Hid (wB.grownBy w8 none) := hid (gr_trans (gr_drew (gr_refl wB none)) hg8.out); have HF8 : Hid (∀ q, v8.ownBlock = some q → wB.heap.size ≤ q) := hid (fun q hq => hf8.out q hq); clear hf8 hg8)
            | (go_at_call 63; refine (HCL.out _ HG3.out).mono ?_; rintro e w8 ⟨v8, rfl, HCK8, hf8, hg8⟩; have HG8 : Hid (wB.grownBy w8 u10.ownBlock) := hid (gr_row2 HG3.out hg8.out); have HFIN : Hid (RunFin wB w8 w0.heap.size u10 v2 v8 k XS [.slice aS mS cS, .int .u32 (c0 : Int), .int .u32 (c1 : Int), .slice aB mB cB, .slice aH mH cH, .slice aA mA cA] L) := hid (fin_clone_last (gr_alloc (gr_drew (gr_refl wB none)) (.cells #[.slice aS mS cS, .int .u32 (c0 : Int), .int .u32 (c1 : Int), .slice aB mB cB, .slice aH mH cH, .slice aA mA cA] 38)) HR3.out HH3.out HA3.out HCK8.out hf8.out hg8.out); clear hf8 hg8)
            | fail)
        all_goals (
          go_wp2_with fail
          refine ⟨⟨k + 1, updV vs k (.slice aS mS cS), updV vb k (.slice aB mB cB), updV vh k (.slice aH mH cH), updV va k (.slice aA mA cA), by go_num, by omega, HA1, hid (HSTEP.out _ _ _ HFIN.out)⟩, ?_⟩
          simp [intOf]; omega)
      · have hbad : goesZ d (fr + (k : Int)) (clsAt d fr l xs k) = false := Bool.eq_false_iff.2 hgo
        have HE := hid ((HEnd.out k (Nat.le_of_lt hlt) HA.out).2 hlt hbad)
        have HO : Hid (∀ W : World, wr.grownBy W none → SliceAt W.heap.size W u10 6 k (toldF d fr l xs vs vb vh va) ∧ (∀ j, j < k → ToldAt W (rdAt d fr l xs j) (vs j) (vb j) (vh j) (va j)) ∧ w.grownBy W none) := hid (fun W g => ⟨slice_own (HR.out.grown g).row (fun j hj i hi => flatQ_at _ hj hi), (HR.out.grown g).told, gr_trans HGr.out g⟩)
        have HGo : Hid (∀ W : World, wr.grownBy W none → Calls Tryz.prog 10 #[.agg #[.int .i64 ho, .int .i64 C, .int .i64 de, .int .i64 wi, .int .i64 pr, vd, ve, vl, .int .i64 qu], .int .i64 p, u2, .agg #[.int .u32 (x0 : Int), .int .u32 (x1 : Int), .int .u32 (x2 : Int), .int .u32 (x3 : Int)]] W fun e w' => e = .returned (.tuple #[nullTold, .int .i64 1]) ∧ W.grownBy w' none) := hid (fun W g => by
          have H := go_bad d vd ve vl (fr + (k : Int)) u2 (clsAt d fr l xs k) (.int .u32 (x0 : Int)) (.int .u32 (x1 : Int)) (.int .u32 (x2 : Int)) (.int .u32 (x3 : Int)) W (HN.out.later (gr_trans HGr.out g)) (HR.out.grown g).cks hzk.out hbad
          rw [hcf.out, hp.out] at H
          exact H)
        unfold nullTold at HGo
        clear hgo hok hq hbx2 hbad
        go_wp2_with fail
        refine (HGo.out _ (gr_alloc (gr_refl wr none) _)).mono ?_
        rintro e w5 ⟨rfl, hg⟩
        have G5 := hid (gr_alloc (gr_trans (gr_alloc (gr_refl wr none) _) hg) (.cells #[.slice none 0 0, .int .u32 0, .int .u32 0, .slice none 0 0, .slice none 0 0, .slice none 0 0] 38))
        clear hg q0 q1 q2 q3 k0 k1 k2 k3 k4 k5 k6 k7 k8
        go_wp2_with fail
        go_ret2
        obtain ⟨o1, o2, o3⟩ := HO.out _ G5.out
        exact ⟨k, 1, u10, vs, vb, vh, va, rfl, HE, hid o1, hid o2, hid o3⟩
    · obtain rfl : k = n := by omega
      clear hlt
      have HE := hid ((HEnd.out k (Nat.le_refl _) HA.out).1 rfl)
      have HO : Hid (SliceAt wr.heap.size wr u10 6 k (toldF d fr l xs vs vb vh va)) := hid (slice_own HR.out.row (fun j hj i hi => flatQ_at _ hj hi))
      have HT := hid HR.out.told
      go_wp2_with fail
      go_ret2
      exact ⟨k, 0, u10, vs, vb, vh, va, rfl, HE, HO, HT, HGr⟩

set_option maxRecDepth 100000 in
set_option maxHeartbeats 600000 in
theorem run_any (d : Net) (vd ve vl : Value) (fr : Int) (sv lv : Value) (l : List Ck) (xs : List Ls) (w : World) (hN : NetAt w.heap.size w d vd ve vl) (hs : CksAt w.heap.size w sv l) (hz : l.length * 24 ≤ 140737488351232)
    (hl : LsAt w.heap.size w lv xs) (hx : ∀ x ∈ xs, x.ok) (hfr : -9223372036854775808 ≤ fr ∧ fr ≤ 9223372036854775807) :
    Calls Tryz.prog 22 #[cfV d.cf vd ve vl, .int .i64 fr, sv, lv] w fun e w' => ∃ (k : Nat) (er : Int) (vo : Value) (vs vb vh va : Nat → Value), e = .returned (.tuple #[vo, .int .i64 er]) ∧ Hid (RunEnds d fr l xs k er) ∧ Hid (SliceAt w'.heap.size w' vo 6 k (toldF d fr l xs vs vb vh va)) ∧ Hid (∀ j, j < k → ToldAt w' (rdAt d fr l xs j) (vs j) (vb j) (vh j) (va j)) ∧ Hid (w.grownBy w' none) := by
  by_cases hxl : xs.length ≤ 32
  · exact run_few d vd ve vl fr sv lv l xs w hN hs hz hl hx hxl hfr
  · obtain ⟨a, cap, rfl⟩ := lsslice hl
    have HE : Hid (RunEnds d fr l xs 0 1) := hid ⟨Nat.zero_le _, fun j hj => absurd hj (Nat.not_lt_zero j), .inr ⟨rfl, .inl ⟨by omega, rfl⟩⟩⟩
    obtain ⟨n, hn⟩ : ∃ n, Hid (xs.length = n) := ⟨_, hid rfl⟩
    rw [hn.out] at hxl
    rw [hn.out]
    have h32 : (32 : Int) < (n : Int) := by omega
    obtain ⟨⟨ho, C, de, wi, pr, qu⟩, hcf⟩ : ∃ c, Hid (d.cf = c) := ⟨_, hid rfl⟩
    rw [hcf.out]
    clear hN hs hl hx hz hfr
    go_enter Tryz.func22, Tryz.ntmps22
    go_wp2_with fail
    go_ret2
    exact ⟨0, 1, .slice none 0 0, fun _ => .slice none 0 0, fun _ => .slice none 0 0, fun _ => .slice none 0 0, fun _ => .slice none 0 0, rfl, HE, hid SliceAt.nil, hid (fun j hj => absurd hj (Nat.not_lt_zero j)), hid (gr_alloc (gr_refl w none) _)⟩
end Go.Proofs.YtckoaeoecjphiaaGreat

/- The document's Family(2, 0). -/
namespace Go.Proofs.YtckoaeoecjphiaaGreat
open Go.RowKit Go.Lib

def famD : Net := ⟨⟨2, 2000000, 2000, 1000, 500, 8⟩, [[100, 150], [200, 250]], [], []⟩
theorem Tryz.info_row : (Tryz.prog.info? 35).map (fun i => (i.zero, i.size, i.bytes)) = some (some (.slice none 0 0), 1, 24) := by kernel_rfl
/-- What holds while the rows are laid. -/
structure FamSt (w W : World) (bx : Nat) (vd va : Value) (k : Nat) (p : Nat → Nat) : Prop where
  box : W.heap[bx + 1]? = some (.cells #[.int .i64 2, .int .i64 2000000, .int .i64 2000, .int .i64 1000, .int .i64 500, vd, .slice none 0 0, .slice none 0 0, .int .i64 8] 26)
  bx0 : W.heap[bx]? = some (.cells #[.int .i64 0, .int .i64 0, .int .i64 0, .int .i64 0, .int .i64 0, .slice none 0 0, .slice none 0 0, .slice none 0 0, .int .i64 0] 26)
  rd : W.ownsRow (bx + 2) 35 1 vd k ((List.range k).map fun j => Value.slice (some ⟨p j, 0, none⟩) 2 2)
  ra : ∃ xs, W.ownsRow (bx + 2) 3 1 va k xs
  da : ∀ q, vd.ownBlock = some q → va.ownBlock ≠ some q
  pp : ∀ j, j < k → W.heap[p j]? = some (.cells #[.int .i64 (100 * ((j : Int) + 1)), .int .i64 (100 * ((j : Int) + 1) + 50)] 2)
  pd : ∀ j, j < k → vd.ownBlock ≠ some (p j) ∧ va.ownBlock ≠ some (p j)
  gr : w.grownBy W none
theorem info_row_form {vd : Value} {W : World} {base k : Nat} {xs : List Value} (h : W.ownsRow base 35 1 vd k xs) : ∃ a c, vd = .slice a k c := by
  rcases h.2 with ⟨rfl, rfl⟩ | ⟨g, cap, cur, rfl, _⟩
  · exact ⟨_, _, rfl⟩
  · exact ⟨_, _, rfl⟩
theorem cells9_5 {w : World} {g : Nat} {a b c d e f g1 h i f' : Value} {t : TypeId} (H : w.heap[g]? = some (.cells #[a, b, c, d, e, f, g1, h, i] t)) : (w.setCell ⟨g, 5, none⟩ f').heap[g]? = some (.cells #[a, b, c, d, e, f', g1, h, i] t) := by
  simp only [World.setCell, Array.getElem?_modify, if_true, H, Option.map_some]
  rfl
theorem cell_one_new3 (w : World) (o : Obj) (v : Value) (t : TypeId) : ∀ (j : Nat) (u : Value), [v][j]? = some u → ((w.alloc o).alloc (.cells #[v] t)).cell? ((⟨w.heap.size + 1, 0, none⟩ : Addr).add j) = some u := by
  intro j u h
  have h2 := cell_one_new' (w.alloc o) v t j u h
  rwa [World.size_alloc] at h2
theorem cell_one_new'' (w : World) (a : Addr) (y : Value) (v : Value) (t : TypeId) : ∀ (j : Nat) (u : Value), [v][j]? = some u → ((w.setCell a y).alloc (.cells #[v] t)).cell? ((⟨w.heap.size, 0, none⟩ : Addr).add j) = some u := by
  intro j u h
  have h2 := cell_one_new' (w.setCell a y) v t j u h
  rwa [show (w.setCell a y).heap.size = w.heap.size by simp [World.setCell]] at h2
theorem info_int_form {va : Value} {W : World} {base k : Nat} {xs : List Value} (h : W.ownsRow base 3 1 va k xs) : ∃ a c, va = .slice a k c := by
  rcases h.2 with ⟨rfl, rfl⟩ | ⟨g, cap, cur, rfl, _⟩
  · exact ⟨_, _, rfl⟩
  · exact ⟨_, _, rfl⟩
/-- One row more. -/
theorem FamSt.step {w W W3 W5 : World} {bx : Nat} {vd va v2 v3 : Value} {k : Nat} {p : Nat → Nat} (h : FamSt w W bx vd va k p) (hbx : w.heap.size = bx) {W1 : World}
    (h1 : (W.alloc (.cells #[.int .i64 (100 * ((k : Int) + 1)), .int .i64 (100 * ((k : Int) + 1) + 50)] 2)).alloc (.cells #[.slice (some ⟨W.heap.size, 0, none⟩) 2 2] 35) = W1)
    (hown : W3.ownsRow (bx + 2) 35 1 v2 (k + 1) ((List.range k).map (fun j => Value.slice (some ⟨p j, 0, none⟩) 2 2) ++ [.slice (some ⟨W.heap.size, 0, none⟩) 2 2]))
    (hg3 : W1.grownBy W3 vd.ownBlock) (hat : v2.ownBlock = vd.ownBlock ∨ v2.ownBlock = some W1.heap.size)
    {x : Value} {xs5 : List Value} (hown5 : W5.ownsRow (bx + 2) 3 1 v3 (k + 1) xs5) (hg5 : ((W3.setCell ⟨bx + 1, 5, none⟩ v2).alloc (.cells #[x] 3)).grownBy W5 va.ownBlock) (hat5 : v3.ownBlock = va.ownBlock ∨ v3.ownBlock = some ((W3.setCell ⟨bx + 1, 5, none⟩ v2).alloc (.cells #[x] 3)).heap.size) :
    FamSt w W5 bx v2 v3 (k + 1) (fun j => if j = k then W.heap.size else p j) := by
  obtain ⟨xs, hra⟩ := h.ra
  have hs1 : W1.heap.size = W.heap.size + 2 := by rw [← h1]; simp
  have g1 : W.grownBy W1 none := by rw [← h1]; exact gr_alloc (gr_alloc (gr_refl W none) _) _
  have hnew : W1.heap[W.heap.size]? = some (.cells #[.int .i64 (100 * ((k : Int) + 1)), .int .i64 (100 * ((k : Int) + 1) + 50)] 2) := by
    rw [← h1]
    exact gr_heap (gr_alloc (gr_refl _ none) _) (heap_alloc_new W _) (by simp)
  have hs3 := hg3.size
  have hs5 := hg5.size
  rw [World.size_alloc] at hs5
  have hsc : (W3.setCell ⟨bx + 1, 5, none⟩ v2).heap.size = W3.heap.size := by simp [World.setCell]
  have hlb := lt_of_block h.box
  -- a block that is none of the three that turn
  have hblk : ∀ q, q < W1.heap.size → vd.ownBlock ≠ some q → va.ownBlock ≠ some q → q ≠ bx + 1 → W5.heap[q]? = W1.heap[q]? := fun q hq e1 e2 e3 => by
    have a1 := hg3.block q hq (fun e => e1 e.symm)
    have a2 := hg5.block q (by rw [World.size_alloc, hsc]; omega) (fun e => e2 e.symm)
    rw [a2, heap_alloc_old _ _ (by rw [hsc]; omega), setCell_heap (Ne.symm e3), a1]
  have hvd : ∀ q, vd.ownBlock = some q → bx + 2 ≤ q ∧ q < W.heap.size := h.rd.lt
  have hva : ∀ q, va.ownBlock = some q → bx + 2 ≤ q ∧ q < W.heap.size := hra.lt
  have hv2 : ∀ q, v2.ownBlock = some q → bx + 2 ≤ q ∧ q < W3.heap.size := hown.lt
  refine ⟨?_, ?_, ?_, ⟨_, hown5⟩, ?_, ?_, ?_, ?_⟩
  · have b1 : W3.heap[bx + 1]? = some _ := (hg3.block (bx + 1) (by omega) (fun e => by have := hvd _ e.symm; omega)).trans ((g1.block (bx + 1) hlb (by simp)).trans h.box)
    have b2 := cells9_5 (f' := v2) b1
    rw [hg5.block (bx + 1) (by rw [World.size_alloc, hsc]; omega) (fun e => by have := hva _ e.symm; omega), heap_alloc_old _ _ (by rw [hsc]; omega)]
    exact b2
  · rw [hblk bx (by omega) (fun e => by have := hvd _ e; omega) (fun e => by have := hva _ e; omega) (by omega)]
    exact (g1.block bx (lt_of_block h.bx0) (by simp)).trans h.bx0
  · have e : ((List.range (k + 1)).map fun j => Value.slice (some ⟨if j = k then W.heap.size else p j, 0, none⟩) 2 2) = (List.range k).map (fun j => Value.slice (some ⟨p j, 0, none⟩) 2 2) ++ [.slice (some ⟨W.heap.size, 0, none⟩) 2 2] := by
      rw [List.range_succ, List.map_append]
      congr 1
      · refine List.map_congr_left (fun j hj => ?_)
        rw [if_neg (by have := List.mem_range.1 hj; omega)]
      · simp
    rw [e]
    refine own_as hown (fun q hq => ?_)
    have h2 := hv2 q hq
    rw [hg5.block q (by rw [World.size_alloc, hsc]; omega) (fun e => ?_), heap_alloc_old _ _ (by rw [hsc]; omega), setCell_heap (by omega)]
    rcases hat with h3 | h3
    · exact h.da q (by rw [← h3]; exact hq) e.symm
    · have := hva q e.symm
      rw [h3] at hq
      simp at hq
      omega
  · intro q hq e
    have h2 := hv2 q hq
    rcases hat5 with h5 | h5
    · rcases hat with h3 | h3
      · exact h.da q (by rw [← h3]; exact hq) (by rw [← h5]; exact e)
      · rw [h5] at e
        have := hva q e
        rw [h3] at hq
        simp at hq
        omega
    · rw [h5] at e
      rw [World.size_alloc, hsc] at e
      simp at e
      omega
  · intro j hj
    by_cases e : j = k
    · subst e
      rw [if_pos rfl, hblk _ (by omega) (fun e => by have := hvd _ e; omega) (fun e => by have := hva _ e; omega) (by omega)]
      exact hnew
    · rw [if_neg e]
      have h2 := h.pp j (by omega)
      have h3 := lt_of_block h2
      obtain ⟨h4, h5⟩ := h.pd j (by omega)
      by_cases e3 : p j = bx + 1
      · exfalso
        rw [e3] at h2
        have := h2.symm.trans h.box
        simp at this
      · rw [hblk _ (by omega) h4 h5 e3]
        exact (g1.block _ h3 (by simp)).trans h2
  · intro j hj
    have hlt : ∀ q, q < W1.heap.size → vd.ownBlock ≠ some q → va.ownBlock ≠ some q → v2.ownBlock ≠ some q ∧ v3.ownBlock ≠ some q := fun q hq e1 e2 => by
      refine ⟨fun e => ?_, fun e => ?_⟩
      · rcases hat with h3 | h3
        · rw [h3] at e; exact e1 e
        · rw [h3] at e; simp at e; omega
      · rcases hat5 with h3 | h3
        · rw [h3] at e; exact e2 e
        · rw [h3, World.size_alloc, hsc] at e; simp at e; omega
    by_cases e : j = k
    · subst e
      rw [if_pos rfl]
      exact hlt _ (by omega) (fun e => by have := hvd _ e; omega) (fun e => by have := hva _ e; omega)
    · rw [if_neg e]
      have h3 := lt_of_block (h.pp j (by omega))
      exact hlt _ (by omega) (h.pd j (by omega)).1 (h.pd j (by omega)).2
  · have a1 := gr_ownr (gr_trans h.gr g1) hg3 (fun q hq => by have := hvd q hq; omega)
    have a2 := gr_alloc (gr_setNew a1 (k := bx + 1) (by omega) 5 v2) (.cells #[x] 3)
    exact gr_ownr a2 hg5 (fun q hq => by have := hva q hq; omega)

theorem FamSt.rowA {w W W3 : World} {bx : Nat} {vd va v2 : Value} {k : Nat} {p : Nat → Nat} (h : FamSt w W bx vd va k p) {W1 : World} (g1 : W.grownBy W1 none) (hg3 : W1.grownBy W3 vd.ownBlock) {xs : List Value} (hra : W.ownsRow (bx + 2) 3 1 va k xs) : (W3.setCell ⟨bx + 1, 5, none⟩ v2).ownsRow (bx + 2) 3 1 va k xs :=
  own_as hra (fun q hq => by
    have h1 := hra.lt q hq
    rw [setCell_heap (by omega), hg3.block q (by have := g1.size; omega) (fun e => h.da q e.symm hq)]
    exact g1.block q h1.2 (by simp))
theorem famD_rows {w W W' : World} {bx : Nat} {vd va : Value} {p : Nat → Nat} (h : FamSt w W bx vd va 2 p) (hoth : ∀ q, q ≠ bx → W'.heap[q]? = W.heap[q]?) : NetAt W'.heap.size W' famD vd (.slice none 0 0) (.slice none 0 0) := by
  have hrd := own_as h.rd (fun q hq => hoth q (by have := (h.rd.lt q hq).1; omega))
  have hpp : ∀ j, j < 2 → W'.heap[p j]? = some (.cells #[.int .i64 (100 * ((j : Int) + 1)), .int .i64 (100 * ((j : Int) + 1) + 50)] 2) := fun j hj => by
    have h2 := h.pp j hj
    rw [hoth _ (fun e => by rw [e] at h2; have := h2.symm.trans h.bx0; simp at this)]
    exact h2
  have hrow : SliceAt W'.heap.size W' vd 1 2 (fun j _ => Value.slice (some ⟨p j, 0, none⟩) 2 2) := slice_own hrd (fun j hj i hi => by
    obtain rfl : i = 0 := by omega
    simp [hj])
  refine ⟨⟨fun j => .slice (some ⟨p j, 0, none⟩) 2 2, hrow, fun j hj => ?_⟩, .inl ⟨_, _, rfl, rfl⟩, .inl ⟨_, _, rfl, rfl⟩, by decide, by decide, by decide, by decide, (fun e he => by cases he), (fun e he => by cases he)⟩
  have hj2 : j < 2 := hj
  have hp := hpp j hj2
  match j, hj2 with
  | 0, _ => exact .inr ⟨p 0, 0, 2, rfl, by decide, lt_of_block hp, fun i hi q hq => by
      have hi2 : i < 2 := hi
      obtain rfl : q = 0 := by omega
      match i, hi2 with
      | 0, _ => exact hcell hp 0 _ rfl
      | 1, _ => exact hcell hp 1 _ rfl⟩
  | 1, _ => exact .inr ⟨p 1, 0, 2, rfl, by decide, lt_of_block hp, fun i hi q hq => by
      have hi2 : i < 2 := hi
      obtain rfl : q = 0 := by omega
      match i, hi2 with
      | 0, _ => exact hcell hp 0 _ rfl
      | 1, _ => exact hcell hp 1 _ rfl⟩
theorem set_cells {w : World} {g : Nat} {cs : Array Value} {t : TypeId} (H : w.heap[g]? = some (.cells cs t)) (i : Nat) (v : Value) : (w.setCell ⟨g, i, none⟩ v).heap[g]? = some (.cells (cs.setIfInBounds i v) t) := by
  simp only [World.setCell, Array.getElem?_modify, if_true, H, Option.map_some]
  rfl
theorem set9_heap {w : World} {g : Nat} {a b c d e f g1 h i a' b' c' d' e' f' g' h' i' : Value} {t : TypeId} (H : w.heap[g]? = some (.cells #[a, b, c, d, e, f, g1, h, i] t)) : (((((((((w.setCell ⟨g, 0, none⟩ a').setCell ⟨g, 1, none⟩ b').setCell ⟨g, 2, none⟩ c').setCell ⟨g, 3, none⟩ d').setCell ⟨g, 4, none⟩ e').setCell ⟨g, 5, none⟩ f').setCell ⟨g, 6, none⟩ g').setCell ⟨g, 7, none⟩ h').setCell ⟨g, 8, none⟩ i').heap[g]? = some (.cells #[a', b', c', d', e', f', g', h', i'] t) := by
  have h1 := set_cells (set_cells (set_cells (set_cells (set_cells (set_cells (set_cells (set_cells (set_cells H 0 a') 1 b') 2 c') 3 d') 4 e') 5 f') 6 g') 7 h') 8 i'
  rw [h1]
  simp only [List.setIfInBounds_toArray, List.set_cons_zero, List.set_cons_succ]
set_option maxRecDepth 100000 in
set_option maxHeartbeats 1000000 in
theorem rfam_20 (w : World) :
    Calls Tryz.prog 23 #[.int .i64 2, .int .i64 0] w fun e w' => ∃ vd, e = .returned (cfV famD.cf vd (.slice none 0 0) (.slice none 0 0)) ∧ Hid (NetAt w'.heap.size w' famD vd (.slice none 0 0) (.slice none 0 0)) ∧ Hid (w.grownBy w' none) := by
  obtain ⟨i0, hi, hz0, hz1, hz2⟩ := info_parts Tryz.info_row
  obtain ⟨i1, hi1, hy0, hy1, hy2⟩ := info_parts Tryz.info_int
  obtain ⟨bx, hbx⟩ : ∃ bx, Hid (w.heap.size = bx) := ⟨_, hid rfl⟩
  go_enter Tryz.func23, Tryz.ntmps23
  go_wp2_with fail
  rw [hbx.out]
  go_loopw [6, 7] (fun va vi wr => ∃ (k : Nat) (vd : Value) (p : Nat → Nat), vi = .int .i64 k ∧ k ≤ 2 ∧ Hid (FamSt w wr bx vd va k p)) (fun _ vi _ => 2 - (intOf vi).toNat)
  case atStart =>
    refine ⟨0, .slice none 0 0, fun _ => 0, rfl, by omega, hid ⟨?_, ?_, World.ownsRow_nil _ _ _ _, ⟨_, World.ownsRow_nil _ _ _ _⟩, fun q hq => by simp [Value.ownBlock] at hq, fun j hj => absurd hj (Nat.not_lt_zero j), fun j hj => absurd hj (Nat.not_lt_zero j), gr_alloc (gr_alloc (gr_refl w none) _) _⟩⟩
    · rw [← hbx.out]; exact box2 w _ _
    · rw [← hbx.out]; exact gr_heap (gr_alloc (gr_refl _ none) _) (heap_alloc_new w _) (by simp)
  case round =>
    obtain ⟨k, vd, p, rfl, hk, HS⟩ := hrel
    obtain ⟨ad, cd, rfl⟩ := info_row_form HS.out.rd
    by_cases hlt : k < 2
    · have hk2 : (k : Int) < 2 := by omega
      have c5 := hcell HS.out.box 5 _ rfl
      have f5 := hfroz HS.out.box 5
      have hlb := lt_of_block HS.out.box
      have e5 := World.new_ne wr ⟨bx + 1, 5, none⟩ c5
      obtain ⟨xa, hxa⟩ := HS.out.ra
      obtain ⟨aa, ca, rfl⟩ := info_int_form hxa
      have Hxa := hid hxa
      have s1 : IntKind.i64.wrap ((k : Int) + 1) = (k : Int) + 1 := IntWalk.i64_in _ (by omega)
      have s2 : IntKind.i64.wrap (100 * ((k : Int) + 1)) = 100 * ((k : Int) + 1) := IntWalk.i64_in _ (by omega)
      have s3 : IntKind.i64.wrap (100 * ((k : Int) + 1) + 50) = 100 * ((k : Int) + 1) + 50 := IntWalk.i64_in _ (by omega)
      have hrow0 := HS.out.rd
      have Hrow := hid hrow0
      clear hrow0 hxa
      have hbase : bx + 2 ≤ wr.heap.size := by omega
      go_wp2_with (first
        | (at_builtin; refine wpList_append_own_at _ rfl (.tmp 22) (.tmp 31) 22 rfl (bx + 2) 35 i0 (.slice none 0 0) 1 24 Tryz.underlying22 hi hz0 hz1 hz2 rfl (by decide) _ _ _ rfl ((Hrow.out.alloc _).alloc _) ⟨wr.heap.size + 1, 0, none⟩ 1 1 [.slice (some ⟨wr.heap.size, 0, none⟩) 2 2] rfl rfl (cell_one_new3 _ _ _ _) (by simp [Value.oneCell']) (by unfold maxLen; omega) (by omega) (by simp; omega) ?_; intro v2 w3 hown3 hg3 _ hat3; obtain ⟨a2, c2, rfl⟩ := info_row_form hown3; have Hown3 := hid hown3; have Hg3 := hid hg3; have Hat3 := hid hat3; clear hown3 hg3 hat3; have hbox3 := gr_heap Hg3.out (gr_heap (gr_alloc (gr_alloc (gr_refl wr none) _) _) HS.out.box (by simp)) (fun e => by have := (Hrow.out.lt _ e.symm).1; omega); have c5' := hcell hbox3 5 _ rfl; have f5' := hfroz hbox3 5; clear hbox3; have HxA := hid (HS.out.rowA (v2 := .slice a2 (k + 1) c2) (gr_alloc (gr_alloc (gr_refl wr none) _) _) Hg3.out Hxa.out))
        | (at_builtin; refine wpList_append_own_at _ rfl (.tmp 34) (.tmp 36) 36 rfl (bx + 2) 3 i1 (.int .i64 0) 1 8 Tryz.underlying36 hi1 hy0 hy1 hy2 rfl (by decide) _ _ _ rfl (HxA.out.alloc _) ⟨w3.heap.size, 0, none⟩ 1 1 [.int .i64 (k : Int)] rfl rfl (cell_one_new'' _ _ _ _ _) (by simp [Value.oneCell']) (by unfold maxLen; omega) (by omega) (by have := Hg3.out.size; simp [World.setCell] at this ⊢; omega) ?_; intro v5 w5 hown5 hg5 _ hat5; obtain ⟨a5, c5z, rfl⟩ := info_int_form hown5; have HNX := hid (HS.out.step hbx.out rfl Hown3.out Hg3.out Hat3.out hown5 hg5 hat5); clear hown5 hg5 hat5))
      go_roundw
      case rel => exact ⟨k + 1, _, _, by go_num, by omega, HNX⟩
      case measure => simp [intOf]; omega
    · obtain rfl : k = 2 := by omega
      clear hlt
      have b0 := hcell HS.out.bx0
      have b1 := hcell HS.out.box
      have c0 := hcell HS.out.box 0 _ rfl
      have c1 := hcell HS.out.box 1 _ rfl
      have c2 := hcell HS.out.box 2 _ rfl
      have c3 := hcell HS.out.box 3 _ rfl
      have c4 := hcell HS.out.box 4 _ rfl
      have c5 := hcell HS.out.box 5 _ rfl
      have c6 := hcell HS.out.box 6 _ rfl
      have c7 := hcell HS.out.box 7 _ rfl
      have c8 := hcell HS.out.box 8 _ rfl
      clear b0 b1
      have d0 := hcell HS.out.bx0 0 _ rfl
      have d1 := hcell HS.out.bx0 1 _ rfl
      have d2 := hcell HS.out.bx0 2 _ rfl
      have d3 := hcell HS.out.bx0 3 _ rfl
      have d4 := hcell HS.out.bx0 4 _ rfl
      have d5 := hcell HS.out.bx0 5 _ rfl
      have d6 := hcell HS.out.bx0 6 _ rfl
      have d7 := hcell HS.out.bx0 7 _ rfl
      have d8 := hcell HS.out.bx0 8 _ rfl
      have e0 := hfroz HS.out.bx0 0
      have e1 := hfroz HS.out.bx0 1
      have e2 := hfroz HS.out.bx0 2
      have e3 := hfroz HS.out.bx0 3
      have e4 := hfroz HS.out.bx0 4
      have e5 := hfroz HS.out.bx0 5
      have e6 := hfroz HS.out.bx0 6
      have e7 := hfroz HS.out.bx0 7
      have e8 := hfroz HS.out.bx0 8
      go_wp2_with fail
      refine wp_loop_once ?_
      go_wp2_with fail
      obtain ⟨W6, hW6⟩ : ∃ W6, (((((((((wr.setCell ⟨bx, 0, none⟩ (.int .i64 2)).setCell ⟨bx, 1, none⟩ (.int .i64 2000000)).setCell ⟨bx, 2, none⟩ (.int .i64 2000)).setCell ⟨bx, 3, none⟩ (.int .i64 1000)).setCell ⟨bx, 4, none⟩ (.int .i64 500)).setCell ⟨bx, 5, none⟩ (.slice ad 2 cd)).setCell ⟨bx, 6, none⟩ (.slice none 0 0)).setCell ⟨bx, 7, none⟩ (.slice none 0 0)).setCell ⟨bx, 8, none⟩ (.int .i64 8)) = W6 := ⟨_, rfl⟩
      have hb6 : W6.heap[bx]? = some (.cells #[.int .i64 2, .int .i64 2000000, .int .i64 2000, .int .i64 1000, .int .i64 500, .slice ad 2 cd, .slice none 0 0, .slice none 0 0, .int .i64 8] 26) := by rw [← hW6]; exact set9_heap HS.out.bx0
      have hoth : ∀ q, q ≠ bx → W6.heap[q]? = wr.heap[q]? := fun q hq => by
        rw [← hW6]
        repeat rw [setCell_heap (Ne.symm hq)]
      have hG6 : w.grownBy W6 none := by
        rw [← hW6]
        repeat refine gr_setNew ?_ (Nat.le_of_eq hbx.out) _ _
        exact HS.out.gr
      have HNA := hid (famD_rows HS.out hoth)
      rw [hW6]
      clear hW6 c0 c1 c2 c3 c4 c5 c6 c7 c8 d0 d1 d2 d3 d4 d5 d6 d7 d8 e0 e1 e2 e3 e4 e5 e6 e7 e8
      have o0 := hcell hb6 0 _ rfl
      have o1 := hcell hb6 1 _ rfl
      have o2 := hcell hb6 2 _ rfl
      have o3 := hcell hb6 3 _ rfl
      have o4 := hcell hb6 4 _ rfl
      have o5 := hcell hb6 5 _ rfl
      have o6 := hcell hb6 6 _ rfl
      have o7 := hcell hb6 7 _ rfl
      have o8 := hcell hb6 8 _ rfl
      refine bodyPost_ret (v := cfV famD.cf (.slice ad 2 cd) (.slice none 0 0) (.slice none 0 0)) (by simp [results, Tryz.results23, go_sem, o0, o1, o2, o3, o4, o5, o6, o7, o8, cfV, famD]) rfl ⟨_, rfl, HNA, hid hG6⟩
end Go.Proofs.YtckoaeoecjphiaaGreat

/- Rounds of right clocks, in plain words; the chapter's two examples. -/
namespace Go.Proofs.YtckoaeoecjphiaaGreat
open Go.RowKit Go.Lib

theorem lsx_ins (x : Sd) : ∀ (l : List Sd), l.Pairwise lexS → (∀ y ∈ l, y.h ≠ x.h) → ∃ r : List Sd, r.Perm (x :: l) ∧ r.Pairwise lexS
  | [], _, _ => ⟨[x], List.Perm.refl _, by simp⟩
  | y :: l, h, hn => by
    obtain ⟨h1, h2⟩ := List.pairwise_cons.1 h
    have hy := hn y (by simp)
    by_cases hxy : lexS x y
    · refine ⟨x :: y :: l, List.Perm.refl _, List.pairwise_cons.2 ⟨fun z hz => ?_, h⟩⟩
      rcases List.mem_cons.1 hz with rfl | hz
      · exact hxy
      · exact hxy.trans (h1 z hz)
    · obtain ⟨r, hp, hs⟩ := lsx_ins x l h2 (fun z hz => hn z (List.mem_cons_of_mem _ hz))
      refine ⟨y :: r, (hp.cons y).trans (List.Perm.swap x y l), List.pairwise_cons.2 ⟨fun z hz => ?_, hs⟩⟩
      rcases List.mem_cons.1 (hp.subset hz) with rfl | hz
      · unfold lexS at *; omega
      · exact h1 z hz
theorem lsx_sorted : ∀ (l : List Sd), l.Pairwise (fun a b => a.h ≠ b.h) → ∃ r : List Sd, r.Perm l ∧ r.Pairwise lexS
  | [], _ => ⟨[], List.Perm.refl _, by simp⟩
  | x :: l, h => by
    obtain ⟨h1, h2⟩ := List.pairwise_cons.1 h
    obtain ⟨r, hp, hs⟩ := lsx_sorted l h2
    obtain ⟨r2, hp2, hs2⟩ := lsx_ins x r hs (fun y hy => (h1 y (hp.subset hy)).symm)
    exact ⟨r2, hp2.trans (hp.cons x), hs2⟩
theorem sorts_ex (R : Rd) : ∃ ys, Sorts R ys := by
  obtain ⟨ys, h1, h2⟩ := lsx_sorted (sdTo R.l R.p R.l.length) ((sdTo_inc R.l R.p R.l.length).imp (fun h => by omega))
  exact ⟨ys, h1, h2⟩
theorem at0 (b t : Int) : (⟨0, b, 0⟩ : Ck).at_ t = b + t := by
  show b + (t - 0) + (t - 0) * 0 / 1000000000 = b + t
  rw [Int.mul_zero, Int.zero_ediv]
  omega
theorem atm0 (m v t : Int) : (⟨m, v, 0⟩ : Ck).at_ t = v - m + t := by
  show v + (t - m) + (t - m) * 0 / 1000000000 = v - m + t
  rw [Int.mul_zero, Int.zero_ediv]
  omega
theorem isWhen0 {b n : Int} (h0 : 0 ≤ n - b) (h1 : n - b ≤ 1125899906842624) : IsWhen 0 b 0 n (n - b) := by
  refine ⟨h0, h1, ?_, fun s hs hs2 => ?_⟩
  · have := at0 b (n - b)
    unfold Ck.at_ at this
    dsimp only at this
    rw [this]
    omega
  · have := at0 b s
    unfold Ck.at_ at this
    dsimp only at this
    rw [this]
    omega
theorem when0 {b n : Int} (h0 : 0 ≤ n - b) (h1 : n - b ≤ 1125899906842624) : whenR ⟨0, b, 0⟩ n = (n - b, 0) := whenR_ok (isWhen0 h0 h1)
theorem when0_inv {b n : Int} (h0 : 0 ≤ n - b) (h : (whenR ⟨0, b, 0⟩ n).2 = 0) : (whenR ⟨0, b, 0⟩ n).1 = n - b := by
  by_cases h1 : n - b ≤ 1125899906842624
  · rw [when0 h0 h1]
  · have h2 : whenR ⟨0, b, 0⟩ n = (0, 5) := whenR_none (k := ⟨0, b, 0⟩) (by rw [at0]; omega) (by show (-1000000 : Int) ≤ 0; omega)
    rw [h2] at h
    cases h
theorem hasN_zero (h : Nat) : hasN 0 h = false := by unfold hasN; simp
/-- A round of right clocks, in which nothing is lost. -/
structure RightR (R : Rd) : Prop where
  ok : RdOk R
  ck : ∀ j, j < R.l.length → ∃ b, nthC R.l j = ⟨0, b, 0⟩ ∧ -2147483648 ≤ b ∧ b ≤ R.p
  u0 : R.u0 = 0
  u1 : R.u1 = 0
  w0 : R.w0 = 0
  w1 : R.w1 = 0
noncomputable abbrev Rd.T (R : Rd) : Int := R.pt 0 + R.d.cf.wi + R.d.cf.de
variable {R : Rd}
theorem RightR.came (h : RightR R) : R.came 1 = R.came 0 := by
  unfold Rd.came Rd.up
  rw [if_pos rfl, if_neg (by omega), h.u0, h.u1]
theorem RightR.pt1 (h : RightR R) : R.pt 1 = R.pt 0 := by unfold Rd.pt; rw [h.came]
theorem RightR.ptw (h : RightR R) {w : Nat} (hw : w < 2) : R.pt w = R.pt 0 := by
  match w, hw with
  | 0, _ => rfl
  | 1, _ => exact h.pt1
theorem RightR.frs (h : RightR R) {j : Nat} {b : Int} (hb : nthC R.l j = ⟨0, b, 0⟩) (hj : j < R.l.length) : ∀ w, w ≤ 2 → ∀ x ∈ R.frTo j w, x.by_ = R.p + R.E - (b + R.T)
  | 0, _ => by simp [Rd.frTo]
  | w + 1, hw => by
    intro x hx
    have ih := h.frs hb hj w (by omega)
    have e : R.frTo j (w + 1) = R.fr j w (R.frTo j w) := rfl
    rw [e] at hx
    unfold Rd.fr at hx
    split at hx
    · unfold hearsF at hx
      split at hx
      · rename_i hdue
        have hrow := h.ok.row hj (show w < 2 by omega)
        rw [hb, h.ptw (show w < 2 by omega)] at hdue hx
        have hloc : (dueR ⟨0, b, 0⟩ (R.pt 0 + R.d.cf.wi + nth (nthR R.d.rows j) w) (nth (nthR R.d.rows j) w) R.d.cf.de).1 = R.T := by
          unfold dueR at hdue ⊢
          split at hdue
          · rename_i hnow
            rw [if_pos hnow]
            have hn : (⟨0, b, 0⟩ : Ck).at_ (R.pt 0 + R.d.cf.wi + nth (nthR R.d.rows j) w) + R.d.cf.de - nth (nthR R.d.rows j) w = b + R.T := by
              rw [at0]
              unfold Rd.T
              omega
            rw [hn] at hdue ⊢
            have hr : realB (R.pt 0 + R.d.cf.wi + nth (nthR R.d.rows j) w) = true := by
              have : realB (R.pt 0 + R.d.cf.wi + nth (nthR R.d.rows j) w) = true ∧ (0 : Int) ≤ R.pt 0 + R.d.cf.wi + nth (nthR R.d.rows j) w := by simpa [nowB] using hnow
              exact this.1
            have hr1 := realB_iff.1 hr
            have hT : 0 ≤ R.T := by unfold Rd.T; omega
            rw [when0_inv (by omega) hdue]
            omega
          · cases hdue
        rw [hloc, at0] at hx
        unfold hearF at hx
        split at hx
        · rcases List.mem_append.1 hx with hx | hx
          · exact ih x hx
          · obtain rfl := List.mem_singleton.1 hx
            show -(b + R.T - R.p - R.E) = _
            omega
        · exact ih x hx
      · exact ih x hx
    · exact ih x hx
/-- A clock that heard, behind the round. -/
theorem RightR.aft (h : RightR R) {j : Nat} {b : Int} (hb : nthC R.l j = ⟨0, b, 0⟩) (hlo : -2147483648 ≤ b ∧ b ≤ R.p) (hj : j < R.l.length) (h0 : 0 < R.hrd j) :
    R.by_ j = R.p + R.E - (b + R.T) ∧ R.aft j = ⟨R.p + R.E + R.A + 1 - b, R.p + R.E + R.A + 1 + R.by_ j, 0⟩ := by
  have hne : R.fs j ≠ [] := fun e => by unfold Rd.hrd at h0; rw [e] at h0; simp at h0
  have hby : R.by_ j = R.p + R.E - (b + R.T) := h.frs hb hj 2 (Nat.le_refl _) _ (bestH_mem hne)
  obtain ⟨ys, hys⟩ := sorts_ex R
  have hA := h.ok.by_ hys j
  have hEA := h.ok.EA
  have hp := h.ok.pcy.1
  refine ⟨hby, ?_⟩
  unfold Rd.aft
  rw [if_pos h0, hb]
  unfold setR
  rw [when0 (by omega) (by omega)]
  dsimp only
  rw [if_pos rfl, at0]
  have e : b + (R.p + R.E + R.A + 1 - b) = R.p + R.E + R.A + 1 := by omega
  rw [e, if_pos (shownB_iff.2 (by omega))]

theorem RightR.crew1 (h : RightR R) : R.crew 1 = R.crew 0 := by unfold Rd.crew; rw [h.came]
theorem RightR.hears (h : RightR R) {j w : Nat} {b : Int} (hb : nthC R.l j = ⟨0, b, 0⟩) (hj : j < R.l.length) (hw : w < 2) (hc : R.crew 0 ≠ 0) (hs : 0 ≤ R.sent j) (hp : 0 ≤ R.pt 0) (hT : R.T ≤ 1125899906842624) (hB : hearB (b + R.T) R.p R.E R.A = true) (fs : List Hd) : (R.fr j w fs).length = fs.length + 1 := by
  have hcw : R.crew w = R.crew 0 := by
    match w, hw with
    | 0, _ => rfl
    | 1, _ => exact h.crew1
  have hdn : R.down w = 0 := by unfold Rd.down; split; exact h.w0; exact h.w1
  have hrow := h.ok.row hj hw
  obtain ⟨_, ⟨d0, d1⟩, ⟨e0, e1⟩, _⟩ := h.ok.span
  have hon : R.on j w = true := by
    unfold Rd.on
    rw [hcw, hdn, hasN_zero, decide_eq_true hs, decide_eq_false hc]
    rfl
  have hT' : R.T = R.pt 0 + R.d.cf.wi + R.d.cf.de := rfl
  have hnow : nowB (⟨0, b, 0⟩ : Ck).m (R.pt 0 + R.d.cf.wi + nth (nthR R.d.rows j) w) = true := by
    unfold nowB
    rw [realB_iff.2 (by omega), Bool.true_and]
    exact decide_eq_true (by show (0 : Int) ≤ _; omega)
  have hn : (⟨0, b, 0⟩ : Ck).at_ (R.pt 0 + R.d.cf.wi + nth (nthR R.d.rows j) w) + R.d.cf.de - nth (nthR R.d.rows j) w = b + R.T := by
    rw [at0]
    omega
  have hdue : dueR ⟨0, b, 0⟩ (R.pt 0 + R.d.cf.wi + nth (nthR R.d.rows j) w) (nth (nthR R.d.rows j) w) R.d.cf.de = (R.T, 0) := by
    unfold dueR
    rw [if_pos hnow, hn, when0 (by omega) (by omega)]
    congr 1
    omega
  unfold Rd.fr
  rw [if_pos hon]
  unfold hearsF
  rw [hb, h.ptw hw, hdue]
  dsimp only
  rw [if_pos rfl, at0]
  unfold hearF
  rw [if_pos hB, List.length_append, List.length_singleton]
theorem RightR.hrd2 (h : RightR R) {j : Nat} {b : Int} (hb : nthC R.l j = ⟨0, b, 0⟩) (hj : j < R.l.length) (hc : R.crew 0 ≠ 0) (hs : 0 ≤ R.sent j) (hp : 0 ≤ R.pt 0) (hT : R.T ≤ 1125899906842624) (hB : hearB (b + R.T) R.p R.E R.A = true) : R.hrd j = 2 := by
  unfold Rd.hrd Rd.fs
  show (R.fr j 1 (R.fr j 0 [])).length = 2
  rw [h.hears hb hj (by omega) hc hs hp hT hB, h.hears hb hj (by omega) hc hs hp hT hB]
  rfl
/-- The chapter's examples: one clock b ahead. -/
def exR (b : Int) : Rd := ⟨famD, 1, [⟨0, b, 0⟩, ⟨0, 0, 0⟩], 0, 0, 0, 0⟩
theorem ex_ok {b : Int} (h : b = 0 ∨ b = 300) : RightR (exR b) := by
  have hg : goesZ famD 1 [⟨0, b, 0⟩, ⟨0, 0, 0⟩] = true := by rcases h with rfl | rfl <;> decide
  have hz : (0 : Nat) < 4294967296 := by decide
  refine ⟨⟨hg, hz, hz, hz, hz⟩, fun j hj => ?_, rfl, rfl, rfl, rfl⟩
  have hj2 : j < 2 := hj
  match j, hj2 with
  | 0, _ => exact ⟨b, rfl, by rcases h with rfl | rfl <;> decide⟩
  | 1, _ => exact ⟨0, rfl, by rcases h with rfl | rfl <;> decide⟩
theorem ex_sd {b : Int} (h : b = 0 ∨ b = 300) : (exR b).sd = [⟨0, 2000000 - b⟩, ⟨1, 2000000⟩] := by
  have hb : 0 ≤ b ∧ b ≤ 300 := by omega
  have w0 : whenR ⟨0, b, 0⟩ 2000000 = (2000000 - b, 0) := when0 (by omega) (by omega)
  have w1 : whenR ⟨0, 0, 0⟩ 2000000 = (2000000 - 0, 0) := when0 (by omega) (by omega)
  have e : sdTo (exR b).l (exR b).p 2 = [⟨0, 2000000 - b⟩, ⟨1, 2000000⟩] := by
    show sdTo [⟨0, b, 0⟩, ⟨0, 0, 0⟩] 2000000 2 = _
    have n0 : nthC [⟨0, b, 0⟩, ⟨0, 0, 0⟩] 0 = ⟨0, b, 0⟩ := rfl
    have n1 : nthC [⟨0, b, 0⟩, ⟨0, 0, 0⟩] 1 = ⟨0, 0, 0⟩ := rfl
    unfold sdTo sdTo sdTo
    rw [n0, n1, w0, w1]
    rfl
  unfold Rd.sd
  show sortS (sdTo (exR b).l (exR b).p 2) = _
  rw [e]
  refine sortS_eq (List.Perm.refl _) ?_
  simp [lexS]
  omega
theorem ex_came {b : Int} (h : b = 0 ∨ b = 300) : (exR b).came 0 = [⟨0, 2000000 - b⟩, ⟨1, 2000000⟩] := by
  unfold Rd.came
  rw [ex_sd h]
  rcases h with rfl | rfl <;> rfl
theorem ex_crew {b : Int} (h : b = 0 ∨ b = 300) : (exR b).crew 0 = 3 := by unfold Rd.crew; rw [ex_came h]; rfl
theorem tol_two {b : Int} (h : 0 ≤ b) : tolL [0, b] = b / 2 := by
  have e : sortL [0, b] = [0, b] := by
    unfold sortL
    exact List.mergeSort_of_pairwise (by simp [h])
  unfold tolL
  rw [e]
  simp [nth]
theorem ex_pt {b : Int} (h : b = 0 ∨ b = 300) : (exR b).pt 0 = 2002000 - b + b / 2 := by
  unfold Rd.pt
  rw [ex_came h]
  unfold pointS
  rw [if_neg (by simp)]
  show 2000000 - b + 2000 + tolL [2000000 - b - (2000000 - b), 2000000 - (2000000 - b)] = _
  rw [show 2000000 - b - (2000000 - b) = 0 by omega, show 2000000 - (2000000 - b) = b by omega, tol_two (by omega)]
  omega
theorem ex_sent {b : Int} (h : b = 0 ∨ b = 300) : (exR b).sent 0 = 2000000 - b ∧ (exR b).sent 1 = 2000000 := by
  have w0 : whenR ⟨0, b, 0⟩ 2000000 = (2000000 - b, 0) := when0 (by omega) (by omega)
  have w1 : whenR ⟨0, 0, 0⟩ 2000000 = (2000000 - 0, 0) := when0 (by omega) (by omega)
  constructor
  · show sentZ 2000000 ⟨0, b, 0⟩ = _
    unfold sentZ
    rw [w0]
    rfl
  · show sentZ 2000000 ⟨0, 0, 0⟩ = _
    unfold sentZ
    rw [w1]
    rfl
theorem ex_T {b : Int} (h : b = 0 ∨ b = 300) : (exR b).T = 2005000 - b + b / 2 := by
  show (exR b).pt 0 + 1000 + 2000 = _
  rw [ex_pt h]
  omega
theorem ex_hrd {b : Int} (h : b = 0 ∨ b = 300) : (exR b).hrd 0 = 2 ∧ (exR b).hrd 1 = 2 := by
  have hR := ex_ok h
  obtain ⟨s0, s1⟩ := ex_sent h
  have hB : ∀ c : Int, (c = b ∨ c = 0) → hearB (c + (exR b).T) (exR b).p (exR b).E (exR b).A = true := fun c hc => by
    rw [ex_T h]
    show hearB (c + (2005000 - b + b / 2)) 2000000 5000 2000 = true
    unfold hearB lateB
    rw [Bool.and_eq_true, Bool.and_eq_true]
    exact ⟨decide_eq_true (by omega), decide_eq_true (by omega), decide_eq_true (by omega)⟩
  exact ⟨hR.hrd2 (b := b) rfl (show 0 < 2 by decide) (by rw [ex_crew h]; decide) (by rw [s0]; omega) (by rw [ex_pt h]; omega) (by rw [ex_T h]; omega) (hB b (.inl rfl)),
    hR.hrd2 (b := 0) rfl (show 1 < 2 by decide) (by rw [ex_crew h]; decide) (by rw [s1]; omega) (by rw [ex_pt h]; omega) (by rw [ex_T h]; omega) (hB 0 (.inr rfl))⟩
theorem ex_aft {b : Int} (h : b = 0 ∨ b = 300) : ((exR b).by_ 0 = b / 2 - b + (b - b / 2 - b / 2) ∧ (exR b).by_ 1 = b - b / 2) ∧ (exR b).aft 0 = ⟨2007001 - b, 2007001 + (exR b).by_ 0, 0⟩ ∧ (exR b).aft 1 = ⟨2007001, 2007001 + (exR b).by_ 1, 0⟩ := by
  have hR := ex_ok h
  obtain ⟨h0, h1⟩ := ex_hrd h
  obtain ⟨a0, a1⟩ := hR.aft (j := 0) (b := b) rfl (by rcases h with rfl | rfl <;> decide) (show 0 < 2 by decide) (by omega)
  obtain ⟨c0, c1⟩ := hR.aft (j := 1) (b := 0) rfl (by rcases h with rfl | rfl <;> decide) (show 1 < 2 by decide) (by omega)
  have hp : (exR b).p = 2000000 := rfl
  have hE : (exR b).E = 5000 := rfl
  have hA : (exR b).A = 2000 := rfl
  rw [ex_T h, hp, hE] at a0 c0
  rw [hp, hE, hA] at a1 c1
  refine ⟨⟨by omega, by omega⟩, ?_, ?_⟩
  · rw [a1]
    congr 1
  · rw [c1]
    congr 1
end Go.Proofs.YtckoaeoecjphiaaGreat

/- round.Bound. -/
namespace Go.Proofs.YtckoaeoecjphiaaGreat
open Go.RowKit Go.Lib

def boundZ (de rho far : Int) : Int := 2 * (2 * de * rho / 1000000000 + 2) + 2 * (far * rho / 1000000000 + 2) + 2
set_option maxRecDepth 100000 in
set_option maxHeartbeats 4000000 in
theorem bound_bad (d : Net) (vd ve vl : Value) (rho far : Int) (w : World) (hN : NetAt w.heap.size w d vd ve vl) (h : checkZ d ≠ 0 ∨ rho < 0 ∨ 1000000 < rho ∨ far < 0 ∨ 2147483648 < far) :
    Calls Tryz.prog 20 #[cfV d.cf vd ve vl, .int .i64 rho, .int .i64 far] w fun e w' => e = .returned (.int .i64 0) ∧ w.grownBy w' none := by
  have HC := hid (fun (W : World) (g : w.grownBy W none) => check_any d vd ve vl W (hN.later g))
  obtain ⟨v, hv⟩ : ∃ v, Hid (checkZ d = v) := ⟨_, hid rfl⟩
  rw [hv.out] at HC h
  obtain ⟨⟨ho, C, de, wi, pr, qu⟩, rows, ents, lnks⟩ := d
  dsimp only at *
  clear hN hv
  have g0 := hid (gr_alloc (gr_refl w none) (.cells #[.int .i64 ho, .int .i64 C, .int .i64 de, .int .i64 wi, .int .i64 pr, vd, ve, vl, .int .i64 qu] 26))
  by_cases hv0 : v = 0
  · subst hv0
    go_enter Tryz.func20, Tryz.ntmps20
    go_wp2_with fail
    refine (HC.out _ g0.out).mono ?_
    rintro e w1 ⟨rfl, g1⟩
    have G1 := hid (gr_trans g0.out g1)
    clear g1
    by_cases h1 : rho < 0
    · go_wp2_with fail
      go_ret
      exact ⟨rfl, G1.out⟩
    · by_cases h2 : 1000000 < rho
      · go_wp2_with fail
        go_ret
        exact ⟨rfl, G1.out⟩
      · by_cases h3 : far < 0
        · go_wp2_with fail
          go_ret
          exact ⟨rfl, G1.out⟩
        · have h4 : 2147483648 < far := by omega
          go_wp2_with fail
          go_ret
          exact ⟨rfl, G1.out⟩
  · have hvb : (v != 0) = true := by simpa using hv0
    clear h hv0
    go_enter Tryz.func20, Tryz.ntmps20
    go_wp2_with fail
    refine (HC.out _ g0.out).mono ?_
    rintro e w1 ⟨rfl, g1⟩
    have G1 := hid (gr_trans g0.out g1)
    clear g1
    go_wp2_with fail
    go_ret
    exact ⟨rfl, G1.out⟩
set_option maxRecDepth 100000 in
set_option maxHeartbeats 4000000 in
theorem bound_ok (d : Net) (vd ve vl : Value) (rho far : Int) (w : World) (hN : NetAt w.heap.size w d vd ve vl) (h : checkZ d = 0) (h1 : 0 ≤ rho ∧ rho ≤ 1000000) (h2 : 0 ≤ far ∧ far ≤ 2147483648) :
    Calls Tryz.prog 20 #[cfV d.cf vd ve vl, .int .i64 rho, .int .i64 far] w fun e w' => e = .returned (.int .i64 (boundZ d.cf.de rho far)) ∧ w.grownBy w' none := by
  have HC := hid (fun (W : World) (g : w.grownBy W none) => check_any d vd ve vl W (hN.later g))
  rw [h] at HC
  obtain ⟨_, ⟨d0, d1⟩, _⟩ := spansZ_bd (check_cy h).1
  obtain ⟨⟨ho, C, de, wi, pr, qu⟩, rows, ents, lnks⟩ := d
  dsimp only at *
  clear hN h
  obtain ⟨r0, r1⟩ := h1
  obtain ⟨f0, f1⟩ := h2
  have g0 := hid (gr_alloc (gr_refl w none) (.cells #[.int .i64 ho, .int .i64 C, .int .i64 de, .int .i64 wi, .int .i64 pr, vd, ve, vl, .int .i64 qu] 26))
  have Hbx := hid (heap_alloc_new w (.cells #[.int .i64 ho, .int .i64 C, .int .i64 de, .int .i64 wi, .int .i64 pr, vd, ve, vl, .int .i64 qu] 26))
  have hX : 0 ≤ 2 * de * rho ∧ 2 * de * rho ≤ 2097152 * 1000000 := ⟨Int.mul_nonneg (by omega) r0, Int.mul_le_mul (by omega) r1 r0 (by omega)⟩
  have hY : 0 ≤ far * rho ∧ far * rho ≤ 2147483648 * 1000000 := ⟨Int.mul_nonneg f0 r0, Int.mul_le_mul f1 r1 r0 (by omega)⟩
  obtain ⟨R, hR⟩ : ∃ R, Hid (boundZ de rho far = R) := ⟨_, hid rfl⟩
  rw [hR.out]
  have hR2 := hR.out
  unfold boundZ at hR2
  have hRR := hid hR2
  have s1 : IntKind.i64.wrap (2 * de) = 2 * de := IntWalk.i64_in _ (by omega)
  obtain ⟨X, hXe⟩ : ∃ X, 2 * de * rho = X := ⟨_, rfl⟩
  obtain ⟨Y, hYe⟩ : ∃ Y, far * rho = Y := ⟨_, rfl⟩
  have s2 : IntKind.i64.wrap (2 * de * rho) = X := by rw [hXe]; exact IntWalk.i64_in _ (by omega)
  have s3 : IntKind.i64.wrap (far * rho) = Y := by rw [hYe]; exact IntWalk.i64_in _ (by omega)
  rw [hXe] at hX hRR
  rw [hYe] at hY hRR
  have t1 : X.tdiv 1000000000 = X / 1000000000 := Int.tdiv_eq_ediv_of_nonneg hX.1
  have t2 : Y.tdiv 1000000000 = Y / 1000000000 := Int.tdiv_eq_ediv_of_nonneg hY.1
  clear hR hR2 hXe hYe
  go_enter Tryz.func20, Tryz.ntmps20
  go_wp2_with fail
  refine (HC.out _ g0.out).mono ?_
  rintro e w1 ⟨rfl, g1⟩
  have G1 := hid (gr_trans g0.out g1)
  have k2 := hcell (gr_heap g1 Hbx.out (by simp)) 2 _ rfl
  clear g1
  go_wp2_with fail
  go_ret
  refine ⟨?_, G1.out⟩
  rw [← hRR.out]
  rfl
end Go.Proofs.YtckoaeoecjphiaaGreat
