/- Lemmas: The document's round: a frame is added; who is first. The document's round: who is first, in the order in which they sent. -/
import Derived.Test.YtckoaeoecjphiaaGreatK26
import Derived.Test.YtckoaeoecjphiaaGreatK25
import Derived.Test.YtckoaeoecjphiaaGreatK36
import Derived.Test.YtckoaeoecjphiaaGreatK40
import Derived.BigQuiet

/- The document's round: a frame is added; who is first. -/
namespace Go.Proofs.YtckoaeoecjphiaaGreat
open Go.RowKit Go.Lib

theorem laid_below {w w' : World} {base : Nat} {v v2 : Value} {ls ls' : List CI} (hk : KR w base v ls) (h : LaidK w w' base v v2 ls') (hbs : base ≤ w.heap.size) : Below base w w' := by
  obtain ⟨_, w4, o, g4, g5, _⟩ := h
  exact ((gr_below (gr_alloc g4 o) hbs (by simp)).trans (gr_below g5 (by have := g4.size; simp; omega) (fun q hq => (hk.lt q hq).1)))
theorem radd_step (base : Nat) (v : Value) (wi de cy : Int) (lost : Nat) (ys L : List Sd) (x : Sd) (w : World) (hk : KR w base v (L.map (ciS de cy 0))) (hbs : base ≤ w.heap.size) (hO : CameOk de wi ys L)
    (hxh : x.h < 6) (hxt : 0 ≤ x.t ∧ x.t ≤ 1125899906842624) (hp : (L ++ [x]).Pairwise fun a b => a.h ≠ b.h) (hh : ∀ y ∈ L, y.h < 6) (hlost : hasN lost x.h = false) (hcy : 0 ≤ cy ∧ cy ≤ 1125899906842624)
    (hle : ∀ y ∈ L, y.t ≤ x.t) (ht0 : ∀ y ∈ L, 0 ≤ y.t) (hwi : 0 ≤ wi ∧ wi ≤ 1048576) (hde : 0 ≤ de ∧ de ≤ 1048576) :
    Calls Tryz.prog 89 #[v, .int .i64 wi, .int .i64 (x.t + de), .agg #[.int .i64 1, .int .i64 (x.h : Int), .int .i64 cy, .int .u32 0, .int .i64 0]] w fun e w' => ∃ (v2 : Value) (e1 e2 : Int), e = .returned (.tuple #[v2, .int .i64 e1, .int .i64 e2]) ∧ Hid (KR w' base v2 ((takeS de wi lost L x).map (ciS de cy 0))) ∧ Hid (Below base w w') := by
  have hr : rightB 1 (x.h : Int) cy 0 0 = true := by
    unfold rightB inB
    simp
    omega
  obtain ⟨_, _, hlen⟩ := crew_no (de := 0) (cy := 0) (cl := 0) hp hh hxh
  by_cases hbig : 1125899906842624 < x.t + de
  · have hT : takeS de wi lost L x = L := by unfold takeS; rw [hlost, if_neg (by simp), if_pos hbig]
    obtain ⟨a, cap, rfl⟩ := own_form hk
    refine (radd_bad a _ cap wi (x.t + de) 1 x.h cy 0 0 w ?_).mono ?_
    · unfold takesB
      rw [hr, decide_eq_false (by omega)]
      rfl
    · rintro e w' ⟨rfl, g⟩
      exact ⟨_, _, _, rfl, hid (by rw [hT]; exact hk.kept g (by simp [Value.ownBlock]; cases a <;> simp)), hid (gr_below g hbs (by simp))⟩
  · cases L with
    | nil =>
      have hT : takeS de wi lost [] x = [x] := by unfold takeS; rw [hlost, if_neg (by simp), if_neg hbig]
      refine (radd_first base v wi (x.t + de) cy 0 0 x.h w hk (by omega) hr hxh hwi hbs).mono ?_
      rintro e w' ⟨v2, rfl, hL⟩
      exact ⟨_, _, _, rfl, hid (by rw [hT]; exact hL.1), hid (laid_below hk hL hbs)⟩
    | cons y r =>
      have hy1 := hle y (by simp)
      have hy0 := ht0 y (by simp)
      have hf : -1125899906842624 ≤ y.t + de ∧ y.t + de ≤ 1125899906842624 := by omega
      have hl2 : ((y :: r).map (ciS de cy 0)).length ≤ 100 := by rw [List.length_map]; omega
      by_cases hin : x.t ≤ y.t + wi
      · have hT : takeS de wi lost (y :: r) x = (y :: r) ++ [x] := by unfold takeS; rw [hlost, if_neg (by simp), if_neg hbig]; exact if_pos hin
        refine (radd_more base v _ wi (x.t + de) cy 0 0 (y.t + de) x.h w hk (by simp) rfl (by omega) hf hr hxh (by omega) hwi ?_ hl2 hbs).mono ?_
        · intro j hj
          rw [List.length_map] at hj
          rw [cith_map hj]
          rw [List.pairwise_append] at hp
          exact hp.2.2 (nthS (y :: r) j) (by rw [nthS_get hj]; exact List.getElem_mem hj) x (by simp)
        · rintro e w' ⟨v2, rfl, hL⟩
          exact ⟨_, _, _, rfl, hid (by rw [hT, List.map_append]; exact hL.1), hid (laid_below hk hL hbs)⟩
      · have hT : takeS de wi lost (y :: r) x = y :: r := by unfold takeS; rw [hlost, if_neg (by simp), if_neg hbig]; exact if_neg hin
        refine (radd_range base v _ wi (x.t + de) x.h cy 0 0 (y.t + de) w hk (by simp) rfl (by omega) hf hr (by omega) (.inr (by omega)) hwi).mono ?_
        rintro e w' ⟨rfl, g⟩
        exact ⟨_, _, _, rfl, hid (by rw [hT]; exact hk.kept g (by cases v.ownBlock <;> simp)), hid (gr_below g hbs (by simp))⟩
/-- Of the first n hosts the one that is first. -/
def firstTo (sent : Nat → Int) (gone : Nat → Bool) : Nat → Int
  | 0 => -1
  | n + 1 => if gone n = false ∧ 0 ≤ sent n ∧ (firstTo sent gone n < 0 ∨ sent n < sent (firstTo sent gone n).toNat) then (n : Int) else firstTo sent gone n
theorem firstTo_form (sent : Nat → Int) (gone : Nat → Bool) : ∀ n, firstTo sent gone n = -1 ∨ ∃ b : Nat, b < n ∧ firstTo sent gone n = (b : Int)
  | 0 => .inl rfl
  | n + 1 => by
    unfold firstTo
    split
    · exact .inr ⟨n, Nat.lt_succ_self n, rfl⟩
    · rcases firstTo_form sent gone n with h | ⟨b, hb, h⟩
      · exact .inl h
      · exact .inr ⟨b, by omega, h⟩
/-- The first one: of those that are not gone and sent the least in time, then in number. -/
theorem firstTo_spec (sent : Nat → Int) (gone : Nat → Bool) : ∀ n, (firstTo sent gone n = -1 ∧ ∀ j, j < n → ¬(gone j = false ∧ 0 ≤ sent j)) ∨
    ∃ b : Nat, b < n ∧ firstTo sent gone n = (b : Int) ∧ (gone b = false ∧ 0 ≤ sent b) ∧ ∀ j, j < n → gone j = false → 0 ≤ sent j → j ≠ b → (sent b < sent j ∨ sent b = sent j ∧ b < j)
  | 0 => .inl ⟨rfl, fun j hj => absurd hj (Nat.not_lt_zero j)⟩
  | n + 1 => by
    unfold firstTo
    rcases firstTo_spec sent gone n with ⟨h1, h2⟩ | ⟨b, hb, h1, h2, h3⟩
    · rw [h1]
      by_cases hc : gone n = false ∧ 0 ≤ sent n
      · rw [if_pos ⟨hc.1, hc.2, .inl (by omega)⟩]
        refine .inr ⟨n, Nat.lt_succ_self n, rfl, hc, fun j hj g1 g2 hne => ?_⟩
        exact absurd ⟨g1, g2⟩ (h2 j (by omega))
      · rw [if_neg (fun h => hc ⟨h.1, h.2.1⟩)]
        refine .inl ⟨rfl, fun j hj => ?_⟩
        by_cases e : j = n
        · subst e; exact hc
        · exact h2 j (by omega)
    · rw [h1]
      have ht : ((b : Int)).toNat = b := by omega
      rw [ht]
      by_cases hc : gone n = false ∧ 0 ≤ sent n ∧ ((b : Int) < 0 ∨ sent n < sent b)
      · rw [if_pos hc]
        have hlt : sent n < sent b := by rcases hc.2.2 with h | h <;> omega
        refine .inr ⟨n, Nat.lt_succ_self n, rfl, ⟨hc.1, hc.2.1⟩, fun j hj g1 g2 hne => ?_⟩
        by_cases e : j = b
        · subst e; exact .inl hlt
        · have := h3 j (by omega) g1 g2 e
          omega
      · rw [if_neg hc]
        refine .inr ⟨b, by omega, rfl, h2, fun j hj g1 g2 hne => ?_⟩
        by_cases e : j = n
        · subst e
          have : ¬sent j < sent b := fun h => hc ⟨g1, g2, .inr h⟩
          omega
        · exact h3 j (by omega) g1 g2 hne
set_option maxRecDepth 100000 in
set_option maxHeartbeats 4000000 in
theorem rfirst_any (g cap g2 cap2 n : Nat) (sent : Nat → Int) (gone : Nat → Bool) (w : World) (hn6 : n ≤ 100) (hc1 : n ≤ cap) (hc2 : n ≤ cap2) (h1 : ∀ j, j < n → w.cell? ⟨g, j, none⟩ = some (.int .i64 (sent j))) (h2 : ∀ j, j < n → w.cell? ⟨g2, j, none⟩ = some (.bool (gone j))) :
    Calls Tryz.prog 88 #[.slice (some ⟨g, 0, none⟩) n cap, .slice (some ⟨g2, 0, none⟩) n cap2] w fun e w' => e = .returned (.int .i64 (firstTo sent gone n)) ∧ w.grownBy w' none := by
  have H1 := hid h1
  have H2 := hid h2
  clear h1 h2
  obtain ⟨R, hR⟩ : ∃ R, Hid (firstTo sent gone n = R) := ⟨_, hid rfl⟩
  rw [hR.out]
  go_enter Tryz.func88, Tryz.ntmps88
  go_wp2_with fail
  go_loopw [5, 6] (fun x i wr => ∃ (k : Nat) (b : Int), k ≤ n ∧ i = .int .i64 k ∧ x = .int .i64 b ∧ Hid (firstTo sent gone k = b) ∧ Hid (w.grownBy wr none)) (fun _ i _ => n - (intOf i).toNat)
  case atStart => exact ⟨0, -1, by omega, rfl, rfl, hid rfl, hid (gr_refl w none)⟩
  case round =>
    obtain ⟨k, b, hk, rfl, rfl, hB, HG⟩ := hrel
    by_cases hlt : k < n
    · have hk2 : (k : Int) < (n : Int) := by omega
      have hkc : k < cap := by omega
      have hkc2 : k < cap2 := by omega
      have c1 := gr_cell HG.out (H1.out k hlt)
      have c2 := gr_cell HG.out (H2.out k hlt)
      have hS : Hid (firstTo sent gone (k + 1) = if gone k = false ∧ 0 ≤ sent k ∧ (b < 0 ∨ sent k < sent b.toNat) then (k : Int) else b) := hid (by rw [← hB.out]; rfl)
      have hform := firstTo_form sent gone k
      rw [hB.out] at hform
      have HC := hid (fun (j : Nat) (hj : j < n) => gr_cell HG.out (H1.out j hj))
      obtain ⟨s, hs⟩ : ∃ s, sent k = s := ⟨_, rfl⟩
      obtain ⟨q, hq⟩ : ∃ q, gone k = q := ⟨_, rfl⟩
      rw [hs] at c1 hS
      rw [hq] at c2 hS
      clear hs hq
      cases q
      · by_cases hs0 : 0 ≤ s
        · have hd0 : decide (0 ≤ s) = true := decide_eq_true hs0
          rcases hform with rfl | ⟨b', hb', rfl⟩
          · have hS2 : Hid (firstTo sent gone (k + 1) = (k : Int)) := hid (by rw [hS.out, if_pos ⟨rfl, hs0, .inl (by omega)⟩])
            clear hs0
            go_wp2_with fail
            go_quiet (fail)
            go_wp2_with fail
            go_roundw
            case rel => exact ⟨k + 1, k, by omega, by go_num, rfl, hS2, hid (gr_drewN HG.out _)⟩
            case measure => simp [intOf]; omega
          · have c3 := HC.out b' (by omega)
            obtain ⟨s2, hs2⟩ : ∃ s, sent b' = s := ⟨_, rfl⟩
            have ht : ((b' : Int)).toNat = b' := by omega
            rw [ht, hs2] at hS
            rw [hs2] at c3
            have hb2 : (b' : Int) < (n : Int) := by omega
            have hb3 : b' < cap := by omega
            clear hs2
            by_cases hss : s < s2
            · have hd1 : decide (s < s2) = true := decide_eq_true hss
              have hS2 : Hid (firstTo sent gone (k + 1) = (k : Int)) := hid (by rw [hS.out, if_pos ⟨rfl, hs0, .inr hss⟩])
              clear hs0 hss
              go_wp2_with fail
              go_quiet (fail)
              go_wp2_with fail
              go_roundw
              case rel => exact ⟨k + 1, k, by omega, by go_num, rfl, hS2, hid (gr_drewN HG.out _)⟩
              case measure => simp [intOf]; omega
            · have hd1 : decide (s < s2) = false := decide_eq_false hss
              have hS2 : Hid (firstTo sent gone (k + 1) = (b' : Int)) := hid (by rw [hS.out, if_neg (by omega)])
              clear hs0 hss
              go_wp2_with fail
              go_quiet (fail)
              go_wp2_with fail
              go_roundw
              case rel => exact ⟨k + 1, b', by omega, by go_num, rfl, hS2, hid (gr_drewN HG.out _)⟩
              case measure => simp [intOf]; omega
        · have hd0 : decide (0 ≤ s) = false := decide_eq_false hs0
          have hS2 : Hid (firstTo sent gone (k + 1) = b) := hid (by rw [hS.out, if_neg (fun h => hs0 h.2.1)])
          clear hs0 hform
          go_wp2_with fail
          go_quiet (fail)
          go_wp2_with fail
          go_roundw
          case rel => exact ⟨k + 1, b, by omega, by go_num, rfl, hS2, hid (gr_drewN HG.out _)⟩
          case measure => simp [intOf]; omega
      · have hS2 : Hid (firstTo sent gone (k + 1) = b) := hid (by rw [hS.out, if_neg (fun h => by cases h.1)])
        clear hform
        go_wp2_with fail
        go_quiet (fail)
        go_wp2_with fail
        go_roundw
        case rel => exact ⟨k + 1, b, by omega, by go_num, rfl, hS2, hid (gr_drewN HG.out _)⟩
        case measure => simp [intOf]; omega
    · obtain rfl : k = n := by omega
      clear hlt
      have hbR : Hid (b = R) := hid (hB.out.symm.trans hR.out)
      have HG2 := hid HG.out
      go_wp2_with fail
      go_ret
      exact ⟨by rw [← hbR.out]; rfl, HG2.out⟩
end Go.Proofs.YtckoaeoecjphiaaGreat

/- The document's round: who is first, in the order in which they sent. -/
namespace Go.Proofs.YtckoaeoecjphiaaGreat
open Go.RowKit Go.Lib

/-- Those of whom the first k have been taken. -/
def goneS (ys : List Sd) (k : Nat) (j : Nat) : Bool := (ys.take k).any fun x => x.h == j
theorem goneS_zero (ys : List Sd) (j : Nat) : goneS ys 0 j = false := rfl
theorem goneS_succ {ys : List Sd} {k : Nat} (hk : k < ys.length) (j : Nat) : goneS ys (k + 1) j = (goneS ys k j || decide ((nthS ys k).h = j)) := by
  unfold goneS
  rw [take_snocS hk, List.any_append]
  congr 1
  simp only [List.any_cons, List.any_nil, Bool.or_false]
  rw [Bool.eq_iff_iff]
  simp
theorem sdTo_mem {l : List Ck} {p : Int} {j : Nat} : ∀ {n : Nat}, j < n → (whenR (nthC l j) p).2 = 0 → (⟨j, (whenR (nthC l j) p).1⟩ : Sd) ∈ sdTo l p n
  | 0, h, _ => absurd h (Nat.not_lt_zero j)
  | n + 1, h, h0 => by
    unfold sdTo
    by_cases e : j = n
    · subst e
      rw [if_pos h0]
      simp
    · have := sdTo_mem (show j < n by omega) h0
      split
      · exact List.mem_append_left _ this
      · exact this
structure SrtAll (R : Rd) (ys : List Sd) : Prop where
  ne : ys.Pairwise fun a b => a.h ≠ b.h
  srt : ys.Pairwise lexS
  mem : ∀ x ∈ ys, x.h < R.l.length ∧ x.t = R.sent x.h ∧ 0 ≤ x.t ∧ x.t ≤ 1125899906842624
  all : ∀ j, j < R.l.length → 0 ≤ R.sent j → (⟨j, R.sent j⟩ : Sd) ∈ ys
theorem Sorts.more {R : Rd} (hR : RdOk R) {ys : List Sd} (hs : Sorts R ys) : SrtAll R ys := by
  obtain ⟨_, h2, h3⟩ := sdTo_sort R.l R.p hs.perm hs.srt
  refine ⟨h2, hs.srt, fun x hx => ?_, fun j hj h0 => ?_⟩
  · obtain ⟨a, b, c⟩ := h3 x hx
    have ht := whenR_t (hR.ck a).2 b
    refine ⟨a, ?_, by rw [c]; exact ht.1, by rw [c]; exact ht.2⟩
    unfold Rd.sent sentZ
    rw [if_pos b, c]
  · have hw : (whenR (nthC R.l j) R.p).2 = 0 := by
      unfold Rd.sent sentZ at h0
      by_cases hw : (whenR (nthC R.l j) R.p).2 = 0
      · exact hw
      · rw [if_neg hw] at h0; omega
    have e : R.sent j = (whenR (nthC R.l j) R.p).1 := by unfold Rd.sent sentZ; rw [if_pos hw]
    rw [e]
    exact hs.perm.symm.subset (sdTo_mem hj hw)
theorem drop_nthS {ys : List Sd} {k : Nat} (hk : k < ys.length) : ys.drop k = nthS ys k :: ys.drop (k + 1) := by
  rw [nthS_get hk]
  exact List.drop_eq_getElem_cons hk
theorem not_taken {ys : List Sd} (hne : ys.Pairwise fun a b => a.h ≠ b.h) {k : Nat} {x : Sd} (hx : x ∈ ys.drop k) : goneS ys k x.h = false := by
  unfold goneS
  rw [Bool.eq_false_iff]
  intro e
  obtain ⟨y, hy, e2⟩ := List.any_eq_true.1 e
  have hp : (ys.take k ++ ys.drop k).Pairwise fun a b => a.h ≠ b.h := by rw [List.take_append_drop]; exact hne
  rw [List.pairwise_append] at hp
  exact hp.2.2 y hy x hx (by simpa using e2)
/-- Who is first is who comes next in the order of sending. -/
theorem first_ys {R : Rd} {ys : List Sd} (h : SrtAll R ys) (k : Nat) : firstTo R.sent (goneS ys k) R.l.length = if k < ys.length then ((nthS ys k).h : Int) else -1 := by
  rcases firstTo_spec R.sent (goneS ys k) R.l.length with ⟨h1, h2⟩ | ⟨b, hb, h1, ⟨g1, g2⟩, h3⟩
  · rw [h1]
    by_cases hk : k < ys.length
    · exfalso
      have hm : nthS ys k ∈ ys.drop k := by rw [drop_nthS hk]; simp
      obtain ⟨m1, m2, m3, _⟩ := h.mem _ (List.mem_of_mem_drop hm)
      exact h2 _ m1 ⟨not_taken h.ne hm, by rw [← m2]; exact m3⟩
    · rw [if_neg hk]
  · rw [h1]
    have hx := h.all b hb g2
    have hxd : (⟨b, R.sent b⟩ : Sd) ∈ ys.drop k := by
      rw [← List.take_append_drop k ys] at hx
      rcases List.mem_append.1 hx with hx | hx
      · exfalso
        have : goneS ys k b = true := List.any_eq_true.2 ⟨_, hx, by simp⟩
        rw [this] at g1
        cases g1
      · exact hx
    have hk : k < ys.length := by
      rcases Nat.lt_or_ge k ys.length with h' | h'
      · exact h'
      · rw [List.drop_eq_nil_of_le h'] at hxd; cases hxd
    rw [if_pos hk]
    have hd := drop_nthS hk
    rw [hd] at hxd
    rcases List.mem_cons.1 hxd with e | hxd
    · rw [← e]
    · exfalso
      have hm : nthS ys k ∈ ys.drop k := by rw [hd]; simp
      obtain ⟨m1, m2, m3, _⟩ := h.mem _ (List.mem_of_mem_drop hm)
      have hp : (ys.drop k).Pairwise lexS := h.srt.sublist (List.drop_sublist _ _)
      have hp2 : (ys.drop k).Pairwise fun a b => a.h ≠ b.h := h.ne.sublist (List.drop_sublist _ _)
      rw [hd, List.pairwise_cons] at hp hp2
      have l1 := hp.1 _ hxd
      have l2 := hp2.1 _ hxd
      have l3 := h3 (nthS ys k).h m1 (not_taken h.ne hm) (by rw [← m2]; exact m3) l2
      unfold lexS at l1
      rw [m2] at l1
      dsimp only at l1
      omega
end Go.Proofs.YtckoaeoecjphiaaGreat
