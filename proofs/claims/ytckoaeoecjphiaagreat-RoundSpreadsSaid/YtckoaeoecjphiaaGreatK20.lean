/- Lemmas: When: the first time at which the clock shows a number, or more. The clock's answers as functions; perm.Due; round.set. comp.Add: what is refused. -/
import Derived.Test.YtckoaeoecjphiaaGreatK19
import Derived.Test.YtckoaeoecjphiaaGreatK05
import Derived.Test.YtckoaeoecjphiaaGreatK18
import Derived.Test.YtckoaeoecjphiaaGreatK15

/- When: the first time at which the clock shows a number, or more. -/
namespace Go.Proofs.YtckoaeoecjphiaaGreat
open Go.RowKit Go.Lib

/-- t is the first time from m on, up to MaxTime, at which the clock shows n or more. -/
structure IsWhen (m ba r n t : Int) : Prop where
  lo : m ≤ t
  hi : t ≤ 1125899906842624
  at_t : n ≤ clockAt m ba r t
  before : ∀ s, m ≤ s → s < t → clockAt m ba r s < n

theorem clockAt_mono {m ba r s t : Int} (r0 : -1000000 ≤ r) (h : s ≤ t) : clockAt m ba r s ≤ clockAt m ba r t := by
  unfold clockAt
  have h1 : (s - m) * r + (t - s) * r = (t - m) * r := by rw [← Int.add_mul]; congr 1; omega
  have h2 : -((t - s) * 1000000) ≤ (t - s) * r := by have := Int.mul_le_mul_of_nonneg_left r0 (show 0 ≤ t - s by omega); omega
  generalize (s - m) * r = p at *
  generalize (t - m) * r = q at *
  generalize (t - s) * r = x at *
  omega

theorem IsWhen.exists {m ba r n : Int} (hm : m ≤ 1125899906842624) (h : n ≤ clockAt m ba r 1125899906842624) : ∃ t, IsWhen m ba r n t := by
  have key : ∀ (k : Nat) (t : Int), m ≤ t → t ≤ 1125899906842624 → (t - m).toNat = k → n ≤ clockAt m ba r t → ∃ t, IsWhen m ba r n t := by
    intro k
    induction k using Nat.strongRecOn with
    | ind k ih =>
      intro t h0 h1 h2 h3
      by_cases hx : ∃ s, m ≤ s ∧ s < t ∧ n ≤ clockAt m ba r s
      · obtain ⟨s, s0, s1, s2⟩ := hx
        exact ih (s - m).toNat (by omega) s s0 (by omega) rfl s2
      · refine ⟨t, h0, h1, h3, fun s s0 s1 => ?_⟩
        rcases Int.lt_or_le (clockAt m ba r s) n with h4 | h4
        · exact h4
        · exact absurd ⟨s, s0, s1, h4⟩ hx
  exact key _ 1125899906842624 hm (by omega) rfl h

theorem IsWhen.unique {m ba r n t t' : Int} (h : IsWhen m ba r n t) (h' : IsWhen m ba r n t') : t = t' := by
  rcases Int.lt_trichotomy t t' with h1 | h1 | h1
  · have := h'.before t h.lo h1; have := h.at_t; omega
  · exact h1
  · have := h.before t' h'.lo h1; have := h'.at_t; omega

theorem when_none (b : Nat) (m ba r n : Int) (w : World) (hc : Clk w b m ba r) (ho : ClockOk m ba r) (h : clockAt m ba r 1125899906842624 < n) :
    Calls Tryz.prog 28 #[.pointer (some ⟨b, 0, none⟩), .int .i64 n] w fun e w' => e = .returned (.tuple #[.int .i64 0, .int .i64 5]) ∧ w.grownBy w' none := by
  have hm1 := ho.m1
  obtain ⟨x, hx⟩ : ∃ x, Hid (clockAt m ba r 1125899906842624 = x) := ⟨_, hid rfl⟩
  have hlt : x < n := by rw [← hx.out]; exact h
  clear h
  go_enter Tryz.func28, Tryz.ntmps28
  go_wp2_with fail
  refine (at_ok b m ba r 1125899906842624 x _ hc ho hm1 (by omega) hx).mono ?_
  rintro e w' ⟨rfl, hg⟩
  go_wp2_with fail
  go_ret2
  exact ⟨rfl, hg⟩

theorem when_nil (n : Int) (w : World) :
    Calls Tryz.prog 28 #[.pointer none, .int .i64 n] w fun e w' => e = .returned (.tuple #[.int .i64 0, .int .i64 1]) ∧ w = w' := by
  go_enter Tryz.func28, Tryz.ntmps28
  go_wp2_with fail
  go_ret2
  exact ⟨rfl, rfl⟩

set_option maxHeartbeats 400000 in
theorem when_ok (b : Nat) (m ba r n t : Int) (w : World) (hc : Clk w b m ba r) (ho : ClockOk m ba r) (ht : IsWhen m ba r n t) :
    Calls Tryz.prog 28 #[.pointer (some ⟨b, 0, none⟩), .int .i64 n] w fun e w' => e = .returned (.tuple #[.int .i64 t, .int .i64 0]) ∧ w.grownBy w' none := by
  have hm0 := ho.m0
  have hm1 := ho.m1
  have ht0 := ht.lo
  have ht1 := ht.hi
  obtain ⟨x, hx⟩ : ∃ x, Hid (clockAt m ba r 1125899906842624 = x) := ⟨_, hid rfl⟩
  have hge : n ≤ x := by rw [← hx.out]; exact Int.le_trans ht.at_t (clockAt_mono ho.r0 ht1)
  have Ht := hid ht; clear ht
  go_enter Tryz.func28, Tryz.ntmps28
  go_wp2_with fail
  refine (at_ok b m ba r 1125899906842624 x _ hc ho hm1 (by omega) hx).mono ?_
  rintro e w' ⟨rfl, hg⟩
  have c0 := (hc.kept hg (by simp)).c0
  go_wp2_with fail
  clear c0
  go_loopw [6, 7, 8] (fun lo hi _ wr => ∃ l h : Int, lo = .int .i64 l ∧ hi = .int .i64 h ∧ m ≤ l ∧ l ≤ t ∧ t ≤ h ∧ h ≤ 1125899906842624 ∧ w.grownBy wr none) (fun lo hi _ _ => (intOf hi - intOf lo).toNat)
  case atStart => exact ⟨m, 1125899906842624, rfl, rfl, by omega, ht0, ht1, by omega, hg⟩
  case round =>
    obtain ⟨l, h, rfl, rfl, hl0, hl1, hh0, hh1, hgr⟩ := hrel
    by_cases hlt : l < h
    · have c := hc.kept hgr (by simp)
      obtain ⟨y, hy⟩ : ∃ y, Hid (clockAt m ba r ((l + h) / 2) = y) := ⟨_, hid rfl⟩
      by_cases hyn : y < n
      · have hmt : (l + h) / 2 < t := by
          rcases Int.lt_or_le ((l + h) / 2) t with h1 | h1
          · exact h1
          · have h2 := clockAt_mono (m := m) (ba := ba) ho.r0 h1; have h3 := Ht.out.at_t; have h4 := hy.out; omega
        go_wp2_with fail
        refine (half_any l h _ (by omega) (by omega) (by omega) (by omega)).mono ?_
        rintro e w' ⟨rfl, rfl⟩
        go_wp2_with fail
        refine (at_ok b m ba r ((l + h) / 2) y _ c ho (by omega) (by omega) hy).mono ?_
        rintro e w' ⟨rfl, hg2⟩
        go_wp2_with fail
        go_roundw
        case rel => exact ⟨(l + h) / 2 + 1, h, rfl, rfl, by omega, by omega, by omega, by omega, gr_trans hgr hg2⟩
        case measure => simp [intOf]; omega
      · have hyn' : n ≤ y := by omega
        clear hyn
        have hmt : t ≤ (l + h) / 2 := by
          rcases Int.lt_or_le ((l + h) / 2) t with h1 | h1
          · have h2 := Ht.out.before _ (by omega) h1; have h4 := hy.out; omega
          · exact h1
        go_wp2_with fail
        refine (half_any l h _ (by omega) (by omega) (by omega) (by omega)).mono ?_
        rintro e w' ⟨rfl, rfl⟩
        go_wp2_with fail
        refine (at_ok b m ba r ((l + h) / 2) y _ c ho (by omega) (by omega) hy).mono ?_
        rintro e w' ⟨rfl, hg2⟩
        go_wp2_with fail
        go_roundw
        case rel => exact ⟨l, (l + h) / 2, rfl, rfl, by omega, by omega, by omega, by omega, gr_trans hgr hg2⟩
        case measure => simp [intOf]; omega
    · obtain rfl : l = t := by omega
      have hle : h ≤ l := by omega
      clear hlt
      go_wp2_with fail
      go_ret2
      exact ⟨rfl, hgr⟩
end Go.Proofs.YtckoaeoecjphiaaGreat

/- The clock's answers as functions; perm.Due; round.set. -/
namespace Go.Proofs.YtckoaeoecjphiaaGreat
open Go.RowKit Go.Lib

def Ck.ok (k : Ck) : Prop := ClockOk k.m k.b k.r
abbrev Ck.at_ (k : Ck) (t : Int) : Int := clockAt k.m k.b k.r t
open Classical in
/-- When a clock shows a number, and the error. -/
noncomputable def whenR (k : Ck) (n : Int) : Int × Int := if h : ∃ t, IsWhen k.m k.b k.r n t then (h.choose, 0) else (0, 5)
theorem whenR_ok {k : Ck} {n t : Int} (h : IsWhen k.m k.b k.r n t) : whenR k n = (t, 0) := by
  have h2 : ∃ t, IsWhen k.m k.b k.r n t := ⟨t, h⟩
  unfold whenR
  rw [dif_pos h2, h2.choose_spec.unique h]
theorem whenR_none {k : Ck} {n : Int} (h : k.at_ 1125899906842624 < n) (r0 : -1000000 ≤ k.r) : whenR k n = (0, 5) := by
  unfold whenR
  rw [dif_neg]
  rintro ⟨t, ht⟩
  have := clockAt_mono (m := k.m) (ba := k.b) r0 ht.hi
  have := ht.at_t
  unfold Ck.at_ at h
  omega
theorem Ck.ok.rates {k : Ck} (h : k.ok) : -1000000 ≤ k.r ∧ k.r ≤ 1000000 := ⟨h.r0, h.r1⟩
theorem whenR_cases (k : Ck) (ho : k.ok) (n : Int) : (∃ t, IsWhen k.m k.b k.r n t ∧ whenR k n = (t, 0)) ∨ (k.at_ 1125899906842624 < n ∧ whenR k n = (0, 5)) := by
  by_cases h : n ≤ k.at_ 1125899906842624
  · obtain ⟨t, ht⟩ := IsWhen.exists (m := k.m) (ba := k.b) (r := k.r) ho.m1 h
    exact .inl ⟨t, ht, whenR_ok ht⟩
  · have h2 : k.at_ 1125899906842624 < n := by omega
    exact .inr ⟨h2, whenR_none h2 ho.r0⟩
abbrev ClkC (w : World) (b : Nat) (k : Ck) : Prop := Clk w b k.m k.b k.r
theorem when_any (b : Nat) (k : Ck) (n : Int) (w : World) (hc : ClkC w b k) (ho : k.ok) :
    Calls Tryz.prog 28 #[.pointer (some ⟨b, 0, none⟩), .int .i64 n] w fun e w' => e = .returned (.tuple #[.int .i64 (whenR k n).1, .int .i64 (whenR k n).2]) ∧ w.grownBy w' none := by
  rcases whenR_cases k ho n with ⟨t, ht, e⟩ | ⟨h, e⟩
  · rw [e]; exact when_ok b _ _ _ n t w hc ho ht
  · rw [e]; exact when_none b _ _ _ n w hc ho h
/-- When a frame is permanent, of a delay that may be. -/
noncomputable def dueR (k : Ck) (t cl dl : Int) : Int × Int := if nowB k.m t = true then whenR k (k.at_ t + dl - cl) else (0, 1)

set_option maxHeartbeats 1000000 in
theorem due_any (b : Nat) (k : Ck) (t cl dl : Int) (w : World) (hc : ClkC w b k) (ho : k.ok) (hd : 0 ≤ dl ∧ dl ≤ 1048576) (hcl : 0 ≤ cl ∧ cl ≤ dl) :
    Calls Tryz.prog 81 #[.pointer (some ⟨b, 0, none⟩), .int .i64 t, .int .i64 cl, .int .i64 dl] w fun e w' => e = .returned (.tuple #[.int .i64 (dueR k t cl dl).1, .int .i64 (dueR k t cl dl).2]) ∧ w.grownBy w' none := by
  obtain ⟨d0, d1⟩ := hd
  obtain ⟨c0, c1⟩ := hcl
  have Hc := hid hc
  have Ho := hid ho
  unfold dueR
  by_cases h : nowB k.m t = true
  · rw [if_pos h]
    obtain ⟨now, hn⟩ : ∃ n, Hid (clockAt k.m k.b k.r t = n) := ⟨_, hid rfl⟩
    have H := hid h
    have hnb : -4611686018427387904 ≤ now ∧ now ≤ 4611686018427387904 := by
      have h' : realB t = true ∧ k.m ≤ t := by simpa [nowB] using h
      have h1 := realB_iff.1 h'.1
      have h2 := clockAt_bd ho h'.2
      rw [hn.out] at h2
      omega
    obtain ⟨n0, n1⟩ := hnb
    have hn2 : k.at_ t = now := hn.out
    rw [hn2]
    obtain ⟨X, hX⟩ : ∃ X, whenR k (now + dl - cl) = X := ⟨_, rfl⟩
    have Hw : Hid (∀ w', w.grownBy w' none → Calls Tryz.prog 28 #[.pointer (some ⟨b, 0, none⟩), .int .i64 (now + dl - cl)] w' fun e w2 => e = .returned (.tuple #[.int .i64 X.1, .int .i64 X.2]) ∧ w'.grownBy w2 none) := hid (fun w' g => by rw [← hX]; exact when_any b k _ w' (Hc.out.kept g (by simp)) ho)
    rw [hX]
    obtain ⟨X1, X2⟩ := X
    dsimp only at *
    clear hc ho h hn2 hX
    go_enter Tryz.func81, Tryz.ntmps81
    go_wp2_with fail
    refine (now_ok b _ _ _ t now _ Hc.out Ho.out H.out hn).mono ?_
    rintro e w1 ⟨rfl, g1⟩
    have G1 := hid g1
    clear g1
    go_wp2_with fail
    refine (Hw.out _ G1.out).mono ?_
    rintro e w2 ⟨rfl, g2⟩
    have G2 := hid (gr_trans G1.out g2)
    clear g2
    go_wp2_with fail
    go_ret2
    exact ⟨rfl, G2.out⟩
  · rw [if_neg h]
    have H := hid (Bool.eq_false_iff.2 h)
    clear hc ho h
    go_enter Tryz.func81, Tryz.ntmps81
    go_wp2_with fail
    refine (now_bad b _ _ _ t _ Hc.out H.out).mono ?_
    rintro e w1 ⟨rfl, rfl⟩
    go_wp2_with fail
    go_ret2
    exact ⟨rfl, gr_refl w none⟩
theorem IsWhen.now {k : Ck} {n t : Int} (ho : k.ok) (h : IsWhen k.m k.b k.r n t) : nowB k.m t = true := by
  unfold nowB
  have h1 := h.lo
  have h2 := h.hi
  have h3 := ho.m0
  rw [Bool.and_eq_true]
  exact ⟨realB_iff.2 ⟨by omega, by omega⟩, decide_eq_true h1⟩
/-- A clock, set behind a round. -/
noncomputable def setR (k : Ck) (n by_ : Int) : Ck := if (whenR k n).2 = 0 then (if shownB (k.at_ (whenR k n).1 + by_) = true then ⟨(whenR k n).1, k.at_ (whenR k n).1 + by_, k.r⟩ else k) else k

set_option maxHeartbeats 1000000 in
theorem rset_any (b ba : Nat) (k : Ck) (C E A cy by_ : Int) (vf : Value) (w : World) (hc : ClkC w b k) (ho : k.ok) (hal : AlAt w ba C E A vf) (h0 : 0 ≤ cy) (hC : 1 ≤ C) (h1 : cy * C ≤ 1125899906842624) (hE : 0 ≤ E ∧ E ≤ 4194304) (hA : 0 ≤ A ∧ A ≤ 4194304) (hby : -4194304 ≤ by_ ∧ by_ ≤ 4194304) :
    Calls Tryz.prog 37 #[.pointer (some ⟨b, 0, none⟩), .pointer (some ⟨ba, 0, none⟩), .int .i64 cy, .int .i64 by_] w fun e w' => e = .returned (.tuple #[]) ∧ Hid (ClkC w' b (setR k (cy * C + E + A + 1) by_)) ∧ Hid (w.grownBy w' (some b)) := by
  have Hc := hid hc
  have Ho := hid ho
  have Hal := hid hal
  have hx := fun w' => fun g : w.grownBy w' none => expected_any ba C E A cy vf w' (gr_heap g hal (by simp)) h0 hC h1 hE
  have hp0 : 0 ≤ cy * C := Int.mul_nonneg h0 (by omega)
  obtain ⟨p, hp⟩ : ∃ p, cy * C = p := ⟨_, rfl⟩
  rw [hp] at hx h1 hp0
  rw [hp]
  have Hx := hid hx
  obtain ⟨E0, E1⟩ := hE
  obtain ⟨A0, A1⟩ := hA
  obtain ⟨B0, B1⟩ := hby
  clear hx hp hal hc ho
  obtain ⟨n, hn⟩ : ∃ n, p + E + A + 1 = n := ⟨_, rfl⟩
  have hnb : 0 ≤ n ∧ n ≤ 1125899910000000 + 9000000 := by omega
  have ws : IntKind.i64.wrap (p + E + A) = p + E + A := IntWalk.i64_in _ (by omega)
  have ws2 : IntKind.i64.wrap (p + E + A + 1) = n := by rw [hn]; exact IntWalk.i64_in _ (by omega)
  rw [hn]
  have Hn := hid hn
  clear hn hnb
  rcases whenR_cases k Ho.out n with ⟨t, ht, e⟩ | ⟨h, e⟩
  · have hs : setR k n by_ = if shownB (k.at_ t + by_) = true then ⟨t, k.at_ t + by_, k.r⟩ else k := by unfold setR; rw [e]; rfl
    rw [hs]
    clear hs
    have Ht := hid ht
    have Hnow := hid (IsWhen.now Ho.out ht)
    obtain ⟨now, hnow⟩ : ∃ n, Hid (clockAt k.m k.b k.r t = n) := ⟨_, hid rfl⟩
    have hnb : -4611686018427387904 ≤ now + by_ ∧ now + by_ ≤ 4611686018427387904 := by
      have h2 := clockAt_bd Ho.out ht.lo
      have h3 := ht.hi
      rw [hnow.out] at h2
      omega
    rw [show k.at_ t = now from hnow.out]
    obtain ⟨R, hR⟩ : ∃ R, Hid ((if shownB (now + by_) = true then (⟨t, now + by_, k.r⟩ : Ck) else k) = R) := ⟨_, hid rfl⟩
    rw [hR.out]
    have wn : IntKind.i64.wrap (now + by_) = now + by_ := IntWalk.i64_in _ (by omega)
    clear ht e hnb
    go_enter Tryz.func37, Tryz.ntmps37
    go_wp2_with fail
    refine (Hx.out _ (gr_refl w none)).mono ?_
    rintro e w1 ⟨rfl, g1⟩
    have G1 := hid g1
    clear g1
    go_wp2_with fail
    refine (accept_any ba C E A vf _ (gr_heap G1.out Hal.out (by simp))).mono ?_
    rintro e w2 ⟨rfl, rfl⟩
    go_wp2_with fail
    refine (when_ok b _ _ _ _ t _ (Hc.out.kept G1.out (by simp)) Ho.out Ht.out).mono ?_
    rintro e w3 ⟨rfl, g3⟩
    have G3 := hid (gr_trans G1.out g3)
    clear g3
    go_wp2_with fail
    refine (now_ok b _ _ _ t now _ (Hc.out.kept G3.out (by simp)) Ho.out Hnow.out hnow).mono ?_
    rintro e w4 ⟨rfl, g4⟩
    have G4 := hid (gr_trans G3.out g4)
    clear g4
    go_wp2_with fail
    by_cases hsh : shownB (now + by_) = true
    · have hR2 : (⟨t, now + by_, k.r⟩ : Ck) = R := by rw [← hR.out, if_pos hsh]
      subst hR2
      refine (set_ok b _ _ _ t (now + by_) _ (Hc.out.kept G4.out (by simp)) Hnow.out hsh).mono ?_
      rintro e w5 ⟨rfl, hc5, g5⟩
      have HC5 := hid hc5
      have G5 := hid (gr_trans (gr_none G4.out) g5)
      clear g5 hc5 hsh
      go_wp2_with fail
      exact bodyPost_end (by simp [results, Tryz.results37, go_sem]) rfl ⟨rfl, HC5, G5⟩
    · have hR2 : k = R := by rw [← hR.out, if_neg hsh]
      subst hR2
      refine (set_bad b _ _ _ t (now + by_) _ (Hc.out.kept G4.out (by simp)) (by rw [Bool.eq_false_iff.2 hsh]; simp)).mono ?_
      rintro e w5 ⟨rfl, rfl⟩
      have HC5 := hid (Hc.out.kept G4.out (by simp))
      have G5 := hid (gr_none (row := some b) G4.out)
      clear hsh
      go_wp2_with fail
      exact bodyPost_end (by simp [results, Tryz.results37, go_sem]) rfl ⟨rfl, HC5, G5⟩
  · have hs : setR k n by_ = k := by unfold setR; rw [e]; rfl
    rw [hs]
    have Hh := hid h
    clear h e hs
    go_enter Tryz.func37, Tryz.ntmps37
    go_wp2_with fail
    refine (Hx.out _ (gr_refl w none)).mono ?_
    rintro e w1 ⟨rfl, g1⟩
    have G1 := hid g1
    clear g1
    go_wp2_with fail
    refine (accept_any ba C E A vf _ (gr_heap G1.out Hal.out (by simp))).mono ?_
    rintro e w2 ⟨rfl, rfl⟩
    go_wp2_with fail
    refine (when_none b _ _ _ _ _ (Hc.out.kept G1.out (by simp)) Ho.out Hh.out).mono ?_
    rintro e w3 ⟨rfl, g3⟩
    have G3 := hid (gr_trans G1.out g3)
    clear g3
    go_wp2_with fail
    exact bodyPost_ret (v := .tuple #[]) (by simp [results, Tryz.results37, go_sem]) rfl ⟨rfl, hid (Hc.out.kept G3.out (by simp)), hid (gr_none G3.out)⟩
end Go.Proofs.YtckoaeoecjphiaaGreat

/- comp.Add: what is refused. -/
namespace Go.Proofs.YtckoaeoecjphiaaGreat
open Go.RowKit Go.Lib

/-- Is it a frame that a collection takes, at such a time? -/
def takesB (l k fr cy cr cl : Int) : Bool := rightB k fr cy cr cl && (decide (-1125899906842624 ≤ l ∧ l ≤ 1125899906842624) && decide (k = 1 ∧ fr < 6))

set_option maxRecDepth 100000 in
set_option maxHeartbeats 2000000 in
theorem add_nil (l k fr cy cr cl : Int) (w : World) :
    Calls Tryz.prog 79 #[.pointer none, .int .i64 l, ctl k fr cy cr cl] w fun e w' => e = .returned (.tuple #[.int .i64 0, .int .i64 1]) ∧ w.grownBy w' none := by
  cases hr : rightB k fr cy cr cl
  · have Hr := hid hr; clear hr
    go_enter Tryz.func79, Tryz.ntmps79
    go_wp2_with fail
    refine (control_bad k fr cy cr cl _ Hr.out).mono ?_
    rintro e w1 ⟨rfl, g1⟩
    go_wp2_with fail
    all_goals go_ret2
    all_goals exact ⟨rfl, bx_gr g1⟩
  · have Hr := hid hr; clear hr
    go_enter Tryz.func79, Tryz.ntmps79
    go_wp2_with fail
    refine (control_ok k fr cy cr cl _ Hr.out).mono ?_
    rintro e w1 ⟨⟨vv, rfl⟩, g1⟩
    go_wp2_with fail
    all_goals go_ret2
    all_goals exact ⟨rfl, bx_gr g1⟩

set_option maxRecDepth 100000 in
set_option maxHeartbeats 2000000 in
theorem add_bad (b : Nat) (l k fr cy cr cl : Int) (w : World) (h : takesB l k fr cy cr cl = false) :
    Calls Tryz.prog 79 #[.pointer (some ⟨b, 0, none⟩), .int .i64 l, ctl k fr cy cr cl] w fun e w' => e = .returned (.tuple #[.int .i64 0, .int .i64 1]) ∧ w.grownBy w' none := by
  unfold takesB at h
  cases hr : rightB k fr cy cr cl
  · have Hr := hid hr; clear hr h
    by_cases h0 : l < -1125899906842624 ∨ 1125899906842624 < l
    · have H0 := hid h0
      go_enter Tryz.func79, Tryz.ntmps79
      go_wp2_with fail
      refine (control_bad k fr cy cr cl _ Hr.out).mono ?_
      rintro e w1 ⟨rfl, g1⟩
      go_wp2_with fail
      all_goals go_ret2
      all_goals exact ⟨rfl, bx_gr g1⟩
    · have h1 : -1125899906842624 ≤ l := by omega
      have h2 : l ≤ 1125899906842624 := by omega
      clear h0
      go_enter Tryz.func79, Tryz.ntmps79
      go_wp2_with fail
      refine (control_bad k fr cy cr cl _ Hr.out).mono ?_
      rintro e w1 ⟨rfl, g1⟩
      go_wp2_with fail
      all_goals go_ret2
      all_goals exact ⟨rfl, bx_gr g1⟩
  · rw [hr] at h
    have Hr := hid hr; clear hr
    simp only [Bool.true_and, Bool.and_eq_false_iff, decide_eq_false_iff_not] at h
    have H := hid h
    clear h
    go_enter Tryz.func79, Tryz.ntmps79
    go_wp2_with fail
    refine (control_ok k fr cy cr cl _ Hr.out).mono ?_
    rintro e w1 ⟨⟨vv, rfl⟩, g1⟩
    have d0 : w1.cell? ⟨w.heap.size, 0, none⟩ = some (.int .i64 k) := bx_cell g1 0 _ rfl
    have d1 : w1.cell? ⟨w.heap.size, 1, none⟩ = some (.int .i64 fr) := bx_cell g1 1 _ rfl
    rcases H.out with h' | h'
    · by_cases h0 : l < -1125899906842624
      · go_wp2_with fail
        all_goals go_ret2
        all_goals exact ⟨rfl, bx_gr g1⟩
      · have h1 : 1125899906842624 < l := by omega
        go_wp2_with fail
        all_goals go_ret2
        all_goals exact ⟨rfl, bx_gr g1⟩
    · by_cases h0 : l < -1125899906842624
      · go_wp2_with fail
        all_goals go_ret2
        all_goals exact ⟨rfl, bx_gr g1⟩
      · by_cases h1 : 1125899906842624 < l
        · go_wp2_with fail
          all_goals go_ret2
          all_goals exact ⟨rfl, bx_gr g1⟩
        · by_cases hk : k = 1
          · have hfr : 6 ≤ fr := by omega
            subst hk
            go_wp2_with fail
            all_goals go_ret2
            all_goals exact ⟨rfl, bx_gr g1⟩
          · go_wp2_with fail
            all_goals go_ret2
            all_goals exact ⟨rfl, bx_gr g1⟩
end Go.Proofs.YtckoaeoecjphiaaGreat
