/- queue.sink: an item sinks to its place. -/
import Derived.Test.YtkcgpbehicjidaaQueG
namespace Go.Proofs.Ytkcgpbehicjidaa
open Go.RowKit Go.Lib

/-- l is the best of the item i and of its children ahead of k. -/
structure Best (ys : List It) (i k l : Nat) : Prop where
  at_ : l = i ∨ (l < k ∧ l < ys.length ∧ 0 < l ∧ (l - 1) / 2 = i ∧ Ahead (ith ys l) (ith ys i))
  all : ∀ j, 0 < j → j < k → j < ys.length → (j - 1) / 2 = i → ¬ Ahead (ith ys j) (ith ys l)
theorem Best.start (ys : List It) (i : Nat) : Best ys i (2 * i + 1) i := ⟨.inl rfl, fun j _ h _ hp => by omega⟩
theorem Best.keep {ys : List It} {i k l : Nat} (h : Best ys i k l) (hn : ¬ Ahead (ith ys k) (ith ys l)) : Best ys i (k + 1) l := by
  refine ⟨?_, ?_⟩
  · rcases h.at_ with e | ⟨a, b⟩
    · exact .inl e
    · exact .inr ⟨by omega, b⟩
  · intro j j0 hj hl hp
    by_cases e : j = k
    · subst e; exact hn
    · exact h.all j j0 (by omega) hl hp
theorem Best.take {ys : List It} {i k l : Nat} (h : Best ys i k l) (hk : k < ys.length) (k0 : 0 < k) (hp : (k - 1) / 2 = i) (ha : Ahead (ith ys k) (ith ys l)) : Best ys i (k + 1) k := by
  refine ⟨.inr ⟨by omega, hk, k0, hp, ?_⟩, ?_⟩
  · rcases h.at_ with e | ⟨_, _, _, _, b⟩
    · rw [← e]; exact ha
    · exact ha.trans b
  · intro j j0 hj hl hpj e
    by_cases ejk : j = k
    · subst ejk; exact e.asymm e
    · exact h.all j j0 (by omega) hl hpj (e.trans ha)
theorem Best.full {ys : List It} {i k l : Nat} (h : Best ys i k l) (hk : k = 2 * i + 3 ∨ ys.length ≤ k) : ∀ j, 0 < j → j < ys.length → (j - 1) / 2 = i → ¬ Ahead (ith ys j) (ith ys l) :=
  fun j j0 hj hp => h.all j j0 (by omega) hj hp

set_option maxRecDepth 100000 in
set_option maxHeartbeats 8000000 in
theorem sink_any (P : Nat → Prop) (base q : Nat) (num : Int) (xs : List It) (w : World) (h : QS P w base q num xs) (hlen : xs.length ≤ 64) (hd : HeapDown xs 0) :
    Calls Try.prog 43 #[.pointer (some ⟨q, 0, none⟩), .int .i64 0] w fun e w' => e = .returned (.tuple #[]) ∧ (∃ ys, (ys.Perm xs ∧ IsHeap ys) ∧ QS P w' base q num ys) ∧ Keeps P w w' := by
  have HQ := hid h
  have HD := hid hd
  obtain ⟨n, hn⟩ : ∃ n, Hid (xs.length = n) := ⟨_, hid rfl⟩
  rw [hn.out] at hlen
  clear h hd
  go_enter Try.func43, Try.ntmps43
  go_wp2_with fail
  go_loopw [1] (fun vi wr => ∃ (i : Nat) (ys : List It), vi = .int .i64 i ∧ i ≤ n ∧ Hid (HeapDown ys i) ∧ Hid (ys.Perm xs) ∧ Hid (QS P wr base q num ys) ∧ Hid (Keeps P w wr)) (fun vi _ => n - (intOf vi).toNat)
  case atStart => exact ⟨0, xs, rfl, Nat.zero_le _, HD, hid (List.Perm.refl _), HQ, hid ⟨rfl, rfl, rfl, Nat.le_refl _, fun _ _ => rfl⟩⟩
  case round =>
    obtain ⟨i, ys, rfl, hi, HD, HP, HQ, HK⟩ := hrel
    obtain ⟨v, hq, hr, hnq, hbb, hPk⟩ := HQ.out.ex
    have hl : ys.length = n := by rw [HP.out.length_eq, hn.out]
    rw [hl] at hr
    obtain ⟨a, cap, hv⟩ : ∃ a cap, v = .slice a n cap := by
      rcases hr.2 with ⟨rfl, h0⟩ | ⟨g, cap, cur, rfl, _⟩
      · rw [h0]; exact ⟨_, _, rfl⟩
      · exact ⟨_, _, rfl⟩
    subst hv
    have Hq := hid hq
    have Hr := hid hr
    have Hl := hid hl
    have Hx := hid (And.intro hnq (And.intro hbb hPk))
    clear hq hr hl hnq hbb hPk
    go_wp2_with fail
    obtain ⟨wo, rfl⟩ : ∃ wo : World, wo = wr := ⟨_, rfl⟩
    go_loopw [4, 5] (fun vl vk wr => ∃ (k l : Nat), vk = .int .i64 k ∧ vl = .int .i64 l ∧ 2 * i + 1 ≤ k ∧ k ≤ 2 * i + 3 ∧ l ≤ n ∧ Hid (Best ys i k l) ∧ Hid (wo.grownBy wr none)) (fun _ vk _ => 2 * i + 3 - (intOf vk).toNat)
    case atStart => exact ⟨2 * i + 1, i, by go_num, rfl, Nat.le_refl _, by omega, hi, hid (Best.start ys i), hid (gr_refl _ none)⟩
    case round =>
      obtain ⟨k, l, rfl, rfl, hk0, hk1, hln, HBst, HG⟩ := hrel
      have c2 := (Hq.out.kept HG.out (by simp)).c2
      by_cases hk2 : k ≤ 2 * i + 2 ∧ k < n
      · obtain ⟨hka, hkb⟩ := hk2
        have hka' : (k : Int) ≤ 2 * (i : Int) + 2 := by omega
        have hlt : l < n := by
          rcases HBst.out.at_ with e | ⟨_, e, _⟩
          · omega
          · rw [Hl.out] at e; exact e
        have hr' := Hr.out.kept HG.out (by cases (Value.slice a n cap).ownBlock <;> simp)
        obtain ⟨g, cap', hv⟩ : ∃ g cap', (Value.slice a n cap) = .slice (some ⟨g, 0, none⟩) n cap' := by
          rcases hr'.2 with ⟨_, h0⟩ | ⟨g, cap', cur, e, _⟩
          · omega
          · exact ⟨g, cap', e⟩
        have e' : a = some ⟨g, 0, none⟩ ∧ cap = cap' := by simpa using hv
        obtain ⟨rfl, rfl⟩ := e'
        obtain ⟨x, hx⟩ : ∃ x, Hid (ith ys k = x) := ⟨_, hid rfl⟩
        obtain ⟨y, hy⟩ : ∃ y, Hid (ith ys l = y) := ⟨_, hid rfl⟩
        obtain ⟨i0, i1, i2, i3, i4, i5, i6, i7, i8⟩ := row_item hr' Hl.out (i := k) hkb hx.out
        obtain ⟨j0, j1, j2, j3, j4, j5, j6, j7, j8⟩ := row_item hr' Hl.out (i := l) hlt hy.out
        clear hr' hv
        go_wp2_with fail
        have n0 := grn_cell c2
        have m0 := grn_cell i0
        have m1 := grn_cell i1
        have m2 := grn_cell i2
        have m3 := grn_cell i3
        have m4 := grn_cell i4
        have m5 := grn_cell i5
        have m6 := grn_cell i6
        have m7 := grn_cell i7
        have m8 := grn_cell i8
        have p0 := grn_cell j0
        have p1 := grn_cell j1
        have p2 := grn_cell j2
        have p3 := grn_cell j3
        have p4 := grn_cell j4
        have p5 := grn_cell j5
        have p6 := grn_cell j6
        have p7 := grn_cell j7
        have p8 := grn_cell j8
        have x1 : (k : Int) < (n : Int) := by omega
        have x2 : (l : Int) < (n : Int) := by omega
        clear i0 i1 i2 i3 i4 i5 i6 i7 i8 j0 j1 j2 j3 j4 j5 j6 j7 j8 c2
        cases hah : decide (Ahead x y) with
        | true =>
          have Hah := hid hah
          clear hah
          refine wp_region_grown (by kernel_rfl) (by kernel_rfl) ?_
          repeat (go_big_quiet_step ((go_at_call 42; refine (ahead_any x y _).mono ?_; rintro e w6 ⟨rfl, g6⟩; rw [Hah.out]; exact ⟨rfl, ⟨_, gr_trans (Grn.gr _) g6⟩, rfl⟩)))
          refine wpQuiet_nil ?_
          rintro w4 ⟨X, hX⟩
          have g4 : wr.grownBy w4 none := hX ▸ X.gr
          have HG4 := hid (gr_trans HG.out g4)
          clear hX X g4 n0 m0 m1 m2 m3 m4 m5 m6 m7 m8 p0 p1 p2 p3 p4 p5 p6 p7 p8
          go_wp2_with fail
          go_roundw
          case rel => first
            | exact ⟨k + 1, k, by go_num, rfl, by omega, by omega, by omega, hid (HBst.out.take (by rw [Hl.out]; exact hkb) (by omega) (by omega) (by rw [hx.out, hy.out]; exact of_decide_eq_true Hah.out)), HG4⟩
            | ((repeat apply Exists.intro); exact ⟨⟨k + 1, k, by go_num, rfl, by omega, by omega, by omega, hid (HBst.out.take (by rw [Hl.out]; exact hkb) (by omega) (by omega) (by rw [hx.out, hy.out]; exact of_decide_eq_true Hah.out)), HG4⟩, rfl⟩)
          case measure => simp [intOf]; omega
        | false =>
          have Hah := hid hah
          clear hah
          refine wp_region_grown (by kernel_rfl) (by kernel_rfl) ?_
          repeat (go_big_quiet_step ((go_at_call 42; refine (ahead_any x y _).mono ?_; rintro e w6 ⟨rfl, g6⟩; rw [Hah.out]; exact ⟨rfl, ⟨_, gr_trans (Grn.gr _) g6⟩, rfl⟩)))
          refine wpQuiet_nil ?_
          rintro w4 ⟨X, hX⟩
          have g4 : wr.grownBy w4 none := hX ▸ X.gr
          have HG4 := hid (gr_trans HG.out g4)
          clear hX X g4 n0 m0 m1 m2 m3 m4 m5 m6 m7 m8 p0 p1 p2 p3 p4 p5 p6 p7 p8
          go_wp2_with fail
          go_roundw
          case rel => first
            | exact ⟨k + 1, l, by go_num, rfl, by omega, by omega, hln, hid (HBst.out.keep (by rw [hx.out, hy.out]; exact of_decide_eq_false Hah.out)), HG4⟩
            | ((repeat apply Exists.intro); exact ⟨⟨k + 1, l, by go_num, rfl, by omega, by omega, hln, hid (HBst.out.keep (by rw [hx.out, hy.out]; exact of_decide_eq_false Hah.out)), HG4⟩, rfl⟩)
          case measure => simp [intOf]; omega
      · by_cases hk3 : k ≤ 2 * i + 2
        · have hkn : ¬ k < n := fun e => hk2 ⟨hk3, e⟩
          have hk3' : (k : Int) ≤ 2 * (i : Int) + 2 := by omega
          have hkn' : ¬ (k : Int) < (n : Int) := by omega

          have hfull := hid (HBst.out.full (by rw [Hl.out]; omega))
          by_cases hli : l = i
          · have hne : ((l : Int) == (i : Int)) = true := by rw [hli]; simp
            have hdone := hid (HD.out.done (by intro j j0 hj hp; have := hfull.out j j0 hj hp; rwa [hli] at this))
            have HQ9 := hid (HQ.out.grown HG.out)
            have HK9 := hid (HK.out.trans (Keeps.of_gr HG.out fun k hk => ⟨HQ.out.lt k hk, by simp⟩))
            go_wp2_with fail
            refine bodyPost_ret (results_none rfl _ _ _) rfl ?_
            exact ⟨rfl, ⟨ys, ⟨HP.out, hdone.out⟩, HQ9.out⟩, HK9.out⟩
          · have hne : ((l : Int) == (i : Int)) = false := by simp; omega
            obtain ⟨hlk, hln', hl0, hlp, hla⟩ : l < k ∧ l < n ∧ 0 < l ∧ (l - 1) / 2 = i ∧ Ahead (ith ys l) (ith ys i) := by
              rcases HBst.out.at_ with e | e
              · exact absurd e hli
              · rw [Hl.out] at e; exact e
            have hin : i < n := by omega
            have Hla := hid hla
            have hr' := Hr.out.kept HG.out (by cases (Value.slice a n cap).ownBlock <;> simp)
            obtain ⟨g, cap', hv⟩ : ∃ g cap', (Value.slice a n cap) = .slice (some ⟨g, 0, none⟩) n cap' := by
              rcases hr'.2 with ⟨_, h0⟩ | ⟨g, cap', cur, e, _⟩
              · omega
              · exact ⟨g, cap', e⟩
            have e' : a = some ⟨g, 0, none⟩ ∧ cap = cap' := by simpa using hv
            obtain ⟨rfl, rfl⟩ := e'
            obtain ⟨x, hx⟩ : ∃ x, Hid (ith ys l = x) := ⟨_, hid rfl⟩
            obtain ⟨y, hy⟩ : ∃ y, Hid (ith ys i = y) := ⟨_, hid rfl⟩
            obtain ⟨i0, i1, i2, i3, i4, i5, i6, i7, i8⟩ := row_item hr' Hl.out (i := l) hln' hx.out
            obtain ⟨j0, j1, j2, j3, j4, j5, j6, j7, j8⟩ := row_item hr' Hl.out (i := i) hin hy.out
            have f0 := hr'.frozenAt (i * 9)
            have h0 := hr'.frozenAt (l * 9)
            have f1 := hr'.frozenAt (i * 9 + 1)
            have h1 := hr'.frozenAt (l * 9 + 1)
            have f2 := hr'.frozenAt (i * 9 + 2)
            have h2 := hr'.frozenAt (l * 9 + 2)
            have f3 := hr'.frozenAt (i * 9 + 3)
            have h3 := hr'.frozenAt (l * 9 + 3)
            have f4 := hr'.frozenAt (i * 9 + 4)
            have h4 := hr'.frozenAt (l * 9 + 4)
            have f5 := hr'.frozenAt (i * 9 + 5)
            have h5 := hr'.frozenAt (l * 9 + 5)
            have f6 := hr'.frozenAt (i * 9 + 6)
            have h6 := hr'.frozenAt (l * 9 + 6)
            have f7 := hr'.frozenAt (i * 9 + 7)
            have h7 := hr'.frozenAt (l * 9 + 7)
            have f8 := hr'.frozenAt (i * 9 + 8)
            have h8 := hr'.frozenAt (l * 9 + 8)
            have q1 : ¬ l * 9 = i * 9 + 1 := by omega
            have r1 : ¬ i * 9 + 1 = l * 9 := by omega
            have q2 : ¬ l * 9 = i * 9 + 2 := by omega
            have r2 : ¬ i * 9 + 2 = l * 9 := by omega
            have q3 : ¬ l * 9 = i * 9 + 3 := by omega
            have r3 : ¬ i * 9 + 3 = l * 9 := by omega
            have q4 : ¬ l * 9 = i * 9 + 4 := by omega
            have r4 : ¬ i * 9 + 4 = l * 9 := by omega
            have q5 : ¬ l * 9 = i * 9 + 5 := by omega
            have r5 : ¬ i * 9 + 5 = l * 9 := by omega
            have q6 : ¬ l * 9 = i * 9 + 6 := by omega
            have r6 : ¬ i * 9 + 6 = l * 9 := by omega
            have q7 : ¬ l * 9 = i * 9 + 7 := by omega
            have r7 : ¬ i * 9 + 7 = l * 9 := by omega
            have q8 : ¬ l * 9 = i * 9 + 8 := by omega
            have r8 : ¬ i * 9 + 8 = l * 9 := by omega
            have q0 : ¬ l * 9 = i * 9 := by omega
            have r0 : ¬ i * 9 = l * 9 := by omega
            have s1 : ¬ l * 9 + 1 = i * 9 := by omega
            have t1 : ¬ i * 9 = l * 9 + 1 := by omega
            have s2 : ¬ l * 9 + 2 = i * 9 := by omega
            have t2 : ¬ i * 9 = l * 9 + 2 := by omega
            have s3 : ¬ l * 9 + 3 = i * 9 := by omega
            have t3 : ¬ i * 9 = l * 9 + 3 := by omega
            have s4 : ¬ l * 9 + 4 = i * 9 := by omega
            have t4 : ¬ i * 9 = l * 9 + 4 := by omega
            have s5 : ¬ l * 9 + 5 = i * 9 := by omega
            have t5 : ¬ i * 9 = l * 9 + 5 := by omega
            have s6 : ¬ l * 9 + 6 = i * 9 := by omega
            have t6 : ¬ i * 9 = l * 9 + 6 := by omega
            have s7 : ¬ l * 9 + 7 = i * 9 := by omega
            have t7 : ¬ i * 9 = l * 9 + 7 := by omega
            have s8 : ¬ l * 9 + 8 = i * 9 := by omega
            have t8 : ¬ i * 9 = l * 9 + 8 := by omega
            have x1 : (l : Int) < (n : Int) := by omega
            have x2 : (i : Int) < (n : Int) := by omega
            have HR' := hid hr'
            clear hr' hv hla
            go_wp2_with fail
            apply wp_behind0 (fun W => Hid (wr.grownBy W (some g) ∧ W.ownsRow base 89 9 (.slice (some ⟨g, 0, none⟩) n cap) n (flatC (sw ys i l))))
            case h =>
              go_region
              all_goals (refine And.intro rfl (hid ⟨?_, ?_⟩))
              all_goals first
                | exact gr_drew (gr_trans (row_store_gr (i := i) x) (row_store_gr (i := l) y))
                | exact (by unfold sw; rw [hx.out, hy.out]; exact (row_store (row_store HR'.out Hl.out hin x) (by simp [Hl.out]) hln' y).drew)
            case k =>
              intro w7 H7
              clear i0 i1 i2 i3 i4 i5 i6 i7 i8 j0 j1 j2 j3 j4 j5 j6 j7 j8 f0 h0 f1 h1 f2 h2 f3 h3 f4 h4 f5 h5 f6 h6 f7 h7 f8 h8 q0 r0 q1 r1 q2 r2 q3 r3 q4 r4 q5 r5 q6 r6 q7 r7 q8 r8 s1 t1 s2 t2 s3 t3 s4 t4 s5 t5 s6 t6 s7 t7 s8 t8 c2
              have HQ9 : Hid (QS P w7 base q num (sw ys i l)) := hid ⟨_, (Hq.out.kept HG.out (by simp)).kept H7.out.1 (by have := Hx.out.1; simpa [Value.ownBlock] using fun e => this (by rw [← e]; rfl)), by rw [sw_length, Hl.out]; exact H7.out.2, Hx.out.1, by have := Hx.out.2.1; have := HG.out.size; have := H7.out.1.size; omega, fun k hk => ⟨by have := (Hx.out.2.2 k hk).1; have := HG.out.size; have := H7.out.1.size; omega, (Hx.out.2.2 k hk).2⟩⟩
              have HK9 : Hid (Keeps P w w7) := hid (HK.out.trans ((Keeps.of_gr HG.out fun k hk => ⟨(Hx.out.2.2 k hk).1, by simp⟩).trans (Keeps.of_gr H7.out.1 fun k hk => ⟨by have := (Hx.out.2.2 k hk).1; have := HG.out.size; omega, fun e => (Hx.out.2.2 k hk).2.2 e.symm⟩)))
              have HD9 : Hid (HeapDown (sw ys i l) l) := hid (HD.out.step hl0 (by rw [Hl.out]; exact hln') hlp hfull.out Hla.out)
              have HP9 : Hid ((sw ys i l).Perm xs) := hid ((sw_perm (by rw [Hl.out]; exact hin) (by rw [Hl.out]; exact hln')).trans HP.out)
              go_wp2_with fail
              go_roundw
              case rel => first
                | exact ⟨l, sw ys i l, rfl, hln, HD9, HP9, HQ9, HK9⟩
                | ((repeat apply Exists.intro); exact ⟨⟨l, sw ys i l, rfl, hln, HD9, HP9, HQ9, HK9⟩, rfl⟩)
              case measure => simp [intOf]; omega
        · have hk3' : ¬ (k : Int) ≤ 2 * (i : Int) + 2 := by omega

          have hfull := hid (HBst.out.full (by rw [Hl.out]; omega))
          by_cases hli : l = i
          · have hne : ((l : Int) == (i : Int)) = true := by rw [hli]; simp
            have hdone := hid (HD.out.done (by intro j j0 hj hp; have := hfull.out j j0 hj hp; rwa [hli] at this))
            have HQ9 := hid (HQ.out.grown HG.out)
            have HK9 := hid (HK.out.trans (Keeps.of_gr HG.out fun k hk => ⟨HQ.out.lt k hk, by simp⟩))
            go_wp2_with fail
            refine bodyPost_ret (results_none rfl _ _ _) rfl ?_
            exact ⟨rfl, ⟨ys, ⟨HP.out, hdone.out⟩, HQ9.out⟩, HK9.out⟩
          · have hne : ((l : Int) == (i : Int)) = false := by simp; omega
            obtain ⟨hlk, hln', hl0, hlp, hla⟩ : l < k ∧ l < n ∧ 0 < l ∧ (l - 1) / 2 = i ∧ Ahead (ith ys l) (ith ys i) := by
              rcases HBst.out.at_ with e | e
              · exact absurd e hli
              · rw [Hl.out] at e; exact e
            have hin : i < n := by omega
            have Hla := hid hla
            have hr' := Hr.out.kept HG.out (by cases (Value.slice a n cap).ownBlock <;> simp)
            obtain ⟨g, cap', hv⟩ : ∃ g cap', (Value.slice a n cap) = .slice (some ⟨g, 0, none⟩) n cap' := by
              rcases hr'.2 with ⟨_, h0⟩ | ⟨g, cap', cur, e, _⟩
              · omega
              · exact ⟨g, cap', e⟩
            have e' : a = some ⟨g, 0, none⟩ ∧ cap = cap' := by simpa using hv
            obtain ⟨rfl, rfl⟩ := e'
            obtain ⟨x, hx⟩ : ∃ x, Hid (ith ys l = x) := ⟨_, hid rfl⟩
            obtain ⟨y, hy⟩ : ∃ y, Hid (ith ys i = y) := ⟨_, hid rfl⟩
            obtain ⟨i0, i1, i2, i3, i4, i5, i6, i7, i8⟩ := row_item hr' Hl.out (i := l) hln' hx.out
            obtain ⟨j0, j1, j2, j3, j4, j5, j6, j7, j8⟩ := row_item hr' Hl.out (i := i) hin hy.out
            have f0 := hr'.frozenAt (i * 9)
            have h0 := hr'.frozenAt (l * 9)
            have f1 := hr'.frozenAt (i * 9 + 1)
            have h1 := hr'.frozenAt (l * 9 + 1)
            have f2 := hr'.frozenAt (i * 9 + 2)
            have h2 := hr'.frozenAt (l * 9 + 2)
            have f3 := hr'.frozenAt (i * 9 + 3)
            have h3 := hr'.frozenAt (l * 9 + 3)
            have f4 := hr'.frozenAt (i * 9 + 4)
            have h4 := hr'.frozenAt (l * 9 + 4)
            have f5 := hr'.frozenAt (i * 9 + 5)
            have h5 := hr'.frozenAt (l * 9 + 5)
            have f6 := hr'.frozenAt (i * 9 + 6)
            have h6 := hr'.frozenAt (l * 9 + 6)
            have f7 := hr'.frozenAt (i * 9 + 7)
            have h7 := hr'.frozenAt (l * 9 + 7)
            have f8 := hr'.frozenAt (i * 9 + 8)
            have h8 := hr'.frozenAt (l * 9 + 8)
            have q1 : ¬ l * 9 = i * 9 + 1 := by omega
            have r1 : ¬ i * 9 + 1 = l * 9 := by omega
            have q2 : ¬ l * 9 = i * 9 + 2 := by omega
            have r2 : ¬ i * 9 + 2 = l * 9 := by omega
            have q3 : ¬ l * 9 = i * 9 + 3 := by omega
            have r3 : ¬ i * 9 + 3 = l * 9 := by omega
            have q4 : ¬ l * 9 = i * 9 + 4 := by omega
            have r4 : ¬ i * 9 + 4 = l * 9 := by omega
            have q5 : ¬ l * 9 = i * 9 + 5 := by omega
            have r5 : ¬ i * 9 + 5 = l * 9 := by omega
            have q6 : ¬ l * 9 = i * 9 + 6 := by omega
            have r6 : ¬ i * 9 + 6 = l * 9 := by omega
            have q7 : ¬ l * 9 = i * 9 + 7 := by omega
            have r7 : ¬ i * 9 + 7 = l * 9 := by omega
            have q8 : ¬ l * 9 = i * 9 + 8 := by omega
            have r8 : ¬ i * 9 + 8 = l * 9 := by omega
            have q0 : ¬ l * 9 = i * 9 := by omega
            have r0 : ¬ i * 9 = l * 9 := by omega
            have s1 : ¬ l * 9 + 1 = i * 9 := by omega
            have t1 : ¬ i * 9 = l * 9 + 1 := by omega
            have s2 : ¬ l * 9 + 2 = i * 9 := by omega
            have t2 : ¬ i * 9 = l * 9 + 2 := by omega
            have s3 : ¬ l * 9 + 3 = i * 9 := by omega
            have t3 : ¬ i * 9 = l * 9 + 3 := by omega
            have s4 : ¬ l * 9 + 4 = i * 9 := by omega
            have t4 : ¬ i * 9 = l * 9 + 4 := by omega
            have s5 : ¬ l * 9 + 5 = i * 9 := by omega
            have t5 : ¬ i * 9 = l * 9 + 5 := by omega
            have s6 : ¬ l * 9 + 6 = i * 9 := by omega
            have t6 : ¬ i * 9 = l * 9 + 6 := by omega
            have s7 : ¬ l * 9 + 7 = i * 9 := by omega
            have t7 : ¬ i * 9 = l * 9 + 7 := by omega
            have s8 : ¬ l * 9 + 8 = i * 9 := by omega
            have t8 : ¬ i * 9 = l * 9 + 8 := by omega
            have x1 : (l : Int) < (n : Int) := by omega
            have x2 : (i : Int) < (n : Int) := by omega
            have HR' := hid hr'
            clear hr' hv hla
            go_wp2_with fail
            apply wp_behind0 (fun W => Hid (wr.grownBy W (some g) ∧ W.ownsRow base 89 9 (.slice (some ⟨g, 0, none⟩) n cap) n (flatC (sw ys i l))))
            case h =>
              go_region
              all_goals (refine And.intro rfl (hid ⟨?_, ?_⟩))
              all_goals first
                | exact gr_drew (gr_trans (row_store_gr (i := i) x) (row_store_gr (i := l) y))
                | exact (by unfold sw; rw [hx.out, hy.out]; exact (row_store (row_store HR'.out Hl.out hin x) (by simp [Hl.out]) hln' y).drew)
            case k =>
              intro w7 H7
              clear i0 i1 i2 i3 i4 i5 i6 i7 i8 j0 j1 j2 j3 j4 j5 j6 j7 j8 f0 h0 f1 h1 f2 h2 f3 h3 f4 h4 f5 h5 f6 h6 f7 h7 f8 h8 q0 r0 q1 r1 q2 r2 q3 r3 q4 r4 q5 r5 q6 r6 q7 r7 q8 r8 s1 t1 s2 t2 s3 t3 s4 t4 s5 t5 s6 t6 s7 t7 s8 t8 c2
              have HQ9 : Hid (QS P w7 base q num (sw ys i l)) := hid ⟨_, (Hq.out.kept HG.out (by simp)).kept H7.out.1 (by have := Hx.out.1; simpa [Value.ownBlock] using fun e => this (by rw [← e]; rfl)), by rw [sw_length, Hl.out]; exact H7.out.2, Hx.out.1, by have := Hx.out.2.1; have := HG.out.size; have := H7.out.1.size; omega, fun k hk => ⟨by have := (Hx.out.2.2 k hk).1; have := HG.out.size; have := H7.out.1.size; omega, (Hx.out.2.2 k hk).2⟩⟩
              have HK9 : Hid (Keeps P w w7) := hid (HK.out.trans ((Keeps.of_gr HG.out fun k hk => ⟨(Hx.out.2.2 k hk).1, by simp⟩).trans (Keeps.of_gr H7.out.1 fun k hk => ⟨by have := (Hx.out.2.2 k hk).1; have := HG.out.size; omega, fun e => (Hx.out.2.2 k hk).2.2 e.symm⟩)))
              have HD9 : Hid (HeapDown (sw ys i l) l) := hid (HD.out.step hl0 (by rw [Hl.out]; exact hln') hlp hfull.out Hla.out)
              have HP9 : Hid ((sw ys i l).Perm xs) := hid ((sw_perm (by rw [Hl.out]; exact hin) (by rw [Hl.out]; exact hln')).trans HP.out)
              go_wp2_with fail
              go_roundw
              case rel => first
                | exact ⟨l, sw ys i l, rfl, hln, HD9, HP9, HQ9, HK9⟩
                | ((repeat apply Exists.intro); exact ⟨⟨l, sw ys i l, rfl, hln, HD9, HP9, HQ9, HK9⟩, rfl⟩)
              case measure => simp [intOf]; omega
end Go.Proofs.Ytkcgpbehicjidaa
