/- Lemmas: A round in plain words. A round in plain words: bounds. round.Go: what its loops go by. round.Go: the sort; what lies behind it. round.Go: what its loops go by, second part. round.Go: what its third loop goes by. round.Go: three appends in one statement, in whatever order their elements are built. r -/
import Derived.Test.YtckoaeoecjphiaaGreatK35
import Derived.OwnWalk
import Derived.Deep.RegionLaw

/- A round in plain words. -/
namespace Go.Proofs.YtckoaeoecjphiaaGreat
open Go.RowKit Go.Lib

/-- What a round is asked with. -/
structure Rd where
  d : Net
  cy : Int
  l : List Ck
  u0 : Nat
  u1 : Nat
  w0 : Nat
  w1 : Nat
abbrev Rd.p (R : Rd) : Int := R.cy * R.d.cf.cy
abbrev Rd.E (R : Rd) : Int := expZ R.d.cf
abbrev Rd.A (R : Rd) : Int := accZ R.d.cf
abbrev Rd.up (R : Rd) (w : Nat) : Nat := if w = 0 then R.u0 else R.u1
abbrev Rd.down (R : Rd) (w : Nat) : Nat := if w = 0 then R.w0 else R.w1
noncomputable def sentZ (p : Int) (k : Ck) : Int := if (whenR k p).2 = 0 then (whenR k p).1 else -1
/-- The first n hosts that send. -/
noncomputable def sdTo (l : List Ck) (p : Int) : Nat → List Sd
  | 0 => []
  | n + 1 => if (whenR (nthC l n) p).2 = 0 then sdTo l p n ++ [⟨n, (whenR (nthC l n) p).1⟩] else sdTo l p n
open Classical in
noncomputable def sortS (xs : List Sd) : List Sd := if h : ∃ ys : List Sd, ys.Perm xs ∧ ys.Pairwise lexS then h.choose else xs
theorem sortS_eq {xs ys : List Sd} (h1 : ys.Perm xs) (h2 : ys.Pairwise lexS) : sortS xs = ys := by
  have h : ∃ ys : List Sd, ys.Perm xs ∧ ys.Pairwise lexS := ⟨ys, h1, h2⟩
  unfold sortS
  rw [dif_pos h]
  exact lex_unique (h.choose_spec.1.trans h1.symm) h.choose_spec.2 h2
noncomputable def Rd.sd (R : Rd) : List Sd := sortS (sdTo R.l R.p R.l.length)
noncomputable def Rd.came (R : Rd) (w : Nat) : List Sd := cameS R.d.cf.de R.d.cf.wi (R.up w) R.sd
noncomputable def Rd.crew (R : Rd) (w : Nat) : Nat := crewS (R.came w)
noncomputable def Rd.pt (R : Rd) (w : Nat) : Int := pointS R.d.cf.de (R.came w)
noncomputable def Rd.sent (R : Rd) (h : Nat) : Int := sentZ R.p (nthC R.l h)
open Classical in
/-- Does host h hear switch w? -/
noncomputable def Rd.on (R : Rd) (h w : Nat) : Bool := decide (0 ≤ R.sent h) && (!decide (R.crew w = 0) && !hasN (R.down w) h)
noncomputable def Rd.fr (R : Rd) (h w : Nat) (fs : List Hd) : List Hd :=
  if R.on h w = true then hearsF (nthC R.l h) R.p R.E R.A R.d.cf.de R.d.cf.wi (R.pt w) (nth (nthR R.d.rows h) w) (R.crew w) (6 + (w : Int)) fs else fs
noncomputable def Rd.frTo (R : Rd) (h : Nat) : Nat → List Hd
  | 0 => []
  | w + 1 => R.fr h w (R.frTo h w)
noncomputable def Rd.fs (R : Rd) (h : Nat) : List Hd := R.frTo h 2
noncomputable def Rd.by_ (R : Rd) (h : Nat) : Int := (bestH (R.fs h)).by_
noncomputable def Rd.hrd (R : Rd) (h : Nat) : Nat := (R.fs h).length
noncomputable def Rd.aft (R : Rd) (h : Nat) : Ck := if 0 < R.hrd h then setR (nthC R.l h) (R.p + R.E + R.A + 1) (R.by_ h) else nthC R.l h

theorem sdTo_len (l : List Ck) (p : Int) : ∀ n, (sdTo l p n).length ≤ n
  | 0 => by simp [sdTo]
  | n + 1 => by
    have := sdTo_len l p n
    unfold sdTo
    split
    · rw [List.length_append, List.length_singleton]; omega
    · omega
theorem sdTo_lt (l : List Ck) (p : Int) : ∀ n, ∀ x ∈ sdTo l p n, x.h < n ∧ (whenR (nthC l x.h) p).2 = 0 ∧ x.t = (whenR (nthC l x.h) p).1
  | 0 => by simp [sdTo]
  | n + 1 => by
    intro x hx
    unfold sdTo at hx
    split at hx
    · rename_i h0
      rcases List.mem_append.1 hx with hx | hx
      · have := sdTo_lt l p n x hx
        exact ⟨by omega, this.2⟩
      · obtain rfl := List.mem_singleton.1 hx
        exact ⟨Nat.lt_succ_self n, h0, rfl⟩
    · have := sdTo_lt l p n x hx
      exact ⟨by omega, this.2⟩
theorem sdTo_inc (l : List Ck) (p : Int) : ∀ n, (sdTo l p n).Pairwise fun a b => a.h < b.h
  | 0 => by simp [sdTo]
  | n + 1 => by
    unfold sdTo
    split
    · rw [List.pairwise_append]
      refine ⟨sdTo_inc l p n, by simp, ?_⟩
      intro a ha b hb
      obtain rfl := List.mem_singleton.1 hb
      exact (sdTo_lt l p n a ha).1
    · exact sdTo_inc l p n
theorem sdTo_sort (l : List Ck) (p : Int) {n : Nat} {ys : List Sd} (hp : ys.Perm (sdTo l p n)) (hs : ys.Pairwise lexS) : sortS (sdTo l p n) = ys ∧ (ys.Pairwise fun a b => a.h ≠ b.h) ∧ ∀ x ∈ ys, x.h < n ∧ (whenR (nthC l x.h) p).2 = 0 ∧ x.t = (whenR (nthC l x.h) p).1 := by
  refine ⟨sortS_eq hp hs, ?_, fun x hx => sdTo_lt l p n x (hp.subset hx)⟩
  have h1 : (sdTo l p n).Pairwise fun a b => a.h ≠ b.h := (sdTo_inc l p n).imp (fun h => by omega)
  exact h1.perm hp.symm (fun h => fun e => h e.symm)
/-- A time at which a clock shows a number. -/
theorem whenR_t {k : Ck} (ho : k.ok) {p : Int} (h : (whenR k p).2 = 0) : 0 ≤ (whenR k p).1 ∧ (whenR k p).1 ≤ 1125899906842624 := by
  rcases whenR_cases k ho p with ⟨t, ht, e⟩ | ⟨_, e⟩
  · rw [e]
    have := ht.lo; have := ht.hi; have := ho.m0
    exact ⟨by dsimp only; omega, by dsimp only; omega⟩
  · rw [e] at h; cases h
theorem newC_ok {k : Ck} (h : newC k = true) : k.ok := by
  have hnp : (realB k.m = true ∧ fastB k.r = true) ∧ shownB k.b = true := by simpa [newC, newB] using h
  exact ClockOk.new hnp.1.1 hnp.2 hnp.1.2
theorem rowsZ_row {d : Net} (h : rowsZ d = true) {j : Nat} (hj : (j : Int) < d.cf.ho) {w : Nat} (hw : w < 2) : j < d.rows.length ∧ (nthR d.rows j).length = 2 ∧ 0 ≤ nth (nthR d.rows j) w ∧ nth (nthR d.rows j) w ≤ d.cf.de := by
  unfold rowsZ at h
  simp only [Bool.and_eq_true, decide_eq_true_eq, Bool.not_eq_true'] at h
  obtain ⟨h1, h2⟩ := h
  have hjl : j < d.rows.length := by omega
  have h3 : badR d.cf.de (nthR d.rows j) = false := by
    rw [Bool.eq_false_iff]
    intro e
    rw [Bool.eq_false_iff] at h2
    exact h2 (List.any_eq_true.2 ⟨_, nthR_mem hjl, e⟩)
  unfold badR at h3
  simp only [Bool.or_eq_false_iff, Bool.not_eq_false', decide_eq_true_eq] at h3
  obtain ⟨h4, h5⟩ := h3
  refine ⟨hjl, h4, ?_⟩
  have h6 : badN d.cf.de (nth (nthR d.rows j) w) = false := by
    rw [Bool.eq_false_iff]
    intro e
    rw [Bool.eq_false_iff] at h5
    have hwl : w < (nthR d.rows j).length := by omega
    exact h5 (List.any_eq_true.2 ⟨_, (by unfold nth; rw [List.getElem?_eq_getElem hwl]; exact List.getElem_mem hwl), e⟩)
  unfold badN at h6
  exact inZ_iff.1 (by simpa using h6)
end Go.Proofs.YtckoaeoecjphiaaGreat

/- A round in plain words: bounds. -/
namespace Go.Proofs.YtckoaeoecjphiaaGreat
open Go.RowKit Go.Lib

/-- A round that may be. -/
structure RdOk (R : Rd) : Prop where
  goes : goesZ R.d R.cy R.l = true
  u0 : R.u0 < 4294967296
  u1 : R.u1 < 4294967296
  w0 : R.w0 < 4294967296
  w1 : R.w1 < 4294967296
variable {R : Rd}
theorem RdOk.clean (h : RdOk R) : cleanZ R.d R.cy R.l.length = true ∧ R.l.all newC = true ∧ R.l.any (lateC R.p) = false := by
  have h1 := h.goes
  unfold goesZ at h1
  simp only [Bool.and_eq_true, Bool.not_eq_true'] at h1
  exact ⟨h1.1, h1.2.1, h1.2.2⟩
theorem RdOk.len (h : RdOk R) : R.l.length ≤ 6 ∧ (R.l.length : Int) = R.d.cf.ho := by
  obtain ⟨h1, _, _, h4⟩ := cleanZ_iff.1 h.clean.1
  obtain ⟨_, ⟨_, ho1⟩, _⟩ := check_cy h1
  exact ⟨by omega, h4⟩
theorem RdOk.span (h : RdOk R) : (1 ≤ R.d.cf.cy ∧ R.d.cf.cy ≤ 1073741824) ∧ (0 ≤ R.d.cf.de ∧ R.d.cf.de ≤ 1048576) ∧ (0 ≤ R.d.cf.wi ∧ R.d.cf.wi ≤ 1048576) ∧ (0 ≤ R.d.cf.pr ∧ R.d.cf.pr ≤ 1048576) := by
  obtain ⟨h1, _⟩ := cleanZ_iff.1 h.clean.1
  exact spansZ_bd (check_cy h1).1
theorem RdOk.pcy (h : RdOk R) : (0 ≤ R.p ∧ R.p ≤ 562949953421312) ∧ (0 ≤ R.cy ∧ R.cy ≤ 562949953421312) := by
  obtain ⟨_, h2, _⟩ := cleanZ_iff.1 h.clean.1
  have := clean_p h.clean.1
  exact ⟨⟨this.1, this.2.1⟩, ⟨h2, this.2.2⟩⟩
theorem RdOk.ck (h : RdOk R) {j : Nat} (hj : j < R.l.length) : newC (nthC R.l j) = true ∧ (nthC R.l j).ok := by
  have := List.all_eq_true.1 h.clean.2.1 _ (nthC_mem hj)
  exact ⟨this, newC_ok this⟩
theorem RdOk.row (h : RdOk R) {j w : Nat} (hj : j < R.l.length) (hw : w < 2) : j < R.d.rows.length ∧ (nthR R.d.rows j).length = 2 ∧ 0 ≤ nth (nthR R.d.rows j) w ∧ nth (nthR R.d.rows j) w ≤ R.d.cf.de := by
  obtain ⟨h1, _⟩ := cleanZ_iff.1 h.clean.1
  exact rowsZ_row (check_cy h1).2.2 (by have := h.len.2; omega) hw
theorem RdOk.EA (h : RdOk R) : (0 ≤ R.E ∧ R.E ≤ 4194304) ∧ (0 ≤ R.A ∧ R.A ≤ 4194304) := by
  obtain ⟨_, h2, h3, h4⟩ := h.span
  unfold Rd.E Rd.A expZ accZ
  omega
/-- The senders, sorted. -/
structure Sorts (R : Rd) (ys : List Sd) : Prop where
  perm : ys.Perm (sdTo R.l R.p R.l.length)
  srt : ys.Pairwise lexS
theorem Sorts.eq {ys : List Sd} (h : Sorts R ys) : R.sd = ys := (sdTo_sort R.l R.p h.perm h.srt).1
theorem RdOk.col (h : RdOk R) {ys : List Sd} (hs : Sorts R ys) {w : Nat} (hw : w < 2) : ColP R.d R.cy ys w (R.up w) := by
  obtain ⟨_, h2, h3⟩ := sdTo_sort R.l R.p hs.perm hs.srt
  have hl := h.len.1
  exact
    { cyr := by have := h.pcy; omega
      wi := h.span.2.2.1
      de := h.span.2.1
      rows := fun x hx => by
        obtain ⟨a, b, c, d⟩ := h.row (h3 x hx).1 hw
        exact ⟨a, b, c, by have := h.span.2.1; omega⟩
      hs := fun x hx => by have := (h3 x hx).1; omega
      ts := fun x hx => by
        obtain ⟨a, b, c⟩ := h3 x hx
        rw [c]
        exact whenR_t (h.ck a).2 b
      dif := h2
      srt := hs.srt
      sw2 := hw
      lost32 := by unfold Rd.up; split; exact h.u0; exact h.u1 }
theorem RdOk.came (h : RdOk R) {ys : List Sd} (hs : Sorts R ys) (w : Nat) : CameOk R.d.cf.de R.d.cf.wi ys (R.came w) := by
  have := came_ok (de := R.d.cf.de) (wi := R.d.cf.wi) (lost := R.up w) hs.srt h.span.2.2.1.1 ys.length (Nat.le_refl _)
  rw [List.take_length] at this
  unfold Rd.came
  rw [hs.eq]
  exact this
theorem RdOk.crew (h : RdOk R) {ys : List Sd} (hs : Sorts R ys) (w : Nat) : R.crew w < 64 ∧ (R.crew w = 0 ↔ R.came w = []) := by
  obtain ⟨_, h2, h3⟩ := sdTo_sort R.l R.p hs.perm hs.srt
  have hc := h.came hs w
  have hl := h.len.1
  have h4 := crew_of (de := 0) (cy := 0) (cl := 0) _ (R.came w) rfl (h2.sublist hc.sub) (fun y hy => by have := (h3 y (hc.sub.subset hy)).1; omega)
  refine ⟨h4.lt, ?_⟩
  constructor
  · intro e
    have h5 := h4.free
    unfold Rd.crew at e
    rw [e] at h5
    have h6 : freeN 0 = 6 := by decide
    rw [h6, List.length_map] at h5
    exact List.length_eq_zero_iff.1 (by omega)
  · intro e
    unfold Rd.crew
    rw [e]
    rfl
theorem RdOk.pt (h : RdOk R) {ys : List Sd} (hs : Sorts R ys) (w : Nat) : -4503599627370496 ≤ R.pt w ∧ R.pt w ≤ 4503599627370496 := by
  obtain ⟨_, h2, h3⟩ := sdTo_sort R.l R.p hs.perm hs.srt
  have hc := h.came hs w
  have hd := h.span
  unfold Rd.pt pointS
  split
  · omega
  · rename_i hne
    obtain ⟨y, r, e⟩ : ∃ y r, R.came w = y :: r := by
      cases e : R.came w with
      | nil => exact absurd e hne
      | cons y r => exact ⟨y, r, rfl⟩
    have hy : y ∈ R.came w := by rw [e]; simp
    obtain ⟨a, b, c⟩ := h3 y (hc.sub.subset hy)
    have ht := whenR_t (h.ck a).2 b
    rw [← c] at ht
    have hh : headT (R.came w) = y.t := by rw [e]; rfl
    have hb := tolL_bounds (zs := (R.came w).map fun x => x.t - headT (R.came w)) (lo := 0) (hi := R.d.cf.wi) (by
      intro z hz
      obtain ⟨q, hq, rfl⟩ := List.mem_map.1 hz
      have := hc.win q hq
      omega) (by rw [e]; simp)
    rw [hh] at hb ⊢
    omega
/-- The frames that a host has heard. -/
theorem RdOk.frs (h : RdOk R) {ys : List Sd} (hs : Sorts R ys) (j : Nat) : ∀ w, w ≤ 2 → (R.frTo j w).length ≤ w ∧ ∀ x ∈ R.frTo j w, x.cr < 64 ∧ (6 ≤ x.fr ∧ x.fr < 6 + (w : Int)) ∧ (-R.A ≤ x.by_ ∧ x.by_ ≤ R.A)
  | 0, _ => by simp [Rd.frTo]
  | w + 1, hw => by
    obtain ⟨h1, h2⟩ := h.frs hs j w (by omega)
    have h0 : (R.frTo j w).length ≤ w + 1 ∧ ∀ x ∈ R.frTo j w, x.cr < 64 ∧ (6 ≤ x.fr ∧ x.fr < 6 + ((w + 1 : Nat) : Int)) ∧ (-R.A ≤ x.by_ ∧ x.by_ ≤ R.A) :=
      ⟨by omega, fun x hx => by obtain ⟨a, b, c⟩ := h2 x hx; exact ⟨a, by omega, c⟩⟩
    have e : R.frTo j (w + 1) = R.fr j w (R.frTo j w) := rfl
    rw [e]
    unfold Rd.fr
    split
    · unfold hearsF
      split
      · unfold hearF
        split
        · rename_i hb
          unfold hearB lateB at hb
          simp only [Bool.and_eq_true, decide_eq_true_eq] at hb
          obtain ⟨_, hb1, hb2⟩ := hb
          refine ⟨by rw [List.length_append, List.length_singleton]; omega, ?_⟩
          intro x hx
          rcases List.mem_append.1 hx with hx | hx
          · exact h0.2 x hx
          · obtain rfl := List.mem_singleton.1 hx
            have := (h.crew hs w).1
            exact ⟨this, ⟨by dsimp only; omega, by dsimp only; omega⟩, ⟨by dsimp only; omega, by dsimp only; omega⟩⟩
        · exact h0
      · exact h0
    · exact h0
theorem bestH_mem : ∀ {fs : List Hd}, fs ≠ [] → bestH fs ∈ fs
  | [], h => absurd rfl h
  | x :: l, _ => by
    have key : ∀ (l : List Hd) (b : Hd) (s : List Hd), b ∈ s → (∀ y ∈ l, y ∈ s) → l.foldl (fun b h => if betterH h b = true then h else b) b ∈ s := by
      intro l
      induction l with
      | nil => intro b s hb _; exact hb
      | cons y l ih =>
        intro b s hb hl
        refine ih _ s ?_ (fun z hz => hl z (List.mem_cons_of_mem _ hz))
        dsimp only
        split
        · exact hl y (by simp)
        · exact hb
    exact key l x (x :: l) (by simp) (fun y hy => List.mem_cons_of_mem _ hy)
theorem RdOk.by_ (h : RdOk R) {ys : List Sd} (hs : Sorts R ys) (j : Nat) : -R.A ≤ R.by_ j ∧ R.by_ j ≤ R.A := by
  unfold Rd.by_ Rd.fs
  obtain ⟨_, h2⟩ := h.frs hs j 2 (Nat.le_refl _)
  have := h.EA
  by_cases hne : R.frTo j 2 = []
  · rw [hne]
    show -R.A ≤ 0 ∧ 0 ≤ R.A
    omega
  · exact (h2 _ (bestH_mem hne)).2.2
end Go.Proofs.YtckoaeoecjphiaaGreat

/- round.Go: what its loops go by. -/
namespace Go.Proofs.YtckoaeoecjphiaaGreat
open Go.RowKit Go.Lib

theorem gr_over {a b c : World} {row r2 : Option Nat} (h : a.grownBy b row) (g : b.grownBy c r2) (hr : ∀ q, r2 = some q → a.heap.size ≤ q) : a.grownBy c row :=
  ⟨g.os.trans h.os, g.tape.trans h.tape, g.output.trans h.output, Nat.le_trans h.size g.size, fun k hk hn => by
    rw [g.block k (Nat.lt_of_lt_of_le hk h.size) (fun e => by have := hr k e.symm; omega)]
    exact h.block k hk hn⟩
theorem cells6_at {w : World} {g : Nat} {a b c d e f x : Value} {t : TypeId} (h : w.heap[g]? = some (.cells #[a, b, c, d, e, f] t)) :
    (w.setCell ⟨g, 0, none⟩ x).heap[g]? = some (.cells #[x, b, c, d, e, f] t) ∧ (w.setCell ⟨g, 1, none⟩ x).heap[g]? = some (.cells #[a, x, c, d, e, f] t) ∧ (w.setCell ⟨g, 2, none⟩ x).heap[g]? = some (.cells #[a, b, x, d, e, f] t) ∧
    (w.setCell ⟨g, 3, none⟩ x).heap[g]? = some (.cells #[a, b, c, x, e, f] t) ∧ (w.setCell ⟨g, 4, none⟩ x).heap[g]? = some (.cells #[a, b, c, d, x, f] t) ∧ (w.setCell ⟨g, 5, none⟩ x).heap[g]? = some (.cells #[a, b, c, d, e, x] t) := by
  refine ⟨?_, ?_, ?_, ?_, ?_, ?_⟩ <;> (simp only [World.setCell, Array.getElem?_modify, if_true, h, Option.map_some]; rfl)
def sC (x : Sd) : List Value := [.int .i64 (x.h : Int), .int .i64 x.t]
def flatS (xs : List Sd) : List Value := xs.flatMap sC
theorem flatS_snoc (xs : List Sd) (x : Sd) : flatS (xs ++ [x]) = flatS xs ++ sC x := by unfold flatS; rw [List.flatMap_append]; simp
theorem flatS_at {xs : List Sd} {i c : Nat} (hi : i < xs.length) (hc : c < 2) : (flatS xs)[i * 2 + c]? = (sC (nthS xs i))[c]? := by
  induction xs generalizing i with
  | nil => simp at hi
  | cons x l ih =>
    have e : flatS (x :: l) = sC x ++ flatS l := by simp [flatS]
    rw [e]
    cases i with
    | zero =>
      rw [List.getElem?_append_left (by show _ < 2; omega)]
      simp [nthS]
    | succ i =>
      rw [List.getElem?_append_right (by show 2 ≤ _; omega)]
      have e2 : (i + 1) * 2 + c - (sC x).length = i * 2 + c := by show (i + 1) * 2 + c - 2 = _; omega
      rw [e2, ih (by simpa using hi)]
      simp [nthS]
/-- In the first loop: those that send, and when each sent. -/
structure Lp1 (wA W : World) (tb : Nat) (S : List Sd) (f : Nat → Int) (k : Nat) (v14 vs : Value) : Prop where
  sd : W.ownsRow wA.heap.size 86 2 v14 S.length (flatS S)
  sn : W.ownsRow wA.heap.size 2 1 vs k ((List.range k).map fun h => Value.int .i64 (f h))
  ap : ∀ q, v14.ownBlock = some q → vs.ownBlock ≠ some q
  told : W.heap[tb]? = some (.cells #[vs, .int .u32 0, .int .u32 0, .slice none 0 0, .slice none 0 0, .slice none 0 0] 38)
  gr : wA.grownBy W (some tb)
  tl : tb < wA.heap.size
section
variable {wA W W' : World} {tb : Nat} {S : List Sd} {f : Nat → Int} {k : Nat} {v14 vs : Value}
theorem ob_none {v : Value} : v.ownBlock = none ∨ v.ownBlock ≠ none := by cases v.ownBlock <;> simp
theorem Lp1.grown (h : Lp1 wA W tb S f k v14 vs) (g : W.grownBy W' none) : Lp1 wA W' tb S f k v14 vs :=
  ⟨h.sd.kept g ob_none, h.sn.kept g ob_none, h.ap, gr_heap g h.told (by simp), gr_over h.gr g (by simp), h.tl⟩
theorem Lp1.send (h : Lp1 wA W tb S f k v14 vs) {x : Sd} {o : Obj} {W4 : World} {v4 : Value} (hown : W4.ownsRow wA.heap.size 86 2 v4 (S.length + 1) (flatS S ++ sC x))
    (hg : (W.alloc o).grownBy W4 v14.ownBlock) (hat : v4.ownBlock = v14.ownBlock ∨ v4.ownBlock = some (W.alloc o).heap.size) : Lp1 wA W4 tb (S ++ [x]) f k v4 vs := by
  have h1 := h.grown (World.grownBy_alloc W o none)
  have hlt : ∀ q, v14.ownBlock = some q → wA.heap.size ≤ q := fun q hq => (h.sd.lt q hq).1
  refine ⟨?_, ?_, ?_, ?_, ?_, h.tl⟩
  · rw [flatS_snoc, List.length_append]
    exact hown
  · refine h1.sn.kept hg ?_
    cases e : vs.ownBlock with
    | none => exact .inl rfl
    | some q =>
      refine .inr (fun e2 => ?_)
      exact h.ap q e2.symm e
  · intro q hq e
    rcases hat with h2 | h2
    · rw [h2] at hq; exact h.ap q hq e
    · rw [h2] at hq
      have := (h1.sn.lt q e).2
      cases hq
      omega
  · exact gr_heap hg h1.told (fun e => by have := hlt tb e.symm; have := h.tl; omega)
  · exact gr_over h1.gr hg hlt
theorem Lp1.tell (h : Lp1 wA W tb S f k v14 vs) {o : Obj} {W4 : World} {v4 : Value} {y : Int} (hy : f k = y) (hown : W4.ownsRow wA.heap.size 2 1 v4 (k + 1) (((List.range k).map fun h => Value.int .i64 (f h)) ++ [.int .i64 y]))
    (hg : (W.alloc o).grownBy W4 vs.ownBlock) (hat : v4.ownBlock = vs.ownBlock ∨ v4.ownBlock = some (W.alloc o).heap.size) : Lp1 wA (W4.setCell ⟨tb, 0, none⟩ v4) tb S f (k + 1) v14 v4 := by
  subst hy
  have h1 := h.grown (World.grownBy_alloc W o none)
  have hlt : ∀ q, vs.ownBlock = some q → wA.heap.size ≤ q := fun q hq => (h.sn.lt q hq).1
  have htold := gr_heap hg h1.told (fun e => by have := hlt tb e.symm; have := h.tl; omega)
  have hsd : W4.ownsRow wA.heap.size 86 2 v14 S.length (flatS S) := by
    refine h1.sd.kept hg ?_
    cases e : v14.ownBlock with
    | none => exact .inl rfl
    | some q => exact .inr (fun e2 => h.ap q e e2.symm)
  have hb4 : ∀ q, v4.ownBlock = some q → wA.heap.size ≤ q := fun q hq => (hown.lt q hq).1
  refine ⟨?_, ?_, ?_, (cells6_at htold).1, gr_setRow (gr_over h1.gr hg hlt) 0 _, h.tl⟩
  · exact own_other hsd (fun e => by have := (hsd.lt tb e).1; have := h.tl; omega)
  · rw [List.range_succ, List.map_append]
    exact own_other hown (fun e => by have := hb4 tb e; have := h.tl; omega)
  · intro q hq e
    rcases hat with h2 | h2
    · rw [h2] at e; exact h.ap q hq e
    · rw [h2] at e
      have := (h1.sd.lt q hq).2
      cases e
      omega
/-- The senders, as they are read. -/
theorem Lp1.sds (h : Lp1 wA W tb S f k v14 vs) (hS : 0 < S.length) : ∃ g cap, v14 = .slice (some ⟨g, 0, none⟩) S.length cap ∧ S.length ≤ cap ∧ wA.heap.size ≤ g ∧ SdAt W g S.length S := by
  rcases h.sd.2 with ⟨_, h0⟩ | ⟨g, cap, cur, rfl, hb, hh, hc, _⟩
  · omega
  · refine ⟨g, cap, rfl, hc, hb, fun t ht => ?_, fun i => by simp [World.frozen?, hh], (Array.getElem?_eq_some_iff.1 hh).1⟩
    constructor
    · have := h.sd.cellAt (t * 2) (by omega)
      rw [this]
      have := flatS_at ht (c := 0) (by omega)
      rw [Nat.add_zero] at this
      rw [this]; rfl
    · have := h.sd.cellAt (t * 2 + 1) (by omega)
      rw [this, flatS_at ht (c := 1) (by omega)]
      rfl
end
end Go.Proofs.YtckoaeoecjphiaaGreat

/- round.Go: the sort; what lies behind it. -/
namespace Go.Proofs.YtckoaeoecjphiaaGreat
open Go.RowKit Go.Lib

/-- Behind the sort. -/
structure Mid (wA W : World) (tb : Nat) (R : Rd) (c0 c1 : Nat) (ys : List Sd) (v14 vs : Value) : Prop where
  sn : W.ownsRow wA.heap.size 2 1 vs R.l.length ((List.range R.l.length).map fun h => Value.int .i64 (R.sent h))
  snt : SentV W v14 ys
  told : W.heap[tb]? = some (.cells #[vs, .int .u32 (c0 : Int), .int .u32 (c1 : Int), .slice none 0 0, .slice none 0 0, .slice none 0 0] 38)
  gr : wA.grownBy W (some tb)
  tl : tb < wA.heap.size
  vl : ∀ g cap, v14 = .slice (some ⟨g, 0, none⟩) ys.length cap → ys ≠ [] → wA.heap.size ≤ g
section
variable {wA W W' : World} {tb c0 c1 : Nat} {R : Rd} {ys : List Sd} {v14 vs : Value}
theorem Mid.grown (h : Mid wA W tb R c0 c1 ys v14 vs) (g : W.grownBy W' none) : Mid wA W' tb R c0 c1 ys v14 vs :=
  ⟨h.sn.kept g ob_none, h.snt.grown g, gr_heap g h.told (by simp), gr_over h.gr g (by simp), h.tl, h.vl⟩
theorem sort_step (hR : RdOk R) (h : Lp1 wA W tb (sdTo R.l R.p R.l.length) (fun h => sentZ R.p (nthC R.l h)) R.l.length v14 vs) :
    Calls Tryz.prog 29 #[v14, .func (.func 30) #[] #[]] W fun e w' => e = .returned (.tuple #[]) ∧ ∃ ys, Hid (Sorts R ys) ∧ Hid (Mid wA w' tb R 0 0 ys v14 vs) := by
  rcases Nat.eq_zero_or_pos (sdTo R.l R.p R.l.length).length with h0 | h0
  · have hnil : sdTo R.l R.p R.l.length = [] := List.length_eq_zero_iff.1 h0
    obtain ⟨a, cap, rfl⟩ : ∃ a cap, v14 = .slice a 0 cap := by
      rcases h.sd.2 with ⟨rfl, _⟩ | ⟨g, cap, cur, rfl, _⟩
      · exact ⟨_, _, rfl⟩
      · exact ⟨_, _, by rw [h0]⟩
    refine (stable_none a cap W).mono ?_
    rintro e w' ⟨rfl, rfl⟩
    exact ⟨rfl, [], hid ⟨by rw [hnil], by simp⟩, hid ⟨h.sn, .inl ⟨a, cap, rfl, rfl⟩, h.told, h.gr, h.tl, fun _ _ _ hne => absurd rfl hne⟩⟩
  · obtain ⟨g, cap, rfl, hcap, hg, hS⟩ := h.sds h0
    have hl := sdTo_len R.l R.p R.l.length
    have h6 := hR.len.1
    refine (stable_any g _ cap _ W rfl (by omega) hS (sdTo_inc R.l R.p R.l.length)).mono ?_
    rintro e w' ⟨rfl, ⟨ys, ⟨hp, hs⟩, hd⟩, hg'⟩
    have hlen : ys.length = (sdTo R.l R.p R.l.length).length := hp.length_eq
    refine ⟨rfl, ys, hid ⟨hp, hs⟩, hid ⟨?_, ?_, ?_, ?_, h.tl, ?_⟩⟩
    · refine h.sn.kept hg' ?_
      cases e : vs.ownBlock with
      | none => exact .inl rfl
      | some q => exact .inr (fun e2 => h.ap g rfl (by rw [e]; exact e2))
    · exact .inr ⟨g, cap, by rw [hlen], by omega, by rw [hlen]; exact hd⟩
    · exact gr_heap hg' h.told (by have := h.tl; simp; omega)
    · exact gr_over h.gr hg' (fun q hq => by cases hq; exact hg)
    · intro g' cap' e _
      injection e with e1 _ _
      injection e1 with e1
      injection e1 with e1
      omega
/-- A switch's crew is told. -/
theorem Mid.tell0 (h : Mid wA W tb R c0 c1 ys v14 vs) (c : Nat) : Mid wA (W.setCell ⟨tb, 1, none⟩ (.int .u32 (c : Int))) tb R c c1 ys v14 vs := by
  have hn : vs.ownBlock ≠ some tb := fun e => by have := (h.sn.lt tb e).1; have := h.tl; omega
  refine ⟨own_other h.sn hn, ?_, (cells6_at h.told).2.1, gr_setRow h.gr 1 _, h.tl, h.vl⟩
  rcases h.snt with h1 | ⟨g, cap, h1, h2, h3⟩
  · exact .inl h1
  · by_cases hy : ys = []
    · subst hy; exact .inr ⟨g, cap, h1, h2, ⟨fun t ht => absurd ht (Nat.not_lt_zero _), fun i => by simp [h3.froz], by simpa [World.setCell] using h3.lt⟩⟩
    · have hg := h.vl g cap h1 hy
      have hne : tb ≠ g := by have := h.tl; omega
      refine .inr ⟨g, cap, h1, h2, ⟨fun t ht => ?_, fun i => by simp [h3.froz], by simpa [World.setCell] using h3.lt⟩⟩
      have := h3.cell t ht
      rw [World.cell?_setCell_other _ _ _ _ (fun e => hne (congrArg Addr.block e)), World.cell?_setCell_other _ _ _ _ (fun e => hne (congrArg Addr.block e))]
      exact this
theorem Mid.tell1 (h : Mid wA W tb R c0 c1 ys v14 vs) (c : Nat) : Mid wA (W.setCell ⟨tb, 2, none⟩ (.int .u32 (c : Int))) tb R c0 c ys v14 vs := by
  have hn : vs.ownBlock ≠ some tb := fun e => by have := (h.sn.lt tb e).1; have := h.tl; omega
  refine ⟨own_other h.sn hn, ?_, (cells6_at h.told).2.2.1, gr_setRow h.gr 2 _, h.tl, h.vl⟩
  rcases h.snt with h1 | ⟨g, cap, h1, h2, h3⟩
  · exact .inl h1
  · by_cases hy : ys = []
    · subst hy; exact .inr ⟨g, cap, h1, h2, ⟨fun t ht => absurd ht (Nat.not_lt_zero _), fun i => by simp [h3.froz], by simpa [World.setCell] using h3.lt⟩⟩
    · have hg := h.vl g cap h1 hy
      have hne : tb ≠ g := by have := h.tl; omega
      refine .inr ⟨g, cap, h1, h2, ⟨fun t ht => ?_, fun i => by simp [h3.froz], by simpa [World.setCell] using h3.lt⟩⟩
      have := h3.cell t ht
      rw [World.cell?_setCell_other _ _ _ _ (fun e => hne (congrArg Addr.block e)), World.cell?_setCell_other _ _ _ _ (fun e => hne (congrArg Addr.block e))]
      exact this
end
end Go.Proofs.YtckoaeoecjphiaaGreat

/- round.Go: what its loops go by, second part. -/
namespace Go.Proofs.YtckoaeoecjphiaaGreat
open Go.RowKit Go.Lib

/-- What a round has told, as it lies. -/
structure ToldAt (W : World) (R : Rd) (vs vb vh va : Value) : Prop where
  sent : SliceAt W.heap.size W vs 1 R.l.length (fun j _ => .int .i64 (R.sent j))
  by_ : SliceAt W.heap.size W vb 1 R.l.length (fun j _ => .int .i64 (R.by_ j))
  hrd : SliceAt W.heap.size W vh 1 R.l.length (fun j _ => .int .i64 (R.hrd j))
  aft : SliceAt W.heap.size W va 3 R.l.length (fun j i => match i with | 0 => .int .i64 (R.aft j).m | 1 => .int .i64 (R.aft j).b | _ => .int .i64 (R.aft j).r)

theorem Tryz.info_sd : (Tryz.prog.info? 86).map (fun i => (i.zero, i.size, i.bytes)) = some (some (.agg #[.int .i64 0, .int .i64 0]), 2, 16) := by kernel_rfl
/-- The pointers, as they are read. -/
theorem Ptrs.cells {base : Nat} {W : World} {v : Value} {n : Nat} {ps : Nat → Nat} {l : Nat → Ck} (h : Ptrs base W v n ps l) (hn : 0 < n) :
    ∃ g cap, v = .slice (some ⟨g, 0, none⟩) n cap ∧ n ≤ cap ∧ (base ≤ g ∧ g < W.heap.size) ∧ (∀ j, j < n → g ≠ ps j) ∧ ∀ j, j < n → W.cell? ⟨g, j, none⟩ = some (.pointer (some ⟨ps j, 0, none⟩)) := by
  rcases h.row.2 with ⟨_, h0⟩ | ⟨g, cap, cur, rfl, hb, hh, hc, _⟩
  · omega
  · refine ⟨g, cap, rfl, hc, ⟨hb, (Array.getElem?_eq_some_iff.1 hh).1⟩, fun j hj e => h.own j hj (by rw [← e]; rfl), fun j hj => ?_⟩
    rw [h.row.cellAt j (by omega)]
    simp [hj]
theorem cells2_new (w : World) (a b : Value) (t : TypeId) : ∀ (j : Nat) (u : Value), [a, b][j]? = some u → (w.alloc (.cells #[a, b] t)).cell? ((⟨w.heap.size, 0, none⟩ : Addr).add j) = some u := by
  intro j u h
  have hh := heap_alloc_new w (.cells #[a, b] t)
  match j, h with
  | 0, h => exact hcell hh 0 _ (by simpa using h)
  | 1, h => exact hcell hh 1 _ (by simpa using h)
  | n + 2, h => simp at h
/-- What does not turn while the rounds' own blocks do. -/
structure Stat (W : World) (w0 : Nat) (ho C de wi pr qu cy a0 a1 b0 b1 : Int) (vd ve vl : Value) (pg n : Nat) (ps : Nat → Nat) : Prop where
  cf : W.heap[w0]? = some (.cells #[.int .i64 ho, .int .i64 C, .int .i64 de, .int .i64 wi, .int .i64 pr, vd, ve, vl, .int .i64 qu] 26)
  cyc : W.heap[w0 + 1]? = some (.cells #[.int .i64 cy] 2)
  los : W.heap[w0 + 2]? = some (.cells #[.int .u32 a0, .int .u32 a1, .int .u32 b0, .int .u32 b1] 31)
  res : W.heap[w0 + 3]? = some (.cells #[.slice none 0 0, .int .u32 0, .int .u32 0, .slice none 0 0, .slice none 0 0, .slice none 0 0] 38)
  ptr : ∀ j, j < n → W.cell? ⟨pg, j, none⟩ = some (.pointer (some ⟨ps j, 0, none⟩))
theorem Stat.kept {W W' : World} {w0 pg n : Nat} {ho C de wi pr qu cy a0 a1 b0 b1 : Int} {vd ve vl : Value} {ps : Nat → Nat} (h : Stat W w0 ho C de wi pr qu cy a0 a1 b0 b1 vd ve vl pg n ps)
    (g : ∀ q, q = w0 ∨ q = w0 + 1 ∨ q = w0 + 2 ∨ q = w0 + 3 ∨ q = pg → W'.heap[q]? = W.heap[q]?) : Stat W' w0 ho C de wi pr qu cy a0 a1 b0 b1 vd ve vl pg n ps :=
  ⟨(g _ (.inl rfl)).trans h.cf, (g _ (.inr (.inl rfl))).trans h.cyc, (g _ (.inr (.inr (.inl rfl)))).trans h.los, (g _ (.inr (.inr (.inr (.inl rfl))))).trans h.res, fun j hj => by
    rw [World.cell?_of_block (w := W) (a := ⟨pg, j, none⟩) (g pg (.inr (.inr (.inr (.inr rfl)))))]
    exact h.ptr j hj⟩
theorem lp1_keep {w9 wA W : World} {S : List Sd} {f : Nat → Int} {k : Nat} {v14 vs : Value} (h : Lp1 wA W w9.heap.size S f k v14 vs) (g : w9.grownBy wA none) : ∀ q, q < w9.heap.size → W.heap[q]? = w9.heap[q]? := fun q hq =>
  (h.gr.block q (Nat.lt_of_lt_of_le hq g.size) (by simp; omega)).trans (g.block q hq (by simp))
theorem Stat.keep9 {w9 W' : World} {w0 pg n : Nat} {ho C de wi pr qu cy a0 a1 b0 b1 : Int} {vd ve vl : Value} {ps : Nat → Nat} (h : Stat w9 w0 ho C de wi pr qu cy a0 a1 b0 b1 vd ve vl pg n ps) (hp : pg < w9.heap.size)
    (g : ∀ q, q < w9.heap.size → W'.heap[q]? = w9.heap[q]?) : Stat W' w0 ho C de wi pr qu cy a0 a1 b0 b1 vd ve vl pg n ps := by
  have h3 := lt_of_block h.res
  exact h.kept (fun q hq => g q (by omega))
theorem Lp1.at6 {wA W : World} {tb : Nat} {S : List Sd} {f : Nat → Int} {k : Nat} {v14 vs : Value} (h : Lp1 wA W tb S f k v14 vs) {o : Obj} {W4 : World} (hg : (W.alloc o).grownBy W4 vs.ownBlock) :
    W4.heap[tb]? = some (.cells #[vs, .int .u32 0, .int .u32 0, .slice none 0 0, .slice none 0 0, .slice none 0 0] 38) :=
  gr_heap hg (h.grown (World.grownBy_alloc W o none)).told (fun e => by have := (h.sn.lt tb e.symm).1; have := h.tl; omega)
theorem mid_keep {w9 wA W : World} {R : Rd} {c0 c1 : Nat} {ys : List Sd} {v14 vs : Value} (h : Mid wA W w9.heap.size R c0 c1 ys v14 vs) (g : w9.grownBy wA none) : ∀ q, q < w9.heap.size → W.heap[q]? = w9.heap[q]? := fun q hq =>
  (h.gr.block q (Nat.lt_of_lt_of_le hq g.size) (by simp; omega)).trans (g.block q hq (by simp))
theorem mid_gr {w w9 wA W : World} {R : Rd} {c0 c1 : Nat} {ys : List Sd} {v14 vs : Value} (h : Mid wA W w9.heap.size R c0 c1 ys v14 vs) (g9 : w.grownBy w9 none) (g : w9.grownBy wA none) : w.grownBy W none :=
  gr_own (gr_trans g9 g) h.gr g9.size
/-- In the second loop: the results so far. -/
structure Lp2 (w9 wA W : World) (R : Rd) (c0 c1 : Nat) (ys : List Sd) (v14 vs : Value) (w0 pg n : Nat) (ho C de wi pr qu cy a0 a1 b0 b1 : Int) (vd ve vl : Value) (ps : Nat → Nat) (rb : Nat) (x0 x1 x2 x3 x4 x5 : Value) : Prop where
  mid : Mid wA W w9.heap.size R c0 c1 ys v14 vs
  sta : Stat W w0 ho C de wi pr qu cy a0 a1 b0 b1 vd ve vl pg n ps
  res : W.heap[rb]? = some (.cells #[x0, x1, x2, x3, x4, x5] 92)
  rlo : wA.heap.size ≤ rb
  rs : vs.ownBlock ≠ some rb
  rv : ∀ g cap, v14 = .slice (some ⟨g, 0, none⟩) ys.length cap → ys ≠ [] → g ≠ rb
  plo : pg < w9.heap.size
  wlo : w0 + 3 < w9.heap.size
  sz : wA.heap.size = w9.heap.size + 1
section
variable {w9 wA W W' : World} {R : Rd} {c0 c1 : Nat} {ys : List Sd} {v14 vs : Value} {w0 pg n : Nat} {ho C de wi pr qu cy a0 a1 b0 b1 : Int} {vd ve vl : Value} {ps : Nat → Nat} {rb : Nat} {x0 x1 x2 x3 x4 x5 : Value}
theorem Lp2.grown (h : Lp2 w9 wA W R c0 c1 ys v14 vs w0 pg n ho C de wi pr qu cy a0 a1 b0 b1 vd ve vl ps rb x0 x1 x2 x3 x4 x5) (g : W.grownBy W' none) : Lp2 w9 wA W' R c0 c1 ys v14 vs w0 pg n ho C de wi pr qu cy a0 a1 b0 b1 vd ve vl ps rb x0 x1 x2 x3 x4 x5 :=
  ⟨h.mid.grown g, h.sta.kept (fun q hq => by
      have h3 := lt_of_block h.sta.res
      have h4 := h.mid.gr.size
      have h5 := h.plo
      have h6 := h.sz
      by_cases hq9 : q < W.heap.size
      · exact g.block q hq9 (by simp)
      · exfalso; omega), gr_heap g h.res (by simp), h.rlo, h.rs, h.rv, h.plo, h.wlo, h.sz⟩
/-- A write into the results, or into what is told. -/
theorem stat_set {q i : Nat} {x : Value} (h : Stat W w0 ho C de wi pr qu cy a0 a1 b0 b1 vd ve vl pg n ps) (h1 : q ≠ pg) (h2 : w0 + 3 < q) : Stat (W.setCell ⟨q, i, none⟩ x) w0 ho C de wi pr qu cy a0 a1 b0 b1 vd ve vl pg n ps :=
  h.kept (fun r hr => setCell_heap (by omega))
/-- The results turn, and nothing else. -/
theorem Lp2.turn {z0 z1 z2 z3 z4 z5 : Value} (h : Lp2 w9 wA W R c0 c1 ys v14 vs w0 pg n ho C de wi pr qu cy a0 a1 b0 b1 vd ve vl ps rb x0 x1 x2 x3 x4 x5) (hres : W'.heap[rb]? = some (.cells #[z0, z1, z2, z3, z4, z5] 92))
    (hoth : ∀ q, q ≠ rb → W'.heap[q]? = W.heap[q]?) (hs : W'.heap.size = W.heap.size) (h1 : W'.os = W.os) (h2 : W'.tape = W.tape) (h3 : W'.output = W.output) :
    Lp2 w9 wA W' R c0 c1 ys v14 vs w0 pg n ho C de wi pr qu cy a0 a1 b0 b1 vd ve vl ps rb z0 z1 z2 z3 z4 z5 := by
  have hr := h.rlo
  have hz := h.sz
  refine ⟨⟨own_as h.mid.sn (fun q hq => hoth q (fun e => h.rs (by rw [← e]; exact hq))), ?_, (hoth _ (by omega)).trans h.mid.told, ?_, h.mid.tl, h.mid.vl⟩, h.sta.kept (fun q hq => hoth q (by have := h.plo; have := h.wlo; omega)), hres, h.rlo, h.rs, h.rv, h.plo, h.wlo, h.sz⟩
  · rcases h.mid.snt with hl | ⟨g, cap, e1, e2, e3⟩
    · exact .inl hl
    · by_cases hy : ys = []
      · subst hy
        exact .inl ⟨_, _, e1, rfl⟩
      · have hg := h.rv g cap e1 hy
        refine .inr ⟨g, cap, e1, e2, ⟨fun t ht => ?_, fun i => ?_, by rw [hs]; exact e3.lt⟩⟩
        · rw [World.cell?_of_block (w := W) (a := ⟨g, t * 2, none⟩) (hoth g hg), World.cell?_of_block (w := W) (a := ⟨g, t * 2 + 1, none⟩) (hoth g hg)]
          exact e3.cell t ht
        · rw [World.frozen?_of_block (w := W) (a := ⟨g, i, none⟩) (hoth g hg)]
          exact e3.froz i
  · exact ⟨h1.trans h.mid.gr.os, h2.trans h.mid.gr.tape, h3.trans h.mid.gr.output, by rw [hs]; exact h.mid.gr.size, fun q hq hn => (hoth q (by omega)).trans (h.mid.gr.block q hq hn)⟩
theorem Lp2.put0 {z0 z1 z2 : Value} (h : Lp2 w9 wA W R c0 c1 ys v14 vs w0 pg n ho C de wi pr qu cy a0 a1 b0 b1 vd ve vl ps rb x0 x1 x2 x3 x4 x5) :
    Lp2 w9 wA (((W.setCell ⟨rb, 0, none⟩ z0).setCell ⟨rb, 1, none⟩ z1).setCell ⟨rb, 2, none⟩ z2) R c0 c1 ys v14 vs w0 pg n ho C de wi pr qu cy a0 a1 b0 b1 vd ve vl ps rb z0 z1 z2 x3 x4 x5 :=
  h.turn (by simp only [World.setCell, Array.getElem?_modify, if_true, h.res, Option.map_some]; rfl) (fun q hq => by rw [setCell_heap (Ne.symm hq), setCell_heap (Ne.symm hq), setCell_heap (Ne.symm hq)]) (by simp [World.setCell]) rfl rfl rfl
theorem Lp2.put1 {z0 z1 z2 : Value} (h : Lp2 w9 wA W R c0 c1 ys v14 vs w0 pg n ho C de wi pr qu cy a0 a1 b0 b1 vd ve vl ps rb x0 x1 x2 x3 x4 x5) :
    Lp2 w9 wA (((W.setCell ⟨rb, 3, none⟩ z0).setCell ⟨rb, 4, none⟩ z1).setCell ⟨rb, 5, none⟩ z2) R c0 c1 ys v14 vs w0 pg n ho C de wi pr qu cy a0 a1 b0 b1 vd ve vl ps rb x0 x1 x2 z0 z1 z2 :=
  h.turn (by simp only [World.setCell, Array.getElem?_modify, if_true, h.res, Option.map_some]; rfl) (fun q hq => by rw [setCell_heap (Ne.symm hq), setCell_heap (Ne.symm hq), setCell_heap (Ne.symm hq)]) (by simp [World.setCell]) rfl rfl rfl
theorem Lp2.tell0 (h : Lp2 w9 wA W R c0 c1 ys v14 vs w0 pg n ho C de wi pr qu cy a0 a1 b0 b1 vd ve vl ps rb x0 x1 x2 x3 x4 x5) (c : Nat) :
    Lp2 w9 wA (W.setCell ⟨w9.heap.size, 1, none⟩ (.int .u32 (c : Int))) R c c1 ys v14 vs w0 pg n ho C de wi pr qu cy a0 a1 b0 b1 vd ve vl ps rb x0 x1 x2 x3 x4 x5 :=
  ⟨h.mid.tell0 c, stat_set h.sta (by have := h.plo; omega) h.wlo, (setCell_heap (by have := h.rlo; have := h.sz; omega)).trans h.res, h.rlo, h.rs, h.rv, h.plo, h.wlo, h.sz⟩
theorem Lp2.tell1 (h : Lp2 w9 wA W R c0 c1 ys v14 vs w0 pg n ho C de wi pr qu cy a0 a1 b0 b1 vd ve vl ps rb x0 x1 x2 x3 x4 x5) (c : Nat) :
    Lp2 w9 wA (W.setCell ⟨w9.heap.size, 2, none⟩ (.int .u32 (c : Int))) R c0 c ys v14 vs w0 pg n ho C de wi pr qu cy a0 a1 b0 b1 vd ve vl ps rb x0 x1 x2 x3 x4 x5 :=
  ⟨h.mid.tell1 c, stat_set h.sta (by have := h.plo; omega) h.wlo, (setCell_heap (by have := h.rlo; have := h.sz; omega)).trans h.res, h.rlo, h.rs, h.rv, h.plo, h.wlo, h.sz⟩
end
end Go.Proofs.YtckoaeoecjphiaaGreat

/- round.Go: what its third loop goes by. -/
namespace Go.Proofs.YtckoaeoecjphiaaGreat
open Go.RowKit Go.Lib

def kC (x : Ck) : List Value := [.int .i64 x.m, .int .i64 x.b, .int .i64 x.r]
/-- The first k of the clocks f, flat. -/
def flatF (f : Nat → Ck) (k : Nat) : List Value := (List.range k).flatMap fun j => kC (f j)
theorem flatF_succ (f : Nat → Ck) (k : Nat) : flatF f (k + 1) = flatF f k ++ kC (f k) := by
  unfold flatF
  rw [List.range_succ, List.flatMap_append]
  simp
theorem flatF_len (f : Nat → Ck) (k : Nat) : (flatF f k).length = k * 3 := by
  induction k with
  | zero => rfl
  | succ k ih => rw [flatF_succ, List.length_append, ih]; show k * 3 + 3 = _; omega
theorem flatF_at (f : Nat → Ck) {k i c : Nat} (hi : i < k) (hc : c < 3) : (flatF f k)[i * 3 + c]? = (kC (f i))[c]? := by
  induction k with
  | zero => omega
  | succ k ih =>
    rw [flatF_succ]
    by_cases h : i = k
    · subst h
      rw [List.getElem?_append_right (by rw [flatF_len]; omega), flatF_len]
      congr 1
      omega
    · rw [List.getElem?_append_left (by rw [flatF_len]; omega)]
      exact ih (by omega)
/-- In the third loop: the clocks, f; of k hosts it is told by how much, how many frames, and what they are behind it. -/
structure Lp3 (wC W : World) (tb n : Nat) (ps : Nat → Nat) (vs vb vh va : Value) (c0 c1 : Nat) (f : Nat → Ck) (by_ : Nat → Int) (hrd : Nat → Nat) (aft : Nat → Ck) (k : Nat) : Prop where
  os : W.os = wC.os
  tape : W.tape = wC.tape
  output : W.output = wC.output
  size : wC.heap.size ≤ W.heap.size
  keep : ∀ q, q < wC.heap.size → q ≠ tb → (∀ j, j < n → q ≠ ps j) → W.heap[q]? = wC.heap[q]?
  clk : ∀ j, j < n → ClkC W (ps j) (f j)
  told : W.heap[tb]? = some (.cells #[vs, .int .u32 (c0 : Int), .int .u32 (c1 : Int), vb, vh, va] 38)
  rb : W.ownsRow wC.heap.size 2 1 vb k ((List.range k).map fun j => Value.int .i64 (by_ j))
  rh : W.ownsRow wC.heap.size 3 1 vh k ((List.range k).map fun j => Value.int .i64 (hrd j))
  ra : W.ownsRow wC.heap.size 54 3 va k (flatF aft k)
  a1 : ∀ q, vb.ownBlock = some q → vh.ownBlock ≠ some q
  a2 : ∀ q, vb.ownBlock = some q → va.ownBlock ≠ some q
  a3 : ∀ q, vh.ownBlock = some q → va.ownBlock ≠ some q
  tl : tb < wC.heap.size
  pl : ∀ j, j < n → ps j < wC.heap.size ∧ ps j ≠ tb
  pi : ∀ i j, i < j → j < n → ps i ≠ ps j
section
variable {wC W W' : World} {tb n : Nat} {ps : Nat → Nat} {vs vb vh va : Value} {c0 c1 : Nat} {f : Nat → Ck} {by_ : Nat → Int} {hrd : Nat → Nat} {aft : Nat → Ck} {k : Nat}
/-- All that was there is as it was. -/
theorem Lp3.below (h : Lp3 wC W tb n ps vs vb vh va c0 c1 f by_ hrd aft k) (g : Below W.heap.size W W') : Lp3 wC W' tb n ps vs vb vh va c0 c1 f by_ hrd aft k :=
  have hs := h.size
  { os := g.os.trans h.os
    tape := g.tape.trans h.tape
    output := g.output.trans h.output
    size := Nat.le_trans h.size g.size
    keep := fun q hq h1 h2 => (g.block q (by omega)).trans (h.keep q hq h1 h2)
    clk := fun j hj => (g.block _ (h.clk j hj).lt).trans (h.clk j hj)
    told := (g.block _ (lt_of_block h.told)).trans h.told
    rb := own_as h.rb (fun q hq => g.block q (h.rb.lt q hq).2)
    rh := own_as h.rh (fun q hq => g.block q (h.rh.lt q hq).2)
    ra := own_as h.ra (fun q hq => g.block q (h.ra.lt q hq).2)
    a1 := h.a1, a2 := h.a2, a3 := h.a3, tl := h.tl, pl := h.pl, pi := h.pi }
theorem Lp3.grown (h : Lp3 wC W tb n ps vs vb vh va c0 c1 f by_ hrd aft k) (g : W.grownBy W' none) : Lp3 wC W' tb n ps vs vb vh va c0 c1 f by_ hrd aft k := h.below (gr_below g (Nat.le_refl _) (by simp))
/-- A clock has been set. -/
theorem Lp3.set {j0 : Nat} {k' : Ck} (h : Lp3 wC W tb n ps vs vb vh va c0 c1 f by_ hrd aft k) (hj : j0 < n) (hc : ClkC W' (ps j0) k') (g : W.grownBy W' (some (ps j0))) :
    Lp3 wC W' tb n ps vs vb vh va c0 c1 (fun j => if j = j0 then k' else f j) by_ hrd aft k :=
  have hs := h.size
  have hp := h.pl j0 hj
  { os := g.os.trans h.os
    tape := g.tape.trans h.tape
    output := g.output.trans h.output
    size := Nat.le_trans h.size g.size
    keep := fun q hq h1 h2 => (g.block q (by omega) (by have := h2 j0 hj; simp; omega)).trans (h.keep q hq h1 h2)
    clk := fun j hj' => by
      by_cases e : j = j0
      · subst e
        rw [if_pos rfl]
        exact hc
      · rw [if_neg e]
        refine (h.clk j hj').kept g ?_
        have : ps j ≠ ps j0 := by
          rcases Nat.lt_or_ge j j0 with hlt | hge
          · exact h.pi j j0 hlt hj
          · exact fun e2 => h.pi j0 j (by omega) hj' e2.symm
        simpa using this
    told := gr_heap g h.told (by have := hp.2; simp; omega)
    rb := own_as h.rb (fun q hq => g.block q (h.rb.lt q hq).2 (by have := (h.rb.lt q hq).1; simp; omega))
    rh := own_as h.rh (fun q hq => g.block q (h.rh.lt q hq).2 (by have := (h.rh.lt q hq).1; simp; omega))
    ra := own_as h.ra (fun q hq => g.block q (h.ra.lt q hq).2 (by have := (h.ra.lt q hq).1; simp; omega))
    a1 := h.a1, a2 := h.a2, a3 := h.a3, tl := h.tl, pl := h.pl, pi := h.pi }
/-- What does not turn is read as it was. -/
theorem Lp3.free (h : Lp3 wC W tb n ps vs vb vh va c0 c1 f by_ hrd aft k) {q : Nat} {o : Obj} (hq : wC.heap[q]? = some o) (h1 : q ≠ tb) (h2 : ∀ j, j < n → q ≠ ps j) : W.heap[q]? = some o :=
  (h.keep q (Array.getElem?_eq_some_iff.1 hq).1 h1 h2).trans hq
end
end Go.Proofs.YtckoaeoecjphiaaGreat

/- round.Go: three appends in one statement, in whatever order their elements are built. -/
namespace Go.Proofs.YtckoaeoecjphiaaGreat
open Go.RowKit Go.Lib

/-- While the three rows grow: the rows, what has been built (K), and all that was there at Wb. -/
structure A3 (Wb W : World) (base : Nat) (K : List (Nat × Obj)) (vb vh va : Value) (nb nh na : Nat) (xb xh xa : List Value) : Prop where
  rb : W.ownsRow base 2 1 vb nb xb
  rh : W.ownsRow base 3 1 vh nh xh
  ra : W.ownsRow base 54 3 va na xa
  a1 : ∀ q, vb.ownBlock = some q → vh.ownBlock ≠ some q
  a2 : ∀ q, vb.ownBlock = some q → va.ownBlock ≠ some q
  a3 : ∀ q, vh.ownBlock = some q → va.ownBlock ≠ some q
  kn : ∀ p ∈ K, W.heap[p.1]? = some p.2 ∧ vb.ownBlock ≠ some p.1 ∧ vh.ownBlock ≠ some p.1 ∧ va.ownBlock ≠ some p.1
  os : W.os = Wb.os
  tape : W.tape = Wb.tape
  output : W.output = Wb.output
  size : Wb.heap.size ≤ W.heap.size
  old : ∀ q, q < base → W.heap[q]? = Wb.heap[q]?
  bs : base ≤ Wb.heap.size
section
variable {Wb W W' : World} {base : Nat} {K : List (Nat × Obj)} {vb vh va : Value} {nb nh na : Nat} {xb xh xa : List Value}
theorem A3.build (h : A3 Wb W base K vb vh va nb nh na xb xh xa) (o : Obj) : A3 Wb (W.alloc o) base ((W.heap.size, o) :: K) vb vh va nb nh na xb xh xa :=
  have g := gr_alloc (gr_refl W none) o
  have hs := h.size
  have hb := h.bs
  { rb := h.rb.alloc o, rh := h.rh.alloc o, ra := h.ra.alloc o, a1 := h.a1, a2 := h.a2, a3 := h.a3
    kn := fun p hp => by
      rcases List.mem_cons.1 hp with rfl | hp
      · exact ⟨heap_alloc_new W o, fun e => by have := (h.rb.lt _ e).2; dsimp only at this; omega, fun e => by have := (h.rh.lt _ e).2; dsimp only at this; omega, fun e => by have := (h.ra.lt _ e).2; dsimp only at this; omega⟩
      · obtain ⟨h1, h2⟩ := h.kn p hp
        exact ⟨gr_heap g h1 (by simp), h2⟩
    os := g.os.trans h.os
    tape := g.tape.trans h.tape
    output := g.output.trans h.output
    size := Nat.le_trans h.size g.size
    old := fun q hq => (g.block q (by omega) (by simp)).trans (h.old q hq)
    bs := h.bs }
theorem A3.drew (h : A3 Wb W base K vb vh va nb nh na xb xh xa) : A3 Wb W.drew base K vb vh va nb nh na xb xh xa :=
  { rb := h.rb.kept (gr_drew (gr_refl W none)) ob_none, rh := h.rh.kept (gr_drew (gr_refl W none)) ob_none, ra := h.ra.kept (gr_drew (gr_refl W none)) ob_none, a1 := h.a1, a2 := h.a2, a3 := h.a3
    kn := h.kn, os := h.os, tape := h.tape, output := h.output, size := h.size, old := h.old, bs := h.bs }
theorem row_far {w w' : World} {e size n : Nat} {v v0 : Value} {xs : List Value} (h : w.ownsRow base e size v n xs) (g : w.grownBy w' v0.ownBlock) (ha : ∀ q, v.ownBlock = some q → v0.ownBlock ≠ some q) : w'.ownsRow base e size v n xs := by
  refine h.kept g ?_
  cases e : v.ownBlock with
  | none => exact .inl rfl
  | some q => exact .inr (fun e2 => ha q e e2.symm)
/-- Where the new block of a row lies, and that it is no other's. -/
theorem new_far {w : World} {e size n : Nat} {v v0 v4 : Value} {xs : List Value} (h : w.ownsRow base e size v n xs) (hat : v4.ownBlock = v0.ownBlock ∨ v4.ownBlock = some w.heap.size) (ha : ∀ q, v0.ownBlock = some q → v.ownBlock ≠ some q) : ∀ q, v4.ownBlock = some q → v.ownBlock ≠ some q := by
  intro q hq e
  rcases hat with h2 | h2
  · rw [h2] at hq; exact ha q hq e
  · rw [h2] at hq
    have := (h.lt q e).2
    cases hq
    omega
theorem kn_far {w w' : World} {v0 v4 : Value} {q : Nat} {o : Obj} (h1 : w.heap[q]? = some o) (h2 : v0.ownBlock ≠ some q) (g : w.grownBy w' v0.ownBlock) (hat : v4.ownBlock = v0.ownBlock ∨ v4.ownBlock = some w.heap.size) : w'.heap[q]? = some o ∧ v4.ownBlock ≠ some q := by
  refine ⟨gr_heap g h1 (fun e => h2 e.symm), fun e => ?_⟩
  rcases hat with h3 | h3
  · exact h2 (h3 ▸ e)
  · rw [h3] at e
    have := lt_of_block h1
    cases e
    omega
theorem A3.appb {v4 : Value} {ys : List Value} {n4 : Nat} (h : A3 Wb W base K vb vh va nb nh na xb xh xa) (hown : W'.ownsRow base 2 1 v4 n4 ys) (g : W.grownBy W' vb.ownBlock) (hat : v4.ownBlock = vb.ownBlock ∨ v4.ownBlock = some W.heap.size) : A3 Wb W' base K v4 vh va n4 nh na ys xh xa :=
  have hs := h.size
  have hb := h.bs
  { rb := hown, rh := row_far h.rh g (fun q hq e => h.a1 q e hq), ra := row_far h.ra g (fun q hq e => h.a2 q e hq)
    a1 := new_far h.rh hat h.a1, a2 := new_far h.ra hat h.a2, a3 := h.a3
    kn := fun p hp => by
      obtain ⟨h1, h2, h3, h4⟩ := h.kn p hp
      obtain ⟨k1, k2⟩ := kn_far h1 h2 g hat
      exact ⟨k1, k2, h3, h4⟩
    os := g.os.trans h.os, tape := g.tape.trans h.tape, output := g.output.trans h.output, size := Nat.le_trans h.size g.size
    old := fun q hq => (g.block q (by omega) (fun e => by have := (h.rb.lt q e.symm).1; omega)).trans (h.old q hq)
    bs := h.bs }
theorem A3.apph {v4 : Value} {ys : List Value} {n4 : Nat} (h : A3 Wb W base K vb vh va nb nh na xb xh xa) (hown : W'.ownsRow base 3 1 v4 n4 ys) (g : W.grownBy W' vh.ownBlock) (hat : v4.ownBlock = vh.ownBlock ∨ v4.ownBlock = some W.heap.size) : A3 Wb W' base K vb v4 va nb n4 na xb ys xa :=
  have hs := h.size
  have hb := h.bs
  { rb := row_far h.rb g h.a1, rh := hown, ra := row_far h.ra g (fun q hq e => h.a3 q e hq)
    a1 := fun q hq e => new_far h.rb hat (fun q hq e => h.a1 q e hq) q e hq, a2 := h.a2, a3 := new_far h.ra hat h.a3
    kn := fun p hp => by
      obtain ⟨h1, h2, h3, h4⟩ := h.kn p hp
      obtain ⟨k1, k2⟩ := kn_far h1 h3 g hat
      exact ⟨k1, h2, k2, h4⟩
    os := g.os.trans h.os, tape := g.tape.trans h.tape, output := g.output.trans h.output, size := Nat.le_trans h.size g.size
    old := fun q hq => (g.block q (by omega) (fun e => by have := (h.rh.lt q e.symm).1; omega)).trans (h.old q hq)
    bs := h.bs }
theorem A3.appa {v4 : Value} {ys : List Value} {n4 : Nat} (h : A3 Wb W base K vb vh va nb nh na xb xh xa) (hown : W'.ownsRow base 54 3 v4 n4 ys) (g : W.grownBy W' va.ownBlock) (hat : v4.ownBlock = va.ownBlock ∨ v4.ownBlock = some W.heap.size) : A3 Wb W' base K vb vh v4 nb nh n4 xb xh ys :=
  have hs := h.size
  have hb := h.bs
  { rb := row_far h.rb g h.a2, rh := row_far h.rh g h.a3, ra := hown
    a1 := h.a1, a2 := fun q hq e => new_far h.rb hat (fun q hq e => h.a2 q e hq) q e hq, a3 := fun q hq e => new_far h.rh hat (fun q hq e => h.a3 q e hq) q e hq
    kn := fun p hp => by
      obtain ⟨h1, h2, h3, h4⟩ := h.kn p hp
      obtain ⟨k1, k2⟩ := kn_far h1 h4 g hat
      exact ⟨k1, h2, h3, k2⟩
    os := g.os.trans h.os, tape := g.tape.trans h.tape, output := g.output.trans h.output, size := Nat.le_trans h.size g.size
    old := fun q hq => (g.block q (by omega) (fun e => by have := (h.ra.lt q e.symm).1; omega)).trans (h.old q hq)
    bs := h.bs }
end
end Go.Proofs.YtckoaeoecjphiaaGreat

/- round.Go: three appends in one statement: the steps; what is told. -/
namespace Go.Proofs.YtckoaeoecjphiaaGreat
open Go.RowKit Go.Lib

theorem Tryz.info_st : (Tryz.prog.info? 54).map (fun i => (i.zero, i.size, i.bytes)) = some (some (.agg #[.int .i64 0, .int .i64 0, .int .i64 0]), 3, 24) := by kernel_rfl
theorem lies_news {w : World} {g : Nat} {cs : List Value} {t : TypeId} (h : w.heap[g]? = some (.cells cs.toArray t)) : ∀ (j : Nat) (u : Value), cs[j]? = some u → w.cell? ((⟨g, 0, none⟩ : Addr).add j) = some u := by
  intro j u hu
  have e : (⟨g, 0, none⟩ : Addr).add j = ⟨g, j, none⟩ := by unfold Addr.add; split <;> simp_all
  rw [e]
  exact hcell h j u (by simpa using hu)
section
variable {Wb w : World} {base : Nat} {Kn : List (Nat × Obj)} {vb vh va : Value} {nb nh na : Nat} {xb xh xa : List Value} {ops : Array Oper} {o : Oper} {a : Act} {K' : Act → World → Prop} {Q : Exit → Act → World → Prop} {E : Prop}
theorem step_b (hgd : o.guard = none) (s x : Operand) (ho : o.op = .call { callee := .builtin .append, args := #[s, x], argTypes := #[35, 35] }) (y : Int) (g : Nat) (hs : a.eval s = vb) (hx : a.eval x = .slice (some ⟨g, 0, none⟩) 1 1)
    (hA : A3 Wb w base Kn vb vh va nb nh na xb xh xa) (hm : (g, Obj.cells #[.int .i64 y] 2) ∈ Kn) (hn : nb ≤ 100)
    (h : ∀ gg cap w', A3 Wb w' base Kn (.slice (some ⟨gg, 0, none⟩) (nb + 1) cap) vh va (nb + 1) nh na (xb ++ [.int .i64 y]) xh xa → K' (a.put o.dst (.slice (some ⟨gg, 0, none⟩) (nb + 1) cap)) w') :
    if Region.wanted o (yielded ops a.tmps) = true then Oper.wp Tryz.prog o a w K' Q else E := by
  obtain ⟨i0, hi, hz0, hz1, hz2⟩ := info_parts Tryz.info_i64
  refine step_append_at hgd s x 35 ho base 2 i0 (.int .i64 0) 1 8 Tryz.underlying35 hi hz0 hz1 hz2 rfl (by decide) vb nb xb hs hA.rb ⟨g, 0, none⟩ 1 1 [.int .i64 y] hx rfl (lies_news (hA.kn _ hm).1) (by simp [Value.oneCell']) (by unfold maxLen; omega) (by omega) (Nat.le_trans hA.bs hA.size) ?_
  intro v' w' hown hg hat
  obtain ⟨gg, cap, rfl⟩ := own_slice hown
  exact h gg cap w' (hA.appb hown hg hat)
theorem step_h (hgd : o.guard = none) (s x : Operand) (ho : o.op = .call { callee := .builtin .append, args := #[s, x], argTypes := #[36, 36] }) (y : Int) (g : Nat) (hs : a.eval s = vh) (hx : a.eval x = .slice (some ⟨g, 0, none⟩) 1 1)
    (hA : A3 Wb w base Kn vb vh va nb nh na xb xh xa) (hm : (g, Obj.cells #[.int .i64 y] 3) ∈ Kn) (hn : nh ≤ 100)
    (h : ∀ gg cap w', A3 Wb w' base Kn vb (.slice (some ⟨gg, 0, none⟩) (nh + 1) cap) va nb (nh + 1) na xb (xh ++ [.int .i64 y]) xa → K' (a.put o.dst (.slice (some ⟨gg, 0, none⟩) (nh + 1) cap)) w') :
    if Region.wanted o (yielded ops a.tmps) = true then Oper.wp Tryz.prog o a w K' Q else E := by
  obtain ⟨i0, hi, hz0, hz1, hz2⟩ := info_parts Tryz.info_int
  refine step_append_at hgd s x 36 ho base 3 i0 (.int .i64 0) 1 8 Tryz.underlying36 hi hz0 hz1 hz2 rfl (by decide) vh nh xh hs hA.rh ⟨g, 0, none⟩ 1 1 [.int .i64 y] hx rfl (lies_news (hA.kn _ hm).1) (by simp [Value.oneCell']) (by unfold maxLen; omega) (by omega) (Nat.le_trans hA.bs hA.size) ?_
  intro v' w' hown hg hat
  obtain ⟨gg, cap, rfl⟩ := own_slice hown
  exact h gg cap w' (hA.apph hown hg hat)
theorem step_a (hgd : o.guard = none) (s x : Operand) (ho : o.op = .call { callee := .builtin .append, args := #[s, x], argTypes := #[27, 27] }) (y0 y1 y2 : Int) (g : Nat) (hs : a.eval s = va) (hx : a.eval x = .slice (some ⟨g, 0, none⟩) 1 1)
    (hA : A3 Wb w base Kn vb vh va nb nh na xb xh xa) (hm : (g, Obj.cells #[.int .i64 y0, .int .i64 y1, .int .i64 y2] 54) ∈ Kn) (hn : na ≤ 100)
    (h : ∀ gg cap w', A3 Wb w' base Kn vb vh (.slice (some ⟨gg, 0, none⟩) (na + 1) cap) nb nh (na + 1) xb xh (xa ++ [.int .i64 y0, .int .i64 y1, .int .i64 y2]) → K' (a.put o.dst (.slice (some ⟨gg, 0, none⟩) (na + 1) cap)) w') :
    if Region.wanted o (yielded ops a.tmps) = true then Oper.wp Tryz.prog o a w K' Q else E := by
  obtain ⟨i0, hi, hz0, hz1, hz2⟩ := info_parts Tryz.info_st
  refine step_append_at hgd s x 27 ho base 54 i0 (.agg #[.int .i64 0, .int .i64 0, .int .i64 0]) 3 24 Tryz.underlying27 hi hz0 hz1 hz2 rfl (by decide) va na xa hs hA.ra ⟨g, 0, none⟩ 1 1 [.int .i64 y0, .int .i64 y1, .int .i64 y2] hx rfl (lies_news (hA.kn _ hm).1) (by simp [Value.oneCell']) (by unfold maxLen; omega) (by omega) (Nat.le_trans hA.bs hA.size) ?_
  intro v' w' hown hg hat
  obtain ⟨gg, cap, rfl⟩ := own_slice hown
  exact h gg cap w' (hA.appa hown hg hat)
end
section
variable {wC W W6 : World} {tb n : Nat} {ps : Nat → Nat} {vs vb vh va ub uh ua : Value} {c0 c1 : Nat} {f : Nat → Ck} {by_ : Nat → Int} {hrd : Nat → Nat} {aft : Nat → Ck} {k : Nat} {Kn : List (Nat × Obj)}
/-- Where the appends begin. -/
theorem Lp3.a3_ (h : Lp3 wC W tb n ps vs vb vh va c0 c1 f by_ hrd aft k) : A3 W W wC.heap.size [] vb vh va k k k ((List.range k).map fun j => Value.int .i64 (by_ j)) ((List.range k).map fun j => Value.int .i64 (hrd j)) (flatF aft k) :=
  { rb := h.rb, rh := h.rh, ra := h.ra, a1 := h.a1, a2 := h.a2, a3 := h.a3, kn := fun p hp => by cases hp
    os := rfl, tape := rfl, output := rfl, size := Nat.le_refl _, old := fun _ _ => rfl, bs := h.size }
theorem set3_heap {w : World} {g : Nat} {a b c x y z u v t' : Value} {t : TypeId} (h : w.heap[g]? = some (.cells #[a, b, c, x, y, z] t)) : (((w.setCell ⟨g, 3, none⟩ u).setCell ⟨g, 4, none⟩ v).setCell ⟨g, 5, none⟩ t').heap[g]? = some (.cells #[a, b, c, u, v, t'] t) := by
  simp only [World.setCell, Array.getElem?_modify, if_true, h, Option.map_some]
  rfl
/-- One host more has been told. -/
theorem Lp3.tell (h : Lp3 wC W tb n ps vs vb vh va c0 c1 f by_ hrd aft k)
    (hA : A3 W W6 wC.heap.size Kn ub uh ua (k + 1) (k + 1) (k + 1) (((List.range k).map fun j => Value.int .i64 (by_ j)) ++ [.int .i64 (by_ k)]) (((List.range k).map fun j => Value.int .i64 (hrd j)) ++ [.int .i64 (hrd k)]) (flatF aft k ++ kC (aft k))) :
    Lp3 wC (((W6.setCell ⟨tb, 3, none⟩ ub).setCell ⟨tb, 4, none⟩ uh).setCell ⟨tb, 5, none⟩ ua) tb n ps vs ub uh ua c0 c1 f by_ hrd aft (k + 1) :=
  have ht := h.tl
  have nb : ub.ownBlock ≠ some tb := fun e => by have := (hA.rb.lt tb e).1; omega
  have nh : uh.ownBlock ≠ some tb := fun e => by have := (hA.rh.lt tb e).1; omega
  have na : ua.ownBlock ≠ some tb := fun e => by have := (hA.ra.lt tb e).1; omega
  have hoth : ∀ q, tb ≠ q → (((W6.setCell ⟨tb, 3, none⟩ ub).setCell ⟨tb, 4, none⟩ uh).setCell ⟨tb, 5, none⟩ ua).heap[q]? = W6.heap[q]? := fun q hq => by rw [setCell_heap hq, setCell_heap hq, setCell_heap hq]
  { os := hA.os.trans h.os
    tape := hA.tape.trans h.tape
    output := hA.output.trans h.output
    size := by have := hA.size; have := h.size; simp [World.setCell]; omega
    keep := fun q hq h1 h2 => ((hoth q (Ne.symm h1)).trans (hA.old q hq)).trans (h.keep q hq h1 h2)
    clk := fun j hj => ((hoth _ (Ne.symm (h.pl j hj).2)).trans (hA.old _ (h.pl j hj).1)).trans (h.clk j hj)
    told := set3_heap ((hA.old _ h.tl).trans h.told)
    rb := by
      rw [List.range_succ, List.map_append]
      exact own_as hA.rb (fun q hq => hoth q (fun e => nb (e ▸ hq)))
    rh := by
      rw [List.range_succ, List.map_append]
      exact own_as hA.rh (fun q hq => hoth q (fun e => nh (e ▸ hq)))
    ra := by
      rw [flatF_succ]
      exact own_as hA.ra (fun q hq => hoth q (fun e => na (e ▸ hq)))
    a1 := hA.a1, a2 := hA.a2, a3 := hA.a3, tl := h.tl, pl := h.pl, pi := h.pi }
end
end Go.Proofs.YtckoaeoecjphiaaGreat
