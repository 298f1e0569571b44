/- Lemmas: What a script of a compression goes by: the collection and the document's list. round.collect: what a switch makes of the hosts' frames. round.collect, walked. round.collect, walked. -/
import Derived.Test.YtckoaeoecjphiaaGreatK33
import Derived.Test.YtckoaeoecjphiaaGreatK21
import Derived.Test.YtckoaeoecjphiaaGreatK22
import Derived.Test.YtckoaeoecjphiaaGreatK23
import Derived.Test.YtckoaeoecjphiaaGreatK24

/- What a script of a compression goes by: the collection and the document's list. -/
namespace Go.Proofs.YtckoaeoecjphiaaGreat
open Go.RowKit Go.Shelf Go.Sort Go.Lib

def freeN (c : Nat) : Nat := (if hasB c 0 = true then 0 else 1) + (if hasB c 1 = true then 0 else 1) + (if hasB c 2 = true then 0 else 1) + (if hasB c 3 = true then 0 else 1) + (if hasB c 4 = true then 0 else 1) + (if hasB c 5 = true then 0 else 1)
theorem bit_new : ∀ (c : Fin 64) (h : Fin 6), hasB c.val h.val = false → c.val + 2 ^ h.val < 64 ∧ freeN (c.val + 2 ^ h.val) + 1 = freeN c.val ∧ ∀ j : Fin 6, hasB (c.val + 2 ^ h.val) j.val = (hasB c.val j.val || decide (j.val = h.val)) := of_decide_eq_true (by kernel_rfl)
theorem bit_one : ∀ (h : Fin 6), 2 ^ h.val < 64 ∧ freeN (2 ^ h.val) = 5 ∧ ∀ j : Fin 6, hasB (2 ^ h.val) j.val = decide (j.val = h.val) := of_decide_eq_true (by kernel_rfl)
theorem bit_sum : ∀ (c : Fin 64), c.val = (if hasB c.val 0 = true then 1 else 0) + (if hasB c.val 1 = true then 2 else 0) + (if hasB c.val 2 = true then 4 else 0) + (if hasB c.val 3 = true then 8 else 0) + (if hasB c.val 4 = true then 16 else 0) + (if hasB c.val 5 = true then 32 else 0) := of_decide_eq_true (by kernel_rfl)
/-- The crew is that of the list. -/
structure Crew (ls : List CI) (cm : Nat) : Prop where
  lt : cm < 64
  free : ls.length + freeN cm = 6
  has : ∀ j, j < 6 → (hasB cm j = true ↔ ∃ i, i < ls.length ∧ (cith ls i).h = j)
theorem Crew.len {ls : List CI} {cm : Nat} (h : Crew ls cm) : ls.length ≤ 6 := by have := h.free; omega
theorem cith_last (ls : List CI) (x : CI) : cith (ls ++ [x]) ls.length = x := by simp [cith]
theorem cith_lt {ls : List CI} (x : CI) {i : Nat} (h : i < ls.length) : cith (ls ++ [x]) i = cith ls i := by unfold cith; rw [List.getElem?_append_left h]
theorem Crew.one (x : CI) (h : x.h < 6) : Crew [x] (2 ^ x.h) := by
  obtain ⟨h1, h2, h3⟩ := bit_one ⟨x.h, h⟩
  refine ⟨h1, by simp only [List.length_singleton]; simp only at h2; omega, fun j hj => ?_⟩
  rw [h3 ⟨j, hj⟩]
  simp only [decide_eq_true_eq, List.length_singleton]
  constructor
  · rintro rfl; exact ⟨0, by omega, rfl⟩
  · rintro ⟨i, hi, e⟩
    obtain rfl : i = 0 := by omega
    exact e.symm
theorem Crew.add {ls : List CI} {cm : Nat} (hC : Crew ls cm) (x : CI) (h : x.h < 6) (hno : hasB cm x.h = false) : Crew (ls ++ [x]) (cm + 2 ^ x.h) := by
  obtain ⟨h1, h2, h3⟩ := bit_new ⟨cm, hC.lt⟩ ⟨x.h, h⟩ hno
  refine ⟨h1, by have := hC.free; simp only [List.length_append, List.length_singleton]; simp only at h2; omega, fun j hj => ?_⟩
  rw [h3 ⟨j, hj⟩]
  simp only [Bool.or_eq_true, decide_eq_true_eq]
  rw [hC.has j hj]
  constructor
  · rintro (⟨i, hi, e⟩ | rfl)
    · exact ⟨i, by simp; omega, by rw [cith_lt x hi]; exact e⟩
    · exact ⟨ls.length, by simp, by rw [cith_last]⟩
  · rintro ⟨i, hi, e⟩
    rcases Nat.lt_or_ge i ls.length with h9 | h9
    · left; exact ⟨i, h9, by rw [cith_lt x h9] at e; exact e⟩
    · right
      have : i = ls.length := by simp at hi; omega
      subst this
      rw [cith_last] at e
      exact e.symm
theorem mem_hsK {ls : List CI} {j : Nat} : (j : Int) ∈ hsK ls ↔ ∃ i, i < ls.length ∧ (cith ls i).h = j := by
  unfold hsK
  rw [List.mem_map]
  constructor
  · rintro ⟨x, hx, e⟩
    obtain ⟨i, hi, e2⟩ := List.getElem_of_mem hx
    refine ⟨i, hi, ?_⟩
    have : cith ls i = x := by simp [cith, hi, e2]
    rw [this]
    omega
  · rintro ⟨i, hi, e⟩
    refine ⟨ls[i], List.getElem_mem hi, ?_⟩
    have : cith ls i = ls[i] := by simp [cith, hi]
    rw [this] at e
    omega
theorem Crew.sum {ls : List CI} {cm : Nat} (hC : Crew ls cm) : crewTo (hsK ls) 6 = (cm : Int) := by
  have key : ∀ j : Nat, j < 6 → ((j : Int) ∈ hsK ls ↔ hasB cm j = true) := fun j hj => mem_hsK.trans (hC.has j hj).symm
  have h := bit_sum ⟨cm, hC.lt⟩
  simp only at h
  have k0 := key 0 (by omega)
  have k1 := key 1 (by omega)
  have k2 := key 2 (by omega)
  have k3 := key 3 (by omega)
  have k4 := key 4 (by omega)
  have k5 := key 5 (by omega)
  simp only [crewTo]
  simp only [k0, k1, k2, k3, k4, k5]
  have e : ∀ (p : Prop) [Decidable p] (a : Nat), (if p then (a : Int) else 0) = ((if p then a else 0 : Nat) : Int) := fun p _ a => by split <;> rfl
  simp only [e]
  have p0 : 2 ^ 0 = 1 := rfl
  have p1 : 2 ^ 1 = 2 := rfl
  have p2 : 2 ^ 2 = 4 := rfl
  have p3 : 2 ^ 3 = 8 := rfl
  have p4 : 2 ^ 4 = 16 := rfl
  have p5 : 2 ^ 5 = 32 := rfl
  rw [p0, p1, p2, p3, p4, p5]
  omega

theorem Coll.weaken {P Q : Nat → Prop} {W : World} {base b : Nat} {win first : Int} {rs cs : List Int} {cm : Nat} (h : Coll Q W base b win first rs cs cm) (hpq : ∀ q, P q → Q q) : Coll P W base b win first rs cs cm := by
  obtain ⟨vr, vc, h1, h2, h3, h4, h5, h6, h7, h8⟩ := h.ex
  exact ⟨vr, vc, h1, h2, h3, h4, h5, h6, h7, fun q hq => h8 q (hpq q hq)⟩
/-- A block that is new besides. -/
theorem Coll.more {P : Nat → Prop} {w W : World} {base b k : Nat} {win first : Int} {rs cs : List Int} {cm : Nat} (h : Coll P w base b win first rs cs cm) (g : w.grownBy W none) (h0 : w.heap.size ≤ k) (h1 : k < W.heap.size) : Coll (fun q => P q ∨ q = k) W base b win first rs cs cm := by
  obtain ⟨vr, vc, hc, hr, hc', n1, n2, ap, bb, hP⟩ := h.ex
  refine ⟨vr, vc, hc.kept g (by simp), hr.kept g (Classical.em _), hc'.kept g (Classical.em _), n1, n2, ap, bb, ?_⟩
  rintro q (hq | rfl)
  · exact ⟨Nat.lt_of_lt_of_le (hP q hq).1 g.size, (hP q hq).2⟩
  · exact ⟨h1, by have := hc.lt; omega, fun e => by have := (hr.lt _ e).2; omega, fun e => by have := (hc'.lt _ e).2; omega⟩
/-- The document's list has been laid into. -/
theorem Coll.laid {w W : World} {base b kb : Nat} {v v2 : Value} {ls' : List CI} {win first : Int} {rs cs : List Int} {cm : Nat} (h : Coll (fun q => v.ownBlock = some q) w base b win first rs cs cm) (hL : LaidK w W kb v v2 ls') :
    Coll (fun q => v2.ownBlock = some q) W base b win first rs cs cm := by
  obtain ⟨vr, vc, hc, hr, hc', n1, n2, ap, bb, hP⟩ := h.ex
  obtain ⟨hK, w4, o, g4, g6, hat⟩ := hL
  have keep : ∀ q, q < w.heap.size → v.ownBlock ≠ some q → W.heap[q]? = w.heap[q]? := fun q hq hv => by
    have h1 := g4.size
    rw [g6.block q (by simp; omega) (fun e => hv e.symm), (World.grownBy_alloc w4 o none).block q (by omega) (by simp)]
    exact g4.block q hq (by simp)
  refine ⟨vr, vc, ?_, osame hr fun q hq => keep q (hr.lt q hq).2 fun e => (hP q e).2.2.1 hq, osame hc' fun q hq => keep q (hc'.lt q hq).2 fun e => (hP q e).2.2.2 hq, n1, n2, ap, bb, ?_⟩
  · have h2 := keep b hc.lt fun e => (hP b e).2.1 rfl
    unfold Cmp at hc ⊢
    rw [h2]
    exact hc
  · intro q hq
    have h3 := (hK.lt q hq).2
    rcases hat with h4 | h4
    · rw [h4] at hq
      exact ⟨h3, (hP q hq).2⟩
    · rw [h4] at hq
      have h5 : (w4.alloc o).heap.size = w4.heap.size + 1 := by simp
      injection hq with h6
      have h7 := g4.size
      exact ⟨h3, by have := hc.lt; omega, fun e => by have := (hr.lt _ e).2; omega, fun e => by have := (hc'.lt _ e).2; omega⟩
end Go.Proofs.YtckoaeoecjphiaaGreat

/- round.collect: what a switch makes of the hosts' frames. -/
namespace Go.Proofs.YtckoaeoecjphiaaGreat
open Go.RowKit Go.Lib

theorem most_same (cy : Int) {l : List Int} (h : l ≠ []) (hl : ∀ x ∈ l, x = cy) : mostL l = cy := by
  obtain ⟨x, hx⟩ := List.exists_mem_of_ne_nil l h
  have e := hl x hx
  subst e
  exact most_unique hx (fun y hy => by rw [hl y hy]; exact .inr ⟨rfl, Int.le_refl _⟩)
/-- One more frame, if it is not lost and is taken. -/
def takeS (de wi : Int) (lost : Nat) (L : List Sd) (x : Sd) : List Sd :=
  if hasN lost x.h = true then L
  else if 1125899906842624 < x.t + de then L
  else match L with
    | [] => [x]
    | y :: r => if x.t ≤ y.t + wi then (y :: r) ++ [x] else y :: r
def cameS (de wi : Int) (lost : Nat) (xs : List Sd) : List Sd := xs.foldl (takeS de wi lost) []
def crewS (L : List Sd) : Nat := L.foldl (fun c x => c + 2 ^ x.h) 0
def headT (L : List Sd) : Int := (nthS L 0).t
def pointS (de : Int) (L : List Sd) : Int := if L = [] then 0 else headT L + de + tolL (L.map fun x => x.t - headT L)
def cycS (cy : Int) (L : List Sd) : Int := if L = [] then 0 else cy
theorem crewS_snoc (L : List Sd) (x : Sd) : crewS (L ++ [x]) = crewS L + 2 ^ x.h := by unfold crewS; rw [List.foldl_append]; rfl
theorem cameS_snoc (de wi : Int) (lost : Nat) (xs : List Sd) (x : Sd) : cameS de wi lost (xs ++ [x]) = takeS de wi lost (cameS de wi lost xs) x := by unfold cameS; rw [List.foldl_append]; rfl
/-- Those that came are of those that sent, in their order. -/
theorem takeS_sub (de wi : Int) (lost : Nat) (L : List Sd) (x : Sd) : takeS de wi lost L x = L ∨ takeS de wi lost L x = L ++ [x] := by
  unfold takeS
  split
  · exact .inl rfl
  · split
    · exact .inl rfl
    · cases L with
      | nil => exact .inr rfl
      | cons y r =>
        dsimp only
        split
        · exact .inr rfl
        · exact .inl rfl
theorem nthS_get {xs : List Sd} {k : Nat} (h : k < xs.length) : nthS xs k = xs[k] := by simp [nthS, h]
theorem take_snocS {xs : List Sd} {k : Nat} (h : k < xs.length) : xs.take (k + 1) = xs.take k ++ [nthS xs k] := by
  rw [nthS_get h, List.take_add_one, List.getElem?_eq_getElem h]
  rfl
/-- A frame as it comes to the collection. -/
def ciS (de cy cl : Int) (x : Sd) : CI := ⟨x.t + de, x.h, cy, 0, cl⟩
/-- What is known of those that came. -/
structure CameOk (de wi : Int) (ys L : List Sd) : Prop where
  sub : L.Sublist ys
  win : ∀ y ∈ L, headT L ≤ y.t ∧ y.t ≤ headT L + wi
  hi : ∀ y ∈ L, y.t + de ≤ 1125899906842624
theorem headT_snoc {L : List Sd} (x : Sd) (h : L ≠ []) : headT (L ++ [x]) = headT L := by
  cases L with
  | nil => exact absurd rfl h
  | cons y r => rfl
theorem CameOk.step {de wi : Int} {lost : Nat} {ys L : List Sd} {x : Sd} (h : CameOk de wi ys L) (hs : ∀ y ∈ ys, y.t ≤ x.t) (hw : 0 ≤ wi) : CameOk de wi (ys ++ [x]) (takeS de wi lost L x) := by
  have h0 : CameOk de wi (ys ++ [x]) L := ⟨h.sub.trans (List.sublist_append_left _ _), h.win, h.hi⟩
  unfold takeS
  split
  · exact h0
  · split
    · exact h0
    · rename_i hhi
      cases L with
      | nil =>
        refine ⟨List.sublist_append_right _ _, ?_, ?_⟩
        · intro y hy
          obtain rfl := List.mem_singleton.1 hy
          show y.t ≤ y.t ∧ y.t ≤ y.t + wi
          omega
        · intro y hy
          obtain rfl := List.mem_singleton.1 hy
          omega
      | cons z r =>
        dsimp only
        split
        · rename_i hin
          have hz : z ∈ ys := h.sub.subset (by simp)
          refine ⟨h.sub.append (List.Sublist.refl _), ?_, ?_⟩
          · intro y hy
            rw [headT_snoc x (by simp)]
            rcases List.mem_append.1 hy with hy | hy
            · exact h.win y hy
            · obtain rfl := List.mem_singleton.1 hy
              have := hs z hz
              show z.t ≤ y.t ∧ y.t ≤ z.t + wi
              omega
          · intro y hy
            rcases List.mem_append.1 hy with hy | hy
            · exact h.hi y hy
            · obtain rfl := List.mem_singleton.1 hy
              omega
        · exact h0
theorem lex_times {xs : List Sd} (hp : xs.Pairwise lexS) {k : Nat} (hk : k < xs.length) : ∀ y ∈ xs.take k, y.t ≤ (nthS xs k).t := by
  intro y hy
  have h1 : (xs.take (k + 1)).Pairwise lexS := hp.sublist (List.take_sublist _ _)
  rw [take_snocS hk, List.pairwise_append] at h1
  have := h1.2.2 y hy (nthS xs k) (by simp)
  unfold lexS at this
  omega
theorem came_ok {de wi : Int} {lost : Nat} {xs : List Sd} (hp : xs.Pairwise lexS) (hw : 0 ≤ wi) : ∀ k, k ≤ xs.length → CameOk de wi (xs.take k) (cameS de wi lost (xs.take k))
  | 0, _ => ⟨by simp [cameS], by simp [cameS], by simp [cameS]⟩
  | k + 1, hk => by
    rw [take_snocS (show k < xs.length by omega), cameS_snoc]
    exact (came_ok hp hw k (by omega)).step (lex_times hp (by omega)) hw
theorem cith_map {de cy cl : Int} {L : List Sd} {i : Nat} (h : i < L.length) : cith (L.map (ciS de cy cl)) i = ciS de cy cl (nthS L i) := by
  simp [cith, nthS, h]
theorem crew_of {de cy cl : Int} : ∀ (n : Nat) (L : List Sd), L.length = n → L.Pairwise (fun a b => a.h ≠ b.h) → (∀ y ∈ L, y.h < 6) → Crew (L.map (ciS de cy cl)) (crewS L)
  | 0, L, hl, _, _ => by
    have : L = [] := List.length_eq_zero_iff.1 hl
    subst this
    refine ⟨by decide, by rw [List.map_nil]; decide, fun j hj => ?_⟩
    have h0 : hasB (crewS []) j = false := by unfold hasB crewS; simp
    rw [h0]
    simp
  | n + 1, L, hl, hp, hh => by
    have hne : L ≠ [] := by intro e; subst e; simp at hl
    obtain ⟨r, x, rfl⟩ : ∃ r x, L = r ++ [x] := ⟨L.dropLast, L.getLast hne, (List.dropLast_concat_getLast hne).symm⟩
    have hl' : r.length = n := by simpa using hl
    rw [List.pairwise_append] at hp
    have ih := crew_of (de := de) (cy := cy) (cl := cl) n r hl' hp.1 (fun y hy => hh y (by simp [hy]))
    have hx : x.h < 6 := hh x (by simp)
    have hno : hasB (crewS r) x.h = false := by
      rw [Bool.eq_false_iff]
      intro e
      obtain ⟨i, hi, e2⟩ := (ih.has x.h hx).1 e
      have hi' : i < r.length := by simpa using hi
      rw [cith_map hi'] at e2
      have := hp.2.2 (nthS r i) (by rw [nthS_get hi']; exact List.getElem_mem hi') x (by simp)
      exact this e2
    rw [crewS_snoc, List.map_append]
    exact ih.add (ciS de cy cl x) hx hno
theorem crew_no {de cy cl : Int} {L : List Sd} {x : Sd} (hp : (L ++ [x]).Pairwise (fun a b => a.h ≠ b.h)) (hh : ∀ y ∈ L, y.h < 6) (hx : x.h < 6) : hasB (crewS L) x.h = false ∧ crewS L < 64 ∧ L.length ≤ 6 := by
  rw [List.pairwise_append] at hp
  have hc := crew_of (de := de) (cy := cy) (cl := cl) L.length L rfl hp.1 hh
  refine ⟨?_, hc.lt, by simpa using hc.len⟩
  rw [Bool.eq_false_iff]
  intro e
  obtain ⟨i, hi, e2⟩ := (hc.has x.h hx).1 e
  have hi' : i < L.length := by simpa using hi
  rw [cith_map hi'] at e2
  exact hp.2.2 (nthS L i) (by rw [nthS_get hi']; exact List.getElem_mem hi') x (by simp) e2
end Go.Proofs.YtckoaeoecjphiaaGreat

/- round.collect, walked. -/
namespace Go.Proofs.YtckoaeoecjphiaaGreat
open Go.RowKit Go.Lib

/-- The collection that a switch holds, and when it ends. -/
def CoS (base : Nat) (W : World) (b : Nat) (wi de cy : Int) (L : List Sd) (en : Int) : Prop :=
  (L = [] ∧ Cmp W b wi false 0 (.slice none 0 0) (.slice none 0 0) 0 ∧ en = 0) ∨
  (L ≠ [] ∧ Coll (fun _ => False) W base b wi (headT L + de) (rsK (headT L + de) (L.map (ciS de cy 0))) (csK (L.map (ciS de cy 0))) (crewS L) ∧ en = headT L + de + wi)
theorem CoS.grown {base : Nat} {W W' : World} {b : Nat} {wi de cy : Int} {L : List Sd} {en : Int} (h : CoS base W b wi de cy L en) (g : W.grownBy W' none) : CoS base W' b wi de cy L en := by
  rcases h with ⟨h1, h2, h3⟩ | ⟨h1, h2, h3⟩
  · exact .inl ⟨h1, h2.kept g (by simp), h3⟩
  · exact .inr ⟨h1, h2.grown g, h3⟩
theorem rsK_ci {de cy cl f : Int} (L : List Sd) (x : Sd) : rsK (f + de) ((L ++ [x]).map (ciS de cy cl)) = rsK (f + de) (L.map (ciS de cy cl)) ++ [x.t + de - (f + de)] := by
  simp [rsK, ciS]
theorem csK_ci {de cy cl : Int} (L : List Sd) (x : Sd) : csK ((L ++ [x]).map (ciS de cy cl)) = csK (L.map (ciS de cy cl)) ++ [cy] := by
  simp [csK, ciS]

theorem collect_add (base b : Nat) (wi de cy cl : Int) (lost : Nat) (ys L : List Sd) (x : Sd) (en : Int) (w : World) (hS : CoS base w b wi de cy L en) (hbb : base ≤ b) (hbs : base ≤ w.heap.size) (hO : CameOk de wi ys L)
    (hxh : x.h < 6) (hxt : 0 ≤ x.t ∧ x.t ≤ 1125899906842624) (hp : (L ++ [x]).Pairwise fun a b => a.h ≠ b.h) (hh : ∀ y ∈ L, y.h < 6) (hlost : hasN lost x.h = false) (hcy : 0 ≤ cy ∧ cy ≤ 1125899906842624) (hcl : 0 ≤ cl ∧ cl ≤ 1048576)
    (hle : ∀ y ∈ L, y.t ≤ x.t) (ht0 : ∀ y ∈ L, 0 ≤ y.t) (hwi : 0 ≤ wi ∧ wi ≤ 1048576) (hde : 0 ≤ de ∧ de ≤ 1048576) :
    ∃ e1 e2 : Int, Calls Tryz.prog 79 #[.pointer (some ⟨b, 0, none⟩), .int .i64 (x.t + de), ctl 1 (x.h : Int) cy 0 cl] w fun e w' => e = .returned (.tuple #[.int .i64 e1, .int .i64 e2]) ∧ Hid (CoS base w' b wi de cy (takeS de wi lost L x) (if e2 = 0 then e1 else en)) ∧ Hid (Below base w w') := by
  have hr : rightB 1 (x.h : Int) cy 0 cl = true := by
    unfold rightB inB
    simp
    omega
  obtain ⟨hno, hcm, hlen⟩ := crew_no (de := 0) (cy := 0) (cl := 0) hp hh hxh
  by_cases hbig : 1125899906842624 < x.t + de
  · have hT : takeS de wi lost L x = L := by unfold takeS; rw [hlost, if_neg (by simp), if_pos hbig]
    refine ⟨0, 1, (add_bad b (x.t + de) 1 x.h cy 0 cl w ?_).mono ?_⟩
    · unfold takesB
      rw [hr, decide_eq_false (by omega)]
      rfl
    · rintro e w' ⟨rfl, g⟩
      exact ⟨rfl, hid (by rw [hT, if_neg (by decide)]; exact hS.grown g), hid (gr_below g hbs (by simp))⟩
  · rcases hS with ⟨rfl, hc, rfl⟩ | ⟨hne, hc, rfl⟩
    · have hT : takeS de wi lost [] x = [x] := by unfold takeS; rw [hlost, if_neg (by simp), if_neg hbig]
      refine ⟨x.t + de + wi, 0, (add_open (fun _ => False) base b wi 0 _ _ 0 (x.t + de) x.h cy 0 cl x.h rfl hxh w hc hbb (fun _ h => h.elim) hr (by omega) hwi).mono ?_⟩
      rintro e w' ⟨rfl, hc', hb', _⟩
      refine ⟨rfl, hid ?_, hid hb'⟩
      rw [hT, if_pos rfl]
      refine .inr ⟨by simp, ?_, rfl⟩
      have e1 : rsK (headT [x] + de) ([x].map (ciS de cy 0)) = [0] := by simp [rsK, ciS, headT, nthS]
      have e2 : csK ([x].map (ciS de cy 0)) = [cy] := by simp [csK, ciS]
      have e3 : crewS [x] = 2 ^ x.h := by simp [crewS]
      rw [e1, e2, e3]
      exact hc'
    · obtain ⟨y, r, rfl⟩ : ∃ y r, L = y :: r := by
        cases L with
        | nil => exact absurd rfl hne
        | cons y r => exact ⟨y, r, rfl⟩
      have hy1 := hle y (by simp)
      have hy0 := ht0 y (by simp)
      have hf : -1125899906842624 ≤ headT (y :: r) + de ∧ headT (y :: r) + de ≤ 1125899906842624 := by
        show -1125899906842624 ≤ y.t + de ∧ y.t + de ≤ 1125899906842624
        omega
      have hl2 : ((y :: r).map (ciS de cy 0)).length ≤ 100 := by rw [List.length_map]; omega
      by_cases hin : x.t ≤ y.t + wi
      · have hT : takeS de wi lost (y :: r) x = (y :: r) ++ [x] := by unfold takeS; rw [hlost, if_neg (by simp), if_neg hbig]; exact if_pos hin
        refine ⟨headT (y :: r) + de + wi, 0, (add_more (fun _ => False) base b wi (headT (y :: r) + de) _ _ _ (x.t + de) x.h cy 0 cl x.h rfl hxh w hc hcm hr (by omega) ?_ hf hwi hno ?_).mono ?_⟩
        · show y.t + de ≤ x.t + de ∧ x.t + de ≤ y.t + de + wi
          omega
        · exact ⟨by simpa [rsK] using hl2, by simpa [csK] using hl2⟩
        · rintro e w' ⟨rfl, hc', hb', _⟩
          refine ⟨rfl, hid ?_, hid hb'⟩
          rw [hT, if_pos rfl]
          refine .inr ⟨by simp, ?_, ?_⟩
          · rw [headT_snoc x (by simp), rsK_ci, csK_ci, crewS_snoc]
            exact hc'
          · rw [headT_snoc x (by simp)]
      · have hT : takeS de wi lost (y :: r) x = y :: r := by unfold takeS; rw [hlost, if_neg (by simp), if_neg hbig]; exact if_neg hin
        obtain ⟨vr, vc, hcm'⟩ := hc.cmp
        refine ⟨0, 4, (add_range b wi (headT (y :: r) + de) vr vc _ (x.t + de) x.h cy 0 cl x.h rfl hxh w hcm' hr (by omega) (.inr ?_) hf hwi).mono ?_⟩
        · show y.t + de + wi < x.t + de
          omega
        · rintro e w' ⟨rfl, g⟩
          refine ⟨rfl, hid ?_, hid (gr_below g hbs (by simp))⟩
          rw [hT, if_neg (by decide)]
          exact .inr ⟨by simp, hc.grown g, rfl⟩
end Go.Proofs.YtckoaeoecjphiaaGreat

/- round.collect, walked. -/
namespace Go.Proofs.YtckoaeoecjphiaaGreat
open Go.RowKit Go.Lib

/-- The senders' slice. -/
def SentV (w : World) (sv : Value) (xs : List Sd) : Prop :=
  (∃ a cap, sv = .slice a 0 cap ∧ xs = []) ∨ ∃ g cap, sv = .slice (some ⟨g, 0, none⟩) xs.length cap ∧ xs.length ≤ cap ∧ SdAt w g xs.length xs
theorem SentV.grown {W W' : World} {sv : Value} {xs : List Sd} (h : SentV W sv xs) (g : W.grownBy W' none) : SentV W' sv xs := by
  rcases h with h | ⟨b, cap, h1, h2, h3⟩
  · exact .inl h
  · exact .inr ⟨b, cap, h1, h2, h3.grown g⟩
/-- What collect goes by. -/
structure ColP (d : Net) (cy : Int) (xs : List Sd) (sw : Nat) (lost : Nat) : Prop where
  cyr : 0 ≤ cy ∧ cy ≤ 1125899906842624
  wi : 0 ≤ d.cf.wi ∧ d.cf.wi ≤ 1048576
  de : 0 ≤ d.cf.de ∧ d.cf.de ≤ 1048576
  rows : ∀ x ∈ xs, x.h < d.rows.length ∧ (nthR d.rows x.h).length = 2 ∧ 0 ≤ nth (nthR d.rows x.h) sw ∧ nth (nthR d.rows x.h) sw ≤ 1048576
  hs : ∀ x ∈ xs, x.h < 6
  ts : ∀ x ∈ xs, 0 ≤ x.t ∧ x.t ≤ 1125899906842624
  dif : xs.Pairwise fun a b => a.h ≠ b.h
  srt : xs.Pairwise lexS
  sw2 : sw < 2
  lost32 : lost < 4294967296

set_option maxRecDepth 100000 in
set_option maxHeartbeats 4000000 in
theorem collect_any (d : Net) (vd ve vl : Value) (cy : Int) (sv : Value) (xs : List Sd) (sw lost : Nat) (w : World) (hN : RowsIn w.heap.size w vd d.rows) (hS : SentV w sv xs) (hP : ColP d cy xs sw lost) (hn : xs.length ≤ 100) :
    Calls Tryz.prog 32 #[cfV d.cf vd ve vl, .int .i64 cy, sv, .int .i64 (sw : Int), .int .u32 (lost : Int)] w fun e w' => e = .returned (.tuple #[resV (pointS d.cf.de (cameS d.cf.de d.cf.wi lost xs)) (crewS (cameS d.cf.de d.cf.wi lost xs)) (cycS cy (cameS d.cf.de d.cf.wi lost xs)), .bool (!(cameS d.cf.de d.cf.wi lost xs).isEmpty)]) ∧ w.grownBy w' none := by
  obtain ⟨n, hlen⟩ : ∃ n, Hid (xs.length = n) := ⟨_, hid rfl⟩
  obtain ⟨a, cap, rfl⟩ : ∃ a cap, sv = .slice a n cap := by
    rw [← hlen.out]
    rcases hS with ⟨a, cap, rfl, h0⟩ | ⟨g, cap, rfl, _⟩
    · exact ⟨a, cap, by rw [h0]; rfl⟩
    · exact ⟨_, cap, rfl⟩
  rw [hlen.out] at hn
  have HP := hid hP
  have HN := hid hN
  have HS := hid hS
  obtain ⟨w0, w1⟩ := hP.wi
  clear hP hN hS
  obtain ⟨c, rows, ents, lnks⟩ := d
  dsimp only at *
  obtain ⟨hos, C, de, wi, pr, qu⟩ := c
  dsimp only at *
  obtain ⟨L, hL⟩ : ∃ L, Hid (cameS de wi lost xs = L) := ⟨_, hid rfl⟩
  rw [hL.out]
  obtain ⟨X0, hX0⟩ : ∃ X, pointS de L = X := ⟨_, rfl⟩
  obtain ⟨X1, hX1⟩ : ∃ X, crewS L = X := ⟨_, rfl⟩
  obtain ⟨X2, hX2⟩ : ∃ X, cycS cy L = X := ⟨_, rfl⟩
  obtain ⟨X3, hX3⟩ : ∃ X, (!L.isEmpty) = X := ⟨_, rfl⟩
  have HX := hid (And.intro hX0 (And.intro hX1 (And.intro hX2 hX3)))
  rw [hX0, hX1, hX2, hX3]
  clear hX0 hX1 hX2 hX3
  go_enter Tryz.func32, Tryz.ntmps32
  go_wp2_with fail
  refine (comp_new_ok _ _ w0 w1).mono ?_
  rintro e u1 ⟨rfl, hc1, g1, hs1⟩
  obtain ⟨bs, hbs⟩ : ∃ b, ((w.alloc (.cells #[.int .i64 hos, .int .i64 C, .int .i64 de, .int .i64 wi, .int .i64 pr, vd, ve, vl, .int .i64 qu] 26)).alloc (.cells #[.int .i64 0, .int .u32 0, .int .i64 0] 91)).heap.size = b := ⟨_, rfl⟩
  rw [hbs] at hc1 hs1
  rw [hbs]
  have Hbs : Hid (bs = w.heap.size + 2) := hid (by rw [← hbs]; simp)
  have Hs1 := hid hs1
  have HB := hid (box_heap1 g1)
  have HR := hid (box_heap2 g1)
  have G1 := hid (bx_gr (bx_gr g1))
  have HC1 : Hid (CoS bs u1 bs wi de cy (cameS de wi lost (xs.take 0)) 0) := hid (.inl ⟨rfl, hc1, rfl⟩)
  clear hc1 g1 hs1 hbs
  go_wp2_with fail
  obtain ⟨wo, hwo⟩ : ∃ wo : World, wo = u1 := ⟨_, rfl⟩
  subst hwo
  go_loopw [28, 14] (fun i e wr => ∃ (k : Nat) (en : Int), k ≤ n ∧ i = .int .i64 k ∧ e = .int .i64 en ∧ Hid (CoS bs wr bs wi de cy (cameS de wi lost (xs.take k)) en) ∧ Hid (Below bs wo wr)) (fun i _ _ => n - (intOf i).toNat)
  case atStart => exact ⟨0, 0, Nat.zero_le _, rfl, rfl, HC1, hid (Below.refl _ _)⟩
  case round =>
    obtain ⟨k, en, hk, rfl, rfl, HCk, HBk⟩ := hrel
    by_cases hlt : k < n
    · have hkx : k < xs.length := by rw [hlen.out]; exact hlt
      obtain ⟨x, hx⟩ : ∃ x, Hid (nthS xs k = x) := ⟨_, hid rfl⟩
      have hmem : Hid (x ∈ xs) := hid (by rw [← hx.out, nthS_get hkx]; exact List.getElem_mem hkx)
      have hx6 := HP.out.hs x hmem.out
      obtain ⟨ht0, ht1⟩ := HP.out.ts x hmem.out
      obtain ⟨hr0, hr1, hr2, hr3⟩ := HP.out.rows x hmem.out
      dsimp only at hr0 hr1 hr2 hr3
      have hsw2 := HP.out.sw2
      obtain ⟨d0, d1⟩ := HP.out.de
      dsimp only at d0 d1
      have HBw : Hid (Below w.heap.size w wr) := hid ((gr_below G1.out (Nat.le_refl _) (by simp)).trans (HBk.out.mono (by rw [Hbs.out]; omega)))
      have hsz : Hid (bs ≤ wr.heap.size) := hid (by have := HBk.out.size; have := Hs1.out; omega)
      obtain ⟨b, off, cap1, b2, off2, cap2, rfl, hcap1, hcap2, c1, c2⟩ := (HN.out.below HBw.out).cellAt hr0 (i := sw) (by rw [hr1]; exact hsw2)
      obtain ⟨dly, hdly⟩ : ∃ y, nth (nthR rows x.h) sw = y := ⟨_, rfl⟩
      rw [hdly] at c2 hr2 hr3
      rw [hr1] at c1 hcap2
      have hcells : wr.heap[w.heap.size]? = some (.cells #[.int .i64 hos, .int .i64 C, .int .i64 de, .int .i64 wi, .int .i64 pr, .slice (some ⟨b, off, none⟩) rows.length cap1, ve, vl, .int .i64 qu] 26) := (HBk.out.block _ (by have := Hbs.out; omega)).trans HB.out
      have HCf := hid hcells
      obtain ⟨g, rfl, hkc, e0, e1⟩ : ∃ g, a = some ⟨g, 0, none⟩ ∧ k < cap ∧ wr.cell? ⟨g, k * 2, none⟩ = some (.int .i64 (x.h : Int)) ∧ wr.cell? ⟨g, k * 2 + 1, none⟩ = some (.int .i64 x.t) := by
        rcases HS.out with ⟨_, _, _, h0⟩ | ⟨g, cap', e, hcp, hd⟩
        · rw [h0] at hkx; simp at hkx
        · injection e with e1 _ e3
          subst e1 e3
          have := hd.cell k hkx
          rw [hx.out] at this
          exact ⟨g, rfl, by omega, by rw [HBw.out.cell (p := ⟨g, k * 2, none⟩) hd.lt]; exact this.1, by rw [HBw.out.cell (p := ⟨g, k * 2 + 1, none⟩) hd.lt]; exact this.2⟩
      have htk : Hid (cameS de wi lost (xs.take (k + 1)) = takeS de wi lost (cameS de wi lost (xs.take k)) x) := hid (by rw [take_snocS hkx, cameS_snoc, hx.out])
      have hl32 := HP.out.lost32
      have hHas : Hid (∀ w', Calls Tryz.prog 34 #[.int .u32 (lost : Int), .int .i64 (x.h : Int)] w' fun e w2 => e = .returned (.bool (hasN lost x.h)) ∧ w' = w2) := hid (fun w' => hasN_at lost x.h (hid hl32) hx6 w')
      obtain ⟨v, hv⟩ : ∃ v, Hid (hasN lost x.h = v) := ⟨_, hid rfl⟩
      rw [hv.out] at hHas
      have hadd : Hid (v = false → ∀ w', wr.grownBy w' none → ∃ e1 e2 : Int, Calls Tryz.prog 79 #[.pointer (some ⟨bs, 0, none⟩), .int .i64 (x.t + de), ctl 1 (x.h : Int) cy 0 dly] w' fun e w2 => e = .returned (.tuple #[.int .i64 e1, .int .i64 e2]) ∧ Hid (CoS bs w2 bs wi de cy (cameS de wi lost (xs.take (k + 1))) (if e2 = 0 then e1 else en)) ∧ Hid (Below bs w' w2)) := hid (by
        intro hvf w' g'
        have hO := came_ok (de := de) (lost := lost) HP.out.srt w0 k (by omega)
        rw [htk.out]
        refine collect_add bs bs wi de cy dly lost _ _ x en w' (HCk.out.grown g') (Nat.le_refl _) (by have := g'.size; have := hsz.out; omega) hO hx6 ⟨ht0, ht1⟩ ?_ ?_ (hv.out.trans hvf) HP.out.cyr ⟨hr2, hr3⟩ ?_ ?_ ⟨w0, w1⟩ ⟨d0, d1⟩
        · have h1 : (xs.take (k + 1)).Pairwise fun a b => a.h ≠ b.h := HP.out.dif.sublist (List.take_sublist _ _)
          rw [take_snocS hkx, hx.out] at h1
          exact h1.sublist (hO.sub.append (List.Sublist.refl _))
        · exact fun y hy => HP.out.hs y (List.mem_of_mem_take (hO.sub.subset hy))
        · intro y hy
          have := lex_times HP.out.srt hkx y (hO.sub.subset hy)
          rw [hx.out] at this
          exact this
        · exact fun y hy => (HP.out.ts y (List.mem_of_mem_take (hO.sub.subset hy))).1)
      have hk2 : (k : Int) < n := by omega
      obtain ⟨xh, xt⟩ := x
      dsimp only at *
      have g1 := gr_alloc (gr_refl wr none) (.cells #[.int .i64 (xh : Int), .int .i64 xt] 86)
      have G2 := hid g1
      clear hcells hkx hdly hl32 g1
      cases v
      · go_wp2_with fail
        refine (hHas.out _).mono ?_
        rintro e u2 ⟨rfl, rfl⟩
        go_wp2_with fail
        obtain ⟨w3, hw3⟩ : ∃ w3, wr.alloc (.cells #[.int .i64 (xh : Int), .int .i64 xt] 86) = w3 := ⟨_, rfl⟩
        rw [hw3] at G2 ⊢
        have HE3 : Hid (w3.heap[wr.heap.size]? = some (.cells #[.int .i64 (xh : Int), .int .i64 xt] 86)) := hid (by rw [← hw3]; exact heap_alloc_new wr _)
        have HC3 := hid (gr_heap G2.out HCf.out (by simp))
        have k0 := hcell HE3.out 0 _ rfl
        have k5 := hcell HC3.out 5 _ rfl
        have j1 := gr_cell G2.out c1
        have j2 := gr_cell G2.out c2
        obtain ⟨W3, hW3⟩ : ∃ W, W = w3.alloc (.cells #[.int .i64 0, .int .i64 0, .int .i64 0, .int .u32 0, .int .i64 0] 150) := ⟨_, rfl⟩
        have gZ : w3.grownBy W3 none := hW3 ▸ gr_alloc (gr_refl w3 none) _
        have z0 := gr_cell gZ k0
        have z5 := gr_cell gZ k5
        have z1 := gr_cell gZ j1
        have z2 := gr_cell gZ j2
        rw [hW3] at z0 z5 z1 z2
        clear hw3 c1 c2 e0 e1 gZ hW3 W3
        have hx1 : xh < cap1 := by omega
        have hx2 : (xh : Int) < rows.length := by omega
        have hx3 : (sw : Int) < 2 := by omega
        have hx4 : sw < cap2 := by omega
        have hx5 : (0 : Int) ≤ (xh : Int) := by omega
        have hx7 : (0 : Int) ≤ (sw : Int) := by omega
        apply wp_behind0 (fun W => Hid (w3.grownBy W none) ∧ Hid (W.heap[w3.heap.size]? = some (.cells #[.int .i64 1, .int .i64 (xh : Int), .int .i64 cy, .int .u32 0, .int .i64 dly] 150)))
        case h =>
          go_region
          exact ⟨rfl, hid (gr_alloc (gr_drew (gr_refl w3 none)) _), hid (by have := heap_alloc_new w3.drew (.cells #[.int .i64 1, .int .i64 (xh : Int), .int .i64 cy, .int .u32 0, .int .i64 dly] 150); exact this)⟩
        case k =>
          intro w4 hW4
          obtain ⟨G4, HT4⟩ := hW4
          have m1 := hcell (gr_heap G4.out HE3.out (by simp)) 1 _ rfl
          have m2 := hcell (gr_heap G4.out HC3.out (by simp)) 2 _ rfl
          have t0 := hcell HT4.out 0 _ rfl
          have t1 := hcell HT4.out 1 _ rfl
          have t2 := hcell HT4.out 2 _ rfl
          have t3 := hcell HT4.out 3 _ rfl
          have t4 := hcell HT4.out 4 _ rfl
          have ws : IntKind.i64.wrap (xt + de) = xt + de := IntWalk.i64_in _ (by omega)
          clear k0 k5 j1 j2 z0 z1 z2 z5
          go_wp2_with fail
          obtain ⟨e1, e2, hcall⟩ := hadd.out (by trivial) w4 (gr_trans G2.out G4.out)
          refine hcall.mono ?_
          rintro e w5 ⟨rfl, HC5, HB5⟩
          have HBn := hid ((HBk.out.trans (gr_below (gr_trans G2.out G4.out) hsz.out (by simp))).trans HB5.out)
          clear hcall m1 m2 t0 t1 t2 t3 t4
          by_cases h20 : e2 = 0
          · subst h20
            go_wp2_with fail
            go_roundw
            case rel => exact ⟨k + 1, e1, by omega, by go_num, rfl, hid (by have := HC5.out; simpa using this), HBn⟩
            case measure => simp [intOf]; omega
          · have h21 : (e2 == 0) = false := by simpa using h20
            go_wp2_with fail
            go_roundw
            case rel => exact ⟨k + 1, en, by omega, by go_num, rfl, hid (by have := HC5.out; rw [if_neg h20] at this; exact this), HBn⟩
            case measure => simp [intOf]; omega
      · have hsame : Hid (cameS de wi lost (xs.take (k + 1)) = cameS de wi lost (xs.take k)) := hid (by rw [htk.out]; unfold takeS; rw [if_pos hv.out])
        go_wp2_with fail
        refine (hHas.out _).mono ?_
        rintro e u2 ⟨rfl, rfl⟩
        go_wp2_with fail
        go_roundw
        case rel => exact ⟨k + 1, en, by omega, by go_num, rfl, hid (by rw [hsame.out]; exact HCk.out.grown G2.out), hid (HBk.out.trans (gr_below G2.out hsz.out (by simp)))⟩
        case measure => simp [intOf]; omega
    · obtain rfl : k = n := by omega
      clear hlt
      have hsz : Hid (bs ≤ wr.heap.size) := hid (by have := HBk.out.size; have := Hs1.out; omega)
      have hall : xs.take k = xs := List.take_of_length_le (by rw [hlen.out]; omega)
      have HCn : Hid (CoS bs wr bs wi de cy L en) := hid (by have := HCk.out; rw [hall, hL.out] at this; exact this)
      have HRr : Hid (wr.heap[w.heap.size + 1]? = some (.cells #[.int .i64 0, .int .u32 0, .int .i64 0] 91)) := hid ((HBk.out.block _ (by have := Hbs.out; omega)).trans HR.out)
      have HGr : Hid (w.grownBy wr none) := hid (below_gr ((gr_below G1.out (Nat.le_refl _) (by simp)).trans (HBk.out.mono (by rw [Hbs.out]; omega))))
      have hO : Hid (CameOk de wi xs L) := hid (by have := came_ok (de := de) (lost := lost) HP.out.srt w0 k (by rw [hlen.out]; omega); rw [hall, hL.out] at this; exact this)
      have hclose : Hid (Calls Tryz.prog 80 #[.pointer (some ⟨bs, 0, none⟩), .int .i64 en] wr fun e w' => e = .returned (.tuple #[resV X0 X1 X2, .bool X3]) ∧ Hid (wr.grownBy w' (some bs))) := hid (by
        obtain ⟨hX0, hX1, hX2, hX3⟩ := HX.out
        rcases HCn.out with ⟨rfl, hc, rfl⟩ | ⟨hne, hc, rfl⟩
        · rw [← hX0, ← hX1, ← hX2, ← hX3]
          refine (close_shut bs wi 0 _ _ 0 0 wr hc).mono ?_
          rintro e w' ⟨rfl, g⟩
          exact ⟨rfl, hid (gr_none g)⟩
        · obtain ⟨y, r, rfl⟩ : ∃ y r, L = y :: r := by
            cases L with
            | nil => exact absurd rfl hne
            | cons y r => exact ⟨y, r, rfl⟩
          have hlen2 : (y :: r).length ≤ 100 := Nat.le_trans hO.out.sub.length_le (by rw [hlen.out]; omega)
          have hym : y ∈ xs := hO.out.sub.subset (by simp)
          have hf : -1125899906842624 ≤ headT (y :: r) + de ∧ headT (y :: r) + de ≤ 1125899906842624 := by
            have h1 := hO.out.hi y (by simp)
            have h2 := HP.out.ts y hym
            have h3 := HP.out.de
            dsimp only at h3
            show -1125899906842624 ≤ y.t + de ∧ y.t + de ≤ 1125899906842624
            omega
          have e1 : X0 = headT (y :: r) + de + tolL (rsK (headT (y :: r) + de) ((y :: r).map (ciS de cy 0))) := by
            rw [← hX0]
            unfold pointS
            rw [if_neg (by simp)]
            congr 2
            simp only [rsK, List.map_map]
            apply List.map_congr_left
            intro z _
            show z.t - headT (y :: r) = z.t + de - (headT (y :: r) + de)
            omega
          have e2 : X2 = mostL (csK ((y :: r).map (ciS de cy 0))) := by
            rw [← hX2]
            unfold cycS
            rw [if_neg (by simp)]
            symm
            refine most_same cy (by simp [csK]) ?_
            intro z hz
            simp only [csK, List.map_map, List.mem_map] at hz
            obtain ⟨q, _, e⟩ := hz
            exact e.symm
          rw [e1, e2, ← hX1, ← hX3]
          refine (close_ok bs bs wi (headT (y :: r) + de) _ _ (crewS (y :: r)) _ wr hc hf ⟨w0, w1⟩ (Int.le_refl _) (by simp [rsK]) (by simp [csK]) (by simpa [rsK, csK] using hlen2) ?_).mono ?_
          · intro z hz
            simp only [rsK, List.map_map, List.mem_map] at hz
            obtain ⟨q, hq, e⟩ := hz
            have h1 := hO.out.win q hq
            have h2 : z = q.t + de - (headT (y :: r) + de) := e.symm
            omega
          · rintro e w' ⟨rfl, _, g⟩
            exact ⟨rfl, hid g⟩)
      clear hall HCk HX
      go_wp2_with fail
      refine hclose.out.mono ?_
      rintro e w5 ⟨rfl, G5⟩
      have hb5 := gr_heap G5.out HRr.out (by rw [Hbs.out]; simp)
      have n0 := hcell hb5 0 _ rfl
      have n1 := hcell hb5 1 _ rfl
      have n2 := hcell hb5 2 _ rfl
      have f0 := hfroz hb5 0
      have f1 := hfroz hb5 1
      have f2 := hfroz hb5 2
      have HF := hid (cells3 (a' := .int .i64 X0) (b' := .int .u32 (X1 : Int)) (c' := .int .i64 X2) hb5)
      have HG5 := hid (gr_own HGr.out G5.out (by rw [Hbs.out]; omega))
      clear hb5
      go_wp2_with fail
      have HGf := hid (gr_setNew (gr_setNew (gr_setNew HG5.out (Nat.le_succ _) 0 (.int .i64 X0)) (Nat.le_succ _) 1 (.int .u32 (X1 : Int))) (Nat.le_succ _) 2 (.int .i64 X2))
      obtain ⟨wf, hwf⟩ : ∃ wf, ((w5.setCell ⟨w.heap.size + 1, 0, none⟩ (.int .i64 X0)).setCell ⟨w.heap.size + 1, 1, none⟩ (.int .u32 (X1 : Int))).setCell ⟨w.heap.size + 1, 2, none⟩ (.int .i64 X2) = wf := ⟨_, rfl⟩
      rw [hwf] at HF HGf ⊢
      clear hwf
      have o0 : wf.cell? ⟨w.heap.size + 1, 0, none⟩ = some (.int .i64 X0) := hcell HF.out 0 _ rfl
      have o1 : wf.cell? ⟨w.heap.size + 1, 1, none⟩ = some (.int .u32 (X1 : Int)) := hcell HF.out 1 _ rfl
      have o2 : wf.cell? ⟨w.heap.size + 1, 2, none⟩ = some (.int .i64 X2) := hcell HF.out 2 _ rfl
      refine bodyPost_ret (v := .tuple #[resV X0 X1 X2, .bool X3]) (by simp [results, Tryz.results32, go_sem, o0, o1, o2]) rfl ⟨rfl, HGf.out⟩
end Go.Proofs.YtckoaeoecjphiaaGreat
