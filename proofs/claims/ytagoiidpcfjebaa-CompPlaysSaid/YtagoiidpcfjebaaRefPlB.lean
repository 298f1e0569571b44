/- Add of a script of a compression, on both sides. -/
import Derived.Test.YtagoiidpcfjebaaRefPlA
namespace Go.Proofs.Ytagoiidpcfjebaa
open Go.RowKit Go.Shelf Go.Sort Go.Lib

structure PC (A W : World) (b : Nat) (win : Int) (v : Value) (ls : List CI) : Prop where
  bA : b < A.heap.size
  row : KR W A.heap.size v ls
  keep : Below b A W
  st : (ls = [] ∧ v = .slice none 0 0 ∧ ∃ first vr vc cm, Cmp W b win false first vr vc cm) ∨
    (0 < ls.length ∧ ∃ cm, Coll (fun q => v.ownBlock = some q) W b b win (cith ls 0).l (rsK (cith ls 0).l ls) (csK ls) cm ∧ Crew ls cm ∧ (-1125899906842624 ≤ (cith ls 0).l ∧ (cith ls 0).l ≤ 1125899906842624) ∧ ∀ i, i < ls.length → (cith ls 0).l ≤ (cith ls i).l ∧ (cith ls i).l ≤ (cith ls 0).l + win)
theorem below_none {b : Nat} {A W W' : World} (h : Below b A W) (hb : b ≤ W.heap.size) (g : W.grownBy W' none) : Below b A W' := h.trans (gr_below g hb (by simp))
theorem PC.sz {A W : World} {b : Nat} {win : Int} {v : Value} {ls : List CI} (h : PC A W b win v ls) : b ≤ W.heap.size := by have := h.bA; have := h.keep.size; omega
theorem PC.grown {A W W' : World} {b : Nat} {win : Int} {v : Value} {ls : List CI} (h : PC A W b win v ls) (g : W.grownBy W' none) : PC A W' b win v ls where
  bA := h.bA
  row := h.row.grown g
  keep := below_none h.keep h.sz g
  st := by
    rcases h.st with ⟨h1, h2, f, vr, vc, cm, hc⟩ | ⟨h1, cm, hc, h3⟩
    · exact .inl ⟨h1, h2, f, vr, vc, cm, hc.kept g (by simp)⟩
    · exact .inr ⟨h1, cm, hc.grown g, h3⟩
theorem laid_below {b : Nat} {A w W : World} {kb : Nat} {v v2 : Value} {ls' : List CI} (h : Below b A w) (hb : b ≤ w.heap.size) (hL : LaidK w W kb v v2 ls') (hv : ∀ q, v.ownBlock = some q → b ≤ q) : Below b A W := by
  obtain ⟨_, w4, o, g4, g6, _⟩ := hL
  have h4 := below_none h hb g4
  have s4 := g4.size
  exact (below_none h4 (by omega) (World.grownBy_alloc w4 o none)).trans (gr_below g6 (by simp; omega) fun k hk => hv k hk)
theorem takes_parts {l k fr cy cr cl : Int} (h : takesB l k fr cy cr cl = true) : k = 1 ∧ (-1125899906842624 ≤ l ∧ l ≤ 1125899906842624) ∧ ∃ n : Nat, fr = (n : Int) ∧ n < 6 ∧ rightB 1 (n : Int) cy cr cl = true := by
  unfold takesB at h
  simp only [Bool.and_eq_true, decide_eq_true_eq] at h
  obtain ⟨hr, hl, hk, hf⟩ := h
  subst hk
  have h2 := hr
  unfold rightB at h2
  simp only [Bool.and_eq_true, inB, decide_eq_true_eq] at h2
  have h0 : 0 ≤ fr := by omega
  refine ⟨rfl, hl, fr.toNat, by omega, by omega, ?_⟩
  rw [Int.toNat_of_nonneg h0]
  exact hr
theorem rsK_snoc (f : Int) (ls : List CI) (x : CI) : rsK f (ls ++ [x]) = rsK f ls ++ [x.l - f] := by simp [rsK]
theorem csK_snoc (ls : List CI) (x : CI) : csK (ls ++ [x]) = csK ls ++ [x.cy] := by simp [csK]

theorem pc_add {A w : World} {b : Nat} {win : Int} {v : Value} {ls : List CI} (h : PC A w b win v ls) (hw : 0 ≤ win ∧ win ≤ 1048576) (o : Obj) (l k fr cy cr cl : Int) : ∃ (n e : Int) (Mid : World → Prop),
    (Calls Try.prog 11 #[.pointer (some ⟨b, 0, none⟩), .int .i64 l, ctl k fr cy cr cl] (w.alloc o) fun r w5 => r = .returned (.tuple #[.int .i64 n, .int .i64 e]) ∧ Mid w5 ∧ w5.heap[w.heap.size]? = some o) ∧
    ∀ w5, Mid w5 → Calls Try.prog 12 #[v, .int .i64 win, .int .i64 l, ctl k fr cy cr cl] w5 fun r w6 => ∃ v2 ls', r = .returned (.tuple #[v2, .int .i64 n, .int .i64 e]) ∧ PC A w6 b win v2 ls' := by
  have ga := gr_alloc (gr_refl w none) o
  have same : ∀ w5, (w.alloc o).grownBy w5 none → PC A w5 b win v ls ∧ w5.heap[w.heap.size]? = some o := fun w5 g => ⟨h.grown (gr_trans ga g), gr_heap g (heap_alloc_new w o) (by simp)⟩
  cases ht : takesB l k fr cy cr cl with
  | false =>
    obtain ⟨a, cap, rfl⟩ := h.row.slice
    refine ⟨0, 1, fun w5 => PC A w5 b win (.slice a ls.length cap) ls, (add_bad b l k fr cy cr cl (w.alloc o) ht).mono ?_, fun w5 h5 => (radd_bad a ls.length cap win l k fr cy cr cl w5 ht).mono ?_⟩
    · rintro r w5 ⟨rfl, g⟩
      exact ⟨rfl, same w5 g⟩
    · rintro r w6 ⟨rfl, g⟩
      exact ⟨_, ls, rfl, h5.grown g⟩
  | true =>
    obtain ⟨rfl, hl, n, rfl, hn, hr⟩ := takes_parts ht
    have hAs : A.heap.size ≤ w.heap.size := h.keep.size
    rcases h.st with ⟨rfl, rfl, f0, vr, vc, cm0, hc⟩ | ⟨hlen, cm, hC, hCr, hf, hin⟩
    · have hlt := hc.lt
      refine ⟨l + win, 0, fun w5 => Coll (fun q => q = w.heap.size) w5 b b win l [0] [cy] (2 ^ n) ∧ Below b A w5 ∧ A.heap.size ≤ w5.heap.size, (add_open (fun q => q = w.heap.size) b b win f0 vr vc cm0 l n cy cr cl n rfl hn (w.alloc o) (hc.kept ga (by simp)) (Nat.le_refl _) (fun q hq => ⟨by subst hq; simp, by omega⟩) hr hl hw).mono ?_, ?_⟩
      · rintro r w5 ⟨rfl, hC5, hB5, hq⟩
        refine ⟨rfl, ⟨hC5, (below_none h.keep h.sz ga).trans hB5, ?_⟩, (hq _ rfl).trans (heap_alloc_new w o)⟩
        have h8 := hB5.size
        simp at h8
        omega
      · rintro w5 ⟨hC5, hB5, hs5⟩
        refine (radd_first A.heap.size (.slice none 0 0) win l cy cr cl n w5 (World.ownsRow_nil _ _ _ _) hl hr hn hw hs5).mono ?_
        rintro r w6 ⟨v2, rfl, hL⟩
        have hbA := h.bA
        refine ⟨v2, _, rfl, hbA, hL.1, laid_below hB5 (by omega) hL (by simp [Value.ownBlock]), .inr ⟨by simp, 2 ^ n, ?_, Crew.one ⟨l, n, cy, cr, cl⟩ hn, hl, ?_⟩⟩
        · have h9 := Coll.laid (hC5.weaken (P := fun q => (Value.slice none 0 0).ownBlock = some q) (by simp [Value.ownBlock])) hL
          have e1 : rsK l [(⟨l, n, cy, cr, cl⟩ : CI)] = [0] := by simp [rsK]
          have e2 : csK [(⟨l, n, cy, cr, cl⟩ : CI)] = [cy] := by simp [csK]
          show Coll _ w6 b b win l (rsK l [(⟨l, n, cy, cr, cl⟩ : CI)]) (csK [(⟨l, n, cy, cr, cl⟩ : CI)]) (2 ^ n)
          rw [e1, e2]
          exact h9
        · intro i hi
          obtain rfl : i = 0 := by simp at hi; omega
          exact ⟨Int.le_refl _, by show l ≤ l + win; omega⟩
    · have hl6 := hCr.len
      have hbA := h.bA
      obtain ⟨f, hff⟩ : ∃ f, (cith ls 0).l = f := ⟨_, rfl⟩
      rw [hff] at hC hf hin
      by_cases hout : l < f ∨ f + win < l
      · obtain ⟨vr, vc, hc, -⟩ := hC.ex
        refine ⟨0, 4, fun w5 => PC A w5 b win v ls, (add_range b win f vr vc cm l n cy cr cl n rfl hn (w.alloc o) (hc.kept ga (by simp)) hr hl hout hf hw).mono ?_, fun w5 h5 => (radd_range A.heap.size v ls win l n cy cr cl f w5 h5.row hlen hff hl hf hr (by omega) hout hw).mono ?_⟩
        · rintro r w5 ⟨rfl, g⟩
          exact ⟨rfl, same w5 g⟩
        · rintro r w6 ⟨rfl, g⟩
          exact ⟨_, ls, rfl, h5.grown g⟩
      · have hin2 : f ≤ l ∧ l ≤ f + win := by omega
        cases hb : hasB cm n with
        | true =>
          obtain ⟨vr, vc, hc, -⟩ := hC.ex
          refine ⟨0, 7, fun w5 => PC A w5 b win v ls, (add_there b win f vr vc cm l n cy cr cl n rfl hn (w.alloc o) (hc.kept ga (by simp)) hCr.lt hr hl hin2 hf hw hb).mono ?_, fun w5 h5 => (radd_there A.heap.size v ls win l cy cr cl f n w5 h5.row hlen hff hl hf hr hn hin2 hw ((hCr.has n hn).1 hb) (by omega)).mono ?_⟩
          · rintro r w5 ⟨rfl, g⟩
            exact ⟨rfl, same w5 g⟩
          · rintro r w6 ⟨rfl, g⟩
            exact ⟨_, ls, rfl, h5.grown g⟩
        | false =>
          have hrl : (rsK f ls).length = ls.length := by simp [rsK]
          have hcl : (csK ls).length = ls.length := by simp [csK]
          refine ⟨f + win, 0, fun w5 => Coll (fun q => v.ownBlock = some q) w5 b b win f (rsK f ls ++ [l - f]) (csK ls ++ [cy]) (cm + 2 ^ n) ∧ Below b A w5 ∧ A.heap.size ≤ w5.heap.size ∧ KR w5 A.heap.size v ls, (add_more (fun q => v.ownBlock = some q ∨ q = w.heap.size) b b win f (rsK f ls) (csK ls) cm l n cy cr cl n rfl hn (w.alloc o) (hC.more ga (Nat.le_refl _) (by simp)) hCr.lt hr hl hin2 hf hw hb (by omega)).mono ?_, ?_⟩
          · rintro r w5 ⟨rfl, hC5, hB5, hq⟩
            refine ⟨rfl, ⟨hC5.weaken (fun q => .inl), (below_none h.keep h.sz ga).trans hB5, ?_, osame h.row fun q hv => ?_⟩, (hq _ (.inr rfl)).trans (heap_alloc_new w o)⟩
            · have h8 := hB5.size
              simp at h8
              omega
            · exact (hq q (.inl hv)).trans (ga.block q (h.row.lt q hv).2 (by simp))
          · rintro w5 ⟨hC5, hB5, hs5, hK5⟩
            refine (radd_more A.heap.size v ls win l cy cr cl f n w5 hK5 hlen hff hl hf hr hn hin2 hw (fun j hj e => by have := (hCr.has n hn).2 ⟨j, hj, e⟩; rw [hb] at this; cases this) (by omega) hs5).mono ?_
            rintro r w6 ⟨v2, rfl, hL⟩
            have hf0 : cith (ls ++ [(⟨l, n, cy, cr, cl⟩ : CI)]) 0 = cith ls 0 := cith_snoc0 _ hlen
            refine ⟨v2, _, rfl, hbA, hL.1, laid_below hB5 (by omega) hL (fun q hq => by have := (hK5.lt q hq).1; omega), .inr ⟨by simp, cm + 2 ^ n, ?_, hCr.add ⟨l, n, cy, cr, cl⟩ hn hb, ?_, ?_⟩⟩
            · rw [hf0, hff, rsK_snoc, csK_snoc]
              exact Coll.laid hC5 hL
            · rw [hf0, hff]; exact hf
            · rw [hf0, hff]
              intro i hi
              rcases Nat.lt_or_ge i ls.length with h9 | h9
              · rw [cith_lt _ h9]; exact hin i h9
              · have : i = ls.length := by simp at hi; omega
                subst this
                rw [cith_last]
                exact hin2
end Go.Proofs.Ytagoiidpcfjebaa
