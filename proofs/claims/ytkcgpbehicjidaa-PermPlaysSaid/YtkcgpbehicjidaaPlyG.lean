/- What a script of a hold does, in terms of what it goes by (PJ). -/
import Derived.Test.YtkcgpbehicjidaaPlyE
namespace Go.Proofs.Ytkcgpbehicjidaa
open Go.RowKit Go.Lib

section
variable {dl : Int} {B b wb q : Nat} {w3 W : World} {m ba r m2 ba2 r2 : Int} {sv : Value} {ls hs : List It} {num : Int}
theorem PJ.perm {hs' : List It} (h : PJ dl B b wb q w3 W m ba r m2 ba2 r2 sv ls hs num) (hp : hs.Perm hs') : PJ dl B b wb q w3 W m ba r m2 ba2 r2 sv ls hs' num where
  ap := h.ap
  clk := h.clk
  tri := h.tri
  hld := h.hld
  ls := h.ls
  qs := by obtain ⟨ys, hy, hq⟩ := h.qs; exact ⟨ys, ⟨hy.1.trans hp, hy.2⟩, hq⟩
  keep := h.keep
  sz := h.sz
  far := h.far
end
theorem PJ.cut {dl : Int} {B b wb q : Nat} {w3 W : World} {m ba r m2 ba2 r2 : Int} {sv : Value} {ls hs : List It} {num : Int} {v2 : Value} {ls' : List It} (h : PJ dl B b wb q w3 W m ba r m2 ba2 r2 sv ls hs num) (hl : LS W v2 ls') (hv : v2.ownBlock = sv.ownBlock) : PJ dl B b wb q w3 W m ba r m2 ba2 r2 v2 ls' hs num where
  ap := h.ap
  clk := h.clk
  tri := h.tri
  hld := h.hld
  ls := hl
  qs := by
    obtain ⟨ys, hy, hq⟩ := h.qs
    exact ⟨ys, hy, hq.weaken fun k hk => hk.imp id fun e => hv ▸ e⟩
  keep := h.keep
  sz := h.sz
  far := by rw [hv]; exact h.far
abbrev P2 (B q o : Nat) (sv : Value) : Nat → Prop := fun k => P0 B q sv k ∨ k = o
/-- The queue at the world with an operation's box. -/
theorem PJ.boxed {dl : Int} {B b wb q : Nat} {w3 w : World} {m ba r m2 ba2 r2 : Int} {sv : Value} {ls hs : List It} {num : Int} (h : PJ dl B b wb q w3 w m ba r m2 ba2 r2 sv ls hs num) (o : Obj) :
    PJ dl B b wb q w3 (w.alloc o) m ba r m2 ba2 r2 sv ls hs num ∧ ∃ ys, (ys.Perm hs ∧ IsHeap ys) ∧ QS (P2 B q w.heap.size sv) (w.alloc o) B q num ys := by
  have g := gr_alloc (gr_refl w none) o
  obtain ⟨ys, hy, hq⟩ := h.qs
  exact ⟨h.grown g, ys, hy, hq.more g (Nat.le_refl _) (by simp)⟩
theorem ply_take {dl : Int} {B b wb q : Nat} {w3 w : World} {m ba r m2 ba2 r2 : Int} {sv : Value} {ls hs : List It} {num : Int} (h : PJ dl B b wb q w3 w m ba r m2 ba2 r2 sv ls hs num) (o : Obj) (ho : ClockOk m ba r) (hn : 0 ≤ num ∧ num ≤ 4611686018427387904) (hd : 0 ≤ dl ∧ dl ≤ 1048576)
    (t k fr cy cr cl v f : Int) (ht : Took m ba r t dl k fr cy cr cl hs.length v f) :
    Calls Try.prog 11 #[.pointer (some ⟨q + 1, 0, none⟩), .pointer (some ⟨b, 0, none⟩), .int .i64 t, .agg #[.int .i64 k, .int .i64 fr, .int .i64 cy, .int .u32 cr, .int .i64 cl]] (w.alloc o) fun e w' =>
      e = .returned (.tuple #[.int .i64 v, .int .i64 f]) ∧ PJ dl B b wb q w3 w' m ba r m2 ba2 r2 sv ls (if f = 0 then hs ++ [⟨v, fr, 0, num + 1, k, fr, cy, cr, cl⟩] else hs) (if f = 0 then num + 1 else num) ∧ w'.heap[w.heap.size]? = some o := by
  obtain ⟨h1, ys, ⟨hp, hh⟩, hq⟩ := h.boxed o
  rw [← hp.length_eq] at ht
  refine (take_all (P2 B q w.heap.size sv) b B (q + 1) q m ba r dl t k fr cy cr cl num v f ys (w.alloc o) h1.hld h1.clk ho hd hq hn hh ht).mono ?_
  rintro e w' ⟨rfl, ⟨zs, ⟨hz, hzh⟩, hQ⟩, hK⟩
  refine ⟨rfl, h1.queue ⟨zs, ⟨hz.trans ?_, hzh⟩, hQ.weaken fun k hk => .inl hk⟩ (hK.weaken fun k hk => .inl hk), (hK.block w.heap.size (.inr rfl)).trans (heap_alloc_new w o)⟩
  by_cases hf : f = 0
  · rw [if_pos hf, if_pos hf]; exact hp.append_right _
  · rw [if_neg hf, if_neg hf]; exact hp
theorem ply_rtake {dl : Int} {B b wb q : Nat} {w3 w : World} {m ba r m2 ba2 r2 : Int} {sv : Value} {ls hs : List It} {num : Int} (h : PJ dl B b wb q w3 w m ba r m2 ba2 r2 sv ls hs num) (ho : ClockOk m ba r)
    (n t k fr cy cr cl v f : Int) (ht : Took m ba r t dl k fr cy cr cl ls.length v f) :
    Calls Try.prog 16 #[sv, .int .i64 dl, rclk m ba r, .int .i64 t, .agg #[.int .i64 k, .int .i64 fr, .int .i64 cy, .int .u32 cr, .int .i64 cl]] w fun e w' =>
      ∃ v2, e = .returned (.tuple #[v2, .int .i64 v, .int .i64 f]) ∧ PJ dl B b wb q w3 w' m ba r m2 ba2 r2 v2 (if f = 0 then insH ⟨v, fr, 0, n + 1, k, fr, cy, cr, cl⟩ ls else ls) hs num := by
  refine (rtake_all m ba r dl t k fr cy cr cl n v f ls sv w ho h.ls ht).mono ?_
  rintro e w' ⟨v2, rfl, hl, hv, g⟩
  exact ⟨v2, rfl, h.list g hl hv⟩
theorem ply_both {dl : Int} {B b wb q : Nat} {w3 w : World} {m ba r m2 ba2 r2 : Int} {sv : Value} {ls : List It} {num : Int} {t k fr cy cr cl v f : Int} (hs : Srt num ls) (hl : ls.length ≤ 64) (ht : Took m ba r t dl k fr cy cr cl ls.length v f)
    (h : PJ dl B b wb q w3 w m ba r m2 ba2 r2 sv (if f = 0 then insH ⟨v, fr, 0, num + 1, k, fr, cy, cr, cl⟩ ls else ls) (if f = 0 then ls ++ [⟨v, fr, 0, num + 1, k, fr, cy, cr, cl⟩] else ls) (if f = 0 then num + 1 else num)) :
    ∃ (num' : Int) (ls' : List It), Srt num' ls' ∧ ls'.length ≤ 64 ∧ (num ≤ num' ∧ num' ≤ num + 1) ∧ PJ dl B b wb q w3 w m ba r m2 ba2 r2 sv ls' ls' num' := by
  by_cases hf : f = 0
  · subst hf
    rw [if_pos rfl, if_pos rfl, if_pos rfl] at h
    have hlen : ls.length < 64 := by
      cases ht with
      | late _ _ _ _ hf => exact absurd rfl hf
      | ok _ _ _ _ hl => exact hl
    have hp := insH_perm ⟨v, fr, 0, num + 1, k, fr, cy, cr, cl⟩ ls
    exact ⟨num + 1, _, hs.ins ⟨rfl, rfl, rfl⟩, by rw [hp.length_eq]; simp; omega, ⟨by omega, by omega⟩, h.perm hp.symm⟩
  · rw [if_neg hf, if_neg hf, if_neg hf] at h
    exact ⟨num, ls, hs, hl, ⟨by omega, by omega⟩, h⟩
theorem ply_give_none {dl : Int} {B b wb q : Nat} {w3 w : World} {m ba r m2 ba2 r2 : Int} {sv : Value} {num : Int} (h : PJ dl B b wb q w3 w m ba r m2 ba2 r2 sv [] [] num) (o : Obj) (t : Int) :
    Calls Try.prog 12 #[.pointer (some ⟨q + 1, 0, none⟩), .int .i64 t] (w.alloc o) fun e w' =>
      e = .returned (.tuple #[.agg #[.int .i64 0, .int .i64 0, .int .i64 0, .int .u32 0, .int .i64 0], .int .i64 0, .bool false]) ∧ PJ dl B b wb q w3 w' m ba r m2 ba2 r2 sv [] [] num ∧ w'.heap[w.heap.size]? = some o := by
  obtain ⟨h1, ys, ⟨hp, _⟩, hq⟩ := h.boxed o
  refine (give_none (P2 B q w.heap.size sv) B (q + 1) q dl num t ys (w.alloc o) h1.hld hq (by rw [hp.length_eq]; rfl)).mono ?_
  rintro e w' ⟨rfl, g⟩
  exact ⟨rfl, h1.grown g, gr_heap g (heap_alloc_new w o) (by simp)⟩
theorem ply_give_late {dl : Int} {B b wb q : Nat} {w3 w : World} {m ba r m2 ba2 r2 : Int} {sv : Value} {num : Int} {x : It} {ls : List It} (h : PJ dl B b wb q w3 w m ba r m2 ba2 r2 sv (x :: ls) (x :: ls) num) (hs : Srt num (x :: ls)) (hl : (x :: ls).length ≤ 64) (o : Obj) (t : Int) (hx : t < x.t) :
    Calls Try.prog 12 #[.pointer (some ⟨q + 1, 0, none⟩), .int .i64 t] (w.alloc o) fun e w' =>
      e = .returned (.tuple #[.agg #[.int .i64 0, .int .i64 0, .int .i64 0, .int .u32 0, .int .i64 0], .int .i64 0, .bool false]) ∧ PJ dl B b wb q w3 w' m ba r m2 ba2 r2 sv (x :: ls) (x :: ls) num ∧ w'.heap[w.heap.size]? = some o := by
  obtain ⟨h1, ys, ⟨hp, hh⟩, hq⟩ := h.boxed o
  have he := hp.length_eq
  obtain ⟨hx0, _⟩ := srt_first hs hp hh
  refine (give_late (P2 B q w.heap.size sv) B (q + 1) q dl num t ys x (w.alloc o) h1.hld hq (by rw [he]; simp) (by omega) hx0 hx).mono ?_
  rintro e w' ⟨rfl, g⟩
  exact ⟨rfl, h1.grown g, gr_heap g (heap_alloc_new w o) (by simp)⟩
theorem ply_give {dl : Int} {B b wb q : Nat} {w3 w : World} {m ba r m2 ba2 r2 : Int} {sv : Value} {num : Int} {x : It} {ls : List It} (h : PJ dl B b wb q w3 w m ba r m2 ba2 r2 sv (x :: ls) (x :: ls) num) (hs : Srt num (x :: ls)) (hl : (x :: ls).length ≤ 64) (o : Obj) (t : Int) (hx : x.t ≤ t) :
    Calls Try.prog 12 #[.pointer (some ⟨q + 1, 0, none⟩), .int .i64 t] (w.alloc o) fun e w' =>
      e = .returned (.tuple #[.agg #[.int .i64 x.k, .int .i64 x.fr, .int .i64 x.cy, .int .u32 x.cr, .int .i64 x.cl], .int .i64 x.t, .bool true]) ∧ PJ dl B b wb q w3 w' m ba r m2 ba2 r2 sv (x :: ls) ls num ∧ w'.heap[w.heap.size]? = some o := by
  obtain ⟨h1, ys, ⟨hp, hh⟩, hq⟩ := h.boxed o
  have he := hp.length_eq
  obtain ⟨hx0, hpop⟩ := srt_first hs hp hh
  refine (give_first (P2 B q w.heap.size sv) B (q + 1) q dl num t ys x (w.alloc o) h1.hld hq hh (by rw [he]; simp) (by omega) hx0 hx).mono ?_
  rintro e w' ⟨rfl, ⟨zs, ⟨hz, hzh⟩, hQ⟩, hK⟩
  exact ⟨rfl, h1.queue ⟨zs, ⟨hz.trans hpop, hzh⟩, hQ.weaken fun k hk => .inl hk⟩ (hK.weaken fun k hk => .inl hk), (hK.block w.heap.size (.inr rfl)).trans (heap_alloc_new w o)⟩
theorem ply_next_none {dl : Int} {B b wb q : Nat} {w3 w : World} {m ba r m2 ba2 r2 : Int} {sv : Value} {num : Int} (h : PJ dl B b wb q w3 w m ba r m2 ba2 r2 sv [] [] num) :
    Calls Try.prog 15 #[.pointer (some ⟨q + 1, 0, none⟩)] w fun e w' => e = .returned (.tuple #[.int .i64 0, .bool false]) ∧ PJ dl B b wb q w3 w' m ba r m2 ba2 r2 sv [] [] num := by
  obtain ⟨ys, ⟨hp, _⟩, hq⟩ := h.qs
  refine (next_none (P0 B q sv) B (q + 1) q dl num ys w h.hld hq (by rw [hp.length_eq]; rfl)).mono ?_
  rintro e w' ⟨rfl, g⟩
  exact ⟨rfl, h.grown g⟩
theorem ply_next {dl : Int} {B b wb q : Nat} {w3 w : World} {m ba r m2 ba2 r2 : Int} {sv : Value} {num : Int} {x : It} {ls : List It} (h : PJ dl B b wb q w3 w m ba r m2 ba2 r2 sv (x :: ls) (x :: ls) num) (hs : Srt num (x :: ls)) (hl : (x :: ls).length ≤ 64) :
    Calls Try.prog 15 #[.pointer (some ⟨q + 1, 0, none⟩)] w fun e w' => e = .returned (.tuple #[.int .i64 x.t, .bool true]) ∧ PJ dl B b wb q w3 w' m ba r m2 ba2 r2 sv (x :: ls) (x :: ls) num := by
  obtain ⟨ys, ⟨hp, hh⟩, hq⟩ := h.qs
  have he := hp.length_eq
  obtain ⟨hx0, _⟩ := srt_first hs hp hh
  refine (next_first (P0 B q sv) B (q + 1) q dl num ys x w h.hld hq (by rw [he]; simp) (by omega) hx0).mono ?_
  rintro e w' ⟨rfl, g⟩
  exact ⟨rfl, h.grown g⟩
theorem ply_len {dl : Int} {B b wb q : Nat} {w3 w : World} {m ba r m2 ba2 r2 : Int} {sv : Value} {num : Int} {ls hs : List It} {n : Nat} (h : PJ dl B b wb q w3 w m ba r m2 ba2 r2 sv ls hs num) (hn : hs.length = n) :
    Calls Try.prog 13 #[.pointer (some ⟨q + 1, 0, none⟩)] w fun e w' => e = .returned (.int .i64 (n : Int)) ∧ w' = w := by
  obtain ⟨ys, ⟨hp, _⟩, hq⟩ := h.qs
  have he := hp.length_eq
  rw [hn] at he
  rw [← he]
  exact len_at (P0 B q sv) B (q + 1) q dl num ys w h.hld hq
/-- The first of the list lies where the list begins. -/
theorem ply_first {W : World} {sv : Value} {x : It} {ls : List It} (h : LS W sv (x :: ls)) : ∃ g off cap, sv = .slice (some ⟨g, off, none⟩) (ls.length + 1) cap ∧ ls.length + 1 ≤ cap ∧ (∀ c, c < 6 → W.cell? ⟨g, off + c, none⟩ = (hC x)[c]?) ∧ LS W (.slice (some ⟨g, off + 6, none⟩) ls.length (cap - 1)) ls := by
  rcases h with ⟨h0, _⟩ | ⟨g, off, cap, rfl, hc, hg, hcell⟩
  · simp at h0
  · refine ⟨g, off, cap, rfl, hc, fun c hc' => ?_, LS.tail hc hg hcell⟩
    have := hcell 0 (by simp) c hc'
    simpa [ith] using this
theorem ply_cells {W : World} {g off n cap : Nat} {x : It} {ls : List It} (h : LS W (.slice (some ⟨g, off, none⟩) n cap) (x :: ls)) : (∀ c, c < 6 → W.cell? ⟨g, off + c, none⟩ = (hC x)[c]?) ∧ LS W (.slice (some ⟨g, off + 6, none⟩) ls.length (cap - 1)) ls := by
  obtain ⟨g', off', cap', e, _, hc, ht⟩ := ply_first h
  injection e with e1 e2 e3
  injection e1 with e4
  injection e4 with e5 e6
  subst e5; subst e6; subst e3
  exact ⟨hc, ht⟩
theorem ply_end {w A wr : World} {B b wb q : Nat} (GA : w.grownBy A none) (hK : Keeps (P1 B b wb q) A wr) (hq : w.heap.size < q) (hb : b = q + 2) (hw : w.heap.size ≤ wb) (hB : q + 1 < B) : w.grownBy wr none :=
  ⟨hK.os.trans GA.os, hK.tape.trans GA.tape, hK.output.trans GA.output, Nat.le_trans GA.size hK.size, fun k hk _ => (hK.block k ⟨by omega, by omega, by omega, by omega⟩).trans (GA.block k hk (by simp))⟩
end Go.Proofs.Ytkcgpbehicjidaa
