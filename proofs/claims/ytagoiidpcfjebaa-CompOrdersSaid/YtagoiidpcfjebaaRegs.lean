/- Steps of a region that draws its order: an append, a call. -/
import Derived.Test.YtagoiidpcfjebaaRefSorted
import Derived.Deep.RegionLaw
import Derived.Maps.AppendAt
namespace Go.Proofs.Ytagoiidpcfjebaa
open Go.RowKit Go.Lib

theorem step_append_own {P : Program} {w : World} {ops : Array Oper} {o : Oper} {a : Act} {K : Act → World → Prop} {Q : Exit → Act → World → Prop} {E : Prop} (hgd : o.guard = none) (s x : Operand) (t : TypeId)
    (ho : o.op = .call { callee := .builtin .append, args := #[s, x], argTypes := #[t, t] })
    (base : Nat) (e : TypeId) (i : TypeInfo) (z : Value) (size bytes : Nat) (ht : P.underlying t = some (.slice e)) (hi : P.info? e = some i) (hz : i.zero = some z)
    (hsize : i.size = size) (hby : i.bytes = bytes) (hzs : z.cells.size = size) (hsz : 0 < size)
    (v : Value) (n : Nat) (xs : List Value) (hs : a.eval s = v) (hown : w.ownsRow base e size v n xs)
    (ad : Addr) (m c : Nat) (news : List Value) (hx : a.eval x = .slice (some ad) m c) (hl : news.length = m * size) (hnews : ∀ j u, news[j]? = some u → w.cell? (ad.add j) = some u) (h1 : ∀ u ∈ news, u.oneCell' = true)
    (h63 : n + m ≤ maxLen) (hbytes : (n + m) * bytes ≤ 140737488355328) (hbase : base ≤ w.heap.size)
    (h : ∀ v' w', w'.ownsRow base e size v' (n + m) (xs ++ news) → w.grownBy w' v.ownBlock → K (a.put o.dst v') w') :
    if Region.wanted o (yielded ops a.tmps) = true then Oper.wp P o a w K Q else E := by
  have hw : Region.wanted o (yielded ops a.tmps) = true := by simp [Region.wanted, hgd]
  rw [if_pos hw]
  exact wp_append_own w s x t ho base e i z size bytes ht hi hz hsize hby hzs hsz v n xs hs hown ad m c news hx hl hnews h1 h63 hbytes hbase fun v' w' h2 h3 _ => h v' w' h2 h3

theorem one_ints (l : List Int) : ∀ u ∈ l.map (Value.int .i64), u.oneCell' = true := by
  intro u hu
  obtain ⟨x, _, rfl⟩ := List.mem_map.1 hu
  rfl

theorem add_lit_ints (b off j : Nat) : (⟨b, off, none⟩ : Addr).add j = ⟨b, off + j, none⟩ := by
  simp only [Addr.add]
  split
  · rename_i h; rw [h]; rfl
  · rfl
theorem ints_news {n₀ : Nat} {w : World} {ad : Addr} {cap : Nat} {zs : List Int} (h : Ints n₀ w (.slice (some ad) zs.length cap) zs) : ∀ j u, (zs.map (Value.int .i64))[j]? = some u → w.cell? (ad.add j) = some u := by
  intro j u hj
  rcases h with ⟨_, _, _, rfl⟩ | ⟨b, off, cap', e, _, hc⟩
  · simp at hj
  · cases e
    have hlt : j < zs.length := by have := (List.getElem?_eq_some_iff.1 hj).1; simpa using this
    have := hc j hlt
    rw [add_lit_ints, this, ← hj]
    simp [hlt]

/-- The cells of the numbers from number k on. -/
theorem ints_from {n₀ : Nat} {w : World} {b off cap : Nat} {zs : List Int} (h : Ints n₀ w (.slice (some ⟨b, off, none⟩) zs.length cap) zs) (k : Nat) : ∀ j u, ((zs.drop k).map (Value.int .i64))[j]? = some u → w.cell? ((⟨b, off + k, none⟩ : Addr).add j) = some u := by
  intro j u hj
  have := ints_news h (k + j) u (by rw [List.getElem?_map] at hj ⊢; rwa [List.getElem?_drop] at hj)
  rw [add_lit_ints] at this ⊢
  rwa [Nat.add_assoc]
theorem ints_upto {n₀ : Nat} {w : World} {b off cap : Nat} {zs : List Int} (h : Ints n₀ w (.slice (some ⟨b, off, none⟩) zs.length cap) zs) (k : Nat) : ∀ j u, ((zs.take k).map (Value.int .i64))[j]? = some u → w.cell? ((⟨b, off, none⟩ : Addr).add j) = some u := by
  intro j u hj
  refine ints_news h j u ?_
  rw [List.getElem?_map] at hj ⊢
  have hlt : j < (zs.take k).length := by
    have := hj
    cases hq : (zs.take k)[j]? with
    | none => rw [hq] at this; simp at this
    | some y => exact (List.getElem?_eq_some_iff.1 hq).1
  rw [List.length_take] at hlt
  rwa [List.getElem?_take_of_lt (by omega)] at hj

/-- A call of a function by its contract. -/
theorem step_call {P : Program} {w : World} {ops : Array Oper} {o : Oper} {a : Act} {K : Act → World → Prop} {Q : Exit → Act → World → Prop} {E : Prop} (hgd : o.guard = none) {f : FuncId} {xs : Array Value}
    (hrun : (execOp a.eval o).run P w = .ok (.enter f xs) w) (h : Calls P f xs w fun e w' => ∃ v, e = .returned v ∧ K (a.put o.dst v) w') :
    if Region.wanted o (yielded ops a.tmps) = true then Oper.wp P o a w K Q else E := by
  have hw : Region.wanted o (yielded ops a.tmps) = true := by simp [Region.wanted, hgd]
  rw [if_pos hw]
  unfold Oper.wp
  rw [hrun]
  refine h.mono ?_
  rintro e w' ⟨v, rfl, hk⟩
  exact hk
end Go.Proofs.Ytagoiidpcfjebaa
