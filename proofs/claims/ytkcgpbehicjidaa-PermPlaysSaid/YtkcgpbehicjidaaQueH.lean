/- Helpers for the queue's walks. -/
import Derived.Test.YtkcgpbehicjidaaQueB
namespace Go.Proofs.Ytkcgpbehicjidaa
open Go.RowKit Go.Lib

/-- append onto the call's own slice, as a step of a region that draws; and where the new slice lies. -/
theorem step_append_at {P : Program} {w : World} {ops : Array Oper} {o : Oper} {a : Act} {K : Act → World → Prop} {Q : Exit → Act → World → Prop} {E : Prop} (hgd : o.guard = none) (s x : Operand) (t : TypeId)
    (ho : o.op = .call { callee := .builtin .append, args := #[s, x], argTypes := #[t, t] })
    (base : Nat) (e : TypeId) (i : TypeInfo) (z : Value) (size bytes : Nat) (ht : P.underlying t = some (.slice e)) (hi : P.info? e = some i) (hz : i.zero = some z)
    (hsize : i.size = size) (hby : i.bytes = bytes) (hzs : z.cells.size = size) (hsz : 0 < size)
    (v : Value) (n : Nat) (xs : List Value) (hs : a.eval s = v) (hown : w.ownsRow base e size v n xs)
    (ad : Addr) (m c : Nat) (news : List Value) (hx : a.eval x = .slice (some ad) m c) (hl : news.length = m * size) (hnews : ∀ j u, news[j]? = some u → w.cell? (ad.add j) = some u) (h1 : ∀ u ∈ news, u.oneCell' = true)
    (h63 : n + m ≤ maxLen) (hbytes : (n + m) * bytes ≤ 140737488355328) (hbase : base ≤ w.heap.size)
    (h : ∀ v' w', w'.ownsRow base e size v' (n + m) (xs ++ news) → w.grownBy w' v.ownBlock → (v'.ownBlock = v.ownBlock ∨ v'.ownBlock = some w.heap.size) → K (a.put o.dst v') w') :
    if Region.wanted o (yielded ops a.tmps) = true then Oper.wp P o a w K Q else E := by
  have hw : Region.wanted o (yielded ops a.tmps) = true := by simp [Region.wanted, hgd]
  rw [if_pos hw]
  obtain ⟨v', w', hr, h2, h3, h4, h5⟩ := run_append_own_at (P := P) w base t o.type e i z size bytes ht hi hz hsize hby hzs hsz v n xs hown ad m c news hl hnews h1 h63 hbytes hbase
  unfold Oper.wp execOp
  simp only [ho, resolve, invoke, builtin, Sem.run_bind, Sem.run_pure, Result.andThen_ok, List.map_toArray, List.map_cons, List.map_nil, hs, hx, hr]
  exact h v' w' h2 h3 h5

/-- Behind a region: one frame, one world's facts; the ways that the region took are forgotten. -/
def Behind (F : Nat → Nat → Act) (S : Nat → Nat → World → Prop) : Exit → Act → World → Prop
  | .normal, a, W => ∃ g c, a = F g c ∧ S g c W
  | _, _, _ => False
theorem wp_behind {P : Program} {code : Code} {Q : Exit → Act → World → Prop} {a : Act} {w : World} {F : Nat → Nat → Act} (S : Nat → Nat → World → Prop) (h : code.wp P (Behind F S) a w) (k : ∀ g c W, S g c W → Q .normal (F g c) W) : code.wp P Q a w :=
  Code.wp_mono (fun e a W hb => by
    cases e with
    | normal => obtain ⟨g, c, ha, hs⟩ := hb; subst ha; exact k g c W hs
    | _ => exact (hb : False).elim) h
/-- The same where nothing new has a name. -/
def Behind0 (F : Act) (S : World → Prop) : Exit → Act → World → Prop
  | .normal, a, W => a = F ∧ S W
  | _, _, _ => False
theorem wp_behind0 {P : Program} {code : Code} {Q : Exit → Act → World → Prop} {a : Act} {w : World} {F : Act} (S : World → Prop) (h : code.wp P (Behind0 F S) a w) (k : ∀ W, S W → Q .normal F W) : code.wp P Q a w :=
  Code.wp_mono (fun e a W hb => by
    cases e with
    | normal => obtain ⟨ha, hs⟩ := hb; subst ha; exact k W hs
    | _ => exact (hb : False).elim) h
/-- A world that has only grown since w. -/
structure Grn (w : World) where
  W : World
  gr : w.grownBy W none
instance {w : World} : Nonempty (Grn w) := ⟨⟨w, gr_refl w none⟩⟩
/-- A region that draws its order, whose operations only read and whose callees only grow the world: one walk, in the text's order. -/
theorem wp_region_grown {P : Program} {id : Nat} {Q : Exit → Act → World → Prop} {a : Act} {w : World} {l : List Oper} (hm : P.follows .mixedOrders = true) (hB : Region.lexB .any l.toArray = true)
    (h : wpQuiet P l.toArray (fun w' => ∃ X : Grn w, w' = X.W) (fun a' => ∀ w', (∃ X : Grn w, w' = X.W) → Q .normal a' w') l a) : (Code.region id l.toArray true).wp P Q a w :=
  wp_region_quiet (C := fun w' => ∃ X : Grn w, w' = X.W) hm hB ⟨⟨_, gr_drew (gr_refl w none)⟩, rfl⟩ (by
    have e : l.toArray.toList = l := by simp
    rw [e]
    exact h)
theorem grn_cell {w : World} {p : Addr} {v : Value} (h : w.cell? p = some v) : ∀ X : Grn w, X.W.cell? p = some v := fun X => gr_cell X.gr h
theorem own_slice {w : World} {base e size n : Nat} {v : Value} {xs : List Value} (h : w.ownsRow base e size v (n + 1) xs) : ∃ g cap, v = .slice (some ⟨g, 0, none⟩) (n + 1) cap := by
  rcases h.2 with ⟨_, h0⟩ | ⟨g, cap, cur, rfl, _⟩
  · omega
  · exact ⟨g, cap, rfl⟩
theorem cells_new (w : World) (l : List Value) (t : TypeId) : ∀ j u, l[j]? = some u → (w.alloc (.cells l.toArray t)).cell? ((⟨w.heap.size, 0, none⟩ : Addr).add j) = some u := by
  intro j u hj
  have e : (⟨w.heap.size, 0, none⟩ : Addr).add j = ⟨w.heap.size, j, none⟩ := by
    simp only [Addr.add]
    split
    · rename_i h; rw [h]
    · simp
  rw [e, World.cell?_alloc_new]
  simpa using hj
theorem cell_of {w : World} {b : Nat} {cells : Array Value} {t : TypeId} (h : w.heap[b]? = some (.cells cells t)) (i : Nat) (v : Value) (hv : cells[i]? = some v) : w.cell? ⟨b, i, none⟩ = some v := by simp [World.cell?, h, hv]
theorem frozen_of {w : World} {b : Nat} {cells : Array Value} {t : TypeId} (h : w.heap[b]? = some (.cells cells t)) (i : Nat) : w.frozen? ⟨b, i, none⟩ = false := by simp [World.frozen?, h]

theorem ith_snoc_last (xs : List It) (x : It) : ith (xs ++ [x]) xs.length = x := by simp [ith]
theorem ith_snoc_lt {xs : List It} {i : Nat} (x : It) (h : i < xs.length) : ith (xs ++ [x]) i = ith xs i := by simp [ith, List.getElem?_append_left h]
/-- The cells of one item of the row. -/
theorem row_item {w : World} {base g n cap : Nat} {xs : List It} (h : w.ownsRow base 89 9 (.slice (some ⟨g, 0, none⟩) n cap) n (flatC xs)) (hl : xs.length = n) {i : Nat} (hi : i < n) {x : It} (hx : ith xs i = x) :
    w.cell? ⟨g, i * 9, none⟩ = some (.int .i64 x.t) ∧ w.cell? ⟨g, i * 9 + 1, none⟩ = some (.int .i64 x.r) ∧ w.cell? ⟨g, i * 9 + 2, none⟩ = some (.int .i64 x.n) ∧ w.cell? ⟨g, i * 9 + 3, none⟩ = some (.int .u64 x.u) ∧
      w.cell? ⟨g, i * 9 + 4, none⟩ = some (.int .i64 x.k) ∧ w.cell? ⟨g, i * 9 + 5, none⟩ = some (.int .i64 x.fr) ∧ w.cell? ⟨g, i * 9 + 6, none⟩ = some (.int .i64 x.cy) ∧ w.cell? ⟨g, i * 9 + 7, none⟩ = some (.int .u32 x.cr) ∧ w.cell? ⟨g, i * 9 + 8, none⟩ = some (.int .i64 x.cl) := by
  have key : ∀ c, c < 9 → w.cell? ⟨g, i * 9 + c, none⟩ = (itC x)[c]? := fun c hc => by
    rw [h.cellAt (i * 9 + c) (by omega), flatC_at (by omega) hc, hx]
  exact ⟨key 0 (by omega), key 1 (by omega), key 2 (by omega), key 3 (by omega), key 4 (by omega), key 5 (by omega), key 6 (by omega), key 7 (by omega), key 8 (by omega)⟩

theorem Try.info_item : (Try.prog.info? 89).map (fun i => (i.zero, i.size, i.bytes)) = some (some (.agg #[.int .i64 0, .int .i64 0, .int .i64 0, .int .u64 0, .int .i64 0, .int .i64 0, .int .i64 0, .int .u32 0, .int .i64 0]), 9, 72) := by kernel_rfl

end Go.Proofs.Ytkcgpbehicjidaa
