/- The document's collection: its frames as they lie; its own RightControl. -/
import Derived.Test.YtagoiidpcfjebaaMean
import Derived.Test.YtagoiidpcfjebaaFrame
import Derived.Deep.QuietTactic
import Derived.BigQuiet
import Derived.Maps.AppendAt
namespace Go.Proofs.Ytagoiidpcfjebaa
open Go.RowKit Go.Lib

theorem kcell {w : World} {b : Nat} {cells : Array Value} {t : TypeId} (h : w.heap[b]? = some (.cells cells t)) (i : Nat) (v : Value) (hv : cells[i]? = some v) : w.cell? ⟨b, i, none⟩ = some v := by simp [World.cell?, h, hv]
structure CI where
  l : Int
  h : Nat
  cy : Int
  cr : Int
  cl : Int
def cith (ls : List CI) (i : Nat) : CI := ls[i]?.getD ⟨0, 0, 0, 0, 0⟩
def cC (x : CI) : List Value := [.int .i64 x.l, .int .i64 1, .int .i64 (x.h : Int), .int .i64 x.cy, .int .u32 x.cr, .int .i64 x.cl]
theorem cC_length (x : CI) : (cC x).length = 6 := rfl
def flatK (xs : List CI) : List Value := xs.flatMap cC
theorem flatK_snoc (xs : List CI) (x : CI) : flatK (xs ++ [x]) = flatK xs ++ cC x := by simp [flatK]
theorem flatK_at {xs : List CI} {i c : Nat} (hi : i < xs.length) (hc : c < 6) : (flatK xs)[i * 6 + c]? = (cC (cith xs i))[c]? := by
  induction xs generalizing i with
  | nil => simp at hi
  | cons x l ih =>
    have e : flatK (x :: l) = cC x ++ flatK l := by simp [flatK]
    rw [e]
    cases i with
    | zero =>
      rw [List.getElem?_append_left (by rw [cC_length]; omega)]
      simp [cith]
    | succ i =>
      rw [List.getElem?_append_right (by rw [cC_length]; omega), cC_length]
      have e2 : (i + 1) * 6 + c - 6 = i * 6 + c := by omega
      rw [e2, ih (by simpa using hi)]
      simp [cith]
/-- The collection's row, its own. -/
abbrev KR (W : World) (base : Nat) (v : Value) (ls : List CI) : Prop := W.ownsRow base 43 6 v ls.length (flatK ls)
theorem KR.slice {W : World} {base : Nat} {v : Value} {ls : List CI} (h : KR W base v ls) : ∃ a cap, v = .slice a ls.length cap := by
  rcases h.2 with ⟨rfl, h0⟩ | ⟨g, cap, cur, rfl, _⟩
  · rw [h0]; exact ⟨_, _, rfl⟩
  · exact ⟨_, _, rfl⟩
theorem KR.cells {W : World} {base : Nat} {v : Value} {ls : List CI} (h : KR W base v ls) (h1 : 0 < ls.length) : ∃ g cap, v = .slice (some ⟨g, 0, none⟩) ls.length cap ∧ ls.length ≤ cap ∧ (base ≤ g ∧ g < W.heap.size) ∧ ∀ W' : World, W'.heap[g]? = W.heap[g]? → ∀ i, i < ls.length →
    (W'.cell? ⟨g, i * 6, none⟩ = some (.int .i64 (cith ls i).l) ∧ W'.cell? ⟨g, i * 6 + 1, none⟩ = some (.int .i64 1) ∧ W'.cell? ⟨g, i * 6 + 2, none⟩ = some (.int .i64 ((cith ls i).h : Int)) ∧ W'.cell? ⟨g, i * 6 + 3, none⟩ = some (.int .i64 (cith ls i).cy)) := by
  rcases h.2 with ⟨rfl, h0⟩ | ⟨g, cap, cur, rfl, hb, hh, hn, _⟩
  · omega
  · refine ⟨g, cap, rfl, hn, h.lt g rfl, fun W' hW i hi => ?_⟩
    have key : ∀ c, c < 6 → W'.cell? ⟨g, i * 6 + c, none⟩ = (cC (cith ls i))[c]? := fun c hc => by
      have := h.cellAt (i * 6 + c) (by omega)
      rw [← flatK_at hi hc, ← this]
      simp only [World.cell?, hW]
    exact ⟨key 0 (by omega), key 1 (by omega), key 2 (by omega), key 3 (by omega)⟩

set_option maxRecDepth 100000 in
set_option maxHeartbeats 4000000 in
theorem rright_any (k fr cy cr cl : Int) (w : World) :
    Calls Try.prog 23 #[.agg #[.int .i64 k, .int .i64 fr, .int .i64 cy, .int .u32 cr, .int .i64 cl]] w fun e w' => e = .returned (.bool (rightB k fr cy cr cl)) ∧ w.grownBy w' none := by
  obtain ⟨r, hr⟩ : ∃ r, Hid (rightB k fr cy cr cl = r) := ⟨_, hid rfl⟩
  rw [hr.out]
  go_enter Try.func23, Try.ntmps23
  go_wp2_with fail
  all_goals
    go_ret
    refine ⟨?_, gr_alloc (gr_refl w none) _⟩
    rw [← hr.out]
    congr 2
    simp only [rightB, inB]
    first
      | (simp_all; done)
      | (simp_all; omega)
end Go.Proofs.Ytagoiidpcfjebaa
