/- tocsinlaw10.PermOrders: what is laid, and that it comes out in its order; the walk. -/
import Derived.Test.YtkcgpbehicjidaaQueU
import Derived.Maps.AppendAt
namespace Go.Proofs.Ytkcgpbehicjidaa
open Go.RowKit Go.Lib

def nth (l : List Int) (j : Nat) : Int := l[j]?.getD 0
theorem nth_mem {l : List Int} {i : Nat} (h : i < l.length) : nth l i ∈ l := by simp [nth, h]
/-- The sum of the first gaps. -/
def pat (gs : List Int) : Nat → Int
  | 0 => 0
  | j + 1 => pat gs j + nth gs j
/-- The frame of round j, as it is held. -/
def pit (dl : Int) (gs ts : List Int) (j : Nat) : It := ⟨pat gs (j + 1) + dl, 0, 0, (j : Int) + 1, 1, 0, (j : Int), 0, min (nth ts j) dl⟩
def InS (l : List Int) : Prop := ∀ x ∈ l, 0 ≤ x ∧ x ≤ 65535
theorem InS.nth {l : List Int} (h : InS l) (j : Nat) : 0 ≤ nth l j ∧ nth l j ≤ 65535 := by
  by_cases hj : j < l.length
  · exact h _ (nth_mem hj)
  · simp [Go.Proofs.Ytkcgpbehicjidaa.nth, hj]
theorem pat_mono {gs : List Int} (h : InS gs) (j k : Nat) : pat gs j ≤ pat gs (j + k) := by
  induction k with
  | zero => exact Int.le_refl _
  | succ k ih =>
    have := h.nth (j + k)
    show pat gs j ≤ pat gs (j + k) + Go.Proofs.Ytkcgpbehicjidaa.nth gs (j + k)
    omega
theorem pat_bd {gs : List Int} (h : InS gs) (j : Nat) : 0 ≤ pat gs j ∧ pat gs j ≤ 65535 * (j : Int) := by
  induction j with
  | zero => exact ⟨Int.le_refl _, Int.le_refl _⟩
  | succ k ih =>
    have := h.nth k
    show 0 ≤ pat gs k + Go.Proofs.Ytkcgpbehicjidaa.nth gs k ∧ pat gs k + Go.Proofs.Ytkcgpbehicjidaa.nth gs k ≤ _
    omega
def pits (dl : Int) (gs ts : List Int) (i n : Nat) : List It := (List.range' i n).map (pit dl gs ts)
theorem pits_snoc (dl : Int) (gs ts : List Int) (k : Nat) : pits dl gs ts 0 (k + 1) = pits dl gs ts 0 k ++ [pit dl gs ts k] := by simp [pits, List.range'_concat]
theorem pits_cons (dl : Int) (gs ts : List Int) (i n : Nat) : pits dl gs ts i (n + 1) = pit dl gs ts i :: pits dl gs ts (i + 1) n := by simp [pits, List.range'_succ]
theorem pits_length (dl : Int) (gs ts : List Int) (i n : Nat) : (pits dl gs ts i n).length = n := by simp [pits]
theorem pit_ahead {dl : Int} {gs ts : List Int} (h : InS gs) {i j : Nat} (hij : i < j) : Ahead (pit dl gs ts i) (pit dl gs ts j) := by
  obtain ⟨k, rfl⟩ : ∃ k, j = i + k := ⟨j - i, by omega⟩
  have := pat_mono h (i + 1) k
  have e : i + 1 + k = i + k + 1 := by omega
  rw [e] at this
  show pat gs (i + 1) + dl < pat gs (i + k + 1) + dl ∨ pat gs (i + 1) + dl = pat gs (i + k + 1) + dl ∧ ((0 : Int) < 0 ∨ (0 : Int) = 0 ∧ ((0 : Int) < 0 ∨ (0 : Int) = 0 ∧ (i : Int) + 1 < ((i + k : Nat) : Int) + 1))
  omega
/-- The first of the heap is the first that was sent. -/
theorem pits_first {dl : Int} {gs ts : List Int} (h : InS gs) {i n : Nat} {ys : List It} (hp : ys.Perm (pits dl gs ts i (n + 1))) (hh : IsHeap ys) : ith ys 0 = pit dl gs ts i ∧ (popL ys).Perm (pits dl gs ts (i + 1) n) := by
  have hl : ys.length = n + 1 := by rw [hp.length_eq, pits_length]
  have h0 : ith ys 0 = pit dl gs ts i := by
    have hm : ith ys 0 ∈ pits dl gs ts i (n + 1) := hp.mem_iff.1 (ith_mem (by omega))
    obtain ⟨j, hj, hje⟩ := List.mem_map.1 hm
    rw [List.mem_range'_1] at hj
    by_cases hij : i = j
    · rw [← hje, hij]
    · have hmem : pit dl gs ts i ∈ ys := hp.mem_iff.2 (by rw [pits_cons]; exact List.mem_cons_self ..)
      obtain ⟨l, hll, hle⟩ := mem_ith hmem
      have := hh.min l hll
      rw [hle, ← hje] at this
      exact absurd (pit_ahead h (by omega)) this
  refine ⟨h0, ?_⟩
  have h1 := (popL_perm (xs := ys) (by omega)).symm.trans hp
  rw [h0, pits_cons] at h1
  exact h1.cons_inv

/-- The slice's own words of 16 bits. -/
def Shorts (n₀ : Nat) (W : World) (sv : Value) (gs : List Int) : Prop :=
  (∃ a cap, sv = .slice a 0 cap ∧ gs = []) ∨ ∃ b off cap, sv = .slice (some ⟨b, off, none⟩) gs.length cap ∧ b < n₀ ∧ ∀ j, j < gs.length → W.cell? ⟨b, off + j, none⟩ = some (.int .u16 (nth gs j))
theorem Try.info_i64 : (Try.prog.info? 2).map (fun i => (i.zero, i.size, i.bytes)) = some (some (.int .i64 0), 1, 8) := by kernel_rfl

theorem QS.away {P0 : Nat → Prop} {W W2 : World} {o : Obj} {vl v2 : Value} {base q : Nat} {num : Int} {xs : List It} (h : QS (fun k => P0 k ∨ vl.ownBlock = some k) W base q num xs)
    (hg : (W.alloc o).grownBy W2 vl.ownBlock) (hat : v2.ownBlock = vl.ownBlock ∨ v2.ownBlock = some (W.alloc o).heap.size) (hlt : ∀ k, v2.ownBlock = some k → k < W2.heap.size) : QS (fun k => P0 k ∨ v2.ownBlock = some k) W2 base q num xs := by
  obtain ⟨v, hq, hr, hn, hb, hP⟩ := h.ex
  have hsz : (W.alloc o).heap.size = W.heap.size + 1 := by simp
  have hge : W.heap.size ≤ W2.heap.size := by have := hg.size; omega
  refine ⟨v, (hq.kept (gr_alloc (gr_refl W none) o) (by simp)).kept hg ?_, (hr.alloc o).kept hg ?_, hn, by omega, ?_⟩
  · intro e; exact (hP q (.inr e.symm)).2.1 rfl
  · cases hv : v.ownBlock with
    | none => exact .inl rfl
    | some k => exact .inr fun e => (hP k (.inr e.symm)).2.2 hv
  · rintro k (hk | hk)
    · exact ⟨by have := (hP k (.inl hk)).1; omega, (hP k (.inl hk)).2⟩
    · refine ⟨hlt k hk, ?_⟩
      rcases hat with e | e
      · rw [e] at hk; exact (hP k (.inr hk)).2
      · rw [e, hsz] at hk
        have hk' : k = W.heap.size + 1 := by simpa using hk.symm
        subst hk'
        refine ⟨?_, ?_⟩
        · have := hq.lt; omega
        · intro e'; have := (hr.lt _ e').2; omega
theorem Keeps.of_alloc_gr {P0 : Nat → Prop} {W W2 : World} {o : Obj} {vl : Value} (hg : (W.alloc o).grownBy W2 vl.ownBlock) (hP : ∀ k, P0 k → k < W.heap.size ∧ vl.ownBlock ≠ some k) : Keeps P0 W W2 :=
  (Keeps.of_gr (gr_alloc (gr_refl W none) o) fun k hk => ⟨(hP k hk).1, by simp⟩).trans (Keeps.of_gr hg fun k hk => ⟨by have := (hP k hk).1; simp; omega, fun e => (hP k hk).2 e.symm⟩)
theorem own_same {w w' : World} {base e size n : Nat} {v : Value} {xs : List Value} (h : w.ownsRow base e size v n xs) (hw : ∀ q, v.ownBlock = some q → w'.heap[q]? = w.heap[q]?) : w'.ownsRow base e size v n xs :=
  ⟨h.1, h.2.imp id (fun ⟨g, cap, cur, e, hg, hh, r⟩ => ⟨g, cap, cur, e, hg, (hw g (by rw [e]; rfl)).trans hh, r⟩)⟩
theorem right_num {i : Nat} {sp : Int} (hi : i < 60) (h0 : 0 ≤ sp) (h1 : sp ≤ 1048576) : rightB 1 0 (i : Int) 0 sp = true := by
  simp [rightB, inB]
  omega
theorem nowB_of {t : Int} (h0 : 0 ≤ t) (h1 : t ≤ 1125899906842624) : nowB 0 t = true := by
  have : realB t = true := realB_iff.2 ⟨h0, h1⟩
  simp [nowB, this, h0]
end Go.Proofs.Ytkcgpbehicjidaa
