/- Arguments opened: a slice of int32; what the bound on the bulk says of a slice's length. -/
import Derived.Test.YtlcjjbahbfcmoaaOpenN
import Derived.Test.YtlcjjbahbfcmoaaShiftsW
import Derived.JoinedCond
namespace Go.Proofs.Ytlcjjbahbfcmoaa
open Go.ChangeShapes Go.WideShapes Go.ChangeAt Go.RowKit Go.Deep

section
variable {H : Type} {enc : TypeId × Value → H} {P : Program} {w : World} {base : Nat} {spare : Nat → Bool} {held : Bool}

theorem open_nums32 {r : Reach} {b0 : Nat} {t e : TypeId} {v : Value} {d : DataW H} {p : List MemPlace} (ht : P.underlying t = some (.slice e)) (hl : leavesOf P 3 e = some [.int .i32]) (hC : P.cellsOf e = 1)
    (hv : Value.okWide P w r b0 t v) (h : DataW.Trod enc P w base spare held t v d p) :
    ∃ a cap zs, v = .slice a zs.length cap ∧ Ints32 w.heap.size w (.slice a zs.length cap) zs ∧ In32 zs ∧ (d = .nil ∧ zs.length = 0 ∨ ∃ es sp, d = .slice es sp ∧ es.length = zs.length) := by
  obtain ⟨a, len, cap, V, rfl, hr, hd⟩ := open_rows ht hl (by decide) hC hv h
  have hlen : ((List.range len).map fun i => intOf (V i 0)).length = len := by simp
  refine ⟨a, cap, (List.range len).map fun i => intOf (V i 0), by rw [hlen], ?_, ?_, by rw [hlen]; exact hd⟩
  · rw [hlen]
    rcases hr with rfl | ⟨b, off, rfl, hb, hc⟩
    · exact .inl ⟨a, cap, rfl, rfl⟩
    · refine .inr ⟨b, off, cap, by rw [hlen], hb, fun j hj => ?_⟩
      rw [hlen] at hj
      obtain ⟨h1, n, h2, h3⟩ := hc j hj 0 (.int .i32) rfl
      simp only [List.length_cons, List.length_nil, Nat.zero_add, Nat.mul_one, Nat.add_zero] at h1
      rw [h1, h2]
      simp [nth, hj, h2, intOf]
  · intro x hx
    obtain ⟨i, hi, rfl⟩ := List.mem_map.1 hx
    rcases hr with rfl | ⟨b, off, rfl, hb, hc⟩
    · simp at hi
    · obtain ⟨h1, n, h2, h3⟩ := hc i (by simpa using hi) 0 (.int .i32) rfl
      rw [h2]
      simpa [intOf, Lit.wf, IntKind.min, IntKind.max, IntKind.signed, IntKind.bits] using h3
end

theorem bulk_pos {H : Type} (d : DataW H) : 1 ≤ Rows.uptoBulk d := by
  cases d with
  | lit l => cases l <;> simp [Rows.uptoBulk]
  | _ => simp [Rows.uptoBulk]
theorem bulk_count {H : Type} : ∀ (l : List (DataW H)), l.length ≤ Rows.uptoBulkAll l
  | [] => by simp [Rows.uptoBulkAll]
  | d :: l => by
    have h1 := bulk_pos d
    have h2 := bulk_count l
    simp only [Rows.uptoBulkAll, List.length_cons]
    omega
theorem small_first {H : Type} {d : DataW H} {l : List (DataW H)} {n : Nat} (hk : Rows.uptoSmall H (d :: l) = true) (h : d = .nil ∧ n = 0 ∨ ∃ es sp, d = .slice es sp ∧ es.length = n) : n ≤ 1048576 := by
  have hb : Rows.uptoBulkAll (d :: l) ≤ 1048576 := of_decide_eq_true hk
  rcases h with ⟨_, rfl⟩ | ⟨es, sp, rfl, rfl⟩
  · omega
  · have h1 := bulk_count es
    simp only [Rows.uptoBulkAll, Rows.uptoBulk] at hb
    omega
end Go.Proofs.Ytlcjjbahbfcmoaa
