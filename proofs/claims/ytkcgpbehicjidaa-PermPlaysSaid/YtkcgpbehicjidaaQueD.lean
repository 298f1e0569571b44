/- perm: New, Due; the clock's times. -/
import Derived.Test.YtkcgpbehicjidaaClockC
import Derived.Test.YtkcgpbehicjidaaClockW
import Derived.Test.YtkcgpbehicjidaaQueA
namespace Go.Proofs.Ytkcgpbehicjidaa
open Go.RowKit Go.Lib

set_option maxHeartbeats 1000000 in
theorem due_ok (b : Nat) (m ba r t cl dl now due : Int) (w : World) (hc : Clk w b m ba r) (ho : ClockOk m ba r) (h : nowB m t = true) (hn : clockAt m ba r t = now) (hd : 0 ≤ dl ∧ dl ≤ 1048576) (hcl : 0 ≤ cl ∧ cl ≤ dl)
    (hw : IsWhen m ba r (now + dl - cl) due) :
    Calls Try.prog 14 #[.pointer (some ⟨b, 0, none⟩), .int .i64 t, .int .i64 cl, .int .i64 dl] w fun e w' => e = .returned (.tuple #[.int .i64 due, .int .i64 0]) ∧ w.grownBy w' none := by
  obtain ⟨d0, d1⟩ := hd
  obtain ⟨c0, c1⟩ := hcl
  have Hc := hid hc
  have Ho := hid ho
  have H := hid h
  have Hn := hid hn
  have Hw := hid hw
  have hnb : -4611686018427387904 ≤ now ∧ now ≤ 4611686018427387904 := by
    have h' : realB t = true ∧ m ≤ t := by simpa [nowB] using h
    have h1 := realB_iff.1 h'.1
    have h2 := clockAt_bd ho h'.2
    rw [hn] at h2
    omega
  obtain ⟨n0, n1⟩ := hnb
  clear hc ho h hn hw
  go_enter Try.func14, Try.ntmps14
  go_wp2_with fail
  refine (now_ok b m ba r t now _ Hc.out Ho.out H.out Hn).mono ?_
  rintro e w1 ⟨rfl, g1⟩
  have Hc1 := hid (Hc.out.kept g1 (by simp))
  have G1 := hid g1
  clear g1
  go_wp2_with fail
  refine (when_ok b m ba r _ due _ Hc1.out Ho.out Hw.out).mono ?_
  rintro e w2 ⟨rfl, g2⟩
  have G2 := hid (gr_trans G1.out g2)
  clear g2
  go_wp2_with fail
  go_ret2
  exact ⟨rfl, G2.out⟩

set_option maxHeartbeats 1000000 in
theorem pnew_at (dl : Int) (w : World) (hd : 0 ≤ dl ∧ dl ≤ 1048576) :
    Calls Try.prog 9 #[.int .i64 dl] w fun e w' => e = .returned (.tuple #[.pointer (some ⟨w.heap.size + 1, 0, none⟩), .int .i64 0]) ∧ Que w' w.heap.size 0 (.slice none 0 0) ∧
      w'.heap[w.heap.size + 1]? = some (.cells #[.int .i64 dl, .pointer (some ⟨w.heap.size, 0, none⟩)] 68 (0, 0)) ∧ w.grownBy w' none ∧ w'.heap.size = w.heap.size + 2 := by
  obtain ⟨d0, d1⟩ := hd
  go_enter Try.func9, Try.ntmps9
  go_wp2_with fail
  refine (qnew_at w).mono ?_
  rintro e w1 ⟨rfl, hq, g1, hs⟩
  have Hq := hid hq
  have G1 := hid g1
  have Hs := hid hs
  clear hq g1 hs
  go_wp2_with fail
  go_ret2
  refine ⟨?_, Hq.out.kept (gr_alloc (gr_refl w1 none) _) (by simp), ?_, gr_alloc G1.out _, by simp [Hs.out]⟩
  · rw [← Hs.out]; rfl
  · rw [← Hs.out]; exact heap_alloc_new w1 _
end Go.Proofs.Ytkcgpbehicjidaa
