/- tocsinlaw10.PermAges, PermDrifts, walked. -/
import Derived.Test.YtkcgpbehicjidaaQueK
namespace Go.Proofs.Ytkcgpbehicjidaa
open Go.RowKit Go.Lib

theorem clockAt_mono2 {r s t : Int} (r0 : -1000000 ≤ r) (h : s ≤ t) : clockAt 0 0 r s ≤ clockAt 0 0 r t := clockAt_mono r0 h
theorem whens_mono {m ba r n n' t t' : Int} (h : IsWhen m ba r n t) (h' : IsWhen m ba r n' t') (hn : n ≤ n') : t ≤ t' := by
  rcases Int.lt_or_le t' t with hlt | hle
  · have := h.before t' h'.lo hlt
    have := h'.at_t
    omega
  · exact hle
/-- What a clock shows is there, where it isn't too much. -/
theorem when_there {r t x : Int} (r0 : -1000000 ≤ r) (r1 : r ≤ 1000000) (ht : 0 ≤ t) (ht1 : t ≤ 562949953421312) (hx : x ≤ 1048576) : ∃ d, IsWhen 0 0 r (clockAt 0 0 r t + x) d := by
  refine IsWhen.exists (by omega) ?_
  obtain ⟨h1, h2⟩ := mul_rate (t - 0) r (by omega) r0 r1
  obtain ⟨h3, h4⟩ := mul_rate (1125899906842624 - 0) r (by omega) r0 r1
  unfold clockAt
  generalize (t - 0) * r = p at *
  generalize (1125899906842624 - 0) * r = p' at *
  omega

set_option maxRecDepth 100000 in
set_option maxHeartbeats 4000000 in
theorem ages_walk (t : Int) (bt : -9223372036854775808 ≤ t ∧ t ≤ 9223372036854775807) (c0 c1 : Int) (b0 : 0 ≤ c0 ∧ c0 ≤ 65535) (b1 : 0 ≤ c1 ∧ c1 ≤ 65535) (r : Int) (br : -9223372036854775808 ≤ r ∧ r ≤ 9223372036854775807) (w : World) :
    Calls Try.prog 6 #[.int .i64 t, .agg #[.int .u16 c0, .int .u16 c1], .int .i64 r] w fun e w' => e = .returned (.bool true) ∧ Below w.heap.size w w' := by
  obtain ⟨bt0, bt1⟩ := bt
  obtain ⟨br0, br1⟩ := br
  obtain ⟨b00, b01⟩ := b0
  obtain ⟨b10, b11⟩ := b1
  by_cases hnew : fastB r = true
  · by_cases hgt : 0 ≤ t ∧ t ≤ 562949953421312
    · obtain ⟨g0, g1⟩ := hgt
      have hf := fastB_iff.1 hnew
      have ho : ClockOk 0 0 r := ⟨by omega, by omega, hf.1, hf.2, by omega, by omega⟩
      obtain ⟨now, hnow⟩ : ∃ n, Hid (clockAt 0 0 r t = n) := ⟨_, hid rfl⟩
      rcases Int.lt_trichotomy c0 c1 with hcc | hcc | hcc
      · skip
        obtain ⟨da, hda⟩ := when_there hf.1 hf.2 g0 g1 (x := 65535 - c0) (by omega)
        obtain ⟨db, hdb⟩ := when_there hf.1 hf.2 g0 g1 (x := 65535 - c1) (by omega)
        obtain ⟨dd, hdd⟩ := when_there hf.1 hf.2 g0 g1 (x := 65535 - 65535) (by omega)
        rw [hnow.out, ← Int.add_sub_assoc] at hda hdb hdd
        have hab : db ≤ da := whens_mono hdb hda (by omega)
        have hbd : dd ≤ db := whens_mono hdd hdb (by omega)
        have hdt : dd ≤ t := by
          rcases Int.lt_or_le t dd with hlt | hle
          · have := hdd.before t g0 hlt
            rw [hnow.out] at this
            omega
          · exact hle
        have Hda := hid hda
        have Hdb := hid hdb
        have Hdd := hid hdd
        have Ho := hid ho
        have Hnew := hid hnew
        have hn0 : nowB 0 t = true := by
          have h1 : realB t = true := realB_iff.2 ⟨g0, by omega⟩
          simp [nowB, h1, g0]
        have Hn0 := hid hn0
        clear hda hdb hdd ho hnew hn0 hf
        go_enter Try.func6, Try.ntmps6
        go_wp2_with fail
        have hD0 := heap_alloc_new w (.cells #[.int .u16 c0, .int .u16 c1] 48)
        refine (fixed_true _).mono ?_
        rintro e w1 ⟨rfl, g1⟩
        have D1 := hid (gr_heap g1 hD0 (by simp))
        have G1 := hid (bx_gr g1)
        clear g1 hD0
        go_wp2_with fail
        obtain ⟨b, hb⟩ : ∃ b, Hid (w1.heap.size = b) := ⟨_, hid rfl⟩
        refine (new_ok 0 0 r w1 (hid (by decide)) (hid (by decide)) Hnew).mono ?_
        rintro e w2 ⟨rfl, hc, g2⟩
        rw [hb.out] at hc
        rw [hb.out]
        have Hc := hid hc
        have D2 := hid (gr_heap g2 D1.out (by simp))
        have G2 := hid (gr_trans G1.out g2)
        have y0 := cell_of D2.out 0 (.int .u16 c0) rfl
        have y1 := cell_of D2.out 1 (.int .u16 c1) rfl
        clear hc g2
        go_wp2_with fail
        refine (due_ok b 0 0 r t c0 65535 now da w2 Hc.out Ho.out Hn0.out hnow.out (by omega) (by omega) Hda.out).mono ?_
        rintro e w3 ⟨rfl, g3⟩
        have Hc3 := hid (Hc.out.kept g3 (by simp))
        have D3 := hid (gr_heap g3 D2.out (by simp))
        have G3 := hid (gr_trans G2.out g3)
        clear y0 y1 g3
        have y0 := cell_of D3.out 0 (.int .u16 c0) rfl
        have y1 := cell_of D3.out 1 (.int .u16 c1) rfl
        go_wp2_with fail
        refine (due_ok b 0 0 r t c1 65535 now db w3 Hc3.out Ho.out Hn0.out hnow.out (by omega) (by omega) Hdb.out).mono ?_
        rintro e w4 ⟨rfl, g4⟩
        have Hc4 := hid (Hc3.out.kept g4 (by simp))
        have G4 := hid (gr_trans G3.out g4)
        clear y0 y1 g4
        go_wp2_with fail
        refine (due_ok b 0 0 r t 65535 65535 now dd w4 Hc4.out Ho.out Hn0.out hnow.out (by omega) (by omega) Hdd.out).mono ?_
        rintro e w5 ⟨rfl, g5⟩
        have G5 := hid (gr_trans G4.out g5)
        clear g5
        go_wp2_with fail
        go_ret
        exact ⟨rfl, gr_below G5.out (Nat.le_refl _) (by simp)⟩
      · subst hcc
        obtain ⟨da, hda⟩ := when_there hf.1 hf.2 g0 g1 (x := 65535 - c0) (by omega)
        obtain ⟨db, hdb⟩ := when_there hf.1 hf.2 g0 g1 (x := 65535 - c0) (by omega)
        obtain ⟨dd, hdd⟩ := when_there hf.1 hf.2 g0 g1 (x := 65535 - 65535) (by omega)
        rw [hnow.out, ← Int.add_sub_assoc] at hda hdb hdd
        have hab : db ≤ da := whens_mono hdb hda (by omega)
        have hbd : dd ≤ db := whens_mono hdd hdb (by omega)
        have hdt : dd ≤ t := by
          rcases Int.lt_or_le t dd with hlt | hle
          · have := hdd.before t g0 hlt
            rw [hnow.out] at this
            omega
          · exact hle
        have Hda := hid hda
        have Hdb := hid hdb
        have Hdd := hid hdd
        have Ho := hid ho
        have Hnew := hid hnew
        have hn0 : nowB 0 t = true := by
          have h1 : realB t = true := realB_iff.2 ⟨g0, by omega⟩
          simp [nowB, h1, g0]
        have Hn0 := hid hn0
        clear hda hdb hdd ho hnew hn0 hf
        go_enter Try.func6, Try.ntmps6
        go_wp2_with fail
        have hD0 := heap_alloc_new w (.cells #[.int .u16 c0, .int .u16 c0] 48)
        refine (fixed_true _).mono ?_
        rintro e w1 ⟨rfl, g1⟩
        have D1 := hid (gr_heap g1 hD0 (by simp))
        have G1 := hid (bx_gr g1)
        clear g1 hD0
        go_wp2_with fail
        obtain ⟨b, hb⟩ : ∃ b, Hid (w1.heap.size = b) := ⟨_, hid rfl⟩
        refine (new_ok 0 0 r w1 (hid (by decide)) (hid (by decide)) Hnew).mono ?_
        rintro e w2 ⟨rfl, hc, g2⟩
        rw [hb.out] at hc
        rw [hb.out]
        have Hc := hid hc
        have D2 := hid (gr_heap g2 D1.out (by simp))
        have G2 := hid (gr_trans G1.out g2)
        have y0 := cell_of D2.out 0 (.int .u16 c0) rfl
        have y1 := cell_of D2.out 1 (.int .u16 c0) rfl
        clear hc g2
        go_wp2_with fail
        refine (due_ok b 0 0 r t c0 65535 now da w2 Hc.out Ho.out Hn0.out hnow.out (by omega) (by omega) Hda.out).mono ?_
        rintro e w3 ⟨rfl, g3⟩
        have Hc3 := hid (Hc.out.kept g3 (by simp))
        have D3 := hid (gr_heap g3 D2.out (by simp))
        have G3 := hid (gr_trans G2.out g3)
        clear y0 y1 g3
        have y0 := cell_of D3.out 0 (.int .u16 c0) rfl
        have y1 := cell_of D3.out 1 (.int .u16 c0) rfl
        go_wp2_with fail
        refine (due_ok b 0 0 r t c0 65535 now db w3 Hc3.out Ho.out Hn0.out hnow.out (by omega) (by omega) Hdb.out).mono ?_
        rintro e w4 ⟨rfl, g4⟩
        have Hc4 := hid (Hc3.out.kept g4 (by simp))
        have G4 := hid (gr_trans G3.out g4)
        clear y0 y1 g4
        go_wp2_with fail
        refine (due_ok b 0 0 r t 65535 65535 now dd w4 Hc4.out Ho.out Hn0.out hnow.out (by omega) (by omega) Hdd.out).mono ?_
        rintro e w5 ⟨rfl, g5⟩
        have G5 := hid (gr_trans G4.out g5)
        clear g5
        go_wp2_with fail
        go_ret
        exact ⟨rfl, gr_below G5.out (Nat.le_refl _) (by simp)⟩
      · skip
        obtain ⟨da, hda⟩ := when_there hf.1 hf.2 g0 g1 (x := 65535 - c1) (by omega)
        obtain ⟨db, hdb⟩ := when_there hf.1 hf.2 g0 g1 (x := 65535 - c0) (by omega)
        obtain ⟨dd, hdd⟩ := when_there hf.1 hf.2 g0 g1 (x := 65535 - 65535) (by omega)
        rw [hnow.out, ← Int.add_sub_assoc] at hda hdb hdd
        have hab : db ≤ da := whens_mono hdb hda (by omega)
        have hbd : dd ≤ db := whens_mono hdd hdb (by omega)
        have hdt : dd ≤ t := by
          rcases Int.lt_or_le t dd with hlt | hle
          · have := hdd.before t g0 hlt
            rw [hnow.out] at this
            omega
          · exact hle
        have Hda := hid hda
        have Hdb := hid hdb
        have Hdd := hid hdd
        have Ho := hid ho
        have Hnew := hid hnew
        have hn0 : nowB 0 t = true := by
          have h1 : realB t = true := realB_iff.2 ⟨g0, by omega⟩
          simp [nowB, h1, g0]
        have Hn0 := hid hn0
        clear hda hdb hdd ho hnew hn0 hf
        go_enter Try.func6, Try.ntmps6
        go_wp2_with fail
        have hD0 := heap_alloc_new w (.cells #[.int .u16 c0, .int .u16 c1] 48)
        refine (fixed_true _).mono ?_
        rintro e w1 ⟨rfl, g1⟩
        have D1 := hid (gr_heap g1 hD0 (by simp))
        have G1 := hid (bx_gr g1)
        clear g1 hD0
        go_wp2_with fail
        obtain ⟨b, hb⟩ : ∃ b, Hid (w1.heap.size = b) := ⟨_, hid rfl⟩
        refine (new_ok 0 0 r w1 (hid (by decide)) (hid (by decide)) Hnew).mono ?_
        rintro e w2 ⟨rfl, hc, g2⟩
        rw [hb.out] at hc
        rw [hb.out]
        have Hc := hid hc
        have D2 := hid (gr_heap g2 D1.out (by simp))
        have G2 := hid (gr_trans G1.out g2)
        have y0 := cell_of D2.out 0 (.int .u16 c0) rfl
        have y1 := cell_of D2.out 1 (.int .u16 c1) rfl
        clear hc g2
        go_wp2_with fail
        refine (due_ok b 0 0 r t c1 65535 now da w2 Hc.out Ho.out Hn0.out hnow.out (by omega) (by omega) Hda.out).mono ?_
        rintro e w3 ⟨rfl, g3⟩
        have Hc3 := hid (Hc.out.kept g3 (by simp))
        have D3 := hid (gr_heap g3 D2.out (by simp))
        have G3 := hid (gr_trans G2.out g3)
        clear y0 y1 g3
        have y0 := cell_of D3.out 0 (.int .u16 c0) rfl
        have y1 := cell_of D3.out 1 (.int .u16 c1) rfl
        go_wp2_with fail
        refine (due_ok b 0 0 r t c0 65535 now db w3 Hc3.out Ho.out Hn0.out hnow.out (by omega) (by omega) Hdb.out).mono ?_
        rintro e w4 ⟨rfl, g4⟩
        have Hc4 := hid (Hc3.out.kept g4 (by simp))
        have G4 := hid (gr_trans G3.out g4)
        clear y0 y1 g4
        go_wp2_with fail
        refine (due_ok b 0 0 r t 65535 65535 now dd w4 Hc4.out Ho.out Hn0.out hnow.out (by omega) (by omega) Hdd.out).mono ?_
        rintro e w5 ⟨rfl, g5⟩
        have G5 := hid (gr_trans G4.out g5)
        clear g5
        go_wp2_with fail
        go_ret
        exact ⟨rfl, gr_below G5.out (Nat.le_refl _) (by simp)⟩
    · have hD0 := heap_alloc_new w (.cells #[.int .u16 c0, .int .u16 c1] 48)
      have Hnew := hid hnew
      clear hnew
      rcases Int.lt_or_le t 0 with hlt | hge
      · go_enter Try.func6, Try.ntmps6
        go_wp2_with fail
        refine (fixed_true _).mono ?_
        rintro e w1 ⟨rfl, g1⟩
        have G1 := hid (bx_gr g1)
        clear g1 hD0
        go_wp2_with fail
        refine (new_ok 0 0 r w1 (hid (by decide)) (hid (by decide)) Hnew).mono ?_
        rintro e w2 ⟨rfl, hc, g2⟩
        have G2 := hid (gr_trans G1.out g2)
        clear hc g2
        go_wp2_with fail
        go_ret
        exact ⟨rfl, gr_below G2.out (Nat.le_refl _) (by simp)⟩
      · have hgt' : 562949953421312 < t := by omega
        go_enter Try.func6, Try.ntmps6
        go_wp2_with fail
        refine (fixed_true _).mono ?_
        rintro e w1 ⟨rfl, g1⟩
        have G1 := hid (bx_gr g1)
        clear g1 hD0
        go_wp2_with fail
        refine (new_ok 0 0 r w1 (hid (by decide)) (hid (by decide)) Hnew).mono ?_
        rintro e w2 ⟨rfl, hc, g2⟩
        have G2 := hid (gr_trans G1.out g2)
        clear hc g2
        go_wp2_with fail
        go_ret
        exact ⟨rfl, gr_below G2.out (Nat.le_refl _) (by simp)⟩
  · have hbad : newB 0 0 r = false := by
      have : fastB r = false := by simpa using hnew
      simp [newB, this]
    have Hbad := hid hbad
    clear hnew hbad
    go_enter Try.func6, Try.ntmps6
    go_wp2_with fail
    refine (fixed_true _).mono ?_
    rintro e w1 ⟨rfl, g1⟩
    have G1 := hid (bx_gr g1)
    clear g1
    go_wp2_with fail
    refine (new_bad 0 0 r w1 Hbad.out).mono ?_
    rintro e w2 ⟨rfl, rfl⟩
    go_wp2_with fail
    go_ret
    exact ⟨rfl, gr_below G1.out (Nat.le_refl _) (by simp)⟩
end Go.Proofs.Ytkcgpbehicjidaa
