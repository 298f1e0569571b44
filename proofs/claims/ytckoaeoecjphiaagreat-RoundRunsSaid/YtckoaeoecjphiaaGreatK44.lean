/- Lemmas: Two arrays of two, two structs of three: the same. The laws' same: two tellings of one round. -/
import Derived.Test.YtckoaeoecjphiaaGreatK43
import Derived.Laws.StructEq
import Derived.Laws.Cover2
import Derived.Test.YtckoaeoecjphiaaGreatK36

/- Two arrays of two, two structs of three: the same. -/
namespace Go.Proofs.YtckoaeoecjphiaaGreat
open Go.RowKit Go.Lib

theorem eq2_u32 (x y : Int) (w : World) : (Op.equalIn 10000 29 (.agg #[.int .u32 x, .int .u32 y]) (.agg #[.int .u32 x, .int .u32 y])).run Tryz.prog w = .ok true w := by
  have u3 := Tryz.underlying28
  have a3 := Tryz.isAgg28
  have z3 := Tryz.sizeOf28
  rw [show (10000 : Nat) = 9999 + 1 from rfl, Op.equalIn]
  simp only [Sem.run_bind, run_underlying Tryz.underlying29, Result.andThen_ok]
  simp only [Std.Legacy.Range.forIn_eq_forIn_range', Std.Legacy.Range.size, Nat.sub_zero, Nat.add_sub_cancel, Nat.div_one, List.range'_succ, List.range'_zero, List.forIn_cons, List.forIn_nil]
  go_simp
set_option maxRecDepth 100000 in
theorem eq3_st (x y z : Int) (w : World) : (Op.equalIn 10000 54 (.agg #[.int .i64 x, .int .i64 y, .int .i64 z]) (.agg #[.int .i64 x, .int .i64 y, .int .i64 z])).run Tryz.prog w = .ok true w := by
  have u3 := Tryz.underlying2
  have a3 := Tryz.isAgg2
  have z3 := Tryz.sizeOf2
  have hS : Tryz.prog.underlying 54 = some (.struct (Tryz.prog.fieldsOf 54)) := by kernel_rfl
  rw [show (10000 : Nat) = 9999 + 1 from rfl, run_equalIn_agg w 9999 54 _ _ hS (by kernel_rfl)]
  simp only [Program.fieldsOf, Tryz.underlying54]
  go_simp
end Go.Proofs.YtckoaeoecjphiaaGreat

/- The laws' same: two tellings of one round. -/
namespace Go.Proofs.YtckoaeoecjphiaaGreat
open Go.RowKit Go.Lib

theorem slice_form {n₀ : Nat} {w : World} {v : Value} {k n : Nat} {f : Nat → Nat → Value} (h : SliceAt n₀ w v k n f) (h0 : 0 < n) : ∃ b off cap, v = .slice (some ⟨b, off, none⟩) n cap ∧ n ≤ cap ∧ ∀ W : World, w.grownBy W none → ∀ j, j < n → ∀ i, i < k → W.cell? ⟨b, off + j * k + i, none⟩ = some (f j i) := by
  rcases h with ⟨_, _, _, h9⟩ | ⟨b, off, cap, rfl, hc, _, hf⟩
  · omega
  · exact ⟨b, off, cap, rfl, hc, fun W g j hj i hi => gr_cell g (hf j hj i hi)⟩
set_option maxRecDepth 100000 in
set_option maxHeartbeats 8000000 in
theorem same_any (R : Rd) (vs vb vh va xs xb xh xa : Value) (c0 c1 : Nat) (w : World) (h1 : ToldAt w R vs vb vh va) (h2 : ToldAt w R xs xb xh xa) (h0 : 0 < R.l.length) (h6 : R.l.length ≤ 6) :
    Calls Tryz.prog 14 #[.agg #[vs, .int .u32 (c0 : Int), .int .u32 (c1 : Int), vb, vh, va], .agg #[xs, .int .u32 (c0 : Int), .int .u32 (c1 : Int), xb, xh, xa]] w fun e w' => e = .returned (.bool true) ∧ w.grownBy w' none := by
  have HS := hid (fun (W : World) (g : w.grownBy W none) => rsame_any w.heap.size vs xs R.l.length R.sent R.sent W (h1.sent.grown g) (h2.sent.grown g) (fun _ _ => rfl) (by omega))
  have HB := hid (fun (W : World) (g : w.grownBy W none) => rsame_any w.heap.size vb xb R.l.length R.by_ R.by_ W (h1.by_.grown g) (h2.by_.grown g) (fun _ _ => rfl) (by omega))
  obtain ⟨hb1, ho1, hc1, e1, hk1, H1⟩ := slice_form h1.hrd h0
  obtain ⟨hb2, ho2, hc2, e2, hk2, H2⟩ := slice_form h2.hrd h0
  obtain ⟨ab1, ao1, ac1, e3, ak1, A1⟩ := slice_form h1.aft h0
  obtain ⟨ab2, ao2, ac2, e4, ak2, A2⟩ := slice_form h2.aft h0
  obtain ⟨n, hn⟩ : ∃ n, Hid (R.l.length = n) := ⟨_, hid rfl⟩
  rw [hn.out] at e1 e2 e3 e4 hk1 hk2 ak1 ak2 h0 h6 H1 H2 A1 A2
  subst e1 e2 e3 e4
  have HH1 := hid H1
  have HH2 := hid H2
  have HA1 := hid A1
  have HA2 := hid A2
  clear h1 h2 H1 H2 A1 A2
  have heq2 := fun w' => eq2_u32 (c0 : Int) (c1 : Int) w'
  have heq3 := eq3_st
  go_enter Tryz.func14, Tryz.ntmps14
  go_wp2_with fail
  obtain ⟨W0, hW0⟩ : ∃ W0, (w.alloc (.cells #[vs, .int .u32 (c0 : Int), .int .u32 (c1 : Int), vb, .slice (some ⟨hb1, ho1, none⟩) n hc1, .slice (some ⟨ab1, ao1, none⟩) n ac1] 38)).alloc (.cells #[xs, .int .u32 (c0 : Int), .int .u32 (c1 : Int), xb, .slice (some ⟨hb2, ho2, none⟩) n hc2, .slice (some ⟨ab2, ao2, none⟩) n ac2] 48) = W0 := ⟨_, rfl⟩
  have b0 := hid (show W0.heap[w.heap.size]? = some (.cells #[vs, .int .u32 (c0 : Int), .int .u32 (c1 : Int), vb, .slice (some ⟨hb1, ho1, none⟩) n hc1, .slice (some ⟨ab1, ao1, none⟩) n ac1] 38) by rw [← hW0]; exact box_heap1 (gr_refl _ none))
  have b1 := hid (show W0.heap[w.heap.size + 1]? = some (.cells #[xs, .int .u32 (c0 : Int), .int .u32 (c1 : Int), xb, .slice (some ⟨hb2, ho2, none⟩) n hc2, .slice (some ⟨ab2, ao2, none⟩) n ac2] 48) by rw [← hW0]; exact box_heap2 (gr_refl _ none))
  have g0 := hid (show w.grownBy W0 none by rw [← hW0]; exact gr_alloc (gr_alloc (gr_refl w none) _) _)
  rw [hW0]
  clear hW0
  refine (HS.out _ g0.out).mono ?_
  rintro e w1 ⟨rfl, g1⟩
  have B0 := hid (gr_heap g1 b0.out (by simp))
  have B1 := hid (gr_heap g1 b1.out (by simp))
  have G1 := hid (gr_trans g0.out g1)
  clear g1 g0 b0 b1
  have k0 := hcell B0.out 0 _ rfl
  have j0 := hcell B1.out 0 _ rfl
  have k1 := hcell B0.out 1 _ rfl
  have j1 := hcell B1.out 1 _ rfl
  have k2 := hcell B0.out 2 _ rfl
  have j2 := hcell B1.out 2 _ rfl
  have k3 := hcell B0.out 3 _ rfl
  have j3 := hcell B1.out 3 _ rfl
  have k4 := hcell B0.out 4 _ rfl
  have j4 := hcell B1.out 4 _ rfl
  have k5 := hcell B0.out 5 _ rfl
  have j5 := hcell B1.out 5 _ rfl
  go_wp2_with fail
  refine (HB.out _ G1.out).mono ?_
  rintro e w2 ⟨rfl, g2⟩
  have D0 := hid (gr_heap g2 B0.out (by simp))
  have D1 := hid (gr_heap g2 B1.out (by simp))
  have G2 := hid (gr_trans G1.out g2)
  clear g2 k0 k1 k2 k3 k4 k5 j0 j1 j2 j3 j4 j5
  have k0 := hcell D0.out 0 _ rfl
  have j0 := hcell D1.out 0 _ rfl
  have k1 := hcell D0.out 1 _ rfl
  have j1 := hcell D1.out 1 _ rfl
  have k2 := hcell D0.out 2 _ rfl
  have j2 := hcell D1.out 2 _ rfl
  have k3 := hcell D0.out 3 _ rfl
  have j3 := hcell D1.out 3 _ rfl
  have k4 := hcell D0.out 4 _ rfl
  have j4 := hcell D1.out 4 _ rfl
  have k5 := hcell D0.out 5 _ rfl
  have j5 := hcell D1.out 5 _ rfl
  go_wp2_with fail
  clear k0 k1 k2 k3 k4 k5 j0 j1 j2 j3 j4 j5
  go_loopw [48] (fun i wr => ∃ k : Nat, k ≤ n ∧ i = .int .i64 k ∧ Hid (w2.grownBy wr none)) (fun i _ => n - (intOf i).toNat)
  case atStart => exact ⟨0, by omega, rfl, hid (gr_refl w2 none)⟩
  case round =>
    obtain ⟨k, hk, rfl, HG⟩ := hrel
    have G3 := hid (gr_trans G2.out HG.out)
    by_cases hlt : k < n
    · have E0 := hid (gr_heap HG.out D0.out (by simp))
      have E1 := hid (gr_heap HG.out D1.out (by simp))
      have k0 := hcell E0.out 0 _ rfl
      have j0 := hcell E1.out 0 _ rfl
      have k1 := hcell E0.out 1 _ rfl
      have j1 := hcell E1.out 1 _ rfl
      have k2 := hcell E0.out 2 _ rfl
      have j2 := hcell E1.out 2 _ rfl
      have k3 := hcell E0.out 3 _ rfl
      have j3 := hcell E1.out 3 _ rfl
      have k4 := hcell E0.out 4 _ rfl
      have j4 := hcell E1.out 4 _ rfl
      have k5 := hcell E0.out 5 _ rfl
      have j5 := hcell E1.out 5 _ rfl
      have hk3 : (k : Int) < (n : Int) := by omega
      have q1 := HH1.out wr G3.out k hlt 0 (by omega)
      have q2 := HH2.out wr G3.out k hlt 0 (by omega)
      have p0 := HA1.out wr G3.out k hlt 0 (by omega)
      have p1 := HA1.out wr G3.out k hlt 1 (by omega)
      have p2 := HA1.out wr G3.out k hlt 2 (by omega)
      have r0 := HA2.out wr G3.out k hlt 0 (by omega)
      have r1 := HA2.out wr G3.out k hlt 1 (by omega)
      have r2 := HA2.out wr G3.out k hlt 2 (by omega)
      rw [Nat.mul_one, Nat.add_zero] at q1 q2
      rw [Nat.add_zero] at p0 r0
      have hl1 : k < hc1 := by omega
      have hl2 : k < hc2 := by omega
      have hl3 : k < ac1 := by omega
      have hl4 : k < ac2 := by omega
      go_wp2_with fail
      go_quiet (fail)
      go_wp2_with fail
      go_roundw
      case rel => exact ⟨k + 1, by omega, by go_num, hid (gr_drewN HG.out _)⟩
      case measure => simp [intOf]; omega
    · obtain rfl : k = n := by omega
      clear hlt
      go_wp2_with fail
      go_ret
      exact ⟨rfl, G3.out⟩
end Go.Proofs.YtckoaeoecjphiaaGreat
