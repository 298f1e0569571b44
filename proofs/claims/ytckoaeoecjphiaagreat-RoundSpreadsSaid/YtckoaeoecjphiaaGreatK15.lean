/- Lemmas: comp.Add. -/
import Derived.Test.YtckoaeoecjphiaaGreatK14
import Derived.Maps.AppendAt
import Derived.Deep.RegionLaw

/- comp.Add. -/
namespace Go.Proofs.YtckoaeoecjphiaaGreat
open Go.RowKit Go.Lib

/-- append onto the call's own slice, as a step of a region that draws; and where the new slice lies. -/
theorem step_append_at {P : Program} {w : World} {ops : Array Oper} {o : Oper} {a : Act} {K : Act → World → Prop} {Q : Exit → Act → World → Prop} {E : Prop} (hgd : o.guard = none) (s x : Operand) (t : TypeId)
    (ho : o.op = .call { callee := .builtin .append, args := #[s, x], argTypes := #[t, t] })
    (base : Nat) (e : TypeId) (i : TypeInfo) (z : Value) (size bytes : Nat) (ht : P.underlying t = some (.slice e)) (hi : P.info? e = some i) (hz : i.zero = some z)
    (hsize : i.size = size) (hby : i.bytes = bytes) (hzs : z.cells.size = size) (hsz : 0 < size)
    (v : Value) (n : Nat) (xs : List Value) (hs : a.eval s = v) (hown : w.ownsRow base e size v n xs)
    (ad : Addr) (m c : Nat) (news : List Value) (hx : a.eval x = .slice (some ad) m c) (hl : news.length = m * size) (hnews : ∀ j u, news[j]? = some u → w.cell? (ad.add j) = some u) (h1 : ∀ u ∈ news, u.oneCell' = true)
    (h63 : n + m ≤ maxLen) (hbytes : (n + m) * bytes ≤ 140737488355328) (hbase : base ≤ w.heap.size)
    (h : ∀ v' w', w'.ownsRow base e size v' (n + m) (xs ++ news) → w.grownBy w' v.ownBlock → (v'.ownBlock = v.ownBlock ∨ v'.ownBlock = some w.heap.size) → K (a.put o.dst v') w') :
    if Region.wanted o (yielded ops a.tmps) = true then Oper.wp P o a w K Q else E := by
  have hw : Region.wanted o (yielded ops a.tmps) = true := by simp [Region.wanted, hgd]
  rw [if_pos hw]
  obtain ⟨v', w', hr, h2, h3, h4, h5⟩ := run_append_own_at (P := P) w base t o.type e i z size bytes ht hi hz hsize hby hzs hsz v n xs hown ad m c news hl hnews h1 h63 hbytes hbase
  unfold Oper.wp execOp
  simp only [ho, resolve, invoke, builtin, Sem.run_bind, Sem.run_pure, Result.andThen_ok, List.map_toArray, List.map_cons, List.map_nil, hs, hx, hr]
  exact h v' w' h2 h3 h5

/-- Behind a region: one frame, one world's facts; the ways that the region took are forgotten. -/
def Behind (F : Nat → Nat → Act) (S : Nat → Nat → World → Prop) : Exit → Act → World → Prop
  | .normal, a, W => ∃ g c, a = F g c ∧ S g c W
  | _, _, _ => False
theorem wp_behind {P : Program} {code : Code} {Q : Exit → Act → World → Prop} {a : Act} {w : World} {F : Nat → Nat → Act} (S : Nat → Nat → World → Prop) (h : code.wp P (Behind F S) a w) (k : ∀ g c W, S g c W → Q .normal (F g c) W) : code.wp P Q a w :=
  Code.wp_mono (fun e a W hb => by
    cases e with
    | normal => obtain ⟨g, c, ha, hs⟩ := hb; subst ha; exact k g c W hs
    | _ => exact (hb : False).elim) h
/-- The same where nothing new has a name. -/
def Behind0 (F : Act) (S : World → Prop) : Exit → Act → World → Prop
  | .normal, a, W => a = F ∧ S W
  | _, _, _ => False
theorem wp_behind0 {P : Program} {code : Code} {Q : Exit → Act → World → Prop} {a : Act} {w : World} {F : Act} (S : World → Prop) (h : code.wp P (Behind0 F S) a w) (k : ∀ W, S W → Q .normal F W) : code.wp P Q a w :=
  Code.wp_mono (fun e a W hb => by
    cases e with
    | normal => obtain ⟨ha, hs⟩ := hb; subst ha; exact k W hs
    | _ => exact (hb : False).elim) h
theorem own_slice {w : World} {base e size n : Nat} {v : Value} {xs : List Value} (h : w.ownsRow base e size v (n + 1) xs) : ∃ g cap, v = .slice (some ⟨g, 0, none⟩) (n + 1) cap := by
  rcases h.2 with ⟨_, h0⟩ | ⟨g, cap, cur, rfl, _⟩
  · omega
  · exact ⟨g, cap, rfl⟩

set_option maxRecDepth 100000 in
set_option maxHeartbeats 4000000 in
theorem add_more (P : Nat → Prop) (base b : Nat) (win first : Int) (rs cs : List Int) (cm : Nat) (l fr cy cr cl : Int) (h : Nat) (hfr : fr = (h : Int)) (hh : h < 6) (w : World)
    (hC : Coll P w base b win first rs cs cm) (hcm : cm < 64) (hr : rightB 1 fr cy cr cl = true) (hl : -1125899906842624 ≤ l ∧ l ≤ 1125899906842624)
    (hin : first ≤ l ∧ l ≤ first + win) (hf : -1125899906842624 ≤ first ∧ first ≤ 1125899906842624) (hw : 0 ≤ win ∧ win ≤ 1048576) (hno : hasB cm h = false) (hsm : rs.length ≤ 100 ∧ cs.length ≤ 100) :
    Calls Tryz.prog 79 #[.pointer (some ⟨b, 0, none⟩), .int .i64 l, ctl 1 fr cy cr cl] w fun e w' => e = .returned (.tuple #[.int .i64 (first + win), .int .i64 0]) ∧ Coll P w' base b win first (rs ++ [l - first]) (cs ++ [cy]) (cm + 2 ^ h) ∧ Below base w w' ∧ ∀ q, P q → w'.heap[q]? = w.heap[q]? := by
  subst hfr
  obtain ⟨i0, hi, hz0, hz1, hz2⟩ := info_parts Tryz.info_i64
  obtain ⟨vr, vc, hc, hrs, hcs, hb1, hb2, hap, hbb, hP⟩ := hC.ex
  have Hr := hid hr
  have HS0 := hid (And.intro hc (And.intro hrs (And.intro hcs (And.intro hb1 (And.intro hb2 (And.intro hap (And.intro hbb hP)))))))
  have Hbl := hid hc.lt
  have Hbb := hid hbb
  clear hr hcs hrs hc hb1 hb2 hap hC hbb hP
  obtain ⟨l0, l1⟩ := hl
  obtain ⟨n0, n1⟩ := hin
  obtain ⟨f0, f1⟩ := hf
  obtain ⟨m0, m1⟩ := hw
  obtain ⟨q0, q1⟩ := hsm
  go_enter Tryz.func79, Tryz.ntmps79
  go_wp2_with fail
  refine (control_ok 1 h cy cr cl _ Hr.out).mono ?_
  rintro e w1 ⟨⟨vv, rfl⟩, g1⟩
  have S1 := hid (CS.start HS0.out.1 HS0.out.2.1 HS0.out.2.2.1 HS0.out.2.2.2.1 HS0.out.2.2.2.2.1 HS0.out.2.2.2.2.2.1 HS0.out.2.2.2.2.2.2.1 HS0.out.2.2.2.2.2.2.2 g1)
  have Hz1 : Hid (base ≤ w1.heap.size) := hid (by have := Hbb.out; have := S1.out.cmp.lt; omega)
  have c0 := S1.out.cmp.c0
  have c1 := S1.out.cmp.c1
  have c2 := S1.out.cmp.c2
  have d0 : w1.cell? ⟨w.heap.size, 0, none⟩ = some (.int .i64 1) := bx_cell g1 0 _ rfl
  have d1 := S1.out.b1
  clear HS0 g1
  go_wp2_with fail
  have wf : IntKind.i64.wrap (first + win) = first + win := by rw [IntKind.wrap_i64]; omega
  go_quiet (fail)
  obtain ⟨w2, hw2⟩ : ∃ w2, w1.drewN nq = w2 := ⟨_, rfl⟩
  have G2 : w1.grownBy w2 none := hw2 ▸ gr_drewN (gr_refl w1 none) nq
  rw [hw2]
  clear hw2 c0 c1 c2 d0 d1
  have S2 := hid (S1.out.grown G2 Hz1.out)
  have Hz2 := hid (Nat.le_trans Hz1.out G2.size)
  have c5 := S2.out.cmp.c5
  have d1 := S2.out.b1
  clear S1 Hz1 G2
  go_wp2_with fail
  go_quiet ((go_at_call 34; exact Calls.quiet_of_same (has_same _ _ hcm hh _)))
  rw [hno]
  obtain ⟨w3, hw3⟩ : ∃ w3, w2.drewN nq = w3 := ⟨_, rfl⟩
  have G3 : w2.grownBy w3 none := hw3 ▸ gr_drewN (gr_refl w2 none) nq
  rw [hw3]
  clear hw3 c5 d1 nq
  have S3 := hid (S2.out.grown G3 Hz2.out)
  have Hz3 := hid (Nat.le_trans Hz2.out G3.size)
  have c2 := S3.out.cmp.c2
  have c3 := S3.out.cmp.c3
  clear S2 Hz2 G3
  go_wp2_with fail
  have hfz := S3.out.cmp.f 3
  have ws : IntKind.i64.wrap (l - first) = l - first := by rw [IntKind.wrap_i64]; omega
  have S3d : Hid (CS P w w3.drew base b w.heap.size win first vr vc rs cs cm h cy) := hid (S3.out.grown (gr_drew (gr_refl w3 none)) Hz3.out)
  have Hrs3 : Hid ((w3.drew.alloc (.cells #[.int .i64 (l - first)] 2)).ownsRow base 2 1 vr rs.length (rs.map (Value.int .i64))) := hid (S3d.out.rr.alloc _)
  have a3 : (w3.alloc (.cells #[.int .i64 (l - first)] 2)).cell? ⟨b, 3, none⟩ = some vr := gr_cell (gr_alloc (gr_refl w3 none) _) c3
  apply wp_behind (fun g c W => Hid (CS P w W base b w.heap.size win first (.slice (some ⟨g, 0, none⟩) (rs.length + 1) c) vc (rs ++ [l - first]) cs cm h cy) ∧ Hid (base ≤ W.heap.size))
  case h =>
    go_region_law (refine step_append_at rfl (.tmp 85) (.tmp 92) 35 rfl base 2 i0 (.int .i64 0) 1 8 Tryz.underlying35 hi hz0 hz1 hz2 rfl (by decide) vr rs.length (rs.map (Value.int .i64)) (by simp [Act.eval]) Hrs3.out ⟨w3.heap.size, 0, none⟩ 1 1 [.int .i64 (l - first)] (by simp [Act.eval]) rfl (cell_one_new _ _ _) (by simp [Value.oneCell']) (by unfold maxLen; omega) (by omega) (by have := Hz3.out; simp; omega) ?_; intro v4 w4 hown4 hg4 hat4; obtain ⟨g4, cap4, rfl⟩ := own_slice hown4; have hc4 := (S3d.out.cmp.kept (World.grownBy_alloc _ (.cells #[.int .i64 (l - first)] 2) none) (by simp)).kept hg4 (fun e => S3d.out.n1 e.symm); have k3 := hc4.c3; have z3 := hc4.f 3; have S5 := hid (S3d.out.readings Hz3.out hown4 hg4 hat4); have Hz5 : Hid (base ≤ w4.heap.size) := hid (by have := hg4.size; have := Hz3.out; simp at *; omega); clear hc4 hg4 hown4 hat4)
    all_goals exact ⟨g4, cap4, rfl, S5, hid (by simpa [World.setCell] using Hz5.out)⟩
  case k =>
    intro g4 cap4 w5 hS
    obtain ⟨S5, Hz6⟩ := hS
    clear hfz ws S3d Hrs3 a3 S3 Hz3 c2 c3
    have c4 := S5.out.cmp.c4
    have d2 := S5.out.b2
    go_wp2_with fail
    have hfz := S5.out.cmp.f 4
    have S5d : Hid (CS P w w5.drew base b w.heap.size win first (.slice (some ⟨g4, 0, none⟩) (rs.length + 1) cap4) vc (rs ++ [l - first]) cs cm h cy) := hid (S5.out.grown (gr_drew (gr_refl w5 none)) Hz6.out)
    have Hcs5 : Hid ((w5.drew.alloc (.cells #[.int .i64 cy] 2)).ownsRow base 2 1 vc cs.length (cs.map (Value.int .i64))) := hid (S5d.out.rc.alloc _)
    have a4 : (w5.alloc (.cells #[.int .i64 cy] 2)).cell? ⟨b, 4, none⟩ = some vc := gr_cell (gr_alloc (gr_refl w5 none) _) c4
    apply wp_behind (fun g c W => Hid (CS P w W base b w.heap.size win first (.slice (some ⟨g4, 0, none⟩) (rs.length + 1) cap4) (.slice (some ⟨g, 0, none⟩) (cs.length + 1) c) (rs ++ [l - first]) (cs ++ [cy]) cm h cy) ∧ Hid (base ≤ W.heap.size))
    case h =>
      go_region_law (refine step_append_at rfl (.tmp 100) (.tmp 103) 35 rfl base 2 i0 (.int .i64 0) 1 8 Tryz.underlying35 hi hz0 hz1 hz2 rfl (by decide) vc cs.length (cs.map (Value.int .i64)) (by simp [Act.eval]) Hcs5.out ⟨w5.heap.size, 0, none⟩ 1 1 [.int .i64 cy] (by simp [Act.eval]) rfl (cell_one_new _ _ _) (by simp [Value.oneCell']) (by unfold maxLen; omega) (by omega) (by have := Hz6.out; simp; omega) ?_; intro v6 w6 hown6 hg6 hat6; obtain ⟨g6, cap6, rfl⟩ := own_slice hown6; have hc6 := (S5d.out.cmp.kept (World.grownBy_alloc _ (.cells #[.int .i64 cy] 2) none) (by simp)).kept hg6 (fun e => S5d.out.n2 e.symm); have k4 := hc6.c4; have z4 := hc6.f 4; have S7 := hid (S5d.out.cycles Hz6.out hown6 hg6 hat6); have Hz7 : Hid (base ≤ w6.heap.size) := hid (by have := hg6.size; have := Hz6.out; simp at *; omega); clear hc6 hg6 hown6 hat6)
      all_goals exact ⟨g6, cap6, rfl, S7, hid (by simpa [World.setCell] using Hz7.out)⟩
    case k =>
      intro g6 cap6 w7 hS
      obtain ⟨S7, Hz8⟩ := hS
      clear hfz S5d Hcs5 a4 S5 Hz6 c4 d2
      have c5 := S7.out.cmp.c5
      have d1 := S7.out.b1
      have hfz := S7.out.cmp.f 5
      go_wp2_with fail
      have hor : bits .or .u32 (cm : Int) ((2 : Int) ^ h) = ((cm + 2 ^ h : Nat) : Int) := by
        have := or_bit ⟨cm, hcm⟩ ⟨h, hh⟩
        simp only [hno] at this
        simpa using this
      have S7d := hid (S7.out.grown (gr_alloc (gr_drew (gr_refl w7 none)) (.cells #[.int .i64 (h : Int)] 3)) Hz8.out)
      have HcellO : Hid ((w7.drew.alloc (.cells #[.int .i64 (h : Int)] 3)).cell? ⟨w7.heap.size, 0, none⟩ = some (.int .i64 (h : Int))) := hid (World.cell?_alloc_new w7.drew _ _ 0)
      have a5 : (w7.alloc (.cells #[.int .i64 (h : Int)] 3)).cell? ⟨b, 5, none⟩ = some (.int .u32 (cm : Int)) := gr_cell (gr_alloc (gr_refl w7 none) _) c5
      have z5 : (w7.alloc (.cells #[.int .i64 (h : Int)] 3)).frozen? ⟨b, 5, none⟩ = false := S7d.out.cmp.f 5
      apply wp_behind0 (fun W => Hid (CS P w W base b w.heap.size win first (.slice (some ⟨g4, 0, none⟩) (rs.length + 1) cap4) (.slice (some ⟨g6, 0, none⟩) (cs.length + 1) cap6) (rs ++ [l - first]) (cs ++ [cy]) (cm + 2 ^ h) h cy) ∧ Hid (base ≤ W.heap.size))
      case h =>
        go_region_with (go_at_call 131; refine (of_one _ h hh _ ?_).mono ?_; exact HcellO.out; rintro e w' ⟨rfl, rfl⟩)
        all_goals exact ⟨rfl, hid (S7d.out.crew (by have := Hz8.out; simp; omega) (cm + 2 ^ h)), hid (by have := Hz8.out; simp [World.setCell]; omega)⟩
      case k =>
        intro w9 hS
        obtain ⟨S9, Hz9⟩ := hS
        have c0 := S9.out.cmp.c0
        have c2 := S9.out.cmp.c2
        go_wp2_with fail
        go_quiet (fail)
        have S10 := S9.out.grown (gr_drewN (gr_refl w9 none) nq) Hz9.out
        go_wp2_with fail
        go_ret2
        exact ⟨rfl, S10.coll, S10.bel, S10.keeps⟩
end Go.Proofs.YtckoaeoecjphiaaGreat
