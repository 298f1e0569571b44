/- Lemmas: The document's round: collect. -/
import Derived.Test.YtckoaeoecjphiaaGreatK45
import Derived.Test.YtckoaeoecjphiaaGreatK33
import Derived.Test.YtckoaeoecjphiaaGreatK06
import Derived.Test.YtckoaeoecjphiaaGreatK34
import Derived.Deep.RegionWith
import Derived.Deep.OwnRows
import Derived.Laws.MakeOwn

/- The document's round: collect. -/
namespace Go.Proofs.YtckoaeoecjphiaaGreat
open Go.RowKit Go.Lib

theorem gr_bel {a b c : World} {B : Nat} (h : a.grownBy b none) (g : Below B b c) (hB : a.heap.size ≤ B) : a.grownBy c none :=
  ⟨g.os.trans h.os, g.tape.trans h.tape, g.output.trans h.output, Nat.le_trans h.size g.size, fun q hq hn => (g.block q (by omega)).trans (h.block q hq hn)⟩
/-- Behind a call that gives a slice and two numbers: the ways are forgotten. -/
def BehindV (F : Value → Int → Int → Act) (S : Value → World → Prop) : Exit → Act → World → Prop
  | .normal, a, W => ∃ v x y, a = F v x y ∧ S v W
  | _, _, _ => False
theorem wp_behindV {P : Program} {code : Code} {Q : Exit → Act → World → Prop} {a : Act} {w : World} {F : Value → Int → Int → Act} (S : Value → World → Prop) (h : code.wp P (BehindV F S) a w) (k : ∀ v x y W, S v W → Q .normal (F v x y) W) : code.wp P Q a w :=
  Code.wp_mono (fun e a W hb => by
    cases e with
    | normal => obtain ⟨v, x, y, ha, hs⟩ := hb; subst ha; exact k v x y W hs
    | _ => exact (hb : False).elim) h
/-- The marks of those that are gone. -/
structure GoneAt (W : World) (gb n : Nat) (f : Nat → Bool) : Prop where
  cell : ∀ j, j < n → W.cell? ⟨gb, j, none⟩ = some (.bool (f j))
  froz : ∀ i, W.frozen? ⟨gb, i, none⟩ = false
  lt : gb < W.heap.size
theorem GoneAt.same {W W' : World} {gb n : Nat} {f : Nat → Bool} (h : GoneAt W gb n f) (e : W'.heap[gb]? = W.heap[gb]?) (hs : W.heap.size ≤ W'.heap.size) : GoneAt W' gb n f :=
  ⟨fun j hj => (World.cell?_of_block (w := W) (a := ⟨gb, j, none⟩) e).trans (h.cell j hj), fun i => (World.frozen?_of_block (w := W) (a := ⟨gb, i, none⟩) e).trans (h.froz i), Nat.lt_of_lt_of_le h.lt hs⟩
theorem GoneAt.mark {W : World} {gb n i : Nat} {f f' : Nat → Bool} (h : GoneAt W gb n f) (hi : i < n) (hf : ∀ j, j < n → f' j = (f j || decide (i = j))) : GoneAt (W.setCell ⟨gb, i, none⟩ (.bool true)) gb n f' := by
  refine ⟨fun j hj => ?_, fun q => by simp [h.froz], by simpa [World.setCell] using h.lt⟩
  rw [hf j hj]
  by_cases e : i = j
  · subst e
    have := h.cell i hi
    simp [World.cell?_setCell_same, this]
  · rw [World.cell?_setCell_other _ _ _ _ (fun e2 => e (congrArg Addr.off e2)), h.cell j hj, decide_eq_false e]
    simp
theorem Tryz.info_bool : (Tryz.prog.info? 4).map (fun i => (i.zero, i.size, i.bytes)) = some (some (.bool false), 1, 1) := by kernel_rfl
theorem make_bools (n : Nat) (hn : n ≤ 100) : ∃ ca : Array Value, (∀ j, j < n → ca[j]? = some (.bool false)) ∧ ∀ W : World, (Instr.makeSlice 165 (.int .i64 (n : Int)) (.int .i64 (n : Int))).run Tryz.prog W = .ok (.slice (some ⟨W.heap.size, 0, none⟩) n n) (W.alloc (.cells ca 4)) := by
  obtain ⟨i0, hi, hz0, hz1, hz2⟩ := info_parts Tryz.info_bool
  refine ⟨madeCells #[.bool false] n, fun j hj => by simp [madeCells, hj, Nat.mod_one], fun W => ?_⟩
  have h := run_make (P := Tryz.prog) W 165 4 i0 (.bool false) Tryz.underlying165 hi hz0 .i64 .i64 (n : Int) (n : Int) (by omega) (Int.le_refl _) (by rw [hz2]; omega) (by omega)
  rw [hz1, show (Value.bool false).cells = #[Value.bool false] from rfl] at h
  simpa using h
theorem open_lt {p p' : Nat → Bool} {h : Nat} (h1 : p h = true) (h2 : p' h = false) (hsub : ∀ j, p' j = true → p j = true) : ∀ {n : Nat}, h < n → ((List.range n).filter p').length < ((List.range n).filter p).length
  | 0, hh => absurd hh (Nat.not_lt_zero h)
  | n + 1, hh => by
    rw [List.range_succ, List.filter_append, List.filter_append, List.length_append, List.length_append]
    have hle : ∀ m, ((List.range m).filter p').length ≤ ((List.range m).filter p).length := fun m => by
      induction m with
      | zero => simp
      | succ m ih =>
        rw [List.range_succ, List.filter_append, List.filter_append, List.length_append, List.length_append]
        have : ([m].filter p').length ≤ ([m].filter p).length := by
          cases e : p' m with
          | false => simp [e]
          | true => simp [e, hsub m e]
        omega
    by_cases e : h = n
    · subst e
      have := hle h
      simp [h1, h2]
      omega
    · have ih := open_lt h1 h2 hsub (show h < n by omega)
      have : ([n].filter p').length ≤ ([n].filter p).length := by
        cases e : p' n with
        | false => simp [e]
        | true => simp [e, hsub n e]
      omega
/-- How many are not gone yet, by the marks as they lie. -/
def openM (W : World) (gb n : Nat) : Nat := ((List.range n).filter fun j => match W.cell? ⟨gb, j, none⟩ with | some (.bool false) => true | _ => false).length
theorem openM_lt {W W' : World} {gb n h : Nat} {f f' : Nat → Bool} (hg : GoneAt W gb n f) (hg' : GoneAt W' gb n f') (hh : h < n) (h0 : f h = false) (hf : ∀ j, j < n → f' j = (f j || decide (h = j))) : openM W' gb n < openM W gb n := by
  have e1 : openM W gb n = ((List.range n).filter fun j => !f j).length := by
    unfold openM
    congr 1
    refine List.filter_congr (fun j hj => ?_)
    rw [hg.cell j (List.mem_range.1 hj)]
    cases f j <;> rfl
  have e2 : openM W' gb n = ((List.range n).filter fun j => !(f j || decide (h = j))).length := by
    unfold openM
    congr 1
    refine List.filter_congr (fun j hj => ?_)
    rw [hg'.cell j (List.mem_range.1 hj), hf j (List.mem_range.1 hj)]
    cases (f j || decide (h = j)) <;> rfl
  rw [e1, e2]
  exact open_lt (h := h) (by simp [h0]) (by simp) (fun j hj => by simp at hj ⊢; exact hj.1) hh
theorem set3h {w : World} {g : Nat} {a b c a' b' c' : Value} {t : TypeId} (h : w.heap[g]? = some (.cells #[a, b, c] t)) : (((w.setCell ⟨g, 0, none⟩ a').setCell ⟨g, 1, none⟩ b').setCell ⟨g, 2, none⟩ c').heap[g]? = some (.cells #[a', b', c'] t) := by
  simp only [World.setCell, Array.getElem?_modify, if_true, h, Option.map_some]
  rfl
theorem rcomp_came (base : Nat) (v : Value) (de wi cy : Int) (ys L : List Sd) (w : World) (hk : KR w base v (L.map (ciS de cy 0))) (hO : CameOk de wi ys L) (hne : L ≠ []) (hd : ys.Pairwise fun a b => a.h ≠ b.h) (hh : ∀ y ∈ ys, y.h < 6) (ht : ∀ y ∈ ys, 0 ≤ y.t) (hde : 0 ≤ de ∧ de ≤ 1048576) (hwi : 0 ≤ wi ∧ wi ≤ 1048576) :
    Calls Tryz.prog 90 #[v] w fun e w' => e = .returned (.agg #[.int .i64 (pointS de L), .int .u32 (crewS L : Int), .int .i64 (cycS cy L)]) ∧ w.grownBy w' none := by
  have hp := hd.sublist hO.sub
  have hh' : ∀ y ∈ L, y.h < 6 := fun y hy => hh y (hO.sub.subset hy)
  have hC := crew_of (de := de) (cy := cy) (cl := 0) L.length L rfl hp hh'
  have hl := hC.len
  have h0 : 0 < L.length := List.length_pos_iff.2 hne
  have h00 : (cith (L.map (ciS de cy 0)) 0).l = headT L + de := by rw [cith_map h0]; rfl
  have hm0 : nthS L 0 ∈ L := by rw [nthS_get h0]; exact List.getElem_mem h0
  have ha := ht _ (hO.sub.subset hm0)
  have hb := hO.hi _ hm0
  have hc := rcompress_any base v (L.map (ciS de cy 0)) (headT L + de) wi w hk (by rw [List.length_map]; exact h0) (by omega) h00 (by unfold headT; omega) hwi (fun i hi => by
    rw [List.length_map] at hi
    rw [cith_map hi]
    have := hO.win (nthS L i) (by rw [nthS_get hi]; exact List.getElem_mem hi)
    show headT L + de ≤ (nthS L i).t + de ∧ (nthS L i).t + de ≤ headT L + de + wi
    omega)
  have e1 : headT L + de + tolL (rsK (headT L + de) (L.map (ciS de cy 0))) = pointS de L := by
    unfold pointS
    rw [if_neg hne]
    congr 2
    unfold rsK
    rw [List.map_map]
    refine List.map_congr_left (fun x _ => ?_)
    show x.t + de - (headT L + de) = x.t - headT L
    omega
  have e3 : (bestTo (csK (L.map (ciS de cy 0))) (L.map (ciS de cy 0)).length).1 = cycS cy L := by
    have hlen : (csK (L.map (ciS de cy 0))).length = (L.map (ciS de cy 0)).length := by unfold csK; rw [List.length_map]
    have hne2 : csK (L.map (ciS de cy 0)) ≠ [] := fun e => by
      rw [e] at hlen
      rw [List.length_map] at hlen
      simp at hlen
      exact hne (List.length_eq_zero_iff.1 hlen.symm)
    have : (bestTo (csK (L.map (ciS de cy 0))) (L.map (ciS de cy 0)).length).1 = bestOf (csK (L.map (ciS de cy 0))) := by
      unfold bestTo bestOf
      rw [← hlen, List.take_length]
    rw [this, bestOf_most hne2, most_same cy hne2 (fun x hx => by
      unfold csK at hx
      obtain ⟨y, hy, rfl⟩ := List.mem_map.1 hx
      obtain ⟨z, _, rfl⟩ := List.mem_map.1 hy
      rfl)]
    unfold cycS
    rw [if_neg hne]
  rw [e1, hC.sum, e3] at hc
  exact hc
set_option maxRecDepth 100000 in
set_option maxHeartbeats 8000000 in
theorem rcollect_any (R : Rd) (hR : RdOk R) (ys : List Sd) (hs : Sorts R ys) (sw : Nat) (vd ve vl : Value) (sg cap : Nat) (w : World) (hcap : R.l.length ≤ cap) (hse : ∀ j, j < R.l.length → w.cell? ⟨sg, j, none⟩ = some (.int .i64 (R.sent j))) (hsg : sg < w.heap.size) :
    Calls Tryz.prog 42 #[cfV R.d.cf vd ve vl, .int .i64 R.cy, .slice (some ⟨sg, 0, none⟩) R.l.length cap, .int .u32 (R.up sw : Int)] w fun e w' => e = .returned (.tuple #[resV (R.pt sw) (R.crew sw) (cycS R.cy (R.came sw)), .bool (!(R.came sw).isEmpty)]) ∧ w.grownBy w' none := by
  have HM := hid (hs.more hR)
  have hup : R.up sw < 4294967296 := by unfold Rd.up; split; exact hR.u0; exact hR.u1
  obtain ⟨⟨C0, C1⟩, ⟨d0, d1⟩, ⟨w0, w1⟩, _⟩ := hR.span
  obtain ⟨_, ⟨y0, y1⟩⟩ := hR.pcy
  have hl6 := hR.len.1
  have hcame : Hid (R.came sw = cameS R.d.cf.de R.d.cf.wi (R.up sw) ys) := hid (by unfold Rd.came; rw [hs.eq])
  have HHas := hid (fun (h : Nat) (hh : h < 6) (W : World) => rhas_at (R.up sw) h (hid hup) hh W)
  have HFst := hid (fun (k g2 c2 : Nat) (W : World) (h1 : R.l.length ≤ c2) (h2 : ∀ j, j < R.l.length → W.cell? ⟨sg, j, none⟩ = some (.int .i64 (R.sent j))) (h3 : ∀ j, j < R.l.length → W.cell? ⟨g2, j, none⟩ = some (.bool (goneS ys k j))) => rfirst_any sg cap g2 c2 R.l.length R.sent (goneS ys k) W (by omega) hcap h1 h2 h3)
  have HAdd := hid (fun (k : Nat) (hk : k < ys.length) (hl : hasN (R.up sw) (nthS ys k).h = false) (base : Nat) (v : Value) (W : World) (hK : KR W base v ((cameS R.d.cf.de R.d.cf.wi (R.up sw) (ys.take k)).map (ciS R.d.cf.de R.cy 0))) (hB : base ≤ W.heap.size) => by
    have hO := came_ok (lost := R.up sw) (de := R.d.cf.de) hs.srt w0 k (by omega)
    have hxm : nthS ys k ∈ ys := by rw [nthS_get hk]; exact List.getElem_mem hk
    obtain ⟨m1, m2, m3, m4⟩ := HM.out.mem _ hxm
    have hsub : ∀ y ∈ cameS R.d.cf.de R.d.cf.wi (R.up sw) (ys.take k), y ∈ ys := fun y hy => List.mem_of_mem_take (hO.sub.subset hy)
    exact radd_step base v R.d.cf.wi R.d.cf.de R.cy (R.up sw) (ys.take k) _ (nthS ys k) W hK hB hO (by omega) ⟨m3, m4⟩
      (by
        have h1 : (ys.take (k + 1)).Pairwise fun a b => a.h ≠ b.h := HM.out.ne.sublist (List.take_sublist _ _)
        rw [take_snocS hk, List.pairwise_append] at h1
        rw [List.pairwise_append]
        exact ⟨h1.1.sublist hO.sub, h1.2.1, fun a ha b hb => h1.2.2 a (hO.sub.subset ha) b hb⟩)
      (fun y hy => by have := (HM.out.mem y (hsub y hy)).1; omega) hl ⟨y0, by omega⟩ (fun y hy => lex_times hs.srt hk y (hO.sub.subset hy)) (fun y hy => (HM.out.mem y (hsub y hy)).2.2.1) ⟨w0, w1⟩ ⟨d0, d1⟩)
  have HF := hid (first_ys HM.out)
  have HSe := hid hse
  have Hsg := hid hsg
  obtain ⟨pt, hpt⟩ : ∃ x, Hid (R.pt sw = x) := ⟨_, hid rfl⟩
  obtain ⟨crw, hcrw⟩ : ∃ x, Hid (R.crew sw = x) := ⟨_, hid rfl⟩
  obtain ⟨cyc, hcyc⟩ : ∃ x, Hid (cycS R.cy (R.came sw) = x) := ⟨_, hid rfl⟩
  obtain ⟨bb, hbb⟩ : ∃ x, Hid ((!(R.came sw).isEmpty) = x) := ⟨_, hid rfl⟩
  have hpt' : Hid (pointS R.d.cf.de (R.came sw) = pt) := hpt
  have hcrw' : Hid (crewS (R.came sw) = crw) := hcrw
  rw [hpt.out, hcrw.out, hcyc.out, hbb.out]
  rw [hcame.out] at hpt' hcrw' hcyc hbb
  have hO := hid (came_ok (lost := R.up sw) (de := R.d.cf.de) hs.srt w0 ys.length (Nat.le_refl _))
  rw [List.take_length] at hO
  clear hpt hcrw hcame hup
  obtain ⟨n, hn⟩ : ∃ x, Hid (R.l.length = x) := ⟨_, hid rfl⟩
  obtain ⟨lost, hlost⟩ : ∃ x, Hid (R.up sw = x) := ⟨_, hid rfl⟩
  obtain ⟨cy, hcy⟩ : ∃ x, Hid (R.cy = x) := ⟨_, hid rfl⟩
  obtain ⟨c, hc⟩ : ∃ x, Hid (R.d.cf = x) := ⟨_, hid rfl⟩
  rw [hn.out] at HFst HF HSe hl6 hcap
  rw [hlost.out] at HHas HAdd hpt' hcrw' hcyc hbb hO
  rw [hcy.out] at HAdd hcyc y0 y1
  rw [hc.out] at HAdd hpt' hcrw' hcyc hbb hO C0 C1 d0 d1 w0 w1
  rw [hn.out, hlost.out, hcy.out, hc.out]
  obtain ⟨ho, C, de, wi, pr, qu⟩ := c
  dsimp only at *
  obtain ⟨ca, hca, hmk⟩ := make_bools n (by omega)
  have Hca := hid hca
  have Hn6 := hid hl6
  clear hcap hse hsg hca
  go_enter Tryz.func42, Tryz.ntmps42
  go_wp2_with fail
  obtain ⟨W0, hW0⟩ : ∃ W0, (((w.alloc (.cells #[.int .i64 ho, .int .i64 C, .int .i64 de, .int .i64 wi, .int .i64 pr, vd, ve, vl, .int .i64 qu] 26)).alloc (.cells #[.int .i64 0, .int .u32 0, .int .i64 0] 107)).alloc (.cells ca 4)) = W0 := ⟨_, rfl⟩
  have b0 := hid (show W0.heap[w.heap.size]? = some (.cells #[.int .i64 ho, .int .i64 C, .int .i64 de, .int .i64 wi, .int .i64 pr, vd, ve, vl, .int .i64 qu] 26) by rw [← hW0]; exact box_heap (gr_alloc (gr_alloc (gr_refl _ none) _) _))
  have b1 := hid (show W0.heap[w.heap.size + 1]? = some (.cells #[.int .i64 0, .int .u32 0, .int .i64 0] 107) by rw [← hW0]; exact box_heap2 (gr_alloc (gr_refl _ none) _))
  have b2 := hid (show W0.heap[w.heap.size + 2]? = some (.cells ca 4) by
    rw [← hW0]
    have := heap_alloc_new ((w.alloc (.cells #[.int .i64 ho, .int .i64 C, .int .i64 de, .int .i64 wi, .int .i64 pr, vd, ve, vl, .int .i64 qu] 26)).alloc (.cells #[.int .i64 0, .int .u32 0, .int .i64 0] 107)) (.cells ca 4)
    simpa using this)
  have g0 := hid (show w.grownBy W0 none by rw [← hW0]; exact gr_alloc (gr_alloc (gr_alloc (gr_refl w none) _) _) _)
  have hsz := hid (show W0.heap.size = w.heap.size + 3 by rw [← hW0]; simp)
  have G0 := hid (show GoneAt W0 (w.heap.size + 2) n (goneS ys 0) from ⟨fun j hj => by rw [goneS_zero]; exact hcell b2.out j _ (Hca.out j hj), fun i => hfroz b2.out i, by have := hsz.out; omega⟩)
  rw [hW0]
  clear hW0 b2 hmk
  obtain ⟨B, hB⟩ : ∃ B, Hid (W0.heap.size = B) := ⟨_, hid rfl⟩
  have hgB := hid (show w.heap.size + 1 + 1 < B by rw [← hB.out, hsz.out]; omega)
  go_loopw [10] (fun x wr => ∃ k : Nat, k ≤ ys.length ∧ Hid (KR wr B x ((cameS de wi lost (ys.take k)).map (ciS de cy 0))) ∧ Hid (GoneAt wr (w.heap.size + 1 + 1) n (goneS ys k)) ∧ Hid (wr.heap[w.heap.size]? = some (.cells #[.int .i64 ho, .int .i64 C, .int .i64 de, .int .i64 wi, .int .i64 pr, vd, ve, vl, .int .i64 qu] 26)) ∧ Hid (wr.heap[w.heap.size + 1]? = some (.cells #[.int .i64 0, .int .u32 0, .int .i64 0] 107)) ∧ Hid (w.grownBy wr none) ∧ Hid (B ≤ wr.heap.size)) (fun _ wr => openM wr (w.heap.size + 1 + 1) n)
  case atStart => exact ⟨0, Nat.zero_le _, hid (World.ownsRow_nil _ _ _ _), G0, b0, b1, g0, hid (Nat.le_of_eq hB.out.symm)⟩
  case round =>
    obtain ⟨k, hk, HK, HGo, Hc, Hr, HG, HBr⟩ := hrel
    have HFk := HF.out k
    have hfst := HFst.out k (w.heap.size + 1 + 1) n wr (Nat.le_refl _) (fun j hj => gr_cell HG.out (HSe.out j hj)) HGo.out.cell
    by_cases hlt : k < ys.length
    · rw [if_pos hlt] at HFk
      rw [HFk] at hfst
      obtain ⟨m1, m2, m3, m4⟩ := HM.out.mem (nthS ys k) (by rw [nthS_get hlt]; exact List.getElem_mem hlt)
      rw [hn.out] at m1
      have hnot := hid (not_taken HM.out.ne (show nthS ys k ∈ ys.drop k by rw [drop_nthS hlt]; simp))
      have HA := hid (HAdd.out k hlt)
      have hgs := hid (fun j => goneS_succ hlt j)
      have htk := hid (show cameS de wi lost (ys.take (k + 1)) = takeS de wi lost (cameS de wi lost (ys.take k)) (nthS ys k) by rw [take_snocS hlt, cameS_snoc])
      obtain ⟨h, hh⟩ : ∃ h, Hid ((nthS ys k).h = h) := ⟨_, hid rfl⟩
      obtain ⟨t, ht⟩ : ∃ t, Hid ((nthS ys k).t = t) := ⟨_, hid rfl⟩
      have hset : Hid (R.sent h = t) := hid (by rw [← hh.out, ← m2]; exact ht.out)
      rw [hh.out] at hfst m1 hnot HA
      rw [ht.out] at m3 m4 HA
      have hgs' := hid (fun j (_ : j < n) => hgs.out j)
      rw [hh.out] at hgs'
      have hsc := HSe.out h m1
      rw [hset.out] at hsc
      have Hsc := hid hsc
      have hfst' := hid hfst
      have hh6 : (h : Int) < (n : Int) := by omega
      have hh0 : decide ((h : Int) < 0) = false := decide_eq_false (by omega)
      have wst : IntKind.i64.wrap (t + de) = t + de := IntWalk.i64_in _ (by omega)
      have hHas := hid (fun W => HHas.out h (by have := Hn6.out; omega) W)
      obtain ⟨q, hq⟩ : ∃ q, Hid (hasN lost h = q) := ⟨_, hid rfl⟩
      rw [hq.out] at hHas HA
      clear HFk hfst m2 hsc
      go_wp2_with fail
      refine hfst'.out.mono ?_
      rintro e w2 ⟨rfl, g2⟩
      have HK2 := hid (HK.out.kept g2 (by cases Value.ownBlock u10 <;> simp))
      have HGo2 := hid (HGo.out.same (g2.block _ HGo.out.lt (by simp)) g2.size)
      have Hc2 := hid (gr_heap g2 Hc.out (by simp))
      have Hr2 := hid (gr_heap g2 Hr.out (by simp))
      have HG2 := hid (gr_trans HG.out g2)
      have HB2 := hid (Nat.le_trans HBr.out g2.size)
      have k1 := HGo2.out.cell h m1
      have k2 := HGo2.out.froz h
      go_wp2_with fail
      refine (hHas.out _).mono ?_
      rintro e w5 ⟨rfl, rfl⟩
      obtain ⟨w3, hw3⟩ : ∃ w3, w2.setCell ⟨w.heap.size + 1 + 1, h, none⟩ (.bool true) = w3 := ⟨_, rfl⟩
      have HK3 : Hid (KR w3 B u10 ((cameS de wi lost (ys.take k)).map (ciS de cy 0))) := hid (by rw [← hw3]; exact own_other HK2.out (fun e => by have := (HK2.out.lt _ e).1; have := hgB.out; omega))
      have HGo3 : Hid (GoneAt w3 (w.heap.size + 1 + 1) n (goneS ys (k + 1))) := hid (by rw [← hw3]; exact HGo2.out.mark m1 hgs'.out)
      have Hc3 : Hid (w3.heap[w.heap.size]? = some (.cells #[.int .i64 ho, .int .i64 C, .int .i64 de, .int .i64 wi, .int .i64 pr, vd, ve, vl, .int .i64 qu] 26)) := hid (by rw [← hw3, setCell_heap (by omega)]; exact Hc2.out)
      have Hr3 : Hid (w3.heap[w.heap.size + 1]? = some (.cells #[.int .i64 0, .int .u32 0, .int .i64 0] 107)) := hid (by rw [← hw3, setCell_heap (by omega)]; exact Hr2.out)
      have HG3 : Hid (w.grownBy w3 none) := hid (by rw [← hw3]; exact gr_setNew HG2.out (by omega) h (.bool true))
      have HB3 : Hid (B ≤ w3.heap.size) := hid (by rw [← hw3]; simpa [World.setCell] using HB2.out)
      have hlt3 := hid (openM_lt HGo.out HGo3.out m1 hnot.out hgs'.out)
      rw [hw3]
      clear hw3 k1 k2 HK2 HGo2 Hc2 Hr2 HG2 HB2 hh0
      cases q
      · have HA' := hid (HA.out rfl B u10)
        clear HA hHas hfst'
        have k1 := hcell Hc3.out 2 _ rfl
        have k3 := hcell Hc3.out 3 _ rfl
        have k4 := gr_cell HG3.out Hsc.out
        go_wp2_with fail
        apply wp_behindV (fun v W => Hid (KR W B v ((cameS de wi lost (ys.take (k + 1))).map (ciS de cy 0))) ∧ Hid (Below B w3 W))
        case h =>
          go_region_with (go_at_call 89; refine (HA'.out _ (HK3.out.kept (gr_drew (gr_refl w3 none)) (by cases Value.ownBlock u10 <;> simp)) HB3.out).mono ?_; rintro e w5 ⟨v2, e1, e2, rfl, hK5, hB5⟩; have HK5 := hid (by rw [htk.out]; exact hK5.out : KR w5 B v2 ((cameS de wi lost (ys.take (k + 1))).map (ciS de cy 0))); have HB5 := hid ((Below.refl B w3).drew.trans hB5.out); clear hK5 hB5)
          all_goals simp only [Act.put, List.getElem_toArray, List.getElem_cons_zero, List.getElem_cons_succ, List.setIfInBounds_toArray, List.set_cons_zero, List.set_cons_succ]
          all_goals exact ⟨v2, e1, e2, rfl, HK5, HB5⟩
        case k =>
          intro v2 e1 e2 W5 hS
          obtain ⟨HK5, HB5⟩ := hS
          have HGo5 := hid (HGo3.out.same (HB5.out.block _ hgB.out) HB5.out.size)
          have Hc5 := hid ((HB5.out.block w.heap.size (by have := hgB.out; omega)).trans Hc3.out)
          have Hr5 := hid ((HB5.out.block (w.heap.size + 1) (by have := hgB.out; omega)).trans Hr3.out)
          have HG5 := hid (gr_bel HG3.out HB5.out (by have := hgB.out; omega))
          have HB6 := hid (Nat.le_trans HB3.out HB5.out.size)
          have hlt5 := hid (openM_lt HGo.out HGo5.out m1 hnot.out hgs'.out)
          clear k1 k3 k4
          go_wp2_with fail
          go_roundw
          case rel => exact ⟨k + 1, by omega, HK5, HGo5, Hc5, Hr5, HG5, HB6⟩
          case measure => exact hlt5.out
      · have hT : Hid (cameS de wi lost (ys.take (k + 1)) = cameS de wi lost (ys.take k)) := hid (by
          rw [htk.out]
          unfold takeS
          rw [hh.out, hq.out, if_pos rfl])
        clear HA hHas hfst'
        go_wp2_with fail
        go_roundw
        case rel => exact ⟨k + 1, by omega, hid (by rw [hT.out]; exact HK3.out), HGo3, Hc3, Hr3, HG3, HB3⟩
        case measure => exact hlt3.out
    · obtain rfl : k = ys.length := by omega
      rw [if_neg hlt] at HFk
      rw [HFk] at hfst
      have hfst' := hid hfst
      have htl : ys.take ys.length = ys := List.take_length
      have HKe : Hid (KR wr B u10 ((cameS de wi lost ys).map (ciS de cy 0))) := hid (by have := HK.out; rw [htl] at this; exact this)
      clear HFk hfst hlt HK
      have hL := hid (rfl : cameS de wi lost ys = cameS de wi lost ys)
      clear hL
      by_cases hemp : cameS de wi lost ys = []
      · rw [hemp] at hpt' hcrw' hcyc hbb
        have e1 : pt = 0 := by rw [← hpt'.out]; rfl
        have e2 : crw = 0 := by rw [← hcrw'.out]; rfl
        have e3 : cyc = 0 := by rw [← hcyc.out]; rfl
        have e4 : bb = false := by rw [← hbb.out]; rfl
        subst e1 e2 e3 e4
        obtain ⟨a, vc, hv⟩ := own_form HKe.out
        rw [hemp] at hv
        have hv' : u10 = .slice a 0 vc := hv
        subst hv'
        clear hv hemp
        go_wp2_with fail
        refine hfst'.out.mono ?_
        rintro e w6 ⟨rfl, g2⟩
        have Hr6 := hid (gr_heap g2 Hr.out (by simp))
        have HG6 := hid (gr_trans HG.out g2)
        have z0 := hcell Hr6.out 0 _ rfl
        have z1 := hcell Hr6.out 1 _ rfl
        have z2 := hcell Hr6.out 2 _ rfl
        have f0 := hfroz Hr6.out 0
        have f1 := hfroz Hr6.out 1
        have f2 := hfroz Hr6.out 2
        go_wp2_with fail
        obtain ⟨w7, hw7⟩ : ∃ w7, ((w6.setCell ⟨w.heap.size + 1, 0, none⟩ (.int .i64 0)).setCell ⟨w.heap.size + 1, 1, none⟩ (.int .u32 0)).setCell ⟨w.heap.size + 1, 2, none⟩ (.int .i64 0) = w7 := ⟨_, rfl⟩
        have hb7 : w7.heap[w.heap.size + 1]? = some (.cells #[.int .i64 0, .int .u32 0, .int .i64 0] 107) := by rw [← hw7]; exact set3h Hr6.out
        have hg7 : w.grownBy w7 none := by rw [← hw7]; exact gr_setNew (gr_setNew (gr_setNew HG6.out (by omega) 0 _) (by omega) 1 _) (by omega) 2 _
        rw [hw7]
        clear hw7
        have o0 := hcell hb7 0 _ rfl
        have o1 := hcell hb7 1 _ rfl
        have o2 := hcell hb7 2 _ rfl
        exact bodyPost_ret (v := .tuple #[.agg #[.int .i64 0, .int .u32 0, .int .i64 0], .bool false]) (by simp [results, Tryz.results42, go_sem, o0, o1, o2]) rfl ⟨rfl, hg7⟩
      · have e4 : bb = true := by rw [← hbb.out]; cases h : cameS de wi lost ys with
          | nil => exact absurd h hemp
          | cons y r => rfl
        subst e4
        have hcomp := hid (fun (W : World) (hK : KR W B u10 ((cameS de wi lost ys).map (ciS de cy 0))) => rcomp_came B u10 de wi cy ys (cameS de wi lost ys) W hK hO.out hemp HM.out.ne (fun y hy => by have := (HM.out.mem y hy).1; have := Hn6.out; have := hn.out; omega) (fun y hy => (HM.out.mem y hy).2.2.1) ⟨d0, d1⟩ ⟨w0, w1⟩)
        rw [hpt'.out, hcrw'.out, hcyc.out] at hcomp
        obtain ⟨a, vc, hv⟩ := own_form HKe.out
        obtain ⟨m, hm⟩ : ∃ m, ((cameS de wi lost ys).map (ciS de cy 0)).length = m := ⟨_, rfl⟩
        rw [hm] at hv
        have hm0 : m ≠ 0 := by rw [← hm, List.length_map]; exact fun e => hemp (List.length_eq_zero_iff.1 e)
        have hmz : ((m : Int) == 0) = false := by simp; omega
        subst hv
        clear hm hm0 hemp
        go_wp2_with fail
        refine hfst'.out.mono ?_
        rintro e w5 ⟨rfl, g2⟩
        have HK5 := hid (HKe.out.kept g2 (by cases Value.ownBlock (.slice a m vc) <;> simp))
        have Hr5 := hid (gr_heap g2 Hr.out (by simp))
        have HG5 := hid (gr_trans HG.out g2)
        clear g2
        go_wp2_with fail
        refine (hcomp.out _ HK5.out).mono ?_
        rintro e w6 ⟨rfl, g6⟩
        have Hr6 := hid (gr_heap g6 Hr5.out (by simp))
        have HG6 := hid (gr_trans HG5.out g6)
        clear g6
        have z0 := hcell Hr6.out 0 _ rfl
        have z1 := hcell Hr6.out 1 _ rfl
        have z2 := hcell Hr6.out 2 _ rfl
        have f0 := hfroz Hr6.out 0
        have f1 := hfroz Hr6.out 1
        have f2 := hfroz Hr6.out 2
        go_wp2_with fail
        obtain ⟨w7, hw7⟩ : ∃ w7, ((w6.setCell ⟨w.heap.size + 1, 0, none⟩ (.int .i64 pt)).setCell ⟨w.heap.size + 1, 1, none⟩ (.int .u32 (crw : Int))).setCell ⟨w.heap.size + 1, 2, none⟩ (.int .i64 cyc) = w7 := ⟨_, rfl⟩
        have hb7 : w7.heap[w.heap.size + 1]? = some (.cells #[.int .i64 pt, .int .u32 (crw : Int), .int .i64 cyc] 107) := by rw [← hw7]; exact set3h Hr6.out
        have hg7 : w.grownBy w7 none := by rw [← hw7]; exact gr_setNew (gr_setNew (gr_setNew HG6.out (by omega) 0 _) (by omega) 1 _) (by omega) 2 _
        rw [hw7]
        clear hw7
        have o0 := hcell hb7 0 _ rfl
        have o1 := hcell hb7 1 _ rfl
        have o2 := hcell hb7 2 _ rfl
        exact bodyPost_ret (v := .tuple #[.agg #[.int .i64 pt, .int .u32 (crw : Int), .int .i64 cyc], .bool true]) (by simp [results, Tryz.results42, go_sem, o0, o1, o2]) rfl ⟨rfl, hg7⟩
end Go.Proofs.YtckoaeoecjphiaaGreat
