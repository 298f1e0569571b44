/- num.Sum, mean.Rates: the mean of those that are numbers. -/
import Derived.Test.YtlcjjbahbfcmoaaKind
import Derived.Test.YtlcjjbahbfcmoaaWld
import Derived.Test.YtlcjjbahbfcmoaaBox
import Derived.OwnWalk
import Derived.Laws.OwnMore
import Derived.LoopN
namespace Go.Proofs.Ytlcjjbahbfcmoaa
open Go.RowKit Go.Lib

/-- The word that the tape names where an operation has none. -/
def nanWord (w : World) (x y : Nat) : Nat := (Question.nanBits .f64 x y).cut (w.tape w.drawn (.nanBits .f64 x y))

theorem nanWord_nan (w : World) (x y : Nat) : nanB (nanWord w x y) = true := by
  rw [nanB_eq]
  unfold nanWord
  generalize w.tape w.drawn (.nanBits .f64 x y) = t
  show (Ieee.double.read ((t % 2) * 2 ^ 63 + 0x7ff0000000000000 + 1 + (t / 2) % (2 ^ 52 - 1))).isNaN = true
  have h1 : Ieee.double.signWeight = 9223372036854775808 := by decide
  have h2 : Ieee.double.binade = 4503599627370496 := by decide
  have h3 : Ieee.double.infRung = 9218868437227405312 := by decide
  have e : ((t % 2) * 2 ^ 63 + 0x7ff0000000000000 + 1 + (t / 2) % (2 ^ 52 - 1)) % 9223372036854775808 = 0x7ff0000000000000 + 1 + (t / 2) % (2 ^ 52 - 1) := by omega
  unfold Ieee.Format.read
  simp only [h1, h2, h3, e]
  rw [if_neg (by omega), if_neg (by omega), if_neg (by omega)]
  rfl

theorem run_float_add_nan (t : TypeId) (x y : Nat) (w : World) (hr : floatBits .add .f64 x y = none) : (binOp .add t (.float .f64 x) (.float .f64 y)).run Try.prog w = .ok (.float .f64 (nanWord w x y)) w.drew := by
  unfold floatBits at hr
  simp only at hr
  simp [binOp, Op.floatArith, hr, nanWord, Question.forced]
theorem run_float_quo_nan (t : TypeId) (x y : Nat) (w : World) (hr : floatBits .quo .f64 x y = none) : (binOp .quo t (.float .f64 x) (.float .f64 y)).run Try.prog w = .ok (.float .f64 (nanWord w x y)) w.drew := by
  unfold floatBits at hr
  simp only at hr
  simp [binOp, Op.floatArith, hr, nanWord, Question.forced]

def theNaN : Nat := 9221120237041090561
/-- A number's word; of none, the one NaN's. -/
def oneOf : Option Nat → Nat
  | none => theNaN
  | some r => if nanB r = true then theNaN else r
def addW (s x : Nat) : Nat := oneOf (floatBits .add .f64 s x)
def sumW (l : List Nat) : Nat := l.foldl addW 0

theorem one_any (r : Nat) (w : World) :
    Calls Try.prog 32 #[.float .f64 r] w fun e w' => e = .returned (.float .f64 (oneOf (some r))) ∧ w = w' := by
  by_cases h : nanB r = true
  · rw [show oneOf (some r) = theNaN from by simp [oneOf, h]]
    exact one_nan r w (hid h)
  · rw [show oneOf (some r) = r from by simp [oneOf, h]]
    exact one_num r w (hid (by simpa using h))

/-- The slice value sv holds the words bs, in a block below n₀; or it has none. -/
def Flts (n₀ : Nat) (W : World) (sv : Value) (bs : List Nat) : Prop :=
  (∃ a cap, sv = .slice a 0 cap ∧ bs = []) ∨ ∃ b off cap, sv = .slice (some ⟨b, off, none⟩) bs.length cap ∧ b < n₀ ∧ ∀ j, j < bs.length → W.cell? ⟨b, off + j, none⟩ = some (.float .f64 (bs[j]?.getD 0))
theorem Flts.below {n₀ : Nat} {A B : World} (h : Below n₀ A B) {sv : Value} {zs : List Nat} : Flts n₀ A sv zs → Flts n₀ B sv zs
  | .inl e => .inl e
  | .inr ⟨b, off, cap, e, hb, hc⟩ => .inr ⟨b, off, cap, e, hb, fun j hj => (h.cell (p := ⟨b, off + j, none⟩) hb).trans (hc j hj)⟩

theorem takeN_succ (bs : List Nat) (k : Nat) (h : k < bs.length) : bs.take (k + 1) = bs.take k ++ [bs[k]?.getD 0] := by
  rw [List.take_succ_eq_append_getElem h]; simp [h]
theorem sumW_snoc (l : List Nat) (x : Nat) : sumW (l ++ [x]) = addW (sumW l) x := by simp [sumW]

set_option maxHeartbeats 1000000 in
theorem sum_floats (a : Option Addr) (len cap n₀ : Nat) (bs : List Nat) (hreach : bs.length * 8 ≤ 140737488351232) (w : World) (hn₀ : n₀ ≤ w.heap.size) (hI : Flts n₀ w (.slice a len cap) bs) :
    Calls Try.prog 33 #[.slice a len cap] w fun e w' => e = .returned (.float .f64 (sumW bs)) ∧ w.grownBy w' none := by
  rcases hI with ⟨_, _, e, rfl⟩ | ⟨b, off, cap', e, hbn, hc⟩
  · cases e
    go_enter Try.func33, Try.ntmps33
    go_wp2_with fail
    refine wp_loop_rounds 1 ?_
    rw [rounds_succ]
    go_wp2_with fail
    go_ret
    exact ⟨rfl, gr_refl w none⟩
  · cases e
    have Hc := hid hc
    clear hc
    go_enter Try.func33, Try.ntmps33
    go_wp2_with fail
    go_loopw [3, 8] (fun s i wr => ∃ k : Nat, i = .int .i64 k ∧ k ≤ bs.length ∧ s = .float .f64 (sumW (bs.take k)) ∧ w.grownBy wr none) (fun _ i _ => bs.length - (intOf i).toNat)
    case atStart => exact ⟨0, rfl, Nat.zero_le _, rfl, gr_refl w none⟩
    case round =>
      obtain ⟨k, rfl, hk, rfl, hG⟩ := hrel
      by_cases hlt : k < bs.length
      · have hck := (gr_below hG hn₀ (by simp)).cell (p := ⟨b, off + k, none⟩) hbn
        rw [Hc.out k hlt] at hck
        have hs := hid (sumW_snoc (bs.take k) (bs[k]?.getD 0))
        have ht := hid (takeN_succ bs k hlt)
        obtain ⟨x, hx⟩ : ∃ x, Hid (bs[k]?.getD 0 = x) := ⟨_, hid rfl⟩
        obtain ⟨s, hsm⟩ : ∃ s, Hid (sumW (bs.take k) = s) := ⟨_, hid rfl⟩
        rw [hx.out] at hck
        have hnew : Hid (sumW (bs.take (k + 1)) = addW s x) := hid (by rw [ht.out, hs.out, hsm.out, hx.out])
        rw [hsm.out]
        cases hadd : floatBits .add .f64 s x with
        | none =>
          have hrun := fun (t : TypeId) => run_float_add_nan t s x wr hadd
          have hA : Hid (addW s x = oneOf (some (nanWord wr s x))) := hid (by unfold addW; rw [hadd]; simp [oneOf, nanWord_nan])
          clear hadd
          go_wp2_with fail
          refine (one_any _ _).mono ?_
          rintro e w' ⟨rfl, rfl⟩
          rw [← hA.out]
          go_wp2_with fail
          go_roundw
          case rel => exact ⟨k + 1, by go_num, by omega, by rw [hnew.out], gr_drew hG⟩
          case measure => simp [intOf]; omega
        | some r =>
          have hrun := fun (t : TypeId) (w : World) => run_float_arith (P := Try.prog) w .add t .f64 s x r hadd
          have hA : Hid (addW s x = oneOf (some r)) := hid (by unfold addW; rw [hadd])
          clear hadd
          go_wp2_with fail
          refine (one_any _ _).mono ?_
          rintro e w' ⟨rfl, rfl⟩
          rw [← hA.out]
          go_wp2_with fail
          go_roundw
          case rel => exact ⟨k + 1, by go_num, by omega, by rw [hnew.out], hG⟩
          case measure => simp [intOf]; omega
      · obtain rfl : k = bs.length := by omega
        clear hlt
        go_wp2_with fail
        go_ret
        exact ⟨by simp, hG⟩
end Go.Proofs.Ytlcjjbahbfcmoaa
