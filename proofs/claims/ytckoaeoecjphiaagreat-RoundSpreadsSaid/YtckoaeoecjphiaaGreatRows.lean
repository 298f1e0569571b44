/-
  No cell of these rows narrows 'for every input' (looked for: loops, veiled, ifaces, maps, wideKeys, modest, calm, conditions, laid).
  DERIVED. THE GIVEN ROWS OF THIS SEAT. 6 by the template 'for every input the law returns true; each argument reads behind the call as it read before'; 0 by the template 'total and deterministic' (their statements: YtckoaeoecjphiaaGreatTotals.lean).
  GIVEN WITH THE SEED: the statements are not yours to turn. If you find one false, say at which input.
  Laid BY PROGRAM, IN A SANDBOX (cutbox-rows.mjs): the forced cells as the released guide's own fill.sh prints them over the translation 6bdb83af806a3c22… (all of the seat's roots in one cut). By AI agents, Wed Nov 11 2026. No macro, syntax, notation, axiom, sorry.
-/
import Derived.Test.YtckoaeoecjphiaaGreatChecked
import GoSem.Claim
import GoSem.ClaimJoined
import GoSem.ClaimMapViews
import Derived.JoinedTies
import Derived.KernelRfl
namespace Go.Proofs.YtckoaeoecjphiaaGreat
/- THE CELL 'sum', in the pinned program and in every row, IS THE sha256 OF THE DUMP (.gsa) THAT YtckoaeoecjphiaaGreatProg.lean LOADS. Nothing in Lean hashes anything: it is a label: what it is worth is what the hold of that sum in a sandbox is worth. -/
noncomputable def Tryz.pinned : Pinned := { name := "ytckoaeoecjphiaagreat", sum := "6bdb83af806a3c22221037f59458f68eacf42bc67a11d28a9038d023467bf3ff", checked := Tryz.checked }
namespace Rows
def none {H : Type} : Left H := { results := [], args := [] }

/-- 'tocsinlaw20.RoundGoes': WHATEVER THE INPUT: true; the input reads as it did. -/
def roundGoesSpec : ChangeSpec := { name := "roundGoes", fn := fun _ => fun
  | [d1, d2, d3] => { results := [.lit (.bool true)], args := [d1, d2, d3] }
  | _ => none }
def roundGoesRow : OpenClaim := { program := "ytckoaeoecjphiaagreat", sum := "6bdb83af806a3c22221037f59458f68eacf42bc67a11d28a9038d023467bf3ff", func := "tocsin/tocsinlaw20.RoundGoes", spec := "roundGoes", unfollowed := true, recurses := true, named := ["math/bits.divideError", "math/bits.overflowError"], apart := false }
def RoundGoesSaid : Prop := roundGoesRow.holds Tryz.pinned (OpenSpec.ofChange roundGoesSpec)

/-- ITS FALSE NEIGHBOUR: 'it returns false'. Refute it at one input. -/
def roundGoesWrong : ChangeSpec := { name := "roundGoes", fn := fun _ => fun
  | [d1, d2, d3] => { results := [.lit (.bool false)], args := [d1, d2, d3] }
  | _ => none }
def RoundGoesWrongFalsely : Prop := roundGoesRow.holds Tryz.pinned (OpenSpec.ofChange roundGoesWrong)

/-- 'tocsinlaw20.RoundRight': WHATEVER THE INPUT: true; the input reads as it did. -/
def roundRightSpec : ChangeSpec := { name := "roundRight", fn := fun _ => fun
  | [d1, d2, d3] => { results := [.lit (.bool true)], args := [d1, d2, d3] }
  | _ => none }
def roundRightRow : OpenClaim := { program := "ytckoaeoecjphiaagreat", sum := "6bdb83af806a3c22221037f59458f68eacf42bc67a11d28a9038d023467bf3ff", func := "tocsin/tocsinlaw20.RoundRight", spec := "roundRight", unfollowed := true, recurses := true, named := ["math/bits.divideError", "math/bits.overflowError"], apart := false }
def RoundRightSaid : Prop := roundRightRow.holds Tryz.pinned (OpenSpec.ofChange roundRightSpec)

/-- ITS FALSE NEIGHBOUR: 'it returns false'. Refute it at one input. -/
def roundRightWrong : ChangeSpec := { name := "roundRight", fn := fun _ => fun
  | [d1, d2, d3] => { results := [.lit (.bool false)], args := [d1, d2, d3] }
  | _ => none }
def RoundRightWrongFalsely : Prop := roundRightRow.holds Tryz.pinned (OpenSpec.ofChange roundRightWrong)

/-- 'tocsinlaw20.RoundSpreads': WHATEVER THE INPUT: true; the input reads as it did. -/
def roundSpreadsSpec : ChangeSpec := { name := "roundSpreads", fn := fun _ => fun
  | [d1, d2, d3] => { results := [.lit (.bool true)], args := [d1, d2, d3] }
  | _ => none }
def roundSpreadsRow : OpenClaim := { program := "ytckoaeoecjphiaagreat", sum := "6bdb83af806a3c22221037f59458f68eacf42bc67a11d28a9038d023467bf3ff", func := "tocsin/tocsinlaw20.RoundSpreads", spec := "roundSpreads", unfollowed := true, recurses := true, named := ["math/bits.divideError", "math/bits.overflowError"], apart := false }
def RoundSpreadsSaid : Prop := roundSpreadsRow.holds Tryz.pinned (OpenSpec.ofChange roundSpreadsSpec)

/-- ITS FALSE NEIGHBOUR: 'it returns false'. Refute it at one input. -/
def roundSpreadsWrong : ChangeSpec := { name := "roundSpreads", fn := fun _ => fun
  | [d1, d2, d3] => { results := [.lit (.bool false)], args := [d1, d2, d3] }
  | _ => none }
def RoundSpreadsWrongFalsely : Prop := roundSpreadsRow.holds Tryz.pinned (OpenSpec.ofChange roundSpreadsWrong)

/-- 'tocsinlaw20.RoundDeaf': WHATEVER THE INPUT: true; the input reads as it did. -/
def roundDeafSpec : ChangeSpec := { name := "roundDeaf", fn := fun _ => fun
  | [d1, d2, d3] => { results := [.lit (.bool true)], args := [d1, d2, d3] }
  | _ => none }
def roundDeafRow : OpenClaim := { program := "ytckoaeoecjphiaagreat", sum := "6bdb83af806a3c22221037f59458f68eacf42bc67a11d28a9038d023467bf3ff", func := "tocsin/tocsinlaw20.RoundDeaf", spec := "roundDeaf", unfollowed := true, recurses := true, named := ["math/bits.divideError", "math/bits.overflowError"], apart := false }
def RoundDeafSaid : Prop := roundDeafRow.holds Tryz.pinned (OpenSpec.ofChange roundDeafSpec)

/-- ITS FALSE NEIGHBOUR: 'it returns false'. Refute it at one input. -/
def roundDeafWrong : ChangeSpec := { name := "roundDeaf", fn := fun _ => fun
  | [d1, d2, d3] => { results := [.lit (.bool false)], args := [d1, d2, d3] }
  | _ => none }
def RoundDeafWrongFalsely : Prop := roundDeafRow.holds Tryz.pinned (OpenSpec.ofChange roundDeafWrong)

/-- 'tocsinlaw20.RoundRuns': WHATEVER THE INPUT: true; the input reads as it did. -/
def roundRunsSpec : ChangeSpec := { name := "roundRuns", fn := fun _ => fun
  | [d1, d2, d3] => { results := [.lit (.bool true)], args := [d1, d2, d3] }
  | _ => none }
def roundRunsRow : OpenClaim := { program := "ytckoaeoecjphiaagreat", sum := "6bdb83af806a3c22221037f59458f68eacf42bc67a11d28a9038d023467bf3ff", func := "tocsin/tocsinlaw20.RoundRuns", spec := "roundRuns", unfollowed := true, recurses := true, named := ["math/bits.divideError", "math/bits.overflowError"], apart := false }
def RoundRunsSaid : Prop := roundRunsRow.holds Tryz.pinned (OpenSpec.ofChange roundRunsSpec)

/-- ITS FALSE NEIGHBOUR: 'it returns false'. Refute it at one input. -/
def roundRunsWrong : ChangeSpec := { name := "roundRuns", fn := fun _ => fun
  | [d1, d2, d3] => { results := [.lit (.bool false)], args := [d1, d2, d3] }
  | _ => none }
def RoundRunsWrongFalsely : Prop := roundRunsRow.holds Tryz.pinned (OpenSpec.ofChange roundRunsWrong)

/-- 'tocsinlaw20.RoundOnce': WHATEVER THE INPUT: true; the input reads as it did. -/
def roundOnceSpec : ChangeSpec := { name := "roundOnce", fn := fun _ => fun
  | [d1, d2] => { results := [.lit (.bool true)], args := [d1, d2] }
  | _ => none }
def roundOnceRow : OpenClaim := { program := "ytckoaeoecjphiaagreat", sum := "6bdb83af806a3c22221037f59458f68eacf42bc67a11d28a9038d023467bf3ff", func := "tocsin/tocsinlaw20.RoundOnce", spec := "roundOnce", unfollowed := true, recurses := true, named := ["math/bits.divideError", "math/bits.overflowError"], apart := false }
def RoundOnceSaid : Prop := roundOnceRow.holds Tryz.pinned (OpenSpec.ofChange roundOnceSpec)

/-- ITS FALSE NEIGHBOUR: 'it returns false'. Refute it at one input. -/
def roundOnceWrong : ChangeSpec := { name := "roundOnce", fn := fun _ => fun
  | [d1, d2] => { results := [.lit (.bool false)], args := [d1, d2] }
  | _ => none }
def RoundOnceWrongFalsely : Prop := roundOnceRow.holds Tryz.pinned (OpenSpec.ofChange roundOnceWrong)

/- THE SECOND FORM. 'bulk': how many values and letters a reading holds, each counted each time it is reached (what is shared counts as often as it is met; a slice's spare places count too). A statement '..UptoSaid' is the law's where the arguments, and the package variables that the reading takes, are together of bulk at most 1048576: NARROWER than '..Said'. Prove '..Said' where nothing that the law and all that it calls make is longer than what came in: it says more and counts as full. Else prove '..UptoSaid'. A law counts once. -/
mutual
def uptoBulk {H : Type} : DataW H → Nat
  | .lit (.string bytes) => bytes.length + 1
  | .lit _ => 1
  | .nil => 1
  | .ptr d => uptoBulk d + 1
  | .slice elems spare => uptoBulkAll elems + uptoBulkAll spare + 1
  | .agg parts => uptoBulkAll parts + 1
  | .iface _ d => uptoBulk d + 1
  | .map entries => uptoBulkEntries entries + 1
  | .held _ => 1
def uptoBulkAll {H : Type} : List (DataW H) → Nat
  | [] => 0
  | d :: r => uptoBulk d + uptoBulkAll r
def uptoBulkEntries {H : Type} : List (Lit × DataW H) → Nat
  | [] => 0
  | x :: r => uptoBulkEntry x + uptoBulkEntries r
def uptoBulkEntry {H : Type} : Lit × DataW H → Nat
  | (.string bytes, d) => bytes.length + uptoBulk d + 1
  | (_, d) => uptoBulk d + 1
 end
def uptoSmall : (H : Type) → List (DataW H) → Bool := fun _ ds => decide (uptoBulkAll ds ≤ 1048576)
def OpenSpec.upto (s : _root_.Go.ChangeSpec) : _root_.Go.OpenSpec := { _root_.Go.OpenSpec.ofChange s with cond := some uptoSmall }

/-- 'tocsinlaw20.RoundGoes', WHERE WHAT IT READS IS OF BULK AT MOST 1048576: true; the input reads as it did. -/
def roundGoesUptoRow : OpenClaim := { program := "ytckoaeoecjphiaagreat", sum := "6bdb83af806a3c22221037f59458f68eacf42bc67a11d28a9038d023467bf3ff", func := "tocsin/tocsinlaw20.RoundGoes", spec := "roundGoes", unfollowed := true, recurses := true, named := ["math/bits.divideError", "math/bits.overflowError"], apart := false, narrowed := true }
def RoundGoesUptoSaid : Prop := roundGoesUptoRow.holds Tryz.pinned (OpenSpec.upto roundGoesSpec)

/-- 'tocsinlaw20.RoundRight', WHERE WHAT IT READS IS OF BULK AT MOST 1048576: true; the input reads as it did. -/
def roundRightUptoRow : OpenClaim := { program := "ytckoaeoecjphiaagreat", sum := "6bdb83af806a3c22221037f59458f68eacf42bc67a11d28a9038d023467bf3ff", func := "tocsin/tocsinlaw20.RoundRight", spec := "roundRight", unfollowed := true, recurses := true, named := ["math/bits.divideError", "math/bits.overflowError"], apart := false, narrowed := true }
def RoundRightUptoSaid : Prop := roundRightUptoRow.holds Tryz.pinned (OpenSpec.upto roundRightSpec)

/-- 'tocsinlaw20.RoundSpreads', WHERE WHAT IT READS IS OF BULK AT MOST 1048576: true; the input reads as it did. -/
def roundSpreadsUptoRow : OpenClaim := { program := "ytckoaeoecjphiaagreat", sum := "6bdb83af806a3c22221037f59458f68eacf42bc67a11d28a9038d023467bf3ff", func := "tocsin/tocsinlaw20.RoundSpreads", spec := "roundSpreads", unfollowed := true, recurses := true, named := ["math/bits.divideError", "math/bits.overflowError"], apart := false, narrowed := true }
def RoundSpreadsUptoSaid : Prop := roundSpreadsUptoRow.holds Tryz.pinned (OpenSpec.upto roundSpreadsSpec)

/-- 'tocsinlaw20.RoundDeaf', WHERE WHAT IT READS IS OF BULK AT MOST 1048576: true; the input reads as it did. -/
def roundDeafUptoRow : OpenClaim := { program := "ytckoaeoecjphiaagreat", sum := "6bdb83af806a3c22221037f59458f68eacf42bc67a11d28a9038d023467bf3ff", func := "tocsin/tocsinlaw20.RoundDeaf", spec := "roundDeaf", unfollowed := true, recurses := true, named := ["math/bits.divideError", "math/bits.overflowError"], apart := false, narrowed := true }
def RoundDeafUptoSaid : Prop := roundDeafUptoRow.holds Tryz.pinned (OpenSpec.upto roundDeafSpec)

/-- 'tocsinlaw20.RoundRuns', WHERE WHAT IT READS IS OF BULK AT MOST 1048576: true; the input reads as it did. -/
def roundRunsUptoRow : OpenClaim := { program := "ytckoaeoecjphiaagreat", sum := "6bdb83af806a3c22221037f59458f68eacf42bc67a11d28a9038d023467bf3ff", func := "tocsin/tocsinlaw20.RoundRuns", spec := "roundRuns", unfollowed := true, recurses := true, named := ["math/bits.divideError", "math/bits.overflowError"], apart := false, narrowed := true }
def RoundRunsUptoSaid : Prop := roundRunsUptoRow.holds Tryz.pinned (OpenSpec.upto roundRunsSpec)

/-- 'tocsinlaw20.RoundOnce', WHERE WHAT IT READS IS OF BULK AT MOST 1048576: true; the input reads as it did. -/
def roundOnceUptoRow : OpenClaim := { program := "ytckoaeoecjphiaagreat", sum := "6bdb83af806a3c22221037f59458f68eacf42bc67a11d28a9038d023467bf3ff", func := "tocsin/tocsinlaw20.RoundOnce", spec := "roundOnce", unfollowed := true, recurses := true, named := ["math/bits.divideError", "math/bits.overflowError"], apart := false, narrowed := true }
def RoundOnceUptoSaid : Prop := roundOnceUptoRow.holds Tryz.pinned (OpenSpec.upto roundOnceSpec)

end Rows
end Go.Proofs.YtckoaeoecjphiaaGreat
