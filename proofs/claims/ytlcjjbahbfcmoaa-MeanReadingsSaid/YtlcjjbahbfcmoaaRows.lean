/-
  No cell of these rows narrows 'for every input' (looked for: loops, veiled, ifaces, maps, wideKeys, modest, calm, conditions, laid).
  DERIVED. THE GIVEN ROWS OF THIS SEAT. 8 by the template 'for every input the law returns true; each argument reads behind the call as it read before'; 0 by the template 'total and deterministic' (their statements: YtlcjjbahbfcmoaaTotals.lean).
  GIVEN WITH THE SEED: the statements are not yours to turn. If you find one false, say at which input.
  Laid BY PROGRAM, IN A SANDBOX (cutbox-rows.mjs): the forced cells as the released guide's own fill.sh prints them over the translation 85be0a3ba85e6efc… (all of the seat's roots in one cut). By AI agents, Wed Nov 11 2026. No macro, syntax, notation, axiom, sorry.
-/
import Derived.Test.YtlcjjbahbfcmoaaChecked
import GoSem.Claim
import GoSem.ClaimJoined
import GoSem.ClaimMapViews
import Derived.JoinedTies
import Derived.KernelRfl
namespace Go.Proofs.Ytlcjjbahbfcmoaa
/- THE CELL 'sum', in the pinned program and in every row, IS THE sha256 OF THE DUMP (.gsa) THAT YtlcjjbahbfcmoaaProg.lean LOADS. Nothing in Lean hashes anything: it is a label: what it is worth is what the hold of that sum in a sandbox is worth. -/
noncomputable def Try.pinned : Pinned := { name := "ytlcjjbahbfcmoaa", sum := "85be0a3ba85e6efcc8e23fc0aa2c71fccae7c9255fff4b0d7638ba3319ee603a", checked := Try.checked }
namespace Rows
def none {H : Type} : Left H := { results := [], args := [] }

/-- 'tocsinlaw03.MeanReadings': WHATEVER THE INPUT: true; the input reads as it did. -/
def meanReadingsSpec : ChangeSpec := { name := "meanReadings", fn := fun _ => fun
  | [d] => { results := [.lit (.bool true)], args := [d] }
  | _ => none }
def meanReadingsRow : OpenClaim := { program := "ytlcjjbahbfcmoaa", sum := "85be0a3ba85e6efcc8e23fc0aa2c71fccae7c9255fff4b0d7638ba3319ee603a", func := "tocsin/tocsinlaw03.MeanReadings", spec := "meanReadings", inPlace := ["math.Float64frombits", "math.Float64bits"], unfollowed := true, recurses := true, apart := false }
def MeanReadingsSaid : Prop := meanReadingsRow.holds Try.pinned (OpenSpec.ofChange meanReadingsSpec)

/-- ITS FALSE NEIGHBOUR: 'it returns false'. Refute it at one input. -/
def meanReadingsWrong : ChangeSpec := { name := "meanReadings", fn := fun _ => fun
  | [d] => { results := [.lit (.bool false)], args := [d] }
  | _ => none }
def MeanReadingsWrongFalsely : Prop := meanReadingsRow.holds Try.pinned (OpenSpec.ofChange meanReadingsWrong)

/-- 'tocsinlaw03.MeanRates': WHATEVER THE INPUT: true; the input reads as it did. -/
def meanRatesSpec : ChangeSpec := { name := "meanRates", fn := fun _ => fun
  | [d] => { results := [.lit (.bool true)], args := [d] }
  | _ => none }
def meanRatesRow : OpenClaim := { program := "ytlcjjbahbfcmoaa", sum := "85be0a3ba85e6efcc8e23fc0aa2c71fccae7c9255fff4b0d7638ba3319ee603a", func := "tocsin/tocsinlaw03.MeanRates", spec := "meanRates", inPlace := ["math.Float64frombits", "math.Float64bits"], unfollowed := true, recurses := true, apart := false }
def MeanRatesSaid : Prop := meanRatesRow.holds Try.pinned (OpenSpec.ofChange meanRatesSpec)

/-- ITS FALSE NEIGHBOUR: 'it returns false'. Refute it at one input. -/
def meanRatesWrong : ChangeSpec := { name := "meanRates", fn := fun _ => fun
  | [d] => { results := [.lit (.bool false)], args := [d] }
  | _ => none }
def MeanRatesWrongFalsely : Prop := meanRatesRow.holds Try.pinned (OpenSpec.ofChange meanRatesWrong)

/-- 'tocsinlaw03.MeanBad': WHATEVER THE INPUT: true; the input reads as it did. -/
def meanBadSpec : ChangeSpec := { name := "meanBad", fn := fun _ => fun
  | [d1, d2, d3] => { results := [.lit (.bool true)], args := [d1, d2, d3] }
  | _ => none }
def meanBadRow : OpenClaim := { program := "ytlcjjbahbfcmoaa", sum := "85be0a3ba85e6efcc8e23fc0aa2c71fccae7c9255fff4b0d7638ba3319ee603a", func := "tocsin/tocsinlaw03.MeanBad", spec := "meanBad", inPlace := ["math.Float64frombits", "math.Float64bits"], unfollowed := true, recurses := true, apart := false }
def MeanBadSaid : Prop := meanBadRow.holds Try.pinned (OpenSpec.ofChange meanBadSpec)

/-- ITS FALSE NEIGHBOUR: 'it returns false'. Refute it at one input. -/
def meanBadWrong : ChangeSpec := { name := "meanBad", fn := fun _ => fun
  | [d1, d2, d3] => { results := [.lit (.bool false)], args := [d1, d2, d3] }
  | _ => none }
def MeanBadWrongFalsely : Prop := meanBadRow.holds Try.pinned (OpenSpec.ofChange meanBadWrong)

/-- 'tocsinlaw03.MeanOrders': WHATEVER THE INPUT: true; the input reads as it did. -/
def meanOrdersSpec : ChangeSpec := { name := "meanOrders", fn := fun _ => fun
  | [d1, d2] => { results := [.lit (.bool true)], args := [d1, d2] }
  | _ => none }
def meanOrdersRow : OpenClaim := { program := "ytlcjjbahbfcmoaa", sum := "85be0a3ba85e6efcc8e23fc0aa2c71fccae7c9255fff4b0d7638ba3319ee603a", func := "tocsin/tocsinlaw03.MeanOrders", spec := "meanOrders", inPlace := ["math.Float64frombits", "math.Float64bits"], unfollowed := true, recurses := true, apart := false }
def MeanOrdersSaid : Prop := meanOrdersRow.holds Try.pinned (OpenSpec.ofChange meanOrdersSpec)

/-- ITS FALSE NEIGHBOUR: 'it returns false'. Refute it at one input. -/
def meanOrdersWrong : ChangeSpec := { name := "meanOrders", fn := fun _ => fun
  | [d1, d2] => { results := [.lit (.bool false)], args := [d1, d2] }
  | _ => none }
def MeanOrdersWrongFalsely : Prop := meanOrdersRow.holds Try.pinned (OpenSpec.ofChange meanOrdersWrong)

/-- 'tocsinlaw03.MeanShifts': WHATEVER THE INPUT: true; the input reads as it did. -/
def meanShiftsSpec : ChangeSpec := { name := "meanShifts", fn := fun _ => fun
  | [d1, d2] => { results := [.lit (.bool true)], args := [d1, d2] }
  | _ => none }
def meanShiftsRow : OpenClaim := { program := "ytlcjjbahbfcmoaa", sum := "85be0a3ba85e6efcc8e23fc0aa2c71fccae7c9255fff4b0d7638ba3319ee603a", func := "tocsin/tocsinlaw03.MeanShifts", spec := "meanShifts", inPlace := ["math.Float64frombits", "math.Float64bits"], unfollowed := true, recurses := true, apart := false }
def MeanShiftsSaid : Prop := meanShiftsRow.holds Try.pinned (OpenSpec.ofChange meanShiftsSpec)

/-- ITS FALSE NEIGHBOUR: 'it returns false'. Refute it at one input. -/
def meanShiftsWrong : ChangeSpec := { name := "meanShifts", fn := fun _ => fun
  | [d1, d2] => { results := [.lit (.bool false)], args := [d1, d2] }
  | _ => none }
def MeanShiftsWrongFalsely : Prop := meanShiftsRow.holds Try.pinned (OpenSpec.ofChange meanShiftsWrong)

/-- 'tocsinlaw03.MeanKeeps': WHATEVER THE INPUT: true; the input reads as it did. -/
def meanKeepsSpec : ChangeSpec := { name := "meanKeeps", fn := fun _ => fun
  | [d] => { results := [.lit (.bool true)], args := [d] }
  | _ => none }
def meanKeepsRow : OpenClaim := { program := "ytlcjjbahbfcmoaa", sum := "85be0a3ba85e6efcc8e23fc0aa2c71fccae7c9255fff4b0d7638ba3319ee603a", func := "tocsin/tocsinlaw03.MeanKeeps", spec := "meanKeeps", inPlace := ["math.Float64frombits", "math.Float64bits"], unfollowed := true, recurses := true, apart := false }
def MeanKeepsSaid : Prop := meanKeepsRow.holds Try.pinned (OpenSpec.ofChange meanKeepsSpec)

/-- ITS FALSE NEIGHBOUR: 'it returns false'. Refute it at one input. -/
def meanKeepsWrong : ChangeSpec := { name := "meanKeeps", fn := fun _ => fun
  | [d] => { results := [.lit (.bool false)], args := [d] }
  | _ => none }
def MeanKeepsWrongFalsely : Prop := meanKeepsRow.holds Try.pinned (OpenSpec.ofChange meanKeepsWrong)

/-- 'tocsinlaw03.MeanTwins': WHATEVER THE INPUT: true; the input reads as it did. -/
def meanTwinsSpec : ChangeSpec := { name := "meanTwins", fn := fun _ => fun
  | [d1, d2] => { results := [.lit (.bool true)], args := [d1, d2] }
  | _ => none }
def meanTwinsRow : OpenClaim := { program := "ytlcjjbahbfcmoaa", sum := "85be0a3ba85e6efcc8e23fc0aa2c71fccae7c9255fff4b0d7638ba3319ee603a", func := "tocsin/tocsinlaw03.MeanTwins", spec := "meanTwins", inPlace := ["math.Float64frombits", "math.Float64bits"], unfollowed := true, recurses := true, apart := false }
def MeanTwinsSaid : Prop := meanTwinsRow.holds Try.pinned (OpenSpec.ofChange meanTwinsSpec)

/-- ITS FALSE NEIGHBOUR: 'it returns false'. Refute it at one input. -/
def meanTwinsWrong : ChangeSpec := { name := "meanTwins", fn := fun _ => fun
  | [d1, d2] => { results := [.lit (.bool false)], args := [d1, d2] }
  | _ => none }
def MeanTwinsWrongFalsely : Prop := meanTwinsRow.holds Try.pinned (OpenSpec.ofChange meanTwinsWrong)

/-- 'tocsinlaw03.MeanBetween': WHATEVER THE INPUT: true; the input reads as it did. -/
def meanBetweenSpec : ChangeSpec := { name := "meanBetween", fn := fun _ => fun
  | [d1, d2, d3] => { results := [.lit (.bool true)], args := [d1, d2, d3] }
  | _ => none }
def meanBetweenRow : OpenClaim := { program := "ytlcjjbahbfcmoaa", sum := "85be0a3ba85e6efcc8e23fc0aa2c71fccae7c9255fff4b0d7638ba3319ee603a", func := "tocsin/tocsinlaw03.MeanBetween", spec := "meanBetween", inPlace := ["math.Float64frombits", "math.Float64bits"], unfollowed := true, recurses := true, apart := false }
def MeanBetweenSaid : Prop := meanBetweenRow.holds Try.pinned (OpenSpec.ofChange meanBetweenSpec)

/-- ITS FALSE NEIGHBOUR: 'it returns false'. Refute it at one input. -/
def meanBetweenWrong : ChangeSpec := { name := "meanBetween", fn := fun _ => fun
  | [d1, d2, d3] => { results := [.lit (.bool false)], args := [d1, d2, d3] }
  | _ => none }
def MeanBetweenWrongFalsely : Prop := meanBetweenRow.holds Try.pinned (OpenSpec.ofChange meanBetweenWrong)

/- THE SECOND FORM. 'bulk': how many values and letters a reading holds, each counted each time it is reached (what is shared counts as often as it is met; a slice's spare places count too). A statement '..UptoSaid' is the law's where the arguments, and the package variables that the reading takes, are together of bulk at most 1048576: NARROWER than '..Said'. Prove '..Said' where nothing that the law and all that it calls make is longer than what came in: it says more and counts as full. Else prove '..UptoSaid'. A law counts once. -/
mutual
def uptoBulk {H : Type} : DataW H → Nat
  | .lit (.string bytes) => bytes.length + 1
  | .lit _ => 1
  | .nil => 1
  | .ptr d => uptoBulk d + 1
  | .slice elems spare => uptoBulkAll elems + uptoBulkAll spare + 1
  | .agg parts => uptoBulkAll parts + 1
  | .iface _ d => uptoBulk d + 1
  | .map entries => uptoBulkEntries entries + 1
  | .held _ => 1
def uptoBulkAll {H : Type} : List (DataW H) → Nat
  | [] => 0
  | d :: r => uptoBulk d + uptoBulkAll r
def uptoBulkEntries {H : Type} : List (Lit × DataW H) → Nat
  | [] => 0
  | x :: r => uptoBulkEntry x + uptoBulkEntries r
def uptoBulkEntry {H : Type} : Lit × DataW H → Nat
  | (.string bytes, d) => bytes.length + uptoBulk d + 1
  | (_, d) => uptoBulk d + 1
 end
def uptoSmall : (H : Type) → List (DataW H) → Bool := fun _ ds => decide (uptoBulkAll ds ≤ 1048576)
def OpenSpec.upto (s : _root_.Go.ChangeSpec) : _root_.Go.OpenSpec := { _root_.Go.OpenSpec.ofChange s with cond := some uptoSmall }

/-- 'tocsinlaw03.MeanReadings', WHERE WHAT IT READS IS OF BULK AT MOST 1048576: true; the input reads as it did. -/
def meanReadingsUptoRow : OpenClaim := { program := "ytlcjjbahbfcmoaa", sum := "85be0a3ba85e6efcc8e23fc0aa2c71fccae7c9255fff4b0d7638ba3319ee603a", func := "tocsin/tocsinlaw03.MeanReadings", spec := "meanReadings", inPlace := ["math.Float64frombits", "math.Float64bits"], unfollowed := true, recurses := true, apart := false, narrowed := true }
def MeanReadingsUptoSaid : Prop := meanReadingsUptoRow.holds Try.pinned (OpenSpec.upto meanReadingsSpec)

/-- 'tocsinlaw03.MeanRates', WHERE WHAT IT READS IS OF BULK AT MOST 1048576: true; the input reads as it did. -/
def meanRatesUptoRow : OpenClaim := { program := "ytlcjjbahbfcmoaa", sum := "85be0a3ba85e6efcc8e23fc0aa2c71fccae7c9255fff4b0d7638ba3319ee603a", func := "tocsin/tocsinlaw03.MeanRates", spec := "meanRates", inPlace := ["math.Float64frombits", "math.Float64bits"], unfollowed := true, recurses := true, apart := false, narrowed := true }
def MeanRatesUptoSaid : Prop := meanRatesUptoRow.holds Try.pinned (OpenSpec.upto meanRatesSpec)

/-- 'tocsinlaw03.MeanBad', WHERE WHAT IT READS IS OF BULK AT MOST 1048576: true; the input reads as it did. -/
def meanBadUptoRow : OpenClaim := { program := "ytlcjjbahbfcmoaa", sum := "85be0a3ba85e6efcc8e23fc0aa2c71fccae7c9255fff4b0d7638ba3319ee603a", func := "tocsin/tocsinlaw03.MeanBad", spec := "meanBad", inPlace := ["math.Float64frombits", "math.Float64bits"], unfollowed := true, recurses := true, apart := false, narrowed := true }
def MeanBadUptoSaid : Prop := meanBadUptoRow.holds Try.pinned (OpenSpec.upto meanBadSpec)

/-- 'tocsinlaw03.MeanOrders', WHERE WHAT IT READS IS OF BULK AT MOST 1048576: true; the input reads as it did. -/
def meanOrdersUptoRow : OpenClaim := { program := "ytlcjjbahbfcmoaa", sum := "85be0a3ba85e6efcc8e23fc0aa2c71fccae7c9255fff4b0d7638ba3319ee603a", func := "tocsin/tocsinlaw03.MeanOrders", spec := "meanOrders", inPlace := ["math.Float64frombits", "math.Float64bits"], unfollowed := true, recurses := true, apart := false, narrowed := true }
def MeanOrdersUptoSaid : Prop := meanOrdersUptoRow.holds Try.pinned (OpenSpec.upto meanOrdersSpec)

/-- 'tocsinlaw03.MeanShifts', WHERE WHAT IT READS IS OF BULK AT MOST 1048576: true; the input reads as it did. -/
def meanShiftsUptoRow : OpenClaim := { program := "ytlcjjbahbfcmoaa", sum := "85be0a3ba85e6efcc8e23fc0aa2c71fccae7c9255fff4b0d7638ba3319ee603a", func := "tocsin/tocsinlaw03.MeanShifts", spec := "meanShifts", inPlace := ["math.Float64frombits", "math.Float64bits"], unfollowed := true, recurses := true, apart := false, narrowed := true }
def MeanShiftsUptoSaid : Prop := meanShiftsUptoRow.holds Try.pinned (OpenSpec.upto meanShiftsSpec)

/-- 'tocsinlaw03.MeanKeeps', WHERE WHAT IT READS IS OF BULK AT MOST 1048576: true; the input reads as it did. -/
def meanKeepsUptoRow : OpenClaim := { program := "ytlcjjbahbfcmoaa", sum := "85be0a3ba85e6efcc8e23fc0aa2c71fccae7c9255fff4b0d7638ba3319ee603a", func := "tocsin/tocsinlaw03.MeanKeeps", spec := "meanKeeps", inPlace := ["math.Float64frombits", "math.Float64bits"], unfollowed := true, recurses := true, apart := false, narrowed := true }
def MeanKeepsUptoSaid : Prop := meanKeepsUptoRow.holds Try.pinned (OpenSpec.upto meanKeepsSpec)

/-- 'tocsinlaw03.MeanTwins', WHERE WHAT IT READS IS OF BULK AT MOST 1048576: true; the input reads as it did. -/
def meanTwinsUptoRow : OpenClaim := { program := "ytlcjjbahbfcmoaa", sum := "85be0a3ba85e6efcc8e23fc0aa2c71fccae7c9255fff4b0d7638ba3319ee603a", func := "tocsin/tocsinlaw03.MeanTwins", spec := "meanTwins", inPlace := ["math.Float64frombits", "math.Float64bits"], unfollowed := true, recurses := true, apart := false, narrowed := true }
def MeanTwinsUptoSaid : Prop := meanTwinsUptoRow.holds Try.pinned (OpenSpec.upto meanTwinsSpec)

/-- 'tocsinlaw03.MeanBetween', WHERE WHAT IT READS IS OF BULK AT MOST 1048576: true; the input reads as it did. -/
def meanBetweenUptoRow : OpenClaim := { program := "ytlcjjbahbfcmoaa", sum := "85be0a3ba85e6efcc8e23fc0aa2c71fccae7c9255fff4b0d7638ba3319ee603a", func := "tocsin/tocsinlaw03.MeanBetween", spec := "meanBetween", inPlace := ["math.Float64frombits", "math.Float64bits"], unfollowed := true, recurses := true, apart := false, narrowed := true }
def MeanBetweenUptoSaid : Prop := meanBetweenUptoRow.holds Try.pinned (OpenSpec.upto meanBetweenSpec)

end Rows
end Go.Proofs.Ytlcjjbahbfcmoaa
