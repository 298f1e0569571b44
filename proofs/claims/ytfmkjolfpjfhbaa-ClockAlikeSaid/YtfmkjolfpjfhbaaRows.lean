/-
  No cell of these rows narrows 'for every input' (looked for: loops, veiled, ifaces, maps, wideKeys, modest, calm, conditions, laid).
  DERIVED. THE GIVEN ROWS OF THIS SEAT. 6 by the template 'for every input the law returns true; each argument reads behind the call as it read before'; 0 by the template 'total and deterministic' (their statements: YtfmkjolfpjfhbaaTotals.lean).
  GIVEN WITH THE SEED: the statements are not yours to turn. If you find one false, say at which input.
  Laid BY PROGRAM, IN A SANDBOX (cutbox-rows.mjs): the forced cells as the released guide's own fill.sh prints them over the translation 086f244e5a94f90d… (all of the seat's roots in one cut). By AI agents, Wed Nov 11 2026. No macro, syntax, notation, axiom, sorry.
-/
import Derived.Test.YtfmkjolfpjfhbaaChecked
import GoSem.Claim
import GoSem.ClaimJoined
import GoSem.ClaimMapViews
import Derived.JoinedTies
import Derived.KernelRfl
namespace Go.Proofs.Ytfmkjolfpjfhbaa
/- THE CELL 'sum', in the pinned program and in every row, IS THE sha256 OF THE DUMP (.gsa) THAT YtfmkjolfpjfhbaaProg.lean LOADS. Nothing in Lean hashes anything: it is a label: what it is worth is what the hold of that sum in a sandbox is worth. -/
noncomputable def Try.pinned : Pinned := { name := "ytfmkjolfpjfhbaa", sum := "086f244e5a94f90dac7558be485e366ed9c3722ce17c7992dbf2a142715b3c43", checked := Try.checked }
namespace Rows
def none {H : Type} : Left H := { results := [], args := [] }

/-- 'tocsinlaw04.ClockPlays': WHATEVER THE INPUT: true; the input reads as it did. -/
def clockPlaysSpec : ChangeSpec := { name := "clockPlays", fn := fun _ => fun
  | [d1, d2] => { results := [.lit (.bool true)], args := [d1, d2] }
  | _ => none }
def clockPlaysRow : OpenClaim := { program := "ytfmkjolfpjfhbaa", sum := "086f244e5a94f90dac7558be485e366ed9c3722ce17c7992dbf2a142715b3c43", func := "tocsin/tocsinlaw04.ClockPlays", spec := "clockPlays", inPlace := ["math.Float64frombits", "math.RoundToEven"], unfollowed := true, recurses := true, named := ["math/bits.divideError", "math/bits.overflowError"], apart := false }
def ClockPlaysSaid : Prop := clockPlaysRow.holds Try.pinned (OpenSpec.ofChange clockPlaysSpec)

/-- ITS FALSE NEIGHBOUR: 'it returns false'. Refute it at one input. -/
def clockPlaysWrong : ChangeSpec := { name := "clockPlays", fn := fun _ => fun
  | [d1, d2] => { results := [.lit (.bool false)], args := [d1, d2] }
  | _ => none }
def ClockPlaysWrongFalsely : Prop := clockPlaysRow.holds Try.pinned (OpenSpec.ofChange clockPlaysWrong)

/-- 'tocsinlaw04.ClockOnwards': WHATEVER THE INPUT: true; the input reads as it did. -/
def clockOnwardsSpec : ChangeSpec := { name := "clockOnwards", fn := fun _ => fun
  | [d1, d2] => { results := [.lit (.bool true)], args := [d1, d2] }
  | _ => none }
def clockOnwardsRow : OpenClaim := { program := "ytfmkjolfpjfhbaa", sum := "086f244e5a94f90dac7558be485e366ed9c3722ce17c7992dbf2a142715b3c43", func := "tocsin/tocsinlaw04.ClockOnwards", spec := "clockOnwards", inPlace := ["math.Float64frombits", "math.RoundToEven"], unfollowed := true, recurses := true, named := ["math/bits.divideError", "math/bits.overflowError"], apart := false }
def ClockOnwardsSaid : Prop := clockOnwardsRow.holds Try.pinned (OpenSpec.ofChange clockOnwardsSpec)

/-- ITS FALSE NEIGHBOUR: 'it returns false'. Refute it at one input. -/
def clockOnwardsWrong : ChangeSpec := { name := "clockOnwards", fn := fun _ => fun
  | [d1, d2] => { results := [.lit (.bool false)], args := [d1, d2] }
  | _ => none }
def ClockOnwardsWrongFalsely : Prop := clockOnwardsRow.holds Try.pinned (OpenSpec.ofChange clockOnwardsWrong)

/-- 'tocsinlaw04.ClockWhens': WHATEVER THE INPUT: true; the input reads as it did. -/
def clockWhensSpec : ChangeSpec := { name := "clockWhens", fn := fun _ => fun
  | [d1, d2] => { results := [.lit (.bool true)], args := [d1, d2] }
  | _ => none }
def clockWhensRow : OpenClaim := { program := "ytfmkjolfpjfhbaa", sum := "086f244e5a94f90dac7558be485e366ed9c3722ce17c7992dbf2a142715b3c43", func := "tocsin/tocsinlaw04.ClockWhens", spec := "clockWhens", inPlace := ["math.Float64frombits", "math.RoundToEven"], unfollowed := true, recurses := true, named := ["math/bits.divideError", "math/bits.overflowError"], apart := false }
def ClockWhensSaid : Prop := clockWhensRow.holds Try.pinned (OpenSpec.ofChange clockWhensSpec)

/-- ITS FALSE NEIGHBOUR: 'it returns false'. Refute it at one input. -/
def clockWhensWrong : ChangeSpec := { name := "clockWhens", fn := fun _ => fun
  | [d1, d2] => { results := [.lit (.bool false)], args := [d1, d2] }
  | _ => none }
def ClockWhensWrongFalsely : Prop := clockWhensRow.holds Try.pinned (OpenSpec.ofChange clockWhensWrong)

/-- 'tocsinlaw04.ClockDrifts': WHATEVER THE INPUT: true; the input reads as it did. -/
def clockDriftsSpec : ChangeSpec := { name := "clockDrifts", fn := fun _ => fun
  | [d1, d2, d3] => { results := [.lit (.bool true)], args := [d1, d2, d3] }
  | _ => none }
def clockDriftsRow : OpenClaim := { program := "ytfmkjolfpjfhbaa", sum := "086f244e5a94f90dac7558be485e366ed9c3722ce17c7992dbf2a142715b3c43", func := "tocsin/tocsinlaw04.ClockDrifts", spec := "clockDrifts", inPlace := ["math.Float64frombits", "math.RoundToEven"], unfollowed := true, recurses := true, named := ["math/bits.divideError", "math/bits.overflowError"], apart := false }
def ClockDriftsSaid : Prop := clockDriftsRow.holds Try.pinned (OpenSpec.ofChange clockDriftsSpec)

/-- ITS FALSE NEIGHBOUR: 'it returns false'. Refute it at one input. -/
def clockDriftsWrong : ChangeSpec := { name := "clockDrifts", fn := fun _ => fun
  | [d1, d2, d3] => { results := [.lit (.bool false)], args := [d1, d2, d3] }
  | _ => none }
def ClockDriftsWrongFalsely : Prop := clockDriftsRow.holds Try.pinned (OpenSpec.ofChange clockDriftsWrong)

/-- 'tocsinlaw04.ClockAlike': WHATEVER THE INPUT: true; the input reads as it did. -/
def clockAlikeSpec : ChangeSpec := { name := "clockAlike", fn := fun _ => fun
  | [d1, d2, d3] => { results := [.lit (.bool true)], args := [d1, d2, d3] }
  | _ => none }
def clockAlikeRow : OpenClaim := { program := "ytfmkjolfpjfhbaa", sum := "086f244e5a94f90dac7558be485e366ed9c3722ce17c7992dbf2a142715b3c43", func := "tocsin/tocsinlaw04.ClockAlike", spec := "clockAlike", inPlace := ["math.Float64frombits", "math.RoundToEven", "math.Float64bits"], unfollowed := true, recurses := true, named := ["math/bits.divideError", "math/bits.overflowError"], apart := false }
def ClockAlikeSaid : Prop := clockAlikeRow.holds Try.pinned (OpenSpec.ofChange clockAlikeSpec)

/-- ITS FALSE NEIGHBOUR: 'it returns false'. Refute it at one input. -/
def clockAlikeWrong : ChangeSpec := { name := "clockAlike", fn := fun _ => fun
  | [d1, d2, d3] => { results := [.lit (.bool false)], args := [d1, d2, d3] }
  | _ => none }
def ClockAlikeWrongFalsely : Prop := clockAlikeRow.holds Try.pinned (OpenSpec.ofChange clockAlikeWrong)

/-- 'tocsinlaw04.ClockSets': WHATEVER THE INPUT: true; the input reads as it did. -/
def clockSetsSpec : ChangeSpec := { name := "clockSets", fn := fun _ => fun
  | [d1, d2] => { results := [.lit (.bool true)], args := [d1, d2] }
  | _ => none }
def clockSetsRow : OpenClaim := { program := "ytfmkjolfpjfhbaa", sum := "086f244e5a94f90dac7558be485e366ed9c3722ce17c7992dbf2a142715b3c43", func := "tocsin/tocsinlaw04.ClockSets", spec := "clockSets", inPlace := ["math.Float64frombits", "math.RoundToEven"], unfollowed := true, recurses := true, named := ["math/bits.divideError", "math/bits.overflowError"], apart := false }
def ClockSetsSaid : Prop := clockSetsRow.holds Try.pinned (OpenSpec.ofChange clockSetsSpec)

/-- ITS FALSE NEIGHBOUR: 'it returns false'. Refute it at one input. -/
def clockSetsWrong : ChangeSpec := { name := "clockSets", fn := fun _ => fun
  | [d1, d2] => { results := [.lit (.bool false)], args := [d1, d2] }
  | _ => none }
def ClockSetsWrongFalsely : Prop := clockSetsRow.holds Try.pinned (OpenSpec.ofChange clockSetsWrong)

/- THE SECOND FORM. 'bulk': how many values and letters a reading holds, each counted each time it is reached (what is shared counts as often as it is met; a slice's spare places count too). A statement '..UptoSaid' is the law's where the arguments, and the package variables that the reading takes, are together of bulk at most 1048576: NARROWER than '..Said'. Prove '..Said' where nothing that the law and all that it calls make is longer than what came in: it says more and counts as full. Else prove '..UptoSaid'. A law counts once. -/
mutual
def uptoBulk {H : Type} : DataW H → Nat
  | .lit (.string bytes) => bytes.length + 1
  | .lit _ => 1
  | .nil => 1
  | .ptr d => uptoBulk d + 1
  | .slice elems spare => uptoBulkAll elems + uptoBulkAll spare + 1
  | .agg parts => uptoBulkAll parts + 1
  | .iface _ d => uptoBulk d + 1
  | .map entries => uptoBulkEntries entries + 1
  | .held _ => 1
def uptoBulkAll {H : Type} : List (DataW H) → Nat
  | [] => 0
  | d :: r => uptoBulk d + uptoBulkAll r
def uptoBulkEntries {H : Type} : List (Lit × DataW H) → Nat
  | [] => 0
  | x :: r => uptoBulkEntry x + uptoBulkEntries r
def uptoBulkEntry {H : Type} : Lit × DataW H → Nat
  | (.string bytes, d) => bytes.length + uptoBulk d + 1
  | (_, d) => uptoBulk d + 1
 end
def uptoSmall : (H : Type) → List (DataW H) → Bool := fun _ ds => decide (uptoBulkAll ds ≤ 1048576)
def OpenSpec.upto (s : _root_.Go.ChangeSpec) : _root_.Go.OpenSpec := { _root_.Go.OpenSpec.ofChange s with cond := some uptoSmall }

/-- 'tocsinlaw04.ClockPlays', WHERE WHAT IT READS IS OF BULK AT MOST 1048576: true; the input reads as it did. -/
def clockPlaysUptoRow : OpenClaim := { program := "ytfmkjolfpjfhbaa", sum := "086f244e5a94f90dac7558be485e366ed9c3722ce17c7992dbf2a142715b3c43", func := "tocsin/tocsinlaw04.ClockPlays", spec := "clockPlays", inPlace := ["math.Float64frombits", "math.RoundToEven"], unfollowed := true, recurses := true, named := ["math/bits.divideError", "math/bits.overflowError"], apart := false, narrowed := true }
def ClockPlaysUptoSaid : Prop := clockPlaysUptoRow.holds Try.pinned (OpenSpec.upto clockPlaysSpec)

/-- 'tocsinlaw04.ClockOnwards', WHERE WHAT IT READS IS OF BULK AT MOST 1048576: true; the input reads as it did. -/
def clockOnwardsUptoRow : OpenClaim := { program := "ytfmkjolfpjfhbaa", sum := "086f244e5a94f90dac7558be485e366ed9c3722ce17c7992dbf2a142715b3c43", func := "tocsin/tocsinlaw04.ClockOnwards", spec := "clockOnwards", inPlace := ["math.Float64frombits", "math.RoundToEven"], unfollowed := true, recurses := true, named := ["math/bits.divideError", "math/bits.overflowError"], apart := false, narrowed := true }
def ClockOnwardsUptoSaid : Prop := clockOnwardsUptoRow.holds Try.pinned (OpenSpec.upto clockOnwardsSpec)

/-- 'tocsinlaw04.ClockWhens', WHERE WHAT IT READS IS OF BULK AT MOST 1048576: true; the input reads as it did. -/
def clockWhensUptoRow : OpenClaim := { program := "ytfmkjolfpjfhbaa", sum := "086f244e5a94f90dac7558be485e366ed9c3722ce17c7992dbf2a142715b3c43", func := "tocsin/tocsinlaw04.ClockWhens", spec := "clockWhens", inPlace := ["math.Float64frombits", "math.RoundToEven"], unfollowed := true, recurses := true, named := ["math/bits.divideError", "math/bits.overflowError"], apart := false, narrowed := true }
def ClockWhensUptoSaid : Prop := clockWhensUptoRow.holds Try.pinned (OpenSpec.upto clockWhensSpec)

/-- 'tocsinlaw04.ClockDrifts', WHERE WHAT IT READS IS OF BULK AT MOST 1048576: true; the input reads as it did. -/
def clockDriftsUptoRow : OpenClaim := { program := "ytfmkjolfpjfhbaa", sum := "086f244e5a94f90dac7558be485e366ed9c3722ce17c7992dbf2a142715b3c43", func := "tocsin/tocsinlaw04.ClockDrifts", spec := "clockDrifts", inPlace := ["math.Float64frombits", "math.RoundToEven"], unfollowed := true, recurses := true, named := ["math/bits.divideError", "math/bits.overflowError"], apart := false, narrowed := true }
def ClockDriftsUptoSaid : Prop := clockDriftsUptoRow.holds Try.pinned (OpenSpec.upto clockDriftsSpec)

/-- 'tocsinlaw04.ClockAlike', WHERE WHAT IT READS IS OF BULK AT MOST 1048576: true; the input reads as it did. -/
def clockAlikeUptoRow : OpenClaim := { program := "ytfmkjolfpjfhbaa", sum := "086f244e5a94f90dac7558be485e366ed9c3722ce17c7992dbf2a142715b3c43", func := "tocsin/tocsinlaw04.ClockAlike", spec := "clockAlike", inPlace := ["math.Float64frombits", "math.RoundToEven", "math.Float64bits"], unfollowed := true, recurses := true, named := ["math/bits.divideError", "math/bits.overflowError"], apart := false, narrowed := true }
def ClockAlikeUptoSaid : Prop := clockAlikeUptoRow.holds Try.pinned (OpenSpec.upto clockAlikeSpec)

/-- 'tocsinlaw04.ClockSets', WHERE WHAT IT READS IS OF BULK AT MOST 1048576: true; the input reads as it did. -/
def clockSetsUptoRow : OpenClaim := { program := "ytfmkjolfpjfhbaa", sum := "086f244e5a94f90dac7558be485e366ed9c3722ce17c7992dbf2a142715b3c43", func := "tocsin/tocsinlaw04.ClockSets", spec := "clockSets", inPlace := ["math.Float64frombits", "math.RoundToEven"], unfollowed := true, recurses := true, named := ["math/bits.divideError", "math/bits.overflowError"], apart := false, narrowed := true }
def ClockSetsUptoSaid : Prop := clockSetsUptoRow.holds Try.pinned (OpenSpec.upto clockSetsSpec)

end Rows
end Go.Proofs.Ytfmkjolfpjfhbaa
