/-
  No cell of these rows narrows 'for every input' (looked for: loops, veiled, ifaces, maps, wideKeys, modest, calm, conditions, laid).
  DERIVED. THE GIVEN ROWS OF THIS SEAT. 6 by the template 'for every input the law returns true; each argument reads behind the call as it read before'; 0 by the template 'total and deterministic' (their statements: YtagoiidpcfjebaaTotals.lean).
  GIVEN WITH THE SEED: the statements are not yours to turn. If you find one false, say at which input.
  Laid BY PROGRAM, IN A SANDBOX (cutbox-rows.mjs): the forced cells as the released guide's own fill.sh prints them over the translation cbec8ff840d2f769… (all of the seat's roots in one cut). By AI agents, Wed Nov 11 2026. No macro, syntax, notation, axiom, sorry.
-/
import Derived.Test.YtagoiidpcfjebaaChecked
import GoSem.Claim
import GoSem.ClaimJoined
import GoSem.ClaimMapViews
import Derived.JoinedTies
import Derived.KernelRfl
namespace Go.Proofs.Ytagoiidpcfjebaa
/- THE CELL 'sum', in the pinned program and in every row, IS THE sha256 OF THE DUMP (.gsa) THAT YtagoiidpcfjebaaProg.lean LOADS. Nothing in Lean hashes anything: it is a label: what it is worth is what the hold of that sum in a sandbox is worth. -/
noncomputable def Try.pinned : Pinned := { name := "ytagoiidpcfjebaa", sum := "cbec8ff840d2f769589eb45e707982bf7f4037ffbbdd68813847dd840c4f6a83", checked := Try.checked }
namespace Rows
def none {H : Type} : Left H := { results := [], args := [] }

/-- 'tocsinlaw11.CompPlays': WHATEVER THE INPUT: true; the input reads as it did. -/
def compPlaysSpec : ChangeSpec := { name := "compPlays", fn := fun _ => fun
  | [d1, d2] => { results := [.lit (.bool true)], args := [d1, d2] }
  | _ => none }
def compPlaysRow : OpenClaim := { program := "ytagoiidpcfjebaa", sum := "cbec8ff840d2f769589eb45e707982bf7f4037ffbbdd68813847dd840c4f6a83", func := "tocsin/tocsinlaw11.CompPlays", spec := "compPlays", unfollowed := true, recurses := true, apart := false }
def CompPlaysSaid : Prop := compPlaysRow.holds Try.pinned (OpenSpec.ofChange compPlaysSpec)

/-- ITS FALSE NEIGHBOUR: 'it returns false'. Refute it at one input. -/
def compPlaysWrong : ChangeSpec := { name := "compPlays", fn := fun _ => fun
  | [d1, d2] => { results := [.lit (.bool false)], args := [d1, d2] }
  | _ => none }
def CompPlaysWrongFalsely : Prop := compPlaysRow.holds Try.pinned (OpenSpec.ofChange compPlaysWrong)

/-- 'tocsinlaw11.CompWithin': WHATEVER THE INPUT: true; the input reads as it did. -/
def compWithinSpec : ChangeSpec := { name := "compWithin", fn := fun _ => fun
  | [d1, d2, d3] => { results := [.lit (.bool true)], args := [d1, d2, d3] }
  | _ => none }
def compWithinRow : OpenClaim := { program := "ytagoiidpcfjebaa", sum := "cbec8ff840d2f769589eb45e707982bf7f4037ffbbdd68813847dd840c4f6a83", func := "tocsin/tocsinlaw11.CompWithin", spec := "compWithin", unfollowed := true, recurses := true, apart := false }
def CompWithinSaid : Prop := compWithinRow.holds Try.pinned (OpenSpec.ofChange compWithinSpec)

/-- ITS FALSE NEIGHBOUR: 'it returns false'. Refute it at one input. -/
def compWithinWrong : ChangeSpec := { name := "compWithin", fn := fun _ => fun
  | [d1, d2, d3] => { results := [.lit (.bool false)], args := [d1, d2, d3] }
  | _ => none }
def CompWithinWrongFalsely : Prop := compWithinRow.holds Try.pinned (OpenSpec.ofChange compWithinWrong)

/-- 'tocsinlaw11.CompOrders': WHATEVER THE INPUT: true; the input reads as it did. -/
def compOrdersSpec : ChangeSpec := { name := "compOrders", fn := fun _ => fun
  | [d1, d2, d3] => { results := [.lit (.bool true)], args := [d1, d2, d3] }
  | _ => none }
def compOrdersRow : OpenClaim := { program := "ytagoiidpcfjebaa", sum := "cbec8ff840d2f769589eb45e707982bf7f4037ffbbdd68813847dd840c4f6a83", func := "tocsin/tocsinlaw11.CompOrders", spec := "compOrders", unfollowed := true, recurses := true, apart := false }
def CompOrdersSaid : Prop := compOrdersRow.holds Try.pinned (OpenSpec.ofChange compOrdersSpec)

/-- ITS FALSE NEIGHBOUR: 'it returns false'. Refute it at one input. -/
def compOrdersWrong : ChangeSpec := { name := "compOrders", fn := fun _ => fun
  | [d1, d2, d3] => { results := [.lit (.bool false)], args := [d1, d2, d3] }
  | _ => none }
def CompOrdersWrongFalsely : Prop := compOrdersRow.holds Try.pinned (OpenSpec.ofChange compOrdersWrong)

/-- 'tocsinlaw11.CompShifts': WHATEVER THE INPUT: true; the input reads as it did. -/
def compShiftsSpec : ChangeSpec := { name := "compShifts", fn := fun _ => fun
  | [d1, d2, d3] => { results := [.lit (.bool true)], args := [d1, d2, d3] }
  | _ => none }
def compShiftsRow : OpenClaim := { program := "ytagoiidpcfjebaa", sum := "cbec8ff840d2f769589eb45e707982bf7f4037ffbbdd68813847dd840c4f6a83", func := "tocsin/tocsinlaw11.CompShifts", spec := "compShifts", unfollowed := true, recurses := true, apart := false }
def CompShiftsSaid : Prop := compShiftsRow.holds Try.pinned (OpenSpec.ofChange compShiftsSpec)

/-- ITS FALSE NEIGHBOUR: 'it returns false'. Refute it at one input. -/
def compShiftsWrong : ChangeSpec := { name := "compShifts", fn := fun _ => fun
  | [d1, d2, d3] => { results := [.lit (.bool false)], args := [d1, d2, d3] }
  | _ => none }
def CompShiftsWrongFalsely : Prop := compShiftsRow.holds Try.pinned (OpenSpec.ofChange compShiftsWrong)

/-- 'tocsinlaw11.CompAlone': WHATEVER THE INPUT: true; the input reads as it did. -/
def compAloneSpec : ChangeSpec := { name := "compAlone", fn := fun _ => fun
  | [d1, d2, d3] => { results := [.lit (.bool true)], args := [d1, d2, d3] }
  | _ => none }
def compAloneRow : OpenClaim := { program := "ytagoiidpcfjebaa", sum := "cbec8ff840d2f769589eb45e707982bf7f4037ffbbdd68813847dd840c4f6a83", func := "tocsin/tocsinlaw11.CompAlone", spec := "compAlone", unfollowed := true, recurses := true, apart := false }
def CompAloneSaid : Prop := compAloneRow.holds Try.pinned (OpenSpec.ofChange compAloneSpec)

/-- ITS FALSE NEIGHBOUR: 'it returns false'. Refute it at one input. -/
def compAloneWrong : ChangeSpec := { name := "compAlone", fn := fun _ => fun
  | [d1, d2, d3] => { results := [.lit (.bool false)], args := [d1, d2, d3] }
  | _ => none }
def CompAloneWrongFalsely : Prop := compAloneRow.holds Try.pinned (OpenSpec.ofChange compAloneWrong)

/-- 'tocsinlaw11.CompMost': WHATEVER THE INPUT: true; the input reads as it did. -/
def compMostSpec : ChangeSpec := { name := "compMost", fn := fun _ => fun
  | [d1, d2] => { results := [.lit (.bool true)], args := [d1, d2] }
  | _ => none }
def compMostRow : OpenClaim := { program := "ytagoiidpcfjebaa", sum := "cbec8ff840d2f769589eb45e707982bf7f4037ffbbdd68813847dd840c4f6a83", func := "tocsin/tocsinlaw11.CompMost", spec := "compMost", unfollowed := true, recurses := true, apart := false }
def CompMostSaid : Prop := compMostRow.holds Try.pinned (OpenSpec.ofChange compMostSpec)

/-- ITS FALSE NEIGHBOUR: 'it returns false'. Refute it at one input. -/
def compMostWrong : ChangeSpec := { name := "compMost", fn := fun _ => fun
  | [d1, d2] => { results := [.lit (.bool false)], args := [d1, d2] }
  | _ => none }
def CompMostWrongFalsely : Prop := compMostRow.holds Try.pinned (OpenSpec.ofChange compMostWrong)

/- THE SECOND FORM. 'bulk': how many values and letters a reading holds, each counted each time it is reached (what is shared counts as often as it is met; a slice's spare places count too). A statement '..UptoSaid' is the law's where the arguments, and the package variables that the reading takes, are together of bulk at most 1048576: NARROWER than '..Said'. Prove '..Said' where nothing that the law and all that it calls make is longer than what came in: it says more and counts as full. Else prove '..UptoSaid'. A law counts once. -/
mutual
def uptoBulk {H : Type} : DataW H → Nat
  | .lit (.string bytes) => bytes.length + 1
  | .lit _ => 1
  | .nil => 1
  | .ptr d => uptoBulk d + 1
  | .slice elems spare => uptoBulkAll elems + uptoBulkAll spare + 1
  | .agg parts => uptoBulkAll parts + 1
  | .iface _ d => uptoBulk d + 1
  | .map entries => uptoBulkEntries entries + 1
  | .held _ => 1
def uptoBulkAll {H : Type} : List (DataW H) → Nat
  | [] => 0
  | d :: r => uptoBulk d + uptoBulkAll r
def uptoBulkEntries {H : Type} : List (Lit × DataW H) → Nat
  | [] => 0
  | x :: r => uptoBulkEntry x + uptoBulkEntries r
def uptoBulkEntry {H : Type} : Lit × DataW H → Nat
  | (.string bytes, d) => bytes.length + uptoBulk d + 1
  | (_, d) => uptoBulk d + 1
 end
def uptoSmall : (H : Type) → List (DataW H) → Bool := fun _ ds => decide (uptoBulkAll ds ≤ 1048576)
def OpenSpec.upto (s : _root_.Go.ChangeSpec) : _root_.Go.OpenSpec := { _root_.Go.OpenSpec.ofChange s with cond := some uptoSmall }

/-- 'tocsinlaw11.CompPlays', WHERE WHAT IT READS IS OF BULK AT MOST 1048576: true; the input reads as it did. -/
def compPlaysUptoRow : OpenClaim := { program := "ytagoiidpcfjebaa", sum := "cbec8ff840d2f769589eb45e707982bf7f4037ffbbdd68813847dd840c4f6a83", func := "tocsin/tocsinlaw11.CompPlays", spec := "compPlays", unfollowed := true, recurses := true, apart := false, narrowed := true }
def CompPlaysUptoSaid : Prop := compPlaysUptoRow.holds Try.pinned (OpenSpec.upto compPlaysSpec)

/-- 'tocsinlaw11.CompWithin', WHERE WHAT IT READS IS OF BULK AT MOST 1048576: true; the input reads as it did. -/
def compWithinUptoRow : OpenClaim := { program := "ytagoiidpcfjebaa", sum := "cbec8ff840d2f769589eb45e707982bf7f4037ffbbdd68813847dd840c4f6a83", func := "tocsin/tocsinlaw11.CompWithin", spec := "compWithin", unfollowed := true, recurses := true, apart := false, narrowed := true }
def CompWithinUptoSaid : Prop := compWithinUptoRow.holds Try.pinned (OpenSpec.upto compWithinSpec)

/-- 'tocsinlaw11.CompOrders', WHERE WHAT IT READS IS OF BULK AT MOST 1048576: true; the input reads as it did. -/
def compOrdersUptoRow : OpenClaim := { program := "ytagoiidpcfjebaa", sum := "cbec8ff840d2f769589eb45e707982bf7f4037ffbbdd68813847dd840c4f6a83", func := "tocsin/tocsinlaw11.CompOrders", spec := "compOrders", unfollowed := true, recurses := true, apart := false, narrowed := true }
def CompOrdersUptoSaid : Prop := compOrdersUptoRow.holds Try.pinned (OpenSpec.upto compOrdersSpec)

/-- 'tocsinlaw11.CompShifts', WHERE WHAT IT READS IS OF BULK AT MOST 1048576: true; the input reads as it did. -/
def compShiftsUptoRow : OpenClaim := { program := "ytagoiidpcfjebaa", sum := "cbec8ff840d2f769589eb45e707982bf7f4037ffbbdd68813847dd840c4f6a83", func := "tocsin/tocsinlaw11.CompShifts", spec := "compShifts", unfollowed := true, recurses := true, apart := false, narrowed := true }
def CompShiftsUptoSaid : Prop := compShiftsUptoRow.holds Try.pinned (OpenSpec.upto compShiftsSpec)

/-- 'tocsinlaw11.CompAlone', WHERE WHAT IT READS IS OF BULK AT MOST 1048576: true; the input reads as it did. -/
def compAloneUptoRow : OpenClaim := { program := "ytagoiidpcfjebaa", sum := "cbec8ff840d2f769589eb45e707982bf7f4037ffbbdd68813847dd840c4f6a83", func := "tocsin/tocsinlaw11.CompAlone", spec := "compAlone", unfollowed := true, recurses := true, apart := false, narrowed := true }
def CompAloneUptoSaid : Prop := compAloneUptoRow.holds Try.pinned (OpenSpec.upto compAloneSpec)

/-- 'tocsinlaw11.CompMost', WHERE WHAT IT READS IS OF BULK AT MOST 1048576: true; the input reads as it did. -/
def compMostUptoRow : OpenClaim := { program := "ytagoiidpcfjebaa", sum := "cbec8ff840d2f769589eb45e707982bf7f4037ffbbdd68813847dd840c4f6a83", func := "tocsin/tocsinlaw11.CompMost", spec := "compMost", unfollowed := true, recurses := true, apart := false, narrowed := true }
def CompMostUptoSaid : Prop := compMostUptoRow.holds Try.pinned (OpenSpec.upto compMostSpec)

end Rows
end Go.Proofs.Ytagoiidpcfjebaa
