/-
  No cell of these rows narrows 'for every input' (looked for: loops, veiled, ifaces, maps, wideKeys, modest, calm, conditions, laid).
  DERIVED. THE GIVEN ROWS OF THIS SEAT. 5 by the template 'for every input the law returns true; each argument reads behind the call as it read before'; 0 by the template 'total and deterministic' (their statements: YtkcgpbehicjidaaTotals.lean).
  GIVEN WITH THE SEED: the statements are not yours to turn. If you find one false, say at which input.
  Laid BY PROGRAM, IN A SANDBOX (cutbox-rows.mjs): the forced cells as the released guide's own fill.sh prints them over the translation 85798ee98406da50… (all of the seat's roots in one cut). By AI agents, Wed Nov 11 2026. No macro, syntax, notation, axiom, sorry.
-/
import Derived.Test.YtkcgpbehicjidaaChecked
import GoSem.Claim
import GoSem.ClaimJoined
import GoSem.ClaimMapViews
import Derived.JoinedTies
import Derived.KernelRfl
namespace Go.Proofs.Ytkcgpbehicjidaa
/- THE CELL 'sum', in the pinned program and in every row, IS THE sha256 OF THE DUMP (.gsa) THAT YtkcgpbehicjidaaProg.lean LOADS. Nothing in Lean hashes anything: it is a label: what it is worth is what the hold of that sum in a sandbox is worth. -/
noncomputable def Try.pinned : Pinned := { name := "ytkcgpbehicjidaa", sum := "85798ee98406da504a3794ea505bac1d5265ce0899dfcb8b20e8c21fd21d6bed", checked := Try.checked }
namespace Rows
def none {H : Type} : Left H := { results := [], args := [] }

/-- 'tocsinlaw10.PermOrders': WHATEVER THE INPUT: true; the input reads as it did. -/
def permOrdersSpec : ChangeSpec := { name := "permOrders", fn := fun _ => fun
  | [d1, d2, d3] => { results := [.lit (.bool true)], args := [d1, d2, d3] }
  | _ => none }
def permOrdersRow : OpenClaim := { program := "ytkcgpbehicjidaa", sum := "85798ee98406da504a3794ea505bac1d5265ce0899dfcb8b20e8c21fd21d6bed", func := "tocsin/tocsinlaw10.PermOrders", spec := "permOrders", unfollowed := true, recurses := true, named := ["math/bits.divideError", "math/bits.overflowError"], apart := false }
def PermOrdersSaid : Prop := permOrdersRow.holds Try.pinned (OpenSpec.ofChange permOrdersSpec)

/-- ITS FALSE NEIGHBOUR: 'it returns false'. Refute it at one input. -/
def permOrdersWrong : ChangeSpec := { name := "permOrders", fn := fun _ => fun
  | [d1, d2, d3] => { results := [.lit (.bool false)], args := [d1, d2, d3] }
  | _ => none }
def PermOrdersWrongFalsely : Prop := permOrdersRow.holds Try.pinned (OpenSpec.ofChange permOrdersWrong)

/-- 'tocsinlaw10.PermDrifts': WHATEVER THE INPUT: true; the input reads as it did. -/
def permDriftsSpec : ChangeSpec := { name := "permDrifts", fn := fun _ => fun
  | [d1, d2, d3] => { results := [.lit (.bool true)], args := [d1, d2, d3] }
  | _ => none }
def permDriftsRow : OpenClaim := { program := "ytkcgpbehicjidaa", sum := "85798ee98406da504a3794ea505bac1d5265ce0899dfcb8b20e8c21fd21d6bed", func := "tocsin/tocsinlaw10.PermDrifts", spec := "permDrifts", unfollowed := true, recurses := true, named := ["math/bits.divideError", "math/bits.overflowError"], apart := false }
def PermDriftsSaid : Prop := permDriftsRow.holds Try.pinned (OpenSpec.ofChange permDriftsSpec)

/-- ITS FALSE NEIGHBOUR: 'it returns false'. Refute it at one input. -/
def permDriftsWrong : ChangeSpec := { name := "permDrifts", fn := fun _ => fun
  | [d1, d2, d3] => { results := [.lit (.bool false)], args := [d1, d2, d3] }
  | _ => none }
def PermDriftsWrongFalsely : Prop := permDriftsRow.holds Try.pinned (OpenSpec.ofChange permDriftsWrong)

/-- 'tocsinlaw10.PermRefuses': WHATEVER THE INPUT: true; the input reads as it did. -/
def permRefusesSpec : ChangeSpec := { name := "permRefuses", fn := fun _ => fun
  | [d1, d2, d3] => { results := [.lit (.bool true)], args := [d1, d2, d3] }
  | _ => none }
def permRefusesRow : OpenClaim := { program := "ytkcgpbehicjidaa", sum := "85798ee98406da504a3794ea505bac1d5265ce0899dfcb8b20e8c21fd21d6bed", func := "tocsin/tocsinlaw10.PermRefuses", spec := "permRefuses", unfollowed := true, recurses := true, named := ["math/bits.divideError", "math/bits.overflowError"], apart := false }
def PermRefusesSaid : Prop := permRefusesRow.holds Try.pinned (OpenSpec.ofChange permRefusesSpec)

/-- ITS FALSE NEIGHBOUR: 'it returns false'. Refute it at one input. -/
def permRefusesWrong : ChangeSpec := { name := "permRefuses", fn := fun _ => fun
  | [d1, d2, d3] => { results := [.lit (.bool false)], args := [d1, d2, d3] }
  | _ => none }
def PermRefusesWrongFalsely : Prop := permRefusesRow.holds Try.pinned (OpenSpec.ofChange permRefusesWrong)

/-- 'tocsinlaw10.PermAges': WHATEVER THE INPUT: true; the input reads as it did. -/
def permAgesSpec : ChangeSpec := { name := "permAges", fn := fun _ => fun
  | [d1, d2, d3] => { results := [.lit (.bool true)], args := [d1, d2, d3] }
  | _ => none }
def permAgesRow : OpenClaim := { program := "ytkcgpbehicjidaa", sum := "85798ee98406da504a3794ea505bac1d5265ce0899dfcb8b20e8c21fd21d6bed", func := "tocsin/tocsinlaw10.PermAges", spec := "permAges", unfollowed := true, recurses := true, named := ["math/bits.divideError", "math/bits.overflowError"], apart := false }
def PermAgesSaid : Prop := permAgesRow.holds Try.pinned (OpenSpec.ofChange permAgesSpec)

/-- ITS FALSE NEIGHBOUR: 'it returns false'. Refute it at one input. -/
def permAgesWrong : ChangeSpec := { name := "permAges", fn := fun _ => fun
  | [d1, d2, d3] => { results := [.lit (.bool false)], args := [d1, d2, d3] }
  | _ => none }
def PermAgesWrongFalsely : Prop := permAgesRow.holds Try.pinned (OpenSpec.ofChange permAgesWrong)

/-- 'tocsinlaw10.PermPlays': WHATEVER THE INPUT: true; the input reads as it did. -/
def permPlaysSpec : ChangeSpec := { name := "permPlays", fn := fun _ => fun
  | [d1, d2, d3] => { results := [.lit (.bool true)], args := [d1, d2, d3] }
  | _ => none }
def permPlaysRow : OpenClaim := { program := "ytkcgpbehicjidaa", sum := "85798ee98406da504a3794ea505bac1d5265ce0899dfcb8b20e8c21fd21d6bed", func := "tocsin/tocsinlaw10.PermPlays", spec := "permPlays", unfollowed := true, recurses := true, named := ["math/bits.divideError", "math/bits.overflowError"], apart := false }
def PermPlaysSaid : Prop := permPlaysRow.holds Try.pinned (OpenSpec.ofChange permPlaysSpec)

/-- ITS FALSE NEIGHBOUR: 'it returns false'. Refute it at one input. -/
def permPlaysWrong : ChangeSpec := { name := "permPlays", fn := fun _ => fun
  | [d1, d2, d3] => { results := [.lit (.bool false)], args := [d1, d2, d3] }
  | _ => none }
def PermPlaysWrongFalsely : Prop := permPlaysRow.holds Try.pinned (OpenSpec.ofChange permPlaysWrong)

/- THE SECOND FORM. 'bulk': how many values and letters a reading holds, each counted each time it is reached (what is shared counts as often as it is met; a slice's spare places count too). A statement '..UptoSaid' is the law's where the arguments, and the package variables that the reading takes, are together of bulk at most 1048576: NARROWER than '..Said'. Prove '..Said' where nothing that the law and all that it calls make is longer than what came in: it says more and counts as full. Else prove '..UptoSaid'. A law counts once. -/
mutual
def uptoBulk {H : Type} : DataW H → Nat
  | .lit (.string bytes) => bytes.length + 1
  | .lit _ => 1
  | .nil => 1
  | .ptr d => uptoBulk d + 1
  | .slice elems spare => uptoBulkAll elems + uptoBulkAll spare + 1
  | .agg parts => uptoBulkAll parts + 1
  | .iface _ d => uptoBulk d + 1
  | .map entries => uptoBulkEntries entries + 1
  | .held _ => 1
def uptoBulkAll {H : Type} : List (DataW H) → Nat
  | [] => 0
  | d :: r => uptoBulk d + uptoBulkAll r
def uptoBulkEntries {H : Type} : List (Lit × DataW H) → Nat
  | [] => 0
  | x :: r => uptoBulkEntry x + uptoBulkEntries r
def uptoBulkEntry {H : Type} : Lit × DataW H → Nat
  | (.string bytes, d) => bytes.length + uptoBulk d + 1
  | (_, d) => uptoBulk d + 1
 end
def uptoSmall : (H : Type) → List (DataW H) → Bool := fun _ ds => decide (uptoBulkAll ds ≤ 1048576)
def OpenSpec.upto (s : _root_.Go.ChangeSpec) : _root_.Go.OpenSpec := { _root_.Go.OpenSpec.ofChange s with cond := some uptoSmall }

/-- 'tocsinlaw10.PermOrders', WHERE WHAT IT READS IS OF BULK AT MOST 1048576: true; the input reads as it did. -/
def permOrdersUptoRow : OpenClaim := { program := "ytkcgpbehicjidaa", sum := "85798ee98406da504a3794ea505bac1d5265ce0899dfcb8b20e8c21fd21d6bed", func := "tocsin/tocsinlaw10.PermOrders", spec := "permOrders", unfollowed := true, recurses := true, named := ["math/bits.divideError", "math/bits.overflowError"], apart := false, narrowed := true }
def PermOrdersUptoSaid : Prop := permOrdersUptoRow.holds Try.pinned (OpenSpec.upto permOrdersSpec)

/-- 'tocsinlaw10.PermDrifts', WHERE WHAT IT READS IS OF BULK AT MOST 1048576: true; the input reads as it did. -/
def permDriftsUptoRow : OpenClaim := { program := "ytkcgpbehicjidaa", sum := "85798ee98406da504a3794ea505bac1d5265ce0899dfcb8b20e8c21fd21d6bed", func := "tocsin/tocsinlaw10.PermDrifts", spec := "permDrifts", unfollowed := true, recurses := true, named := ["math/bits.divideError", "math/bits.overflowError"], apart := false, narrowed := true }
def PermDriftsUptoSaid : Prop := permDriftsUptoRow.holds Try.pinned (OpenSpec.upto permDriftsSpec)

/-- 'tocsinlaw10.PermRefuses', WHERE WHAT IT READS IS OF BULK AT MOST 1048576: true; the input reads as it did. -/
def permRefusesUptoRow : OpenClaim := { program := "ytkcgpbehicjidaa", sum := "85798ee98406da504a3794ea505bac1d5265ce0899dfcb8b20e8c21fd21d6bed", func := "tocsin/tocsinlaw10.PermRefuses", spec := "permRefuses", unfollowed := true, recurses := true, named := ["math/bits.divideError", "math/bits.overflowError"], apart := false, narrowed := true }
def PermRefusesUptoSaid : Prop := permRefusesUptoRow.holds Try.pinned (OpenSpec.upto permRefusesSpec)

/-- 'tocsinlaw10.PermAges', WHERE WHAT IT READS IS OF BULK AT MOST 1048576: true; the input reads as it did. -/
def permAgesUptoRow : OpenClaim := { program := "ytkcgpbehicjidaa", sum := "85798ee98406da504a3794ea505bac1d5265ce0899dfcb8b20e8c21fd21d6bed", func := "tocsin/tocsinlaw10.PermAges", spec := "permAges", unfollowed := true, recurses := true, named := ["math/bits.divideError", "math/bits.overflowError"], apart := false, narrowed := true }
def PermAgesUptoSaid : Prop := permAgesUptoRow.holds Try.pinned (OpenSpec.upto permAgesSpec)

/-- 'tocsinlaw10.PermPlays', WHERE WHAT IT READS IS OF BULK AT MOST 1048576: true; the input reads as it did. -/
def permPlaysUptoRow : OpenClaim := { program := "ytkcgpbehicjidaa", sum := "85798ee98406da504a3794ea505bac1d5265ce0899dfcb8b20e8c21fd21d6bed", func := "tocsin/tocsinlaw10.PermPlays", spec := "permPlays", unfollowed := true, recurses := true, named := ["math/bits.divideError", "math/bits.overflowError"], apart := false, narrowed := true }
def PermPlaysUptoSaid : Prop := permPlaysUptoRow.holds Try.pinned (OpenSpec.upto permPlaysSpec)

end Rows
end Go.Proofs.Ytkcgpbehicjidaa
