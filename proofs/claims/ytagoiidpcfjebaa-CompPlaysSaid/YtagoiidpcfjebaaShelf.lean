/-
  DERIVED: THE SHELF's CONTRACTS AT THIS DUMP, IN PLAIN WORDS (tools/lay-plain.mjs out of 'YtagoiidpcfjebaaShelf.lean', which tools/lay-shelf.mjs wrote): THE SAME DECLARATIONS UNDER THE SAME NAMES: 'import', 'namespace', 'open', 'def', 'theorem' AND NOTHING ELSE: no command of the shelf's: FOR A HAND-IN. Each laying: the table of numbers ('.._ren') and one theorem, a field a fact of the dump's own or the kernel's comparison; each contract: ONE APPLICATION.
-/
import Derived.Shelf.SlGeneric
import Derived.Shelf.SortG.Plain
import Derived.Shelf.SortG.SortNone
import Derived.Test.YtagoiidpcfjebaaProg
namespace Go.Proofs
open Go.Shelf
def Try.lsort_ren : Go.Shelf.Ren := ⟨fun | 53 => 38 | 64 => 46 | 63 => 45 | 78 => 61 | 79 => 62 | 70 => 52 | 71 => 53 | 72 => 54 | 73 => 55 | 74 => 56 | 75 => 57 | 59 => 58 | 76 => 59 | 77 => 60 | 88 => 64 | 89 => 65 | 90 => 66 | 91 => 67 | 92 => 68 | 68 => 69 | 96 => 70 | n => n, fun | 22 => 49 | 23 => 2 | 3 => 3 | 51 => 56 | 0 => 0 | 67 => 29 | 69 => 71 | 4 => 4 | 61 => 95 | 60 => 94 | 44 => 100 | 5 => 5 | 9 => 9 | 75 => 105 | 79 => 109 | 83 => 111 | 84 => 112 | n => n, fun | n => n⟩
theorem Try.lsort : Go.Proofs.SlLaysN.n53 Try.prog Try.lsort_ren := {
  mixed := by kernel_rfl
  f53 := ⟨Try.f38.name, by decide, Try.func38.trans (congrArg some (by kernel_rfl))⟩
  f59 := ⟨Try.f58.name, by decide, Try.func58.trans (congrArg some (by kernel_rfl))⟩
  f63 := ⟨Try.f45.name, by decide, Try.func45.trans (congrArg some (by kernel_rfl))⟩
  f64 := Try.func46.trans (congrArg some (by kernel_rfl))
  f68 := ⟨Try.f69.name, by decide, Try.func69.trans (congrArg some (by kernel_rfl))⟩
  f70 := ⟨Try.f52.name, by decide, Try.func52.trans (congrArg some (by kernel_rfl))⟩
  f71 := ⟨Try.f53.name, by decide, Try.func53.trans (congrArg some (by kernel_rfl))⟩
  f72 := ⟨Try.f54.name, by decide, Try.func54.trans (congrArg some (by kernel_rfl))⟩
  f73 := ⟨Try.f55.name, by decide, Try.func55.trans (congrArg some (by kernel_rfl))⟩
  f74 := ⟨Try.f56.name, by decide, Try.func56.trans (congrArg some (by kernel_rfl))⟩
  f75 := ⟨Try.f57.name, by decide, Try.func57.trans (congrArg some (by kernel_rfl))⟩
  f76 := ⟨Try.f59.name, by decide, Try.func59.trans (congrArg some (by kernel_rfl))⟩
  f77 := ⟨Try.f60.name, by decide, Try.func60.trans (congrArg some (by kernel_rfl))⟩
  f78 := Try.func61.trans (congrArg some (by kernel_rfl))
  f79 := Try.func62.trans (congrArg some (by kernel_rfl))
  f88 := ⟨Try.f64.name, by decide, Try.func64.trans (congrArg some (by kernel_rfl))⟩
  f89 := Try.func65.trans (congrArg some (by kernel_rfl))
  f90 := Try.func66.trans (congrArg some (by kernel_rfl))
  f91 := ⟨Try.f67.name, by decide, Try.func67.trans (congrArg some (by kernel_rfl))⟩
  f92 := ⟨Try.f68.name, by decide, Try.func68.trans (congrArg some (by kernel_rfl))⟩
  f96 := ⟨Try.f70.name, by decide, Try.func70.trans (congrArg some (by kernel_rfl))⟩
  t0 := Try.underlying0
  a0 := Try.isAgg0
  z0 := Try.sizeOf0
  v0 := Try.zeroValue0
  t3 := Try.underlying3
  a3 := Try.isAgg3
  z3 := Try.sizeOf3
  v3 := Try.zeroValue3
  t4 := Try.underlying4
  a4 := Try.isAgg4
  z4 := Try.sizeOf4
  v4 := Try.zeroValue4
  t5 := Try.underlying5
  a5 := Try.isAgg5
  z5 := Try.sizeOf5
  v5 := Try.zeroValue5
  t9 := Try.underlying9
  a9 := Try.isAgg9
  z9 := Try.sizeOf9
  v9 := Try.zeroValue9
  t22 := Try.underlying49
  a22 := Try.isAgg49
  z22 := Try.sizeOf49
  v22 := Try.zeroValue49
  t23 := Try.underlying2
  a23 := Try.isAgg2
  z23 := Try.sizeOf2
  v23 := Try.zeroValue2
  t44 := Try.underlying100
  a44 := Try.isAgg100
  z44 := Try.sizeOf100
  v44 := Try.zeroValue100
  t51 := Try.underlying56
  a51 := Try.isAgg56
  z51 := Try.sizeOf56
  v51 := Try.zeroValue56
  t60 := Try.underlying94
  a60 := Try.isAgg94
  z60 := Try.sizeOf94
  v60 := Try.zeroValue94
  t61 := Try.underlying95
  a61 := Try.isAgg95
  z61 := Try.sizeOf95
  v61 := Try.zeroValue95
  t67 := Try.underlying29
  a67 := Try.isAgg29
  z67 := Try.sizeOf29
  v67 := Try.zeroValue29
  t69 := Try.underlying71
  a69 := Try.isAgg71
  z69 := Try.sizeOf71
  v69 := Try.zeroValue71
  t75 := Try.underlying105
  a75 := Try.isAgg105
  z75 := Try.sizeOf105
  v75 := Try.zeroValue105
  t79 := Try.underlying109
  a79 := Try.isAgg109
  z79 := Try.sizeOf109
  v79 := Try.zeroValue109
  t83 := Try.underlying111
  a83 := Try.isAgg111
  z83 := Try.sizeOf111
  v83 := Try.zeroValue111
  t84 := Try.underlying112
  a84 := Try.isAgg112
  z84 := Try.sizeOf112
  v84 := Try.zeroValue112 }
end Go.Proofs
