/-
  DERIVED: THE SHELF's CONTRACTS AT THIS DUMP, IN PLAIN WORDS (tools/lay-plain.mjs out of 'YtlcjjbahbfcmoaaShelf.lean', which tools/lay-shelf.mjs wrote): THE SAME DECLARATIONS UNDER THE SAME NAMES: 'import', 'namespace', 'open', 'def', 'theorem' AND NOTHING ELSE: no command of the shelf's: FOR A HAND-IN. Each laying: the table of numbers ('.._ren') and one theorem, a field a fact of the dump's own or the kernel's comparison; each contract: ONE APPLICATION.
-/
import Derived.Shelf.SlGeneric
import Derived.Shelf.SortG.Plain
import Derived.Shelf.SortG.SortNone
import Derived.Test.YtlcjjbahbfcmoaaProg
namespace Go.Proofs
open Go.Shelf
def Try.lsort_ren : Go.Shelf.Ren := ⟨fun | 53 => 38 | 64 => 47 | 63 => 46 | 78 => 62 | 79 => 63 | 70 => 53 | 71 => 54 | 72 => 55 | 73 => 56 | 74 => 57 | 75 => 58 | 59 => 59 | 76 => 60 | 77 => 61 | 88 => 65 | 89 => 66 | 90 => 67 | 91 => 68 | 92 => 69 | 68 => 70 | 96 => 71 | n => n, fun | 22 => 22 | 23 => 2 | 3 => 3 | 51 => 38 | 0 => 0 | 67 => 71 | 69 => 27 | 4 => 4 | 61 => 77 | 60 => 76 | 44 => 82 | 5 => 5 | 9 => 9 | 75 => 87 | 79 => 91 | 83 => 93 | 84 => 94 | n => n, fun | n => n⟩
theorem Try.lsort : Go.Proofs.SlLaysN.n53 Try.prog Try.lsort_ren := {
  mixed := by kernel_rfl
  f53 := ⟨Try.f38.name, by decide, Try.func38.trans (congrArg some (by kernel_rfl))⟩
  f59 := ⟨Try.f59.name, by decide, Try.func59.trans (congrArg some (by kernel_rfl))⟩
  f63 := ⟨Try.f46.name, by decide, Try.func46.trans (congrArg some (by kernel_rfl))⟩
  f64 := Try.func47.trans (congrArg some (by kernel_rfl))
  f68 := ⟨Try.f70.name, by decide, Try.func70.trans (congrArg some (by kernel_rfl))⟩
  f70 := ⟨Try.f53.name, by decide, Try.func53.trans (congrArg some (by kernel_rfl))⟩
  f71 := ⟨Try.f54.name, by decide, Try.func54.trans (congrArg some (by kernel_rfl))⟩
  f72 := ⟨Try.f55.name, by decide, Try.func55.trans (congrArg some (by kernel_rfl))⟩
  f73 := ⟨Try.f56.name, by decide, Try.func56.trans (congrArg some (by kernel_rfl))⟩
  f74 := ⟨Try.f57.name, by decide, Try.func57.trans (congrArg some (by kernel_rfl))⟩
  f75 := ⟨Try.f58.name, by decide, Try.func58.trans (congrArg some (by kernel_rfl))⟩
  f76 := ⟨Try.f60.name, by decide, Try.func60.trans (congrArg some (by kernel_rfl))⟩
  f77 := ⟨Try.f61.name, by decide, Try.func61.trans (congrArg some (by kernel_rfl))⟩
  f78 := Try.func62.trans (congrArg some (by kernel_rfl))
  f79 := Try.func63.trans (congrArg some (by kernel_rfl))
  f88 := ⟨Try.f65.name, by decide, Try.func65.trans (congrArg some (by kernel_rfl))⟩
  f89 := Try.func66.trans (congrArg some (by kernel_rfl))
  f90 := Try.func67.trans (congrArg some (by kernel_rfl))
  f91 := ⟨Try.f68.name, by decide, Try.func68.trans (congrArg some (by kernel_rfl))⟩
  f92 := ⟨Try.f69.name, by decide, Try.func69.trans (congrArg some (by kernel_rfl))⟩
  f96 := ⟨Try.f71.name, by decide, Try.func71.trans (congrArg some (by kernel_rfl))⟩
  t0 := Try.underlying0
  a0 := Try.isAgg0
  z0 := Try.sizeOf0
  v0 := Try.zeroValue0
  t3 := Try.underlying3
  a3 := Try.isAgg3
  z3 := Try.sizeOf3
  v3 := Try.zeroValue3
  t4 := Try.underlying4
  a4 := Try.isAgg4
  z4 := Try.sizeOf4
  v4 := Try.zeroValue4
  t5 := Try.underlying5
  a5 := Try.isAgg5
  z5 := Try.sizeOf5
  v5 := Try.zeroValue5
  t9 := Try.underlying9
  a9 := Try.isAgg9
  z9 := Try.sizeOf9
  v9 := Try.zeroValue9
  t22 := Try.underlying22
  a22 := Try.isAgg22
  z22 := Try.sizeOf22
  v22 := Try.zeroValue22
  t23 := Try.underlying2
  a23 := Try.isAgg2
  z23 := Try.sizeOf2
  v23 := Try.zeroValue2
  t44 := Try.underlying82
  a44 := Try.isAgg82
  z44 := Try.sizeOf82
  v44 := Try.zeroValue82
  t51 := Try.underlying38
  a51 := Try.isAgg38
  z51 := Try.sizeOf38
  v51 := Try.zeroValue38
  t60 := Try.underlying76
  a60 := Try.isAgg76
  z60 := Try.sizeOf76
  v60 := Try.zeroValue76
  t61 := Try.underlying77
  a61 := Try.isAgg77
  z61 := Try.sizeOf77
  v61 := Try.zeroValue77
  t67 := Try.underlying71
  a67 := Try.isAgg71
  z67 := Try.sizeOf71
  v67 := Try.zeroValue71
  t69 := Try.underlying27
  a69 := Try.isAgg27
  z69 := Try.sizeOf27
  v69 := Try.zeroValue27
  t75 := Try.underlying87
  a75 := Try.isAgg87
  z75 := Try.sizeOf87
  v75 := Try.zeroValue87
  t79 := Try.underlying91
  a79 := Try.isAgg91
  z79 := Try.sizeOf91
  v79 := Try.zeroValue91
  t83 := Try.underlying93
  a83 := Try.isAgg93
  z83 := Try.sizeOf93
  v83 := Try.zeroValue93
  t84 := Try.underlying94
  a84 := Try.isAgg94
  z84 := Try.sizeOf94
  v84 := Try.zeroValue94 }
end Go.Proofs
