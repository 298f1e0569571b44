/-
  DERIVED: THE SHELF's CONTRACTS AT THIS DUMP, IN PLAIN WORDS (tools/lay-plain.mjs out of 'YtckoaeoecjphiaaGreatShelf.lean', which tools/lay-shelf.mjs wrote): THE SAME DECLARATIONS UNDER THE SAME NAMES: 'import', 'namespace', 'open', 'def', 'theorem' AND NOTHING ELSE: no command of the shelf's: FOR A HAND-IN. Each laying: the table of numbers ('.._ren') and one theorem, a field a fact of the dump's own or the kernel's comparison; each contract: ONE APPLICATION.
-/
import Derived.Shelf.SlGeneric
import Derived.Shelf.SortG.Plain
import Derived.Shelf.SortG.SortNone
import Derived.Test.YtckoaeoecjphiaaGreatProg
namespace Go.Proofs
open Go.Shelf
def Tryz.lsort_ren : Go.Shelf.Ren := ⟨fun | 53 => 168 | 64 => 173 | 63 => 172 | 78 => 183 | 79 => 170 | 70 => 174 | 71 => 175 | 72 => 176 | 73 => 177 | 74 => 178 | 75 => 179 | 59 => 180 | 76 => 181 | 77 => 182 | 88 => 184 | 89 => 185 | 90 => 186 | 91 => 187 | 92 => 188 | 68 => 77 | 96 => 189 | n => n, fun | 22 => 35 | 23 => 2 | 3 => 3 | 51 => 67 | 0 => 0 | 67 => 28 | 69 => 180 | 4 => 4 | 61 => 240 | 60 => 239 | 44 => 245 | 5 => 5 | 9 => 9 | 75 => 247 | 79 => 251 | 83 => 253 | 84 => 254 | n => n, fun | n => n⟩
theorem Tryz.lsort : Go.Proofs.SlLaysN.n53 Tryz.prog Tryz.lsort_ren := {
  mixed := by kernel_rfl
  f53 := ⟨Tryz.f168.name, by decide, Tryz.func168.trans (congrArg some (by kernel_rfl))⟩
  f59 := ⟨Tryz.f180.name, by decide, Tryz.func180.trans (congrArg some (by kernel_rfl))⟩
  f63 := ⟨Tryz.f172.name, by decide, Tryz.func172.trans (congrArg some (by kernel_rfl))⟩
  f64 := Tryz.func173.trans (congrArg some (by kernel_rfl))
  f68 := ⟨Tryz.f77.name, by decide, Tryz.func77.trans (congrArg some (by kernel_rfl))⟩
  f70 := ⟨Tryz.f174.name, by decide, Tryz.func174.trans (congrArg some (by kernel_rfl))⟩
  f71 := ⟨Tryz.f175.name, by decide, Tryz.func175.trans (congrArg some (by kernel_rfl))⟩
  f72 := ⟨Tryz.f176.name, by decide, Tryz.func176.trans (congrArg some (by kernel_rfl))⟩
  f73 := ⟨Tryz.f177.name, by decide, Tryz.func177.trans (congrArg some (by kernel_rfl))⟩
  f74 := ⟨Tryz.f178.name, by decide, Tryz.func178.trans (congrArg some (by kernel_rfl))⟩
  f75 := ⟨Tryz.f179.name, by decide, Tryz.func179.trans (congrArg some (by kernel_rfl))⟩
  f76 := ⟨Tryz.f181.name, by decide, Tryz.func181.trans (congrArg some (by kernel_rfl))⟩
  f77 := ⟨Tryz.f182.name, by decide, Tryz.func182.trans (congrArg some (by kernel_rfl))⟩
  f78 := Tryz.func183.trans (congrArg some (by kernel_rfl))
  f79 := Tryz.func170.trans (congrArg some (by kernel_rfl))
  f88 := ⟨Tryz.f184.name, by decide, Tryz.func184.trans (congrArg some (by kernel_rfl))⟩
  f89 := Tryz.func185.trans (congrArg some (by kernel_rfl))
  f90 := Tryz.func186.trans (congrArg some (by kernel_rfl))
  f91 := ⟨Tryz.f187.name, by decide, Tryz.func187.trans (congrArg some (by kernel_rfl))⟩
  f92 := ⟨Tryz.f188.name, by decide, Tryz.func188.trans (congrArg some (by kernel_rfl))⟩
  f96 := ⟨Tryz.f189.name, by decide, Tryz.func189.trans (congrArg some (by kernel_rfl))⟩
  t0 := Tryz.underlying0
  a0 := Tryz.isAgg0
  z0 := Tryz.sizeOf0
  v0 := Tryz.zeroValue0
  t3 := Tryz.underlying3
  a3 := Tryz.isAgg3
  z3 := Tryz.sizeOf3
  v3 := Tryz.zeroValue3
  t4 := Tryz.underlying4
  a4 := Tryz.isAgg4
  z4 := Tryz.sizeOf4
  v4 := Tryz.zeroValue4
  t5 := Tryz.underlying5
  a5 := Tryz.isAgg5
  z5 := Tryz.sizeOf5
  v5 := Tryz.zeroValue5
  t9 := Tryz.underlying9
  a9 := Tryz.isAgg9
  z9 := Tryz.sizeOf9
  v9 := Tryz.zeroValue9
  t22 := Tryz.underlying35
  a22 := Tryz.isAgg35
  z22 := Tryz.sizeOf35
  v22 := Tryz.zeroValue35
  t23 := Tryz.underlying2
  a23 := Tryz.isAgg2
  z23 := Tryz.sizeOf2
  v23 := Tryz.zeroValue2
  t44 := Tryz.underlying245
  a44 := Tryz.isAgg245
  z44 := Tryz.sizeOf245
  v44 := Tryz.zeroValue245
  t51 := Tryz.underlying67
  a51 := Tryz.isAgg67
  z51 := Tryz.sizeOf67
  v51 := Tryz.zeroValue67
  t60 := Tryz.underlying239
  a60 := Tryz.isAgg239
  z60 := Tryz.sizeOf239
  v60 := Tryz.zeroValue239
  t61 := Tryz.underlying240
  a61 := Tryz.isAgg240
  z61 := Tryz.sizeOf240
  v61 := Tryz.zeroValue240
  t67 := Tryz.underlying28
  a67 := Tryz.isAgg28
  z67 := Tryz.sizeOf28
  v67 := Tryz.zeroValue28
  t69 := Tryz.underlying180
  a69 := Tryz.isAgg180
  z69 := Tryz.sizeOf180
  v69 := Tryz.zeroValue180
  t75 := Tryz.underlying247
  a75 := Tryz.isAgg247
  z75 := Tryz.sizeOf247
  v75 := Tryz.zeroValue247
  t79 := Tryz.underlying251
  a79 := Tryz.isAgg251
  z79 := Tryz.sizeOf251
  v79 := Tryz.zeroValue251
  t83 := Tryz.underlying253
  a83 := Tryz.isAgg253
  z83 := Tryz.sizeOf253
  v83 := Tryz.zeroValue253
  t84 := Tryz.underlying254
  a84 := Tryz.isAgg254
  z84 := Tryz.sizeOf254
  v84 := Tryz.zeroValue254 }
end Go.Proofs
