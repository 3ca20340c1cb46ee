/-
  DERIVED: THE SHELF's CONTRACTS AT THIS DUMP, IN PLAIN WORDS (tools/lay-plain.mjs out of 'YthkmnoobajaooaaDoorSpShelf.lean', which tools/lay-shelf.mjs wrote): THE SAME DECLARATIONS UNDER THE SAME NAMES: 'import', 'namespace', 'open', 'def', 'theorem' AND NOTHING ELSE: no command of the shelf's: FOR A HAND-IN. Each laying: the table of numbers ('.._ren') and one theorem, a field a fact of the dump's own or the kernel's comparison; each contract: ONE APPLICATION.
-/
import Derived.Shelf.SlSortCmp.WholeK
import Derived.Shelf.SlicesG.Cmp
import Derived.Shelf.Small.Bits
import Derived.Shelf.SlGeneric
import Derived.Ground.SlsfProg
import Derived.Ground.SlgcProg
import Derived.Ground.NamesProg
import Derived.Test.YthkmnoobajaooaaDoorProg
namespace Go.Proofs
open Go.Shelf
def Tryd.sortSpans_ren : Go.Shelf.Ren := ⟨fun | 6 => 63 | 15 => 69 | 14 => 68 | 28 => 79 | 29 => 80 | 20 => 71 | 21 => 72 | 22 => 73 | 23 => 74 | 24 => 75 | 25 => 76 | 26 => 77 | 27 => 78 | 46 => 81 | 47 => 82 | 48 => 83 | 49 => 84 | 50 => 85 | 57 => 86 | n => n, fun | 22 => 45 | 24 => 32 | 25 => 78 | 3 => 3 | 39 => 73 | 0 => 0 | 53 => 91 | 55 => 38 | 4 => 4 | 46 => 85 | 45 => 84 | 50 => 56 | 5 => 5 | 9 => 9 | 66 => 93 | 70 => 97 | 76 => 99 | 77 => 100 | n => n, fun | n => n⟩
theorem Tryd.sortSpans : Go.Proofs.SlLaysF0.n6 Tryd.prog Tryd.sortSpans_ren := {
  mixed := by kernel_rfl
  f6 := ⟨Tryd.f63.name, by decide, Tryd.func63.trans (congrArg some (by kernel_rfl))⟩
  f14 := ⟨Tryd.f68.name, by decide, Tryd.func68.trans (congrArg some (by kernel_rfl))⟩
  f15 := Tryd.func69.trans (congrArg some (by kernel_rfl))
  f20 := ⟨Tryd.f71.name, by decide, Tryd.func71.trans (congrArg some (by kernel_rfl))⟩
  f21 := ⟨Tryd.f72.name, by decide, Tryd.func72.trans (congrArg some (by kernel_rfl))⟩
  f22 := ⟨Tryd.f73.name, by decide, Tryd.func73.trans (congrArg some (by kernel_rfl))⟩
  f23 := ⟨Tryd.f74.name, by decide, Tryd.func74.trans (congrArg some (by kernel_rfl))⟩
  f24 := ⟨Tryd.f75.name, by decide, Tryd.func75.trans (congrArg some (by kernel_rfl))⟩
  f25 := ⟨Tryd.f76.name, by decide, Tryd.func76.trans (congrArg some (by kernel_rfl))⟩
  f26 := ⟨Tryd.f77.name, by decide, Tryd.func77.trans (congrArg some (by kernel_rfl))⟩
  f27 := ⟨Tryd.f78.name, by decide, Tryd.func78.trans (congrArg some (by kernel_rfl))⟩
  f28 := Tryd.func79.trans (congrArg some (by kernel_rfl))
  f29 := Tryd.func80.trans (congrArg some (by kernel_rfl))
  f46 := ⟨Tryd.f81.name, by decide, Tryd.func81.trans (congrArg some (by kernel_rfl))⟩
  f47 := Tryd.func82.trans (congrArg some (by kernel_rfl))
  f48 := Tryd.func83.trans (congrArg some (by kernel_rfl))
  f49 := ⟨Tryd.f84.name, by decide, Tryd.func84.trans (congrArg some (by kernel_rfl))⟩
  f50 := ⟨Tryd.f85.name, by decide, Tryd.func85.trans (congrArg some (by kernel_rfl))⟩
  f57 := ⟨Tryd.f86.name, by decide, Tryd.func86.trans (congrArg some (by kernel_rfl))⟩
  t0 := Tryd.underlying0
  a0 := Tryd.isAgg0
  z0 := Tryd.sizeOf0
  v0 := Tryd.zeroValue0
  t3 := Tryd.underlying3
  a3 := Tryd.isAgg3
  z3 := Tryd.sizeOf3
  v3 := Tryd.zeroValue3
  t4 := Tryd.underlying4
  a4 := Tryd.isAgg4
  z4 := Tryd.sizeOf4
  v4 := Tryd.zeroValue4
  t5 := Tryd.underlying5
  a5 := Tryd.isAgg5
  z5 := Tryd.sizeOf5
  v5 := Tryd.zeroValue5
  t9 := Tryd.underlying9
  a9 := Tryd.isAgg9
  z9 := Tryd.sizeOf9
  v9 := Tryd.zeroValue9
  t22 := Tryd.underlying45
  a22 := Tryd.isAgg45
  z22 := Tryd.sizeOf45
  v22 := Tryd.zeroValue45
  t25 := Tryd.underlying78
  a25 := Tryd.isAgg78
  z25 := Tryd.sizeOf78
  v25 := Tryd.zeroValue78
  t39 := Tryd.underlying73
  a39 := Tryd.isAgg73
  z39 := Tryd.sizeOf73
  v39 := Tryd.zeroValue73
  t45 := Tryd.underlying84
  a45 := Tryd.isAgg84
  z45 := Tryd.sizeOf84
  v45 := Tryd.zeroValue84
  t46 := Tryd.underlying85
  a46 := Tryd.isAgg85
  z46 := Tryd.sizeOf85
  v46 := Tryd.zeroValue85
  t50 := Tryd.underlying56
  a50 := Tryd.isAgg56
  z50 := Tryd.sizeOf56
  v50 := Tryd.zeroValue56
  t53 := Tryd.underlying91
  a53 := Tryd.isAgg91
  z53 := Tryd.sizeOf91
  v53 := Tryd.zeroValue91
  t55 := Tryd.underlying38
  a55 := Tryd.isAgg38
  z55 := Tryd.sizeOf38
  v55 := Tryd.zeroValue38
  t66 := Tryd.underlying93
  a66 := Tryd.isAgg93
  z66 := Tryd.sizeOf93
  v66 := Tryd.zeroValue93
  t70 := Tryd.underlying97
  a70 := Tryd.isAgg97
  z70 := Tryd.sizeOf97
  v70 := Tryd.zeroValue97
  t76 := Tryd.underlying99
  a76 := Tryd.isAgg99
  z76 := Tryd.sizeOf99
  v76 := Tryd.zeroValue99
  t77 := Tryd.underlying100
  a77 := Tryd.isAgg100
  z77 := Tryd.sizeOf100
  v77 := Tryd.zeroValue100 }
def Tryd.cmpInt_ren : Go.Shelf.Ren := ⟨fun | 5 => 65 | 7 => 70 | n => n, fun | 22 => 3 | 3 => 3 | 4 => 4 | n => n, fun | n => n⟩
theorem Tryd.cmpInt : Go.Proofs.SlLaysC2.n5 Tryd.prog Tryd.cmpInt_ren := {
  mixed := by kernel_rfl
  f5 := ⟨Tryd.f65.name, by decide, Tryd.func65.trans (congrArg some (by kernel_rfl))⟩
  f7 := ⟨Tryd.f70.name, by decide, Tryd.func70.trans (congrArg some (by kernel_rfl))⟩
  t3 := Tryd.underlying3
  a3 := Tryd.isAgg3
  z3 := Tryd.sizeOf3
  v3 := Tryd.zeroValue3
  t4 := Tryd.underlying4
  a4 := Tryd.isAgg4
  z4 := Tryd.sizeOf4
  v4 := Tryd.zeroValue4
  t22 := Tryd.underlying3
  a22 := Tryd.isAgg3
  z22 := Tryd.sizeOf3
  v22 := Tryd.zeroValue3 }
end Go.Proofs
