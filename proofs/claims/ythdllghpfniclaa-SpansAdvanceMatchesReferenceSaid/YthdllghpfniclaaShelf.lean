/-
  DERIVED: THE SHELF's CONTRACTS AT THIS DUMP, IN PLAIN WORDS (tools/lay-plain.mjs out of 'YthdllghpfniclaaShelf.lean', which tools/lay-shelf.mjs wrote): THE SAME DECLARATIONS UNDER THE SAME NAMES: 'import', 'namespace', 'open', 'def', 'theorem' AND NOTHING ELSE: no command of the shelf's: FOR A HAND-IN. Each laying: the table of numbers ('.._ren') and one theorem, a field a fact of the dump's own or the kernel's comparison; each contract: ONE APPLICATION.
-/
import Derived.Shelf.SlSortCmp.WholeK
import Derived.Shelf.SlicesG.Cmp
import Derived.Shelf.Small.Bits
import Derived.Shelf.SlGeneric
import Derived.Ground.SlsfProg
import Derived.Ground.SlgcProg
import Derived.Ground.NamesProg
import Derived.Test.YthdllghpfniclaaProg
namespace Go.Proofs
open Go.Shelf
def Try.sortSpans_ren : Go.Shelf.Ren := ⟨fun | 6 => 26 | 15 => 35 | 14 => 34 | 28 => 48 | 29 => 49 | 20 => 40 | 21 => 41 | 22 => 42 | 23 => 43 | 24 => 44 | 25 => 45 | 26 => 46 | 27 => 47 | 46 => 51 | 47 => 52 | 48 => 53 | 49 => 54 | 50 => 55 | 57 => 57 | n => n, fun | 22 => 22 | 24 => 31 | 25 => 46 | 3 => 3 | 39 => 52 | 0 => 0 | 53 => 67 | 55 => 69 | 4 => 4 | 46 => 61 | 45 => 60 | 50 => 25 | 5 => 5 | 9 => 9 | 66 => 71 | 70 => 75 | 76 => 78 | 77 => 79 | n => n, fun | n => n⟩
theorem Try.sortSpans : Go.Proofs.SlLaysF0.n6 Try.prog Try.sortSpans_ren := {
  mixed := by kernel_rfl
  f6 := ⟨Try.f26.name, by decide, Try.func26.trans (congrArg some (by kernel_rfl))⟩
  f14 := ⟨Try.f34.name, by decide, Try.func34.trans (congrArg some (by kernel_rfl))⟩
  f15 := Try.func35.trans (congrArg some (by kernel_rfl))
  f20 := ⟨Try.f40.name, by decide, Try.func40.trans (congrArg some (by kernel_rfl))⟩
  f21 := ⟨Try.f41.name, by decide, Try.func41.trans (congrArg some (by kernel_rfl))⟩
  f22 := ⟨Try.f42.name, by decide, Try.func42.trans (congrArg some (by kernel_rfl))⟩
  f23 := ⟨Try.f43.name, by decide, Try.func43.trans (congrArg some (by kernel_rfl))⟩
  f24 := ⟨Try.f44.name, by decide, Try.func44.trans (congrArg some (by kernel_rfl))⟩
  f25 := ⟨Try.f45.name, by decide, Try.func45.trans (congrArg some (by kernel_rfl))⟩
  f26 := ⟨Try.f46.name, by decide, Try.func46.trans (congrArg some (by kernel_rfl))⟩
  f27 := ⟨Try.f47.name, by decide, Try.func47.trans (congrArg some (by kernel_rfl))⟩
  f28 := Try.func48.trans (congrArg some (by kernel_rfl))
  f29 := Try.func49.trans (congrArg some (by kernel_rfl))
  f46 := ⟨Try.f51.name, by decide, Try.func51.trans (congrArg some (by kernel_rfl))⟩
  f47 := Try.func52.trans (congrArg some (by kernel_rfl))
  f48 := Try.func53.trans (congrArg some (by kernel_rfl))
  f49 := ⟨Try.f54.name, by decide, Try.func54.trans (congrArg some (by kernel_rfl))⟩
  f50 := ⟨Try.f55.name, by decide, Try.func55.trans (congrArg some (by kernel_rfl))⟩
  f57 := ⟨Try.f57.name, by decide, Try.func57.trans (congrArg some (by kernel_rfl))⟩
  t0 := Try.underlying0
  a0 := Try.isAgg0
  z0 := Try.sizeOf0
  v0 := Try.zeroValue0
  t3 := Try.underlying3
  a3 := Try.isAgg3
  z3 := Try.sizeOf3
  v3 := Try.zeroValue3
  t4 := Try.underlying4
  a4 := Try.isAgg4
  z4 := Try.sizeOf4
  v4 := Try.zeroValue4
  t5 := Try.underlying5
  a5 := Try.isAgg5
  z5 := Try.sizeOf5
  v5 := Try.zeroValue5
  t9 := Try.underlying9
  a9 := Try.isAgg9
  z9 := Try.sizeOf9
  v9 := Try.zeroValue9
  t22 := Try.underlying22
  a22 := Try.isAgg22
  z22 := Try.sizeOf22
  v22 := Try.zeroValue22
  t25 := Try.underlying46
  a25 := Try.isAgg46
  z25 := Try.sizeOf46
  v25 := Try.zeroValue46
  t39 := Try.underlying52
  a39 := Try.isAgg52
  z39 := Try.sizeOf52
  v39 := Try.zeroValue52
  t45 := Try.underlying60
  a45 := Try.isAgg60
  z45 := Try.sizeOf60
  v45 := Try.zeroValue60
  t46 := Try.underlying61
  a46 := Try.isAgg61
  z46 := Try.sizeOf61
  v46 := Try.zeroValue61
  t50 := Try.underlying25
  a50 := Try.isAgg25
  z50 := Try.sizeOf25
  v50 := Try.zeroValue25
  t53 := Try.underlying67
  a53 := Try.isAgg67
  z53 := Try.sizeOf67
  v53 := Try.zeroValue67
  t55 := Try.underlying69
  a55 := Try.isAgg69
  z55 := Try.sizeOf69
  v55 := Try.zeroValue69
  t66 := Try.underlying71
  a66 := Try.isAgg71
  z66 := Try.sizeOf71
  v66 := Try.zeroValue71
  t70 := Try.underlying75
  a70 := Try.isAgg75
  z70 := Try.sizeOf75
  v70 := Try.zeroValue75
  t76 := Try.underlying78
  a76 := Try.isAgg78
  z76 := Try.sizeOf78
  v76 := Try.zeroValue78
  t77 := Try.underlying79
  a77 := Try.isAgg79
  z77 := Try.sizeOf79
  v77 := Try.zeroValue79 }
def Try.cmpInt_ren : Go.Shelf.Ren := ⟨fun | 5 => 28 | 7 => 36 | n => n, fun | 22 => 3 | 3 => 3 | 4 => 4 | n => n, fun | n => n⟩
theorem Try.cmpInt : Go.Proofs.SlLaysC2.n5 Try.prog Try.cmpInt_ren := {
  mixed := by kernel_rfl
  f5 := ⟨Try.f28.name, by decide, Try.func28.trans (congrArg some (by kernel_rfl))⟩
  f7 := ⟨Try.f36.name, by decide, Try.func36.trans (congrArg some (by kernel_rfl))⟩
  t3 := Try.underlying3
  a3 := Try.isAgg3
  z3 := Try.sizeOf3
  v3 := Try.zeroValue3
  t4 := Try.underlying4
  a4 := Try.isAgg4
  z4 := Try.sizeOf4
  v4 := Try.zeroValue4
  t22 := Try.underlying3
  a22 := Try.isAgg3
  z22 := Try.sizeOf3
  v22 := Try.zeroValue3 }
end Go.Proofs
