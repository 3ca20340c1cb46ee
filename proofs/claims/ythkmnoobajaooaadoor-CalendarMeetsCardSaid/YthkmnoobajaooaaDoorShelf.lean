/-
  DERIVED: THE SHELF's CONTRACTS AT THIS DUMP, IN PLAIN WORDS (tools/lay-plain.mjs out of 'YthkmnoobajaooaaDoorShelf.lean', which tools/lay-shelf.mjs wrote): THE SAME DECLARATIONS UNDER THE SAME NAMES: 'import', 'namespace', 'open', 'def', 'theorem' AND NOTHING ELSE: no command of the shelf's: FOR A HAND-IN. Each laying: the table of numbers ('.._ren') and one theorem, a field a fact of the dump's own or the kernel's comparison; each contract: ONE APPLICATION.
-/
import Derived.Shelf.SlSorted.Search
import Derived.Test.YthkmnoobajaooaaDoorProg
namespace Go.Proofs
open Go.Shelf
def Tryd.search_ren : Go.Shelf.Ren := ⟨fun | 16 => 43 | n => n, fun | 3 => 3 | 35 => 37 | 4 => 4 | 38 => 73 | n => n, fun | n => n⟩
theorem Tryd.search : Go.Proofs.SlLaysO.n16 Tryd.prog Tryd.search_ren := {
  mixed := by kernel_rfl
  f16 := Tryd.func43.trans (congrArg some (by kernel_rfl))
  t3 := Tryd.underlying3
  a3 := Tryd.isAgg3
  z3 := Tryd.sizeOf3
  v3 := Tryd.zeroValue3
  t4 := Tryd.underlying4
  a4 := Tryd.isAgg4
  z4 := Tryd.sizeOf4
  v4 := Tryd.zeroValue4
  t35 := Tryd.underlying37
  a35 := Tryd.isAgg37
  z35 := Tryd.sizeOf37
  v35 := Tryd.zeroValue37
  t38 := Tryd.underlying73
  a38 := Tryd.isAgg73
  z38 := Tryd.sizeOf73
  v38 := Tryd.zeroValue73 }
def Tryd.searchInts_ren : Go.Shelf.Ren := ⟨fun | 14 => 59 | 22 => 67 | 16 => 43 | n => n, fun | 28 => 41 | 3 => 3 | 0 => 0 | 35 => 37 | 4 => 4 | 38 => 73 | n => n, fun | n => n⟩
theorem Tryd.searchInts : Go.Proofs.SlLaysO.n14 Tryd.prog Tryd.searchInts_ren := {
  mixed := by kernel_rfl
  f14 := Tryd.func59.trans (congrArg some (by kernel_rfl))
  f16 := Tryd.func43.trans (congrArg some (by kernel_rfl))
  f22 := Tryd.func67.trans (congrArg some (by kernel_rfl))
  t0 := Tryd.underlying0
  a0 := Tryd.isAgg0
  z0 := Tryd.sizeOf0
  v0 := Tryd.zeroValue0
  t3 := Tryd.underlying3
  a3 := Tryd.isAgg3
  z3 := Tryd.sizeOf3
  v3 := Tryd.zeroValue3
  t4 := Tryd.underlying4
  a4 := Tryd.isAgg4
  z4 := Tryd.sizeOf4
  v4 := Tryd.zeroValue4
  t28 := Tryd.underlying41
  a28 := Tryd.isAgg41
  z28 := Tryd.sizeOf41
  v28 := Tryd.zeroValue41
  t35 := Tryd.underlying37
  a35 := Tryd.isAgg37
  z35 := Tryd.sizeOf37
  v35 := Tryd.zeroValue37
  t38 := Tryd.underlying73
  a38 := Tryd.isAgg73
  z38 := Tryd.sizeOf73
  v38 := Tryd.zeroValue73 }
end Go.Proofs
