/-
  DERIVED: THE SHELF's CONTRACTS AT THIS DUMP, IN PLAIN WORDS (tools/lay-plain.mjs out of 'YtgikjdkdakfnkaaDoorShelfTry.lean', which tools/lay-shelf.mjs wrote): THE SAME DECLARATIONS UNDER THE SAME NAMES: 'import', 'namespace', 'open', 'def', 'theorem' AND NOTHING ELSE: no command of the shelf's: FOR A HAND-IN. Each laying: the table of numbers ('.._ren') and one theorem, a field a fact of the dump's own or the kernel's comparison; each contract: ONE APPLICATION.
-/
import Derived.Shelf.SlGeneric
import Derived.Shelf.SlSortCmp.NoneTotal
import Derived.Ground.SlsfProg
import Derived.Shelf.SlMaps.Clone
import Derived.Ground.SlmcProg
import Derived.Test.YtgikjdkdakfnkaaDoorProg
namespace Go.Proofs
open Go.Shelf
def Tryd.sortLoads_ren : Go.Shelf.Ren := ⟨fun | 6 => 65 | 15 => 72 | 14 => 71 | 28 => 81 | 29 => 82 | 20 => 73 | 21 => 74 | 22 => 75 | 23 => 76 | 24 => 77 | 25 => 78 | 26 => 79 | 27 => 80 | 46 => 83 | 47 => 84 | 48 => 85 | 49 => 86 | 50 => 87 | 57 => 88 | n => n, fun | 22 => 34 | 24 => 38 | 25 => 82 | 3 => 3 | 39 => 102 | 0 => 0 | 53 => 113 | 55 => 115 | 4 => 4 | 46 => 106 | 45 => 105 | 50 => 110 | 5 => 5 | 9 => 9 | 66 => 116 | 70 => 120 | 76 => 122 | 77 => 123 | n => n, fun | n => n⟩
theorem Tryd.sortLoads : Go.Proofs.SlLaysF0.n6 Tryd.prog Tryd.sortLoads_ren := {
  mixed := by kernel_rfl
  f6 := ⟨Tryd.f65.name, by decide, Tryd.func65.trans (congrArg some (by kernel_rfl))⟩
  f14 := ⟨Tryd.f71.name, by decide, Tryd.func71.trans (congrArg some (by kernel_rfl))⟩
  f15 := Tryd.func72.trans (congrArg some (by kernel_rfl))
  f20 := ⟨Tryd.f73.name, by decide, Tryd.func73.trans (congrArg some (by kernel_rfl))⟩
  f21 := ⟨Tryd.f74.name, by decide, Tryd.func74.trans (congrArg some (by kernel_rfl))⟩
  f22 := ⟨Tryd.f75.name, by decide, Tryd.func75.trans (congrArg some (by kernel_rfl))⟩
  f23 := ⟨Tryd.f76.name, by decide, Tryd.func76.trans (congrArg some (by kernel_rfl))⟩
  f24 := ⟨Tryd.f77.name, by decide, Tryd.func77.trans (congrArg some (by kernel_rfl))⟩
  f25 := ⟨Tryd.f78.name, by decide, Tryd.func78.trans (congrArg some (by kernel_rfl))⟩
  f26 := ⟨Tryd.f79.name, by decide, Tryd.func79.trans (congrArg some (by kernel_rfl))⟩
  f27 := ⟨Tryd.f80.name, by decide, Tryd.func80.trans (congrArg some (by kernel_rfl))⟩
  f28 := Tryd.func81.trans (congrArg some (by kernel_rfl))
  f29 := Tryd.func82.trans (congrArg some (by kernel_rfl))
  f46 := ⟨Tryd.f83.name, by decide, Tryd.func83.trans (congrArg some (by kernel_rfl))⟩
  f47 := Tryd.func84.trans (congrArg some (by kernel_rfl))
  f48 := Tryd.func85.trans (congrArg some (by kernel_rfl))
  f49 := ⟨Tryd.f86.name, by decide, Tryd.func86.trans (congrArg some (by kernel_rfl))⟩
  f50 := ⟨Tryd.f87.name, by decide, Tryd.func87.trans (congrArg some (by kernel_rfl))⟩
  f57 := ⟨Tryd.f88.name, by decide, Tryd.func88.trans (congrArg some (by kernel_rfl))⟩
  t0 := Tryd.underlying0
  a0 := Tryd.isAgg0
  z0 := Tryd.sizeOf0
  v0 := Tryd.zeroValue0
  t3 := Tryd.underlying3
  a3 := Tryd.isAgg3
  z3 := Tryd.sizeOf3
  v3 := Tryd.zeroValue3
  t4 := Tryd.underlying4
  a4 := Tryd.isAgg4
  z4 := Tryd.sizeOf4
  v4 := Tryd.zeroValue4
  t5 := Tryd.underlying5
  a5 := Tryd.isAgg5
  z5 := Tryd.sizeOf5
  v5 := Tryd.zeroValue5
  t9 := Tryd.underlying9
  a9 := Tryd.isAgg9
  z9 := Tryd.sizeOf9
  v9 := Tryd.zeroValue9
  t22 := Tryd.underlying34
  a22 := Tryd.isAgg34
  z22 := Tryd.sizeOf34
  v22 := Tryd.zeroValue34
  t25 := Tryd.underlying82
  a25 := Tryd.isAgg82
  z25 := Tryd.sizeOf82
  v25 := Tryd.zeroValue82
  t39 := Tryd.underlying102
  a39 := Tryd.isAgg102
  z39 := Tryd.sizeOf102
  v39 := Tryd.zeroValue102
  t45 := Tryd.underlying105
  a45 := Tryd.isAgg105
  z45 := Tryd.sizeOf105
  v45 := Tryd.zeroValue105
  t46 := Tryd.underlying106
  a46 := Tryd.isAgg106
  z46 := Tryd.sizeOf106
  v46 := Tryd.zeroValue106
  t50 := Tryd.underlying110
  a50 := Tryd.isAgg110
  z50 := Tryd.sizeOf110
  v50 := Tryd.zeroValue110
  t53 := Tryd.underlying113
  a53 := Tryd.isAgg113
  z53 := Tryd.sizeOf113
  v53 := Tryd.zeroValue113
  t55 := Tryd.underlying115
  a55 := Tryd.isAgg115
  z55 := Tryd.sizeOf115
  v55 := Tryd.zeroValue115
  t66 := Tryd.underlying116
  a66 := Tryd.isAgg116
  z66 := Tryd.sizeOf116
  v66 := Tryd.zeroValue116
  t70 := Tryd.underlying120
  a70 := Tryd.isAgg120
  z70 := Tryd.sizeOf120
  v70 := Tryd.zeroValue120
  t76 := Tryd.underlying122
  a76 := Tryd.isAgg122
  z76 := Tryd.sizeOf122
  v76 := Tryd.zeroValue122
  t77 := Tryd.underlying123
  a77 := Tryd.isAgg123
  z77 := Tryd.sizeOf123
  v77 := Tryd.zeroValue123 }
def Tryd.cloneSlots_ren : Go.Shelf.Ren := ⟨fun | 5 => 58 | 7 => 69 | n => n, fun | 23 => 64 | 25 => 26 | 3 => 38 | 4 => 4 | 20 => 20 | n => n, fun | n => n⟩
theorem Tryd.cloneSlots : Go.Proofs.SlLaysW.n5 Tryd.prog Tryd.cloneSlots_ren := {
  mixed := by kernel_rfl
  f5 := ⟨Tryd.f58.name, by decide, Tryd.func58.trans (congrArg some (by kernel_rfl))⟩
  f7 := Tryd.func69.trans (congrArg some (by kernel_rfl))
  t4 := Tryd.underlying4
  a4 := Tryd.isAgg4
  z4 := Tryd.sizeOf4
  v4 := Tryd.zeroValue4
  t20 := Tryd.underlying20
  a20 := Tryd.isAgg20
  z20 := Tryd.sizeOf20
  v20 := Tryd.zeroValue20
  t23 := Tryd.underlying64
  a23 := Tryd.isAgg64
  z23 := Tryd.sizeOf64
  v23 := Tryd.zeroValue64 }
def Tryd.cloneNames_ren : Go.Shelf.Ren := ⟨fun | 5 => 59 | 7 => 69 | n => n, fun | 23 => 65 | 25 => 9 | 3 => 38 | 4 => 4 | 20 => 20 | n => n, fun | n => n⟩
theorem Tryd.cloneNames : Go.Proofs.SlLaysW.n5 Tryd.prog Tryd.cloneNames_ren := {
  mixed := by kernel_rfl
  f5 := ⟨Tryd.f59.name, by decide, Tryd.func59.trans (congrArg some (by kernel_rfl))⟩
  f7 := Tryd.func69.trans (congrArg some (by kernel_rfl))
  t4 := Tryd.underlying4
  a4 := Tryd.isAgg4
  z4 := Tryd.sizeOf4
  v4 := Tryd.zeroValue4
  t20 := Tryd.underlying20
  a20 := Tryd.isAgg20
  z20 := Tryd.sizeOf20
  v20 := Tryd.zeroValue20
  t23 := Tryd.underlying65
  a23 := Tryd.isAgg65
  z23 := Tryd.sizeOf65
  v23 := Tryd.zeroValue65 }
end Go.Proofs
