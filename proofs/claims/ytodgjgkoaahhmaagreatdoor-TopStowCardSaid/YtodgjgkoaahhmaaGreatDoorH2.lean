/-
  DERIVED: THE SHELF's CONTRACTS AT THIS DUMP, IN PLAIN WORDS (tools/lay-plain.mjs out of 'YtodgjgkoaahhmaaGreatDoorShelfTry.lean', which tools/lay-shelf.mjs wrote): THE SAME DECLARATIONS UNDER THE SAME NAMES: 'import', 'namespace', 'open', 'def', 'theorem' AND NOTHING ELSE: no command of the shelf's: FOR A HAND-IN. Each laying: the table of numbers ('.._ren') and one theorem, a field a fact of the dump's own or the kernel's comparison; each contract: ONE APPLICATION.
-/
import Derived.Shelf.Bits.Mul64
import Derived.Ground.NamesProg
import Derived.Shelf.Small.Bits
import Derived.Test.YtodgjgkoaahhmaaGreatDoorProg
namespace Go.Proofs
open Go.Shelf
def Tryz.mul64_ren : Go.Shelf.Ren := ⟨fun | 264 => 26 | n => n, fun | 53 => 79 | 46 => 112 | n => n, fun | n => n⟩
theorem Tryz.mul64 : Go.Proofs.Lays.n264 Tryz.prog Tryz.mul64_ren := {
  mixed := by kernel_rfl
  f264 := Tryz.func26.trans (congrArg some (by kernel_rfl))
  t46 := Tryz.underlying112
  a46 := Tryz.isAgg112
  z46 := Tryz.sizeOf112
  v46 := Tryz.zeroValue112
  t53 := Tryz.underlying79
  a53 := Tryz.isAgg79
  z53 := Tryz.sizeOf79
  v53 := Tryz.zeroValue79 }
def Tryz.lz64_ren : Go.Shelf.Ren := ⟨fun | 134 => 57 | 129 => 91 | n => n, fun | 53 => 79 | 3 => 3 | 4 => 4 | 46 => 112 | 5 => 5 | 9 => 9 | n => n, fun | n => n⟩
theorem Tryz.lz64 : Go.Proofs.Lays.n134 Tryz.prog Tryz.lz64_ren := {
  mixed := by kernel_rfl
  f129 := Tryz.func91.trans (congrArg some (by kernel_rfl))
  f134 := Tryz.func57.trans (congrArg some (by kernel_rfl))
  t3 := Tryz.underlying3
  a3 := Tryz.isAgg3
  z3 := Tryz.sizeOf3
  v3 := Tryz.zeroValue3
  t4 := Tryz.underlying4
  a4 := Tryz.isAgg4
  z4 := Tryz.sizeOf4
  v4 := Tryz.zeroValue4
  t5 := Tryz.underlying5
  a5 := Tryz.isAgg5
  z5 := Tryz.sizeOf5
  v5 := Tryz.zeroValue5
  t9 := Tryz.underlying9
  a9 := Tryz.isAgg9
  z9 := Tryz.sizeOf9
  v9 := Tryz.zeroValue9
  t46 := Tryz.underlying112
  a46 := Tryz.isAgg112
  z46 := Tryz.sizeOf112
  v46 := Tryz.zeroValue112
  t53 := Tryz.underlying79
  a53 := Tryz.isAgg79
  z53 := Tryz.sizeOf79
  v53 := Tryz.zeroValue79 }
end Go.Proofs
