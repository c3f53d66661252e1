/-
  DERIVED: THE SHELF's CONTRACTS AT THIS DUMP, IN PLAIN WORDS (tools/lay-plain.mjs out of 'YtldfncafkdmoiaaGreatShelfTry.lean', which tools/lay-shelf.mjs wrote): THE SAME DECLARATIONS UNDER THE SAME NAMES: 'import', 'namespace', 'open', 'def', 'theorem' AND NOTHING ELSE: no command of the shelf's: FOR A HAND-IN. Each laying: the table of numbers ('.._ren') and one theorem, a field a fact of the dump's own or the kernel's comparison; each contract: ONE APPLICATION.
-/
import Derived.Shelf.Bits.Mul64
import Derived.Ground.NamesProg
import Derived.Shelf.Small.Bits
import Derived.Test.YtldfncafkdmoiaaGreatProg
namespace Go.Proofs
open Go.Shelf
def Tryz.mul64_ren : Go.Shelf.Ren := ⟨fun | 264 => 36 | n => n, fun | 53 => 65 | 46 => 80 | n => n, fun | n => n⟩
theorem Tryz.mul64 : Go.Proofs.Lays.n264 Tryz.prog Tryz.mul64_ren := {
  mixed := by kernel_rfl
  f264 := Tryz.func36.trans (congrArg some (by kernel_rfl))
  t46 := Tryz.underlying80
  a46 := Tryz.isAgg80
  z46 := Tryz.sizeOf80
  v46 := Tryz.zeroValue80
  t53 := Tryz.underlying65
  a53 := Tryz.isAgg65
  z53 := Tryz.sizeOf65
  v53 := Tryz.zeroValue65 }
def Tryz.lz64_ren : Go.Shelf.Ren := ⟨fun | 134 => 62 | 129 => 77 | n => n, fun | 53 => 65 | 3 => 3 | 4 => 4 | 46 => 80 | 5 => 5 | 9 => 9 | n => n, fun | n => n⟩
theorem Tryz.lz64 : Go.Proofs.Lays.n134 Tryz.prog Tryz.lz64_ren := {
  mixed := by kernel_rfl
  f129 := Tryz.func77.trans (congrArg some (by kernel_rfl))
  f134 := Tryz.func62.trans (congrArg some (by kernel_rfl))
  t3 := Tryz.underlying3
  a3 := Tryz.isAgg3
  z3 := Tryz.sizeOf3
  v3 := Tryz.zeroValue3
  t4 := Tryz.underlying4
  a4 := Tryz.isAgg4
  z4 := Tryz.sizeOf4
  v4 := Tryz.zeroValue4
  t5 := Tryz.underlying5
  a5 := Tryz.isAgg5
  z5 := Tryz.sizeOf5
  v5 := Tryz.zeroValue5
  t9 := Tryz.underlying9
  a9 := Tryz.isAgg9
  z9 := Tryz.sizeOf9
  v9 := Tryz.zeroValue9
  t46 := Tryz.underlying80
  a46 := Tryz.isAgg80
  z46 := Tryz.sizeOf80
  v46 := Tryz.zeroValue80
  t53 := Tryz.underlying65
  a53 := Tryz.isAgg65
  z53 := Tryz.sizeOf65
  v53 := Tryz.zeroValue65 }
end Go.Proofs
