/-
  DERIVED: THE SHELF's CONTRACTS AT THIS DUMP, IN PLAIN WORDS (tools/lay-plain.mjs out of 'YtofdnkgieigncaaShelfTry.lean', which tools/lay-shelf.mjs wrote): THE SAME DECLARATIONS UNDER THE SAME NAMES: 'import', 'namespace', 'open', 'def', 'theorem' AND NOTHING ELSE: no command of the shelf's: FOR A HAND-IN. Each laying: the table of numbers ('.._ren') and one theorem, a field a fact of the dump's own or the kernel's comparison; each contract: ONE APPLICATION.
-/
import Derived.Shelf.Bits.Mul64
import Derived.Ground.NamesProg
import Derived.Shelf.Small.Bits
import Derived.Test.YtofdnkgieigncaaProg
namespace Go.Proofs
open Go.Shelf
def Try.mul64_ren : Go.Shelf.Ren := ⟨fun | 264 => 22 | n => n, fun | 53 => 79 | 46 => 101 | n => n, fun | n => n⟩
theorem Try.mul64 : Go.Proofs.Lays.n264 Try.prog Try.mul64_ren := {
  mixed := by kernel_rfl
  f264 := Try.func22.trans (congrArg some (by kernel_rfl))
  t46 := Try.underlying101
  a46 := Try.isAgg101
  z46 := Try.sizeOf101
  v46 := Try.zeroValue101
  t53 := Try.underlying79
  a53 := Try.isAgg79
  z53 := Try.sizeOf79
  v53 := Try.zeroValue79 }
def Try.lz64_ren : Go.Shelf.Ren := ⟨fun | 134 => 61 | 129 => 73 | n => n, fun | 53 => 79 | 3 => 3 | 4 => 4 | 46 => 101 | 5 => 5 | 9 => 9 | n => n, fun | n => n⟩
theorem Try.lz64 : Go.Proofs.Lays.n134 Try.prog Try.lz64_ren := {
  mixed := by kernel_rfl
  f129 := Try.func73.trans (congrArg some (by kernel_rfl))
  f134 := Try.func61.trans (congrArg some (by kernel_rfl))
  t3 := Try.underlying3
  a3 := Try.isAgg3
  z3 := Try.sizeOf3
  v3 := Try.zeroValue3
  t4 := Try.underlying4
  a4 := Try.isAgg4
  z4 := Try.sizeOf4
  v4 := Try.zeroValue4
  t5 := Try.underlying5
  a5 := Try.isAgg5
  z5 := Try.sizeOf5
  v5 := Try.zeroValue5
  t9 := Try.underlying9
  a9 := Try.isAgg9
  z9 := Try.sizeOf9
  v9 := Try.zeroValue9
  t46 := Try.underlying101
  a46 := Try.isAgg101
  z46 := Try.sizeOf101
  v46 := Try.zeroValue101
  t53 := Try.underlying79
  a53 := Try.isAgg79
  z53 := Try.sizeOf79
  v53 := Try.zeroValue79 }
end Go.Proofs
