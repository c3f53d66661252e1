/- What the rows of this seat ask of the program, once; the arguments of Top's laws, read. -/
import Derived.Test.YtofdnkgieigncaaGreatTab
import Derived.Test.YtofdnkgieigncaaGreatPl
import Derived.Test.YtofdnkgieigncaaGreatRows
import Derived.Test.YtofdnkgieigncaaGreatSh
import Derived.WalkKit
import Derived.ProofKit
import Derived.OpenShut
import Derived.SizedLaws
namespace Go.Proofs.YtofdnkgieigncaaGreat
open Go.SL Go.ChangeShapes Go.WideShapes Go.ChangeAt Go.RowKit

theorem own : ownKnob Tryz.prog.godebug = none := by kernel_rfl
theorem kids : Kids Tryz.prog (· < Tryz.prog.types.size) := kids_rows (by kernel_rfl) (by kernel_rfl)
theorem full : ∀ t e, t < Tryz.prog.types.size → Tryz.prog.underlying t = some (.slice e) → 0 < Tryz.prog.cellsOf e := slices_full_of _ (by kernel_rfl)
theorem small {t : Nat} (h : Nat.blt t Tryz.prog.types.size = true) : t < Tryz.prog.types.size := by rwa [Nat.blt_eq] at h
theorem u8c {x : D} (h : OkC (.int .u8) x) : ∃ n : Nat, x = .sc (.int .u8 (n : Int)) ∧ n < 256 := by
  obtain ⟨n, rfl, hw⟩ := h.int_inv
  simp [Lit.wf, IntKind.min, IntKind.max, IntKind.signed, IntKind.bits] at hw
  exact ⟨n.toNat, by rw [Int.toNat_of_nonneg (by omega)], by omega⟩
theorem u16c {x : D} (h : OkC (.int .u16) x) : ∃ n : Nat, x = .sc (.int .u16 (n : Int)) ∧ n < 65536 := by
  obtain ⟨n, rfl, hw⟩ := h.int_inv
  simp [Lit.wf, IntKind.min, IntKind.max, IntKind.signed, IntKind.bits] at hw
  exact ⟨n.toNat, by rw [Int.toNat_of_nonneg (by omega)], by omega⟩
theorem u32c {x : D} (h : OkC (.int .u32) x) : ∃ n : Nat, x = .sc (.int .u32 (n : Int)) ∧ n < 4294967296 := by
  obtain ⟨n, rfl, hw⟩ := h.int_inv
  simp [Lit.wf, IntKind.min, IntKind.max, IntKind.signed, IntKind.bits] at hw
  exact ⟨n.toNat, by rw [Int.toNat_of_nonneg (by omega)], by omega⟩
def u8S : List CS := [.int .u8]
def u16S : List CS := [.int .u16]
def u32S : List CS := [.int .u32]
def boolS : List CS := [.bool]
theorem argK_u8 : argK Tryz.tab 5 = some (false, u8S) := by kernel_rfl
theorem u8_of {x : AV} (h : OkArg (false, u8S) x) : ∃ n : Nat, x = .d (.sc (.int .u8 (n : Int))) ∧ n < 256 := by
  obtain ⟨d, rfl, h⟩ := h
  obtain ⟨n, rfl, hn⟩ := u8c h
  exact ⟨n, rfl, hn⟩
end Go.Proofs.YtofdnkgieigncaaGreat
