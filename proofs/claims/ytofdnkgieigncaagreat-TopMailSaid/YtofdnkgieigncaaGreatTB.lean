/- What the rows of this seat ask of the program, once; the arguments of Top's laws, read. -/
import Derived.Test.YtofdnkgieigncaaGreatTab
import Derived.Test.YtofdnkgieigncaaGreatPl
import Derived.Test.YtofdnkgieigncaaGreatRows
import Derived.Test.YtofdnkgieigncaaGreatSh
import Derived.WalkKit
import Derived.ProofKit
import Derived.OpenShut
import Derived.SizedLaws
namespace Go.Proofs.YtofdnkgieigncaaGreat
open Go.SL Go.ChangeShapes Go.WideShapes Go.ChangeAt Go.RowKit

theorem own : ownKnob Tryz.prog.godebug = none := by kernel_rfl
theorem kids : Kids Tryz.prog (· < Tryz.prog.types.size) := kids_rows (by kernel_rfl) (by kernel_rfl)
theorem full : ∀ t e, t < Tryz.prog.types.size → Tryz.prog.underlying t = some (.slice e) → 0 < Tryz.prog.cellsOf e := slices_full_of _ (by kernel_rfl)
theorem small {t : Nat} (h : Nat.blt t Tryz.prog.types.size = true) : t < Tryz.prog.types.size := by rwa [Nat.blt_eq] at h
def uT (k : IntKind) (n : Nat) : List D := [.sc (.int k (n : Int))]
def bT (b : Bool) : List D := [.sc (.bool b)]
theorem u16c {x : D} (h : OkC (.int .u16) x) : ∃ n : Nat, x = .sc (.int .u16 (n : Int)) ∧ n < 65536 := by
  obtain ⟨n, rfl, hw⟩ := h.int_inv
  simp [Lit.wf, IntKind.min, IntKind.max, IntKind.signed, IntKind.bits] at hw
  exact ⟨n.toNat, by rw [Int.toNat_of_nonneg (by omega)], by omega⟩
def u16sS : List CS := [.sl 1 2 [.int .u16]]
def bosS : List CS := [.sl 1 1 [.bool]]
theorem argK_u16s : argK Tryz.tab 22 = some (false, u16sS) := by kernel_rfl
theorem u16s_of {x : AV} (h : OkArg (false, u16sS) x) : ∃ l : List Nat, x = .d (.sl 1 (l.map (uT .u16))) ∧ l.length ≤ 140737488351232 ∧ ∀ b ∈ l, b < 65536 := by
  obtain ⟨d, rfl, h⟩ := h
  obtain ⟨l, rfl, hl, hp⟩ := h.list (enc := uT .u16) (p := fun n => n < 65536) (fun e h => by
    obtain ⟨_, _, rfl, h1, h⟩ := h.cons_inv
    obtain rfl := h.nil_inv
    obtain ⟨n, rfl, hn⟩ := u16c h1
    exact ⟨n, rfl, hn⟩)
  exact ⟨l, rfl, by omega, hp⟩
theorem argK_bos : argK Tryz.tab 23 = some (false, bosS) := by kernel_rfl
theorem bos_of {x : AV} (h : OkArg (false, bosS) x) : ∃ l : List Bool, x = .d (.sl 1 (l.map bT)) ∧ l.length ≤ 140737488351232 := by
  obtain ⟨d, rfl, h⟩ := h
  obtain ⟨l, rfl, hl, hp⟩ := h.list (enc := bT) (p := fun _ => True) (fun e h => by
    obtain ⟨_, _, rfl, h1, h⟩ := h.cons_inv
    obtain rfl := h.nil_inv
    obtain ⟨n, rfl⟩ := h1.bool_inv
    exact ⟨n, rfl, trivial⟩)
  exact ⟨l, rfl, by omega⟩
end Go.Proofs.YtofdnkgieigncaaGreat
