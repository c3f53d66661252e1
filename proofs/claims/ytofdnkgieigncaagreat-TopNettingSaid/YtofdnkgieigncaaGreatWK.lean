/- What the rows of this seat ask of the program, once; debts among the arguments, read. -/
import Derived.Test.YtofdnkgieigncaaGreatWH
import Derived.WalkKit
import Derived.ProofKit
import Derived.OpenShut
import Derived.SizedLaws
namespace Go.Proofs.YtofdnkgieigncaaGreat
open Go.SL Go.ChangeShapes Go.WideShapes Go.ChangeAt Go.RowKit

theorem own : ownKnob Tryz.prog.godebug = none := by kernel_rfl
theorem kids : Kids Tryz.prog (· < Tryz.prog.types.size) := kids_rows (by kernel_rfl) (by kernel_rfl)
theorem full : ∀ t e, t < Tryz.prog.types.size → Tryz.prog.underlying t = some (.slice e) → 0 < Tryz.prog.cellsOf e := slices_full_of _ (by kernel_rfl)
theorem small {t : Nat} (h : Nat.blt t Tryz.prog.types.size = true) : t < Tryz.prog.types.size := by rwa [Nat.blt_eq] at h
def TT : AV → Hp → Prop := fun r _ => r = .d (.sc (.bool true))
/-! ### NettingPairs -/


/-! ### NettingNets -/
theorem posQ_len (l : List Db) : (posN l).length ≤ 2 * l.length ∧ (posC l).length ≤ 2 * l.length := by
  obtain ⟨h1, h2⟩ := pos_perm (l := l) (List.Perm.refl _)
  have := nz_len (l := l) (List.Perm.refl _)
  have := h1.length_eq
  have := h2.length_eq
  omega
theorem netN_len (l : List Db) : (netN l).length ≤ 2 * l.length := by
  rw [netN_L]
  exact Nat.le_trans (netL_len _) (posQ_len l).2


/-! ### NettingRings -/


/-! ### NettingPositions -/



end Go.Proofs.YtofdnkgieigncaaGreat
