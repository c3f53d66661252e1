/- What the rows of this seat ask of the program, once; posts among the arguments, read. -/
import Derived.Test.YtglkilmflohfoaaDoorQ8
import Derived.WalkKit
import Derived.ProofKit
import Derived.OpenShut
import Derived.SizedLaws
namespace Go.Proofs.YtglkilmflohfoaaDoor
open Go.SL Go.ChangeShapes Go.WideShapes Go.ChangeAt Go.RowKit

theorem own : ownKnob Tryd.prog.godebug = none := by kernel_rfl
theorem kids : Kids Tryd.prog (· < Tryd.prog.types.size) := kids_rows (by kernel_rfl) (by kernel_rfl)
theorem full : ∀ t e, t < Tryd.prog.types.size → Tryd.prog.underlying t = some (.slice e) → 0 < Tryd.prog.cellsOf e := slices_full_of _ (by kernel_rfl)
theorem small {t : Nat} (h : Nat.blt t Tryd.prog.types.size = true) : t < Tryd.prog.types.size := by rwa [Nat.blt_eq] at h
def poS : List CS := [.sl 3 48 [.int .i64, .str, .sl 3 40 [.str, .str, .int .i64]]]
theorem argK_po : argK Tryd.tab 22 = some (false, poS) := by kernel_rfl
end Go.Proofs.YtglkilmflohfoaaDoor
