/- What the rows of this seat ask of the program, once; debts among the arguments, read. -/
import Derived.Test.YtaejikoicbbeeaaWH
import Derived.WalkKit
import Derived.ProofKit
import Derived.OpenShut
import Derived.SizedLaws
namespace Go.Proofs.Ytaejikoicbbeeaa
open Go.SL Go.ChangeShapes Go.WideShapes Go.ChangeAt Go.RowKit

theorem own : ownKnob Try.prog.godebug = none := by kernel_rfl
theorem kids : Kids Try.prog (· < Try.prog.types.size) := kids_rows (by kernel_rfl) (by kernel_rfl)
theorem full : ∀ t e, t < Try.prog.types.size → Try.prog.underlying t = some (.slice e) → 0 < Try.prog.cellsOf e := slices_full_of _ (by kernel_rfl)
theorem small {t : Nat} (h : Nat.blt t Try.prog.types.size = true) : t < Try.prog.types.size := by rwa [Nat.blt_eq] at h
def dbS : List CS := [.str, .str, .str, .int .i64]
def dbsS : List CS := [.sl 4 56 dbS]
theorem argK_dbs : argK Try.tab 22 = some (false, dbsS) := by kernel_rfl
theorem db_of (e : List D) (h : OkCs dbS e) : ∃ d : Db, e = dbE d ∧ smD d := by
  unfold dbS at h
  obtain ⟨_, _, rfl, h1, h⟩ := h.cons_inv
  obtain ⟨_, _, rfl, h2, h⟩ := h.cons_inv
  obtain ⟨_, _, rfl, h3, h⟩ := h.cons_inv
  obtain ⟨_, _, rfl, h4, h⟩ := h.cons_inv
  obtain rfl := h.nil_inv
  obtain ⟨s1, rfl, hs1⟩ := h1.str_inv
  obtain ⟨s2, rfl, hs2⟩ := h2.str_inv
  obtain ⟨s3, rfl, hs3⟩ := h3.str_inv
  obtain ⟨n4, rfl, _⟩ := h4.i64_inv
  exact ⟨((s3, s1, s2), n4), rfl, by unfold smD; dsimp only; omega⟩
theorem dbs_of {x : AV} (h : OkArg (false, dbsS) x) : ∃ l : List Db, x = .d (.sl 4 (l.map dbE)) ∧ l.length ≤ 140737488351232 ∧ ∀ d ∈ l, smD d := by
  obtain ⟨d, rfl, h⟩ := h
  obtain ⟨l, rfl, h1, h2⟩ := h.list db_of
  exact ⟨l, rfl, by omega, h2⟩
theorem few_len {l : List Db} (h : fewD l = true) : l.length ≤ 31 := by
  unfold fewD at h
  rw [Bool.and_eq_true] at h
  exact of_decide_eq_true h.1
def TT : AV → Hp → Prop := fun r _ => r = .d (.sc (.bool true))
/-! ### NettingPairs -/


/-! ### NettingNets -/
theorem posQ_len (l : List Db) : (posN l).length ≤ 2 * l.length ∧ (posC l).length ≤ 2 * l.length := by
  obtain ⟨h1, h2⟩ := pos_perm (l := l) (List.Perm.refl _)
  have := nz_len (l := l) (List.Perm.refl _)
  have := h1.length_eq
  have := h2.length_eq
  omega
theorem netN_len (l : List Db) : (netN l).length ≤ 2 * l.length := by
  rw [netN_L]
  exact Nat.le_trans (netL_len _) (posQ_len l).2


/-! ### NettingRings -/


/-! ### NettingPositions -/



end Go.Proofs.Ytaejikoicbbeeaa
