import Derived.Test.YtofdnkgieigncaaGreatNU
namespace Go.Proofs.YtofdnkgieigncaaGreat
open Go.SL
/-! ### the document's Net -/
/-- one currency's row while it is settled -/
structure RowLp (c : ByteArray) (P : List ByteArray) (R : List Db) (A : List PA) (E : List Db) : Prop where
  fst : A.map (·.1) = P
  bd : ∀ a ∈ A, -1099511627776 ≤ a.2 ∧ a.2 ≤ 1099511627776
  sum : sumP A = 0
  eq : E ++ tagC c (setA A) = R
theorem RowLp.len {c : ByteArray} {P : List ByteArray} {R E : List Db} {A : List PA} (h : RowLp c P R A E) : A.length = P.length := by rw [← h.fst, List.length_map]
end Go.Proofs.YtofdnkgieigncaaGreat
