import Derived.Test.YtjadbgmohmgaaaaF1
namespace Go.Proofs.Ytjadbgmohmgaaaa
open Go.SL

def Lot.eqB (x y : Lot) : Bool := eqs x.good y.good && (eqb x.count y.count && true)
theorem lotsOf_len : ∀ (xs : List Line) (ns : List Int), (lotsOf xs ns).length ≤ xs.length
  | [], _ => by simp [lotsOf]
  | _ :: _, [] => by simp [lotsOf]
  | x :: xs, n :: ns => by
    rw [lotsOf]
    have := lotsOf_len xs ns
    split <;> simp <;> omega
theorem cutAll_len (o : Ord) : ∀ (ds : List Int) (ps : List (List Int)) (i : Nat), (cutAll o ds ps i).length ≤ ps.length ∧ ∀ c ∈ cutAll o ds ps i, c.lots.length ≤ o.lines.length
  | [], _, _ => by simp [cutAll]
  | _ :: _, [], _ => by simp [cutAll]
  | d :: ds, p :: ps, i => by
    obtain ⟨h1, h2⟩ := cutAll_len o ds ps (i + 1)
    rw [cutAll]
    refine ⟨by simp; omega, fun c hc => ?_⟩
    rcases List.mem_cons.1 hc with e | e
    · subst e; exact lotsOf_len _ _
    · exact h2 c e
end Go.Proofs.Ytjadbgmohmgaaaa
