/- The layer 'SL': a call that reads an own row. -/
import Derived.Test.YtodgjgkoaahhmaaGreatDoorSz
namespace Go.SL
open Go.RowKit

/-- the arguments as they are seen: an own row as what it holds -/
def ViewL (id n sz : Nat) (es : List (List D)) : List AV → List AV → Prop
  | [], [] => True
  | x :: xs, y :: ys => (x = y ∨ (x = .own id n ∧ y = .d (.sl sz es))) ∧ ViewL id n sz es xs ys
  | _, _ => False
theorem ViewL.get {id n sz : Nat} {es : List (List D)} : ∀ {xs ys : List AV}, ViewL id n sz es xs ys → xs.length = ys.length ∧ ∀ (i : Nat) (y : AV), ys[i]? = some y → ∃ x, xs[i]? = some x ∧ (x = y ∨ (x = .own id n ∧ y = .d (.sl sz es)))
  | [], [], _ => ⟨rfl, fun i y h => by simp at h⟩
  | [], y :: ys, h => h.elim
  | x :: xs, [], h => h.elim
  | x :: xs, y :: ys, h => by
    obtain ⟨h1, h2⟩ := ViewL.get h.2
    refine ⟨by simp [h1], fun i z hz => ?_⟩
    cases i with
    | zero =>
      simp at hz
      subst hz
      exact ⟨x, rfl, h.1⟩
    | succ i => exact h2 i z (by simpa using hz)
section
variable {P : Program} {O : Org} {o : Oper} {env : Env} {h : Hp}
end
end Go.SL
