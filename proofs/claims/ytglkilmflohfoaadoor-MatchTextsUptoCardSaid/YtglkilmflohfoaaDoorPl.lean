/- Plain words on lists. -/
import Derived.Test.YtglkilmflohfoaaDoorSh
import Derived.Test.YtglkilmflohfoaaDoorSk
namespace Go.SL
theorem drop_at {α : Type} {l : List α} {k : Nat} (h : k < l.length) : ∃ x, l[k]? = some x ∧ l.drop k = x :: l.drop (k + 1) :=
  ⟨l[k], List.getElem?_eq_getElem h, List.drop_eq_getElem_cons h⟩
theorem drop_end {α : Type} {l : List α} : l.drop l.length = [] := List.drop_length
theorem take_at {α : Type} {l : List α} {k : Nat} {x : α} (h : l[k]? = some x) : l.take (k + 1) = l.take k ++ [x] := by
  rw [List.take_add_one, h]; rfl
end Go.SL
