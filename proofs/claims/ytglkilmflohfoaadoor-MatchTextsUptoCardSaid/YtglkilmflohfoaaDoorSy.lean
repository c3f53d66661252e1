/- The layer 'SL': a loop over a function: yield, rounds. -/
import Derived.Test.YtglkilmflohfoaaDoorSx
import Derived.RangeFuncLeaves
import Derived.RangeFuncSeq
namespace Go.SL
open Go.RowKit Go.MapKept

/-! ### the fenced walk, of the wide fence, outside and inside of a round -/
section
variable {P : Program} {O : Org} {T : Tab P} {Q : Exit → Env → Hp → Prop} {env : Env} {h : Hp} {all rest : List Oper} {o : Oper} {r : Option Nat} {n : Nat}
/-! ### objects that are told whole -/
/-! ### the origin moved: names that keep their places from here on -/
def Org.keep (O : Org) (ids : List Nat) (G : Ctx) (nt : Nat) : Org := ⟨O.w0, O.X, O.own0, ids, G, nt⟩
/-! ### what a call leaves, told apart from the call -/
/-! ### a call of yield: a round -/
/-! ### the statement -/
/-! ### raw walks: what holds behind them is told of acts and worlds -/
/-! ### the function's end, a mark taken back -/
end
end Go.SL
