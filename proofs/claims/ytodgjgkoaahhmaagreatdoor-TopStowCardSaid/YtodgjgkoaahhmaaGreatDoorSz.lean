/- The layer 'SL': own rows read by builtins: append(own, own...), own == nil. -/
import Derived.Test.YtodgjgkoaahhmaaGreatDoorSy
import Derived.Test.YtodgjgkoaahhmaaGreatDoorSv
namespace Go.SL
open Go.RowKit Go.MapKept
section
variable {P : Program} {O : Org} {T : Tab P} {Q : Exit → Env → Hp → Prop} {env : Env} {h : Hp} {all rest : List Oper} {o : Oper}
/-! ### maps whose order is not told -/
end
end Go.SL
