/- The layer 'SL': maps whose entries bear their places as stamps (made here, never deleted from). -/
import Derived.Test.YtnalpielhpmnfaaSv
namespace Go.SL
open Go.RowKit Go.MapKept
section
variable {P : Program} {O : Org} {T : Tab P} {Q : Exit → Env → Hp → Prop} {env : Env} {h : Hp} {all rest : List Oper} {o : Oper}
variable {t kt et id : Nat} {x i : Operand} {es : List (Value × AV)} {dk : KK} {k : Value} {c : AV}
end
end Go.SL
