/- The layer 'SL': maps.Clone; what the library's own code does with a map that is handed to it. -/
import Derived.Test.YtldfncafkdmoiaaGreatTa
import Derived.Shelf.SlMaps.Clone
import Derived.Test.YtldfncafkdmoiaaGreatSh
import Derived.LaidMore
import Derived.Lay
namespace Go.SL
open Go.RowKit Go.Proofs Go.Shelf
section
variable {P : Program} {ρ : Ren}
end
end Go.SL
/- The layer 'SL': a package's variable, told whole (an object 'raw'); bits of numbers. -/
namespace Go.SL
open Go.RowKit
section
variable {P : Program} {O : Org} {T : Tab P} {env : Env} {h : Hp} {o : Oper}
end
end Go.SL
/- The layer 'SL': maps whose entries' stamps are told (m[k] = v at a map from which may have been deleted). -/
namespace Go.SL
open Go.RowKit Go.MapKept
section
variable {P : Program} {O : Org} {T : Tab P} {Q : Exit → Env → Hp → Prop} {env : Env} {h : Hp} {all rest : List Oper} {o : Oper}
/-- no two stamps alike, all ahead of the clock -/
structure StOk (es : List (Value × AV)) (st : List Nat) (ck : Nat) : Prop where
  len : st.length = es.length
  nd : ∀ (i j s : Nat), st[i]? = some s → st[j]? = some s → i = j
  lt : ∀ s ∈ st, s < ck
variable {t kt et id : Nat} {x i : Operand} {es : List (Value × AV)} {dk : KK} {k : Value} {c : AV} {st : List Nat} {ck : Nat}
end
end Go.SL
/- The layer 'SL': objects under other names. -/
namespace Go.SL
open Go.RowKit
section
variable {P : Program} {O : Org} {Q : Exit → Env → Hp → Prop} {env : Env} {h : Hp}
variable {o : Oper} {x : Operand}
end
end Go.SL
/- The layer 'SL': from a law's contract to its row, where a package's variable is read (laid by the row). -/
namespace Go.SL
open Go.RowKit Go.WideShapes Go.ChangeShapes
section
variable {P : Program} (T : Tab P)
end
section
variable {H : Type} {enc : TypeId × Value → H}
end
end Go.SL
