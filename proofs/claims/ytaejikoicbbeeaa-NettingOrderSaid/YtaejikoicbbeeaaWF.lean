import Derived.Test.YtaejikoicbbeeaaWE
namespace Go.Proofs.Ytaejikoicbbeeaa
open Go.SL
section
variable {P : Program} {O : Org} {T : Tab P} {env : Env} {h : Hp} {o : Oper}
end
/-! ### the document's search for rings -/
end Go.Proofs.Ytaejikoicbbeeaa
namespace Go.Proofs.Ytaejikoicbbeeaa
open Go.SL
/-! ### First, less -/
end Go.Proofs.Ytaejikoicbbeeaa
