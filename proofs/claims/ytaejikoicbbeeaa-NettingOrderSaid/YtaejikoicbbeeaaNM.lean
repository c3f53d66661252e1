import Derived.Test.YtaejikoicbbeeaaNJ
namespace Go.Proofs.Ytaejikoicbbeeaa
open Go.SL
/-! ### Owes -/



end Go.Proofs.Ytaejikoicbbeeaa
