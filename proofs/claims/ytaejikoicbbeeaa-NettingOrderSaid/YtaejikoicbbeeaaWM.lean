import Derived.Test.YtaejikoicbbeeaaWL
namespace Go.Proofs.Ytaejikoicbbeeaa
open Go.SL
/-! ### Sum, only -/
end Go.Proofs.Ytaejikoicbbeeaa
