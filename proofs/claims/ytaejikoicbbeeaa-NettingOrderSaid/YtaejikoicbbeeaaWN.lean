import Derived.Test.YtaejikoicbbeeaaWM
namespace Go.Proofs.Ytaejikoicbbeeaa
open Go.SL
/-! ### NettingKeeps -/
end Go.Proofs.Ytaejikoicbbeeaa
