import Derived.Test.YtaejikoicbbeeaaWN
namespace Go.Proofs.Ytaejikoicbbeeaa
open Go.SL
/-! ### NettingLeast -/
end Go.Proofs.Ytaejikoicbbeeaa
