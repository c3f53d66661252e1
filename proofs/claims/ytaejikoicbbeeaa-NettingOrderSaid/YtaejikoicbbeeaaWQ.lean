import Derived.Test.YtaejikoicbbeeaaWP
namespace Go.Proofs.Ytaejikoicbbeeaa
open Go.SL
/-! ### NettingApart -/
end Go.Proofs.Ytaejikoicbbeeaa
