import Derived.Test.YtglkilmflohfoaaDoorSx
import Derived.Test.YtglkilmflohfoaaDoorTab
import Derived.Test.YtglkilmflohfoaaDoorPl
import Derived.Test.YtglkilmflohfoaaDoorRows
namespace Go.Proofs.YtglkilmflohfoaaDoor
open Go.SL

/-! ### maps as lists -/
section
variable {κ α : Type} [DecidableEq κ]
variable (kv : κ → Value) (cv : α → AV)
variable {kv cv}
end
abbrev K2 := ByteArray × ByteArray
/-! ### what a loop over a map has still to do -/
end Go.Proofs.YtglkilmflohfoaaDoor
