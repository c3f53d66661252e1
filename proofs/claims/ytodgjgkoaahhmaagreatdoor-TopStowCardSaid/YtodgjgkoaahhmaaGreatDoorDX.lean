import Derived.Test.YtodgjgkoaahhmaaGreatDoorDV
import Derived.Test.YtodgjgkoaahhmaaGreatDoorAE
import Derived.Test.YtodgjgkoaahhmaaGreatDoorDU
import Derived.Test.YtodgjgkoaahhmaaGreatDoorTl
namespace Go.Proofs.YtodgjgkoaahhmaaGreatDoor
open Go.SL
/-! ### the document's best, Wrong, Plan -/
end Go.Proofs.YtodgjgkoaahhmaaGreatDoor
namespace Go.Proofs.YtodgjgkoaahhmaaGreatDoor
open Go.SL
/-! ### the document's Wrong, Plan -/
end Go.Proofs.YtodgjgkoaahhmaaGreatDoor
