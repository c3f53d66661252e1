import Derived.Test.YtjlblnplofgpnaaGreatDoorDV
import Derived.Test.YtjlblnplofgpnaaGreatDoorAE
import Derived.Test.YtjlblnplofgpnaaGreatDoorDU
import Derived.Test.YtjlblnplofgpnaaGreatDoorTl
namespace Go.Proofs.YtjlblnplofgpnaaGreatDoor
open Go.SL
/-! ### the document's best, Wrong, Plan -/
end Go.Proofs.YtjlblnplofgpnaaGreatDoor
namespace Go.Proofs.YtjlblnplofgpnaaGreatDoor
open Go.SL
/-! ### the document's Wrong, Plan -/
end Go.Proofs.YtjlblnplofgpnaaGreatDoor
