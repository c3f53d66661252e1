import Derived.Test.YtjlblnplofgpnaaGreatDoorDE
import Derived.Test.YtjlblnplofgpnaaGreatDoorAE
namespace Go.Proofs.YtjlblnplofgpnaaGreatDoor
open Go.SL
/-! ### the document: layer 14 -/
end Go.Proofs.YtjlblnplofgpnaaGreatDoor
namespace Go.Proofs.YtjlblnplofgpnaaGreatDoor
open Go.SL
/-! ### Fit -/
end Go.Proofs.YtjlblnplofgpnaaGreatDoor
