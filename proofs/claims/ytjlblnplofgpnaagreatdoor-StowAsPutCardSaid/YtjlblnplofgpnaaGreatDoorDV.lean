import Derived.Test.YtjlblnplofgpnaaGreatDoorDL
import Derived.Test.YtjlblnplofgpnaaGreatDoorDP
import Derived.Test.YtjlblnplofgpnaaGreatDoorAE
namespace Go.Proofs.YtjlblnplofgpnaaGreatDoor
open Go.SL
/-! ### the document's layer 14: Moments, Margins; layer 15: Lean, Safe, ahead, less -/
end Go.Proofs.YtjlblnplofgpnaaGreatDoor
namespace Go.Proofs.YtjlblnplofgpnaaGreatDoor
open Go.SL
/-! ### the document's Order, Sorted, put -/
end Go.Proofs.YtjlblnplofgpnaaGreatDoor
