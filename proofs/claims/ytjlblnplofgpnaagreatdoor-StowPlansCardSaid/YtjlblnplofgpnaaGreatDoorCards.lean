/-
  DERIVED. GIVEN WITH THE SEED: THE CARDS: each row of YtjlblnplofgpnaaGreatDoorRows.lean that lists a variable, with what it lists TIED to the program's text (the seventh form; the later family's looks); each row that meets fmt, with fmt's text TOLD by the authors' own Lean function (tested against real Go, not proved from fmt's source: count such statements apart). THE CARD IS WHAT COUNTS. Prove the row's statement (the work); the ties are given (YtjlblnplofgpnaaGreatDoorTie.lean); close each card by the builder's one call (the guide's Derived/Test/ToyasCard.lean, 'card_holds'). Laid BY PROGRAM, IN A SANDBOX (cutbox-door.mjs). By AI agents, Wed Nov 11 2026. No macro, syntax, notation, axiom, sorry.
-/
import Derived.Test.YtjlblnplofgpnaaGreatDoorRows
import GoSem.ClaimSeven
namespace Go.Proofs.YtjlblnplofgpnaaGreatDoor
namespace Rows

/-- THE TIED CARD OF 'supercargolaw15.StowPlans'. -/
def stowPlansCard : Claim7 := { stood := { row := stowPlansRow, standIns := [], harness := (true, "7c4e3fe94cf5c9e6dc16a7a92427b13104a2f7d1e57c5fbdd83573a10ec55fb0"), looks := false }, kinds := [], alts := [], laidByText := true, laidKinds := [.data], laidTests := true, laidLooks := .later }
def StowPlansCardSaid : Prop := Claim7.holds Tryz.pinned (.plain (OpenSpec.ofChange stowPlansSpec)) stowPlansCard

/-- THE TIED CARD OF 'supercargolaw15.StowRight'. -/
def stowRightCard : Claim7 := { stood := { row := stowRightRow, standIns := [], harness := (true, "7c4e3fe94cf5c9e6dc16a7a92427b13104a2f7d1e57c5fbdd83573a10ec55fb0"), looks := false }, kinds := [], alts := [], laidByText := true, laidKinds := [.data], laidTests := true, laidLooks := .later }
def StowRightCardSaid : Prop := Claim7.holds Tryz.pinned (.plain (OpenSpec.ofChange stowRightSpec)) stowRightCard

/-- THE TIED CARD OF 'supercargolaw15.StowKeeps'. -/
def stowKeepsCard : Claim7 := { stood := { row := stowKeepsRow, standIns := [], harness := (true, "7c4e3fe94cf5c9e6dc16a7a92427b13104a2f7d1e57c5fbdd83573a10ec55fb0"), looks := false }, kinds := [], alts := [], laidByText := true, laidKinds := [.data], laidTests := true, laidLooks := .later }
def StowKeepsCardSaid : Prop := Claim7.holds Tryz.pinned (.plain (OpenSpec.ofChange stowKeepsSpec)) stowKeepsCard

/-- THE TIED CARD OF 'supercargolaw15.StowSame'. -/
def stowSameCard : Claim7 := { stood := { row := stowSameRow, standIns := [], harness := (true, "7c4e3fe94cf5c9e6dc16a7a92427b13104a2f7d1e57c5fbdd83573a10ec55fb0"), looks := false }, kinds := [], alts := [], laidByText := true, laidKinds := [.data], laidTests := true, laidLooks := .later }
def StowSameCardSaid : Prop := Claim7.holds Tryz.pinned (.plain (OpenSpec.ofChange stowSameSpec)) stowSameCard

/-- THE TIED CARD OF 'supercargolaw15.StowAsPut'. -/
def stowAsPutCard : Claim7 := { stood := { row := stowAsPutRow, standIns := [], harness := (true, "7c4e3fe94cf5c9e6dc16a7a92427b13104a2f7d1e57c5fbdd83573a10ec55fb0"), looks := false }, kinds := [], alts := [], laidByText := true, laidKinds := [.data], laidTests := true, laidLooks := .later }
def StowAsPutCardSaid : Prop := Claim7.holds Tryz.pinned (.plain (OpenSpec.ofChange stowAsPutSpec)) stowAsPutCard

/-- THE TIED CARD OF 'supercargolaw15.StowMirrors'. -/
def stowMirrorsCard : Claim7 := { stood := { row := stowMirrorsRow, standIns := [], harness := (true, "7c4e3fe94cf5c9e6dc16a7a92427b13104a2f7d1e57c5fbdd83573a10ec55fb0"), looks := false }, kinds := [], alts := [], laidByText := true, laidKinds := [.data], laidTests := true, laidLooks := .later }
def StowMirrorsCardSaid : Prop := Claim7.holds Tryz.pinned (.plain (OpenSpec.ofChange stowMirrorsSpec)) stowMirrorsCard

/-- THE TIED CARD OF 'supercargolaw15.StowUnloads'. -/
def stowUnloadsCard : Claim7 := { stood := { row := stowUnloadsRow, standIns := [], harness := (true, "7c4e3fe94cf5c9e6dc16a7a92427b13104a2f7d1e57c5fbdd83573a10ec55fb0"), looks := false }, kinds := [], alts := [], laidByText := true, laidKinds := [.data], laidTests := true, laidLooks := .later }
def StowUnloadsCardSaid : Prop := Claim7.holds Tryz.pinned (.plain (OpenSpec.ofChange stowUnloadsSpec)) stowUnloadsCard

/-- THE TIED CARD OF 'supercargolaw15.StowLifts'. -/
def stowLiftsCard : Claim7 := { stood := { row := stowLiftsRow, standIns := [], harness := (true, "7c4e3fe94cf5c9e6dc16a7a92427b13104a2f7d1e57c5fbdd83573a10ec55fb0"), looks := false }, kinds := [], alts := [], laidByText := true, laidKinds := [.data], laidTests := true, laidLooks := .later }
def StowLiftsCardSaid : Prop := Claim7.holds Tryz.pinned (.plain (OpenSpec.ofChange stowLiftsSpec)) stowLiftsCard

/-- THE SECOND FORM's CARD OF 'supercargolaw15.StowPlans'. -/
def stowPlansUptoCard : Claim7 := { stood := { row := stowPlansUptoRow, standIns := [], harness := (true, "7c4e3fe94cf5c9e6dc16a7a92427b13104a2f7d1e57c5fbdd83573a10ec55fb0"), looks := false }, kinds := [], alts := [], laidByText := true, laidKinds := [.data], laidTests := true, laidLooks := .later }
def StowPlansUptoCardSaid : Prop := Claim7.holds Tryz.pinned (.plain (OpenSpec.upto stowPlansSpec)) stowPlansUptoCard

/-- THE SECOND FORM's CARD OF 'supercargolaw15.StowRight'. -/
def stowRightUptoCard : Claim7 := { stood := { row := stowRightUptoRow, standIns := [], harness := (true, "7c4e3fe94cf5c9e6dc16a7a92427b13104a2f7d1e57c5fbdd83573a10ec55fb0"), looks := false }, kinds := [], alts := [], laidByText := true, laidKinds := [.data], laidTests := true, laidLooks := .later }
def StowRightUptoCardSaid : Prop := Claim7.holds Tryz.pinned (.plain (OpenSpec.upto stowRightSpec)) stowRightUptoCard

/-- THE SECOND FORM's CARD OF 'supercargolaw15.StowKeeps'. -/
def stowKeepsUptoCard : Claim7 := { stood := { row := stowKeepsUptoRow, standIns := [], harness := (true, "7c4e3fe94cf5c9e6dc16a7a92427b13104a2f7d1e57c5fbdd83573a10ec55fb0"), looks := false }, kinds := [], alts := [], laidByText := true, laidKinds := [.data], laidTests := true, laidLooks := .later }
def StowKeepsUptoCardSaid : Prop := Claim7.holds Tryz.pinned (.plain (OpenSpec.upto stowKeepsSpec)) stowKeepsUptoCard

/-- THE SECOND FORM's CARD OF 'supercargolaw15.StowSame'. -/
def stowSameUptoCard : Claim7 := { stood := { row := stowSameUptoRow, standIns := [], harness := (true, "7c4e3fe94cf5c9e6dc16a7a92427b13104a2f7d1e57c5fbdd83573a10ec55fb0"), looks := false }, kinds := [], alts := [], laidByText := true, laidKinds := [.data], laidTests := true, laidLooks := .later }
def StowSameUptoCardSaid : Prop := Claim7.holds Tryz.pinned (.plain (OpenSpec.upto stowSameSpec)) stowSameUptoCard

/-- THE SECOND FORM's CARD OF 'supercargolaw15.StowAsPut'. -/
def stowAsPutUptoCard : Claim7 := { stood := { row := stowAsPutUptoRow, standIns := [], harness := (true, "7c4e3fe94cf5c9e6dc16a7a92427b13104a2f7d1e57c5fbdd83573a10ec55fb0"), looks := false }, kinds := [], alts := [], laidByText := true, laidKinds := [.data], laidTests := true, laidLooks := .later }
def StowAsPutUptoCardSaid : Prop := Claim7.holds Tryz.pinned (.plain (OpenSpec.upto stowAsPutSpec)) stowAsPutUptoCard

/-- THE SECOND FORM's CARD OF 'supercargolaw15.StowMirrors'. -/
def stowMirrorsUptoCard : Claim7 := { stood := { row := stowMirrorsUptoRow, standIns := [], harness := (true, "7c4e3fe94cf5c9e6dc16a7a92427b13104a2f7d1e57c5fbdd83573a10ec55fb0"), looks := false }, kinds := [], alts := [], laidByText := true, laidKinds := [.data], laidTests := true, laidLooks := .later }
def StowMirrorsUptoCardSaid : Prop := Claim7.holds Tryz.pinned (.plain (OpenSpec.upto stowMirrorsSpec)) stowMirrorsUptoCard

/-- THE SECOND FORM's CARD OF 'supercargolaw15.StowUnloads'. -/
def stowUnloadsUptoCard : Claim7 := { stood := { row := stowUnloadsUptoRow, standIns := [], harness := (true, "7c4e3fe94cf5c9e6dc16a7a92427b13104a2f7d1e57c5fbdd83573a10ec55fb0"), looks := false }, kinds := [], alts := [], laidByText := true, laidKinds := [.data], laidTests := true, laidLooks := .later }
def StowUnloadsUptoCardSaid : Prop := Claim7.holds Tryz.pinned (.plain (OpenSpec.upto stowUnloadsSpec)) stowUnloadsUptoCard

/-- THE SECOND FORM's CARD OF 'supercargolaw15.StowLifts'. -/
def stowLiftsUptoCard : Claim7 := { stood := { row := stowLiftsUptoRow, standIns := [], harness := (true, "7c4e3fe94cf5c9e6dc16a7a92427b13104a2f7d1e57c5fbdd83573a10ec55fb0"), looks := false }, kinds := [], alts := [], laidByText := true, laidKinds := [.data], laidTests := true, laidLooks := .later }
def StowLiftsUptoCardSaid : Prop := Claim7.holds Tryz.pinned (.plain (OpenSpec.upto stowLiftsSpec)) stowLiftsUptoCard
end Rows
end Go.Proofs.YtjlblnplofgpnaaGreatDoor
