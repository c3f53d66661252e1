/-
  DERIVED. GIVEN WITH THE SEED: THE CARDS: each row of YtgikjdkdakfnkaaDoorRows.lean that lists a variable, with what it lists TIED to the program's text (the seventh form; the later family's looks); each row that meets fmt, with fmt's text TOLD by the authors' own Lean function (tested against real Go, not proved from fmt's source: count such statements apart). THE CARD IS WHAT COUNTS. Prove the row's statement (the work); the ties are given (YtgikjdkdakfnkaaDoorTie.lean); close each card by the builder's one call (the guide's Derived/Test/ToyasCard.lean, 'card_holds'). Laid BY PROGRAM, IN A SANDBOX (cutbox-door.mjs). By AI agents, Wed Nov 11 2026. No macro, syntax, notation, axiom, sorry.
-/
import Derived.Test.YtgikjdkdakfnkaaDoorRows
import GoSem.ClaimSeven
namespace Go.Proofs.YtgikjdkdakfnkaaDoor
namespace Rows

/-- THE TIED CARD OF 'supercargolaw13.BayPlays'. -/
def bayPlaysCard : Claim7 := { stood := { row := bayPlaysRow, standIns := [], harness := (true, "60c76c90c1baf0e26b75bd76f066e829174553abe466147a7fd736833c212350"), looks := true }, kinds := [], alts := [], laidByText := true, laidKinds := [.data], laidTests := true, laidLooks := .later }
def BayPlaysCardSaid : Prop := Claim7.holds Tryd.pinned (.plain (OpenSpec.ofChange bayPlaysSpec)) bayPlaysCard

/-- THE TIED CARD OF 'supercargolaw13.BayRight'. -/
def bayRightCard : Claim7 := { stood := { row := bayRightRow, standIns := [], harness := (true, "60c76c90c1baf0e26b75bd76f066e829174553abe466147a7fd736833c212350"), looks := true }, kinds := [], alts := [], laidByText := true, laidKinds := [.data], laidTests := true, laidLooks := .later }
def BayRightCardSaid : Prop := Claim7.holds Tryd.pinned (.plain (OpenSpec.ofChange bayRightSpec)) bayRightCard

/-- THE TIED CARD OF 'supercargolaw13.BayBack'. -/
def bayBackCard : Claim7 := { stood := { row := bayBackRow, standIns := [], harness := (true, "60c76c90c1baf0e26b75bd76f066e829174553abe466147a7fd736833c212350"), looks := true }, kinds := [], alts := [], laidByText := true, laidKinds := [.data], laidTests := true, laidLooks := .later }
def BayBackCardSaid : Prop := Claim7.holds Tryd.pinned (.plain (OpenSpec.ofChange bayBackSpec)) bayBackCard

/-- THE TIED CARD OF 'supercargolaw13.BayCopies'. -/
def bayCopiesCard : Claim7 := { stood := { row := bayCopiesRow, standIns := [], harness := (true, "60c76c90c1baf0e26b75bd76f066e829174553abe466147a7fd736833c212350"), looks := true }, kinds := [], alts := [], laidByText := true, laidKinds := [.data], laidTests := true, laidLooks := .later }
def BayCopiesCardSaid : Prop := Claim7.holds Tryd.pinned (.plain (OpenSpec.ofChange bayCopiesSpec)) bayCopiesCard

/-- THE TIED CARD OF 'supercargolaw13.BayEmpties'. -/
def bayEmptiesCard : Claim7 := { stood := { row := bayEmptiesRow, standIns := [], harness := (true, "60c76c90c1baf0e26b75bd76f066e829174553abe466147a7fd736833c212350"), looks := true }, kinds := [], alts := [], laidByText := true, laidKinds := [.data], laidTests := true, laidLooks := .later }
def BayEmptiesCardSaid : Prop := Claim7.holds Tryd.pinned (.plain (OpenSpec.ofChange bayEmptiesSpec)) bayEmptiesCard

/-- THE TIED CARD OF 'supercargolaw13.BayOver'. -/
def bayOverCard : Claim7 := { stood := { row := bayOverRow, standIns := [], harness := (true, "60c76c90c1baf0e26b75bd76f066e829174553abe466147a7fd736833c212350"), looks := true }, kinds := [], alts := [], laidByText := true, laidKinds := [.data], laidTests := true, laidLooks := .later }
def BayOverCardSaid : Prop := Claim7.holds Tryd.pinned (.plain (OpenSpec.ofChange bayOverSpec)) bayOverCard

/-- THE SECOND FORM's CARD OF 'supercargolaw13.BayPlays'. -/
def bayPlaysUptoCard : Claim7 := { stood := { row := bayPlaysUptoRow, standIns := [], harness := (true, "60c76c90c1baf0e26b75bd76f066e829174553abe466147a7fd736833c212350"), looks := true }, kinds := [], alts := [], laidByText := true, laidKinds := [.data], laidTests := true, laidLooks := .later }
def BayPlaysUptoCardSaid : Prop := Claim7.holds Tryd.pinned (.plain (OpenSpec.upto bayPlaysSpec)) bayPlaysUptoCard

/-- THE SECOND FORM's CARD OF 'supercargolaw13.BayRight'. -/
def bayRightUptoCard : Claim7 := { stood := { row := bayRightUptoRow, standIns := [], harness := (true, "60c76c90c1baf0e26b75bd76f066e829174553abe466147a7fd736833c212350"), looks := true }, kinds := [], alts := [], laidByText := true, laidKinds := [.data], laidTests := true, laidLooks := .later }
def BayRightUptoCardSaid : Prop := Claim7.holds Tryd.pinned (.plain (OpenSpec.upto bayRightSpec)) bayRightUptoCard

/-- THE SECOND FORM's CARD OF 'supercargolaw13.BayBack'. -/
def bayBackUptoCard : Claim7 := { stood := { row := bayBackUptoRow, standIns := [], harness := (true, "60c76c90c1baf0e26b75bd76f066e829174553abe466147a7fd736833c212350"), looks := true }, kinds := [], alts := [], laidByText := true, laidKinds := [.data], laidTests := true, laidLooks := .later }
def BayBackUptoCardSaid : Prop := Claim7.holds Tryd.pinned (.plain (OpenSpec.upto bayBackSpec)) bayBackUptoCard

/-- THE SECOND FORM's CARD OF 'supercargolaw13.BayCopies'. -/
def bayCopiesUptoCard : Claim7 := { stood := { row := bayCopiesUptoRow, standIns := [], harness := (true, "60c76c90c1baf0e26b75bd76f066e829174553abe466147a7fd736833c212350"), looks := true }, kinds := [], alts := [], laidByText := true, laidKinds := [.data], laidTests := true, laidLooks := .later }
def BayCopiesUptoCardSaid : Prop := Claim7.holds Tryd.pinned (.plain (OpenSpec.upto bayCopiesSpec)) bayCopiesUptoCard

/-- THE SECOND FORM's CARD OF 'supercargolaw13.BayEmpties'. -/
def bayEmptiesUptoCard : Claim7 := { stood := { row := bayEmptiesUptoRow, standIns := [], harness := (true, "60c76c90c1baf0e26b75bd76f066e829174553abe466147a7fd736833c212350"), looks := true }, kinds := [], alts := [], laidByText := true, laidKinds := [.data], laidTests := true, laidLooks := .later }
def BayEmptiesUptoCardSaid : Prop := Claim7.holds Tryd.pinned (.plain (OpenSpec.upto bayEmptiesSpec)) bayEmptiesUptoCard

/-- THE SECOND FORM's CARD OF 'supercargolaw13.BayOver'. -/
def bayOverUptoCard : Claim7 := { stood := { row := bayOverUptoRow, standIns := [], harness := (true, "60c76c90c1baf0e26b75bd76f066e829174553abe466147a7fd736833c212350"), looks := true }, kinds := [], alts := [], laidByText := true, laidKinds := [.data], laidTests := true, laidLooks := .later }
def BayOverUptoCardSaid : Prop := Claim7.holds Tryd.pinned (.plain (OpenSpec.upto bayOverSpec)) bayOverUptoCard
end Rows
end Go.Proofs.YtgikjdkdakfnkaaDoor
