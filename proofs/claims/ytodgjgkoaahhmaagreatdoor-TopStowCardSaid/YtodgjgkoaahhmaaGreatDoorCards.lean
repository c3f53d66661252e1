/-
  DERIVED. GIVEN WITH THE SEED: THE CARDS: each row of YtodgjgkoaahhmaaGreatDoorRows.lean that lists a variable, with what it lists TIED to the program's text (the seventh form; the later family's looks); each row that meets fmt, with fmt's text TOLD by the authors' own Lean function (tested against real Go, not proved from fmt's source: count such statements apart). THE CARD IS WHAT COUNTS. Prove the row's statement (the work); the ties are given (YtodgjgkoaahhmaaGreatDoorTie.lean); close each card by the builder's one call (the guide's Derived/Test/ToyasCard.lean, 'card_holds'). Laid BY PROGRAM, IN A SANDBOX (cutbox-door.mjs). By AI agents, Wed Nov 11 2026. No macro, syntax, notation, axiom, sorry.
-/
import Derived.Test.YtodgjgkoaahhmaaGreatDoorRows
import GoSem.ClaimSeven
namespace Go.Proofs.YtodgjgkoaahhmaaGreatDoor
namespace Rows

/-- THE TIED CARD OF 'supercargotop.TopStow'. -/
def topStowCard : Claim7 := { stood := { row := topStowRow, standIns := [], harness := (true, "affe2a133ad1cc93f8e331d2f58a376b6f764e7ffb1a26eedf3a6d790b32ff4c"), looks := false }, kinds := [], alts := [], laidByText := true, laidKinds := [.data], laidTests := true, laidLooks := .later }
def TopStowCardSaid : Prop := Claim7.holds Tryz.pinned (.plain (OpenSpec.ofChange topStowSpec)) topStowCard

/-- THE SECOND FORM's CARD OF 'supercargotop.TopStow'. -/
def topStowUptoCard : Claim7 := { stood := { row := topStowUptoRow, standIns := [], harness := (true, "affe2a133ad1cc93f8e331d2f58a376b6f764e7ffb1a26eedf3a6d790b32ff4c"), looks := false }, kinds := [], alts := [], laidByText := true, laidKinds := [.data], laidTests := true, laidLooks := .later }
def TopStowUptoCardSaid : Prop := Claim7.holds Tryz.pinned (.plain (OpenSpec.upto topStowSpec)) topStowUptoCard
end Rows
end Go.Proofs.YtodgjgkoaahhmaaGreatDoor
