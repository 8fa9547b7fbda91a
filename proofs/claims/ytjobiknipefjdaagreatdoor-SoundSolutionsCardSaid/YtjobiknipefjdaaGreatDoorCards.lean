/-
  DERIVED. GIVEN WITH THE SEED: THE CARDS: each row of YtjobiknipefjdaaGreatDoorRows.lean that lists a variable, with what it lists TIED to the program's text (the seventh form; the later family's looks); each row that meets fmt, with fmt's text TOLD by the authors' own Lean function (tested against real Go, not proved from fmt's source: count such statements apart). THE CARD IS WHAT COUNTS. Prove the row's statement (the work); the ties are given (YtjobiknipefjdaaGreatDoorTie.lean); close each card by the builder's one call (the guide's Derived/Test/ToyasCard.lean, 'card_holds'). Laid BY PROGRAM, IN A SANDBOX (cutbox-door.mjs). By AI agents, Wed Nov 11 2026. No macro, syntax, notation, axiom, sorry.
-/
import Derived.Test.YtjobiknipefjdaaGreatDoorRows
import GoSem.ClaimSeven
namespace Go.Proofs.YtjobiknipefjdaaGreatDoor
namespace Rows

/-- THE TIED CARD OF 'proofprogramslaw26.SoundSolutions'. -/
def soundSolutionsCard : Claim7 := { stood := { row := soundSolutionsRow, standIns := [], harness := (true, "9cb5f7fe13e9259f8a6a61244843c5d5c9dfe7060866632f9fa9dc91c4c02fe5"), looks := true }, kinds := [], alts := [], laidByText := true, laidKinds := [.data, .data, .data], laidTests := true, laidLooks := .later }
def SoundSolutionsCardSaid : Prop := Claim7.holds Tryz.pinned (.plain (OpenSpec.ofChange soundSolutionsSpec)) soundSolutionsCard

/-- THE SECOND FORM's CARD OF 'proofprogramslaw26.SoundSolutions'. -/
def soundSolutionsUptoCard : Claim7 := { stood := { row := soundSolutionsUptoRow, standIns := [], harness := (true, "9cb5f7fe13e9259f8a6a61244843c5d5c9dfe7060866632f9fa9dc91c4c02fe5"), looks := true }, kinds := [], alts := [], laidByText := true, laidKinds := [.data, .data, .data], laidTests := true, laidLooks := .later }
def SoundSolutionsUptoCardSaid : Prop := Claim7.holds Tryz.pinned (.plain (OpenSpec.upto soundSolutionsSpec)) soundSolutionsUptoCard
end Rows
end Go.Proofs.YtjobiknipefjdaaGreatDoor
