/-
  DERIVED. GIVEN WITH THE SEED: THE CARDS: each row of YtnkoaepelgbhfaaGreatDoorRows.lean that lists a variable, with what it lists TIED to the program's text (the seventh form; the later family's looks); each row that meets fmt, with fmt's text TOLD by the authors' own Lean function (tested against real Go, not proved from fmt's source: count such statements apart). THE CARD IS WHAT COUNTS. Prove the row's statement (the work); the ties are given (YtnkoaepelgbhfaaGreatDoorTie.lean); close each card by the builder's one call (the guide's Derived/Test/ToyasCard.lean, 'card_holds'). Laid BY PROGRAM, IN A SANDBOX (cutbox-door.mjs). By AI agents, Wed Nov 11 2026. No macro, syntax, notation, axiom, sorry.
-/
import Derived.Test.YtnkoaepelgbhfaaGreatDoorRows
import GoSem.ClaimSeven
namespace Go.Proofs.YtnkoaepelgbhfaaGreatDoor
namespace Rows

/-- THE TIED CARD OF 'proofprogramslaw25.ExtractPut'. -/
def extractPutCard : Claim7 := { stood := { row := extractPutRow, standIns := [], harness := (true, "548cd5d9e3cdd78b6fd4fd87894055d9a33546a8a965ca217f36c1158e11738d"), looks := false }, kinds := [], alts := [], laidByText := true, laidKinds := [.data, .data, .data], laidTests := true, laidLooks := .later }
def ExtractPutCardSaid : Prop := Claim7.holds Tryz.pinned (.plain (OpenSpec.ofChange extractPutSpec)) extractPutCard

/-- THE SECOND FORM's CARD OF 'proofprogramslaw25.ExtractPut'. -/
def extractPutUptoCard : Claim7 := { stood := { row := extractPutUptoRow, standIns := [], harness := (true, "548cd5d9e3cdd78b6fd4fd87894055d9a33546a8a965ca217f36c1158e11738d"), looks := false }, kinds := [], alts := [], laidByText := true, laidKinds := [.data, .data, .data], laidTests := true, laidLooks := .later }
def ExtractPutUptoCardSaid : Prop := Claim7.holds Tryz.pinned (.plain (OpenSpec.upto extractPutSpec)) extractPutUptoCard
end Rows
end Go.Proofs.YtnkoaepelgbhfaaGreatDoor
