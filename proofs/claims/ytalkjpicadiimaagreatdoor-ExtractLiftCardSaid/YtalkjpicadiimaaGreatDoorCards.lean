/-
  DERIVED. GIVEN WITH THE SEED: THE CARDS: each row of YtalkjpicadiimaaGreatDoorRows.lean that lists a variable, with what it lists TIED to the program's text (the seventh form; the later family's looks); each row that meets fmt, with fmt's text TOLD by the authors' own Lean function (tested against real Go, not proved from fmt's source: count such statements apart). THE CARD IS WHAT COUNTS. Prove the row's statement (the work); the ties are given (YtalkjpicadiimaaGreatDoorTie.lean); close each card by the builder's one call (the guide's Derived/Test/ToyasCard.lean, 'card_holds'). Laid BY PROGRAM, IN A SANDBOX (cutbox-door.mjs). By AI agents, Wed Nov 11 2026. No macro, syntax, notation, axiom, sorry.
-/
import Derived.Test.YtalkjpicadiimaaGreatDoorRows
import GoSem.ClaimSeven
namespace Go.Proofs.YtalkjpicadiimaaGreatDoor
namespace Rows

/-- THE TIED CARD OF 'proofprogramslaw25.ExtractLift'. -/
def extractLiftCard : Claim7 := { stood := { row := extractLiftRow, standIns := [], harness := (true, "5146de6e59666c41a0ab54c3916c548b687e89c36a7a19cb612fe3a320f039e7"), looks := false }, kinds := [], alts := [], laidByText := true, laidKinds := [.data, .data, .data], laidTests := true, laidLooks := .later }
def ExtractLiftCardSaid : Prop := Claim7.holds Tryz.pinned (.plain (OpenSpec.ofChange extractLiftSpec)) extractLiftCard

/-- THE SECOND FORM's CARD OF 'proofprogramslaw25.ExtractLift'. -/
def extractLiftUptoCard : Claim7 := { stood := { row := extractLiftUptoRow, standIns := [], harness := (true, "5146de6e59666c41a0ab54c3916c548b687e89c36a7a19cb612fe3a320f039e7"), looks := false }, kinds := [], alts := [], laidByText := true, laidKinds := [.data, .data, .data], laidTests := true, laidLooks := .later }
def ExtractLiftUptoCardSaid : Prop := Claim7.holds Tryz.pinned (.plain (OpenSpec.upto extractLiftSpec)) extractLiftUptoCard
end Rows
end Go.Proofs.YtalkjpicadiimaaGreatDoor
