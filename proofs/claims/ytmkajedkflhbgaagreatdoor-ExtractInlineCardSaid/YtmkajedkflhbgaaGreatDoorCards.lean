/-
  DERIVED. GIVEN WITH THE SEED: THE CARDS: each row of YtmkajedkflhbgaaGreatDoorRows.lean that lists a variable, with what it lists TIED to the program's text (the seventh form; the later family's looks); each row that meets fmt, with fmt's text TOLD by the authors' own Lean function (tested against real Go, not proved from fmt's source: count such statements apart). THE CARD IS WHAT COUNTS. Prove the row's statement (the work); the ties are given (YtmkajedkflhbgaaGreatDoorTie.lean); close each card by the builder's one call (the guide's Derived/Test/ToyasCard.lean, 'card_holds'). Laid BY PROGRAM, IN A SANDBOX (cutbox-door.mjs). By AI agents, Wed Nov 11 2026. No macro, syntax, notation, axiom, sorry.
-/
import Derived.Test.YtmkajedkflhbgaaGreatDoorRows
import GoSem.ClaimSeven
namespace Go.Proofs.YtmkajedkflhbgaaGreatDoor
namespace Rows

/-- THE TIED CARD OF 'proofprogramslaw25.ExtractInline'. -/
def extractInlineCard : Claim7 := { stood := { row := extractInlineRow, standIns := [], harness := (true, "fa39dcdd40a2cd0c4d5af7515f1a4a4df5d2c394a3b94179b420ffcf09a11c12"), looks := false }, kinds := [], alts := [], laidByText := true, laidKinds := [.data, .data, .data], laidTests := true, laidLooks := .later }
def ExtractInlineCardSaid : Prop := Claim7.holds Tryz.pinned (.plain (OpenSpec.ofChange extractInlineSpec)) extractInlineCard

/-- THE SECOND FORM's CARD OF 'proofprogramslaw25.ExtractInline'. -/
def extractInlineUptoCard : Claim7 := { stood := { row := extractInlineUptoRow, standIns := [], harness := (true, "fa39dcdd40a2cd0c4d5af7515f1a4a4df5d2c394a3b94179b420ffcf09a11c12"), looks := false }, kinds := [], alts := [], laidByText := true, laidKinds := [.data, .data, .data], laidTests := true, laidLooks := .later }
def ExtractInlineUptoCardSaid : Prop := Claim7.holds Tryz.pinned (.plain (OpenSpec.upto extractInlineSpec)) extractInlineUptoCard
end Rows
end Go.Proofs.YtmkajedkflhbgaaGreatDoor
