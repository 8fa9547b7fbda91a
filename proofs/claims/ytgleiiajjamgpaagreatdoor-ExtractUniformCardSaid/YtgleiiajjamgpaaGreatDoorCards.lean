/-
  DERIVED. GIVEN WITH THE SEED: THE CARDS: each row of YtgleiiajjamgpaaGreatDoorRows.lean that lists a variable, with what it lists TIED to the program's text (the seventh form; the later family's looks); each row that meets fmt, with fmt's text TOLD by the authors' own Lean function (tested against real Go, not proved from fmt's source: count such statements apart). THE CARD IS WHAT COUNTS. Prove the row's statement (the work); the ties are given (YtgleiiajjamgpaaGreatDoorTie.lean); close each card by the builder's one call (the guide's Derived/Test/ToyasCard.lean, 'card_holds'). Laid BY PROGRAM, IN A SANDBOX (cutbox-door.mjs). By AI agents, Wed Nov 11 2026. No macro, syntax, notation, axiom, sorry.
-/
import Derived.Test.YtgleiiajjamgpaaGreatDoorRows
import GoSem.ClaimSeven
namespace Go.Proofs.YtgleiiajjamgpaaGreatDoor
namespace Rows

/-- THE TIED CARD OF 'proofprogramslaw25.ExtractUniform'. -/
def extractUniformCard : Claim7 := { stood := { row := extractUniformRow, standIns := [], harness := (true, "205639b26e03f4c3856c01b4ae8308c7f645c470074e1d5e3a8da65c930a0a7a"), looks := false }, kinds := [], alts := [], laidByText := true, laidKinds := [.data, .data, .data], laidTests := true, laidLooks := .later }
def ExtractUniformCardSaid : Prop := Claim7.holds Tryz.pinned (.plain (OpenSpec.ofChange extractUniformSpec)) extractUniformCard

/-- THE SECOND FORM's CARD OF 'proofprogramslaw25.ExtractUniform'. -/
def extractUniformUptoCard : Claim7 := { stood := { row := extractUniformUptoRow, standIns := [], harness := (true, "205639b26e03f4c3856c01b4ae8308c7f645c470074e1d5e3a8da65c930a0a7a"), looks := false }, kinds := [], alts := [], laidByText := true, laidKinds := [.data, .data, .data], laidTests := true, laidLooks := .later }
def ExtractUniformUptoCardSaid : Prop := Claim7.holds Tryz.pinned (.plain (OpenSpec.upto extractUniformSpec)) extractUniformUptoCard
end Rows
end Go.Proofs.YtgleiiajjamgpaaGreatDoor
