/-
  DERIVED. GIVEN WITH THE SEED: THE CARDS: each row of YtmihmecnjjmdgaaGreatDoorRows.lean that lists a variable, with what it lists TIED to the program's text (the seventh form; the later family's looks); each row that meets fmt, with fmt's text TOLD by the authors' own Lean function (tested against real Go, not proved from fmt's source: count such statements apart). THE CARD IS WHAT COUNTS. Prove the row's statement (the work); the ties are given (YtmihmecnjjmdgaaGreatDoorTie.lean); close each card by the builder's one call (the guide's Derived/Test/ToyasCard.lean, 'card_holds'). Laid BY PROGRAM, IN A SANDBOX (cutbox-door.mjs). By AI agents, Wed Nov 11 2026. No macro, syntax, notation, axiom, sorry.
-/
import Derived.Test.YtmihmecnjjmdgaaGreatDoorRows
import GoSem.ClaimSeven
namespace Go.Proofs.YtmihmecnjjmdgaaGreatDoor
namespace Rows

/-- THE TIED CARD OF 'proofprogramslaw26.SoundAgain'. -/
def soundAgainCard : Claim7 := { stood := { row := soundAgainRow, standIns := [], harness := (true, "48a2bc2aee0a9167c908f97c2feed9ef728ee7be4c2edd92120f41cd7461b822"), looks := true }, kinds := [], alts := [], laidByText := true, laidKinds := [.data, .data, .data], laidTests := true, laidLooks := .later }
def SoundAgainCardSaid : Prop := Claim7.holds Tryz.pinned (.plain (OpenSpec.ofChange soundAgainSpec)) soundAgainCard

/-- THE SECOND FORM's CARD OF 'proofprogramslaw26.SoundAgain'. -/
def soundAgainUptoCard : Claim7 := { stood := { row := soundAgainUptoRow, standIns := [], harness := (true, "48a2bc2aee0a9167c908f97c2feed9ef728ee7be4c2edd92120f41cd7461b822"), looks := true }, kinds := [], alts := [], laidByText := true, laidKinds := [.data, .data, .data], laidTests := true, laidLooks := .later }
def SoundAgainUptoCardSaid : Prop := Claim7.holds Tryz.pinned (.plain (OpenSpec.upto soundAgainSpec)) soundAgainUptoCard
end Rows
end Go.Proofs.YtmihmecnjjmdgaaGreatDoor
