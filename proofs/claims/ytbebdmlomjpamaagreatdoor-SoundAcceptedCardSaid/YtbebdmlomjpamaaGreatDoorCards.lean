/-
  DERIVED. GIVEN WITH THE SEED: THE CARDS: each row of YtbebdmlomjpamaaGreatDoorRows.lean that lists a variable, with what it lists TIED to the program's text (the seventh form; the later family's looks); each row that meets fmt, with fmt's text TOLD by the authors' own Lean function (tested against real Go, not proved from fmt's source: count such statements apart). THE CARD IS WHAT COUNTS. Prove the row's statement (the work); the ties are given (YtbebdmlomjpamaaGreatDoorTie.lean); close each card by the builder's one call (the guide's Derived/Test/ToyasCard.lean, 'card_holds'). Laid BY PROGRAM, IN A SANDBOX (cutbox-door.mjs). By AI agents, Wed Nov 11 2026. No macro, syntax, notation, axiom, sorry.
-/
import Derived.Test.YtbebdmlomjpamaaGreatDoorRows
import GoSem.ClaimSeven
namespace Go.Proofs.YtbebdmlomjpamaaGreatDoor
namespace Rows

/-- THE TIED CARD OF 'proofprogramslaw26.SoundAccepted'. -/
def soundAcceptedCard : Claim7 := { stood := { row := soundAcceptedRow, standIns := [], harness := (true, "701a396cb0e63bfd304260ebc9ac71ffe57f544c10cf964e795d882407d9a183"), looks := true }, kinds := [], alts := [], laidByText := true, laidKinds := [.data, .data, .data], laidTests := true, laidLooks := .later }
def SoundAcceptedCardSaid : Prop := Claim7.holds Tryz.pinned (.plain (OpenSpec.ofChange soundAcceptedSpec)) soundAcceptedCard

/-- THE SECOND FORM's CARD OF 'proofprogramslaw26.SoundAccepted'. -/
def soundAcceptedUptoCard : Claim7 := { stood := { row := soundAcceptedUptoRow, standIns := [], harness := (true, "701a396cb0e63bfd304260ebc9ac71ffe57f544c10cf964e795d882407d9a183"), looks := true }, kinds := [], alts := [], laidByText := true, laidKinds := [.data, .data, .data], laidTests := true, laidLooks := .later }
def SoundAcceptedUptoCardSaid : Prop := Claim7.holds Tryz.pinned (.plain (OpenSpec.upto soundAcceptedSpec)) soundAcceptedUptoCard
end Rows
end Go.Proofs.YtbebdmlomjpamaaGreatDoor
