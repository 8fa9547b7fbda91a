/-
  DERIVED. GIVEN WITH THE SEED: THE CARDS: each row of YtmcockinhpiomaaGreatDoorRows.lean that lists a variable, with what it lists TIED to the program's text (the seventh form; the later family's looks); each row that meets fmt, with fmt's text TOLD by the authors' own Lean function (tested against real Go, not proved from fmt's source: count such statements apart). THE CARD IS WHAT COUNTS. Prove the row's statement (the work); the ties are given (YtmcockinhpiomaaGreatDoorTie.lean); close each card by the builder's one call (the guide's Derived/Test/ToyasCard.lean, 'card_holds'). Laid BY PROGRAM, IN A SANDBOX (cutbox-door.mjs). By AI agents, Wed Nov 11 2026. No macro, syntax, notation, axiom, sorry.
-/
import Derived.Test.YtmcockinhpiomaaGreatDoorRows
import GoSem.ClaimSeven
namespace Go.Proofs.YtmcockinhpiomaaGreatDoor
namespace Rows

/-- THE TIED CARD OF 'proofprogramslaw25.ExtractUses'. -/
def extractUsesCard : Claim7 := { stood := { row := extractUsesRow, standIns := [], harness := (true, "98c7030d10ff4cae093a56dafead7a2944727aa2762ea7ee1717ad40f04d9c97"), looks := false }, kinds := [], alts := [], laidByText := true, laidKinds := [.data, .data, .data], laidTests := true, laidLooks := .later }
def ExtractUsesCardSaid : Prop := Claim7.holds Tryz.pinned (.plain (OpenSpec.ofChange extractUsesSpec)) extractUsesCard

/-- THE SECOND FORM's CARD OF 'proofprogramslaw25.ExtractUses'. -/
def extractUsesUptoCard : Claim7 := { stood := { row := extractUsesUptoRow, standIns := [], harness := (true, "98c7030d10ff4cae093a56dafead7a2944727aa2762ea7ee1717ad40f04d9c97"), looks := false }, kinds := [], alts := [], laidByText := true, laidKinds := [.data, .data, .data], laidTests := true, laidLooks := .later }
def ExtractUsesUptoCardSaid : Prop := Claim7.holds Tryz.pinned (.plain (OpenSpec.upto extractUsesSpec)) extractUsesUptoCard
end Rows
end Go.Proofs.YtmcockinhpiomaaGreatDoor
