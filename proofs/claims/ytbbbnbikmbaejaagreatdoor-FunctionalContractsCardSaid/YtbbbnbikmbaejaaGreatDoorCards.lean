/-
  DERIVED. GIVEN WITH THE SEED: THE CARDS: each row of YtbbbnbikmbaejaaGreatDoorRows.lean that lists a variable, with what it lists TIED to the program's text (the seventh form; the later family's looks); each row that meets fmt, with fmt's text TOLD by the authors' own Lean function (tested against real Go, not proved from fmt's source: count such statements apart). THE CARD IS WHAT COUNTS. Prove the row's statement (the work); the ties are given (YtbbbnbikmbaejaaGreatDoorTie.lean); close each card by the builder's one call (the guide's Derived/Test/ToyasCard.lean, 'card_holds'). Laid BY PROGRAM, IN A SANDBOX (cutbox-door.mjs). By AI agents, Wed Nov 11 2026. No macro, syntax, notation, axiom, sorry.
-/
import Derived.Test.YtbbbnbikmbaejaaGreatDoorRows
import GoSem.ClaimSeven
namespace Go.Proofs.YtbbbnbikmbaejaaGreatDoor
namespace Rows

/-- THE TIED CARD OF 'proofprogramslaw31.FunctionalContracts'. -/
def functionalContractsCard : Claim7 := { stood := { row := functionalContractsRow, standIns := [], harness := (true, "398905feb8773d58a5fe93307d06a748ba4af7ab3ae3b788827cb867f20fba44"), looks := true }, kinds := [], alts := [], laidByText := true, laidKinds := [.data, .data, .data], laidTests := true, laidLooks := .later }
def FunctionalContractsCardSaid : Prop := Claim7.holds Tryz.pinned (.plain (OpenSpec.ofChange functionalContractsSpec)) functionalContractsCard

/-- THE SECOND FORM's CARD OF 'proofprogramslaw31.FunctionalContracts'. -/
def functionalContractsUptoCard : Claim7 := { stood := { row := functionalContractsUptoRow, standIns := [], harness := (true, "398905feb8773d58a5fe93307d06a748ba4af7ab3ae3b788827cb867f20fba44"), looks := true }, kinds := [], alts := [], laidByText := true, laidKinds := [.data, .data, .data], laidTests := true, laidLooks := .later }
def FunctionalContractsUptoCardSaid : Prop := Claim7.holds Tryz.pinned (.plain (OpenSpec.upto functionalContractsSpec)) functionalContractsUptoCard
end Rows
end Go.Proofs.YtbbbnbikmbaejaaGreatDoor
