/-
  DERIVED. GIVEN WITH THE SEED: THE CARDS: each row of YtjecbkgdndjejaaGreatDoorRows.lean that lists a variable, with what it lists TIED to the program's text (the seventh form; the later family's looks); each row that meets fmt, with fmt's text TOLD by the authors' own Lean function (tested against real Go, not proved from fmt's source: count such statements apart). THE CARD IS WHAT COUNTS. Prove the row's statement (the work); the ties are given (YtjecbkgdndjejaaGreatDoorTie.lean); close each card by the builder's one call (the guide's Derived/Test/ToyasCard.lean, 'card_holds'). Laid BY PROGRAM, IN A SANDBOX (cutbox-door.mjs). By AI agents, Wed Nov 11 2026. No macro, syntax, notation, axiom, sorry.
-/
import Derived.Test.YtjecbkgdndjejaaGreatDoorRows
import GoSem.ClaimSeven
namespace Go.Proofs.YtjecbkgdndjejaaGreatDoor
namespace Rows

/-- THE TIED CARD OF 'proofprogramslaw26.SoundFree'. -/
def soundFreeCard : Claim7 := { stood := { row := soundFreeRow, standIns := [], harness := (true, "ba1858b7f9684e90b4aaf958dcbc0758322f9ede05c77f9d461d61c87fee309b"), looks := true }, kinds := [], alts := [], laidByText := true, laidKinds := [.data, .data, .data], laidTests := true, laidLooks := .later }
def SoundFreeCardSaid : Prop := Claim7.holds Tryz.pinned (.plain (OpenSpec.ofChange soundFreeSpec)) soundFreeCard

/-- THE SECOND FORM's CARD OF 'proofprogramslaw26.SoundFree'. -/
def soundFreeUptoCard : Claim7 := { stood := { row := soundFreeUptoRow, standIns := [], harness := (true, "ba1858b7f9684e90b4aaf958dcbc0758322f9ede05c77f9d461d61c87fee309b"), looks := true }, kinds := [], alts := [], laidByText := true, laidKinds := [.data, .data, .data], laidTests := true, laidLooks := .later }
def SoundFreeUptoCardSaid : Prop := Claim7.holds Tryz.pinned (.plain (OpenSpec.upto soundFreeSpec)) soundFreeUptoCard
end Rows
end Go.Proofs.YtjecbkgdndjejaaGreatDoor
