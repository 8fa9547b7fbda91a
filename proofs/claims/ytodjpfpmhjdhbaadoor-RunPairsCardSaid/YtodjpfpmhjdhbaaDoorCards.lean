/-
  DERIVED. GIVEN WITH THE SEED: THE CARDS: each row of YtodjpfpmhjdhbaaDoorRows.lean that lists a variable, with what it lists TIED to the program's text (the seventh form; the later family's looks); each row that meets fmt, with fmt's text TOLD by the authors' own Lean function (tested against real Go, not proved from fmt's source: count such statements apart). THE CARD IS WHAT COUNTS. Prove the row's statement (the work); the ties are given (YtodjpfpmhjdhbaaDoorTie.lean); close each card by the builder's one call (the guide's Derived/Test/ToyasCard.lean, 'card_holds'). Laid BY PROGRAM, IN A SANDBOX (cutbox-door.mjs). By AI agents, Wed Nov 11 2026. No macro, syntax, notation, axiom, sorry.
-/
import Derived.Test.YtodjpfpmhjdhbaaDoorRows
import GoSem.ClaimSeven
namespace Go.Proofs.YtodjpfpmhjdhbaaDoor
namespace Rows

/-- THE TIED CARD OF 'proofprogramslaw38.RunLimits'. -/
def runLimitsCard : Claim7 := { stood := { row := runLimitsRow, standIns := [], harness := (true, "d31da45e1548e911a817ed0decab428b9b4bdbedaaae7fe402527e7fa15de8cb"), looks := true }, kinds := [], alts := [], laidByText := true, laidKinds := [.data], laidTests := true, laidLooks := .later }
def RunLimitsCardSaid : Prop := Claim7.holds Tryd.pinned (.plain (OpenSpec.ofChange runLimitsSpec)) runLimitsCard

/-- THE TIED CARD OF 'proofprogramslaw38.RunPairs'. -/
def runPairsCard : Claim7 := { stood := { row := runPairsRow, standIns := [], harness := (true, "d31da45e1548e911a817ed0decab428b9b4bdbedaaae7fe402527e7fa15de8cb"), looks := true }, kinds := [], alts := [], laidByText := true, laidKinds := [.data], laidTests := true, laidLooks := .later }
def RunPairsCardSaid : Prop := Claim7.holds Tryd.pinned (.plain (OpenSpec.ofChange runPairsSpec)) runPairsCard

/-- THE SECOND FORM's CARD OF 'proofprogramslaw38.RunLimits'. -/
def runLimitsUptoCard : Claim7 := { stood := { row := runLimitsUptoRow, standIns := [], harness := (true, "d31da45e1548e911a817ed0decab428b9b4bdbedaaae7fe402527e7fa15de8cb"), looks := true }, kinds := [], alts := [], laidByText := true, laidKinds := [.data], laidTests := true, laidLooks := .later }
def RunLimitsUptoCardSaid : Prop := Claim7.holds Tryd.pinned (.plain (OpenSpec.upto runLimitsSpec)) runLimitsUptoCard

/-- THE SECOND FORM's CARD OF 'proofprogramslaw38.RunPairs'. -/
def runPairsUptoCard : Claim7 := { stood := { row := runPairsUptoRow, standIns := [], harness := (true, "d31da45e1548e911a817ed0decab428b9b4bdbedaaae7fe402527e7fa15de8cb"), looks := true }, kinds := [], alts := [], laidByText := true, laidKinds := [.data], laidTests := true, laidLooks := .later }
def RunPairsUptoCardSaid : Prop := Claim7.holds Tryd.pinned (.plain (OpenSpec.upto runPairsSpec)) runPairsUptoCard
end Rows
end Go.Proofs.YtodjpfpmhjdhbaaDoor
