/-
  DERIVED. GIVEN WITH THE SEED: THE CARDS: each row of YtodjpfpmhjdhbaaGreatDoorRows.lean that lists a variable, with what it lists TIED to the program's text (the seventh form; the later family's looks); each row that meets fmt, with fmt's text TOLD by the authors' own Lean function (tested against real Go, not proved from fmt's source: count such statements apart). THE CARD IS WHAT COUNTS. Prove the row's statement (the work); the ties are given (YtodjpfpmhjdhbaaGreatDoorTie.lean); close each card by the builder's one call (the guide's Derived/Test/ToyasCard.lean, 'card_holds'). Laid BY PROGRAM, IN A SANDBOX (cutbox-door.mjs). By AI agents, Wed Nov 11 2026. No macro, syntax, notation, axiom, sorry.
-/
import Derived.Test.YtodjpfpmhjdhbaaGreatDoorRows
import GoSem.ClaimSeven
namespace Go.Proofs.YtodjpfpmhjdhbaaGreatDoor
namespace Rows

/-- THE TIED CARD OF 'proofprogramslaw38.RunEval'. -/
def runEvalCard : Claim7 := { stood := { row := runEvalRow, standIns := [], harness := (true, "44175e459403432bf9b3a4cffdb1464b95cd22eb23e767d434b1516b06f07d7c"), looks := true }, kinds := [], alts := [], laidByText := true, laidKinds := [.data], laidTests := true, laidLooks := .later }
def RunEvalCardSaid : Prop := Claim7.holds Tryz.pinned (.plain (OpenSpec.ofChange runEvalSpec)) runEvalCard

/-- THE TIED CARD OF 'proofprogramslaw38.RunCalls'. -/
def runCallsCard : Claim7 := { stood := { row := runCallsRow, standIns := [], harness := (true, "44175e459403432bf9b3a4cffdb1464b95cd22eb23e767d434b1516b06f07d7c"), looks := true }, kinds := [], alts := [], laidByText := true, laidKinds := [.data], laidTests := true, laidLooks := .later }
def RunCallsCardSaid : Prop := Claim7.holds Tryz.pinned (.plain (OpenSpec.ofChange runCallsSpec)) runCallsCard

/-- THE TIED CARD OF 'proofprogramslaw39.MemoSame'. -/
def memoSameCard : Claim7 := { stood := { row := memoSameRow, standIns := [], harness := (true, "44175e459403432bf9b3a4cffdb1464b95cd22eb23e767d434b1516b06f07d7c"), looks := true }, kinds := [], alts := [], laidByText := true, laidKinds := [.data], laidTests := true, laidLooks := .later }
def MemoSameCardSaid : Prop := Claim7.holds Tryz.pinned (.plain (OpenSpec.ofChange memoSameSpec)) memoSameCard

/-- THE TIED CARD OF 'proofprogramslaw39.MemoTwice'. -/
def memoTwiceCard : Claim7 := { stood := { row := memoTwiceRow, standIns := [], harness := (true, "44175e459403432bf9b3a4cffdb1464b95cd22eb23e767d434b1516b06f07d7c"), looks := true }, kinds := [], alts := [], laidByText := true, laidKinds := [.data], laidTests := true, laidLooks := .later }
def MemoTwiceCardSaid : Prop := Claim7.holds Tryz.pinned (.plain (OpenSpec.ofChange memoTwiceSpec)) memoTwiceCard

/-- THE SECOND FORM's CARD OF 'proofprogramslaw38.RunEval'. -/
def runEvalUptoCard : Claim7 := { stood := { row := runEvalUptoRow, standIns := [], harness := (true, "44175e459403432bf9b3a4cffdb1464b95cd22eb23e767d434b1516b06f07d7c"), looks := true }, kinds := [], alts := [], laidByText := true, laidKinds := [.data], laidTests := true, laidLooks := .later }
def RunEvalUptoCardSaid : Prop := Claim7.holds Tryz.pinned (.plain (OpenSpec.upto runEvalSpec)) runEvalUptoCard

/-- THE SECOND FORM's CARD OF 'proofprogramslaw38.RunCalls'. -/
def runCallsUptoCard : Claim7 := { stood := { row := runCallsUptoRow, standIns := [], harness := (true, "44175e459403432bf9b3a4cffdb1464b95cd22eb23e767d434b1516b06f07d7c"), looks := true }, kinds := [], alts := [], laidByText := true, laidKinds := [.data], laidTests := true, laidLooks := .later }
def RunCallsUptoCardSaid : Prop := Claim7.holds Tryz.pinned (.plain (OpenSpec.upto runCallsSpec)) runCallsUptoCard

/-- THE SECOND FORM's CARD OF 'proofprogramslaw39.MemoSame'. -/
def memoSameUptoCard : Claim7 := { stood := { row := memoSameUptoRow, standIns := [], harness := (true, "44175e459403432bf9b3a4cffdb1464b95cd22eb23e767d434b1516b06f07d7c"), looks := true }, kinds := [], alts := [], laidByText := true, laidKinds := [.data], laidTests := true, laidLooks := .later }
def MemoSameUptoCardSaid : Prop := Claim7.holds Tryz.pinned (.plain (OpenSpec.upto memoSameSpec)) memoSameUptoCard

/-- THE SECOND FORM's CARD OF 'proofprogramslaw39.MemoTwice'. -/
def memoTwiceUptoCard : Claim7 := { stood := { row := memoTwiceUptoRow, standIns := [], harness := (true, "44175e459403432bf9b3a4cffdb1464b95cd22eb23e767d434b1516b06f07d7c"), looks := true }, kinds := [], alts := [], laidByText := true, laidKinds := [.data], laidTests := true, laidLooks := .later }
def MemoTwiceUptoCardSaid : Prop := Claim7.holds Tryz.pinned (.plain (OpenSpec.upto memoTwiceSpec)) memoTwiceUptoCard
end Rows
end Go.Proofs.YtodjpfpmhjdhbaaGreatDoor
