/-
  NARROWER THAN 'FOR EVERY INPUT', by the rows' own cells (each row's printed sentence says how): RunLimits: laid · RunPairs: laid.
  DERIVED. THE GIVEN ROWS OF THIS SEAT. 2 by the template 'for every input the law returns true; each argument reads behind the call as it read before'; 0 by the template 'total and deterministic' (their statements: YtodjpfpmhjdhbaaDoorTotals.lean).
  GIVEN WITH THE SEED: the statements are not yours to turn. If you find one false, say at which input.
  Laid BY PROGRAM, IN A SANDBOX (cutbox-rows.mjs): the forced cells as the released guide's own fill.sh prints them over the translation 5c80e10e79ffa56c… (all of the seat's roots in one cut). By AI agents, Wed Nov 11 2026. No macro, syntax, notation, axiom, sorry.
-/
import Derived.Test.YtodjpfpmhjdhbaaDoorChecked
import GoSem.Claim
import GoSem.ClaimJoined
import GoSem.ClaimMapViews
import Derived.JoinedTies
import Derived.KernelRfl
namespace Go.Proofs.YtodjpfpmhjdhbaaDoor
/- THE CELL 'sum', in the pinned program and in every row, IS THE sha256 OF THE DUMP (.gsa) THAT YtodjpfpmhjdhbaaDoorProg.lean LOADS. Nothing in Lean hashes anything: it is a label: what it is worth is what the hold of that sum in a sandbox is worth. -/
noncomputable def Tryd.pinned : Pinned := { name := "ytodjpfpmhjdhbaadoor", sum := "5c80e10e79ffa56c7bde00b101f4b842b9d06ffbf8dc9248bdc5f3515e5693c9", checked := Tryd.checked }
namespace Rows
def none {H : Type} : Left H := { results := [], args := [] }

/- WHAT THE LISTED PACKAGE-LEVEL VARIABLES READ AS WHEN THE CALL BEGINS. Each datum BY PROGRAM (the guide's laid-datum.mjs) off the statement by which the dump's own 'gosem.cut.vars' lays the variable. In a bare row this is a premise. The card (YtodjpfpmhjdhbaaDoorCards.lean) ties it to the program's text. -/
def laid_proofprograms_code_ops {H : Type} : DataW H := .agg [.agg [.lit (.int .i64 0), .lit (.int .i64 0)], .agg [.lit (.int .i64 0), .lit (.int .i64 1)], .agg [.lit (.int .i64 0), .lit (.int .i64 2)], .agg [.lit (.int .i64 2), .lit (.int .i64 3)], .agg [.lit (.int .i64 0), .lit (.int .i64 4)], .agg [.lit (.int .i64 1), .lit (.int .i64 5)], .agg [.lit (.int .i64 3), .lit (.int .i64 6)], .agg [.lit (.int .i64 0), .lit (.int .i64 7)], .agg [.lit (.int .i64 2), .lit (.int .i64 8)], .agg [.lit (.int .i64 3), .lit (.int .i64 9)], .agg [.lit (.int .i64 2), .lit (.int .i64 10)], .agg [.lit (.int .i64 1), .lit (.int .i64 11)], .agg [.lit (.int .i64 1), .lit (.int .i64 12)], .agg [.lit (.int .i64 0), .lit (.int .i64 13)]]

/-- 'proofprogramslaw38.RunLimits': WHATEVER THE INPUT: true; the input reads as it did. -/
def runLimitsSpec : ChangeSpec := { name := "runLimits", fn := fun _ => fun
  | [d] => { results := [.lit (.bool true)], args := [d] }
  | _ => none }
def runLimitsRow : OpenClaim := { program := "ytodjpfpmhjdhbaadoor", sum := "5c80e10e79ffa56c7bde00b101f4b842b9d06ffbf8dc9248bdc5f3515e5693c9", func := "proofprograms/proofprogramslaw38.RunLimits", spec := "runLimits", unfollowed := true, recurses := true, named := ["proofprograms/code.ops"], apart := false, laid := [("proofprograms/code.ops", laid_proofprograms_code_ops)] }
def RunLimitsSaid : Prop := runLimitsRow.holds Tryd.pinned (OpenSpec.ofChange runLimitsSpec)

/-- ITS FALSE NEIGHBOUR: 'it returns false'. Refute it at one input. -/
def runLimitsWrong : ChangeSpec := { name := "runLimits", fn := fun _ => fun
  | [d] => { results := [.lit (.bool false)], args := [d] }
  | _ => none }
def RunLimitsWrongFalsely : Prop := runLimitsRow.holds Tryd.pinned (OpenSpec.ofChange runLimitsWrong)

/-- 'proofprogramslaw38.RunPairs': WHATEVER THE INPUT: true; the input reads as it did. -/
def runPairsSpec : ChangeSpec := { name := "runPairs", fn := fun _ => fun
  | [d] => { results := [.lit (.bool true)], args := [d] }
  | _ => none }
def runPairsRow : OpenClaim := { program := "ytodjpfpmhjdhbaadoor", sum := "5c80e10e79ffa56c7bde00b101f4b842b9d06ffbf8dc9248bdc5f3515e5693c9", func := "proofprograms/proofprogramslaw38.RunPairs", spec := "runPairs", unfollowed := true, recurses := true, named := ["proofprograms/code.ops"], apart := false, laid := [("proofprograms/code.ops", laid_proofprograms_code_ops)] }
def RunPairsSaid : Prop := runPairsRow.holds Tryd.pinned (OpenSpec.ofChange runPairsSpec)

/-- ITS FALSE NEIGHBOUR: 'it returns false'. Refute it at one input. -/
def runPairsWrong : ChangeSpec := { name := "runPairs", fn := fun _ => fun
  | [d] => { results := [.lit (.bool false)], args := [d] }
  | _ => none }
def RunPairsWrongFalsely : Prop := runPairsRow.holds Tryd.pinned (OpenSpec.ofChange runPairsWrong)

/- THE SECOND FORM. 'bulk': how many values and letters a reading holds, each counted each time it is reached (what is shared counts as often as it is met; a slice's spare places count too). A statement '..UptoSaid' is the law's where the arguments, and the package variables that the reading takes, are together of bulk at most 1048576: NARROWER than '..Said'. Prove '..Said' where nothing that the law and all that it calls make is longer than what came in: it says more and counts as full. Else prove '..UptoSaid'. A law counts once. -/
mutual
def uptoBulk {H : Type} : DataW H → Nat
  | .lit (.string bytes) => bytes.length + 1
  | .lit _ => 1
  | .nil => 1
  | .ptr d => uptoBulk d + 1
  | .slice elems spare => uptoBulkAll elems + uptoBulkAll spare + 1
  | .agg parts => uptoBulkAll parts + 1
  | .iface _ d => uptoBulk d + 1
  | .map entries => uptoBulkEntries entries + 1
  | .held _ => 1
def uptoBulkAll {H : Type} : List (DataW H) → Nat
  | [] => 0
  | d :: r => uptoBulk d + uptoBulkAll r
def uptoBulkEntries {H : Type} : List (Lit × DataW H) → Nat
  | [] => 0
  | x :: r => uptoBulkEntry x + uptoBulkEntries r
def uptoBulkEntry {H : Type} : Lit × DataW H → Nat
  | (.string bytes, d) => bytes.length + uptoBulk d + 1
  | (_, d) => uptoBulk d + 1
 end
def uptoSmall : (H : Type) → List (DataW H) → Bool := fun _ ds => decide (uptoBulkAll ds ≤ 1048576)
def OpenSpec.upto (s : _root_.Go.ChangeSpec) : _root_.Go.OpenSpec := { _root_.Go.OpenSpec.ofChange s with cond := some uptoSmall }

/-- 'proofprogramslaw38.RunLimits', WHERE WHAT IT READS IS OF BULK AT MOST 1048576: true; the input reads as it did. -/
def runLimitsUptoRow : OpenClaim := { program := "ytodjpfpmhjdhbaadoor", sum := "5c80e10e79ffa56c7bde00b101f4b842b9d06ffbf8dc9248bdc5f3515e5693c9", func := "proofprograms/proofprogramslaw38.RunLimits", spec := "runLimits", unfollowed := true, recurses := true, named := ["proofprograms/code.ops"], apart := false, laid := [("proofprograms/code.ops", laid_proofprograms_code_ops)], narrowed := true }
def RunLimitsUptoSaid : Prop := runLimitsUptoRow.holds Tryd.pinned (OpenSpec.upto runLimitsSpec)

/-- 'proofprogramslaw38.RunPairs', WHERE WHAT IT READS IS OF BULK AT MOST 1048576: true; the input reads as it did. -/
def runPairsUptoRow : OpenClaim := { program := "ytodjpfpmhjdhbaadoor", sum := "5c80e10e79ffa56c7bde00b101f4b842b9d06ffbf8dc9248bdc5f3515e5693c9", func := "proofprograms/proofprogramslaw38.RunPairs", spec := "runPairs", unfollowed := true, recurses := true, named := ["proofprograms/code.ops"], apart := false, laid := [("proofprograms/code.ops", laid_proofprograms_code_ops)], narrowed := true }
def RunPairsUptoSaid : Prop := runPairsUptoRow.holds Tryd.pinned (OpenSpec.upto runPairsSpec)

end Rows
end Go.Proofs.YtodjpfpmhjdhbaaDoor
