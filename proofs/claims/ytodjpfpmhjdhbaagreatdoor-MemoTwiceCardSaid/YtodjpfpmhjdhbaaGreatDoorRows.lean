/-
  NARROWER THAN 'FOR EVERY INPUT', by the rows' own cells (each row's printed sentence says how): RunEval: laid · RunCalls: laid · MemoSame: laid · MemoTwice: laid.
  DERIVED. THE GIVEN ROWS OF THIS SEAT. 4 by the template 'for every input the law returns true; each argument reads behind the call as it read before'; 0 by the template 'total and deterministic' (their statements: YtodjpfpmhjdhbaaGreatDoorTotals.lean).
  GIVEN WITH THE SEED: the statements are not yours to turn. If you find one false, say at which input.
  Laid BY PROGRAM, IN A SANDBOX (cutbox-rows.mjs): the forced cells as the released guide's own fill.sh prints them over the translation 83a1b13d5fd669e3… (all of the seat's roots in one cut). By AI agents, Wed Nov 11 2026. No macro, syntax, notation, axiom, sorry.
-/
import Derived.Test.YtodjpfpmhjdhbaaGreatDoorChecked
import GoSem.Claim
import GoSem.ClaimJoined
import GoSem.ClaimMapViews
import Derived.JoinedTies
import Derived.KernelRfl
namespace Go.Proofs.YtodjpfpmhjdhbaaGreatDoor
/- THE CELL 'sum', in the pinned program and in every row, IS THE sha256 OF THE DUMP (.gsa) THAT YtodjpfpmhjdhbaaGreatDoorProg.lean LOADS. Nothing in Lean hashes anything: it is a label: what it is worth is what the hold of that sum in a sandbox is worth. -/
noncomputable def Tryz.pinned : Pinned := { name := "ytodjpfpmhjdhbaagreatdoor", sum := "83a1b13d5fd669e3ed68feedc8dc6642e2ee74309437d4ec4d51510db3358e5b", checked := Tryz.checked }
namespace Rows
def none {H : Type} : Left H := { results := [], args := [] }

/- WHAT THE LISTED PACKAGE-LEVEL VARIABLES READ AS WHEN THE CALL BEGINS. Each datum BY PROGRAM (the guide's laid-datum.mjs) off the statement by which the dump's own 'gosem.cut.vars' lays the variable. In a bare row this is a premise. The card (YtodjpfpmhjdhbaaGreatDoorCards.lean) ties it to the program's text. -/
def laid_proofprograms_code_ops {H : Type} : DataW H := .agg [.agg [.lit (.int .i64 0), .lit (.int .i64 0)], .agg [.lit (.int .i64 0), .lit (.int .i64 1)], .agg [.lit (.int .i64 0), .lit (.int .i64 2)], .agg [.lit (.int .i64 2), .lit (.int .i64 3)], .agg [.lit (.int .i64 0), .lit (.int .i64 4)], .agg [.lit (.int .i64 1), .lit (.int .i64 5)], .agg [.lit (.int .i64 3), .lit (.int .i64 6)], .agg [.lit (.int .i64 0), .lit (.int .i64 7)], .agg [.lit (.int .i64 2), .lit (.int .i64 8)], .agg [.lit (.int .i64 3), .lit (.int .i64 9)], .agg [.lit (.int .i64 2), .lit (.int .i64 10)], .agg [.lit (.int .i64 1), .lit (.int .i64 11)], .agg [.lit (.int .i64 1), .lit (.int .i64 12)], .agg [.lit (.int .i64 0), .lit (.int .i64 13)]]

/-- 'proofprogramslaw38.RunEval': WHATEVER THE INPUT: true; the input reads as it did. -/
def runEvalSpec : ChangeSpec := { name := "runEval", fn := fun _ => fun
  | [d] => { results := [.lit (.bool true)], args := [d] }
  | _ => none }
def runEvalRow : OpenClaim := { program := "ytodjpfpmhjdhbaagreatdoor", sum := "83a1b13d5fd669e3ed68feedc8dc6642e2ee74309437d4ec4d51510db3358e5b", func := "proofprograms/proofprogramslaw38.RunEval", spec := "runEval", unfollowed := true, recurses := true, named := ["proofprograms/code.ops"], plainKeys := false, apart := false, laid := [("proofprograms/code.ops", laid_proofprograms_code_ops)] }
def RunEvalSaid : Prop := runEvalRow.holds Tryz.pinned (OpenSpec.ofChange runEvalSpec)

/-- ITS FALSE NEIGHBOUR: 'it returns false'. Refute it at one input. -/
def runEvalWrong : ChangeSpec := { name := "runEval", fn := fun _ => fun
  | [d] => { results := [.lit (.bool false)], args := [d] }
  | _ => none }
def RunEvalWrongFalsely : Prop := runEvalRow.holds Tryz.pinned (OpenSpec.ofChange runEvalWrong)

/-- 'proofprogramslaw38.RunCalls': WHATEVER THE INPUT: true; the input reads as it did. -/
def runCallsSpec : ChangeSpec := { name := "runCalls", fn := fun _ => fun
  | [d] => { results := [.lit (.bool true)], args := [d] }
  | _ => none }
def runCallsRow : OpenClaim := { program := "ytodjpfpmhjdhbaagreatdoor", sum := "83a1b13d5fd669e3ed68feedc8dc6642e2ee74309437d4ec4d51510db3358e5b", func := "proofprograms/proofprogramslaw38.RunCalls", spec := "runCalls", unfollowed := true, recurses := true, named := ["proofprograms/code.ops"], plainKeys := false, apart := false, laid := [("proofprograms/code.ops", laid_proofprograms_code_ops)] }
def RunCallsSaid : Prop := runCallsRow.holds Tryz.pinned (OpenSpec.ofChange runCallsSpec)

/-- ITS FALSE NEIGHBOUR: 'it returns false'. Refute it at one input. -/
def runCallsWrong : ChangeSpec := { name := "runCalls", fn := fun _ => fun
  | [d] => { results := [.lit (.bool false)], args := [d] }
  | _ => none }
def RunCallsWrongFalsely : Prop := runCallsRow.holds Tryz.pinned (OpenSpec.ofChange runCallsWrong)

/-- 'proofprogramslaw39.MemoSame': WHATEVER THE INPUT: true; the input reads as it did. -/
def memoSameSpec : ChangeSpec := { name := "memoSame", fn := fun _ => fun
  | [d] => { results := [.lit (.bool true)], args := [d] }
  | _ => none }
def memoSameRow : OpenClaim := { program := "ytodjpfpmhjdhbaagreatdoor", sum := "83a1b13d5fd669e3ed68feedc8dc6642e2ee74309437d4ec4d51510db3358e5b", func := "proofprograms/proofprogramslaw39.MemoSame", spec := "memoSame", unfollowed := true, recurses := true, named := ["proofprograms/code.ops"], plainKeys := false, apart := false, laid := [("proofprograms/code.ops", laid_proofprograms_code_ops)] }
def MemoSameSaid : Prop := memoSameRow.holds Tryz.pinned (OpenSpec.ofChange memoSameSpec)

/-- ITS FALSE NEIGHBOUR: 'it returns false'. Refute it at one input. -/
def memoSameWrong : ChangeSpec := { name := "memoSame", fn := fun _ => fun
  | [d] => { results := [.lit (.bool false)], args := [d] }
  | _ => none }
def MemoSameWrongFalsely : Prop := memoSameRow.holds Tryz.pinned (OpenSpec.ofChange memoSameWrong)

/-- 'proofprogramslaw39.MemoTwice': WHATEVER THE INPUT: true; the input reads as it did. -/
def memoTwiceSpec : ChangeSpec := { name := "memoTwice", fn := fun _ => fun
  | [d] => { results := [.lit (.bool true)], args := [d] }
  | _ => none }
def memoTwiceRow : OpenClaim := { program := "ytodjpfpmhjdhbaagreatdoor", sum := "83a1b13d5fd669e3ed68feedc8dc6642e2ee74309437d4ec4d51510db3358e5b", func := "proofprograms/proofprogramslaw39.MemoTwice", spec := "memoTwice", unfollowed := true, recurses := true, named := ["proofprograms/code.ops"], plainKeys := false, apart := false, laid := [("proofprograms/code.ops", laid_proofprograms_code_ops)] }
def MemoTwiceSaid : Prop := memoTwiceRow.holds Tryz.pinned (OpenSpec.ofChange memoTwiceSpec)

/-- ITS FALSE NEIGHBOUR: 'it returns false'. Refute it at one input. -/
def memoTwiceWrong : ChangeSpec := { name := "memoTwice", fn := fun _ => fun
  | [d] => { results := [.lit (.bool false)], args := [d] }
  | _ => none }
def MemoTwiceWrongFalsely : Prop := memoTwiceRow.holds Tryz.pinned (OpenSpec.ofChange memoTwiceWrong)

/- THE SECOND FORM. 'bulk': how many values and letters a reading holds, each counted each time it is reached (what is shared counts as often as it is met; a slice's spare places count too). A statement '..UptoSaid' is the law's where the arguments, and the package variables that the reading takes, are together of bulk at most 1048576: NARROWER than '..Said'. Prove '..Said' where nothing that the law and all that it calls make is longer than what came in: it says more and counts as full. Else prove '..UptoSaid'. A law counts once. -/
mutual
def uptoBulk {H : Type} : DataW H → Nat
  | .lit (.string bytes) => bytes.length + 1
  | .lit _ => 1
  | .nil => 1
  | .ptr d => uptoBulk d + 1
  | .slice elems spare => uptoBulkAll elems + uptoBulkAll spare + 1
  | .agg parts => uptoBulkAll parts + 1
  | .iface _ d => uptoBulk d + 1
  | .map entries => uptoBulkEntries entries + 1
  | .held _ => 1
def uptoBulkAll {H : Type} : List (DataW H) → Nat
  | [] => 0
  | d :: r => uptoBulk d + uptoBulkAll r
def uptoBulkEntries {H : Type} : List (Lit × DataW H) → Nat
  | [] => 0
  | x :: r => uptoBulkEntry x + uptoBulkEntries r
def uptoBulkEntry {H : Type} : Lit × DataW H → Nat
  | (.string bytes, d) => bytes.length + uptoBulk d + 1
  | (_, d) => uptoBulk d + 1
 end
def uptoSmall : (H : Type) → List (DataW H) → Bool := fun _ ds => decide (uptoBulkAll ds ≤ 1048576)
def OpenSpec.upto (s : _root_.Go.ChangeSpec) : _root_.Go.OpenSpec := { _root_.Go.OpenSpec.ofChange s with cond := some uptoSmall }

/-- 'proofprogramslaw38.RunEval', WHERE WHAT IT READS IS OF BULK AT MOST 1048576: true; the input reads as it did. -/
def runEvalUptoRow : OpenClaim := { program := "ytodjpfpmhjdhbaagreatdoor", sum := "83a1b13d5fd669e3ed68feedc8dc6642e2ee74309437d4ec4d51510db3358e5b", func := "proofprograms/proofprogramslaw38.RunEval", spec := "runEval", unfollowed := true, recurses := true, named := ["proofprograms/code.ops"], plainKeys := false, apart := false, laid := [("proofprograms/code.ops", laid_proofprograms_code_ops)], narrowed := true }
def RunEvalUptoSaid : Prop := runEvalUptoRow.holds Tryz.pinned (OpenSpec.upto runEvalSpec)

/-- 'proofprogramslaw38.RunCalls', WHERE WHAT IT READS IS OF BULK AT MOST 1048576: true; the input reads as it did. -/
def runCallsUptoRow : OpenClaim := { program := "ytodjpfpmhjdhbaagreatdoor", sum := "83a1b13d5fd669e3ed68feedc8dc6642e2ee74309437d4ec4d51510db3358e5b", func := "proofprograms/proofprogramslaw38.RunCalls", spec := "runCalls", unfollowed := true, recurses := true, named := ["proofprograms/code.ops"], plainKeys := false, apart := false, laid := [("proofprograms/code.ops", laid_proofprograms_code_ops)], narrowed := true }
def RunCallsUptoSaid : Prop := runCallsUptoRow.holds Tryz.pinned (OpenSpec.upto runCallsSpec)

/-- 'proofprogramslaw39.MemoSame', WHERE WHAT IT READS IS OF BULK AT MOST 1048576: true; the input reads as it did. -/
def memoSameUptoRow : OpenClaim := { program := "ytodjpfpmhjdhbaagreatdoor", sum := "83a1b13d5fd669e3ed68feedc8dc6642e2ee74309437d4ec4d51510db3358e5b", func := "proofprograms/proofprogramslaw39.MemoSame", spec := "memoSame", unfollowed := true, recurses := true, named := ["proofprograms/code.ops"], plainKeys := false, apart := false, laid := [("proofprograms/code.ops", laid_proofprograms_code_ops)], narrowed := true }
def MemoSameUptoSaid : Prop := memoSameUptoRow.holds Tryz.pinned (OpenSpec.upto memoSameSpec)

/-- 'proofprogramslaw39.MemoTwice', WHERE WHAT IT READS IS OF BULK AT MOST 1048576: true; the input reads as it did. -/
def memoTwiceUptoRow : OpenClaim := { program := "ytodjpfpmhjdhbaagreatdoor", sum := "83a1b13d5fd669e3ed68feedc8dc6642e2ee74309437d4ec4d51510db3358e5b", func := "proofprograms/proofprogramslaw39.MemoTwice", spec := "memoTwice", unfollowed := true, recurses := true, named := ["proofprograms/code.ops"], plainKeys := false, apart := false, laid := [("proofprograms/code.ops", laid_proofprograms_code_ops)], narrowed := true }
def MemoTwiceUptoSaid : Prop := memoTwiceUptoRow.holds Tryz.pinned (OpenSpec.upto memoTwiceSpec)

end Rows
end Go.Proofs.YtodjpfpmhjdhbaaGreatDoor
