/- Closed facts of the row; no conditions. -/
import Derived.Test.YtnkoaepelgbhfaaGreatDoorCards
import Derived.JoinedOf
import Derived.ProofKit
import Derived.OpenShut
import Derived.SevenTiedAt
import Derived.KernelRfl
set_option linter.all false
namespace Go.Proofs.YtnkoaepelgbhfaaGreatDoor
open Go
set_option maxRecDepth 100000
theorem mu:Tryz.pinned.checked.prog.funcNamed Rows.extractPutRow.func=some 3:=by kernel_rfl
theorem nu:Tryz.f3.isInstance Tryz.pinned.checked.prog Rows.extractPutRow.origin Rows.extractPutRow.targs:=of_decide_eq_true (by kernel_rfl)
theorem ru:Tryz.f3.isWrapper Tryz.pinned.checked.prog Rows.extractPutRow.wrapper Rows.extractPutRow.mainSum:=by unfold Func.isWrapper;first|(rw [if_pos (by decide +kernel)];kernel_rfl)|(rw [if_neg (by decide +kernel)];exact⟨rfl,rfl⟩)
theorem tu:Rows.extractPutRow.wfByText (OpenSpec.ofChange Rows.extractPutSpec)=true:=by kernel_rfl
end Go.Proofs.YtnkoaepelgbhfaaGreatDoor
