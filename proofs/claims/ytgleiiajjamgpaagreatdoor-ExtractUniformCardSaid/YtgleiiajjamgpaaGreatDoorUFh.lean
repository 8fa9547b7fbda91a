/- Closed facts of the row; no conditions. -/
import Derived.Test.YtgleiiajjamgpaaGreatDoorCards
import Derived.JoinedOf
import Derived.ProofKit
import Derived.OpenShut
import Derived.SevenTiedAt
import Derived.KernelRfl
set_option linter.all false
namespace Go.Proofs.YtgleiiajjamgpaaGreatDoor
open Go
set_option maxRecDepth 100000
theorem zCm:Tryz.pinned.checked.prog.funcNamed Rows.extractUniformRow.func=some 3:=by kernel_rfl
theorem zCn:Tryz.f3.isInstance Tryz.pinned.checked.prog Rows.extractUniformRow.origin Rows.extractUniformRow.targs:=of_decide_eq_true (by kernel_rfl)
theorem zCo:Tryz.f3.isWrapper Tryz.pinned.checked.prog Rows.extractUniformRow.wrapper Rows.extractUniformRow.mainSum:=by unfold Func.isWrapper;first|(rw [if_pos (by decide +kernel)];kernel_rfl)|(rw [if_neg (by decide +kernel)];exact⟨rfl,rfl⟩)
theorem zCp:Rows.extractUniformRow.wfByText (OpenSpec.ofChange Rows.extractUniformSpec)=true:=by kernel_rfl
end Go.Proofs.YtgleiiajjamgpaaGreatDoor
