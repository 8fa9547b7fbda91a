/- Closed facts of the row; no conditions. -/
import Derived.Test.YtmcockinhpiomaaGreatDoorCards
import Derived.JoinedOf
import Derived.ProofKit
import Derived.OpenShut
import Derived.SevenTiedAt
import Derived.KernelRfl
set_option linter.all false
namespace Go.Proofs.YtmcockinhpiomaaGreatDoor
open Go
set_option maxRecDepth 100000
theorem zBx:Tryz.pinned.checked.prog.funcNamed Rows.extractUsesRow.func=some 3:=by kernel_rfl
theorem zBy:Tryz.f3.isInstance Tryz.pinned.checked.prog Rows.extractUsesRow.origin Rows.extractUsesRow.targs:=of_decide_eq_true (by kernel_rfl)
theorem zBz:Tryz.f3.isWrapper Tryz.pinned.checked.prog Rows.extractUsesRow.wrapper Rows.extractUsesRow.mainSum:=by unfold Func.isWrapper;first|(rw [if_pos (by decide +kernel)];kernel_rfl)|(rw [if_neg (by decide +kernel)];exact⟨rfl,rfl⟩)
theorem zB0:Rows.extractUsesRow.wfByText (OpenSpec.ofChange Rows.extractUsesSpec)=true:=by kernel_rfl
end Go.Proofs.YtmcockinhpiomaaGreatDoor
