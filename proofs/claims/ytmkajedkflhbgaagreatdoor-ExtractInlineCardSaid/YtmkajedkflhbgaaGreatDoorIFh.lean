/- Closed facts of the row; no conditions. -/
import Derived.Test.YtmkajedkflhbgaaGreatDoorCards
import Derived.JoinedOf
import Derived.ProofKit
import Derived.OpenShut
import Derived.SevenTiedAt
import Derived.KernelRfl
set_option linter.all false
namespace Go.Proofs.YtmkajedkflhbgaaGreatDoor
open Go
set_option maxRecDepth 100000
theorem lw:Tryz.pinned.checked.prog.funcNamed Rows.extractInlineRow.func=some 3:=by kernel_rfl
theorem mw:Tryz.f3.isInstance Tryz.pinned.checked.prog Rows.extractInlineRow.origin Rows.extractInlineRow.targs:=of_decide_eq_true (by kernel_rfl)
theorem pw:Tryz.f3.isWrapper Tryz.pinned.checked.prog Rows.extractInlineRow.wrapper Rows.extractInlineRow.mainSum:=by unfold Func.isWrapper;first|(rw [if_pos (by decide +kernel)];kernel_rfl)|(rw [if_neg (by decide +kernel)];exact⟨rfl,rfl⟩)
theorem tw:Rows.extractInlineRow.wfByText (OpenSpec.ofChange Rows.extractInlineSpec)=true:=by kernel_rfl
end Go.Proofs.YtmkajedkflhbgaaGreatDoor
