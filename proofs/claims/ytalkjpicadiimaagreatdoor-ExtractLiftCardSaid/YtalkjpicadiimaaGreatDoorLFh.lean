/- Closed facts of the row; no conditions. -/
import Derived.Test.YtalkjpicadiimaaGreatDoorCards
import Derived.JoinedOf
import Derived.ProofKit
import Derived.OpenShut
import Derived.SevenTiedAt
import Derived.KernelRfl
set_option linter.all false
namespace Go.Proofs.YtalkjpicadiimaaGreatDoor
open Go
set_option maxRecDepth 100000
theorem zDv:Tryz.pinned.checked.prog.funcNamed Rows.extractLiftRow.func=some 3:=by kernel_rfl
theorem zDw:Tryz.f3.isInstance Tryz.pinned.checked.prog Rows.extractLiftRow.origin Rows.extractLiftRow.targs:=of_decide_eq_true (by kernel_rfl)
theorem zDx:Tryz.f3.isWrapper Tryz.pinned.checked.prog Rows.extractLiftRow.wrapper Rows.extractLiftRow.mainSum:=by unfold Func.isWrapper;first|(rw [if_pos (by decide +kernel)];kernel_rfl)|(rw [if_neg (by decide +kernel)];exact⟨rfl,rfl⟩)
theorem zDy:Rows.extractLiftRow.wfByText (OpenSpec.ofChange Rows.extractLiftSpec)=true:=by kernel_rfl
end Go.Proofs.YtalkjpicadiimaaGreatDoor
