/- Closed facts of the row; no conditions. -/
import Derived.Test.YtmihmecnjjmdgaaGreatDoorCards
import Derived.JoinedOf
import Derived.ProofKit
import Derived.OpenShut
import Derived.SevenTiedAt
import Derived.KernelRfl
set_option linter.all false
namespace Go.Proofs.YtmihmecnjjmdgaaGreatDoor
open Go
set_option maxRecDepth 100000
def C7:Tryz.pinned.checked.prog.funcNamed Rows.soundAgainRow.func=some 3:=by kernel_rfl
def D7:Tryz.f3.isInstance Tryz.pinned.checked.prog Rows.soundAgainRow.origin Rows.soundAgainRow.targs:=of_decide_eq_true (by kernel_rfl)
def E7:Tryz.f3.isWrapper Tryz.pinned.checked.prog Rows.soundAgainRow.wrapper Rows.soundAgainRow.mainSum:=by unfold Func.isWrapper;first|(rw[if_pos (by decide+kernel)];kernel_rfl)|(rw[if_neg (by decide+kernel)];exact⟨rfl,rfl⟩)
def F7:Rows.soundAgainRow.wfByText (OpenSpec.ofChange Rows.soundAgainSpec)=true:=by kernel_rfl
end Go.Proofs.YtmihmecnjjmdgaaGreatDoor
