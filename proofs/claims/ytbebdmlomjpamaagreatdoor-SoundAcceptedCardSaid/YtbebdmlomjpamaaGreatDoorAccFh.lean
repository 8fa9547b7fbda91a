/- Closed facts of the row; no conditions. -/
import Derived.Test.YtbebdmlomjpamaaGreatDoorCards
import Derived.JoinedOf
import Derived.ProofKit
import Derived.OpenShut
import Derived.SevenTiedAt
import Derived.KernelRfl
set_option linter.all false
namespace Go.Proofs.YtbebdmlomjpamaaGreatDoor
open Go
set_option maxRecDepth 100000
def zP3:Tryz.pinned.checked.prog.funcNamed Rows.soundAcceptedRow.func=some 3:=by kernel_rfl
def zP4:Tryz.f3.isInstance Tryz.pinned.checked.prog Rows.soundAcceptedRow.origin Rows.soundAcceptedRow.targs:=of_decide_eq_true (by kernel_rfl)
def zP5:Tryz.f3.isWrapper Tryz.pinned.checked.prog Rows.soundAcceptedRow.wrapper Rows.soundAcceptedRow.mainSum:=by unfold Func.isWrapper;first|(rw[if_pos (by decide+kernel)];kernel_rfl)|(rw[if_neg (by decide+kernel)];exact⟨rfl,rfl⟩)
def zP6:Rows.soundAcceptedRow.wfByText (OpenSpec.ofChange Rows.soundAcceptedSpec)=true:=by kernel_rfl
end Go.Proofs.YtbebdmlomjpamaaGreatDoor
