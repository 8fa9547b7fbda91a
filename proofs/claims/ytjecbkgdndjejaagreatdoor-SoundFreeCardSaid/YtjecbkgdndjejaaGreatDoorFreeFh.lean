/- Closed facts of the row; no conditions. -/
import Derived.Test.YtjecbkgdndjejaaGreatDoorCards
import Derived.JoinedOf
import Derived.ProofKit
import Derived.OpenShut
import Derived.SevenTiedAt
import Derived.KernelRfl
set_option linter.all false
namespace Go.Proofs.YtjecbkgdndjejaaGreatDoor
open Go
set_option maxRecDepth 100000
def d7:Tryz.pinned.checked.prog.funcNamed Rows.soundFreeRow.func=some 3:=by kernel_rfl
def l7:Tryz.f3.isInstance Tryz.pinned.checked.prog Rows.soundFreeRow.origin Rows.soundFreeRow.targs:=of_decide_eq_true (by kernel_rfl)
def m7:Tryz.f3.isWrapper Tryz.pinned.checked.prog Rows.soundFreeRow.wrapper Rows.soundFreeRow.mainSum:=by unfold Func.isWrapper;first|(rw[if_pos (by decide+kernel)];kernel_rfl)|(rw[if_neg (by decide+kernel)];exact⟨rfl,rfl⟩)
def r7:Rows.soundFreeRow.wfByText (OpenSpec.ofChange Rows.soundFreeSpec)=true:=by kernel_rfl
end Go.Proofs.YtjecbkgdndjejaaGreatDoor
