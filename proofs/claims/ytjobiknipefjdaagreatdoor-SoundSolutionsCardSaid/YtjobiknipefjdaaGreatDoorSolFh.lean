/- Closed facts of the row; no conditions. -/
import Derived.Test.YtjobiknipefjdaaGreatDoorCards
import Derived.JoinedOf
import Derived.ProofKit
import Derived.OpenShut
import Derived.SevenTiedAt
import Derived.KernelRfl
set_option linter.all false
namespace Go.Proofs.YtjobiknipefjdaaGreatDoor
open Go
set_option maxRecDepth 100000
def D6:Tryz.pinned.checked.prog.funcNamed Rows.soundSolutionsRow.func=some 3:=by kernel_rfl
def E6:Tryz.f3.isInstance Tryz.pinned.checked.prog Rows.soundSolutionsRow.origin Rows.soundSolutionsRow.targs:=of_decide_eq_true (by kernel_rfl)
def F6:Tryz.f3.isWrapper Tryz.pinned.checked.prog Rows.soundSolutionsRow.wrapper Rows.soundSolutionsRow.mainSum:=by unfold Func.isWrapper;first|(rw[if_pos (by decide+kernel)];kernel_rfl)|(rw[if_neg (by decide+kernel)];exact⟨rfl,rfl⟩)
def G6:Rows.soundSolutionsRow.wfByText (OpenSpec.ofChange Rows.soundSolutionsSpec)=true:=by kernel_rfl
end Go.Proofs.YtjobiknipefjdaaGreatDoor
