/- Closed facts of the row; no conditions. -/
import Derived.Test.YtmihmecnjjmdgaaGreatDoorCards
import Derived.JoinedOf
import Derived.ProofKit
import Derived.OpenShut
import Derived.SevenTiedAt
import Derived.KernelRfl
set_option linter.all false
namespace Go.Proofs.YtmihmecnjjmdgaaGreatDoor
open Go
set_option maxRecDepth 100000
def K6:(Rows.soundAgainRow.wf (OpenSpec.ofChange Rows.soundAgainSpec))=true:=by kernel_rfl
def L6:(laidOutB Tryz.pinned.checked.prog)=true:=by kernel_rfl
def M6:(mapsRowed Tryz.pinned.checked.prog)=true:=by kernel_rfl
def N6:(Tryz.f3.params.all (Tryz.pinned.checked.prog.readableRec ·))=true:=by kernel_rfl
def O6:(namedTie Tryz.pinned.checked.prog Rows.soundAgainRow.named Rows.soundAgainSpec.vars)=true:=by kernel_rfl
def P6:((Rows.soundAgainRow.stops==[]))=true:=by kernel_rfl
def Q6:((Tryz.pinned.checked.prog.stops==[]))=true:=by kernel_rfl
def R6:((Rows.soundAgainRow.knobs==[]))=true:=by kernel_rfl
def S6:((Tryz.pinned.checked.prog.stopKnobs==[]))=true:=by kernel_rfl
def T6:((Rows.soundAgainRow.inPlace==Tryz.pinned.checked.prog.inPlace 3))=true:=by kernel_rfl
def U6:((Rows.soundAgainRow.unfollowed==Tryz.pinned.checked.prog.unfollowed 3))=true:=by kernel_rfl
def V6:((Rows.soundAgainRow.recurses==Tryz.pinned.checked.prog.recurses 3))=true:=by kernel_rfl
end Go.Proofs.YtmihmecnjjmdgaaGreatDoor
