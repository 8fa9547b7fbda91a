/- Closed facts of the row; no conditions. -/
import Derived.Test.YtjecbkgdndjejaaGreatDoorCards
import Derived.JoinedOf
import Derived.ProofKit
import Derived.OpenShut
import Derived.SevenTiedAt
import Derived.KernelRfl
set_option linter.all false
namespace Go.Proofs.YtjecbkgdndjejaaGreatDoor
open Go
set_option maxRecDepth 100000
def A6:(Rows.soundFreeRow.wf (OpenSpec.ofChange Rows.soundFreeSpec))=true:=by kernel_rfl
def B6:(laidOutB Tryz.pinned.checked.prog)=true:=by kernel_rfl
def C6:(mapsRowed Tryz.pinned.checked.prog)=true:=by kernel_rfl
def D6:(Tryz.f3.params.all (Tryz.pinned.checked.prog.readableRec ·))=true:=by kernel_rfl
def E6:(namedTie Tryz.pinned.checked.prog Rows.soundFreeRow.named Rows.soundFreeSpec.vars)=true:=by kernel_rfl
def F6:((Rows.soundFreeRow.stops==[]))=true:=by kernel_rfl
def G6:((Tryz.pinned.checked.prog.stops==[]))=true:=by kernel_rfl
def I6:((Rows.soundFreeRow.knobs==[]))=true:=by kernel_rfl
def J6:((Tryz.pinned.checked.prog.stopKnobs==[]))=true:=by kernel_rfl
def K6:((Rows.soundFreeRow.inPlace==Tryz.pinned.checked.prog.inPlace 3))=true:=by kernel_rfl
def L6:((Rows.soundFreeRow.unfollowed==Tryz.pinned.checked.prog.unfollowed 3))=true:=by kernel_rfl
def M6:((Rows.soundFreeRow.recurses==Tryz.pinned.checked.prog.recurses 3))=true:=by kernel_rfl
end Go.Proofs.YtjecbkgdndjejaaGreatDoor
