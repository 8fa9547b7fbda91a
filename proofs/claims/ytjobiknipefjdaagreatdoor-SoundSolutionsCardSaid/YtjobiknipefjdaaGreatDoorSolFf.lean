/- Closed facts of the row; no conditions. -/
import Derived.Test.YtjobiknipefjdaaGreatDoorCards
import Derived.JoinedOf
import Derived.ProofKit
import Derived.OpenShut
import Derived.SevenTiedAt
import Derived.KernelRfl
set_option linter.all false
namespace Go.Proofs.YtjobiknipefjdaaGreatDoor
open Go
set_option maxRecDepth 100000
def C5:(Rows.soundSolutionsRow.wf (OpenSpec.ofChange Rows.soundSolutionsSpec))=true:=by kernel_rfl
def D5:(laidOutB Tryz.pinned.checked.prog)=true:=by kernel_rfl
def F5:(mapsRowed Tryz.pinned.checked.prog)=true:=by kernel_rfl
def G5:(Tryz.f3.params.all (Tryz.pinned.checked.prog.readableRec ·))=true:=by kernel_rfl
def I5:(namedTie Tryz.pinned.checked.prog Rows.soundSolutionsRow.named Rows.soundSolutionsSpec.vars)=true:=by kernel_rfl
def J5:((Rows.soundSolutionsRow.stops==[]))=true:=by kernel_rfl
def K5:((Tryz.pinned.checked.prog.stops==[]))=true:=by kernel_rfl
def L5:((Rows.soundSolutionsRow.knobs==[]))=true:=by kernel_rfl
def M5:((Tryz.pinned.checked.prog.stopKnobs==[]))=true:=by kernel_rfl
def N5:((Rows.soundSolutionsRow.inPlace==Tryz.pinned.checked.prog.inPlace 3))=true:=by kernel_rfl
def O5:((Rows.soundSolutionsRow.unfollowed==Tryz.pinned.checked.prog.unfollowed 3))=true:=by kernel_rfl
def Q5:((Rows.soundSolutionsRow.recurses==Tryz.pinned.checked.prog.recurses 3))=true:=by kernel_rfl
end Go.Proofs.YtjobiknipefjdaaGreatDoor
