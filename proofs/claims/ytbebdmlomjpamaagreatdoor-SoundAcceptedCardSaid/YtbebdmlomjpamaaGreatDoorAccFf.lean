/- Closed facts of the row; no conditions. -/
import Derived.Test.YtbebdmlomjpamaaGreatDoorCards
import Derived.JoinedOf
import Derived.ProofKit
import Derived.OpenShut
import Derived.SevenTiedAt
import Derived.KernelRfl
set_option linter.all false
namespace Go.Proofs.YtbebdmlomjpamaaGreatDoor
open Go
set_option maxRecDepth 100000
def jf0:(Rows.soundAcceptedRow.wf (OpenSpec.ofChange Rows.soundAcceptedSpec))=true:=by kernel_rfl
def jf1:(laidOutB Tryz.pinned.checked.prog)=true:=by kernel_rfl
def jf2:(mapsRowed Tryz.pinned.checked.prog)=true:=by kernel_rfl
def jf3:(Tryz.f3.params.all (Tryz.pinned.checked.prog.readableRec ·))=true:=by kernel_rfl
def jf4:(namedTie Tryz.pinned.checked.prog Rows.soundAcceptedRow.named Rows.soundAcceptedSpec.vars)=true:=by kernel_rfl
def jf5:((Rows.soundAcceptedRow.stops==[]))=true:=by kernel_rfl
def jf6:((Tryz.pinned.checked.prog.stops==[]))=true:=by kernel_rfl
def jf7:((Rows.soundAcceptedRow.knobs==[]))=true:=by kernel_rfl
def jf8:((Tryz.pinned.checked.prog.stopKnobs==[]))=true:=by kernel_rfl
def jf9:((Rows.soundAcceptedRow.inPlace==Tryz.pinned.checked.prog.inPlace 3))=true:=by kernel_rfl
def jXj:((Rows.soundAcceptedRow.unfollowed==Tryz.pinned.checked.prog.unfollowed 3))=true:=by kernel_rfl
def jXk:((Rows.soundAcceptedRow.recurses==Tryz.pinned.checked.prog.recurses 3))=true:=by kernel_rfl
end Go.Proofs.YtbebdmlomjpamaaGreatDoor
