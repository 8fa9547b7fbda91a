/- Closed facts of the row; no conditions. -/
import Derived.Test.YtjecbkgdndjejaaGreatDoorCards
import Derived.JoinedOf
import Derived.ProofKit
import Derived.OpenShut
import Derived.SevenTiedAt
import Derived.KernelRfl
set_option linter.all false
namespace Go.Proofs.YtjecbkgdndjejaaGreatDoor
open Go
set_option maxRecDepth 100000
def N6:((Rows.soundFreeRow.named==Tryz.pinned.checked.prog.varsNamed 3))=true:=by kernel_rfl
def O6:((Rows.soundFreeRow.maps==(Tryz.f3.params.toList++Rows.soundFreeSpec.plain.varTypes Tryz.pinned.checked.prog).any (Tryz.pinned.checked.prog.mapsRec ·)))=true:=by kernel_rfl
def P6:((Rows.soundFreeRow.ifaces==(Tryz.f3.params.toList++Rows.soundFreeSpec.plain.varTypes Tryz.pinned.checked.prog).any (Tryz.pinned.checked.prog.ifacesRec ·)))=true:=by kernel_rfl
def Q6:((Rows.soundFreeRow.mapsOut==Tryz.pinned.checked.prog.mapsAmong Tryz.f3.resultTypes.toList))=true:=by kernel_rfl
def R6:((Rows.soundFreeRow.loops==(Tryz.f3.params.toList++Rows.soundFreeSpec.plain.varTypes Tryz.pinned.checked.prog).any (Tryz.pinned.checked.prog.loopsFrom ·)))=true:=by kernel_rfl
def S6:((Rows.soundFreeRow.wideKeys==(Tryz.f3.params.toList++Rows.soundFreeSpec.plain.varTypes Tryz.pinned.checked.prog++Tryz.f3.resultTypes.toList).any (Tryz.pinned.checked.prog.wideKeysFrom ·)))=true:=by kernel_rfl
def T6:(Rows.soundFreeSpec.vars.all (Tryz.pinned.checked.prog.varReadable ·))=true:=by kernel_rfl
def U6:(Tryz.f3.resultTypes.all (λt=>Tryz.pinned.checked.prog.readableRec t&&decide (t<Tryz.pinned.checked.prog.types.size)))=true:=by kernel_rfl
def V6:((Rows.soundFreeRow.ifacesOut==Tryz.f3.resultTypes.toList.any (Tryz.pinned.checked.prog.ifacesRec ·)))=true:=by kernel_rfl
def W6:((Rows.soundFreeRow.loopsOut==Tryz.f3.resultTypes.toList.any (Tryz.pinned.checked.prog.loopsFrom ·)))=true:=by kernel_rfl
def X6:((Rows.soundFreeRow.plainKeys==Tryz.pinned.checked.prog.plainKeys))=true:=by kernel_rfl
def Y6:(Rows.soundFreeRow.shortTexts.isNone)=true:=by kernel_rfl
def Z6:(Tryz.pinned.checked.prog.stopsHeard)=true:=by kernel_rfl
def z7:(Tryz.pinned.checked.prog.mayEnter)=true:=by kernel_rfl
def j7:((Rows.soundFreeRow.lifted==Tryz.pinned.checked.prog.liftsFinal))=true:=by kernel_rfl
def v7:((Tryz.pinned.checked.prog.make==some Rows.soundFreeRow.make))=true:=by kernel_rfl
def k7:((Rows.soundFreeRow.kinds==(if Rows.soundFreeRow.domain.isEmpty then []else Tryz.f3.params.toList.map λt=>match Tryz.pinned.checked.prog.underlying t with|some (.int k)=>some k|_=>none)))=true:=by kernel_rfl
def y7:((Rows.soundFreeRow.pinned==Rows.soundFreeRow.pinnedBy))=true:=by kernel_rfl
def u7:((Rows.soundFreeRow.veiled==(Tryz.f3.params.toList++Rows.soundFreeSpec.plain.varTypes Tryz.pinned.checked.prog++Tryz.f3.resultTypes.toList).any (Tryz.pinned.checked.prog.veiledRec ·)))=true:=by kernel_rfl
def b7:(Rows.soundFreeRow.veiledFits Tryz.pinned.checked.prog Tryz.f3.params.toList (Tryz.f3.params.toList++Rows.soundFreeSpec.plain.varTypes Tryz.pinned.checked.prog++Tryz.f3.resultTypes.toList))=true:=by kernel_rfl
end Go.Proofs.YtjecbkgdndjejaaGreatDoor
