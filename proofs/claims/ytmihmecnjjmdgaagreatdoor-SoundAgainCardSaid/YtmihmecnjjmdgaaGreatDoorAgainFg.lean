/- Closed facts of the row; no conditions. -/
import Derived.Test.YtmihmecnjjmdgaaGreatDoorCards
import Derived.JoinedOf
import Derived.ProofKit
import Derived.OpenShut
import Derived.SevenTiedAt
import Derived.KernelRfl
set_option linter.all false
namespace Go.Proofs.YtmihmecnjjmdgaaGreatDoor
open Go
set_option maxRecDepth 100000
def W6:((Rows.soundAgainRow.named==Tryz.pinned.checked.prog.varsNamed 3))=true:=by kernel_rfl
def X6:((Rows.soundAgainRow.maps==(Tryz.f3.params.toList++Rows.soundAgainSpec.plain.varTypes Tryz.pinned.checked.prog).any (Tryz.pinned.checked.prog.mapsRec ·)))=true:=by kernel_rfl
def Y6:((Rows.soundAgainRow.ifaces==(Tryz.f3.params.toList++Rows.soundAgainSpec.plain.varTypes Tryz.pinned.checked.prog).any (Tryz.pinned.checked.prog.ifacesRec ·)))=true:=by kernel_rfl
def Z6:((Rows.soundAgainRow.mapsOut==Tryz.pinned.checked.prog.mapsAmong Tryz.f3.resultTypes.toList))=true:=by kernel_rfl
def z7:((Rows.soundAgainRow.loops==(Tryz.f3.params.toList++Rows.soundAgainSpec.plain.varTypes Tryz.pinned.checked.prog).any (Tryz.pinned.checked.prog.loopsFrom ·)))=true:=by kernel_rfl
def j7:((Rows.soundAgainRow.wideKeys==(Tryz.f3.params.toList++Rows.soundAgainSpec.plain.varTypes Tryz.pinned.checked.prog++Tryz.f3.resultTypes.toList).any (Tryz.pinned.checked.prog.wideKeysFrom ·)))=true:=by kernel_rfl
def v7:(Rows.soundAgainSpec.vars.all (Tryz.pinned.checked.prog.varReadable ·))=true:=by kernel_rfl
def k7:(Tryz.f3.resultTypes.all (λt=>Tryz.pinned.checked.prog.readableRec t&&decide (t<Tryz.pinned.checked.prog.types.size)))=true:=by kernel_rfl
def y7:((Rows.soundAgainRow.ifacesOut==Tryz.f3.resultTypes.toList.any (Tryz.pinned.checked.prog.ifacesRec ·)))=true:=by kernel_rfl
def u7:((Rows.soundAgainRow.loopsOut==Tryz.f3.resultTypes.toList.any (Tryz.pinned.checked.prog.loopsFrom ·)))=true:=by kernel_rfl
def b7:((Rows.soundAgainRow.plainKeys==Tryz.pinned.checked.prog.plainKeys))=true:=by kernel_rfl
def d7:(Rows.soundAgainRow.shortTexts.isNone)=true:=by kernel_rfl
def l7:(Tryz.pinned.checked.prog.stopsHeard)=true:=by kernel_rfl
def m7:(Tryz.pinned.checked.prog.mayEnter)=true:=by kernel_rfl
def r7:((Rows.soundAgainRow.lifted==Tryz.pinned.checked.prog.liftsFinal))=true:=by kernel_rfl
def s7:((Tryz.pinned.checked.prog.make==some Rows.soundAgainRow.make))=true:=by kernel_rfl
def c7:((Rows.soundAgainRow.kinds==(if Rows.soundAgainRow.domain.isEmpty then []else Tryz.f3.params.toList.map λt=>match Tryz.pinned.checked.prog.underlying t with|some (.int k)=>some k|_=>none)))=true:=by kernel_rfl
def i7:((Rows.soundAgainRow.pinned==Rows.soundAgainRow.pinnedBy))=true:=by kernel_rfl
def A7:((Rows.soundAgainRow.veiled==(Tryz.f3.params.toList++Rows.soundAgainSpec.plain.varTypes Tryz.pinned.checked.prog++Tryz.f3.resultTypes.toList).any (Tryz.pinned.checked.prog.veiledRec ·)))=true:=by kernel_rfl
def B7:(Rows.soundAgainRow.veiledFits Tryz.pinned.checked.prog Tryz.f3.params.toList (Tryz.f3.params.toList++Rows.soundAgainSpec.plain.varTypes Tryz.pinned.checked.prog++Tryz.f3.resultTypes.toList))=true:=by kernel_rfl
end Go.Proofs.YtmihmecnjjmdgaaGreatDoor
