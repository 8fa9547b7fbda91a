/- Closed facts of the row; no conditions. -/
import Derived.Test.YtbebdmlomjpamaaGreatDoorCards
import Derived.JoinedOf
import Derived.ProofKit
import Derived.OpenShut
import Derived.SevenTiedAt
import Derived.KernelRfl
set_option linter.all false
namespace Go.Proofs.YtbebdmlomjpamaaGreatDoor
open Go
set_option maxRecDepth 100000
def jXl:((Rows.soundAcceptedRow.named==Tryz.pinned.checked.prog.varsNamed 3))=true:=by kernel_rfl
def jXm:((Rows.soundAcceptedRow.maps==(Tryz.f3.params.toList++Rows.soundAcceptedSpec.plain.varTypes Tryz.pinned.checked.prog).any (Tryz.pinned.checked.prog.mapsRec ·)))=true:=by kernel_rfl
def jXn:((Rows.soundAcceptedRow.ifaces==(Tryz.f3.params.toList++Rows.soundAcceptedSpec.plain.varTypes Tryz.pinned.checked.prog).any (Tryz.pinned.checked.prog.ifacesRec ·)))=true:=by kernel_rfl
def jXo:((Rows.soundAcceptedRow.mapsOut==Tryz.pinned.checked.prog.mapsAmong Tryz.f3.resultTypes.toList))=true:=by kernel_rfl
def jXp:((Rows.soundAcceptedRow.loops==(Tryz.f3.params.toList++Rows.soundAcceptedSpec.plain.varTypes Tryz.pinned.checked.prog).any (Tryz.pinned.checked.prog.loopsFrom ·)))=true:=by kernel_rfl
def jXq:((Rows.soundAcceptedRow.wideKeys==(Tryz.f3.params.toList++Rows.soundAcceptedSpec.plain.varTypes Tryz.pinned.checked.prog++Tryz.f3.resultTypes.toList).any (Tryz.pinned.checked.prog.wideKeysFrom ·)))=true:=by kernel_rfl
def jXr:(Rows.soundAcceptedSpec.vars.all (Tryz.pinned.checked.prog.varReadable ·))=true:=by kernel_rfl
def jXs:(Tryz.f3.resultTypes.all (λt=>Tryz.pinned.checked.prog.readableRec t&&decide (t<Tryz.pinned.checked.prog.types.size)))=true:=by kernel_rfl
def jXt:((Rows.soundAcceptedRow.ifacesOut==Tryz.f3.resultTypes.toList.any (Tryz.pinned.checked.prog.ifacesRec ·)))=true:=by kernel_rfl
def jXu:((Rows.soundAcceptedRow.loopsOut==Tryz.f3.resultTypes.toList.any (Tryz.pinned.checked.prog.loopsFrom ·)))=true:=by kernel_rfl
def jXv:((Rows.soundAcceptedRow.plainKeys==Tryz.pinned.checked.prog.plainKeys))=true:=by kernel_rfl
def jXw:(Rows.soundAcceptedRow.shortTexts.isNone)=true:=by kernel_rfl
def jXx:(Tryz.pinned.checked.prog.stopsHeard)=true:=by kernel_rfl
def jXy:(Tryz.pinned.checked.prog.mayEnter)=true:=by kernel_rfl
def jXz:((Rows.soundAcceptedRow.lifted==Tryz.pinned.checked.prog.liftsFinal))=true:=by kernel_rfl
def jX0:((Tryz.pinned.checked.prog.make==some Rows.soundAcceptedRow.make))=true:=by kernel_rfl
def jX1:((Rows.soundAcceptedRow.kinds==(if Rows.soundAcceptedRow.domain.isEmpty then []else Tryz.f3.params.toList.map λt=>match Tryz.pinned.checked.prog.underlying t with|some (.int k)=>some k|_=>none)))=true:=by kernel_rfl
def jX2:((Rows.soundAcceptedRow.pinned==Rows.soundAcceptedRow.pinnedBy))=true:=by kernel_rfl
def jX3:((Rows.soundAcceptedRow.veiled==(Tryz.f3.params.toList++Rows.soundAcceptedSpec.plain.varTypes Tryz.pinned.checked.prog++Tryz.f3.resultTypes.toList).any (Tryz.pinned.checked.prog.veiledRec ·)))=true:=by kernel_rfl
def jX4:(Rows.soundAcceptedRow.veiledFits Tryz.pinned.checked.prog Tryz.f3.params.toList (Tryz.f3.params.toList++Rows.soundAcceptedSpec.plain.varTypes Tryz.pinned.checked.prog++Tryz.f3.resultTypes.toList))=true:=by kernel_rfl
end Go.Proofs.YtbebdmlomjpamaaGreatDoor
