/- Closed facts of the row; no conditions. -/
import Derived.Test.YtjobiknipefjdaaGreatDoorCards
import Derived.JoinedOf
import Derived.ProofKit
import Derived.OpenShut
import Derived.SevenTiedAt
import Derived.KernelRfl
set_option linter.all false
namespace Go.Proofs.YtjobiknipefjdaaGreatDoor
open Go
set_option maxRecDepth 100000
def R5:((Rows.soundSolutionsRow.named==Tryz.pinned.checked.prog.varsNamed 3))=true:=by kernel_rfl
def S5:((Rows.soundSolutionsRow.maps==(Tryz.f3.params.toList++Rows.soundSolutionsSpec.plain.varTypes Tryz.pinned.checked.prog).any (Tryz.pinned.checked.prog.mapsRec ·)))=true:=by kernel_rfl
def T5:((Rows.soundSolutionsRow.ifaces==(Tryz.f3.params.toList++Rows.soundSolutionsSpec.plain.varTypes Tryz.pinned.checked.prog).any (Tryz.pinned.checked.prog.ifacesRec ·)))=true:=by kernel_rfl
def U5:((Rows.soundSolutionsRow.mapsOut==Tryz.pinned.checked.prog.mapsAmong Tryz.f3.resultTypes.toList))=true:=by kernel_rfl
def V5:((Rows.soundSolutionsRow.loops==(Tryz.f3.params.toList++Rows.soundSolutionsSpec.plain.varTypes Tryz.pinned.checked.prog).any (Tryz.pinned.checked.prog.loopsFrom ·)))=true:=by kernel_rfl
def X5:((Rows.soundSolutionsRow.wideKeys==(Tryz.f3.params.toList++Rows.soundSolutionsSpec.plain.varTypes Tryz.pinned.checked.prog++Tryz.f3.resultTypes.toList).any (Tryz.pinned.checked.prog.wideKeysFrom ·)))=true:=by kernel_rfl
def Y5:(Rows.soundSolutionsSpec.vars.all (Tryz.pinned.checked.prog.varReadable ·))=true:=by kernel_rfl
def Z5:(Tryz.f3.resultTypes.all (λt=>Tryz.pinned.checked.prog.readableRec t&&decide (t<Tryz.pinned.checked.prog.types.size)))=true:=by kernel_rfl
def z6:((Rows.soundSolutionsRow.ifacesOut==Tryz.f3.resultTypes.toList.any (Tryz.pinned.checked.prog.ifacesRec ·)))=true:=by kernel_rfl
def j6:((Rows.soundSolutionsRow.loopsOut==Tryz.f3.resultTypes.toList.any (Tryz.pinned.checked.prog.loopsFrom ·)))=true:=by kernel_rfl
def v6:((Rows.soundSolutionsRow.plainKeys==Tryz.pinned.checked.prog.plainKeys))=true:=by kernel_rfl
def y6:(Rows.soundSolutionsRow.shortTexts.isNone)=true:=by kernel_rfl
def d6:(Tryz.pinned.checked.prog.stopsHeard)=true:=by kernel_rfl
def m6:(Tryz.pinned.checked.prog.mayEnter)=true:=by kernel_rfl
def r6:((Rows.soundSolutionsRow.lifted==Tryz.pinned.checked.prog.liftsFinal))=true:=by kernel_rfl
def s6:((Tryz.pinned.checked.prog.make==some Rows.soundSolutionsRow.make))=true:=by kernel_rfl
def i6:((Rows.soundSolutionsRow.kinds==(if Rows.soundSolutionsRow.domain.isEmpty then []else Tryz.f3.params.toList.map λt=>match Tryz.pinned.checked.prog.underlying t with|some (.int k)=>some k|_=>none)))=true:=by kernel_rfl
def A6:((Rows.soundSolutionsRow.pinned==Rows.soundSolutionsRow.pinnedBy))=true:=by kernel_rfl
def B6:((Rows.soundSolutionsRow.veiled==(Tryz.f3.params.toList++Rows.soundSolutionsSpec.plain.varTypes Tryz.pinned.checked.prog++Tryz.f3.resultTypes.toList).any (Tryz.pinned.checked.prog.veiledRec ·)))=true:=by kernel_rfl
def C6:(Rows.soundSolutionsRow.veiledFits Tryz.pinned.checked.prog Tryz.f3.params.toList (Tryz.f3.params.toList++Rows.soundSolutionsSpec.plain.varTypes Tryz.pinned.checked.prog++Tryz.f3.resultTypes.toList))=true:=by kernel_rfl
end Go.Proofs.YtjobiknipefjdaaGreatDoor
