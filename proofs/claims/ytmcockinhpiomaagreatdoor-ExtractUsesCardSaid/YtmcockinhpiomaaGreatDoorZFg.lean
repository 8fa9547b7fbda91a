/- Closed facts of the row; no conditions. -/
import Derived.Test.YtmcockinhpiomaaGreatDoorCards
import Derived.JoinedOf
import Derived.ProofKit
import Derived.OpenShut
import Derived.SevenTiedAt
import Derived.KernelRfl
set_option linter.all false
namespace Go.Proofs.YtmcockinhpiomaaGreatDoor
open Go
set_option maxRecDepth 100000
theorem zLr:((Rows.extractUsesRow.named == Tryz.pinned.checked.prog.varsNamed 3))=true:=by kernel_rfl
theorem zLs:((Rows.extractUsesRow.maps == (Tryz.f3.params.toList++Rows.extractUsesSpec.plain.varTypes Tryz.pinned.checked.prog).any (Tryz.pinned.checked.prog.mapsRec ·)))=true:=by kernel_rfl
theorem zLt:((Rows.extractUsesRow.ifaces == (Tryz.f3.params.toList++Rows.extractUsesSpec.plain.varTypes Tryz.pinned.checked.prog).any (Tryz.pinned.checked.prog.ifacesRec ·)))=true:=by kernel_rfl
theorem zLu:((Rows.extractUsesRow.mapsOut == Tryz.pinned.checked.prog.mapsAmong Tryz.f3.resultTypes.toList))=true:=by kernel_rfl
theorem zLv:((Rows.extractUsesRow.loops == (Tryz.f3.params.toList++Rows.extractUsesSpec.plain.varTypes Tryz.pinned.checked.prog).any (Tryz.pinned.checked.prog.loopsFrom ·)))=true:=by kernel_rfl
theorem zLw:((Rows.extractUsesRow.wideKeys == (Tryz.f3.params.toList++Rows.extractUsesSpec.plain.varTypes Tryz.pinned.checked.prog++Tryz.f3.resultTypes.toList).any (Tryz.pinned.checked.prog.wideKeysFrom ·)))=true:=by kernel_rfl
theorem zLx:(Rows.extractUsesSpec.vars.all (Tryz.pinned.checked.prog.varReadable ·))=true:=by kernel_rfl
theorem zLy:(Tryz.f3.resultTypes.all (fun t=>Tryz.pinned.checked.prog.readableRec t && decide (t<Tryz.pinned.checked.prog.types.size)))=true:=by kernel_rfl
theorem zLz:((Rows.extractUsesRow.ifacesOut == Tryz.f3.resultTypes.toList.any (Tryz.pinned.checked.prog.ifacesRec ·)))=true:=by kernel_rfl
theorem zL0:((Rows.extractUsesRow.loopsOut == Tryz.f3.resultTypes.toList.any (Tryz.pinned.checked.prog.loopsFrom ·)))=true:=by kernel_rfl
theorem zL1:((Rows.extractUsesRow.plainKeys == Tryz.pinned.checked.prog.plainKeys))=true:=by kernel_rfl
theorem zL2:(Rows.extractUsesRow.shortTexts.isNone)=true:=by kernel_rfl
theorem zL3:(Tryz.pinned.checked.prog.stopsHeard)=true:=by kernel_rfl
theorem zL4:(Tryz.pinned.checked.prog.mayEnter)=true:=by kernel_rfl
theorem zL5:((Rows.extractUsesRow.lifted == Tryz.pinned.checked.prog.liftsFinal))=true:=by kernel_rfl
theorem zL6:((Tryz.pinned.checked.prog.make == some Rows.extractUsesRow.make))=true:=by kernel_rfl
theorem zL7:((Rows.extractUsesRow.kinds == (if Rows.extractUsesRow.domain.isEmpty then [] else Tryz.f3.params.toList.map fun t=>match Tryz.pinned.checked.prog.underlying t with|some (.int k)=>some k|_=>none)))=true:=by kernel_rfl
theorem zL8:((Rows.extractUsesRow.pinned == Rows.extractUsesRow.pinnedBy))=true:=by kernel_rfl
theorem zL9:((Rows.extractUsesRow.veiled == (Tryz.f3.params.toList++Rows.extractUsesSpec.plain.varTypes Tryz.pinned.checked.prog++Tryz.f3.resultTypes.toList).any (Tryz.pinned.checked.prog.veiledRec ·)))=true:=by kernel_rfl
theorem zMa:(Rows.extractUsesRow.veiledFits Tryz.pinned.checked.prog Tryz.f3.params.toList (Tryz.f3.params.toList++Rows.extractUsesSpec.plain.varTypes Tryz.pinned.checked.prog++Tryz.f3.resultTypes.toList))=true:=by kernel_rfl
end Go.Proofs.YtmcockinhpiomaaGreatDoor
