/- Closed facts of the row; no conditions. -/
import Derived.Test.YtalkjpicadiimaaGreatDoorCards
import Derived.JoinedOf
import Derived.ProofKit
import Derived.OpenShut
import Derived.SevenTiedAt
import Derived.KernelRfl
set_option linter.all false
namespace Go.Proofs.YtalkjpicadiimaaGreatDoor
open Go
set_option maxRecDepth 100000
theorem zNu:((Rows.extractLiftRow.named == Tryz.pinned.checked.prog.varsNamed 3))=true:=by kernel_rfl
theorem zNv:((Rows.extractLiftRow.maps == (Tryz.f3.params.toList++Rows.extractLiftSpec.plain.varTypes Tryz.pinned.checked.prog).any (Tryz.pinned.checked.prog.mapsRec ·)))=true:=by kernel_rfl
theorem zNw:((Rows.extractLiftRow.ifaces == (Tryz.f3.params.toList++Rows.extractLiftSpec.plain.varTypes Tryz.pinned.checked.prog).any (Tryz.pinned.checked.prog.ifacesRec ·)))=true:=by kernel_rfl
theorem zNx:((Rows.extractLiftRow.mapsOut == Tryz.pinned.checked.prog.mapsAmong Tryz.f3.resultTypes.toList))=true:=by kernel_rfl
theorem zNy:((Rows.extractLiftRow.loops == (Tryz.f3.params.toList++Rows.extractLiftSpec.plain.varTypes Tryz.pinned.checked.prog).any (Tryz.pinned.checked.prog.loopsFrom ·)))=true:=by kernel_rfl
theorem zNz:((Rows.extractLiftRow.wideKeys == (Tryz.f3.params.toList++Rows.extractLiftSpec.plain.varTypes Tryz.pinned.checked.prog++Tryz.f3.resultTypes.toList).any (Tryz.pinned.checked.prog.wideKeysFrom ·)))=true:=by kernel_rfl
theorem zN0:(Rows.extractLiftSpec.vars.all (Tryz.pinned.checked.prog.varReadable ·))=true:=by kernel_rfl
theorem zN1:(Tryz.f3.resultTypes.all (fun t=>Tryz.pinned.checked.prog.readableRec t && decide (t<Tryz.pinned.checked.prog.types.size)))=true:=by kernel_rfl
theorem zN2:((Rows.extractLiftRow.ifacesOut == Tryz.f3.resultTypes.toList.any (Tryz.pinned.checked.prog.ifacesRec ·)))=true:=by kernel_rfl
theorem zN3:((Rows.extractLiftRow.loopsOut == Tryz.f3.resultTypes.toList.any (Tryz.pinned.checked.prog.loopsFrom ·)))=true:=by kernel_rfl
theorem zN4:((Rows.extractLiftRow.plainKeys == Tryz.pinned.checked.prog.plainKeys))=true:=by kernel_rfl
theorem zN5:(Rows.extractLiftRow.shortTexts.isNone)=true:=by kernel_rfl
theorem zN6:(Tryz.pinned.checked.prog.stopsHeard)=true:=by kernel_rfl
theorem zN7:(Tryz.pinned.checked.prog.mayEnter)=true:=by kernel_rfl
theorem zN8:((Rows.extractLiftRow.lifted == Tryz.pinned.checked.prog.liftsFinal))=true:=by kernel_rfl
theorem zN9:((Tryz.pinned.checked.prog.make == some Rows.extractLiftRow.make))=true:=by kernel_rfl
theorem zOa:((Rows.extractLiftRow.kinds == (if Rows.extractLiftRow.domain.isEmpty then [] else Tryz.f3.params.toList.map fun t=>match Tryz.pinned.checked.prog.underlying t with|some (.int k)=>some k|_=>none)))=true:=by kernel_rfl
theorem zOb:((Rows.extractLiftRow.pinned == Rows.extractLiftRow.pinnedBy))=true:=by kernel_rfl
theorem zOc:((Rows.extractLiftRow.veiled == (Tryz.f3.params.toList++Rows.extractLiftSpec.plain.varTypes Tryz.pinned.checked.prog++Tryz.f3.resultTypes.toList).any (Tryz.pinned.checked.prog.veiledRec ·)))=true:=by kernel_rfl
theorem zOd:(Rows.extractLiftRow.veiledFits Tryz.pinned.checked.prog Tryz.f3.params.toList (Tryz.f3.params.toList++Rows.extractLiftSpec.plain.varTypes Tryz.pinned.checked.prog++Tryz.f3.resultTypes.toList))=true:=by kernel_rfl
end Go.Proofs.YtalkjpicadiimaaGreatDoor
