/- Closed facts of the row; no conditions. -/
import Derived.Test.YtgleiiajjamgpaaGreatDoorCards
import Derived.JoinedOf
import Derived.ProofKit
import Derived.OpenShut
import Derived.SevenTiedAt
import Derived.KernelRfl
set_option linter.all false
namespace Go.Proofs.YtgleiiajjamgpaaGreatDoor
open Go
set_option maxRecDepth 100000
theorem zL5:((Rows.extractUniformRow.named == Tryz.pinned.checked.prog.varsNamed 3))=true:=by kernel_rfl
theorem zL6:((Rows.extractUniformRow.maps == (Tryz.f3.params.toList++Rows.extractUniformSpec.plain.varTypes Tryz.pinned.checked.prog).any (Tryz.pinned.checked.prog.mapsRec ·)))=true:=by kernel_rfl
theorem zL7:((Rows.extractUniformRow.ifaces == (Tryz.f3.params.toList++Rows.extractUniformSpec.plain.varTypes Tryz.pinned.checked.prog).any (Tryz.pinned.checked.prog.ifacesRec ·)))=true:=by kernel_rfl
theorem zL8:((Rows.extractUniformRow.mapsOut == Tryz.pinned.checked.prog.mapsAmong Tryz.f3.resultTypes.toList))=true:=by kernel_rfl
theorem zL9:((Rows.extractUniformRow.loops == (Tryz.f3.params.toList++Rows.extractUniformSpec.plain.varTypes Tryz.pinned.checked.prog).any (Tryz.pinned.checked.prog.loopsFrom ·)))=true:=by kernel_rfl
theorem zMa:((Rows.extractUniformRow.wideKeys == (Tryz.f3.params.toList++Rows.extractUniformSpec.plain.varTypes Tryz.pinned.checked.prog++Tryz.f3.resultTypes.toList).any (Tryz.pinned.checked.prog.wideKeysFrom ·)))=true:=by kernel_rfl
theorem zMb:(Rows.extractUniformSpec.vars.all (Tryz.pinned.checked.prog.varReadable ·))=true:=by kernel_rfl
theorem zMc:(Tryz.f3.resultTypes.all (fun t=>Tryz.pinned.checked.prog.readableRec t && decide (t<Tryz.pinned.checked.prog.types.size)))=true:=by kernel_rfl
theorem zMd:((Rows.extractUniformRow.ifacesOut == Tryz.f3.resultTypes.toList.any (Tryz.pinned.checked.prog.ifacesRec ·)))=true:=by kernel_rfl
theorem zMe:((Rows.extractUniformRow.loopsOut == Tryz.f3.resultTypes.toList.any (Tryz.pinned.checked.prog.loopsFrom ·)))=true:=by kernel_rfl
theorem zMf:((Rows.extractUniformRow.plainKeys == Tryz.pinned.checked.prog.plainKeys))=true:=by kernel_rfl
theorem zMg:(Rows.extractUniformRow.shortTexts.isNone)=true:=by kernel_rfl
theorem zMh:(Tryz.pinned.checked.prog.stopsHeard)=true:=by kernel_rfl
theorem zMi:(Tryz.pinned.checked.prog.mayEnter)=true:=by kernel_rfl
theorem zMj:((Rows.extractUniformRow.lifted == Tryz.pinned.checked.prog.liftsFinal))=true:=by kernel_rfl
theorem zMk:((Tryz.pinned.checked.prog.make == some Rows.extractUniformRow.make))=true:=by kernel_rfl
theorem zMl:((Rows.extractUniformRow.kinds == (if Rows.extractUniformRow.domain.isEmpty then [] else Tryz.f3.params.toList.map fun t=>match Tryz.pinned.checked.prog.underlying t with|some (.int k)=>some k|_=>none)))=true:=by kernel_rfl
theorem zMm:((Rows.extractUniformRow.pinned == Rows.extractUniformRow.pinnedBy))=true:=by kernel_rfl
theorem zMn:((Rows.extractUniformRow.veiled == (Tryz.f3.params.toList++Rows.extractUniformSpec.plain.varTypes Tryz.pinned.checked.prog++Tryz.f3.resultTypes.toList).any (Tryz.pinned.checked.prog.veiledRec ·)))=true:=by kernel_rfl
theorem zMo:(Rows.extractUniformRow.veiledFits Tryz.pinned.checked.prog Tryz.f3.params.toList (Tryz.f3.params.toList++Rows.extractUniformSpec.plain.varTypes Tryz.pinned.checked.prog++Tryz.f3.resultTypes.toList))=true:=by kernel_rfl
end Go.Proofs.YtgleiiajjamgpaaGreatDoor
