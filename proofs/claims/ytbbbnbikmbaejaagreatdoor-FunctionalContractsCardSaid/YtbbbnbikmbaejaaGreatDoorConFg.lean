/- Closed facts of the row; no conditions. -/
import Derived.Test.YtbbbnbikmbaejaaGreatDoorCards
import Derived.JoinedOf
import Derived.ProofKit
import Derived.OpenShut
import Derived.SevenTiedAt
import Derived.KernelRfl
set_option linter.all false
namespace Go.Proofs.YtbbbnbikmbaejaaGreatDoor
open Go
set_option maxRecDepth 100000
theorem zF3:((Rows.functionalContractsRow.named == Tryz.pinned.checked.prog.varsNamed 3))=true:=by kernel_rfl
theorem zF4:((Rows.functionalContractsRow.maps == (Tryz.f3.params.toList++Rows.functionalContractsSpec.plain.varTypes Tryz.pinned.checked.prog).any (Tryz.pinned.checked.prog.mapsRec ·)))=true:=by kernel_rfl
theorem zF5:((Rows.functionalContractsRow.ifaces == (Tryz.f3.params.toList++Rows.functionalContractsSpec.plain.varTypes Tryz.pinned.checked.prog).any (Tryz.pinned.checked.prog.ifacesRec ·)))=true:=by kernel_rfl
theorem zF6:((Rows.functionalContractsRow.mapsOut == Tryz.pinned.checked.prog.mapsAmong Tryz.f3.resultTypes.toList))=true:=by kernel_rfl
theorem zF7:((Rows.functionalContractsRow.loops == (Tryz.f3.params.toList++Rows.functionalContractsSpec.plain.varTypes Tryz.pinned.checked.prog).any (Tryz.pinned.checked.prog.loopsFrom ·)))=true:=by kernel_rfl
theorem zF8:((Rows.functionalContractsRow.wideKeys == (Tryz.f3.params.toList++Rows.functionalContractsSpec.plain.varTypes Tryz.pinned.checked.prog++Tryz.f3.resultTypes.toList).any (Tryz.pinned.checked.prog.wideKeysFrom ·)))=true:=by kernel_rfl
theorem zF9:(Rows.functionalContractsSpec.vars.all (Tryz.pinned.checked.prog.varReadable ·))=true:=by kernel_rfl
theorem zGa:(Tryz.f3.resultTypes.all (fun t=>Tryz.pinned.checked.prog.readableRec t && decide (t<Tryz.pinned.checked.prog.types.size)))=true:=by kernel_rfl
theorem zGb:((Rows.functionalContractsRow.ifacesOut == Tryz.f3.resultTypes.toList.any (Tryz.pinned.checked.prog.ifacesRec ·)))=true:=by kernel_rfl
theorem zGc:((Rows.functionalContractsRow.loopsOut == Tryz.f3.resultTypes.toList.any (Tryz.pinned.checked.prog.loopsFrom ·)))=true:=by kernel_rfl
theorem zGd:((Rows.functionalContractsRow.plainKeys == Tryz.pinned.checked.prog.plainKeys))=true:=by kernel_rfl
theorem zGe:(Rows.functionalContractsRow.shortTexts.isNone)=true:=by kernel_rfl
theorem zGf:(Tryz.pinned.checked.prog.stopsHeard)=true:=by kernel_rfl
theorem zGg:(Tryz.pinned.checked.prog.mayEnter)=true:=by kernel_rfl
theorem zGh:((Rows.functionalContractsRow.lifted == Tryz.pinned.checked.prog.liftsFinal))=true:=by kernel_rfl
theorem zGi:((Tryz.pinned.checked.prog.make == some Rows.functionalContractsRow.make))=true:=by kernel_rfl
theorem zGj:((Rows.functionalContractsRow.kinds == (if Rows.functionalContractsRow.domain.isEmpty then [] else Tryz.f3.params.toList.map fun t=>match Tryz.pinned.checked.prog.underlying t with|some (.int k)=>some k|_=>none)))=true:=by kernel_rfl
theorem zGk:((Rows.functionalContractsRow.pinned == Rows.functionalContractsRow.pinnedBy))=true:=by kernel_rfl
theorem zGl:((Rows.functionalContractsRow.veiled == (Tryz.f3.params.toList++Rows.functionalContractsSpec.plain.varTypes Tryz.pinned.checked.prog++Tryz.f3.resultTypes.toList).any (Tryz.pinned.checked.prog.veiledRec ·)))=true:=by kernel_rfl
theorem zGm:(Rows.functionalContractsRow.veiledFits Tryz.pinned.checked.prog Tryz.f3.params.toList (Tryz.f3.params.toList++Rows.functionalContractsSpec.plain.varTypes Tryz.pinned.checked.prog++Tryz.f3.resultTypes.toList))=true:=by kernel_rfl
end Go.Proofs.YtbbbnbikmbaejaaGreatDoor
