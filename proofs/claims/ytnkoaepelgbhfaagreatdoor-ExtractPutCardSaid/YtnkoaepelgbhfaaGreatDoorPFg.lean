/- Closed facts of the row; no conditions. -/
import Derived.Test.YtnkoaepelgbhfaaGreatDoorCards
import Derived.JoinedOf
import Derived.ProofKit
import Derived.OpenShut
import Derived.SevenTiedAt
import Derived.KernelRfl
set_option linter.all false
namespace Go.Proofs.YtnkoaepelgbhfaaGreatDoor
open Go
set_option maxRecDepth 100000
theorem Rt:((Rows.extractPutRow.named == Tryz.pinned.checked.prog.varsNamed 3))=true:=by kernel_rfl
theorem Tt:((Rows.extractPutRow.maps == (Tryz.f3.params.toList++Rows.extractPutSpec.plain.varTypes Tryz.pinned.checked.prog).any (Tryz.pinned.checked.prog.mapsRec ·)))=true:=by kernel_rfl
theorem Ut:((Rows.extractPutRow.ifaces == (Tryz.f3.params.toList++Rows.extractPutSpec.plain.varTypes Tryz.pinned.checked.prog).any (Tryz.pinned.checked.prog.ifacesRec ·)))=true:=by kernel_rfl
theorem Vt:((Rows.extractPutRow.mapsOut == Tryz.pinned.checked.prog.mapsAmong Tryz.f3.resultTypes.toList))=true:=by kernel_rfl
theorem Wt:((Rows.extractPutRow.loops == (Tryz.f3.params.toList++Rows.extractPutSpec.plain.varTypes Tryz.pinned.checked.prog).any (Tryz.pinned.checked.prog.loopsFrom ·)))=true:=by kernel_rfl
theorem Xt:((Rows.extractPutRow.wideKeys == (Tryz.f3.params.toList++Rows.extractPutSpec.plain.varTypes Tryz.pinned.checked.prog++Tryz.f3.resultTypes.toList).any (Tryz.pinned.checked.prog.wideKeysFrom ·)))=true:=by kernel_rfl
theorem Yt:(Rows.extractPutSpec.vars.all (Tryz.pinned.checked.prog.varReadable ·))=true:=by kernel_rfl
theorem Zt:(Tryz.f3.resultTypes.all (λ t=>Tryz.pinned.checked.prog.readableRec t && decide (t<Tryz.pinned.checked.prog.types.size)))=true:=by kernel_rfl
theorem qu:((Rows.extractPutRow.ifacesOut == Tryz.f3.resultTypes.toList.any (Tryz.pinned.checked.prog.ifacesRec ·)))=true:=by kernel_rfl
theorem zu:((Rows.extractPutRow.loopsOut == Tryz.f3.resultTypes.toList.any (Tryz.pinned.checked.prog.loopsFrom ·)))=true:=by kernel_rfl
theorem ju:((Rows.extractPutRow.plainKeys == Tryz.pinned.checked.prog.plainKeys))=true:=by kernel_rfl
theorem vu:(Rows.extractPutRow.shortTexts.isNone)=true:=by kernel_rfl
theorem wu:(Tryz.pinned.checked.prog.stopsHeard)=true:=by kernel_rfl
theorem ku:(Tryz.pinned.checked.prog.mayEnter)=true:=by kernel_rfl
theorem yu:((Rows.extractPutRow.lifted == Tryz.pinned.checked.prog.liftsFinal))=true:=by kernel_rfl
theorem uu:((Tryz.pinned.checked.prog.make == some Rows.extractPutRow.make))=true:=by kernel_rfl
theorem bu:((Rows.extractPutRow.kinds == (if Rows.extractPutRow.domain.isEmpty then [] else Tryz.f3.params.toList.map λ t=>match Tryz.pinned.checked.prog.underlying t with|some (.int k)=>some k|_=>none)))=true:=by kernel_rfl
theorem du:((Rows.extractPutRow.pinned == Rows.extractPutRow.pinnedBy))=true:=by kernel_rfl
theorem fu:((Rows.extractPutRow.veiled == (Tryz.f3.params.toList++Rows.extractPutSpec.plain.varTypes Tryz.pinned.checked.prog++Tryz.f3.resultTypes.toList).any (Tryz.pinned.checked.prog.veiledRec ·)))=true:=by kernel_rfl
theorem lu:(Rows.extractPutRow.veiledFits Tryz.pinned.checked.prog Tryz.f3.params.toList (Tryz.f3.params.toList++Rows.extractPutSpec.plain.varTypes Tryz.pinned.checked.prog++Tryz.f3.resultTypes.toList))=true:=by kernel_rfl
end Go.Proofs.YtnkoaepelgbhfaaGreatDoor
