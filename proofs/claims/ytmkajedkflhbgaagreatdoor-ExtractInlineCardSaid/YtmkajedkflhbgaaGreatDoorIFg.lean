/- Closed facts of the row; no conditions. -/
import Derived.Test.YtmkajedkflhbgaaGreatDoorCards
import Derived.JoinedOf
import Derived.ProofKit
import Derived.OpenShut
import Derived.SevenTiedAt
import Derived.KernelRfl
set_option linter.all false
namespace Go.Proofs.YtmkajedkflhbgaaGreatDoor
open Go
set_option maxRecDepth 100000
theorem Qv:((Rows.extractInlineRow.named == Tryz.pinned.checked.prog.varsNamed 3))=true:=by kernel_rfl
theorem Rv:((Rows.extractInlineRow.maps == (Tryz.f3.params.toList++Rows.extractInlineSpec.plain.varTypes Tryz.pinned.checked.prog).any (Tryz.pinned.checked.prog.mapsRec ·)))=true:=by kernel_rfl
theorem Sv:((Rows.extractInlineRow.ifaces == (Tryz.f3.params.toList++Rows.extractInlineSpec.plain.varTypes Tryz.pinned.checked.prog).any (Tryz.pinned.checked.prog.ifacesRec ·)))=true:=by kernel_rfl
theorem Tv:((Rows.extractInlineRow.mapsOut == Tryz.pinned.checked.prog.mapsAmong Tryz.f3.resultTypes.toList))=true:=by kernel_rfl
theorem Uv:((Rows.extractInlineRow.loops == (Tryz.f3.params.toList++Rows.extractInlineSpec.plain.varTypes Tryz.pinned.checked.prog).any (Tryz.pinned.checked.prog.loopsFrom ·)))=true:=by kernel_rfl
theorem Vv:((Rows.extractInlineRow.wideKeys == (Tryz.f3.params.toList++Rows.extractInlineSpec.plain.varTypes Tryz.pinned.checked.prog++Tryz.f3.resultTypes.toList).any (Tryz.pinned.checked.prog.wideKeysFrom ·)))=true:=by kernel_rfl
theorem Wv:(Rows.extractInlineSpec.vars.all (Tryz.pinned.checked.prog.varReadable ·))=true:=by kernel_rfl
theorem Xv:(Tryz.f3.resultTypes.all (λ t=>Tryz.pinned.checked.prog.readableRec t && decide (t<Tryz.pinned.checked.prog.types.size)))=true:=by kernel_rfl
theorem Yv:((Rows.extractInlineRow.ifacesOut == Tryz.f3.resultTypes.toList.any (Tryz.pinned.checked.prog.ifacesRec ·)))=true:=by kernel_rfl
theorem Zv:((Rows.extractInlineRow.loopsOut == Tryz.f3.resultTypes.toList.any (Tryz.pinned.checked.prog.loopsFrom ·)))=true:=by kernel_rfl
theorem qw:((Rows.extractInlineRow.plainKeys == Tryz.pinned.checked.prog.plainKeys))=true:=by kernel_rfl
theorem zw:(Rows.extractInlineRow.shortTexts.isNone)=true:=by kernel_rfl
theorem jw:(Tryz.pinned.checked.prog.stopsHeard)=true:=by kernel_rfl
theorem ww:(Tryz.pinned.checked.prog.mayEnter)=true:=by kernel_rfl
theorem kw:((Rows.extractInlineRow.lifted == Tryz.pinned.checked.prog.liftsFinal))=true:=by kernel_rfl
theorem yw:((Tryz.pinned.checked.prog.make == some Rows.extractInlineRow.make))=true:=by kernel_rfl
theorem uw:((Rows.extractInlineRow.kinds == (if Rows.extractInlineRow.domain.isEmpty then [] else Tryz.f3.params.toList.map λ t=>match Tryz.pinned.checked.prog.underlying t with|some (.int k)=>some k|_=>none)))=true:=by kernel_rfl
theorem bw:((Rows.extractInlineRow.pinned == Rows.extractInlineRow.pinnedBy))=true:=by kernel_rfl
theorem dw:((Rows.extractInlineRow.veiled == (Tryz.f3.params.toList++Rows.extractInlineSpec.plain.varTypes Tryz.pinned.checked.prog++Tryz.f3.resultTypes.toList).any (Tryz.pinned.checked.prog.veiledRec ·)))=true:=by kernel_rfl
theorem fw:(Rows.extractInlineRow.veiledFits Tryz.pinned.checked.prog Tryz.f3.params.toList (Tryz.f3.params.toList++Rows.extractInlineSpec.plain.varTypes Tryz.pinned.checked.prog++Tryz.f3.resultTypes.toList))=true:=by kernel_rfl
end Go.Proofs.YtmkajedkflhbgaaGreatDoor
