/- Closed facts of the row; no conditions. -/
import Derived.Test.YtmkajedkflhbgaaGreatDoorCards
import Derived.JoinedOf
import Derived.ProofKit
import Derived.OpenShut
import Derived.SevenTiedAt
import Derived.KernelRfl
set_option linter.all false
namespace Go.Proofs.YtmkajedkflhbgaaGreatDoor
open Go
set_option maxRecDepth 100000
theorem aw : Tryz.pinned.checked.prog.mainIs = some (true, "fa39dcdd40a2cd0c4d5af7515f1a4a4df5d2c394a3b94179b420ffcf09a11c12".toList) := by kernel_rfl
theorem cw:false=Rows.extractInlineRow.goesBy Tryz.pinned.checked.prog:=by kernel_rfl
theorem u_fn:Tryz.prog.funcNamed Tryz.f3.name=some 3:=by kernel_rfl
theorem iw:false=Tryz.pinned.checked.prog.looks []:=by kernel_rfl
theorem ow:([22].all λ u => !Tryz.prog.wantsStandIn u)=true:=by kernel_rfl
end Go.Proofs.YtmkajedkflhbgaaGreatDoor
