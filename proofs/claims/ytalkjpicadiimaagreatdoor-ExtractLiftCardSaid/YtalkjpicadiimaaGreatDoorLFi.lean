/- Closed facts of the row; no conditions. -/
import Derived.Test.YtalkjpicadiimaaGreatDoorCards
import Derived.JoinedOf
import Derived.ProofKit
import Derived.OpenShut
import Derived.SevenTiedAt
import Derived.KernelRfl
set_option linter.all false
namespace Go.Proofs.YtalkjpicadiimaaGreatDoor
open Go
set_option maxRecDepth 100000
theorem zDz : Tryz.pinned.checked.prog.mainIs = some (true, "5146de6e59666c41a0ab54c3916c548b687e89c36a7a19cb612fe3a320f039e7".toList) := by kernel_rfl
theorem zD0:false=Rows.extractLiftRow.goesBy Tryz.pinned.checked.prog:=by kernel_rfl
theorem u_fn:Tryz.prog.funcNamed Tryz.f3.name=some 3:=by kernel_rfl
theorem zYr:false=Tryz.pinned.checked.prog.looks []:=by kernel_rfl
theorem zYs:([22].all fun u => !Tryz.prog.wantsStandIn u)=true:=by kernel_rfl
end Go.Proofs.YtalkjpicadiimaaGreatDoor
