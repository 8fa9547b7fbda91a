/- Closed facts of the row; no conditions. -/
import Derived.Test.YtgleiiajjamgpaaGreatDoorCards
import Derived.JoinedOf
import Derived.ProofKit
import Derived.OpenShut
import Derived.SevenTiedAt
import Derived.KernelRfl
set_option linter.all false
namespace Go.Proofs.YtgleiiajjamgpaaGreatDoor
open Go
set_option maxRecDepth 100000
theorem zCq : Tryz.pinned.checked.prog.mainIs = some (true, "205639b26e03f4c3856c01b4ae8308c7f645c470074e1d5e3a8da65c930a0a7a".toList) := by kernel_rfl
theorem zCr:false=Rows.extractUniformRow.goesBy Tryz.pinned.checked.prog:=by kernel_rfl
theorem u_fn:Tryz.prog.funcNamed Tryz.f3.name=some 3:=by kernel_rfl
theorem zXs:false=Tryz.pinned.checked.prog.looks []:=by kernel_rfl
theorem zXt:([22].all fun u => !Tryz.prog.wantsStandIn u)=true:=by kernel_rfl
end Go.Proofs.YtgleiiajjamgpaaGreatDoor
