/- Closed facts of the row; no conditions. -/
import Derived.Test.YtmcockinhpiomaaGreatDoorCards
import Derived.JoinedOf
import Derived.ProofKit
import Derived.OpenShut
import Derived.SevenTiedAt
import Derived.KernelRfl
set_option linter.all false
namespace Go.Proofs.YtmcockinhpiomaaGreatDoor
open Go
set_option maxRecDepth 100000
theorem zB1 : Tryz.pinned.checked.prog.mainIs = some (true, "98c7030d10ff4cae093a56dafead7a2944727aa2762ea7ee1717ad40f04d9c97".toList) := by kernel_rfl
theorem zB2:false=Rows.extractUsesRow.goesBy Tryz.pinned.checked.prog:=by kernel_rfl
theorem u_fn:Tryz.prog.funcNamed Tryz.f3.name=some 3:=by kernel_rfl
theorem zK3:false=Tryz.pinned.checked.prog.looks []:=by kernel_rfl
theorem zK4:([22].all fun u => !Tryz.prog.wantsStandIn u)=true:=by kernel_rfl
end Go.Proofs.YtmcockinhpiomaaGreatDoor
