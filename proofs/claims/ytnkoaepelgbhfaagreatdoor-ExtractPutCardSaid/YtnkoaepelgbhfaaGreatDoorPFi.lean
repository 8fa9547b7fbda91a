/- Closed facts of the row; no conditions. -/
import Derived.Test.YtnkoaepelgbhfaaGreatDoorCards
import Derived.JoinedOf
import Derived.ProofKit
import Derived.OpenShut
import Derived.SevenTiedAt
import Derived.KernelRfl
set_option linter.all false
namespace Go.Proofs.YtnkoaepelgbhfaaGreatDoor
open Go
set_option maxRecDepth 100000
theorem au : Tryz.pinned.checked.prog.mainIs = some (true, "548cd5d9e3cdd78b6fd4fd87894055d9a33546a8a965ca217f36c1158e11738d".toList) := by kernel_rfl
theorem cu:false=Rows.extractPutRow.goesBy Tryz.pinned.checked.prog:=by kernel_rfl
theorem u_fn:Tryz.prog.funcNamed Tryz.f3.name=some 3:=by kernel_rfl
theorem iu:false=Tryz.pinned.checked.prog.looks []:=by kernel_rfl
theorem ou:([22].all λ u => !Tryz.prog.wantsStandIn u)=true:=by kernel_rfl
end Go.Proofs.YtnkoaepelgbhfaaGreatDoor
