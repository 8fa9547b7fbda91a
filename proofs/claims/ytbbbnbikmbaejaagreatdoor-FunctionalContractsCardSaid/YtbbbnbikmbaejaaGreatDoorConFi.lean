/- Closed facts of the row; no conditions. -/
import Derived.Test.YtbbbnbikmbaejaaGreatDoorConC2
import Derived.Test.YtbbbnbikmbaejaaGreatDoorCards
import Derived.JoinedOf
import Derived.ProofKit
import Derived.OpenShut
import Derived.SevenTiedAt
import Derived.KernelRfl
set_option linter.all false
namespace Go.Proofs.YtbbbnbikmbaejaaGreatDoor
open Go
set_option maxRecDepth 100000
theorem zXy : Tryz.pinned.checked.prog.mainIs = some (true, "398905feb8773d58a5fe93307d06a748ba4af7ab3ae3b788827cb867f20fba44".toList) := by kernel_rfl
theorem zVe {P:Program} (h:P.funcs.any Func.goes=false) (f:Nat):P.goes f=false:=by
 have k:∀ g:Nat,(P.funcs[g]?).any Func.goes=false:=fun g=>by
  cases e:P.funcs[g]? with
  | none=>rfl
  | some x =>
   have:=(Array.any_eq_false'.1 h) x (Array.mem_of_getElem? e)
   simpa using this
 unfold Program.goes
 rw [h]
 simp [k]
theorem zVf:fl.any Func.goes=false:=by kernel_rfl
theorem zXz:false=Rows.functionalContractsRow.goesBy Tryz.pinned.checked.prog:=by
 have h:Tryz.pinned.checked.prog.funcs.any Func.goes=false:=by
  rw [show Tryz.pinned.checked.prog.funcs=fl.toArray from zW2,List.any_toArray];exact zVf
 have k:=zVe h
 unfold OpenClaim.goesBy Program.goesAt Program.goesFrom
 cases Tryz.pinned.checked.prog.funcNamed Rows.functionalContractsRow.func<;>simp [k]<;>split<;>simp
theorem u_fn:Tryz.prog.funcNamed Tryz.f3.name=some 3:=by kernel_rfl
theorem zVg:true=Tryz.pinned.checked.prog.looks []:=by kernel_rfl
theorem zVh:([22,5,5].all fun u => !Tryz.prog.wantsStandIn u)=true:=by kernel_rfl
end Go.Proofs.YtbbbnbikmbaejaaGreatDoor
