/- Closed facts of the row; no conditions. -/
import Derived.Test.YtmihmecnjjmdgaaGreatDoorAgainC2
import Derived.Test.YtmihmecnjjmdgaaGreatDoorCards
import Derived.JoinedOf
import Derived.ProofKit
import Derived.OpenShut
import Derived.SevenTiedAt
import Derived.KernelRfl
set_option linter.all false
namespace Go.Proofs.YtmihmecnjjmdgaaGreatDoor
open Go
set_option maxRecDepth 100000
def G7:Tryz.pinned.checked.prog.mainIs=some (true,"48a2bc2aee0a9167c908f97c2feed9ef728ee7be4c2edd92120f41cd7461b822".toList):=by kernel_rfl
def I7{P:Program}(h:P.funcs.any Func.goes=false)(f:Nat):P.goes f=false:=by
 have k:∀g:Nat,(P.funcs[g]?).any Func.goes=false:=λg=>by
  cases e:P.funcs[g]? with
  |none=>rfl|some x=>
   have:=(Array.any_eq_false'.1 h) x (Array.mem_of_getElem? e);simpa using this
 unfold Program.goes;rw[h];simp[k]
def J7:fl.any Func.goes=false:=by kernel_rfl
def K7:false=Rows.soundAgainRow.goesBy Tryz.pinned.checked.prog:=by
 have h:Tryz.pinned.checked.prog.funcs.any Func.goes=false:=by
  rw[show Tryz.pinned.checked.prog.funcs=fl.toArray from Ih,List.any_toArray];exact J7
 have k:=I7 h;unfold OpenClaim.goesBy Program.goesAt Program.goesFrom;cases Tryz.pinned.checked.prog.funcNamed Rows.soundAgainRow.func<;>simp[k]<;>split<;>simp
def u_fn:Tryz.prog.funcNamed Tryz.f3.name=some 3:=by kernel_rfl
def L7:true=Tryz.pinned.checked.prog.looks []:=by kernel_rfl
def M7:([22].all λu=> !Tryz.prog.wantsStandIn u)=true:=by kernel_rfl
end Go.Proofs.YtmihmecnjjmdgaaGreatDoor
