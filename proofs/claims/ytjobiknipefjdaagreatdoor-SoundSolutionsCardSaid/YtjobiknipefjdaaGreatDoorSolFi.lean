/- Closed facts of the row; no conditions. -/
import Derived.Test.YtjobiknipefjdaaGreatDoorSolC2
import Derived.Test.YtjobiknipefjdaaGreatDoorCards
import Derived.JoinedOf
import Derived.ProofKit
import Derived.OpenShut
import Derived.SevenTiedAt
import Derived.KernelRfl
set_option linter.all false
namespace Go.Proofs.YtjobiknipefjdaaGreatDoor
open Go
set_option maxRecDepth 100000
def I6:Tryz.pinned.checked.prog.mainIs=some (true,"9cb5f7fe13e9259f8a6a61244843c5d5c9dfe7060866632f9fa9dc91c4c02fe5".toList):=by kernel_rfl
def J6{P:Program}(h:P.funcs.any Func.goes=false)(f:Nat):P.goes f=false:=by
 have k:∀g:Nat,(P.funcs[g]?).any Func.goes=false:=λg=>by
  cases e:P.funcs[g]? with
  |none=>rfl|some x=>
   have:=(Array.any_eq_false'.1 h) x (Array.mem_of_getElem? e);simpa using this
 unfold Program.goes;rw[h];simp[k]
def K6:fl.any Func.goes=false:=by kernel_rfl
def L6:false=Rows.soundSolutionsRow.goesBy Tryz.pinned.checked.prog:=by
 have h:Tryz.pinned.checked.prog.funcs.any Func.goes=false:=by
  rw[show Tryz.pinned.checked.prog.funcs=fl.toArray from Gh,List.any_toArray];exact K6
 have k:=J6 h;unfold OpenClaim.goesBy Program.goesAt Program.goesFrom;cases Tryz.pinned.checked.prog.funcNamed Rows.soundSolutionsRow.func<;>simp[k]<;>split<;>simp
def u_fn:Tryz.prog.funcNamed Tryz.f3.name=some 3:=by kernel_rfl
def M6:true=Tryz.pinned.checked.prog.looks []:=by kernel_rfl
def N6:([22].all λu=> !Tryz.prog.wantsStandIn u)=true:=by kernel_rfl
end Go.Proofs.YtjobiknipefjdaaGreatDoor
