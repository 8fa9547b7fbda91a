/- Closed facts of the row; no conditions. -/
import Derived.Test.YtjecbkgdndjejaaGreatDoorFreeC2
import Derived.Test.YtjecbkgdndjejaaGreatDoorCards
import Derived.JoinedOf
import Derived.ProofKit
import Derived.OpenShut
import Derived.SevenTiedAt
import Derived.KernelRfl
set_option linter.all false
namespace Go.Proofs.YtjecbkgdndjejaaGreatDoor
open Go
set_option maxRecDepth 100000
def s7:Tryz.pinned.checked.prog.mainIs=some (true,"ba1858b7f9684e90b4aaf958dcbc0758322f9ede05c77f9d461d61c87fee309b".toList):=by kernel_rfl
def c7{P:Program}(h:P.funcs.any Func.goes=false)(f:Nat):P.goes f=false:=by
 have k:∀g:Nat,(P.funcs[g]?).any Func.goes=false:=λg=>by
  cases e:P.funcs[g]? with
  |none=>rfl|some x=>
   have:=(Array.any_eq_false'.1 h) x (Array.mem_of_getElem? e);simpa using this
 unfold Program.goes;rw[h];simp[k]
def i7:fl.any Func.goes=false:=by kernel_rfl
def A7:false=Rows.soundFreeRow.goesBy Tryz.pinned.checked.prog:=by
 have h:Tryz.pinned.checked.prog.funcs.any Func.goes=false:=by
  rw[show Tryz.pinned.checked.prog.funcs=fl.toArray from xh,List.any_toArray];exact i7
 have k:=c7 h;unfold OpenClaim.goesBy Program.goesAt Program.goesFrom;cases Tryz.pinned.checked.prog.funcNamed Rows.soundFreeRow.func<;>simp[k]<;>split<;>simp
def u_fn:Tryz.prog.funcNamed Tryz.f3.name=some 3:=by kernel_rfl
def B7:true=Tryz.pinned.checked.prog.looks []:=by kernel_rfl
def C7:([22].all λu=> !Tryz.prog.wantsStandIn u)=true:=by kernel_rfl
end Go.Proofs.YtjecbkgdndjejaaGreatDoor
