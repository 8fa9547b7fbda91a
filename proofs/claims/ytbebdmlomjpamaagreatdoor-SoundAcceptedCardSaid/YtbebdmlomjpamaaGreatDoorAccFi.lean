/- Closed facts of the row; no conditions. -/
import Derived.Test.YtbebdmlomjpamaaGreatDoorAccC2
import Derived.Test.YtbebdmlomjpamaaGreatDoorCards
import Derived.JoinedOf
import Derived.ProofKit
import Derived.OpenShut
import Derived.SevenTiedAt
import Derived.KernelRfl
set_option linter.all false
namespace Go.Proofs.YtbebdmlomjpamaaGreatDoor
open Go
set_option maxRecDepth 100000
def zP7:Tryz.pinned.checked.prog.mainIs=some (true,"701a396cb0e63bfd304260ebc9ac71ffe57f544c10cf964e795d882407d9a183".toList):=bG
def zHm{P:Program}(h:P.funcs.any Func.goes=false)(f:Nat):P.goes f=false:=by
 have k:∀g:Nat,(P.funcs[g]?).any Func.goes=false:=λg=>by
  cases e:P.funcs[g]? with
  |none=>rfl|some x=>
   have:=(Array.any_eq_false'.1 h) x (Array.mem_of_getElem? e);simpa using this
 unfold Program.goes;rw[h];simp[k]
def zHn:fl.any Func.goes=false:=bG
def zP8:false=Rows.soundAcceptedRow.goesBy Tryz.pinned.checked.prog:=by
 have h:Tryz.pinned.checked.prog.funcs.any Func.goes=false:=by
  rw[show Tryz.pinned.checked.prog.funcs=fl.toArray from nl,List.any_toArray];exact zHn
 have k:=zHm h;unfold OpenClaim.goesBy Program.goesAt Program.goesFrom;cases Tryz.pinned.checked.prog.funcNamed Rows.soundAcceptedRow.func<;>simp[k]<;>split<;>simp
def u_fn:Tryz.prog.funcNamed Tryz.f3.name=some 3:=bG
def zHo:true=Tryz.pinned.checked.prog.looks []:=bG
def zHp:([22].all λu=> !Tryz.prog.wantsStandIn u)=true:=bG
end Go.Proofs.YtbebdmlomjpamaaGreatDoor
