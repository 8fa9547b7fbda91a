/- The card of the law. -/
import Derived.Test.YtbebdmlomjpamaaGreatDoorAccY
import Derived.Test.YtbebdmlomjpamaaGreatDoorAccFf
import Derived.Test.YtbebdmlomjpamaaGreatDoorAccFg
import Derived.Test.YtbebdmlomjpamaaGreatDoorAccFh
import Derived.Test.YtbebdmlomjpamaaGreatDoorAccFi
import Derived.Test.YtbebdmlomjpamaaGreatDoorAccC12
set_option linter.all false
namespace Go.Proofs.YtbebdmlomjpamaaGreatDoor
open Go Go.Lg Go.ChangeShapes Go.WideShapes Go.ChangeAt Go.WideMaps Go.WideElems Go.RowKit
set_option maxRecDepth 100000
def YB{a b:Bool}(h:a=true)(k:b=true):(a&&b)=true:=by rw[h,k];rfl
def zY6:joinedFacts Tryz.pinned.checked.prog 3 Tryz.f3 Rows.soundAcceptedSpec Rows.soundAcceptedRow=true:=YB (YB (YB (YB (YB (YB (YB (YB (YB (YB (YB (YB (YB (YB (YB (YB (YB (YB (YB (YB (YB (YB (YB (YB (YB (YB (YB (YB (YB (YB (YB jf0 jf1) jf2) jf3) jf4) jf5) jf6) jf7) jf8) jf9) jXj) jXk) jXl) jXm) jXn) jXo) jXp) jXq) jXr) jXs) jXt) jXu) jXv) jXw) jXx) jXy) jXz) jX0) jX1) jX2) jX3) jX4
def Mq(L:List Int)(h:∀z∈L,-9223372036854775808<=z/\z<=9223372036854775807):AC Tryz.prog gl 3 [.pv (.slice (AY L))] [] (.ret (.pv (.bool true))) []:=Bz h
def zRa{n:Int}(h:(Lit.int .i64 n).wf=true): -9223372036854775808<=n/\n<=9223372036854775807:=by
 simp[Lit.wf,IntKind.min,IntKind.max,IntKind.signed,IntKind.bits]at h;omega
def qXr(os:Os)(d:os.Started)(H:Type)(enc:TypeId×Value->H):
  ReturnsInHanded {} Tryz.checked os 3 .any (λw args=>(Rows.soundAcceptedSpec.pre enc Tryz.prog Tryz.f3 [] false w args/\laidMetH Tryz.prog vL w)/\sizedMet enc Tryz.prog Tryz.f3 (OpenSpec.ofChange Rows.soundAcceptedSpec) false w args)
   (Rows.soundAcceptedSpec.post enc Tryz.prog Tryz.f3 false true false false):=by
 refine returnsInHanded_of_change_and (C:=Tryz.checked) (X:=λw _=>laidMetH Tryz.prog vL w) (λ_ _ _ S h=>h.of_heap S) own d bG Tryz.func3
  (ChangeSpec.witness_shaped (enc:=enc) (C:=Tryz.checked) (os:=os) (X:=λw _=>laidMetH Tryz.prog vL w) false (World.doorLaid Tryz.prog 400 os) #[.slice none 0 0] 8 rfl (World.shaped_of_RefB bG bG) bG bG bG (zY5 os _)) ?_
 intro W base args T gs B f J _ _ K _;have c:∀(j:Nat)t v,Tryz.f3.params[j]? =some t->args[j]? =some v->Value.okWide Tryz.prog W .any base t v:=f;have l:=J;obtain⟨p,q,r,U,rfl,V,X⟩:=J;have L:DataW.TrodAll enc Tryz.prog W 0 (λ_=>true) true Tryz.f3.params.toList args.toList T p:=r;rw[Tryz.params3]at L c;obtain⟨v0,M,rfl,rfl,N⟩:=trodAll_one L;obtain⟨rfl,rfl⟩:=trodVars_none U;obtain⟨C,len,cap,rfl⟩:=okWide_slice Tryz.underlying22 (c 0 22 v0 rfl rfl);have D:=N;obtain⟨fuel,Y⟩:=N;have s:=c 0 22 _ rfl rfl;clear r f c;simp only[hI]at l;have E:∀x∈p,x.block<W.heap.size:=λx F=>by simpa using l.lt x F
 have m:∀(k:World),Below W.heap.size W k->DataW.Trod enc Tryz.prog k 0 (λb=>decide (b<W.heap.size)) true 22 (.slice C len cap) M p:=
  λk Z=>Below.trod zHq bG (abD bG) D Z E
 have close:(Calls Tryz.prog 3 #[.slice C len cap] W λe k=>e=.returned (.bool true)/\Below W.heap.size W k)->Calls Tryz.checked.prog 3 #[.slice C len cap] W λe k=>∃v,e=.returned v/\Rows.soundAcceptedSpec.post enc Tryz.checked.prog Tryz.f3 false true false false W #[.slice C len cap] v k:=by
  intro h;refine Calls.mono h ?_
  rintro e k ⟨rfl,O⟩
  refine⟨_,rfl,[M],[],p,[],p,[],l,?_,?_,rfl,O.frame _,nofun⟩
  ·exact trodAll_mk1 (shut_bool Tryz.underlying4 _)
  exact trodAll_mk1 (m _ O)
 refine close ?_;rcases open_ints Tryz.underlying22 Tryz.underlying3 c3 Y with ⟨g,F⟩|⟨a,P,Q,zs,g,_,hl,hm,u,F,o,G⟩
 ·simp[Value.cells]at g;obtain⟨rfl,rfl,rfl⟩:=g;exact Lq Mq K [] rfl a6 a6 (λz u=>by cases u) (.inl rfl)
 simp[Value.cells]at g;obtain⟨rfl,rfl,rfl⟩:=g;simp only[if_true]at u;have y:a.spot=none:=by
  simp only[Value.okWide,Tryz.underlying22,Cell.okWide,Cell.ok,World.has]at s;exact s.2.2.2.1
 obtain⟨b,off,R⟩:=a;simp only at y;subst y;refine Lq Mq K (zs.take len) a9 hl a6 (λz u=>zRa (G z (aay u))) (.inr ⟨b,off,rfl,?_⟩);intro i n A;rw[aaF]at A;split at A
 ·have I:=(gf.1 A).1;have:=o i I;rw[add_plain]at this;rw[this];simp[List.getD,A]
 cases A
theorem soundAccepted_row_holds:Rows.SoundAcceptedSaid:=
 OpenClaim.holds_of_wide 3 Tryz.f3 rfl rfl rfl rfl rfl rfl rfl ⟨rfl,rfl,rfl,rfl,rfl⟩ rfl rfl rfl rfl rfl zP3 Tryz.func3 zY6 zP4 zP5
  (λc a H b _=>qXr c a H b)
theorem soundAccepted_card_holds:Rows.SoundAcceptedCardSaid:=
 Claim7.holds_tied_plain_at .later [] [.data,.data,.data] true (true,"701a396cb0e63bfd304260ebc9ac71ffe57f544c10cf964e795d882407d9a183") true
  soundAccepted_row_holds (λ_ h=>by cases h) zP6 (λ_ h=>by cases h) soundAccepted_row_tie rfl ⟨rfl,rfl⟩ zP7 rfl
  (λf fn c a=>by
   obtain rfl:f=3:=aaB (u_fn.symm.trans c)|>.symm;obtain rfl:fn=Tryz.f3:=(aaB (Tryz.func3.symm.trans a)).symm;exact⟨zHo,λj t b=>by
    rw[Tryz.params3]at b;have d:t∈[22]:=by simpa using Array.mem_of_getElem? b
    exact(show Tryz.prog.wantsStandIn t=false by simpa using aav.1 zHp t d)⟩)
  zP8
#print axioms soundAccepted_card_holds
end Go.Proofs.YtbebdmlomjpamaaGreatDoor
