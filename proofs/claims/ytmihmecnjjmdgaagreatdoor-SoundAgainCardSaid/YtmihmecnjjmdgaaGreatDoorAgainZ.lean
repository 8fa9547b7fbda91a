/- The law SoundAgain as its card says it: what it means that a term realizes has no content, and its proof proves itself that it is realized; no conditions but those of the card. -/
import Derived.Test.YtmihmecnjjmdgaaGreatDoorAgainY
import Derived.Test.YtmihmecnjjmdgaaGreatDoorAgainFf
import Derived.Test.YtmihmecnjjmdgaaGreatDoorAgainFg
import Derived.Test.YtmihmecnjjmdgaaGreatDoorAgainFh
import Derived.Test.YtmihmecnjjmdgaaGreatDoorAgainFi
import Derived.Test.YtmihmecnjjmdgaaGreatDoorAgainC11
set_option linter.all false
namespace Go.Proofs.YtmihmecnjjmdgaaGreatDoor
open Go Go.Lg Go.ChangeShapes Go.WideShapes Go.ChangeAt Go.WideMaps Go.WideElems Go.RowKit
set_option maxRecDepth 100000
def MB{a b:Bool}(h:a=true)(k:b=true):(a&&b)=true:=by rw[h,k];rfl
def z8:joinedFacts Tryz.pinned.checked.prog 3 Tryz.f3 Rows.soundAgainSpec Rows.soundAgainRow=true:=MB (MB (MB (MB (MB (MB (MB (MB (MB (MB (MB (MB (MB (MB (MB (MB (MB (MB (MB (MB (MB (MB (MB (MB (MB (MB (MB (MB (MB (MB (MB K6 L6) M6) N6) O6) P6) Q6) R6) S6) T6) U6) V6) W6) X6) Y6) Z6) z7) j7) v7) k7) y7) u7) b7) d7) l7) m7) r7) s7) c7) i7) A7) B7
def lm(L:List Int)(h:∀z∈L,-9223372036854775808<=z/\z<=9223372036854775807):AC Tryz.prog gl 3 [.pv (.slice (GW L))] [] (.ret (.pv (.bool true))) []:=Wu h
def j8{n:Int}(h:(Lit.int .i64 n).wf=true): -9223372036854775808<=n/\n<=9223372036854775807:=by
 simp[Lit.wf,IntKind.min,IntKind.max,IntKind.signed,IntKind.bits]at h;omega
def v8(os:Os)(d:os.Started)(H:Type)(enc:TypeId×Value->H):
  ReturnsInHanded {} Tryz.checked os 3 .any (λw args=>(Rows.soundAgainSpec.pre enc Tryz.prog Tryz.f3 [] false w args/\laidMetH Tryz.prog iK w)/\sizedMet enc Tryz.prog Tryz.f3 (OpenSpec.ofChange Rows.soundAgainSpec) false w args)
   (Rows.soundAgainSpec.post enc Tryz.prog Tryz.f3 false true false false):=by
 refine returnsInHanded_of_change_and (C:=Tryz.checked) (X:=λw _=>laidMetH Tryz.prog iK w) (λ_ _ _ S h=>h.of_heap S) own d (by kernel_rfl) Tryz.func3
  (ChangeSpec.witness_shaped (enc:=enc) (C:=Tryz.checked) (os:=os) (X:=λw _=>laidMetH Tryz.prog iK w) false (World.doorLaid Tryz.prog 400 os) #[.slice none 0 0] 8 rfl (World.shaped_of_RefB (by kernel_rfl) (by kernel_rfl)) (by kernel_rfl) (by kernel_rfl) (by kernel_rfl) (Z7 os _)) ?_
 intro W base args T gs B f J _ _ K _;have c:∀(j:Nat)t v,Tryz.f3.params[j]? =some t->args[j]? =some v->Value.okWide Tryz.prog W .any base t v:=f;have l:=J;obtain⟨p,q,r,U,rfl,V,X⟩:=J;have L:DataW.TrodAll enc Tryz.prog W 0 (λ_=>true) true Tryz.f3.params.toList args.toList T p:=r;rw[Tryz.params3]at L c;obtain⟨v0,M,rfl,rfl,N⟩:=trodAll_one L;obtain⟨rfl,rfl⟩:=trodVars_none U;obtain⟨C,len,cap,rfl⟩:=okWide_slice Tryz.underlying22 (c 0 22 v0 rfl rfl);have D:=N;obtain⟨fuel,Y⟩:=N;have s:=c 0 22 _ rfl rfl;clear r f c;simp only[List.append_nil]at l;have E:∀x∈p,x.block<W.heap.size:=λx F=>by simpa using l.lt x F
 have m:∀(k:World),Below W.heap.size W k->DataW.Trod enc Tryz.prog k 0 (λb=>decide (b<W.heap.size)) true 22 (.slice C len cap) M p:=
  λk Z=>Below.trod N7 (by kernel_rfl) (of_decide_eq_true (by kernel_rfl)) D Z E
 have close:(Calls Tryz.prog 3 #[.slice C len cap] W λe k=>e=.returned (.bool true)/\Below W.heap.size W k)->Calls Tryz.checked.prog 3 #[.slice C len cap] W λe k=>∃v,e=.returned v/\Rows.soundAgainSpec.post enc Tryz.checked.prog Tryz.f3 false true false false W #[.slice C len cap] v k:=by
  intro h;refine Calls.mono h ?_
  rintro e k ⟨rfl,O⟩
  refine⟨_,rfl,[M],[],p,[],p,[],l,?_,?_,rfl,O.frame _,nofun⟩
  ·exact trodAll_mk1 (shut_bool Tryz.underlying4 _)
  exact trodAll_mk1 (m _ O)
 refine close ?_;rcases open_ints Tryz.underlying22 Tryz.underlying3 c3 Y with ⟨g,F⟩|⟨a,P,Q,zs,g,_,hl,hm,u,F,o,G⟩
 ·simp[Value.cells]at g;obtain⟨rfl,rfl,rfl⟩:=g;exact fm lm K [] rfl (by omega) (by omega) (λz u=>by cases u) (.inl rfl)
 simp[Value.cells]at g;obtain⟨rfl,rfl,rfl⟩:=g;simp only[if_true]at u;have y:a.spot=none:=by
  simp only[Value.okWide,Tryz.underlying22,Cell.okWide,Cell.ok,World.has]at s;exact s.2.2.2.1
 obtain⟨b,off,R⟩:=a;simp only at y;subst y;refine fm lm K (zs.take len) (by simp;omega) hl (by omega) (λz u=>j8 (G z (List.mem_of_mem_take u))) (.inr ⟨b,off,rfl,?_⟩);intro i n A;rw[List.getElem?_take]at A;split at A
 ·have I:=(List.getElem?_eq_some_iff.1 A).1;have:=o i I;rw[add_plain]at this;rw[this];simp[List.getD,A]
 cases A
theorem soundAgain_row_holds:Rows.SoundAgainSaid:=
 OpenClaim.holds_of_wide 3 Tryz.f3 rfl rfl rfl rfl rfl rfl rfl ⟨rfl,rfl,rfl,rfl,rfl⟩ rfl rfl rfl rfl rfl C7 Tryz.func3 z8 D7 E7
  (λc a H b _=>v8 c a H b)
theorem soundAgain_card_holds:Rows.SoundAgainCardSaid:=
 Claim7.holds_tied_plain_at .later [] [.data,.data,.data] true (true,"48a2bc2aee0a9167c908f97c2feed9ef728ee7be4c2edd92120f41cd7461b822") true
  soundAgain_row_holds (λ_ h=>by cases h) F7 (λ_ h=>by cases h) soundAgain_row_tie rfl ⟨rfl,rfl⟩ G7 rfl
  (λf fn d b=>by
   obtain rfl:f=3:=Option.some.inj (u_fn.symm.trans d)|>.symm;obtain rfl:fn=Tryz.f3:=(Option.some.inj (Tryz.func3.symm.trans b)).symm;exact⟨L7,λj t c=>by
    rw[Tryz.params3]at c;have e:t∈[22]:=by simpa using Array.mem_of_getElem? c
    exact(show Tryz.prog.wantsStandIn t=false by simpa using List.all_eq_true.1 M7 t e)⟩)
  K7
#print axioms soundAgain_card_holds
end Go.Proofs.YtmihmecnjjmdgaaGreatDoor
