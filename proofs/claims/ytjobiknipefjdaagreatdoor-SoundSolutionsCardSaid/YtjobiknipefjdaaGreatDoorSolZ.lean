/- The card of the law. -/
import Derived.Test.YtjobiknipefjdaaGreatDoorSolY
import Derived.Test.YtjobiknipefjdaaGreatDoorSolFf
import Derived.Test.YtjobiknipefjdaaGreatDoorSolFg
import Derived.Test.YtjobiknipefjdaaGreatDoorSolFh
import Derived.Test.YtjobiknipefjdaaGreatDoorSolFi
import Derived.Test.YtjobiknipefjdaaGreatDoorSolC11
set_option linter.all false
namespace Go.Proofs.YtjobiknipefjdaaGreatDoor
open Go Go.Lg Go.ChangeShapes Go.WideShapes Go.ChangeAt Go.WideMaps Go.WideElems Go.RowKit
set_option maxRecDepth 100000
def KB{a b:Bool}(h:a=true)(k:b=true):(a&&b)=true:=by rw[h,k];rfl
def v7:joinedFacts Tryz.pinned.checked.prog 3 Tryz.f3 Rows.soundSolutionsSpec Rows.soundSolutionsRow=true:=KB (KB (KB (KB (KB (KB (KB (KB (KB (KB (KB (KB (KB (KB (KB (KB (KB (KB (KB (KB (KB (KB (KB (KB (KB (KB (KB (KB (KB (KB (KB C5 D5) F5) G5) I5) J5) K5) L5) M5) N5) O5) Q5) R5) S5) T5) U5) V5) X5) Y5) Z5) z6) j6) v6) y6) d6) m6) r6) s6) i6) A6) B6) C6
def dm(L:List Int)(h:∀z∈L,-9223372036854775808<=z/\z<=9223372036854775807):AC Tryz.prog gl 3 [.pv (.slice (DW L))] [] (.ret (.pv (.bool true))) []:=Xt h
def w7{n:Int}(h:(Lit.int .i64 n).wf=true): -9223372036854775808<=n/\n<=9223372036854775807:=by
 simp[Lit.wf,IntKind.min,IntKind.max,IntKind.signed,IntKind.bits]at h;omega
def k7(os:Os)(d:os.Started)(H:Type)(enc:TypeId×Value->H):
  ReturnsInHanded {} Tryz.checked os 3 .any (λw args=>(Rows.soundSolutionsSpec.pre enc Tryz.prog Tryz.f3 [] false w args/\laidMetH Tryz.prog qK w)/\sizedMet enc Tryz.prog Tryz.f3 (OpenSpec.ofChange Rows.soundSolutionsSpec) false w args)
   (Rows.soundSolutionsSpec.post enc Tryz.prog Tryz.f3 false true false false):=by
 refine returnsInHanded_of_change_and (C:=Tryz.checked) (X:=λw _=>laidMetH Tryz.prog qK w) (λ_ _ _ S h=>h.of_heap S) own d (by kernel_rfl) Tryz.func3
  (ChangeSpec.witness_shaped (enc:=enc) (C:=Tryz.checked) (os:=os) (X:=λw _=>laidMetH Tryz.prog qK w) false (World.doorLaid Tryz.prog 400 os) #[.slice none 0 0] 8 rfl (World.shaped_of_RefB (by kernel_rfl) (by kernel_rfl)) (by kernel_rfl) (by kernel_rfl) (by kernel_rfl) (j7 os _)) ?_
 intro W base args T gs B f J _ _ K _;have c:∀(j:Nat)t v,Tryz.f3.params[j]? =some t->args[j]? =some v->Value.okWide Tryz.prog W .any base t v:=f;have l:=J;obtain⟨p,q,r,U,rfl,V,X⟩:=J;have L:DataW.TrodAll enc Tryz.prog W 0 (λ_=>true) true Tryz.f3.params.toList args.toList T p:=r;rw[Tryz.params3]at L c;obtain⟨v0,M,rfl,rfl,N⟩:=trodAll_one L;obtain⟨rfl,rfl⟩:=trodVars_none U;obtain⟨C,len,cap,rfl⟩:=okWide_slice Tryz.underlying22 (c 0 22 v0 rfl rfl);have D:=N;obtain⟨fuel,Y⟩:=N;have s:=c 0 22 _ rfl rfl;clear r f c;simp only[List.append_nil]at l;have E:∀x∈p,x.block<W.heap.size:=λx F=>by simpa using l.lt x F
 have m:∀(k:World),Below W.heap.size W k->DataW.Trod enc Tryz.prog k 0 (λb=>decide (b<W.heap.size)) true 22 (.slice C len cap) M p:=
  λk Z=>Below.trod O6 (by kernel_rfl) (of_decide_eq_true (by kernel_rfl)) D Z E
 have close:(Calls Tryz.prog 3 #[.slice C len cap] W λe k=>e=.returned (.bool true)/\Below W.heap.size W k)->Calls Tryz.checked.prog 3 #[.slice C len cap] W λe k=>∃v,e=.returned v/\Rows.soundSolutionsSpec.post enc Tryz.checked.prog Tryz.f3 false true false false W #[.slice C len cap] v k:=by
  intro h;refine Calls.mono h ?_
  rintro e k ⟨rfl,O⟩
  refine⟨_,rfl,[M],[],p,[],p,[],l,?_,?_,rfl,O.frame _,nofun⟩
  ·exact trodAll_mk1 (shut_bool Tryz.underlying4 _)
  exact trodAll_mk1 (m _ O)
 refine close ?_;rcases open_ints Tryz.underlying22 Tryz.underlying3 c3 Y with ⟨g,F⟩|⟨a,P,Q,zs,g,_,hl,hm,u,F,o,G⟩
 ·simp[Value.cells]at g;obtain⟨rfl,rfl,rfl⟩:=g;exact bm dm K [] rfl (by omega) (by omega) (λz u=>by cases u) (.inl rfl)
 simp[Value.cells]at g;obtain⟨rfl,rfl,rfl⟩:=g;simp only[if_true]at u;have y:a.spot=none:=by
  simp only[Value.okWide,Tryz.underlying22,Cell.okWide,Cell.ok,World.has]at s;exact s.2.2.2.1
 obtain⟨b,off,R⟩:=a;simp only at y;subst y;refine bm dm K (zs.take len) (by simp;omega) hl (by omega) (λz u=>w7 (G z (List.mem_of_mem_take u))) (.inr ⟨b,off,rfl,?_⟩);intro i n A;rw[List.getElem?_take]at A;split at A
 ·have I:=(List.getElem?_eq_some_iff.1 A).1;have:=o i I;rw[add_plain]at this;rw[this];simp[List.getD,A]
 cases A
theorem soundSolutions_row_holds:Rows.SoundSolutionsSaid:=
 OpenClaim.holds_of_wide 3 Tryz.f3 rfl rfl rfl rfl rfl rfl rfl ⟨rfl,rfl,rfl,rfl,rfl⟩ rfl rfl rfl rfl rfl D6 Tryz.func3 v7 E6 F6
  (λc a H b _=>k7 c a H b)
theorem soundSolutions_card_holds:Rows.SoundSolutionsCardSaid:=
 Claim7.holds_tied_plain_at .later [] [.data,.data,.data] true (true,"9cb5f7fe13e9259f8a6a61244843c5d5c9dfe7060866632f9fa9dc91c4c02fe5") true
  soundSolutions_row_holds (λ_ h=>by cases h) G6 (λ_ h=>by cases h) soundSolutions_row_tie rfl ⟨rfl,rfl⟩ I6 rfl
  (λf fn c a=>by
   obtain rfl:f=3:=Option.some.inj (u_fn.symm.trans c)|>.symm;obtain rfl:fn=Tryz.f3:=(Option.some.inj (Tryz.func3.symm.trans a)).symm;exact⟨M6,λj t b=>by
    rw[Tryz.params3]at b;have d:t∈[22]:=by simpa using Array.mem_of_getElem? b
    exact(show Tryz.prog.wantsStandIn t=false by simpa using List.all_eq_true.1 N6 t d)⟩)
  L6
#print axioms soundSolutions_card_holds
end Go.Proofs.YtjobiknipefjdaaGreatDoor
