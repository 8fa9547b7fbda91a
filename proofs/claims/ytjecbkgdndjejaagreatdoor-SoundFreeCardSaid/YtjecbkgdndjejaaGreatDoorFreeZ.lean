/- The law SoundFree as its card says it: the proof that a term realizes uses no variable; no conditions but those of the card. -/
import Derived.Test.YtjecbkgdndjejaaGreatDoorFreeY
import Derived.Test.YtjecbkgdndjejaaGreatDoorFreeFf
import Derived.Test.YtjecbkgdndjejaaGreatDoorFreeFg
import Derived.Test.YtjecbkgdndjejaaGreatDoorFreeFh
import Derived.Test.YtjecbkgdndjejaaGreatDoorFreeFi
import Derived.Test.YtjecbkgdndjejaaGreatDoorFreeC11
set_option linter.all false
namespace Go.Proofs.YtjecbkgdndjejaaGreatDoor
open Go Go.Lg Go.ChangeShapes Go.WideShapes Go.ChangeAt Go.WideMaps Go.WideElems Go.RowKit
set_option maxRecDepth 100000
def MB{a b:Bool}(h:a=true)(k:b=true):(a&&b)=true:=by rw[h,k];rfl
def R7:joinedFacts Tryz.pinned.checked.prog 3 Tryz.f3 Rows.soundFreeSpec Rows.soundFreeRow=true:=MB (MB (MB (MB (MB (MB (MB (MB (MB (MB (MB (MB (MB (MB (MB (MB (MB (MB (MB (MB (MB (MB (MB (MB (MB (MB (MB (MB (MB (MB (MB A6 B6) C6) D6) E6) F6) G6) I6) J6) K6) L6) M6) N6) O6) P6) Q6) R6) S6) T6) U6) V6) W6) X6) Y6) Z6) z7) j7) v7) k7) y7) u7) b7
def zm(L:List Int)(h:∀z∈L,-9223372036854775808<=z/\z<=9223372036854775807):AC Tryz.prog gl 3 [.pv (.slice (BW L))] [] (.ret (.pv (.bool true))) []:=Mu h
def S7{n:Int}(h:(Lit.int .i64 n).wf=true): -9223372036854775808<=n/\n<=9223372036854775807:=by
 simp[Lit.wf,IntKind.min,IntKind.max,IntKind.signed,IntKind.bits]at h;omega
def T7(s:Os)(f:s.Started)(H:Type)(c:TypeId×Value->H):
  ReturnsInHanded {} Tryz.checked s 3 .any (λw args=>(Rows.soundFreeSpec.pre c Tryz.prog Tryz.f3 [] false w args/\laidMetH Tryz.prog aK w)/\sizedMet c Tryz.prog Tryz.f3 (OpenSpec.ofChange Rows.soundFreeSpec) false w args)
   (Rows.soundFreeSpec.post c Tryz.prog Tryz.f3 false true false false):=by
 refine returnsInHanded_of_change_and (C:=Tryz.checked) (X:=λw _=>laidMetH Tryz.prog aK w) (λ_ _ _ V h=>h.of_heap V) own f (by kernel_rfl) Tryz.func3
  (ChangeSpec.witness_shaped (enc:=c) (C:=Tryz.checked) (os:=s) (X:=λw _=>laidMetH Tryz.prog aK w) false (World.doorLaid Tryz.prog 400 s) #[.slice none 0 0] 8 rfl (World.shaped_of_RefB (by kernel_rfl) (by kernel_rfl)) (by kernel_rfl) (by kernel_rfl) (by kernel_rfl) (Q7 s _)) ?_
 intro W base args X gs D g L _ _ M _;have d:∀(j:Nat)t v,Tryz.f3.params[j]? =some t->args[j]? =some v->Value.okWide Tryz.prog W .any base t v:=g;have m:=L;obtain⟨p,q,u,Y,rfl,Z,hnd⟩:=L;have N:DataW.TrodAll c Tryz.prog W 0 (λ_=>true) true Tryz.f3.params.toList args.toList X p:=u;rw[Tryz.params3]at N d;obtain⟨v0,O,rfl,rfl,P⟩:=trodAll_one N;obtain⟨rfl,rfl⟩:=trodVars_none Y;obtain⟨E,len,cap,rfl⟩:=okWide_slice Tryz.underlying22 (d 0 22 v0 rfl rfl);have F:=P;obtain⟨Q,hf⟩:=P;have y:=d 0 22 _ rfl rfl;clear u g d;simp only[List.append_nil]at m;have G:∀x∈p,x.block<W.heap.size:=λx I=>by simpa using m.lt x I
 have o:∀(l:World),Below W.heap.size W l->DataW.Trod c Tryz.prog l 0 (λb=>decide (b<W.heap.size)) true 22 (.slice E len cap) O p:=
  λl hn=>Below.trod D7 (by kernel_rfl) (of_decide_eq_true (by kernel_rfl)) F hn G
 have close:(Calls Tryz.prog 3 #[.slice E len cap] W λe l=>e=.returned (.bool true)/\Below W.heap.size W l)->Calls Tryz.checked.prog 3 #[.slice E len cap] W λe l=>∃v,e=.returned v/\Rows.soundFreeSpec.post c Tryz.checked.prog Tryz.f3 false true false false W #[.slice E len cap] v l:=by
  intro h;refine Calls.mono h ?_
  rintro e l ⟨rfl,R⟩
  refine⟨_,rfl,[O],[],p,[],p,[],m,?_,?_,rfl,R.frame _,nofun⟩
  ·exact trodAll_mk1 (shut_bool Tryz.underlying4 _)
  exact trodAll_mk1 (o _ R)
 refine close ?_;rcases open_ints Tryz.underlying22 Tryz.underlying3 c3 hf with ⟨k,I⟩|⟨a,S,T,zs,k,_,hl,hm,A,I,r,J⟩
 ·simp[Value.cells]at k;obtain⟨rfl,rfl,rfl⟩:=k;exact qm zm M [] rfl (by omega) (by omega) (λz A=>by cases A) (.inl rfl)
 simp[Value.cells]at k;obtain⟨rfl,rfl,rfl⟩:=k;simp only[if_true]at A;have B:a.spot=none:=by
  simp only[Value.okWide,Tryz.underlying22,Cell.okWide,Cell.ok,World.has]at y;exact y.2.2.2.1
 obtain⟨b,off,U⟩:=a;simp only at B;subst B;refine qm zm M (zs.take len) (by simp;omega) hl (by omega) (λz A=>S7 (J z (List.mem_of_mem_take A))) (.inr ⟨b,off,rfl,?_⟩);intro i n C;rw[List.getElem?_take]at C;split at C
 ·have K:=(List.getElem?_eq_some_iff.1 C).1;have:=r i K;rw[add_plain]at this;rw[this];simp[List.getD,C]
 cases C
theorem soundFree_row_holds:Rows.SoundFreeSaid:=
 OpenClaim.holds_of_wide 3 Tryz.f3 rfl rfl rfl rfl rfl rfl rfl ⟨rfl,rfl,rfl,rfl,rfl⟩ rfl rfl rfl rfl rfl d7 Tryz.func3 R7 l7 m7
  (λc a H b _=>T7 c a H b)
theorem soundFree_card_holds:Rows.SoundFreeCardSaid:=
 Claim7.holds_tied_plain_at .later [] [.data,.data,.data] true (true,"ba1858b7f9684e90b4aaf958dcbc0758322f9ede05c77f9d461d61c87fee309b") true
  soundFree_row_holds (λ_ h=>by cases h) r7 (λ_ h=>by cases h) soundFree_row_tie rfl ⟨rfl,rfl⟩ s7 rfl
  (λf fn hf hfn=>by
   obtain rfl:f=3:=Option.some.inj (u_fn.symm.trans hf)|>.symm;obtain rfl:fn=Tryz.f3:=(Option.some.inj (Tryz.func3.symm.trans hfn)).symm;exact⟨B7,λj t ht=>by
    rw[Tryz.params3]at ht;have hm:t∈[22]:=by simpa using Array.mem_of_getElem? ht
    exact(show Tryz.prog.wantsStandIn t=false by simpa using List.all_eq_true.1 C7 t hm)⟩)
  A7
#print axioms soundFree_card_holds
end Go.Proofs.YtjecbkgdndjejaaGreatDoor
