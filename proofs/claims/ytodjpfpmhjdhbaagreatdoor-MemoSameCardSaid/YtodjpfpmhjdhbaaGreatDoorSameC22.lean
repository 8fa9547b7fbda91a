/- Part of the proof: contracts of the types, terms, the generator and the compiler; no conditions. -/
import Derived.Test.YtodjpfpmhjdhbaaGreatDoorSameC21
import Derived.Test.YtodjpfpmhjdhbaaGreatDoorSameC19
set_option linter.unusedVariables false
set_option linter.unusedSimpArgs false
set_option linter.unusedSectionVars false
namespace Go.Proofs.YtodjpfpmhjdhbaaGreatDoor
open Go.Lg
theorem enC22 {P Q : Prop} (h : P := by simp [retIs,resV,resL,resOne,mkTup,getS,getO,rdV,mkAgg,unL,V.un,TI.isAgg,XX_T,tt47,Tryz.f144,Tryz.f123]) (k : Q := by simp [subO,getO,tt47,Tryz.f144,Tryz.f123]) : P ∧ Q := ⟨h,k⟩
end Go.Proofs.YtodjpfpmhjdhbaaGreatDoor
/- The machine of ref38: rounds of a fold. -/
namespace Go.Proofs.YtodjpfpmhjdhbaaGreatDoor
open Go.Lg
set_option maxRecDepth 10000
set_option maxHeartbeats 4000000
inductive FdS (c:List Ins) (l d:Nat) (f:It) (L:List Nat):Nat→It→Nat→Oc→Prop
 | done {b s} : FdS c l d f L 0 b s (.ok b s)
 | err1 {j h b s e s'} : L[j]? = some h→EnC c l f (.num h) s d (.err e s')→0<e→FdS c l d f L (j+1) b s (.err e s')
 | err2 {j h b s g s1 e s'} : L[j]? = some h→EnC c l f (.num h) s d (.ok g s1)→EnC c l g (.list (L.drop (j+1))) s1 d (.err e s')→0<e→FdS c l d f L (j+1) b s (.err e s')
 | err3 {j h b s g s1 g' s2 e s'} : L[j]? = some h→EnC c l f (.num h) s d (.ok g s1)→EnC c l g (.list (L.drop (j+1))) s1 d (.ok g' s2)→EnC c l g' b s2 d (.err e s')→0<e→FdS c l d f L (j+1) b s (.err e s')
 | step {j h b s g s1 g' s2 b' s3 o} : L[j]? = some h→EnC c l f (.num h) s d (.ok g s1)→EnC c l g (.list (L.drop (j+1))) s1 d (.ok g' s2)→EnC c l g' b s2 d (.ok b' s3)→FdS c l d f L j b' s3 o→FdS c l d f L (j+1) b s o
noncomputable def fdI2 (c:List Ins) (l d:Nat) (f:It) (L:List Nat) (j:Nat) (b:It) (s:Nat):St :=
 ⟨[(0,.loc 970 0),(3,.pv (.slice (nuC L))),(5,.loc 978 0),(6,.pv (.ptr (rcC f))),(8,.loc 8 0),(9,.pv (.int 0)),(10,.pv (.int ((j:Int)-1)))],[(970,mR c l s d),(978,.box (pvL (rcC b))),(8,.box zC5)],[8,978,970]⟩
theorem nuC_all (L:List Nat):∀ q∈nuC L,q.length=1:=by
 intro q hq
 simp only [nuC,List.mem_map] at hq
 obtain ⟨k,_,rfl⟩:=hq
 rfl
theorem FdS.le {c:List Ins} {l d:Nat} {f:It} {L:List Nat} {j s:Nat} {b:It} {o:Oc} (h:FdS c l d f L j b s o):j≤L.length:=by
 have key:∀ {j h:Nat},L[j]? = some h→j+1≤L.length:=fun h=>(List.getElem?_eq_some_iff.1 h).1
 cases h with
 | done=>omega
 | err1 h1 _ _=>exact key h1
 | err2 h1 _ _ _=>exact key h1
 | err3 h1 _ _ _ _=>exact key h1
 | step h1 _ _ _ _=>exact key h1
theorem fd_facts (L:List Nat) (j hh:Nat) (h:L[j]? = some hh) (hL:L.length≤100000):AC Tryz.prog gl 141 [.pv (.int hh)] [] (.ret (.pv (.agg [.int 1,.int hh,.int 0,.slice [],.slice []]))) []∧(nuC L).getD j []=[.int hh]∧(j:Int)<(nuC L).length ∧
  List.drop ((j:Int)+1).toNat (nuC L)=nuC (L.drop (j+1))∧(∀ q∈nuC (L.drop (j+1)),q.length=1)∧AC Tryz.prog gl 142 [.pv (.slice (nuC (L.drop (j+1))))] [] (.ret (.pv (.agg [.int 2,.int 0,.int 0,.slice (nuC (L.drop (j+1))),.slice []]))) [] ∧
  (0:Int)≤(j:Int)+1∧(j:Int)+1≤(nuC L).length∧(nuC (L.drop (j+1))).length≤100000:=by
 have hlt:=(List.getElem?_eq_some_iff.1 h).1
 have hlen:(nuC L).length=L.length:=by simp [nuC]
 refine ⟨num38_ok hh,?_,by omega,?_,nuC_all _,lst38_ok _,by omega,by omega,by simp [nuC];omega⟩
 ·simp only [nuC,List.getD_eq_getElem?_getD,List.getElem?_map,h,Option.map_some,Option.getD_some]
 ·rw [show ((j:Int)+1).toNat=j+1 by omega]
  simp only [nuC,List.map_drop]
section
variable (c:List Ins) (l d:Nat)
theorem fold_of (b f:It) (L:List Nat) (s:Nat) (o:Oc) (hL:L.length≤100000) (h:FdS c l d f L L.length b s o) :
  AC Tryz.prog gl 144 [.loc 970 0,.pv (.agg (rcC b)),.pv (.agg (rcC f)),.pv (.slice (nuC L))] [(970,mR c l s d)] (.ret (.pv (ocV o))) [(970,ocM c l d o)]:=by
 refine body [(5,.box 978)] Tryz.func144 Tryz.ntmps144 ?_ (hna:=by simp [subL,namesL,V.names,namesOb,Ob.names,keysO,mR]) (hno:=by cases o <;> simp [subL,Out.names,V.names,namesL,namesOb,Ob.names,keysO,ocM,mR,ocV])
 have hw0:∀ (S:List (Nat × V)) (U:List Nat),slotsLe (fdI2 c l d f L L.length b s).slots S→Weak (XX [(5,.box 978)] 64 [970]) ⟨S,(fdI2 c l d f L L.length b s).objs,U⟩ (fdI2 c l d f L L.length b s):=by
  intro S U hS
  obtain ⟨kx,nx,ax,sx,tx,ex⟩:=rcC_shape b
  refine ⟨hS,by simp [fdI2,subO,getO,mR,zC5],by simp [fdI2,subL,namesSl,V.names,namesOb,Ob.names,namesL,mR,zC5,XX_given,ex,pvL]⟩
 have hM:mR c l s d = .box [.pv (.slice (c.map insP)),.pv (.int l),.pv (.int s),.pv (.int d),.pv (.bool false),.pv .nils,.pv (.int 0)]:=rfl
 obtain ⟨kf,nf,af,sf,tf,ef⟩:=rcC_shape f
 obtain ⟨kb,nb,ab,sb,tb,eb⟩:=rcC_shape b
 have hlen:(nuC L).length=L.length:=by simp [nuC]
 have hnl:(nuC L).length≤100000:=by omega
 have hla:(L.length:Int)=((nuC L).length:Int):=by omega
 have hal:=nuC_all L
 simp only [fdI2,hM,zC5,ef,eb,hla,pvL,List.map_cons,List.map_nil,Int.cast_ofNat_Int] at hw0 ⊢
 have h0:=h
 clear h hlen hla
 generalize hnc:nuC L=nc at hw0 hnl hal ⊢
 refine gg ?_
 refine AWP.loop (ι:={ q:Nat × It × Nat // FdS c l d f L q.1 q.2.1 q.2.2 o }) (fun q=>fdI2 c l d f L q.1.1 q.1.2.1 q.1.2.2) (fun q=>q.1.1) ⟨(L.length,b,s),h0⟩ ?_ ?_
 ·have hla:(L.length:Int)=(nc.length:Int):=by rw [← hnc];simp [nuC]
  simp only [fdI2,hM,zC5,ef,eb,hla,hnc,pvL,List.map_cons,List.map_nil,Int.cast_ofNat_Int]
  exact hw0 _ _ (by simp [slotsLe,getS])
 clear hw0 hM eb h0
 subst hnc
 rintro ⟨⟨j0,r,u⟩,h⟩
 simp only at h ⊢
 have hj0:=h.le
 obtain ⟨kr,nr,ar,sr,tr,er⟩:=rcC_shape r
 cases h with
 | done =>
  have k1:¬ (0:Int) ≤ -1:=by omega
  have e0:((0:Nat):Int)-1 = -1:=by omega
  simp only [fdI2,mR,zC5,zC,ocV,ocM,ef,er,e0,pvL,List.map_cons,List.map_nil]
  generalize c.map insP=cd at *
  generalize nuC L=nc at *
  clear ef er e0
  refine gg ?_
  exact enC22
 | @err1 j hh _ _ e s' hg0 hc1 he =>
  have k1:(0:Int)≤(j:Int):=by omega
  have e0:((j+1:Nat):Int)-1=(j:Int):=by omega
  obtain ⟨h141,hgj,hjl,hdr,hal2,h142,k5,k6,k7⟩:=fd_facts L j hh hg0 hL
  have k2:¬ (e:Int)=0:=by omega
  simp only [EnC,ocV,ocM,mR,zC,rcC,ef] at hc1
  simp only [fdI2,mR,zC5,zC,ocV,ocM,ef,er,e0,pvL,List.map_cons,List.map_nil]
  generalize c.map insP=cd at *
  generalize nuC (L.drop (j+1))=nd at *
  generalize nuC L=nc at *
  clear ef er e0 hg0 hj0 hL
  refine gg ?_
  refine call h141 ?_
  refine gg ?_
  refine call hc1 ?_
  refine gg ?_
  refine ⟨by rfl,?_⟩
  refine gg ?_
  exact enC22
 | @err2 j hh _ _ g s1 e s' hg0 hc1 hc2 he =>
  have k1:(0:Int)≤(j:Int):=by omega
  have e0:((j+1:Nat):Int)-1=(j:Int):=by omega
  obtain ⟨h141,hgj,hjl,hdr,hal2,h142,k5,k6,k7⟩:=fd_facts L j hh hg0 hL
  have k2:¬ (e:Int)=0:=by omega
  obtain ⟨kg,ng,ag,sg,tg,eg⟩:=rcC_shape g
  simp only [EnC,ocV,ocM,mR,zC,rcC,ef,eg] at hc1 hc2
  simp only [fdI2,mR,zC5,zC,ocV,ocM,ef,er,e0,pvL,List.map_cons,List.map_nil]
  generalize c.map insP=cd at *
  generalize nuC (L.drop (j+1))=nd at *
  generalize nuC L=nc at *
  clear ef er e0 eg hg0 hj0 hL
  refine gg ?_
  refine call h141 ?_
  refine gg ?_
  refine call hc1 ?_
  refine gg ?_
  refine ⟨by rfl,?_⟩
  refine gg ?_
  refine call h142 ?_
  refine gg ?_
  refine call hc2 ?_
  refine gg ?_
  refine ⟨by rfl,?_⟩
  refine gg ?_
  exact enC22
 | @err3 j hh _ _ g s1 g' s2 e s' hg0 hc1 hc2 hc3 he =>
  have k1:(0:Int)≤(j:Int):=by omega
  have e0:((j+1:Nat):Int)-1=(j:Int):=by omega
  obtain ⟨h141,hgj,hjl,hdr,hal2,h142,k5,k6,k7⟩:=fd_facts L j hh hg0 hL
  have k2:¬ (e:Int)=0:=by omega
  obtain ⟨kg,ng,ag,sg,tg,eg⟩:=rcC_shape g
  obtain ⟨kv,nv,av,sv,tv,ev⟩:=rcC_shape g'
  simp only [EnC,ocV,ocM,mR,zC,rcC,ef,eg,ev,er] at hc1 hc2 hc3
  simp only [fdI2,mR,zC5,zC,ocV,ocM,ef,er,e0,pvL,List.map_cons,List.map_nil]
  generalize c.map insP=cd at *
  generalize nuC (L.drop (j+1))=nd at *
  generalize nuC L=nc at *
  clear ef er e0 eg ev hg0 hj0 hL
  refine gg ?_
  refine call h141 ?_
  refine gg ?_
  refine call hc1 ?_
  refine gg ?_
  refine ⟨by rfl,?_⟩
  refine gg ?_
  refine call h142 ?_
  refine gg ?_
  refine call hc2 ?_
  refine gg ?_
  refine ⟨by rfl,?_⟩
  refine gg ?_
  refine call hc3 ?_
  refine gg ?_
  exact enC22
 | @step j hh _ _ g s1 g' s2 b' s3 _ hg0 hc1 hc2 hc3 hrest =>
  have k1:(0:Int)≤(j:Int):=by omega
  have e0:((j+1:Nat):Int)-1=(j:Int):=by omega
  obtain ⟨h141,hgj,hjl,hdr,hal2,h142,k5,k6,k7⟩:=fd_facts L j hh hg0 hL
  obtain ⟨kg,ng,ag,sg,tg,eg⟩:=rcC_shape g
  obtain ⟨kv,nv,av,sv,tv,ev⟩:=rcC_shape g'
  obtain ⟨kq,nq,aq,sq,tq,eq⟩:=rcC_shape b'
  have hn0:∀ σ',Weak (XX [(5,.box 978)] 64 [970]) σ' (fdI2 c l d f L j b' s3)→∃ q : { q:Nat × It × Nat // FdS c l d f L q.1 q.2.1 q.2.2 o },q.1.1<j+1∧Weak (XX [(5,.box 978)] 64 [970]) σ' (fdI2 c l d f L q.1.1 q.1.2.1 q.1.2.2):=fun σ' hw=>⟨⟨(j,b',s3),hrest⟩,by simp only;omega,hw⟩
  simp only [EnC,ocV,ocM,mR,zC,rcC,ef,eg,ev,er,eq] at hc1 hc2 hc3
  generalize hPP:(fun σ' => ∃ q : { q:Nat × It × Nat // FdS c l d f L q.1 q.2.1 q.2.2 o },q.1.1<j+1∧Weak (XX [(5,.box 978)] 64 [970]) σ' (fdI2 c l d f L q.1.1 q.1.2.1 q.1.2.2))=PP
  have hn':∀ σ',Weak (XX [(5,.box 978)] 64 [970]) σ' (fdI2 c l d f L j b' s3)→PP σ':=by
   intro σ' h
   rw [← hPP]
   exact hn0 σ' h
  clear hn0 hPP hrest
  simp only [fdI2,mR,zC5,zC,ocV,ocM,ef,er,eq,e0,pvL,List.map_cons,List.map_nil] at hn' ⊢
  generalize c.map insP=cd at *
  generalize nuC (L.drop (j+1))=nd at *
  generalize nuC L=nc at *
  clear ef er e0 eg ev eq hg0 hj0 hL
  refine gg ?_
  refine call h141 ?_
  refine gg ?_
  refine call hc1 ?_
  refine gg ?_
  refine ⟨by rfl,?_⟩
  refine gg ?_
  refine call h142 ?_
  refine gg ?_
  refine call hc2 ?_
  refine gg ?_
  refine ⟨by rfl,?_⟩
  refine gg ?_
  refine call hc3 ?_
  refine gg ?_
  refine hn' _ ⟨?_,?_,?_⟩
  ·simp [slotsLe,getS]
  ·simp [subO,getO]
  ·simp [subL,namesSl,V.names,namesOb,Ob.names,namesL,XX_given]
end
end Go.Proofs.YtodjpfpmhjdhbaaGreatDoor
/- The machine of ref38: operations that call functions. -/
namespace Go.Proofs.YtodjpfpmhjdhbaaGreatDoor
open Go.Lg
set_option maxRecDepth 10000
set_option maxHeartbeats 4000000
section
variable (c:List Ins) (l s d:Nat) (vs:List It)
theorem do_app (f x:It) (o:Oc) (h:EnC c l f x s d o):DoC c l 3 0 [f,x] vs s d o:=by
 obtain ⟨kf,nf,af,sf,tf,ef⟩:=rcC_shape f
 obtain ⟨kx,nx,ax,sx,tx,ex⟩:=rcC_shape x
 cases o with
 | ok y s' =>
  obtain ⟨ky,ny,ay,sy,ty,ey⟩:=rcC_shape y
  simp only [EnC,DoC,ocV,ocM,zC] at *
  simp only [mR,List.map_cons,List.map_nil,ef,ex,ey,Int.cast_ofNat_Int] at *
  generalize rcL vs=cc at *
  generalize c.map insP=cd at *
  clear ef ex ey
  refine body [] Tryz.func123 Tryz.ntmps123 ?_
  refine gg ?_
  refine call h ?_
  refine gg ?_
  refine ⟨by rfl,?_⟩
  refine gg ?_
  exact enC22
 | err e s' =>
  simp only [EnC,DoC,ocV,ocM,zC] at *
  simp only [mR,List.map_cons,List.map_nil,ef,ex,Int.cast_ofNat_Int] at *
  generalize rcL vs=cc at *
  generalize c.map insP=cd at *
  clear ef ex
  refine body [] Tryz.func123 Tryz.ntmps123 ?_
  refine gg ?_
  refine call h ?_
  refine gg ?_
  refine ⟨by rfl,?_⟩
  refine gg ?_
  exact enC22
theorem do_rec (b:It) (q:Nat) (ws:List It) (n:Nat) (o:Oc) (h:AC Tryz.prog gl 143 [.loc 970 0,.pv (.agg (rcC b)),.pv (.agg (rcC (.fn q ws))),.pv (.int n)] [(970,mR c l s d)] (.ret (.pv (ocV o))) [(970,ocM c l d o)]):DoC c l 6 0 [b,.fn q ws,.num n] vs s d o:=by
 obtain ⟨kb,nb,ab,sb,tb,eb⟩:=rcC_shape b
 cases o with
 | ok y s' =>
  obtain ⟨ky,ny,ay,sy,ty,ey⟩:=rcC_shape y
  simp only [DoC,ocV,ocM,zC] at *
  simp only [mR,List.map_cons,List.map_nil,eb,rcC,ey,Int.cast_ofNat_Int] at *
  generalize rcL vs=cc at *
  generalize rcL ws=cw at *
  generalize c.map insP=cd at *
  clear eb ey
  refine body [] Tryz.func123 Tryz.ntmps123 ?_
  refine gg ?_
  refine call h ?_
  refine gg ?_
  refine ⟨by rfl,?_⟩
  refine gg ?_
  exact enC22
 | err e s' =>
  simp only [DoC,ocV,ocM,zC] at *
  simp only [mR,List.map_cons,List.map_nil,eb,rcC,Int.cast_ofNat_Int] at *
  generalize rcL vs=cc at *
  generalize rcL ws=cw at *
  generalize c.map insP=cd at *
  clear eb
  refine body [] Tryz.func123 Tryz.ntmps123 ?_
  refine gg ?_
  refine call h ?_
  refine gg ?_
  refine ⟨by rfl,?_⟩
  refine gg ?_
  exact enC22
theorem do_fold (b:It) (q:Nat) (ws:List It) (L:List Nat) (o:Oc) (h:AC Tryz.prog gl 144 [.loc 970 0,.pv (.agg (rcC b)),.pv (.agg (rcC (.fn q ws))),.pv (.slice (nuC L))] [(970,mR c l s d)] (.ret (.pv (ocV o))) [(970,ocM c l d o)]):DoC c l 9 0 [b,.fn q ws,.list L] vs s d o:=by
 obtain ⟨kb,nb,ab,sb,tb,eb⟩:=rcC_shape b
 cases o with
 | ok y s' =>
  obtain ⟨ky,ny,ay,sy,ty,ey⟩:=rcC_shape y
  simp only [DoC,ocV,ocM,zC] at *
  simp only [mR,List.map_cons,List.map_nil,eb,rcC,ey,Int.cast_ofNat_Int] at *
  generalize rcL vs=cc at *
  generalize rcL ws=cw at *
  generalize nuC L=nc at *
  generalize c.map insP=cd at *
  clear eb ey
  refine body [] Tryz.func123 Tryz.ntmps123 ?_
  refine gg ?_
  refine call h ?_
  refine gg ?_
  refine ⟨by rfl,?_⟩
  refine gg ?_
  exact enC22
 | err e s' =>
  simp only [DoC,ocV,ocM,zC] at *
  simp only [mR,List.map_cons,List.map_nil,eb,rcC,Int.cast_ofNat_Int] at *
  generalize rcL vs=cc at *
  generalize rcL ws=cw at *
  generalize nuC L=nc at *
  generalize c.map insP=cd at *
  clear eb
  refine body [] Tryz.func123 Tryz.ntmps123 ?_
  refine gg ?_
  refine call h ?_
  refine gg ?_
  refine ⟨by rfl,?_⟩
  refine gg ?_
  exact enC22
end
end Go.Proofs.YtodjpfpmhjdhbaaGreatDoor
/- The machine of ref38 on typed programs: it fails by a limit, or comes to what the big steps say. -/
namespace Go.Proofs.YtodjpfpmhjdhbaaGreatDoor
open Go.Lg
def GoodR (c:List Ins) (l s d:Nat) (t:Ty) (B:Nat) (j:Jb):Oc→Prop
 | .ok x s'=>VT c x t∧Bd (B+s') x∧s'≤l ∧ ∃ k dd,s'=s+k∧d+dd≤1024∧BB c j x k dd true
 | .err e _=>e=4∨e=5
def BlkT (c:List Ins) (l B N:Nat):Prop:=∀ (p:Nat) (vs stk:List It) (s d:Nat) (g τs:List Ty) (t:Ty),l≤s+N→s≤l→d≤1024→CT c g p τs t→VTs c vs g→BdL (B+s) vs→vs.length≤5000→VTs c stk.reverse τs→BdL (B+s) stk→stk.length≤s →
 ∃ o,BlS c l vs d p stk s o∧GoodR c l s d t B (.blk p vs stk.reverse) o
theorem CT.at {c:List Ins} {g τs:List Ty} {p:Nat} {t:Ty} (h:CT c g p τs t):∃ op a,c[p]? = some (op,a):=by
 cases h <;> exact ⟨_,_,by assumption⟩
section
variable {c:List Ins} {l B:Nat} (hB:B+l≤100000) (hcode:∀ (p op a:Nat),c[p]? = some (op,a)→p≤1000000∧a≤1000000)
include hB hcode
theorem call_T {N:Nat} (hP:BlkT c l B N) {f x:It} {a t:Ty} {s d:Nat} (hN:l≤s+N) (hs:s≤l) (hd:d≤1024) (hf:VT c f (.fn a t)) (hx:VT c x a) (bf:Bd (B+s) f) (bx:Bd (B+s) x) :
  ∃ o,EnC c l f x s d o∧GoodR c l s d t B (.cal f x) o:=by
 obtain ⟨p,ws,g,rfl,hc,hv⟩:=hf.isFn
 simp only [Bd] at bf
 have hwl:=inside_len ws
 obtain ⟨op0,a0,h0⟩:=hc.at
 have hp:=(hcode _ _ _ h0).1
 by_cases hd2:d<1024
 ·obtain ⟨o,h1,h2⟩:=hP p (x::ws) [] s (d+1) (a::g) [] t hN hs (by omega) hc (.cons hx hv) ⟨bx,bf.1⟩ (by simp only [List.length_cons];omega) .nil trivial (Nat.zero_le _)
  have h3:=block_of c l (fun p op a h=>(hcode p op a h).1) (by omega) (x::ws) (d+1) p s o hp h1
  cases o with
  | ok y s' =>
   obtain ⟨g1,g2,g3,k,dd,g4,g5,g6⟩:=h2
   exact ⟨.ok y s',enter_ok c l p ws x y s s' d hd2 (by omega) h3,g1,g2,g3,k,dd+1,g4,by omega,.cal g6⟩
  | err e s' =>
   exact ⟨.err e s',enter_er c l p ws x e s s' d (by rcases h2 with rfl | rfl <;> omega) hd2 (by omega) h3,h2⟩
 ·exact ⟨.err 4 s,enter_full c l p ws x s d (by omega),.inl rfl⟩
theorem rc_T {N:Nat} (hP:BlkT c l B N) {f:It} {t:Ty} {n d s0:Nat} (hN:l≤s0+N) (hd:d≤1024) (hf:VT c f (.fn .nat (.fn t t))) (bf:Bd (B+s0) f) (hn:n≤B+s0) :
  ∀ m k b s,n-k≤m→k<n→s0≤s→s≤l→VT c b t→Bd (B+s) b→∃ o,RcS c l d f n k b s o∧GoodR c l s d t B (.rds f (.num k) ⟨f,k,none,n,b,[b]⟩) o:=by
 intro m
 induction m with
 | zero=>intro k b s h1 h2;omega
 | succ m ih =>
  intro k b s hm hk hs0 hs hb bb
  obtain ⟨o1,e1,g1⟩:=call_T hB hcode hP (f:=f) (x:=.num k) (s:=s) (d:=d) (by omega) hs hd hf .num (bf.mono (by omega)) (by simp only [Bd];omega)
  cases o1 with
  | err e s'=>exact ⟨_,.err1 hk e1 (by rcases g1 with rfl | rfl <;> omega),g1⟩
  | ok g s1 =>
   obtain ⟨t1,b1,l1,k1,d1,q1,q2,q3⟩:=g1
   have p1:=q3.pos
   obtain ⟨o2,e2,g2⟩:=call_T hB hcode hP (f:=g) (x:=b) (s:=s1) (d:=d) (by omega) l1 hd t1 hb b1 (bb.mono (by omega))
   cases o2 with
   | err e s'=>exact ⟨_,.err2 hk e1 e2 (by rcases g2 with rfl | rfl <;> omega),g2⟩
   | ok b' s2 =>
    obtain ⟨t2,b2,l2,k2,d2,q4,q5,q6⟩:=g2
    have p2:=q6.pos
    have r1:Rd.returned ⟨f,k,none,n,b,[b]⟩ g=some (some (g,b),⟨f,k,none,n,b,[]⟩):=rfl
    by_cases hkn:k+1=n
    ·subst hkn
     have r2:Rd.returned ⟨f,k,none,k+1,b,[]⟩ b'=some (none,⟨f,k+1,none,k+1,b',[]⟩):=by simp [Rd.returned]
     refine ⟨.ok b' s2,.step hk e1 e2 .done,t2,b2,l2,k1+k2,max d1 d2,by omega,by omega,?_⟩
     exact .more q3 r1 (.last q6 r2)
    ·obtain ⟨o3,e3,g3⟩:=ih (k+1) b' s2 (by omega) (by omega) (by omega) l2 t2 b2
     have r2:Rd.returned ⟨f,k,none,n,b,[]⟩ b'=some (some (f,.num (k+1)),⟨f,k+1,none,n,b',[b']⟩):=by
      simp [Rd.returned,Rd.begin,hkn]
     cases o3 with
     | err e s'=>exact ⟨_,.step hk e1 e2 e3,g3⟩
     | ok y s3 =>
      obtain ⟨t3,b3,l3,k3,d3,q7,q8,q9⟩:=g3
      exact ⟨_,.step hk e1 e2 e3,t3,b3,l3,k1+(k2+k3),max d1 (max d2 d3),by omega,by omega,.more q3 r1 (.more q6 r2 q9)⟩
end
end Go.Proofs.YtodjpfpmhjdhbaaGreatDoor
/- The machine of ref38 on typed programs: folds, blocks. -/
namespace Go.Proofs.YtodjpfpmhjdhbaaGreatDoor
open Go.Lg
theorem foldA_get:∀ (L:List Nat) (j h:Nat),L[j]? = some h→(foldArgs L)[L.length-(j+1)]? = some (h,L.drop (j+1))
 | [],j,h,e=>by simp at e
 | a::t,0,h,e=>by
  simp only [List.getElem?_cons_zero,Option.some.injEq] at e
  subst e
  simp only [foldArgs,List.length_cons,List.drop_succ_cons,List.drop_zero]
  rw [List.getElem?_append_right (by rw [foldArgs_len];omega),foldArgs_len]
  simp
 | a::t,j+1,h,e=>by
  simp only [List.getElem?_cons_succ] at e
  have hlt:=(List.getElem?_eq_some_iff.1 e).1
  have ih:=foldA_get t j h e
  simp only [foldArgs,List.length_cons,List.drop_succ_cons]
  rw [List.getElem?_append_left (by rw [foldArgs_len];omega),← ih]
  congr 1
  omega
section
variable {c:List Ins} {l B:Nat} (hB:B+l≤100000) (hcode:∀ (p op a:Nat),c[p]? = some (op,a)→p≤1000000∧a≤1000000)
include hB hcode
theorem fd_T {N:Nat} (hP:BlkT c l B N) {f:It} {t:Ty} {L:List Nat} {d s0:Nat} (hN:l≤s0+N) (hd:d≤1024) (hf:VT c f (.fn .nat (.fn .list (.fn t t)))) (bf:Bd (B+s0) f) (bL:Bd (B+s0) (.list L)) :
  ∀ j h b s,L[j]? = some h→s0≤s→s≤l→VT c b t→Bd (B+s) b→∃ o,FdS c l d f L (j+1) b s o∧GoodR c l s d t B (.rds f (.num h) ⟨f,L.length-(j+1),some (foldArgs L),L.length,b,[.list (L.drop (j+1)),b]⟩) o:=by
 simp only [Bd] at bL
 intro j
 induction j with
 | zero =>
  intro h b s hj hs0 hs hb bb
  have hlt:=(List.getElem?_eq_some_iff.1 hj).1
  have hh:=bL.2 h (List.mem_of_getElem? hj)
  obtain ⟨o1,e1,g1⟩:=call_T hB hcode hP (f:=f) (x:=.num h) (s:=s) (d:=d) (by omega) hs hd hf .num (bf.mono (by omega)) (by simp only [Bd];omega)
  cases o1 with
  | err e s'=>exact ⟨_,.err1 hj e1 (by rcases g1 with rfl | rfl <;> omega),g1⟩
  | ok g s1 =>
   obtain ⟨t1,b1,l1,k1,d1,q1,q2,q3⟩:=g1
   have p1:=q3.pos
   obtain ⟨o2,e2,g2⟩:=call_T hB hcode hP (f:=g) (x:=.list (L.drop 1)) (s:=s1) (d:=d) (by omega) l1 hd t1 .list b1 (by
    simp only [Bd,List.length_drop]
    exact ⟨by omega,fun y hy=>by have:=bL.2 y (List.mem_of_mem_drop hy);omega⟩)
   cases o2 with
   | err e s'=>exact ⟨_,.err2 hj e1 e2 (by rcases g2 with rfl | rfl <;> omega),g2⟩
   | ok g' s2 =>
    obtain ⟨t2,b2,l2,k2,d2,q4,q5,q6⟩:=g2
    have p2:=q6.pos
    obtain ⟨o3,e3,g3⟩:=call_T hB hcode hP (f:=g') (x:=b) (s:=s2) (d:=d) (by omega) l2 hd t2 hb b2 (bb.mono (by omega))
    cases o3 with
    | err e s'=>exact ⟨_,.err3 hj e1 e2 e3 (by rcases g3 with rfl | rfl <;> omega),g3⟩
    | ok b' s3 =>
     obtain ⟨t3,b3,l3,k3,d3,q7,q8,q9⟩:=g3
     have hlen:L.length-(0+1)+1=L.length:=by omega
     have r3:Rd.returned ⟨f,L.length-(0+1),some (foldArgs L),L.length,b,[]⟩ b'=some (none,⟨f,L.length-(0+1)+1,some (foldArgs L),L.length,b',[]⟩):=by
      simp only [Rd.returned]
      rw [if_pos hlen]
     exact ⟨.ok b' s3,.step hj e1 e2 e3 .done,t3,b3,l3,k1+(k2+k3),max d1 (max d2 d3),by omega,by omega,.more q3 rfl (.more q6 rfl (.last q9 r3))⟩
 | succ j ih =>
  intro h b s hj hs0 hs hb bb
  have hlt:=(List.getElem?_eq_some_iff.1 hj).1
  have hh:=bL.2 h (List.mem_of_getElem? hj)
  obtain ⟨o1,e1,g1⟩:=call_T hB hcode hP (f:=f) (x:=.num h) (s:=s) (d:=d) (by omega) hs hd hf .num (bf.mono (by omega)) (by simp only [Bd];omega)
  cases o1 with
  | err e s'=>exact ⟨_,.err1 hj e1 (by rcases g1 with rfl | rfl <;> omega),g1⟩
  | ok g s1 =>
   obtain ⟨t1,b1,l1,k1,d1,q1,q2,q3⟩:=g1
   have p1:=q3.pos
   obtain ⟨o2,e2,g2⟩:=call_T hB hcode hP (f:=g) (x:=.list (L.drop (j+1+1))) (s:=s1) (d:=d) (by omega) l1 hd t1 .list b1 (by
    simp only [Bd,List.length_drop]
    exact ⟨by omega,fun y hy=>by have:=bL.2 y (List.mem_of_mem_drop hy);omega⟩)
   cases o2 with
   | err e s'=>exact ⟨_,.err2 hj e1 e2 (by rcases g2 with rfl | rfl <;> omega),g2⟩
   | ok g' s2 =>
    obtain ⟨t2,b2,l2,k2,d2,q4,q5,q6⟩:=g2
    have p2:=q6.pos
    obtain ⟨o3,e3,g3⟩:=call_T hB hcode hP (f:=g') (x:=b) (s:=s2) (d:=d) (by omega) l2 hd t2 hb b2 (bb.mono (by omega))
    cases o3 with
    | err e s'=>exact ⟨_,.err3 hj e1 e2 e3 (by rcases g3 with rfl | rfl <;> omega),g3⟩
    | ok b' s3 =>
     obtain ⟨t3,b3,l3,k3,d3,q7,q8,q9⟩:=g3
     have p3:=q9.pos
     have hg':L[j]? = some L[j]:=List.getElem?_eq_getElem (by omega)
     obtain ⟨o4,e4,g4⟩:=ih L[j] b' s3 hg' (by omega) l3 t3 b3
     have hlen:¬ L.length-(j+1+1)+1=L.length:=by omega
     have hnx:L.length-(j+1+1)+1=L.length-(j+1):=by omega
     have hfa:=foldA_get L j L[j] hg'
     have r3:Rd.returned ⟨f,L.length-(j+1+1),some (foldArgs L),L.length,b,[]⟩ b'=some (some (f,.num L[j]),⟨f,L.length-(j+1),some (foldArgs L),L.length,b',[.list (L.drop (j+1)),b']⟩):=by
      simp only [Rd.returned]
      rw [if_neg hlen,hnx]
      simp only [Rd.begin,hfa]
     cases o4 with
     | err e s'=>exact ⟨_,.step hj e1 e2 e3 e4,g4⟩
     | ok y s4 =>
      obtain ⟨t4,b4,l4,k4,d4,q10,q11,q12⟩:=g4
      exact ⟨_,.step hj e1 e2 e3 e4,t4,b4,l4,k1+(k2+(k3+k4)),max d1 (max d2 (max d3 d4)),by omega,by omega,.more q3 rfl (.more q6 rfl (.more q9 r3 q12))⟩
theorem op_T {N:Nat} (hP:BlkT c l B N) {p op a:Nat} {vs sg args:List It} {s d:Nat} {g τs:List Ty} {τ t:Ty} {y:It} (hN:l≤s+(N+1)) (hs:s<l) (hd:d≤1024) (hc:c[p]? = some (op,a)) (ho1:1≤op) (ho2:op≤13) (htk:takesP op=args.length)
  (hv:VTs c vs g) (bv:BdL (B+s) vs) (hvl:vs.length≤5000) (hst:(sg++args).length≤s) (hT:VTs c sg.reverse τs) (bT:BdL (B+s) sg) (hct:CT c g (p+1) (τ::τs) t)
  (h:(DoC c l op a args vs (s+1) d (.ok y (s+1))∧VT c y τ∧Bd (B+(s+1)) y∧sOp op a vs (sg++args).reverse=some (y::sg.reverse,true))∨DoC c l op a args vs (s+1) d (.err 4 (s+1))) :
  ∃ o,BlS c l vs d p (sg++args) s o∧GoodR c l s d t B (.blk p vs (sg++args).reverse) o:=by
 rcases h with ⟨h1,h2,h3,h4⟩ | h1
 ·simp only [List.length_append] at hst
  obtain ⟨o,e,gd⟩:=hP (p+1) vs (sg++[y]) (s+1) d g (τ::τs) t (by omega) (by omega) hd hct hv (bv.mono (by omega)) hvl (seg_push h2 hT) (BdL_app.2 ⟨bT.mono (by omega),h3,trivial⟩) (by simp only [List.length_append,List.length_cons,List.length_nil];omega)
  refine ⟨o,.next hs hc ho1 ho2 htk h1 (Nat.le_refl _) e,?_⟩
  cases o with
  | err e s'=>exact gd
  | ok x s' =>
   obtain ⟨t1,b1,l1,k1,d1,q1,q2,q3⟩:=gd
   refine ⟨t1,b1,l1,k1+1,d1,by omega,q2,?_⟩
   have:BB c (.blk p vs (sg++args).reverse) x (k1+1) d1 (true && true):=.op hc h4 (by simpa using q3)
   exact this
 ·exact ⟨_,.fail hs hc ho1 ho2 htk h1 (by omega),.inl rfl⟩
end
end Go.Proofs.YtodjpfpmhjdhbaaGreatDoor
/- The machine of ref38 on typed programs: blocks, and calls. -/
namespace Go.Proofs.YtodjpfpmhjdhbaaGreatDoor
open Go.Lg
section
variable {c:List Ins} {l B:Nat} (hB:B+l≤100000) (hcode:∀ (p op a:Nat),c[p]? = some (op,a)→p≤1000000∧a≤1000000)
include hB hcode
theorem blk_T {N:Nat} (hP:BlkT c l B N):BlkT c l B (N+1):=by
 intro p vs stk s d g τs t hN hs hd hct hv bv hvl hT bT hst
 by_cases hsl:s<l
 rotate_left
 ·exact ⟨.err 5 s,.out (by omega),.inr rfl⟩
 cases hct with
 | ret h1 =>
  obtain ⟨sg,x,rfl,hx,hsg⟩:=seg_top hT
  have:sg=[]:=by
   cases h:sg.reverse with
   | nil=>simpa using h
   | cons a r=>rw [h] at hsg;cases hsg
  subst this
  rw [BdL_app] at bT
  refine ⟨.ok x (s+1),.ret hsl h1,hx,bT.2.1.mono (by omega),by omega,1,0,rfl,by omega,.ret h1⟩
 | @var _ _ _ _ i τ h1 h2 h3 =>
  obtain ⟨x,hx,hxt⟩:=hv.get h2
  have:=op_T hB hcode hP (sg:=stk) (args:=[]) hN hsl hd h1 (by omega) (by omega) rfl hv bv hvl (by simpa using hst) hT bT h3 (.inl ⟨do_var c l (s+1) d vs i x hx (by omega) (hcode _ _ _ h1).2,hxt,(BdL_iff.1 bv x (List.mem_of_getElem? hx)).mono (by omega),by simp only [sOp,hx,List.append_nil]⟩)
  simpa using this
 | @fn _ _ _ _ A a b h1 h2 h3 =>
  have:=op_T hB hcode hP (sg:=stk) (args:=[]) (a:=A) (y:=.fn A vs) (τ:=.fn a b) hN hsl hd h1 (by omega) (by omega) rfl hv bv hvl (by simpa using hst) hT bT h3 (by
   by_cases hm:insideL vs<1024
   ·exact .inl ⟨do_fun c l (s+1) d vs A bv (by omega) hm,.fn h2 hv,by simp only [Bd];exact ⟨bv.mono (by omega),hm⟩,by simp only [sOp,hm,decide_true,List.append_nil]⟩
   ·exact .inr (do_fun_no c l (s+1) d vs A bv (by omega) (by omega)))
  simpa using this
 | zero h1 h3 =>
  have:=op_T hB hcode hP (sg:=stk) (args:=[]) hN hsl hd h1 (by omega) (by omega) rfl hv bv hvl (by simpa using hst) hT bT h3 (.inl ⟨do_zero c l (s+1) d vs,.num,by simp only [Bd];omega,by simp only [sOp,List.append_nil]⟩)
  simpa using this
 | nil h1 h3 =>
  have:=op_T hB hcode hP (sg:=stk) (args:=[]) hN hsl hd h1 (by omega) (by omega) rfl hv bv hvl (by simpa using hst) hT bT h3 (.inl ⟨do_nil c l (s+1) d vs,.list,by simp [Bd],by simp only [sOp,List.append_nil]⟩)
  simpa using this
 | unit h1 h3 =>
  have:=op_T hB hcode hP (sg:=stk) (args:=[]) hN hsl hd h1 (by omega) (by omega) rfl hv bv hvl (by simpa using hst) hT bT h3 (.inl ⟨do_unit c l (s+1) d vs,.unit,by simp only [Bd],by simp only [sOp,List.append_nil]⟩)
  simpa using this
 | succ h1 h3 =>
  obtain ⟨sg,x,rfl,hx,hsg⟩:=seg_top hT
  cases hx with
  | @num n =>
  rw [BdL_app] at bT
  have hn:=bT.2.1
  simp only [Bd] at hn
  exact op_T hB hcode hP (sg:=sg) (args:=[.num n]) hN hsl hd h1 (by omega) (by omega) rfl hv bv hvl hst hsg bT.1 h3 (.inl ⟨do_succ c l (s+1) d vs n (by omega),.num,by simp only [Bd];omega,by simp [sOp]⟩)
 | fst h1 h3 =>
  obtain ⟨sg,x,rfl,hx,hsg⟩:=seg_top hT
  cases hx with
  | @pair a b _ _ ha hb =>
  rw [BdL_app] at bT
  have hn:=bT.2.1
  simp only [Bd] at hn
  exact op_T hB hcode hP (sg:=sg) (args:=[.pair a b]) hN hsl hd h1 (by omega) (by omega) rfl hv bv hvl hst hsg bT.1 h3 (.inl ⟨do_fst c l (s+1) d vs a b,ha,hn.1.mono (by omega),by simp [sOp]⟩)
 | snd h1 h3 =>
  obtain ⟨sg,x,rfl,hx,hsg⟩:=seg_top hT
  cases hx with
  | @pair a b _ _ ha hb =>
  rw [BdL_app] at bT
  have hn:=bT.2.1
  simp only [Bd] at hn
  exact op_T hB hcode hP (sg:=sg) (args:=[.pair a b]) hN hsl hd h1 (by omega) (by omega) rfl hv bv hvl hst hsg bT.1 h3 (.inl ⟨do_snd c l (s+1) d vs a b,hb,hn.2.1.mono (by omega),by simp [sOp]⟩)
 | @pair _ _ _ _ ta tb h1 h3 =>
  obtain ⟨sg1,y,rfl,hy,hsg1⟩:=seg_top hT
  obtain ⟨sg,x,rfl,hx,hsg⟩:=seg_top hsg1
  rw [BdL_app,BdL_app] at bT
  have bx:=bT.1.2.1
  have bby:=bT.2.1
  have:=op_T hB hcode hP (sg:=sg) (args:=[x,y]) (a:=0) (y:=.pair x y) (τ:=.pair ta tb) hN hsl hd h1 (by omega) (by omega) rfl hv bv hvl (by simpa using hst) hsg bT.1.1 h3 (by
   by_cases hm:2+x.more+y.more<1024
   ·exact .inl ⟨do_pair c l (s+1) d vs x y bx bby hm,.pair hx hy,by simp only [Bd];exact ⟨bx.mono (by omega),bby.mono (by omega),hm⟩,by simp [sOp,hm]⟩
   ·exact .inr (do_pair_no c l (s+1) d vs x y bx bby (by omega)))
  simpa using this
 | cons h1 h3 =>
  obtain ⟨sg1,y,rfl,hy,hsg1⟩:=seg_top hT
  obtain ⟨sg,x,rfl,hx,hsg⟩:=seg_top hsg1
  cases hx with
  | @num n =>
  cases hy with
  | @list L =>
  rw [BdL_app,BdL_app] at bT
  have bx:=bT.1.2.1
  have bby:=bT.2.1
  simp only [Bd] at bx bby
  have:=op_T hB hcode hP (sg:=sg) (args:=[.num n,.list L]) (a:=0) (y:=.list (n::L)) (τ:=.list) hN hsl hd h1 (by omega) (by omega) rfl hv bv hvl (by simpa using hst) hsg bT.1.1 h3 (by
   by_cases hm:L.length<1024
   ·refine .inl ⟨do_cons c l (s+1) d vs n L hm,.list,?_,by simp [sOp,hm]⟩
    simp only [Bd,List.length_cons,List.mem_cons]
    refine ⟨by omega,fun h hh => ?_⟩
    rcases hh with rfl | hh
    ·omega
    ·have:=bby.2 h hh
     omega
   ·exact .inr (do_cons_no c l (s+1) d vs n L (by omega) (by omega)))
  simpa using this
 | @app _ _ _ _ ta tb h1 h3 =>
  obtain ⟨sg1,y,rfl,hy,hsg1⟩:=seg_top hT
  obtain ⟨sg,x,rfl,hx,hsg⟩:=seg_top hsg1
  rw [BdL_app,BdL_app] at bT
  have bx:=bT.1.2.1
  have bby:=bT.2.1
  simp only [List.length_append,List.length_cons,List.length_nil] at hst
  obtain ⟨o1,e1,g1⟩:=call_T hB hcode hP (f:=x) (x:=y) (s:=s+1) (d:=d) (by omega) (by omega) hd hx hy (bx.mono (by omega)) (bby.mono (by omega))
  have hdo:=do_app c l (s+1) d vs x y o1 e1
  have ea:sg++[x]++[y]=sg++[x,y]:=by simp
  rw [ea]
  cases o1 with
  | err e s'=>exact ⟨_,.fail hsl h1 (by omega) (by omega) rfl hdo (by rcases g1 with rfl | rfl <;> omega),g1⟩
  | ok z s' =>
   obtain ⟨t1,b1,l1,k1,d1,q1,q2,q3⟩:=g1
   have p1:=q3.pos
   obtain ⟨o,e,gd⟩:=hP (p+1) vs (sg++[z]) s' d g _ t (by omega) l1 hd h3 hv (bv.mono (by omega)) hvl (seg_push t1 hsg) (BdL_app.2 ⟨bT.1.1.mono (by omega),b1,trivial⟩) (by simp only [List.length_append,List.length_cons,List.length_nil];omega)
   refine ⟨o,.next hsl h1 (by omega) (by omega) rfl hdo (by omega) e,?_⟩
   cases o with
   | err e s'=>exact gd
   | ok w s2 =>
    obtain ⟨t2,b2,l2,k2,d2,q4,q5,q6⟩:=gd
    refine ⟨t2,b2,l2,k1+k2+1,max d1 d2,by omega,by omega,?_⟩
    have:BB c (.blk p vs (y::x::sg.reverse)) w (k1+k2+1) (max d1 d2) (true && true):=.app h1 q3 (by simpa using q6)
    simpa using this
 | @recn _ _ _ _ τ h1 h3 =>
  obtain ⟨sg2,z,rfl,hz,hsg2⟩:=seg_top hT
  obtain ⟨sg1,y,rfl,hy,hsg1⟩:=seg_top hsg2
  obtain ⟨sg,x,rfl,hx,hsg⟩:=seg_top hsg1
  cases hz with
  | @num n =>
  obtain ⟨q,ws,gw,rfl,hcw,hvw⟩:=hy.isFn
  rw [BdL_app,BdL_app,BdL_app] at bT
  have bx:=bT.1.1.2.1
  have bf:=bT.1.2.1
  have bn:=bT.2.1
  simp only [List.length_append,List.length_cons,List.length_nil] at hst
  simp only [Bd] at bn
  have ea:sg++[x]++[.fn q ws]++[.num n]=sg++[x,.fn q ws,.num n]:=by simp
  rw [ea]
  have hrd:rdOf (.fn q ws) x false (.num n)=some ⟨.fn q ws,0,none,n,x,[]⟩:=rfl
  have er:(sg++[x,.fn q ws,.num n]).reverse = .num n :: .fn q ws::x::sg.reverse:=by simp
  by_cases h0:n=0
  ·subst h0
   have hdo:=do_rec c l (s+1) d vs x q ws 0 (.ok x (s+1)) (rec_of c l d x (.fn q ws) 0 (s+1) _ (by omega) .done)
   obtain ⟨o,e,gd⟩:=hP (p+1) vs (sg++[x]) (s+1) d g _ t (by omega) (by omega) hd h3 hv (bv.mono (by omega)) hvl (seg_push hx hsg) (BdL_app.2 ⟨bT.1.1.1.mono (by omega),bx.mono (by omega),trivial⟩) (by simp only [List.length_append,List.length_cons,List.length_nil];omega)
   refine ⟨o,.next hsl h1 (by omega) (by omega) rfl hdo (by omega) e,?_⟩
   cases o with
   | err e s'=>exact gd
   | ok w s2 =>
    obtain ⟨t2,b2,l2,k2,d2,q4,q5,q6⟩:=gd
    refine ⟨t2,b2,l2,k2+1,d2,by omega,by omega,?_⟩
    rw [er]
    exact .rec0 false h1 hrd rfl (by simpa using q6)
  ·obtain ⟨o1,e1,g1⟩:=rc_T hB hcode hP (n:=n) (d:=d) (s0:=s+1) (by omega) hd hy (bf.mono (by omega)) (by omega) n 0 x (s+1) (by omega) (by omega) (Nat.le_refl _) (by omega) hx (bx.mono (by omega))
   have hdo:=do_rec c l (s+1) d vs x q ws n o1 (rec_of c l d x (.fn q ws) n (s+1) _ (by omega) e1)
   cases o1 with
   | err e s'=>exact ⟨_,.fail hsl h1 (by omega) (by omega) rfl hdo (by rcases g1 with rfl | rfl <;> omega),g1⟩
   | ok z s' =>
    obtain ⟨t1,b1,l1,k1,d1,q1,q2,q3⟩:=g1
    have p1:=q3.pos
    obtain ⟨o,e,gd⟩:=hP (p+1) vs (sg++[z]) s' d g _ t (by omega) l1 hd h3 hv (bv.mono (by omega)) hvl (seg_push t1 hsg) (BdL_app.2 ⟨bT.1.1.1.mono (by omega),b1,trivial⟩) (by simp only [List.length_append,List.length_cons,List.length_nil];omega)
    refine ⟨o,.next hsl h1 (by omega) (by omega) rfl hdo (by omega) e,?_⟩
    cases o with
    | err e s'=>exact gd
    | ok w s2 =>
     obtain ⟨t2,b2,l2,k2,d2,q4,q5,q6⟩:=gd
     refine ⟨t2,b2,l2,k1+k2+1,max d1 d2,by omega,by omega,?_⟩
     rw [er]
     have:BB c (.blk p vs (.num n :: .fn q ws::x::sg.reverse)) w (k1+k2+1) (max d1 d2) (true && true):=.recS false h1 hrd h0 rfl q3 (by simpa using q6)
     exact this
 | @fold _ _ _ _ τ h1 h3 =>
  obtain ⟨sg2,z,rfl,hz,hsg2⟩:=seg_top hT
  obtain ⟨sg1,y,rfl,hy,hsg1⟩:=seg_top hsg2
  obtain ⟨sg,x,rfl,hx,hsg⟩:=seg_top hsg1
  cases hz with
  | @list L =>
  obtain ⟨q,ws,gw,rfl,hcw,hvw⟩:=hy.isFn
  rw [BdL_app,BdL_app,BdL_app] at bT
  have bx:=bT.1.1.2.1
  have bf:=bT.1.2.1
  have bn:=bT.2.1
  have bn':=bn
  simp only [List.length_append,List.length_cons,List.length_nil] at hst
  simp only [Bd] at bn
  have ea:sg++[x]++[.fn q ws]++[.list L]=sg++[x,.fn q ws,.list L]:=by simp
  rw [ea]
  have hrd:rdOf (.fn q ws) x true (.list L)=some ⟨.fn q ws,0,some (foldArgs L),L.length,x,[]⟩:=rfl
  have er:(sg++[x,.fn q ws,.list L]).reverse = .list L :: .fn q ws::x::sg.reverse:=by simp
  by_cases h0:L.length=0
  ·have hL:L=[]:=List.eq_nil_of_length_eq_zero h0
   have hdo:=do_fold c l (s+1) d vs x q ws L (.ok x (s+1)) (fold_of c l d x (.fn q ws) L (s+1) _ (by omega) (by rw [h0];exact .done))
   obtain ⟨o,e,gd⟩:=hP (p+1) vs (sg++[x]) (s+1) d g _ t (by omega) (by omega) hd h3 hv (bv.mono (by omega)) hvl (seg_push hx hsg) (BdL_app.2 ⟨bT.1.1.1.mono (by omega),bx.mono (by omega),trivial⟩) (by simp only [List.length_append,List.length_cons,List.length_nil];omega)
   refine ⟨o,.next hsl h1 (by omega) (by omega) rfl hdo (by omega) e,?_⟩
   cases o with
   | err e s'=>exact gd
   | ok w s2 =>
    obtain ⟨t2,b2,l2,k2,d2,q4,q5,q6⟩:=gd
    refine ⟨t2,b2,l2,k2+1,d2,by omega,by omega,?_⟩
    rw [er]
    exact .rec0 true h1 hrd h0 (by simpa using q6)
  ·have hg0:L[L.length-1]? = some L[L.length-1]:=List.getElem?_eq_getElem (by omega)
   obtain ⟨o1,e1,g1⟩:=fd_T hB hcode hP (L:=L) (d:=d) (s0:=s+1) (by omega) hd hy (bf.mono (by omega)) (bn'.mono (by omega)) (L.length-1) _ x (s+1) hg0 (Nat.le_refl _) (by omega) hx (bx.mono (by omega))
   have hle:L.length-1+1=L.length:=by omega
   rw [hle] at e1 g1
   have hfa:=foldA_get L (L.length-1) _ hg0
   rw [hle,Nat.sub_self] at hfa
   rw [Nat.sub_self] at g1
   have hdo:=do_fold c l (s+1) d vs x q ws L o1 (fold_of c l d x (.fn q ws) L (s+1) _ (by omega) e1)
   have hbeg:Rd.begin ⟨.fn q ws,0,some (foldArgs L),L.length,x,[]⟩=some (.fn q ws,.num L[L.length-1],⟨.fn q ws,0,some (foldArgs L),L.length,x,[.list (L.drop L.length),x]⟩):=by
    simp only [Rd.begin,hfa]
   cases o1 with
   | err e s'=>exact ⟨_,.fail hsl h1 (by omega) (by omega) rfl hdo (by rcases g1 with rfl | rfl <;> omega),g1⟩
   | ok z s' =>
    obtain ⟨t1,b1,l1,k1,d1,q1,q2,q3⟩:=g1
    have p1:=q3.pos
    obtain ⟨o,e,gd⟩:=hP (p+1) vs (sg++[z]) s' d g _ t (by omega) l1 hd h3 hv (bv.mono (by omega)) hvl (seg_push t1 hsg) (BdL_app.2 ⟨bT.1.1.1.mono (by omega),b1,trivial⟩) (by simp only [List.length_append,List.length_cons,List.length_nil];omega)
    refine ⟨o,.next hsl h1 (by omega) (by omega) rfl hdo (by omega) e,?_⟩
    cases o with
    | err e s'=>exact gd
    | ok w s2 =>
     obtain ⟨t2,b2,l2,k2,d2,q4,q5,q6⟩:=gd
     refine ⟨t2,b2,l2,k1+k2+1,max d1 d2,by omega,by omega,?_⟩
     rw [er]
     have:BB c (.blk p vs (.list L :: .fn q ws::x::sg.reverse)) w (k1+k2+1) (max d1 d2) (true && true):=.recS true h1 hrd h0 hbeg q3 (by simpa using q6)
     exact this
theorem blk_all:∀ N,BlkT c l B N
 | 0=>by
  intro p vs stk s d g τs t hN hs hd hct hv bv hvl hT bT hst
  exact ⟨.err 5 s,.out (by omega),.inr rfl⟩
 | N+1=>blk_T hB hcode (blk_all N)
end
end Go.Proofs.YtodjpfpmhjdhbaaGreatDoor
