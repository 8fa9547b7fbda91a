/- Contracts of functions; no conditions. -/
import Derived.Test.YtodjpfpmhjdhbaaGreatDoorTwiceC20
import Derived.Test.YtodjpfpmhjdhbaaGreatDoorTwiceC19
import Derived.Test.YtodjpfpmhjdhbaaGreatDoorTwiceC5
set_option linter.all false
namespace Go.Proofs.YtodjpfpmhjdhbaaGreatDoor
open Go.Lg
theorem enC21 {P Q : Prop} (h : P := by simp [retIs,resV,resL,resOne,mkTup,getS,getO,rdV,mkAgg,unL,V.un,TI.isAgg,XX_T,tt47,Tryz.f92,Tryz.f123]) (k : Q := by simp [subO,getO,tt47,Tryz.f92,Tryz.f123]) : P ∧ Q := ⟨h,k⟩
end Go.Proofs.YtodjpfpmhjdhbaaGreatDoor
namespace Go.Proofs.YtodjpfpmhjdhbaaGreatDoor
open Go.Lg
set_option maxRecDepth 10000
set_option maxHeartbeats 4000000
inductive BlS (c:List Ins) (l:Nat) (vs:List It) (d:Nat):Nat→List It→Nat→Oc→Prop
 | out {p stk s} : l≤s→BlS c l vs d p stk s (.err 5 s)
 | ret {p stk x s} : s<l→c[p]? = some (14,0)→BlS c l vs d p (stk++[x]) s (.ok x (s+1))
 | next {p stk args s op a y s' o} : s<l→c[p]? = some (op,a)→1≤op→op≤13→takesP op=args.length→DoC c l op a args vs (s+1) d (.ok y s')→s+1≤s'→BlS c l vs d (p+1) (stk++[y]) s' o→BlS c l vs d p (stk++args) s o
 | fail {p stk args s op a e s'} : s<l→c[p]? = some (op,a)→1≤op→op≤13→takesP op=args.length→DoC c l op a args vs (s+1) d (.err e s')→0<e→BlS c l vs d p (stk++args) s (.err e s')
def zC5:List V:=[.pv (.int 0),.pv (.int 0),.pv (.int 0),.pv .nils,.pv .nils]
noncomputable def blI (c:List Ins) (l:Nat) (vs:List It) (d p:Nat) (stk:List It) (s:Nat):St :=
 ⟨[(0,.loc 970 0),(1,.pv (.int p)),(2,.pv (.slice (rcL vs))),(6,.loc 6 0),(7,.pv (.int 0)),(8,.pv (.slice (stk.map rcC)))],[(970,mR c l s d),(6,.box zC5)],[6,970]⟩
theorem map_all (L:List It):∀ q∈L.map rcC,q.length=5:=by
 intro e he
 obtain⟨x,-,rfl⟩:=List.mem_map.1 he
 exact rcC_len x
theorem map_one (L:List It):∀ q∈L.map rcC,q.all PV.one=true:=by
 intro e he
 obtain⟨x,-,rfl⟩:=List.mem_map.1 he
 exact rcC_one x
theorem code_at {c:List Ins} {p op a:Nat} (h:c[p]? = some (op,a)):(c.map insP).getD p []=[.int op,.int a]∧p<(c.map insP).length ∧ ∀ q∈c.map insP,q.length=2:=by
 refine⟨?_,?_,?_⟩
 ·simp only [List.getD_eq_getElem?_getD,List.getElem?_map,h,Option.map_some,Option.getD_some,insP]
 ·have:=(List.getElem?_eq_some_iff.1 h).1
  simpa using this
 ·intro q hq
  obtain⟨x,-,rfl⟩:=List.mem_map.1 hq
  rfl
section
variable (c:List Ins) (l:Nat) (hcode:∀ (p op a:Nat),c[p]? = some (op,a)→p≤1000000) (hl:l≤100000)
include hcode hl
theorem block_of (vs:List It) (d p:Nat) (s:Nat) (o:Oc) (hp:p≤1000000) (h:BlS c l vs d p [] s o):BlC c l p vs s d o:=by
 unfold BlC
 refine body [(76,.arr 977 5 47)] Tryz.func92 Tryz.ntmps92 ?_ (hna:=by simp [subL,namesL,V.names,namesOb,Ob.names,keysO,mR]) (hno:=by cases o<;>simp [subL,Out.names,V.names,namesL,namesOb,Ob.names,keysO,ocM,mR,ocV])
 have hw0:∀ (S:List (Nat × V)),slotsLe (blI c l vs d p [] s).slots S→Weak (XX [(76,.arr 977 5 47)] 80 [970]) ⟨S,(blI c l vs d p [] s).objs,(blI c l vs d p [] s).used⟩ (blI c l vs d p [] s):=by
  intro S hS
  refine⟨hS,by simp [blI,subO,getO,mR,zC5],by simp [blI,subL,namesSl,V.names,namesOb,Ob.names,namesL,mR,zC5,XX_given]⟩
 have key:∀ (q:Nat × List It × Nat),BlS c l vs d q.1 q.2.1 q.2.2 o→q.1≤1000000→q.2.1.length≤q.2.2→True:=fun _ _ _ _=>trivial
 clear key
 simp only [blI,List.map_nil] at hw0
 have hM:mR c l s d = .box [.pv (.slice (c.map insP)),.pv (.int l),.pv (.int s),.pv (.int d),.pv (.bool false),.pv .nils,.pv (.int 0)]:=rfl
 rw [hM] at hw0 ⊢
 simp only [zC5] at hw0
 clear hM
 refine gg ?_
 refine AWP.loop (ι:={ q:Nat × List It × Nat // BlS c l vs d q.1 q.2.1 q.2.2 o∧q.1≤1000001∧q.2.1.length≤q.2.2 }) (fun q=>blI c l vs d q.1.1 q.1.2.1 q.1.2.2) (fun q=>l-q.1.2.2) ⟨(p,[],s),h,by simp only;omega,Nat.zero_le _⟩ ?_ ?_
 ·exact hw0 _ (by simp [slotsLe,getS])
 clear hw0
 rintro⟨⟨p,stk,s⟩,h,hp,hst⟩
 simp only at h hp hst ⊢
 cases h with
 | out hs =>
  have k1:(l:Int)≤(s:Int):=by omega
  simp only [blI,mR,zC5,ocV,ocM,zC]
  generalize rcL vs=cv
  generalize c.map insP=cd
  generalize stk.map rcC=cc
  clear hcode hst
  refine gg ?_
  refine⟨by rfl,?_⟩
  refine gg ?_
  exact enC21
 | @ret _ stk x _ hs hc =>
  have k1:¬ (l:Int)≤(s:Int):=by omega
  obtain⟨hcd,hpl,hca⟩:=code_at hc
  have hp1:=hcode _ _ _ hc
  have k2:(p:Int)<((c.map insP).length:Int):=by omega
  have k3:(0:Int)≤(p:Int):=by omega
  obtain⟨kx,nx,ax,sx,tx,ex⟩:=rcC_shape x
  have hall:=map_all (stk++[x])
  have hlen:((stk++[x]).map rcC).length=stk.length+1:=by simp
  simp only [List.length_append,List.length_cons,List.length_nil] at hst
  have hcl:((stk++[x]).map rcC).length≤100000:=by omega
  have k4:(0:Int)≤(((stk++[x]).map rcC).length:Int)-1:=by omega
  have k5:(((stk++[x]).map rcC).length:Int)-1<(((stk++[x]).map rcC).length:Int):=by omega
  have hg:((stk++[x]).map rcC).getD ((((stk++[x]).map rcC).length:Int)-1).toNat []=[.int kx,.int nx,.int ax,.slice sx,.slice tx]:=by
   have e:((((stk++[x]).map rcC).length:Int)-1).toNat=stk.length:=by omega
   rw [e,← ex]
   simp [List.getD]
  have e1:((s+1:Nat):Int)=(s:Int)+1:=by omega
  simp only [blI,mR,zC5,ocV,ocM,zC,ex,e1,Int.cast_ofNat_Int] at hcd ⊢
  generalize rcL vs=cv
  generalize c.map insP=cd at *
  generalize (stk++[x]).map rcC=cc at *
  clear hcode hst hlen hc ex e1 hp h hpl
  refine gg ?_
  refine⟨by rfl,?_⟩
  refine gg ?_
  exact enC21
 | @next _ stk args _ op a y s' _ hs hc ho1 ho2 htk hdo hss hrest =>
  have k1:¬ (l:Int)≤(s:Int):=by omega
  obtain⟨hcd,hpl,hca⟩:=code_at hc
  have hp1:=hcode _ _ _ hc
  have k2:(p:Int)<((c.map insP).length:Int):=by omega
  have k3:(0:Int)≤(p:Int):=by omega
  have hst':stk.length+args.length≤s:=by simpa using hst
  have h122:=takes_ok op ho1 ho2
  rw [htk] at h122
  have hdr:((stk++args).map rcC).drop ((((stk++args).map rcC).length:Int)-(args.length:Int)).toNat=args.map rcC:=by
   have e:((((stk++args).map rcC).length:Int)-(args.length:Int)).toNat=(stk.map rcC).length:=by simp
   rw [e,List.map_append,List.drop_left]
  have htt:((stk++args).map rcC).take ((((stk++args).map rcC).length:Int)-(args.length:Int)).toNat=stk.map rcC:=by
   have e:((((stk++args).map rcC).length:Int)-(args.length:Int)).toNat=(stk.map rcC).length:=by simp
   rw [e,List.map_append,List.take_left]
  have hall:=map_all (stk++args)
  have hall2:=map_all stk
  have hone2:=map_one stk
  have hlen:((stk++args).map rcC).length=stk.length+args.length:=by simp
  have hl2:(stk.map rcC).length≤100000:=by simp;omega
  have hcl:((stk++args).map rcC).length≤100000:=by omega
  have k4:(0:Int)≤(((stk++args).map rcC).length:Int)-(args.length:Int):=by omega
  have k5:(((stk++args).map rcC).length:Int)-(args.length:Int)≤(((stk++args).map rcC).length:Int):=by omega
  have k6:¬ (op:Int)=14:=by omega
  have k7:(args.length:Int)≤100000:=by omega
  have k8:(0:Int)≤(args.length:Int):=by omega
  have e1:((s+1:Nat):Int)=(s:Int)+1:=by omega
  obtain⟨kx,nx,ax,sx,tx,ex⟩:=rcC_shape y
  have hn:∀ σ',Weak (XX [(76,.arr 977 5 47)] 80 [970]) σ' (blI c l vs d (p+1) (stk++[y]) s')→∃ q : { q:Nat × List It × Nat // BlS c l vs d q.1 q.2.1 q.2.2 o∧q.1≤1000001∧q.2.1.length≤q.2.2 },l-q.1.2.2<l-s∧Weak (XX [(76,.arr 977 5 47)] 80 [970]) σ' (blI c l vs d q.1.1 q.1.2.1 q.1.2.2) :=
   fun σ' hw=>⟨⟨(p+1,stk++[y],s'),hrest,by simp only;omega,by simp only [List.length_append,List.length_cons,List.length_nil];omega⟩,by simp only;omega,hw⟩
  have e2:((p+1:Nat):Int)=(p:Int)+1:=by omega
  have htk2:List.take (stk.map rcC).length (stk.map rcC)=stk.map rcC:=List.take_length
  simp only [DoC,ocV,ocM,mR,zC,e1,ex] at hdo
  generalize hPP:(fun σ' => ∃ q : { q:Nat × List It × Nat // BlS c l vs d q.1 q.2.1 q.2.2 o∧q.1≤1000001∧q.2.1.length≤q.2.2 },l-q.1.2.2<l-s∧Weak (XX [(76,.arr 977 5 47)] 80 [970]) σ' (blI c l vs d q.1.1 q.1.2.1 q.1.2.2))=PP
  have hn':∀ σ',Weak (XX [(76,.arr 977 5 47)] 80 [970]) σ' (blI c l vs d (p+1) (stk++[y]) s')→PP σ':=by
   intro σ' h
   rw [← hPP]
   exact hn σ' h
  clear hn hPP
  simp only [blI,mR,zC5,ocV,ocM,zC,e1,e2,List.map_append,List.map_cons,List.map_nil,ex,Int.cast_ofNat_Int] at hcd hn' hdr htt hall hlen hcl k4 k5 ⊢
  generalize rcL vs=cv at *
  generalize c.map insP=cd at *
  rw [← List.map_append] at hdr htt hall hlen hcl k4 k5 ⊢
  generalize (stk++args).map rcC=cc at *
  generalize stk.map rcC=ct at *
  generalize args.map rcC=ca at *
  generalize args.length=na at *
  clear hcode hst hst' hlen hc e1 e2 hp h htk hrest ex hpl
  refine AWP.then_frz ?_
  refine gg ?_
  refine⟨by rfl,?_⟩
  refine gg ?_
  refine call h122 ?_
  refine gg ?_
  refine call hdo ?_
  refine gg ?_
  refine go ?_ (hc:=by simp only [buildC,and_true,true_and,implies_true,true_implies,and_self];exact⟨by unfold inI;omega,⟨hall2,hone2,by unfold maxLen;omega,by omega⟩,Nat.le_refl _,by unfold maxLen;omega,by omega⟩)
  refine gg ?_
  refine⟨by rfl,?_⟩
  refine gg ?_
  have htk3:List.take (ct.length+1) (ct++[[PV.int kx,.int nx,.int ax,.slice sx,.slice tx]])=ct++[[PV.int kx,.int nx,.int ax,.slice sx,.slice tx]]:=List.take_of_length_le (by simp)
  refine⟨977,2,5,47,ct++[[.int kx,.int nx,.int ax,.slice sx,.slice tx]],?_,hn' _ ⟨?_,?_,?_⟩⟩
  ·simp [getO,pvE_app2,pvE,pvL]
  ·simp [St.frz,frzS,frzA,frzV,frzL,slotsLe,getS,htk3]
  ·simp [St.frz,frzO,frzOb,frzL,frzV,subO,getO]
  ·simp [St.frz,subL,namesSl,V.names,namesOb,Ob.names,namesL,XX_given]
 | @fail _ stk args _ op a e s' hs hc ho1 ho2 htk hdo he =>
  have k1:¬ (l:Int)≤(s:Int):=by omega
  obtain⟨hcd,hpl,hca⟩:=code_at hc
  have hp1:=hcode _ _ _ hc
  have k2:(p:Int)<((c.map insP).length:Int):=by omega
  have k3:(0:Int)≤(p:Int):=by omega
  have hst':stk.length+args.length≤s:=by simpa using hst
  have h122:=takes_ok op ho1 ho2
  rw [htk] at h122
  have hdr:((stk++args).map rcC).drop ((((stk++args).map rcC).length:Int)-(args.length:Int)).toNat=args.map rcC:=by
   have e:((((stk++args).map rcC).length:Int)-(args.length:Int)).toNat=(stk.map rcC).length:=by simp
   rw [e,List.map_append,List.drop_left]
  have htt:((stk++args).map rcC).take ((((stk++args).map rcC).length:Int)-(args.length:Int)).toNat=stk.map rcC:=by
   have e:((((stk++args).map rcC).length:Int)-(args.length:Int)).toNat=(stk.map rcC).length:=by simp
   rw [e,List.map_append,List.take_left]
  have hall:=map_all (stk++args)
  have hall2:=map_all stk
  have hone2:=map_one stk
  have hlen:((stk++args).map rcC).length=stk.length+args.length:=by simp
  have hl2:(stk.map rcC).length≤100000:=by simp;omega
  have hcl:((stk++args).map rcC).length≤100000:=by omega
  have k4:(0:Int)≤(((stk++args).map rcC).length:Int)-(args.length:Int):=by omega
  have k5:(((stk++args).map rcC).length:Int)-(args.length:Int)≤(((stk++args).map rcC).length:Int):=by omega
  have k6:¬ (op:Int)=14:=by omega
  have k7:(args.length:Int)≤100000:=by omega
  have k8:(0:Int)≤(args.length:Int):=by omega
  have e1:((s+1:Nat):Int)=(s:Int)+1:=by omega
  have k9:¬ (e:Int)=0:=by omega
  simp only [DoC,ocV,ocM,mR,zC,e1] at hdo
  simp only [blI,mR,zC5,ocV,ocM,zC,e1,Int.cast_ofNat_Int] at hcd ⊢
  generalize rcL vs=cv at *
  generalize c.map insP=cd at *
  generalize (stk++args).map rcC=cc at *
  generalize stk.map rcC=ct at *
  generalize args.map rcC=ca at *
  generalize args.length=na at *
  clear hcode hst hst' hlen hc e1 hp h htk hpl
  refine gg ?_
  refine⟨by rfl,?_⟩
  refine gg ?_
  refine call h122 ?_
  refine gg ?_
  refine call hdo ?_
  refine gg ?_
  exact enC21
end
section
variable (c:List Ins) (l d:Nat)
end
open Go.Lg
set_option maxRecDepth 10000
set_option maxHeartbeats 4000000
theorem nuC_all (L:List Nat):∀ q∈nuC L,q.length=1:=by
 intro q hq
 simp only [nuC,List.mem_map] at hq
 obtain⟨k,_,rfl⟩:=hq
 rfl
section
variable (c:List Ins) (l d:Nat)
end
section
variable (c:List Ins) (l s d:Nat) (vs:List It)
theorem do_app (f x:It) (o:Oc) (h:EnC c l f x s d o):DoC c l 3 0 [f,x] vs s d o:=by
 obtain⟨kf,nf,af,sf,tf,ef⟩:=rcC_shape f
 obtain⟨kx,nx,ax,sx,tx,ex⟩:=rcC_shape x
 cases o with
 | ok y s' =>
  obtain⟨ky,ny,ay,sy,ty,ey⟩:=rcC_shape y
  simp only [EnC,DoC,ocV,ocM,zC] at *
  simp only [mR,List.map_cons,List.map_nil,ef,ex,ey,Int.cast_ofNat_Int] at *
  generalize rcL vs=cc at *
  generalize c.map insP=cd at *
  clear ef ex ey
  refine body [] Tryz.func123 Tryz.ntmps123 ?_
  refine gg ?_
  refine call h ?_
  refine gg ?_
  refine⟨by rfl,?_⟩
  refine gg ?_
  exact enC21
 | err e s' =>
  simp only [EnC,DoC,ocV,ocM,zC] at *
  simp only [mR,List.map_cons,List.map_nil,ef,ex,Int.cast_ofNat_Int] at *
  generalize rcL vs=cc at *
  generalize c.map insP=cd at *
  clear ef ex
  refine body [] Tryz.func123 Tryz.ntmps123 ?_
  refine gg ?_
  refine call h ?_
  refine gg ?_
  refine⟨by rfl,?_⟩
  refine gg ?_
  exact enC21
end
open Go.Lg
section
variable {c:List Ins} {l B:Nat} (hB:B+l≤100000) (hcode:∀ (p op a:Nat),c[p]? = some (op,a)→p≤1000000∧a≤1000000)
include hB hcode
end
section
variable {c:List Ins} {l B:Nat} (hB:B+l≤100000) (hcode:∀ (p op a:Nat),c[p]? = some (op,a)→p≤1000000∧a≤1000000)
include hB hcode
end
open Go.Lg
section
variable {c:List Ins} {l B:Nat} (hB:B+l≤100000) (hcode:∀ (p op a:Nat),c[p]? = some (op,a)→p≤1000000∧a≤1000000)
include hB hcode
end
set_option maxRecDepth 10000
set_option maxHeartbeats 4000000
theorem nuC_len (l:List Nat):(nuC l).length=l.length:=by simp [nuC]
def bgS (c:List Ins) (i:Nat):List Nat:=scS c (min i (c.length-1))
theorem bgS_step {c:List Ins} {i op a:Nat} (h:c[i]? = some (op,a)):bgS c (i+1)=if op=14∧i+1<c.length then bgS c i++[i+1] else bgS c i:=by
 have hlt:=(List.getElem?_eq_some_iff.1 h).1
 unfold bgS
 by_cases h1:i+1<c.length
 ·rw [Nat.min_eq_left (by omega),Nat.min_eq_left (by omega)]
  simp only [scS,h,h1,and_true]
 ·rw [if_neg (by omega),Nat.min_eq_right (by omega),Nat.min_eq_right (by omega)]
theorem bg_len1 (c:List Ins) (i:Nat):1≤(bgS c i).length∧(bgS c i).length≤i+1:=by
 have key:∀ k,1≤(scS c k).length∧(scS c k).length≤k+1:=by
  intro k
  induction k with
  | zero=>simp [scS]
  | succ k ih =>
   simp only [scS]
   split
   ·split
    ·simp;omega
    ·omega
   ·omega
 have:=key (min i (c.length-1))
 unfold bgS
 omega
theorem bg_fin {c:List Ins} (h:GoodC c):bgS c c.length=0::scF c c.length:=by
 obtain⟨a,hl⟩:=h.last
 have h1:=h.lo
 have h2:=h.fin
 have e:c.length=(c.length-1)+1:=by omega
 have h3:scS c c.length=scS c (c.length-1)++[c.length]:=by
  have:scS c ((c.length-1)+1)=scS c (c.length-1)++[(c.length-1)+1]:=by simp [scS,hl]
  rw [← e] at this
  exact this
 rw [h3] at h2
 unfold bgS
 rw [Nat.min_eq_right (by omega)]
 have h4:scS c (c.length-1)++[c.length]=(0::scF c c.length)++[c.length]:=by simpa using h2
 exact List.append_cancel_right h4
noncomputable def bgI (c:List Ins) (i:Nat):St:=⟨[(0,.pv (.slice (c.map insP))),(3,.arr 981 ((bgS c i).length-1) (bgS c i).length),(4,.pv (.int i))],[(981,.arr ((bgS c i).length-1) 1 3 (pvE (nuC (bgS c i))))],[981]⟩
theorem begins_ok (c:List Ins) (hg:∀ k,k<c.length→∃ op a,c[k]? = some (op,a)) (hl:c.length≤4096):AC Tryz.prog gl 148 [.pv (.slice (c.map insP))] [] (.ret (.pv (.slice (nuC (bgS c c.length))))) []:=by
 have hlen:(c.map insP).length=c.length:=by simp
 refine body [(5,.arr 981 1 3)] Tryz.func148 Tryz.ntmps148 ?_
 have hw0:∀ S,slotsLe (bgI c 0).slots S→Weak (XX [(5,.arr 981 1 3)] 31 []) ⟨S,(bgI c 0).objs,[981]⟩ (bgI c 0):=fun S hS=>⟨hS,by simp [bgI,subO,getO],by simp [bgI,subL,namesSl,V.names,namesOb,Ob.names,namesE_pvE,XX_given]⟩
 have hb0:bgS c 0=[0]:=by simp [bgS,scS]
 simp only [bgI,hb0,nuC,pvE,pvL,List.map_cons,List.map_nil,List.length_cons,List.length_nil,Nat.zero_add,Nat.sub_self,Int.natCast_zero] at hw0
 generalize hcd:c.map insP=cd at *
 refine gg ?_
 refine AWP.loopN c.length (bgI c) ?_ ?_
 ·simp only [bgI,hb0,hcd,nuC,pvE,pvL,List.map_cons,List.map_nil,List.length_cons,List.length_nil,Nat.zero_add,Nat.sub_self,Int.natCast_zero]
  exact hw0 _ (by simp [slotsLe,getS])
 intro k hkn
 clear hw0 hb0
 have hkl:=bg_len1 c k
 have hnl:=nuC_len (bgS c k)
 have k0:(0:Int)≤(k:Int):=by omega
 by_cases hk:k<c.length
 ·obtain⟨op,a,hc⟩:=hg k hk
  obtain⟨hg1,hg2,hg3⟩:=code_at hc
  have hs:=bgS_step hc
  have k1:(k:Int)<(cd.length:Int):=by omega
  rw [hcd] at hg1 hg3
  have e1:((k+1:Nat):Int)=(k:Int)+1:=by omega
  have hcl:cd.length≤4096:=by omega
  by_cases h14:op=14
  ·subst h14
   simp only [Int.cast_ofNat_Int] at hg1
   by_cases h2:k+1<c.length
   ·rw [if_pos ⟨rfl,h2⟩] at hs
    have k2:(k:Int)+1<(cd.length:Int):=by omega
    have e2:(bgS c k++[k+1]).length=(bgS c k).length+1:=by simp
    have e3:nuC (bgS c k++[k+1])=nuC (bgS c k)++[[.int ((k+1:Nat):Int)]]:=by simp [nuC]
    have e4:(bgS c k).length+1-1=(bgS c k).length-1+1:=by omega
    simp only [bgI,hs,e2,e3,e4,e1,hcd,pvE_app2]
    have hbl:(bgS c k).length≤5000:=by omega
    have htk:List.take (nuC (bgS c k)).length (nuC (bgS c k))=nuC (bgS c k):=List.take_length
    rw [hnl] at htk
    generalize nuC (bgS c k)=ks at *
    generalize (bgS c k).length-1=v at *
    generalize (bgS c k).length=n1 at *
    clear hs e2 e3 e4 e1 hg hc hg2 hkl
    have hbig:(n1:Int)≤5000:=by omega
    have hk5:(k:Int)≤5000:=by omega
    clear hlen hl
    refine gg ?_
    refine⟨hk,?_,?_,?_⟩
    ·simp [slotsLe,getS]
    ·simp [subO,getO,pvE,pvL,htk]
    ·simp [subL,namesSl,V.names,namesOb,Ob.names,← pvE_app2,namesE_pvE,XX_given]
   ·rw [if_neg (by omega)] at hs
    have k2:¬ (k:Int)+1<(cd.length:Int):=by omega
    simp only [bgI,hs,e1,hcd]
    generalize nuC (bgS c k)=ks at *
    generalize (bgS c k).length-1=v at *
    generalize (bgS c k).length=n1 at *
    have hk5:(k:Int)≤5000:=by omega
    clear hs e1 hg hc hg2 hkl hlen hl
    refine gg ?_
    refine⟨hk,?_,?_,?_⟩
    ·simp [slotsLe,getS]
    ·simp [subO,getO]
    ·simp [subL,namesSl,V.names,namesOb,Ob.names,namesE_pvE,namesE,namesL,XX_given]
  ·rw [if_neg (by omega)] at hs
   have k2:¬ (op:Int)=14:=by omega
   simp only [bgI,hs,e1,hcd]
   generalize nuC (bgS c k)=ks at *
   generalize (bgS c k).length-1=v at *
   generalize (bgS c k).length=n1 at *
   have hk5:(k:Int)≤5000:=by omega
   clear hs e1 hg hc hg2 hkl hlen hl
   refine gg ?_
   refine⟨hk,?_,?_,?_⟩
   ·simp [slotsLe,getS]
   ·simp [subO,getO]
   ·simp [subL,namesSl,V.names,namesOb,Ob.names,namesE_pvE,namesE,namesL,XX_given]
 ·have hk':k=c.length:=by omega
  subst hk'
  have k1:¬ (c.length:Int)<(cd.length:Int):=by omega
  simp only [bgI,hcd]
  have htk:List.take (nuC (bgS c c.length)).length (nuC (bgS c c.length))=nuC (bgS c c.length):=List.take_length
  rw [hnl] at htk
  generalize nuC (bgS c c.length)=ks at *
  generalize (bgS c c.length).length-1=v at *
  generalize (bgS c c.length).length=n1 at *
  have hcl:cd.length≤4096:=by omega
  clear hg hkl hlen
  refine ggor ?_
  refine frz 981 (es:=ks) ?_
  refine gg ?_
  exact⟨by simp [retIs,resV,resL,resOne,mkTup,getS,getO,rdV,mkAgg,unL,V.un,TI.isAgg,XX_T,tt22,Tryz.f148,htk],by simp [subO,getO,tt22,Tryz.f148,htk]⟩
open Go.Lg
theorem scF_pre (c:List Ins) {k n:Nat} (h:k≤n):scF c k <+: scF c n:=by
 induction n with
 | zero =>
  have:k=0:=by omega
  subst this
  exact List.prefix_refl _
 | succ n ih =>
  by_cases e:k=n+1
  ·subst e;exact List.prefix_refl _
  ·refine (ih (by omega)).trans ?_
   simp only [scF]
   split
   ·split
    ·exact List.prefix_append _ _
    ·exact List.prefix_refl _
   ·exact List.prefix_refl _
theorem scF_at {c:List Ins} {k a n:Nat} (h:c[k]? = some (2,a)) (hn:k<n):(scF c n)[(scF c k).length]? = some a∧(scF c k).length<(scF c n).length:=by
 have h1:scF c (k+1)=scF c k++[a]:=by simp [scF,h]
 obtain⟨t,ht⟩:=scF_pre c (k:=k+1) (n:=n) (by omega)
 rw [← ht,h1]
 constructor
 ·simp
 ·simp only [List.length_append,List.length_cons,List.length_nil];omega
theorem scF_step {c:List Ins} {k op a:Nat} (h:c[k]? = some (op,a)):(scF c (k+1)).length=if op=2 then (scF c k).length+1 else (scF c k).length:=by
 simp only [scF,h]
 split<;>simp
theorem scF_len2 (c:List Ins):∀ k,(scF c k).length≤k:=by
 intro k
 induction k with
 | zero=>simp [scF]
 | succ k ih =>
  simp only [scF]
  split
  ·split
   ·simp;omega
   ·omega
  ·omega
noncomputable def nbI (c:List Ins) (ks:List (List PV)) (i:Nat):St:=⟨[(0,.pv (.slice (c.map insP))),(3,.pv (.slice ks)),(4,.pv (.int (scF c i).length)),(5,.pv (.int i))],[],[]⟩
theorem numbers_ok (c:List Ins) (h:GoodC c):AC Tryz.prog gl 138 [.pv (.slice (c.map insP))] [] (.ret (.pv (.bool true))) []:=by
 have hlen:(c.map insP).length=c.length:=by simp
 have hpass:∀ k,k<c.length→∃ op a,c[k]? = some (op,a)∧1≤op∧op≤14∧(op≠1→op≠2→a=0):=by
  intro k hk
  obtain⟨op,a,h1,h2,h3,-,-,h6⟩:=h.pass k hk
  exact⟨op,a,h1,h2,h3,h6⟩
 have hb:=begins_ok c (fun k hk=>by obtain⟨op,a,h1,-⟩:=hpass k hk;exact⟨op,a,h1⟩) h.hi
 have hfin:=bg_fin h
 rw [hfin] at hb
 have hlo:=h.lo
 have hhi:=h.hi
 obtain⟨al,hal⟩:=h.last
 have hgl:=(code_at hal).1
 have hks:(nuC (0::scF c c.length)).length=(scF c c.length).length+1:=by simp [nuC]
 have hkg:∀ (j a:Nat),(scF c c.length)[j]? = some a→(nuC (0::scF c c.length)).getD ((j:Int)+1).toNat []=[.int a]:=by
  intro j a hj
  rw [show ((j:Int)+1).toNat=j+1 by omega]
  simp [nuC,List.getD,hj]
 have hka:=nuC_all (0::scF c c.length)
 generalize nuC (0::scF c c.length)=ks at *
 have hg2:∀ q∈c.map insP,q.length=2:=(code_at hal).2.2
 have hgl2:(c.map insP).getD (((c.map insP).length:Int)-1).toNat []=[.int 14,.int al]:=by
  rw [show (((c.map insP).length:Int)-1).toNat=c.length-1 by omega]
  exact hgl
 have q1:¬ ((c.map insP).length:Int)<1:=by omega
 have q2:¬ (4096:Int)<((c.map insP).length:Int):=by omega
 have q3:(0:Int)≤((c.map insP).length:Int)-1:=by omega
 have q4:((c.map insP).length:Int)-1<((c.map insP).length:Int):=by omega
 have hcl:(c.map insP).length≤4096:=by omega
 have hkl:ks.length≤5000:=by have:=scF_len2 c c.length;omega
 refine body [] Tryz.func138 Tryz.ntmps138 ?_
 have hw0:∀ S U,slotsLe (nbI c ks 0).slots S→Weak (XX [] 83 []) ⟨S,[],U⟩ (nbI c ks 0):=fun S U hS=>⟨hS,by simp [nbI,subO],by simp [nbI,subL,namesSl,V.names,namesOb,XX_given]⟩
 simp only [nbI,scF,List.length_nil,Int.natCast_zero] at hw0
 generalize hcd:c.map insP=cd at *
 clear hgl
 have hks2:=hks.symm
 clear hks
 have hlen2:=hlen.symm
 clear hlen
 refine gg ?_
 refine call hb ?_
 refine gg ?_
 refine AWP.loopN c.length (nbI c ks) ?_ ?_
 ·simp only [nbI,scF,hcd,List.length_nil,Int.natCast_zero]
  exact hw0 _ _ (by simp [slotsLe,getS])
 intro k hkn
 clear hw0 hb q1 q2 q3 q4 hgl2 hal
 have k0:(0:Int)≤(k:Int):=by omega
 have hfl:=scF_len2 c k
 by_cases hk:k<c.length
 ·obtain⟨op,a,hc,ho1,ho2,ha0⟩:=hpass k hk
  have hg1:=(code_at hc).1
  rw [hcd] at hg1
  have k1:(k:Int)<(cd.length:Int):=by omega
  have e1:((k+1:Nat):Int)=(k:Int)+1:=by omega
  have hs:=scF_step hc
  have hk5:(k:Int)≤5000:=by omega
  have m1:¬ (op:Int)<1:=by omega
  have m2:¬ (14:Int)<(op:Int):=by omega
  have hf5:((scF c k).length:Int)≤5000:=by omega
  by_cases h1:op=1
  ·subst h1
   rw [if_neg (by omega)] at hs
   have m3:¬ (a:Int)<0:=by omega
   simp only [nbI,hs,e1,hcd,Int.cast_ofNat_Int] at hg1 ⊢
   generalize (scF c k).length=f at *
   clear hs hc e1 hpass hkg hlen2 hhi hlo hks2 hfin
   refine gg ?_
   refine⟨hk,?_,?_,?_⟩
   ·simp [slotsLe,getS]
   ·simp [subO,getO]
   ·simp [subL,namesSl,V.names,namesOb,XX_given]
  ·by_cases h2:op=2
   ·subst h2
    rw [if_pos rfl] at hs
    obtain⟨hfa,hfb⟩:=scF_at hc hk
    have hgi:=hkg _ _ hfa
    have hfw:=h.fwd k a hc
    have m3:¬ (ks.length:Int)≤((scF c k).length:Int)+1:=by omega
    have m4:¬ (a:Int)≤(k:Int):=by omega
    have m5:((scF c k).length:Int)+1<(ks.length:Int):=by omega
    have m6:(0:Int)≤((scF c k).length:Int)+1:=by omega
    have e2:(((scF c k).length+1:Nat):Int)=((scF c k).length:Int)+1:=by omega
    simp only [nbI,hs,e1,e2,hcd,Int.cast_ofNat_Int] at hg1 ⊢
    generalize (scF c k).length=f at *
    clear hs hc e1 e2 hpass hkg hlen2 hhi hlo hks2 hfin hfa hfb
    refine gg ?_
    refine⟨by rfl,?_⟩
    refine gg ?_
    refine⟨hk,?_,?_,?_⟩
    ·simp [slotsLe,getS]
    ·simp [subO,getO]
    ·simp [subL,namesSl,V.names,namesOb,XX_given]
   ·rw [if_neg h2] at hs
    have ha:=ha0 h1 h2
    subst ha
    have m3:¬ (op:Int)=1:=by omega
    have m4:¬ (op:Int)=2:=by omega
    simp only [nbI,hs,e1,hcd,Int.natCast_zero] at hg1 ⊢
    generalize (scF c k).length=f at *
    clear hs hc e1 hpass hkg hlen2 hhi hlo hks2 hfin
    refine gg ?_
    refine⟨hk,?_,?_,?_⟩
    ·simp [slotsLe,getS]
    ·simp [subO,getO]
    ·simp [subL,namesSl,V.names,namesOb,XX_given]
 ·have hk':k=c.length:=by omega
  subst hk'
  have k1:¬ (c.length:Int)<(cd.length:Int):=by omega
  have m1:((scF c c.length).length:Int)+1=(ks.length:Int):=by omega
  have hf5:((scF c c.length).length:Int)≤5000:=by omega
  simp only [nbI,hcd]
  generalize (scF c c.length).length=f at *
  clear hpass hkg hlen2 hfin hks2
  refine gg ?_
  exact⟨by simp [retIs,resV,resL,resOne,mkTup,getS,getO,rdV,mkAgg,unL,V.un,TI.isAgg,XX_T,tt4,Tryz.f138,m1],by simp [subO,getO,tt4,Tryz.f138,m1]⟩
end Go.Proofs.YtodjpfpmhjdhbaaGreatDoor
