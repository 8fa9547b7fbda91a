/- Part of the proof: contracts of the types, terms, the generator and the compiler; no conditions. -/
import Derived.Test.YtodjpfpmhjdhbaaGreatDoorSameC6
import Derived.Test.YtodjpfpmhjdhbaaGreatDoorSameC21
import Derived.Test.YtodjpfpmhjdhbaaGreatDoorSameC22
import Derived.Test.YtodjpfpmhjdhbaaGreatDoorSameA14
import Derived.Test.YtodjpfpmhjdhbaaGreatDoorSameC4
import Derived.Test.YtodjpfpmhjdhbaaGreatDoorSameC5
import Derived.Test.YtodjpfpmhjdhbaaGreatDoorSameC8
import Derived.Test.YtodjpfpmhjdhbaaGreatDoorSameC1
set_option linter.unusedVariables false
set_option linter.unusedSimpArgs false
set_option linter.unusedSectionVars false
namespace Go.Proofs.YtodjpfpmhjdhbaaGreatDoor
open Go.Lg
theorem enC23 {P Q : Prop} (h : P := by simp [retIs,resV,resL,resOne,mkTup,getS,getO,rdV,mkAgg,unL,V.un,TI.isAgg,XX_T,tt30,Tryz.f30,tt27,Tryz.f149,Tryz.f31,tt3,Tryz.f150,Tryz.f139,Tryz.f121,Tryz.f91,tt47,Tryz.f100]) (k : Q := by simp [subO,getO,tt30,Tryz.f30,tt27,Tryz.f149,Tryz.f31,tt3,Tryz.f150,Tryz.f139,Tryz.f121,Tryz.f91,tt47,Tryz.f100]) : P ∧ Q := ⟨h,k⟩
end Go.Proofs.YtodjpfpmhjdhbaaGreatDoor
/- The code is checked (ref37): where blocks begin, numbers. -/
namespace Go.Proofs.YtodjpfpmhjdhbaaGreatDoor
open Go.Lg
set_option maxRecDepth 10000
set_option maxHeartbeats 4000000
theorem nuC_len (l:List Nat):(nuC l).length=l.length:=by simp [nuC]
def bgS (c:List Ins) (i:Nat):List Nat:=scS c (min i (c.length-1))
theorem bgS_step {c:List Ins} {i op a:Nat} (h:c[i]? = some (op,a)):bgS c (i+1)=if op=14∧i+1<c.length then bgS c i++[i+1] else bgS c i:=by
 have hlt:=(List.getElem?_eq_some_iff.1 h).1
 unfold bgS
 by_cases h1:i+1<c.length
 ·rw [Nat.min_eq_left (by omega),Nat.min_eq_left (by omega)]
  simp only [scS,h,h1,and_true]
 ·rw [if_neg (by omega),Nat.min_eq_right (by omega),Nat.min_eq_right (by omega)]
theorem bg_len1 (c:List Ins) (i:Nat):1≤(bgS c i).length∧(bgS c i).length≤i+1:=by
 have key:∀ k,1≤(scS c k).length∧(scS c k).length≤k+1:=by
  intro k
  induction k with
  | zero=>simp [scS]
  | succ k ih =>
   simp only [scS]
   split
   ·split
    ·simp;omega
    ·omega
   ·omega
 have:=key (min i (c.length-1))
 unfold bgS
 omega
theorem bg_fin {c:List Ins} (h:GoodC c):bgS c c.length=0::scF c c.length:=by
 obtain ⟨a,hl⟩:=h.last
 have h1:=h.lo
 have h2:=h.fin
 have e:c.length=(c.length-1)+1:=by omega
 have h3:scS c c.length=scS c (c.length-1)++[c.length]:=by
  have:scS c ((c.length-1)+1)=scS c (c.length-1)++[(c.length-1)+1]:=by simp [scS,hl]
  rw [← e] at this
  exact this
 rw [h3] at h2
 unfold bgS
 rw [Nat.min_eq_right (by omega)]
 have h4:scS c (c.length-1)++[c.length]=(0::scF c c.length)++[c.length]:=by simpa using h2
 exact List.append_cancel_right h4
noncomputable def bgI (c:List Ins) (i:Nat):St:=⟨[(0,.pv (.slice (c.map insP))),(3,.arr 981 ((bgS c i).length-1) (bgS c i).length),(4,.pv (.int i))],[(981,.arr ((bgS c i).length-1) 1 3 (pvE (nuC (bgS c i))))],[981]⟩
theorem begins_ok (c:List Ins) (hg:∀ k,k<c.length→∃ op a,c[k]? = some (op,a)) (hl:c.length≤4096):AC Tryz.prog gl 148 [.pv (.slice (c.map insP))] [] (.ret (.pv (.slice (nuC (bgS c c.length))))) []:=by
 have hlen:(c.map insP).length=c.length:=by simp
 refine body [(5,.arr 981 1 3)] Tryz.func148 Tryz.ntmps148 ?_
 have hw0:∀ S,slotsLe (bgI c 0).slots S→Weak (XX [(5,.arr 981 1 3)] 31 []) ⟨S,(bgI c 0).objs,[981]⟩ (bgI c 0):=fun S hS=>⟨hS,by simp [bgI,subO,getO],by simp [bgI,subL,namesSl,V.names,namesOb,Ob.names,namesE_pvE,XX_given]⟩
 have hb0:bgS c 0=[0]:=by simp [bgS,scS]
 simp only [bgI,hb0,nuC,pvE,pvL,List.map_cons,List.map_nil,List.length_cons,List.length_nil,Nat.zero_add,Nat.sub_self,Int.natCast_zero] at hw0
 generalize hcd:c.map insP=cd at *
 refine gg ?_
 refine AWP.loopN c.length (bgI c) ?_ ?_
 ·simp only [bgI,hb0,hcd,nuC,pvE,pvL,List.map_cons,List.map_nil,List.length_cons,List.length_nil,Nat.zero_add,Nat.sub_self,Int.natCast_zero]
  exact hw0 _ (by simp [slotsLe,getS])
 intro k hkn
 clear hw0 hb0
 have hkl:=bg_len1 c k
 have hnl:=nuC_len (bgS c k)
 have k0:(0:Int)≤(k:Int):=by omega
 by_cases hk:k<c.length
 ·obtain ⟨op,a,hc⟩:=hg k hk
  obtain ⟨hg1,hg2,hg3⟩:=code_at hc
  have hs:=bgS_step hc
  have k1:(k:Int)<(cd.length:Int):=by omega
  rw [hcd] at hg1 hg3
  have e1:((k+1:Nat):Int)=(k:Int)+1:=by omega
  have hcl:cd.length≤4096:=by omega
  by_cases h14:op=14
  ·subst h14
   simp only [Int.cast_ofNat_Int] at hg1
   by_cases h2:k+1<c.length
   ·rw [if_pos ⟨rfl,h2⟩] at hs
    have k2:(k:Int)+1<(cd.length:Int):=by omega
    have e2:(bgS c k++[k+1]).length=(bgS c k).length+1:=by simp
    have e3:nuC (bgS c k++[k+1])=nuC (bgS c k)++[[.int ((k+1:Nat):Int)]]:=by simp [nuC]
    have e4:(bgS c k).length+1-1=(bgS c k).length-1+1:=by omega
    simp only [bgI,hs,e2,e3,e4,e1,hcd,pvE_app2]
    have hbl:(bgS c k).length≤5000:=by omega
    have htk:List.take (nuC (bgS c k)).length (nuC (bgS c k))=nuC (bgS c k):=List.take_length
    rw [hnl] at htk
    generalize nuC (bgS c k)=ks at *
    generalize (bgS c k).length-1=v at *
    generalize (bgS c k).length=n1 at *
    clear hs e2 e3 e4 e1 hg hc hg2 hkl
    have hbig:(n1:Int)≤5000:=by omega
    have hk5:(k:Int)≤5000:=by omega
    clear hlen hl
    refine gg ?_
    refine ⟨hk,?_,?_,?_⟩
    ·simp [slotsLe,getS]
    ·simp [subO,getO,pvE,pvL,htk]
    ·simp [subL,namesSl,V.names,namesOb,Ob.names,← pvE_app2,namesE_pvE,XX_given]
   ·rw [if_neg (by omega)] at hs
    have k2:¬ (k:Int)+1<(cd.length:Int):=by omega
    simp only [bgI,hs,e1,hcd]
    generalize nuC (bgS c k)=ks at *
    generalize (bgS c k).length-1=v at *
    generalize (bgS c k).length=n1 at *
    have hk5:(k:Int)≤5000:=by omega
    clear hs e1 hg hc hg2 hkl hlen hl
    refine gg ?_
    refine ⟨hk,?_,?_,?_⟩
    ·simp [slotsLe,getS]
    ·simp [subO,getO]
    ·simp [subL,namesSl,V.names,namesOb,Ob.names,namesE_pvE,namesE,namesL,XX_given]
  ·rw [if_neg (by omega)] at hs
   have k2:¬ (op:Int)=14:=by omega
   simp only [bgI,hs,e1,hcd]
   generalize nuC (bgS c k)=ks at *
   generalize (bgS c k).length-1=v at *
   generalize (bgS c k).length=n1 at *
   have hk5:(k:Int)≤5000:=by omega
   clear hs e1 hg hc hg2 hkl hlen hl
   refine gg ?_
   refine ⟨hk,?_,?_,?_⟩
   ·simp [slotsLe,getS]
   ·simp [subO,getO]
   ·simp [subL,namesSl,V.names,namesOb,Ob.names,namesE_pvE,namesE,namesL,XX_given]
 ·have hk':k=c.length:=by omega
  subst hk'
  have k1:¬ (c.length:Int)<(cd.length:Int):=by omega
  simp only [bgI,hcd]
  have htk:List.take (nuC (bgS c c.length)).length (nuC (bgS c c.length))=nuC (bgS c c.length):=List.take_length
  rw [hnl] at htk
  generalize nuC (bgS c c.length)=ks at *
  generalize (bgS c c.length).length-1=v at *
  generalize (bgS c c.length).length=n1 at *
  have hcl:cd.length≤4096:=by omega
  clear hg hkl hlen
  refine ggor ?_
  refine frz 981 (es:=ks) ?_
  refine gg ?_
  exact ⟨by simp [retIs,resV,resL,resOne,mkTup,getS,getO,rdV,mkAgg,unL,V.un,TI.isAgg,XX_T,tt22,Tryz.f148,htk],by simp [subO,getO,tt22,Tryz.f148,htk]⟩
theorem scF_pre (c:List Ins) {k n:Nat} (h:k≤n):scF c k <+: scF c n:=by
 induction n with
 | zero =>
  have:k=0:=by omega
  subst this
  exact List.prefix_refl _
 | succ n ih =>
  by_cases e:k=n+1
  ·subst e;exact List.prefix_refl _
  ·refine (ih (by omega)).trans ?_
   simp only [scF]
   split
   ·split
    ·exact List.prefix_append _ _
    ·exact List.prefix_refl _
   ·exact List.prefix_refl _
theorem scF_at {c:List Ins} {k a n:Nat} (h:c[k]? = some (2,a)) (hn:k<n):(scF c n)[(scF c k).length]? = some a∧(scF c k).length<(scF c n).length:=by
 have h1:scF c (k+1)=scF c k++[a]:=by simp [scF,h]
 obtain ⟨t,ht⟩:=scF_pre c (k:=k+1) (n:=n) (by omega)
 rw [← ht,h1]
 constructor
 ·simp
 ·simp only [List.length_append,List.length_cons,List.length_nil];omega
theorem scF_step {c:List Ins} {k op a:Nat} (h:c[k]? = some (op,a)):(scF c (k+1)).length=if op=2 then (scF c k).length+1 else (scF c k).length:=by
 simp only [scF,h]
 split <;> simp
theorem scF_len2 (c:List Ins):∀ k,(scF c k).length≤k:=by
 intro k
 induction k with
 | zero=>simp [scF]
 | succ k ih =>
  simp only [scF]
  split
  ·split
   ·simp;omega
   ·omega
  ·omega
noncomputable def nbI (c:List Ins) (ks:List (List PV)) (i:Nat):St:=⟨[(0,.pv (.slice (c.map insP))),(3,.pv (.slice ks)),(4,.pv (.int (scF c i).length)),(5,.pv (.int i))],[],[]⟩
theorem numbers_ok (c:List Ins) (h:GoodC c):AC Tryz.prog gl 138 [.pv (.slice (c.map insP))] [] (.ret (.pv (.bool true))) []:=by
 have hlen:(c.map insP).length=c.length:=by simp
 have hpass:∀ k,k<c.length→∃ op a,c[k]? = some (op,a)∧1≤op∧op≤14∧(op≠1→op≠2→a=0):=by
  intro k hk
  obtain ⟨op,a,h1,h2,h3,-,-,h6⟩:=h.pass k hk
  exact ⟨op,a,h1,h2,h3,h6⟩
 have hb:=begins_ok c (fun k hk=>by obtain ⟨op,a,h1,-⟩:=hpass k hk;exact ⟨op,a,h1⟩) h.hi
 have hfin:=bg_fin h
 rw [hfin] at hb
 have hlo:=h.lo
 have hhi:=h.hi
 obtain ⟨al,hal⟩:=h.last
 have hgl:=(code_at hal).1
 have hks:(nuC (0::scF c c.length)).length=(scF c c.length).length+1:=by simp [nuC]
 have hkg:∀ (j a:Nat),(scF c c.length)[j]? = some a→(nuC (0::scF c c.length)).getD ((j:Int)+1).toNat []=[.int a]:=by
  intro j a hj
  rw [show ((j:Int)+1).toNat=j+1 by omega]
  simp [nuC,List.getD,hj]
 have hka:=nuC_all (0::scF c c.length)
 generalize nuC (0::scF c c.length)=ks at *
 have hg2:∀ q∈c.map insP,q.length=2:=(code_at hal).2.2
 have hgl2:(c.map insP).getD (((c.map insP).length:Int)-1).toNat []=[.int 14,.int al]:=by
  rw [show (((c.map insP).length:Int)-1).toNat=c.length-1 by omega]
  exact hgl
 have q1:¬ ((c.map insP).length:Int)<1:=by omega
 have q2:¬ (4096:Int)<((c.map insP).length:Int):=by omega
 have q3:(0:Int)≤((c.map insP).length:Int)-1:=by omega
 have q4:((c.map insP).length:Int)-1<((c.map insP).length:Int):=by omega
 have hcl:(c.map insP).length≤4096:=by omega
 have hkl:ks.length≤5000:=by have:=scF_len2 c c.length;omega
 refine body [] Tryz.func138 Tryz.ntmps138 ?_
 have hw0:∀ S U,slotsLe (nbI c ks 0).slots S→Weak (XX [] 83 []) ⟨S,[],U⟩ (nbI c ks 0):=fun S U hS=>⟨hS,by simp [nbI,subO],by simp [nbI,subL,namesSl,V.names,namesOb,XX_given]⟩
 simp only [nbI,scF,List.length_nil,Int.natCast_zero] at hw0
 generalize hcd:c.map insP=cd at *
 clear hgl
 have hks2:=hks.symm
 clear hks
 have hlen2:=hlen.symm
 clear hlen
 refine gg ?_
 refine call hb ?_
 refine gg ?_
 refine AWP.loopN c.length (nbI c ks) ?_ ?_
 ·simp only [nbI,scF,hcd,List.length_nil,Int.natCast_zero]
  exact hw0 _ _ (by simp [slotsLe,getS])
 intro k hkn
 clear hw0 hb q1 q2 q3 q4 hgl2 hal
 have k0:(0:Int)≤(k:Int):=by omega
 have hfl:=scF_len2 c k
 by_cases hk:k<c.length
 ·obtain ⟨op,a,hc,ho1,ho2,ha0⟩:=hpass k hk
  have hg1:=(code_at hc).1
  rw [hcd] at hg1
  have k1:(k:Int)<(cd.length:Int):=by omega
  have e1:((k+1:Nat):Int)=(k:Int)+1:=by omega
  have hs:=scF_step hc
  have hk5:(k:Int)≤5000:=by omega
  have m1:¬ (op:Int)<1:=by omega
  have m2:¬ (14:Int)<(op:Int):=by omega
  have hf5:((scF c k).length:Int)≤5000:=by omega
  by_cases h1:op=1
  ·subst h1
   rw [if_neg (by omega)] at hs
   have m3:¬ (a:Int)<0:=by omega
   simp only [nbI,hs,e1,hcd,Int.cast_ofNat_Int] at hg1 ⊢
   generalize (scF c k).length=f at *
   clear hs hc e1 hpass hkg hlen2 hhi hlo hks2 hfin
   refine gg ?_
   refine ⟨hk,?_,?_,?_⟩
   ·simp [slotsLe,getS]
   ·simp [subO,getO]
   ·simp [subL,namesSl,V.names,namesOb,XX_given]
  ·by_cases h2:op=2
   ·subst h2
    rw [if_pos rfl] at hs
    obtain ⟨hfa,hfb⟩:=scF_at hc hk
    have hgi:=hkg _ _ hfa
    have hfw:=h.fwd k a hc
    have m3:¬ (ks.length:Int)≤((scF c k).length:Int)+1:=by omega
    have m4:¬ (a:Int)≤(k:Int):=by omega
    have m5:((scF c k).length:Int)+1<(ks.length:Int):=by omega
    have m6:(0:Int)≤((scF c k).length:Int)+1:=by omega
    have e2:(((scF c k).length+1:Nat):Int)=((scF c k).length:Int)+1:=by omega
    simp only [nbI,hs,e1,e2,hcd,Int.cast_ofNat_Int] at hg1 ⊢
    generalize (scF c k).length=f at *
    clear hs hc e1 e2 hpass hkg hlen2 hhi hlo hks2 hfin hfa hfb
    refine gg ?_
    refine ⟨by rfl,?_⟩
    refine gg ?_
    refine ⟨hk,?_,?_,?_⟩
    ·simp [slotsLe,getS]
    ·simp [subO,getO]
    ·simp [subL,namesSl,V.names,namesOb,XX_given]
   ·rw [if_neg h2] at hs
    have ha:=ha0 h1 h2
    subst ha
    have m3:¬ (op:Int)=1:=by omega
    have m4:¬ (op:Int)=2:=by omega
    simp only [nbI,hs,e1,hcd,Int.natCast_zero] at hg1 ⊢
    generalize (scF c k).length=f at *
    clear hs hc e1 hpass hkg hlen2 hhi hlo hks2 hfin
    refine gg ?_
    refine ⟨hk,?_,?_,?_⟩
    ·simp [slotsLe,getS]
    ·simp [subO,getO]
    ·simp [subL,namesSl,V.names,namesOb,XX_given]
 ·have hk':k=c.length:=by omega
  subst hk'
  have k1:¬ (c.length:Int)<(cd.length:Int):=by omega
  have m1:((scF c c.length).length:Int)+1=(ks.length:Int):=by omega
  have hf5:((scF c c.length).length:Int)≤5000:=by omega
  simp only [nbI,hcd]
  generalize (scF c c.length).length=f at *
  clear hpass hkg hlen2 hfin hks2
  refine gg ?_
  exact ⟨by simp [retIs,resV,resL,resOne,mkTup,getS,getO,rdV,mkAgg,unL,V.un,TI.isAgg,XX_T,tt4,Tryz.f138,m1],by simp [subO,getO,tt4,Tryz.f138,m1]⟩
open Go.Lg
set_option maxRecDepth 10000
set_option maxHeartbeats 4000000
def T5 (x:List PV):Prop:=∃ (k n j:Nat) (s t:List (List PV)),x=[.int k,.int n,.int j,.slice s,.slice t]
theorem var24_ok (i:Nat):AC Tryz.prog gl 30 [.pv (.int i)] [] (.ret (.pv (.agg [.int 1,.int i,.int 0,.slice [],.slice []]))) []:=by
 refine body [] Tryz.func30 Tryz.ntmps30 ?_
 refine gg ?_
 exact enC23
theorem unit23_ok:AC Tryz.prog gl 149 [] [] (.ret (.pv (.agg [.int 5,.slice []]))) []:=by
 refine body [] Tryz.func149 Tryz.ntmps149 ?_
 refine gg ?_
 exact enC23
theorem lamc_ok (x:List PV) (hx:T5 x):AC Tryz.prog gl 31 [.pv (.agg [.int 5,.slice []]),.pv (.agg x)] [] (.ret (.pv (.agg [.int 2,.int 0,.int 5,.slice [],.slice [x]]))) []:=by
 obtain ⟨k,n,j,s,t,rfl⟩:=hx
 refine body [] Tryz.func31 Tryz.ntmps31 ?_
 refine gg ?_
 exact enC23
theorem kind_ok (op:Nat) (h1:3≤op) (h2:op≤13):AC Tryz.prog gl 150 [.pv (.int op)] [] (.ret (.pv (.tuple [.int op,.int (takesP op)]))) []:=by
 have:op=3∨op=4∨op=5∨op=6∨op=7∨op=8∨op=9∨op=10∨op=11∨op=12∨op=13:=by omega
 rcases this with rfl | rfl | rfl | rfl | rfl | rfl | rfl | rfl | rfl | rfl | rfl
 all_goals
  simp only [takesP,Nat.reduceEqDiff,false_or,or_false,or_self,true_or,or_true,if_true,if_false,Int.cast_ofNat_Int]
  refine body [] Tryz.func150 Tryz.ntmps150 ?_
  refine gg ?_
  exact enC23
def opX (op:Nat) (args:List (List PV)):List PV:=[.int op,.int (0:Nat),.int ((if op=6∨op=9 then 5 else 0:Nat):Int),.slice [],.slice args]
theorem opX_T5 (op:Nat) (args:List (List PV)):T5 (opX op args):=⟨_,_,_,_,_,rfl⟩
inductive RdL (c:List Ins):Nat→List (List PV)→List PV→Prop
 | ret {p x} : c[p]? = some (14,0)→RdL c p [x] x
 | var {p:Nat} {stk:List (List PV)} {i:Nat} {r:List PV} : c[p]? = some (1,i)→RdL c (p+1) (stk++[[.int 1,.int i,.int 0,.slice [],.slice []]]) r→RdL c p stk r
 | fn {p:Nat} {stk:List (List PV)} {A:Nat} {x r:List PV} : c[p]? = some (2,A)→AC Tryz.prog gl 139 [.pv (.slice (c.map insP)),.pv (.int A)] [] (.ret (.pv (.tuple [.agg x,.bool true]))) []→T5 x→RdL c (p+1) (stk++[[.int 2,.int 0,.int 5,.slice [],.slice [x]]]) r→RdL c p stk r
 | op {p:Nat} {stk args:List (List PV)} {op:Nat} {r:List PV} : c[p]? = some (op,0)→3≤op→op≤13→takesP op=args.length→RdL c (p+1) (stk++[opX op args]) r→RdL c p (stk++args) r
def zT5:List V:=[.pv (.int 0),.pv (.int 0),.pv (.int 0),.pv (.slice []),.pv (.slice [])]
noncomputable def rdI2 (c:List Ins) (p:Nat) (stk:List (List PV)) (v:Nat):St :=
 ⟨[(0,.pv (.slice (c.map insP))),(1,.pv (.int p)),(4,.loc 4 0),(5,.pv (.bool false)),(6,.arr 980 v stk.length)],[(4,.box zT5),(980,.arr v 5 30 (pvE stk))],[980,4]⟩
theorem T5_len {x:List PV} (h:T5 x):x.length=5:=by
 obtain ⟨k,n,j,s,t,rfl⟩:=h
 rfl
theorem T5_one {x:List PV} (h:T5 x):x.all PV.one=true:=by
 obtain ⟨k,n,j,s,t,rfl⟩:=h
 rfl
theorem read_of (c:List Ins) (p:Nat) (r:List PV) (hl:c.length≤4096) (h:RdL c p [] r):AC Tryz.prog gl 139 [.pv (.slice (c.map insP)),.pv (.int p)] [] (.ret (.pv (.tuple [.agg r,.bool true]))) []:=by
 have hcl:(c.map insP).length≤4096:=by simpa using hl
 refine body [(6,.arr 980 5 30),(61,.arr 980 5 30)] Tryz.func139 Tryz.ntmps139 ?_
 have hw0:∀ S,slotsLe (rdI2 c p [] 0).slots S→Weak (XX [(6,.arr 980 5 30),(61,.arr 980 5 30)] 98 []) ⟨S,(rdI2 c p [] 0).objs,[980,4]⟩ (rdI2 c p [] 0):=fun S hS=>⟨hS,by simp [rdI2,subO,getO,zT5],by simp [rdI2,zT5,subL,namesSl,V.names,namesOb,Ob.names,namesL,namesE_pvE,XX_given]⟩
 simp only [rdI2,zT5,pvE,List.map_nil,List.length_nil] at hw0
 generalize hcd:c.map insP=cd at *
 refine gg ?_
 refine AWP.loop (ι:={ q:Nat × List (List PV) × Nat // RdL c q.1 q.2.1 r∧(∀ x∈q.2.1,T5 x)∧q.2.1.length≤q.1 }) (fun q=>rdI2 c q.1.1 q.1.2.1 q.1.2.2) (fun q=>c.length-q.1.1) ⟨(p,[],0),h,by simp,Nat.zero_le _⟩ ?_ ?_
 ·simp only [rdI2,zT5,hcd,pvE,List.map_nil,List.length_nil]
  exact hw0 _ (by simp [slotsLe,getS])
 clear hw0 h
 rintro ⟨⟨p,stk,v⟩,h,hT,hlen⟩
 simp only at h hT hlen ⊢
 have k0:(0:Int)≤(p:Int):=by omega
 cases h with
 | @ret _ x hc =>
  obtain ⟨hg1,hg2,hg3⟩:=code_at hc
  rw [hcd] at hg1 hg2 hg3
  have hpc:p<c.length:=(List.getElem?_eq_some_iff.1 hc).1
  have k1:(p:Int)<(cd.length:Int):=by omega
  have hp5:(p:Int)≤5000:=by omega
  have e1:((p+1:Nat):Int)=(p:Int)+1:=by omega
  obtain ⟨kx,nx,jx,sx,tx,ex⟩:=hT r (by simp)
  subst ex
  simp only [rdI2,zT5,hcd,pvE,pvL,List.map_cons,List.map_nil,List.length_cons,List.length_nil,Nat.zero_add,Int.cast_ofNat_Int,Int.natCast_zero] at hg1 ⊢
  clear hc hT hpc e1 hlen hl
  refine gg ?_
  exact enC23
 | @var _ _ i _ hc hr =>
  obtain ⟨hg1,hg2,hg3⟩:=code_at hc
  rw [hcd] at hg1 hg2 hg3
  have hpc:p<c.length:=(List.getElem?_eq_some_iff.1 hc).1
  have k1:(p:Int)<(cd.length:Int):=by omega
  have hp5:(p:Int)≤5000:=by omega
  have e1:((p+1:Nat):Int)=(p:Int)+1:=by omega
  have hn0:∀ v' σ',Weak (XX [(6,.arr 980 5 30),(61,.arr 980 5 30)] 98 []) σ' (rdI2 c (p+1) (stk++[[.int 1,.int i,.int 0,.slice [],.slice []]]) v')→∃ q : { q:Nat × List (List PV) × Nat // RdL c q.1 q.2.1 r∧(∀ x∈q.2.1,T5 x)∧q.2.1.length≤q.1 },c.length-q.1.1<c.length-p∧Weak (XX [(6,.arr 980 5 30),(61,.arr 980 5 30)] 98 []) σ' (rdI2 c q.1.1 q.1.2.1 q.1.2.2) :=
   fun v' σ' hw=>⟨⟨(p+1,stk++[[.int 1,.int i,.int 0,.slice [],.slice []]],v'),hr,by
    intro y hy
    rcases List.mem_append.1 hy with hy | hy
    ·exact hT y hy
    ·rw [List.mem_singleton.1 hy];exact ⟨1,i,0,[],[],rfl⟩,by simp only [List.length_append,List.length_cons,List.length_nil];omega⟩,by simp only;omega,hw⟩
  generalize hPP:(fun σ' => ∃ q : { q:Nat × List (List PV) × Nat // RdL c q.1 q.2.1 r∧(∀ x∈q.2.1,T5 x)∧q.2.1.length≤q.1 },c.length-q.1.1<c.length-p∧Weak (XX [(6,.arr 980 5 30),(61,.arr 980 5 30)] 98 []) σ' (rdI2 c q.1.1 q.1.2.1 q.1.2.2))=PP
  have hn':∀ v' σ',Weak (XX [(6,.arr 980 5 30),(61,.arr 980 5 30)] 98 []) σ' (rdI2 c (p+1) (stk++[[.int 1,.int i,.int 0,.slice [],.slice []]]) v')→PP σ':=by
   intro v' σ' h
   rw [← hPP]
   exact hn0 v' σ' h
  clear hn0 hPP
  have h30:=var24_ok i
  have hk5:(stk.length:Int)≤5000:=by omega
  have hk6:stk.length≤5000:=by omega
  have e2:(stk++[[PV.int 1,.int i,.int 0,.slice [],.slice []]]).length=stk.length+1:=by simp
  have htk:List.take stk.length stk=stk:=List.take_length
  have hpl:(pvE stk).length=stk.length:=by simp [pvE]
  simp only [rdI2,zT5,hcd,e1,e2,pvE_app2,Int.cast_ofNat_Int] at hg1 hn' ⊢
  clear hc hT hpc e1 e2 hlen hl hr hg2
  refine gg ?_
  refine call h30 ?_
  refine gg ?_
  refine hn' (v+1) _ ⟨?_,?_,?_⟩
  ·simp [slotsLe,getS]
  ·simp [subO,getO,htk,pvE,pvL]
  ·simp [subL,namesSl,V.names,namesOb,Ob.names,namesL,← pvE_app2,namesE_pvE,XX_given]
 | @fn _ _ A x _ hc h139 hx hr =>
  obtain ⟨hg1,hg2,hg3⟩:=code_at hc
  rw [hcd] at hg1 hg2 hg3
  have hpc:p<c.length:=(List.getElem?_eq_some_iff.1 hc).1
  have k1:(p:Int)<(cd.length:Int):=by omega
  have hp5:(p:Int)≤5000:=by omega
  have e1:((p+1:Nat):Int)=(p:Int)+1:=by omega
  have hn0:∀ v' σ',Weak (XX [(6,.arr 980 5 30),(61,.arr 980 5 30)] 98 []) σ' (rdI2 c (p+1) (stk++[[.int 2,.int 0,.int 5,.slice [],.slice [x]]]) v')→∃ q : { q:Nat × List (List PV) × Nat // RdL c q.1 q.2.1 r∧(∀ x∈q.2.1,T5 x)∧q.2.1.length≤q.1 },c.length-q.1.1<c.length-p∧Weak (XX [(6,.arr 980 5 30),(61,.arr 980 5 30)] 98 []) σ' (rdI2 c q.1.1 q.1.2.1 q.1.2.2) :=
   fun v' σ' hw=>⟨⟨(p+1,stk++[[.int 2,.int 0,.int 5,.slice [],.slice [x]]],v'),hr,by
    intro y hy
    rcases List.mem_append.1 hy with hy | hy
    ·exact hT y hy
    ·rw [List.mem_singleton.1 hy];exact ⟨2,0,5,[],[x],rfl⟩,by simp only [List.length_append,List.length_cons,List.length_nil];omega⟩,by simp only;omega,hw⟩
  generalize hPP:(fun σ' => ∃ q : { q:Nat × List (List PV) × Nat // RdL c q.1 q.2.1 r∧(∀ x∈q.2.1,T5 x)∧q.2.1.length≤q.1 },c.length-q.1.1<c.length-p∧Weak (XX [(6,.arr 980 5 30),(61,.arr 980 5 30)] 98 []) σ' (rdI2 c q.1.1 q.1.2.1 q.1.2.2))=PP
  have hn':∀ v' σ',Weak (XX [(6,.arr 980 5 30),(61,.arr 980 5 30)] 98 []) σ' (rdI2 c (p+1) (stk++[[.int 2,.int 0,.int 5,.slice [],.slice [x]]]) v')→PP σ':=by
   intro v' σ' h
   rw [← hPP]
   exact hn0 v' σ' h
  clear hn0 hPP
  have h31:=lamc_ok x hx
  have h149:=unit23_ok
  obtain ⟨kx,nx,jx,sx,tx,rfl⟩:=hx
  have hk5:(stk.length:Int)≤5000:=by omega
  have hk6:stk.length≤5000:=by omega
  have e2:(stk++[[PV.int 2,.int 0,.int 5,.slice [],.slice [[.int kx,.int nx,.int jx,.slice sx,.slice tx]]]]).length=stk.length+1:=by simp
  have htk:List.take stk.length stk=stk:=List.take_length
  have hpl:(pvE stk).length=stk.length:=by simp [pvE]
  rw [hcd] at h139
  simp only [rdI2,zT5,hcd,e1,e2,pvE_app2,Int.cast_ofNat_Int] at hg1 hn' ⊢
  clear hc hT hpc e1 e2 hlen hl hr hg2
  refine gg ?_
  refine call h139 ?_
  refine gg ?_
  refine call h149 ?_
  refine gg ?_
  refine call h31 ?_
  refine gg ?_
  refine ⟨by rfl,?_⟩
  refine gg ?_
  refine hn' (v+1) _ ⟨?_,?_,?_⟩
  ·simp [slotsLe,getS]
  ·simp [subO,getO,htk,pvE,pvL]
  ·simp [subL,namesSl,V.names,namesOb,Ob.names,namesL,← pvE_app2,namesE_pvE,XX_given]
 | @op _ stk args op _ hc ho1 ho2 hta hr =>
  obtain ⟨hg1,hg2,hg3⟩:=code_at hc
  rw [hcd] at hg1 hg2 hg3
  have hpc:p<c.length:=(List.getElem?_eq_some_iff.1 hc).1
  have k1:(p:Int)<(cd.length:Int):=by omega
  have hp5:(p:Int)≤5000:=by omega
  have e1:((p+1:Nat):Int)=(p:Int)+1:=by omega
  have hn0:∀ v' σ',Weak (XX [(6,.arr 980 5 30),(61,.arr 980 5 30)] 98 []) σ' (rdI2 c (p+1) (stk++[opX op args]) v')→∃ q : { q:Nat × List (List PV) × Nat // RdL c q.1 q.2.1 r∧(∀ x∈q.2.1,T5 x)∧q.2.1.length≤q.1 },c.length-q.1.1<c.length-p∧Weak (XX [(6,.arr 980 5 30),(61,.arr 980 5 30)] 98 []) σ' (rdI2 c q.1.1 q.1.2.1 q.1.2.2) :=
   fun v' σ' hw=>⟨⟨(p+1,stk++[opX op args],v'),hr,by
    intro y hy
    rcases List.mem_append.1 hy with hy | hy
    ·exact hT y (List.mem_append.2 (.inl hy))
    ·rw [List.mem_singleton.1 hy];exact opX_T5 op args,by simp only [List.length_append,List.length_cons,List.length_nil] at hlen ⊢;omega⟩,by simp only;omega,hw⟩
  generalize hPP:(fun σ' => ∃ q : { q:Nat × List (List PV) × Nat // RdL c q.1 q.2.1 r∧(∀ x∈q.2.1,T5 x)∧q.2.1.length≤q.1 },c.length-q.1.1<c.length-p∧Weak (XX [(6,.arr 980 5 30),(61,.arr 980 5 30)] 98 []) σ' (rdI2 c q.1.1 q.1.2.1 q.1.2.2))=PP
  have hn':∀ v' σ',Weak (XX [(6,.arr 980 5 30),(61,.arr 980 5 30)] 98 []) σ' (rdI2 c (p+1) (stk++[opX op args]) v')→PP σ':=by
   intro v' σ' h
   rw [← hPP]
   exact hn0 v' σ' h
  clear hn0 hPP
  have h150:=kind_ok op ho1 ho2
  have h149:=unit23_ok
  rw [hta] at h150
  have m1:¬ (op:Int)=14:=by omega
  have m2:¬ (op:Int)=1:=by omega
  have m3:¬ (op:Int)=2:=by omega
  have hna:args.length≤3:=by rw [← hta];unfold takesP;split <;> (try split) <;> (try split) <;> omega
  have hlc:(stk++args).length=stk.length+args.length:=by simp
  have m4:¬ (((stk++args).length:Nat):Int)<(args.length:Int):=by omega
  have m5:(0:Int)≤(((stk++args).length:Nat):Int)-(args.length:Int):=by omega
  have m6:(((stk++args).length:Nat):Int)-(args.length:Int)≤(((stk++args).length:Nat):Int):=by omega
  have hdr:(stk++args).drop ((((stk++args).length:Nat):Int)-(args.length:Int)).toNat=args:=by
   rw [show ((((stk++args).length:Nat):Int)-(args.length:Int)).toNat=stk.length by omega,List.drop_left]
  have htt:(stk++args).take ((((stk++args).length:Nat):Int)-(args.length:Int)).toNat=stk:=by
   rw [show ((((stk++args).length:Nat):Int)-(args.length:Int)).toNat=stk.length by omega,List.take_left]
  have hcl5:(stk++args).length≤5000:=by omega
  have hsl5:stk.length≤5000:=by omega
  have hallc:∀ q∈stk++args,q.length=5:=fun q hq=>T5_len (hT q hq)
  have halls:∀ q∈stk,q.length=5:=fun q hq=>T5_len (hT q (List.mem_append.2 (.inl hq)))
  have hones:∀ q∈stk,q.all PV.one=true:=fun q hq=>T5_one (hT q (List.mem_append.2 (.inl hq)))
  have halla:∀ q∈args,q.length=5:=fun q hq=>T5_len (hT q (List.mem_append.2 (.inr hq)))
  have e2:(stk++[opX op args]).length=stk.length+1:=by simp
  have htk:List.take (stk++args).length (stk++args)=stk++args:=List.take_length
  have htk2:List.take stk.length stk=stk:=List.take_length
  have n0:(0:Int)≤(args.length:Int):=by omega
  have n1:(args.length:Int)≤3:=by omega
  simp only [rdI2,zT5,hcd,e1,e2,pvE_app2] at hn' ⊢
  rw [← pvE_app2]
  clear hc hT hpc e1 e2 hlen hl hr hg2 hlc hta
  generalize stk++args=cc at *
  refine frz 980 (es:=cc) ?_
  refine AWP.weaken (τ:=⟨[(0,.pv (.slice cd)),(1,.pv (.int p)),(4,.loc 4 0),(5,.pv (.bool false)),(6,.pv (.slice cc))],[(4,.box [.pv (.int 0),.pv (.int 0),.pv (.int 0),.pv (.slice []),.pv (.slice [])])],[4]⟩) ⟨by simp [slotsLe,getS,htk],by simp [subO,getO],by simp [subL,namesSl,V.names,namesOb,Ob.names,namesL,XX_given]⟩ ?_
  clear htk
  by_cases h69:op=6∨op=9
  ·have m7:opX op args=[.int op,.int 0,.int 5,.slice [],.slice args]:=by simp [opX,h69]
   rw [m7] at hn'
   clear m7
   by_cases h6:op=6
   ·subst h6
    simp only [Int.cast_ofNat_Int] at hn' h150 hg1
    refine gg ?_
    refine call h150 ?_
    refine gg ?_
    refine call h149 ?_
    refine gg ?_
    refine go ?_ (hc:=by simp only [buildC,and_true,true_and,implies_true,true_implies,and_self];exact ⟨by unfold inI;omega,⟨halls,hones,by unfold maxLen;omega,by omega⟩,Nat.le_refl _,by unfold maxLen;omega,by omega⟩)
    refine gg ?_
    refine ⟨by rfl,?_⟩
    refine gg ?_
    refine hn' 2 _ ⟨?_,?_,?_⟩
    ·simp [slotsLe,getS]
    ·simp [subO,getO,htk2,pvE,pvL]
    ·simp [subL,namesSl,V.names,namesOb,Ob.names,namesL,← pvE_app2,namesE_pvE,XX_given]
   ·obtain rfl:op=9:=by omega
    simp only [Int.cast_ofNat_Int] at hn' h150 hg1
    refine gg ?_
    refine call h150 ?_
    refine gg ?_
    refine call h149 ?_
    refine gg ?_
    refine go ?_ (hc:=by simp only [buildC,and_true,true_and,implies_true,true_implies,and_self];exact ⟨by unfold inI;omega,⟨halls,hones,by unfold maxLen;omega,by omega⟩,Nat.le_refl _,by unfold maxLen;omega,by omega⟩)
    refine gg ?_
    refine ⟨by rfl,?_⟩
    refine gg ?_
    refine hn' 2 _ ⟨?_,?_,?_⟩
    ·simp [slotsLe,getS]
    ·simp [subO,getO,htk2,pvE,pvL]
    ·simp [subL,namesSl,V.names,namesOb,Ob.names,namesL,← pvE_app2,namesE_pvE,XX_given]
  ·have m7:opX op args=[.int op,.int 0,.int 0,.slice [],.slice args]:=by simp [opX,h69]
   rw [m7] at hn'
   have m8:¬ (op:Int)=6:=by omega
   have m9:¬ (op:Int)=9:=by omega
   refine gg ?_
   refine call h150 ?_
   refine gg ?_
   refine go ?_ (hc:=by simp only [buildC,and_true,true_and,implies_true,true_implies,and_self];exact ⟨by unfold inI;omega,⟨halls,hones,by unfold maxLen;omega,by omega⟩,Nat.le_refl _,by unfold maxLen;omega,by omega⟩)
   refine gg ?_
   refine ⟨by rfl,?_⟩
   refine gg ?_
   refine hn' 2 _ ⟨?_,?_,?_⟩
   ·simp [slotsLe,getS]
   ·simp [subO,getO,htk2,pvE,pvL]
   ·simp [subL,namesSl,V.names,namesOb,Ob.names,namesL,← pvE_app2,namesE_pvE,XX_given]
def erC:Tm→List PV
 | .var i=>[.int 1,.int i,.int 0,.slice [],.slice []]
 | .lam _ b=>[.int 2,.int 0,.int 5,.slice [],.slice [erC b]]
 | .app f a=>opX 3 [erC f,erC a]
 | .zero=>opX 4 []
 | .succ a=>opX 5 [erC a]
 | .recn _ x y z=>opX 6 [erC x,erC y,erC z]
 | .nil=>opX 7 []
 | .cons x y=>opX 8 [erC x,erC y]
 | .fold _ x y z=>opX 9 [erC x,erC y,erC z]
 | .pair x y=>opX 10 [erC x,erC y]
 | .fst a=>opX 11 [erC a]
 | .snd a=>opX 12 [erC a]
 | .unit=>opX 13 []
theorem erC_T5 (t:Tm):T5 (erC t):=by
 cases t with
 | var i=>exact ⟨1,i,0,[],[],rfl⟩
 | lam s b=>exact ⟨2,0,5,[],_,rfl⟩
 | _=>exact opX_T5 _ _
theorem RdL.op0 {c:List Ins} {p op:Nat} {stk:List (List PV)} {r:List PV} (h:c[p]? = some (op,0)) (h1:3≤op) (h2:op≤13) (h3:takesP op=0) (k:RdL c (p+1) (stk++[opX op []]) r):RdL c p stk r:=by
 have:=RdL.op (stk:=stk) (args:=[]) h h1 h2 h3 k
 simpa using this
theorem RdL.op1 {c:List Ins} {p op:Nat} {stk:List (List PV)} {x r:List PV} (h:c[p]? = some (op,0)) (h1:3≤op) (h2:op≤13) (h3:takesP op=1) (k:RdL c (p+1) (stk++[opX op [x]]) r):RdL c p (stk++[x]) r :=
 RdL.op (stk:=stk) (args:=[x]) h h1 h2 h3 k
theorem RdL.op2 {c:List Ins} {p op:Nat} {stk:List (List PV)} {x y r:List PV} (h:c[p]? = some (op,0)) (h1:3≤op) (h2:op≤13) (h3:takesP op=2) (k:RdL c (p+1) (stk++[opX op [x,y]]) r):RdL c p (stk++[x]++[y]) r:=by
 have:=RdL.op (stk:=stk) (args:=[x,y]) h h1 h2 h3 k
 simpa using this
theorem RdL.op3 {c:List Ins} {p op:Nat} {stk:List (List PV)} {x y z r:List PV} (h:c[p]? = some (op,0)) (h1:3≤op) (h2:op≤13) (h3:takesP op=3) (k:RdL c (p+1) (stk++[opX op [x,y,z]]) r):RdL c p (stk++[x]++[y]++[z]) r:=by
 have:=RdL.op (stk:=stk) (args:=[x,y,z]) h h1 h2 h3 k
 simpa using this
theorem read_tm {c:List Ins} (hl:c.length≤4096):∀ (t:Tm) {p q:Nat} {stk:List (List PV)} {r:List PV},TA c t p q→RdL c q (stk++[erC t]) r→RdL c p stk r
 | .var i,p,q,stk,r,⟨h1,e⟩,h=>by subst e;exact .var h1 h
 | .lam s b,p,q,stk,r,⟨⟨A,e',h1,h2,h3⟩,e⟩,h=>by
  subst e
  have hb:=read_tm hl b (stk:=[]) h2 (.ret h3)
  exact .fn h1 (read_of c A _ hl hb) (erC_T5 b) h
 | .app f a,p,q,stk,r,⟨m,n,h1,h2,h3,e⟩,h=>by
  subst e
  exact read_tm hl f h1 (read_tm hl a h2 (.op2 h3 (by omega) (by omega) rfl h))
 | .zero,p,q,stk,r,⟨h1,e⟩,h=>by subst e;exact .op0 h1 (by omega) (by omega) rfl h
 | .succ a,p,q,stk,r,⟨m,h1,h2,e⟩,h=>by
  subst e
  exact read_tm hl a h1 (.op1 h2 (by omega) (by omega) rfl h)
 | .recn _ x y z,p,q,stk,r,⟨k,m,n,h1,h2,h3,h4,e⟩,h=>by
  subst e
  exact read_tm hl x h1 (read_tm hl y h2 (read_tm hl z h3 (.op3 h4 (by omega) (by omega) rfl h)))
 | .nil,p,q,stk,r,⟨h1,e⟩,h=>by subst e;exact .op0 h1 (by omega) (by omega) rfl h
 | .cons f a,p,q,stk,r,⟨m,n,h1,h2,h3,e⟩,h=>by
  subst e
  exact read_tm hl f h1 (read_tm hl a h2 (.op2 h3 (by omega) (by omega) rfl h))
 | .fold _ x y z,p,q,stk,r,⟨k,m,n,h1,h2,h3,h4,e⟩,h=>by
  subst e
  exact read_tm hl x h1 (read_tm hl y h2 (read_tm hl z h3 (.op3 h4 (by omega) (by omega) rfl h)))
 | .pair f a,p,q,stk,r,⟨m,n,h1,h2,h3,e⟩,h=>by
  subst e
  exact read_tm hl f h1 (read_tm hl a h2 (.op2 h3 (by omega) (by omega) rfl h))
 | .fst a,p,q,stk,r,⟨m,h1,h2,e⟩,h=>by
  subst e
  exact read_tm hl a h1 (.op1 h2 (by omega) (by omega) rfl h)
 | .snd a,p,q,stk,r,⟨m,h1,h2,e⟩,h=>by
  subst e
  exact read_tm hl a h1 (.op1 h2 (by omega) (by omega) rfl h)
 | .unit,p,q,stk,r,⟨h1,e⟩,h=>by subst e;exact .op0 h1 (by omega) (by omega) rfl h
theorem check37_ok {c:List Ins} {t:Tm} {e:Nat} (h:GoodC c) (hT:TA c t 0 e) (he:c[e]? = some (14,0)):AC Tryz.prog gl 121 [.pv (.slice (c.map insP))] [] (.ret (.pv (.int 0))) []:=by
 have h1:=numbers_ok c h
 have h2:=read_of c 0 _ h.hi (read_tm h.hi t (stk:=[]) hT (.ret he))
 obtain ⟨kx,nx,jx,sx,tx,ex⟩:=erC_T5 t
 rw [ex] at h2
 simp only [Int.natCast_zero] at h2
 generalize c.map insP=cd at *
 refine body [] Tryz.func121 Tryz.ntmps121 ?_
 refine gg ?_
 refine call h1 ?_
 refine gg ?_
 refine call h2 ?_
 refine gg ?_
 exact enC23
theorem fault_ok {c:List Ins} {t:Tm} {e:Nat} (h:GoodC c) (hT:TA c t 0 e) (he:c[e]? = some (14,0)) (l:Nat) (hl:l≤65536):AC Tryz.prog gl 91 [.pv (.slice (c.map insP)),.pv (.int l)] [] (.ret (.pv (.int 0))) []:=by
 have h1:=check37_ok h hT he
 have k1:¬ (l:Int)<0:=by omega
 have k2:¬ (65536:Int)<(l:Int):=by omega
 generalize c.map insP=cd at *
 refine body [] Tryz.func91 Tryz.ntmps91 ?_
 refine gg ?_
 refine call h1 ?_
 refine gg ?_
 exact enC23
open Go.Lg
set_option maxRecDepth 10000
set_option maxHeartbeats 4000000
noncomputable def oO:List (Nat × Ob):=[(931,.box [.map 930]),(932,.box [.fn 100 [.loc 931 0,.loc 932 0]]),(930,.cache DatP cellF)]
theorem out_num (n:Nat):AC Tryz.prog gl 100 [.pv (itP (.num n)),.loc 931 0,.loc 932 0] oO (.ret (.pv (.agg (itCell (.num n))))) oO:=by
 have hD:DatP (itP (.num n)):=⟨_,.num n,rfl⟩
 have hF:=cellF_itP (.num n)
 have hv:=vsize_ok []
 simp only [itP,itCell,oO,varsP,linkP,numsP,List.length_nil,Int.cast_ofNat_Int] at *
 refine body [] Tryz.func100 Tryz.ntmps100 ?_
 generalize DatP=D at *
 generalize cellF=F at *
 refine gg ?_
 refine look (n:=930) (F:=F) hD ?_
 intro b
 simp only [St.eff,putS,updAll,List.nil_append]
 cases b with
 | true =>
  simp only [cond_true]
  rw [hF]
  refine gg ?_
  exact enC23
 | false =>
  simp only [cond_false]
  refine gg ?_
  refine ⟨by rfl,?_⟩
  refine gg ?_
  refine ex_loop 1 (ex_round ?_)
  refine gg ?_
  refine call hv ?_
  refine gg ?_
  exact enC23
theorem out_unit  : AC Tryz.prog gl 100 [.pv (itP (.unit)),.loc 931 0,.loc 932 0] oO (.ret (.pv (.agg (itCell (.unit))))) oO:=by
 have hD:DatP (itP (.unit)):=⟨_,Dat.unit,rfl⟩
 have hF:=cellF_itP (Dat.unit)
 have hv:=vsize_ok []
 simp only [itP,itCell,oO,varsP,linkP,numsP,List.length_nil,Int.cast_ofNat_Int] at *
 refine body [] Tryz.func100 Tryz.ntmps100 ?_
 generalize DatP=D at *
 generalize cellF=F at *
 refine gg ?_
 refine look (n:=930) (F:=F) hD ?_
 intro b
 simp only [St.eff,putS,updAll,List.nil_append]
 cases b with
 | true =>
  simp only [cond_true]
  rw [hF]
  refine gg ?_
  exact enC23
 | false =>
  simp only [cond_false]
  refine gg ?_
  refine ⟨by rfl,?_⟩
  refine gg ?_
  refine ex_loop 1 (ex_round ?_)
  refine gg ?_
  refine call hv ?_
  refine gg ?_
  exact enC23
theorem out_nil  : AC Tryz.prog gl 100 [.pv (itP (.list [])),.loc 931 0,.loc 932 0] oO (.ret (.pv (.agg (itCell (.list []))))) oO:=by
 have hD:DatP (itP (.list [])):=⟨_,Dat.list [],rfl⟩
 have hF:=cellF_itP (Dat.list [])
 have hv:=vsize_ok []
 simp only [itP,itCell,oO,varsP,linkP,numsP,List.length_nil,Int.cast_ofNat_Int] at *
 refine body [] Tryz.func100 Tryz.ntmps100 ?_
 generalize DatP=D at *
 generalize cellF=F at *
 refine gg ?_
 refine look (n:=930) (F:=F) hD ?_
 intro b
 simp only [St.eff,putS,updAll,List.nil_append]
 cases b with
 | true =>
  simp only [cond_true]
  rw [hF]
  refine gg ?_
  exact enC23
 | false =>
  simp only [cond_false]
  refine gg ?_
  refine ⟨by rfl,?_⟩
  refine gg ?_
  refine ex_loop 1 (ex_round ?_)
  refine gg ?_
  refine call hv ?_
  refine gg ?_
  exact enC23
end Go.Proofs.YtodjpfpmhjdhbaaGreatDoor
