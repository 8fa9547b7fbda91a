/- Contracts of functions; no conditions. -/
import Derived.Test.YtodjpfpmhjdhbaaGreatDoorTwiceC22
import Derived.Test.YtodjpfpmhjdhbaaGreatDoorTwiceC5
import Derived.Test.YtodjpfpmhjdhbaaGreatDoorTwiceC19
import Derived.Test.YtodjpfpmhjdhbaaGreatDoorTwiceC4
set_option linter.all false
namespace Go.Proofs.YtodjpfpmhjdhbaaGreatDoor
open Go.Lg
theorem enC23 {P Q : Prop} (h : P := by simp [retIs,resV,resL,resOne,mkTup,getS,getO,rdV,mkAgg,unL,V.un,TI.isAgg,XX_T,tt30,Tryz.f111,Tryz.f28]) (k : Q := by simp [subO,getO,tt30,Tryz.f111,Tryz.f28]) : P ∧ Q := ⟨h,k⟩
end Go.Proofs.YtodjpfpmhjdhbaaGreatDoor
namespace Go.Proofs.YtodjpfpmhjdhbaaGreatDoor
open Go.Lg
set_option maxRecDepth 60000
set_option maxHeartbeats 4000000
theorem scH_le (c:List Ins):∀ k,scH c k≤k:=by
 intro k
 induction k with
 | zero=>simp [scH]
 | succ k ih =>
  simp only [scH]
  split
  ·split<;>omega
  ·omega
theorem scS_len (c:List Ins):∀ k,1≤(scS c k).length∧(scS c k).length≤k+1:=by
 intro k
 induction k with
 | zero=>simp [scS]
 | succ k ih =>
  simp only [scS]
  split
  ·split
   ·simp;omega
   ·omega
  ·omega
theorem scF_len (c:List Ins):∀ k,(scF c k).length≤k:=by
 intro k
 induction k with
 | zero=>simp [scF]
 | succ k ih =>
  simp only [scF]
  split
  ·split
   ·simp;omega
   ·omega
  ·omega
noncomputable def stI (c:List Ins) (k:Nat):St:=⟨[(0,.pv (.slice (c.map insP))),(4,.arr 950 ((scS c k).length-1) (scS c k).length),(5,.arr 951 (scF c k).length (scF c k).length),(6,.pv (.int (scH c k))),(30,.pv (.slice (c.map insP))),(31,.pv (.int c.length)),(32,.pv (.int k))],
 [(950,.arr ((scS c k).length-1) 1 3 (pvE (numsC (scS c k)))),(951,.arr (scF c k).length 1 3 (pvE (numsC (scF c k))))],[951,950]⟩
theorem numsC_len (l:List Nat):(numsC l).length=l.length:=by simp [numsC]
def inBlk:Code→Code
 | .block _ c=>c
 | c=>c
def inLp:Code→Code
 | .loop c=>c
 | c=>c
noncomputable def c65:Code:=Tryz.f111.body.getD .skip
noncomputable def lp65:Code:=inLp (inBlk (right (left (right (right (right (right (right c65))))))))
def StC (c:List Ins) (k:Nat):Prop:=∀ Q,AWP (XX [(29,.arr 950 1 3),(5,.arr 951 1 3)] 135 []) lp65 (stI c k) (thenQ (fun σ=>k<c.length∧Weak (XX [(29,.arr 950 1 3),(5,.arr 951 1 3)] 135 []) σ (stI c (k+1))) Q)
theorem st_14 (c:List Ins) (k a:Nat) (h:GoodC c) (hk:k<c.length) (hop0:c[k]? = some (14,a)):StC c k:=by
 obtain⟨op,a',hop,o1,o2,p1,p2,p3⟩:=h.pass k hk
 have e:some ((14,a):Ins)=some (op,a'):=hop0.symm.trans hop
 cases e
 obtain⟨rfl,hH⟩:=p1 rfl
 have hhi:=h.hi
 have hgk:(c.map insP).getD k []=[.int 14,.int 0]:=by simp [List.getD,hop,insP]
 have hal:=insP_all c
 have hlen:(c.map insP).length=c.length:=by simp
 have hkk':(k:Int)<c.length:=by omega
 have hk0:(0:Int)≤(k:Int):=by omega
 have hSl:=scS_len c k
 have hFl:=scF_len c k
 have n1:=numsC_len (scS c k)
 have n2:=numsC_len (scF c k)
 have t1:(numsC (scS c k)).take (scS c k).length=numsC (scS c k):=List.take_of_length_le (by omega)
 have eS:scS c (k+1)=scS c k++[k+1]:=by simp [scS,hop]
 have eF:scF c (k+1)=scF c k:=by simp [scF,hop]
 have eH:scH c (k+1)=0:=by simp [scH,hop]
 have eN:numsC (scS c k++[k+1])=numsC (scS c k)++[[.int ((k:Int)+1)]]:=by simp [numsC]
 have el:(scS c k++[k+1]).length-1=(scS c k).length-1+1:=by simp;omega
 have el2:(scS c k++[k+1]).length=(scS c k).length+1:=by simp
 unfold StC stI
 intro Q
 rw [eS,eF,eH,eN,el,el2,hH]
 clear eS eF eH eN el el2 p1 p2 p3 h hop hop0 hH o1 o2
 generalize c.map insP=cc at *
 generalize numsC (scS c k)=NS at *
 generalize numsC (scF c k)=NF at *
 generalize (scS c k).length=ls at *
 generalize (scF c k).length=lf at *
 obtain⟨s1,s2⟩:=hSl
 have b1:k+1≤4097:=by omega
 simp only [lp65,c65,Tryz.f111,Option.getD_some,left,right,inBlk,inLp]
 (repeat (first|with_reducible refine ex_seq ?_|with_reducible refine ex_block ?_|with_reducible refine q_normal ?_|with_reducible refine b_normal ?_|with_reducible refine runOps_nil ?_|with_reducible refine ex_reg ?_|with_reducible refine ex_skip ?_|with_reducible refine ex_exit ?_|with_reducible refine q_exit ?_|with_reducible refine b_same ?_|refine b_other rfl ?_|refine cdt ?_|refine cdf ?_|fail))
 refine go ?_
 (repeat (first|with_reducible refine ex_seq ?_|with_reducible refine ex_block ?_|with_reducible refine q_normal ?_|with_reducible refine b_normal ?_|with_reducible refine runOps_nil ?_|with_reducible refine ex_reg ?_|with_reducible refine ex_skip ?_|with_reducible refine ex_exit ?_|with_reducible refine q_exit ?_|with_reducible refine b_same ?_|refine b_other rfl ?_|refine cdt ?_|refine cdf ?_|fail))
 refine go ?_ (hc:=by simp only [buildC,and_true,true_and,implies_true,true_implies,and_self];exact hal)
 clear hal
 (repeat (first|with_reducible refine ex_seq ?_|with_reducible refine ex_block ?_|with_reducible refine q_normal ?_|with_reducible refine b_normal ?_|with_reducible refine runOps_nil ?_|with_reducible refine ex_reg ?_|with_reducible refine ex_skip ?_|with_reducible refine ex_exit ?_|with_reducible refine q_exit ?_|with_reducible refine b_same ?_|refine b_other rfl ?_|refine cdt ?_|refine cdf ?_|fail))
 refine go ?_
 (repeat (first|with_reducible refine ex_seq ?_|with_reducible refine ex_block ?_|with_reducible refine q_normal ?_|with_reducible refine b_normal ?_|with_reducible refine runOps_nil ?_|with_reducible refine ex_reg ?_|with_reducible refine ex_skip ?_|with_reducible refine ex_exit ?_|with_reducible refine q_exit ?_|with_reducible refine b_same ?_|refine b_other rfl ?_|refine cdt ?_|refine cdf ?_|fail))
 refine go ?_
 (repeat (first|with_reducible refine ex_seq ?_|with_reducible refine ex_block ?_|with_reducible refine q_normal ?_|with_reducible refine b_normal ?_|with_reducible refine runOps_nil ?_|with_reducible refine ex_reg ?_|with_reducible refine ex_skip ?_|with_reducible refine ex_exit ?_|with_reducible refine q_exit ?_|with_reducible refine b_same ?_|refine b_other rfl ?_|refine cdt ?_|refine cdf ?_|fail))
 refine go ?_
 (repeat (first|with_reducible refine ex_seq ?_|with_reducible refine ex_block ?_|with_reducible refine q_normal ?_|with_reducible refine b_normal ?_|with_reducible refine runOps_nil ?_|with_reducible refine ex_reg ?_|with_reducible refine ex_skip ?_|with_reducible refine ex_exit ?_|with_reducible refine q_exit ?_|with_reducible refine b_same ?_|refine b_other rfl ?_|refine cdt ?_|refine cdf ?_|fail))
 refine go ?_ (hc:=by simp only [buildC,and_true,true_and,implies_true,true_implies,and_self];(repeat' (with_reducible apply And.intro))<;>first|assumption|omega|(unfold inI;omega)|(unfold maxLen;omega)|(rw [n1];unfold maxLen;omega))
 (repeat (first|with_reducible refine ex_seq ?_|with_reducible refine ex_block ?_|with_reducible refine q_normal ?_|with_reducible refine b_normal ?_|with_reducible refine runOps_nil ?_|with_reducible refine ex_reg ?_|with_reducible refine ex_skip ?_|with_reducible refine ex_exit ?_|with_reducible refine q_exit ?_|with_reducible refine b_same ?_|refine b_other rfl ?_|refine cdt ?_|refine cdf ?_|fail))
 refine go ?_
 (repeat (first|with_reducible refine ex_seq ?_|with_reducible refine ex_block ?_|with_reducible refine q_normal ?_|with_reducible refine b_normal ?_|with_reducible refine runOps_nil ?_|with_reducible refine ex_reg ?_|with_reducible refine ex_skip ?_|with_reducible refine ex_exit ?_|with_reducible refine q_exit ?_|with_reducible refine b_same ?_|refine b_other rfl ?_|refine cdt ?_|refine cdf ?_|fail))
 refine⟨hk,?_,?_,?_⟩
 ·simp [slotsLe,getS]
 ·simp [subO,getO]
 ·simp [subL,namesSl,V.names,namesOb,Ob.names,namesE_pvE,XX_given]
set_option maxRecDepth 60000
theorem st_1 (c:List Ins) (k a:Nat) (h:GoodC c) (hk:k<c.length) (hop:c[k]? = some (1,a)):StC c k:=by
 obtain⟨op,a',hop',o1,o2,p1,p2,p3⟩:=h.pass k hk
 have e:some ((1,a):Ins)=some (op,a'):=hop.symm.trans hop'
 cases e
 have hT:=p2 (by decide)
 have hab:=h.bnd k _ _ hop
 have hhi:=h.hi
 have hgk:(c.map insP).getD k []=[.int 1,.int a]:=by simp [List.getD,hop,insP]
 have eS:scS c (k+1)=scS c k:=by simp [scS,hop]
 have eF:scF c (k+1)=scF c k:=by simp [scF,hop]
 have eH:scH c (k+1)=scH c k+1-0:=by simp [scH,hop,takes]
 have hT':0≤scH c k:=hT
 obtain⟨T,hops,hT0⟩:∃ T:Int,opsP=[.int 0,.int 0,.int T,.int 1,.int 0,.int 2,.int 2,.int 3,.int 0,.int 4,.int 1,.int 5,.int 3,.int 6,.int 0,.int 7,.int 2,.int 8,.int 3,.int 9,.int 2,.int 10,.int 1,.int 11,.int 1,.int 12,.int 0,.int 13]∧T=0:=⟨_,rfl,rfl⟩
 have hH2:((scH c (k+1):Nat):Int)=(scH c k:Int)+(1-T):=by omega
 have f2:¬ (scH c k:Int)<T:=by omega
 have hT1:0≤T∧T≤3:=by omega
 clear hT0
 have hHl:=scH_le c k
 have hal:=insP_all c
 have hlen:(c.map insP).length=c.length:=by simp
 have hkk':(k:Int)<c.length:=by omega
 have hk0:(0:Int)≤(k:Int):=by omega
 have hSl:=scS_len c k
 have hFl:=scF_len c k
 have n1:=numsC_len (scS c k)
 have n2:=numsC_len (scF c k)
 unfold StC stI
 intro Q
 rw [eS,eF]
 clear eS eF eH p1 p2 p3 h hop hop' o1 o2 hT
 generalize c.map insP=cc at *
 generalize numsC (scS c k)=NS at *
 generalize numsC (scF c k)=NF at *
 generalize (scS c k).length=ls at *
 generalize (scF c k).length=lf at *
 generalize ((scH c (k+1):Nat):Int)=H2 at *
 generalize scH c k=H at *
 obtain⟨s1,s2⟩:=hSl
 have b1:k+1≤4097:=by omega
 simp only [lp65,c65,Tryz.f111,Option.getD_some,left,right,inBlk,inLp]
 refine gg ?_
 refine⟨hk,?_,?_,?_⟩
 ·simp [slotsLe,getS,hH2]
 ·simp [subO,getO]
 ·simp [subL,namesSl,V.names,namesOb,Ob.names,namesE_pvE,XX_given]
theorem st_2 (c:List Ins) (k a:Nat) (h:GoodC c) (hk:k<c.length) (hop:c[k]? = some (2,a)):StC c k:=by
 obtain⟨op,a',hop',o1,o2,p1,p2,p3⟩:=h.pass k hk
 have e:some ((2,a):Ins)=some (op,a'):=hop.symm.trans hop'
 cases e
 have hT:=p2 (by decide)
 have hab:=h.bnd k _ _ hop
 have hhi:=h.hi
 have hgk:(c.map insP).getD k []=[.int 2,.int a]:=by simp [List.getD,hop,insP]
 have eS:scS c (k+1)=scS c k:=by simp [scS,hop]
 have f1:¬ (a:Int)≤k:=by have:=h.fwd k a hop;omega
 have eN:numsC (scF c k++[a])=numsC (scF c k)++[[.int (a:Int)]]:=by simp [numsC]
 have el2:(scF c k++[a]).length=(scF c k).length+1:=by simp
 have eF:scF c (k+1)=scF c k++[a]:=by simp [scF,hop]
 have t2:(numsC (scF c k)).take (scF c k).length=numsC (scF c k):=List.take_of_length_le (by rw [numsC_len];exact Nat.le_refl _)
 have eH:scH c (k+1)=scH c k+1-0:=by simp [scH,hop,takes]
 have hT':0≤scH c k:=hT
 obtain⟨T,hops,hT0⟩:∃ T:Int,opsP=[.int 0,.int 0,.int 0,.int 1,.int T,.int 2,.int 2,.int 3,.int 0,.int 4,.int 1,.int 5,.int 3,.int 6,.int 0,.int 7,.int 2,.int 8,.int 3,.int 9,.int 2,.int 10,.int 1,.int 11,.int 1,.int 12,.int 0,.int 13]∧T=0:=⟨_,rfl,rfl⟩
 have hH2:((scH c (k+1):Nat):Int)=(scH c k:Int)+(1-T):=by omega
 have f2:¬ (scH c k:Int)<T:=by omega
 have hT1:0≤T∧T≤3:=by omega
 clear hT0
 have hHl:=scH_le c k
 have hal:=insP_all c
 have hlen:(c.map insP).length=c.length:=by simp
 have hkk':(k:Int)<c.length:=by omega
 have hk0:(0:Int)≤(k:Int):=by omega
 have hSl:=scS_len c k
 have hFl:=scF_len c k
 have n1:=numsC_len (scS c k)
 have n2:=numsC_len (scF c k)
 unfold StC stI
 intro Q
 rw [eS,eF,eN,el2]
 clear eN el2
 clear eS eF eH p1 p2 p3 h hop hop' o1 o2 hT
 generalize c.map insP=cc at *
 generalize numsC (scS c k)=NS at *
 generalize numsC (scF c k)=NF at *
 generalize (scS c k).length=ls at *
 generalize (scF c k).length=lf at *
 generalize ((scH c (k+1):Nat):Int)=H2 at *
 generalize scH c k=H at *
 obtain⟨s1,s2⟩:=hSl
 have b1:k+1≤4097:=by omega
 simp only [lp65,c65,Tryz.f111,Option.getD_some,left,right,inBlk,inLp]
 refine gg ?_
 refine⟨hk,?_,?_,?_⟩
 ·simp [slotsLe,getS,hH2]
 ·simp [subO,getO]
 ·simp [subL,namesSl,V.names,namesOb,Ob.names,namesE_pvE,XX_given]
theorem st_3 (c:List Ins) (k a:Nat) (h:GoodC c) (hk:k<c.length) (hop:c[k]? = some (3,a)):StC c k:=by
 obtain⟨op,a',hop',o1,o2,p1,p2,p3⟩:=h.pass k hk
 have e:some ((3,a):Ins)=some (op,a'):=hop.symm.trans hop'
 cases e
 obtain rfl:=p3 (by decide) (by decide)
 have hT:=p2 (by decide)
 have hab:=h.bnd k _ _ hop
 have hhi:=h.hi
 have hgk:(c.map insP).getD k []=[.int 3,.int 0]:=by simp [List.getD,hop,insP]
 have eS:scS c (k+1)=scS c k:=by simp [scS,hop]
 have eF:scF c (k+1)=scF c k:=by simp [scF,hop]
 have eH:scH c (k+1)=scH c k+1-2:=by simp [scH,hop,takes]
 have hT':2≤scH c k:=hT
 obtain⟨T,hops,hT0⟩:∃ T:Int,opsP=[.int 0,.int 0,.int 0,.int 1,.int 0,.int 2,.int T,.int 3,.int 0,.int 4,.int 1,.int 5,.int 3,.int 6,.int 0,.int 7,.int 2,.int 8,.int 3,.int 9,.int 2,.int 10,.int 1,.int 11,.int 1,.int 12,.int 0,.int 13]∧T=2:=⟨_,rfl,rfl⟩
 have hH2:((scH c (k+1):Nat):Int)=(scH c k:Int)+(1-T):=by omega
 have f2:¬ (scH c k:Int)<T:=by omega
 have hT1:0≤T∧T≤3:=by omega
 clear hT0
 have hHl:=scH_le c k
 have hal:=insP_all c
 have hlen:(c.map insP).length=c.length:=by simp
 have hkk':(k:Int)<c.length:=by omega
 have hk0:(0:Int)≤(k:Int):=by omega
 have hSl:=scS_len c k
 have hFl:=scF_len c k
 have n1:=numsC_len (scS c k)
 have n2:=numsC_len (scF c k)
 unfold StC stI
 intro Q
 rw [eS,eF]
 clear eS eF eH p1 p2 p3 h hop hop' o1 o2 hT
 generalize c.map insP=cc at *
 generalize numsC (scS c k)=NS at *
 generalize numsC (scF c k)=NF at *
 generalize (scS c k).length=ls at *
 generalize (scF c k).length=lf at *
 generalize ((scH c (k+1):Nat):Int)=H2 at *
 generalize scH c k=H at *
 obtain⟨s1,s2⟩:=hSl
 have b1:k+1≤4097:=by omega
 simp only [lp65,c65,Tryz.f111,Option.getD_some,left,right,inBlk,inLp]
 refine gg ?_
 refine⟨hk,?_,?_,?_⟩
 ·simp [slotsLe,getS,hH2]
 ·simp [subO,getO]
 ·simp [subL,namesSl,V.names,namesOb,Ob.names,namesE_pvE,XX_given]
theorem st_4 (c:List Ins) (k a:Nat) (h:GoodC c) (hk:k<c.length) (hop:c[k]? = some (4,a)):StC c k:=by
 obtain⟨op,a',hop',o1,o2,p1,p2,p3⟩:=h.pass k hk
 have e:some ((4,a):Ins)=some (op,a'):=hop.symm.trans hop'
 cases e
 obtain rfl:=p3 (by decide) (by decide)
 have hT:=p2 (by decide)
 have hab:=h.bnd k _ _ hop
 have hhi:=h.hi
 have hgk:(c.map insP).getD k []=[.int 4,.int 0]:=by simp [List.getD,hop,insP]
 have eS:scS c (k+1)=scS c k:=by simp [scS,hop]
 have eF:scF c (k+1)=scF c k:=by simp [scF,hop]
 have eH:scH c (k+1)=scH c k+1-0:=by simp [scH,hop,takes]
 have hT':0≤scH c k:=hT
 obtain⟨T,hops,hT0⟩:∃ T:Int,opsP=[.int 0,.int 0,.int 0,.int 1,.int 0,.int 2,.int 2,.int 3,.int T,.int 4,.int 1,.int 5,.int 3,.int 6,.int 0,.int 7,.int 2,.int 8,.int 3,.int 9,.int 2,.int 10,.int 1,.int 11,.int 1,.int 12,.int 0,.int 13]∧T=0:=⟨_,rfl,rfl⟩
 have hH2:((scH c (k+1):Nat):Int)=(scH c k:Int)+(1-T):=by omega
 have f2:¬ (scH c k:Int)<T:=by omega
 have hT1:0≤T∧T≤3:=by omega
 clear hT0
 have hHl:=scH_le c k
 have hal:=insP_all c
 have hlen:(c.map insP).length=c.length:=by simp
 have hkk':(k:Int)<c.length:=by omega
 have hk0:(0:Int)≤(k:Int):=by omega
 have hSl:=scS_len c k
 have hFl:=scF_len c k
 have n1:=numsC_len (scS c k)
 have n2:=numsC_len (scF c k)
 unfold StC stI
 intro Q
 rw [eS,eF]
 clear eS eF eH p1 p2 p3 h hop hop' o1 o2 hT
 generalize c.map insP=cc at *
 generalize numsC (scS c k)=NS at *
 generalize numsC (scF c k)=NF at *
 generalize (scS c k).length=ls at *
 generalize (scF c k).length=lf at *
 generalize ((scH c (k+1):Nat):Int)=H2 at *
 generalize scH c k=H at *
 obtain⟨s1,s2⟩:=hSl
 have b1:k+1≤4097:=by omega
 simp only [lp65,c65,Tryz.f111,Option.getD_some,left,right,inBlk,inLp]
 refine gg ?_
 refine⟨hk,?_,?_,?_⟩
 ·simp [slotsLe,getS,hH2]
 ·simp [subO,getO]
 ·simp [subL,namesSl,V.names,namesOb,Ob.names,namesE_pvE,XX_given]
theorem st_5 (c:List Ins) (k a:Nat) (h:GoodC c) (hk:k<c.length) (hop:c[k]? = some (5,a)):StC c k:=by
 obtain⟨op,a',hop',o1,o2,p1,p2,p3⟩:=h.pass k hk
 have e:some ((5,a):Ins)=some (op,a'):=hop.symm.trans hop'
 cases e
 obtain rfl:=p3 (by decide) (by decide)
 have hT:=p2 (by decide)
 have hab:=h.bnd k _ _ hop
 have hhi:=h.hi
 have hgk:(c.map insP).getD k []=[.int 5,.int 0]:=by simp [List.getD,hop,insP]
 have eS:scS c (k+1)=scS c k:=by simp [scS,hop]
 have eF:scF c (k+1)=scF c k:=by simp [scF,hop]
 have eH:scH c (k+1)=scH c k+1-1:=by simp [scH,hop,takes]
 have hT':1≤scH c k:=hT
 obtain⟨T,hops,hT0⟩:∃ T:Int,opsP=[.int 0,.int 0,.int 0,.int 1,.int 0,.int 2,.int 2,.int 3,.int 0,.int 4,.int T,.int 5,.int 3,.int 6,.int 0,.int 7,.int 2,.int 8,.int 3,.int 9,.int 2,.int 10,.int 1,.int 11,.int 1,.int 12,.int 0,.int 13]∧T=1:=⟨_,rfl,rfl⟩
 have hH2:((scH c (k+1):Nat):Int)=(scH c k:Int)+(1-T):=by omega
 have f2:¬ (scH c k:Int)<T:=by omega
 have hT1:0≤T∧T≤3:=by omega
 clear hT0
 have hHl:=scH_le c k
 have hal:=insP_all c
 have hlen:(c.map insP).length=c.length:=by simp
 have hkk':(k:Int)<c.length:=by omega
 have hk0:(0:Int)≤(k:Int):=by omega
 have hSl:=scS_len c k
 have hFl:=scF_len c k
 have n1:=numsC_len (scS c k)
 have n2:=numsC_len (scF c k)
 unfold StC stI
 intro Q
 rw [eS,eF]
 clear eS eF eH p1 p2 p3 h hop hop' o1 o2 hT
 generalize c.map insP=cc at *
 generalize numsC (scS c k)=NS at *
 generalize numsC (scF c k)=NF at *
 generalize (scS c k).length=ls at *
 generalize (scF c k).length=lf at *
 generalize ((scH c (k+1):Nat):Int)=H2 at *
 generalize scH c k=H at *
 obtain⟨s1,s2⟩:=hSl
 have b1:k+1≤4097:=by omega
 simp only [lp65,c65,Tryz.f111,Option.getD_some,left,right,inBlk,inLp]
 refine gg ?_
 refine⟨hk,?_,?_,?_⟩
 ·simp [slotsLe,getS,hH2]
 ·simp [subO,getO]
 ·simp [subL,namesSl,V.names,namesOb,Ob.names,namesE_pvE,XX_given]
theorem st_6 (c:List Ins) (k a:Nat) (h:GoodC c) (hk:k<c.length) (hop:c[k]? = some (6,a)):StC c k:=by
 obtain⟨op,a',hop',o1,o2,p1,p2,p3⟩:=h.pass k hk
 have e:some ((6,a):Ins)=some (op,a'):=hop.symm.trans hop'
 cases e
 obtain rfl:=p3 (by decide) (by decide)
 have hT:=p2 (by decide)
 have hab:=h.bnd k _ _ hop
 have hhi:=h.hi
 have hgk:(c.map insP).getD k []=[.int 6,.int 0]:=by simp [List.getD,hop,insP]
 have eS:scS c (k+1)=scS c k:=by simp [scS,hop]
 have eF:scF c (k+1)=scF c k:=by simp [scF,hop]
 have eH:scH c (k+1)=scH c k+1-3:=by simp [scH,hop,takes]
 have hT':3≤scH c k:=hT
 obtain⟨T,hops,hT0⟩:∃ T:Int,opsP=[.int 0,.int 0,.int 0,.int 1,.int 0,.int 2,.int 2,.int 3,.int 0,.int 4,.int 1,.int 5,.int T,.int 6,.int 0,.int 7,.int 2,.int 8,.int 3,.int 9,.int 2,.int 10,.int 1,.int 11,.int 1,.int 12,.int 0,.int 13]∧T=3:=⟨_,rfl,rfl⟩
 have hH2:((scH c (k+1):Nat):Int)=(scH c k:Int)+(1-T):=by omega
 have f2:¬ (scH c k:Int)<T:=by omega
 have hT1:0≤T∧T≤3:=by omega
 clear hT0
 have hHl:=scH_le c k
 have hal:=insP_all c
 have hlen:(c.map insP).length=c.length:=by simp
 have hkk':(k:Int)<c.length:=by omega
 have hk0:(0:Int)≤(k:Int):=by omega
 have hSl:=scS_len c k
 have hFl:=scF_len c k
 have n1:=numsC_len (scS c k)
 have n2:=numsC_len (scF c k)
 unfold StC stI
 intro Q
 rw [eS,eF]
 clear eS eF eH p1 p2 p3 h hop hop' o1 o2 hT
 generalize c.map insP=cc at *
 generalize numsC (scS c k)=NS at *
 generalize numsC (scF c k)=NF at *
 generalize (scS c k).length=ls at *
 generalize (scF c k).length=lf at *
 generalize ((scH c (k+1):Nat):Int)=H2 at *
 generalize scH c k=H at *
 obtain⟨s1,s2⟩:=hSl
 have b1:k+1≤4097:=by omega
 simp only [lp65,c65,Tryz.f111,Option.getD_some,left,right,inBlk,inLp]
 refine gg ?_
 refine⟨hk,?_,?_,?_⟩
 ·simp [slotsLe,getS,hH2]
 ·simp [subO,getO]
 ·simp [subL,namesSl,V.names,namesOb,Ob.names,namesE_pvE,XX_given]
theorem st_7 (c:List Ins) (k a:Nat) (h:GoodC c) (hk:k<c.length) (hop:c[k]? = some (7,a)):StC c k:=by
 obtain⟨op,a',hop',o1,o2,p1,p2,p3⟩:=h.pass k hk
 have e:some ((7,a):Ins)=some (op,a'):=hop.symm.trans hop'
 cases e
 obtain rfl:=p3 (by decide) (by decide)
 have hT:=p2 (by decide)
 have hab:=h.bnd k _ _ hop
 have hhi:=h.hi
 have hgk:(c.map insP).getD k []=[.int 7,.int 0]:=by simp [List.getD,hop,insP]
 have eS:scS c (k+1)=scS c k:=by simp [scS,hop]
 have eF:scF c (k+1)=scF c k:=by simp [scF,hop]
 have eH:scH c (k+1)=scH c k+1-0:=by simp [scH,hop,takes]
 have hT':0≤scH c k:=hT
 obtain⟨T,hops,hT0⟩:∃ T:Int,opsP=[.int 0,.int 0,.int 0,.int 1,.int 0,.int 2,.int 2,.int 3,.int 0,.int 4,.int 1,.int 5,.int 3,.int 6,.int T,.int 7,.int 2,.int 8,.int 3,.int 9,.int 2,.int 10,.int 1,.int 11,.int 1,.int 12,.int 0,.int 13]∧T=0:=⟨_,rfl,rfl⟩
 have hH2:((scH c (k+1):Nat):Int)=(scH c k:Int)+(1-T):=by omega
 have f2:¬ (scH c k:Int)<T:=by omega
 have hT1:0≤T∧T≤3:=by omega
 clear hT0
 have hHl:=scH_le c k
 have hal:=insP_all c
 have hlen:(c.map insP).length=c.length:=by simp
 have hkk':(k:Int)<c.length:=by omega
 have hk0:(0:Int)≤(k:Int):=by omega
 have hSl:=scS_len c k
 have hFl:=scF_len c k
 have n1:=numsC_len (scS c k)
 have n2:=numsC_len (scF c k)
 unfold StC stI
 intro Q
 rw [eS,eF]
 clear eS eF eH p1 p2 p3 h hop hop' o1 o2 hT
 generalize c.map insP=cc at *
 generalize numsC (scS c k)=NS at *
 generalize numsC (scF c k)=NF at *
 generalize (scS c k).length=ls at *
 generalize (scF c k).length=lf at *
 generalize ((scH c (k+1):Nat):Int)=H2 at *
 generalize scH c k=H at *
 obtain⟨s1,s2⟩:=hSl
 have b1:k+1≤4097:=by omega
 simp only [lp65,c65,Tryz.f111,Option.getD_some,left,right,inBlk,inLp]
 refine gg ?_
 refine⟨hk,?_,?_,?_⟩
 ·simp [slotsLe,getS,hH2]
 ·simp [subO,getO]
 ·simp [subL,namesSl,V.names,namesOb,Ob.names,namesE_pvE,XX_given]
open Go.Lg
set_option maxRecDepth 60000
set_option maxHeartbeats 4000000
theorem st_8 (c:List Ins) (k a:Nat) (h:GoodC c) (hk:k<c.length) (hop:c[k]? = some (8,a)):StC c k:=by
 obtain⟨op,a',hop',o1,o2,p1,p2,p3⟩:=h.pass k hk
 have e:some ((8,a):Ins)=some (op,a'):=hop.symm.trans hop'
 cases e
 obtain rfl:=p3 (by decide) (by decide)
 have hT:=p2 (by decide)
 have hab:=h.bnd k _ _ hop
 have hhi:=h.hi
 have hgk:(c.map insP).getD k []=[.int 8,.int 0]:=by simp [List.getD,hop,insP]
 have eS:scS c (k+1)=scS c k:=by simp [scS,hop]
 have eF:scF c (k+1)=scF c k:=by simp [scF,hop]
 have eH:scH c (k+1)=scH c k+1-2:=by simp [scH,hop,takes]
 have hT':2≤scH c k:=hT
 obtain⟨T,hops,hT0⟩:∃ T:Int,opsP=[.int 0,.int 0,.int 0,.int 1,.int 0,.int 2,.int 2,.int 3,.int 0,.int 4,.int 1,.int 5,.int 3,.int 6,.int 0,.int 7,.int T,.int 8,.int 3,.int 9,.int 2,.int 10,.int 1,.int 11,.int 1,.int 12,.int 0,.int 13]∧T=2:=⟨_,rfl,rfl⟩
 have hH2:((scH c (k+1):Nat):Int)=(scH c k:Int)+(1-T):=by omega
 have f2:¬ (scH c k:Int)<T:=by omega
 have hT1:0≤T∧T≤3:=by omega
 clear hT0
 have hHl:=scH_le c k
 have hal:=insP_all c
 have hlen:(c.map insP).length=c.length:=by simp
 have hkk':(k:Int)<c.length:=by omega
 have hk0:(0:Int)≤(k:Int):=by omega
 have hSl:=scS_len c k
 have hFl:=scF_len c k
 have n1:=numsC_len (scS c k)
 have n2:=numsC_len (scF c k)
 unfold StC stI
 intro Q
 rw [eS,eF]
 clear eS eF eH p1 p2 p3 h hop hop' o1 o2 hT
 generalize c.map insP=cc at *
 generalize numsC (scS c k)=NS at *
 generalize numsC (scF c k)=NF at *
 generalize (scS c k).length=ls at *
 generalize (scF c k).length=lf at *
 generalize ((scH c (k+1):Nat):Int)=H2 at *
 generalize scH c k=H at *
 obtain⟨s1,s2⟩:=hSl
 have b1:k+1≤4097:=by omega
 simp only [lp65,c65,Tryz.f111,Option.getD_some,left,right,inBlk,inLp]
 refine gg ?_
 refine⟨hk,?_,?_,?_⟩
 ·simp [slotsLe,getS,hH2]
 ·simp [subO,getO]
 ·simp [subL,namesSl,V.names,namesOb,Ob.names,namesE_pvE,XX_given]
theorem st_9 (c:List Ins) (k a:Nat) (h:GoodC c) (hk:k<c.length) (hop:c[k]? = some (9,a)):StC c k:=by
 obtain⟨op,a',hop',o1,o2,p1,p2,p3⟩:=h.pass k hk
 have e:some ((9,a):Ins)=some (op,a'):=hop.symm.trans hop'
 cases e
 obtain rfl:=p3 (by decide) (by decide)
 have hT:=p2 (by decide)
 have hab:=h.bnd k _ _ hop
 have hhi:=h.hi
 have hgk:(c.map insP).getD k []=[.int 9,.int 0]:=by simp [List.getD,hop,insP]
 have eS:scS c (k+1)=scS c k:=by simp [scS,hop]
 have eF:scF c (k+1)=scF c k:=by simp [scF,hop]
 have eH:scH c (k+1)=scH c k+1-3:=by simp [scH,hop,takes]
 have hT':3≤scH c k:=hT
 obtain⟨T,hops,hT0⟩:∃ T:Int,opsP=[.int 0,.int 0,.int 0,.int 1,.int 0,.int 2,.int 2,.int 3,.int 0,.int 4,.int 1,.int 5,.int 3,.int 6,.int 0,.int 7,.int 2,.int 8,.int T,.int 9,.int 2,.int 10,.int 1,.int 11,.int 1,.int 12,.int 0,.int 13]∧T=3:=⟨_,rfl,rfl⟩
 have hH2:((scH c (k+1):Nat):Int)=(scH c k:Int)+(1-T):=by omega
 have f2:¬ (scH c k:Int)<T:=by omega
 have hT1:0≤T∧T≤3:=by omega
 clear hT0
 have hHl:=scH_le c k
 have hal:=insP_all c
 have hlen:(c.map insP).length=c.length:=by simp
 have hkk':(k:Int)<c.length:=by omega
 have hk0:(0:Int)≤(k:Int):=by omega
 have hSl:=scS_len c k
 have hFl:=scF_len c k
 have n1:=numsC_len (scS c k)
 have n2:=numsC_len (scF c k)
 unfold StC stI
 intro Q
 rw [eS,eF]
 clear eS eF eH p1 p2 p3 h hop hop' o1 o2 hT
 generalize c.map insP=cc at *
 generalize numsC (scS c k)=NS at *
 generalize numsC (scF c k)=NF at *
 generalize (scS c k).length=ls at *
 generalize (scF c k).length=lf at *
 generalize ((scH c (k+1):Nat):Int)=H2 at *
 generalize scH c k=H at *
 obtain⟨s1,s2⟩:=hSl
 have b1:k+1≤4097:=by omega
 simp only [lp65,c65,Tryz.f111,Option.getD_some,left,right,inBlk,inLp]
 refine gg ?_
 refine⟨hk,?_,?_,?_⟩
 ·simp [slotsLe,getS,hH2]
 ·simp [subO,getO]
 ·simp [subL,namesSl,V.names,namesOb,Ob.names,namesE_pvE,XX_given]
theorem st_10 (c:List Ins) (k a:Nat) (h:GoodC c) (hk:k<c.length) (hop:c[k]? = some (10,a)):StC c k:=by
 obtain⟨op,a',hop',o1,o2,p1,p2,p3⟩:=h.pass k hk
 have e:some ((10,a):Ins)=some (op,a'):=hop.symm.trans hop'
 cases e
 obtain rfl:=p3 (by decide) (by decide)
 have hT:=p2 (by decide)
 have hab:=h.bnd k _ _ hop
 have hhi:=h.hi
 have hgk:(c.map insP).getD k []=[.int 10,.int 0]:=by simp [List.getD,hop,insP]
 have eS:scS c (k+1)=scS c k:=by simp [scS,hop]
 have eF:scF c (k+1)=scF c k:=by simp [scF,hop]
 have eH:scH c (k+1)=scH c k+1-2:=by simp [scH,hop,takes]
 have hT':2≤scH c k:=hT
 obtain⟨T,hops,hT0⟩:∃ T:Int,opsP=[.int 0,.int 0,.int 0,.int 1,.int 0,.int 2,.int 2,.int 3,.int 0,.int 4,.int 1,.int 5,.int 3,.int 6,.int 0,.int 7,.int 2,.int 8,.int 3,.int 9,.int T,.int 10,.int 1,.int 11,.int 1,.int 12,.int 0,.int 13]∧T=2:=⟨_,rfl,rfl⟩
 have hH2:((scH c (k+1):Nat):Int)=(scH c k:Int)+(1-T):=by omega
 have f2:¬ (scH c k:Int)<T:=by omega
 have hT1:0≤T∧T≤3:=by omega
 clear hT0
 have hHl:=scH_le c k
 have hal:=insP_all c
 have hlen:(c.map insP).length=c.length:=by simp
 have hkk':(k:Int)<c.length:=by omega
 have hk0:(0:Int)≤(k:Int):=by omega
 have hSl:=scS_len c k
 have hFl:=scF_len c k
 have n1:=numsC_len (scS c k)
 have n2:=numsC_len (scF c k)
 unfold StC stI
 intro Q
 rw [eS,eF]
 clear eS eF eH p1 p2 p3 h hop hop' o1 o2 hT
 generalize c.map insP=cc at *
 generalize numsC (scS c k)=NS at *
 generalize numsC (scF c k)=NF at *
 generalize (scS c k).length=ls at *
 generalize (scF c k).length=lf at *
 generalize ((scH c (k+1):Nat):Int)=H2 at *
 generalize scH c k=H at *
 obtain⟨s1,s2⟩:=hSl
 have b1:k+1≤4097:=by omega
 simp only [lp65,c65,Tryz.f111,Option.getD_some,left,right,inBlk,inLp]
 refine gg ?_
 refine⟨hk,?_,?_,?_⟩
 ·simp [slotsLe,getS,hH2]
 ·simp [subO,getO]
 ·simp [subL,namesSl,V.names,namesOb,Ob.names,namesE_pvE,XX_given]
theorem st_11 (c:List Ins) (k a:Nat) (h:GoodC c) (hk:k<c.length) (hop:c[k]? = some (11,a)):StC c k:=by
 obtain⟨op,a',hop',o1,o2,p1,p2,p3⟩:=h.pass k hk
 have e:some ((11,a):Ins)=some (op,a'):=hop.symm.trans hop'
 cases e
 obtain rfl:=p3 (by decide) (by decide)
 have hT:=p2 (by decide)
 have hab:=h.bnd k _ _ hop
 have hhi:=h.hi
 have hgk:(c.map insP).getD k []=[.int 11,.int 0]:=by simp [List.getD,hop,insP]
 have eS:scS c (k+1)=scS c k:=by simp [scS,hop]
 have eF:scF c (k+1)=scF c k:=by simp [scF,hop]
 have eH:scH c (k+1)=scH c k+1-1:=by simp [scH,hop,takes]
 have hT':1≤scH c k:=hT
 obtain⟨T,hops,hT0⟩:∃ T:Int,opsP=[.int 0,.int 0,.int 0,.int 1,.int 0,.int 2,.int 2,.int 3,.int 0,.int 4,.int 1,.int 5,.int 3,.int 6,.int 0,.int 7,.int 2,.int 8,.int 3,.int 9,.int 2,.int 10,.int T,.int 11,.int 1,.int 12,.int 0,.int 13]∧T=1:=⟨_,rfl,rfl⟩
 have hH2:((scH c (k+1):Nat):Int)=(scH c k:Int)+(1-T):=by omega
 have f2:¬ (scH c k:Int)<T:=by omega
 have hT1:0≤T∧T≤3:=by omega
 clear hT0
 have hHl:=scH_le c k
 have hal:=insP_all c
 have hlen:(c.map insP).length=c.length:=by simp
 have hkk':(k:Int)<c.length:=by omega
 have hk0:(0:Int)≤(k:Int):=by omega
 have hSl:=scS_len c k
 have hFl:=scF_len c k
 have n1:=numsC_len (scS c k)
 have n2:=numsC_len (scF c k)
 unfold StC stI
 intro Q
 rw [eS,eF]
 clear eS eF eH p1 p2 p3 h hop hop' o1 o2 hT
 generalize c.map insP=cc at *
 generalize numsC (scS c k)=NS at *
 generalize numsC (scF c k)=NF at *
 generalize (scS c k).length=ls at *
 generalize (scF c k).length=lf at *
 generalize ((scH c (k+1):Nat):Int)=H2 at *
 generalize scH c k=H at *
 obtain⟨s1,s2⟩:=hSl
 have b1:k+1≤4097:=by omega
 simp only [lp65,c65,Tryz.f111,Option.getD_some,left,right,inBlk,inLp]
 refine gg ?_
 refine⟨hk,?_,?_,?_⟩
 ·simp [slotsLe,getS,hH2]
 ·simp [subO,getO]
 ·simp [subL,namesSl,V.names,namesOb,Ob.names,namesE_pvE,XX_given]
theorem st_12 (c:List Ins) (k a:Nat) (h:GoodC c) (hk:k<c.length) (hop:c[k]? = some (12,a)):StC c k:=by
 obtain⟨op,a',hop',o1,o2,p1,p2,p3⟩:=h.pass k hk
 have e:some ((12,a):Ins)=some (op,a'):=hop.symm.trans hop'
 cases e
 obtain rfl:=p3 (by decide) (by decide)
 have hT:=p2 (by decide)
 have hab:=h.bnd k _ _ hop
 have hhi:=h.hi
 have hgk:(c.map insP).getD k []=[.int 12,.int 0]:=by simp [List.getD,hop,insP]
 have eS:scS c (k+1)=scS c k:=by simp [scS,hop]
 have eF:scF c (k+1)=scF c k:=by simp [scF,hop]
 have eH:scH c (k+1)=scH c k+1-1:=by simp [scH,hop,takes]
 have hT':1≤scH c k:=hT
 obtain⟨T,hops,hT0⟩:∃ T:Int,opsP=[.int 0,.int 0,.int 0,.int 1,.int 0,.int 2,.int 2,.int 3,.int 0,.int 4,.int 1,.int 5,.int 3,.int 6,.int 0,.int 7,.int 2,.int 8,.int 3,.int 9,.int 2,.int 10,.int 1,.int 11,.int T,.int 12,.int 0,.int 13]∧T=1:=⟨_,rfl,rfl⟩
 have hH2:((scH c (k+1):Nat):Int)=(scH c k:Int)+(1-T):=by omega
 have f2:¬ (scH c k:Int)<T:=by omega
 have hT1:0≤T∧T≤3:=by omega
 clear hT0
 have hHl:=scH_le c k
 have hal:=insP_all c
 have hlen:(c.map insP).length=c.length:=by simp
 have hkk':(k:Int)<c.length:=by omega
 have hk0:(0:Int)≤(k:Int):=by omega
 have hSl:=scS_len c k
 have hFl:=scF_len c k
 have n1:=numsC_len (scS c k)
 have n2:=numsC_len (scF c k)
 unfold StC stI
 intro Q
 rw [eS,eF]
 clear eS eF eH p1 p2 p3 h hop hop' o1 o2 hT
 generalize c.map insP=cc at *
 generalize numsC (scS c k)=NS at *
 generalize numsC (scF c k)=NF at *
 generalize (scS c k).length=ls at *
 generalize (scF c k).length=lf at *
 generalize ((scH c (k+1):Nat):Int)=H2 at *
 generalize scH c k=H at *
 obtain⟨s1,s2⟩:=hSl
 have b1:k+1≤4097:=by omega
 simp only [lp65,c65,Tryz.f111,Option.getD_some,left,right,inBlk,inLp]
 refine gg ?_
 refine⟨hk,?_,?_,?_⟩
 ·simp [slotsLe,getS,hH2]
 ·simp [subO,getO]
 ·simp [subL,namesSl,V.names,namesOb,Ob.names,namesE_pvE,XX_given]
theorem st_13 (c:List Ins) (k a:Nat) (h:GoodC c) (hk:k<c.length) (hop:c[k]? = some (13,a)):StC c k:=by
 obtain⟨op,a',hop',o1,o2,p1,p2,p3⟩:=h.pass k hk
 have e:some ((13,a):Ins)=some (op,a'):=hop.symm.trans hop'
 cases e
 obtain rfl:=p3 (by decide) (by decide)
 have hT:=p2 (by decide)
 have hab:=h.bnd k _ _ hop
 have hhi:=h.hi
 have hgk:(c.map insP).getD k []=[.int 13,.int 0]:=by simp [List.getD,hop,insP]
 have eS:scS c (k+1)=scS c k:=by simp [scS,hop]
 have eF:scF c (k+1)=scF c k:=by simp [scF,hop]
 have eH:scH c (k+1)=scH c k+1-0:=by simp [scH,hop,takes]
 have hT':0≤scH c k:=hT
 obtain⟨T,hops,hT0⟩:∃ T:Int,opsP=[.int 0,.int 0,.int 0,.int 1,.int 0,.int 2,.int 2,.int 3,.int 0,.int 4,.int 1,.int 5,.int 3,.int 6,.int 0,.int 7,.int 2,.int 8,.int 3,.int 9,.int 2,.int 10,.int 1,.int 11,.int 1,.int 12,.int T,.int 13]∧T=0:=⟨_,rfl,rfl⟩
 have hH2:((scH c (k+1):Nat):Int)=(scH c k:Int)+(1-T):=by omega
 have f2:¬ (scH c k:Int)<T:=by omega
 have hT1:0≤T∧T≤3:=by omega
 clear hT0
 have hHl:=scH_le c k
 have hal:=insP_all c
 have hlen:(c.map insP).length=c.length:=by simp
 have hkk':(k:Int)<c.length:=by omega
 have hk0:(0:Int)≤(k:Int):=by omega
 have hSl:=scS_len c k
 have hFl:=scF_len c k
 have n1:=numsC_len (scS c k)
 have n2:=numsC_len (scF c k)
 unfold StC stI
 intro Q
 rw [eS,eF]
 clear eS eF eH p1 p2 p3 h hop hop' o1 o2 hT
 generalize c.map insP=cc at *
 generalize numsC (scS c k)=NS at *
 generalize numsC (scF c k)=NF at *
 generalize (scS c k).length=ls at *
 generalize (scF c k).length=lf at *
 generalize ((scH c (k+1):Nat):Int)=H2 at *
 generalize scH c k=H at *
 obtain⟨s1,s2⟩:=hSl
 have b1:k+1≤4097:=by omega
 simp only [lp65,c65,Tryz.f111,Option.getD_some,left,right,inBlk,inLp]
 refine gg ?_
 refine⟨hk,?_,?_,?_⟩
 ·simp [slotsLe,getS,hH2]
 ·simp [subO,getO]
 ·simp [subL,namesSl,V.names,namesOb,Ob.names,namesE_pvE,XX_given]
set_option maxRecDepth 60000
theorem st_any (c:List Ins) (k:Nat) (h:GoodC c) (hk:k<c.length):StC c k:=by
 obtain⟨op,a,hop,o1,o2,p1,p2,p3⟩:=h.pass k hk
 have:op=1∨op=2∨op=3∨op=4∨op=5∨op=6∨op=7∨op=8∨op=9∨op=10∨op=11∨op=12∨op=13∨op=14:=by omega
 rcases this with rfl|rfl|rfl|rfl|rfl|rfl|rfl|rfl|rfl|rfl|rfl|rfl|rfl|rfl
 ·exact st_1 c k a h hk hop
 ·exact st_2 c k a h hk hop
 ·exact st_3 c k a h hk hop
 ·exact st_4 c k a h hk hop
 ·exact st_5 c k a h hk hop
 ·exact st_6 c k a h hk hop
 ·exact st_7 c k a h hk hop
 ·exact st_8 c k a h hk hop
 ·exact st_9 c k a h hk hop
 ·exact st_10 c k a h hk hop
 ·exact st_11 c k a h hk hop
 ·exact st_12 c k a h hk hop
 ·exact st_13 c k a h hk hop
 ·exact st_14 c k a h hk hop
noncomputable def st2 (NS NF:List (List PV)) (f k:Nat):St:=⟨[(4,.arr 950 (f+1) (f+1)),(5,.arr 951 f f),(119,.arr 951 f f),(120,.pv (.int f)),(121,.pv (.int k))],
 [(950,.arr (f+1) 1 3 (pvE NS)),(951,.arr f 1 3 (pvE NF))],[951,950]⟩
theorem starts_ok (c:List Ins) (h:GoodC c):AC Tryz.prog gl 111 [.pv (.slice (c.map insP))] [] (.ret (.pv (.tuple [.slice (numsC (0::scF c c.length)),.bool true]))) []:=by
 obtain⟨la,hla⟩:=h.last
 have hlo:=h.lo
 have hhi:=h.hi
 have hst:=fun k hk=>st_any c k h hk
 have hget:(c.map insP).getD (c.length-1) []=[.int 14,.int la]:=by simp [List.getD,hla,insP]
 have hal:=insP_all c
 have hlen:(c.map insP).length=c.length:=by simp
 refine body [(29,.arr 950 1 3),(5,.arr 951 1 3)] Tryz.func111 Tryz.ntmps111 ?_
 have h1:¬ (c.length:Int)<1:=by omega
 have h2:¬ (4096:Int)<c.length:=by omega
 have h3:((c.length:Int)-1).toNat=c.length-1:=by omega
 have h4:(0:Int)≤(c.length:Int)-1:=by omega
 have h5:(c.length:Int)-1<c.length:=by omega
 generalize hcc:c.map insP=cc at *
 refine gg ?_
 refine AWP.loopN c.length (stI c) ?_ ?_
 ·refine⟨by simp [stI,slotsLe,getS,scS,scF,scH,hcc],by simp [stI,subO,getO,scS,scF,numsC,pvE,pvL],by simp [stI,subL,namesSl,V.names,namesOb,Ob.names,namesE_pvE,XX_given]⟩
 intro k hkk
 by_cases hk:k<c.length
 ·exact hst k hk _
 ·obtain rfl:k=c.length:=by omega
  have hfin:=h.fin
  have hFl:=scF_len c c.length
  have eN:numsC (scS c c.length)=numsC (0::(scF c c.length++[c.length])):=by rw [hfin]
  have el:(scS c c.length).length=(scF c c.length).length+2:=by rw [hfin];simp
  have n1:=numsC_len (0::(scF c c.length++[c.length]))
  have n2:=numsC_len (scF c c.length)
  have tk:(numsC (0::(scF c c.length++[c.length]))).take ((scF c c.length).length+1)=numsC (0::scF c c.length):=by
   simp [numsC,List.take_append]
  have hg:∀ k,k<(scF c c.length).length→∃ a:Nat,(numsC (scF c c.length))[k]? = some [.int a]∧(numsC (0::(scF c c.length++[c.length])))[k+1]? = some [.int a]:=by
   intro k hk
   refine⟨(scF c c.length)[k],?_,?_⟩
   ·simp [numsC,hk]
   ·simp [numsC,List.getElem?_append,hk]
  have m1:∀ y∈numsC (0::(scF c c.length++[c.length])),y.length=1:=by
   intro y hy
   simp only [numsC,List.mem_map] at hy
   obtain⟨x,_,rfl⟩:=hy
   rfl
  have m2:∀ y∈numsC (scF c c.length),y.length=1:=by
   intro y hy
   simp only [numsC,List.mem_map] at hy
   obtain⟨x,_,rfl⟩:=hy
   rfl
  unfold stI
  rw [eN,el,hcc,← tk]
  have e1:(scF c c.length).length+2-1=(scF c c.length).length+1:=by omega
  rw [e1]
  clear eN el tk hfin hst hla hget h1 h2 h3 h4 h5 hal hcc h hkk hk e1
  have n3:(0::(scF c c.length++[c.length])).length=(scF c c.length).length+2:=by simp
  rw [n3] at n1
  clear n3
  generalize numsC (0::(scF c c.length++[c.length]))=NS at *
  generalize numsC (scF c c.length)=NF at *
  generalize (scF c c.length).length=f at *
  generalize scH c c.length=H at *
  have g1:((f:Int)+2-1).toNat=f+1:=by omega
  have g2:(0:Int)≤(f:Int)+2-1:=by omega
  have g3:(f:Int)+2-1≤(f:Int)+2:=by omega
  have g4:((f+2:Nat):Int)=(f:Int)+2:=by omega
  have g5:((f+1:Nat):Int)=(f:Int)+1:=by omega
  have g6:(f:Int)+1-1=(f:Int):=by omega
  have g7:¬ (c.length:Int)<c.length:=by omega
  refine gg ?_
  clear g1 g2 g3 g4 g6 g7
  refine AWP.loopN f (st2 NS NF f) ?_ ?_
  ·refine⟨by simp [st2,slotsLe,getS],by simp [st2,subO,getO],by simp [st2,subL,namesSl,V.names,namesOb,Ob.names,namesE_pvE,XX_given]⟩
  intro k hkf
  unfold st2
  by_cases hk:k<f
  ·obtain⟨a,ha,hb⟩:=hg k hk
   have k1:(k:Int)<f:=by omega
   have k2:(0:Int)≤(k:Int):=by omega
   have k3:((k:Int)+1).toNat=k+1:=by omega
   have k4:(0:Int)≤(k:Int)+1:=by omega
   have k5:(k:Int)+1<(f:Int)+1:=by omega
   clear hg
   refine gg ?_
   refine⟨hk,?_,?_,?_⟩
   ·simp [slotsLe,getS]
   ·simp [subO,getO]
   ·simp [subL,namesSl,V.names,namesOb,Ob.names,namesE_pvE,XX_given]
  ·obtain rfl:k=f:=by omega
   have k1:¬ (k:Int)<k:=by omega
   clear hg
   refine frz 950 ?_
   refine gg ?_
   exact enC23
open Go.Lg
set_option maxRecDepth 10000
set_option maxHeartbeats 4000000
end Go.Proofs.YtodjpfpmhjdhbaaGreatDoor
namespace Go.Proofs.YtodjpfpmhjdhbaaGreatDoor
open Go.Lg
set_option maxRecDepth 10000
set_option maxHeartbeats 4000000
theorem fin_okc {t:Tm} {τ:Ty} (h:HasTy [] t τ) (hl:(finC t).code.length≤4096) (hs:t.size≤4096):Okc (finC t).code:=by
 intro p op a hc
 have hm:=fin_okI h (op,a) (List.mem_of_getElem? hc)
 obtain⟨h1,h2,h3,h4⟩:=hm
 have hp:=(List.getElem?_eq_some_iff.1 hc).1
 simp only at h1 h2 h3 h4
 exact⟨by omega,by omega,h1,h2,h4⟩
theorem node_ok (a b:Tm):AC Tryz.prog gl 28 [.pv (.int 10),.pv (.slice [a.cells,b.cells])] [] (.ret (.pv (.agg (Tm.pair a b).cells))) []:=by
 rw [Tm.cells_eq (.pair a b)]
 simp only [Tm.kind,Tm.idx,Tm.ty,Tm.args,Ty.cells,List.map_cons,List.map_nil]
 simp only [Ty.kind,Ty.args,List.map_nil]
 generalize a.cells=ca at *
 generalize b.cells=cb at *
 refine body [] Tryz.func28 Tryz.ntmps28 ?_
 refine gg ?_
 exact enC23
end Go.Proofs.YtodjpfpmhjdhbaaGreatDoor
