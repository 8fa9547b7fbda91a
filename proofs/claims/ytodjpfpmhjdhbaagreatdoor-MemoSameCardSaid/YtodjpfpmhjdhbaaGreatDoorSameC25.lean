/- Part of the proof: contracts of the types, terms, the generator and the compiler; no conditions. -/
import Derived.Test.YtodjpfpmhjdhbaaGreatDoorSameC24
import Derived.Test.YtodjpfpmhjdhbaaGreatDoorSameC19
import Derived.Test.YtodjpfpmhjdhbaaGreatDoorSameC6
import Derived.Test.YtodjpfpmhjdhbaaGreatDoorSameC4
import Derived.Test.YtodjpfpmhjdhbaaGreatDoorSameC5
set_option linter.unusedVariables false
set_option linter.unusedSimpArgs false
set_option linter.unusedSectionVars false
theorem Go.Proofs.YtodjpfpmhjdhbaaGreatDoor.onC25 {s : Go.Lg.PV} (h : s.one = true) : (Go.Lg.V.pv s).one = true := by rw [Go.Lg.one_pv]; exact h
namespace Go.Proofs.YtodjpfpmhjdhbaaGreatDoor
open Go.Lg
theorem enC25 {P Q : Prop} (h : P := by simp [retIs,resV,resL,resOne,mkTup,getS,getO,rdV,mkAgg,unL,V.un,TI.isAgg,XX_T,tt30,Tryz.f111,Tryz.f28,tt41,Tryz.f45,Tryz.f43,Tryz.f116,Tryz.f136,Tryz.f117,Tryz.f85,Tryz.f44,Tryz.f15]) (k : Q := by simp [subO,getO,tt30,Tryz.f111,Tryz.f28,tt41,Tryz.f45,Tryz.f43,Tryz.f116,Tryz.f136,Tryz.f117,Tryz.f85,Tryz.f44,Tryz.f15]) : P ∧ Q := ⟨h,k⟩
end Go.Proofs.YtodjpfpmhjdhbaaGreatDoor
namespace Go.Proofs.YtodjpfpmhjdhbaaGreatDoor
open Go.Lg
set_option maxRecDepth 60000
set_option maxHeartbeats 4000000
theorem st_8 (c:List Ins) (k a:Nat) (h:GoodC c) (hk:k<c.length) (hop:c[k]? = some (8,a)):StC c k:=by
 obtain ⟨op,a',hop',o1,o2,p1,p2,p3⟩:=h.pass k hk
 have e:some ((8,a):Ins)=some (op,a'):=hop.symm.trans hop'
 cases e
 obtain rfl:=p3 (by decide) (by decide)
 have hT:=p2 (by decide)
 have hab:=h.bnd k _ _ hop
 have hhi:=h.hi
 have hgk:(c.map insP).getD k []=[.int 8,.int 0]:=by simp [List.getD,hop,insP]
 have eS:scS c (k+1)=scS c k:=by simp [scS,hop]
 have eF:scF c (k+1)=scF c k:=by simp [scF,hop]
 have eH:scH c (k+1)=scH c k+1-2:=by simp [scH,hop,takes]
 have hT':2≤scH c k:=hT
 obtain ⟨T,hops,hT0⟩:∃ T:Int,opsP=[.int 0,.int 0,.int 0,.int 1,.int 0,.int 2,.int 2,.int 3,.int 0,.int 4,.int 1,.int 5,.int 3,.int 6,.int 0,.int 7,.int T,.int 8,.int 3,.int 9,.int 2,.int 10,.int 1,.int 11,.int 1,.int 12,.int 0,.int 13]∧T=2:=⟨_,rfl,rfl⟩
 have hH2:((scH c (k+1):Nat):Int)=(scH c k:Int)+(1-T):=by omega
 have f2:¬ (scH c k:Int)<T:=by omega
 have hT1:0≤T∧T≤3:=by omega
 clear hT0
 have hHl:=scH_le c k
 have hal:=insP_all c
 have hlen:(c.map insP).length=c.length:=by simp
 have hkk':(k:Int)<c.length:=by omega
 have hk0:(0:Int)≤(k:Int):=by omega
 have hSl:=scS_len c k
 have hFl:=scF_len c k
 have n1:=numsC_len (scS c k)
 have n2:=numsC_len (scF c k)
 unfold StC stI
 intro Q
 rw [eS,eF]
 clear eS eF eH p1 p2 p3 h hop hop' o1 o2 hT
 generalize c.map insP=cc at *
 generalize numsC (scS c k)=NS at *
 generalize numsC (scF c k)=NF at *
 generalize (scS c k).length=ls at *
 generalize (scF c k).length=lf at *
 generalize ((scH c (k+1):Nat):Int)=H2 at *
 generalize scH c k=H at *
 obtain ⟨s1,s2⟩:=hSl
 have b1:k+1≤4097:=by omega
 simp only [lp65,c65,Tryz.f111,Option.getD_some,left,right,inBlk,inLp]
 refine gg ?_
 refine ⟨hk,?_,?_,?_⟩
 ·simp [slotsLe,getS,hH2]
 ·simp [subO,getO]
 ·simp [subL,namesSl,V.names,namesOb,Ob.names,namesE_pvE,XX_given]
theorem st_9 (c:List Ins) (k a:Nat) (h:GoodC c) (hk:k<c.length) (hop:c[k]? = some (9,a)):StC c k:=by
 obtain ⟨op,a',hop',o1,o2,p1,p2,p3⟩:=h.pass k hk
 have e:some ((9,a):Ins)=some (op,a'):=hop.symm.trans hop'
 cases e
 obtain rfl:=p3 (by decide) (by decide)
 have hT:=p2 (by decide)
 have hab:=h.bnd k _ _ hop
 have hhi:=h.hi
 have hgk:(c.map insP).getD k []=[.int 9,.int 0]:=by simp [List.getD,hop,insP]
 have eS:scS c (k+1)=scS c k:=by simp [scS,hop]
 have eF:scF c (k+1)=scF c k:=by simp [scF,hop]
 have eH:scH c (k+1)=scH c k+1-3:=by simp [scH,hop,takes]
 have hT':3≤scH c k:=hT
 obtain ⟨T,hops,hT0⟩:∃ T:Int,opsP=[.int 0,.int 0,.int 0,.int 1,.int 0,.int 2,.int 2,.int 3,.int 0,.int 4,.int 1,.int 5,.int 3,.int 6,.int 0,.int 7,.int 2,.int 8,.int T,.int 9,.int 2,.int 10,.int 1,.int 11,.int 1,.int 12,.int 0,.int 13]∧T=3:=⟨_,rfl,rfl⟩
 have hH2:((scH c (k+1):Nat):Int)=(scH c k:Int)+(1-T):=by omega
 have f2:¬ (scH c k:Int)<T:=by omega
 have hT1:0≤T∧T≤3:=by omega
 clear hT0
 have hHl:=scH_le c k
 have hal:=insP_all c
 have hlen:(c.map insP).length=c.length:=by simp
 have hkk':(k:Int)<c.length:=by omega
 have hk0:(0:Int)≤(k:Int):=by omega
 have hSl:=scS_len c k
 have hFl:=scF_len c k
 have n1:=numsC_len (scS c k)
 have n2:=numsC_len (scF c k)
 unfold StC stI
 intro Q
 rw [eS,eF]
 clear eS eF eH p1 p2 p3 h hop hop' o1 o2 hT
 generalize c.map insP=cc at *
 generalize numsC (scS c k)=NS at *
 generalize numsC (scF c k)=NF at *
 generalize (scS c k).length=ls at *
 generalize (scF c k).length=lf at *
 generalize ((scH c (k+1):Nat):Int)=H2 at *
 generalize scH c k=H at *
 obtain ⟨s1,s2⟩:=hSl
 have b1:k+1≤4097:=by omega
 simp only [lp65,c65,Tryz.f111,Option.getD_some,left,right,inBlk,inLp]
 refine gg ?_
 refine ⟨hk,?_,?_,?_⟩
 ·simp [slotsLe,getS,hH2]
 ·simp [subO,getO]
 ·simp [subL,namesSl,V.names,namesOb,Ob.names,namesE_pvE,XX_given]
theorem st_10 (c:List Ins) (k a:Nat) (h:GoodC c) (hk:k<c.length) (hop:c[k]? = some (10,a)):StC c k:=by
 obtain ⟨op,a',hop',o1,o2,p1,p2,p3⟩:=h.pass k hk
 have e:some ((10,a):Ins)=some (op,a'):=hop.symm.trans hop'
 cases e
 obtain rfl:=p3 (by decide) (by decide)
 have hT:=p2 (by decide)
 have hab:=h.bnd k _ _ hop
 have hhi:=h.hi
 have hgk:(c.map insP).getD k []=[.int 10,.int 0]:=by simp [List.getD,hop,insP]
 have eS:scS c (k+1)=scS c k:=by simp [scS,hop]
 have eF:scF c (k+1)=scF c k:=by simp [scF,hop]
 have eH:scH c (k+1)=scH c k+1-2:=by simp [scH,hop,takes]
 have hT':2≤scH c k:=hT
 obtain ⟨T,hops,hT0⟩:∃ T:Int,opsP=[.int 0,.int 0,.int 0,.int 1,.int 0,.int 2,.int 2,.int 3,.int 0,.int 4,.int 1,.int 5,.int 3,.int 6,.int 0,.int 7,.int 2,.int 8,.int 3,.int 9,.int T,.int 10,.int 1,.int 11,.int 1,.int 12,.int 0,.int 13]∧T=2:=⟨_,rfl,rfl⟩
 have hH2:((scH c (k+1):Nat):Int)=(scH c k:Int)+(1-T):=by omega
 have f2:¬ (scH c k:Int)<T:=by omega
 have hT1:0≤T∧T≤3:=by omega
 clear hT0
 have hHl:=scH_le c k
 have hal:=insP_all c
 have hlen:(c.map insP).length=c.length:=by simp
 have hkk':(k:Int)<c.length:=by omega
 have hk0:(0:Int)≤(k:Int):=by omega
 have hSl:=scS_len c k
 have hFl:=scF_len c k
 have n1:=numsC_len (scS c k)
 have n2:=numsC_len (scF c k)
 unfold StC stI
 intro Q
 rw [eS,eF]
 clear eS eF eH p1 p2 p3 h hop hop' o1 o2 hT
 generalize c.map insP=cc at *
 generalize numsC (scS c k)=NS at *
 generalize numsC (scF c k)=NF at *
 generalize (scS c k).length=ls at *
 generalize (scF c k).length=lf at *
 generalize ((scH c (k+1):Nat):Int)=H2 at *
 generalize scH c k=H at *
 obtain ⟨s1,s2⟩:=hSl
 have b1:k+1≤4097:=by omega
 simp only [lp65,c65,Tryz.f111,Option.getD_some,left,right,inBlk,inLp]
 refine gg ?_
 refine ⟨hk,?_,?_,?_⟩
 ·simp [slotsLe,getS,hH2]
 ·simp [subO,getO]
 ·simp [subL,namesSl,V.names,namesOb,Ob.names,namesE_pvE,XX_given]
theorem st_11 (c:List Ins) (k a:Nat) (h:GoodC c) (hk:k<c.length) (hop:c[k]? = some (11,a)):StC c k:=by
 obtain ⟨op,a',hop',o1,o2,p1,p2,p3⟩:=h.pass k hk
 have e:some ((11,a):Ins)=some (op,a'):=hop.symm.trans hop'
 cases e
 obtain rfl:=p3 (by decide) (by decide)
 have hT:=p2 (by decide)
 have hab:=h.bnd k _ _ hop
 have hhi:=h.hi
 have hgk:(c.map insP).getD k []=[.int 11,.int 0]:=by simp [List.getD,hop,insP]
 have eS:scS c (k+1)=scS c k:=by simp [scS,hop]
 have eF:scF c (k+1)=scF c k:=by simp [scF,hop]
 have eH:scH c (k+1)=scH c k+1-1:=by simp [scH,hop,takes]
 have hT':1≤scH c k:=hT
 obtain ⟨T,hops,hT0⟩:∃ T:Int,opsP=[.int 0,.int 0,.int 0,.int 1,.int 0,.int 2,.int 2,.int 3,.int 0,.int 4,.int 1,.int 5,.int 3,.int 6,.int 0,.int 7,.int 2,.int 8,.int 3,.int 9,.int 2,.int 10,.int T,.int 11,.int 1,.int 12,.int 0,.int 13]∧T=1:=⟨_,rfl,rfl⟩
 have hH2:((scH c (k+1):Nat):Int)=(scH c k:Int)+(1-T):=by omega
 have f2:¬ (scH c k:Int)<T:=by omega
 have hT1:0≤T∧T≤3:=by omega
 clear hT0
 have hHl:=scH_le c k
 have hal:=insP_all c
 have hlen:(c.map insP).length=c.length:=by simp
 have hkk':(k:Int)<c.length:=by omega
 have hk0:(0:Int)≤(k:Int):=by omega
 have hSl:=scS_len c k
 have hFl:=scF_len c k
 have n1:=numsC_len (scS c k)
 have n2:=numsC_len (scF c k)
 unfold StC stI
 intro Q
 rw [eS,eF]
 clear eS eF eH p1 p2 p3 h hop hop' o1 o2 hT
 generalize c.map insP=cc at *
 generalize numsC (scS c k)=NS at *
 generalize numsC (scF c k)=NF at *
 generalize (scS c k).length=ls at *
 generalize (scF c k).length=lf at *
 generalize ((scH c (k+1):Nat):Int)=H2 at *
 generalize scH c k=H at *
 obtain ⟨s1,s2⟩:=hSl
 have b1:k+1≤4097:=by omega
 simp only [lp65,c65,Tryz.f111,Option.getD_some,left,right,inBlk,inLp]
 refine gg ?_
 refine ⟨hk,?_,?_,?_⟩
 ·simp [slotsLe,getS,hH2]
 ·simp [subO,getO]
 ·simp [subL,namesSl,V.names,namesOb,Ob.names,namesE_pvE,XX_given]
theorem st_12 (c:List Ins) (k a:Nat) (h:GoodC c) (hk:k<c.length) (hop:c[k]? = some (12,a)):StC c k:=by
 obtain ⟨op,a',hop',o1,o2,p1,p2,p3⟩:=h.pass k hk
 have e:some ((12,a):Ins)=some (op,a'):=hop.symm.trans hop'
 cases e
 obtain rfl:=p3 (by decide) (by decide)
 have hT:=p2 (by decide)
 have hab:=h.bnd k _ _ hop
 have hhi:=h.hi
 have hgk:(c.map insP).getD k []=[.int 12,.int 0]:=by simp [List.getD,hop,insP]
 have eS:scS c (k+1)=scS c k:=by simp [scS,hop]
 have eF:scF c (k+1)=scF c k:=by simp [scF,hop]
 have eH:scH c (k+1)=scH c k+1-1:=by simp [scH,hop,takes]
 have hT':1≤scH c k:=hT
 obtain ⟨T,hops,hT0⟩:∃ T:Int,opsP=[.int 0,.int 0,.int 0,.int 1,.int 0,.int 2,.int 2,.int 3,.int 0,.int 4,.int 1,.int 5,.int 3,.int 6,.int 0,.int 7,.int 2,.int 8,.int 3,.int 9,.int 2,.int 10,.int 1,.int 11,.int T,.int 12,.int 0,.int 13]∧T=1:=⟨_,rfl,rfl⟩
 have hH2:((scH c (k+1):Nat):Int)=(scH c k:Int)+(1-T):=by omega
 have f2:¬ (scH c k:Int)<T:=by omega
 have hT1:0≤T∧T≤3:=by omega
 clear hT0
 have hHl:=scH_le c k
 have hal:=insP_all c
 have hlen:(c.map insP).length=c.length:=by simp
 have hkk':(k:Int)<c.length:=by omega
 have hk0:(0:Int)≤(k:Int):=by omega
 have hSl:=scS_len c k
 have hFl:=scF_len c k
 have n1:=numsC_len (scS c k)
 have n2:=numsC_len (scF c k)
 unfold StC stI
 intro Q
 rw [eS,eF]
 clear eS eF eH p1 p2 p3 h hop hop' o1 o2 hT
 generalize c.map insP=cc at *
 generalize numsC (scS c k)=NS at *
 generalize numsC (scF c k)=NF at *
 generalize (scS c k).length=ls at *
 generalize (scF c k).length=lf at *
 generalize ((scH c (k+1):Nat):Int)=H2 at *
 generalize scH c k=H at *
 obtain ⟨s1,s2⟩:=hSl
 have b1:k+1≤4097:=by omega
 simp only [lp65,c65,Tryz.f111,Option.getD_some,left,right,inBlk,inLp]
 refine gg ?_
 refine ⟨hk,?_,?_,?_⟩
 ·simp [slotsLe,getS,hH2]
 ·simp [subO,getO]
 ·simp [subL,namesSl,V.names,namesOb,Ob.names,namesE_pvE,XX_given]
theorem st_13 (c:List Ins) (k a:Nat) (h:GoodC c) (hk:k<c.length) (hop:c[k]? = some (13,a)):StC c k:=by
 obtain ⟨op,a',hop',o1,o2,p1,p2,p3⟩:=h.pass k hk
 have e:some ((13,a):Ins)=some (op,a'):=hop.symm.trans hop'
 cases e
 obtain rfl:=p3 (by decide) (by decide)
 have hT:=p2 (by decide)
 have hab:=h.bnd k _ _ hop
 have hhi:=h.hi
 have hgk:(c.map insP).getD k []=[.int 13,.int 0]:=by simp [List.getD,hop,insP]
 have eS:scS c (k+1)=scS c k:=by simp [scS,hop]
 have eF:scF c (k+1)=scF c k:=by simp [scF,hop]
 have eH:scH c (k+1)=scH c k+1-0:=by simp [scH,hop,takes]
 have hT':0≤scH c k:=hT
 obtain ⟨T,hops,hT0⟩:∃ T:Int,opsP=[.int 0,.int 0,.int 0,.int 1,.int 0,.int 2,.int 2,.int 3,.int 0,.int 4,.int 1,.int 5,.int 3,.int 6,.int 0,.int 7,.int 2,.int 8,.int 3,.int 9,.int 2,.int 10,.int 1,.int 11,.int 1,.int 12,.int T,.int 13]∧T=0:=⟨_,rfl,rfl⟩
 have hH2:((scH c (k+1):Nat):Int)=(scH c k:Int)+(1-T):=by omega
 have f2:¬ (scH c k:Int)<T:=by omega
 have hT1:0≤T∧T≤3:=by omega
 clear hT0
 have hHl:=scH_le c k
 have hal:=insP_all c
 have hlen:(c.map insP).length=c.length:=by simp
 have hkk':(k:Int)<c.length:=by omega
 have hk0:(0:Int)≤(k:Int):=by omega
 have hSl:=scS_len c k
 have hFl:=scF_len c k
 have n1:=numsC_len (scS c k)
 have n2:=numsC_len (scF c k)
 unfold StC stI
 intro Q
 rw [eS,eF]
 clear eS eF eH p1 p2 p3 h hop hop' o1 o2 hT
 generalize c.map insP=cc at *
 generalize numsC (scS c k)=NS at *
 generalize numsC (scF c k)=NF at *
 generalize (scS c k).length=ls at *
 generalize (scF c k).length=lf at *
 generalize ((scH c (k+1):Nat):Int)=H2 at *
 generalize scH c k=H at *
 obtain ⟨s1,s2⟩:=hSl
 have b1:k+1≤4097:=by omega
 simp only [lp65,c65,Tryz.f111,Option.getD_some,left,right,inBlk,inLp]
 refine gg ?_
 refine ⟨hk,?_,?_,?_⟩
 ·simp [slotsLe,getS,hH2]
 ·simp [subO,getO]
 ·simp [subL,namesSl,V.names,namesOb,Ob.names,namesE_pvE,XX_given]
set_option maxRecDepth 60000
theorem st_any (c:List Ins) (k:Nat) (h:GoodC c) (hk:k<c.length):StC c k:=by
 obtain ⟨op,a,hop,o1,o2,p1,p2,p3⟩:=h.pass k hk
 have:op=1∨op=2∨op=3∨op=4∨op=5∨op=6∨op=7∨op=8∨op=9∨op=10∨op=11∨op=12∨op=13∨op=14:=by omega
 rcases this with rfl | rfl | rfl | rfl | rfl | rfl | rfl | rfl | rfl | rfl | rfl | rfl | rfl | rfl
 ·exact st_1 c k a h hk hop
 ·exact st_2 c k a h hk hop
 ·exact st_3 c k a h hk hop
 ·exact st_4 c k a h hk hop
 ·exact st_5 c k a h hk hop
 ·exact st_6 c k a h hk hop
 ·exact st_7 c k a h hk hop
 ·exact st_8 c k a h hk hop
 ·exact st_9 c k a h hk hop
 ·exact st_10 c k a h hk hop
 ·exact st_11 c k a h hk hop
 ·exact st_12 c k a h hk hop
 ·exact st_13 c k a h hk hop
 ·exact st_14 c k a h hk hop
noncomputable def st2 (NS NF:List (List PV)) (f k:Nat):St:=⟨[(4,.arr 950 (f+1) (f+1)),(5,.arr 951 f f),(119,.arr 951 f f),(120,.pv (.int f)),(121,.pv (.int k))],
 [(950,.arr (f+1) 1 3 (pvE NS)),(951,.arr f 1 3 (pvE NF))],[951,950]⟩
theorem starts_ok (c:List Ins) (h:GoodC c):AC Tryz.prog gl 111 [.pv (.slice (c.map insP))] [] (.ret (.pv (.tuple [.slice (numsC (0::scF c c.length)),.bool true]))) []:=by
 obtain ⟨la,hla⟩:=h.last
 have hlo:=h.lo
 have hhi:=h.hi
 have hst:=fun k hk=>st_any c k h hk
 have hget:(c.map insP).getD (c.length-1) []=[.int 14,.int la]:=by simp [List.getD,hla,insP]
 have hal:=insP_all c
 have hlen:(c.map insP).length=c.length:=by simp
 refine body [(29,.arr 950 1 3),(5,.arr 951 1 3)] Tryz.func111 Tryz.ntmps111 ?_
 have h1:¬ (c.length:Int)<1:=by omega
 have h2:¬ (4096:Int)<c.length:=by omega
 have h3:((c.length:Int)-1).toNat=c.length-1:=by omega
 have h4:(0:Int)≤(c.length:Int)-1:=by omega
 have h5:(c.length:Int)-1<c.length:=by omega
 generalize hcc:c.map insP=cc at *
 refine gg ?_
 refine AWP.loopN c.length (stI c) ?_ ?_
 ·refine ⟨by simp [stI,slotsLe,getS,scS,scF,scH,hcc],by simp [stI,subO,getO,scS,scF,numsC,pvE,pvL],by simp [stI,subL,namesSl,V.names,namesOb,Ob.names,namesE_pvE,XX_given]⟩
 intro k hkk
 by_cases hk:k<c.length
 ·exact hst k hk _
 ·obtain rfl:k=c.length:=by omega
  have hfin:=h.fin
  have hFl:=scF_len c c.length
  have eN:numsC (scS c c.length)=numsC (0::(scF c c.length++[c.length])):=by rw [hfin]
  have el:(scS c c.length).length=(scF c c.length).length+2:=by rw [hfin];simp
  have n1:=numsC_len (0::(scF c c.length++[c.length]))
  have n2:=numsC_len (scF c c.length)
  have tk:(numsC (0::(scF c c.length++[c.length]))).take ((scF c c.length).length+1)=numsC (0::scF c c.length):=by
   simp [numsC,List.take_append]
  have hg:∀ k,k<(scF c c.length).length→∃ a:Nat,(numsC (scF c c.length))[k]? = some [.int a]∧(numsC (0::(scF c c.length++[c.length])))[k+1]? = some [.int a]:=by
   intro k hk
   refine ⟨(scF c c.length)[k],?_,?_⟩
   ·simp [numsC,hk]
   ·simp [numsC,List.getElem?_append,hk]
  have m1:∀ y∈numsC (0::(scF c c.length++[c.length])),y.length=1:=by
   intro y hy
   simp only [numsC,List.mem_map] at hy
   obtain ⟨x,_,rfl⟩:=hy
   rfl
  have m2:∀ y∈numsC (scF c c.length),y.length=1:=by
   intro y hy
   simp only [numsC,List.mem_map] at hy
   obtain ⟨x,_,rfl⟩:=hy
   rfl
  unfold stI
  rw [eN,el,hcc,← tk]
  have e1:(scF c c.length).length+2-1=(scF c c.length).length+1:=by omega
  rw [e1]
  clear eN el tk hfin hst hla hget h1 h2 h3 h4 h5 hal hcc h hkk hk e1
  have n3:(0::(scF c c.length++[c.length])).length=(scF c c.length).length+2:=by simp
  rw [n3] at n1
  clear n3
  generalize numsC (0::(scF c c.length++[c.length]))=NS at *
  generalize numsC (scF c c.length)=NF at *
  generalize (scF c c.length).length=f at *
  generalize scH c c.length=H at *
  have g1:((f:Int)+2-1).toNat=f+1:=by omega
  have g2:(0:Int)≤(f:Int)+2-1:=by omega
  have g3:(f:Int)+2-1≤(f:Int)+2:=by omega
  have g4:((f+2:Nat):Int)=(f:Int)+2:=by omega
  have g5:((f+1:Nat):Int)=(f:Int)+1:=by omega
  have g6:(f:Int)+1-1=(f:Int):=by omega
  have g7:¬ (c.length:Int)<c.length:=by omega
  refine gg ?_
  clear g1 g2 g3 g4 g6 g7
  refine AWP.loopN f (st2 NS NF f) ?_ ?_
  ·refine ⟨by simp [st2,slotsLe,getS],by simp [st2,subO,getO],by simp [st2,subL,namesSl,V.names,namesOb,Ob.names,namesE_pvE,XX_given]⟩
  intro k hkf
  unfold st2
  by_cases hk:k<f
  ·obtain ⟨a,ha,hb⟩:=hg k hk
   have k1:(k:Int)<f:=by omega
   have k2:(0:Int)≤(k:Int):=by omega
   have k3:((k:Int)+1).toNat=k+1:=by omega
   have k4:(0:Int)≤(k:Int)+1:=by omega
   have k5:(k:Int)+1<(f:Int)+1:=by omega
   clear hg
   refine gg ?_
   refine ⟨hk,?_,?_,?_⟩
   ·simp [slotsLe,getS]
   ·simp [subO,getO]
   ·simp [subL,namesSl,V.names,namesOb,Ob.names,namesE_pvE,XX_given]
  ·obtain rfl:k=f:=by omega
   have k1:¬ (k:Int)<k:=by omega
   clear hg
   refine frz 950 ?_
   refine gg ?_
   exact enC25
open Go.Lg
set_option maxRecDepth 10000
set_option maxHeartbeats 4000000
end Go.Proofs.YtodjpfpmhjdhbaaGreatDoor
namespace Go.Proofs.YtodjpfpmhjdhbaaGreatDoor
open Go.Lg
set_option maxRecDepth 10000
set_option maxHeartbeats 4000000
theorem VT_dat {c:List Ins} {x:It} {τ:Ty} (hp:τ.plain) (h:VT c x τ):Dat x:=by
 have base:∀ {x:It} {τ:Ty},(τ = .nat∨τ = .list∨τ = .unit)→VT c x τ→Dat x:=by
  intro x τ ht h
  rcases ht with rfl | rfl | rfl <;> cases h
  ·exact .num _
  ·exact .list _
  ·exact .unit
 rcases hp with h1 | rfl | rfl
 ·refine base ?_ h
  cases τ <;> simp_all [Ty.base]
 ·cases h with
  | pair a b=>exact .pair (base (.inl rfl) a) (base (.inr (.inl rfl)) b)
 ·cases h with
  | pair a b=>exact .pair (base (.inl rfl) a) (base (.inl rfl) b)
theorem fin_okc {t:Tm} {τ:Ty} (h:HasTy [] t τ) (hl:(finC t).code.length≤4096) (hs:t.size≤4096):Okc (finC t).code:=by
 intro p op a hc
 have hm:=fin_okI h (op,a) (List.mem_of_getElem? hc)
 obtain ⟨h1,h2,h3,h4⟩:=hm
 have hp:=(List.getElem?_eq_some_iff.1 hc).1
 simp only at h1 h2 h3 h4
 exact ⟨by omega,by omega,h1,h2,h4⟩
theorem node_ok (a b:Tm):AC Tryz.prog gl 28 [.pv (.int 10),.pv (.slice [a.cells,b.cells])] [] (.ret (.pv (.agg (Tm.pair a b).cells))) []:=by
 rw [Tm.cells_eq (.pair a b)]
 simp only [Tm.kind,Tm.idx,Tm.ty,Tm.args,Ty.cells,List.map_cons,List.map_nil]
 simp only [Ty.kind,Ty.args,List.map_nil]
 generalize a.cells=ca at *
 generalize b.cells=cb at *
 refine body [] Tryz.func28 Tryz.ntmps28 ?_
 refine gg ?_
 exact enC25
inductive Rs where
 | num (n:Nat)
 | list (l:List Nat)
 | unit
 | pair (a b:Rs)
 | clo (b:Tm) (e:List Rs)
def Out (c:List Ins) (l:Nat) (m:Ms) (P:Ms→Prop):Prop:=(∃ e,Runs c l m (.err e)∧(e=4∨e=5)) ∨ ∃ m',Gos c l m m'∧P m'
open Go.Lg
set_option maxRecDepth 10000
set_option maxHeartbeats 4000000
def numsR (L:List Nat):List (List PV):=L.map fun (n:Nat)=>[.int n]
end Go.Proofs.YtodjpfpmhjdhbaaGreatDoor
/- The evaluator of ref06: an argument that uses up the work. -/
namespace Go.Proofs.YtodjpfpmhjdhbaaGreatDoor
open Go.Lg
set_option maxRecDepth 10000
set_option maxHeartbeats 4000000
end Go.Proofs.YtodjpfpmhjdhbaaGreatDoor
/- The evaluator of ref06: folds. -/
namespace Go.Proofs.YtodjpfpmhjdhbaaGreatDoor
open Go.Lg
set_option maxRecDepth 10000
set_option maxHeartbeats 4000000
set_option maxHeartbeats 1000000
inductive RsT (B:Nat):Rs→Ty→Prop
 | num {n} : n≤B→RsT B (.num n) .nat
 | list {l} : l.length≤B→(∀ x∈l,x≤B)→RsT B (.list l) .list
 | unit:RsT B .unit .unit
 | pair {a b s t} : RsT B a s→RsT B b t→RsT B (.pair a b) (.pair s t)
 | clo {b e g a t} : HasTy (g++[a]) b t→g.length+1+b.size≤5000→e.length=g.length→(∀ (i:Nat) (r:Rs) (s:Ty),e[i]? = some r→g.reverse[i]? = some s→RsT B r s)→RsT B (.clo b e) (.fn a t)
open Go.Lg
set_option maxRecDepth 10000
set_option maxHeartbeats 4000000
def valC:Rs→List PV
 | .num n=>[.int 1,.int n,.nils,.nils]
 | .list l=>[.int 2,.int 0,.slice (numsR l),.nils]
 | .unit=>[.int 4,.int 0,.nils,.nils]
 | .pair a b=>[.int 3,.int 0,.nils,.slice [valC a,valC b]]
 | .clo _ _=>[]
theorem numsR_all (zs:List Nat):∀ q∈numsR zs,q.length=1:=by
 intro q hq
 simp only [numsR,List.mem_map] at hq
 obtain ⟨k,_,rfl⟩:=hq
 rfl
noncomputable def inI2 (cc:List (List PV)) (k:Nat):St:=⟨[(0,.pv (.slice cc)),(1,.pv (.slice cc)),(11,.pv (.slice cc)),(12,.pv (.int cc.length)),(13,.pv (.int k))],[],[]⟩
theorem ints_same (l:List Nat) (hl:l.length≤100000):AC Tryz.prog gl 45 [.pv (.slice (numsR l)),.pv (.slice (numsR l))] [] (.ret (.pv (.bool true))) []:=by
 have hal:=numsR_all l
 have hlen:(numsR l).length=l.length:=by simp [numsR]
 have hg:∀ k,k<l.length→∃ a:Nat,(numsR l).getD k []=[.int a]:=by
  intro k hk
  refine ⟨l[k],?_⟩
  simp [numsR,List.getD,hk]
 generalize numsR l=cc at *
 rw [← hlen] at hg hl
 clear hlen
 refine body [] Tryz.func45 Tryz.ntmps45 ?_
 refine gg ?_
 refine AWP.loopN cc.length (inI2 cc) ?_ ?_
 ·refine ⟨by simp [inI2,slotsLe,getS],by simp [inI2,subO,getO],by simp [inI2,subL,namesSl,V.names,namesOb,Ob.names,XX_given]⟩
 intro k hkn
 unfold inI2
 by_cases hk:k<cc.length
 ·obtain ⟨a,ha⟩:=hg k hk
  have k1:(k:Int)<cc.length:=by omega
  have k2:(0:Int)≤(k:Int):=by omega
  clear hg
  refine gg ?_
  refine ⟨by rfl,?_⟩
  refine gg ?_
  refine ⟨hk,?_,?_,?_⟩
  ·simp [slotsLe,getS]
  ·simp [subO,getO]
  ·simp [subL,namesSl,V.names,namesOb,Ob.names,XX_given]
 ·have k1:¬ (k:Int)<cc.length:=by omega
  clear hg
  refine gg ?_
  exact enC25
def valW:Rs→List PV
 | .num n=>[.int 1,.int n,.slice [],.nils]
 | .list l=>[.int 2,.int 0,.slice (numsR l),.nils]
 | .unit=>[.int 4,.int 0,.slice [],.nils]
 | .pair a b=>[.int 3,.int 0,.slice [],.slice [valW a,valW b]]
 | .clo _ _=>[]
theorem valW_shape {B:Nat} {r:Rs} {t:Ty} (h:RsT B r t) (hp:t = .nat∨t = .list∨t = .unit):∃ k n s,valW r=[.int k,.int n,s,.nils]∧s.one=true:=by
 rcases hp with rfl | rfl | rfl <;> cases h <;> exact ⟨_,_,_,rfl,rfl⟩
open Go.Lg
set_option maxRecDepth 10000
set_option maxHeartbeats 4000000
theorem plain_cases {t:Ty} (h:t.plain):(t = .nat∨t = .list∨t = .unit) ∨ ∃ s,(s = .list∨s = .nat)∧t = .pair .nat s:=by
 rcases h with h | h | h
 ·left
  cases t <;> simp_all [Ty.base]
 ·exact .inr ⟨.list,.inl rfl,h⟩
 ·exact .inr ⟨.nat,.inr rfl,h⟩
theorem of_num (n c:Nat) (hc:c≤10):AC Tryz.prog gl 43 [.pv (.agg (itCell (.num n))),.loc 906 0] [(906,.box [.pv (.int c)])] (.ret (.pv (.tuple [.agg (valW (.num n)),.bool true]))) [(906,.box [.pv (.int ((c:Int)+1))])]:=by
 have h1:¬ (64:Int)<(c:Int)+1:=by omega
 simp only [itCell,valW]
 refine body [(37,.arr 907 1 3)] Tryz.func43 Tryz.ntmps43 ?_
 refine gg ?_
 refine ⟨by rfl,?_⟩
 refine gg ?_
 refine frz 907 (es:=[]) ?_
 refine ex_loop 1 (ex_round ?_)
 refine gg ?_
 exact enC25
theorem of_unit (c:Nat) (hc:c≤10):AC Tryz.prog gl 43 [.pv (.agg (itCell .unit)),.loc 906 0] [(906,.box [.pv (.int c)])] (.ret (.pv (.tuple [.agg (valW .unit),.bool true]))) [(906,.box [.pv (.int ((c:Int)+1))])]:=by
 have h1:¬ (64:Int)<(c:Int)+1:=by omega
 simp only [itCell,valW]
 refine body [(37,.arr 907 1 3)] Tryz.func43 Tryz.ntmps43 ?_
 refine gg ?_
 refine ⟨by rfl,?_⟩
 refine gg ?_
 refine frz 907 (es:=[]) ?_
 refine ex_loop 1 (ex_round ?_)
 refine gg ?_
 exact enC25
theorem of_nil (c:Nat) (hc:c≤10):AC Tryz.prog gl 43 [.pv (.agg (itCell (.list []))),.loc 906 0] [(906,.box [.pv (.int c)])] (.ret (.pv (.tuple [.agg (valW (.list [])),.bool true]))) [(906,.box [.pv (.int ((c:Int)+1))])]:=by
 have h1:¬ (64:Int)<(c:Int)+1:=by omega
 simp only [itCell,valW,numsP,numsR,List.map_nil]
 refine body [(37,.arr 907 1 3)] Tryz.func43 Tryz.ntmps43 ?_
 refine gg ?_
 refine ⟨by rfl,?_⟩
 refine gg ?_
 refine frz 907 (es:=[]) ?_
 refine ex_loop 1 (ex_round ?_)
 refine gg ?_
 exact enC25
theorem of_cons (l:List Nat) (hl:l≠[]) (hz:l.length≤100000) (c:Nat) (hc:c≤10):AC Tryz.prog gl 43 [.pv (.agg (itCell (.list l))),.loc 906 0] [(906,.box [.pv (.int c)])] (.ret (.pv (.tuple [.agg (valW (.list l)),.bool true]))) [(906,.box [.pv (.int ((c:Int)+1))])]:=by
 have h1:¬ (64:Int)<(c:Int)+1:=by omega
 have e:numsP l = .slice (numsR l):=by cases l with | nil=>exact absurd rfl hl | cons _ _=>rfl
 have hall:=numsR_all l
 have hlz:(numsR l).length≤100000:=by simpa [numsR] using hz
 simp only [itCell,valW,e]
 generalize numsR l=qs at *
 refine body [] Tryz.func43 Tryz.ntmps43 ?_
 refine gg ?_
 refine ⟨by rfl,?_⟩
 refine gg ?_
 refine ex_loop 1 (ex_round ?_)
 refine gg ?_
 exact enC25
theorem of_pair (x y:It) (va vb:List PV) (ha:AC Tryz.prog gl 43 [.pv (.agg (itCell x)),.loc 906 0] [(906,.box [.pv (.int 1)])] (.ret (.pv (.tuple [.agg va,.bool true]))) [(906,.box [.pv (.int 2)])])
  (hb:AC Tryz.prog gl 43 [.pv (.agg (itCell y)),.loc 906 0] [(906,.box [.pv (.int 2)])] (.ret (.pv (.tuple [.agg vb,.bool true]))) [(906,.box [.pv (.int 3)])])
  (sa:∃ k n s,va=[.int k,.int n,s,.nils]∧s.one=true) (sb:∃ k n s,vb=[.int k,.int n,s,.nils]∧s.one=true) :
  AC Tryz.prog gl 43 [.pv (.agg (itCell (.pair x y))),.loc 906 0] [(906,.box [.pv (.int 0)])] (.ret (.pv (.tuple [.agg [.int 3,.int 0,.slice [],.slice [va,vb]],.bool true]))) [(906,.box [.pv (.int 3)])]:=by
 obtain ⟨k1,n1,s1,rfl,o1⟩:=sa
 obtain ⟨k2,n2,s2,rfl,o2⟩:=sb
 obtain ⟨k3,n3,a3,s3,s4,ea,hs3,hs4⟩:=itCell_shape x
 obtain ⟨k5,n5,a5,s5,s6,eb,hs5,hs6⟩:=itCell_shape y
 have w1:=vcells_one o1
 have w2:=vcells_one o2
 have w3:=vcells_one hs3
 have w4:=vcells_one hs4
 have w5:=vcells_one hs5
 have w6:=vcells_one hs6
 have v1:=onC25 o1
 have v2:=onC25 o2
 have v3:=onC25 hs3
 have v4:=onC25 hs4
 have v5:=onC25 hs5
 have v6:=onC25 hs6
 simp only [itCell,ea,eb] at *
 clear ea eb
 refine body [(37,.arr 907 1 3)] Tryz.func43 Tryz.ntmps43 ?_
 refine gg ?_
 refine ⟨by rfl,?_⟩
 refine gg ?_
 refine frz 907 (es:=[]) ?_
 refine th 6 3 908 4 41 ?_
 refine ex_loop 3 (ex_round ?_)
 refine gg ?_
 refine call ha ?_
 refine gg ?_
 refine ex_round ?_
 refine kp [1,2,4,5,6,40,41,42] [4,6,906,908] ?_
 refine gg ?_
 refine call hb ?_
 refine gg ?_
 refine ex_round ?_
 refine frz 908 (es:=[[.int k1,.int n1,s1,.nils],[.int k2,.int n2,s2,.nils]]) ?_
 refine gg ?_
 exact enC25
open Go.Lg
set_option maxRecDepth 10000
set_option maxHeartbeats 4000000
theorem neg_ok (n:Nat):AC Tryz.prog gl 116 [.pv (.int n)] [] (.ret (.pv (.bool false))) []:=by
 have h:¬ (n:Int)<0:=by omega
 refine body [] Tryz.func116 Tryz.ntmps116 ?_
 refine gg ?_
 exact enC25
noncomputable def ixI (cc:List (List PV)) (k:Nat):St:=⟨[(0,.pv (.slice cc)),(1,.fn 116 []),(6,.pv (.slice cc)),(7,.pv (.int cc.length)),(8,.pv (.int k))],[],[]⟩
theorem idx_ok (l:List Nat) (hl:l.length≤100000):AC Tryz.prog gl 136 [.pv (.slice (numsR l)),.fn 116 []] [] (.ret (.pv (.int (-1)))) []:=by
 have hal:=numsR_all l
 have hlen:(numsR l).length=l.length:=by simp [numsR]
 have hg:∀ k,k<l.length→∃ a:Nat,(numsR l).getD k []=[.int a]:=by
  intro k hk
  refine ⟨l[k],?_⟩
  simp [numsR,List.getD,hk]
 generalize numsR l=cc at *
 rw [← hlen] at hg hl
 clear hlen
 refine body [] Tryz.func136 Tryz.ntmps136 ?_
 refine gg ?_
 refine AWP.loopN cc.length (ixI cc) ?_ ?_
 ·refine ⟨by simp [ixI,slotsLe,getS],by simp [ixI,subO,getO],by simp [ixI,subL,namesSl,V.names,namesL,namesOb,Ob.names,XX_given]⟩
 intro k hkn
 unfold ixI
 by_cases hk:k<cc.length
 ·obtain ⟨a,ha⟩:=hg k hk
  have k1:(k:Int)<cc.length:=by omega
  have k2:(0:Int)≤(k:Int):=by omega
  have hn:=neg_ok a
  clear hg
  refine gg ?_
  refine call hn ?_
  refine gg ?_
  refine ⟨hk,?_,?_,?_⟩
  ·simp [slotsLe,getS]
  ·simp [subO,getO]
  ·simp [subL,namesSl,V.names,namesL,namesOb,Ob.names,XX_given]
 ·have k1:¬ (k:Int)<cc.length:=by omega
  clear hg
  refine gg ?_
  exact enC25
theorem cont_ok (l:List Nat) (hl:l.length≤100000):AC Tryz.prog gl 117 [.pv (.slice (numsR l)),.fn 116 []] [] (.ret (.pv (.bool false))) []:=by
 have h:=idx_ok l hl
 generalize numsR l=cc at *
 refine body [] Tryz.func117 Tryz.ntmps117 ?_
 refine gg ?_
 refine call h ?_
 refine gg ?_
 exact enC25
theorem nodes_num (n:Nat):AC Tryz.prog gl 85 [.pv (.agg (valW (.num n)))] [] (.ret (.pv (.tuple [.int 1,.bool true]))) []:=by
 have h:(0:Int)≤n:=by omega
 simp only [valW]
 refine body [] Tryz.func85 Tryz.ntmps85 ?_
 refine gg ?_
 refine ex_loop 1 (ex_round ?_)
 refine gg ?_
 exact enC25
theorem nodes_unit:AC Tryz.prog gl 85 [.pv (.agg (valW .unit))] [] (.ret (.pv (.tuple [.int 1,.bool true]))) []:=by
 simp only [valW]
 refine body [] Tryz.func85 Tryz.ntmps85 ?_
 refine gg ?_
 refine ex_loop 1 (ex_round ?_)
 refine gg ?_
 exact enC25
theorem nodes_list (l:List Nat) (hl:l.length≤100000):AC Tryz.prog gl 85 [.pv (.agg (valW (.list l)))] [] (.ret (.pv (.tuple [.int 1,.bool true]))) []:=by
 have h:=cont_ok l hl
 simp only [valW]
 generalize numsR l=cc at *
 refine body [] Tryz.func85 Tryz.ntmps85 ?_
 refine gg ?_
 refine call h ?_
 refine gg ?_
 refine ex_loop 1 (ex_round ?_)
 refine gg ?_
 exact enC25
theorem nodes_base {B:Nat} (hB:B≤100000) {r:Rs} {t:Ty} (h:RsT B r t) (hp:t = .nat∨t = .list∨t = .unit):AC Tryz.prog gl 85 [.pv (.agg (valW r))] [] (.ret (.pv (.tuple [.int 1,.bool true]))) []:=by
 rcases hp with rfl | rfl | rfl
 ·cases h;exact nodes_num _
 ·cases h with
  | list h1 h2=>exact nodes_list _ (by omega)
 ·cases h;exact nodes_unit
theorem nodes_pair {B:Nat} (hB:B≤100000) {a b:Rs} {s t:Ty} (ha:RsT B a s) (hb:RsT B b t) (hs:s = .nat∨s = .list∨s = .unit) (ht:t = .nat∨t = .list∨t = .unit) :
  AC Tryz.prog gl 85 [.pv (.agg (valW (.pair a b)))] [] (.ret (.pv (.tuple [.int 3,.bool true]))) []:=by
 have h1:=nodes_base hB ha hs
 have h2:=nodes_base hB hb ht
 obtain ⟨k5,n5,s5,e5,o5⟩:=valW_shape ha hs
 obtain ⟨k6,n6,s6,e6,o6⟩:=valW_shape hb ht
 have w5:=vcells_one o5
 have w6:=vcells_one o6
 have v5:=onC25 o5
 have v6:=onC25 o6
 simp only [valW,e5,e6] at h1 h2 ⊢
 clear e5 e6
 refine body [] Tryz.func85 Tryz.ntmps85 ?_
 refine gg ?_
 refine ex_loop 3 (ex_round ?_)
 refine gg ?_
 refine call h1 ?_
 refine gg ?_
 refine ex_round ?_
 refine kp [1,5,6,82,83,84] [] ?_
 refine gg ?_
 refine call h2 ?_
 refine gg ?_
 refine ex_round ?_
 refine gg ?_
 exact enC25
theorem vcheck_of (v:List PV) (n:Nat) (hn:n≤64) (sv:∃ k m s q,v=[.int k,.int m,s,q]∧s.one=true∧q.one=true) (h:AC Tryz.prog gl 85 [.pv (.agg v)] [] (.ret (.pv (.tuple [.int n,.bool true]))) []):AC Tryz.prog gl 44 [.pv (.agg v)] [] (.ret (.pv (.int 0))) []:=by
 obtain ⟨k,m,s,q,rfl,o1,o2⟩:=sv
 have hn':¬ (64:Int)<n:=by omega
 have w1:=vcells_one o1
 have w2:=vcells_one o2
 have v1:=onC25 o1
 have v2:=onC25 o2
 refine body [] Tryz.func44 Tryz.ntmps44 ?_
 refine gg ?_
 refine call h ?_
 refine gg ?_
 exact enC25
theorem value_of (x:It) (v:List PV) (n:Nat) (sv:∃ k m s q,v=[.int k,.int m,s,q]∧s.one=true∧q.one=true) (ho:AC Tryz.prog gl 43 [.pv (.agg (itCell x)),.loc 906 0] [(906,.box [.pv (.int 0)])] (.ret (.pv (.tuple [.agg v,.bool true]))) [(906,.box [.pv (.int n)])])
  (hc:AC Tryz.prog gl 44 [.pv (.agg v)] [] (.ret (.pv (.int 0))) []):AC Tryz.prog gl 15 [.pv (.agg (itCell x))] [] (.ret (.pv (.tuple [.agg v,.bool true]))) []:=by
 obtain ⟨k,m,s,q,rfl,o1,o2⟩:=sv
 obtain ⟨k3,n3,a3,s3,s4,ea,hs3,hs4⟩:=itCell_shape x
 have w1:=vcells_one o1
 have w2:=vcells_one o2
 have w3:=vcells_one hs3
 have w4:=vcells_one hs4
 have v1:=onC25 o1
 have v2:=onC25 o2
 have v3:=onC25 hs3
 have v4:=onC25 hs4
 simp only [ea] at *
 clear ea
 refine body [(4,.box 906)] Tryz.func15 Tryz.ntmps15 ?_
 refine gg ?_
 refine call ho ?_
 refine gg ?_
 refine call hc ?_
 refine gg ?_
 exact enC25
inductive SameD:It→Rs→Prop
 | num (n):SameD (.num n) (.num n)
 | list (l):SameD (.list l) (.list l)
 | unit:SameD .unit .unit
 | pair {a b x y} : SameD a x→SameD b y→SameD (.pair a b) (.pair x y)
theorem of_base {B:Nat} (hB:B≤100000) {x:It} {r:Rs} {t:Ty} (h:RsT B r t) (hs:SameD x r) (hp:t = .nat∨t = .list∨t = .unit) (c:Nat) (hc:c≤10) :
  AC Tryz.prog gl 43 [.pv (.agg (itCell x)),.loc 906 0] [(906,.box [.pv (.int c)])] (.ret (.pv (.tuple [.agg (valW r),.bool true]))) [(906,.box [.pv (.int ((c:Int)+1))])]:=by
 rcases hp with rfl | rfl | rfl
 ·cases h;cases hs;exact of_num _ c hc
 ·cases h with
  | @list l h1 h2 =>
   cases hs
   by_cases e:l=[]
   ·subst e;exact of_nil c hc
   ·exact of_cons l e (by omega) c hc
 ·cases h;cases hs;exact of_unit c hc
theorem value_ok {B:Nat} (hB:B≤100000) {x:It} {r:Rs} {t:Ty} (h:RsT B r t) (hs:SameD x r) (hp:t.plain):AC Tryz.prog gl 15 [.pv (.agg (itCell x))] [] (.ret (.pv (.tuple [.agg (valW r),.bool true]))) []:=by
 rcases plain_cases hp with hb | ⟨s,hb,rfl⟩
 ·obtain ⟨k,n,s,e,o⟩:=valW_shape h hb
  have h1:=of_base hB h hs hb 0 (by omega)
  exact value_of x _ 1 ⟨k,n,s,.nils,e,o,rfl⟩ h1 (vcheck_of _ 1 (by omega) ⟨k,n,s,.nils,e,o,rfl⟩ (nodes_base hB h hb))
 ·cases h with
  | @pair a b _ _ ha hb' =>
   cases hs with
   | @pair x1 x2 _ _ s1 s2 =>
    have hb2:s = .nat∨s = .list∨s = .unit:=by rcases hb with rfl | rfl <;> simp
    obtain ⟨k,n,q,e,o⟩:=valW_shape ha (.inl rfl)
    obtain ⟨k',n',q',e',o'⟩:=valW_shape hb' hb2
    have h1:=of_pair x1 x2 (valW a) (valW b) (of_base hB ha s1 (.inl rfl) 1 (by omega)) (of_base hB hb' s2 hb2 2 (by omega)) ⟨k,n,q,e,o⟩ ⟨k',n',q',e',o'⟩
    exact value_of _ _ 3 ⟨3,0,.slice [],.slice [valW a,valW b],rfl,rfl,rfl⟩ h1 (vcheck_of _ 3 (by omega) ⟨3,0,.slice [],.slice [valW a,valW b],rfl,rfl,rfl⟩ (nodes_pair hB ha hb' (.inl rfl) hb2))
end Go.Proofs.YtodjpfpmhjdhbaaGreatDoor
/- Types are inferred (ref02.infer): one node. -/
namespace Go.Proofs.YtodjpfpmhjdhbaaGreatDoor
open Go.Lg
set_option maxRecDepth 10000
set_option maxHeartbeats 4000000
end Go.Proofs.YtodjpfpmhjdhbaaGreatDoor
/- Types are inferred (ref02.infer): variables, functions. -/
namespace Go.Proofs.YtodjpfpmhjdhbaaGreatDoor
open Go.Lg
set_option maxRecDepth 10000
set_option maxHeartbeats 4000000
end Go.Proofs.YtodjpfpmhjdhbaaGreatDoor
/- Types that are too large. -/
namespace Go.Proofs.YtodjpfpmhjdhbaaGreatDoor
open Go.Lg
set_option maxRecDepth 10000
set_option maxHeartbeats 4000000
end Go.Proofs.YtodjpfpmhjdhbaaGreatDoor
