/- Contracts of functions; no conditions. -/
import Derived.Test.YtodjpfpmhjdhbaaGreatDoorTwiceC21
import Derived.Test.YtodjpfpmhjdhbaaGreatDoorTwiceA14
import Derived.Test.YtodjpfpmhjdhbaaGreatDoorTwiceC4
import Derived.Test.YtodjpfpmhjdhbaaGreatDoorTwiceC5
import Derived.Test.YtodjpfpmhjdhbaaGreatDoorTwiceC8
import Derived.Test.YtodjpfpmhjdhbaaGreatDoorTwiceC1
set_option linter.all false
theorem Go.Proofs.YtodjpfpmhjdhbaaGreatDoor.onC22 {s : Go.Lg.PV} (h : s.one = true) : (Go.Lg.V.pv s).one = true := by rw [Go.Lg.one_pv]; exact h
namespace Go.Proofs.YtodjpfpmhjdhbaaGreatDoor
open Go.Lg
theorem enC22 {P Q : Prop} (h : P := by simp [retIs,resV,resL,resOne,mkTup,getS,getO,rdV,mkAgg,unL,V.un,TI.isAgg,XX_T,tt30,Tryz.f30,tt27,Tryz.f149,Tryz.f31,tt3,Tryz.f150,Tryz.f139,Tryz.f121,Tryz.f91,tt47,Tryz.f100,Tryz.f65,Tryz.f83,Tryz.f41]) (k : Q := by simp [subO,getO,tt30,Tryz.f30,tt27,Tryz.f149,Tryz.f31,tt3,Tryz.f150,Tryz.f139,Tryz.f121,Tryz.f91,tt47,Tryz.f100,Tryz.f65,Tryz.f83,Tryz.f41]) : P ∧ Q := ⟨h,k⟩
end Go.Proofs.YtodjpfpmhjdhbaaGreatDoor
namespace Go.Proofs.YtodjpfpmhjdhbaaGreatDoor
open Go.Lg
set_option maxRecDepth 10000
set_option maxHeartbeats 4000000
def T5 (x:List PV):Prop:=∃ (k n j:Nat) (s t:List (List PV)),x=[.int k,.int n,.int j,.slice s,.slice t]
theorem var24_ok (i:Nat):AC Tryz.prog gl 30 [.pv (.int i)] [] (.ret (.pv (.agg [.int 1,.int i,.int 0,.slice [],.slice []]))) []:=by
 refine body [] Tryz.func30 Tryz.ntmps30 ?_
 refine gg ?_
 exact enC22
theorem unit23_ok:AC Tryz.prog gl 149 [] [] (.ret (.pv (.agg [.int 5,.slice []]))) []:=by
 refine body [] Tryz.func149 Tryz.ntmps149 ?_
 refine gg ?_
 exact enC22
theorem lamc_ok (x:List PV) (hx:T5 x):AC Tryz.prog gl 31 [.pv (.agg [.int 5,.slice []]),.pv (.agg x)] [] (.ret (.pv (.agg [.int 2,.int 0,.int 5,.slice [],.slice [x]]))) []:=by
 obtain⟨k,n,j,s,t,rfl⟩:=hx
 refine body [] Tryz.func31 Tryz.ntmps31 ?_
 refine gg ?_
 exact enC22
theorem kind_ok (op:Nat) (h1:3≤op) (h2:op≤13):AC Tryz.prog gl 150 [.pv (.int op)] [] (.ret (.pv (.tuple [.int op,.int (takesP op)]))) []:=by
 have:op=3∨op=4∨op=5∨op=6∨op=7∨op=8∨op=9∨op=10∨op=11∨op=12∨op=13:=by omega
 rcases this with rfl|rfl|rfl|rfl|rfl|rfl|rfl|rfl|rfl|rfl|rfl
 all_goals
  simp only [takesP,Nat.reduceEqDiff,false_or,or_false,or_self,true_or,or_true,if_true,if_false,Int.cast_ofNat_Int]
  refine body [] Tryz.func150 Tryz.ntmps150 ?_
  refine gg ?_
  exact enC22
def opX (op:Nat) (args:List (List PV)):List PV:=[.int op,.int (0:Nat),.int ((if op=6∨op=9 then 5 else 0:Nat):Int),.slice [],.slice args]
theorem opX_T5 (op:Nat) (args:List (List PV)):T5 (opX op args):=⟨_,_,_,_,_,rfl⟩
inductive RdL (c:List Ins):Nat→List (List PV)→List PV→Prop
 | ret {p x} : c[p]? = some (14,0)→RdL c p [x] x
 | var {p:Nat} {stk:List (List PV)} {i:Nat} {r:List PV} : c[p]? = some (1,i)→RdL c (p+1) (stk++[[.int 1,.int i,.int 0,.slice [],.slice []]]) r→RdL c p stk r
 | fn {p:Nat} {stk:List (List PV)} {A:Nat} {x r:List PV} : c[p]? = some (2,A)→AC Tryz.prog gl 139 [.pv (.slice (c.map insP)),.pv (.int A)] [] (.ret (.pv (.tuple [.agg x,.bool true]))) []→T5 x→RdL c (p+1) (stk++[[.int 2,.int 0,.int 5,.slice [],.slice [x]]]) r→RdL c p stk r
 | op {p:Nat} {stk args:List (List PV)} {op:Nat} {r:List PV} : c[p]? = some (op,0)→3≤op→op≤13→takesP op=args.length→RdL c (p+1) (stk++[opX op args]) r→RdL c p (stk++args) r
def zT5:List V:=[.pv (.int 0),.pv (.int 0),.pv (.int 0),.pv (.slice []),.pv (.slice [])]
noncomputable def rdI2 (c:List Ins) (p:Nat) (stk:List (List PV)) (v:Nat):St :=
 ⟨[(0,.pv (.slice (c.map insP))),(1,.pv (.int p)),(4,.loc 4 0),(5,.pv (.bool false)),(6,.arr 980 v stk.length)],[(4,.box zT5),(980,.arr v 5 30 (pvE stk))],[980,4]⟩
theorem T5_len {x:List PV} (h:T5 x):x.length=5:=by
 obtain⟨k,n,j,s,t,rfl⟩:=h
 rfl
theorem T5_one {x:List PV} (h:T5 x):x.all PV.one=true:=by
 obtain⟨k,n,j,s,t,rfl⟩:=h
 rfl
theorem read_of (c:List Ins) (p:Nat) (r:List PV) (hl:c.length≤4096) (h:RdL c p [] r):AC Tryz.prog gl 139 [.pv (.slice (c.map insP)),.pv (.int p)] [] (.ret (.pv (.tuple [.agg r,.bool true]))) []:=by
 have hcl:(c.map insP).length≤4096:=by simpa using hl
 refine body [(6,.arr 980 5 30),(61,.arr 980 5 30)] Tryz.func139 Tryz.ntmps139 ?_
 have hw0:∀ S,slotsLe (rdI2 c p [] 0).slots S→Weak (XX [(6,.arr 980 5 30),(61,.arr 980 5 30)] 98 []) ⟨S,(rdI2 c p [] 0).objs,[980,4]⟩ (rdI2 c p [] 0):=fun S hS=>⟨hS,by simp [rdI2,subO,getO,zT5],by simp [rdI2,zT5,subL,namesSl,V.names,namesOb,Ob.names,namesL,namesE_pvE,XX_given]⟩
 simp only [rdI2,zT5,pvE,List.map_nil,List.length_nil] at hw0
 generalize hcd:c.map insP=cd at *
 refine gg ?_
 refine AWP.loop (ι:={ q:Nat × List (List PV) × Nat // RdL c q.1 q.2.1 r∧(∀ x∈q.2.1,T5 x)∧q.2.1.length≤q.1 }) (fun q=>rdI2 c q.1.1 q.1.2.1 q.1.2.2) (fun q=>c.length-q.1.1) ⟨(p,[],0),h,by simp,Nat.zero_le _⟩ ?_ ?_
 ·simp only [rdI2,zT5,hcd,pvE,List.map_nil,List.length_nil]
  exact hw0 _ (by simp [slotsLe,getS])
 clear hw0 h
 rintro⟨⟨p,stk,v⟩,h,hT,hlen⟩
 simp only at h hT hlen ⊢
 have k0:(0:Int)≤(p:Int):=by omega
 cases h with
 | @ret _ x hc =>
  obtain⟨hg1,hg2,hg3⟩:=code_at hc
  rw [hcd] at hg1 hg2 hg3
  have hpc:p<c.length:=(List.getElem?_eq_some_iff.1 hc).1
  have k1:(p:Int)<(cd.length:Int):=by omega
  have hp5:(p:Int)≤5000:=by omega
  have e1:((p+1:Nat):Int)=(p:Int)+1:=by omega
  obtain⟨kx,nx,jx,sx,tx,ex⟩:=hT r (by simp)
  subst ex
  simp only [rdI2,zT5,hcd,pvE,pvL,List.map_cons,List.map_nil,List.length_cons,List.length_nil,Nat.zero_add,Int.cast_ofNat_Int,Int.natCast_zero] at hg1 ⊢
  clear hc hT hpc e1 hlen hl
  refine gg ?_
  exact enC22
 | @var _ _ i _ hc hr =>
  obtain⟨hg1,hg2,hg3⟩:=code_at hc
  rw [hcd] at hg1 hg2 hg3
  have hpc:p<c.length:=(List.getElem?_eq_some_iff.1 hc).1
  have k1:(p:Int)<(cd.length:Int):=by omega
  have hp5:(p:Int)≤5000:=by omega
  have e1:((p+1:Nat):Int)=(p:Int)+1:=by omega
  have hn0:∀ v' σ',Weak (XX [(6,.arr 980 5 30),(61,.arr 980 5 30)] 98 []) σ' (rdI2 c (p+1) (stk++[[.int 1,.int i,.int 0,.slice [],.slice []]]) v')→∃ q : { q:Nat × List (List PV) × Nat // RdL c q.1 q.2.1 r∧(∀ x∈q.2.1,T5 x)∧q.2.1.length≤q.1 },c.length-q.1.1<c.length-p∧Weak (XX [(6,.arr 980 5 30),(61,.arr 980 5 30)] 98 []) σ' (rdI2 c q.1.1 q.1.2.1 q.1.2.2) :=
   fun v' σ' hw=>⟨⟨(p+1,stk++[[.int 1,.int i,.int 0,.slice [],.slice []]],v'),hr,by
    intro y hy
    rcases List.mem_append.1 hy with hy|hy
    ·exact hT y hy
    ·rw [List.mem_singleton.1 hy];exact⟨1,i,0,[],[],rfl⟩,by simp only [List.length_append,List.length_cons,List.length_nil];omega⟩,by simp only;omega,hw⟩
  generalize hPP:(fun σ' => ∃ q : { q:Nat × List (List PV) × Nat // RdL c q.1 q.2.1 r∧(∀ x∈q.2.1,T5 x)∧q.2.1.length≤q.1 },c.length-q.1.1<c.length-p∧Weak (XX [(6,.arr 980 5 30),(61,.arr 980 5 30)] 98 []) σ' (rdI2 c q.1.1 q.1.2.1 q.1.2.2))=PP
  have hn':∀ v' σ',Weak (XX [(6,.arr 980 5 30),(61,.arr 980 5 30)] 98 []) σ' (rdI2 c (p+1) (stk++[[.int 1,.int i,.int 0,.slice [],.slice []]]) v')→PP σ':=by
   intro v' σ' h
   rw [← hPP]
   exact hn0 v' σ' h
  clear hn0 hPP
  have h30:=var24_ok i
  have hk5:(stk.length:Int)≤5000:=by omega
  have hk6:stk.length≤5000:=by omega
  have e2:(stk++[[PV.int 1,.int i,.int 0,.slice [],.slice []]]).length=stk.length+1:=by simp
  have htk:List.take stk.length stk=stk:=List.take_length
  have hpl:(pvE stk).length=stk.length:=by simp [pvE]
  simp only [rdI2,zT5,hcd,e1,e2,pvE_app2,Int.cast_ofNat_Int] at hg1 hn' ⊢
  clear hc hT hpc e1 e2 hlen hl hr hg2
  refine gg ?_
  refine call h30 ?_
  refine gg ?_
  refine hn' (v+1) _ ⟨?_,?_,?_⟩
  ·simp [slotsLe,getS]
  ·simp [subO,getO,htk,pvE,pvL]
  ·simp [subL,namesSl,V.names,namesOb,Ob.names,namesL,← pvE_app2,namesE_pvE,XX_given]
 | @fn _ _ A x _ hc h139 hx hr =>
  obtain⟨hg1,hg2,hg3⟩:=code_at hc
  rw [hcd] at hg1 hg2 hg3
  have hpc:p<c.length:=(List.getElem?_eq_some_iff.1 hc).1
  have k1:(p:Int)<(cd.length:Int):=by omega
  have hp5:(p:Int)≤5000:=by omega
  have e1:((p+1:Nat):Int)=(p:Int)+1:=by omega
  have hn0:∀ v' σ',Weak (XX [(6,.arr 980 5 30),(61,.arr 980 5 30)] 98 []) σ' (rdI2 c (p+1) (stk++[[.int 2,.int 0,.int 5,.slice [],.slice [x]]]) v')→∃ q : { q:Nat × List (List PV) × Nat // RdL c q.1 q.2.1 r∧(∀ x∈q.2.1,T5 x)∧q.2.1.length≤q.1 },c.length-q.1.1<c.length-p∧Weak (XX [(6,.arr 980 5 30),(61,.arr 980 5 30)] 98 []) σ' (rdI2 c q.1.1 q.1.2.1 q.1.2.2) :=
   fun v' σ' hw=>⟨⟨(p+1,stk++[[.int 2,.int 0,.int 5,.slice [],.slice [x]]],v'),hr,by
    intro y hy
    rcases List.mem_append.1 hy with hy|hy
    ·exact hT y hy
    ·rw [List.mem_singleton.1 hy];exact⟨2,0,5,[],[x],rfl⟩,by simp only [List.length_append,List.length_cons,List.length_nil];omega⟩,by simp only;omega,hw⟩
  generalize hPP:(fun σ' => ∃ q : { q:Nat × List (List PV) × Nat // RdL c q.1 q.2.1 r∧(∀ x∈q.2.1,T5 x)∧q.2.1.length≤q.1 },c.length-q.1.1<c.length-p∧Weak (XX [(6,.arr 980 5 30),(61,.arr 980 5 30)] 98 []) σ' (rdI2 c q.1.1 q.1.2.1 q.1.2.2))=PP
  have hn':∀ v' σ',Weak (XX [(6,.arr 980 5 30),(61,.arr 980 5 30)] 98 []) σ' (rdI2 c (p+1) (stk++[[.int 2,.int 0,.int 5,.slice [],.slice [x]]]) v')→PP σ':=by
   intro v' σ' h
   rw [← hPP]
   exact hn0 v' σ' h
  clear hn0 hPP
  have h31:=lamc_ok x hx
  have h149:=unit23_ok
  obtain⟨kx,nx,jx,sx,tx,rfl⟩:=hx
  have hk5:(stk.length:Int)≤5000:=by omega
  have hk6:stk.length≤5000:=by omega
  have e2:(stk++[[PV.int 2,.int 0,.int 5,.slice [],.slice [[.int kx,.int nx,.int jx,.slice sx,.slice tx]]]]).length=stk.length+1:=by simp
  have htk:List.take stk.length stk=stk:=List.take_length
  have hpl:(pvE stk).length=stk.length:=by simp [pvE]
  rw [hcd] at h139
  simp only [rdI2,zT5,hcd,e1,e2,pvE_app2,Int.cast_ofNat_Int] at hg1 hn' ⊢
  clear hc hT hpc e1 e2 hlen hl hr hg2
  refine gg ?_
  refine call h139 ?_
  refine gg ?_
  refine call h149 ?_
  refine gg ?_
  refine call h31 ?_
  refine gg ?_
  refine⟨by rfl,?_⟩
  refine gg ?_
  refine hn' (v+1) _ ⟨?_,?_,?_⟩
  ·simp [slotsLe,getS]
  ·simp [subO,getO,htk,pvE,pvL]
  ·simp [subL,namesSl,V.names,namesOb,Ob.names,namesL,← pvE_app2,namesE_pvE,XX_given]
 | @op _ stk args op _ hc ho1 ho2 hta hr =>
  obtain⟨hg1,hg2,hg3⟩:=code_at hc
  rw [hcd] at hg1 hg2 hg3
  have hpc:p<c.length:=(List.getElem?_eq_some_iff.1 hc).1
  have k1:(p:Int)<(cd.length:Int):=by omega
  have hp5:(p:Int)≤5000:=by omega
  have e1:((p+1:Nat):Int)=(p:Int)+1:=by omega
  have hn0:∀ v' σ',Weak (XX [(6,.arr 980 5 30),(61,.arr 980 5 30)] 98 []) σ' (rdI2 c (p+1) (stk++[opX op args]) v')→∃ q : { q:Nat × List (List PV) × Nat // RdL c q.1 q.2.1 r∧(∀ x∈q.2.1,T5 x)∧q.2.1.length≤q.1 },c.length-q.1.1<c.length-p∧Weak (XX [(6,.arr 980 5 30),(61,.arr 980 5 30)] 98 []) σ' (rdI2 c q.1.1 q.1.2.1 q.1.2.2) :=
   fun v' σ' hw=>⟨⟨(p+1,stk++[opX op args],v'),hr,by
    intro y hy
    rcases List.mem_append.1 hy with hy|hy
    ·exact hT y (List.mem_append.2 (.inl hy))
    ·rw [List.mem_singleton.1 hy];exact opX_T5 op args,by simp only [List.length_append,List.length_cons,List.length_nil] at hlen ⊢;omega⟩,by simp only;omega,hw⟩
  generalize hPP:(fun σ' => ∃ q : { q:Nat × List (List PV) × Nat // RdL c q.1 q.2.1 r∧(∀ x∈q.2.1,T5 x)∧q.2.1.length≤q.1 },c.length-q.1.1<c.length-p∧Weak (XX [(6,.arr 980 5 30),(61,.arr 980 5 30)] 98 []) σ' (rdI2 c q.1.1 q.1.2.1 q.1.2.2))=PP
  have hn':∀ v' σ',Weak (XX [(6,.arr 980 5 30),(61,.arr 980 5 30)] 98 []) σ' (rdI2 c (p+1) (stk++[opX op args]) v')→PP σ':=by
   intro v' σ' h
   rw [← hPP]
   exact hn0 v' σ' h
  clear hn0 hPP
  have h150:=kind_ok op ho1 ho2
  have h149:=unit23_ok
  rw [hta] at h150
  have m1:¬ (op:Int)=14:=by omega
  have m2:¬ (op:Int)=1:=by omega
  have m3:¬ (op:Int)=2:=by omega
  have hna:args.length≤3:=by rw [← hta];unfold takesP;split<;>(try split)<;>(try split)<;>omega
  have hlc:(stk++args).length=stk.length+args.length:=by simp
  have m4:¬ (((stk++args).length:Nat):Int)<(args.length:Int):=by omega
  have m5:(0:Int)≤(((stk++args).length:Nat):Int)-(args.length:Int):=by omega
  have m6:(((stk++args).length:Nat):Int)-(args.length:Int)≤(((stk++args).length:Nat):Int):=by omega
  have hdr:(stk++args).drop ((((stk++args).length:Nat):Int)-(args.length:Int)).toNat=args:=by
   rw [show ((((stk++args).length:Nat):Int)-(args.length:Int)).toNat=stk.length by omega,List.drop_left]
  have htt:(stk++args).take ((((stk++args).length:Nat):Int)-(args.length:Int)).toNat=stk:=by
   rw [show ((((stk++args).length:Nat):Int)-(args.length:Int)).toNat=stk.length by omega,List.take_left]
  have hcl5:(stk++args).length≤5000:=by omega
  have hsl5:stk.length≤5000:=by omega
  have hallc:∀ q∈stk++args,q.length=5:=fun q hq=>T5_len (hT q hq)
  have halls:∀ q∈stk,q.length=5:=fun q hq=>T5_len (hT q (List.mem_append.2 (.inl hq)))
  have hones:∀ q∈stk,q.all PV.one=true:=fun q hq=>T5_one (hT q (List.mem_append.2 (.inl hq)))
  have halla:∀ q∈args,q.length=5:=fun q hq=>T5_len (hT q (List.mem_append.2 (.inr hq)))
  have e2:(stk++[opX op args]).length=stk.length+1:=by simp
  have htk:List.take (stk++args).length (stk++args)=stk++args:=List.take_length
  have htk2:List.take stk.length stk=stk:=List.take_length
  have n0:(0:Int)≤(args.length:Int):=by omega
  have n1:(args.length:Int)≤3:=by omega
  simp only [rdI2,zT5,hcd,e1,e2,pvE_app2] at hn' ⊢
  rw [← pvE_app2]
  clear hc hT hpc e1 e2 hlen hl hr hg2 hlc hta
  generalize stk++args=cc at *
  refine frz 980 (es:=cc) ?_
  refine AWP.weaken (τ:=⟨[(0,.pv (.slice cd)),(1,.pv (.int p)),(4,.loc 4 0),(5,.pv (.bool false)),(6,.pv (.slice cc))],[(4,.box [.pv (.int 0),.pv (.int 0),.pv (.int 0),.pv (.slice []),.pv (.slice [])])],[4]⟩) ⟨by simp [slotsLe,getS,htk],by simp [subO,getO],by simp [subL,namesSl,V.names,namesOb,Ob.names,namesL,XX_given]⟩ ?_
  clear htk
  by_cases h69:op=6∨op=9
  ·have m7:opX op args=[.int op,.int 0,.int 5,.slice [],.slice args]:=by simp [opX,h69]
   rw [m7] at hn'
   clear m7
   by_cases h6:op=6
   ·subst h6
    simp only [Int.cast_ofNat_Int] at hn' h150 hg1
    refine gg ?_
    refine call h150 ?_
    refine gg ?_
    refine call h149 ?_
    refine gg ?_
    refine go ?_ (hc:=by simp only [buildC,and_true,true_and,implies_true,true_implies,and_self];exact⟨by unfold inI;omega,⟨halls,hones,by unfold maxLen;omega,by omega⟩,Nat.le_refl _,by unfold maxLen;omega,by omega⟩)
    refine gg ?_
    refine⟨by rfl,?_⟩
    refine gg ?_
    refine hn' 2 _ ⟨?_,?_,?_⟩
    ·simp [slotsLe,getS]
    ·simp [subO,getO,htk2,pvE,pvL]
    ·simp [subL,namesSl,V.names,namesOb,Ob.names,namesL,← pvE_app2,namesE_pvE,XX_given]
   ·obtain rfl:op=9:=by omega
    simp only [Int.cast_ofNat_Int] at hn' h150 hg1
    refine gg ?_
    refine call h150 ?_
    refine gg ?_
    refine call h149 ?_
    refine gg ?_
    refine go ?_ (hc:=by simp only [buildC,and_true,true_and,implies_true,true_implies,and_self];exact⟨by unfold inI;omega,⟨halls,hones,by unfold maxLen;omega,by omega⟩,Nat.le_refl _,by unfold maxLen;omega,by omega⟩)
    refine gg ?_
    refine⟨by rfl,?_⟩
    refine gg ?_
    refine hn' 2 _ ⟨?_,?_,?_⟩
    ·simp [slotsLe,getS]
    ·simp [subO,getO,htk2,pvE,pvL]
    ·simp [subL,namesSl,V.names,namesOb,Ob.names,namesL,← pvE_app2,namesE_pvE,XX_given]
  ·have m7:opX op args=[.int op,.int 0,.int 0,.slice [],.slice args]:=by simp [opX,h69]
   rw [m7] at hn'
   have m8:¬ (op:Int)=6:=by omega
   have m9:¬ (op:Int)=9:=by omega
   refine gg ?_
   refine call h150 ?_
   refine gg ?_
   refine go ?_ (hc:=by simp only [buildC,and_true,true_and,implies_true,true_implies,and_self];exact⟨by unfold inI;omega,⟨halls,hones,by unfold maxLen;omega,by omega⟩,Nat.le_refl _,by unfold maxLen;omega,by omega⟩)
   refine gg ?_
   refine⟨by rfl,?_⟩
   refine gg ?_
   refine hn' 2 _ ⟨?_,?_,?_⟩
   ·simp [slotsLe,getS]
   ·simp [subO,getO,htk2,pvE,pvL]
   ·simp [subL,namesSl,V.names,namesOb,Ob.names,namesL,← pvE_app2,namesE_pvE,XX_given]
def erC:Tm→List PV
 | .var i=>[.int 1,.int i,.int 0,.slice [],.slice []]
 | .lam _ b=>[.int 2,.int 0,.int 5,.slice [],.slice [erC b]]
 | .app f a=>opX 3 [erC f,erC a]
 | .zero=>opX 4 []
 | .succ a=>opX 5 [erC a]
 | .recn _ x y z=>opX 6 [erC x,erC y,erC z]
 | .nil=>opX 7 []
 | .cons x y=>opX 8 [erC x,erC y]
 | .fold _ x y z=>opX 9 [erC x,erC y,erC z]
 | .pair x y=>opX 10 [erC x,erC y]
 | .fst a=>opX 11 [erC a]
 | .snd a=>opX 12 [erC a]
 | .unit=>opX 13 []
theorem erC_T5 (t:Tm):T5 (erC t):=by
 cases t with
 | var i=>exact⟨1,i,0,[],[],rfl⟩
 | lam s b=>exact⟨2,0,5,[],_,rfl⟩
 | _=>exact opX_T5 _ _
theorem RdL.op0 {c:List Ins} {p op:Nat} {stk:List (List PV)} {r:List PV} (h:c[p]? = some (op,0)) (h1:3≤op) (h2:op≤13) (h3:takesP op=0) (k:RdL c (p+1) (stk++[opX op []]) r):RdL c p stk r:=by
 have:=RdL.op (stk:=stk) (args:=[]) h h1 h2 h3 k
 simpa using this
theorem RdL.op1 {c:List Ins} {p op:Nat} {stk:List (List PV)} {x r:List PV} (h:c[p]? = some (op,0)) (h1:3≤op) (h2:op≤13) (h3:takesP op=1) (k:RdL c (p+1) (stk++[opX op [x]]) r):RdL c p (stk++[x]) r :=
 RdL.op (stk:=stk) (args:=[x]) h h1 h2 h3 k
theorem RdL.op2 {c:List Ins} {p op:Nat} {stk:List (List PV)} {x y r:List PV} (h:c[p]? = some (op,0)) (h1:3≤op) (h2:op≤13) (h3:takesP op=2) (k:RdL c (p+1) (stk++[opX op [x,y]]) r):RdL c p (stk++[x]++[y]) r:=by
 have:=RdL.op (stk:=stk) (args:=[x,y]) h h1 h2 h3 k
 simpa using this
theorem RdL.op3 {c:List Ins} {p op:Nat} {stk:List (List PV)} {x y z r:List PV} (h:c[p]? = some (op,0)) (h1:3≤op) (h2:op≤13) (h3:takesP op=3) (k:RdL c (p+1) (stk++[opX op [x,y,z]]) r):RdL c p (stk++[x]++[y]++[z]) r:=by
 have:=RdL.op (stk:=stk) (args:=[x,y,z]) h h1 h2 h3 k
 simpa using this
theorem read_tm {c:List Ins} (hl:c.length≤4096):∀ (t:Tm) {p q:Nat} {stk:List (List PV)} {r:List PV},TA c t p q→RdL c q (stk++[erC t]) r→RdL c p stk r
 | .var i,p,q,stk,r,⟨h1,e⟩,h=>by subst e;exact .var h1 h
 | .lam s b,p,q,stk,r,⟨⟨A,e',h1,h2,h3⟩,e⟩,h=>by
  subst e
  have hb:=read_tm hl b (stk:=[]) h2 (.ret h3)
  exact .fn h1 (read_of c A _ hl hb) (erC_T5 b) h
 | .app f a,p,q,stk,r,⟨m,n,h1,h2,h3,e⟩,h=>by
  subst e
  exact read_tm hl f h1 (read_tm hl a h2 (.op2 h3 (by omega) (by omega) rfl h))
 | .zero,p,q,stk,r,⟨h1,e⟩,h=>by subst e;exact .op0 h1 (by omega) (by omega) rfl h
 | .succ a,p,q,stk,r,⟨m,h1,h2,e⟩,h=>by
  subst e
  exact read_tm hl a h1 (.op1 h2 (by omega) (by omega) rfl h)
 | .recn _ x y z,p,q,stk,r,⟨k,m,n,h1,h2,h3,h4,e⟩,h=>by
  subst e
  exact read_tm hl x h1 (read_tm hl y h2 (read_tm hl z h3 (.op3 h4 (by omega) (by omega) rfl h)))
 | .nil,p,q,stk,r,⟨h1,e⟩,h=>by subst e;exact .op0 h1 (by omega) (by omega) rfl h
 | .cons f a,p,q,stk,r,⟨m,n,h1,h2,h3,e⟩,h=>by
  subst e
  exact read_tm hl f h1 (read_tm hl a h2 (.op2 h3 (by omega) (by omega) rfl h))
 | .fold _ x y z,p,q,stk,r,⟨k,m,n,h1,h2,h3,h4,e⟩,h=>by
  subst e
  exact read_tm hl x h1 (read_tm hl y h2 (read_tm hl z h3 (.op3 h4 (by omega) (by omega) rfl h)))
 | .pair f a,p,q,stk,r,⟨m,n,h1,h2,h3,e⟩,h=>by
  subst e
  exact read_tm hl f h1 (read_tm hl a h2 (.op2 h3 (by omega) (by omega) rfl h))
 | .fst a,p,q,stk,r,⟨m,h1,h2,e⟩,h=>by
  subst e
  exact read_tm hl a h1 (.op1 h2 (by omega) (by omega) rfl h)
 | .snd a,p,q,stk,r,⟨m,h1,h2,e⟩,h=>by
  subst e
  exact read_tm hl a h1 (.op1 h2 (by omega) (by omega) rfl h)
 | .unit,p,q,stk,r,⟨h1,e⟩,h=>by subst e;exact .op0 h1 (by omega) (by omega) rfl h
theorem check37_ok {c:List Ins} {t:Tm} {e:Nat} (h:GoodC c) (hT:TA c t 0 e) (he:c[e]? = some (14,0)):AC Tryz.prog gl 121 [.pv (.slice (c.map insP))] [] (.ret (.pv (.int 0))) []:=by
 have h1:=numbers_ok c h
 have h2:=read_of c 0 _ h.hi (read_tm h.hi t (stk:=[]) hT (.ret he))
 obtain⟨kx,nx,jx,sx,tx,ex⟩:=erC_T5 t
 rw [ex] at h2
 simp only [Int.natCast_zero] at h2
 generalize c.map insP=cd at *
 refine body [] Tryz.func121 Tryz.ntmps121 ?_
 refine gg ?_
 refine call h1 ?_
 refine gg ?_
 refine call h2 ?_
 refine gg ?_
 exact enC22
theorem fault_ok {c:List Ins} {t:Tm} {e:Nat} (h:GoodC c) (hT:TA c t 0 e) (he:c[e]? = some (14,0)) (l:Nat) (hl:l≤65536):AC Tryz.prog gl 91 [.pv (.slice (c.map insP)),.pv (.int l)] [] (.ret (.pv (.int 0))) []:=by
 have h1:=check37_ok h hT he
 have k1:¬ (l:Int)<0:=by omega
 have k2:¬ (65536:Int)<(l:Int):=by omega
 generalize c.map insP=cd at *
 refine body [] Tryz.func91 Tryz.ntmps91 ?_
 refine gg ?_
 refine call h1 ?_
 refine gg ?_
 exact enC22
open Go.Lg
set_option maxRecDepth 10000
set_option maxHeartbeats 4000000
noncomputable def oO:List (Nat × Ob):=[(931,.box [.map 930]),(932,.box [.fn 100 [.loc 931 0,.loc 932 0]]),(930,.cache DatP cellF)]
theorem out_num (n:Nat):AC Tryz.prog gl 100 [.pv (itP (.num n)),.loc 931 0,.loc 932 0] oO (.ret (.pv (.agg (itCell (.num n))))) oO:=by
 have hD:DatP (itP (.num n)):=⟨_,.num n,rfl⟩
 have hF:=cellF_itP (.num n)
 have hv:=vsize_ok []
 simp only [itP,itCell,oO,varsP,linkP,numsP,List.length_nil,Int.cast_ofNat_Int] at *
 refine body [] Tryz.func100 Tryz.ntmps100 ?_
 generalize DatP=D at *
 generalize cellF=F at *
 refine gg ?_
 refine look (n:=930) (F:=F) hD ?_
 intro b
 simp only [St.eff,putS,updAll,List.nil_append]
 cases b with
 | true =>
  simp only [cond_true]
  rw [hF]
  refine gg ?_
  exact enC22
 | false =>
  simp only [cond_false]
  refine gg ?_
  refine⟨by rfl,?_⟩
  refine gg ?_
  refine ex_loop 1 (ex_round ?_)
  refine gg ?_
  refine call hv ?_
  refine gg ?_
  exact enC22
theorem out_unit  : AC Tryz.prog gl 100 [.pv (itP (.unit)),.loc 931 0,.loc 932 0] oO (.ret (.pv (.agg (itCell (.unit))))) oO:=by
 have hD:DatP (itP (.unit)):=⟨_,Dat.unit,rfl⟩
 have hF:=cellF_itP (Dat.unit)
 have hv:=vsize_ok []
 simp only [itP,itCell,oO,varsP,linkP,numsP,List.length_nil,Int.cast_ofNat_Int] at *
 refine body [] Tryz.func100 Tryz.ntmps100 ?_
 generalize DatP=D at *
 generalize cellF=F at *
 refine gg ?_
 refine look (n:=930) (F:=F) hD ?_
 intro b
 simp only [St.eff,putS,updAll,List.nil_append]
 cases b with
 | true =>
  simp only [cond_true]
  rw [hF]
  refine gg ?_
  exact enC22
 | false =>
  simp only [cond_false]
  refine gg ?_
  refine⟨by rfl,?_⟩
  refine gg ?_
  refine ex_loop 1 (ex_round ?_)
  refine gg ?_
  refine call hv ?_
  refine gg ?_
  exact enC22
theorem out_nil  : AC Tryz.prog gl 100 [.pv (itP (.list [])),.loc 931 0,.loc 932 0] oO (.ret (.pv (.agg (itCell (.list []))))) oO:=by
 have hD:DatP (itP (.list [])):=⟨_,Dat.list [],rfl⟩
 have hF:=cellF_itP (Dat.list [])
 have hv:=vsize_ok []
 simp only [itP,itCell,oO,varsP,linkP,numsP,List.length_nil,Int.cast_ofNat_Int] at *
 refine body [] Tryz.func100 Tryz.ntmps100 ?_
 generalize DatP=D at *
 generalize cellF=F at *
 refine gg ?_
 refine look (n:=930) (F:=F) hD ?_
 intro b
 simp only [St.eff,putS,updAll,List.nil_append]
 cases b with
 | true =>
  simp only [cond_true]
  rw [hF]
  refine gg ?_
  exact enC22
 | false =>
  simp only [cond_false]
  refine gg ?_
  refine⟨by rfl,?_⟩
  refine gg ?_
  refine ex_loop 1 (ex_round ?_)
  refine gg ?_
  refine call hv ?_
  refine gg ?_
  exact enC22
def numsC (L:List Nat):List (List PV):=L.map fun (n:Nat)=>[.int n]
theorem numsC_snoc {L:List Nat} {k y:Nat} {t:List Nat} (h:L.drop k=y::t):numsC (L.take (k+1))=numsC (L.take k)++[[.int y]]:=by
 have hk:L[k]? = some y:=by
  have:(L.drop k)[0]? = some y:=by rw [h];rfl
  simpa using this
 simp [numsC,List.take_add_one,hk]
theorem out_cons (L:List Nat) (hL:L≠[]) (hlen:L.length≤1000000):AC Tryz.prog gl 100 [.pv (itP (.list L)),.loc 931 0,.loc 932 0] oO (.ret (.pv (.agg (itCell (.list L))))) oO:=by
 have hD:DatP (itP (.list L)):=⟨_,.list L,rfl⟩
 have hF:=cellF_itP (.list L)
 have hv:=vsize_ok []
 have hn:numsP L = .slice (numsC L):=by
  cases L with
  | nil=>exact absurd rfl hL
  | cons h t=>rfl
 have hlp:∃ ls,linkP L = .ptr ls:=by
  cases L with
  | nil=>exact absurd rfl hL
  | cons h t=>exact⟨_,rfl⟩
 have hvt:=vcells_one (linkP_one L)
 have hvo:(V.pv (linkP L)).one=true:=by rw [one_pv];exact linkP_one L
 simp only [itP,itCell,oO,varsP,hn,List.length_nil,Int.cast_ofNat_Int] at *
 refine body [] Tryz.func100 Tryz.ntmps100 ?_
 generalize DatP=D at *
 generalize cellF=F at *
 generalize hll:linkP L=lp at *
 refine gg ?_
 refine look (n:=930) (F:=F) hD ?_
 intro b
 simp only [St.eff,putS,updAll,List.nil_append]
 cases b with
 | true =>
  simp only [cond_true]
  rw [hF]
  refine gg ?_
  exact enC22
 | false =>
  simp only [cond_false]
  refine gg ?_
  refine⟨by rfl,?_⟩
  refine gg ?_
  refine th 7 3 940 1 3 ?_
  refine AWP.loopN L.length (fun k=>⟨[(0,.pv (.ptr [.int 2,.int 0,lp,.nil,.nil,.int 0,.nil,.int 0,.bool false])),(1,.loc 931 0),(2,.loc 932 0),(4,.loc 4 0),(7,.loc 7 0),(8,.pv (linkP (L.drop k)))],
   [(931,.box [.map 930]),(932,.box [.fn 100 [.loc 931 0,.loc 932 0]]),(930,.cache D F),(4,.box [.pv (.int 0),.pv (.int 0),.pv (.int 0),.pv .nils,.pv .nils]),(7,.box [.pv (.int 2),.pv (.int 0),.pv (.int 0),.arr 940 k k,.pv .nils]),(940,.arr k 1 3 (pvE (numsC (L.take k))))],[940,7,4,931,932,930]⟩) ?_ ?_
  ·refine⟨by simp [slotsLe,getS,hll],by simp [subO,getO,numsC,pvE],by simp [subL,namesSl,V.names,namesOb,Ob.names,namesL,namesE,namesE_pvE,XX_given]⟩
  intro k hkk
  have htl:(numsC (L.take k)).length=k:=by simp [numsC];omega
  have htt:(numsC (L.take k)).take k=numsC (L.take k):=List.take_of_length_le (by omega)
  by_cases h:k<L.length
  ·obtain⟨y,t,hyt⟩:∃ y t,L.drop k=y::t:=by
    cases e:L.drop k with
    | nil=>simp at e;omega
    | cons y t=>exact⟨y,t,rfl⟩
   have ht1:L.drop (k+1)=t:=by rw [← List.drop_drop,hyt];rfl
   have hts:=numsC_snoc hyt
   rw [hyt]
   simp only [linkP] at *
   generalize ((t.length+1:Nat):Int)=tn at *
   generalize hlt:linkP t=vt at *
   generalize numsC (L.take k)=TS at *
   refine gg ?_
   refine⟨by rfl,?_⟩
   refine gg ?_
   refine⟨h,?_,?_,?_⟩
   ·simp [slotsLe,getS,ht1,hlt]
   ·simp [subO,getO,hts,pvE,pvL,htt]
   ·simp [subL,namesSl,V.names,namesOb,Ob.names,namesL,namesE,namesE_pvE,XX_given]
  ·have hkl:k=L.length:=by omega
   subst hkl
   have hdn:L.drop L.length=[]:=by simp
   have htk:L.take L.length=L:=by simp
   rw [hdn]
   rw [htk] at htl htt ⊢
   simp only [linkP]
   generalize numsC L=TS at *
   refine frz 940 ?_ (hσ:=by simp only [St.frz,frzS,frzA,frzV,frzL,frzO,frzOb,Nat.reduceEqDiff,false_and,and_self,true_and,↓reduceIte,htt];rfl)
   refine gg ?_
   refine call hv ?_
   refine gg ?_
   exact enC22
open Go.Lg
set_option maxRecDepth 10000
set_option maxHeartbeats 4000000
theorem itCell_shape (x:It):∃ k n a s1 s2,itCell x=[.int k,.int n,.int a,s1,s2]∧s1.one=true∧s2.one=true:=by
 cases x with
 | list l=>refine⟨_,_,_,_,_,rfl,?_,rfl⟩;cases l<;>rfl
 | _=>exact⟨_,_,_,_,_,rfl,rfl,rfl⟩
theorem out_pair (a b:It) (hda:Dat a) (hdb:Dat b) (ha:AC Tryz.prog gl 100 [.pv (itP a),.loc 931 0,.loc 932 0] oO (.ret (.pv (.agg (itCell a)))) oO) (hb:AC Tryz.prog gl 100 [.pv (itP b),.loc 931 0,.loc 932 0] oO (.ret (.pv (.agg (itCell b)))) oO) :
  AC Tryz.prog gl 100 [.pv (itP (.pair a b)),.loc 931 0,.loc 932 0] oO (.ret (.pv (.agg (itCell (.pair a b))))) oO:=by
 have hD:DatP (itP (.pair a b)):=⟨_,.pair hda hdb,rfl⟩
 have hF:=cellF_itP (.pair hda hdb)
 have hv:=vsize_ok []
 obtain⟨k1,n1,a1,s1,s2,ea,hs1,hs2⟩:=itCell_shape a
 obtain⟨k3,n3,a3,s3,s4,eb,hs3,hs4⟩:=itCell_shape b
 have w1:=vcells_one hs1
 have w2:=vcells_one hs2
 have w3:=vcells_one hs3
 have w4:=vcells_one hs4
 have u1:=onC22 hs1
 have u2:=onC22 hs2
 have u3:=onC22 hs3
 have u4:=onC22 hs4
 have v1:=vcells_one (itP_one a)
 have v2:=vcells_one (itP_one b)
 have o1:(V.pv (itP a)).one=true:=by rw [one_pv];exact itP_one a
 have o2:(V.pv (itP b)).one=true:=by rw [one_pv];exact itP_one b
 simp only [itP,itCell,oO,varsP,ea,eb,List.length_nil,Int.cast_ofNat_Int] at *
 clear ea eb
 refine body [] Tryz.func100 Tryz.ntmps100 ?_
 generalize DatP=D at *
 generalize cellF=F at *
 generalize itP a=pa at *
 generalize itP b=pb at *
 generalize ((2+a.more+b.more:Nat):Int)=mo at *
 generalize (a.func || b.func)=fu at *
 refine gg ?_
 refine look (n:=930) (F:=F) hD ?_
 intro b
 simp only [St.eff,putS,updAll,List.nil_append]
 cases b with
 | true =>
  simp only [cond_true]
  rw [hF]
  refine gg ?_
  exact enC22
 | false =>
  simp only [cond_false]
  refine gg ?_
  refine⟨by rfl,?_⟩
  refine gg ?_
  refine ex_loop 1 (ex_round ?_)
  refine gg ?_
  refine callR (ro:=[(931,.box [.map 930]),(932,.box [.fn 100 [.loc 931 0,.loc 932 0]])]) (objs:=[(930,.cache D F)]) (objs':=[(930,.cache D F)]) ha ?_
  refine gg ?_
  refine callR (ro:=[(931,.box [.map 930]),(932,.box [.fn 100 [.loc 931 0,.loc 932 0]])]) (objs:=[(930,.cache D F)]) (objs':=[(930,.cache D F)]) hb ?_
  refine gg ?_
  refine⟨by rfl,?_⟩
  refine gg ?_
  refine call hv ?_
  refine gg ?_
  exact enC22
theorem out_ok {b:Nat} {x:It} (hx:Dat x):Bd b x→AC Tryz.prog gl 100 [.pv (itP x),.loc 931 0,.loc 932 0] oO (.ret (.pv (.agg (itCell x)))) oO:=by
 induction hx with
 | num n=>intro _;exact out_num n
 | unit=>intro _;exact out_unit
 | list l =>
  intro h
  simp only [Bd] at h
  by_cases e:l=[]
  ·subst e;exact out_nil
  ·exact out_cons l e (by omega)
 | pair ha hb i j =>
  intro h
  simp only [Bd] at h
  exact out_pair _ _ ha hb (i h.1) (j h.2.1)
theorem mkfn {X:Env1} {ops rest:List Oper} {o:Oper} {σ σ':St} {K:St→List Eff→Prop} {Qp:PV→St→Prop} {tr:List Eff} {f d:Nat} {caps:Array Operand} {l:List V} (ho:o.op = .makeFunc (.func f) #[] caps) (hdst:o.dst=some d) (hd:d<X.nt) (hg:o.guard=none)
  (hl:caps.toList.map (σ.val X.gl)=l) (hσ:(⟨(d,.fn f l)::σ.slots,σ.objs,σ.used⟩:St)=σ') (h:runOps X false ops K Qp rest σ' tr):runOps X false ops K Qp (o::rest) σ tr:=by
 subst hσ
 simp only [runOps]
 refine⟨by rw [hdst];exact hd,guardC_run (by rw [hg];rfl) ?_⟩
 unfold opStep
 rw [calleeOf_none' (by rw [ho])]
 simp only [ho,caseC_none,stepOp,hl]
 refine⟨trivial,trivial,fun _ => ?_⟩
 rw [hdst]
 exact h
theorem outside_ok {b:Nat} {x:It} (hx:Dat x) (hb:Bd b x):AC Tryz.prog gl 65 [.pv (itP x)] [] (.ret (.pv (.agg (itCell x)))) []:=by
 have h:=out_ok hx hb
 have hc:=coh_cell
 obtain⟨k1,n1,a1,s1,s2,ea,hs1,hs2⟩:=itCell_shape x
 have w1:=vcells_one hs1
 have w2:=vcells_one hs2
 have u1:=onC22 hs1
 have u2:=onC22 hs2
 have v1:=vcells_one (itP_one x)
 have o1:(V.pv (itP x)).one=true:=by rw [one_pv];exact itP_one x
 simp only [oO,ea] at h ⊢
 refine body [(3,.box 931),(4,.box 932),(5,.cache 930 DatP cellF)] Tryz.func65 Tryz.ntmps65 ?_
 generalize DatP=D at *
 generalize cellF=F at *
 generalize itP x=px at *
 clear ea
 refine gg ?_
 refine mkfn rfl rfl (by show 6<10;decide) rfl rfl rfl ?_
 refine gg ?_
 refine call h ?_
 refine gg ?_
 exact enC22
open Go.Lg
set_option maxRecDepth 10000
set_option maxHeartbeats 4000000
theorem codecheck_ok (cc:List (List PV)) (st:PV) (hst:st.one=true) (h:AC Tryz.prog gl 111 [.pv (.slice cc)] [] (.ret (.pv (.tuple [st,.bool true]))) []):AC Tryz.prog gl 83 [.pv (.slice cc)] [] (.ret (.pv (.int 0))) []:=by
 have w1:=vcells_one hst
 have u1:=onC22 hst
 refine body [] Tryz.func83 Tryz.ntmps83 ?_
 refine gg ?_
 refine call h ?_
 refine gg ?_
 exact enC22
theorem runcheck_ok (cc:List (List PV)) (l:Nat) (hl:l≤65536) (h:AC Tryz.prog gl 83 [.pv (.slice cc)] [] (.ret (.pv (.int 0))) []):AC Tryz.prog gl 41 [.pv (.slice cc),.pv (.slice []),.pv (.int l)] [] (.ret (.pv (.int 0))) []:=by
 have h1:¬ (l:Int)<0:=by omega
 have h2:¬ (65536:Int)<l:=by omega
 refine body [] Tryz.func41 Tryz.ntmps41 ?_
 refine gg ?_
 refine call h ?_
 refine gg ?_
 refine ex_loop 1 (ex_round ?_)
 refine gg ?_
 exact enC22
end Go.Proofs.YtodjpfpmhjdhbaaGreatDoor
