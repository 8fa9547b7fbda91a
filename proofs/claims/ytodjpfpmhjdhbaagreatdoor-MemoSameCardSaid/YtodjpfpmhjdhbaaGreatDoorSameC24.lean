/- Part of the proof: contracts of the types, terms, the generator and the compiler; no conditions. -/
import Derived.Test.YtodjpfpmhjdhbaaGreatDoorSameC23
import Derived.Test.YtodjpfpmhjdhbaaGreatDoorSameC6
set_option linter.unusedVariables false
set_option linter.unusedSimpArgs false
set_option linter.unusedSectionVars false
theorem Go.Proofs.YtodjpfpmhjdhbaaGreatDoor.onC24 {s : Go.Lg.PV} (h : s.one = true) : (Go.Lg.V.pv s).one = true := by rw [Go.Lg.one_pv]; exact h
namespace Go.Proofs.YtodjpfpmhjdhbaaGreatDoor
open Go.Lg
theorem enC24 {P Q : Prop} (h : P := by simp [retIs,resV,resL,resOne,mkTup,getS,getO,rdV,mkAgg,unL,V.un,TI.isAgg,XX_T,tt47,Tryz.f100,Tryz.f65,tt30,Tryz.f83,Tryz.f41]) (k : Q := by simp [subO,getO,tt47,Tryz.f100,Tryz.f65,tt30,Tryz.f83,Tryz.f41]) : P ∧ Q := ⟨h,k⟩
end Go.Proofs.YtodjpfpmhjdhbaaGreatDoor
namespace Go.Proofs.YtodjpfpmhjdhbaaGreatDoor
open Go.Lg
set_option maxRecDepth 10000
set_option maxHeartbeats 4000000
def numsC (L:List Nat):List (List PV):=L.map fun (n:Nat)=>[.int n]
theorem numsC_snoc {L:List Nat} {k y:Nat} {t:List Nat} (h:L.drop k=y::t):numsC (L.take (k+1))=numsC (L.take k)++[[.int y]]:=by
 have hk:L[k]? = some y:=by
  have:(L.drop k)[0]? = some y:=by rw [h];rfl
  simpa using this
 simp [numsC,List.take_add_one,hk]
theorem out_cons (L:List Nat) (hL:L≠[]) (hlen:L.length≤1000000):AC Tryz.prog gl 100 [.pv (itP (.list L)),.loc 931 0,.loc 932 0] oO (.ret (.pv (.agg (itCell (.list L))))) oO:=by
 have hD:DatP (itP (.list L)):=⟨_,.list L,rfl⟩
 have hF:=cellF_itP (.list L)
 have hv:=vsize_ok []
 have hn:numsP L = .slice (numsC L):=by
  cases L with
  | nil=>exact absurd rfl hL
  | cons h t=>rfl
 have hlp:∃ ls,linkP L = .ptr ls:=by
  cases L with
  | nil=>exact absurd rfl hL
  | cons h t=>exact ⟨_,rfl⟩
 have hvt:=vcells_one (linkP_one L)
 have hvo:(V.pv (linkP L)).one=true:=by rw [one_pv];exact linkP_one L
 simp only [itP,itCell,oO,varsP,hn,List.length_nil,Int.cast_ofNat_Int] at *
 refine body [] Tryz.func100 Tryz.ntmps100 ?_
 generalize DatP=D at *
 generalize cellF=F at *
 generalize hll:linkP L=lp at *
 refine gg ?_
 refine look (n:=930) (F:=F) hD ?_
 intro b
 simp only [St.eff,putS,updAll,List.nil_append]
 cases b with
 | true =>
  simp only [cond_true]
  rw [hF]
  refine gg ?_
  exact enC24
 | false =>
  simp only [cond_false]
  refine gg ?_
  refine ⟨by rfl,?_⟩
  refine gg ?_
  refine th 7 3 940 1 3 ?_
  refine AWP.loopN L.length (fun k=>⟨[(0,.pv (.ptr [.int 2,.int 0,lp,.nil,.nil,.int 0,.nil,.int 0,.bool false])),(1,.loc 931 0),(2,.loc 932 0),(4,.loc 4 0),(7,.loc 7 0),(8,.pv (linkP (L.drop k)))],
   [(931,.box [.map 930]),(932,.box [.fn 100 [.loc 931 0,.loc 932 0]]),(930,.cache D F),(4,.box [.pv (.int 0),.pv (.int 0),.pv (.int 0),.pv .nils,.pv .nils]),(7,.box [.pv (.int 2),.pv (.int 0),.pv (.int 0),.arr 940 k k,.pv .nils]),(940,.arr k 1 3 (pvE (numsC (L.take k))))],[940,7,4,931,932,930]⟩) ?_ ?_
  ·refine ⟨by simp [slotsLe,getS,hll],by simp [subO,getO,numsC,pvE],by simp [subL,namesSl,V.names,namesOb,Ob.names,namesL,namesE,namesE_pvE,XX_given]⟩
  intro k hkk
  have htl:(numsC (L.take k)).length=k:=by simp [numsC];omega
  have htt:(numsC (L.take k)).take k=numsC (L.take k):=List.take_of_length_le (by omega)
  by_cases h:k<L.length
  ·obtain ⟨y,t,hyt⟩:∃ y t,L.drop k=y::t:=by
    cases e:L.drop k with
    | nil=>simp at e;omega
    | cons y t=>exact ⟨y,t,rfl⟩
   have ht1:L.drop (k+1)=t:=by rw [← List.drop_drop,hyt];rfl
   have hts:=numsC_snoc hyt
   rw [hyt]
   simp only [linkP] at *
   generalize ((t.length+1:Nat):Int)=tn at *
   generalize hlt:linkP t=vt at *
   generalize numsC (L.take k)=TS at *
   refine gg ?_
   refine ⟨by rfl,?_⟩
   refine gg ?_
   refine ⟨h,?_,?_,?_⟩
   ·simp [slotsLe,getS,ht1,hlt]
   ·simp [subO,getO,hts,pvE,pvL,htt]
   ·simp [subL,namesSl,V.names,namesOb,Ob.names,namesL,namesE,namesE_pvE,XX_given]
  ·have hkl:k=L.length:=by omega
   subst hkl
   have hdn:L.drop L.length=[]:=by simp
   have htk:L.take L.length=L:=by simp
   rw [hdn]
   rw [htk] at htl htt ⊢
   simp only [linkP]
   generalize numsC L=TS at *
   refine frz 940 ?_ (hσ:=by simp only [St.frz,frzS,frzA,frzV,frzL,frzO,frzOb,Nat.reduceEqDiff,false_and,and_self,true_and,↓reduceIte,htt];rfl)
   refine gg ?_
   refine call hv ?_
   refine gg ?_
   exact enC24
theorem itCell_shape (x:It):∃ k n a s1 s2,itCell x=[.int k,.int n,.int a,s1,s2]∧s1.one=true∧s2.one=true:=by
 cases x with
 | list l=>refine ⟨_,_,_,_,_,rfl,?_,rfl⟩;cases l <;> rfl
 | _=>exact ⟨_,_,_,_,_,rfl,rfl,rfl⟩
theorem out_pair (a b:It) (hda:Dat a) (hdb:Dat b) (ha:AC Tryz.prog gl 100 [.pv (itP a),.loc 931 0,.loc 932 0] oO (.ret (.pv (.agg (itCell a)))) oO) (hb:AC Tryz.prog gl 100 [.pv (itP b),.loc 931 0,.loc 932 0] oO (.ret (.pv (.agg (itCell b)))) oO) :
  AC Tryz.prog gl 100 [.pv (itP (.pair a b)),.loc 931 0,.loc 932 0] oO (.ret (.pv (.agg (itCell (.pair a b))))) oO:=by
 have hD:DatP (itP (.pair a b)):=⟨_,.pair hda hdb,rfl⟩
 have hF:=cellF_itP (.pair hda hdb)
 have hv:=vsize_ok []
 obtain ⟨k1,n1,a1,s1,s2,ea,hs1,hs2⟩:=itCell_shape a
 obtain ⟨k3,n3,a3,s3,s4,eb,hs3,hs4⟩:=itCell_shape b
 have w1:=vcells_one hs1
 have w2:=vcells_one hs2
 have w3:=vcells_one hs3
 have w4:=vcells_one hs4
 have u1:=onC24 hs1
 have u2:=onC24 hs2
 have u3:=onC24 hs3
 have u4:=onC24 hs4
 have v1:=vcells_one (itP_one a)
 have v2:=vcells_one (itP_one b)
 have o1:(V.pv (itP a)).one=true:=by rw [one_pv];exact itP_one a
 have o2:(V.pv (itP b)).one=true:=by rw [one_pv];exact itP_one b
 simp only [itP,itCell,oO,varsP,ea,eb,List.length_nil,Int.cast_ofNat_Int] at *
 clear ea eb
 refine body [] Tryz.func100 Tryz.ntmps100 ?_
 generalize DatP=D at *
 generalize cellF=F at *
 generalize itP a=pa at *
 generalize itP b=pb at *
 generalize ((2+a.more+b.more:Nat):Int)=mo at *
 generalize (a.func || b.func)=fu at *
 refine gg ?_
 refine look (n:=930) (F:=F) hD ?_
 intro b
 simp only [St.eff,putS,updAll,List.nil_append]
 cases b with
 | true =>
  simp only [cond_true]
  rw [hF]
  refine gg ?_
  exact enC24
 | false =>
  simp only [cond_false]
  refine gg ?_
  refine ⟨by rfl,?_⟩
  refine gg ?_
  refine ex_loop 1 (ex_round ?_)
  refine gg ?_
  refine callR (ro:=[(931,.box [.map 930]),(932,.box [.fn 100 [.loc 931 0,.loc 932 0]])]) (objs:=[(930,.cache D F)]) (objs':=[(930,.cache D F)]) ha ?_
  refine gg ?_
  refine callR (ro:=[(931,.box [.map 930]),(932,.box [.fn 100 [.loc 931 0,.loc 932 0]])]) (objs:=[(930,.cache D F)]) (objs':=[(930,.cache D F)]) hb ?_
  refine gg ?_
  refine ⟨by rfl,?_⟩
  refine gg ?_
  refine call hv ?_
  refine gg ?_
  exact enC24
theorem out_ok {b:Nat} {x:It} (hx:Dat x):Bd b x→AC Tryz.prog gl 100 [.pv (itP x),.loc 931 0,.loc 932 0] oO (.ret (.pv (.agg (itCell x)))) oO:=by
 induction hx with
 | num n=>intro _;exact out_num n
 | unit=>intro _;exact out_unit
 | list l =>
  intro h
  simp only [Bd] at h
  by_cases e:l=[]
  ·subst e;exact out_nil
  ·exact out_cons l e (by omega)
 | pair ha hb i j =>
  intro h
  simp only [Bd] at h
  exact out_pair _ _ ha hb (i h.1) (j h.2.1)
open Go.Lg
set_option maxRecDepth 10000
set_option maxHeartbeats 4000000
theorem mkfn {X:Env1} {ops rest:List Oper} {o:Oper} {σ σ':St} {K:St→List Eff→Prop} {Qp:PV→St→Prop} {tr:List Eff} {f d:Nat} {caps:Array Operand} {l:List V} (ho:o.op = .makeFunc (.func f) #[] caps) (hdst:o.dst=some d) (hd:d<X.nt) (hg:o.guard=none)
  (hl:caps.toList.map (σ.val X.gl)=l) (hσ:(⟨(d,.fn f l)::σ.slots,σ.objs,σ.used⟩:St)=σ') (h:runOps X false ops K Qp rest σ' tr):runOps X false ops K Qp (o::rest) σ tr:=by
 subst hσ
 simp only [runOps]
 refine ⟨by rw [hdst];exact hd,guardC_run (by rw [hg];rfl) ?_⟩
 unfold opStep
 rw [calleeOf_none' (by rw [ho])]
 simp only [ho,caseC_none,stepOp,hl]
 refine ⟨trivial,trivial,fun _ => ?_⟩
 rw [hdst]
 exact h
theorem outside_ok {b:Nat} {x:It} (hx:Dat x) (hb:Bd b x):AC Tryz.prog gl 65 [.pv (itP x)] [] (.ret (.pv (.agg (itCell x)))) []:=by
 have h:=out_ok hx hb
 have hc:=coh_cell
 obtain ⟨k1,n1,a1,s1,s2,ea,hs1,hs2⟩:=itCell_shape x
 have w1:=vcells_one hs1
 have w2:=vcells_one hs2
 have u1:=onC24 hs1
 have u2:=onC24 hs2
 have v1:=vcells_one (itP_one x)
 have o1:(V.pv (itP x)).one=true:=by rw [one_pv];exact itP_one x
 simp only [oO,ea] at h ⊢
 refine body [(3,.box 931),(4,.box 932),(5,.cache 930 DatP cellF)] Tryz.func65 Tryz.ntmps65 ?_
 generalize DatP=D at *
 generalize cellF=F at *
 generalize itP x=px at *
 clear ea
 refine gg ?_
 refine mkfn rfl rfl (by show 6<10;decide) rfl rfl rfl ?_
 refine gg ?_
 refine call h ?_
 refine gg ?_
 exact enC24
theorem codecheck_ok (cc:List (List PV)) (st:PV) (hst:st.one=true) (h:AC Tryz.prog gl 111 [.pv (.slice cc)] [] (.ret (.pv (.tuple [st,.bool true]))) []):AC Tryz.prog gl 83 [.pv (.slice cc)] [] (.ret (.pv (.int 0))) []:=by
 have w1:=vcells_one hst
 have u1:=onC24 hst
 refine body [] Tryz.func83 Tryz.ntmps83 ?_
 refine gg ?_
 refine call h ?_
 refine gg ?_
 exact enC24
theorem runcheck_ok (cc:List (List PV)) (l:Nat) (hl:l≤65536) (h:AC Tryz.prog gl 83 [.pv (.slice cc)] [] (.ret (.pv (.int 0))) []):AC Tryz.prog gl 41 [.pv (.slice cc),.pv (.slice []),.pv (.int l)] [] (.ret (.pv (.int 0))) []:=by
 have h1:¬ (l:Int)<0:=by omega
 have h2:¬ (65536:Int)<l:=by omega
 refine body [] Tryz.func41 Tryz.ntmps41 ?_
 refine gg ?_
 refine call h ?_
 refine gg ?_
 refine ex_loop 1 (ex_round ?_)
 refine gg ?_
 exact enC24
open Go.Lg
set_option maxRecDepth 60000
set_option maxHeartbeats 4000000
theorem scH_le (c:List Ins):∀ k,scH c k≤k:=by
 intro k
 induction k with
 | zero=>simp [scH]
 | succ k ih =>
  simp only [scH]
  split
  ·split <;> omega
  ·omega
theorem scS_len (c:List Ins):∀ k,1≤(scS c k).length∧(scS c k).length≤k+1:=by
 intro k
 induction k with
 | zero=>simp [scS]
 | succ k ih =>
  simp only [scS]
  split
  ·split
   ·simp;omega
   ·omega
  ·omega
theorem scF_len (c:List Ins):∀ k,(scF c k).length≤k:=by
 intro k
 induction k with
 | zero=>simp [scF]
 | succ k ih =>
  simp only [scF]
  split
  ·split
   ·simp;omega
   ·omega
  ·omega
noncomputable def stI (c:List Ins) (k:Nat):St:=⟨[(0,.pv (.slice (c.map insP))),(4,.arr 950 ((scS c k).length-1) (scS c k).length),(5,.arr 951 (scF c k).length (scF c k).length),(6,.pv (.int (scH c k))),(30,.pv (.slice (c.map insP))),(31,.pv (.int c.length)),(32,.pv (.int k))],
 [(950,.arr ((scS c k).length-1) 1 3 (pvE (numsC (scS c k)))),(951,.arr (scF c k).length 1 3 (pvE (numsC (scF c k))))],[951,950]⟩
theorem numsC_len (l:List Nat):(numsC l).length=l.length:=by simp [numsC]
def inBlk:Code→Code
 | .block _ c=>c
 | c=>c
def inLp:Code→Code
 | .loop c=>c
 | c=>c
noncomputable def c65:Code:=Tryz.f111.body.getD .skip
noncomputable def lp65:Code:=inLp (inBlk (right (left (right (right (right (right (right c65))))))))
def StC (c:List Ins) (k:Nat):Prop:=∀ Q,AWP (XX [(29,.arr 950 1 3),(5,.arr 951 1 3)] 135 []) lp65 (stI c k) (thenQ (fun σ=>k<c.length∧Weak (XX [(29,.arr 950 1 3),(5,.arr 951 1 3)] 135 []) σ (stI c (k+1))) Q)
theorem st_14 (c:List Ins) (k a:Nat) (h:GoodC c) (hk:k<c.length) (hop0:c[k]? = some (14,a)):StC c k:=by
 obtain ⟨op,a',hop,o1,o2,p1,p2,p3⟩:=h.pass k hk
 have e:some ((14,a):Ins)=some (op,a'):=hop0.symm.trans hop
 cases e
 obtain ⟨rfl,hH⟩:=p1 rfl
 have hhi:=h.hi
 have hgk:(c.map insP).getD k []=[.int 14,.int 0]:=by simp [List.getD,hop,insP]
 have hal:=insP_all c
 have hlen:(c.map insP).length=c.length:=by simp
 have hkk':(k:Int)<c.length:=by omega
 have hk0:(0:Int)≤(k:Int):=by omega
 have hSl:=scS_len c k
 have hFl:=scF_len c k
 have n1:=numsC_len (scS c k)
 have n2:=numsC_len (scF c k)
 have t1:(numsC (scS c k)).take (scS c k).length=numsC (scS c k):=List.take_of_length_le (by omega)
 have eS:scS c (k+1)=scS c k++[k+1]:=by simp [scS,hop]
 have eF:scF c (k+1)=scF c k:=by simp [scF,hop]
 have eH:scH c (k+1)=0:=by simp [scH,hop]
 have eN:numsC (scS c k++[k+1])=numsC (scS c k)++[[.int ((k:Int)+1)]]:=by simp [numsC]
 have el:(scS c k++[k+1]).length-1=(scS c k).length-1+1:=by simp;omega
 have el2:(scS c k++[k+1]).length=(scS c k).length+1:=by simp
 unfold StC stI
 intro Q
 rw [eS,eF,eH,eN,el,el2,hH]
 clear eS eF eH eN el el2 p1 p2 p3 h hop hop0 hH o1 o2
 generalize c.map insP=cc at *
 generalize numsC (scS c k)=NS at *
 generalize numsC (scF c k)=NF at *
 generalize (scS c k).length=ls at *
 generalize (scF c k).length=lf at *
 obtain ⟨s1,s2⟩:=hSl
 have b1:k+1≤4097:=by omega
 simp only [lp65,c65,Tryz.f111,Option.getD_some,left,right,inBlk,inLp]
 (repeat (first | with_reducible refine ex_seq ?_ | with_reducible refine ex_block ?_ | with_reducible refine q_normal ?_ | with_reducible refine b_normal ?_ | with_reducible refine runOps_nil ?_ | with_reducible refine ex_reg ?_ | with_reducible refine ex_skip ?_ | with_reducible refine ex_exit ?_ | with_reducible refine q_exit ?_ | with_reducible refine b_same ?_ | refine b_other rfl ?_ | refine cdt ?_ | refine cdf ?_ | fail))
 refine go ?_
 (repeat (first | with_reducible refine ex_seq ?_ | with_reducible refine ex_block ?_ | with_reducible refine q_normal ?_ | with_reducible refine b_normal ?_ | with_reducible refine runOps_nil ?_ | with_reducible refine ex_reg ?_ | with_reducible refine ex_skip ?_ | with_reducible refine ex_exit ?_ | with_reducible refine q_exit ?_ | with_reducible refine b_same ?_ | refine b_other rfl ?_ | refine cdt ?_ | refine cdf ?_ | fail))
 refine go ?_ (hc:=by simp only [buildC,and_true,true_and,implies_true,true_implies,and_self];exact hal)
 clear hal
 (repeat (first | with_reducible refine ex_seq ?_ | with_reducible refine ex_block ?_ | with_reducible refine q_normal ?_ | with_reducible refine b_normal ?_ | with_reducible refine runOps_nil ?_ | with_reducible refine ex_reg ?_ | with_reducible refine ex_skip ?_ | with_reducible refine ex_exit ?_ | with_reducible refine q_exit ?_ | with_reducible refine b_same ?_ | refine b_other rfl ?_ | refine cdt ?_ | refine cdf ?_ | fail))
 refine go ?_
 (repeat (first | with_reducible refine ex_seq ?_ | with_reducible refine ex_block ?_ | with_reducible refine q_normal ?_ | with_reducible refine b_normal ?_ | with_reducible refine runOps_nil ?_ | with_reducible refine ex_reg ?_ | with_reducible refine ex_skip ?_ | with_reducible refine ex_exit ?_ | with_reducible refine q_exit ?_ | with_reducible refine b_same ?_ | refine b_other rfl ?_ | refine cdt ?_ | refine cdf ?_ | fail))
 refine go ?_
 (repeat (first | with_reducible refine ex_seq ?_ | with_reducible refine ex_block ?_ | with_reducible refine q_normal ?_ | with_reducible refine b_normal ?_ | with_reducible refine runOps_nil ?_ | with_reducible refine ex_reg ?_ | with_reducible refine ex_skip ?_ | with_reducible refine ex_exit ?_ | with_reducible refine q_exit ?_ | with_reducible refine b_same ?_ | refine b_other rfl ?_ | refine cdt ?_ | refine cdf ?_ | fail))
 refine go ?_
 (repeat (first | with_reducible refine ex_seq ?_ | with_reducible refine ex_block ?_ | with_reducible refine q_normal ?_ | with_reducible refine b_normal ?_ | with_reducible refine runOps_nil ?_ | with_reducible refine ex_reg ?_ | with_reducible refine ex_skip ?_ | with_reducible refine ex_exit ?_ | with_reducible refine q_exit ?_ | with_reducible refine b_same ?_ | refine b_other rfl ?_ | refine cdt ?_ | refine cdf ?_ | fail))
 refine go ?_ (hc:=by simp only [buildC,and_true,true_and,implies_true,true_implies,and_self];(repeat' (with_reducible apply And.intro)) <;> first | assumption | omega | (unfold inI;omega) | (unfold maxLen;omega) | (rw [n1];unfold maxLen;omega))
 (repeat (first | with_reducible refine ex_seq ?_ | with_reducible refine ex_block ?_ | with_reducible refine q_normal ?_ | with_reducible refine b_normal ?_ | with_reducible refine runOps_nil ?_ | with_reducible refine ex_reg ?_ | with_reducible refine ex_skip ?_ | with_reducible refine ex_exit ?_ | with_reducible refine q_exit ?_ | with_reducible refine b_same ?_ | refine b_other rfl ?_ | refine cdt ?_ | refine cdf ?_ | fail))
 refine go ?_
 (repeat (first | with_reducible refine ex_seq ?_ | with_reducible refine ex_block ?_ | with_reducible refine q_normal ?_ | with_reducible refine b_normal ?_ | with_reducible refine runOps_nil ?_ | with_reducible refine ex_reg ?_ | with_reducible refine ex_skip ?_ | with_reducible refine ex_exit ?_ | with_reducible refine q_exit ?_ | with_reducible refine b_same ?_ | refine b_other rfl ?_ | refine cdt ?_ | refine cdf ?_ | fail))
 refine ⟨hk,?_,?_,?_⟩
 ·simp [slotsLe,getS]
 ·simp [subO,getO]
 ·simp [subL,namesSl,V.names,namesOb,Ob.names,namesE_pvE,XX_given]
set_option maxRecDepth 60000
theorem st_1 (c:List Ins) (k a:Nat) (h:GoodC c) (hk:k<c.length) (hop:c[k]? = some (1,a)):StC c k:=by
 obtain ⟨op,a',hop',o1,o2,p1,p2,p3⟩:=h.pass k hk
 have e:some ((1,a):Ins)=some (op,a'):=hop.symm.trans hop'
 cases e
 have hT:=p2 (by decide)
 have hab:=h.bnd k _ _ hop
 have hhi:=h.hi
 have hgk:(c.map insP).getD k []=[.int 1,.int a]:=by simp [List.getD,hop,insP]
 have eS:scS c (k+1)=scS c k:=by simp [scS,hop]
 have eF:scF c (k+1)=scF c k:=by simp [scF,hop]
 have eH:scH c (k+1)=scH c k+1-0:=by simp [scH,hop,takes]
 have hT':0≤scH c k:=hT
 obtain ⟨T,hops,hT0⟩:∃ T:Int,opsP=[.int 0,.int 0,.int T,.int 1,.int 0,.int 2,.int 2,.int 3,.int 0,.int 4,.int 1,.int 5,.int 3,.int 6,.int 0,.int 7,.int 2,.int 8,.int 3,.int 9,.int 2,.int 10,.int 1,.int 11,.int 1,.int 12,.int 0,.int 13]∧T=0:=⟨_,rfl,rfl⟩
 have hH2:((scH c (k+1):Nat):Int)=(scH c k:Int)+(1-T):=by omega
 have f2:¬ (scH c k:Int)<T:=by omega
 have hT1:0≤T∧T≤3:=by omega
 clear hT0
 have hHl:=scH_le c k
 have hal:=insP_all c
 have hlen:(c.map insP).length=c.length:=by simp
 have hkk':(k:Int)<c.length:=by omega
 have hk0:(0:Int)≤(k:Int):=by omega
 have hSl:=scS_len c k
 have hFl:=scF_len c k
 have n1:=numsC_len (scS c k)
 have n2:=numsC_len (scF c k)
 unfold StC stI
 intro Q
 rw [eS,eF]
 clear eS eF eH p1 p2 p3 h hop hop' o1 o2 hT
 generalize c.map insP=cc at *
 generalize numsC (scS c k)=NS at *
 generalize numsC (scF c k)=NF at *
 generalize (scS c k).length=ls at *
 generalize (scF c k).length=lf at *
 generalize ((scH c (k+1):Nat):Int)=H2 at *
 generalize scH c k=H at *
 obtain ⟨s1,s2⟩:=hSl
 have b1:k+1≤4097:=by omega
 simp only [lp65,c65,Tryz.f111,Option.getD_some,left,right,inBlk,inLp]
 refine gg ?_
 refine ⟨hk,?_,?_,?_⟩
 ·simp [slotsLe,getS,hH2]
 ·simp [subO,getO]
 ·simp [subL,namesSl,V.names,namesOb,Ob.names,namesE_pvE,XX_given]
theorem st_2 (c:List Ins) (k a:Nat) (h:GoodC c) (hk:k<c.length) (hop:c[k]? = some (2,a)):StC c k:=by
 obtain ⟨op,a',hop',o1,o2,p1,p2,p3⟩:=h.pass k hk
 have e:some ((2,a):Ins)=some (op,a'):=hop.symm.trans hop'
 cases e
 have hT:=p2 (by decide)
 have hab:=h.bnd k _ _ hop
 have hhi:=h.hi
 have hgk:(c.map insP).getD k []=[.int 2,.int a]:=by simp [List.getD,hop,insP]
 have eS:scS c (k+1)=scS c k:=by simp [scS,hop]
 have f1:¬ (a:Int)≤k:=by have:=h.fwd k a hop;omega
 have eN:numsC (scF c k++[a])=numsC (scF c k)++[[.int (a:Int)]]:=by simp [numsC]
 have el2:(scF c k++[a]).length=(scF c k).length+1:=by simp
 have eF:scF c (k+1)=scF c k++[a]:=by simp [scF,hop]
 have t2:(numsC (scF c k)).take (scF c k).length=numsC (scF c k):=List.take_of_length_le (by rw [numsC_len];exact Nat.le_refl _)
 have eH:scH c (k+1)=scH c k+1-0:=by simp [scH,hop,takes]
 have hT':0≤scH c k:=hT
 obtain ⟨T,hops,hT0⟩:∃ T:Int,opsP=[.int 0,.int 0,.int 0,.int 1,.int T,.int 2,.int 2,.int 3,.int 0,.int 4,.int 1,.int 5,.int 3,.int 6,.int 0,.int 7,.int 2,.int 8,.int 3,.int 9,.int 2,.int 10,.int 1,.int 11,.int 1,.int 12,.int 0,.int 13]∧T=0:=⟨_,rfl,rfl⟩
 have hH2:((scH c (k+1):Nat):Int)=(scH c k:Int)+(1-T):=by omega
 have f2:¬ (scH c k:Int)<T:=by omega
 have hT1:0≤T∧T≤3:=by omega
 clear hT0
 have hHl:=scH_le c k
 have hal:=insP_all c
 have hlen:(c.map insP).length=c.length:=by simp
 have hkk':(k:Int)<c.length:=by omega
 have hk0:(0:Int)≤(k:Int):=by omega
 have hSl:=scS_len c k
 have hFl:=scF_len c k
 have n1:=numsC_len (scS c k)
 have n2:=numsC_len (scF c k)
 unfold StC stI
 intro Q
 rw [eS,eF,eN,el2]
 clear eN el2
 clear eS eF eH p1 p2 p3 h hop hop' o1 o2 hT
 generalize c.map insP=cc at *
 generalize numsC (scS c k)=NS at *
 generalize numsC (scF c k)=NF at *
 generalize (scS c k).length=ls at *
 generalize (scF c k).length=lf at *
 generalize ((scH c (k+1):Nat):Int)=H2 at *
 generalize scH c k=H at *
 obtain ⟨s1,s2⟩:=hSl
 have b1:k+1≤4097:=by omega
 simp only [lp65,c65,Tryz.f111,Option.getD_some,left,right,inBlk,inLp]
 refine gg ?_
 refine ⟨hk,?_,?_,?_⟩
 ·simp [slotsLe,getS,hH2]
 ·simp [subO,getO]
 ·simp [subL,namesSl,V.names,namesOb,Ob.names,namesE_pvE,XX_given]
theorem st_3 (c:List Ins) (k a:Nat) (h:GoodC c) (hk:k<c.length) (hop:c[k]? = some (3,a)):StC c k:=by
 obtain ⟨op,a',hop',o1,o2,p1,p2,p3⟩:=h.pass k hk
 have e:some ((3,a):Ins)=some (op,a'):=hop.symm.trans hop'
 cases e
 obtain rfl:=p3 (by decide) (by decide)
 have hT:=p2 (by decide)
 have hab:=h.bnd k _ _ hop
 have hhi:=h.hi
 have hgk:(c.map insP).getD k []=[.int 3,.int 0]:=by simp [List.getD,hop,insP]
 have eS:scS c (k+1)=scS c k:=by simp [scS,hop]
 have eF:scF c (k+1)=scF c k:=by simp [scF,hop]
 have eH:scH c (k+1)=scH c k+1-2:=by simp [scH,hop,takes]
 have hT':2≤scH c k:=hT
 obtain ⟨T,hops,hT0⟩:∃ T:Int,opsP=[.int 0,.int 0,.int 0,.int 1,.int 0,.int 2,.int T,.int 3,.int 0,.int 4,.int 1,.int 5,.int 3,.int 6,.int 0,.int 7,.int 2,.int 8,.int 3,.int 9,.int 2,.int 10,.int 1,.int 11,.int 1,.int 12,.int 0,.int 13]∧T=2:=⟨_,rfl,rfl⟩
 have hH2:((scH c (k+1):Nat):Int)=(scH c k:Int)+(1-T):=by omega
 have f2:¬ (scH c k:Int)<T:=by omega
 have hT1:0≤T∧T≤3:=by omega
 clear hT0
 have hHl:=scH_le c k
 have hal:=insP_all c
 have hlen:(c.map insP).length=c.length:=by simp
 have hkk':(k:Int)<c.length:=by omega
 have hk0:(0:Int)≤(k:Int):=by omega
 have hSl:=scS_len c k
 have hFl:=scF_len c k
 have n1:=numsC_len (scS c k)
 have n2:=numsC_len (scF c k)
 unfold StC stI
 intro Q
 rw [eS,eF]
 clear eS eF eH p1 p2 p3 h hop hop' o1 o2 hT
 generalize c.map insP=cc at *
 generalize numsC (scS c k)=NS at *
 generalize numsC (scF c k)=NF at *
 generalize (scS c k).length=ls at *
 generalize (scF c k).length=lf at *
 generalize ((scH c (k+1):Nat):Int)=H2 at *
 generalize scH c k=H at *
 obtain ⟨s1,s2⟩:=hSl
 have b1:k+1≤4097:=by omega
 simp only [lp65,c65,Tryz.f111,Option.getD_some,left,right,inBlk,inLp]
 refine gg ?_
 refine ⟨hk,?_,?_,?_⟩
 ·simp [slotsLe,getS,hH2]
 ·simp [subO,getO]
 ·simp [subL,namesSl,V.names,namesOb,Ob.names,namesE_pvE,XX_given]
theorem st_4 (c:List Ins) (k a:Nat) (h:GoodC c) (hk:k<c.length) (hop:c[k]? = some (4,a)):StC c k:=by
 obtain ⟨op,a',hop',o1,o2,p1,p2,p3⟩:=h.pass k hk
 have e:some ((4,a):Ins)=some (op,a'):=hop.symm.trans hop'
 cases e
 obtain rfl:=p3 (by decide) (by decide)
 have hT:=p2 (by decide)
 have hab:=h.bnd k _ _ hop
 have hhi:=h.hi
 have hgk:(c.map insP).getD k []=[.int 4,.int 0]:=by simp [List.getD,hop,insP]
 have eS:scS c (k+1)=scS c k:=by simp [scS,hop]
 have eF:scF c (k+1)=scF c k:=by simp [scF,hop]
 have eH:scH c (k+1)=scH c k+1-0:=by simp [scH,hop,takes]
 have hT':0≤scH c k:=hT
 obtain ⟨T,hops,hT0⟩:∃ T:Int,opsP=[.int 0,.int 0,.int 0,.int 1,.int 0,.int 2,.int 2,.int 3,.int T,.int 4,.int 1,.int 5,.int 3,.int 6,.int 0,.int 7,.int 2,.int 8,.int 3,.int 9,.int 2,.int 10,.int 1,.int 11,.int 1,.int 12,.int 0,.int 13]∧T=0:=⟨_,rfl,rfl⟩
 have hH2:((scH c (k+1):Nat):Int)=(scH c k:Int)+(1-T):=by omega
 have f2:¬ (scH c k:Int)<T:=by omega
 have hT1:0≤T∧T≤3:=by omega
 clear hT0
 have hHl:=scH_le c k
 have hal:=insP_all c
 have hlen:(c.map insP).length=c.length:=by simp
 have hkk':(k:Int)<c.length:=by omega
 have hk0:(0:Int)≤(k:Int):=by omega
 have hSl:=scS_len c k
 have hFl:=scF_len c k
 have n1:=numsC_len (scS c k)
 have n2:=numsC_len (scF c k)
 unfold StC stI
 intro Q
 rw [eS,eF]
 clear eS eF eH p1 p2 p3 h hop hop' o1 o2 hT
 generalize c.map insP=cc at *
 generalize numsC (scS c k)=NS at *
 generalize numsC (scF c k)=NF at *
 generalize (scS c k).length=ls at *
 generalize (scF c k).length=lf at *
 generalize ((scH c (k+1):Nat):Int)=H2 at *
 generalize scH c k=H at *
 obtain ⟨s1,s2⟩:=hSl
 have b1:k+1≤4097:=by omega
 simp only [lp65,c65,Tryz.f111,Option.getD_some,left,right,inBlk,inLp]
 refine gg ?_
 refine ⟨hk,?_,?_,?_⟩
 ·simp [slotsLe,getS,hH2]
 ·simp [subO,getO]
 ·simp [subL,namesSl,V.names,namesOb,Ob.names,namesE_pvE,XX_given]
theorem st_5 (c:List Ins) (k a:Nat) (h:GoodC c) (hk:k<c.length) (hop:c[k]? = some (5,a)):StC c k:=by
 obtain ⟨op,a',hop',o1,o2,p1,p2,p3⟩:=h.pass k hk
 have e:some ((5,a):Ins)=some (op,a'):=hop.symm.trans hop'
 cases e
 obtain rfl:=p3 (by decide) (by decide)
 have hT:=p2 (by decide)
 have hab:=h.bnd k _ _ hop
 have hhi:=h.hi
 have hgk:(c.map insP).getD k []=[.int 5,.int 0]:=by simp [List.getD,hop,insP]
 have eS:scS c (k+1)=scS c k:=by simp [scS,hop]
 have eF:scF c (k+1)=scF c k:=by simp [scF,hop]
 have eH:scH c (k+1)=scH c k+1-1:=by simp [scH,hop,takes]
 have hT':1≤scH c k:=hT
 obtain ⟨T,hops,hT0⟩:∃ T:Int,opsP=[.int 0,.int 0,.int 0,.int 1,.int 0,.int 2,.int 2,.int 3,.int 0,.int 4,.int T,.int 5,.int 3,.int 6,.int 0,.int 7,.int 2,.int 8,.int 3,.int 9,.int 2,.int 10,.int 1,.int 11,.int 1,.int 12,.int 0,.int 13]∧T=1:=⟨_,rfl,rfl⟩
 have hH2:((scH c (k+1):Nat):Int)=(scH c k:Int)+(1-T):=by omega
 have f2:¬ (scH c k:Int)<T:=by omega
 have hT1:0≤T∧T≤3:=by omega
 clear hT0
 have hHl:=scH_le c k
 have hal:=insP_all c
 have hlen:(c.map insP).length=c.length:=by simp
 have hkk':(k:Int)<c.length:=by omega
 have hk0:(0:Int)≤(k:Int):=by omega
 have hSl:=scS_len c k
 have hFl:=scF_len c k
 have n1:=numsC_len (scS c k)
 have n2:=numsC_len (scF c k)
 unfold StC stI
 intro Q
 rw [eS,eF]
 clear eS eF eH p1 p2 p3 h hop hop' o1 o2 hT
 generalize c.map insP=cc at *
 generalize numsC (scS c k)=NS at *
 generalize numsC (scF c k)=NF at *
 generalize (scS c k).length=ls at *
 generalize (scF c k).length=lf at *
 generalize ((scH c (k+1):Nat):Int)=H2 at *
 generalize scH c k=H at *
 obtain ⟨s1,s2⟩:=hSl
 have b1:k+1≤4097:=by omega
 simp only [lp65,c65,Tryz.f111,Option.getD_some,left,right,inBlk,inLp]
 refine gg ?_
 refine ⟨hk,?_,?_,?_⟩
 ·simp [slotsLe,getS,hH2]
 ·simp [subO,getO]
 ·simp [subL,namesSl,V.names,namesOb,Ob.names,namesE_pvE,XX_given]
theorem st_6 (c:List Ins) (k a:Nat) (h:GoodC c) (hk:k<c.length) (hop:c[k]? = some (6,a)):StC c k:=by
 obtain ⟨op,a',hop',o1,o2,p1,p2,p3⟩:=h.pass k hk
 have e:some ((6,a):Ins)=some (op,a'):=hop.symm.trans hop'
 cases e
 obtain rfl:=p3 (by decide) (by decide)
 have hT:=p2 (by decide)
 have hab:=h.bnd k _ _ hop
 have hhi:=h.hi
 have hgk:(c.map insP).getD k []=[.int 6,.int 0]:=by simp [List.getD,hop,insP]
 have eS:scS c (k+1)=scS c k:=by simp [scS,hop]
 have eF:scF c (k+1)=scF c k:=by simp [scF,hop]
 have eH:scH c (k+1)=scH c k+1-3:=by simp [scH,hop,takes]
 have hT':3≤scH c k:=hT
 obtain ⟨T,hops,hT0⟩:∃ T:Int,opsP=[.int 0,.int 0,.int 0,.int 1,.int 0,.int 2,.int 2,.int 3,.int 0,.int 4,.int 1,.int 5,.int T,.int 6,.int 0,.int 7,.int 2,.int 8,.int 3,.int 9,.int 2,.int 10,.int 1,.int 11,.int 1,.int 12,.int 0,.int 13]∧T=3:=⟨_,rfl,rfl⟩
 have hH2:((scH c (k+1):Nat):Int)=(scH c k:Int)+(1-T):=by omega
 have f2:¬ (scH c k:Int)<T:=by omega
 have hT1:0≤T∧T≤3:=by omega
 clear hT0
 have hHl:=scH_le c k
 have hal:=insP_all c
 have hlen:(c.map insP).length=c.length:=by simp
 have hkk':(k:Int)<c.length:=by omega
 have hk0:(0:Int)≤(k:Int):=by omega
 have hSl:=scS_len c k
 have hFl:=scF_len c k
 have n1:=numsC_len (scS c k)
 have n2:=numsC_len (scF c k)
 unfold StC stI
 intro Q
 rw [eS,eF]
 clear eS eF eH p1 p2 p3 h hop hop' o1 o2 hT
 generalize c.map insP=cc at *
 generalize numsC (scS c k)=NS at *
 generalize numsC (scF c k)=NF at *
 generalize (scS c k).length=ls at *
 generalize (scF c k).length=lf at *
 generalize ((scH c (k+1):Nat):Int)=H2 at *
 generalize scH c k=H at *
 obtain ⟨s1,s2⟩:=hSl
 have b1:k+1≤4097:=by omega
 simp only [lp65,c65,Tryz.f111,Option.getD_some,left,right,inBlk,inLp]
 refine gg ?_
 refine ⟨hk,?_,?_,?_⟩
 ·simp [slotsLe,getS,hH2]
 ·simp [subO,getO]
 ·simp [subL,namesSl,V.names,namesOb,Ob.names,namesE_pvE,XX_given]
theorem st_7 (c:List Ins) (k a:Nat) (h:GoodC c) (hk:k<c.length) (hop:c[k]? = some (7,a)):StC c k:=by
 obtain ⟨op,a',hop',o1,o2,p1,p2,p3⟩:=h.pass k hk
 have e:some ((7,a):Ins)=some (op,a'):=hop.symm.trans hop'
 cases e
 obtain rfl:=p3 (by decide) (by decide)
 have hT:=p2 (by decide)
 have hab:=h.bnd k _ _ hop
 have hhi:=h.hi
 have hgk:(c.map insP).getD k []=[.int 7,.int 0]:=by simp [List.getD,hop,insP]
 have eS:scS c (k+1)=scS c k:=by simp [scS,hop]
 have eF:scF c (k+1)=scF c k:=by simp [scF,hop]
 have eH:scH c (k+1)=scH c k+1-0:=by simp [scH,hop,takes]
 have hT':0≤scH c k:=hT
 obtain ⟨T,hops,hT0⟩:∃ T:Int,opsP=[.int 0,.int 0,.int 0,.int 1,.int 0,.int 2,.int 2,.int 3,.int 0,.int 4,.int 1,.int 5,.int 3,.int 6,.int T,.int 7,.int 2,.int 8,.int 3,.int 9,.int 2,.int 10,.int 1,.int 11,.int 1,.int 12,.int 0,.int 13]∧T=0:=⟨_,rfl,rfl⟩
 have hH2:((scH c (k+1):Nat):Int)=(scH c k:Int)+(1-T):=by omega
 have f2:¬ (scH c k:Int)<T:=by omega
 have hT1:0≤T∧T≤3:=by omega
 clear hT0
 have hHl:=scH_le c k
 have hal:=insP_all c
 have hlen:(c.map insP).length=c.length:=by simp
 have hkk':(k:Int)<c.length:=by omega
 have hk0:(0:Int)≤(k:Int):=by omega
 have hSl:=scS_len c k
 have hFl:=scF_len c k
 have n1:=numsC_len (scS c k)
 have n2:=numsC_len (scF c k)
 unfold StC stI
 intro Q
 rw [eS,eF]
 clear eS eF eH p1 p2 p3 h hop hop' o1 o2 hT
 generalize c.map insP=cc at *
 generalize numsC (scS c k)=NS at *
 generalize numsC (scF c k)=NF at *
 generalize (scS c k).length=ls at *
 generalize (scF c k).length=lf at *
 generalize ((scH c (k+1):Nat):Int)=H2 at *
 generalize scH c k=H at *
 obtain ⟨s1,s2⟩:=hSl
 have b1:k+1≤4097:=by omega
 simp only [lp65,c65,Tryz.f111,Option.getD_some,left,right,inBlk,inLp]
 refine gg ?_
 refine ⟨hk,?_,?_,?_⟩
 ·simp [slotsLe,getS,hH2]
 ·simp [subO,getO]
 ·simp [subL,namesSl,V.names,namesOb,Ob.names,namesE_pvE,XX_given]
end Go.Proofs.YtodjpfpmhjdhbaaGreatDoor
