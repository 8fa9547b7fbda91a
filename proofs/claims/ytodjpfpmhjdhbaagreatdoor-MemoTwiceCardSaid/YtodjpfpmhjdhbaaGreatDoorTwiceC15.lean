/- Contracts of functions; no conditions. -/
import Derived.Test.YtodjpfpmhjdhbaaGreatDoorTwiceC14
import Derived.Test.YtodjpfpmhjdhbaaGreatDoorTwiceC8
set_option linter.all false
namespace Go.Proofs.YtodjpfpmhjdhbaaGreatDoor
open Go.Lg
theorem enC15 {P Q : Prop} (h : P := by simp [retIs,resV,resL,resOne,mkTup,getS,getO,rdV,mkAgg,unL,V.un,TI.isAgg,XX_T,tt30,Tryz.f113]) (k : Q := by simp [subO,getO,tt30,Tryz.f113]) : P ∧ Q := ⟨h,k⟩
end Go.Proofs.YtodjpfpmhjdhbaaGreatDoor
namespace Go.Proofs.YtodjpfpmhjdhbaaGreatDoor
open Go.Lg
set_option maxRecDepth 10000
set_option maxHeartbeats 4000000
theorem st_pre (c:List Ins) (l:Nat) (m:Mm) (p op a:Nat) (hat:m.at_=((p:Nat):Int)) (hc:c[p]? = some (op,a)) (hst:¬ m.steps=l) (hsl:m.steps≤1000000) (hp:p≤1000000) (ms:List Nat) (h3:3 ∉ ms) (hms:∀ n∈frN (m.frames++m.fg),n∈(keysM++ms)) (Q:AEx→St→Prop)
  (h:AWP (XX [] 239 (keysM++ms)) sw67 ⟨[(0,.loc 901 0),(3,.loc 3 0)],(3,.box [.pv (.int op),.pv (.int a)])::mO c l (nxt m),3::(keysM++ms)⟩ Q) :
  AWP (XX [] 239 (keysM++ms)) c67 ⟨zipArgs 0 [.loc 901 0],mO c l m,(keysM++ms)⟩ Q:=by
 have e:c67 = .seq (left c67) (.seq (left (right c67)) (.seq (left (right (right c67))) (.seq (left (right (right (right c67)))) (.seq (left (right (right (right (right c67))))) sw67)))):=rfl
 rw [e]
 generalize sw67=tl at *
 clear e
 have hpl:p<c.length:=(List.getElem?_eq_some_iff.1 hc).1
 have hget:(c.map insP).getD p []=[.int op,.int a]:=by simp [List.getD,hc,insP]
 have hal:=insP_all c
 have hlen:(c.map insP).length=c.length:=by simp
 have hst':¬ ((m.steps:Nat):Int)=l:=by omega
 have hp1:((p:Nat):Int)<c.length:=by omega
 simp only [left,right,c67,Tryz.f113,Option.getD_some] at *
 have e1:((m.steps+1:Nat):Int)=m.steps+1:=by omega
 have eS:mS (nxt m)=mS m:=rfl
 have eF:mF (nxt m)=mF m:=rfl
 have eT:(nxt m).tab=m.tab:=rfl
 have nS:=mS_names m
 have nF:=mF_names m
 simp only [mO,eS,eF,eT] at *
 clear eS eF eT
 generalize mS m=S0 at *
 generalize mF m=F0 at *
 generalize frN (m.frames++m.fg)=fn at *
 unfold keysM at *
 unfold tabO tabN at *
 simp only [List.cons_append,List.nil_append] at *
 have hT0:=tB_names m.tab.hits
 generalize tB m.tab.hits=T0 at *
 have hT1:(Ob.imap (numE 0 m.tab.nums)).names=[]:=rfl
 generalize Ob.imap (numE 0 m.tab.nums)=T1 at *
 have hT2:(Ob.cache (DI m.tab.nums) (FI m.tab.nums)).names=[]:=rfl
 generalize Ob.cache (DI m.tab.nums) (FI m.tab.nums)=T2 at *
 have hT3:(Ob.cache (DL m.tab.nums) (FL m.tab.nums)).names=[]:=rfl
 generalize Ob.cache (DL m.tab.nums) (FL m.tab.nums)=T3 at *
 have hT4:(Ob.cache (DV m.tab.nums) (FV m.tab.nums)).names=[]:=rfl
 generalize Ob.cache (DV m.tab.nums) (FV m.tab.nums)=T4 at *
 have hT5:(Ob.imap (resE m.tab.res)).names=[]:=rfl
 generalize Ob.imap (resE m.tab.res)=T5 at *
 simp only [mB,nxt,hat,e1] at *
 generalize c.map insP=cs at *
 generalize varsP m.vars=vv at *
 clear hc hst e1 hat
 refine gg ?_
 refine⟨by rfl,?_⟩
 refine gg ?_
 refine⟨by rfl,?_⟩
 refine gg ?_
 refine AWP.weaken ⟨by simp [slotsLe,getS],?_,?_⟩ h
 ·simp [subO,getO]
 ·rw [subL_iff]
  intro n hn
  have:=hms n
  simp only [namesSl,V.names,namesOb,obn_box,namesL,XX_given,nS,nF,hT0,hT1,hT2,hT3,hT4,hT5,List.mem_append,List.mem_cons,List.not_mem_nil,or_false,false_or,List.append_nil,List.nil_append,List.cons_append] at hn this ⊢
  refine Classical.byContradiction fun hc => ?_
  simp only [not_or] at hc
  simp [hc] at hn
  simp [hc,hn] at this
theorem st_preR (c:List Ins) (l:Nat) (m:Mm) (p op a:Nat) (hat:m.at_=((p:Nat):Int)) (hc:c[p]? = some (op,a)) (hst:¬ m.steps=l) (hsl:m.steps≤1000000) (hp:p≤1000000) (RB:Ob) (hR:RB.names=[]) (ms:List Nat) (h3:3 ∉ ms) (hms:∀ n∈frN (m.frames++m.fg),n∈(keysM++920::ms)) (Q:AEx→St→Prop)
  (h:AWP (XX [] 239 (keysM++920::ms)) sw67 ⟨[(0,.loc 901 0),(3,.loc 3 0)],(3,.box [.pv (.int op),.pv (.int a)])::mO c l (nxt m)++[(920,RB)],3::(keysM++920::ms)⟩ Q) :
  AWP (XX [] 239 (keysM++920::ms)) c67 ⟨zipArgs 0 [.loc 901 0],mO c l m++[(920,RB)],(keysM++920::ms)⟩ Q:=by
 have e:c67 = .seq (left c67) (.seq (left (right c67)) (.seq (left (right (right c67))) (.seq (left (right (right (right c67)))) (.seq (left (right (right (right (right c67))))) sw67)))):=rfl
 rw [e]
 generalize sw67=tl at *
 clear e
 have hpl:p<c.length:=(List.getElem?_eq_some_iff.1 hc).1
 have hget:(c.map insP).getD p []=[.int op,.int a]:=by simp [List.getD,hc,insP]
 have hal:=insP_all c
 have hlen:(c.map insP).length=c.length:=by simp
 have hst':¬ ((m.steps:Nat):Int)=l:=by omega
 have hp1:((p:Nat):Int)<c.length:=by omega
 simp only [left,right,c67,Tryz.f113,Option.getD_some] at *
 have e1:((m.steps+1:Nat):Int)=m.steps+1:=by omega
 have eS:mS (nxt m)=mS m:=rfl
 have eF:mF (nxt m)=mF m:=rfl
 have eT:(nxt m).tab=m.tab:=rfl
 have nS:=mS_names m
 have nF:=mF_names m
 simp only [mO,eS,eF,eT] at *
 clear eS eF eT
 generalize mS m=S0 at *
 generalize mF m=F0 at *
 generalize frN (m.frames++m.fg)=fn at *
 unfold keysM at *
 unfold tabO tabN at *
 simp only [List.cons_append,List.nil_append] at *
 have hT0:=tB_names m.tab.hits
 generalize tB m.tab.hits=T0 at *
 have hT1:(Ob.imap (numE 0 m.tab.nums)).names=[]:=rfl
 generalize Ob.imap (numE 0 m.tab.nums)=T1 at *
 have hT2:(Ob.cache (DI m.tab.nums) (FI m.tab.nums)).names=[]:=rfl
 generalize Ob.cache (DI m.tab.nums) (FI m.tab.nums)=T2 at *
 have hT3:(Ob.cache (DL m.tab.nums) (FL m.tab.nums)).names=[]:=rfl
 generalize Ob.cache (DL m.tab.nums) (FL m.tab.nums)=T3 at *
 have hT4:(Ob.cache (DV m.tab.nums) (FV m.tab.nums)).names=[]:=rfl
 generalize Ob.cache (DV m.tab.nums) (FV m.tab.nums)=T4 at *
 have hT5:(Ob.imap (resE m.tab.res)).names=[]:=rfl
 generalize Ob.imap (resE m.tab.res)=T5 at *
 simp only [mB,nxt,hat,e1] at *
 generalize c.map insP=cs at *
 generalize varsP m.vars=vv at *
 clear hc hst e1 hat
 refine gg ?_
 refine⟨by rfl,?_⟩
 refine gg ?_
 refine⟨by rfl,?_⟩
 refine gg ?_
 refine AWP.weaken ⟨by simp [slotsLe,getS],?_,?_⟩ h
 ·simp [subO,getO]
 ·rw [subL_iff]
  intro n hn
  have:=hms n
  simp only [namesSl,V.names,namesOb,obn_box,namesL,XX_given,nS,nF,hT0,hT1,hT2,hT3,hT4,hT5,hR,List.mem_append,List.mem_cons,List.not_mem_nil,or_false,false_or,List.append_nil,List.nil_append,List.cons_append] at hn this ⊢
  refine Classical.byContradiction fun hc => ?_
  simp only [not_or] at hc
  simp [hc] at hn
  simp [hc,hn] at this
theorem se_3_err (c:List Ins) (l:Nat) (m:Mm) (ms:List Nat) (q:PV) (s:List It) (f x:It) (hs:m.stack=s++[f,x]) (hl:m.stack.length≤900000)
  (he:AC Tryz.prog gl 115 [.loc 901 0,.pv (itP f),.pv (itP x),.pv .nil] (mO c l (pop1 (pop1 (nxt m) (s++[f]) x) s f)) (.panic q) []) :
  AWP (XX [] 239 (keysM++ms)) sw67 ⟨[(0,.loc 901 0),(3,.loc 3 0)],(3,.box [.pv (.int 3),.pv (.int (0:Nat))])::mO c l (nxt m),3::(keysM++ms)⟩ (endQ (XX [] 239 (keysM++ms)) Tryz.f113.results.toList (.panic q) []):=by
 have p1:=pop_ok c l (nxt m) (s++[f]) x (by simp [nxt,hs]) (by simp [nxt];omega)
 have p2:=pop_ok c l (pop1 (nxt m) (s++[f]) x) s f rfl (by simp [pop1,hs] at hl ⊢;omega)
 have eF:mF (pop1 (pop1 (nxt m) (s++[f]) x) s f)=mF (nxt m):=rfl
 have eT:(pop1 (pop1 (nxt m) (s++[f]) x) s f).tab=(nxt m).tab:=rfl
 simp only [mO,eF,eT] at he
 clear eF eT
 try unfold pop1 at *
 generalize mB c l { nxt m with stack:=s++[f],sg:=x::(nxt m).sg } = B5 at *
 generalize mS { nxt m with stack:=s++[f],sg:=x::(nxt m).sg } = S5 at *
 generalize mB c l { nxt m with stack:=s,sg:=f::x::(nxt m).sg } = B6 at *
 generalize mS { nxt m with stack:=s,sg:=f::x::(nxt m).sg } = S6 at *
 generalize itP f=vf at *
 generalize itP x=vx at *
 simp only [mO] at *
 unfold keysM
 unfold tabO tabN at *
 simp only [List.cons_append,List.nil_append] at *
 have eT1:(nxt m).tab=m.tab:=rfl
 simp only [eT1] at *
 clear eT1
 generalize tB m.tab.hits=T0 at *
 generalize Ob.imap (numE 0 m.tab.nums)=T1 at *
 generalize Ob.cache (DI m.tab.nums) (FI m.tab.nums)=T2 at *
 generalize Ob.cache (DL m.tab.nums) (FL m.tab.nums)=T3 at *
 generalize Ob.cache (DV m.tab.nums) (FV m.tab.nums)=T4 at *
 generalize Ob.imap (resE m.tab.res)=T5 at *
 generalize mB c l (nxt m)=B1 at *
 generalize mS (nxt m)=S1 at *
 generalize mF (nxt m)=F1 at *
 simp only [sw67,right,c67,Tryz.f113,Option.getD_some]
 try simp only [Int.cast_ofNat_Int] at *
 refine gg ?_
 refine call p1 ?_
 refine gg ?_
 refine call p2 ?_
 refine gg ?_
 refine callP he ?_
 refine gg ?_
 exact⟨rfl,trivial⟩
theorem se_3_same (c:List Ins) (l:Nat) (m:Mm) (ms:List Nat) (m':Mm) (s:List It) (f x:It) (hs:m.stack=s++[f,x]) (hl:m.stack.length≤900000)
  (he:AC Tryz.prog gl 115 [.loc 901 0,.pv (itP f),.pv (itP x),.pv .nil] (mO c l (pop1 (pop1 (nxt m) (s++[f]) x) s f)) (.ret (.pv (.tuple []))) (mO c l m')) :
  AWP (XX [] 239 (keysM++ms)) sw67 ⟨[(0,.loc 901 0),(3,.loc 3 0)],(3,.box [.pv (.int 3),.pv (.int (0:Nat))])::mO c l (nxt m),3::(keysM++ms)⟩ (endQ (XX [] 239 (keysM++ms)) Tryz.f113.results.toList (.ret (.pv (.bool true))) (mO c l m')):=by
 have p1:=pop_ok c l (nxt m) (s++[f]) x (by simp [nxt,hs]) (by simp [nxt];omega)
 have p2:=pop_ok c l (pop1 (nxt m) (s++[f]) x) s f rfl (by simp [pop1,hs] at hl ⊢;omega)
 have eF:mF (pop1 (pop1 (nxt m) (s++[f]) x) s f)=mF (nxt m):=rfl
 have eT:(pop1 (pop1 (nxt m) (s++[f]) x) s f).tab=(nxt m).tab:=rfl
 simp only [mO,eF,eT] at he
 clear eF eT
 try unfold pop1 at *
 generalize mB c l { nxt m with stack:=s++[f],sg:=x::(nxt m).sg } = B5 at *
 generalize mS { nxt m with stack:=s++[f],sg:=x::(nxt m).sg } = S5 at *
 generalize mB c l { nxt m with stack:=s,sg:=f::x::(nxt m).sg } = B6 at *
 generalize mS { nxt m with stack:=s,sg:=f::x::(nxt m).sg } = S6 at *
 generalize itP f=vf at *
 generalize itP x=vx at *
 simp only [mO] at *
 unfold keysM
 unfold tabO tabN at *
 simp only [List.cons_append,List.nil_append] at *
 have eT1:(nxt m).tab=m.tab:=rfl
 simp only [eT1] at *
 clear eT1
 generalize tB m.tab.hits=T0 at *
 generalize Ob.imap (numE 0 m.tab.nums)=T1 at *
 generalize Ob.cache (DI m.tab.nums) (FI m.tab.nums)=T2 at *
 generalize Ob.cache (DL m.tab.nums) (FL m.tab.nums)=T3 at *
 generalize Ob.cache (DV m.tab.nums) (FV m.tab.nums)=T4 at *
 generalize Ob.imap (resE m.tab.res)=T5 at *
 generalize mB c l m'=B2 at *
 generalize mS m'=S2 at *
 generalize mF m'=F2 at *
 generalize tB m'.tab.hits=U0 at *
 generalize Ob.imap (numE 0 m'.tab.nums)=U1 at *
 generalize Ob.cache (DI m'.tab.nums) (FI m'.tab.nums)=U2 at *
 generalize Ob.cache (DL m'.tab.nums) (FL m'.tab.nums)=U3 at *
 generalize Ob.cache (DV m'.tab.nums) (FV m'.tab.nums)=U4 at *
 generalize Ob.imap (resE m'.tab.res)=U5 at *
 generalize mB c l (nxt m)=B1 at *
 generalize mS (nxt m)=S1 at *
 generalize mF (nxt m)=F1 at *
 simp only [sw67,right,c67,Tryz.f113,Option.getD_some]
 try simp only [Int.cast_ofNat_Int] at *
 refine gg ?_
 refine call p1 ?_
 refine gg ?_
 refine call p2 ?_
 refine gg ?_
 refine call he ?_
 refine gg ?_
 exact enC15
theorem se_6_err (c:List Ins) (l:Nat) (m:Mm) (ms:List Nat) (h920:920 ∉ ms) (q:PV)
  (he:AC Tryz.prog gl 131 [.loc 901 0,.pv (.bool false)] (mO c l (nxt m)) (.panic q) []) :
  AWP (XX [] 239 (keysM++ms)) sw67 ⟨[(0,.loc 901 0),(3,.loc 3 0)],(3,.box [.pv (.int 6),.pv (.int (0:Nat))])::mO c l (nxt m),3::(keysM++ms)⟩ (endQ (XX [] 239 (keysM++ms)) Tryz.f113.results.toList (.panic q) []):=by
 simp only [mO] at *
 unfold keysM
 unfold tabO tabN at *
 simp only [List.cons_append,List.nil_append] at *
 have eT1:(nxt m).tab=m.tab:=rfl
 simp only [eT1] at *
 clear eT1
 generalize tB m.tab.hits=T0 at *
 generalize Ob.imap (numE 0 m.tab.nums)=T1 at *
 generalize Ob.cache (DI m.tab.nums) (FI m.tab.nums)=T2 at *
 generalize Ob.cache (DL m.tab.nums) (FL m.tab.nums)=T3 at *
 generalize Ob.cache (DV m.tab.nums) (FV m.tab.nums)=T4 at *
 generalize Ob.imap (resE m.tab.res)=T5 at *
 generalize mB c l (nxt m)=B1 at *
 generalize mS (nxt m)=S1 at *
 generalize mF (nxt m)=F1 at *
 simp only [sw67,right,c67,Tryz.f113,Option.getD_some]
 try simp only [Int.cast_ofNat_Int] at *
 refine gg ?_
 refine callP he ?_
 refine gg ?_
 exact⟨rfl,trivial⟩
theorem se_6_same (c:List Ins) (l:Nat) (m:Mm) (ms:List Nat) (h920:920 ∉ ms) (m':Mm)
  (he:AC Tryz.prog gl 131 [.loc 901 0,.pv (.bool false)] (mO c l (nxt m)) (.ret (.pv (.tuple []))) (mO c l m')) :
  AWP (XX [] 239 (keysM++ms)) sw67 ⟨[(0,.loc 901 0),(3,.loc 3 0)],(3,.box [.pv (.int 6),.pv (.int (0:Nat))])::mO c l (nxt m),3::(keysM++ms)⟩ (endQ (XX [] 239 (keysM++ms)) Tryz.f113.results.toList (.ret (.pv (.bool true))) (mO c l m')):=by
 simp only [mO] at *
 unfold keysM
 unfold tabO tabN at *
 simp only [List.cons_append,List.nil_append] at *
 have eT1:(nxt m).tab=m.tab:=rfl
 simp only [eT1] at *
 clear eT1
 generalize tB m.tab.hits=T0 at *
 generalize Ob.imap (numE 0 m.tab.nums)=T1 at *
 generalize Ob.cache (DI m.tab.nums) (FI m.tab.nums)=T2 at *
 generalize Ob.cache (DL m.tab.nums) (FL m.tab.nums)=T3 at *
 generalize Ob.cache (DV m.tab.nums) (FV m.tab.nums)=T4 at *
 generalize Ob.imap (resE m.tab.res)=T5 at *
 generalize mB c l m'=B2 at *
 generalize mS m'=S2 at *
 generalize mF m'=F2 at *
 generalize tB m'.tab.hits=U0 at *
 generalize Ob.imap (numE 0 m'.tab.nums)=U1 at *
 generalize Ob.cache (DI m'.tab.nums) (FI m'.tab.nums)=U2 at *
 generalize Ob.cache (DL m'.tab.nums) (FL m'.tab.nums)=U3 at *
 generalize Ob.cache (DV m'.tab.nums) (FV m'.tab.nums)=U4 at *
 generalize Ob.imap (resE m'.tab.res)=U5 at *
 generalize mB c l (nxt m)=B1 at *
 generalize mS (nxt m)=S1 at *
 generalize mF (nxt m)=F1 at *
 simp only [sw67,right,c67,Tryz.f113,Option.getD_some]
 try simp only [Int.cast_ofNat_Int] at *
 refine gg ?_
 refine call he ?_
 refine gg ?_
 exact enC15
theorem se_6_rnd (c:List Ins) (l:Nat) (m:Mm) (ms:List Nat) (h920:920 ∉ ms) (m':Mm) (R2:Ob)
  (he:AC Tryz.prog gl 131 [.loc 901 0,.pv (.bool false)] (mO c l (nxt m)) (.ret (.pv (.tuple []))) (mO c l m'++[(920,R2)])) :
  AWP (XX [] 239 (keysM++ms)) sw67 ⟨[(0,.loc 901 0),(3,.loc 3 0)],(3,.box [.pv (.int 6),.pv (.int (0:Nat))])::mO c l (nxt m),3::(keysM++ms)⟩ (endQ (XX [] 239 (keysM++ms)) Tryz.f113.results.toList (.ret (.pv (.bool true))) (mO c l m'++[(920,R2)])):=by
 simp only [mO] at *
 unfold keysM
 unfold tabO tabN at *
 simp only [List.cons_append,List.nil_append] at *
 have eT1:(nxt m).tab=m.tab:=rfl
 simp only [eT1] at *
 clear eT1
 generalize tB m.tab.hits=T0 at *
 generalize Ob.imap (numE 0 m.tab.nums)=T1 at *
 generalize Ob.cache (DI m.tab.nums) (FI m.tab.nums)=T2 at *
 generalize Ob.cache (DL m.tab.nums) (FL m.tab.nums)=T3 at *
 generalize Ob.cache (DV m.tab.nums) (FV m.tab.nums)=T4 at *
 generalize Ob.imap (resE m.tab.res)=T5 at *
 generalize mB c l m'=B2 at *
 generalize mS m'=S2 at *
 generalize mF m'=F2 at *
 generalize tB m'.tab.hits=U0 at *
 generalize Ob.imap (numE 0 m'.tab.nums)=U1 at *
 generalize Ob.cache (DI m'.tab.nums) (FI m'.tab.nums)=U2 at *
 generalize Ob.cache (DL m'.tab.nums) (FL m'.tab.nums)=U3 at *
 generalize Ob.cache (DV m'.tab.nums) (FV m'.tab.nums)=U4 at *
 generalize Ob.imap (resE m'.tab.res)=U5 at *
 generalize mB c l (nxt m)=B1 at *
 generalize mS (nxt m)=S1 at *
 generalize mF (nxt m)=F1 at *
 simp only [sw67,right,c67,Tryz.f113,Option.getD_some]
 try simp only [Int.cast_ofNat_Int] at *
 refine gg ?_
 refine callS he ?_
 refine gg ?_
 exact enC15
theorem se_9_err (c:List Ins) (l:Nat) (m:Mm) (ms:List Nat) (h920:920 ∉ ms) (q:PV)
  (he:AC Tryz.prog gl 131 [.loc 901 0,.pv (.bool true)] (mO c l (nxt m)) (.panic q) []) :
  AWP (XX [] 239 (keysM++ms)) sw67 ⟨[(0,.loc 901 0),(3,.loc 3 0)],(3,.box [.pv (.int 9),.pv (.int (0:Nat))])::mO c l (nxt m),3::(keysM++ms)⟩ (endQ (XX [] 239 (keysM++ms)) Tryz.f113.results.toList (.panic q) []):=by
 simp only [mO] at *
 unfold keysM
 unfold tabO tabN at *
 simp only [List.cons_append,List.nil_append] at *
 have eT1:(nxt m).tab=m.tab:=rfl
 simp only [eT1] at *
 clear eT1
 generalize tB m.tab.hits=T0 at *
 generalize Ob.imap (numE 0 m.tab.nums)=T1 at *
 generalize Ob.cache (DI m.tab.nums) (FI m.tab.nums)=T2 at *
 generalize Ob.cache (DL m.tab.nums) (FL m.tab.nums)=T3 at *
 generalize Ob.cache (DV m.tab.nums) (FV m.tab.nums)=T4 at *
 generalize Ob.imap (resE m.tab.res)=T5 at *
 generalize mB c l (nxt m)=B1 at *
 generalize mS (nxt m)=S1 at *
 generalize mF (nxt m)=F1 at *
 simp only [sw67,right,c67,Tryz.f113,Option.getD_some]
 try simp only [Int.cast_ofNat_Int] at *
 refine gg ?_
 refine callP he ?_
 refine gg ?_
 exact⟨rfl,trivial⟩
theorem se_9_same (c:List Ins) (l:Nat) (m:Mm) (ms:List Nat) (h920:920 ∉ ms) (m':Mm)
  (he:AC Tryz.prog gl 131 [.loc 901 0,.pv (.bool true)] (mO c l (nxt m)) (.ret (.pv (.tuple []))) (mO c l m')) :
  AWP (XX [] 239 (keysM++ms)) sw67 ⟨[(0,.loc 901 0),(3,.loc 3 0)],(3,.box [.pv (.int 9),.pv (.int (0:Nat))])::mO c l (nxt m),3::(keysM++ms)⟩ (endQ (XX [] 239 (keysM++ms)) Tryz.f113.results.toList (.ret (.pv (.bool true))) (mO c l m')):=by
 simp only [mO] at *
 unfold keysM
 unfold tabO tabN at *
 simp only [List.cons_append,List.nil_append] at *
 have eT1:(nxt m).tab=m.tab:=rfl
 simp only [eT1] at *
 clear eT1
 generalize tB m.tab.hits=T0 at *
 generalize Ob.imap (numE 0 m.tab.nums)=T1 at *
 generalize Ob.cache (DI m.tab.nums) (FI m.tab.nums)=T2 at *
 generalize Ob.cache (DL m.tab.nums) (FL m.tab.nums)=T3 at *
 generalize Ob.cache (DV m.tab.nums) (FV m.tab.nums)=T4 at *
 generalize Ob.imap (resE m.tab.res)=T5 at *
 generalize mB c l m'=B2 at *
 generalize mS m'=S2 at *
 generalize mF m'=F2 at *
 generalize tB m'.tab.hits=U0 at *
 generalize Ob.imap (numE 0 m'.tab.nums)=U1 at *
 generalize Ob.cache (DI m'.tab.nums) (FI m'.tab.nums)=U2 at *
 generalize Ob.cache (DL m'.tab.nums) (FL m'.tab.nums)=U3 at *
 generalize Ob.cache (DV m'.tab.nums) (FV m'.tab.nums)=U4 at *
 generalize Ob.imap (resE m'.tab.res)=U5 at *
 generalize mB c l (nxt m)=B1 at *
 generalize mS (nxt m)=S1 at *
 generalize mF (nxt m)=F1 at *
 simp only [sw67,right,c67,Tryz.f113,Option.getD_some]
 try simp only [Int.cast_ofNat_Int] at *
 refine gg ?_
 refine call he ?_
 refine gg ?_
 exact enC15
theorem se_9_rnd (c:List Ins) (l:Nat) (m:Mm) (ms:List Nat) (h920:920 ∉ ms) (m':Mm) (R2:Ob)
  (he:AC Tryz.prog gl 131 [.loc 901 0,.pv (.bool true)] (mO c l (nxt m)) (.ret (.pv (.tuple []))) (mO c l m'++[(920,R2)])) :
  AWP (XX [] 239 (keysM++ms)) sw67 ⟨[(0,.loc 901 0),(3,.loc 3 0)],(3,.box [.pv (.int 9),.pv (.int (0:Nat))])::mO c l (nxt m),3::(keysM++ms)⟩ (endQ (XX [] 239 (keysM++ms)) Tryz.f113.results.toList (.ret (.pv (.bool true))) (mO c l m'++[(920,R2)])):=by
 simp only [mO] at *
 unfold keysM
 unfold tabO tabN at *
 simp only [List.cons_append,List.nil_append] at *
 have eT1:(nxt m).tab=m.tab:=rfl
 simp only [eT1] at *
 clear eT1
 generalize tB m.tab.hits=T0 at *
 generalize Ob.imap (numE 0 m.tab.nums)=T1 at *
 generalize Ob.cache (DI m.tab.nums) (FI m.tab.nums)=T2 at *
 generalize Ob.cache (DL m.tab.nums) (FL m.tab.nums)=T3 at *
 generalize Ob.cache (DV m.tab.nums) (FV m.tab.nums)=T4 at *
 generalize Ob.imap (resE m.tab.res)=T5 at *
 generalize mB c l m'=B2 at *
 generalize mS m'=S2 at *
 generalize mF m'=F2 at *
 generalize tB m'.tab.hits=U0 at *
 generalize Ob.imap (numE 0 m'.tab.nums)=U1 at *
 generalize Ob.cache (DI m'.tab.nums) (FI m'.tab.nums)=U2 at *
 generalize Ob.cache (DL m'.tab.nums) (FL m'.tab.nums)=U3 at *
 generalize Ob.cache (DV m'.tab.nums) (FV m'.tab.nums)=U4 at *
 generalize Ob.imap (resE m'.tab.res)=U5 at *
 generalize mB c l (nxt m)=B1 at *
 generalize mS (nxt m)=S1 at *
 generalize mF (nxt m)=F1 at *
 simp only [sw67,right,c67,Tryz.f113,Option.getD_some]
 try simp only [Int.cast_ofNat_Int] at *
 refine gg ?_
 refine callS he ?_
 refine gg ?_
 exact enC15
theorem se_14_same (c:List Ins) (l:Nat) (m:Mm) (ms:List Nat) (m':Mm) (b:Bool)
  (he:AC Tryz.prog gl 132 [.loc 901 0] (mO c l (nxt m)) (.ret (.pv (.bool b))) (mO c l m')) :
  AWP (XX [] 239 (keysM++ms)) sw67 ⟨[(0,.loc 901 0),(3,.loc 3 0)],(3,.box [.pv (.int 14),.pv (.int (0:Nat))])::mO c l (nxt m),3::(keysM++ms)⟩ (endQ (XX [] 239 (keysM++ms)) Tryz.f113.results.toList (.ret (.pv (.bool b))) (mO c l m')):=by
 simp only [mO] at *
 unfold keysM
 unfold tabO tabN at *
 simp only [List.cons_append,List.nil_append] at *
 have eT1:(nxt m).tab=m.tab:=rfl
 simp only [eT1] at *
 clear eT1
 generalize tB m.tab.hits=T0 at *
 generalize Ob.imap (numE 0 m.tab.nums)=T1 at *
 generalize Ob.cache (DI m.tab.nums) (FI m.tab.nums)=T2 at *
 generalize Ob.cache (DL m.tab.nums) (FL m.tab.nums)=T3 at *
 generalize Ob.cache (DV m.tab.nums) (FV m.tab.nums)=T4 at *
 generalize Ob.imap (resE m.tab.res)=T5 at *
 generalize mB c l m'=B2 at *
 generalize mS m'=S2 at *
 generalize mF m'=F2 at *
 generalize tB m'.tab.hits=U0 at *
 generalize Ob.imap (numE 0 m'.tab.nums)=U1 at *
 generalize Ob.cache (DI m'.tab.nums) (FI m'.tab.nums)=U2 at *
 generalize Ob.cache (DL m'.tab.nums) (FL m'.tab.nums)=U3 at *
 generalize Ob.cache (DV m'.tab.nums) (FV m'.tab.nums)=U4 at *
 generalize Ob.imap (resE m'.tab.res)=U5 at *
 generalize mB c l (nxt m)=B1 at *
 generalize mS (nxt m)=S1 at *
 generalize mF (nxt m)=F1 at *
 simp only [sw67,right,c67,Tryz.f113,Option.getD_some]
 try simp only [Int.cast_ofNat_Int] at *
 refine gg ?_
 refine call he ?_
 refine gg ?_
 exact enC15
theorem se_14R_err (c:List Ins) (l:Nat) (m:Mm) (ms:List Nat) (R0:Ob) (q:PV)
  (he:AC Tryz.prog gl 132 [.loc 901 0] (mO c l (nxt m)++[(920,R0)]) (.panic q) []) :
  AWP (XX [] 239 (keysM++920::ms)) sw67 ⟨[(0,.loc 901 0),(3,.loc 3 0)],(3,.box [.pv (.int 14),.pv (.int (0:Nat))])::mO c l (nxt m)++[(920,R0)],3::(keysM++920::ms)⟩ (endQ (XX [] 239 (keysM++920::ms)) Tryz.f113.results.toList (.panic q) []):=by
 simp only [mO] at *
 unfold keysM
 unfold tabO tabN at *
 simp only [List.cons_append,List.nil_append] at *
 have eT1:(nxt m).tab=m.tab:=rfl
 simp only [eT1] at *
 clear eT1
 generalize tB m.tab.hits=T0 at *
 generalize Ob.imap (numE 0 m.tab.nums)=T1 at *
 generalize Ob.cache (DI m.tab.nums) (FI m.tab.nums)=T2 at *
 generalize Ob.cache (DL m.tab.nums) (FL m.tab.nums)=T3 at *
 generalize Ob.cache (DV m.tab.nums) (FV m.tab.nums)=T4 at *
 generalize Ob.imap (resE m.tab.res)=T5 at *
 generalize mB c l (nxt m)=B1 at *
 generalize mS (nxt m)=S1 at *
 generalize mF (nxt m)=F1 at *
 simp only [sw67,right,c67,Tryz.f113,Option.getD_some]
 try simp only [Int.cast_ofNat_Int] at *
 refine gg ?_
 refine callP he ?_
 refine gg ?_
 exact⟨rfl,trivial⟩
theorem se_14R_same (c:List Ins) (l:Nat) (m:Mm) (ms:List Nat) (R0:Ob) (m':Mm) (b:Bool)
  (he:AC Tryz.prog gl 132 [.loc 901 0] (mO c l (nxt m)++[(920,R0)]) (.ret (.pv (.bool b))) (mO c l m')) :
  AWP (XX [] 239 (keysM++920::ms)) sw67 ⟨[(0,.loc 901 0),(3,.loc 3 0)],(3,.box [.pv (.int 14),.pv (.int (0:Nat))])::mO c l (nxt m)++[(920,R0)],3::(keysM++920::ms)⟩ (endQ (XX [] 239 (keysM++920::ms)) Tryz.f113.results.toList (.ret (.pv (.bool b))) (mO c l m')):=by
 simp only [mO] at *
 unfold keysM
 unfold tabO tabN at *
 simp only [List.cons_append,List.nil_append] at *
 have eT1:(nxt m).tab=m.tab:=rfl
 simp only [eT1] at *
 clear eT1
 generalize tB m.tab.hits=T0 at *
 generalize Ob.imap (numE 0 m.tab.nums)=T1 at *
 generalize Ob.cache (DI m.tab.nums) (FI m.tab.nums)=T2 at *
 generalize Ob.cache (DL m.tab.nums) (FL m.tab.nums)=T3 at *
 generalize Ob.cache (DV m.tab.nums) (FV m.tab.nums)=T4 at *
 generalize Ob.imap (resE m.tab.res)=T5 at *
 generalize mB c l m'=B2 at *
 generalize mS m'=S2 at *
 generalize mF m'=F2 at *
 generalize tB m'.tab.hits=U0 at *
 generalize Ob.imap (numE 0 m'.tab.nums)=U1 at *
 generalize Ob.cache (DI m'.tab.nums) (FI m'.tab.nums)=U2 at *
 generalize Ob.cache (DL m'.tab.nums) (FL m'.tab.nums)=U3 at *
 generalize Ob.cache (DV m'.tab.nums) (FV m'.tab.nums)=U4 at *
 generalize Ob.imap (resE m'.tab.res)=U5 at *
 generalize mB c l (nxt m)=B1 at *
 generalize mS (nxt m)=S1 at *
 generalize mF (nxt m)=F1 at *
 simp only [sw67,right,c67,Tryz.f113,Option.getD_some]
 try simp only [Int.cast_ofNat_Int] at *
 refine gg ?_
 refine call he ?_
 refine gg ?_
 exact enC15
theorem se_14R_rnd (c:List Ins) (l:Nat) (m:Mm) (ms:List Nat) (R0:Ob) (m':Mm) (R2:Ob) (b:Bool)
  (he:AC Tryz.prog gl 132 [.loc 901 0] (mO c l (nxt m)++[(920,R0)]) (.ret (.pv (.bool b))) (mO c l m'++[(920,R2)])) :
  AWP (XX [] 239 (keysM++920::ms)) sw67 ⟨[(0,.loc 901 0),(3,.loc 3 0)],(3,.box [.pv (.int 14),.pv (.int (0:Nat))])::mO c l (nxt m)++[(920,R0)],3::(keysM++920::ms)⟩ (endQ (XX [] 239 (keysM++920::ms)) Tryz.f113.results.toList (.ret (.pv (.bool b))) (mO c l m'++[(920,R2)])):=by
 simp only [mO] at *
 unfold keysM
 unfold tabO tabN at *
 simp only [List.cons_append,List.nil_append] at *
 have eT1:(nxt m).tab=m.tab:=rfl
 simp only [eT1] at *
 clear eT1
 generalize tB m.tab.hits=T0 at *
 generalize Ob.imap (numE 0 m.tab.nums)=T1 at *
 generalize Ob.cache (DI m.tab.nums) (FI m.tab.nums)=T2 at *
 generalize Ob.cache (DL m.tab.nums) (FL m.tab.nums)=T3 at *
 generalize Ob.cache (DV m.tab.nums) (FV m.tab.nums)=T4 at *
 generalize Ob.imap (resE m.tab.res)=T5 at *
 generalize mB c l m'=B2 at *
 generalize mS m'=S2 at *
 generalize mF m'=F2 at *
 generalize tB m'.tab.hits=U0 at *
 generalize Ob.imap (numE 0 m'.tab.nums)=U1 at *
 generalize Ob.cache (DI m'.tab.nums) (FI m'.tab.nums)=U2 at *
 generalize Ob.cache (DL m'.tab.nums) (FL m'.tab.nums)=U3 at *
 generalize Ob.cache (DV m'.tab.nums) (FV m'.tab.nums)=U4 at *
 generalize Ob.imap (resE m'.tab.res)=U5 at *
 generalize mB c l (nxt m)=B1 at *
 generalize mS (nxt m)=S1 at *
 generalize mF (nxt m)=F1 at *
 simp only [sw67,right,c67,Tryz.f113,Option.getD_some]
 try simp only [Int.cast_ofNat_Int] at *
 refine gg ?_
 refine call he ?_
 refine gg ?_
 exact enC15
section
variable (c:List Ins) (l:Nat) (m:Mm) (p:Nat) (hat:m.at_=((p:Nat):Int)) (hst:¬ m.steps=l) (hsl:m.steps≤1000000) (hp:p≤1000000)
include hat hst hsl hp
theorem st_body (op:Nat) (hN:∀ n∈frN (m.frames++m.fg),1000≤n) (hc:c[p]? = some (op,0)) (out:Go.Lg.Out) (objs':List (Nat × Ob)) (h3:∀ n∈frN (m.frames++m.fg),n ∉ keysO objs') (hno:subL (out.names++namesOb objs') ((keysM++frN (m.frames++m.fg))++keysO objs'))
  (h:AWP (XX [] 239 (keysM++frN (m.frames++m.fg))) sw67 ⟨[(0,.loc 901 0),(3,.loc 3 0)],(3,.box [.pv (.int op),.pv (.int (0:Nat))])::mO c l (nxt m),3::(keysM++frN (m.frames++m.fg))⟩ (endQ (XX [] 239 (keysM++frN (m.frames++m.fg))) Tryz.f113.results.toList out objs')) :
  AC Tryz.prog gl 113 [.loc 901 0] (mO c l m) out objs':=by
 refine bodyM (c:=c67) (ks:=keysM++frN (m.frames++m.fg)) [] (frN (m.frames++m.fg)) Tryz.func113 Tryz.ntmps113 ?_ (hks:=rfl) (hms1:=mO_1 c l m _) (hms2:=mO_2 c l m hN) (hms3:=h3) (hna:=mO_3 c l m (by simp [namesL,V.names])) (hno:=hno)
 exact st_pre c l m p op 0 hat hc hst hsl hp _ (fun h=>by have:=hN 3 h;omega) (fun n hn=>List.mem_append.2 (.inr hn)) _ h
theorem st_bodyR (op:Nat) (r:Rd) (hN:∀ n∈frN (m.frames++m.fg),n=920∨1000≤n) (hc:c[p]? = some (op,0)) (out:Go.Lg.Out) (objs':List (Nat × Ob)) (h3:∀ n∈oth m,n ∉ keysO objs') (hno:subL (out.names++namesOb objs') (KS m++keysO objs'))
  (h:AWP (XX [] 239 (KS m)) sw67 ⟨[(0,.loc 901 0),(3,.loc 3 0)],(3,.box [.pv (.int op),.pv (.int (0:Nat))])::mO c l (nxt m)++[(920,rdB r)],3::KS m⟩ (endQ (XX [] 239 (KS m)) Tryz.f113.results.toList out objs')) :
  AC Tryz.prog gl 113 [.loc 901 0] (mO c l m++[(920,rdB r)]) out objs':=by
 have ho:=oth_le hN
 refine bodyM (c:=c67) (ks:=KS m) [] (oth m) Tryz.func113 Tryz.ntmps113 ?_ (hks:=rfl) (hms1:=mR_1 c l m _ _) (hms2:=fun n hn=>mO_6 c l m r ho n hn) (hms3:=h3) (hna:=mR_3 c l m r (by simp [namesL,V.names])) (hno:=hno)
 refine st_preR c l m p op 0 hat hc hst hsl hp (rdB r) (rdB_names r) (oth m) (fun h=>by have:=ho 3 h;omega) ?_ _ h
 intro n hn
 simp only [oth,List.mem_append,List.mem_cons,List.mem_filter,decide_eq_true_eq]
 grind
section
variable (hN:∀ n∈frN (m.frames++m.fg),1000≤n)
include hN
theorem step_apply (s:List It) (f x:It) (hs:m.stack=s++[f,x]) (hl:m.stack.length≤900000) (hc:c[p]? = some (3,0)) (m':Mm) (hm':∀ n∈frN (m'.frames++m'.fg),n∈frN (m.frames++m.fg)) (he:AC Tryz.prog gl 115 [.loc 901 0,.pv (itP f),.pv (itP x),.pv .nil] (mO c l (pop1 (pop1 (nxt m) (s++[f]) x) s f)) (.ret (.pv (.tuple []))) (mO c l m')) :
  AC Tryz.prog gl 113 [.loc 901 0] (mO c l m) (.ret (.pv (.bool true))) (mO c l m') :=
 st_body c l m p hat hst hsl hp 3 hN hc _ _ (mO_2 c l m' hN) (mO_4 c l m m' rfl hm') (se_3_same c l m _ m' s f x hs hl he)
theorem step_apply_err (s:List It) (f x:It) (hs:m.stack=s++[f,x]) (hl:m.stack.length≤900000) (hc:c[p]? = some (3,0)) (q:PV) (he:AC Tryz.prog gl 115 [.loc 901 0,.pv (itP f),.pv (itP x),.pv .nil] (mO c l (pop1 (pop1 (nxt m) (s++[f]) x) s f)) (.panic q) []) :
  AC Tryz.prog gl 113 [.loc 901 0] (mO c l m) (.panic q) [] :=
 st_body c l m p hat hst hsl hp 3 hN hc _ _ (by simp [keysO]) (by simp [subL,Go.Lg.Out.names,namesOb]) (se_3_err c l m _ q s f x hs hl he)
theorem step_rec_err (b:Bool) (hc:c[p]? = some (bif b then 9 else 6,0)) (q:PV) (he:AC Tryz.prog gl 131 [.loc 901 0,.pv (.bool b)] (mO c l (nxt m)) (.panic q) []) :
  AC Tryz.prog gl 113 [.loc 901 0] (mO c l m) (.panic q) []:=by
 have h920:920 ∉ frN (m.frames++m.fg):=fun h=>by have:=hN 920 h;omega
 cases b
 ·exact st_body c l m p hat hst hsl hp 6 hN hc _ _ (by simp [keysO]) (by simp [subL,Go.Lg.Out.names,namesOb]) (se_6_err c l m _ h920 q he)
 ·exact st_body c l m p hat hst hsl hp 9 hN hc _ _ (by simp [keysO]) (by simp [subL,Go.Lg.Out.names,namesOb]) (se_9_err c l m _ h920 q he)
theorem step_rec_same (b:Bool) (hc:c[p]? = some (bif b then 9 else 6,0)) (m':Mm) (hm':∀ n∈frN (m'.frames++m'.fg),n∈frN (m.frames++m.fg)) (he:AC Tryz.prog gl 131 [.loc 901 0,.pv (.bool b)] (mO c l (nxt m)) (.ret (.pv (.tuple []))) (mO c l m')) :
  AC Tryz.prog gl 113 [.loc 901 0] (mO c l m) (.ret (.pv (.bool true))) (mO c l m'):=by
 have h920:920 ∉ frN (m.frames++m.fg):=fun h=>by have:=hN 920 h;omega
 cases b
 ·exact st_body c l m p hat hst hsl hp 6 hN hc _ _ (mO_2 c l m' hN) (mO_4 c l m m' rfl hm') (se_6_same c l m _ h920 m' he)
 ·exact st_body c l m p hat hst hsl hp 9 hN hc _ _ (mO_2 c l m' hN) (mO_4 c l m m' rfl hm') (se_9_same c l m _ h920 m' he)
theorem step_rec_rnd (b:Bool) (hc:c[p]? = some (bif b then 9 else 6,0)) (m':Mm) (r:Rd) (hm':∀ n∈frN (m'.frames++m'.fg),n∈frN (m.frames++m.fg)∨n=920) (he:AC Tryz.prog gl 131 [.loc 901 0,.pv (.bool b)] (mO c l (nxt m)) (.ret (.pv (.tuple []))) (mO c l m'++[(920,rdB r)])) :
  AC Tryz.prog gl 113 [.loc 901 0] (mO c l m) (.ret (.pv (.bool true))) (mO c l m'++[(920,rdB r)]):=by
 have h920:920 ∉ frN (m.frames++m.fg):=fun h=>by have:=hN 920 h;omega
 cases b
 ·exact st_body c l m p hat hst hsl hp 6 hN hc _ _ (fun n hn=>mO_6 c l m' r hN n hn) (mO_5 c l m m' r hm') (se_6_rnd c l m _ h920 m' _ he)
 ·exact st_body c l m p hat hst hsl hp 9 hN hc _ _ (fun n hn=>mO_6 c l m' r hN n hn) (mO_5 c l m m' r hm') (se_9_rnd c l m _ h920 m' _ he)
theorem step_ret (hc:c[p]? = some (14,0)) (b:Bool) (m':Mm) (hm':∀ n∈frN (m'.frames++m'.fg),n∈frN (m.frames++m.fg)) (he:AC Tryz.prog gl 132 [.loc 901 0] (mO c l (nxt m)) (.ret (.pv (.bool b))) (mO c l m')) :
  AC Tryz.prog gl 113 [.loc 901 0] (mO c l m) (.ret (.pv (.bool b))) (mO c l m') :=
 st_body c l m p hat hst hsl hp 14 hN hc _ _ (mO_2 c l m' hN) (mO_4 c l m m' rfl hm') (se_14_same c l m _ m' b he)
end
section
variable (r:Rd) (hN:∀ n∈frN (m.frames++m.fg),n=920∨1000≤n) (hc:c[p]? = some (14,0))
include hN hc
theorem stepR_err (q:PV) (he:AC Tryz.prog gl 132 [.loc 901 0] (mO c l (nxt m)++[(920,rdB r)]) (.panic q) []) :
  AC Tryz.prog gl 113 [.loc 901 0] (mO c l m++[(920,rdB r)]) (.panic q) [] :=
 st_bodyR c l m p hat hst hsl hp 14 r hN hc _ _ (by simp [keysO]) (by simp [subL,Go.Lg.Out.names,namesOb]) (se_14R_err c l m _ _ q he)
theorem stepR_same (b:Bool) (m':Mm) (hm':∀ n∈frN (m'.frames++m'.fg),n∈frN (m.frames++m.fg)∨n=920) (he:AC Tryz.prog gl 132 [.loc 901 0] (mO c l (nxt m)++[(920,rdB r)]) (.ret (.pv (.bool b))) (mO c l m')) :
  AC Tryz.prog gl 113 [.loc 901 0] (mO c l m++[(920,rdB r)]) (.ret (.pv (.bool b))) (mO c l m') :=
 st_bodyR c l m p hat hst hsl hp 14 r hN hc _ _ (mO_2 c l m' (oth_le hN)) (mR_4 c l m m' rfl hm') (se_14R_same c l m _ _ m' b he)
theorem stepR_rnd (b:Bool) (m':Mm) (r2:Rd) (hm':∀ n∈frN (m'.frames++m'.fg),n∈frN (m.frames++m.fg)∨n=920) (he:AC Tryz.prog gl 132 [.loc 901 0] (mO c l (nxt m)++[(920,rdB r)]) (.ret (.pv (.bool b))) (mO c l m'++[(920,rdB r2)])) :
  AC Tryz.prog gl 113 [.loc 901 0] (mO c l m++[(920,rdB r)]) (.ret (.pv (.bool b))) (mO c l m'++[(920,rdB r2)]) :=
 st_bodyR c l m p hat hst hsl hp 14 r hN hc _ _ (fun n hn=>mO_6 c l m' r2 (oth_le hN) n hn) (mR_5 c l m m' r2 rfl hm') (se_14R_rnd c l m _ _ m' _ b he)
end
end
open Go.Lg
structure RdM (b:Nat) (r:Rd):Prop where
 ok:RdOk b r
 two:r.left.length≤2
structure FrM (b:Nat) (fr:Fr):Prop where
 vars:BdL b fr.vars
 inside:insideL fr.vars≤4096
 f:Bd b fr.f
 fn:∃ p vs,fr.f = .fn p vs
 a:Bd b fr.a
 rd:∀ n r,fr.rd=some (n,r)→RdM b r∧r.next<r.count
theorem RdM.mono {b b':Nat} (hb:b≤b') {r:Rd} (h:RdM b r):RdM b' r:=⟨h.ok.mono hb,h.two⟩
theorem FrM.mono {b b':Nat} (hb:b≤b') {fr:Fr} (h:FrM b fr):FrM b' fr :=
 ⟨h.vars.mono hb,h.inside,h.f.mono hb,h.fn,h.a.mono hb,fun n r e=>⟨(h.rd n r e).1.mono hb,(h.rd n r e).2⟩⟩
structure TabM (b N:Nat) (T:Tab):Prop where
 res:∀ e∈T.res,Bd b e.2
 sh:Sh T.nums
 rk:Rk T.res
 nums:T.nums.length≤N
 hits:T.hits≤N
structure OkM (b N:Nat) (m:Mm):Prop where
 stack:BdL b m.stack
 len:m.stack.length≤b
 vars:BdL b m.vars
 inside:insideL m.vars≤4096
 frames:∀ fr∈m.frames,FrM b fr
 few:m.frames.length≤1024
 tab:TabM b N m.tab
theorem TabM.mono {b b' N N':Nat} (hb:b≤b') (hN:N≤N') {T:Tab} (h:TabM b N T):TabM b' N' T :=
 ⟨fun e he=>(h.res e he).mono hb,h.sh,h.rk,Nat.le_trans h.nums hN,Nat.le_trans h.hits hN⟩
theorem OkM.mono {b b' N N':Nat} (hb:b≤b') (hN:N≤N') {m:Mm} (h:OkM b N m):OkM b' N' m :=
 ⟨h.stack.mono hb,Nat.le_trans h.len hb,h.vars.mono hb,h.inside,fun fr hf=>(h.frames fr hf).mono hb,h.few,h.tab.mono hb hN⟩
theorem OkM.push {b N:Nat} {m:Mm} (h:OkM b N m) {x:It} (hx:Bd (b+1) x):OkM (b+1) N (m.push x):=by
 refine⟨?_,?_,h.vars.mono (by omega),h.inside,fun fr hf=>(h.frames fr hf).mono (by omega),h.few,h.tab.mono (by omega) (Nat.le_refl _)⟩
 ·simp only [Mm.push,BdL_app,BdL,and_true]
  exact⟨h.stack.mono (by omega),hx⟩
 ·simp only [Mm.push,List.length_append,List.length_cons,List.length_nil]
  have:=h.len
  omega
theorem popM_inv {m m':Mm} {x:It} (h:m.pop=some (x,m')):∃ s,m.stack=s++[x]∧m' = { m with stack:=s,sg:=x::m.sg }:=by
 unfold Mm.pop at h
 cases e:m.stack.getLast? with
 | none=>rw [e] at h;cases h
 | some y =>
  rw [e] at h
  simp only [Option.some.injEq,Prod.mk.injEq] at h
  obtain⟨rfl,rfl⟩:=h
  exact⟨m.stack.dropLast,last_split e,rfl⟩
theorem OkM.pop {b N:Nat} {m m':Mm} {x:It} (h:OkM b N m) (hp:m.pop=some (x,m')):Bd b x∧OkM b N m'∧m'.frames=m.frames∧m'.fg=m.fg∧m'.vars=m.vars∧m'.at_=m.at_∧m'.steps=m.steps∧m'.stack.length+1≤b:=by
 obtain⟨s,hs,rfl⟩:=popM_inv hp
 have h1:=h.stack
 have h2:=h.len
 rw [hs,BdL_app] at h1
 rw [hs] at h2
 simp only [BdL,and_true] at h1
 simp only [List.length_append,List.length_cons,List.length_nil] at h2
 exact⟨h1.2,⟨h1.1,by simp only;omega,h.vars,h.inside,h.frames,h.few,h.tab⟩,rfl,rfl,rfl,rfl,rfl,by simp only;omega⟩
theorem RdM.begin {b:Nat} {r r':Rd} {f a:It} (h:RdM b r) (hn:r.next<r.count) (hb:r.begin=some (f,a,r')):Bd b f∧Bd b a∧RdM b r'∧r'.next<r'.count:=by
 obtain⟨h1,h2,h3,h4⟩:=RdOk.begin h.ok hn hb
 refine⟨h1,h2,⟨h3,?_⟩,h4⟩
 unfold Rd.begin at hb
 split at hb
 ·cases hb;simp
 ·split at hb
  ·cases hb;simp
  ·cases hb
theorem RdM.returned {b:Nat} {r r':Rd} {x:It} {f a:It} (h:RdM b r) (hx:Bd b x) (hn:r.next<r.count) (hb:r.returned x=some (some (f,a),r')):Bd b f∧Bd b a∧RdM b r'∧r'.next<r'.count:=by
 obtain⟨h1,h2,h3,h4⟩:=RdOk.returned h.ok hx hn hb f a rfl
 refine⟨h1,h2,⟨h3,?_⟩,h4⟩
 have h0:=h.two
 unfold Rd.returned at hb
 split at hb
 ·rename_i e
  rw [e] at h0
  cases hb
  simp only [List.length_cons] at h0 ⊢
  omega
 ·split at hb
  ·cases hb
  ·split at hb
   ·rename_i hbeg
    cases hb
    unfold Rd.begin at hbeg
    split at hbeg
    ·cases hbeg;simp
    ·split at hbeg
     ·cases hbeg;simp
     ·cases hbeg
   ·cases hb
end Go.Proofs.YtodjpfpmhjdhbaaGreatDoor
