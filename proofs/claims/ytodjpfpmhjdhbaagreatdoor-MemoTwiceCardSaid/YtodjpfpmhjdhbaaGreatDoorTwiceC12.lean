/- Contracts of functions; no conditions. -/
import Derived.Test.YtodjpfpmhjdhbaaGreatDoorTwiceC11
set_option linter.all false
namespace Go.Proofs.YtodjpfpmhjdhbaaGreatDoor
open Go.Lg
theorem enC12 {P Q : Prop} (h : P := by simp [retIs,resV,resL,resOne,mkTup,getS,getO,rdV,mkAgg,unL,V.un,TI.isAgg,XX_T,tt30,Tryz.f132]) (k : Q := by simp [subO,getO,tt30,Tryz.f132]) : P ∧ Q := ⟨h,k⟩
end Go.Proofs.YtodjpfpmhjdhbaaGreatDoor
namespace Go.Proofs.YtodjpfpmhjdhbaaGreatDoor
open Go.Lg
set_option maxRecDepth 10000
set_option maxHeartbeats 4000000
def pop1 (m:Mm) (s:List It) (x:It):Mm:={ m with stack:=s,sg:=x::m.sg }
def popFr (m:Mm) (fs:List Fr) (fr:Fr):Mm:={ m with frames:=fs,fg:=fr::m.fg,at_:=fr.at_,vars:=fr.vars }
theorem frV_eq (fr:Fr):frV fr=[.pv (.int fr.at_),.pv (varsP fr.vars),.pv (itP fr.f),.pv (itP fr.a),rpV fr.rd]:=by
 obtain⟨a,b,c,d,rd⟩:=fr
 cases rd<;>rfl
noncomputable def c132:Code:=Tryz.f132.body.getD .skip
noncomputable def sw132:Code:=right (right (right (right (right (right (right c132))))))
theorem lv_pre (c:List Ins) (l:Nat) (m:Mm) (s:List It) (x:It) (hs:m.stack=s++[x]) (hl:m.stack.length≤1000000) (fs:List Fr) (fr:Fr) (hf:m.frames=fs++[fr]) (hfl:m.frames.length≤1000000)
  (p:Nat) (vs:List It) (hff:fr.f = .fn p vs) (hpl:plainC (.fn p vs) fr.a=false) (hr:fr.rd=none) (ms:List Nat) (h4:4 ∉ ms) (hms:∀ n∈frN (m.frames++m.fg),n∈(keysM++ms)) (Q:AEx→St→Prop)
  (h:AWP (XX [] 111 (keysM++ms)) sw132 ⟨[(0,.loc 901 0),(2,.pv (.bool false)),(3,.pv (itP x)),(4,.loc 4 0)],(4,.box (frV fr))::mO c l (popFr (pop1 m s x) fs fr),4::(keysM++ms)⟩ Q) :
  AWP (XX [] 111 (keysM++ms)) c132 ⟨zipArgs 0 [.loc 901 0],mO c l m,(keysM++ms)⟩ Q:=by
 have e:c132 = .seq (left c132) (.seq (left (right c132)) (.seq (left (right (right c132))) (.seq (left (right (right (right c132)))) (.seq (left (right (right (right (right c132))))) (.seq (left (right (right (right (right (right c132)))))) (.seq (left (right (right (right (right (right (right c132))))))) sw132)))))):=rfl
 rw [e]
 generalize sw132=tl at *
 clear e
 have p1:=pop_ok c l m s x hs hl
 have hp:=plainc_ok p vs fr.a
 rw [hpl] at hp
 have hlen:m.frames.length=fs.length+1:=by simp [hf]
 have hget:((m.frames++m.fg).map frV)[fs.length]? = some (frV fr):=by simp [hf]
 have hle:fs.length<((m.frames++m.fg).map frV).length:=by simp [hf]
 have hA:(fs++fr::m.fg).map frV=(m.frames++m.fg).map frV:=by simp [hf]
 have hi:(((fs.length+1:Nat):Int)-1).toNat=fs.length:=by omega
 have v0:=vcells_one (itP_one x)
 have o0:(V.pv (itP x)).one=true:=by rw [one_pv];exact itP_one x
 have v1:=vcells_one (varsP_one fr.vars)
 have v2:=vcells_one (itP_one (.fn p vs))
 have v3:=vcells_one (itP_one fr.a)
 have o1:(V.pv (varsP fr.vars)).one=true:=by rw [one_pv];exact varsP_one _
 have o2:(V.pv (itP (.fn p vs))).one=true:=by rw [one_pv];exact itP_one _
 have o3:(V.pv (itP fr.a)).one=true:=by rw [one_pv];exact itP_one _
 have hFn:namesE ((m.frames++m.fg).map frV)=frN (m.frames++m.fg):=namesE_frV _
 have eS0:mS (popFr (pop1 m s x) fs fr)=mS (pop1 m s x):=rfl
 have eS1:∀ T,mS { (popFr (pop1 m s x) fs fr) with tab:=T } = mS (pop1 m s x):=fun _=>rfl
 have eF0:mF (popFr (pop1 m s x) fs fr) = .arr m.fv 5 206 ((m.frames++m.fg).map frV):=by rw [← hA];rfl
 have eF1:∀ T,mF { (popFr (pop1 m s x) fs fr) with tab:=T } = .arr m.fv 5 206 ((m.frames++m.fg).map frV):=fun T=>by rw [← hA];rfl
 have eT0:(popFr (pop1 m s x) fs fr).tab=m.tab:=rfl
 have eB0:mB c l (popFr (pop1 m s x) fs fr) = .box [.pv (.slice (c.map insP)),.pv (.int l),.pv (.int m.steps),.bfn 95 [.loc 980 0],.bfn 96 [.loc 980 0],.arr 902 m.sv s.length,.arr 903 m.fv fs.length,.pv (.int fr.at_),.pv (varsP fr.vars)]:=rfl
 have eB1:∀ T,mB c l { (popFr (pop1 m s x) fs fr) with tab:=T } = .box [.pv (.slice (c.map insP)),.pv (.int l),.pv (.int m.steps),.bfn 95 [.loc 980 0],.bfn 96 [.loc 980 0],.arr 902 m.sv s.length,.arr 903 m.fv fs.length,.pv (.int fr.at_),.pv (varsP fr.vars)]:=fun _=>rfl
 have eS2:mS { m with stack:=s,sg:=x::m.sg } = mS (pop1 m s x):=rfl
 have eB2:mB c l { m with stack:=s,sg:=x::m.sg } = .box [.pv (.slice (c.map insP)),.pv (.int l),.pv (.int m.steps),.bfn 95 [.loc 980 0],.bfn 96 [.loc 980 0],.arr 902 m.sv s.length,.arr 903 m.fv (fs.length+1),.pv (.int m.at_),.pv (varsP m.vars)]:=by rw [← hlen];rfl
 have eF2:mF m = .arr m.fv 5 206 ((m.frames++m.fg).map frV):=rfl
 have nS:=mS_names (pop1 m s x)
 rw [frV_eq,hr,hff] at hget
 rw [frV_eq,hr,hff] at h
 simp only [rpV] at hget h
 simp only [mO,eS0,eS1,eF0,eF1,eT0,eB0,eB1] at h
 rw [eS2,eB2] at p1
 simp only [mO,eF2]
 clear eS0 eS1 eF0 eF1 eT0 eB0 eB1 eS2 eB2 eF2 hpl
 unfold keysM at *
 unfold tabO tabN at *
 simp only [List.cons_append,List.nil_append] at *
 have hT0:=tB_names m.tab.hits
 generalize tB m.tab.hits=T0 at *
 have hT1:(Ob.imap (numE 0 m.tab.nums)).names=[]:=rfl
 generalize Ob.imap (numE 0 m.tab.nums)=T1 at *
 have hT2:(Ob.cache (DI m.tab.nums) (FI m.tab.nums)).names=[]:=rfl
 generalize Ob.cache (DI m.tab.nums) (FI m.tab.nums)=T2 at *
 have hT3:(Ob.cache (DL m.tab.nums) (FL m.tab.nums)).names=[]:=rfl
 generalize Ob.cache (DL m.tab.nums) (FL m.tab.nums)=T3 at *
 have hT4:(Ob.cache (DV m.tab.nums) (FV m.tab.nums)).names=[]:=rfl
 generalize Ob.cache (DV m.tab.nums) (FV m.tab.nums)=T4 at *
 have hT5:(Ob.imap (resE m.tab.res)).names=[]:=rfl
 generalize Ob.imap (resE m.tab.res)=T5 at *
 generalize mS (pop1 m s x)=S1 at *
 generalize mB c l m=B0 at *
 generalize mS m=S0 at *
 generalize frN (m.frames++m.fg)=fn at *
 generalize (m.frames++m.fg).map frV=FS at *
 rw [hlen] at hfl
 clear hA hf hs hlen hr hff
 simp only [left,right,c132,Tryz.f132,Option.getD_some] at *
 simp only [itP] at hget h hp v2 o2
 generalize c.map insP=cs at *
 generalize itP x=vx at *
 generalize varsP m.vars=vv at *
 generalize varsP fr.vars=fv at *
 generalize varsP vs=ff at *
 generalize itP fr.a=fa at *
 generalize hkl:fs.length=k at *
 have hb1:(0:Int)≤((k+1:Nat):Int)-1:=by omega
 have hb2:((k+1:Nat):Int)-1<((k+1:Nat):Int):=by omega
 have hb3:((k+1:Nat):Int)-1≤((k+1:Nat):Int):=by omega
 have hb4:¬ ((k+1:Nat):Int)=0:=by omega
 have hb5:k+1≤FS.length:=by omega
 refine gg ?_
 refine call p1 ?_
 refine gg ?_
 refine⟨by rfl,?_⟩
 refine gg ?_
 refine⟨by rfl,?_⟩
 refine gg ?_
 refine⟨by rfl,?_⟩
 refine gg ?_
 refine call hp ?_
 refine gg ?_
 refine AWP.weaken ⟨by simp [slotsLe,getS],?_,?_⟩ h
 ·simp [subO,getO]
 ·rw [subL_iff]
  intro n hn
  have:=hms n
  simp only [namesSl,V.names,namesOb,obn_box,obn_arr,namesL,namesE,XX_given,hFn,nS,hT0,hT1,hT2,hT3,hT4,hT5,List.mem_append,List.mem_cons,List.not_mem_nil,or_false,false_or,List.append_nil,List.nil_append,List.cons_append] at hn this ⊢
  refine Classical.byContradiction fun hc => ?_
  simp only [not_or] at hc
  simp [hc] at hn
  simp [hc,hn] at this
theorem lv_preP (c:List Ins) (l:Nat) (m:Mm) (s:List It) (x:It) (hs:m.stack=s++[x]) (hl:m.stack.length≤1000000) (fs:List Fr) (fr:Fr) (hf:m.frames=fs++[fr]) (hfl:m.frames.length≤1000000)
  (p:Nat) (vs:List It) (hff:fr.f = .fn p vs) (hpl:plainC (.fn p vs) fr.a=true) (hz:m.tab.nums.length+szI (.fn p vs)+szI fr.a≤1152921504606846976) (hsh:Sh m.tab.nums) (hk:Rk m.tab.res) (hr:fr.rd=none) (ms:List Nat) (h4:4 ∉ ms) (hms:∀ n∈frN (m.frames++m.fg),n∈(keysM++ms)) (Q:AEx→St→Prop)
  (h:AWP (XX [] 111 (keysM++ms)) sw132 ⟨[(0,.loc 901 0),(2,.pv (.bool false)),(3,.pv (itP x)),(4,.loc 4 0)],(4,.box (frV fr))::mO c l { (popFr (pop1 m s x) fs fr) with tab:=m.tab.store (.fn p vs) fr.a x },4::(keysM++ms)⟩ Q) :
  AWP (XX [] 111 (keysM++ms)) c132 ⟨zipArgs 0 [.loc 901 0],mO c l m,(keysM++ms)⟩ Q:=by
 have e:c132 = .seq (left c132) (.seq (left (right c132)) (.seq (left (right (right c132))) (.seq (left (right (right (right c132)))) (.seq (left (right (right (right (right c132))))) (.seq (left (right (right (right (right (right c132)))))) (.seq (left (right (right (right (right (right (right c132))))))) sw132)))))):=rfl
 rw [e]
 generalize sw132=tl at *
 clear e
 have p1:=pop_ok c l m s x hs hl
 have hp:=plainc_ok p vs fr.a
 rw [hpl] at hp
 have hst:=store_ok m.tab (.fn p vs) fr.a x hz hsh hk
 have hlen:m.frames.length=fs.length+1:=by simp [hf]
 have hget:((m.frames++m.fg).map frV)[fs.length]? = some (frV fr):=by simp [hf]
 have hle:fs.length<((m.frames++m.fg).map frV).length:=by simp [hf]
 have hA:(fs++fr::m.fg).map frV=(m.frames++m.fg).map frV:=by simp [hf]
 have hi:(((fs.length+1:Nat):Int)-1).toNat=fs.length:=by omega
 have v0:=vcells_one (itP_one x)
 have o0:(V.pv (itP x)).one=true:=by rw [one_pv];exact itP_one x
 have v1:=vcells_one (varsP_one fr.vars)
 have v2:=vcells_one (itP_one (.fn p vs))
 have v3:=vcells_one (itP_one fr.a)
 have o1:(V.pv (varsP fr.vars)).one=true:=by rw [one_pv];exact varsP_one _
 have o2:(V.pv (itP (.fn p vs))).one=true:=by rw [one_pv];exact itP_one _
 have o3:(V.pv (itP fr.a)).one=true:=by rw [one_pv];exact itP_one _
 have hFn:namesE ((m.frames++m.fg).map frV)=frN (m.frames++m.fg):=namesE_frV _
 have eS0:mS (popFr (pop1 m s x) fs fr)=mS (pop1 m s x):=rfl
 have eS1:∀ T,mS { (popFr (pop1 m s x) fs fr) with tab:=T } = mS (pop1 m s x):=fun _=>rfl
 have eF0:mF (popFr (pop1 m s x) fs fr) = .arr m.fv 5 206 ((m.frames++m.fg).map frV):=by rw [← hA];rfl
 have eF1:∀ T,mF { (popFr (pop1 m s x) fs fr) with tab:=T } = .arr m.fv 5 206 ((m.frames++m.fg).map frV):=fun T=>by rw [← hA];rfl
 have eT0:(popFr (pop1 m s x) fs fr).tab=m.tab:=rfl
 have eB0:mB c l (popFr (pop1 m s x) fs fr) = .box [.pv (.slice (c.map insP)),.pv (.int l),.pv (.int m.steps),.bfn 95 [.loc 980 0],.bfn 96 [.loc 980 0],.arr 902 m.sv s.length,.arr 903 m.fv fs.length,.pv (.int fr.at_),.pv (varsP fr.vars)]:=rfl
 have eB1:∀ T,mB c l { (popFr (pop1 m s x) fs fr) with tab:=T } = .box [.pv (.slice (c.map insP)),.pv (.int l),.pv (.int m.steps),.bfn 95 [.loc 980 0],.bfn 96 [.loc 980 0],.arr 902 m.sv s.length,.arr 903 m.fv fs.length,.pv (.int fr.at_),.pv (varsP fr.vars)]:=fun _=>rfl
 have eS2:mS { m with stack:=s,sg:=x::m.sg } = mS (pop1 m s x):=rfl
 have eB2:mB c l { m with stack:=s,sg:=x::m.sg } = .box [.pv (.slice (c.map insP)),.pv (.int l),.pv (.int m.steps),.bfn 95 [.loc 980 0],.bfn 96 [.loc 980 0],.arr 902 m.sv s.length,.arr 903 m.fv (fs.length+1),.pv (.int m.at_),.pv (varsP m.vars)]:=by rw [← hlen];rfl
 have eF2:mF m = .arr m.fv 5 206 ((m.frames++m.fg).map frV):=rfl
 have nS:=mS_names (pop1 m s x)
 rw [frV_eq,hr,hff] at hget
 rw [frV_eq,hr,hff] at h
 simp only [rpV] at hget h
 simp only [mO,eS0,eS1,eF0,eF1,eT0,eB0,eB1] at h
 rw [eS2,eB2] at p1
 simp only [mO,eF2]
 clear eS0 eS1 eF0 eF1 eT0 eB0 eB1 eS2 eB2 eF2 hpl
 unfold keysM at *
 generalize m.tab.store (.fn p vs) fr.a x=Tn at *
 clear hz hsh hk
 unfold tabO tabN at *
 simp only [List.cons_append,List.nil_append] at *
 have hT0:=tB_names m.tab.hits
 generalize tB m.tab.hits=T0 at *
 have hT1:(Ob.imap (numE 0 m.tab.nums)).names=[]:=rfl
 generalize Ob.imap (numE 0 m.tab.nums)=T1 at *
 have hT2:(Ob.cache (DI m.tab.nums) (FI m.tab.nums)).names=[]:=rfl
 generalize Ob.cache (DI m.tab.nums) (FI m.tab.nums)=T2 at *
 have hT3:(Ob.cache (DL m.tab.nums) (FL m.tab.nums)).names=[]:=rfl
 generalize Ob.cache (DL m.tab.nums) (FL m.tab.nums)=T3 at *
 have hT4:(Ob.cache (DV m.tab.nums) (FV m.tab.nums)).names=[]:=rfl
 generalize Ob.cache (DV m.tab.nums) (FV m.tab.nums)=T4 at *
 have hT5:(Ob.imap (resE m.tab.res)).names=[]:=rfl
 generalize Ob.imap (resE m.tab.res)=T5 at *
 have hU0:=tB_names Tn.hits
 generalize tB Tn.hits=U0 at *
 have hU1:(Ob.imap (numE 0 Tn.nums)).names=[]:=rfl
 generalize Ob.imap (numE 0 Tn.nums)=U1 at *
 have hU2:(Ob.cache (DI Tn.nums) (FI Tn.nums)).names=[]:=rfl
 generalize Ob.cache (DI Tn.nums) (FI Tn.nums)=U2 at *
 have hU3:(Ob.cache (DL Tn.nums) (FL Tn.nums)).names=[]:=rfl
 generalize Ob.cache (DL Tn.nums) (FL Tn.nums)=U3 at *
 have hU4:(Ob.cache (DV Tn.nums) (FV Tn.nums)).names=[]:=rfl
 generalize Ob.cache (DV Tn.nums) (FV Tn.nums)=U4 at *
 have hU5:(Ob.imap (resE Tn.res)).names=[]:=rfl
 generalize Ob.imap (resE Tn.res)=U5 at *
 generalize mS (pop1 m s x)=S1 at *
 generalize mB c l m=B0 at *
 generalize mS m=S0 at *
 generalize frN (m.frames++m.fg)=fn at *
 generalize (m.frames++m.fg).map frV=FS at *
 rw [hlen] at hfl
 clear hA hf hs hlen hr hff
 simp only [left,right,c132,Tryz.f132,Option.getD_some] at *
 simp only [itP] at hget h hp v2 o2 hst
 generalize c.map insP=cs at *
 generalize itP x=vx at *
 generalize varsP m.vars=vv at *
 generalize varsP fr.vars=fv at *
 generalize varsP vs=ff at *
 generalize itP fr.a=fa at *
 generalize hkl:fs.length=k at *
 have hb1:(0:Int)≤((k+1:Nat):Int)-1:=by omega
 have hb2:((k+1:Nat):Int)-1<((k+1:Nat):Int):=by omega
 have hb3:((k+1:Nat):Int)-1≤((k+1:Nat):Int):=by omega
 have hb4:¬ ((k+1:Nat):Int)=0:=by omega
 have hb5:k+1≤FS.length:=by omega
 refine gg ?_
 refine call p1 ?_
 refine gg ?_
 refine⟨by rfl,?_⟩
 refine gg ?_
 refine⟨by rfl,?_⟩
 refine gg ?_
 refine⟨by rfl,?_⟩
 refine gg ?_
 refine call hp ?_
 refine gg ?_
 refine call hst ?_
 refine gg ?_
 refine⟨by rfl,?_⟩
 refine gg ?_
 refine AWP.weaken ⟨by simp [slotsLe,getS],?_,?_⟩ h
 ·simp [subO,getO]
 ·rw [subL_iff]
  intro n hn
  have:=hms n
  simp only [namesSl,V.names,namesOb,obn_box,obn_arr,namesL,namesE,XX_given,hFn,nS,hU0,hU1,hU2,hU3,hU4,hU5,List.mem_append,List.mem_cons,List.not_mem_nil,or_false,false_or,List.append_nil,List.nil_append,List.cons_append] at hn this ⊢
  refine Classical.byContradiction fun hc => ?_
  simp only [not_or] at hc
  simp [hc] at hn
  simp [hc,hn] at this
theorem lv_preR (c:List Ins) (l:Nat) (m:Mm) (s:List It) (x:It) (hs:m.stack=s++[x]) (hl:m.stack.length≤1000000) (fs:List Fr) (fr:Fr) (hf:m.frames=fs++[fr]) (hfl:m.frames.length≤1000000)
  (p:Nat) (vs:List It) (hff:fr.f = .fn p vs) (hpl:plainC (.fn p vs) fr.a=false) (r:Rd) (hr:fr.rd=some (920,r)) (RB:Ob) (hR:RB.names=[]) (ms:List Nat) (h4:4 ∉ ms) (hms:∀ n∈frN (m.frames++m.fg),n∈(keysM++920::ms)) (Q:AEx→St→Prop)
  (h:AWP (XX [] 111 (keysM++920::ms)) sw132 ⟨[(0,.loc 901 0),(2,.pv (.bool false)),(3,.pv (itP x)),(4,.loc 4 0)],(4,.box (frV fr))::mO c l (popFr (pop1 m s x) fs fr)++[(920,RB)],4::(keysM++920::ms)⟩ Q) :
  AWP (XX [] 111 (keysM++920::ms)) c132 ⟨zipArgs 0 [.loc 901 0],mO c l m++[(920,RB)],(keysM++920::ms)⟩ Q:=by
 have e:c132 = .seq (left c132) (.seq (left (right c132)) (.seq (left (right (right c132))) (.seq (left (right (right (right c132)))) (.seq (left (right (right (right (right c132))))) (.seq (left (right (right (right (right (right c132)))))) (.seq (left (right (right (right (right (right (right c132))))))) sw132)))))):=rfl
 rw [e]
 generalize sw132=tl at *
 clear e
 have p1:=pop_ok c l m s x hs hl
 have hp:=plainc_ok p vs fr.a
 rw [hpl] at hp
 have hlen:m.frames.length=fs.length+1:=by simp [hf]
 have hget:((m.frames++m.fg).map frV)[fs.length]? = some (frV fr):=by simp [hf]
 have hle:fs.length<((m.frames++m.fg).map frV).length:=by simp [hf]
 have hA:(fs++fr::m.fg).map frV=(m.frames++m.fg).map frV:=by simp [hf]
 have hi:(((fs.length+1:Nat):Int)-1).toNat=fs.length:=by omega
 have v0:=vcells_one (itP_one x)
 have o0:(V.pv (itP x)).one=true:=by rw [one_pv];exact itP_one x
 have v1:=vcells_one (varsP_one fr.vars)
 have v2:=vcells_one (itP_one (.fn p vs))
 have v3:=vcells_one (itP_one fr.a)
 have o1:(V.pv (varsP fr.vars)).one=true:=by rw [one_pv];exact varsP_one _
 have o2:(V.pv (itP (.fn p vs))).one=true:=by rw [one_pv];exact itP_one _
 have o3:(V.pv (itP fr.a)).one=true:=by rw [one_pv];exact itP_one _
 have hFn:namesE ((m.frames++m.fg).map frV)=frN (m.frames++m.fg):=namesE_frV _
 have eS0:mS (popFr (pop1 m s x) fs fr)=mS (pop1 m s x):=rfl
 have eS1:∀ T,mS { (popFr (pop1 m s x) fs fr) with tab:=T } = mS (pop1 m s x):=fun _=>rfl
 have eF0:mF (popFr (pop1 m s x) fs fr) = .arr m.fv 5 206 ((m.frames++m.fg).map frV):=by rw [← hA];rfl
 have eF1:∀ T,mF { (popFr (pop1 m s x) fs fr) with tab:=T } = .arr m.fv 5 206 ((m.frames++m.fg).map frV):=fun T=>by rw [← hA];rfl
 have eT0:(popFr (pop1 m s x) fs fr).tab=m.tab:=rfl
 have eB0:mB c l (popFr (pop1 m s x) fs fr) = .box [.pv (.slice (c.map insP)),.pv (.int l),.pv (.int m.steps),.bfn 95 [.loc 980 0],.bfn 96 [.loc 980 0],.arr 902 m.sv s.length,.arr 903 m.fv fs.length,.pv (.int fr.at_),.pv (varsP fr.vars)]:=rfl
 have eB1:∀ T,mB c l { (popFr (pop1 m s x) fs fr) with tab:=T } = .box [.pv (.slice (c.map insP)),.pv (.int l),.pv (.int m.steps),.bfn 95 [.loc 980 0],.bfn 96 [.loc 980 0],.arr 902 m.sv s.length,.arr 903 m.fv fs.length,.pv (.int fr.at_),.pv (varsP fr.vars)]:=fun _=>rfl
 have eS2:mS { m with stack:=s,sg:=x::m.sg } = mS (pop1 m s x):=rfl
 have eB2:mB c l { m with stack:=s,sg:=x::m.sg } = .box [.pv (.slice (c.map insP)),.pv (.int l),.pv (.int m.steps),.bfn 95 [.loc 980 0],.bfn 96 [.loc 980 0],.arr 902 m.sv s.length,.arr 903 m.fv (fs.length+1),.pv (.int m.at_),.pv (varsP m.vars)]:=by rw [← hlen];rfl
 have eF2:mF m = .arr m.fv 5 206 ((m.frames++m.fg).map frV):=rfl
 have nS:=mS_names (pop1 m s x)
 rw [frV_eq,hr,hff] at hget
 rw [frV_eq,hr,hff] at h
 simp only [rpV] at hget h
 simp only [mO,eS0,eS1,eF0,eF1,eT0,eB0,eB1] at h
 rw [eS2,eB2] at p1
 simp only [mO,eF2]
 clear eS0 eS1 eF0 eF1 eT0 eB0 eB1 eS2 eB2 eF2 hpl
 unfold keysM at *
 unfold tabO tabN at *
 simp only [List.cons_append,List.nil_append] at *
 have hT0:=tB_names m.tab.hits
 generalize tB m.tab.hits=T0 at *
 have hT1:(Ob.imap (numE 0 m.tab.nums)).names=[]:=rfl
 generalize Ob.imap (numE 0 m.tab.nums)=T1 at *
 have hT2:(Ob.cache (DI m.tab.nums) (FI m.tab.nums)).names=[]:=rfl
 generalize Ob.cache (DI m.tab.nums) (FI m.tab.nums)=T2 at *
 have hT3:(Ob.cache (DL m.tab.nums) (FL m.tab.nums)).names=[]:=rfl
 generalize Ob.cache (DL m.tab.nums) (FL m.tab.nums)=T3 at *
 have hT4:(Ob.cache (DV m.tab.nums) (FV m.tab.nums)).names=[]:=rfl
 generalize Ob.cache (DV m.tab.nums) (FV m.tab.nums)=T4 at *
 have hT5:(Ob.imap (resE m.tab.res)).names=[]:=rfl
 generalize Ob.imap (resE m.tab.res)=T5 at *
 generalize mS (pop1 m s x)=S1 at *
 generalize mB c l m=B0 at *
 generalize mS m=S0 at *
 generalize frN (m.frames++m.fg)=fn at *
 generalize (m.frames++m.fg).map frV=FS at *
 rw [hlen] at hfl
 clear hA hf hs hlen hr hff
 simp only [left,right,c132,Tryz.f132,Option.getD_some] at *
 simp only [itP] at hget h hp v2 o2
 generalize c.map insP=cs at *
 generalize itP x=vx at *
 generalize varsP m.vars=vv at *
 generalize varsP fr.vars=fv at *
 generalize varsP vs=ff at *
 generalize itP fr.a=fa at *
 generalize hkl:fs.length=k at *
 have hb1:(0:Int)≤((k+1:Nat):Int)-1:=by omega
 have hb2:((k+1:Nat):Int)-1<((k+1:Nat):Int):=by omega
 have hb3:((k+1:Nat):Int)-1≤((k+1:Nat):Int):=by omega
 have hb4:¬ ((k+1:Nat):Int)=0:=by omega
 have hb5:k+1≤FS.length:=by omega
 refine gg ?_
 refine call p1 ?_
 refine gg ?_
 refine⟨by rfl,?_⟩
 refine gg ?_
 refine⟨by rfl,?_⟩
 refine gg ?_
 refine⟨by rfl,?_⟩
 refine gg ?_
 refine call hp ?_
 refine gg ?_
 refine AWP.weaken ⟨by simp [slotsLe,getS],?_,?_⟩ h
 ·simp [subO,getO]
 ·rw [subL_iff]
  intro n hn
  have:=hms n
  simp only [namesSl,V.names,namesOb,obn_box,obn_arr,namesL,namesE,XX_given,hFn,nS,hT0,hT1,hT2,hT3,hT4,hT5,hR,List.mem_append,List.mem_cons,List.not_mem_nil,or_false,false_or,List.append_nil,List.nil_append,List.cons_append] at hn this ⊢
  refine Classical.byContradiction fun hc => ?_
  simp only [not_or] at hc
  simp [hc] at hn
  simp [hc,hn] at this
theorem lv_preRP (c:List Ins) (l:Nat) (m:Mm) (s:List It) (x:It) (hs:m.stack=s++[x]) (hl:m.stack.length≤1000000) (fs:List Fr) (fr:Fr) (hf:m.frames=fs++[fr]) (hfl:m.frames.length≤1000000)
  (p:Nat) (vs:List It) (hff:fr.f = .fn p vs) (hpl:plainC (.fn p vs) fr.a=true) (hz:m.tab.nums.length+szI (.fn p vs)+szI fr.a≤1152921504606846976) (hsh:Sh m.tab.nums) (hk:Rk m.tab.res) (r:Rd) (hr:fr.rd=some (920,r)) (RB:Ob) (hR:RB.names=[]) (ms:List Nat) (h4:4 ∉ ms) (hms:∀ n∈frN (m.frames++m.fg),n∈(keysM++920::ms)) (Q:AEx→St→Prop)
  (h:AWP (XX [] 111 (keysM++920::ms)) sw132 ⟨[(0,.loc 901 0),(2,.pv (.bool false)),(3,.pv (itP x)),(4,.loc 4 0)],(4,.box (frV fr))::mO c l { (popFr (pop1 m s x) fs fr) with tab:=m.tab.store (.fn p vs) fr.a x } ++ [(920,RB)],4::(keysM++920::ms)⟩ Q) :
  AWP (XX [] 111 (keysM++920::ms)) c132 ⟨zipArgs 0 [.loc 901 0],mO c l m++[(920,RB)],(keysM++920::ms)⟩ Q:=by
 have e:c132 = .seq (left c132) (.seq (left (right c132)) (.seq (left (right (right c132))) (.seq (left (right (right (right c132)))) (.seq (left (right (right (right (right c132))))) (.seq (left (right (right (right (right (right c132)))))) (.seq (left (right (right (right (right (right (right c132))))))) sw132)))))):=rfl
 rw [e]
 generalize sw132=tl at *
 clear e
 have p1:=pop_ok c l m s x hs hl
 have hp:=plainc_ok p vs fr.a
 rw [hpl] at hp
 have hst:=store_ok m.tab (.fn p vs) fr.a x hz hsh hk
 have hlen:m.frames.length=fs.length+1:=by simp [hf]
 have hget:((m.frames++m.fg).map frV)[fs.length]? = some (frV fr):=by simp [hf]
 have hle:fs.length<((m.frames++m.fg).map frV).length:=by simp [hf]
 have hA:(fs++fr::m.fg).map frV=(m.frames++m.fg).map frV:=by simp [hf]
 have hi:(((fs.length+1:Nat):Int)-1).toNat=fs.length:=by omega
 have v0:=vcells_one (itP_one x)
 have o0:(V.pv (itP x)).one=true:=by rw [one_pv];exact itP_one x
 have v1:=vcells_one (varsP_one fr.vars)
 have v2:=vcells_one (itP_one (.fn p vs))
 have v3:=vcells_one (itP_one fr.a)
 have o1:(V.pv (varsP fr.vars)).one=true:=by rw [one_pv];exact varsP_one _
 have o2:(V.pv (itP (.fn p vs))).one=true:=by rw [one_pv];exact itP_one _
 have o3:(V.pv (itP fr.a)).one=true:=by rw [one_pv];exact itP_one _
 have hFn:namesE ((m.frames++m.fg).map frV)=frN (m.frames++m.fg):=namesE_frV _
 have eS0:mS (popFr (pop1 m s x) fs fr)=mS (pop1 m s x):=rfl
 have eS1:∀ T,mS { (popFr (pop1 m s x) fs fr) with tab:=T } = mS (pop1 m s x):=fun _=>rfl
 have eF0:mF (popFr (pop1 m s x) fs fr) = .arr m.fv 5 206 ((m.frames++m.fg).map frV):=by rw [← hA];rfl
 have eF1:∀ T,mF { (popFr (pop1 m s x) fs fr) with tab:=T } = .arr m.fv 5 206 ((m.frames++m.fg).map frV):=fun T=>by rw [← hA];rfl
 have eT0:(popFr (pop1 m s x) fs fr).tab=m.tab:=rfl
 have eB0:mB c l (popFr (pop1 m s x) fs fr) = .box [.pv (.slice (c.map insP)),.pv (.int l),.pv (.int m.steps),.bfn 95 [.loc 980 0],.bfn 96 [.loc 980 0],.arr 902 m.sv s.length,.arr 903 m.fv fs.length,.pv (.int fr.at_),.pv (varsP fr.vars)]:=rfl
 have eB1:∀ T,mB c l { (popFr (pop1 m s x) fs fr) with tab:=T } = .box [.pv (.slice (c.map insP)),.pv (.int l),.pv (.int m.steps),.bfn 95 [.loc 980 0],.bfn 96 [.loc 980 0],.arr 902 m.sv s.length,.arr 903 m.fv fs.length,.pv (.int fr.at_),.pv (varsP fr.vars)]:=fun _=>rfl
 have eS2:mS { m with stack:=s,sg:=x::m.sg } = mS (pop1 m s x):=rfl
 have eB2:mB c l { m with stack:=s,sg:=x::m.sg } = .box [.pv (.slice (c.map insP)),.pv (.int l),.pv (.int m.steps),.bfn 95 [.loc 980 0],.bfn 96 [.loc 980 0],.arr 902 m.sv s.length,.arr 903 m.fv (fs.length+1),.pv (.int m.at_),.pv (varsP m.vars)]:=by rw [← hlen];rfl
 have eF2:mF m = .arr m.fv 5 206 ((m.frames++m.fg).map frV):=rfl
 have nS:=mS_names (pop1 m s x)
 rw [frV_eq,hr,hff] at hget
 rw [frV_eq,hr,hff] at h
 simp only [rpV] at hget h
 simp only [mO,eS0,eS1,eF0,eF1,eT0,eB0,eB1] at h
 rw [eS2,eB2] at p1
 simp only [mO,eF2]
 clear eS0 eS1 eF0 eF1 eT0 eB0 eB1 eS2 eB2 eF2 hpl
 unfold keysM at *
 generalize m.tab.store (.fn p vs) fr.a x=Tn at *
 clear hz hsh hk
 unfold tabO tabN at *
 simp only [List.cons_append,List.nil_append] at *
 have hT0:=tB_names m.tab.hits
 generalize tB m.tab.hits=T0 at *
 have hT1:(Ob.imap (numE 0 m.tab.nums)).names=[]:=rfl
 generalize Ob.imap (numE 0 m.tab.nums)=T1 at *
 have hT2:(Ob.cache (DI m.tab.nums) (FI m.tab.nums)).names=[]:=rfl
 generalize Ob.cache (DI m.tab.nums) (FI m.tab.nums)=T2 at *
 have hT3:(Ob.cache (DL m.tab.nums) (FL m.tab.nums)).names=[]:=rfl
 generalize Ob.cache (DL m.tab.nums) (FL m.tab.nums)=T3 at *
 have hT4:(Ob.cache (DV m.tab.nums) (FV m.tab.nums)).names=[]:=rfl
 generalize Ob.cache (DV m.tab.nums) (FV m.tab.nums)=T4 at *
 have hT5:(Ob.imap (resE m.tab.res)).names=[]:=rfl
 generalize Ob.imap (resE m.tab.res)=T5 at *
 have hU0:=tB_names Tn.hits
 generalize tB Tn.hits=U0 at *
 have hU1:(Ob.imap (numE 0 Tn.nums)).names=[]:=rfl
 generalize Ob.imap (numE 0 Tn.nums)=U1 at *
 have hU2:(Ob.cache (DI Tn.nums) (FI Tn.nums)).names=[]:=rfl
 generalize Ob.cache (DI Tn.nums) (FI Tn.nums)=U2 at *
 have hU3:(Ob.cache (DL Tn.nums) (FL Tn.nums)).names=[]:=rfl
 generalize Ob.cache (DL Tn.nums) (FL Tn.nums)=U3 at *
 have hU4:(Ob.cache (DV Tn.nums) (FV Tn.nums)).names=[]:=rfl
 generalize Ob.cache (DV Tn.nums) (FV Tn.nums)=U4 at *
 have hU5:(Ob.imap (resE Tn.res)).names=[]:=rfl
 generalize Ob.imap (resE Tn.res)=U5 at *
 generalize mS (pop1 m s x)=S1 at *
 generalize mB c l m=B0 at *
 generalize mS m=S0 at *
 generalize frN (m.frames++m.fg)=fn at *
 generalize (m.frames++m.fg).map frV=FS at *
 rw [hlen] at hfl
 clear hA hf hs hlen hr hff
 simp only [left,right,c132,Tryz.f132,Option.getD_some] at *
 simp only [itP] at hget h hp v2 o2 hst
 generalize c.map insP=cs at *
 generalize itP x=vx at *
 generalize varsP m.vars=vv at *
 generalize varsP fr.vars=fv at *
 generalize varsP vs=ff at *
 generalize itP fr.a=fa at *
 generalize hkl:fs.length=k at *
 have hb1:(0:Int)≤((k+1:Nat):Int)-1:=by omega
 have hb2:((k+1:Nat):Int)-1<((k+1:Nat):Int):=by omega
 have hb3:((k+1:Nat):Int)-1≤((k+1:Nat):Int):=by omega
 have hb4:¬ ((k+1:Nat):Int)=0:=by omega
 have hb5:k+1≤FS.length:=by omega
 refine gg ?_
 refine call p1 ?_
 refine gg ?_
 refine⟨by rfl,?_⟩
 refine gg ?_
 refine⟨by rfl,?_⟩
 refine gg ?_
 refine⟨by rfl,?_⟩
 refine gg ?_
 refine call hp ?_
 refine gg ?_
 refine call hst ?_
 refine gg ?_
 refine⟨by rfl,?_⟩
 refine gg ?_
 refine AWP.weaken ⟨by simp [slotsLe,getS],?_,?_⟩ h
 ·simp [subO,getO]
 ·rw [subL_iff]
  intro n hn
  have:=hms n
  simp only [namesSl,V.names,namesOb,obn_box,obn_arr,namesL,namesE,XX_given,hFn,nS,hU0,hU1,hU2,hU3,hU4,hU5,hR,List.mem_append,List.mem_cons,List.not_mem_nil,or_false,false_or,List.append_nil,List.nil_append,List.cons_append] at hn this ⊢
  refine Classical.byContradiction fun hc => ?_
  simp only [not_or] at hc
  simp [hc] at hn
  simp [hc,hn] at this
theorem lv_none (c:List Ins) (l:Nat) (m:Mm) (x:It) (fr:Fr) (ms:List Nat) (hl:m.stack.length≤1000000) (hr:fr.rd=none) :
  AWP (XX [] 111 (keysM++ms)) sw132 ⟨[(0,.loc 901 0),(2,.pv (.bool false)),(3,.pv (itP x)),(4,.loc 4 0)],(4,.box (frV fr))::mO c l m,4::(keysM++ms)⟩ (endQ (XX [] 111 (keysM++ms)) Tryz.f132.results.toList (.ret (.pv (.bool (decide (0≤m.at_))))) (mO c l (m.push x))):=by
 have v0:=vcells_one (itP_one x)
 have o0:(V.pv (itP x)).one=true:=by rw [one_pv];exact itP_one x
 have p2:=push_ok c l m x hl
 have eB:mB c l (m.push x) = .box [.pv (.slice (c.map insP)),.pv (.int l),.pv (.int m.steps),.bfn 95 [.loc 980 0],.bfn 96 [.loc 980 0],.arr 902 (m.push x).sv (m.push x).stack.length,.arr 903 m.fv m.frames.length,.pv (.int m.at_),.pv (varsP m.vars)]:=rfl
 have eF:mF (m.push x)=mF m:=rfl
 have eT:(m.push x).tab=m.tab:=rfl
 rw [eB] at p2
 simp only [mO,eB,eF,eT]
 clear eB eF eT
 generalize (m.push x).sv=sv at *
 generalize (m.push x).stack.length=sl at *
 generalize mS (m.push x)=S2 at *
 rw [frV_eq,hr]
 simp only [rpV]
 unfold keysM
 unfold tabO tabN at *
 simp only [List.cons_append,List.nil_append] at *
 generalize tB m.tab.hits=T0 at *
 generalize Ob.imap (numE 0 m.tab.nums)=T1 at *
 generalize Ob.cache (DI m.tab.nums) (FI m.tab.nums)=T2 at *
 generalize Ob.cache (DL m.tab.nums) (FL m.tab.nums)=T3 at *
 generalize Ob.cache (DV m.tab.nums) (FV m.tab.nums)=T4 at *
 generalize Ob.imap (resE m.tab.res)=T5 at *
 generalize mB c l m=B0 at *
 generalize mS m=S0 at *
 generalize mF m=F0 at *
 generalize itP x=vx at *
 generalize itP fr.f=ff at *
 generalize itP fr.a=fa at *
 generalize varsP fr.vars=fv at *
 generalize c.map insP=cs at *
 generalize varsP m.vars=vv at *
 generalize m.at_=at_ at *
 simp only [sw132,right,c132,Tryz.f132,Option.getD_some]
 refine gg ?_
 refine call p2 ?_
 refine gg ?_
 exact enC12
theorem lv_done (c:List Ins) (l:Nat) (m:Mm) (x:It) (fr:Fr) (ms:List Nat) (hl:m.stack.length≤1000000) (r:Rd) (hr:fr.rd=some (920,r)) (R0 R1:Ob)
  (hret:AC Tryz.prog gl 134 [.loc 920 0,.pv (itP x)] [(920,R0)] (.ret (.pv (.tuple [.nil,.nil,.bool true]))) [(920,R1)]) :
  AWP (XX [] 111 (keysM++920::ms)) sw132 ⟨[(0,.loc 901 0),(2,.pv (.bool false)),(3,.pv (itP x)),(4,.loc 4 0)],(4,.box (frV fr))::mO c l m++[(920,R0)],4::(keysM++920::ms)⟩ (endQ (XX [] 111 (keysM++920::ms)) Tryz.f132.results.toList (.ret (.pv (.bool (decide (0≤m.at_))))) (mO c l (m.push x))):=by
 have v0:=vcells_one (itP_one x)
 have o0:(V.pv (itP x)).one=true:=by rw [one_pv];exact itP_one x
 have p2:=push_ok c l m x hl
 have eB:mB c l (m.push x) = .box [.pv (.slice (c.map insP)),.pv (.int l),.pv (.int m.steps),.bfn 95 [.loc 980 0],.bfn 96 [.loc 980 0],.arr 902 (m.push x).sv (m.push x).stack.length,.arr 903 m.fv m.frames.length,.pv (.int m.at_),.pv (varsP m.vars)]:=rfl
 have eF:mF (m.push x)=mF m:=rfl
 have eT:(m.push x).tab=m.tab:=rfl
 rw [eB] at p2
 simp only [mO,eB,eF,eT]
 clear eB eF eT
 generalize (m.push x).sv=sv at *
 generalize (m.push x).stack.length=sl at *
 generalize mS (m.push x)=S2 at *
 rw [frV_eq,hr]
 simp only [rpV]
 unfold keysM
 unfold tabO tabN at *
 simp only [List.cons_append,List.nil_append] at *
 generalize tB m.tab.hits=T0 at *
 generalize Ob.imap (numE 0 m.tab.nums)=T1 at *
 generalize Ob.cache (DI m.tab.nums) (FI m.tab.nums)=T2 at *
 generalize Ob.cache (DL m.tab.nums) (FL m.tab.nums)=T3 at *
 generalize Ob.cache (DV m.tab.nums) (FV m.tab.nums)=T4 at *
 generalize Ob.imap (resE m.tab.res)=T5 at *
 generalize mB c l m=B0 at *
 generalize mS m=S0 at *
 generalize mF m=F0 at *
 generalize itP x=vx at *
 generalize itP fr.f=ff at *
 generalize itP fr.a=fa at *
 generalize varsP fr.vars=fv at *
 generalize c.map insP=cs at *
 generalize varsP m.vars=vv at *
 generalize m.at_=at_ at *
 simp only [sw132,right,c132,Tryz.f132,Option.getD_some]
 refine gg ?_
 refine call hret ?_
 refine gg ?_
 refine call p2 ?_
 refine gg ?_
 exact enC12
theorem lv_err (c:List Ins) (l:Nat) (m:Mm) (x:It) (fr:Fr) (ms:List Nat) (r:Rd) (hr:fr.rd=some (920,r)) (R0 R1:Ob)
  (pf pa:It) (hret:AC Tryz.prog gl 134 [.loc 920 0,.pv (itP x)] [(920,R0)] (.ret (.pv (.tuple [itP pf,itP pa,.bool false]))) [(920,R1)]) (q:PV)
  (he:AC Tryz.prog gl 115 [.loc 901 0,.pv (itP pf),.pv (itP pa),.loc 920 0] (mO c l m++[(920,R1)]) (.panic q) []) :
  AWP (XX [] 111 (keysM++920::ms)) sw132 ⟨[(0,.loc 901 0),(2,.pv (.bool false)),(3,.pv (itP x)),(4,.loc 4 0)],(4,.box (frV fr))::mO c l m++[(920,R0)],4::(keysM++920::ms)⟩ (endQ (XX [] 111 (keysM++920::ms)) Tryz.f132.results.toList (.panic q) []):=by
 have v0:=vcells_one (itP_one x)
 have o0:(V.pv (itP x)).one=true:=by rw [one_pv];exact itP_one x
 have w1:=vcells_one (itP_one pf)
 have w2:(V.pv (itP pf)).one=true:=by rw [one_pv];exact itP_one pf
 have w3:=vcells_one (itP_one pa)
 have w4:(V.pv (itP pa)).one=true:=by rw [one_pv];exact itP_one pa
 simp only [mO] at *
 rw [frV_eq,hr]
 simp only [rpV]
 unfold keysM
 unfold tabO tabN at *
 simp only [List.cons_append,List.nil_append] at *
 generalize tB m.tab.hits=T0 at *
 generalize Ob.imap (numE 0 m.tab.nums)=T1 at *
 generalize Ob.cache (DI m.tab.nums) (FI m.tab.nums)=T2 at *
 generalize Ob.cache (DL m.tab.nums) (FL m.tab.nums)=T3 at *
 generalize Ob.cache (DV m.tab.nums) (FV m.tab.nums)=T4 at *
 generalize Ob.imap (resE m.tab.res)=T5 at *
 generalize mB c l m=B0 at *
 generalize mS m=S0 at *
 generalize mF m=F0 at *
 generalize itP x=vx at *
 generalize itP fr.f=ff at *
 generalize itP fr.a=fa at *
 generalize varsP fr.vars=fv at *
 generalize itP pf=pf at *
 generalize itP pa=pa at *
 simp only [sw132,right,c132,Tryz.f132,Option.getD_some]
 refine gg ?_
 refine call hret ?_
 refine gg ?_
 refine callP he ?_
 refine gg ?_
 exact⟨rfl,trivial⟩
theorem lv_into (c:List Ins) (l:Nat) (m:Mm) (x:It) (fr:Fr) (ms:List Nat) (r:Rd) (hr:fr.rd=some (920,r)) (R0 R1:Ob)
  (pf pa:It) (hret:AC Tryz.prog gl 134 [.loc 920 0,.pv (itP x)] [(920,R0)] (.ret (.pv (.tuple [itP pf,itP pa,.bool false]))) [(920,R1)]) (m':Mm) (R2:Ob)
  (he:AC Tryz.prog gl 115 [.loc 901 0,.pv (itP pf),.pv (itP pa),.loc 920 0] (mO c l m++[(920,R1)]) (.ret (.pv (.tuple []))) (mO c l m'++[(920,R2)])) :
  AWP (XX [] 111 (keysM++920::ms)) sw132 ⟨[(0,.loc 901 0),(2,.pv (.bool false)),(3,.pv (itP x)),(4,.loc 4 0)],(4,.box (frV fr))::mO c l m++[(920,R0)],4::(keysM++920::ms)⟩ (endQ (XX [] 111 (keysM++920::ms)) Tryz.f132.results.toList (.ret (.pv (.bool true))) (mO c l m'++[(920,R2)])):=by
 have v0:=vcells_one (itP_one x)
 have o0:(V.pv (itP x)).one=true:=by rw [one_pv];exact itP_one x
 have w1:=vcells_one (itP_one pf)
 have w2:(V.pv (itP pf)).one=true:=by rw [one_pv];exact itP_one pf
 have w3:=vcells_one (itP_one pa)
 have w4:(V.pv (itP pa)).one=true:=by rw [one_pv];exact itP_one pa
 simp only [mO] at *
 generalize mB c l m'=B2 at *
 generalize mS m'=S2 at *
 generalize mF m'=F2 at *
 rw [frV_eq,hr]
 simp only [rpV]
 unfold keysM
 unfold tabO tabN at *
 simp only [List.cons_append,List.nil_append] at *
 generalize tB m.tab.hits=T0 at *
 generalize Ob.imap (numE 0 m.tab.nums)=T1 at *
 generalize Ob.cache (DI m.tab.nums) (FI m.tab.nums)=T2 at *
 generalize Ob.cache (DL m.tab.nums) (FL m.tab.nums)=T3 at *
 generalize Ob.cache (DV m.tab.nums) (FV m.tab.nums)=T4 at *
 generalize Ob.imap (resE m.tab.res)=T5 at *
 generalize tB m'.tab.hits=U0 at *
 generalize Ob.imap (numE 0 m'.tab.nums)=U1 at *
 generalize Ob.cache (DI m'.tab.nums) (FI m'.tab.nums)=U2 at *
 generalize Ob.cache (DL m'.tab.nums) (FL m'.tab.nums)=U3 at *
 generalize Ob.cache (DV m'.tab.nums) (FV m'.tab.nums)=U4 at *
 generalize Ob.imap (resE m'.tab.res)=U5 at *
 generalize mB c l m=B0 at *
 generalize mS m=S0 at *
 generalize mF m=F0 at *
 generalize itP x=vx at *
 generalize itP fr.f=ff at *
 generalize itP fr.a=fa at *
 generalize varsP fr.vars=fv at *
 generalize itP pf=pf at *
 generalize itP pa=pa at *
 simp only [sw132,right,c132,Tryz.f132,Option.getD_some]
 refine gg ?_
 refine call hret ?_
 refine gg ?_
 refine call he ?_
 refine gg ?_
 exact enC12
theorem lv_push (c:List Ins) (l:Nat) (m:Mm) (x:It) (fr:Fr) (ms:List Nat) (r:Rd) (hr:fr.rd=some (920,r)) (R0 R1:Ob)
  (pf pa:It) (hret:AC Tryz.prog gl 134 [.loc 920 0,.pv (itP x)] [(920,R0)] (.ret (.pv (.tuple [itP pf,itP pa,.bool false]))) [(920,R1)]) (m':Mm)
  (he:AC Tryz.prog gl 115 [.loc 901 0,.pv (itP pf),.pv (itP pa),.loc 920 0] (mO c l m++[(920,R1)]) (.ret (.pv (.tuple []))) (mO c l m')) :
  AWP (XX [] 111 (keysM++920::ms)) sw132 ⟨[(0,.loc 901 0),(2,.pv (.bool false)),(3,.pv (itP x)),(4,.loc 4 0)],(4,.box (frV fr))::mO c l m++[(920,R0)],4::(keysM++920::ms)⟩ (endQ (XX [] 111 (keysM++920::ms)) Tryz.f132.results.toList (.ret (.pv (.bool true))) (mO c l m')):=by
 have v0:=vcells_one (itP_one x)
 have o0:(V.pv (itP x)).one=true:=by rw [one_pv];exact itP_one x
 have w1:=vcells_one (itP_one pf)
 have w2:(V.pv (itP pf)).one=true:=by rw [one_pv];exact itP_one pf
 have w3:=vcells_one (itP_one pa)
 have w4:(V.pv (itP pa)).one=true:=by rw [one_pv];exact itP_one pa
 simp only [mO] at *
 generalize mB c l m'=B2 at *
 generalize mS m'=S2 at *
 generalize mF m'=F2 at *
 rw [frV_eq,hr]
 simp only [rpV]
 unfold keysM
 unfold tabO tabN at *
 simp only [List.cons_append,List.nil_append] at *
 generalize tB m.tab.hits=T0 at *
 generalize Ob.imap (numE 0 m.tab.nums)=T1 at *
 generalize Ob.cache (DI m.tab.nums) (FI m.tab.nums)=T2 at *
 generalize Ob.cache (DL m.tab.nums) (FL m.tab.nums)=T3 at *
 generalize Ob.cache (DV m.tab.nums) (FV m.tab.nums)=T4 at *
 generalize Ob.imap (resE m.tab.res)=T5 at *
 generalize tB m'.tab.hits=U0 at *
 generalize Ob.imap (numE 0 m'.tab.nums)=U1 at *
 generalize Ob.cache (DI m'.tab.nums) (FI m'.tab.nums)=U2 at *
 generalize Ob.cache (DL m'.tab.nums) (FL m'.tab.nums)=U3 at *
 generalize Ob.cache (DV m'.tab.nums) (FV m'.tab.nums)=U4 at *
 generalize Ob.imap (resE m'.tab.res)=U5 at *
 generalize mB c l m=B0 at *
 generalize mS m=S0 at *
 generalize mF m=F0 at *
 generalize itP x=vx at *
 generalize itP fr.f=ff at *
 generalize itP fr.a=fa at *
 generalize varsP fr.vars=fv at *
 generalize itP pf=pf at *
 generalize itP pa=pa at *
 simp only [sw132,right,c132,Tryz.f132,Option.getD_some]
 refine gg ?_
 refine call hret ?_
 refine gg ?_
 refine call he ?_
 refine gg ?_
 exact enC12
end Go.Proofs.YtodjpfpmhjdhbaaGreatDoor
