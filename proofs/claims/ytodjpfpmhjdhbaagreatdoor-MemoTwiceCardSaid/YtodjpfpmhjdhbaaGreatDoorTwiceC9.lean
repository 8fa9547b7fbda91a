/- Contracts of functions; no conditions. -/
import Derived.Test.YtodjpfpmhjdhbaaGreatDoorTwiceC8
set_option linter.all false
namespace Go.Proofs.YtodjpfpmhjdhbaaGreatDoor
open Go.Lg
set_option maxRecDepth 10000
set_option maxHeartbeats 4000000
theorem entR_stuck (c:List Ins) (l:Nat) (k:Nat) (m:Mm) (r:Rd) (f a:It) (hf:¬ f.kind=5) :
  RoundsE c l (k+1) m (.panic (fail 44)) [] (S0E f a) (mO c l m++[(920,rdB r)]) (KS m):=by
 have hw:=want_err f 5 hf
 simp only [mO]
 unfold RoundsE
 generalize KS m=ks at *
 unfold tabO tabN at *
 simp only [List.cons_append,List.nil_append,S0E,mB,mF,fail] at *
 generalize mS m=S0 at *
 generalize (m.frames++m.fg).map frV=fs at *
 generalize tB m.tab.hits=T0 at *
 generalize Ob.imap (numE 0 m.tab.nums)=T1 at *
 generalize Ob.cache (DI m.tab.nums) (FI m.tab.nums)=T2 at *
 generalize Ob.cache (DL m.tab.nums) (FL m.tab.nums)=T3 at *
 generalize Ob.cache (DV m.tab.nums) (FV m.tab.nums)=T4 at *
 generalize Ob.imap (resE m.tab.res)=T5 at *
 generalize rdB r=RB at *
 generalize itP f=pf at *
 generalize c.map insP=cs at *
 generalize varsP m.vars=v1 at *
 generalize itP a=va at *
 simp only [bE,bodL,bodB,Tryz.f115,Option.getD_some]
 refine ex_round ?_
 refine gg ?_
 refine callP hw ?_
 refine gg ?_
 exact⟨rfl,trivial⟩
theorem entR_np (c:List Ins) (l:Nat) (k:Nat) (m:Mm) (r:Rd) (p:Nat) (vs:List It) (a:It) (hpl:plainC (.fn p vs) a=false) (hfl:m.frames.length<1024) (h1:vs.length≤100000) (h2:insideL vs≤100000) (h3:a.more≤100000) :
  RoundsE c l (k+1) m (.ret (.pv (.tuple []))) (mO c l { m with frames:=m.frames++[⟨m.at_,m.vars,.fn p vs,a,some (920,r)⟩],fg:=[],fv:=m.fv+1,at_:=p,vars:=a::vs } ++ [(920,rdB r)]) (S0E (.fn p vs) a) (mO c l m++[(920,rdB r)]) (KS m):=by
 have hw:=want_ok (.fn p vs)
 have hp:=plainc_ok p vs a
 rw [hpl] at hp
 simp only [It.kind] at hw
 have hwi:=with_ok vs a h1 h2 h3
 have ho1:=varsP_one m.vars
 have ho2:=itP_one a
 have ho3:=varsP_one (a::vs)
 have hc1:=vcells_one ho1
 have hc2:=vcells_one ho2
 have hc3:=vcells_one ho3
 have hq1:(V.pv (varsP m.vars)).one=true:=by rw [one_pv];exact ho1
 have hq2:(V.pv (itP a)).one=true:=by rw [one_pv];exact ho2
 have hq3:(V.pv (varsP (a::vs))).one=true:=by rw [one_pv];exact ho3
 have hl':¬ (1024:Int)≤m.frames.length:=by omega
 have ht:((m.frames++m.fg).map frV).take m.frames.length=m.frames.map frV:=by simp
 have hle:m.frames.length≤((m.frames++m.fg).map frV).length:=by simp
 have hA:(m.frames++[(⟨m.at_,m.vars,.fn p vs,a,some (920,r)⟩:Fr)]++[]).map frV=m.frames.map frV++[[.pv (.int m.at_),.pv (varsP m.vars),.pv (itP (.fn p vs)),.pv (itP a),.loc 920 0]]:=by
  simp [frV]
 have eS:mS { m with frames:=m.frames++[⟨m.at_,m.vars,.fn p vs,a,some (920,r)⟩],fg:=[],fv:=m.fv+1,at_:=p,vars:=a::vs } = mS m:=rfl
 simp only [mO,eS]
 unfold RoundsE
 generalize KS m=ks at *
 unfold tabO tabN at *
 simp only [List.cons_append,List.nil_append,S0E,mB,mF,hA,List.length_append,List.length_cons,List.length_nil,Nat.zero_add] at *
 generalize mS m=S0 at *
 clear hA eS h1 h2 h3 hpl
 generalize (m.frames++m.fg).map frV=fs at *
 generalize m.frames.map frV=fs0 at *
 generalize hgp:itP (.fn p vs)=pf at *
 generalize tB m.tab.hits=T0 at *
 generalize Ob.imap (numE 0 m.tab.nums)=T1 at *
 generalize Ob.cache (DI m.tab.nums) (FI m.tab.nums)=T2 at *
 generalize Ob.cache (DL m.tab.nums) (FL m.tab.nums)=T3 at *
 generalize Ob.cache (DV m.tab.nums) (FV m.tab.nums)=T4 at *
 generalize Ob.imap (resE m.tab.res)=T5 at *
 generalize rdB r=RB at *
 simp only [itP] at hgp
 subst hgp
 generalize c.map insP=cs at *
 generalize varsP (a::vs)=vv at *
 generalize varsP vs=v0 at *
 generalize varsP m.vars=v1 at *
 generalize itP a=va at *
 simp only [bE,bodL,bodB,Tryz.f115,Option.getD_some]
 refine ex_round ?_
 refine gg ?_
 refine call hw ?_
 refine gg ?_
 refine call hp ?_
 refine gg ?_
 refine⟨by rfl,?_⟩
 refine gg ?_
 refine call hwi ?_
 refine gg ?_
 refine⟨by rfl,?_⟩
 refine gg ?_
 exact⟨by simp [retIs,resV,resL,resOne,mkTup,getS,getO,rdV,mkAgg,unL,V.un,TI.isAgg,XX_T,tt30,Tryz.f115,ht,pvE,pvL],by simp [subO,getO,tt30,Tryz.f115,ht,pvE,pvL]⟩
theorem entR_npfull (c:List Ins) (l:Nat) (k:Nat) (m:Mm) (r:Rd) (p:Nat) (vs:List It) (a:It) (hpl:plainC (.fn p vs) a=false) (hfl:1024≤m.frames.length) (hfl2:m.frames.length≤1000000) :
  RoundsE c l (k+1) m (.panic (fail 4)) [] (S0E (.fn p vs) a) (mO c l m++[(920,rdB r)]) (KS m):=by
 have hw:=want_ok (.fn p vs)
 have hp:=plainc_ok p vs a
 rw [hpl] at hp
 simp only [It.kind] at hw
 have hl':(1024:Int)≤m.frames.length:=by omega
 simp only [mO]
 unfold RoundsE
 generalize KS m=ks at *
 unfold tabO tabN at *
 simp only [List.cons_append,List.nil_append,S0E,mB,mF,fail] at *
 generalize mS m=S0 at *
 clear hpl
 generalize (m.frames++m.fg).map frV=fs at *
 generalize hgp:itP (.fn p vs)=pf at *
 generalize tB m.tab.hits=T0 at *
 generalize Ob.imap (numE 0 m.tab.nums)=T1 at *
 generalize Ob.cache (DI m.tab.nums) (FI m.tab.nums)=T2 at *
 generalize Ob.cache (DL m.tab.nums) (FL m.tab.nums)=T3 at *
 generalize Ob.cache (DV m.tab.nums) (FV m.tab.nums)=T4 at *
 generalize Ob.imap (resE m.tab.res)=T5 at *
 generalize rdB r=RB at *
 simp only [itP] at hgp
 subst hgp
 generalize c.map insP=cs at *
 generalize varsP vs=v0 at *
 generalize varsP m.vars=v1 at *
 generalize itP a=va at *
 simp only [bE,bodL,bodB,Tryz.f115,Option.getD_some]
 refine ex_round ?_
 refine gg ?_
 refine call hw ?_
 refine gg ?_
 refine call hp ?_
 refine gg ?_
 refine pnc (t:=179) (p:=.agg [.int 4]) ?_
 refine gg ?_
 exact⟨rfl,trivial⟩
theorem entR_miss (c:List Ins) (l:Nat) (k:Nat) (m:Mm) (r:Rd) (p:Nat) (vs:List It) (a:It) (hpl:plainC (.fn p vs) a=true) (hfl:m.frames.length<1024) (h1:vs.length≤100000) (h2:insideL vs≤100000) (h3:a.more≤100000) (hx:m.tab.get (.fn p vs) a=none) (hz:m.tab.nums.length+szI (.fn p vs)+szI a≤1152921504606846976) (hs:Sh m.tab.nums) (hk:Rk m.tab.res) :
  RoundsE c l (k+1) m (.ret (.pv (.tuple []))) (mO c l { m with frames:=m.frames++[⟨m.at_,m.vars,.fn p vs,a,some (920,r)⟩],fg:=[],fv:=m.fv+1,at_:=p,vars:=a::vs,tab:=m.tab.miss (.fn p vs) a } ++ [(920,rdB r)]) (S0E (.fn p vs) a) (mO c l m++[(920,rdB r)]) (KS m):=by
 have hw:=want_ok (.fn p vs)
 have hp:=plainc_ok p vs a
 rw [hpl] at hp
 simp only [It.kind] at hw
 have hlk:=lookup_none m.tab (.fn p vs) a hz hs hk hx
 have hwi:=with_ok vs a h1 h2 h3
 have ho1:=varsP_one m.vars
 have ho2:=itP_one a
 have ho3:=varsP_one (a::vs)
 have hc1:=vcells_one ho1
 have hc2:=vcells_one ho2
 have hc3:=vcells_one ho3
 have hq1:(V.pv (varsP m.vars)).one=true:=by rw [one_pv];exact ho1
 have hq2:(V.pv (itP a)).one=true:=by rw [one_pv];exact ho2
 have hq3:(V.pv (varsP (a::vs))).one=true:=by rw [one_pv];exact ho3
 have hl':¬ (1024:Int)≤m.frames.length:=by omega
 have ht:((m.frames++m.fg).map frV).take m.frames.length=m.frames.map frV:=by simp
 have hle:m.frames.length≤((m.frames++m.fg).map frV).length:=by simp
 have hA:(m.frames++[(⟨m.at_,m.vars,.fn p vs,a,some (920,r)⟩:Fr)]++[]).map frV=m.frames.map frV++[[.pv (.int m.at_),.pv (varsP m.vars),.pv (itP (.fn p vs)),.pv (itP a),.loc 920 0]]:=by
  simp [frV]
 have eS:mS { m with frames:=m.frames++[⟨m.at_,m.vars,.fn p vs,a,some (920,r)⟩],fg:=[],fv:=m.fv+1,at_:=p,vars:=a::vs,tab:=m.tab.miss (.fn p vs) a } = mS m:=rfl
 simp only [mO,eS]
 unfold RoundsE
 generalize KS m=ks at *
 unfold tabO tabN Tab.miss at *
 simp only [List.cons_append,List.nil_append,S0E,mB,mF,hA,List.length_append,List.length_cons,List.length_nil,Nat.zero_add] at *
 generalize mS m=S0 at *
 clear hA eS h1 h2 h3 hpl hx hz hs hk
 generalize (m.frames++m.fg).map frV=fs at *
 generalize m.frames.map frV=fs0 at *
 generalize hgp:itP (.fn p vs)=pf at *
 generalize (keyN m.tab.nums (.fn p vs) a).2=l2 at *
 generalize tB m.tab.hits=T0 at *
 generalize Ob.imap (numE 0 m.tab.nums)=T1 at *
 generalize Ob.cache (DI m.tab.nums) (FI m.tab.nums)=T2 at *
 generalize Ob.cache (DL m.tab.nums) (FL m.tab.nums)=T3 at *
 generalize Ob.cache (DV m.tab.nums) (FV m.tab.nums)=T4 at *
 generalize Ob.imap (resE m.tab.res)=T5 at *
 generalize Ob.imap (numE 0 l2)=U1 at *
 generalize Ob.cache (DI l2) (FI l2)=U2 at *
 generalize Ob.cache (DL l2) (FL l2)=U3 at *
 generalize Ob.cache (DV l2) (FV l2)=U4 at *
 generalize rdB r=RB at *
 simp only [itP] at hgp
 subst hgp
 generalize c.map insP=cs at *
 generalize varsP (a::vs)=vv at *
 generalize varsP vs=v0 at *
 generalize varsP m.vars=v1 at *
 generalize itP a=va at *
 simp only [bE,bodL,bodB,Tryz.f115,Option.getD_some]
 refine ex_round ?_
 refine gg ?_
 refine call hw ?_
 refine gg ?_
 refine call hp ?_
 refine gg ?_
 refine call hlk ?_
 refine gg ?_
 refine⟨by rfl,?_⟩
 refine gg ?_
 refine call hwi ?_
 refine gg ?_
 refine⟨by rfl,?_⟩
 refine gg ?_
 exact⟨by simp [retIs,resV,resL,resOne,mkTup,getS,getO,rdV,mkAgg,unL,V.un,TI.isAgg,XX_T,tt30,Tryz.f115,ht,pvE,pvL],by simp [subO,getO,tt30,Tryz.f115,ht,pvE,pvL]⟩
theorem entR_missfull (c:List Ins) (l:Nat) (k:Nat) (m:Mm) (r:Rd) (p:Nat) (vs:List It) (a:It) (hpl:plainC (.fn p vs) a=true) (hfl:1024≤m.frames.length) (hfl2:m.frames.length≤1000000) (hx:m.tab.get (.fn p vs) a=none) (hz:m.tab.nums.length+szI (.fn p vs)+szI a≤1152921504606846976) (hs:Sh m.tab.nums) (hk:Rk m.tab.res) :
  RoundsE c l (k+1) m (.panic (fail 4)) [] (S0E (.fn p vs) a) (mO c l m++[(920,rdB r)]) (KS m):=by
 have hw:=want_ok (.fn p vs)
 have hp:=plainc_ok p vs a
 rw [hpl] at hp
 simp only [It.kind] at hw
 have hlk:=lookup_none m.tab (.fn p vs) a hz hs hk hx
 have hl':(1024:Int)≤m.frames.length:=by omega
 simp only [mO]
 unfold RoundsE
 generalize KS m=ks at *
 unfold tabO tabN at *
 simp only [List.cons_append,List.nil_append,S0E,mB,mF,fail] at *
 generalize mS m=S0 at *
 clear hpl hx hz hs hk
 generalize (m.frames++m.fg).map frV=fs at *
 generalize hgp:itP (.fn p vs)=pf at *
 generalize (keyN m.tab.nums (.fn p vs) a).2=l2 at *
 generalize tB m.tab.hits=T0 at *
 generalize Ob.imap (numE 0 m.tab.nums)=T1 at *
 generalize Ob.cache (DI m.tab.nums) (FI m.tab.nums)=T2 at *
 generalize Ob.cache (DL m.tab.nums) (FL m.tab.nums)=T3 at *
 generalize Ob.cache (DV m.tab.nums) (FV m.tab.nums)=T4 at *
 generalize Ob.imap (resE m.tab.res)=T5 at *
 generalize Ob.imap (numE 0 l2)=U1 at *
 generalize Ob.cache (DI l2) (FI l2)=U2 at *
 generalize Ob.cache (DL l2) (FL l2)=U3 at *
 generalize Ob.cache (DV l2) (FV l2)=U4 at *
 generalize rdB r=RB at *
 simp only [itP] at hgp
 subst hgp
 generalize c.map insP=cs at *
 generalize varsP vs=v0 at *
 generalize varsP m.vars=v1 at *
 generalize itP a=va at *
 simp only [bE,bodL,bodB,Tryz.f115,Option.getD_some]
 refine ex_round ?_
 refine gg ?_
 refine call hw ?_
 refine gg ?_
 refine call hp ?_
 refine gg ?_
 refine call hlk ?_
 refine gg ?_
 refine pnc (t:=179) (p:=.agg [.int 4]) ?_
 refine gg ?_
 exact⟨rfl,trivial⟩
theorem entR_done (c:List Ins) (l:Nat) (k:Nat) (m:Mm) (r:Rd) (p:Nat) (vs:List It) (a:It) (hpl:plainC (.fn p vs) a=true) (x:It) (hx:m.tab.get (.fn p vs) a=some x) (hh:m.tab.hits≤1152921504606846976) (hst:m.stack.length≤1000000) (hz:m.tab.nums.length+szI (.fn p vs)+szI a≤1152921504606846976) (hs:Sh m.tab.nums) (hk:Rk m.tab.res) (r':Rd) (hr:AC Tryz.prog gl 134 [.loc 920 0,.pv (itP x)] [(920,rdB r)] (.ret (.pv (.tuple [.nil,.nil,.bool true]))) [(920,rdB r')]) (hrr:r'.result=x) :
  RoundsE c l (k+1) m (.ret (.pv (.tuple []))) (mO c l (Mm.push { m with tab:=m.tab.hit (.fn p vs) a } x)) (S0E (.fn p vs) a) (mO c l m++[(920,rdB r)]) (KS m):=by
 have hw:=want_ok (.fn p vs)
 have hp:=plainc_ok p vs a
 rw [hpl] at hp
 simp only [It.kind] at hw
 have hlk:=lookup_some m.tab (.fn p vs) a x hz hs hk hh hx
 have hx1:=vcells_one (itP_one x)
 have hx2:(V.pv (itP x)).one=true:=by rw [one_pv];exact itP_one x
 have hpu:=push_ok c l { m with tab:=m.tab.hit (.fn p vs) a } x hst
 have eF:mF (Mm.push { m with tab:=m.tab.hit (.fn p vs) a } x)=mF m:=rfl
 have eT:(Mm.push { m with tab:=m.tab.hit (.fn p vs) a } x).tab=m.tab.hit (.fn p vs) a:=rfl
 have eB:mB c l { m with tab:=m.tab.hit (.fn p vs) a } = mB c l m:=rfl
 have eS:mS { m with tab:=m.tab.hit (.fn p vs) a } = mS m:=rfl
 rw [eB,eS] at hpu
 simp only [mO,eF,eT]
 generalize mS (Mm.push _ x)=S2 at *
 generalize mB c l (Mm.push _ x)=B2 at *
 unfold RoundsE
 generalize KS m=ks at *
 unfold tabO tabN Tab.hit at *
 simp only [List.cons_append,List.nil_append,S0E,mF] at *
 generalize mS m=S0 at *
 clear eF eT eB eS hpl hx hz hs hk hst hh
 have eB0:mB c l m = .box [.pv (.slice (c.map insP)),.pv (.int l),.pv (.int m.steps),.bfn 95 [.loc 980 0],.bfn 96 [.loc 980 0],.arr 902 m.sv m.stack.length,.arr 903 m.fv m.frames.length,.pv (.int m.at_),.pv (varsP m.vars)]:=rfl
 rw [eB0] at hpu ⊢
 clear eB0
 generalize (m.frames++m.fg).map frV=fs at *
 generalize hgp:itP (.fn p vs)=pf at *
 generalize (keyN m.tab.nums (.fn p vs) a).2=l2 at *
 generalize tB m.tab.hits=T0 at *
 generalize Ob.imap (numE 0 m.tab.nums)=T1 at *
 generalize Ob.cache (DI m.tab.nums) (FI m.tab.nums)=T2 at *
 generalize Ob.cache (DL m.tab.nums) (FL m.tab.nums)=T3 at *
 generalize Ob.cache (DV m.tab.nums) (FV m.tab.nums)=T4 at *
 generalize Ob.imap (resE m.tab.res)=T5 at *
 generalize Ob.imap (numE 0 l2)=U1 at *
 generalize Ob.cache (DI l2) (FI l2)=U2 at *
 generalize Ob.cache (DL l2) (FL l2)=U3 at *
 generalize Ob.cache (DV l2) (FV l2)=U4 at *
 generalize tB (m.tab.hits+1)=U0 at *
 have eR:rdB r' = .box [.pv (itP r'.f),.pv (.int r'.next),.pv (argsP r'.args),.pv (.int r'.count),.pv (itP x),.pv (.slice (r'.left.map itC))]:=by
  rw [← hrr];rfl
 rw [eR] at hr
 clear eR hrr
 generalize itP r'.f=rf at *
 generalize argsP r'.args=ra at *
 generalize r'.left.map itC=rl at *
 generalize rdB r=RB at *
 simp only [itP] at hgp
 subst hgp
 generalize c.map insP=cs at *
 generalize varsP vs=v0 at *
 generalize varsP m.vars=v1 at *
 generalize itP a=va at *
 generalize itP x=px at *
 simp only [bE,bodL,bodB,Tryz.f115,Option.getD_some]
 refine ex_round ?_
 refine gg ?_
 refine call hw ?_
 refine gg ?_
 refine call hp ?_
 refine gg ?_
 refine call hlk ?_
 refine gg ?_
 refine call hr ?_
 refine gg ?_
 refine call hpu ?_
 refine gg ?_
 exact⟨by simp [retIs,resV,resL,resOne,mkTup,getS,getO,rdV,mkAgg,unL,V.un,TI.isAgg,XX_T,tt30,Tryz.f115],by simp [subO,getO,tt30,Tryz.f115]⟩
theorem entR_next (c:List Ins) (l:Nat) (k:Nat) (m:Mm) (r:Rd) (p:Nat) (vs:List It) (a:It) (hpl:plainC (.fn p vs) a=true) (x:It) (hx:m.tab.get (.fn p vs) a=some x) (hh:m.tab.hits≤1152921504606846976) (hst:m.stack.length≤1000000) (hz:m.tab.nums.length+szI (.fn p vs)+szI a≤1152921504606846976) (hs:Sh m.tab.nums) (hk:Rk m.tab.res) (r':Rd) (f' a':It) (hr:AC Tryz.prog gl 134 [.loc 920 0,.pv (itP x)] [(920,rdB r)] (.ret (.pv (.tuple [itP f',itP a',.bool false]))) [(920,rdB r')]) (out:Go.Lg.Out) (objs':List (Nat × Ob))
  (ih:∀ (S:List (Nat × V)) (U:List Nat),slotsLe (S0E f' a') S→RoundsE c l k m out objs' S (mO c l { m with tab:=m.tab.hit (.fn p vs) a } ++ [(920,rdB r')]) U) :
  RoundsE c l (k+1) m out objs' (S0E (.fn p vs) a) (mO c l m++[(920,rdB r)]) (KS m):=by
 have hw:=want_ok (.fn p vs)
 have hp:=plainc_ok p vs a
 rw [hpl] at hp
 simp only [It.kind] at hw
 have hlk:=lookup_some m.tab (.fn p vs) a x hz hs hk hh hx
 have hx1:=vcells_one (itP_one x)
 have hx2:(V.pv (itP x)).one=true:=by rw [one_pv];exact itP_one x
 have hy1:=vcells_one (itP_one f')
 have hy2:(V.pv (itP f')).one=true:=by rw [one_pv];exact itP_one f'
 have hy3:=vcells_one (itP_one a')
 have hy4:(V.pv (itP a')).one=true:=by rw [one_pv];exact itP_one a'
 have eB:mB c l { m with tab:=m.tab.hit (.fn p vs) a } = mB c l m:=rfl
 have eS:mS { m with tab:=m.tab.hit (.fn p vs) a } = mS m:=rfl
 have eF:mF { m with tab:=m.tab.hit (.fn p vs) a } = mF m:=rfl
 simp only [mO,eB,eS,eF] at *
 unfold RoundsE at *
 generalize KS m=ks at *
 unfold tabO tabN Tab.hit at *
 simp only [List.cons_append,List.nil_append,S0E,mF] at *
 generalize mS m=S0 at *
 clear eB eS eF hpl hx hz hs hk hst hh
 have eB0:mB c l m = .box [.pv (.slice (c.map insP)),.pv (.int l),.pv (.int m.steps),.bfn 95 [.loc 980 0],.bfn 96 [.loc 980 0],.arr 902 m.sv m.stack.length,.arr 903 m.fv m.frames.length,.pv (.int m.at_),.pv (varsP m.vars)]:=rfl
 rw [eB0] at ih ⊢
 clear eB0
 generalize (m.frames++m.fg).map frV=fs at *
 generalize hgp:itP (.fn p vs)=pf at *
 generalize (keyN m.tab.nums (.fn p vs) a).2=l2 at *
 generalize tB m.tab.hits=T0 at *
 generalize Ob.imap (numE 0 m.tab.nums)=T1 at *
 generalize Ob.cache (DI m.tab.nums) (FI m.tab.nums)=T2 at *
 generalize Ob.cache (DL m.tab.nums) (FL m.tab.nums)=T3 at *
 generalize Ob.cache (DV m.tab.nums) (FV m.tab.nums)=T4 at *
 generalize Ob.imap (resE m.tab.res)=T5 at *
 generalize Ob.imap (numE 0 l2)=U1 at *
 generalize Ob.cache (DI l2) (FI l2)=U2 at *
 generalize Ob.cache (DL l2) (FL l2)=U3 at *
 generalize Ob.cache (DV l2) (FV l2)=U4 at *
 generalize tB (m.tab.hits+1)=U0 at *
 generalize rdB r'=RB' at *
 generalize rdB r=RB at *
 simp only [itP] at hgp
 subst hgp
 generalize c.map insP=cs at *
 generalize varsP vs=v0 at *
 generalize varsP m.vars=v1 at *
 generalize itP a=va at *
 generalize itP x=px at *
 generalize itP f'=pf' at *
 generalize itP a'=pa' at *
 simp only [bE,bodL,bodB,Tryz.f115,Option.getD_some]
 refine ex_round ?_
 refine gg ?_
 refine call hw ?_
 refine gg ?_
 refine call hp ?_
 refine gg ?_
 refine call hlk ?_
 refine gg ?_
 refine call hr ?_
 refine gg ?_
 exact ih _ _ (by simp [slotsLe,getS])
theorem fn_lenM {b p:Nat} {vs:List It} (h:Bd b (.fn p vs)):vs.length≤100000∧insideL vs≤100000:=by
 have h1:=inside_len vs
 simp only [Bd] at h
 omega
theorem keyN_len (l:Nums) (f a:It):(keyN l f a).2.length≤l.length+szI f+szI a:=by
 have h1:=numI_len f l
 have h2:=numI_len a (numI l f).2
 simp only [keyN]
 omega
theorem keyN_sh {l:Nums} (f a:It) (h:Sh l):Sh (keyN l f a).2:=Sh.numI a (Sh.numI f h)
theorem ent920 (c:List Ins) (l b:Nat):∀ (k:Nat) (m:Mm) (f a:It) (r:Rd) (res:Rm),EB b k m f a r→Mm.enterN k m f a (some (920,r))=some res →
  ∃ out objs',OutE c l m.frames m.fg res out objs'∧RoundsE c l k m out objs' (S0E f a) (mO c l m++[(920,rdB r)]) (KS m)
 | 0,m,f,a,r,res,_,h=>by simp [Mm.enterN] at h
 | k+1,m,f,a,r,res,hb,h=>by
  have hff:=hb.few
  by_cases hfn:f.kind=5
  ·have:∃ p vs,f = .fn p vs:=by cases f<;>simp [It.kind] at hfn;exact⟨_,_,rfl⟩
   obtain⟨p,vs,rfl⟩:=this
   have ⟨l1,l2⟩:=fn_lenM hb.hf
   have l3:a.more≤100000:=by have:=hb.ha.more;omega
   have z1:=szI_bd hb.hf
   have z2:=szI_bd hb.ha
   have hz:m.tab.nums.length+szI (.fn p vs)+szI a≤1152921504606846976:=by have:=hb.nums;omega
   simp only [Mm.enterN] at h
   split at h
   ·rename_i hpl
    split at h
    ·rename_i x hx
     have hBx:Bd b x:=by
      have:∀ (L:List (List Int × It)) (k:List Int) (x:It),rGet L k=some x→∃ e∈L,e.2=x:=by
       intro L
       induction L with
       | nil=>intro k x h;simp [rGet] at h
       | cons q L ih =>
        obtain⟨k',y⟩:=q
        intro k x h
        simp only [rGet] at h
        split at h
        ·cases h;exact⟨_,.head _,rfl⟩
        ·obtain⟨e,he,h2⟩:=ih _ _ h;exact⟨e,.tail _ he,h2⟩
      obtain⟨e,he,h2⟩:=this _ _ _ hx
      rw [← h2]
      exact hb.res e he
     split at h
     ·cases h
     ·rename_i r' hret
      cases h
      have hhits:=hb.hits
      have hst:=hb.st
      exact⟨_,_,.push (m1:={ m with tab:=m.tab.hit (.fn p vs) a }) rfl rfl,entR_done c l k m r p vs a hpl x hx (by omega) (by omega) hz hb.sh hb.rk r' (rd_ret hb.bb hb.hr hb.lt hret) (returned_result hret)⟩
     ·rename_i f' a' r' hret
      have hhits:=hb.hits
      have hnums:=hb.nums
      have hst:=hb.st
      obtain⟨o1,o2,o3,o4⟩:=RdOk.returned hb.hr hBx hb.lt hret f' a' rfl
      have hlen:=keyN_len m.tab.nums (.fn p vs) a
      have hb':EB b k { m with tab:=m.tab.hit (.fn p vs) a } f' a' r' :=
       ⟨hb.bb,o1,o2,o3,o4,hb.res,by simp only [Tab.hit];omega,by simp only [Tab.hit];omega,keyN_sh _ _ hb.sh,hb.rk,hff,hst⟩
      obtain⟨out,objs',hO,hR⟩:=ent920 c l b k _ f' a' r' res hb' h
      refine⟨out,objs',hO,entR_next c l k m r p vs a hpl x hx (by omega) (by omega) hz hb.sh hb.rk r' f' a' (rd_ret hb.bb hb.hr hb.lt hret) out objs' ?_⟩
      intro S U hS
      exact Rounds.weaken (weakR c l { m with tab:=m.tab.hit (.fn p vs) a } f' a' r' S U hS) hR
    ·rename_i hx
     simp only [Mm.into] at h
     split at h
     ·rename_i hfl
      cases h
      exact⟨_,_,.err,entR_missfull c l k m r p vs a hpl hfl (by omega) hx hz hb.sh hb.rk⟩
     ·rename_i hfl
      cases h
      exact⟨_,_,.into rfl rfl,entR_miss c l k m r p vs a hpl (by omega) l1 l2 l3 hx hz hb.sh hb.rk⟩
   ·rename_i hpl
    have hpl:plainC (.fn p vs) a=false:=by simpa using hpl
    simp only [Mm.into] at h
    split at h
    ·rename_i hfl
     cases h
     exact⟨_,_,.err,entR_npfull c l k m r p vs a hpl hfl (by omega)⟩
    ·rename_i hfl
     cases h
     exact⟨_,_,.into rfl rfl,entR_np c l k m r p vs a hpl (by omega) l1 l2 l3⟩
  ·have e:Mm.enterN (k+1) m f a (some (920,r))=some (.err 44):=by
    cases f<;>simp [It.kind] at hfn<;>rfl
   rw [e] at h
   cases h
   exact⟨_,_,.err,entR_stuck c l k m r f a hfn⟩
open Go.Lg
set_option maxRecDepth 10000
set_option maxHeartbeats 4000000
theorem frN_one (fr:Fr) (fs:List Fr):frN (fs++[fr]++[])=frN fs++frN [fr]:=by
 simp [frN]
theorem ent_ok (c:List Ins) (l b k:Nat) (m:Mm) (f a:It) (r:Rd) (res:Rm) (hb:EB b k m f a r) (h:Mm.enterN k m f a (some (920,r))=some res)
  (hN:∀ n∈frN (m.frames++m.fg),n=920∨1000≤n) :
  ∃ out objs',OutE c l m.frames m.fg res out objs'∧AC Tryz.prog gl 115 [.loc 901 0,.pv (itP f),.pv (itP a),.loc 920 0] (mO c l m++[(920,rdB r)]) out objs':=by
 obtain⟨out,objs',hO,hR⟩:=ent920 c l b k m f a r res hb h
 refine⟨out,objs',hO,?_⟩
 have hoth:∀ n∈oth m,1000≤n:=by
  intro n hn
  simp only [oth,List.mem_filter,decide_eq_true_eq] at hn
  have:=hN n hn.1
  omega
 have hk:∀ n∈keysO objs',n<1000:=by
  intro n hn
  cases hO
  ·simp [keysO] at hn
  ·have e:∀ m':Mm,∀ r:Rd,keysO (mO c l m'++[(920,rdB r)])=[901,902,903,980,981,982,983,984,985,920]:=fun _ _=>rfl
   rw [e] at hn
   simp at hn
   omega
  ·rw [keys_mO] at hn
   simp [keysM] at hn
   omega
 have hnames:∀ n∈out.names++namesOb objs',n∈KS m:=by
  intro n hn
  have hm:∀ m':Mm,(∀ n∈frN (m'.frames++m'.fg),n∈frN (m.frames++m.fg)∨n=920)→∀ n∈namesOb (mO c l m'),n∈KS m:=by
   intro m' h' n hn
   have h1:=namesOb_mO c l m' n hn
   have h2:=h' n
   simp only [KS,oth,List.mem_append,List.mem_cons,List.mem_filter,decide_eq_true_eq] at h1 ⊢
   grind
  cases hO
  ·simp [Go.Lg.Out.names,namesOb] at hn
  ·rename_i m' at_ vars f a r e1 e2
   have hm':=hm m' (by
    intro n hn
    rw [e1,e2,frN_one,List.mem_append] at hn
    rcases hn with hn|hn
    ·left
     simp only [frN,List.filterMap_append,List.mem_append] at hn ⊢
     exact Or.inl hn
    ·right
     simpa [frN] using hn)
   simp only [Go.Lg.Out.names,V.names,namesOb_app,namesOb,rdB_names,List.mem_append,List.mem_cons,List.not_mem_nil,or_false,false_or] at hn
   rcases hn with hn|hn
   ·exact hm' n hn
   ·simp [KS,hn]
  ·rename_i m1 x e1 e2
   have hm':=hm (m1.push x) (by
    intro n hn
    simp only [Mm.push,e1,e2] at hn
    exact .inl hn)
   simp only [Go.Lg.Out.names,V.names,List.mem_append,List.not_mem_nil,false_or] at hn
   exact hm' n hn
 refine bodyM (ks:=KS m) [] (oth m) Tryz.func115 Tryz.ntmps115 ?_ (hks:=rfl) (hms1:=?_) (hms2:=?_) (hms3:=?_) (hna:=?_) (hno:=?_)
 ·refine ex_block (ex_loop k ?_)
  exact Rounds.weaken (weakR c l m f a r _ (KS m) (by simp [slotsLe,getS,zipArgs])) hR
 ·rw [subL_iff]
  intro n hn
  simp only [oth,List.mem_filter] at hn
  simp only [mO,mentL,mentO_app,mentO,mF_names,List.mem_append]
  simp [hn.1]
 ·intro n hn hx
  have:=hoth n hn
  have e:keysO (mO c l m++[(920,rdB r)])=[901,902,903,980,981,982,983,984,985,920]:=rfl
  rw [e] at hx
  simp at hx
  omega
 ·intro n hn hx
  have:=hoth n hn
  have:=hk n hx
  omega
 ·rw [subL_iff]
  intro n hn
  rcases List.mem_append.1 hn with hn|hn
  ·simp only [namesL,V.names,List.mem_append,List.mem_cons,List.not_mem_nil,or_false,false_or] at hn
   simp only [KS,keysM,List.mem_append,List.mem_cons]
   grind
  ·exact namesR c l m r n hn
 ·rw [subL_iff]
  intro n hn
  exact List.mem_append.2 (.inl (hnames n hn))
end Go.Proofs.YtodjpfpmhjdhbaaGreatDoor
