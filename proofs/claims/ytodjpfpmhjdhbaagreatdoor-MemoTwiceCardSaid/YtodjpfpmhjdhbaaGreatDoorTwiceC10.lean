/- Contracts of functions; no conditions. -/
import Derived.Test.YtodjpfpmhjdhbaaGreatDoorTwiceC9
set_option linter.all false
namespace Go.Proofs.YtodjpfpmhjdhbaaGreatDoor
open Go.Lg
theorem enC10 {P Q : Prop} (h : P := by simp [retIs,resV,resL,resOne,mkTup,getS,getO,rdV,mkAgg,unL,V.un,TI.isAgg,XX_T,tt30,Tryz.f131]) (k : Q := by simp [subO,getO,tt30,Tryz.f131]) : P ∧ Q := ⟨h,k⟩
end Go.Proofs.YtodjpfpmhjdhbaaGreatDoor
namespace Go.Proofs.YtodjpfpmhjdhbaaGreatDoor
open Go.Lg
set_option maxRecDepth 10000
set_option maxHeartbeats 4000000
def pop3 (m:Mm) (s:List It) (b f x:It):Mm:={ m with stack:=s,sg:=b::f::x::m.sg }
theorem mO_5 (c:List Ins) (l:Nat) (m m':Mm) (r:Rd) (h:∀ n∈frN (m'.frames++m'.fg),n∈frN (m.frames++m.fg)∨n=920):subL ((Go.Lg.Out.ret (.pv (.tuple []))).names++namesOb (mO c l m'++[(920,rdB r)])) ((keysM++frN (m.frames++m.fg))++keysO (mO c l m'++[(920,rdB r)])):=by
 rw [subL_iff]
 intro n hn
 have e:keysO (mO c l m'++[(920,rdB r)])=keysM++[920]:=rfl
 rw [e]
 simp only [Go.Lg.Out.names,V.names,List.nil_append,namesOb_app,namesOb,rdB_names,List.append_nil] at hn
 have h2:=h n
 rcases List.mem_append.1 hn with hn|hn
 ·have h1:=namesOb_mO c l m' n hn
  simp only [List.mem_append,List.mem_cons] at h1 ⊢
  grind
 ·simp only [List.mem_append,List.mem_cons] at hn ⊢
  grind
theorem mO_6 (c:List Ins) (l:Nat) (m':Mm) (r:Rd) {L:List Nat} (hN:∀ n∈L,1000≤n):∀ n∈L,n ∉ keysO (mO c l m'++[(920,rdB r)]):=by
 intro n hn
 have:=hN n hn
 have e:keysO (mO c l m'++[(920,rdB r)])=keysM++[920]:=rfl
 rw [e]
 simp [keysM]
 omega
section
variable (c:List Ins) (l:Nat) (m:Mm) (s:List It) (b f x:It) (hs:m.stack=s++[b,f,x]) (hl:m.stack.length≤1000000) (hN:∀ n∈frN (m.frames++m.fg),1000≤n)
include hs hl hN
theorem rec_err (list:Bool) (hf:¬ f.kind=5):AC Tryz.prog gl 131 [.loc 901 0,.pv (.bool list)] (mO c l m) (.panic (fail 44)) []:=by
 have p1:=pop_ok c l m (s++[b,f]) x (by simp [hs]) hl
 have p2:=pop_ok c l { m with stack:=s++[b,f],sg:=x::m.sg } (s++[b]) f (by simp) (by simp [hs] at hl ⊢;omega)
 have p3:=pop_ok c l { m with stack:=s++[b],sg:=f::x::m.sg } s b rfl (by simp [hs] at hl ⊢;omega)
 have hw:=want_err f 5 hf
 refine bodyM (ks:=keysM++frN (m.frames++m.fg)) [] (frN (m.frames++m.fg)) Tryz.func131 Tryz.ntmps131 ?_ (hks:=rfl) (hms1:=mO_1 c l m _) (hms2:=mO_2 c l m hN) (hms3:=by simp [keysO]) (hna:=mO_3 c l m (by simp [namesL,V.names])) (hno:=by simp [subL,Go.Lg.Out.names,namesOb])
 clear hN
 simp only [mO]
 unfold keysM
 unfold tabO tabN at *
 simp only [List.cons_append,List.nil_append] at *
 generalize tB m.tab.hits=T0 at *
 generalize Ob.imap (numE 0 m.tab.nums)=T1 at *
 generalize Ob.cache (DI m.tab.nums) (FI m.tab.nums)=T2 at *
 generalize Ob.cache (DL m.tab.nums) (FL m.tab.nums)=T3 at *
 generalize Ob.cache (DV m.tab.nums) (FV m.tab.nums)=T4 at *
 generalize Ob.imap (resE m.tab.res)=T5 at *
 generalize frN (m.frames++m.fg)=ms at *
 generalize mF m=F0 at *
 generalize mB c l m=B0 at *
 generalize mS m=S0 at *
 generalize mB c l { m with stack:=s++[b,f],sg:=x::m.sg } = B1 at *
 generalize mS { m with stack:=s++[b,f],sg:=x::m.sg } = S1 at *
 generalize mB c l { m with stack:=s++[b],sg:=f::x::m.sg } = B2 at *
 generalize mS { m with stack:=s++[b],sg:=f::x::m.sg } = S2 at *
 generalize mB c l { m with stack:=s,sg:=b::f::x::m.sg } = B3 at *
 generalize mS { m with stack:=s,sg:=b::f::x::m.sg } = S3 at *
 unfold fail at *
 refine gg ?_
 refine call p1 ?_
 refine gg ?_
 refine call p2 ?_
 refine gg ?_
 refine call p3 ?_
 refine gg ?_
 refine callP hw ?_
 refine gg ?_
 exact⟨rfl,trivial⟩
theorem rec_err2 (list:Bool) (hf:f.kind=5) (hx:¬ x.kind=bif list then 2 else 1):AC Tryz.prog gl 131 [.loc 901 0,.pv (.bool list)] (mO c l m) (.panic (fail 44)) []:=by
 have p1:=pop_ok c l m (s++[b,f]) x (by simp [hs]) hl
 have p2:=pop_ok c l { m with stack:=s++[b,f],sg:=x::m.sg } (s++[b]) f (by simp) (by simp [hs] at hl ⊢;omega)
 have p3:=pop_ok c l { m with stack:=s++[b],sg:=f::x::m.sg } s b rfl (by simp [hs] at hl ⊢;omega)
 have hw:=want_ok f
 rw [hf] at hw
 have hw2:=want_err x _ hx
 have q1:=vcells_one (itP_one f)
 have q2:=vcells_one (itP_one b)
 have q3:(V.pv (itP f)).one=true:=by rw [one_pv];exact itP_one f
 have q4:(V.pv (itP b)).one=true:=by rw [one_pv];exact itP_one b
 refine bodyM (ks:=keysM++frN (m.frames++m.fg)) [(24,.box 920)] (frN (m.frames++m.fg)) Tryz.func131 Tryz.ntmps131 ?_ (hks:=rfl) (hms1:=mO_1 c l m _) (hms2:=mO_2 c l m hN) (hms3:=by simp [keysO]) (hna:=mO_3 c l m (by simp [namesL,V.names])) (hno:=by simp [subL,Go.Lg.Out.names,namesOb])
 have h920:920 ∉ frN (m.frames++m.fg):=fun h=>by have:=hN 920 h;omega
 clear hN
 simp only [mO]
 unfold keysM
 unfold tabO tabN at *
 simp only [List.cons_append,List.nil_append] at *
 generalize tB m.tab.hits=T0 at *
 generalize Ob.imap (numE 0 m.tab.nums)=T1 at *
 generalize Ob.cache (DI m.tab.nums) (FI m.tab.nums)=T2 at *
 generalize Ob.cache (DL m.tab.nums) (FL m.tab.nums)=T3 at *
 generalize Ob.cache (DV m.tab.nums) (FV m.tab.nums)=T4 at *
 generalize Ob.imap (resE m.tab.res)=T5 at *
 generalize frN (m.frames++m.fg)=ms at *
 generalize mF m=F0 at *
 generalize mB c l m=B0 at *
 generalize mS m=S0 at *
 generalize mB c l { m with stack:=s++[b,f],sg:=x::m.sg } = B1 at *
 generalize mS { m with stack:=s++[b,f],sg:=x::m.sg } = S1 at *
 generalize mB c l { m with stack:=s++[b],sg:=f::x::m.sg } = B2 at *
 generalize mS { m with stack:=s++[b],sg:=f::x::m.sg } = S2 at *
 generalize mB c l { m with stack:=s,sg:=b::f::x::m.sg } = B3 at *
 generalize mS { m with stack:=s,sg:=b::f::x::m.sg } = S3 at *
 unfold fail at *
 generalize itP f=vf at *
 generalize itP b=vb at *
 cases list
 all_goals simp only [cond_true,cond_false] at *
 all_goals refine gg ?_
 all_goals refine call p1 ?_
 all_goals refine gg ?_
 all_goals refine call p2 ?_
 all_goals refine gg ?_
 all_goals refine call p3 ?_
 all_goals refine gg ?_
 all_goals refine call hw ?_
 all_goals refine gg ?_
 all_goals refine callP hw2 ?_
 all_goals refine gg ?_
 all_goals exact⟨rfl,trivial⟩
theorem rec_zero (list:Bool) (hf:f.kind=5) (hx:x=bif list then .list [] else .num 0):AC Tryz.prog gl 131 [.loc 901 0,.pv (.bool list)] (mO c l m) (.ret (.pv (.tuple []))) (mO c l ((pop3 m s b f x).push b)):=by
 have p1:=pop_ok c l m (s++[b,f]) x (by simp [hs]) hl
 have p2:=pop_ok c l { m with stack:=s++[b,f],sg:=x::m.sg } (s++[b]) f (by simp) (by simp [hs] at hl ⊢;omega)
 have p3:=pop_ok c l { m with stack:=s++[b],sg:=f::x::m.sg } s b rfl (by simp [hs] at hl ⊢;omega)
 have hw:=want_ok f
 rw [hf] at hw
 have hw2:=want_ok x
 have hp:=push_ok c l (pop3 m s b f x) b (by simp [hs] at hl;simp [pop3];omega)
 have q1:=vcells_one (itP_one f)
 have q2:=vcells_one (itP_one b)
 have q3:(V.pv (itP f)).one=true:=by rw [one_pv];exact itP_one f
 have q4:(V.pv (itP b)).one=true:=by rw [one_pv];exact itP_one b
 refine bodyM (ks:=keysM++frN (m.frames++m.fg)) [(24,.box 920),(29,.arr 951 1 87),(8,.arr 952 1 163)] (frN (m.frames++m.fg)) Tryz.func131 Tryz.ntmps131 ?_ (hks:=rfl) (hms1:=mO_1 c l m _) (hms2:=mO_2 c l m hN) (hms3:=mO_2 c l _ hN) (hna:=mO_3 c l m (by simp [namesL,V.names])) (hno:=mO_4 c l m _ rfl (fun n hn=>hn))
 ·unfold pop3 at *
  have h920:920 ∉ frN (m.frames++m.fg):=fun h=>by have:=hN 920 h;omega
  have h951:951 ∉ frN (m.frames++m.fg):=fun h=>by have:=hN 951 h;omega
  have h952:952 ∉ frN (m.frames++m.fg):=fun h=>by have:=hN 952 h;omega
  clear hN
  have eT:(Mm.push { m with stack:=s,sg:=b::f::x::m.sg } b).tab=m.tab:=rfl
  simp only [mO,eT]
  unfold keysM
  unfold tabO tabN at *
  simp only [List.cons_append,List.nil_append] at *
  generalize tB m.tab.hits=T0 at *
  generalize Ob.imap (numE 0 m.tab.nums)=T1 at *
  generalize Ob.cache (DI m.tab.nums) (FI m.tab.nums)=T2 at *
  generalize Ob.cache (DL m.tab.nums) (FL m.tab.nums)=T3 at *
  generalize Ob.cache (DV m.tab.nums) (FV m.tab.nums)=T4 at *
  generalize Ob.imap (resE m.tab.res)=T5 at *
  have e1:mF (Mm.push { m with stack:=s,sg:=b::f::x::m.sg } b)=mF m:=rfl
  rw [e1]
  generalize frN (m.frames++m.fg)=ms at *
  generalize mF m=F0 at *
  generalize mB c l m=B0 at *
  generalize mS m=S0 at *
  generalize mB c l { m with stack:=s++[b,f],sg:=x::m.sg } = B1 at *
  generalize mS { m with stack:=s++[b,f],sg:=x::m.sg } = S1 at *
  generalize mB c l { m with stack:=s++[b],sg:=f::x::m.sg } = B2 at *
  generalize mS { m with stack:=s++[b],sg:=f::x::m.sg } = S2 at *
  generalize mB c l { m with stack:=s,sg:=b::f::x::m.sg } = B3 at *
  generalize mS { m with stack:=s,sg:=b::f::x::m.sg } = S3 at *
  generalize mB c l (Mm.push { m with stack:=s,sg:=b::f::x::m.sg } b)=B4 at *
  generalize mS (Mm.push { m with stack:=s,sg:=b::f::x::m.sg } b)=S4 at *
  clear hs
  generalize itP f=vf at *
  generalize itP b=vb at *
  cases list
  ·simp only [cond_false] at hx
   subst hx
   simp only [It.kind,itP,Int.cast_ofNat_Int] at *
   refine gg ?_
   refine call p1 ?_
   refine gg ?_
   refine call p2 ?_
   refine gg ?_
   refine call p3 ?_
   refine gg ?_
   refine call hw ?_
   refine gg ?_
   refine call hw2 ?_
   refine gg ?_
   refine call hp ?_
   refine gg ?_
   exact enC10
  ·simp only [cond_true] at hx
   subst hx
   simp only [It.kind,itP,linkP,Int.cast_ofNat_Int] at *
   refine gg ?_
   refine call p1 ?_
   refine gg ?_
   refine call p2 ?_
   refine gg ?_
   refine call p3 ?_
   refine gg ?_
   refine call hw ?_
   refine gg ?_
   refine call hw2 ?_
   refine gg ?_
   refine ex_loop 1 (ex_round ?_)
   refine gg ?_
   refine ex_loop 1 (ex_round ?_)
   refine gg ?_
   refine call hp ?_
   refine gg ?_
   exact enC10
theorem rec_nat_full (k:Nat) (hk:¬ k=0) (hk2:k≤1000000) (p:Nat) (vs:List It) (hf:f = .fn p vs) (hx:x = .num k) (r:Rd) (hr:r=⟨f,0,none,k,b,[b]⟩) (q:PV)
  (he:AC Tryz.prog gl 115 [.loc 901 0,.pv (itP f),.pv (itP (.num 0)),.loc 920 0] (mO c l (pop3 m s b f x)++[(920,rdB r)]) (.panic q) []) :
  AC Tryz.prog gl 131 [.loc 901 0,.pv (.bool false)] (mO c l m) (.panic q) []:=by
 have p1:=pop_ok c l m (s++[b,f]) x (by simp [hs]) hl
 have p2:=pop_ok c l { m with stack:=s++[b,f],sg:=x::m.sg } (s++[b]) f (by simp) (by simp [hs] at hl ⊢;omega)
 have p3:=pop_ok c l { m with stack:=s++[b],sg:=f::x::m.sg } s b rfl (by simp [hs] at hl ⊢;omega)
 have hw:=want_ok f
 have hkf:f.kind=5:=by rw [hf];rfl
 rw [hkf] at hw
 have hw2:=want_ok x
 have hb:=begin_nat_ok ⟨f,0,none,k,b,[]⟩ .nils rfl (by simp)
 have eF:mF (pop3 m s b f x)=mF m:=rfl
 have eT:(pop3 m s b f x).tab=m.tab:=rfl
 simp only [mO,eF,eT] at he
 have q1:=vcells_one (itP_one f)
 have q2:=vcells_one (itP_one b)
 have q3:(V.pv (itP f)).one=true:=by rw [one_pv];exact itP_one f
 have q4:(V.pv (itP b)).one=true:=by rw [one_pv];exact itP_one b
 refine bodyM (ks:=keysM++frN (m.frames++m.fg)) [(24,.box 920)] (frN (m.frames++m.fg)) Tryz.func131 Tryz.ntmps131 ?_ (hks:=rfl) (hms1:=mO_1 c l m _) (hms2:=mO_2 c l m hN)  (hna:=mO_3 c l m (by simp [namesL,V.names])) (hms3:=by simp [keysO]) (hno:=by simp [subL,Go.Lg.Out.names,namesOb])
 ·simp only [mO]
  unfold keysM
  unfold tabO tabN at *
  simp only [List.cons_append,List.nil_append] at *
  unfold pop3 at he
  clear eF eT
  generalize tB m.tab.hits=T0 at *
  generalize Ob.imap (numE 0 m.tab.nums)=T1 at *
  generalize Ob.cache (DI m.tab.nums) (FI m.tab.nums)=T2 at *
  generalize Ob.cache (DL m.tab.nums) (FL m.tab.nums)=T3 at *
  generalize Ob.cache (DV m.tab.nums) (FV m.tab.nums)=T4 at *
  generalize Ob.imap (resE m.tab.res)=T5 at *
  have h920:920 ∉ frN (m.frames++m.fg):=fun h=>by have:=hN 920 h;omega
  have h951:951 ∉ frN (m.frames++m.fg):=fun h=>by have:=hN 951 h;omega
  have h952:952 ∉ frN (m.frames++m.fg):=fun h=>by have:=hN 952 h;omega
  clear hN
  generalize frN (m.frames++m.fg)=ms at *
  generalize mF m=F0 at *
  generalize mB c l m=B0 at *
  generalize mS m=S0 at *
  generalize mB c l { m with stack:=s++[b,f],sg:=x::m.sg } = B1 at *
  generalize mS { m with stack:=s++[b,f],sg:=x::m.sg } = S1 at *
  generalize mB c l { m with stack:=s++[b],sg:=f::x::m.sg } = B2 at *
  generalize mS { m with stack:=s++[b],sg:=f::x::m.sg } = S2 at *
  generalize mB c l { m with stack:=s,sg:=b::f::x::m.sg } = B3 at *
  generalize mS { m with stack:=s,sg:=b::f::x::m.sg } = S3 at *
  subst hr hx
  simp only [rdB,rB,argsP,rpV,It.kind,itP,Int.cast_ofNat_Int,List.map_cons,List.map_nil,itC] at *
  have hk0:¬ (k:Int)=0:=by omega
  clear hs hf hkf
  generalize itP f=vf at *
  generalize itP b=vb at *
  refine gg ?_
  refine call p1 ?_
  refine gg ?_
  refine call p2 ?_
  refine gg ?_
  refine call p3 ?_
  refine gg ?_
  refine call hw ?_
  refine gg ?_
  refine call hw2 ?_
  refine gg ?_
  refine call hb ?_
  refine gg ?_
  refine callP he ?_
  refine gg ?_
  exact⟨rfl,trivial⟩
theorem rec_nat_into (k:Nat) (hk:¬ k=0) (hk2:k≤1000000) (p:Nat) (vs:List It) (hf:f = .fn p vs) (hx:x = .num k) (r:Rd) (hr:r=⟨f,0,none,k,b,[b]⟩) (m':Mm) (r2:Rd) (hm':∀ n∈frN (m'.frames++m'.fg),n∈frN (m.frames++m.fg)∨n=920)
  (he:AC Tryz.prog gl 115 [.loc 901 0,.pv (itP f),.pv (itP (.num 0)),.loc 920 0] (mO c l (pop3 m s b f x)++[(920,rdB r)]) (.ret (.pv (.tuple []))) (mO c l m'++[(920,rdB r2)])) :
  AC Tryz.prog gl 131 [.loc 901 0,.pv (.bool false)] (mO c l m) (.ret (.pv (.tuple []))) (mO c l m'++[(920,rdB r2)]):=by
 have p1:=pop_ok c l m (s++[b,f]) x (by simp [hs]) hl
 have p2:=pop_ok c l { m with stack:=s++[b,f],sg:=x::m.sg } (s++[b]) f (by simp) (by simp [hs] at hl ⊢;omega)
 have p3:=pop_ok c l { m with stack:=s++[b],sg:=f::x::m.sg } s b rfl (by simp [hs] at hl ⊢;omega)
 have hw:=want_ok f
 have hkf:f.kind=5:=by rw [hf];rfl
 rw [hkf] at hw
 have hw2:=want_ok x
 have hb:=begin_nat_ok ⟨f,0,none,k,b,[]⟩ .nils rfl (by simp)
 have eF:mF (pop3 m s b f x)=mF m:=rfl
 have eT:(pop3 m s b f x).tab=m.tab:=rfl
 simp only [mO,eF,eT] at he
 have q1:=vcells_one (itP_one f)
 have q2:=vcells_one (itP_one b)
 have q3:(V.pv (itP f)).one=true:=by rw [one_pv];exact itP_one f
 have q4:(V.pv (itP b)).one=true:=by rw [one_pv];exact itP_one b
 refine bodyM (ks:=keysM++frN (m.frames++m.fg)) [(24,.box 920)] (frN (m.frames++m.fg)) Tryz.func131 Tryz.ntmps131 ?_ (hks:=rfl) (hms1:=mO_1 c l m _) (hms2:=mO_2 c l m hN)  (hna:=mO_3 c l m (by simp [namesL,V.names])) (hms3:=mO_6 c l m' r2 hN) (hno:=mO_5 c l m m' r2 hm')
 ·simp only [mO]
  unfold keysM
  unfold tabO tabN at *
  simp only [List.cons_append,List.nil_append] at *
  unfold pop3 at he
  clear eF eT
  clear hm'
  generalize mB c l m'=B4 at *
  generalize mS m'=S4 at *
  generalize mF m'=F4 at *
  generalize tB m'.tab.hits=U0 at *
  generalize Ob.imap (numE 0 m'.tab.nums)=U1 at *
  generalize Ob.cache (DI m'.tab.nums) (FI m'.tab.nums)=U2 at *
  generalize Ob.cache (DL m'.tab.nums) (FL m'.tab.nums)=U3 at *
  generalize Ob.cache (DV m'.tab.nums) (FV m'.tab.nums)=U4 at *
  generalize Ob.imap (resE m'.tab.res)=U5 at *
  generalize rdB r2=RB2 at *
  generalize tB m.tab.hits=T0 at *
  generalize Ob.imap (numE 0 m.tab.nums)=T1 at *
  generalize Ob.cache (DI m.tab.nums) (FI m.tab.nums)=T2 at *
  generalize Ob.cache (DL m.tab.nums) (FL m.tab.nums)=T3 at *
  generalize Ob.cache (DV m.tab.nums) (FV m.tab.nums)=T4 at *
  generalize Ob.imap (resE m.tab.res)=T5 at *
  have h920:920 ∉ frN (m.frames++m.fg):=fun h=>by have:=hN 920 h;omega
  have h951:951 ∉ frN (m.frames++m.fg):=fun h=>by have:=hN 951 h;omega
  have h952:952 ∉ frN (m.frames++m.fg):=fun h=>by have:=hN 952 h;omega
  clear hN
  generalize frN (m.frames++m.fg)=ms at *
  generalize mF m=F0 at *
  generalize mB c l m=B0 at *
  generalize mS m=S0 at *
  generalize mB c l { m with stack:=s++[b,f],sg:=x::m.sg } = B1 at *
  generalize mS { m with stack:=s++[b,f],sg:=x::m.sg } = S1 at *
  generalize mB c l { m with stack:=s++[b],sg:=f::x::m.sg } = B2 at *
  generalize mS { m with stack:=s++[b],sg:=f::x::m.sg } = S2 at *
  generalize mB c l { m with stack:=s,sg:=b::f::x::m.sg } = B3 at *
  generalize mS { m with stack:=s,sg:=b::f::x::m.sg } = S3 at *
  subst hr hx
  simp only [rdB,rB,argsP,rpV,It.kind,itP,Int.cast_ofNat_Int,List.map_cons,List.map_nil,itC] at *
  have hk0:¬ (k:Int)=0:=by omega
  clear hs hf hkf
  generalize itP f=vf at *
  generalize itP b=vb at *
  refine gg ?_
  refine call p1 ?_
  refine gg ?_
  refine call p2 ?_
  refine gg ?_
  refine call p3 ?_
  refine gg ?_
  refine call hw ?_
  refine gg ?_
  refine call hw2 ?_
  refine gg ?_
  refine call hb ?_
  refine gg ?_
  refine call he ?_
  refine gg ?_
  exact enC10
theorem rec_nat_push (k:Nat) (hk:¬ k=0) (hk2:k≤1000000) (p:Nat) (vs:List It) (hf:f = .fn p vs) (hx:x = .num k) (r:Rd) (hr:r=⟨f,0,none,k,b,[b]⟩) (m':Mm) (hm':∀ n∈frN (m'.frames++m'.fg),n∈frN (m.frames++m.fg))
  (he:AC Tryz.prog gl 115 [.loc 901 0,.pv (itP f),.pv (itP (.num 0)),.loc 920 0] (mO c l (pop3 m s b f x)++[(920,rdB r)]) (.ret (.pv (.tuple []))) (mO c l m')) :
  AC Tryz.prog gl 131 [.loc 901 0,.pv (.bool false)] (mO c l m) (.ret (.pv (.tuple []))) (mO c l m'):=by
 have p1:=pop_ok c l m (s++[b,f]) x (by simp [hs]) hl
 have p2:=pop_ok c l { m with stack:=s++[b,f],sg:=x::m.sg } (s++[b]) f (by simp) (by simp [hs] at hl ⊢;omega)
 have p3:=pop_ok c l { m with stack:=s++[b],sg:=f::x::m.sg } s b rfl (by simp [hs] at hl ⊢;omega)
 have hw:=want_ok f
 have hkf:f.kind=5:=by rw [hf];rfl
 rw [hkf] at hw
 have hw2:=want_ok x
 have hb:=begin_nat_ok ⟨f,0,none,k,b,[]⟩ .nils rfl (by simp)
 have eF:mF (pop3 m s b f x)=mF m:=rfl
 have eT:(pop3 m s b f x).tab=m.tab:=rfl
 simp only [mO,eF,eT] at he
 have q1:=vcells_one (itP_one f)
 have q2:=vcells_one (itP_one b)
 have q3:(V.pv (itP f)).one=true:=by rw [one_pv];exact itP_one f
 have q4:(V.pv (itP b)).one=true:=by rw [one_pv];exact itP_one b
 refine bodyM (ks:=keysM++frN (m.frames++m.fg)) [(24,.box 920)] (frN (m.frames++m.fg)) Tryz.func131 Tryz.ntmps131 ?_ (hks:=rfl) (hms1:=mO_1 c l m _) (hms2:=mO_2 c l m hN)  (hna:=mO_3 c l m (by simp [namesL,V.names])) (hms3:=mO_2 c l m' hN) (hno:=mO_4 c l m m' rfl hm')
 ·simp only [mO]
  unfold keysM
  unfold tabO tabN at *
  simp only [List.cons_append,List.nil_append] at *
  unfold pop3 at he
  clear eF eT
  clear hm'
  generalize mB c l m'=B4 at *
  generalize mS m'=S4 at *
  generalize mF m'=F4 at *
  generalize tB m'.tab.hits=U0 at *
  generalize Ob.imap (numE 0 m'.tab.nums)=U1 at *
  generalize Ob.cache (DI m'.tab.nums) (FI m'.tab.nums)=U2 at *
  generalize Ob.cache (DL m'.tab.nums) (FL m'.tab.nums)=U3 at *
  generalize Ob.cache (DV m'.tab.nums) (FV m'.tab.nums)=U4 at *
  generalize Ob.imap (resE m'.tab.res)=U5 at *
  generalize tB m.tab.hits=T0 at *
  generalize Ob.imap (numE 0 m.tab.nums)=T1 at *
  generalize Ob.cache (DI m.tab.nums) (FI m.tab.nums)=T2 at *
  generalize Ob.cache (DL m.tab.nums) (FL m.tab.nums)=T3 at *
  generalize Ob.cache (DV m.tab.nums) (FV m.tab.nums)=T4 at *
  generalize Ob.imap (resE m.tab.res)=T5 at *
  have h920:920 ∉ frN (m.frames++m.fg):=fun h=>by have:=hN 920 h;omega
  have h951:951 ∉ frN (m.frames++m.fg):=fun h=>by have:=hN 951 h;omega
  have h952:952 ∉ frN (m.frames++m.fg):=fun h=>by have:=hN 952 h;omega
  clear hN
  generalize frN (m.frames++m.fg)=ms at *
  generalize mF m=F0 at *
  generalize mB c l m=B0 at *
  generalize mS m=S0 at *
  generalize mB c l { m with stack:=s++[b,f],sg:=x::m.sg } = B1 at *
  generalize mS { m with stack:=s++[b,f],sg:=x::m.sg } = S1 at *
  generalize mB c l { m with stack:=s++[b],sg:=f::x::m.sg } = B2 at *
  generalize mS { m with stack:=s++[b],sg:=f::x::m.sg } = S2 at *
  generalize mB c l { m with stack:=s,sg:=b::f::x::m.sg } = B3 at *
  generalize mS { m with stack:=s,sg:=b::f::x::m.sg } = S3 at *
  subst hr hx
  simp only [rdB,rB,argsP,rpV,It.kind,itP,Int.cast_ofNat_Int,List.map_cons,List.map_nil,itC] at *
  have hk0:¬ (k:Int)=0:=by omega
  clear hs hf hkf
  generalize itP f=vf at *
  generalize itP b=vb at *
  refine gg ?_
  refine call p1 ?_
  refine gg ?_
  refine call p2 ?_
  refine gg ?_
  refine call p3 ?_
  refine gg ?_
  refine call hw ?_
  refine gg ?_
  refine call hw2 ?_
  refine gg ?_
  refine call hb ?_
  refine gg ?_
  refine call he ?_
  refine gg ?_
  exact enC10
end
end Go.Proofs.YtodjpfpmhjdhbaaGreatDoor
