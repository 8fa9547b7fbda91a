/- Contracts of functions; no conditions. -/
import Derived.Test.YtodjpfpmhjdhbaaGreatDoorTwiceC13
set_option linter.all false
namespace Go.Proofs.YtodjpfpmhjdhbaaGreatDoor
open Go.Lg
theorem enC14 {P Q : Prop} (h : P := by simp [retIs,resV,resL,resOne,mkTup,getS,getO,rdV,mkAgg,unL,V.un,TI.isAgg,XX_T,tt30,Tryz.f113]) (k : Q := by simp [subO,getO,tt30,Tryz.f113]) : P ∧ Q := ⟨h,k⟩
end Go.Proofs.YtodjpfpmhjdhbaaGreatDoor
namespace Go.Proofs.YtodjpfpmhjdhbaaGreatDoor
open Go.Lg
set_option maxRecDepth 10000
set_option maxHeartbeats 4000000
section
variable (c:List Ins) (l:Nat) (m:Mm) (p:Nat) (hat:m.at_=((p:Nat):Int)) (hst:¬ m.steps=l) (hsl:m.steps≤1000000) (hp:p≤1000000) (hN:∀ n∈frN (m.frames++m.fg),1000≤n) (hl:m.stack.length≤900000)
include hat hst hsl hp hN hl
theorem step_var_err (a:Nat) (ha:a≤1000000) (hx:m.vars[a]? = none) (hc:c[p]? = some (1,a)):AC Tryz.prog gl 113 [.loc 901 0] (mO3 c l m) (.panic (fail 44)) []:=by
 have hal:m.vars.length≤a:=by simpa using hx
 refine bodyM (c:=c67) (ks:=[901,902,903]++fr3 m) [] (fr3 m) Tryz.func113 Tryz.ntmps113 ?_ (hks:=rfl) (hms1:=mO3_1 c l m) (hms2:=mO3_2 c l m (lo3 (by omega) (fun n hn=>by have:=hN n hn;omega))) (hms3:=by simp [keysO]) (hna:=mO3_3 c l m rfl) (hno:=by simp [subL,Go.Lg.Out.names,namesOb])
 refine step_pre c l m p 1 a hat hc hst hsl hp (mS m) (mF m) (mS m) _ (fun h=>by have:=lo3 (k:=905) (by omega) (fun n hn=>by have:=hN n hn;omega) 3 h;omega) (by simp [fr3]) _ (mS_names m) (hF_of m) (mS_names m) ?_ (fun _ h=>h)
 simp only [sw67,right,c67,Tryz.f113,Option.getD_some]
 have h3:3 ∉ fr3 m:=fun h=>by have:=lo3 (k:=905) (by omega) (fun n hn=>by have:=hN n hn;omega) 3 h;omega
 have h9:980∈fr3 m:=by simp [fr3]
 clear hN
 have hFn:∀ n∈(mF m).names,n∈fr3 m:=by intro n hn;rw [mF_names] at hn;simp [fr3,hn]
 have hSn:=mS_names m
 generalize fr3 m=ms at *
 unfold fail
 generalize mS m=S1 at *
 generalize mF m=F1 at *
 simp only [mB] at *
 generalize c.map insP=cs at *
 generalize hn1:(nxt m).sv=n1 at *
 generalize hn2:(nxt m).fv=n2 at *
 generalize hn3:(nxt m).steps=n3 at *
 generalize hn4:(nxt m).at_=n4 at *
 generalize hn5:(nxt m).stack.length=n5 at *
 generalize hn6:(nxt m).frames.length=n6 at *
 have hvs:(nxt m).vars=m.vars:=rfl
 simp only [hvs]
 clear hvs
 refine gg ?_
 refine AWP.loopN m.vars.length (fun k=>⟨[(0,.loc 901 0),(3,.loc 3 0),(4,.pv (varsP (m.vars.drop k))),(5,.pv (.int k))],[(901,.box [.pv (.slice cs),.pv (.int l),.pv (.int n3),.bfn 95 [.loc 980 0],.bfn 96 [.loc 980 0],.arr 902 n1 n5,.arr 903 n2 n6,.pv (.int n4),.pv (varsP m.vars)]),(902,S1),(903,F1),(3,.box [.pv (.int 1),.pv (.int a)])],[3,901,902,903]++ms⟩) ?_ ?_
 ·refine⟨by simp [slotsLe,getS],by simp [subO,getO],?_⟩
  rw [subL_iff]
  intro n hn
  have:=hFn n
  simp only [namesSl,V.names,namesOb,obn_box,namesL,XX_given,hSn,List.mem_append,List.mem_cons,List.not_mem_nil,or_false,false_or,List.append_nil,List.nil_append,List.cons_append] at hn this ⊢
  grind
 intro k hk
 by_cases h:k<m.vars.length
 ·have h':(k:Int)<a:=by omega
  obtain⟨y,t,hyt⟩:∃ y t,m.vars.drop k=y::t:=by
   cases e:m.vars.drop k with
   | nil=>simp at e;omega
   | cons y t=>exact⟨y,t,rfl⟩
  have ht1:m.vars.drop (k+1)=t:=by rw [← List.drop_drop,hyt];rfl
  clear hx
  rw [hyt]
  simp only [varsP]
  generalize hvt:varsP t=vt at *
  generalize itP y=vy at *
  generalize varsP m.vars=vv at *
  refine gg ?_
  refine⟨h,?_,?_,?_⟩
  ·simp [slotsLe,getS,ht1,hvt]
  ·simp [subO,getO]
  ·rw [subL_iff]
   intro n hn
   have:=hFn n
   simp only [namesSl,V.names,namesOb,obn_box,namesL,XX_given,hSn,List.mem_append,List.mem_cons,List.not_mem_nil,or_false,false_or,List.append_nil,List.nil_append,List.cons_append] at hn this ⊢
   grind
 ·have hka:k=m.vars.length:=by omega
  subst hka
  have hdn:m.vars.drop m.vars.length=[]:=by simp
  rw [hdn]
  simp only [varsP]
  generalize hvv:varsP m.vars=vv at *
  clear hx hvv hdn
  by_cases h':(m.vars.length:Int)<a
  ·refine gg ?_
   refine pnc (t:=179) (p:=.agg [.int 44]) ?_
   refine gg ?_
   exact⟨rfl,trivial⟩
  ·refine gg ?_
   refine pnc (t:=179) (p:=.agg [.int 44]) ?_
   refine gg ?_
   exact⟨rfl,trivial⟩
theorem step_fun (a:Nat) (hm:insideL m.vars<1024) (hc:c[p]? = some (2,a)):AC Tryz.prog gl 113 [.loc 901 0] (mO3 c l m) (.ret (.pv (.bool true))) (mO3 c l ((nxt m).push (.fn a m.vars))):=by
 have hi:=inside_ok m.vars
 have v1:=vcells_one (varsP_one m.vars)
 have o1:=varsP_one m.vars
 have p1:=push_ok c l (nxt m) (.fn a m.vars) (by simp [nxt];omega)
 have eS:mS (nxt m)=mS m:=rfl
 have eF:mF ((nxt m).push (.fn a m.vars))=mF m:=rfl
 rw [eS] at p1
 have hma:=made_ok (.fn a m.vars) hm
 refine bodyM (c:=c67) (ks:=[901,902,903]++fr3 m) [] (fr3 m) Tryz.func113 Tryz.ntmps113 ?_ (hks:=rfl) (hms1:=mO3_1 c l m) (hms2:=mO3_2 c l m (lo3 (by omega) (fun n hn=>by have:=hN n hn;omega))) (hms3:=mO3_2 c l _ (lo3 (by omega) (fun n hn=>by have:=hN n hn;omega))) (hna:=mO3_3 c l m rfl) (hno:=st_no c l m _ true (fun n h=>h))
 refine step_pre c l m p 2 a hat hc hst hsl hp (mS m) (mF m) (mS m) _ (fun h=>by have:=lo3 (k:=905) (by omega) (fun n hn=>by have:=hN n hn;omega) 3 h;omega) (by simp [fr3]) _ (mS_names m) (hF_of m) (mS_names m) ?_ (fun _ h=>h)
 simp only [sw67,right,c67,Tryz.f113,Option.getD_some]
 clear hN
 generalize fr3 m=ms at *
 simp only [mO3,eF]
 clear eF eS
 generalize mS m=S1 at *
 generalize mF m=F1 at *
 generalize mB c l ((nxt m).push (.fn a m.vars))=B2 at *
 generalize mS ((nxt m).push (.fn a m.vars))=S2 at *
 have hvs:(nxt m).vars=m.vars:=rfl
 simp only [mB,itP,hvs] at *
 clear hvs
 generalize c.map insP=cs at *
 generalize varsP m.vars=vv at *
 generalize hmo:insideL m.vars=mo at *
 refine gg ?_
 refine call hi ?_
 refine gg ?_
 refine call hma ?_
 refine gg ?_
 refine call p1 ?_
 refine gg ?_
 refine⟨by rfl,?_⟩
 refine gg ?_
 exact enC14
theorem step_fun_err (a:Nat) (hm:¬ insideL m.vars<1024) (hc:c[p]? = some (2,a)):AC Tryz.prog gl 113 [.loc 901 0] (mO3 c l m) (.panic (fail 4)) []:=by
 have hi:=inside_ok m.vars
 have v1:=vcells_one (varsP_one m.vars)
 have o1:=varsP_one m.vars
 have p1:=push_ok c l (nxt m) (.fn a m.vars) (by simp [nxt];omega)
 have eS:mS (nxt m)=mS m:=rfl
 have eF:mF ((nxt m).push (.fn a m.vars))=mF m:=rfl
 rw [eS] at p1
 have hma:=made_err (.fn a m.vars) hm
 unfold fail at *
 refine bodyM (c:=c67) (ks:=[901,902,903]++fr3 m) [] (fr3 m) Tryz.func113 Tryz.ntmps113 ?_ (hks:=rfl) (hms1:=mO3_1 c l m) (hms2:=mO3_2 c l m (lo3 (by omega) (fun n hn=>by have:=hN n hn;omega))) (hms3:=by simp [keysO]) (hna:=mO3_3 c l m rfl) (hno:=by simp [subL,Go.Lg.Out.names,namesOb])
 refine step_pre c l m p 2 a hat hc hst hsl hp (mS m) (mF m) (mS m) _ (fun h=>by have:=lo3 (k:=905) (by omega) (fun n hn=>by have:=hN n hn;omega) 3 h;omega) (by simp [fr3]) _ (mS_names m) (hF_of m) (mS_names m) ?_ (fun _ h=>h)
 simp only [sw67,right,c67,Tryz.f113,Option.getD_some]
 clear hN
 generalize fr3 m=ms at *
 clear eF eS
 generalize mS m=S1 at *
 generalize mF m=F1 at *
 generalize mB c l ((nxt m).push (.fn a m.vars))=B2 at *
 generalize mS ((nxt m).push (.fn a m.vars))=S2 at *
 have hvs:(nxt m).vars=m.vars:=rfl
 simp only [mB,itP,hvs] at *
 clear hvs
 generalize c.map insP=cs at *
 generalize varsP m.vars=vv at *
 generalize hmo:insideL m.vars=mo at *
 refine ggod ?_
 refine ex_drawC 14 ?_ rfl
 simp only [List.take_succ_cons,List.take_zero]
 refine gg ?_
 refine call hi ?_
 refine gg ?_
 refine⟨_,_,_,_,?_,hma,trivial,(by first|trivial|rfl),by rfl,fun τ=>⟨rfl,trivial⟩⟩
 simp only [calleeOf,St.val,getS,↓reduceIte,Nat.reduceEqDiff,List.map_cons,List.map_nil,List.append_nil]
end
section
variable (c:List Ins) (l:Nat) (m:Mm) (p:Nat) (hat:m.at_=((p:Nat):Int)) (hst:¬ m.steps=l) (hsl:m.steps≤1000000) (hp:p≤1000000) (hN:∀ n∈frN (m.frames++m.fg),1000≤n) (hl:m.stack.length≤900000)
include hat hst hsl hp hN hl
theorem step_cons_err1 (s:List It) (x y:It) (hs:m.stack=s++[x,y]) (hk:¬ x.kind=1) (hc:c[p]? = some (8,0)):AC Tryz.prog gl 113 [.loc 901 0] (mO3 c l m) (.panic (fail 44)) []:=by
 have p1:=pop_ok c l (nxt m) (s++[x]) y (by simp [nxt,hs]) (by simp [nxt];omega)
 have p2:=pop_ok c l (pop1 (nxt m) (s++[x]) y) s x rfl (by simp [pop1,hs] at hl ⊢;omega)
 have eS:mS (nxt m)=mS m:=rfl
 rw [eS] at p1
 have hw:=want_err x 1 hk
 unfold fail at *
 refine bodyM (c:=c67) (ks:=[901,902,903]++fr3 m) [] (fr3 m) Tryz.func113 Tryz.ntmps113 ?_ (hks:=rfl) (hms1:=mO3_1 c l m) (hms2:=mO3_2 c l m (lo3 (by omega) (fun n hn=>by have:=hN n hn;omega))) (hms3:=by simp [keysO]) (hna:=mO3_3 c l m rfl) (hno:=by simp [subL,Go.Lg.Out.names,namesOb])
 refine step_pre c l m p 8 0 hat hc hst hsl hp (mS m) (mF m) (mS m) _ (fun h=>by have:=lo3 (k:=905) (by omega) (fun n hn=>by have:=hN n hn;omega) 3 h;omega) (by simp [fr3]) _ (mS_names m) (hF_of m) (mS_names m) ?_ (fun _ h=>h)
 simp only [sw67,right,c67,Tryz.f113,Option.getD_some]
 clear hN
 generalize fr3 m=ms at *
 try simp only [mO3]
 clear eS
 try unfold pop1 at *
 generalize mS m=S1 at *
 generalize mF m=F1 at *
 generalize mB c l (nxt m)=B1 at *
 generalize mB c l { nxt m with stack:=s++[x],sg:=y::(nxt m).sg } = B2 at *
 generalize mS { nxt m with stack:=s++[x],sg:=y::(nxt m).sg } = S2 at *
 generalize mB c l { nxt m with stack:=s,sg:=x::y::(nxt m).sg } = B3 at *
 generalize mS { nxt m with stack:=s,sg:=x::y::(nxt m).sg } = S3 at *
 try simp only [Int.cast_ofNat_Int] at *
 clear hk
 generalize itP x=vx at *
 generalize itP y=vy at *
 refine gg ?_
 refine call p1 ?_
 refine gg ?_
 refine call p2 ?_
 refine gg ?_
 refine callP hw ?_
 refine gg ?_
 exact⟨rfl,trivial⟩
theorem step_cons_err2 (s:List It) (x y:It) (hs:m.stack=s++[x,y]) (hk:x.kind=1) (hk2:¬ y.kind=2) (hc:c[p]? = some (8,0)):AC Tryz.prog gl 113 [.loc 901 0] (mO3 c l m) (.panic (fail 44)) []:=by
 have p1:=pop_ok c l (nxt m) (s++[x]) y (by simp [nxt,hs]) (by simp [nxt];omega)
 have p2:=pop_ok c l (pop1 (nxt m) (s++[x]) y) s x rfl (by simp [pop1,hs] at hl ⊢;omega)
 have eS:mS (nxt m)=mS m:=rfl
 rw [eS] at p1
 have hw:=want_ok x
 rw [hk] at hw
 have hw2:=want_err y 2 hk2
 unfold fail at *
 refine bodyM (c:=c67) (ks:=[901,902,903]++fr3 m) [] (fr3 m) Tryz.func113 Tryz.ntmps113 ?_ (hks:=rfl) (hms1:=mO3_1 c l m) (hms2:=mO3_2 c l m (lo3 (by omega) (fun n hn=>by have:=hN n hn;omega))) (hms3:=by simp [keysO]) (hna:=mO3_3 c l m rfl) (hno:=by simp [subL,Go.Lg.Out.names,namesOb])
 refine step_pre c l m p 8 0 hat hc hst hsl hp (mS m) (mF m) (mS m) _ (fun h=>by have:=lo3 (k:=905) (by omega) (fun n hn=>by have:=hN n hn;omega) 3 h;omega) (by simp [fr3]) _ (mS_names m) (hF_of m) (mS_names m) ?_ (fun _ h=>h)
 simp only [sw67,right,c67,Tryz.f113,Option.getD_some]
 clear hN
 generalize fr3 m=ms at *
 try simp only [mO3]
 clear eS
 try unfold pop1 at *
 generalize mS m=S1 at *
 generalize mF m=F1 at *
 generalize mB c l (nxt m)=B1 at *
 generalize mB c l { nxt m with stack:=s++[x],sg:=y::(nxt m).sg } = B2 at *
 generalize mS { nxt m with stack:=s++[x],sg:=y::(nxt m).sg } = S2 at *
 generalize mB c l { nxt m with stack:=s,sg:=x::y::(nxt m).sg } = B3 at *
 generalize mS { nxt m with stack:=s,sg:=x::y::(nxt m).sg } = S3 at *
 try simp only [Int.cast_ofNat_Int] at *
 clear hk hk2
 generalize itP x=vx at *
 generalize itP y=vy at *
 refine gg ?_
 refine call p1 ?_
 refine gg ?_
 refine call p2 ?_
 refine gg ?_
 refine call hw ?_
 refine gg ?_
 refine callP hw2 ?_
 refine gg ?_
 exact⟨rfl,trivial⟩
theorem step_cons_err3 (s:List It) (x y:It) (hs:m.stack=s++[x,y]) (k:Nat) (L:List Nat) (hx:x = .num k) (hy:y = .list L) (hL:1024≤L.length) (hc:c[p]? = some (8,0)):AC Tryz.prog gl 113 [.loc 901 0] (mO3 c l m) (.panic (fail 4)) []:=by
 have p1:=pop_ok c l (nxt m) (s++[x]) y (by simp [nxt,hs]) (by simp [nxt];omega)
 have p2:=pop_ok c l (pop1 (nxt m) (s++[x]) y) s x rfl (by simp [pop1,hs] at hl ⊢;omega)
 have eS:mS (nxt m)=mS m:=rfl
 rw [eS] at p1
 have hw:=want_ok x
 have hw2:=want_ok y
 have hls:=lsize_ok L
 have v1:=vcells_one (linkP_one L)
 have hL':(1024:Int)≤L.length:=by omega
 unfold fail at *
 refine bodyM (c:=c67) (ks:=[901,902,903]++fr3 m) [] (fr3 m) Tryz.func113 Tryz.ntmps113 ?_ (hks:=rfl) (hms1:=mO3_1 c l m) (hms2:=mO3_2 c l m (lo3 (by omega) (fun n hn=>by have:=hN n hn;omega))) (hms3:=by simp [keysO]) (hna:=mO3_3 c l m rfl) (hno:=by simp [subL,Go.Lg.Out.names,namesOb])
 refine step_pre c l m p 8 0 hat hc hst hsl hp (mS m) (mF m) (mS m) _ (fun h=>by have:=lo3 (k:=905) (by omega) (fun n hn=>by have:=hN n hn;omega) 3 h;omega) (by simp [fr3]) _ (mS_names m) (hF_of m) (mS_names m) ?_ (fun _ h=>h)
 simp only [sw67,right,c67,Tryz.f113,Option.getD_some]
 clear hN
 generalize fr3 m=ms at *
 try simp only [mO3]
 clear eS
 try unfold pop1 at *
 generalize mS m=S1 at *
 generalize mF m=F1 at *
 generalize mB c l (nxt m)=B1 at *
 generalize mB c l { nxt m with stack:=s++[x],sg:=y::(nxt m).sg } = B2 at *
 generalize mS { nxt m with stack:=s++[x],sg:=y::(nxt m).sg } = S2 at *
 generalize mB c l { nxt m with stack:=s,sg:=x::y::(nxt m).sg } = B3 at *
 generalize mS { nxt m with stack:=s,sg:=x::y::(nxt m).sg } = S3 at *
 try simp only [Int.cast_ofNat_Int] at *
 subst hx hy
 simp only [It.kind,itP] at *
 generalize linkP L=vl at *
 refine gg ?_
 refine call p1 ?_
 refine gg ?_
 refine call p2 ?_
 refine gg ?_
 refine call hw ?_
 refine gg ?_
 refine call hw2 ?_
 refine gg ?_
 refine call hls ?_
 refine gg ?_
 refine pnc (t:=179) (p:=.agg [.int 4]) ?_
 refine gg ?_
 exact⟨rfl,trivial⟩
theorem step_cons (s:List It) (x y:It) (hs:m.stack=s++[x,y]) (k:Nat) (L:List Nat) (hx:x = .num k) (hy:y = .list L) (hL:L.length<1024) (hc:c[p]? = some (8,0)):AC Tryz.prog gl 113 [.loc 901 0] (mO3 c l m) (.ret (.pv (.bool true))) (mO3 c l (Mm.push (pop1 (pop1 (nxt m) (s++[x]) y) s x) (.list (k::L)))):=by
 have p1:=pop_ok c l (nxt m) (s++[x]) y (by simp [nxt,hs]) (by simp [nxt];omega)
 have p2:=pop_ok c l (pop1 (nxt m) (s++[x]) y) s x rfl (by simp [pop1,hs] at hl ⊢;omega)
 have eS:mS (nxt m)=mS m:=rfl
 rw [eS] at p1
 have hw:=want_ok x
 have hw2:=want_ok y
 have hls:=lsize_ok L
 have v1:=vcells_one (linkP_one L)
 have hL':¬ (1024:Int)≤L.length:=by omega
 have p3:=push_ok c l (pop1 (pop1 (nxt m) (s++[x]) y) s x) (.list (k::L)) (by simp [hs] at hl;simp [pop1];omega)
 have eF:mF (Mm.push (pop1 (pop1 (nxt m) (s++[x]) y) s x) (.list (k::L)))=mF m:=rfl
 have el:((L.length+1:Nat):Int)=(L.length:Int)+1:=by omega
 refine bodyM (c:=c67) (ks:=[901,902,903]++fr3 m) [] (fr3 m) Tryz.func113 Tryz.ntmps113 ?_ (hks:=rfl) (hms1:=mO3_1 c l m) (hms2:=mO3_2 c l m (lo3 (by omega) (fun n hn=>by have:=hN n hn;omega))) (hms3:=mO3_2 c l _ (lo3 (by omega) (fun n hn=>by have:=hN n hn;omega))) (hna:=mO3_3 c l m rfl) (hno:=st_no c l m _ true (fun n h=>h))
 refine step_pre c l m p 8 0 hat hc hst hsl hp (mS m) (mF m) (mS m) _ (fun h=>by have:=lo3 (k:=905) (by omega) (fun n hn=>by have:=hN n hn;omega) 3 h;omega) (by simp [fr3]) _ (mS_names m) (hF_of m) (mS_names m) ?_ (fun _ h=>h)
 simp only [sw67,right,c67,Tryz.f113,Option.getD_some]
 clear hN
 generalize fr3 m=ms at *
 try simp only [mO3,eF]
 clear eS eF
 generalize hB4:mB c l (Mm.push (pop1 (pop1 (nxt m) (s++[x]) y) s x) (.list (k::L)))=B4 at *
 generalize hS4:mS (Mm.push (pop1 (pop1 (nxt m) (s++[x]) y) s x) (.list (k::L)))=S4 at *
 clear hB4 hS4
 try unfold pop1 at *
 generalize mS m=S1 at *
 generalize mF m=F1 at *
 generalize mB c l (nxt m)=B1 at *
 generalize mB c l { nxt m with stack:=s++[x],sg:=y::(nxt m).sg } = B2 at *
 generalize mS { nxt m with stack:=s++[x],sg:=y::(nxt m).sg } = S2 at *
 generalize mB c l { nxt m with stack:=s,sg:=x::y::(nxt m).sg } = B3 at *
 generalize mS { nxt m with stack:=s,sg:=x::y::(nxt m).sg } = S3 at *
 try simp only [Int.cast_ofNat_Int] at *
 subst hx hy
 simp only [It.kind,itP,linkP,el] at *
 generalize linkP L=vl at *
 refine gg ?_
 refine call p1 ?_
 refine gg ?_
 refine call p2 ?_
 refine gg ?_
 refine call hw ?_
 refine gg ?_
 refine call hw2 ?_
 refine gg ?_
 refine call hls ?_
 refine gg ?_
 refine call hls ?_
 refine gg ?_
 refine call p3 ?_
 refine gg ?_
 refine⟨by rfl,?_⟩
 refine gg ?_
 exact enC14
theorem step_pair (s:List It) (x y:It) (hs:m.stack=s++[x,y]) (hm:(It.pair x y).more<1024) (hc:c[p]? = some (10,0)):AC Tryz.prog gl 113 [.loc 901 0] (mO3 c l m) (.ret (.pv (.bool true))) (mO3 c l (Mm.push (pop1 (pop1 (nxt m) (s++[x]) y) s x) (.pair x y))):=by
 have p1:=pop_ok c l (nxt m) (s++[x]) y (by simp [nxt,hs]) (by simp [nxt];omega)
 have p2:=pop_ok c l (pop1 (nxt m) (s++[x]) y) s x rfl (by simp [pop1,hs] at hl ⊢;omega)
 have eS:mS (nxt m)=mS m:=rfl
 rw [eS] at p1
 have e2:((2+x.more+y.more:Nat):Int)=2+(x.more:Int)+y.more:=by omega
 have hma:=made_ok (.pair x y) hm
 simp only [It.more] at hm
 have p3:=push_ok c l (pop1 (pop1 (nxt m) (s++[x]) y) s x) (.pair x y) (by simp [hs] at hl;simp [pop1];omega)
 have eF:mF (Mm.push (pop1 (pop1 (nxt m) (s++[x]) y) s x) (.pair x y))=mF m:=rfl
 have hm1:(x.more:Int)≤1024:=by omega
 have hm2:(y.more:Int)≤1024:=by omega
 refine bodyM (c:=c67) (ks:=[901,902,903]++fr3 m) [] (fr3 m) Tryz.func113 Tryz.ntmps113 ?_ (hks:=rfl) (hms1:=mO3_1 c l m) (hms2:=mO3_2 c l m (lo3 (by omega) (fun n hn=>by have:=hN n hn;omega))) (hms3:=mO3_2 c l _ (lo3 (by omega) (fun n hn=>by have:=hN n hn;omega))) (hna:=mO3_3 c l m rfl) (hno:=st_no c l m _ true (fun n h=>h))
 refine step_pre c l m p 10 0 hat hc hst hsl hp (mS m) (mF m) (mS m) _ (fun h=>by have:=lo3 (k:=905) (by omega) (fun n hn=>by have:=hN n hn;omega) 3 h;omega) (by simp [fr3]) _ (mS_names m) (hF_of m) (mS_names m) ?_ (fun _ h=>h)
 simp only [sw67,right,c67,Tryz.f113,Option.getD_some]
 clear hN
 generalize fr3 m=ms at *
 try simp only [mO3,eF]
 clear eS eF
 generalize hB4:mB c l (Mm.push (pop1 (pop1 (nxt m) (s++[x]) y) s x) (.pair x y))=B4 at *
 generalize hS4:mS (Mm.push (pop1 (pop1 (nxt m) (s++[x]) y) s x) (.pair x y))=S4 at *
 clear hB4 hS4
 try unfold pop1 at *
 generalize mS m=S1 at *
 generalize mF m=F1 at *
 generalize mB c l (nxt m)=B1 at *
 generalize mB c l { nxt m with stack:=s++[x],sg:=y::(nxt m).sg } = B2 at *
 generalize mS { nxt m with stack:=s++[x],sg:=y::(nxt m).sg } = S2 at *
 generalize mB c l { nxt m with stack:=s,sg:=x::y::(nxt m).sg } = B3 at *
 generalize mS { nxt m with stack:=s,sg:=x::y::(nxt m).sg } = S3 at *
 try simp only [Int.cast_ofNat_Int] at *
 simp only [itP] at *
 rw [itP_eq x,itP_eq y] at *
 simp only [e2] at *
 have mx:(0:Int)≤x.more:=by omega
 have my:(0:Int)≤y.more:=by omega
 generalize hxm:((x.more:Nat):Int)=xm at *
 generalize hym:((y.more:Nat):Int)=ym at *
 generalize hyf:y.func=yf at *
 cases hxf:x.func
 all_goals simp only [hxf,Bool.true_or,Bool.false_or] at *
 all_goals refine gg ?_
 all_goals refine call p1 ?_
 all_goals refine gg ?_
 all_goals refine call p2 ?_
 all_goals refine gg ?_
 all_goals refine call hma ?_
 all_goals refine gg ?_
 all_goals refine call p3 ?_
 all_goals refine gg ?_
 all_goals refine⟨by rfl,?_⟩
 all_goals refine gg ?_
 all_goals exact enC14
theorem step_pair_err (s:List It) (x y:It) (hs:m.stack=s++[x,y]) (hm:¬ (It.pair x y).more<1024) (hx1:x.more≤100000) (hy1:y.more≤100000) (hc:c[p]? = some (10,0)):AC Tryz.prog gl 113 [.loc 901 0] (mO3 c l m) (.panic (fail 4)) []:=by
 have p1:=pop_ok c l (nxt m) (s++[x]) y (by simp [nxt,hs]) (by simp [nxt];omega)
 have p2:=pop_ok c l (pop1 (nxt m) (s++[x]) y) s x rfl (by simp [pop1,hs] at hl ⊢;omega)
 have eS:mS (nxt m)=mS m:=rfl
 rw [eS] at p1
 have e2:((2+x.more+y.more:Nat):Int)=2+(x.more:Int)+y.more:=by omega
 have hma:=made_err (.pair x y) hm
 have hm1:(x.more:Int)≤100000:=by omega
 have hm2:(y.more:Int)≤100000:=by omega
 unfold fail at *
 refine bodyM (c:=c67) (ks:=[901,902,903]++fr3 m) [] (fr3 m) Tryz.func113 Tryz.ntmps113 ?_ (hks:=rfl) (hms1:=mO3_1 c l m) (hms2:=mO3_2 c l m (lo3 (by omega) (fun n hn=>by have:=hN n hn;omega))) (hms3:=by simp [keysO]) (hna:=mO3_3 c l m rfl) (hno:=by simp [subL,Go.Lg.Out.names,namesOb])
 refine step_pre c l m p 10 0 hat hc hst hsl hp (mS m) (mF m) (mS m) _ (fun h=>by have:=lo3 (k:=905) (by omega) (fun n hn=>by have:=hN n hn;omega) 3 h;omega) (by simp [fr3]) _ (mS_names m) (hF_of m) (mS_names m) ?_ (fun _ h=>h)
 simp only [sw67,right,c67,Tryz.f113,Option.getD_some]
 clear hN
 generalize fr3 m=ms at *
 try simp only [mO3]
 clear eS
 try unfold pop1 at *
 generalize mS m=S1 at *
 generalize mF m=F1 at *
 generalize mB c l (nxt m)=B1 at *
 generalize mB c l { nxt m with stack:=s++[x],sg:=y::(nxt m).sg } = B2 at *
 generalize mS { nxt m with stack:=s++[x],sg:=y::(nxt m).sg } = S2 at *
 generalize mB c l { nxt m with stack:=s,sg:=x::y::(nxt m).sg } = B3 at *
 generalize mS { nxt m with stack:=s,sg:=x::y::(nxt m).sg } = S3 at *
 try simp only [Int.cast_ofNat_Int] at *
 simp only [itP] at *
 rw [itP_eq x,itP_eq y] at *
 simp only [e2] at *
 have mx:(0:Int)≤x.more:=by omega
 have my:(0:Int)≤y.more:=by omega
 generalize hxm:((x.more:Nat):Int)=xm at *
 generalize hym:((y.more:Nat):Int)=ym at *
 generalize hyf:y.func=yf at *
 cases hxf:x.func
 all_goals simp only [hxf,Bool.true_or,Bool.false_or] at *
 all_goals refine gg ?_
 all_goals refine call p1 ?_
 all_goals refine gg ?_
 all_goals refine call p2 ?_
 all_goals refine ggod ?_
 all_goals refine ex_drawC 26 ?_ rfl
 all_goals simp only [List.take_succ_cons,List.take_zero]
 all_goals refine gg ?_
 all_goals refine⟨_,_,_,_,?_,hma,trivial,(by first|trivial|rfl),by rfl,fun τ=>⟨rfl,trivial⟩⟩
 all_goals simp only [calleeOf,St.val,getS,↓reduceIte,Nat.reduceEqDiff,List.map_cons,List.map_nil,List.append_nil]
end
end Go.Proofs.YtodjpfpmhjdhbaaGreatDoor
