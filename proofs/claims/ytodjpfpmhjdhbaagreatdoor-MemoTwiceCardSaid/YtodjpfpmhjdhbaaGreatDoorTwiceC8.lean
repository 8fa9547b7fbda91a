/- Contracts of functions; no conditions. -/
import Derived.Test.YtodjpfpmhjdhbaaGreatDoorTwiceC4
import Derived.Test.YtodjpfpmhjdhbaaGreatDoorTwiceC7
import Derived.Test.YtodjpfpmhjdhbaaGreatDoorTwiceC1
set_option linter.all false
namespace Go.Proofs.YtodjpfpmhjdhbaaGreatDoor
open Go.Lg
theorem enC8 {P Q : Prop} (h : P := by simp [retIs,resV,resL,resOne,mkTup,getS,getO,rdV,mkAgg,unL,V.un,TI.isAgg,XX_T,tt30,Tryz.f114,Tryz.f147,Tryz.f134,Tryz.f115]) (k : Q := by simp [subO,getO,tt30,Tryz.f114,Tryz.f147,Tryz.f134,Tryz.f115]) : P ∧ Q := ⟨h,k⟩
end Go.Proofs.YtodjpfpmhjdhbaaGreatDoor
namespace Go.Proofs.YtodjpfpmhjdhbaaGreatDoor
open Go.Lg
set_option maxRecDepth 10000
set_option maxHeartbeats 4000000
def itC (x:It):List PV:=[itP x]
def frV (fr:Fr):List V:=[.pv (.int fr.at_),.pv (varsP fr.vars),.pv (itP fr.f),.pv (itP fr.a),match fr.rd with|none => .pv .nil|some (n,_) => .loc n 0]
def frN (l:List Fr):List Nat:=l.filterMap fun fr=>fr.rd.map (·.1)
theorem namesE_frV (l:List Fr):namesE (l.map frV)=frN l:=by
 induction l with
 | nil=>rfl
 | cons fr l ih =>
  rw [List.map_cons,namesE,ih]
  obtain⟨a,b,c,d,rd⟩:=fr
  cases rd with
  | none=>simp [frV,namesL,V.names,frN]
  | some p=>simp [frV,namesL,V.names,frN]
theorem subL_iff {l u:List Nat} : subL l u ↔ ∀ n∈l,n∈u:=by
 refine⟨subL_spec,fun h => ?_⟩
 induction l with
 | nil=>trivial
 | cons a l ih=>exact⟨h a (by simp),ih (fun n hn=>h n (by simp [hn]))⟩
def mB (c:List Ins) (l:Nat) (m:Mm):Ob:=.box [.pv (.slice (c.map insP)),.pv (.int l),.pv (.int m.steps),.bfn 95 [.loc 980 0],.bfn 96 [.loc 980 0],.arr 902 m.sv m.stack.length,.arr 903 m.fv m.frames.length,.pv (.int m.at_),.pv (varsP m.vars)]
def mS (m:Mm):Ob:=.arr m.sv 1 132 (pvE ((m.stack++m.sg).map itC))
def mF (m:Mm):Ob:=.arr m.fv 5 206 ((m.frames++m.fg).map frV)
theorem push_ok (c:List Ins) (l:Nat) (m:Mm) (x:It) (h:m.stack.length≤1000000) :
  AC Tryz.prog gl 126 [.loc 901 0,.pv (itP x)] [(901,mB c l m),(902,mS m)] (.ret (.pv (.tuple []))) [(901,mB c l (m.push x)),(902,mS (m.push x))]:=by
 have ht:((m.stack++m.sg).map itC).take m.stack.length=m.stack.map itC:=by simp
 have hl:m.stack.length≤((m.stack++m.sg).map itC).length:=by simp
 have hA:(m.stack++[x]++[]).map itC=m.stack.map itC++[[itP x]]:=by simp [itC]
 unfold mB mS
 simp only [Mm.push,hA,List.length_append,List.length_cons,List.length_nil,Nat.zero_add]
 refine bodyM [] [903,980] Tryz.func126 Tryz.ntmps126 ?_
 rw [itP_eq]
 clear hA
 generalize (m.stack++m.sg).map itC=es at *
 generalize m.stack.map itC=es0 at *
 refine gg ?_
 exact⟨by simp [retIs,resV,resL,resOne,mkTup,getS,getO,rdV,mkAgg,unL,V.un,TI.isAgg,XX_T,tt30,Tryz.f126,ht,hl,h],by simp [subO,getO,tt30,Tryz.f126,ht,hl,h]⟩
theorem pop_ok (c:List Ins) (l:Nat) (m:Mm) (s:List It) (x:It) (hs:m.stack=s++[x]) (h:m.stack.length≤1000000) :
  AC Tryz.prog gl 114 [.loc 901 0] [(901,mB c l m),(902,mS m)] (.ret (.pv (itP x))) [(901,mB c l { m with stack:=s,sg:=x::m.sg }),(902,mS { m with stack:=s,sg:=x::m.sg })]:=by
 have hl:m.stack.length=s.length+1:=by simp [hs]
 have hg:((m.stack++m.sg).map itC)[s.length]? = some [itP x]:=by simp [hs,itC]
 have hle:s.length<((m.stack++m.sg).map itC).length:=by simp [hs]
 have hA:(s++x::m.sg).map itC=(m.stack++m.sg).map itC:=by simp [hs]
 have hi:(((s.length+1:Nat):Int)-1).toNat=s.length:=by omega
 unfold mB mS
 simp only [hA,hl] at *
 refine bodyM [] [903,980] Tryz.func114 Tryz.ntmps114 ?_
 rw [itP_eq] at *
 clear hA hs hl
 generalize (m.stack++m.sg).map itC=es at *
 have hll:s.length+1≤es.length:=by omega
 generalize hsl:s.length=k at *
 have hb1:(0:Int)≤((k+1:Nat):Int)-1:=by omega
 have hb2:((k+1:Nat):Int)-1<((k+1:Nat):Int):=by omega
 have hb3:((k+1:Nat):Int)-1≤((k+1:Nat):Int):=by omega
 refine gg ?_
 refine⟨by rfl,?_⟩
 refine gg ?_
 refine⟨by rfl,?_⟩
 refine gg ?_
 exact enC8
def rpV (rd:Option (Nat × Rd)):V:=match rd with
 | none => .pv .nil
 | some (n,_) => .loc n 0
theorem mB_names (c:List Ins) (l:Nat) (m:Mm):(mB c l m).names=[980,980,902,903]:=by simp [mB,Ob.names,namesL,V.names]
theorem mS_names (m:Mm):(mS m).names=[]:=by simp [mS,Ob.names,namesE_pvE]
theorem mF_names (m:Mm):(mF m).names=frN (m.frames++m.fg):=by simp only [mF,Ob.names,namesE_frV]
def argC (x:Nat × List Nat):List PV:=[.slice [[itP (.num x.1)],[itP (.list x.2)]]]
def argsP:Option (List (Nat × List Nat))→PV
 | none => .nils
 | some l => .slice (l.map argC)
def rB (r:Rd) (lv:PV):Ob:=.box [.pv (itP r.f),.pv (.int r.next),.pv (argsP r.args),.pv (.int r.count),.pv (itP r.result),.pv lv]
theorem argC_all (l:List (Nat × List Nat)):∀ y∈l.map argC,y.length=1:=by
 intro y hy
 obtain⟨t,_,rfl⟩:=List.mem_map.1 hy
 rfl
theorem itC_all (l:List It):∀ y∈l.map itC,y.length=1:=by
 intro y hy
 obtain⟨t,_,rfl⟩:=List.mem_map.1 hy
 rfl
theorem begin_nat_ok (r:Rd) (lv:PV) (h:r.args=none) (hc:r.next≤1000000) :
  AC Tryz.prog gl 147 [.loc 920 0] [(920,rB r lv)] (.ret (.pv (.tuple [itP r.f,itP (.num r.next)]))) [(920,rB r (.slice [[itP r.result]]))]:=by
 have hn:=num_item_ok r.next
 have h1:=vcells_one (itP_one r.result)
 unfold rB
 rw [h]
 simp only [argsP]
 refine body [] Tryz.func147 Tryz.ntmps147 ?_
 generalize itP r.f=vf at *
 generalize itP r.result=vr at *
 generalize itP (.num r.next)=vn at *
 refine gg ?_
 refine call hn ?_
 refine gg ?_
 refine⟨by rfl,?_⟩
 refine gg ?_
 exact enC8
theorem begin_list_ok (r:Rd) (lv:PV) (l:List (Nat × List Nat)) (h:r.args=some l) (hd:Nat) (tl:List Nat) (hg:l[r.next]? = some (hd,tl)) :
  AC Tryz.prog gl 147 [.loc 920 0] [(920,rB r lv)] (.ret (.pv (.tuple [itP r.f,itP (.num hd)]))) [(920,rB r (.slice [[itP (.list tl)],[itP r.result]]))]:=by
 have h1:=vcells_one (itP_one r.result)
 have h2:=vcells_one (itP_one (.list tl))
 have o1:=itP_one r.result
 have o2:=itP_one (.list tl)
 have p1:(V.pv (itP r.result)).one=true:=by rw [one_pv];exact o1
 have p2:(V.pv (itP (.list tl))).one=true:=by rw [one_pv];exact o2
 have hlt:r.next<l.length:=(List.getElem?_eq_some_iff.1 hg).1
 have hal:=argC_all l
 have hlen:(l.map argC).length=l.length:=by simp
 have hget:(l.map argC).getD r.next []=[.slice [[itP (.num hd)],[itP (.list tl)]]]:=by simp [List.getD,hg,argC]
 obtain⟨x,xs,hx⟩:∃ x xs,l.map argC=x::xs:=by
  cases hl:l.map argC with
  | nil=>simp at hl;subst hl;simp at hlt
  | cons x xs=>exact⟨x,xs,rfl⟩
 have hlt':(r.next:Int)<l.length:=by omega
 unfold rB
 rw [h]
 simp only [argsP]
 refine body [(40,.arr 950 1 132)] Tryz.func147 Tryz.ntmps147 ?_
 generalize itP r.f=vf at *
 generalize itP r.result=vr at *
 generalize itP (.num hd)=vn at *
 generalize itP (.list tl)=vl at *
 generalize l.map argC=es at *
 subst hx
 have hx0:∀ y,y=x∨y∈xs→y.length=1:=fun y hy=>hal y (by simpa using hy)
 have hx3:(r.next:Int)<((xs.length+1:Nat):Int):=by simp at hlen;omega
 clear hal hlen hlt hlt' hg h
 refine gg ?_
 refine⟨by rfl,?_⟩
 refine gg ?_
 refine⟨by rfl,?_⟩
 refine gg ?_
 refine⟨by rfl,?_⟩
 refine ggor ?_
 refine frz 950 ?_
 refine gg ?_
 exact enC8
theorem ret_call_ok (r:Rd) (x a:It) (rest:List It) :
  AC Tryz.prog gl 134 [.loc 920 0,.pv (itP x)] [(920,rB r (.slice ((a::rest).map itC)))] (.ret (.pv (.tuple [itP x,itP a,.bool false]))) [(920,rB r (.slice (rest.map itC)))]:=by
 have hal:∀ y∈rest.map itC,y.length=1:=itC_all rest
 have h0:(0:Int)<((rest.map itC).length+1:Nat):=by omega
 have h1:(0:Nat)<(rest.map itC).length+1:=by omega
 have h2:(1:Int)≤((rest.map itC).length+1:Nat):=by omega
 unfold rB
 have e:(a::rest).map itC=[itP a]::rest.map itC:=rfl
 rw [e]
 refine body [] Tryz.func134 Tryz.ntmps134 ?_
 clear e
 generalize itP r.f=vf at *
 generalize itP r.result=vr at *
 generalize itP x=vx at *
 generalize itP a=va at *
 generalize argsP r.args=vg at *
 generalize rest.map itC=es at *
 refine gg ?_
 refine⟨by rfl,?_⟩
 refine gg ?_
 exact enC8
theorem ret_done_ok (r:Rd) (x:It) (h:r.next+1=r.count) (hc:r.count≤1000000) :
  AC Tryz.prog gl 134 [.loc 920 0,.pv (itP x)] [(920,rB r (.slice []))] (.ret (.pv (.tuple [.nil,.nil,.bool true]))) [(920,rB { r with result:=x,next:=r.next+1 } (.slice []))]:=by
 have h1:=vcells_one (itP_one x)
 have o1:(V.pv (itP x)).one=true:=by rw [one_pv];exact itP_one x
 have h0:((r.next:Nat):Int)+1=r.count:=by omega
 unfold rB
 have e:((r.next+1:Nat):Int)=r.next+1:=by omega
 simp only [e]
 refine body [] Tryz.func134 Tryz.ntmps134 ?_
 clear e h
 generalize itP r.f=vf at *
 generalize itP r.result=vr at *
 generalize itP x=vx at *
 generalize argsP r.args=vg at *
 refine gg ?_
 refine⟨by rfl,?_⟩
 refine gg ?_
 exact⟨by simp [retIs,resV,resL,resOne,mkTup,getS,getO,rdV,mkAgg,unL,V.un,TI.isAgg,XX_T,tt30,Tryz.f134,h0],by simp [subO,getO,tt30,Tryz.f134,h0]⟩
theorem ret_next_ok (r:Rd) (x f a:It) (lv:PV) (h:¬ r.next+1=r.count) (hc:r.next≤1000000)
  (hb:AC Tryz.prog gl 147 [.loc 920 0] [(920,rB { r with result:=x,next:=r.next+1 } (.slice []))] (.ret (.pv (.tuple [itP f,itP a]))) [(920,rB { r with result:=x,next:=r.next+1 } lv)]) :
  AC Tryz.prog gl 134 [.loc 920 0,.pv (itP x)] [(920,rB r (.slice []))] (.ret (.pv (.tuple [itP f,itP a,.bool false]))) [(920,rB { r with result:=x,next:=r.next+1 } lv)]:=by
 have h1:=vcells_one (itP_one x)
 have o1:(V.pv (itP x)).one=true:=by rw [one_pv];exact itP_one x
 have h0:¬ ((r.next:Nat):Int)+1=r.count:=by omega
 unfold rB at *
 have e:((r.next+1:Nat):Int)=r.next+1:=by omega
 simp only [e] at *
 refine body [] Tryz.func134 Tryz.ntmps134 ?_
 clear e h
 generalize itP r.f=vf at *
 generalize itP r.result=vr at *
 generalize itP x=vx at *
 generalize argsP r.args=vg at *
 refine gg ?_
 refine⟨by rfl,?_⟩
 refine gg ?_
 refine call hb ?_
 refine gg ?_
 exact enC8
open Go.Lg
set_option maxRecDepth 10000
set_option maxHeartbeats 4000000
noncomputable def mO (c:List Ins) (l:Nat) (m:Mm):List (Nat × Ob):=[(901,mB c l m),(902,mS m),(903,mF m)]++tabO m.tab
def keysM:List Nat:=[901,902,903,980,981,982,983,984,985]
theorem keys_mO (c:List Ins) (l:Nat) (m:Mm):keysO (mO c l m)=keysM:=rfl
theorem namesOb_app:∀ (a b:List (Nat × Ob)),namesOb (a++b)=namesOb a++namesOb b
 | [],b=>rfl
 | (k,o)::a,b=>by simp [namesOb,namesOb_app a b]
theorem mentO_app:∀ (a b:List (Nat × Ob)),mentO (a++b)=mentO a++mentO b
 | [],b=>rfl
 | (k,o)::a,b=>by simp [mentO,mentO_app a b]
theorem tB_names (h:Nat):(tB h).names=[981,982,983,984,985]:=by simp [tB,Ob.names,namesL,V.names]
theorem namesOb_tab (T:Tab):∀ n∈namesOb (tabO T),n∈keysM:=by
 intro n hn
 simp only [tabO,tabN,tB,namesOb_app,namesOb,Ob.names,namesL,V.names,List.mem_append,List.mem_cons,List.not_mem_nil,or_false,false_or,List.append_nil,List.nil_append,List.cons_append] at hn
 simp only [keysM,List.mem_cons,List.not_mem_nil,or_false]
 grind
theorem namesOb_mO (c:List Ins) (l:Nat) (m:Mm):∀ n∈namesOb (mO c l m),n∈keysM++frN (m.frames++m.fg):=by
 intro n hn
 rw [mO,namesOb_app,List.mem_append] at hn
 rcases hn with hn|hn
 ·simp only [namesOb,mB_names,mF_names,mS_names,List.mem_append,List.mem_cons,List.not_mem_nil,or_false,false_or,List.append_nil,List.nil_append,List.cons_append] at hn
  simp only [keysM,List.mem_append,List.mem_cons,List.not_mem_nil,or_false]
  grind
 ·exact List.mem_append.2 (.inl (namesOb_tab _ n hn))
theorem mO_1 (c:List Ins) (l:Nat) (m:Mm) (args:List V):subL (frN (m.frames++m.fg)) (mentL args (mO c l m)):=by
 rw [subL_iff]
 intro n hn
 simp only [mO,mentL,mentO_app,mentO,mF_names,List.mem_append]
 simp [hn]
theorem mO_2 (c:List Ins) (l:Nat) (m:Mm) {L:List Nat} (hN:∀ n∈L,1000≤n):∀ n∈L,n ∉ keysO (mO c l m):=by
 intro n hn
 have:=hN n hn
 rw [keys_mO]
 simp [keysM]
 omega
theorem mO_3 (c:List Ins) (l:Nat) (m:Mm) {args:List V} (ha:∀ n∈namesL args,n=901):subL (namesL args++namesOb (mO c l m)) (keysM++frN (m.frames++m.fg)):=by
 rw [subL_iff]
 intro n hn
 rcases List.mem_append.1 hn with hn|hn
 ·rw [ha n hn];simp [keysM]
 ·exact namesOb_mO c l m n hn
theorem mO_4 (c:List Ins) (l:Nat) (m m':Mm) {x:V} (hx:x.names=[]) (h:∀ n∈frN (m'.frames++m'.fg),n∈frN (m.frames++m.fg)):subL ((Go.Lg.Out.ret x).names++namesOb (mO c l m')) ((keysM++frN (m.frames++m.fg))++keysO (mO c l m')):=by
 rw [subL_iff]
 intro n hn
 simp only [Go.Lg.Out.names,hx,List.nil_append] at hn
 have:=namesOb_mO c l m' n hn
 have h2:=h n
 simp only [List.mem_append] at this ⊢
 grind
mutual
theorem szI_le {b:Nat} : ∀ (x:It),Bd b x→szI x+1≤(x.more+1) * 1026
 | .num k,_=>by simp [szI,It.more]
 | .list l,h=>by
  simp only [Bd] at h
  simp only [szI,It.more]
  omega
 | .pair x y,h=>by
  simp only [Bd] at h
  have h1:=szI_le x h.1
  have h2:=szI_le y h.2.1
  simp only [szI,It.more]
  have e:(2+x.more+y.more+1) * 1026=(x.more+1) * 1026+(y.more+1) * 1026+1026:=by
   simp only [Nat.add_mul]
   omega
  omega
 | .unit,_=>by simp [szI,It.more]
 | .fn p vs,h=>by
  simp only [Bd] at h
  have h3:=szV_le vs h.1
  simp only [szI,It.more,Nat.add_mul]
  omega
theorem szV_le {b:Nat} : ∀ (xs:List It),BdL b xs→szV xs≤insideL xs * 1026
 | [],_=>by simp [szV]
 | y::r,h=>by
  simp only [BdL] at h
  have h1:=szI_le y h.1
  have h2:=szV_le r h.2
  simp only [szV,insideL,Nat.add_mul] at h1 ⊢
  omega
end
theorem szI_bd {b:Nat} {x:It} (h:Bd b x):szI x≤1100000:=by
 have h1:=szI_le x h
 have h2:=h.more
 omega
theorem entN_miss (c:List Ins) (l:Nat) (m:Mm) (p:Nat) (vs:List It) (a:It) (hpl:plainC (.fn p vs) a=true) (hx:m.tab.get (.fn p vs) a=none) (hfl:m.frames.length<1024) (hN:∀ n∈frN (m.frames++m.fg),1000≤n)
  (hz:m.tab.nums.length+szI (.fn p vs)+szI a≤1152921504606846976) (hs:Sh m.tab.nums) (hk:Rk m.tab.res) (h1:vs.length≤100000) (h2:insideL vs≤100000) (h3:a.more≤100000) :
  AC Tryz.prog gl 115 [.loc 901 0,.pv (itP (.fn p vs)),.pv (itP a),.pv .nil] (mO c l m) (.ret (.pv (.tuple [])))
   (mO c l { m with frames:=m.frames++[⟨m.at_,m.vars,.fn p vs,a,none⟩],fg:=[],fv:=m.fv+1,at_:=p,vars:=a::vs,tab:=m.tab.miss (.fn p vs) a }):=by
 have hw:=want_ok (.fn p vs)
 have hp:=plainc_ok p vs a
 rw [hpl] at hp
 have hlk:=lookup_none m.tab (.fn p vs) a hz hs hk hx
 have hwi:=with_ok vs a h1 h2 h3
 simp only [It.kind] at hw
 have hl':¬ (1024:Int)≤m.frames.length:=by omega
 have ht:((m.frames++m.fg).map frV).take m.frames.length=m.frames.map frV:=by simp
 have hle:m.frames.length≤((m.frames++m.fg).map frV).length:=by simp
 have ho1:=varsP_one m.vars
 have ho2:=itP_one a
 have ho3:=varsP_one (a::vs)
 have hc1:=vcells_one ho1
 have hc2:=vcells_one ho2
 have hc3:=vcells_one ho3
 have hq1:(V.pv (varsP m.vars)).one=true:=by rw [one_pv];exact ho1
 have hq2:(V.pv (itP a)).one=true:=by rw [one_pv];exact ho2
 have hq3:(V.pv (varsP (a::vs))).one=true:=by rw [one_pv];exact ho3
 have hA:(m.frames++[(⟨m.at_,m.vars,.fn p vs,a,none⟩:Fr)]++[]).map frV=m.frames.map frV++[[.pv (.int m.at_),.pv (varsP m.vars),.pv (itP (.fn p vs)),.pv (itP a),.pv .nil]]:=by
  simp [frV]
 refine bodyM (ks:=keysM++frN (m.frames++m.fg)) [] (frN (m.frames++m.fg)) Tryz.func115 Tryz.ntmps115 ?_ (hks:=rfl) (hms1:=mO_1 c l m _) (hms2:=mO_2 c l m hN) (hms3:=mO_2 c l _ hN) (hna:=mO_3 c l m (by simp [namesL,V.names])) (hno:=mO_4 c l m _ rfl (by intro n hn;simp [frN] at hn ⊢;grind))
 have eS:mS { m with frames:=m.frames++[⟨m.at_,m.vars,.fn p vs,a,none⟩],fg:=[],fv:=m.fv+1,at_:=p,vars:=a::vs,tab:=m.tab.miss (.fn p vs) a } = mS m:=rfl
 simp only [mO,eS]
 unfold keysM
 unfold tabO tabN Tab.miss at *
 simp only [List.cons_append,List.nil_append,mB,mF,hA,List.length_append,List.length_cons,List.length_nil,Nat.zero_add] at *
 generalize mS m=S0 at *
 clear hA eS hx hz hs hk h1 h2 h3 hN hpl
 generalize (m.frames++m.fg).map frV=fs at *
 generalize m.frames.map frV=fs0 at *
 generalize hgp:itP (.fn p vs)=pf at *
 generalize (keyN m.tab.nums (.fn p vs) a).2=l2 at *
 generalize tB m.tab.hits=T0 at *
 generalize Ob.imap (numE 0 m.tab.nums)=T1 at *
 generalize Ob.cache (DI m.tab.nums) (FI m.tab.nums)=T2 at *
 generalize Ob.cache (DL m.tab.nums) (FL m.tab.nums)=T3 at *
 generalize Ob.cache (DV m.tab.nums) (FV m.tab.nums)=T4 at *
 generalize Ob.imap (resE m.tab.res)=T5 at *
 generalize Ob.imap (numE 0 l2)=U1 at *
 generalize Ob.cache (DI l2) (FI l2)=U2 at *
 generalize Ob.cache (DL l2) (FL l2)=U3 at *
 generalize Ob.cache (DV l2) (FV l2)=U4 at *
 generalize frN (m.frames++m.fg)=ms at *
 simp only [itP] at hgp
 subst hgp
 generalize c.map insP=cs at *
 generalize varsP (a::vs)=vv at *
 generalize varsP vs=v0 at *
 generalize varsP m.vars=v1 at *
 generalize itP a=va at *
 refine gg ?_
 refine ex_loop 1 (ex_round ?_)
 refine gg ?_
 refine call hw ?_
 refine gg ?_
 refine call hp ?_
 refine gg ?_
 refine call hlk ?_
 refine gg ?_
 refine⟨by rfl,?_⟩
 refine gg ?_
 refine call hwi ?_
 refine gg ?_
 refine⟨by rfl,?_⟩
 refine gg ?_
 exact⟨by simp [retIs,resV,resL,resOne,mkTup,getS,getO,rdV,mkAgg,unL,V.un,TI.isAgg,XX_T,tt30,Tryz.f115,ht,pvE,pvL],by simp [subO,getO,tt30,Tryz.f115,ht,pvE,pvL]⟩
theorem entN_stuck (c:List Ins) (l:Nat) (m:Mm) (hN:∀ n∈frN (m.frames++m.fg),1000≤n) (f a:It) (hf:¬ f.kind=5) :
  AC Tryz.prog gl 115 [.loc 901 0,.pv (itP f),.pv (itP a),.pv .nil] (mO c l m) (.panic (fail 44)) []:=by
 have hw:=want_err f 5 hf
 refine bodyM (ks:=keysM++frN (m.frames++m.fg)) [] (frN (m.frames++m.fg)) Tryz.func115 Tryz.ntmps115 ?_ (hks:=rfl) (hms1:=mO_1 c l m _) (hms2:=mO_2 c l m hN) (hna:=mO_3 c l m (by simp [namesL,V.names])) (hms3:=by simp [keysO]) (hno:=by simp [subL,Go.Lg.Out.names,namesOb])
 simp only [mO]
 unfold keysM
 unfold tabO tabN at *
 simp only [List.cons_append,List.nil_append,mB,mF,fail] at *
 generalize mS m=S0 at *
 clear hN
 generalize (m.frames++m.fg).map frV=fs at *
 generalize tB m.tab.hits=T0 at *
 generalize Ob.imap (numE 0 m.tab.nums)=T1 at *
 generalize Ob.cache (DI m.tab.nums) (FI m.tab.nums)=T2 at *
 generalize Ob.cache (DL m.tab.nums) (FL m.tab.nums)=T3 at *
 generalize Ob.cache (DV m.tab.nums) (FV m.tab.nums)=T4 at *
 generalize Ob.imap (resE m.tab.res)=T5 at *
 generalize frN (m.frames++m.fg)=ms at *
 generalize itP f=pf at *
 generalize c.map insP=cs at *
 generalize varsP m.vars=v1 at *
 generalize itP a=va at *
 refine gg ?_
 refine ex_loop 1 (ex_round ?_)
 refine gg ?_
 refine callP hw ?_
 refine gg ?_
 exact⟨rfl,trivial⟩
theorem entN_np (c:List Ins) (l:Nat) (m:Mm) (hN:∀ n∈frN (m.frames++m.fg),1000≤n) (p:Nat) (vs:List It) (a:It) (hpl:plainC (.fn p vs) a=false) (hfl:m.frames.length<1024) (h1:vs.length≤100000) (h2:insideL vs≤100000) (h3:a.more≤100000) :
  AC Tryz.prog gl 115 [.loc 901 0,.pv (itP (.fn p vs)),.pv (itP a),.pv .nil] (mO c l m) (.ret (.pv (.tuple []))) (mO c l { m with frames:=m.frames++[⟨m.at_,m.vars,.fn p vs,a,none⟩],fg:=[],fv:=m.fv+1,at_:=p,vars:=a::vs }):=by
 have hw:=want_ok (.fn p vs)
 have hp:=plainc_ok p vs a
 rw [hpl] at hp
 simp only [It.kind] at hw
 have hwi:=with_ok vs a h1 h2 h3
 have ho1:=varsP_one m.vars
 have ho2:=itP_one a
 have ho3:=varsP_one (a::vs)
 have hc1:=vcells_one ho1
 have hc2:=vcells_one ho2
 have hc3:=vcells_one ho3
 have hq1:(V.pv (varsP m.vars)).one=true:=by rw [one_pv];exact ho1
 have hq2:(V.pv (itP a)).one=true:=by rw [one_pv];exact ho2
 have hq3:(V.pv (varsP (a::vs))).one=true:=by rw [one_pv];exact ho3
 have hl':¬ (1024:Int)≤m.frames.length:=by omega
 have ht:((m.frames++m.fg).map frV).take m.frames.length=m.frames.map frV:=by simp
 have hle:m.frames.length≤((m.frames++m.fg).map frV).length:=by simp
 have hA:(m.frames++[(⟨m.at_,m.vars,.fn p vs,a,none⟩:Fr)]++[]).map frV=m.frames.map frV++[[.pv (.int m.at_),.pv (varsP m.vars),.pv (itP (.fn p vs)),.pv (itP a),.pv .nil]]:=by
  simp [frV]
 refine bodyM (ks:=keysM++frN (m.frames++m.fg)) [] (frN (m.frames++m.fg)) Tryz.func115 Tryz.ntmps115 ?_ (hks:=rfl) (hms1:=mO_1 c l m _) (hms2:=mO_2 c l m hN) (hna:=mO_3 c l m (by simp [namesL,V.names])) (hms3:=mO_2 c l _ hN) (hno:=mO_4 c l m _ rfl (by intro n hn;simp [frN,Mm.push] at hn ⊢;grind))
 have eS:mS { m with frames:=m.frames++[⟨m.at_,m.vars,.fn p vs,a,none⟩],fg:=[],fv:=m.fv+1,at_:=p,vars:=a::vs } = mS m:=rfl
 simp only [mO,eS]
 unfold keysM
 unfold tabO tabN at *
 simp only [List.cons_append,List.nil_append,mB,mF,hA,List.length_append,List.length_cons,List.length_nil,Nat.zero_add] at *
 generalize mS m=S0 at *
 clear hA eS h1 h2 h3 hN hpl
 generalize (m.frames++m.fg).map frV=fs at *
 generalize m.frames.map frV=fs0 at *
 generalize hgp:itP (.fn p vs)=pf at *
 generalize tB m.tab.hits=T0 at *
 generalize Ob.imap (numE 0 m.tab.nums)=T1 at *
 generalize Ob.cache (DI m.tab.nums) (FI m.tab.nums)=T2 at *
 generalize Ob.cache (DL m.tab.nums) (FL m.tab.nums)=T3 at *
 generalize Ob.cache (DV m.tab.nums) (FV m.tab.nums)=T4 at *
 generalize Ob.imap (resE m.tab.res)=T5 at *
 generalize frN (m.frames++m.fg)=ms at *
 simp only [itP] at hgp
 subst hgp
 generalize c.map insP=cs at *
 generalize varsP (a::vs)=vv at *
 generalize varsP vs=v0 at *
 generalize varsP m.vars=v1 at *
 generalize itP a=va at *
 refine gg ?_
 refine ex_loop 1 (ex_round ?_)
 refine gg ?_
 refine call hw ?_
 refine gg ?_
 refine call hp ?_
 refine gg ?_
 refine⟨by rfl,?_⟩
 refine gg ?_
 refine call hwi ?_
 refine gg ?_
 refine⟨by rfl,?_⟩
 refine gg ?_
 exact⟨by simp [retIs,resV,resL,resOne,mkTup,getS,getO,rdV,mkAgg,unL,V.un,TI.isAgg,XX_T,tt30,Tryz.f115,ht,pvE,pvL],by simp [subO,getO,tt30,Tryz.f115,ht,pvE,pvL]⟩
theorem entN_npfull (c:List Ins) (l:Nat) (m:Mm) (hN:∀ n∈frN (m.frames++m.fg),1000≤n) (p:Nat) (vs:List It) (a:It) (hpl:plainC (.fn p vs) a=false) (hfl:1024≤m.frames.length) (hfl2:m.frames.length≤1000000) :
  AC Tryz.prog gl 115 [.loc 901 0,.pv (itP (.fn p vs)),.pv (itP a),.pv .nil] (mO c l m) (.panic (fail 4)) []:=by
 have hw:=want_ok (.fn p vs)
 have hp:=plainc_ok p vs a
 rw [hpl] at hp
 simp only [It.kind] at hw
 have hl':(1024:Int)≤m.frames.length:=by omega
 refine bodyM (ks:=keysM++frN (m.frames++m.fg)) [] (frN (m.frames++m.fg)) Tryz.func115 Tryz.ntmps115 ?_ (hks:=rfl) (hms1:=mO_1 c l m _) (hms2:=mO_2 c l m hN) (hna:=mO_3 c l m (by simp [namesL,V.names])) (hms3:=by simp [keysO]) (hno:=by simp [subL,Go.Lg.Out.names,namesOb])
 simp only [mO]
 unfold keysM
 unfold tabO tabN at *
 simp only [List.cons_append,List.nil_append,mB,mF,fail] at *
 generalize mS m=S0 at *
 clear hN hpl
 generalize (m.frames++m.fg).map frV=fs at *
 generalize hgp:itP (.fn p vs)=pf at *
 generalize tB m.tab.hits=T0 at *
 generalize Ob.imap (numE 0 m.tab.nums)=T1 at *
 generalize Ob.cache (DI m.tab.nums) (FI m.tab.nums)=T2 at *
 generalize Ob.cache (DL m.tab.nums) (FL m.tab.nums)=T3 at *
 generalize Ob.cache (DV m.tab.nums) (FV m.tab.nums)=T4 at *
 generalize Ob.imap (resE m.tab.res)=T5 at *
 generalize frN (m.frames++m.fg)=ms at *
 simp only [itP] at hgp
 subst hgp
 generalize c.map insP=cs at *
 generalize varsP vs=v0 at *
 generalize varsP m.vars=v1 at *
 generalize itP a=va at *
 refine gg ?_
 refine ex_loop 1 (ex_round ?_)
 refine gg ?_
 refine call hw ?_
 refine gg ?_
 refine call hp ?_
 refine gg ?_
 refine pnc (t:=179) (p:=.agg [.int 4]) ?_
 refine gg ?_
 exact⟨rfl,trivial⟩
theorem entN_missfull (c:List Ins) (l:Nat) (m:Mm) (hN:∀ n∈frN (m.frames++m.fg),1000≤n) (p:Nat) (vs:List It) (a:It) (hpl:plainC (.fn p vs) a=true) (hfl:1024≤m.frames.length) (hfl2:m.frames.length≤1000000) (hx:m.tab.get (.fn p vs) a=none) (hz:m.tab.nums.length+szI (.fn p vs)+szI a≤1152921504606846976) (hs:Sh m.tab.nums) (hk:Rk m.tab.res) :
  AC Tryz.prog gl 115 [.loc 901 0,.pv (itP (.fn p vs)),.pv (itP a),.pv .nil] (mO c l m) (.panic (fail 4)) []:=by
 have hw:=want_ok (.fn p vs)
 have hp:=plainc_ok p vs a
 rw [hpl] at hp
 simp only [It.kind] at hw
 have hlk:=lookup_none m.tab (.fn p vs) a hz hs hk hx
 have hl':(1024:Int)≤m.frames.length:=by omega
 refine bodyM (ks:=keysM++frN (m.frames++m.fg)) [] (frN (m.frames++m.fg)) Tryz.func115 Tryz.ntmps115 ?_ (hks:=rfl) (hms1:=mO_1 c l m _) (hms2:=mO_2 c l m hN) (hna:=mO_3 c l m (by simp [namesL,V.names])) (hms3:=by simp [keysO]) (hno:=by simp [subL,Go.Lg.Out.names,namesOb])
 simp only [mO]
 unfold keysM
 unfold tabO tabN at *
 simp only [List.cons_append,List.nil_append,mB,mF,fail] at *
 generalize mS m=S0 at *
 clear hN hpl hx hz hs hk
 generalize (m.frames++m.fg).map frV=fs at *
 generalize hgp:itP (.fn p vs)=pf at *
 generalize (keyN m.tab.nums (.fn p vs) a).2=l2 at *
 generalize tB m.tab.hits=T0 at *
 generalize Ob.imap (numE 0 m.tab.nums)=T1 at *
 generalize Ob.cache (DI m.tab.nums) (FI m.tab.nums)=T2 at *
 generalize Ob.cache (DL m.tab.nums) (FL m.tab.nums)=T3 at *
 generalize Ob.cache (DV m.tab.nums) (FV m.tab.nums)=T4 at *
 generalize Ob.imap (resE m.tab.res)=T5 at *
 generalize Ob.imap (numE 0 l2)=U1 at *
 generalize Ob.cache (DI l2) (FI l2)=U2 at *
 generalize Ob.cache (DL l2) (FL l2)=U3 at *
 generalize Ob.cache (DV l2) (FV l2)=U4 at *
 generalize frN (m.frames++m.fg)=ms at *
 simp only [itP] at hgp
 subst hgp
 generalize c.map insP=cs at *
 generalize varsP vs=v0 at *
 generalize varsP m.vars=v1 at *
 generalize itP a=va at *
 refine gg ?_
 refine ex_loop 1 (ex_round ?_)
 refine gg ?_
 refine call hw ?_
 refine gg ?_
 refine call hp ?_
 refine gg ?_
 refine call hlk ?_
 refine gg ?_
 refine pnc (t:=179) (p:=.agg [.int 4]) ?_
 refine gg ?_
 exact⟨rfl,trivial⟩
theorem entN_hit (c:List Ins) (l:Nat) (m:Mm) (hN:∀ n∈frN (m.frames++m.fg),1000≤n) (p:Nat) (vs:List It) (a:It) (hpl:plainC (.fn p vs) a=true) (x:It) (hx:m.tab.get (.fn p vs) a=some x) (hh:m.tab.hits≤1152921504606846976) (hst:m.stack.length≤1000000) (hz:m.tab.nums.length+szI (.fn p vs)+szI a≤1152921504606846976) (hs:Sh m.tab.nums) (hk:Rk m.tab.res) :
  AC Tryz.prog gl 115 [.loc 901 0,.pv (itP (.fn p vs)),.pv (itP a),.pv .nil] (mO c l m) (.ret (.pv (.tuple []))) (mO c l (Mm.push { m with tab:=m.tab.hit (.fn p vs) a } x)):=by
 have hw:=want_ok (.fn p vs)
 have hp:=plainc_ok p vs a
 rw [hpl] at hp
 simp only [It.kind] at hw
 have hlk:=lookup_some m.tab (.fn p vs) a x hz hs hk hh hx
 have hpu:=push_ok c l { m with tab:=m.tab.hit (.fn p vs) a } x hst
 have hx1:=vcells_one (itP_one x)
 have hx2:(V.pv (itP x)).one=true:=by rw [one_pv];exact itP_one x
 refine bodyM (ks:=keysM++frN (m.frames++m.fg)) [] (frN (m.frames++m.fg)) Tryz.func115 Tryz.ntmps115 ?_ (hks:=rfl) (hms1:=mO_1 c l m _) (hms2:=mO_2 c l m hN) (hna:=mO_3 c l m (by simp [namesL,V.names])) (hms3:=mO_2 c l _ hN) (hno:=mO_4 c l m _ rfl (by intro n hn;simp [frN,Mm.push] at hn ⊢;grind))
 have eF:mF (Mm.push { m with tab:=m.tab.hit (.fn p vs) a } x)=mF m:=rfl
 have eT:(Mm.push { m with tab:=m.tab.hit (.fn p vs) a } x).tab=m.tab.hit (.fn p vs) a:=rfl
 have eB:mB c l { m with tab:=m.tab.hit (.fn p vs) a } = mB c l m:=rfl
 have eS:mS { m with tab:=m.tab.hit (.fn p vs) a } = mS m:=rfl
 rw [eB,eS] at hpu
 simp only [mO,eF,eT]
 generalize mS (Mm.push _ x)=S2 at *
 generalize mB c l (Mm.push _ x)=B2 at *
 unfold keysM
 unfold tabO tabN Tab.hit at *
 simp only [List.cons_append,List.nil_append,mF] at *
 generalize mS m=S0 at *
 clear eF eT eB eS hN hpl hx hz hs hk hst hh
 have eB0:mB c l m = .box [.pv (.slice (c.map insP)),.pv (.int l),.pv (.int m.steps),.bfn 95 [.loc 980 0],.bfn 96 [.loc 980 0],.arr 902 m.sv m.stack.length,.arr 903 m.fv m.frames.length,.pv (.int m.at_),.pv (varsP m.vars)]:=rfl
 rw [eB0] at hpu ⊢
 clear eB0
 generalize (m.frames++m.fg).map frV=fs at *
 generalize hgp:itP (.fn p vs)=pf at *
 generalize (keyN m.tab.nums (.fn p vs) a).2=l2 at *
 generalize tB m.tab.hits=T0 at *
 generalize Ob.imap (numE 0 m.tab.nums)=T1 at *
 generalize Ob.cache (DI m.tab.nums) (FI m.tab.nums)=T2 at *
 generalize Ob.cache (DL m.tab.nums) (FL m.tab.nums)=T3 at *
 generalize Ob.cache (DV m.tab.nums) (FV m.tab.nums)=T4 at *
 generalize Ob.imap (resE m.tab.res)=T5 at *
 generalize Ob.imap (numE 0 l2)=U1 at *
 generalize Ob.cache (DI l2) (FI l2)=U2 at *
 generalize Ob.cache (DL l2) (FL l2)=U3 at *
 generalize Ob.cache (DV l2) (FV l2)=U4 at *
 generalize tB (m.tab.hits+1)=U0 at *
 generalize frN (m.frames++m.fg)=ms at *
 simp only [itP] at hgp
 subst hgp
 generalize c.map insP=cs at *
 generalize varsP vs=v0 at *
 generalize varsP m.vars=v1 at *
 generalize itP a=va at *
 generalize itP x=px at *
 refine gg ?_
 refine ex_loop 1 (ex_round ?_)
 refine gg ?_
 refine call hw ?_
 refine gg ?_
 refine call hp ?_
 refine gg ?_
 refine call hlk ?_
 refine gg ?_
 refine call hpu ?_
 refine gg ?_
 exact enC8
end Go.Proofs.YtodjpfpmhjdhbaaGreatDoor
namespace Go.Lg
theorem Rounds.weaken {X:Env1} {b:Code} {Q:AEx→St→Prop} {k:Nat} {σ τ:St} (hw:Weak X σ τ) (h:Rounds X b Q k τ):Rounds X b Q k σ:=by
 cases k with
 | zero=>exact h.elim
 | succ k=>exact AWP.weaken hw h
end Go.Lg
namespace Go.Proofs.YtodjpfpmhjdhbaaGreatDoor
open Go.Lg
set_option maxRecDepth 10000
set_option maxHeartbeats 4000000
def rdB (r:Rd):Ob:=rB r (.slice (r.left.map itC))
def retP:Option (It × It)→PV
 | none => .tuple [.nil,.nil,.bool true]
 | some (f,a) => .tuple [itP f,itP a,.bool false]
theorem rd_ret {b:Nat} (hb:b≤800000) {r r':Rd} {x:It} {q:Option (It × It)} (hr:RdOk b r) (hlt:r.next<r.count) (h:r.returned x=some (q,r')) :
  AC Tryz.prog gl 134 [.loc 920 0,.pv (itP x)] [(920,rdB r)] (.ret (.pv (retP q))) [(920,rdB r')]:=by
 have hcnt:=hr.count
 unfold Rd.returned at h
 split at h
 ·rename_i a rest e
  cases h
  have:=ret_call_ok r x a rest
  unfold rdB
  rw [e]
  exact this
 ·rename_i e
  split at h
  ·rename_i hn
   cases h
   have:=ret_done_ok r x hn (by omega)
   unfold rdB
   simp only [e]
   exact this
  ·rename_i hn
   split at h
   ·rename_i f a r'' hbeg
    cases h
    unfold rdB
    rw [e]
    unfold Rd.begin at hbeg
    split at hbeg
    ·rename_i ea
     simp only [Option.some.injEq,Prod.mk.injEq] at hbeg
     obtain⟨rfl,rfl,rfl⟩:=hbeg
     refine ret_next_ok r x _ _ _ hn (by omega) ?_
     exact begin_nat_ok { r with result:=x,next:=r.next+1 } (.slice []) ea (by simp only;omega)
    ·rename_i L ea
     split at hbeg
     ·rename_i hd tl hg
      simp only [Option.some.injEq,Prod.mk.injEq] at hbeg
      obtain⟨rfl,rfl,rfl⟩:=hbeg
      refine ret_next_ok r x _ _ _ hn (by omega) ?_
      exact begin_list_ok { r with result:=x,next:=r.next+1 } (.slice []) L ea hd tl hg
     ·cases hbeg
   ·cases h
theorem returned_result {r r':Rd} {x:It} (h:r.returned x=some (none,r')):r'.result=x:=by
 unfold Rd.returned at h
 split at h
 ·cases h
 ·split at h
  ·cases h;rfl
  ·split at h<;>cases h
def oth (m:Mm):List Nat:=(frN (m.frames++m.fg)).filter (fun n=>decide (n≠920))
def KS (m:Mm):List Nat:=keysM++920::oth m
theorem rB_names (r:Rd) (lv:PV):(rB r lv).names=[]:=by simp [rB,Ob.names,namesL,V.names]
theorem rdB_names (r:Rd):(rdB r).names=[]:=rB_names _ _
def bodB:Code→Code
 | .block _ a=>a
 | c=>c
def bodL:Code→Code
 | .loop a=>a
 | c=>c
noncomputable def bE:Code:=bodB (bodL (bodB (Tryz.f115.body.getD .skip)))
theorem namesR (c:List Ins) (l:Nat) (m:Mm) (r:Rd):∀ n∈namesOb (mO c l m++[(920,rdB r)]),n∈KS m:=by
 intro n hn
 rw [namesOb_app,List.mem_append] at hn
 simp only [KS,oth,List.mem_append,List.mem_cons,List.mem_filter,decide_eq_true_eq]
 rcases hn with hn|hn
 ·have:=namesOb_mO c l m n hn
  simp only [List.mem_append] at this
  grind
 ·simp only [namesOb,rdB_names,List.mem_append,List.mem_cons,List.not_mem_nil,or_false] at hn
  grind
theorem weakR {nm:List (Nat × Note)} {nt:Nat} (c:List Ins) (l:Nat) (m:Mm) (f a:It) (r:Rd) (S:List (Nat × V)) (U:List Nat) (hS:slotsLe [(0,.loc 901 0),(1,.pv (itP f)),(2,.pv (itP a)),(3,.loc 920 0)] S) :
  Weak (XX nm nt (KS m)) ⟨S,mO c l m++[(920,rdB r)],U⟩ ⟨[(0,.loc 901 0),(1,.pv (itP f)),(2,.pv (itP a)),(3,.loc 920 0)],mO c l m++[(920,rdB r)],KS m⟩:=by
 refine⟨hS,?_,?_⟩
 ·have:(keysO (mO c l m++[(920,rdB r)])).Nodup:=by
   have e:keysO (mO c l m++[(920,rdB r)])=[901,902,903,980,981,982,983,984,985,920]:=rfl
   rw [e]
   decide
  have key:∀ (x y:List (Nat × Ob)),(keysO (x++y)).Nodup→subO y (x++y):=by
   intro x y
   induction y generalizing x with
   | nil=>intro _;trivial
   | cons p y ih =>
    obtain⟨n,o⟩:=p
    intro hd
    refine⟨?_,?_⟩
    ·have:∀ (x:List (Nat × Ob)),n ∉ keysO x→getO (x++(n,o)::y) n=some o:=by
      intro x
      induction x with
      | nil=>intro _;simp [getO]
      | cons q x ih =>
       obtain⟨k,o'⟩:=q
       intro hn
       simp only [keysO,List.map_cons,List.mem_cons,not_or] at hn
       simp only [List.cons_append,getO]
       rw [if_neg (fun e=>hn.1 e.symm)]
       exact ih hn.2
     refine this x ?_
     intro hx
     simp only [keysO,List.map_append,List.map_cons,List.nodup_append,List.nodup_cons,List.mem_cons] at hd
     exact hd.2.2 n (by simpa [keysO] using hx) n (.inl rfl) rfl
    ·have:=ih (x++[(n,o)]) (by simpa using hd)
     simpa using this
  exact key [] _ this
 ·rw [subL_iff]
  intro n hn
  simp only [namesSl,V.names,XX_given,List.mem_append,List.nil_append,List.cons_append,List.append_nil,List.mem_cons,List.not_mem_nil,or_false,false_or] at hn
  have h1:901∈KS m:=by simp [KS,keysM]
  have h2:920∈KS m:=by simp [KS]
  have h3:=namesR c l m r n
  grind
structure EB (b k:Nat) (m:Mm) (f a:It) (r:Rd):Prop where
 bb:b≤800000
 hf:Bd b f
 ha:Bd b a
 hr:RdOk b r
 lt:r.next<r.count
 res:∀ e∈m.tab.res,Bd b e.2
 nums:m.tab.nums.length+(k+1) * 2200000≤1152921504606846976
 hits:m.tab.hits+k+1≤1152921504606846976
 sh:Sh m.tab.nums
 rk:Rk m.tab.res
 few:m.frames.length≤1024
 st:m.stack.length≤900000
inductive OutE (c:List Ins) (l:Nat) (frs fgs:List Fr):Rm→Go.Lg.Out→List (Nat × Ob)→Prop
 | err {e} : OutE c l frs fgs (.err e) (.panic (fail e)) []
 | into {m':Mm} {at_:Int} {vars:List It} {f a:It} {r:Rd} : m'.frames=frs++[⟨at_,vars,f,a,some (920,r)⟩]→m'.fg=[]→OutE c l frs fgs (.go m') (.ret (.pv (.tuple []))) (mO c l m'++[(920,rdB r)])
 | push {m1:Mm} {x:It} : m1.frames=frs→m1.fg=fgs→OutE c l frs fgs (.go (m1.push x)) (.ret (.pv (.tuple []))) (mO c l (m1.push x))
abbrev RoundsE (c:List Ins) (l k:Nat) (m:Mm) (out:Go.Lg.Out) (objs':List (Nat × Ob)) (S:List (Nat × V)) (O:List (Nat × Ob)) (U:List Nat):Prop :=
 Rounds (XX [] 98 (KS m)) (.block 1 bE) (blockQ 0 (endQ (XX [] 98 (KS m)) Tryz.f115.results.toList out objs')) k ⟨S,O,U⟩
def S0E (f a:It):List (Nat × V):=[(0,.loc 901 0),(1,.pv (itP f)),(2,.pv (itP a)),(3,.loc 920 0)]
end Go.Proofs.YtodjpfpmhjdhbaaGreatDoor
