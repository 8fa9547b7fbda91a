/- Contracts of functions; no conditions. -/
import Derived.Test.YtodjpfpmhjdhbaaGreatDoorTwiceC24
import Derived.Test.YtodjpfpmhjdhbaaGreatDoorTwiceC23
set_option linter.all false
theorem Go.Proofs.YtodjpfpmhjdhbaaGreatDoor.onC25 {s : Go.Lg.PV} (h : s.one = true) : (Go.Lg.V.pv s).one = true := by rw [Go.Lg.one_pv]; exact h
namespace Go.Proofs.YtodjpfpmhjdhbaaGreatDoor
open Go.Lg
theorem enC25 {P Q : Prop} (h : P := by simp [retIs,resV,resL,resOne,mkTup,getS,getO,rdV,mkAgg,unL,V.un,TI.isAgg,XX_T,tt41,Tryz.f54,Tryz.f45,Tryz.f16,Tryz.f90,Tryz.f50,tt27,Tryz.f137]) (k : Q := by simp [subO,getO,tt41,Tryz.f54,Tryz.f45,Tryz.f16,Tryz.f90,Tryz.f50,tt27,Tryz.f137]) : P ∧ Q := ⟨h,k⟩
end Go.Proofs.YtodjpfpmhjdhbaaGreatDoor
namespace Go.Proofs.YtodjpfpmhjdhbaaGreatDoor
open Go.Lg
set_option maxRecDepth 10000
set_option maxHeartbeats 4000000
inductive FdC (f:Rs) (zs:List Nat) (most:Nat):Nat→Rs→Nat→Rs→Nat→Bool→Prop
 | done {r u} : FdC f zs most 0 r u r u false
 | out1 {j r u d g u'} : zs[j]? = some d→ApC f (.num d) u most g u' true→FdC f zs most (j+1) r u r u' true
 | out2 {j r u d g u1 g' u'} : zs[j]? = some d→ApC f (.num d) u most g u1 false→ApC g (.list (zs.drop (j+1))) u1 most g' u' true→FdC f zs most (j+1) r u r u' true
 | out3 {j r u d g u1 g' u2 r' u'} : zs[j]? = some d→ApC f (.num d) u most g u1 false→ApC g (.list (zs.drop (j+1))) u1 most g' u2 false→ApC g' r u2 most r' u' true→FdC f zs most (j+1) r u r' u' true
 | step {j r u d g u1 g' u2 r' u3 q u' o} : zs[j]? = some d→ApC f (.num d) u most g u1 false→ApC g (.list (zs.drop (j+1))) u1 most g' u2 false→ApC g' r u2 most r' u3 false→FdC f zs most j r' u3 q u' o→FdC f zs most (j+1) r u q u' o
noncomputable def fdI (b f:Rs) (zs:List Nat) (most:Nat) (i:Int) (r:Rs) (u:Nat) (out:Bool):St:=⟨[(0,.loc 970 0),(6,.loc 6 0),(7,.arr 971 3 3),(13,.loc 13 0),(14,.pv (.int i))],
 [(970,mc u most out),(6,.box zeroV),(971,.arr 3 9 109 (pvE [rsC b,rsC f,rsC (.list zs)])),(13,.box (pvL (rsC r)))],[13,971,6,970]⟩
theorem eval_fold (s:Ty) (x y z:Tm) (env:List Rs) (b f q:Rs) (zs:List Nat) (u u1 u2 u3 u' most:Nat) (o:Bool) (hu:u<most) (hm:most≤65536) (hn:zs.length≤100000) (ha:EvC x env (u+1) most (rsC b) u1 false) (hb:EvC y env u1 most (rsC f) u2 false) (hz:EvC z env u2 most (rsC (.list zs)) u3 false)
  (hr:FdC f zs most zs.length b u3 q u' o):EvC (.fold s x y z) env u most (rsC q) u' o:=by
 have hu':¬ (u:Int)=most:=by omega
 have e1:((u+1:Nat):Int)=(u:Int)+1:=by omega
 have ec:(Tm.fold s x y z).cells=[.int 9,.int 0,.int s.kind,.slice (s.args.map Ty.cells),.slice [x.cells,y.cells,z.cells]]:=by rw [Tm.cells_eq];rfl
 have hwk:∀ (k:Nat) (r:Rs) (u:Nat) (out:Bool) (σ:St),σ.slots.length=σ.slots.length→True:=fun _ _ _ _ _ _=>trivial
 have hall:∀ q∈numsR zs,q.length=1:=by
  intro q hq
  simp only [numsR,List.mem_map] at hq
  obtain⟨k,_,rfl⟩:=hq
  rfl
 have hlz:(numsR zs).length=zs.length:=by simp [numsR]
 unfold EvC
 rw [ec]
 unfold EvC mc at ha hb hz
 rw [e1] at ha
 clear ec hwk
 obtain⟨n1,l1,p1,k1,i1,tk1,ta1,bs1,f1,ea⟩:=rsC_shape b
 obtain⟨n2,l2,p2,k2,i2,tk2,ta2,bs2,f2,eb⟩:=rsC_shape f
 rw [Tm.cells_eq x] at *
 rw [Tm.cells_eq y] at *
 rw [Tm.cells_eq z] at *
 simp only [ea] at ha
 simp only [eb] at hb
 simp only [rsC] at hz
 generalize rsE env=ev at *
 generalize x.ty.args.map Ty.cells=tx at *
 generalize x.args.map Tm.cells=sx at *
 generalize y.ty.args.map Ty.cells=ty at *
 generalize y.args.map Tm.cells=sy at *
 generalize z.ty.args.map Ty.cells=tz at *
 generalize z.args.map Tm.cells=sz at *
 generalize s.args.map Ty.cells=ss at *
 show AC Tryz.prog gl 51 _ [(970,mc u most false)] _ _
 have hmc:mc u most false = .box [.pv (.int u),.pv (.int most),.pv (.bool false)]:=rfl
 rw [hmc]
 clear hmc
 have hlast:=hr
 refine body [(7,.arr 971 9 109)] Tryz.func51 Tryz.ntmps51 ?_ (hno:=by simp [subL,Out.names,V.names,namesL,namesOb,Ob.names,keysO,mc])
 clear hlast
 refine gg ?_
 refine⟨by rfl,?_⟩
 refine gg ?_
 refine ex_loop 4 (ex_round ?_)
 refine gg ?_
 refine call ha ?_
 refine gg ?_
 refine ex_round ?_
 refine kp [0,2,4,6,7,64,65,66] [6,970,971] ?_
 refine gg ?_
 refine call hb ?_
 refine gg ?_
 refine ex_round ?_
 refine kp [0,2,4,6,7,64,65,66] [6,970,971] ?_
 refine gg ?_
 refine call hz ?_
 refine gg ?_
 refine ex_round ?_
 refine kp [0,2,4,6,7,64,65,66] [6,970,971] ?_
 refine gg ?_
 refine AWP.loop (ι:={ i:Nat × Rs × Nat × Bool // (i.2.2.2=false∧FdC f zs most i.1 i.2.1 i.2.2.1 q u' o)∨(i.2.2.2=true∧i.2.1=q∧i.2.2.1=u'∧o=true) }) (fun i=>fdI b f zs most ((i.1.1:Int)-1) i.1.2.1 i.1.2.2.1 i.1.2.2.2) (fun i=>i.1.1) ⟨(zs.length,b,u3,false),.inl ⟨rfl,hr⟩⟩ ?_ ?_
 ·refine⟨by simp [fdI,slotsLe,getS,hlz],by simp [fdI,subO,getO,mc,zeroV,rsC,ea,eb,pvL,pvE],?_⟩
  simp [fdI,subL,namesSl,V.names,namesOb,Ob.names,namesL,namesE,namesE_pvE,XX_given,mc,zeroV,rsC,ea,eb,pvL,pvE]
 rintro⟨⟨j',r,uu,out⟩,hI⟩
 simp only at hI ⊢
 clear ha hb hz hr
 obtain⟨n3,l3,p3,k3,i3,tk3,ta3,bs3,f3,er⟩:=rsC_shape r
 rcases hI with ⟨rfl,hR⟩|⟨rfl,hq,rfl,rfl⟩
 ·cases hR with
  | done =>
   have h1:¬ (0:Int)≤((0:Nat):Int)-1:=by omega
   simp only [fdI,mc,zeroV,rsC,ea,eb,er,pvL,List.map_cons,List.map_nil]
   generalize ((0:Nat):Int)-1=ii at *
   refine gg ?_
   exact⟨by simp [retIs,resV,resL,resOne,mkTup,getS,getO,rdV,mkAgg,unL,V.un,TI.isAgg,XX_T,tt109,Tryz.f51,er,mc],by simp [subO,getO,tt109,Tryz.f51,er,mc]⟩
  | @out1 j _ _ d g _ hd hc1 =>
   have hj:j<zs.length:=(List.getElem?_eq_some_iff.1 hd).1
   have h0:((j+1:Nat):Int)-1=j:=by omega
   have h1:(0:Int)≤j:=by omega
   have h2:(j:Int)<zs.length:=by omega
   have h3:(0:Int)≤(j:Int)+1:=by omega
   have h4:(j:Int)+1≤zs.length:=by omega
   have h5:((j:Int)+1).toNat=j+1:=by omega
   have hg:(numsR zs).getD j []=[.int d]:=by simp [numsR,List.getD,hd]
   have hdr:numsR (zs.drop (j+1))=(numsR zs).drop (j+1):=by simp [numsR]
   rw [h0]
   obtain⟨n4,l4,p4,k4,i4,tk4,ta4,bs4,f4,eg⟩:=rsC_shape g
   unfold ApC mc at hc1
   simp only [rsC,eb,eg] at hc1
   simp only [fdI,mc,zeroV,rsC,ea,eb,er,pvL,List.map_cons,List.map_nil]
   generalize numsR zs=qs at *
   refine gg ?_
   refine call hc1 ?_
   refine gg ?_
   refine⟨by rfl,?_⟩
   refine gg ?_
   exact⟨⟨(j,q,u',true),.inr ⟨rfl,rfl,rfl,rfl⟩⟩,by simp only;omega,⟨by simp [fdI,slotsLe,getS],by simp [fdI,subO,getO,mc,zeroV,rsC,ea,eb,er,pvL,pvE],by simp [fdI,subL,namesSl,V.names,namesOb,Ob.names,namesL,namesE,namesE_pvE,XX_given,mc,zeroV,rsC,ea,eb,er,pvL,pvE]⟩⟩
  | @out2 j _ _ d g v1 g' _ hd hc1 hc2 =>
   have hj:j<zs.length:=(List.getElem?_eq_some_iff.1 hd).1
   have h0:((j+1:Nat):Int)-1=j:=by omega
   have h1:(0:Int)≤j:=by omega
   have h2:(j:Int)<zs.length:=by omega
   have h3:(0:Int)≤(j:Int)+1:=by omega
   have h4:(j:Int)+1≤zs.length:=by omega
   have h5:((j:Int)+1).toNat=j+1:=by omega
   have hg:(numsR zs).getD j []=[.int d]:=by simp [numsR,List.getD,hd]
   have hdr:numsR (zs.drop (j+1))=(numsR zs).drop (j+1):=by simp [numsR]
   rw [h0]
   obtain⟨n4,l4,p4,k4,i4,tk4,ta4,bs4,f4,eg⟩:=rsC_shape g
   obtain⟨n5,l5,p5,k5,i5,tk5,ta5,bs5,f5,eg2⟩:=rsC_shape g'
   unfold ApC mc at hc1 hc2
   simp only [rsC,eb,eg] at hc1
   simp only [rsC,eg,eg2,hdr] at hc2
   simp only [fdI,mc,zeroV,rsC,ea,eb,er,pvL,List.map_cons,List.map_nil]
   generalize numsR zs=qs at *
   refine gg ?_
   refine call hc1 ?_
   refine gg ?_
   refine⟨by rfl,?_⟩
   refine gg ?_
   refine call hc2 ?_
   refine gg ?_
   refine⟨by rfl,?_⟩
   refine gg ?_
   exact⟨⟨(j,q,u',true),.inr ⟨rfl,rfl,rfl,rfl⟩⟩,by simp only;omega,⟨by simp [fdI,slotsLe,getS],by simp [fdI,subO,getO,mc,zeroV,rsC,ea,eb,er,pvL,pvE],by simp [fdI,subL,namesSl,V.names,namesOb,Ob.names,namesL,namesE,namesE_pvE,XX_given,mc,zeroV,rsC,ea,eb,er,pvL,pvE]⟩⟩
  | @out3 j _ _ d g v1 g' v2 _ _ hd hc1 hc2 hc3 =>
   have hj:j<zs.length:=(List.getElem?_eq_some_iff.1 hd).1
   have h0:((j+1:Nat):Int)-1=j:=by omega
   have h1:(0:Int)≤j:=by omega
   have h2:(j:Int)<zs.length:=by omega
   have h3:(0:Int)≤(j:Int)+1:=by omega
   have h4:(j:Int)+1≤zs.length:=by omega
   have h5:((j:Int)+1).toNat=j+1:=by omega
   have hg:(numsR zs).getD j []=[.int d]:=by simp [numsR,List.getD,hd]
   have hdr:numsR (zs.drop (j+1))=(numsR zs).drop (j+1):=by simp [numsR]
   rw [h0]
   obtain⟨n4,l4,p4,k4,i4,tk4,ta4,bs4,f4,eg⟩:=rsC_shape g
   obtain⟨n5,l5,p5,k5,i5,tk5,ta5,bs5,f5,eg2⟩:=rsC_shape g'
   obtain⟨n6,l6,p6,k6,i6,tk6,ta6,bs6,f6,eq⟩:=rsC_shape q
   unfold ApC mc at hc1 hc2 hc3
   simp only [rsC,eb,eg] at hc1
   simp only [rsC,eg,eg2,hdr] at hc2
   simp only [eg2,er,eq] at hc3
   simp only [fdI,mc,zeroV,rsC,ea,eb,er,pvL,List.map_cons,List.map_nil]
   generalize numsR zs=qs at *
   refine gg ?_
   refine call hc1 ?_
   refine gg ?_
   refine⟨by rfl,?_⟩
   refine gg ?_
   refine call hc2 ?_
   refine gg ?_
   refine⟨by rfl,?_⟩
   refine gg ?_
   refine call hc3 ?_
   refine gg ?_
   exact⟨⟨(j,q,u',true),.inr ⟨rfl,rfl,rfl,rfl⟩⟩,by simp only;omega,⟨by simp [fdI,slotsLe,getS],by simp [fdI,subO,getO,mc,zeroV,rsC,ea,eb,er,eq,pvL,pvE],by simp [fdI,subL,namesSl,V.names,namesOb,Ob.names,namesL,namesE,namesE_pvE,XX_given,mc,zeroV,rsC,ea,eb,er,eq,pvL,pvE]⟩⟩
  | @step j _ _ d g v1 g' v2 r' v3 _ _ _ hd hc1 hc2 hc3 hR =>
   have hj:j<zs.length:=(List.getElem?_eq_some_iff.1 hd).1
   have h0:((j+1:Nat):Int)-1=j:=by omega
   have h1:(0:Int)≤j:=by omega
   have h2:(j:Int)<zs.length:=by omega
   have h3:(0:Int)≤(j:Int)+1:=by omega
   have h4:(j:Int)+1≤zs.length:=by omega
   have h5:((j:Int)+1).toNat=j+1:=by omega
   have hg:(numsR zs).getD j []=[.int d]:=by simp [numsR,List.getD,hd]
   have hdr:numsR (zs.drop (j+1))=(numsR zs).drop (j+1):=by simp [numsR]
   rw [h0]
   obtain⟨n4,l4,p4,k4,i4,tk4,ta4,bs4,f4,eg⟩:=rsC_shape g
   obtain⟨n5,l5,p5,k5,i5,tk5,ta5,bs5,f5,eg2⟩:=rsC_shape g'
   obtain⟨n6,l6,p6,k6,i6,tk6,ta6,bs6,f6,eq⟩:=rsC_shape r'
   unfold ApC mc at hc1 hc2 hc3
   simp only [rsC,eb,eg] at hc1
   simp only [rsC,eg,eg2,hdr] at hc2
   simp only [eg2,er,eq] at hc3
   simp only [fdI,mc,zeroV,rsC,ea,eb,er,pvL,List.map_cons,List.map_nil]
   generalize numsR zs=qs at *
   refine gg ?_
   refine call hc1 ?_
   refine gg ?_
   refine⟨by rfl,?_⟩
   refine gg ?_
   refine call hc2 ?_
   refine gg ?_
   refine⟨by rfl,?_⟩
   refine gg ?_
   refine call hc3 ?_
   refine gg ?_
   exact⟨⟨(j,r',v3,false),.inl ⟨rfl,hR⟩⟩,by simp only;omega,⟨by simp [fdI,slotsLe,getS],by simp [fdI,subO,getO,mc,zeroV,rsC,ea,eb,er,eq,pvL,pvE],by simp [fdI,subL,namesSl,V.names,namesOb,Ob.names,namesL,namesE,namesE_pvE,XX_given,mc,zeroV,rsC,ea,eb,er,eq,pvL,pvE]⟩⟩
 ·subst hq
  generalize (j':Int)-1=ii at *
  by_cases hk:0≤ii
  ·simp only [fdI,mc,zeroV,rsC,ea,eb,er,pvL,List.map_cons,List.map_nil]
   refine gg ?_
   exact⟨by simp [retIs,resV,resL,resOne,mkTup,getS,getO,rdV,mkAgg,unL,V.un,TI.isAgg,XX_T,tt109,Tryz.f51,er,mc],by simp [subO,getO,tt109,Tryz.f51,er,mc]⟩
  ·simp only [fdI,mc,zeroV,rsC,ea,eb,er,pvL,List.map_cons,List.map_nil]
   refine gg ?_
   exact⟨by simp [retIs,resV,resL,resOne,mkTup,getS,getO,rdV,mkAgg,unL,V.un,TI.isAgg,XX_T,tt109,Tryz.f51,er,mc],by simp [subO,getO,tt109,Tryz.f51,er,mc]⟩
set_option maxHeartbeats 1000000
inductive RsT (B:Nat):Rs→Ty→Prop
 | num {n} : n≤B→RsT B (.num n) .nat
 | list {l} : l.length≤B→(∀ x∈l,x≤B)→RsT B (.list l) .list
 | unit:RsT B .unit .unit
 | pair {a b s t} : RsT B a s→RsT B b t→RsT B (.pair a b) (.pair s t)
 | clo {b e g a t} : HasTy (g++[a]) b t→g.length+1+b.size≤5000→e.length=g.length→(∀ (i:Nat) (r:Rs) (s:Ty),e[i]? = some r→g.reverse[i]? = some s→RsT B r s)→RsT B (.clo b e) (.fn a t)
def EnvT (B:Nat) (e:List Rs) (g:List Ty):Prop:=e.length=g.length ∧ ∀ (i:Nat) (r:Rs) (s:Ty),e[i]? = some r→g.reverse[i]? = some s→RsT B r s
theorem RsT.mono {B B':Nat} (hB:B≤B') {r:Rs} {t:Ty} (h:RsT B r t):RsT B' r t:=by
 induction h with
 | num h=>exact .num (by omega)
 | list h1 h2=>exact .list (by omega) (fun x hx=>Nat.le_trans (h2 x hx) hB)
 | unit=>exact .unit
 | pair _ _ i1 i2=>exact .pair i1 i2
 | clo h1 h2 h3 _ ih=>exact .clo h1 h2 h3 ih
theorem EnvT.cons {B:Nat} {e:List Rs} {g:List Ty} {x:Rs} {a:Ty} (h:EnvT B e g) (hx:RsT B x a):EnvT B (x::e) (g++[a]):=by
 refine⟨by simp [h.1],fun i r s hr hs => ?_⟩
 rw [List.reverse_append] at hs
 cases i with
 | zero=>simp at hr hs;subst hr hs;exact hx
 | succ i=>exact h.2 i r s (by simpa using hr) (by simpa using hs)
def OutV (most u B:Nat) (t:Tm) (env:List Rs) (τ:Ty):Prop :=
 (∃ r,EvC t env u most (rsC r) most true) ∨ ∃ r u',Ev (.ev env t) r∧RsT (B+(u'-u)-1) r τ∧u<u'∧u'≤most∧EvC t env u most (rsC r) u' false
def OutA (most u B:Nat) (f x:Rs) (τ:Ty):Prop :=
 (∃ r,ApC f x u most r most true) ∨ ∃ r u',Ev (.ap f x) r∧RsT (B+(u'-u)-1) r τ∧u<u'∧u'≤most∧ApC f x u most r u' false
def AllE (most u B:Nat):Prop:=∀ g t τ env,HasTy g t τ→EnvT B env g→g.length+t.size≤5000→OutV most u B t env τ
theorem ap_out {most u B:Nat} (hP:AllE most u B) {f x:Rs} {a t:Ty} (hf:RsT B f (.fn a t)) (hx:RsT B x a):OutA most u B f x t:=by
 cases hf with
 | @clo b e g _ _ h1 h2 h3 h4 =>
  have hl:e.length≤100000:=by omega
  rcases hP (g++[a]) b t (x::e) h1 (EnvT.cons ⟨h3,h4⟩ hx) (by simp;omega) with ⟨r,h⟩|⟨r,u',h5,h6,h7,h8,h9⟩
  ·exact .inl ⟨r,call_of b e x _ _ _ _ _ hl ⟨r,rfl⟩ h⟩
  ·exact .inr ⟨r,u',.ap h5,h6,h7,h8,call_of b e x _ _ _ _ _ hl ⟨r,rfl⟩ h9⟩
theorem rc_all {most B0 u0 n:Nat} {f:Rs} {t:Ty} (hP:∀ u B,u0≤u→u≤most→B+(most-u)≤B0+(most-u0)→AllE most u B) (hf:RsT B0 f (.fn .nat (.fn t t))) (hn:n≤B0) :
  ∀ d k r u,n-k≤d→k≤n→u0≤u→u≤most→RsT (B0+(u-u0)) r t →
   (∃ q,RcC f n most k r u q most true) ∨ ∃ q u',RcC f n most k r u q u' false∧Ev (.rc f r k n) q∧u≤u'∧u'≤most∧RsT (B0+(u'-u0)) q t:=by
 intro d
 induction d with
 | zero =>
  intro k r u hd hk hu hum hr
  obtain rfl:k=n:=by omega
  exact .inr ⟨r,u,.done,.rcDone,Nat.le_refl _,hum,hr⟩
 | succ d ih =>
  intro k r u hd hk hu hum hr
  by_cases hkn:k=n
  ·subst hkn
   exact .inr ⟨r,u,.done,.rcDone,Nat.le_refl _,hum,hr⟩
  ·have hlt:k<n:=by omega
   rcases ap_out (hP u (B0+(u-u0)) hu hum (by omega)) (hf.mono (by omega)) (x:=.num k) (.num (by omega)) with ⟨g,h1⟩|⟨g,u1,e1,t1,l1,m1,h1⟩
   ·exact .inl ⟨r,.out1 hlt h1⟩
   ·have t1':RsT (B0+(u1-u0)) g (.fn t t):=t1.mono (by omega)
    rcases ap_out (hP u1 (B0+(u1-u0)) (by omega) m1 (by omega)) t1' (hr.mono (by omega)) with ⟨r',h2⟩|⟨r',u2,e2,t2,l2,m2,h2⟩
    ·exact .inl ⟨r',.out2 hlt h1 h2⟩
    ·have t2':RsT (B0+(u2-u0)) r' t:=t2.mono (by omega)
     rcases ih (k+1) r' u2 (by omega) (by omega) (by omega) m2 t2' with ⟨q,h3⟩|⟨q,u3,h3,e3,l3,m3,t3⟩
     ·exact .inl ⟨q,.step hlt h1 h2 h3⟩
     ·exact .inr ⟨q,u3,.step hlt h1 h2 h3,.rcStep hlt e1 e2 e3,by omega,m3,t3⟩
def todoF (zs:List Nat):Nat→List (Nat × List Nat)
 | 0=>[]
 | j+1=>match zs[j]? with
  | some d=>(d,zs.drop (j+1))::todoF zs j
  | none=>[]
theorem fd_all {most B0 u0:Nat} {zs:List Nat} {f:Rs} {t:Ty} (hP:∀ u B,u0≤u→u≤most→B+(most-u)≤B0+(most-u0)→AllE most u B) (hf:RsT B0 f (.fn .nat (.fn .list (.fn t t)))) (hn:zs.length≤B0) (he:∀ x∈zs,x≤B0) :
  ∀ j r u,j≤zs.length→u0≤u→u≤most→RsT (B0+(u-u0)) r t →
   (∃ q,FdC f zs most j r u q most true) ∨ ∃ q u',FdC f zs most j r u q u' false∧Ev (.fd f r (todoF zs j)) q∧u≤u'∧u'≤most∧RsT (B0+(u'-u0)) q t:=by
 intro j
 induction j with
 | zero =>
  intro r u _ hu hum hr
  exact .inr ⟨r,u,.done,.fdDone,Nat.le_refl _,hum,hr⟩
 | succ j ih =>
  intro r u hj hu hum hr
  obtain⟨d,hd⟩:∃ d,zs[j]? = some d:=⟨_,List.getElem?_eq_getElem (by omega)⟩
  have hdm:d≤B0:=he d (List.mem_of_getElem? hd)
  have hlt:todoF zs (j+1)=(d,zs.drop (j+1))::todoF zs j:=by simp only [todoF,hd]
  rw [hlt]
  rcases ap_out (hP u (B0+(u-u0)) hu hum (by omega)) (hf.mono (by omega)) (x:=.num d) (.num (by omega)) with ⟨g,h1⟩|⟨g,u1,e1,t1,l1,m1,h1⟩
  ·exact .inl ⟨r,.out1 hd h1⟩
  ·have t1':RsT (B0+(u1-u0)) g (.fn .list (.fn t t)):=t1.mono (by omega)
   have hls:RsT (B0+(u1-u0)) (.list (zs.drop (j+1))) .list:=.list (by simp;omega) (fun x hx=>by have:=he x (List.mem_of_mem_drop hx);omega)
   rcases ap_out (hP u1 (B0+(u1-u0)) (by omega) m1 (by omega)) t1' hls with ⟨g',h2⟩|⟨g',u2,e2,t2,l2,m2,h2⟩
   ·exact .inl ⟨r,.out2 hd h1 h2⟩
   ·have t2':RsT (B0+(u2-u0)) g' (.fn t t):=t2.mono (by omega)
    rcases ap_out (hP u2 (B0+(u2-u0)) (by omega) m2 (by omega)) t2' (hr.mono (by omega)) with ⟨r',h3⟩|⟨r',u3,e3,t3,l3,m3,h3⟩
    ·exact .inl ⟨r',.out3 hd h1 h2 h3⟩
    ·have t3':RsT (B0+(u3-u0)) r' t:=t3.mono (by omega)
     rcases ih r' u3 (by omega) (by omega) m3 t3' with ⟨q,h4⟩|⟨q,u4,h4,e4,l4,m4,t4⟩
     ·exact .inl ⟨q,.step hd h1 h2 h3 h4⟩
     ·exact .inr ⟨q,u4,.step hd h1 h2 h3 h4,.fdStep e1 e2 e3 e4,by omega,m4,t4⟩
theorem todo_cons (h:Nat) (t:List Nat):∀ k,k≤t.length→todoF (h::t) (k+1)=todoF t k++[(h,t)]:=by
 intro k
 induction k with
 | zero=>intro _;simp [todoF]
 | succ k ih =>
  intro hk
  have hg:t[k]? = some t[k]:=List.getElem?_eq_getElem (by omega)
  have e1:todoF (h::t) (k+1+1)=(t[k],t.drop (k+1))::todoF (h::t) (k+1):=by
   rw [todoF]
   simp only [List.getElem?_cons_succ,hg,List.drop_succ_cons]
  have e2:todoF t (k+1)=(t[k],t.drop (k+1))::todoF t k:=by
   rw [todoF]
   simp only [hg]
  rw [e1,e2,ih (by omega)]
  rfl
theorem todo_fold (zs:List Nat):todoF zs zs.length=foldArgs zs:=by
 induction zs with
 | nil=>rfl
 | cons h t ih=>rw [List.length_cons,todo_cons h t _ (Nat.le_refl _),ih];rfl
theorem eval_all {most:Nat} (hm:most≤65536):∀ N u B,most-u≤N→u≤most→B+(most-u)≤80000→AllE most u B:=by
 intro N
 induction N with
 | zero =>
  intro u B h1 h2 h3 g t τ env _ _ _
  obtain rfl:u=most:=by omega
  exact .inl ⟨_,eval_out0 t env u⟩
 | succ N ih =>
  intro u B h1 h2 h3 g t τ env hT hE hs
  by_cases hu0:u=most
  ·subst hu0
   exact .inl ⟨_,eval_out0 t env u⟩
  have hu:u<most:=by omega
  -- what is evaluated later
  have sub:∀ u1 B1,u<u1→u1≤most→B1+(most-u1)≤80000→AllE most u1 B1:=fun u1 B1 a b c=>ih u1 B1 (by omega) b c
  have hB:=hE
  cases hT with
  | @var _ i _ hi =>
   have hil:i<env.length:=by
    have:=(List.getElem?_eq_some_iff.1 hi).1
    rw [List.length_reverse] at this
    rw [hE.1];exact this
   have hg:env[i]? = some env[i]:=List.getElem?_eq_getElem hil
   have hl:env.length≤100000:=by rw [hE.1];omega
   exact .inr ⟨env[i],u+1,.var hg,(hE.2 i _ _ hg hi).mono (by omega),by omega,by omega,eval_var i env _ u most hu hm hg hl⟩
  | @lam _ s b t hb =>
   refine .inr ⟨.clo b env,u+1,.lam,?_,by omega,by omega,eval_lam s b env u most hu hm⟩
   refine .clo hb (by simp only [Tm.size] at hs;omega) hE.1 (fun i r s hr hs=>(hE.2 i r s hr hs).mono (by omega))
  | zero=>exact .inr ⟨.num 0,u+1,.zero,.num (by omega),by omega,by omega,eval_zero env u most hu hm⟩
  | nil=>exact .inr ⟨.list [],u+1,.nil,.list (by simp) (by simp),by omega,by omega,eval_nil env u most hu hm⟩
  | unit=>exact .inr ⟨.unit,u+1,.unit,.unit,by omega,by omega,eval_unit env u most hu hm⟩
  | @succ _ a ha =>
   simp only [Tm.size] at hs
   rcases sub (u+1) B (by omega) (by omega) (by omega) g a _ env ha hE (by omega) with ⟨r,h⟩|⟨r,u1,e1,t1,l1,m1,h⟩
   ·exact .inl ⟨_,out_0_1 (.succ a) a env r u most most hu hm (by simp [Tm.kind]) (by simp [Tm.kind]) rfl h⟩
   ·cases t1 with
    | @num n hn=>exact .inr ⟨.num (n+1),u1,.succ e1,.num (by omega),by omega,m1,eval_succ a env u u1 most n hu hm (by omega) h⟩
  | @fst _ a _ _ ha =>
   simp only [Tm.size] at hs
   rcases sub (u+1) B (by omega) (by omega) (by omega) g a _ env ha hE (by omega) with ⟨r,h⟩|⟨r,u1,e1,t1,l1,m1,h⟩
   ·exact .inl ⟨_,out_0_1 (.fst a) a env r u most most hu hm (by simp [Tm.kind]) (by simp [Tm.kind]) rfl h⟩
   ·cases t1 with
    | pair p1 p2=>exact .inr ⟨_,u1,.fst e1,p1.mono (by omega),by omega,m1,eval_fst a env _ _ u u1 most hu hm h⟩
  | @snd _ a _ _ ha =>
   simp only [Tm.size] at hs
   rcases sub (u+1) B (by omega) (by omega) (by omega) g a _ env ha hE (by omega) with ⟨r,h⟩|⟨r,u1,e1,t1,l1,m1,h⟩
   ·exact .inl ⟨_,out_0_1 (.snd a) a env r u most most hu hm (by simp [Tm.kind]) (by simp [Tm.kind]) rfl h⟩
   ·cases t1 with
    | pair p1 p2=>exact .inr ⟨_,u1,.snd e1,p2.mono (by omega),by omega,m1,eval_snd a env _ _ u u1 most hu hm h⟩
  | @pair _ a b _ _ ha hb =>
   simp only [Tm.size] at hs
   rcases sub (u+1) B (by omega) (by omega) (by omega) g a _ env ha hE (by omega) with ⟨r,h⟩|⟨r,u1,e1,t1,l1,m1,h⟩
   ·exact .inl ⟨_,out_0_2 (.pair a b) a b env r u most most hu hm (by simp [Tm.kind]) (by simp [Tm.kind]) rfl h⟩
   ·rcases sub u1 B (by omega) (by omega) (by omega) g b _ env hb hE (by omega) with ⟨r2,h'⟩|⟨r2,u2,e2,t2,l2,m2,h'⟩
    ·exact .inl ⟨_,out_1_2 (.pair a b) a b env r r2 u u1 most most hu hm (by simp [Tm.kind]) (by simp [Tm.kind]) rfl h h'⟩
    ·exact .inr ⟨.pair r r2,u2,.pair e1 e2,.pair (t1.mono (by omega)) (t2.mono (by omega)),by omega,m2,eval_pair a b env r r2 u u1 u2 most hu hm h h'⟩
  | @cons _ a b ha hb =>
   simp only [Tm.size] at hs
   rcases sub (u+1) B (by omega) (by omega) (by omega) g a _ env ha hE (by omega) with ⟨r,h⟩|⟨r,u1,e1,t1,l1,m1,h⟩
   ·exact .inl ⟨_,out_0_2 (.cons a b) a b env r u most most hu hm (by simp [Tm.kind]) (by simp [Tm.kind]) rfl h⟩
   ·rcases sub u1 B (by omega) (by omega) (by omega) g b _ env hb hE (by omega) with ⟨r2,h'⟩|⟨r2,u2,e2,t2,l2,m2,h'⟩
    ·exact .inl ⟨_,out_1_2 (.cons a b) a b env r r2 u u1 most most hu hm (by simp [Tm.kind]) (by simp [Tm.kind]) rfl h h'⟩
    ·cases t1 with
     | @num n hn =>
      cases t2 with
      | @list zs hl hx =>
       refine .inr ⟨.list (n::zs),u2,.cons e1 e2,.list (by simp;omega) ?_,by omega,m2,eval_cons a b env n zs u u1 u2 most hu hm (by omega) h h'⟩
       intro x hx'
       rcases List.mem_cons.1 hx' with rfl|hx'
       ·omega
       ·have:=hx x hx';omega
  | @app _ a b s _ ha hb =>
   simp only [Tm.size] at hs
   rcases sub (u+1) B (by omega) (by omega) (by omega) g a _ env ha hE (by omega) with ⟨r,h⟩|⟨r,u1,e1,t1,l1,m1,h⟩
   ·exact .inl ⟨_,out_0_2 (.app a b) a b env r u most most hu hm (by simp [Tm.kind]) (by simp [Tm.kind]) rfl h⟩
   ·rcases sub u1 B (by omega) (by omega) (by omega) g b _ env hb hE (by omega) with ⟨r2,h'⟩|⟨r2,u2,e2,t2,l2,m2,h'⟩
    ·exact .inl ⟨_,out_1_2 (.app a b) a b env r r2 u u1 most most hu hm (by simp [Tm.kind]) (by simp [Tm.kind]) rfl h h'⟩
    ·rcases ap_out (sub u2 (B+(u2-u)-2) (by omega) m2 (by omega)) (t1.mono (by omega)) (t2.mono (by omega)) with ⟨r3,h3⟩|⟨r3,u3,e3,t3,l3,m3,h3⟩
     ·exact .inl ⟨r3,eval_app a b env r r2 _ u u1 u2 most most true hu hm h h' ⟨r3,rfl⟩ h3⟩
     ·exact .inr ⟨r3,u3,.app e1 e2 e3,t3.mono (by omega),by omega,m3,eval_app a b env r r2 _ u u1 u2 u3 most false hu hm h h' ⟨r3,rfl⟩ h3⟩
  | @recn _ t a b c ha hb hc =>
   simp only [Tm.size] at hs
   rcases sub (u+1) B (by omega) (by omega) (by omega) g a _ env ha hE (by omega) with ⟨r,h⟩|⟨r,u1,e1,t1,l1,m1,h⟩
   ·exact .inl ⟨_,out_0_3 (.recn _ a b c) a b c env r u most most hu hm (by simp [Tm.kind]) (by simp [Tm.kind]) rfl h⟩
   ·rcases sub u1 B (by omega) (by omega) (by omega) g b _ env hb hE (by omega) with ⟨r2,h'⟩|⟨r2,u2,e2,t2,l2,m2,h'⟩
    ·exact .inl ⟨_,out_1_3 (.recn _ a b c) a b c env r r2 u u1 most most hu hm (by simp [Tm.kind]) (by simp [Tm.kind]) rfl h h'⟩
    ·rcases sub u2 B (by omega) (by omega) (by omega) g c _ env hc hE (by omega) with ⟨r3,h3⟩|⟨r3,u3,e3,t3,l3,m3,h3⟩
     ·exact .inl ⟨_,out_2_3 (.recn _ a b c) a b c env r r2 r3 u u1 u2 most most hu hm (by simp [Tm.kind]) (by simp [Tm.kind]) rfl h h' h3⟩
     ·cases t3 with
      | @num n hn =>
       have hf:RsT (B+(u3-u)-2) r2 (.fn .nat (.fn τ τ)):=t2.mono (by omega)
       have hcl:∃ fb fe,r2 = .clo fb fe:=by cases hf;exact⟨_,_,rfl⟩
       obtain⟨fb,fe,rfl⟩:=hcl
       rcases rc_all (u0:=u3) (n:=n) (most:=most) (fun v C hv hv2 hC=>sub v C (by omega) hv2 (by omega)) hf (by omega) n 0 r u3 (by omega) (by omega) (Nat.le_refl _) m3 (t1.mono (by omega)) with ⟨q,h4⟩|⟨q,u4,h4,e4,l4,m4,t4⟩
       ·exact .inl ⟨q,eval_rec _ a b c env r _ q n u u1 u2 u3 most most true hu hm (by omega) h h' h3 h4⟩
       ·exact .inr ⟨q,u4,.recn e1 e2 e3 e4,t4.mono (by omega),by omega,m4,eval_rec _ a b c env r _ q n u u1 u2 u3 u4 most false hu hm (by omega) h h' h3 h4⟩
  | @fold _ t a b c ha hb hc =>
   simp only [Tm.size] at hs
   rcases sub (u+1) B (by omega) (by omega) (by omega) g a _ env ha hE (by omega) with ⟨r,h⟩|⟨r,u1,e1,t1,l1,m1,h⟩
   ·exact .inl ⟨_,out_0_3 (.fold _ a b c) a b c env r u most most hu hm (by simp [Tm.kind]) (by simp [Tm.kind]) rfl h⟩
   ·rcases sub u1 B (by omega) (by omega) (by omega) g b _ env hb hE (by omega) with ⟨r2,h'⟩|⟨r2,u2,e2,t2,l2,m2,h'⟩
    ·exact .inl ⟨_,out_1_3 (.fold _ a b c) a b c env r r2 u u1 most most hu hm (by simp [Tm.kind]) (by simp [Tm.kind]) rfl h h'⟩
    ·rcases sub u2 B (by omega) (by omega) (by omega) g c _ env hc hE (by omega) with ⟨r3,h3⟩|⟨r3,u3,e3,t3,l3,m3,h3⟩
     ·exact .inl ⟨_,out_2_3 (.fold _ a b c) a b c env r r2 r3 u u1 u2 most most hu hm (by simp [Tm.kind]) (by simp [Tm.kind]) rfl h h' h3⟩
     ·cases t3 with
      | @list zs hl hx =>
       have hf:RsT (B+(u3-u)-2) r2 (.fn .nat (.fn .list (.fn τ τ))):=t2.mono (by omega)
       have hcl:∃ fb fe,r2 = .clo fb fe:=by cases hf;exact⟨_,_,rfl⟩
       obtain⟨fb,fe,rfl⟩:=hcl
       rcases fd_all (u0:=u3) (zs:=zs) (most:=most) (fun v C hv hv2 hC=>sub v C (by omega) hv2 (by omega)) hf (by omega) (fun x hx'=>by have:=hx x hx';omega) zs.length r u3 (Nat.le_refl _) (Nat.le_refl _) m3 (t1.mono (by omega)) with ⟨q,h4⟩|⟨q,u4,h4,e4,l4,m4,t4⟩
       ·exact .inl ⟨q,eval_fold _ a b c env r _ q zs u u1 u2 u3 most most true hu hm (by omega) h h' h3 h4⟩
       ·rw [todo_fold] at e4
        exact .inr ⟨q,u4,.fold e1 e2 e3 e4,t4.mono (by omega),by omega,m4,eval_fold _ a b c env r _ q zs u u1 u2 u3 u4 most false hu hm (by omega) h h' h3 h4⟩
open Go.Lg
set_option maxRecDepth 10000
set_option maxHeartbeats 4000000
def valC:Rs→List PV
 | .num n=>[.int 1,.int n,.nils,.nils]
 | .list l=>[.int 2,.int 0,.slice (numsR l),.nils]
 | .unit=>[.int 4,.int 0,.nils,.nils]
 | .pair a b=>[.int 3,.int 0,.nils,.slice [valC a,valC b]]
 | .clo _ _=>[]
theorem plain_num (n:Nat):AC Tryz.prog gl 54 [.pv (.agg (rsC (.num n))),.pv (.agg Ty.nat.cells)] [] (.ret (.pv (.agg (valC (.num n))))) []:=by
 simp only [rsC,valC,Ty.cells]
 refine body [] Tryz.func54 Tryz.ntmps54 ?_
 refine gg ?_
 exact enC25
theorem plain_unit:AC Tryz.prog gl 54 [.pv (.agg (rsC .unit)),.pv (.agg Ty.unit.cells)] [] (.ret (.pv (.agg (valC .unit)))) []:=by
 simp only [rsC,valC,Ty.cells]
 refine body [] Tryz.func54 Tryz.ntmps54 ?_
 refine gg ?_
 exact enC25
theorem numsR_all (zs:List Nat):∀ q∈numsR zs,q.length=1:=by
 intro q hq
 simp only [numsR,List.mem_map] at hq
 obtain⟨k,_,rfl⟩:=hq
 rfl
theorem plain_list (l:List Nat) (hl:l.length≤100000):AC Tryz.prog gl 54 [.pv (.agg (rsC (.list l))),.pv (.agg Ty.list.cells)] [] (.ret (.pv (.agg (valC (.list l))))) []:=by
 have hall:=numsR_all l
 have hlz:(numsR l).length≤100000:=by simpa [numsR] using hl
 simp only [rsC,valC,Ty.cells]
 generalize numsR l=qs at *
 refine body [] Tryz.func54 Tryz.ntmps54 ?_
 refine gg ?_
 exact enC25
theorem valC_shape {B:Nat} {r:Rs} {t:Ty} (h:RsT B r t) (hp:t = .nat∨t = .list∨t = .unit):∃ k n s,valC r=[.int k,.int n,s,.nils]∧s.one=true:=by
 rcases hp with rfl|rfl|rfl<;>cases h<;>exact⟨_,_,_,rfl,rfl⟩
theorem plain_base {B:Nat} (hB:B≤100000) {r:Rs} {t:Ty} (h:RsT B r t) (hp:t = .nat∨t = .list∨t = .unit):AC Tryz.prog gl 54 [.pv (.agg (rsC r)),.pv (.agg t.cells)] [] (.ret (.pv (.agg (valC r)))) []:=by
 rcases hp with rfl|rfl|rfl
 ·cases h;exact plain_num _
 ·cases h with
  | list h1 h2=>exact plain_list _ (by omega)
 ·cases h;exact plain_unit
theorem plain_pair {B:Nat} (hB:B≤100000) {a b:Rs} {s t:Ty} (ha:RsT B a s) (hb:RsT B b t) (hs:s = .nat∨s = .list∨s = .unit) (ht:t = .nat∨t = .list∨t = .unit) :
  AC Tryz.prog gl 54 [.pv (.agg (rsC (.pair a b))),.pv (.agg (Ty.pair s t).cells)] [] (.ret (.pv (.agg (valC (.pair a b))))) []:=by
 have h1:=plain_base hB ha hs
 have h2:=plain_base hB hb ht
 obtain⟨n1,l1,p1,k1,i1,tk1,ta1,bs1,f1,ea⟩:=rsC_shape a
 obtain⟨n2,l2,p2,k2,i2,tk2,ta2,bs2,f2,eb⟩:=rsC_shape b
 obtain⟨k3,n3,s3,e3,o3⟩:=valC_shape ha hs
 obtain⟨k4,n4,s4,e4,o4⟩:=valC_shape hb ht
 have w3:=vcells_one o3
 have w4:=vcells_one o4
 have v3:=onC25 o3
 have v4:=onC25 o4
 have es:=s.cells_eq
 have et:=t.cells_eq
 simp only [rsC,valC,Ty.cells,ea,eb,e3,e4] at h1 h2 ⊢
 rw [es] at h1 ⊢
 rw [et] at h2 ⊢
 clear ea eb e3 e4 es et
 generalize s.args.map Ty.cells=sa at *
 generalize t.args.map Ty.cells=ta at *
 refine body [] Tryz.func54 Tryz.ntmps54 ?_
 refine gg ?_
 refine call h1 ?_
 refine gg ?_
 refine call h2 ?_
 refine gg ?_
 refine⟨by rfl,?_⟩
 refine gg ?_
 exact enC25
theorem ints_nn:AC Tryz.prog gl 45 [.pv .nils,.pv (.slice [])] [] (.ret (.pv (.bool true))) []:=by
 refine body [] Tryz.func45 Tryz.ntmps45 ?_
 refine gg ?_
 refine ex_loop 1 (ex_round ?_)
 refine gg ?_
 exact enC25
noncomputable def inI2 (cc:List (List PV)) (k:Nat):St:=⟨[(0,.pv (.slice cc)),(1,.pv (.slice cc)),(11,.pv (.slice cc)),(12,.pv (.int cc.length)),(13,.pv (.int k))],[],[]⟩
theorem ints_same (l:List Nat) (hl:l.length≤100000):AC Tryz.prog gl 45 [.pv (.slice (numsR l)),.pv (.slice (numsR l))] [] (.ret (.pv (.bool true))) []:=by
 have hal:=numsR_all l
 have hlen:(numsR l).length=l.length:=by simp [numsR]
 have hg:∀ k,k<l.length→∃ a:Nat,(numsR l).getD k []=[.int a]:=by
  intro k hk
  refine⟨l[k],?_⟩
  simp [numsR,List.getD,hk]
 generalize numsR l=cc at *
 rw [← hlen] at hg hl
 clear hlen
 refine body [] Tryz.func45 Tryz.ntmps45 ?_
 refine gg ?_
 refine AWP.loopN cc.length (inI2 cc) ?_ ?_
 ·refine⟨by simp [inI2,slotsLe,getS],by simp [inI2,subO,getO],by simp [inI2,subL,namesSl,V.names,namesOb,Ob.names,XX_given]⟩
 intro k hkn
 unfold inI2
 by_cases hk:k<cc.length
 ·obtain⟨a,ha⟩:=hg k hk
  have k1:(k:Int)<cc.length:=by omega
  have k2:(0:Int)≤(k:Int):=by omega
  clear hg
  refine gg ?_
  refine⟨by rfl,?_⟩
  refine gg ?_
  refine⟨hk,?_,?_,?_⟩
  ·simp [slotsLe,getS]
  ·simp [subO,getO]
  ·simp [subL,namesSl,V.names,namesOb,Ob.names,XX_given]
 ·have k1:¬ (k:Int)<cc.length:=by omega
  clear hg
  refine gg ?_
  exact enC25
def valW:Rs→List PV
 | .num n=>[.int 1,.int n,.slice [],.nils]
 | .list l=>[.int 2,.int 0,.slice (numsR l),.nils]
 | .unit=>[.int 4,.int 0,.slice [],.nils]
 | .pair a b=>[.int 3,.int 0,.slice [],.slice [valW a,valW b]]
 | .clo _ _=>[]
theorem vsame_num (n:Nat):AC Tryz.prog gl 16 [.pv (.agg (valC (.num n))),.pv (.agg (valW (.num n)))] [] (.ret (.pv (.bool true))) []:=by
 have h:=ints_nn
 simp only [valC,valW]
 refine body [] Tryz.func16 Tryz.ntmps16 ?_
 refine gg ?_
 refine call h ?_
 refine gg ?_
 refine ex_loop 1 (ex_round ?_)
 refine gg ?_
 exact enC25
theorem vsame_unit:AC Tryz.prog gl 16 [.pv (.agg (valC .unit)),.pv (.agg (valW .unit))] [] (.ret (.pv (.bool true))) []:=by
 have h:=ints_nn
 simp only [valC,valW]
 refine body [] Tryz.func16 Tryz.ntmps16 ?_
 refine gg ?_
 refine call h ?_
 refine gg ?_
 refine ex_loop 1 (ex_round ?_)
 refine gg ?_
 exact enC25
theorem vsame_list (l:List Nat) (hl:l.length≤100000):AC Tryz.prog gl 16 [.pv (.agg (valC (.list l))),.pv (.agg (valW (.list l)))] [] (.ret (.pv (.bool true))) []:=by
 have h:=ints_same l hl
 simp only [valC,valW]
 generalize numsR l=cc at *
 refine body [] Tryz.func16 Tryz.ntmps16 ?_
 refine gg ?_
 refine call h ?_
 refine gg ?_
 refine ex_loop 1 (ex_round ?_)
 refine gg ?_
 exact enC25
theorem valW_shape {B:Nat} {r:Rs} {t:Ty} (h:RsT B r t) (hp:t = .nat∨t = .list∨t = .unit):∃ k n s,valW r=[.int k,.int n,s,.nils]∧s.one=true:=by
 rcases hp with rfl|rfl|rfl<;>cases h<;>exact⟨_,_,_,rfl,rfl⟩
theorem vsame_base {B:Nat} (hB:B≤100000) {r:Rs} {t:Ty} (h:RsT B r t) (hp:t = .nat∨t = .list∨t = .unit):AC Tryz.prog gl 16 [.pv (.agg (valC r)),.pv (.agg (valW r))] [] (.ret (.pv (.bool true))) []:=by
 rcases hp with rfl|rfl|rfl
 ·cases h;exact vsame_num _
 ·cases h with
  | list h1 h2=>exact vsame_list _ (by omega)
 ·cases h;exact vsame_unit
theorem vsame_pair {B:Nat} (hB:B≤100000) {a b:Rs} {s t:Ty} (ha:RsT B a s) (hb:RsT B b t) (hs:s = .nat∨s = .list∨s = .unit) (ht:t = .nat∨t = .list∨t = .unit) :
  AC Tryz.prog gl 16 [.pv (.agg (valC (.pair a b))),.pv (.agg (valW (.pair a b)))] [] (.ret (.pv (.bool true))) []:=by
 have h0:=ints_nn
 have h1:=vsame_base hB ha hs
 have h2:=vsame_base hB hb ht
 obtain⟨k3,n3,s3,e3,o3⟩:=valC_shape ha hs
 obtain⟨k4,n4,s4,e4,o4⟩:=valC_shape hb ht
 obtain⟨k5,n5,s5,e5,o5⟩:=valW_shape ha hs
 obtain⟨k6,n6,s6,e6,o6⟩:=valW_shape hb ht
 have w3:=vcells_one o3
 have w4:=vcells_one o4
 have w5:=vcells_one o5
 have w6:=vcells_one o6
 have v3:=onC25 o3
 have v4:=onC25 o4
 have v5:=onC25 o5
 have v6:=onC25 o6
 simp only [valC,valW,e3,e4,e5,e6] at h1 h2 ⊢
 clear e3 e4 e5 e6
 refine body [] Tryz.func16 Tryz.ntmps16 ?_
 refine gg ?_
 refine call h0 ?_
 refine gg ?_
 refine ex_loop 3 (ex_round ?_)
 refine gg ?_
 refine call h1 ?_
 refine gg ?_
 refine⟨by rfl,?_⟩
 refine gg ?_
 refine ex_round ?_
 refine gg ?_
 refine call h2 ?_
 refine gg ?_
 refine⟨by rfl,?_⟩
 refine gg ?_
 refine ex_round ?_
 refine gg ?_
 exact enC25
open Go.Lg
set_option maxRecDepth 10000
set_option maxHeartbeats 4000000
theorem level_nat:AC Tryz.prog gl 90 [.pv (.agg Ty.nat.cells)] [] (.ret (.pv (.int 0))) []:=by
 simp only [Ty.cells]
 refine body [] Tryz.func90 Tryz.ntmps90 ?_
 refine gg ?_
 exact enC25
theorem level_list:AC Tryz.prog gl 90 [.pv (.agg Ty.list.cells)] [] (.ret (.pv (.int 0))) []:=by
 simp only [Ty.cells]
 refine body [] Tryz.func90 Tryz.ntmps90 ?_
 refine gg ?_
 exact enC25
theorem level_unit:AC Tryz.prog gl 90 [.pv (.agg Ty.unit.cells)] [] (.ret (.pv (.int 0))) []:=by
 simp only [Ty.cells]
 refine body [] Tryz.func90 Tryz.ntmps90 ?_
 refine gg ?_
 exact enC25
theorem level_pair (s t:Ty) (hs:AC Tryz.prog gl 90 [.pv (.agg s.cells)] [] (.ret (.pv (.int 0))) []) (ht:AC Tryz.prog gl 90 [.pv (.agg t.cells)] [] (.ret (.pv (.int 0))) []):AC Tryz.prog gl 90 [.pv (.agg (Ty.pair s t).cells)] [] (.ret (.pv (.int 0))) []:=by
 simp only [Ty.cells]
 rw [s.cells_eq] at *
 rw [t.cells_eq] at *
 generalize s.args.map Ty.cells=sa at *
 generalize t.args.map Ty.cells=ta at *
 refine body [] Tryz.func90 Tryz.ntmps90 ?_
 refine gg ?_
 refine call hs ?_
 refine gg ?_
 refine call ht ?_
 refine gg ?_
 refine⟨by rfl,?_⟩
 refine gg ?_
 exact enC25
theorem level_base {t:Ty} (hp:t = .nat∨t = .list∨t = .unit):AC Tryz.prog gl 90 [.pv (.agg t.cells)] [] (.ret (.pv (.int 0))) []:=by
 rcases hp with rfl|rfl|rfl
 ·exact level_nat
 ·exact level_list
 ·exact level_unit
theorem tdata_of (t:Ty) (hs:t.ok=true) (hz:t.size≤64) (hl:AC Tryz.prog gl 90 [.pv (.agg t.cells)] [] (.ret (.pv (.int 0))) []):AC Tryz.prog gl 50 [.pv (.agg t.cells)] [] (.ret (.pv (.tuple [.bool true,.int 0]))) []:=by
 have h:=tycheck_ok t hs hz
 rw [t.cells_eq] at *
 generalize t.args.map Ty.cells=ta at *
 refine body [] Tryz.func50 Tryz.ntmps50 ?_
 refine gg ?_
 refine call h ?_
 refine gg ?_
 refine call hl ?_
 refine gg ?_
 exact enC25
theorem plain_cases {t:Ty} (h:t.plain):(t = .nat∨t = .list∨t = .unit) ∨ ∃ s,(s = .list∨s = .nat)∧t = .pair .nat s:=by
 rcases h with h|h|h
 ·left
  cases t<;>simp_all [Ty.base]
 ·exact .inr ⟨.list,.inl rfl,h⟩
 ·exact .inr ⟨.nat,.inr rfl,h⟩
theorem tdata_ok (t:Ty) (hp:t.plain):AC Tryz.prog gl 50 [.pv (.agg t.cells)] [] (.ret (.pv (.tuple [.bool true,.int 0]))) []:=by
 rcases plain_cases hp with h|⟨s,hs,rfl⟩
 ·refine tdata_of t ?_ ?_ (level_base h)
  ·rcases h with rfl|rfl|rfl<;>rfl
  ·rcases h with rfl|rfl|rfl<;>decide
 ·refine tdata_of _ ?_ ?_ (level_pair _ _ level_nat (level_base (by rcases hs with rfl|rfl<;>simp)))
  ·rcases hs with rfl|rfl<;>rfl
  ·rcases hs with rfl|rfl<;>decide
theorem tok_ok (t:Ty) (hs:t.ok=true) (hz:t.size≤64):AC Tryz.prog gl 137 [.pv (.agg t.cells)] [] (.ret (.pv (.tuple [.agg t.cells,.int 0]))) []:=by
 have h:=tycheck_ok t hs hz
 rw [t.cells_eq] at *
 generalize t.args.map Ty.cells=ta at *
 refine body [] Tryz.func137 Tryz.ntmps137 ?_
 refine gg ?_
 refine call h ?_
 refine gg ?_
 exact enC25
end Go.Proofs.YtodjpfpmhjdhbaaGreatDoor
