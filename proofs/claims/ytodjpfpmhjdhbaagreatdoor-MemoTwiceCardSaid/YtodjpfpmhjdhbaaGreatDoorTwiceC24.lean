/- Contracts of functions; no conditions. -/
import Derived.Test.YtodjpfpmhjdhbaaGreatDoorTwiceC5
set_option linter.all false
namespace Go.Proofs.YtodjpfpmhjdhbaaGreatDoor
open Go.Lg
theorem enC24 {P Q : Prop} (h : P := by simp [retIs,resV,resL,resOne,mkTup,getS,getO,rdV,mkAgg,unL,V.un,TI.isAgg,XX_T,tt109,Tryz.f52,Tryz.f51]) (k : Q := by simp [subO,getO,tt109,Tryz.f52,Tryz.f51]) : P ∧ Q := ⟨h,k⟩
end Go.Proofs.YtodjpfpmhjdhbaaGreatDoor
namespace Go.Proofs.YtodjpfpmhjdhbaaGreatDoor
open Go.Lg
inductive Rs where
 | num (n:Nat)
 | list (l:List Nat)
 | unit
 | pair (a b:Rs)
 | clo (b:Tm) (e:List Rs)
inductive Jd where
 | ev (e:List Rs) (t:Tm)
 | ap (f x:Rs)
 | rc (f b:Rs) (k n:Nat)
 | fd (f b:Rs) (l:List (Nat × List Nat))
inductive Ev:Jd→Rs→Prop
 | var {e i r} : e[i]? = some r→Ev (.ev e (.var i)) r
 | lam {e s b} : Ev (.ev e (.lam s b)) (.clo b e)
 | app {e f a g x r} : Ev (.ev e f) g→Ev (.ev e a) x→Ev (.ap g x) r→Ev (.ev e (.app f a)) r
 | zero {e} : Ev (.ev e .zero) (.num 0)
 | succ {e a n} : Ev (.ev e a) (.num n)→Ev (.ev e (.succ a)) (.num (n+1))
 | recn {e s x y z b fb fe n r} : Ev (.ev e x) b→Ev (.ev e y) (.clo fb fe)→Ev (.ev e z) (.num n)→Ev (.rc (.clo fb fe) b 0 n) r→Ev (.ev e (.recn s x y z)) r
 | nil {e} : Ev (.ev e .nil) (.list [])
 | cons {e x y n l} : Ev (.ev e x) (.num n)→Ev (.ev e y) (.list l)→Ev (.ev e (.cons x y)) (.list (n::l))
 | fold {e s x y z b fb fe l r} : Ev (.ev e x) b→Ev (.ev e y) (.clo fb fe)→Ev (.ev e z) (.list l)→Ev (.fd (.clo fb fe) b (foldArgs l)) r→Ev (.ev e (.fold s x y z)) r
 | pair {e x y a b} : Ev (.ev e x) a→Ev (.ev e y) b→Ev (.ev e (.pair x y)) (.pair a b)
 | fst {e x a b} : Ev (.ev e x) (.pair a b)→Ev (.ev e (.fst x)) a
 | snd {e x a b} : Ev (.ev e x) (.pair a b)→Ev (.ev e (.snd x)) b
 | unit {e} : Ev (.ev e .unit) .unit
 | ap {b e x r} : Ev (.ev (x::e) b) r→Ev (.ap (.clo b e) x) r
 | rcDone {f b k} : Ev (.rc f b k k) b
 | rcStep {f b k n g b' r} : k<n→Ev (.ap f (.num k)) g→Ev (.ap g b) b'→Ev (.rc f b' (k+1) n) r→Ev (.rc f b k n) r
 | fdDone {f b} : Ev (.fd f b []) b
 | fdStep {f b h t l g g' b' r} : Ev (.ap f (.num h)) g→Ev (.ap g (.list t)) g'→Ev (.ap g' b) b'→Ev (.fd f b' l) r→Ev (.fd f b ((h,t)::l)) r
inductive VR (c:List Ins):It→Rs→Prop
 | num (n):VR c (.num n) (.num n)
 | list (l):VR c (.list l) (.list l)
 | unit:VR c .unit .unit
 | pair {a b x y} : VR c a x→VR c b y→VR c (.pair a b) (.pair x y)
 | fn {A e vs env b} : TA c b A e→c[e]? = some (14,0)→vs.length=env.length→(∀ (i:Nat) (x:It) (r:Rs),vs[i]? = some x→env[i]? = some r→VR c x r)→VR c (.fn A vs) (.clo b env)
def VRs (c:List Ins) (vs:List It) (env:List Rs):Prop:=vs.length=env.length ∧ ∀ (i:Nat) (x:It) (r:Rs),vs[i]? = some x→env[i]? = some r→VR c x r
theorem VRs.cons {c:List Ins} {vs:List It} {env:List Rs} {x:It} {r:Rs} (h:VRs c vs env) (hx:VR c x r):VRs c (x::vs) (r::env):=by
 refine⟨by simp [h.1],fun i y s hy hs => ?_⟩
 cases i with
 | zero=>simp at hy hs;subst hy hs;exact hx
 | succ i=>exact h.2 i y s (by simpa using hy) (by simpa using hs)
def Out (c:List Ins) (l:Nat) (m:Ms) (P:Ms→Prop):Prop:=(∃ e,Runs c l m (.err e)∧(e=4∨e=5)) ∨ ∃ m',Gos c l m m'∧P m'
theorem rc_inv {f b r:Rs} {k:Nat} (h:Ev (.rc f b k k) r):r=b:=by
 cases h with
 | rcDone=>rfl
 | rcStep h _ _ _=>omega
theorem fd_inv {f b r:Rs} (h:Ev (.fd f b []) r):r=b:=by
 cases h with
 | fdDone=>rfl
set_option maxRecDepth 10000
set_option maxHeartbeats 4000000
def numsR (L:List Nat):List (List PV):=L.map fun (n:Nat)=>[.int n]
mutual
def rsC:Rs→List PV
 | .num n=>[.int n,.slice [],.slice [],.int 0,.int 0,.int 0,.slice [],.slice [],.slice []]
 | .list l=>[.int 0,.slice (numsR l),.slice [],.int 0,.int 0,.int 0,.slice [],.slice [],.slice []]
 | .unit=>[.int 0,.slice [],.slice [],.int 0,.int 0,.int 0,.slice [],.slice [],.slice []]
 | .pair a b=>[.int 0,.slice [],.slice [rsC a,rsC b],.int 0,.int 0,.int 0,.slice [],.slice [],.slice []]
 | .clo b e=>[.int 0,.slice [],.slice [],.int b.kind,.int b.idx,.int b.ty.kind,.slice (b.ty.args.map Ty.cells),.slice (b.args.map Tm.cells),.slice (rsE e)]
def rsE:List Rs→List (List PV)
 | []=>[]
 | r::e=>rsE e++[rsC r]
end
theorem rsE_eq (e:List Rs):rsE e=(e.map rsC).reverse:=by
 induction e with
 | nil=>rfl
 | cons r e ih=>simp [rsE,ih]
theorem rsE_len (e:List Rs):(rsE e).length=e.length:=by simp [rsE_eq]
theorem rsC_len (r:Rs):(rsC r).length=9:=by cases r<;>rfl
theorem rsE_all (e:List Rs):∀ y∈rsE e,y.length=9:=by
 intro y hy
 rw [rsE_eq,List.mem_reverse,List.mem_map] at hy
 obtain⟨r,_,rfl⟩:=hy
 exact rsC_len r
theorem rsC_shape (r:Rs):∃ n l p k i tk ta bs e,rsC r=[.int n,.slice l,.slice p,.int k,.int i,.int tk,.slice ta,.slice bs,.slice e]:=by
 cases r<;>exact⟨_,_,_,_,_,_,_,_,_,rfl⟩
def mc (used most:Nat) (out:Bool):Ob:=.box [.pv (.int used),.pv (.int most),.pv (.bool out)]
theorem call_of (b:Tm) (e:List Rs) (x:Rs) (y:List PV) (u u' most:Nat) (out:Bool) (he:e.length≤100000) (hy:∃ r,y=rsC r) (h:AC Tryz.prog gl 51 [.loc 970 0,.pv (.agg b.cells),.pv (.slice (rsE (x::e)))] [(970,mc u most false)] (.ret (.pv (.agg y))) [(970,mc u' most out)]) :
  AC Tryz.prog gl 52 [.loc 970 0,.pv (.agg (rsC (.clo b e))),.pv (.agg (rsC x))] [(970,mc u most false)] (.ret (.pv (.agg y))) [(970,mc u' most out)]:=by
 rw [Tm.cells_eq] at h
 simp only [rsE,rsC] at h ⊢
 have hle:=rsE_len e
 have hal:=rsE_all e
 obtain⟨n1,l1,p1,k1,i1,tk1,ta1,bs1,e1,ex⟩:=rsC_shape x
 obtain⟨r,rfl⟩:=hy
 obtain⟨n2,l2,p2,k2,i2,tk2,ta2,bs2,e2,er⟩:=rsC_shape r
 rw [ex] at h ⊢
 rw [er] at h ⊢
 unfold mc at *
 generalize rsE e=ev at *
 have hlb:ev.length≤100000:=by omega
 generalize b.ty.args.map Ty.cells=ta at *
 generalize b.args.map Tm.cells=bs at *
 clear ex er
 refine body [] Tryz.func52 Tryz.ntmps52 ?_
 refine gg ?_
 refine go ?_ (hc:=by simp only [buildC,and_true,true_and,implies_true,true_implies,and_self];exact⟨hal,by unfold maxLen;omega,by omega⟩)
 refine gg ?_
 refine call h ?_
 refine gg ?_
 refine⟨by rfl,?_⟩
 refine gg ?_
 exact enC24
open Go.Lg
def EvC (t:Tm) (env:List Rs) (u most:Nat) (y:List PV) (u':Nat) (out:Bool):Prop :=
 AC Tryz.prog gl 51 [.loc 970 0,.pv (.agg t.cells),.pv (.slice (rsE env))] [(970,mc u most false)] (.ret (.pv (.agg y))) [(970,mc u' most out)]
theorem eval_out0 (t:Tm) (env:List Rs) (most:Nat):EvC t env most most (rsC (.num 0)) most true:=by
 unfold EvC mc
 rw [Tm.cells_eq]
 simp only [rsC,Int.cast_ofNat_Int]
 generalize rsE env=ev at *
 generalize t.ty.args.map Ty.cells=ta at *
 generalize t.args.map Tm.cells=tas at *
 refine body [(7,.arr 971 9 109)] Tryz.func51 Tryz.ntmps51 ?_
 refine gg ?_
 refine⟨by rfl,?_⟩
 refine gg ?_
 exact enC24
theorem eval_succ (a:Tm) (env:List Rs) (u u1 most n:Nat) (hu:u<most) (hm:most≤65536) (hn:n≤100000) (h:EvC a env (u+1) most (rsC (.num n)) u1 false):EvC (.succ a) env u most (rsC (.num (n+1))) u1 false:=by
 have hu':¬ (u:Int)=most:=by omega
 have e1:((u+1:Nat):Int)=(u:Int)+1:=by omega
 have e2:((n+1:Nat):Int)=(n:Int)+1:=by omega
 unfold EvC mc at *
 rw [Tm.cells_eq (.succ a)]
 simp only [Tm.kind,Tm.idx,Tm.ty,Tm.args,Ty.kind,Ty.args,List.map_cons,List.map_nil,rsC,e1,e2] at *
 rw [Tm.cells_eq a] at *
 generalize rsE env=ev at *
 generalize a.ty.args.map Ty.cells=ta at *
 generalize a.args.map Tm.cells=tas at *
 refine body [(7,.arr 971 9 109)] Tryz.func51 Tryz.ntmps51 ?_
 refine gg ?_
 refine⟨by rfl,?_⟩
 refine gg ?_
 refine ex_loop 2 (ex_round ?_)
 refine gg ?_
 refine call h ?_
 refine gg ?_
 refine ex_round ?_
 refine kp [0,2,4,6,7,64,65,66] [6,970,971] ?_
 refine gg ?_
 exact enC24
theorem eval_zero (env:List Rs) (u most:Nat) (hu:u<most) (hm:most≤65536):EvC .zero env u most (rsC (.num 0)) (u+1) false:=by
 have hu':¬ (u:Int)=most:=by omega
 have e1:((u+1:Nat):Int)=(u:Int)+1:=by omega
 unfold EvC mc
 rw [Tm.cells_eq]
 simp only [Tm.kind,Tm.idx,Tm.ty,Tm.args,Ty.kind,Ty.args,List.map_cons,List.map_nil,rsC,numsR,e1,Int.cast_ofNat_Int]
 generalize rsE env=ev at *
 refine body [(7,.arr 971 9 109)] Tryz.func51 Tryz.ntmps51 ?_
 refine gg ?_
 refine⟨by rfl,?_⟩
 refine gg ?_
 refine ex_loop 1 (ex_round ?_)
 refine gg ?_
 exact enC24
theorem eval_nil (env:List Rs) (u most:Nat) (hu:u<most) (hm:most≤65536):EvC .nil env u most (rsC (.list [])) (u+1) false:=by
 have hu':¬ (u:Int)=most:=by omega
 have e1:((u+1:Nat):Int)=(u:Int)+1:=by omega
 unfold EvC mc
 rw [Tm.cells_eq]
 simp only [Tm.kind,Tm.idx,Tm.ty,Tm.args,Ty.kind,Ty.args,List.map_cons,List.map_nil,rsC,numsR,e1,Int.cast_ofNat_Int]
 generalize rsE env=ev at *
 refine body [(7,.arr 971 9 109)] Tryz.func51 Tryz.ntmps51 ?_
 refine gg ?_
 refine⟨by rfl,?_⟩
 refine gg ?_
 refine ex_loop 1 (ex_round ?_)
 refine gg ?_
 exact enC24
theorem eval_unit (env:List Rs) (u most:Nat) (hu:u<most) (hm:most≤65536):EvC .unit env u most (rsC (.unit)) (u+1) false:=by
 have hu':¬ (u:Int)=most:=by omega
 have e1:((u+1:Nat):Int)=(u:Int)+1:=by omega
 unfold EvC mc
 rw [Tm.cells_eq]
 simp only [Tm.kind,Tm.idx,Tm.ty,Tm.args,Ty.kind,Ty.args,List.map_cons,List.map_nil,rsC,numsR,e1,Int.cast_ofNat_Int]
 generalize rsE env=ev at *
 refine body [(7,.arr 971 9 109)] Tryz.func51 Tryz.ntmps51 ?_
 refine gg ?_
 refine⟨by rfl,?_⟩
 refine gg ?_
 refine ex_loop 1 (ex_round ?_)
 refine gg ?_
 exact enC24
theorem eval_var (i:Nat) (env:List Rs) (r:Rs) (u most:Nat) (hu:u<most) (hm:most≤65536) (hi:env[i]? = some r) (hl:env.length≤100000):EvC (.var i) env u most (rsC r) (u+1) false:=by
 have hu':¬ (u:Int)=most:=by omega
 have e1:((u+1:Nat):Int)=(u:Int)+1:=by omega
 have hil:i<env.length:=(List.getElem?_eq_some_iff.1 hi).1
 have hle:=rsE_len env
 have hal:=rsE_all env
 have hg:(rsE env).getD (env.length-1-i) []=rsC r:=by
  rw [rsE_eq,List.getD,List.getElem?_reverse (by simp;omega)]
  have:(env.map rsC).length-1-(env.length-1-i)=i:=by simp;omega
  rw [this]
  simp [hi]
 have g1:((env.length:Int)-1-i).toNat=env.length-1-i:=by omega
 have g2:(0:Int)≤(env.length:Int)-1-i:=by omega
 have g3:(env.length:Int)-1-i<env.length:=by omega
 obtain⟨n1,l1,p1,k1,i1,tk1,ta1,bs1,e1',ex⟩:=rsC_shape r
 unfold EvC mc
 rw [Tm.cells_eq]
 simp only [Tm.kind,Tm.idx,Tm.ty,Tm.args,Ty.kind,Ty.args,List.map_cons,List.map_nil,e1]
 rw [ex] at hg ⊢
 clear hi ex
 generalize rsE env=ev at *
 generalize env.length=el at *
 refine body [(7,.arr 971 9 109)] Tryz.func51 Tryz.ntmps51 ?_
 refine gg ?_
 refine⟨by rfl,?_⟩
 refine gg ?_
 exact enC24
theorem eval_lam (s:Ty) (b:Tm) (env:List Rs) (u most:Nat) (hu:u<most) (hm:most≤65536):EvC (.lam s b) env u most (rsC (.clo b env)) (u+1) false:=by
 have hu':¬ (u:Int)=most:=by omega
 have e1:((u+1:Nat):Int)=(u:Int)+1:=by omega
 unfold EvC mc
 have ec:(Tm.lam s b).cells=[.int 2,.int 0,.int s.kind,.slice (s.args.map Ty.cells),.slice [b.cells]]:=by rw [Tm.cells_eq];rfl
 rw [ec]
 simp only [rsC,e1]
 rw [Tm.cells_eq b]
 clear ec
 generalize rsE env=ev at *
 generalize b.ty.args.map Ty.cells=tb at *
 generalize b.args.map Tm.cells=sb at *
 generalize s.args.map Ty.cells=ss at *
 refine body [(7,.arr 971 9 109)] Tryz.func51 Tryz.ntmps51 ?_
 refine gg ?_
 refine⟨by rfl,?_⟩
 refine gg ?_
 exact enC24
theorem eval_fst (t:Tm) (env:List Rs) (a b:Rs) (u u1 most:Nat) (hu:u<most) (hm:most≤65536) (h:EvC t env (u+1) most (rsC (.pair a b)) u1 false):EvC (.fst t) env u most (rsC a) u1 false:=by
 have hu':¬ (u:Int)=most:=by omega
 have e1:((u+1:Nat):Int)=(u:Int)+1:=by omega
 unfold EvC mc at *
 rw [Tm.cells_eq (.fst t)]
 simp only [Tm.kind,Tm.idx,Tm.ty,Tm.args,Ty.kind,Ty.args,List.map_cons,List.map_nil,rsC,e1,Int.cast_ofNat_Int] at *
 rw [Tm.cells_eq t] at *
 obtain⟨n1,l1,p1,k1,i1,tk1,ta1,bs1,f1,ea⟩:=rsC_shape a
 obtain⟨n2,l2,p2,k2,i2,tk2,ta2,bs2,f2,eb⟩:=rsC_shape b
 simp only [ea,eb] at h ⊢
 clear ea eb
 generalize rsE env=ev at *
 generalize t.ty.args.map Ty.cells=tt at *
 generalize t.args.map Tm.cells=st at *
 refine body [(7,.arr 971 9 109)] Tryz.func51 Tryz.ntmps51 ?_
 refine gg ?_
 refine⟨by rfl,?_⟩
 refine gg ?_
 refine ex_loop 2 (ex_round ?_)
 refine gg ?_
 refine call h ?_
 refine gg ?_
 refine ex_round ?_
 refine kp [0,2,4,6,7,64,65,66] [6,970,971] ?_
 refine gg ?_
 exact enC24
theorem eval_snd (t:Tm) (env:List Rs) (a b:Rs) (u u1 most:Nat) (hu:u<most) (hm:most≤65536) (h:EvC t env (u+1) most (rsC (.pair a b)) u1 false):EvC (.snd t) env u most (rsC b) u1 false:=by
 have hu':¬ (u:Int)=most:=by omega
 have e1:((u+1:Nat):Int)=(u:Int)+1:=by omega
 unfold EvC mc at *
 rw [Tm.cells_eq (.snd t)]
 simp only [Tm.kind,Tm.idx,Tm.ty,Tm.args,Ty.kind,Ty.args,List.map_cons,List.map_nil,rsC,e1,Int.cast_ofNat_Int] at *
 rw [Tm.cells_eq t] at *
 obtain⟨n1,l1,p1,k1,i1,tk1,ta1,bs1,f1,ea⟩:=rsC_shape a
 obtain⟨n2,l2,p2,k2,i2,tk2,ta2,bs2,f2,eb⟩:=rsC_shape b
 simp only [ea,eb] at h ⊢
 clear ea eb
 generalize rsE env=ev at *
 generalize t.ty.args.map Ty.cells=tt at *
 generalize t.args.map Tm.cells=st at *
 refine body [(7,.arr 971 9 109)] Tryz.func51 Tryz.ntmps51 ?_
 refine gg ?_
 refine⟨by rfl,?_⟩
 refine gg ?_
 refine ex_loop 2 (ex_round ?_)
 refine gg ?_
 refine call h ?_
 refine gg ?_
 refine ex_round ?_
 refine kp [0,2,4,6,7,64,65,66] [6,970,971] ?_
 refine gg ?_
 exact enC24
theorem eval_pair (x y:Tm) (env:List Rs) (a b:Rs) (u u1 u2 most:Nat) (hu:u<most) (hm:most≤65536) (ha:EvC x env (u+1) most (rsC a) u1 false) (hb:EvC y env u1 most (rsC b) u2 false):EvC (.pair x y) env u most (rsC (.pair a b)) u2 false:=by
 have hu':¬ (u:Int)=most:=by omega
 have e1:((u+1:Nat):Int)=(u:Int)+1:=by omega
 unfold EvC mc at *
 rw [Tm.cells_eq (.pair x y)]
 simp only [Tm.kind,Tm.idx,Tm.ty,Tm.args,Ty.kind,Ty.args,List.map_cons,List.map_nil,rsC,e1,Int.cast_ofNat_Int] at *
 rw [Tm.cells_eq x] at *
 rw [Tm.cells_eq y] at *
 obtain⟨n1,l1,p1,k1,i1,tk1,ta1,bs1,f1,ea⟩:=rsC_shape a
 obtain⟨n2,l2,p2,k2,i2,tk2,ta2,bs2,f2,eb⟩:=rsC_shape b
 simp only [ea,eb] at ha hb ⊢
 clear ea eb
 generalize rsE env=ev at *
 generalize x.ty.args.map Ty.cells=tx at *
 generalize x.args.map Tm.cells=sx at *
 generalize y.ty.args.map Ty.cells=ty at *
 generalize y.args.map Tm.cells=sy at *
 refine body [(7,.arr 971 9 109)] Tryz.func51 Tryz.ntmps51 ?_
 refine gg ?_
 refine⟨by rfl,?_⟩
 refine gg ?_
 refine ex_loop 3 (ex_round ?_)
 refine gg ?_
 refine call ha ?_
 refine gg ?_
 refine ex_round ?_
 refine kp [0,2,4,6,7,64,65,66] [6,970,971] ?_
 refine gg ?_
 refine call hb ?_
 refine gg ?_
 refine ex_round ?_
 refine kp [0,2,4,6,7,64,65,66] [6,970,971] ?_
 refine frz 971 (es:=[[.int n1,.slice l1,.slice p1,.int k1,.int i1,.int tk1,.slice ta1,.slice bs1,.slice f1],[.int n2,.slice l2,.slice p2,.int k2,.int i2,.int tk2,.slice ta2,.slice bs2,.slice f2]]) ?_
 refine gg ?_
 exact enC24
theorem eval_app (x y:Tm) (env:List Rs) (a b:Rs) (z:List PV) (u u1 u2 u3 most:Nat) (out:Bool) (hu:u<most) (hm:most≤65536) (ha:EvC x env (u+1) most (rsC a) u1 false) (hb:EvC y env u1 most (rsC b) u2 false) (hz:∃ r,z=rsC r)
  (hc:AC Tryz.prog gl 52 [.loc 970 0,.pv (.agg (rsC a)),.pv (.agg (rsC b))] [(970,mc u2 most false)] (.ret (.pv (.agg z))) [(970,mc u3 most out)]):EvC (.app x y) env u most z u3 out:=by
 have hu':¬ (u:Int)=most:=by omega
 have e1:((u+1:Nat):Int)=(u:Int)+1:=by omega
 unfold EvC mc at *
 rw [Tm.cells_eq (.app x y)]
 simp only [Tm.kind,Tm.idx,Tm.ty,Tm.args,Ty.kind,Ty.args,List.map_cons,List.map_nil,rsC,e1,Int.cast_ofNat_Int] at *
 rw [Tm.cells_eq x] at *
 rw [Tm.cells_eq y] at *
 obtain⟨r,rfl⟩:=hz
 obtain⟨n1,l1,p1,k1,i1,tk1,ta1,bs1,f1,ea⟩:=rsC_shape a
 obtain⟨n2,l2,p2,k2,i2,tk2,ta2,bs2,f2,eb⟩:=rsC_shape b
 obtain⟨n3,l3,p3,k3,i3,tk3,ta3,bs3,f3,er⟩:=rsC_shape r
 simp only [ea,eb,er] at ha hb hc ⊢
 clear ea eb er
 generalize rsE env=ev at *
 generalize x.ty.args.map Ty.cells=tx at *
 generalize x.args.map Tm.cells=sx at *
 generalize y.ty.args.map Ty.cells=ty at *
 generalize y.args.map Tm.cells=sy at *
 refine body [(7,.arr 971 9 109)] Tryz.func51 Tryz.ntmps51 ?_
 refine gg ?_
 refine⟨by rfl,?_⟩
 refine gg ?_
 refine ex_loop 3 (ex_round ?_)
 refine gg ?_
 refine call ha ?_
 refine gg ?_
 refine ex_round ?_
 refine kp [0,2,4,6,7,64,65,66] [6,970,971] ?_
 refine gg ?_
 refine call hb ?_
 refine gg ?_
 refine ex_round ?_
 refine kp [0,2,4,6,7,64,65,66] [6,970,971] ?_
 refine gg ?_
 refine call hc ?_
 refine gg ?_
 refine⟨by rfl,?_⟩
 refine gg ?_
 exact enC24
theorem eval_cons (x y:Tm) (env:List Rs) (n:Nat) (zs:List Nat) (u u1 u2 most:Nat) (hu:u<most) (hm:most≤65536) (hz:zs.length≤100000) (ha:EvC x env (u+1) most (rsC (.num n)) u1 false) (hb:EvC y env u1 most (rsC (.list zs)) u2 false):EvC (.cons x y) env u most (rsC (.list (n::zs))) u2 false:=by
 have hu':¬ (u:Int)=most:=by omega
 have e1:((u+1:Nat):Int)=(u:Int)+1:=by omega
 have hall:∀ q∈numsR zs,q.length=1:=by
  intro q hq
  simp only [numsR,List.mem_map] at hq
  obtain⟨k,_,rfl⟩:=hq
  rfl
 have hone:∀ q∈numsR zs,q.all PV.one=true:=by
  intro q hq
  simp only [numsR,List.mem_map] at hq
  obtain⟨k,_,rfl⟩:=hq
  rfl
 have hlz:(numsR zs).length≤100000:=by simpa [numsR] using hz
 have enz:numsR (n::zs)=[[.int n]]++numsR zs:=rfl
 unfold EvC mc at *
 rw [Tm.cells_eq (.cons x y)]
 simp only [Tm.kind,Tm.idx,Tm.ty,Tm.args,Ty.kind,Ty.args,List.map_cons,List.map_nil,rsC,e1,enz] at *
 rw [Tm.cells_eq x] at *
 rw [Tm.cells_eq y] at *
 generalize numsR zs=qs at *
 have htk:List.take (1+qs.length) ([PV.int n]::qs)=[PV.int n]::qs:=List.take_of_length_le (by simp;omega)
 generalize rsE env=ev at *
 generalize x.ty.args.map Ty.cells=tx at *
 generalize x.args.map Tm.cells=sx at *
 generalize y.ty.args.map Ty.cells=ty at *
 generalize y.args.map Tm.cells=sy at *
 refine body [(7,.arr 971 9 109),(146,.arr 972 1 3)] Tryz.func51 Tryz.ntmps51 ?_
 refine gg ?_
 refine⟨by rfl,?_⟩
 refine gg ?_
 refine ex_loop 3 (ex_round ?_)
 refine gg ?_
 refine call ha ?_
 refine gg ?_
 refine ex_round ?_
 refine kp [0,2,4,6,7,64,65,66] [6,970,971] ?_
 refine gg ?_
 refine call hb ?_
 refine gg ?_
 refine ex_round ?_
 refine kp [0,2,4,6,7,64,65,66] [6,970,971] ?_
 refine ggor ?_
 refine go ?_ (hc:=by simp only [buildC,and_true,true_and,implies_true,true_implies,and_self];exact⟨hall,hone,by unfold maxLen;omega,by omega⟩)
 refine ggor ?_
 refine⟨by rfl,?_⟩
 refine ggor ?_
 refine frz 972 (es:=[[.int n]]++qs) ?_
 refine gg ?_
 exact⟨by simp [retIs,resV,resL,resOne,mkTup,getS,getO,rdV,mkAgg,unL,V.un,TI.isAgg,XX_T,tt109,Tryz.f51,htk],by simp [subO,getO,tt109,Tryz.f51,htk]⟩
set_option maxRecDepth 10000
set_option maxHeartbeats 4000000
theorem out_0_1 (t a:Tm) (env:List Rs) (r0:Rs) (u u1 most:Nat) (hu:u<most) (hm:most≤65536) (hk1:¬ t.kind=1) (hk2:¬ t.kind=2) (hta:t.args=[a]) (h0:EvC a env (u+1) most (rsC r0) u1 true):EvC t env u most (rsC (.num 0)) u1 true:=by
 have hu':¬ (u:Int)=most:=by omega
 have e1:((u+1:Nat):Int)=(u:Int)+1:=by omega
 have hc:=t.cells_eq
 rw [hta] at hc
 unfold EvC mc at *
 rw [hc]
 simp only [rsC,e1,Int.cast_ofNat_Int,List.map_cons,List.map_nil] at *
 rw [Tm.cells_eq a]
 rw [Tm.cells_eq a] at h0
 obtain⟨n0,l0,p0,k0,i0,tk0,ta0,bs0,f0,er0⟩:=rsC_shape r0
 simp only [er0] at h0
 clear hc hta er0
 generalize rsE env=ev at *
 generalize a.ty.args.map Ty.cells=ta at *
 generalize a.args.map Tm.cells=sa at *
 generalize t.ty.args.map Ty.cells=tta at *
 generalize t.kind=tk at *
 generalize t.idx=ti at *
 generalize t.ty.kind=tyk at *
 refine body [(7,.arr 971 9 109)] Tryz.func51 Tryz.ntmps51 ?_
 refine gg ?_
 refine⟨by rfl,?_⟩
 refine gg ?_
 refine ex_loop 1 (ex_round ?_)
 refine gg ?_
 refine call h0 ?_
 refine gg ?_
 exact enC24
theorem out_0_2 (t a b:Tm) (env:List Rs) (r0:Rs) (u u1 most:Nat) (hu:u<most) (hm:most≤65536) (hk1:¬ t.kind=1) (hk2:¬ t.kind=2) (hta:t.args=[a,b]) (h0:EvC a env (u+1) most (rsC r0) u1 true):EvC t env u most (rsC (.num 0)) u1 true:=by
 have hu':¬ (u:Int)=most:=by omega
 have e1:((u+1:Nat):Int)=(u:Int)+1:=by omega
 have hc:=t.cells_eq
 rw [hta] at hc
 unfold EvC mc at *
 rw [hc]
 simp only [rsC,e1,Int.cast_ofNat_Int,List.map_cons,List.map_nil] at *
 rw [Tm.cells_eq a,Tm.cells_eq b]
 rw [Tm.cells_eq a] at h0
 obtain⟨n0,l0,p0,k0,i0,tk0,ta0,bs0,f0,er0⟩:=rsC_shape r0
 simp only [er0] at h0
 clear hc hta er0
 generalize rsE env=ev at *
 generalize a.ty.args.map Ty.cells=ta at *
 generalize a.args.map Tm.cells=sa at *
 generalize b.ty.args.map Ty.cells=tb at *
 generalize b.args.map Tm.cells=sb at *
 generalize t.ty.args.map Ty.cells=tta at *
 generalize t.kind=tk at *
 generalize t.idx=ti at *
 generalize t.ty.kind=tyk at *
 refine body [(7,.arr 971 9 109)] Tryz.func51 Tryz.ntmps51 ?_
 refine gg ?_
 refine⟨by rfl,?_⟩
 refine gg ?_
 refine ex_loop 1 (ex_round ?_)
 refine gg ?_
 refine call h0 ?_
 refine gg ?_
 exact enC24
theorem out_1_2 (t a b:Tm) (env:List Rs) (r0 r1:Rs) (u u1 u2 most:Nat) (hu:u<most) (hm:most≤65536) (hk1:¬ t.kind=1) (hk2:¬ t.kind=2) (hta:t.args=[a,b]) (h0:EvC a env (u+1) most (rsC r0) u1 false) (h1:EvC b env u1 most (rsC r1) u2 true):EvC t env u most (rsC (.num 0)) u2 true:=by
 have hu':¬ (u:Int)=most:=by omega
 have e1:((u+1:Nat):Int)=(u:Int)+1:=by omega
 have hc:=t.cells_eq
 rw [hta] at hc
 unfold EvC mc at *
 rw [hc]
 simp only [rsC,e1,Int.cast_ofNat_Int,List.map_cons,List.map_nil] at *
 rw [Tm.cells_eq a,Tm.cells_eq b]
 rw [Tm.cells_eq a] at h0
 rw [Tm.cells_eq b] at h1
 obtain⟨n0,l0,p0,k0,i0,tk0,ta0,bs0,f0,er0⟩:=rsC_shape r0
 simp only [er0] at h0
 obtain⟨n1,l1,p1,k1,i1,tk1,ta1,bs1,f1,er1⟩:=rsC_shape r1
 simp only [er1] at h1
 clear hc hta er0 er1
 generalize rsE env=ev at *
 generalize a.ty.args.map Ty.cells=ta at *
 generalize a.args.map Tm.cells=sa at *
 generalize b.ty.args.map Ty.cells=tb at *
 generalize b.args.map Tm.cells=sb at *
 generalize t.ty.args.map Ty.cells=tta at *
 generalize t.kind=tk at *
 generalize t.idx=ti at *
 generalize t.ty.kind=tyk at *
 refine body [(7,.arr 971 9 109)] Tryz.func51 Tryz.ntmps51 ?_
 refine gg ?_
 refine⟨by rfl,?_⟩
 refine gg ?_
 refine ex_loop 2 (ex_round ?_)
 refine gg ?_
 refine call h0 ?_
 refine gg ?_
 refine ex_round ?_
 refine kp [0,2,4,6,7,64,65,66] [6,970,971] ?_
 refine gg ?_
 refine call h1 ?_
 refine gg ?_
 exact enC24
theorem out_0_3 (t a b d:Tm) (env:List Rs) (r0:Rs) (u u1 most:Nat) (hu:u<most) (hm:most≤65536) (hk1:¬ t.kind=1) (hk2:¬ t.kind=2) (hta:t.args=[a,b,d]) (h0:EvC a env (u+1) most (rsC r0) u1 true):EvC t env u most (rsC (.num 0)) u1 true:=by
 have hu':¬ (u:Int)=most:=by omega
 have e1:((u+1:Nat):Int)=(u:Int)+1:=by omega
 have hc:=t.cells_eq
 rw [hta] at hc
 unfold EvC mc at *
 rw [hc]
 simp only [rsC,e1,Int.cast_ofNat_Int,List.map_cons,List.map_nil] at *
 rw [Tm.cells_eq a,Tm.cells_eq b,Tm.cells_eq d]
 rw [Tm.cells_eq a] at h0
 obtain⟨n0,l0,p0,k0,i0,tk0,ta0,bs0,f0,er0⟩:=rsC_shape r0
 simp only [er0] at h0
 clear hc hta er0
 generalize rsE env=ev at *
 generalize a.ty.args.map Ty.cells=ta at *
 generalize a.args.map Tm.cells=sa at *
 generalize b.ty.args.map Ty.cells=tb at *
 generalize b.args.map Tm.cells=sb at *
 generalize d.ty.args.map Ty.cells=td at *
 generalize d.args.map Tm.cells=sd at *
 generalize t.ty.args.map Ty.cells=tta at *
 generalize t.kind=tk at *
 generalize t.idx=ti at *
 generalize t.ty.kind=tyk at *
 refine body [(7,.arr 971 9 109)] Tryz.func51 Tryz.ntmps51 ?_
 refine gg ?_
 refine⟨by rfl,?_⟩
 refine gg ?_
 refine ex_loop 1 (ex_round ?_)
 refine gg ?_
 refine call h0 ?_
 refine gg ?_
 exact enC24
theorem out_1_3 (t a b d:Tm) (env:List Rs) (r0 r1:Rs) (u u1 u2 most:Nat) (hu:u<most) (hm:most≤65536) (hk1:¬ t.kind=1) (hk2:¬ t.kind=2) (hta:t.args=[a,b,d]) (h0:EvC a env (u+1) most (rsC r0) u1 false) (h1:EvC b env u1 most (rsC r1) u2 true):EvC t env u most (rsC (.num 0)) u2 true:=by
 have hu':¬ (u:Int)=most:=by omega
 have e1:((u+1:Nat):Int)=(u:Int)+1:=by omega
 have hc:=t.cells_eq
 rw [hta] at hc
 unfold EvC mc at *
 rw [hc]
 simp only [rsC,e1,Int.cast_ofNat_Int,List.map_cons,List.map_nil] at *
 rw [Tm.cells_eq a,Tm.cells_eq b,Tm.cells_eq d]
 rw [Tm.cells_eq a] at h0
 rw [Tm.cells_eq b] at h1
 obtain⟨n0,l0,p0,k0,i0,tk0,ta0,bs0,f0,er0⟩:=rsC_shape r0
 simp only [er0] at h0
 obtain⟨n1,l1,p1,k1,i1,tk1,ta1,bs1,f1,er1⟩:=rsC_shape r1
 simp only [er1] at h1
 clear hc hta er0 er1
 generalize rsE env=ev at *
 generalize a.ty.args.map Ty.cells=ta at *
 generalize a.args.map Tm.cells=sa at *
 generalize b.ty.args.map Ty.cells=tb at *
 generalize b.args.map Tm.cells=sb at *
 generalize d.ty.args.map Ty.cells=td at *
 generalize d.args.map Tm.cells=sd at *
 generalize t.ty.args.map Ty.cells=tta at *
 generalize t.kind=tk at *
 generalize t.idx=ti at *
 generalize t.ty.kind=tyk at *
 refine body [(7,.arr 971 9 109)] Tryz.func51 Tryz.ntmps51 ?_
 refine gg ?_
 refine⟨by rfl,?_⟩
 refine gg ?_
 refine ex_loop 2 (ex_round ?_)
 refine gg ?_
 refine call h0 ?_
 refine gg ?_
 refine ex_round ?_
 refine kp [0,2,4,6,7,64,65,66] [6,970,971] ?_
 refine gg ?_
 refine call h1 ?_
 refine gg ?_
 exact enC24
theorem out_2_3 (t a b d:Tm) (env:List Rs) (r0 r1 r2:Rs) (u u1 u2 u3 most:Nat) (hu:u<most) (hm:most≤65536) (hk1:¬ t.kind=1) (hk2:¬ t.kind=2) (hta:t.args=[a,b,d]) (h0:EvC a env (u+1) most (rsC r0) u1 false) (h1:EvC b env u1 most (rsC r1) u2 false) (h2:EvC d env u2 most (rsC r2) u3 true):EvC t env u most (rsC (.num 0)) u3 true:=by
 have hu':¬ (u:Int)=most:=by omega
 have e1:((u+1:Nat):Int)=(u:Int)+1:=by omega
 have hc:=t.cells_eq
 rw [hta] at hc
 unfold EvC mc at *
 rw [hc]
 simp only [rsC,e1,Int.cast_ofNat_Int,List.map_cons,List.map_nil] at *
 rw [Tm.cells_eq a,Tm.cells_eq b,Tm.cells_eq d]
 rw [Tm.cells_eq a] at h0
 rw [Tm.cells_eq b] at h1
 rw [Tm.cells_eq d] at h2
 obtain⟨n0,l0,p0,k0,i0,tk0,ta0,bs0,f0,er0⟩:=rsC_shape r0
 simp only [er0] at h0
 obtain⟨n1,l1,p1,k1,i1,tk1,ta1,bs1,f1,er1⟩:=rsC_shape r1
 simp only [er1] at h1
 obtain⟨n2,l2,p2,k2,i2,tk2,ta2,bs2,f2,er2⟩:=rsC_shape r2
 simp only [er2] at h2
 clear hc hta er0 er1 er2
 generalize rsE env=ev at *
 generalize a.ty.args.map Ty.cells=ta at *
 generalize a.args.map Tm.cells=sa at *
 generalize b.ty.args.map Ty.cells=tb at *
 generalize b.args.map Tm.cells=sb at *
 generalize d.ty.args.map Ty.cells=td at *
 generalize d.args.map Tm.cells=sd at *
 generalize t.ty.args.map Ty.cells=tta at *
 generalize t.kind=tk at *
 generalize t.idx=ti at *
 generalize t.ty.kind=tyk at *
 refine body [(7,.arr 971 9 109)] Tryz.func51 Tryz.ntmps51 ?_
 refine gg ?_
 refine⟨by rfl,?_⟩
 refine gg ?_
 refine ex_loop 3 (ex_round ?_)
 refine gg ?_
 refine call h0 ?_
 refine gg ?_
 refine ex_round ?_
 refine kp [0,2,4,6,7,64,65,66] [6,970,971] ?_
 refine gg ?_
 refine call h1 ?_
 refine gg ?_
 refine ex_round ?_
 refine kp [0,2,4,6,7,64,65,66] [6,970,971] ?_
 refine gg ?_
 refine call h2 ?_
 refine gg ?_
 exact enC24
open Go.Lg
def ApC (f x:Rs) (u most:Nat) (r:Rs) (u':Nat) (out:Bool):Prop :=
 AC Tryz.prog gl 52 [.loc 970 0,.pv (.agg (rsC f)),.pv (.agg (rsC x))] [(970,mc u most false)] (.ret (.pv (.agg (rsC r)))) [(970,mc u' most out)]
inductive RcC (f:Rs) (n most:Nat):Nat→Rs→Nat→Rs→Nat→Bool→Prop
 | done {r u} : RcC f n most n r u r u false
 | out1 {k r u g u'} : k<n→ApC f (.num k) u most g u' true→RcC f n most k r u r u' true
 | out2 {k r u g u1 r' u'} : k<n→ApC f (.num k) u most g u1 false→ApC g r u1 most r' u' true→RcC f n most k r u r' u' true
 | step {k r u g u1 r' u2 q u' o} : k<n→ApC f (.num k) u most g u1 false→ApC g r u1 most r' u2 false→RcC f n most (k+1) r' u2 q u' o→RcC f n most k r u q u' o
def zeroV:List V:=[.pv (.int 0),.pv (.slice []),.pv (.slice []),.pv (.int 0),.pv (.int 0),.pv (.int 0),.pv (.slice []),.pv (.slice []),.pv (.slice [])]
noncomputable def recI (b f:Rs) (n most:Nat) (k:Nat) (r:Rs) (u:Nat) (out:Bool):St:=⟨[(0,.loc 970 0),(6,.loc 6 0),(7,.arr 971 3 3),(10,.loc 10 0),(11,.pv (.int k))],
 [(970,mc u most out),(6,.box zeroV),(971,.arr 3 9 109 (pvE [rsC b,rsC f,rsC (.num n)])),(10,.box (pvL (rsC r)))],[10,971,6,970]⟩
theorem eval_rec (s:Ty) (x y z:Tm) (env:List Rs) (b f q:Rs) (n u u1 u2 u3 u' most:Nat) (o:Bool) (hu:u<most) (hm:most≤65536) (hn:n≤100000) (ha:EvC x env (u+1) most (rsC b) u1 false) (hb:EvC y env u1 most (rsC f) u2 false) (hz:EvC z env u2 most (rsC (.num n)) u3 false)
  (hr:RcC f n most 0 b u3 q u' o):EvC (.recn s x y z) env u most (rsC q) u' o:=by
 have hu':¬ (u:Int)=most:=by omega
 have e1:((u+1:Nat):Int)=(u:Int)+1:=by omega
 have ec:(Tm.recn s x y z).cells=[.int 6,.int 0,.int s.kind,.slice (s.args.map Ty.cells),.slice [x.cells,y.cells,z.cells]]:=by rw [Tm.cells_eq];rfl
 have hwk:∀ (k:Nat) (r:Rs) (u:Nat) (out:Bool) (σ:St),σ.slots.length=σ.slots.length→True:=fun _ _ _ _ _ _=>trivial
 unfold EvC
 rw [ec]
 unfold EvC mc at ha hb hz
 rw [e1] at ha
 clear ec hwk
 obtain⟨n1,l1,p1,k1,i1,tk1,ta1,bs1,f1,ea⟩:=rsC_shape b
 obtain⟨n2,l2,p2,k2,i2,tk2,ta2,bs2,f2,eb⟩:=rsC_shape f
 rw [Tm.cells_eq x] at *
 rw [Tm.cells_eq y] at *
 rw [Tm.cells_eq z] at *
 simp only [ea] at ha
 simp only [eb] at hb
 simp only [rsC] at hz
 generalize rsE env=ev at *
 generalize x.ty.args.map Ty.cells=tx at *
 generalize x.args.map Tm.cells=sx at *
 generalize y.ty.args.map Ty.cells=ty at *
 generalize y.args.map Tm.cells=sy at *
 generalize z.ty.args.map Ty.cells=tz at *
 generalize z.args.map Tm.cells=sz at *
 generalize s.args.map Ty.cells=ss at *
 show AC Tryz.prog gl 51 _ [(970,mc u most false)] _ _
 have hmc:mc u most false = .box [.pv (.int u),.pv (.int most),.pv (.bool false)]:=rfl
 rw [hmc]
 clear hmc
 have hlast:=hr
 refine body [(7,.arr 971 9 109)] Tryz.func51 Tryz.ntmps51 ?_ (hno:=by simp [subL,Out.names,V.names,namesL,namesOb,Ob.names,keysO,mc])
 clear hlast
 refine gg ?_
 refine⟨by rfl,?_⟩
 refine gg ?_
 refine ex_loop 4 (ex_round ?_)
 refine gg ?_
 refine call ha ?_
 refine gg ?_
 refine ex_round ?_
 refine kp [0,2,4,6,7,64,65,66] [6,970,971] ?_
 refine gg ?_
 refine call hb ?_
 refine gg ?_
 refine ex_round ?_
 refine kp [0,2,4,6,7,64,65,66] [6,970,971] ?_
 refine gg ?_
 refine call hz ?_
 refine gg ?_
 refine ex_round ?_
 refine kp [0,2,4,6,7,64,65,66] [6,970,971] ?_
 refine gg ?_
 refine AWP.loop (ι:={ i:Nat × Rs × Nat × Bool // (i.2.2.2=false∧RcC f n most i.1 i.2.1 i.2.2.1 q u' o)∨(i.2.2.2=true∧i.2.1=q∧i.2.2.1=u'∧o=true∧i.1≤n) }) (fun i=>recI b f n most i.1.1 i.1.2.1 i.1.2.2.1 i.1.2.2.2) (fun i=>n-i.1.1) ⟨(0,b,u3,false),.inl ⟨rfl,hr⟩⟩ ?_ ?_
 ·refine⟨by simp [recI,slotsLe,getS],by simp [recI,subO,getO,mc,zeroV,rsC,ea,eb,pvL,pvE],?_⟩
  simp [recI,subL,namesSl,V.names,namesOb,Ob.names,namesL,namesE,namesE_pvE,XX_given,mc,zeroV,rsC,ea,eb,pvL,pvE]
 rintro⟨⟨k,r,uu,out⟩,hI⟩
 simp only at hI ⊢
 clear ha hb hz hr
 obtain⟨n3,l3,p3,k3,i3,tk3,ta3,bs3,f3,er⟩:=rsC_shape r
 have hk0:(0:Int)≤k:=by omega
 rcases hI with ⟨rfl,hR⟩|⟨rfl,hq,rfl,rfl,hkn⟩
 ·cases hR with
  | done =>
   have h1:¬ (n:Int)<n:=by omega
   simp only [recI,mc,zeroV,rsC,ea,eb,er,pvL,List.map_cons,List.map_nil]
   refine gg ?_
   exact⟨by simp [retIs,resV,resL,resOne,mkTup,getS,getO,rdV,mkAgg,unL,V.un,TI.isAgg,XX_T,tt109,Tryz.f51,er,mc],by simp [subO,getO,tt109,Tryz.f51,er,mc]⟩
  | @out1 _ _ _ g _ hk hc1 =>
   have h1:(k:Int)<n:=by omega
   obtain⟨n4,l4,p4,k4,i4,tk4,ta4,bs4,f4,eg⟩:=rsC_shape g
   unfold ApC mc at hc1
   simp only [rsC,eb,eg] at hc1
   simp only [recI,mc,zeroV,rsC,ea,eb,er,pvL,List.map_cons,List.map_nil]
   refine gg ?_
   refine call hc1 ?_
   refine gg ?_
   exact⟨⟨(k+1,q,u',true),.inr ⟨rfl,rfl,rfl,rfl,by simp only;omega⟩⟩,by simp only;omega,⟨by simp [recI,slotsLe,getS],by simp [recI,subO,getO,mc,zeroV,rsC,ea,eb,er,pvL,pvE],by simp [recI,subL,namesSl,V.names,namesOb,Ob.names,namesL,namesE,namesE_pvE,XX_given,mc,zeroV,rsC,ea,eb,er,pvL,pvE]⟩⟩
  | @out2 _ _ _ g v1 _ _ hk hc1 hc2 =>
   have h1:(k:Int)<n:=by omega
   obtain⟨n4,l4,p4,k4,i4,tk4,ta4,bs4,f4,eg⟩:=rsC_shape g
   obtain⟨n5,l5,p5,k5,i5,tk5,ta5,bs5,f5,eq⟩:=rsC_shape q
   unfold ApC mc at hc1 hc2
   simp only [rsC,eb,eg] at hc1
   simp only [eg,er,eq] at hc2
   simp only [recI,mc,zeroV,rsC,ea,eb,er,pvL,List.map_cons,List.map_nil]
   refine gg ?_
   refine call hc1 ?_
   refine gg ?_
   refine call hc2 ?_
   refine gg ?_
   exact⟨⟨(k+1,q,u',true),.inr ⟨rfl,rfl,rfl,rfl,by simp only;omega⟩⟩,by simp only;omega,⟨by simp [recI,slotsLe,getS],by simp [recI,subO,getO,mc,zeroV,rsC,ea,eb,er,eq,pvL,pvE],by simp [recI,subL,namesSl,V.names,namesOb,Ob.names,namesL,namesE,namesE_pvE,XX_given,mc,zeroV,rsC,ea,eb,er,eq,pvL,pvE]⟩⟩
  | @step _ _ _ g v1 r' v2 _ _ _ hk hc1 hc2 hR =>
   have h1:(k:Int)<n:=by omega
   obtain⟨n4,l4,p4,k4,i4,tk4,ta4,bs4,f4,eg⟩:=rsC_shape g
   obtain⟨n5,l5,p5,k5,i5,tk5,ta5,bs5,f5,eq⟩:=rsC_shape r'
   unfold ApC mc at hc1 hc2
   simp only [rsC,eb,eg] at hc1
   simp only [eg,er,eq] at hc2
   simp only [recI,mc,zeroV,rsC,ea,eb,er,pvL,List.map_cons,List.map_nil]
   refine gg ?_
   refine call hc1 ?_
   refine gg ?_
   refine call hc2 ?_
   refine gg ?_
   exact⟨⟨(k+1,r',v2,false),.inl ⟨rfl,hR⟩⟩,by simp only;omega,⟨by simp [recI,slotsLe,getS],by simp [recI,subO,getO,mc,zeroV,rsC,ea,eb,er,eq,pvL,pvE],by simp [recI,subL,namesSl,V.names,namesOb,Ob.names,namesL,namesE,namesE_pvE,XX_given,mc,zeroV,rsC,ea,eb,er,eq,pvL,pvE]⟩⟩
 ·subst hq
  by_cases hk:k<n
  ·have h1:(k:Int)<n:=by omega
   simp only [recI,mc,zeroV,rsC,ea,eb,er,pvL,List.map_cons,List.map_nil]
   refine gg ?_
   exact⟨by simp [retIs,resV,resL,resOne,mkTup,getS,getO,rdV,mkAgg,unL,V.un,TI.isAgg,XX_T,tt109,Tryz.f51,er,mc],by simp [subO,getO,tt109,Tryz.f51,er,mc]⟩
  ·have h1:¬ (k:Int)<n:=by omega
   simp only [recI,mc,zeroV,rsC,ea,eb,er,pvL,List.map_cons,List.map_nil]
   refine gg ?_
   exact⟨by simp [retIs,resV,resL,resOne,mkTup,getS,getO,rdV,mkAgg,unL,V.un,TI.isAgg,XX_T,tt109,Tryz.f51,er,mc],by simp [subO,getO,tt109,Tryz.f51,er,mc]⟩
end Go.Proofs.YtodjpfpmhjdhbaaGreatDoor
