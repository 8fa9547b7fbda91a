/- Contracts of functions; no conditions. -/
import Derived.Test.YtbbbnbikmbaejaaGreatDoorConC1
import Derived.Test.YtbbbnbikmbaejaaGreatDoorConB2
set_option linter.all false
namespace Go.Proofs.YtbbbnbikmbaejaaGreatDoor
open Go.Lg
set_option maxRecDepth 100000
noncomputable def fl:List Func:=Tryz.prog.funcs.toList
noncomputable def F (f:Nat):Option Func:=qXs fl f
def deB:List PV:=[.num .u8 (.ofNat 0),.num .u8 (.ofNat 1),.num .u8 (.ofNat 28),.num .u8 (.ofNat 2),.num .u8 (.ofNat 29),.num .u8 (.ofNat 14),.num .u8 (.ofNat 24),.num .u8 (.ofNat 3),.num .u8 (.ofNat 30),.num .u8 (.ofNat 22),.num .u8 (.ofNat 20),.num .u8 (.ofNat 15),.num .u8 (.ofNat 25),.num .u8 (.ofNat 17),.num .u8 (.ofNat 4),.num .u8 (.ofNat 8),.num .u8 (.ofNat 31),.num .u8 (.ofNat 27),.num .u8 (.ofNat 13),.num .u8 (.ofNat 23),.num .u8 (.ofNat 21),.num .u8 (.ofNat 19),.num .u8 (.ofNat 16),.num .u8 (.ofNat 7),.num .u8 (.ofNat 26),.num .u8 (.ofNat 12),.num .u8 (.ofNat 18),.num .u8 (.ofNat 6),.num .u8 (.ofNat 11),.num .u8 (.ofNat 5),.num .u8 (.ofNat 10),.num .u8 (.ofNat 9)]
def arB:List PV:=[.int (.ofNat 0),.int (.ofNat 0),.int (.ofNat 1),.int (.ofNat 2),.int (.ofNat 0),.int (.ofNat 1),.int (.ofNat 3),.int (.ofNat 0),.int (.ofNat 2),.int (.ofNat 3),.int (.ofNat 2),.int (.ofNat 1),.int (.ofNat 1),.int (.ofNat 0)]
def rlB:List PV:=[.bool false,.bool false,.int (.ofNat 0),.int (.ofNat 0),.int (.ofNat 0),.int (.ofNat 0),.int (.ofNat 0),.int (.ofNat 0),.bool true,.bool false,.int (.ofNat 0),.int (.ofNat 0),.int (.ofNat 0),.int (.ofNat 0),.int (.ofNat 0),.int (.ofNat 0),.bool true,.bool false,.int (.ofNat 0),.int (.ofNat 0),.int (.ofNat 0),.int (.ofNat 0),.int (.ofNat 0),.int (.ofNat 0),.bool false,.bool false,.int (.ofNat 0),.int (.ofNat 0),.int (.ofNat 2),.int (.ofNat 0),.int (.ofNat 0),.int (.ofNat 0),.bool false,.bool false,.int (.ofNat 0),.int (.ofNat 0),.int (.ofNat 1),.int (.ofNat 0),.int (.ofNat 0),.int (.ofNat 0),.bool false,.bool false,.int (.ofNat 0),.int (.ofNat 0),.int (.ofNat 1),.int (.ofNat 0),.int (.ofNat 0),.int (.ofNat 0),.bool false,.bool false,.int (.ofNat 0),.int (.ofNat 1),.int (.ofNat 1),.int (.ofNat 0),.int (.ofNat 0),.int (.ofNat 1),.bool false,.bool false,.int (.ofNat 0),.int (.ofNat 0),.int (.ofNat 2),.int (.ofNat 0),.int (.ofNat 0),.int (.ofNat 0),.bool false,.bool true,.int (.ofNat 0),.int (.ofNat 0),.int (.ofNat 1),.int (.ofNat 0),.int (.ofNat 1),.int (.ofNat 0),.bool false,.bool false,.int (.ofNat 1),.int (.ofNat 0),.int (.ofNat 1),.int (.ofNat 0),.int (.ofNat 0),.int (.ofNat 0),.bool false,.bool false,.int (.ofNat 1),.int (.ofNat 1),.int (.ofNat 1),.int (.ofNat 0),.int (.ofNat 0),.int (.ofNat 0),.bool false,.bool false,.int (.ofNat 0),.int (.ofNat 0),.int (.ofNat 2),.int (.ofNat 0),.int (.ofNat 1),.int (.ofNat 1),.bool false,.bool true,.int (.ofNat 0),.int (.ofNat 0),.int (.ofNat 1),.int (.ofNat 0),.int (.ofNat 1),.int (.ofNat 0),.bool false,.bool false,.int (.ofNat 1),.int (.ofNat 0),.int (.ofNat 1),.int (.ofNat 0),.int (.ofNat 0),.int (.ofNat 0),.bool false,.bool false,.int (.ofNat 1),.int (.ofNat 1),.int (.ofNat 1),.int (.ofNat 0),.int (.ofNat 0),.int (.ofNat 0),.bool false,.bool false,.int (.ofNat 0),.int (.ofNat 0),.int (.ofNat 2),.int (.ofNat 0),.int (.ofNat 1),.int (.ofNat 1),.bool false,.bool false,.int (.ofNat 1),.int (.ofNat 1),.int (.ofNat 2),.int (.ofNat 1),.int (.ofNat 1),.int (.ofNat 1),.bool false,.bool false,.int (.ofNat 1),.int (.ofNat 1),.int (.ofNat 2),.int (.ofNat 1),.int (.ofNat 2),.int (.ofNat 1),.bool false,.bool false,.int (.ofNat 1),.int (.ofNat 0),.int (.ofNat 0),.int (.ofNat 0),.int (.ofNat 0),.int (.ofNat 0),.bool false,.bool false,.int (.ofNat 0),.int (.ofNat 1),.int (.ofNat 2),.int (.ofNat 1),.int (.ofNat 0),.int (.ofNat 0),.bool false,.bool false,.int (.ofNat 0),.int (.ofNat 0),.int (.ofNat 1),.int (.ofNat 0),.int (.ofNat 0),.int (.ofNat 0)]
def gl:Nat→Option (List PV)
 | 0=>some deB
 | 1=>some arB
 | 2=>some rlB
 | _=>none
noncomputable def ev:qZx:=⟨tt,gl,F,fun _ _=>none⟩
theorem zW2:Tryz.prog.funcs=fl.toArray:=rfl
theorem qR1 : fl.all (fun fn => !(fn.name == "runtime.NumGoroutine")) = true := by kernel_rfl
theorem evOK:qPk ev Tryz.prog:=by
 refine⟨zD8,fun f fn h => ?_,fun f args x h=>(by cases h),zAo⟩
 have h:fl[f]? = some fn:=by rw [← qJh];exact h
 grind [zW2,qR1,List.mem_of_getElem]
abbrev num (n:Nat):PV:=.int (.ofNat n)
abbrev _root_.Go.Lg.De.N (n:Nat):De:=.r (num n)
inductive Ty where
 | nat|list|unit
 | two (k:Bool) (a b:Ty)
def Ty.kd:Ty→Nat
 | .nat=>1 | .list=>2 | .unit=>5 | .two k _ _=>match k with
  | true=>4
  | false=>3
def Ty.es:Ty→List (List PV)
 | .two _ a b=>[[num a.kd,.slice a.es],[num b.kd,.slice b.es]]
 | _=>[]
def Ty.c (t:Ty):List PV:=[num t.kd,.slice t.es]
def Ty.p (t:Ty):PV:=.agg t.c
abbrev _root_.Go.Lg.De.Y:De:=.r Ty.nat.p
inductive K0 where
 | zero|nil|unit
inductive K1 where
 | succ|fst|snd
inductive K2 where
 | app|cons|pair
inductive K3 where
 | re|fo
def K0.n:K0→Nat
 | .zero=>4 | .nil=>7 | .unit=>13
def K1.n:K1→Nat
 | .succ=>5 | .fst=>11 | .snd=>12
def K2.n:K2→Nat
 | .app=>3 | .cons=>8 | .pair=>10
def K3.n:K3→Nat
 | .re=>6 | .fo=>9
inductive Tm where
 | v (i:Nat)
 | lam (s:Ty) (b:Tm)
 | n0 (k:K0)
 | n1 (k:K1) (a:Tm)
 | n2 (k:K2) (a b:Tm)
 | n3 (k:K3) (s:Ty) (a b c:Tm)
def Tm.kd:Tm→Nat
 | .v _=>1 | .lam _ _=>2 | .n0 k=>k.n | .n1 k _=>k.n | .n2 k _ _=>k.n | .n3 k _ _ _ _=>k.n
def Tm.ix:Tm→Nat
 | .v i=>i
 | _=>0
def Tm.tk:Tm→Nat
 | .lam s _=>s.kd
 | .n3 _ s _ _ _=>s.kd
 | _=>0
def Tm.te:Tm→List (List PV)
 | .lam s _=>s.es
 | .n3 _ s _ _ _=>s.es
 | _=>[]
def Tm.es:Tm→List (List PV)
 | .lam _ b=>[[num b.kd,num b.ix,num b.tk,.slice b.te,.slice b.es]]
 | .n1 _ a=>[[num a.kd,num a.ix,num a.tk,.slice a.te,.slice a.es]]
 | .n2 _ a b=>[[num a.kd,num a.ix,num a.tk,.slice a.te,.slice a.es],[num b.kd,num b.ix,num b.tk,.slice b.te,.slice b.es]]
 | .n3 _ _ a b c=>[[num a.kd,num a.ix,num a.tk,.slice a.te,.slice a.es],[num b.kd,num b.ix,num b.tk,.slice b.te,.slice b.es],[num c.kd,num c.ix,num c.tk,.slice c.te,.slice c.es]]
 | _=>[]
def Tm.c (t:Tm):List PV:=[num t.kd,num t.ix,num t.tk,.slice t.te,.slice t.es]
def Tm.p (t:Tm):PV:=.agg t.c
inductive FB where
 | and|imp
inductive FQ where
 | all|ex|allU|exU
def FB.n:FB→Nat
 | .and=>2 | .imp=>3
def FQ.n:FQ→Nat
 | .all=>4 | .ex=>5 | .allU=>6 | .exU=>7
inductive Fm where
 | eq (a b:Tm)
 | bin (k:FB) (f g:Fm)
 | q (k:FQ) (s:Ty) (f:Fm)
def Fm.kd:Fm→Nat
 | .eq _ _=>1 | .bin k _ _=>k.n | .q k _ _=>k.n
def Fm.tk:Fm→Nat
 | .q _ s _=>s.kd
 | _=>0
def Fm.te:Fm→List (List PV)
 | .q _ s _=>s.es
 | _=>[]
def Fm.ts:Fm→List (List PV)
 | .eq a b=>[a.c,b.c]
 | _=>[]
def Fm.es:Fm→List (List PV)
 | .bin _ f g=>[[num f.kd,num f.tk,.slice f.te,.slice f.ts,.slice f.es],[num g.kd,num g.tk,.slice g.te,.slice g.ts,.slice g.es]]
 | .q _ _ f=>[[num f.kd,num f.tk,.slice f.te,.slice f.ts,.slice f.es]]
 | _=>[]
def Fm.c (f:Fm):List PV:=[num f.kd,num f.tk,.slice f.te,.slice f.ts,.slice f.es]
def Fm.p (f:Fm):PV:=.agg f.c
inductive P1 where
 | andL|andR|choice
inductive P2 where
 | andI|impE|exE|exUE
def P1.n:P1→Nat
 | .andL=>4 | .andR=>5 | .choice=>20
def P2.n:P2→Nat
 | .andI=>3 | .impE=>7 | .exE=>11 | .exUE=>15
def bn (b:Bool) (x y:Nat):Nat:=match b with
 | false=>x
 | true=>y
inductive Pf where
 | leaf (u:Bool) (i:Nat)
 | refl (t:Tm)
 | p1 (k:P1) (a:Pf)
 | p2 (k:P2) (a b:Pf)
 | impI (f:Fm) (a:Pf)
 | all (u:Bool) (s:Ty) (a:Pf)
 | ins (u:Bool) (t:Tm) (a:Pf)
 | ex (u:Bool) (f:Fm) (t:Tm) (a:Pf)
 | ind (l:Bool) (f:Fm) (t:Tm) (a b:Pf)
 | subst (f:Fm) (a b:Pf)
def Pf.kd:Pf→Nat
 | .leaf u _=>bn u 1 2
 | .refl _=>18
 | .p1 k _=>k.n
 | .p2 k _ _=>k.n
 | .impI _ _=>6
 | .all u _ _=>bn u 8 12
 | .ins u _ _=>bn u 9 13
 | .ex u _ _ _=>bn u 10 14
 | .ind l _ _ _ _=>bn l 16 17
 | .subst _ _ _=>19
def Pf.ix:Pf→Nat
 | .leaf _ i=>i
 | _=>0
def Pf.tk:Pf→Nat
 | .all _ s _=>s.kd
 | _=>0
def Pf.te:Pf→List (List PV)
 | .all _ s _=>s.es
 | _=>[]
def Pf.ts:Pf→List (List PV)
 | .refl t=>[t.c]
 | .ins _ t _=>[t.c]
 | .ex _ _ t _=>[t.c]
 | .ind _ _ t _ _=>[t.c]
 | _=>[]
def Pf.fs:Pf→List (List PV)
 | .impI f _=>[f.c]
 | .ex _ f _ _=>[f.c]
 | .ind _ f _ _ _=>[f.c]
 | .subst f _ _=>[f.c]
 | _=>[]
def Pf.es:Pf→List (List PV)
 | .p1 _ a=>[[num a.kd,num a.ix,num a.tk,.slice a.te,.slice a.ts,.slice a.fs,.slice a.es]]
 | .impI _ a=>[[num a.kd,num a.ix,num a.tk,.slice a.te,.slice a.ts,.slice a.fs,.slice a.es]]
 | .all _ _ a=>[[num a.kd,num a.ix,num a.tk,.slice a.te,.slice a.ts,.slice a.fs,.slice a.es]]
 | .ins _ _ a=>[[num a.kd,num a.ix,num a.tk,.slice a.te,.slice a.ts,.slice a.fs,.slice a.es]]
 | .ex _ _ _ a=>[[num a.kd,num a.ix,num a.tk,.slice a.te,.slice a.ts,.slice a.fs,.slice a.es]]
 | .p2 _ a b=>[[num a.kd,num a.ix,num a.tk,.slice a.te,.slice a.ts,.slice a.fs,.slice a.es],[num b.kd,num b.ix,num b.tk,.slice b.te,.slice b.ts,.slice b.fs,.slice b.es]]
 | .ind _ _ _ a b=>[[num a.kd,num a.ix,num a.tk,.slice a.te,.slice a.ts,.slice a.fs,.slice a.es],[num b.kd,num b.ix,num b.tk,.slice b.te,.slice b.ts,.slice b.fs,.slice b.es]]
 | .subst _ a b=>[[num a.kd,num a.ix,num a.tk,.slice a.te,.slice a.ts,.slice a.fs,.slice a.es],[num b.kd,num b.ix,num b.tk,.slice b.te,.slice b.ts,.slice b.fs,.slice b.es]]
 | _=>[]
def Pf.c (a:Pf):List PV:=[num a.kd,num a.ix,num a.tk,.slice a.te,.slice a.ts,.slice a.fs,.slice a.es]
def Pf.p (a:Pf):PV:=.agg a.c
abbrev A (f:Nat) (args:List PV) (x:PV):Prop:=AC Tryz.prog gl f (args.map .pv) [] (.ret (.pv x)) []
abbrev U (f:Nat) (args:List PV) (tp:Di) (x:PV):Prop:=zAg ev Tryz.prog 100 6 f args tp x
abbrev O (f:Nat) (args:List V) (objs:List (Nat × Ob)) (x:V) (objs':List (Nat × Ob)):Prop:=AC Tryz.prog gl f args objs (.ret x) objs'
abbrev UO (f:Nat) (args:List V) (objs:List (Nat × Ob)) (m:Nat) (tp:Di) (x:V) (objs':List (Nat × Ob)):Prop:=zAh ev Tryz.prog 100 6 f args objs m tp x objs'
def lpL:Code→List Code
 | .loop b=>b::lpL b
 | .seq a b=>lpL a++lpL b
 | .cond _ a b=>lpL a++lpL b
 | .block _ b=>lpL b
 | .scope b=>lpL b
 | _=>[]
noncomputable def fnc (f:Nat):Func:=match qXs fl f with
 | some fn=>fn
 | none=>Tryz.f0
noncomputable def lpc (f i:Nat):Code:=match (fnc f).body with
 | some c=>match qXs (lpL c) i with
  | some b=>b
  | none => .skip
 | none => .skip
abbrev st (sl:List (Nat × V)) (ob:List (Nat × Ob)) (nx:Nat) (dt:List Nat):IS:=⟨slL sl .nil,obL ob .nil,nx,dt⟩
abbrev Lp (f i bs:Nat) (s:IS) (e:AE) (s':IS):Prop:=LoopIs ev Tryz.prog (fnc f).ntmps bs (lpc f i) s e s'
abbrev Rd (f i bs:Nat) (s:IS) (tp:Di) (ki ko:Kp) (e:AE) (s':IS):Prop:=qTt ev Tryz.prog 6 100 (fnc f).ntmps bs (lpc f i) s tp ki ko e s'
theorem inN {n:Nat} (h:n≤9223372036854775807):inB (.ofNat n)=true:=Nat.ble_eq_true_of_le h
theorem qWz {a b:Nat} (h:a<b):ltI (.ofNat a) (.ofNat b)=true:=by rw [qQn];simpa using h
theorem qZ4 {a b:Nat} (h:b≤a):ltI (.ofNat a) (.ofNat b)=false:=by rw [qQn];simpa using h
theorem qY7 {α:Type} {g r:List α} {k:Nat} {t:α} (h:g.drop k=t::r):g[k]? = some t∧k<g.length∧g.drop (k+1)=r:=by
 have h1:g[k]? = some t:=by
  have:=congrArg (fun m=>m[0]?) h
  grind
 refine⟨h1,(List.getElem?_eq_some_iff.1 h1).1,?_⟩
 rw [← List.drop_drop,h]
 rfl
abbrev kp (sl:List Nat):Kp:=⟨sl,[],0,[]⟩
theorem qW0 {n:Nat} : ∀ {l:List (List PV)},(∀ y∈l,y.length=n)→qWd n l=true
 | [],_=>rfl
 | y::r,h=>by
  unfold qWd
  rw [qPi (h y (by simp)),cond_true]
  exact qW0 fun z hz=>h z (by simp [hz])
theorem qQ3 {α:Type} {c:α→List PV} {g:List α} {k:Nat} {t:α} {n:Nat} (h:g[k]? = some t) (hn:∀ t,(c t).length=n):qXs (g.map c) k=some (c t)∧qWd n (g.map c)=true:=by
 refine⟨by rw [qJh,List.getElem?_map,h];rfl,qW0 ?_⟩
 simp_all
class Ans (H:Prop) where
 d:De
instance {n:Nat} : OfNat (Nat × De) n:=⟨(n,.c ⟨.undef,[],[],0⟩ [])⟩
instance (priority:=low) {H:Prop} : Ans H:=⟨.ok⟩
instance {P:Program} {g:Nat→Option (List PV)} {f:Nat} {a:List V} {x:PV} : Ans (AC P g f a [] (.ret (.pv x)) []):=⟨.r x⟩
instance {P:Program} {g:Nat→Option (List PV)} {f:Nat} {a:List V} {p:PV} : Ans (AC P g f a [] (.panic p) []):=⟨.r (.int 0)⟩
instance {P:Program} {g:Nat→Option (List PV)} {f n:Nat} {a:List V} {o u:Ob} {x:V} : Ans (AC P g f a [(n,o)] (.ret x) [(n,u)]):=⟨.d n u x⟩
instance {z u:Int} {n:Nat} : Ans (inB u=true∧z = .ofNat n):=⟨.z n⟩
instance {x b:Bool} : Ans (x=b):=⟨.b b⟩
def lvs:Di→Nat
 | []=>0
 | (_,.fb _ _)::t=>lvs t
 | _::t=>lvs t+1
def fill:Di→List De→Di
 | [],_=>[]
 | (k,e)::t,ds=>match e with
  | .c _ _=>match ds with
   | d::r=>(k,d)::fill t r
   | []=>[]
  | .fb _ _=>(k,e)::fill t ds
  | .n l=>(k,e)::fill t (ds.drop (lvs l))
  | _=>(k,e)::fill t (ds.drop 1)
class AnsL (B:Prop) where
 d:List De
instance (priority:=low) {B:Prop} : AnsL B:=⟨[]⟩
instance {H R:Prop} [Ans H] [AnsL R]:AnsL (H∧R):=⟨Ans.d H::AnsL.d R⟩
section
variable {f:Nat} {args:List PV} {x:PV}
theorem fk (tp:Di) {B:Prop} [AnsL B] (h:B) (e:B=U f args (fill tp (AnsL.d B)) x:=by kernel_rfl):A f args x:=qNx evOK (e ▸ h)
end
section
variable {f:Nat} {args:List V} {objs:List (Nat × Ob)} {x:V} {objs':List (Nat × Ob)}
theorem ok (m:Nat) (tp:Di) {B:Prop} [AnsL B] (h:B) (e:B=UO f args objs m (fill tp (AnsL.d B)) x objs':=by kernel_rfl):O f args objs x objs':=qNy evOK (e ▸ h)
end
theorem rk {f i bs:Nat} {s s':IS} {e:AE} (tp:Di) (ki ko:Kp) {B:Prop} [AnsL B] (h:B) (q:B=Rd f i bs s (fill tp (AnsL.d B)) ki ko e s':=by kernel_rfl):Lp f i bs s e s':=LoopIs.of_round evOK (q ▸ h)
section
variable {K H1 H2 H3 H4 H5 H6 H7 H8 H9 H10 H11 H12 H13 H14 H15 H16 H17 H18 H19 H20 H21 H22 H23 H24 H25 H26 H27 H28 H29 H30:Prop} (h1:H1) (h2:H2) (h3:H3) (h4:H4) (h5:H5) (h6:H6) (h7:H7) (h8:H8) (h9:H9) (h10:H10) (h11:H11) (h12:H12) (h13:H13) (h14:H14) (h15:H15) (h16:H16) (h17:H17) (h18:H18) (h19:H19) (h20:H20) (h21:H21) (h22:H22) (h23:H23) (h24:H24) (h25:H25) (h26:H26) (h27:H27) (h28:H28) (h29:H29) (h30:H30) (k:K)
def cj1:=And.intro h1 k
def cj2:=cj1 h1 (And.intro h2 k)
def cj3:=cj2 h1 h2 (And.intro h3 k)
def cj4:=cj3 h1 h2 h3 (And.intro h4 k)
def cj5:=cj4 h1 h2 h3 h4 (And.intro h5 k)
def cj6:=cj5 h1 h2 h3 h4 h5 (And.intro h6 k)
def cj7:=cj6 h1 h2 h3 h4 h5 h6 (And.intro h7 k)
def cj8:=cj7 h1 h2 h3 h4 h5 h6 h7 (And.intro h8 k)
def cj9:=cj8 h1 h2 h3 h4 h5 h6 h7 h8 (And.intro h9 k)
def zAp:=cj9 h1 h2 h3 h4 h5 h6 h7 h8 h9 (And.intro h10 k)
def zAq:=zAp h1 h2 h3 h4 h5 h6 h7 h8 h9 h10 (And.intro h11 k)
def zD9:=zAq h1 h2 h3 h4 h5 h6 h7 h8 h9 h10 h11 (And.intro h12 k)
def zCr:=zD9 h1 h2 h3 h4 h5 h6 h7 h8 h9 h10 h11 h12 (And.intro h13 k)
def zAr:=zCr h1 h2 h3 h4 h5 h6 h7 h8 h9 h10 h11 h12 h13 (And.intro h14 k)
def zAs:=zAr h1 h2 h3 h4 h5 h6 h7 h8 h9 h10 h11 h12 h13 h14 (And.intro h15 k)
def zCs:=zAs h1 h2 h3 h4 h5 h6 h7 h8 h9 h10 h11 h12 h13 h14 h15 (And.intro h16 k)
def zEa:=zCs h1 h2 h3 h4 h5 h6 h7 h8 h9 h10 h11 h12 h13 h14 h15 h16 (And.intro h17 k)
def zCt:=zEa h1 h2 h3 h4 h5 h6 h7 h8 h9 h10 h11 h12 h13 h14 h15 h16 h17 (And.intro h18 k)
def zEb:=zCt h1 h2 h3 h4 h5 h6 h7 h8 h9 h10 h11 h12 h13 h14 h15 h16 h17 h18 (And.intro h19 k)
end
section
variable {f:Nat} {args:List PV} {x:PV} {ag:List V} {obs:List (Nat × Ob)} {y:V} {obs':List (Nat × Ob)} {i bs:Nat} {s s':IS} {e:AE} (m:Nat) (tp:Di) (ko:Kp) {H1 H2 H3 H4 H5 H6 H7 H8 H9 H10 H11 H12 H13 H14 H15 H16 H17 H18 H19 H20 H21 H22 H23 H24 H25 H26 H27 H28 H29 N:Prop} (h1:H1) (h2:H2) (h3:H3) (h4:H4) (h5:H5) (h6:H6) (h7:H7) (h8:H8) (h9:H9) (h10:H10) (h11:H11) (h12:H12) (h13:H13) (h14:H14) (h15:H15) (h16:H16) (h17:H17) (h18:H18) (h19:H19) (h20:H20) (h21:H21) (h22:H22) (h23:H23) (h24:H24) (h25:H25) (h26:H26) (h27:H27) (h28:H28) (h29:H29) (w:N) [Ans H1] [Ans H2] [Ans H3] [Ans H4] [Ans H5] [Ans H6] [Ans H7] [Ans H8] [Ans H9] [Ans H10] [Ans H11] [Ans H12] [Ans H13] [Ans H14] [Ans H15] [Ans H16] [Ans H17] [Ans H18] [Ans H19] [Ans H20] [Ans H21] [Ans H22] [Ans H23] [Ans H24] [Ans H25] [Ans H26] [Ans H27] [Ans H28] [Ans H29]
def f0:=@fk f args x tp _ _ (rfl:x=x)
def f1:=@fk f args x tp _ _ (cj1 h1 (Eq.refl x))
def f2:=@fk f args x tp _ _ (cj2 h1 h2 (Eq.refl x))
def f3:=@fk f args x tp _ _ (cj3 h1 h2 h3 (Eq.refl x))
def f4:=@fk f args x tp _ _ (cj4 h1 h2 h3 h4 (Eq.refl x))
def f5:=@fk f args x tp _ _ (cj5 h1 h2 h3 h4 h5 (Eq.refl x))
def f6:=@fk f args x tp _ _ (cj6 h1 h2 h3 h4 h5 h6 (Eq.refl x))
def f7:=@fk f args x tp _ _ (cj7 h1 h2 h3 h4 h5 h6 h7 (Eq.refl x))
def f8:=@fk f args x tp _ _ (cj8 h1 h2 h3 h4 h5 h6 h7 h8 (Eq.refl x))
def f9:=@fk f args x tp _ _ (cj9 h1 h2 h3 h4 h5 h6 h7 h8 h9 (Eq.refl x))
def f10:=@fk f args x tp _ _ (zAp h1 h2 h3 h4 h5 h6 h7 h8 h9 h10 (Eq.refl x))
def f11:=@fk f args x tp _ _ (zAq h1 h2 h3 h4 h5 h6 h7 h8 h9 h10 h11 (Eq.refl x))
def f13:=@fk f args x tp _ _ (zCr h1 h2 h3 h4 h5 h6 h7 h8 h9 h10 h11 h12 h13 (Eq.refl x))
def f14:=@fk f args x tp _ _ (zAr h1 h2 h3 h4 h5 h6 h7 h8 h9 h10 h11 h12 h13 h14 (Eq.refl x))
def f15:=@fk f args x tp _ _ (zAs h1 h2 h3 h4 h5 h6 h7 h8 h9 h10 h11 h12 h13 h14 h15 (Eq.refl x))
def o0:=@ok f ag obs y obs' m tp _ _ (rfl:(y,obs')=(y,obs'))
def o1:=@ok f ag obs y obs' m tp _ _ (cj1 h1 (Eq.refl (y,obs')))
def o2:=@ok f ag obs y obs' m tp _ _ (cj2 h1 h2 (Eq.refl (y,obs')))
def o3:=@ok f ag obs y obs' m tp _ _ (cj3 h1 h2 h3 (Eq.refl (y,obs')))
def o4:=@ok f ag obs y obs' m tp _ _ (cj4 h1 h2 h3 h4 (Eq.refl (y,obs')))
def o5:=@ok f ag obs y obs' m tp _ _ (cj5 h1 h2 h3 h4 h5 (Eq.refl (y,obs')))
def o6:=@ok f ag obs y obs' m tp _ _ (cj6 h1 h2 h3 h4 h5 h6 (Eq.refl (y,obs')))
def o7:=@ok f ag obs y obs' m tp _ _ (cj7 h1 h2 h3 h4 h5 h6 h7 (Eq.refl (y,obs')))
def o8:=@ok f ag obs y obs' m tp _ _ (cj8 h1 h2 h3 h4 h5 h6 h7 h8 (Eq.refl (y,obs')))
def o9:=@ok f ag obs y obs' m tp _ _ (cj9 h1 h2 h3 h4 h5 h6 h7 h8 h9 (Eq.refl (y,obs')))
def o10:=@ok f ag obs y obs' m tp _ _ (zAp h1 h2 h3 h4 h5 h6 h7 h8 h9 h10 (Eq.refl (y,obs')))
def o11:=@ok f ag obs y obs' m tp _ _ (zAq h1 h2 h3 h4 h5 h6 h7 h8 h9 h10 h11 (Eq.refl (y,obs')))
def o14:=@ok f ag obs y obs' m tp _ _ (zAr h1 h2 h3 h4 h5 h6 h7 h8 h9 h10 h11 h12 h13 h14 (Eq.refl (y,obs')))
def o15:=@ok f ag obs y obs' m tp _ _ (zAs h1 h2 h3 h4 h5 h6 h7 h8 h9 h10 h11 h12 h13 h14 h15 (Eq.refl (y,obs')))
def o16:=@ok f ag obs y obs' m tp _ _ (zCs h1 h2 h3 h4 h5 h6 h7 h8 h9 h10 h11 h12 h13 h14 h15 h16 (Eq.refl (y,obs')))
def o18:=@ok f ag obs y obs' m tp _ _ (zCt h1 h2 h3 h4 h5 h6 h7 h8 h9 h10 h11 h12 h13 h14 h15 h16 h17 h18 (Eq.refl (y,obs')))
def o19:=@ok f ag obs y obs' m tp _ _ (zEb h1 h2 h3 h4 h5 h6 h7 h8 h9 h10 h11 h12 h13 h14 h15 h16 h17 h18 h19 (Eq.refl (y,obs')))
def x0:=@rk f i bs s s' e tp ko ko _ _ (⟨rfl,rfl⟩:e=e∧s'=s')
def x1:=@rk f i bs s s' e tp ko ko _ _ (cj1 h1 (And.intro (Eq.refl e) (Eq.refl s')))
def x2:=@rk f i bs s s' e tp ko ko _ _ (cj2 h1 h2 (And.intro (Eq.refl e) (Eq.refl s')))
def x3:=@rk f i bs s s' e tp ko ko _ _ (cj3 h1 h2 h3 (And.intro (Eq.refl e) (Eq.refl s')))
def x4:=@rk f i bs s s' e tp ko ko _ _ (cj4 h1 h2 h3 h4 (And.intro (Eq.refl e) (Eq.refl s')))
def x5:=@rk f i bs s s' e tp ko ko _ _ (cj5 h1 h2 h3 h4 h5 (And.intro (Eq.refl e) (Eq.refl s')))
def x9:=@rk f i bs s s' e tp ko ko _ _ (cj9 h1 h2 h3 h4 h5 h6 h7 h8 h9 (And.intro (Eq.refl e) (Eq.refl s')))
def n1:=@rk f i bs s s' e tp ko ko _ _ (h1:H1)
def n2:=@rk f i bs s s' e tp ko ko _ _ (cj1 h1 h2)
def n3:=@rk f i bs s s' e tp ko ko _ _ (cj2 h1 h2 h3)
def n5:=@rk f i bs s s' e tp ko ko _ _ (cj4 h1 h2 h3 h4 h5)
def n6:=@rk f i bs s s' e tp ko ko _ _ (cj5 h1 h2 h3 h4 h5 h6)
def n7:=@rk f i bs s s' e tp ko ko _ _ (cj6 h1 h2 h3 h4 h5 h6 h7)
def n8:=@rk f i bs s s' e tp ko ko _ _ (cj7 h1 h2 h3 h4 h5 h6 h7 h8)
def n9:=@rk f i bs s s' e tp ko ko _ _ (cj8 h1 h2 h3 h4 h5 h6 h7 h8 h9)
def y1:=@rk f i bs s s' e tp ko ko _ _ (cj1 h1 (And.intro (Eq.refl e) (And.intro w (Eq.refl s'))))
def y2:=@rk f i bs s s' e tp ko ko _ _ (cj2 h1 h2 (And.intro (Eq.refl e) (And.intro w (Eq.refl s'))))
end
open Go.Lg
set_option maxRecDepth 100000
abbrev big:Nat:=1152921504606846976
theorem inb {n:Nat} (h:n≤big):inB (.ofNat n)=true:=inN (Nat.le_trans h (by decide))
def Ty.size:Ty→Nat
 | .two _ a b=>1+a.size+b.size
 | _=>1
def Ty.same:Ty→Ty→Bool
 | .nat,.nat=>true
 | .list,.list=>true
 | .unit,.unit=>true
 | .two k a b,.two l c d=>(k == l) && (a.same c && b.same d)
 | _,_=>false
theorem zVu:∀ t:Ty,A 240 [t.p] (.bool true)
 | .nat=>f0 []
 | .list=>f0 []
 | .unit=>f0 []
 | .two true a b=>f2 [28,28] (zVu a) (zVu b)
 | .two false a b=>f2 [28,28] (zVu a) (zVu b)
theorem zYc:∀ t:Ty,t.size≤big→A 241 [t.p] (num t.size)
 | .nat,_=>f0 []
 | .list,_=>f0 []
 | .unit,_=>f0 []
 | .two k a b,h=>by
  have h:1+a.size+b.size≤big:=h
  have h1:=zYc a (by omega)
  have h2:=zYc b (by omega)
  have h3:inB (.ofNat (1+a.size))=true:=inb (by omega)
  cases k<;>exact f4 [15,(16,.ok),15,(16,.ok)] h1 h3 h2 (inb h)
theorem qFe:∀ t:Ty,A 104 [t.p] t.p
 | .nat=>f0 []
 | .list=>f0 []
 | .unit=>f0 []
 | .two k a b=>f2 [15,15] (qFe a) (qFe b)
theorem a80 (a b:Ty):A 56 [a.p,b.p] (.bool (a.same b)):=by
 induction a generalizing b with
 | two k a b h1 h2=>cases b with
  | two l c d =>
   have h1:=h1 c
   have h2:=h2 d
   show A 56 [(Ty.two k a b).p,(Ty.two l c d).p] (.bool ((k == l) && (a.same c && b.same d)))
   generalize a.same c=p at *
   generalize b.same d=q at *
   by_cases e:k=l
   ·subst e
    cases p
    ·cases k<;>exact f1 [36] h1
    ·cases q
     ·cases k<;>exact f2 [36,36] h1 h2
     ·cases k<;>exact f2 [36,36] h1 h2
   ·cases k<;>cases l<;>first|exact absurd rfl e|exact f0 []
  | _=>cases k<;>exact f0 []
 | _=>cases b with
  | two l c d=>cases l<;>exact f0 []
  | _=>exact f0 []
def Ty.chk (t:Ty):Nat:=match ltI (.ofNat 64) (.ofNat t.size) with
 | true=>4
 | false=>0
theorem a84 (t:Ty) (h:t.size≤big):A 162 [t.p] (num t.chk):=by
 unfold Ty.chk
 cases e:ltI (.ofNat 64) (.ofNat t.size)
 ·exact f3 [4,7,8] (zVu t) (zYc t h) e
 ·exact f3 [4,7,8] (zVu t) (zYc t h) e
theorem a98 (a b:Ty):A 108 [a.p,b.p] (Ty.two false a b).p:=f2 [6,8] (qFe a) (qFe b)
theorem a99 (a b:Ty):A 109 [a.p,b.p] (Ty.two true a b).p:=f2 [6,8] (qFe a) (qFe b)
theorem qK4:A 164 [.agg [num 0,.slice []]] (.bool true):=f0 []
abbrev tys (g:List Ty):PV:=.slice (g.map Ty.c)
theorem Ty.c_len (t:Ty):t.c.length=2:=rfl
def qPo:List Ty→Nat
 | []=>0
 | t::r=>match t.chk with
  | 0=>qPo r
  | _+1=>4
theorem qZp (t:Ty):t.chk=0∨t.chk=4:=by unfold Ty.chk;split<;>simp
theorem qH2 {g:List Ty} (hl:g.length≤16):∀ (r:List Ty) (k:Nat),g.drop k=r→(∀ t∈r,t.size≤big) →
  (qPo r=0∧Lp 159 0 0 (st [(9,.pv (tys g)),(10,.pv (num (g.map Ty.c).length)),(11,.pv (num k))] [] 0 []) (.exit 0) (st [] [] 0 []))∨qPo r=4∧Lp 159 0 0 (st [(9,.pv (tys g)),(10,.pv (num (g.map Ty.c).length)),(11,.pv (num k))] [] 0 []) .ret (st [(2,.pv (num 4))] [] 0 [])
 | [],k,h,_ => .inl ⟨rfl,x1 [12] (kp []) (show ltI (.ofNat k) (.ofNat (g.map Ty.c).length)=false from qZ4 (by simp_all))⟩
 | t::r,k,h,hb=>by
  obtain⟨h1,h2,h3⟩:=qY7 h
  have hc:=a84 t (hb t (by simp))
  have hlt:ltI (.ofNat k) (.ofNat (g.map Ty.c).length)=true:=qWz (by simp_all)
  unfold qPo
  rcases qZp t with e|e<;>rw [e] at hc ⊢
  ·rcases qH2 hl r (k+1) h3 (fun t ht=>hb t (by simp [ht])) with ⟨e1,ih⟩|⟨e1,ih⟩
   ·exact .inl ⟨e1,n5 [12,(13,.i t.c),16,(20,.ok)] (kp [9,10,11]) hlt (qQ3 h1 Ty.c_len) hc (inN (show k+1≤_ by omega)) ih⟩
   ·exact .inr ⟨e1,n5 [12,(13,.i t.c),16,(20,.ok)] (kp [9,10,11]) hlt (qQ3 h1 Ty.c_len) hc (inN (show k+1≤_ by omega)) ih⟩
  ·exact .inr ⟨rfl,x3 [12,(13,.i t.c),16] (kp [2]) hlt (qQ3 h1 Ty.c_len) hc⟩
def zVv (g:List Ty):Nat:=match ltI (.ofNat 16) (.ofNat (g.map Ty.c).length) with
 | true=>3
 | false=>qPo g
theorem a29 (g:List Ty) (hb:∀ t∈g,t.size≤big):A 159 [tys g] (num (zVv g)):=by
 unfold zVv
 cases e:ltI (.ofNat 16) (.ofNat (g.map Ty.c).length)
 ·have hl:g.length≤16:=by
   rw [qQn] at e
   grind
  rcases qH2 hl g 0 rfl hb with ⟨h1,h2⟩|⟨h1,h2⟩<;>rw [h1]
  ·exact f2 [8,(100004,.l (kp [9,10,11]) (.exit 0) (st [] [] 0 []))] e h2
  ·exact f2 [8,(100004,.l (kp [9,10,11]) .ret (st [(2,.pv (num 4))] [] 0 []))] e h2
 ·exact f1 [8] e
def Tm.cnt:Tm→Nat
 | .lam _ b=>1+b.cnt
 | .n1 _ a=>1+a.cnt
 | .n2 _ a b=>1+a.cnt+b.cnt
 | .n3 _ _ a b c=>1+a.cnt+b.cnt+c.cnt
 | _=>1
def Tm.tsz:Tm→Nat
 | .lam s b=>max s.size b.tsz
 | .n1 _ a=>a.tsz
 | .n2 _ a b=>max a.tsz b.tsz
 | .n3 _ s a b c=>max (max s.size a.tsz) (max b.tsz c.tsz)
 | _=>0
def Tm.mx:Tm→Nat
 | .v i=>i
 | .lam _ b=>b.mx
 | .n1 _ a=>a.mx
 | .n2 _ a b=>max a.mx b.mx
 | .n3 _ _ a b c=>max a.mx (max b.mx c.mx)
 | _=>0
abbrev Tm.ty (t:Tm):PV:=.agg [num t.tk,.slice t.te]
abbrev row (l:List Tm):PV:=.slice (l.map Tm.c)
theorem zZz:A 104 [.agg [num 0,.slice []]] (.agg [num 0,.slice []]):=f0 []
theorem qR2 (t:Tm):A 104 [t.ty] t.ty:=by
 cases t with
 | lam s b=>exact qFe s
 | n3 k s a b c=>exact qFe s
 | _=>exact zZz
theorem a87:∀ t:Tm,t.cnt≤big→A 77 [t.p] (num t.cnt)
 | .v i,_=>f0 []
 | .n0 k,_=>f0 []
 | .lam s b,h=>f2 [15,(16,.ok)] (a87 b (by grind [Tm.cnt])) (inb h)
 | .n1 k b,h=>f2 [15,(16,.ok)] (a87 b (by grind [Tm.cnt])) (inb h)
 | .n2 k a b,h=>by
  have h:1+a.cnt+b.cnt≤big:=h
  have h1:inB (.ofNat (1+a.cnt))=true:=inb (by omega)
  exact f4 [15,(16,.ok),15,(16,.ok)] (a87 a (by omega)) h1 (a87 b (by omega)) (inb h)
 | .n3 k s a b c,h=>by
  have h:1+a.cnt+b.cnt+c.cnt≤big:=h
  have h1:inB (.ofNat (1+a.cnt))=true:=inb (by omega)
  have h2:inB (.ofNat (1+a.cnt+b.cnt))=true:=inb (by omega)
  exact f6 [15,(16,.ok),15,(16,.ok),15,(16,.ok)] (a87 a (by omega)) h1 (a87 b (by omega)) h2 (a87 c (by omega)) (inb h)
theorem a65:∀ t:Tm,A 60 [t.p] t.p
 | .v i=>f1 [25] (qR2 (.v i))
 | .n0 k=>f1 [25] (qR2 (.n0 k))
 | .lam s b=>f2 [15,25] (a65 b) (qFe s)
 | .n1 k a=>f2 [15,25] (a65 a) (qR2 (.n1 k a))
 | .n2 k a b=>f3 [15,15,25] (a65 a) (a65 b) (qR2 (.n2 k a b))
 | .n3 k s a b c=>f4 [15,15,15,25] (a65 a) (a65 b) (a65 c) (qFe s)
theorem a51 (i:Nat):A 49 [num i] (Tm.v i).p:=f0 []
theorem zZ0 (n:Nat):A 39 [num n,row []] (.agg [num n,num 0,num 0,.slice [],.slice []]):=f0 []
theorem zZ1 (n:Nat) (a:Tm):A 39 [num n,row [a]] (.agg [num n,num 0,num 0,.slice [],row [a]]):=f1 [16] (a65 a)
theorem zZ2 (n:Nat) (a b:Tm):A 39 [num n,row [a,b]] (.agg [num n,num 0,num 0,.slice [],row [a,b]]):=f2 [16,16] (a65 a) (a65 b)
theorem zAt (n:Nat) (a b c:Tm):A 39 [num n,row [a,b,c]] (.agg [num n,num 0,num 0,.slice [],row [a,b,c]]):=f3 [16,16,16] (a65 a) (a65 b) (a65 c)
theorem qVh (s:Ty) (b:Tm):A 54 [num 2,s.p,row [b]] (Tm.lam s b).p:=f2 [10,12] (zZ1 2 b) (qFe s)
theorem qN4 (k:K3) (s:Ty) (a b c:Tm):A 54 [num k.n,s.p,row [a,b,c]] (Tm.n3 k s a b c).p:=f2 [10,12] (zAt k.n a b c) (qFe s)
def Tm.shp:Tm→Bool
 | .lam s b=>Nat.beq s.chk 0 && b.shp
 | .n1 _ a=>a.shp
 | .n2 _ a b=>a.shp && b.shp
 | .n3 _ s a b c=>Nat.beq s.chk 0 && (a.shp && (b.shp && c.shp))
 | _=>true
theorem a86:∀ t:Tm,t.tsz≤big→A 157 [t.p] (.bool t.shp)
 | .v i,_=>f1 [31] qK4
 | .n0 k,_=>by cases k<;>exact f1 [31] qK4
 | .lam s b,h=>by
  have h:max s.size b.tsz≤big:=h
  have h1:=a84 s (by omega)
  have h2:=a86 b (by omega)
  unfold Tm.shp
  rcases qZp s with e|e<;>rw [e] at h1 ⊢
  ·cases e2:b.shp<;>rw [e2] at h2
   ·exact f2 [39,49] h1 h2
   ·exact f2 [39,49] h1 h2
  ·exact f1 [39] h1
 | .n1 k a,h=>by
  have h2:=a86 a h
  show A 157 [(Tm.n1 k a).p] (.bool a.shp)
  cases e2:a.shp<;>rw [e2] at h2
  ·cases k<;>exact f2 [31,49] qK4 h2
  ·cases k<;>exact f2 [31,49] qK4 h2
 | .n2 k a b,h=>by
  have h:max a.tsz b.tsz≤big:=h
  have h1:=a86 a (by omega)
  have h2:=a86 b (by omega)
  show A 157 [(Tm.n2 k a b).p] (.bool (a.shp && b.shp))
  cases e1:a.shp<;>rw [e1] at h1
  ·cases k<;>exact f2 [31,49] qK4 h1
  ·cases e2:b.shp<;>rw [e2] at h2
   ·cases k<;>exact f3 [31,49,49] qK4 h1 h2
   ·cases k<;>exact f3 [31,49,49] qK4 h1 h2
 | .n3 k s a b c,h=>by
  have h:max (max s.size a.tsz) (max b.tsz c.tsz)≤big:=h
  have h0:=a84 s (by omega)
  have h1:=a86 a (by omega)
  have h2:=a86 b (by omega)
  have h3:=a86 c (by omega)
  unfold Tm.shp
  rcases qZp s with e|e<;>rw [e] at h0 ⊢
  ·cases e1:a.shp<;>rw [e1] at h1
   ·cases k<;>exact f2 [39,49] h0 h1
   ·cases e2:b.shp<;>rw [e2] at h2
    ·cases k<;>exact f3 [39,49,49] h0 h1 h2
    ·cases e3:c.shp<;>rw [e3] at h3
     ·cases k<;>exact f4 [39,49,49,49] h0 h1 h2 h3
     ·cases k<;>exact f4 [39,49,49,49] h0 h1 h2 h3
  ·cases k<;>exact f1 [39] h0
def Tm.chk (t:Tm):Nat:=match t.shp with
 | false=>2
 | true=>match ltI (.ofNat 4096) (.ofNat t.cnt) with
  | true=>4
  | false=>0
theorem a31 (t:Tm) (h1:t.tsz≤big) (h2:t.cnt≤big):A 75 [t.p] (num t.chk):=by
 have h3:=a86 t h1
 unfold Tm.chk
 cases e:t.shp<;>rw [e] at h3
 ·exact f1 [4] h3
 ·cases e1:ltI (.ofNat 4096) (.ofNat t.cnt)
  ·exact f3 [4,7,8] h3 (a87 t h2) e1
  ·exact f3 [4,7,8] h3 (a87 t h2) e1
theorem qLg (n:Nat):eqI (.ofNat n) (.ofNat n)=true:=by rw [qJv];simp
theorem qGo {m n:Nat} (h:m≠n):eqI (.ofNat m) (.ofNat n)=false:=by rw [qJv];grind
theorem qFf (n:Nat):(!eqI (.ofNat n) (.ofNat n))=false:=by rw [qLg];rfl
theorem zW3 {m n:Nat} (h:m≠n):(!eqI (.ofNat m) (.ofNat n))=true:=by rw [qGo h];rfl
def Tm.cls:Tm→Nat
 | .v _=>0 | .lam _ _=>1 | .n0 _=>2 | .n1 _ _=>3 | .n2 _ _ _=>4 | .n3 _ _ _ _ _=>5
def zZ3:Nat→Nat
 | 1=>0|2=>1|4=>2|7=>2|13=>2|5=>3|11=>3|12=>3|3=>4|8=>4|10=>4|_=>5
theorem qZ5 (t:Tm):zZ3 t.kd=t.cls:=by
 cases t with
 | n0 k=>cases k<;>rfl
 | n1 k=>cases k<;>rfl
 | n2 k=>cases k<;>rfl
 | n3 k=>cases k<;>rfl
 | _=>rfl
theorem K0.inj {k l:K0} (h:k.n=l.n):k=l:=by cases k<;>cases l<;>first|rfl|cases h
theorem K1.inj {k l:K1} (h:k.n=l.n):k=l:=by cases k<;>cases l<;>first|rfl|cases h
theorem K2.inj {k l:K2} (h:k.n=l.n):k=l:=by cases k<;>cases l<;>first|rfl|cases h
theorem K3.inj {k l:K3} (h:k.n=l.n):k=l:=by cases k<;>cases l<;>first|rfl|cases h
theorem qZ6:∀ a b:Ty,a.same b=true↔a=b
 | .nat,b=>by cases b<;>simp [Ty.same]
 | .list,b=>by cases b<;>simp [Ty.same]
 | .unit,b=>by cases b<;>simp [Ty.same]
 | .two k a c,b=>by cases b<;>simp [Ty.same,qZ6 a,qZ6 c]
theorem ff {p:Prop} (h:¬p):false=true↔p:=⟨fun e=>(by cases e),fun e=>absurd e h⟩
open Go.Lg
set_option maxRecDepth 100000
abbrev mid:Nat:=33554432
theorem qQh:mid=33554432:=rfl
theorem qQk:big=1152921504606846976:=rfl
theorem chk0 {s:Ty} (h:s.chk=0):s.size≤64:=by
 grind [Ty.chk,qQn,of_decide_eq_false]
inductive TR where
 | er (n:Nat)
 | ok (s:Ty)
def TR.k:TR→Nat
 | .er _=>0
 | .ok s=>s.kd
def TR.l:TR→List (List PV)
 | .er _=>[]
 | .ok s=>s.es
def TR.n:TR→Nat
 | .er n=>n+1
 | .ok _=>0
def TR.p (r:TR):PV:=.tuple [.agg [num r.k,.slice r.l],num r.n]
def TR.sz:TR→Nat
 | .er _=>0
 | .ok s=>s.size
def TR.fit (t:Ty):TR:=if t.size≤64 then .ok t else .er 3
def tyL (s:Ty):TR→TR
 | .er n => .er n
 | .ok u => .fit (.two true s u)
def ty1 (k:K1):TR→TR
 | .er n => .er n
 | .ok s=>match k with
  | .succ=>bif s.same .nat then .ok .nat else .er 6
  | .fst=>match s with
   | .two k c _=>bif k then .er 6 else .ok c
   | _ => .er 6
  | .snd=>match s with
   | .two k _ d=>bif k then .er 6 else .ok d
   | _ => .er 6
def ty2 (k:K2):TR→TR→TR
 | .er n,_ => .er n
 | .ok _,.er n => .er n
 | .ok s,.ok u=>match k with
  | .app=>match s with
   | .two k c d=>bif k then (bif c.same u then .ok d else .er 6) else .er 6
   | _ => .er 6
  | .cons=>bif s.same .nat then (bif u.same .list then .ok .list else .er 6) else .er 6
  | .pair => .fit (.two false s u)
def ty3 (k:K3) (s:Ty):TR→TR→TR→TR
 | .er n,_,_ => .er n
 | .ok _,.er n,_ => .er n
 | .ok _,.ok _,.er n => .er n
 | .ok x,.ok y,.ok z=>match k with
  | .re=>bif x.same s then (bif y.same (.two true .nat (.two true s s)) then (bif z.same .nat then .ok s else .er 6) else .er 6) else .er 6
  | .fo=>bif x.same s then (bif y.same (.two true .nat (.two true .list (.two true s s))) then (bif z.same .list then .ok s else .er 6) else .er 6) else .er 6
def tyV (g:List Ty) (i:Nat):TR:=if i<g.length then (match g[g.length-1-i]? with
 | some s => .ok s
 | none => .er 5) else .er 5
def Tm.tyR:List Ty→Tm→TR
 | g,.v i=>tyV g i
 | g,.lam s b=>tyL s (b.tyR (g++[s]))
 | _,.n0 k=>match k with
  | .zero => .ok .nat
  | .nil => .ok .list
  | .unit => .ok .unit
 | g,.n1 k a=>ty1 k (a.tyR g)
 | g,.n2 k a b=>ty2 k (a.tyR g) (b.tyR g)
 | g,.n3 k s a b c=>ty3 k s (a.tyR g) (b.tyR g) (c.tyR g)
theorem zCu (s:Ty) (h:s.size≤big):∃ r:TR,A 312 [s.p] r.p∧r.sz≤64∧r = .fit s:=by
 have h1:=a84 s h
 rcases qZp s with e|e<;>rw [e] at h1
 ·exact⟨.ok s,f1 [5] h1,chk0 e,by unfold TR.fit;rw [if_pos (chk0 e)]⟩
 ·exact⟨.er 3,f1 [5] h1,Nat.zero_le _,by unfold TR.fit;rw [if_neg fun h=>by unfold Ty.chk at e;rw [qZ4 h] at e;cases e]⟩
theorem qN5 {α:Type} {c:α→List PV} (n m:Nat) (hn:∀ t,(c t).length=n) (h0:0<n) (g:List α) (s:α) (h:(g.length+1) * m≤140737488355328) (hg:g.length+1≤maxLen) :
  (qWd n (g.map c) && qWd n [c s] && Nat.blt 0 n && Nat.ble ((g.map c).length+[c s].length) maxLen && Nat.ble (((g.map c).length+[c s].length) * m) 140737488355328)=true:=by
 have h1:qWd n (g.map c)=true:=qW0 fun y hy=>by grind
 have h2:qWd n [c s]=true:=qW0 fun y hy=>by simp_all
 have h3:Nat.blt 0 n=true:=by simp_all
 simp_all
theorem qXh (n:Nat):(Nat.beq n n && Nat.beq n n)=true:=by simp
theorem qT5:∀ (t:Tm) (g:List Ty),(∀ s∈g,s.size≤mid)→t.tsz≤mid→g.length+t.cnt≤mid→∃ r:TR,A 239 [tys g,t.p] r.p∧r.sz≤mid∧r=t.tyR g
 | .v i,g,hg,_,hl=>by
  have hm:=qQh
  by_cases h:i<g.length
  ·obtain⟨s,hx⟩:∃ s,g[g.length-1-i]? = some s:=⟨_,List.getElem?_eq_getElem (by omega)⟩
   have h1:(!ltI (.ofNat i) (.ofNat (g.map Ty.c).length))=false:=by rw [qWz (by simp_all)];rfl
   have h2:inB (Int.ofNat (g.map Ty.c).length-1)=true∧Int.ofNat (g.map Ty.c).length-1 = .ofNat (g.length-1):=by
    have e:Int.ofNat (g.map Ty.c).length-1 = .ofNat (g.length-1):=by simp;omega
    grind [inN]
   have h3:inB (Int.ofNat (g.length-1) - .ofNat i)=true∧Int.ofNat (g.length-1) - .ofNat i = .ofNat (g.length-1-i):=by
    have e:Int.ofNat (g.length-1) - .ofNat i = .ofNat (g.length-1-i):=by simp;omega
    grind [inN]
   exact⟨.ok s,f5 [22,27,30,(31,.i s.c),33] h1 h2 h3 (qQ3 hx Ty.c_len) (qFe s),hg s (List.mem_of_getElem? hx),by show _=tyV g i;unfold tyV;rw [if_pos h,hx]⟩
  ·have h1:(!ltI (.ofNat i) (.ofNat (g.map Ty.c).length))=true:=by rw [qZ4 (by simp;omega)];rfl
   exact⟨.er 5,f1 [22] h1,Nat.zero_le _,by show _=tyV g i;unfold tyV;rw [if_neg h]⟩
 | .lam s b,g,hg,ht,hl=>by
  have hm:=qQh
  have hb:=qQk
  have ht:max s.size b.tsz≤mid:=ht
  have hl:g.length+(1+b.cnt)≤mid:=hl
  rw [show (Tm.lam s b).tyR g=tyL s (b.tyR (g++[s])) from rfl]
  obtain⟨r,h1,h2,q1⟩:=qT5 b (g++[s]) (by grind) (by omega) (by simp;omega)
  simp only [tys,List.map_append,List.map_cons,List.map_nil] at h1
  rw [← q1]
  have h3:=qN5 2 32 Ty.c_len (by decide) g s (by omega) (by simp only [maxLen];omega)
  cases r with
  | er n=>exact⟨.er n,f3 [(43,.ok),(47,.ok),52] (qXh (g.map Ty.c).length) h3 h1,Nat.zero_le _,rfl⟩
  | ok u =>
   have h2:u.size≤mid:=h2
   obtain⟨r,h4,h5,q2⟩:=zCu (.two true s u) (by show 1+s.size+u.size≤big;omega)
   exact⟨r,f5 [(43,.ok),(47,.ok),52,62,63] (qXh (g.map Ty.c).length) h3 h1 (a99 s u) h4,by omega,q2⟩
 | .n0 k,g,hg,ht,hl=>by
  cases k
  ·exact⟨.ok .nat,f0 [],by decide,rfl⟩
  ·exact⟨.ok .list,f0 [],by decide,rfl⟩
  ·exact⟨.ok .unit,f0 [],by decide,rfl⟩
 | .n1 k a,g,hg,ht,hl=>by
  rw [show (Tm.n1 k a).tyR g=ty1 k (a.tyR g) from rfl]
  have hm:=qQh
  have hl:g.length+(1+a.cnt)≤mid:=hl
  obtain⟨r,h1,h2,qa⟩:=qT5 a g hg ht (by omega)
  rw [← qa]
  cases r with
  | er n=>cases k<;>exact⟨.er n,f1 [76] h1,Nat.zero_le _,rfl⟩
  | ok s =>
   have h2:s.size≤mid:=h2
   cases k
   ·have h3:=a80 s .nat
    cases e1:s.same .nat<;>rw [e1] at h3
    ·exact⟨.er 6,f2 [76,128] h1 h3,Nat.zero_le _,by simp only [ty1,e1,cond_false]⟩
    ·exact⟨.ok .nat,f2 [76,128] h1 h3,by decide,by simp only [ty1,e1,cond_true]⟩
   ·cases s with
    | two q c d =>
     have h2:1+c.size+d.size≤mid:=h2
     cases q
     ·exact⟨.ok c,f1 [76] h1,(show c.size≤mid by omega),rfl⟩
     ·exact⟨.er 6,f1 [76] h1,Nat.zero_le _,rfl⟩
    | nat=>exact⟨.er 6,f1 [76] h1,Nat.zero_le _,rfl⟩
    | list=>exact⟨.er 6,f1 [76] h1,Nat.zero_le _,rfl⟩
    | unit=>exact⟨.er 6,f1 [76] h1,Nat.zero_le _,rfl⟩
   ·cases s with
    | two q c d =>
     have h2:1+c.size+d.size≤mid:=h2
     cases q
     ·exact⟨.ok d,f1 [76] h1,(show d.size≤mid by omega),rfl⟩
     ·exact⟨.er 6,f1 [76] h1,Nat.zero_le _,rfl⟩
    | nat=>exact⟨.er 6,f1 [76] h1,Nat.zero_le _,rfl⟩
    | list=>exact⟨.er 6,f1 [76] h1,Nat.zero_le _,rfl⟩
    | unit=>exact⟨.er 6,f1 [76] h1,Nat.zero_le _,rfl⟩
 | .n2 k a b,g,hg,ht,hl=>by
  rw [show (Tm.n2 k a b).tyR g=ty2 k (a.tyR g) (b.tyR g) from rfl]
  have hm:=qQh
  have hb:=qQk
  have ht:max a.tsz b.tsz≤mid:=ht
  have hl:g.length+(1+a.cnt+b.cnt)≤mid:=hl
  obtain⟨r,h1,h2,qa⟩:=qT5 a g hg (by omega) (by omega)
  rw [← qa]
  cases r with
  | er n=>cases k<;>exact⟨.er n,f1 [76] h1,Nat.zero_le _,rfl⟩
  | ok s =>
   have h2:s.size≤mid:=h2
   obtain⟨r,h3,h4,qb⟩:=qT5 b g hg (by omega) (by omega)
   rw [← qb]
   cases r with
   | er n=>cases k<;>exact⟨.er n,f2 [76,76] h1 h3,Nat.zero_le _,rfl⟩
   | ok u =>
    have h4:u.size≤mid:=h4
    cases k
    ·cases s with
     | two q c d =>
      have h2:1+c.size+d.size≤mid:=h2
      cases q
      ·exact⟨.er 6,f2 [76,76] h1 h3,Nat.zero_le _,rfl⟩
      ·have h5:=a80 c u
       cases e2:c.same u<;>rw [e2] at h5
       ·exact⟨.er 6,f3 [76,76,109] h1 h3 h5,Nat.zero_le _,by simp only [ty2,e2,cond_true,cond_false]⟩
       ·exact⟨.ok d,f3 [76,76,109] h1 h3 h5,(show d.size≤mid by omega),by simp only [ty2,e2,cond_true]⟩
     | nat=>exact⟨.er 6,f2 [76,76] h1 h3,Nat.zero_le _,rfl⟩
     | list=>exact⟨.er 6,f2 [76,76] h1 h3,Nat.zero_le _,rfl⟩
     | unit=>exact⟨.er 6,f2 [76,76] h1 h3,Nat.zero_le _,rfl⟩
    ·have h5:=a80 s .nat
     have h6:=a80 u .list
     cases e3:s.same .nat<;>rw [e3] at h5
     ·exact⟨.er 6,f3 [76,76,176] h1 h3 h5,Nat.zero_le _,by simp only [ty2,e3,cond_false]⟩
     ·cases e4:u.same .list<;>rw [e4] at h6
      ·exact⟨.er 6,f4 [76,76,176,183] h1 h3 h5 h6,Nat.zero_le _,by simp only [ty2,e3,e4,cond_true,cond_false]⟩
      ·exact⟨.ok .list,f4 [76,76,176,183] h1 h3 h5 h6,by decide,by simp only [ty2,e3,e4,cond_true]⟩
    ·obtain⟨r,h5,h6,q2⟩:=zCu (.two false s u) (by show 1+s.size+u.size≤big;omega)
     exact⟨r,f4 [76,76,233,234] h1 h3 (a98 s u) h5,by omega,q2⟩
 | .n3 k s a b c,g,hg,ht,hl=>by
  rw [show (Tm.n3 k s a b c).tyR g=ty3 k s (a.tyR g) (b.tyR g) (c.tyR g) from rfl]
  have hm:=qQh
  have ht:max (max s.size a.tsz) (max b.tsz c.tsz)≤mid:=ht
  have hl:g.length+(1+a.cnt+b.cnt+c.cnt)≤mid:=hl
  obtain⟨r,h1,h2,qa⟩:=qT5 a g hg (by omega) (by omega)
  rw [← qa]
  cases r with
  | er n=>cases k<;>exact⟨.er n,f1 [76] h1,Nat.zero_le _,rfl⟩
  | ok x =>
   obtain⟨r,h3,h4,qb⟩:=qT5 b g hg (by omega) (by omega)
   rw [← qb]
   cases r with
   | er n=>cases k<;>exact⟨.er n,f2 [76,76] h1 h3,Nat.zero_le _,rfl⟩
   | ok y =>
    obtain⟨r,h5,h6,qc⟩:=qT5 c g hg (by omega) (by omega)
    rw [← qc]
    cases r with
    | er n=>cases k<;>exact⟨.er n,f3 [76,76,76] h1 h3 h5,Nat.zero_le _,rfl⟩
    | ok z =>
     have h7:=a80 x s
     have h8:=a99 s s
     cases k
     ·have h9:=a99 .nat (.two true s s)
      have h10:=a80 y (.two true .nat (.two true s s))
      have h11:=a80 z .nat
      cases e5:x.same s<;>rw [e5] at h7
      ·exact⟨.er 6,f4 [76,76,76,139] h1 h3 h5 h7,Nat.zero_le _,by simp only [ty3,e5,cond_false]⟩
      cases e6:y.same (.two true .nat (.two true s s))<;>rw [e6] at h10
      ·exact⟨.er 6,f7 [76,76,76,139,150,151,152] h1 h3 h5 h7 h8 h9 h10,Nat.zero_le _,by simp only [ty3,e5,e6,cond_true,cond_false]⟩
      cases e7:z.same .nat<;>rw [e7] at h11
      ·exact⟨.er 6,f8 [76,76,76,139,150,151,152,160] h1 h3 h5 h7 h8 h9 h10 h11,Nat.zero_le _,by simp only [ty3,e5,e6,e7,cond_true,cond_false]⟩
      ·exact⟨.ok s,f9 [76,76,76,139,150,151,152,160,166] h1 h3 h5 h7 h8 h9 h10 h11 (qFe s),(show s.size≤mid by omega),by simp only [ty3,e5,e6,e7,cond_true]⟩
     ·have h9:=a99 .list (.two true s s)
      have h9':=a99 .nat (.two true .list (.two true s s))
      have h10:=a80 y (.two true .nat (.two true .list (.two true s s)))
      have h11:=a80 z .list
      cases e8:x.same s<;>rw [e8] at h7
      ·exact⟨.er 6,f4 [76,76,76,195] h1 h3 h5 h7,Nat.zero_le _,by simp only [ty3,e8,cond_false]⟩
      cases e9:y.same (.two true .nat (.two true .list (.two true s s)))<;>rw [e9] at h10
      ·exact⟨.er 6,f8 [76,76,76,195,207,208,209,210] h1 h3 h5 h7 h8 h9 h9' h10,Nat.zero_le _,by simp only [ty3,e8,e9,cond_true,cond_false]⟩
      cases e10:z.same .list<;>rw [e10] at h11
      ·exact⟨.er 6,f9 [76,76,76,195,207,208,209,210,218] h1 h3 h5 h7 h8 h9 h9' h10 h11,Nat.zero_le _,by simp only [ty3,e8,e9,e10,cond_true,cond_false]⟩
      ·exact⟨.ok s,f10 [76,76,76,195,207,208,209,210,218,224] h1 h3 h5 h7 h8 h9 h9' h10 h11 (qFe s),(show s.size≤mid by omega),by simp only [ty3,e8,e9,e10,cond_true]⟩
def Tm.sh:Nat→Int→Tm→Tm
 | c,z,.v i=>if c≤i then .v (Int.ofNat i+z).toNat else .v i
 | c,z,.lam s b => .lam s (b.sh (c+1) z)
 | _,_,.n0 k => .n0 k
 | c,z,.n1 k a => .n1 k (a.sh c z)
 | c,z,.n2 k a b => .n2 k (a.sh c z) (b.sh c z)
 | c,z,.n3 k s a b d => .n3 k s (a.sh c z) (b.sh c z) (d.sh c z)
theorem qJt (z:Int):∀ (t:Tm) (c:Nat),(t.sh c z).cnt=t.cnt
 | .v i,c=>by simp only [Tm.sh];split<;>rfl
 | .lam s b,c=>by simp [Tm.sh,Tm.cnt,qJt]
 | .n0 k,c=>rfl
 | .n1 k a,c=>by simp [Tm.sh,Tm.cnt,qJt]
 | .n2 k a b,c=>by simp [Tm.sh,Tm.cnt,qJt]
 | .n3 k s a b d,c=>by simp [Tm.sh,Tm.cnt,qJt]
theorem qEq (z:Int):∀ (t:Tm) (c:Nat),(t.sh c z).tsz=t.tsz
 | .v i,c=>by simp only [Tm.sh];split<;>rfl
 | .lam s b,c=>by simp [Tm.sh,Tm.tsz,qEq]
 | .n0 k,c=>rfl
 | .n1 k a,c=>by simp [Tm.sh,Tm.tsz,qEq]
 | .n2 k a b,c=>by simp [Tm.sh,Tm.tsz,qEq]
 | .n3 k s a b d,c=>by simp [Tm.sh,Tm.tsz,qEq]
theorem qCw (z:Int):∀ (t:Tm) (c:Nat),(t.sh c z).mx≤t.mx+z.toNat
 | .v i,c=>by grind [Tm.sh,Tm.mx]
 | .lam s b,c=>qCw z b (c+1)
 | .n0 k,c=>Nat.zero_le _
 | .n1 k a,c=>qCw z a c
 | .n2 k a b,c=>by have:=qCw z a c;have:=qCw z b c;grind [Tm.sh,Tm.mx]
 | .n3 k s a b d,c=>by have:=qCw z a c;have:=qCw z b c;have:=qCw z d c;grind [Tm.sh,Tm.mx]
theorem inZ {z:Int} (h:0≤z) (h':z≤1152921504606846976):inB z=true∧z = .ofNat z.toNat:=by
 grind [inN]
theorem qT6 {a b:Nat} (h:b≤a):(!ltI (.ofNat a) (.ofNat b))=true:=by rw [qZ4 h];rfl
theorem qN6 {a b:Nat} (h:a<b):(!ltI (.ofNat a) (.ofNat b))=false:=by rw [qWz h];rfl
theorem qT7:∀ (t:Tm) (c:Nat) (z:Int),0≤c+z→z≤mid→t.mx≤mid * mid→c+t.cnt≤mid→A 105 [t.p,num c,.int z] (t.sh c z).p
 | .v i,c,z,h1,h2,h3,h4=>by
  have hm:=qQh
  have h3:i≤mid * mid:=h3
  rw [hm] at h3
  by_cases h:c≤i
  ·have e:(Tm.v i).sh c z = .v (Int.ofNat i+z).toNat:=by simp only [Tm.sh,if_pos h]
   rw [e]
   exact f2 [24,29] (qT6 h) (inZ (z:=Int.ofNat i+z) (by simp;omega) (by simp;omega))
  ·have e:(Tm.v i).sh c z = .v i:=by simp only [Tm.sh,if_neg h]
   rw [e]
   exact f1 [24] (qN6 (show i<c by omega))
 | .lam s b,c,z,h1,h2,h3,h4=>by
  have h4:c+(1+b.cnt)≤mid:=h4
  have hm:=qQh
  exact f2 [(44,.ok),46] (inN (show c+1≤_ by omega)) (qT7 b (c+1) z (by omega) h2 h3 (by omega))
 | .n0 k,c,z,_,_,_,_=>by cases k<;>exact f0 []
 | .n1 k a,c,z,h1,h2,h3,h4=>by
  have h4:c+(1+a.cnt)≤mid:=h4
  have hm:=qQh
  have h5:=inN (show c≤_ by omega)
  cases k<;>exact f2 [(44,.ok),46] h5 (qT7 a c z h1 h2 h3 (by omega))
 | .n2 k a b,c,z,h1,h2,h3,h4=>by
  have h3:max a.mx b.mx≤mid * mid:=h3
  have h4:c+(1+a.cnt+b.cnt)≤mid:=h4
  have hm:=qQh
  have h5:=inN (show c≤_ by omega)
  have h6:=qT7 a c z h1 h2 (by omega) (by omega)
  have h7:=qT7 b c z h1 h2 (by omega) (by omega)
  cases k<;>exact f4 [(44,.ok),46,(44,.ok),46] h5 h6 h5 h7
 | .n3 k s a b d,c,z,h1,h2,h3,h4=>by
  have h3:max a.mx (max b.mx d.mx)≤mid * mid:=h3
  have h4:c+(1+a.cnt+b.cnt+d.cnt)≤mid:=h4
  have hm:=qQh
  have h5:=inN (show c≤_ by omega)
  have h6:=qT7 a c z h1 h2 (by omega) (by omega)
  have h7:=qT7 b c z h1 h2 (by omega) (by omega)
  have h8:=qT7 d c z h1 h2 (by omega) (by omega)
  cases k<;>exact f6 [(44,.ok),46,(44,.ok),46,(44,.ok),46] h5 h6 h5 h7 h5 h8
def Tm.occ:Nat→Tm→Nat
 | c,.v i=>if i=c then 1 else 0
 | c,.lam _ b=>b.occ (c+1)
 | _,.n0 _=>0
 | c,.n1 _ a=>a.occ c
 | c,.n2 _ a b=>a.occ c+b.occ c
 | c,.n3 _ _ a b d=>a.occ c+b.occ c+d.occ c
theorem qQp:∀ (t:Tm) (c:Nat),t.occ c≤t.cnt
 := by intro x;induction x<;>simp_all [Tm.occ,Tm.cnt,Nat.zero_le]<;>grind
theorem qPp:∀ (t:Tm) (c:Nat),c+t.cnt≤mid→A 78 [t.p,num c] (num (t.occ c))
 | .v i,c,h4=>by
  by_cases h:i=c
  ·have e:(Tm.v i).occ c=1:=by simp only [Tm.occ,if_pos h]
   rw [e]
   subst h
   exact f1 [15] (qLg i)
  ·have e:(Tm.v i).occ c=0:=by simp only [Tm.occ,if_neg h]
   rw [e]
   exact f1 [15] (qGo h)
 | .lam s b,c,h4=>by
  have h4:c+(1+b.cnt)≤mid:=h4
  have hm:=qQh
  have u0:=qQp b (c+1)
  have p0:=inN (show (c+1)≤_ by omega)
  have q0:=qPp b (c+1) (by omega)
  have r0:inB (.ofNat (0) + .ofNat (b.occ (c+1)))=true∧Int.ofNat (0) + .ofNat (b.occ (c+1)) = .ofNat (b.occ (c+1)):=⟨inN (show 0+b.occ (c+1)≤_ by omega),by simp⟩
  exact f3 [(31,.ok),32,33] p0 q0 r0
 | .n0 k,c,h4=>by
  cases k<;>exact f0 []
 | .n1 k a,c,h4=>by
  have h4:c+(1+a.cnt)≤mid:=h4
  have hm:=qQh
  have u0:=qQp a c
  have p0:=inN (show c≤_ by omega)
  have q0:=qPp a c (by omega)
  have r0:inB (.ofNat (0) + .ofNat (a.occ c))=true∧Int.ofNat (0) + .ofNat (a.occ c) = .ofNat (a.occ c):=⟨inN (show 0+a.occ c≤_ by omega),by simp⟩
  cases k<;>exact f3 [(31,.ok),32,33] p0 q0 r0
 | .n2 k a b,c,h4=>by
  have h4:c+(1+a.cnt+b.cnt)≤mid:=h4
  have hm:=qQh
  have u0:=qQp a c
  have p0:=inN (show c≤_ by omega)
  have q0:=qPp a c (by omega)
  have r0:inB (.ofNat (0) + .ofNat (a.occ c))=true∧Int.ofNat (0) + .ofNat (a.occ c) = .ofNat (a.occ c):=⟨inN (show 0+a.occ c≤_ by omega),by simp⟩
  have u1:=qQp b c
  have p1:=inN (show c≤_ by omega)
  have q1:=qPp b c (by omega)
  have r1:inB (.ofNat (a.occ c) + .ofNat (b.occ c))=true∧Int.ofNat (a.occ c) + .ofNat (b.occ c) = .ofNat (a.occ c+b.occ c):=⟨inN (show a.occ c+b.occ c≤_ by omega),by simp⟩
  cases k<;>exact f6 [(31,.ok),32,33,(31,.ok),32,33] p0 q0 r0 p1 q1 r1
 | .n3 k s a b d,c,h4=>by
  have h4:c+(1+a.cnt+b.cnt+d.cnt)≤mid:=h4
  have hm:=qQh
  have u0:=qQp a c
  have p0:=inN (show c≤_ by omega)
  have q0:=qPp a c (by omega)
  have r0:inB (.ofNat (0) + .ofNat (a.occ c))=true∧Int.ofNat (0) + .ofNat (a.occ c) = .ofNat (a.occ c):=⟨inN (show 0+a.occ c≤_ by omega),by simp⟩
  have u1:=qQp b c
  have p1:=inN (show c≤_ by omega)
  have q1:=qPp b c (by omega)
  have r1:inB (.ofNat (a.occ c) + .ofNat (b.occ c))=true∧Int.ofNat (a.occ c) + .ofNat (b.occ c) = .ofNat (a.occ c+b.occ c):=⟨inN (show a.occ c+b.occ c≤_ by omega),by simp⟩
  have u2:=qQp d c
  have p2:=inN (show c≤_ by omega)
  have q2:=qPp d c (by omega)
  have r2:inB (.ofNat (a.occ c+b.occ c) + .ofNat (d.occ c))=true∧Int.ofNat (a.occ c+b.occ c) + .ofNat (d.occ c) = .ofNat (a.occ c+b.occ c+d.occ c):=⟨inN (show a.occ c+b.occ c+d.occ c≤_ by omega),by simp⟩
  cases k<;>exact f9 [(31,.ok),32,33,(31,.ok),32,33,(31,.ok),32,33] p0 q0 r0 p1 q1 r1 p2 q2 r2
def Tm.put:Tm→Nat→Tm→Nat→Tm
 | .v i,c,s,d=>if i=c+d then s.sh 0 (.ofNat (c+d)) else if c+d<i then .v (i-1) else .v i
 | .lam u b,c,s,d => .lam u (b.put c s (d+1))
 | .n0 k,_,_,_ => .n0 k
 | .n1 k a,c,s,d => .n1 k (a.put c s d)
 | .n2 k a b,c,s,d => .n2 k (a.put c s d) (b.put c s d)
 | .n3 k u a b e,c,s,d => .n3 k u (a.put c s d) (b.put c s d) (e.put c s d)
theorem z0 (n:Nat):ltI (.ofNat n) (.ofNat 0)=false:=qZ4 (Nat.zero_le n)
theorem qLt:∀ (t:Tm) (n:Nat),∃ r,A 76 [t.p,num n] (.bool r)∧(r=true↔t.mx≤n)
 | .v i,n=>by
  by_cases h:n<i
  ·exact⟨false,f1 [10] (qWz h),by grind [Tm.mx]⟩
  ·exact⟨true,f1 [10] (qZ4 (Nat.le_of_not_lt h)),by grind [Tm.mx]⟩
 | .lam s b,n=>by
  obtain⟨r0,q0,i0⟩:=qLt b n
  cases r0
  ·exact⟨false,f2 [10,20] (z0 n) q0,by grind [Tm.mx]⟩
  ·exact⟨true,f2 [10,20] (z0 n) q0,by grind [Tm.mx]⟩
 | .n0 k,n=>by
  exact⟨true,f1 [10] (z0 n),by simp [Tm.mx]⟩
 | .n1 k a,n=>by
  obtain⟨r0,q0,i0⟩:=qLt a n
  cases r0
  ·exact⟨false,f2 [10,20] (z0 n) q0,by grind [Tm.mx]⟩
  ·exact⟨true,f2 [10,20] (z0 n) q0,by grind [Tm.mx]⟩
 | .n2 k a b,n=>by
  obtain⟨r0,q0,i0⟩:=qLt a n
  obtain⟨r1,q1,i1⟩:=qLt b n
  cases r0
  ·exact⟨false,f2 [10,20] (z0 n) q0,by simp_all [Tm.mx]<;>omega⟩
  cases r1
  ·exact⟨false,f3 [10,20,20] (z0 n) q0 q1,by simp_all [Tm.mx]<;>omega⟩
  ·exact⟨true,f3 [10,20,20] (z0 n) q0 q1,by simp_all [Tm.mx]<;>omega⟩
 | .n3 k s a b d,n=>by
  obtain⟨r0,q0,i0⟩:=qLt a n
  obtain⟨r1,q1,i1⟩:=qLt b n
  obtain⟨r2,q2,i2⟩:=qLt d n
  cases r0
  ·exact⟨false,f2 [10,20] (z0 n) q0,by simp_all [Tm.mx]<;>omega⟩
  cases r1
  ·exact⟨false,f3 [10,20,20] (z0 n) q0 q1,by simp_all [Tm.mx]<;>omega⟩
  cases r2
  ·exact⟨false,f4 [10,20,20,20] (z0 n) q0 q1 q2,by simp_all [Tm.mx]<;>omega⟩
  ·exact⟨true,f4 [10,20,20,20] (z0 n) q0 q1 q2,by simp_all [Tm.mx]<;>omega⟩
theorem qPq:∀ (t:Tm) (c d:Nat) (s:Tm),s.mx≤mid * mid→s.cnt≤mid→t.mx≤mid * mid→c+d+t.cnt≤mid→A 79 [t.p,num c,num d,s.p] (t.put c s d).p
 | .v i,c,d,s,h1,h2,h3,h4=>by
  have hm:=qQh
  have h3:i≤mid * mid:=h3
  have h4:c+d+1≤mid:=h4
  have p:=inN (show c+d≤_ by omega)
  by_cases h:i=c+d
  ·have e:(Tm.v i).put c s d=s.sh 0 (.ofNat (c+d)):=by simp only [Tm.put,if_pos h]
   rw [e]
   exact f4 [(19,.ok),20,(24,.ok),25] p (show eqI (.ofNat i) (.ofNat (c+d))=true by rw [h];exact qLg _) p (qT7 s 0 (.ofNat (c+d)) (by simp;omega) (by simp;omega) h1 (by omega))
  ·by_cases h':c+d<i
   ·have e:(Tm.v i).put c s d = .v (i-1):=by simp only [Tm.put,if_neg h,if_pos h']
    rw [e]
    have z:inB (Int.ofNat i-1)=true∧Int.ofNat i-1 = .ofNat (i-1):=by
     have e:Int.ofNat i-1 = .ofNat (i-1):=by simp;omega
     grind [inN]
    exact f5 [(19,.ok),20,(30,.ok),31,34] p (qGo h) p (qWz h') z
   ·have e:(Tm.v i).put c s d = .v i:=by simp only [Tm.put,if_neg h,if_neg h']
    rw [e]
    exact f4 [(19,.ok),20,(30,.ok),31] p (qGo h) p (qZ4 (Nat.le_of_not_lt h'))
 | .lam u b,c,d,s,h1,h2,h3,h4=>by
  have h3:b.mx≤mid * mid:=h3
  have h4:c+d+(1+b.cnt)≤mid:=h4
  have hm:=qQh
  have p0:=inN (show (d+1)≤_ by omega)
  have q0:=qPq b c (d+1) s h1 h2 (by omega) (by omega)
  exact f2 [(58,.ok),60] p0 q0
 | .n0 k,c,d,s,h1,h2,h3,h4=>by
  cases k<;>exact f0 []
 | .n1 k a,c,d,s,h1,h2,h3,h4=>by
  have h3:a.mx≤mid * mid:=h3
  have h4:c+d+(1+a.cnt)≤mid:=h4
  have hm:=qQh
  have p0:=inN (show d≤_ by omega)
  have q0:=qPq a c d s h1 h2 (by omega) (by omega)
  cases k<;>exact f2 [(58,.ok),60] p0 q0
 | .n2 k a b,c,d,s,h1,h2,h3,h4=>by
  have h3:max a.mx b.mx≤mid * mid:=h3
  have h4:c+d+(1+a.cnt+b.cnt)≤mid:=h4
  have hm:=qQh
  have p0:=inN (show d≤_ by omega)
  have q0:=qPq a c d s h1 h2 (by omega) (by omega)
  have p1:=inN (show d≤_ by omega)
  have q1:=qPq b c d s h1 h2 (by omega) (by omega)
  cases k<;>exact f4 [(58,.ok),60,(58,.ok),60] p0 q0 p1 q1
 | .n3 k u a b e,c,d,s,h1,h2,h3,h4=>by
  have h3:max a.mx (max b.mx e.mx)≤mid * mid:=h3
  have h4:c+d+(1+a.cnt+b.cnt+e.cnt)≤mid:=h4
  have hm:=qQh
  have p0:=inN (show d≤_ by omega)
  have q0:=qPq a c d s h1 h2 (by omega) (by omega)
  have p1:=inN (show d≤_ by omega)
  have q1:=qPq b c d s h1 h2 (by omega) (by omega)
  have p2:=inN (show d≤_ by omega)
  have q2:=qPq e c d s h1 h2 (by omega) (by omega)
  cases k<;>exact f6 [(58,.ok),60,(58,.ok),60,(58,.ok),60] p0 q0 p1 q1 p2 q2
open Go.Lg
set_option maxRecDepth 100000
def Tm.isLam:Tm→Option Tm
 | .lam _ b=>some b
 | _=>none
def Tm.isPair:Tm→Option (Tm × Tm)
 | .n2 .pair a b=>some (a,b)
 | _=>none
def Tm.red:Tm→Option Tm
 | .n1 .fst a=>a.isPair.map (·.1)
 | .n1 .snd a=>a.isPair.map (·.2)
 | .n2 .app f a=>f.isLam.map fun b=>b.put 0 a 0
 | .n3 .re s b f d=>match d with
  | .n0 .zero=>some b
  | .n1 .succ n=>some (.n2 .app (.n2 .app f n) (.n3 .re s b f n))
  | _=>none
 | .n3 .fo s b f d=>match d with
  | .n0 .nil=>some b
  | .n2 .cons h l=>some (.n2 .app (.n2 .app (.n2 .app f h) l) (.n3 .fo s b f l))
  | _=>none
 | _=>none
theorem qVw {P:Tm→Tm→Prop} (h1:∀ a b,P (.n1 .fst (.n2 .pair a b)) a) (h2:∀ a b,P (.n1 .snd (.n2 .pair a b)) b) (h3:∀ s b a,P (.n2 .app (.lam s b) a) (b.put 0 a 0))
  (h4:∀ s b f,P (.n3 .re s b f (.n0 .zero)) b) (h5:∀ s b f n,P (.n3 .re s b f (.n1 .succ n)) (.n2 .app (.n2 .app f n) (.n3 .re s b f n)))
  (h6:∀ s b f,P (.n3 .fo s b f (.n0 .nil)) b) (h7:∀ s b f h l,P (.n3 .fo s b f (.n2 .cons h l)) (.n2 .app (.n2 .app (.n2 .app f h) l) (.n3 .fo s b f l))):∀ {t r:Tm},t.red=some r→P t r:=by
 intro t r h
 cases t with
 | v i=>cases h
 | lam s b=>cases h
 | n0 k=>cases h
 | n1 k a=>cases k with
  | succ=>cases h
  | fst=>cases a with
   | n2 l a b=>cases l<;>cases h;simp_all
   | _=>cases h
  | snd=>cases a with
   | n2 l a b=>cases l<;>cases h;simp_all
   | _=>cases h
 | n2 k f b=>cases k with
  | app=>cases f with
   | lam s b=>cases h;simp_all
   | _=>cases h
  | _=>cases h
 | n3 k s a b d=>cases k with
  | re=>cases d with
   | n0 l=>cases l<;>cases h;simp_all
   | n1 l n=>cases l<;>cases h;simp_all
   | _=>cases h
  | fo=>cases d with
   | n0 l=>cases l<;>cases h;simp_all
   | n2 l h' t=>cases l<;>cases h;simp_all
   | _=>cases h
theorem qK5 (c:Nat) (s:Tm):∀ (t:Tm) (d:Nat),(t.put c s d).cnt+t.occ (c+d)=t.cnt+t.occ (c+d) * s.cnt
 := by intro x;induction x<;>grind [Tm.put,Tm.occ,qJt,Tm.cnt,Nat.add_assoc,Nat.add_mul]
theorem qVi (c:Nat) (s:Tm):∀ (t:Tm) (d:Nat),(t.put c s d).tsz≤max t.tsz s.tsz
 | .v i,d=>by
  grind [Tm.put,qEq,Tm.tsz]
 | .lam u b,d=>by have:=qVi c s b (d+1);grind [Tm.put,Tm.tsz]
 | .n0 k,d=>Nat.zero_le _
 | .n1 k a,d=>qVi c s a d
 | .n2 k a b,d=>by have:=qVi c s a d;have:=qVi c s b d;grind [Tm.put,Tm.tsz]
 | .n3 k u a b e,d=>by have:=qVi c s a d;have:=qVi c s b d;have:=qVi c s e d;grind [Tm.put,Tm.tsz]
theorem qT8 (c:Nat) (s:Tm):∀ (t:Tm) (d:Nat),(t.put c s d).mx≤max t.mx (s.mx+(c+d+t.cnt))
 := by intro x;induction x<;>grind [Tm.put,qCw,Tm.mx,Tm.cnt]
theorem zW4:∀ {t r:Tm},t.red=some r→r.mx≤t.mx+t.cnt∧r.tsz≤t.tsz:=by
 refine qVw (P:=fun t r=>r.mx≤t.mx+t.cnt∧r.tsz≤t.tsz) ?_ ?_ ?_ ?_ ?_ ?_ ?_
 ·grind [Tm.mx,Tm.cnt,Tm.tsz]
 ·grind [Tm.mx,Tm.cnt,Tm.tsz]
 ·grind [qT8,qVi,Tm.mx,Tm.cnt,Tm.tsz]
 all_goals (simp only [Tm.mx,Tm.cnt,Tm.tsz];omega)
theorem zW5 {z:Int} (h : -1152921504606846976≤z) (h':z≤1152921504606846976):inB z=true:=by
 cases z with
 | ofNat n=>grind [inN]
 | negSucc n=>exact Nat.ble_eq_true_of_le (by omega)
theorem qCx {a b:Nat} {z:Int} (h:a≤big) (h':b≤big) (e:(a:Int)-b=z):inB (Int.ofNat a-Int.ofNat b)=true∧Int.ofNat a-Int.ofNat b=z:=by
 have hb:=qQk
 refine⟨zW5 ?_ ?_,e⟩<;>simp<;>omega
theorem qCy {a b:Nat} (h:a+b≤big):inB (Int.ofNat a+Int.ofNat b)=true:=inb (n:=a+b) h
theorem qFg {a:Nat} (h:1≤a) (h':a≤big):inB (Int.ofNat a-1)=true∧Int.ofNat a-1 = .ofNat (a-1):=by
 grind [inb]
theorem zW6 {a b:Nat} (h:a * b≤big):inB (Int.ofNat a * Int.ofNat b)=true:=inb (n:=a * b) h
theorem qR3 (a:Tm):1≤a.cnt:=by cases a<;>simp [Tm.cnt]<;>omega
open Go.Lg
set_option maxRecDepth 100000
def Stp (t:Tm) (z:Int) (x:Tm):Prop:=(x.cnt:Int)≤t.cnt+z∧x.mx≤t.mx+t.cnt∧x.tsz≤t.tsz
inductive SR where
 | er|no|ok (x:Tm)
def SR.or (f:Tm→Tm) (r:SR):SR→SR
 | .no=>r
 | .er => .er
 | .ok x => .ok (f x)
def rt (z:Int) (t r:Tm):SR:=bif ltI z ((r.cnt:Int)-t.cnt) then .er else .ok r
def Tm.st (z:Int):Tm→SR
 | .v _ => .no
 | .n0 _ => .no
 | .lam s b => .or (.lam s) .no (b.st z)
 | .n1 k a=>match (Tm.n1 k a).red with
  | some r=>rt z (.n1 k a) r
  | none => .or (.n1 k) .no (a.st z)
 | .n2 k a b=>match (Tm.n2 k a b).red with
  | some r=>rt z (.n2 k a b) r
  | none => .or (fun x => .n2 k x b) (.or (.n2 k a) .no (b.st z)) (a.st z)
 | .n3 k s a b c=>match (Tm.n3 k s a b c).red with
  | some r=>rt z (.n3 k s a b c) r
  | none => .or (fun x => .n3 k s x b c) (.or (fun x => .n3 k s a x c) (.or (.n3 k s a b) .no (c.st z)) (b.st z)) (a.st z)
theorem qVx {t r:Tm} (h:t.red=some r) (z:Int):t.st z=rt z t r:=by
 cases t with
 | v i=>cases h
 | n0 k=>cases h
 | lam s b=>cases h
 | _=>simp only [Tm.st,h]
theorem qKl {f:Tm→Tm} {r q:SR} {x:Tm} (h:SR.or f r q = .ok x):(∃ y,q = .ok y∧x=f y)∨q = .no∧r = .ok x:=by
 cases q with
 | no=>exact .inr ⟨rfl,h⟩
 | er=>cases h
 | ok y=>cases h;simp
theorem qEr (z:Int):∀ (t:Tm) {x:Tm},t.st z = .ok x→Stp t z x:=by
 have root:∀ {t r x:Tm},t.red=some r→rt z t r = .ok x→Stp t z x:=by
  intro t r x h e
  unfold rt at e
  cases e1:ltI z ((r.cnt:Int)-t.cnt)<;>rw [e1] at e<;>cases e
  rw [qQn] at e1
  have:=of_decide_eq_false e1
  exact⟨by omega,zW4 h⟩
 intro t
 induction t with
 | v i=>intro x h;cases h
 | n0 k=>intro x h;cases h
 | lam s b ih =>
  intro x h
  rcases qKl h with ⟨y,e,rfl⟩|⟨_,h⟩
  ·grind [Stp,Tm.cnt,Tm.mx,Tm.tsz]
  ·cases h
 | n1 k a ih =>
  intro x h
  cases hr:(Tm.n1 k a).red with
  | some r=>rw [qVx hr] at h;simp_all
  | none =>
   simp only [Tm.st,hr] at h
   rcases qKl h with ⟨y,e,rfl⟩|⟨_,h⟩
   ·grind [Stp,Tm.cnt,Tm.mx,Tm.tsz]
   ·cases h
 | n2 k a b ih1 ih2 =>
  intro x h
  cases hr:(Tm.n2 k a b).red with
  | some r=>rw [qVx hr] at h;simp_all
  | none =>
   simp only [Tm.st,hr] at h
   rcases qKl h with ⟨y,e,rfl⟩|⟨_,h⟩
   ·obtain⟨e1,e2,e3⟩:=ih1 e
    simp only [Stp,Tm.cnt,Tm.mx,Tm.tsz];omega
   rcases qKl h with ⟨y,e,rfl⟩|⟨_,h⟩
   ·obtain⟨e1,e2,e3⟩:=ih2 e
    simp only [Stp,Tm.cnt,Tm.mx,Tm.tsz];omega
   ·cases h
 | n3 k s a b c ih1 ih2 ih3 =>
  intro x h
  cases hr:(Tm.n3 k s a b c).red with
  | some r=>rw [qVx hr] at h;simp_all
  | none =>
   simp only [Tm.st,hr] at h
   rcases qKl h with ⟨y,e,rfl⟩|⟨_,h⟩
   ·obtain⟨e1,e2,e3⟩:=ih1 e
    simp only [Stp,Tm.cnt,Tm.mx,Tm.tsz];omega
   rcases qKl h with ⟨y,e,rfl⟩|⟨_,h⟩
   ·obtain⟨e1,e2,e3⟩:=ih2 e
    simp only [Stp,Tm.cnt,Tm.mx,Tm.tsz];omega
   rcases qKl h with ⟨y,e,rfl⟩|⟨_,h⟩
   ·obtain⟨e1,e2,e3⟩:=ih3 e
    simp only [Stp,Tm.cnt,Tm.mx,Tm.tsz];omega
   ·cases h
inductive NF where
 | ok (x:Tm) (n:Nat)
 | er (e:Nat)
def NF.k:NF→Nat
 | .ok x _=>x.kd
 | .er _=>0
def NF.i:NF→Nat
 | .ok x _=>x.ix
 | .er _=>0
def NF.tk:NF→Nat
 | .ok x _=>x.tk
 | .er _=>0
def NF.te:NF→List (List PV)
 | .ok x _=>x.te
 | .er _=>[]
def NF.es:NF→List (List PV)
 | .ok x _=>x.es
 | .er _=>[]
def NF.n:NF→Nat
 | .ok _ n=>n
 | .er _=>0
def NF.e:NF→Nat
 | .ok _ _=>0
 | .er e=>e+1
def NF.p (r:NF):PV:=.tuple [.agg [num r.k,num r.i,num r.tk,.slice r.te,.slice r.es],num r.n,num r.e]
def nfl:Nat→Nat→Tm→NF
 | 0,n,t=>match t.st (4096-t.cnt) with
  | .no => .ok t n
  | _ => .er 4
 | r+1,n,t=>match t.st (4096-t.cnt) with
  | .no => .ok t n
  | .er => .er 3
  | .ok x=>nfl r (n+1) x
def nrm (t:Tm):NF:=nfl 1000 0 t
def Tm.mt (a b:Tm):Prop:=a=b ∨ ∃ x k l,nrm a = .ok x k∧nrm b = .ok x l
abbrev Lm (e:Nat):Prop:=3≤e∧e≤5
inductive Par:Tm→Tm→Prop
 | v (i:Nat):Par (.v i) (.v i)
 | n0 (k:K0):Par (.n0 k) (.n0 k)
 | lam (s:Ty) {b b':Tm} : Par b b'→Par (.lam s b) (.lam s b')
 | n1 (k:K1) {a a':Tm} : Par a a'→Par (.n1 k a) (.n1 k a')
 | n2 (k:K2) {a a' b b':Tm} : Par a a'→Par b b'→Par (.n2 k a b) (.n2 k a' b')
 | n3 (k:K3) (s:Ty) {a a' b b' c c':Tm} : Par a a'→Par b b'→Par c c'→Par (.n3 k s a b c) (.n3 k s a' b' c')
 | fst (b:Tm) {a a':Tm} : Par a a'→Par (.n1 .fst (.n2 .pair a b)) a'
 | snd (a:Tm) {b b':Tm} : Par b b'→Par (.n1 .snd (.n2 .pair a b)) b'
 | beta (s:Ty) {b b' a a':Tm} : Par b b'→Par a a'→Par (.n2 .app (.lam s b) a) (b'.put 0 a' 0)
 | re0 (s:Ty) (f:Tm) {b b':Tm} : Par b b'→Par (.n3 .re s b f (.n0 .zero)) b'
 | reS (s:Ty) {b b' f f' n n':Tm} : Par b b'→Par f f'→Par n n'→Par (.n3 .re s b f (.n1 .succ n)) (.n2 .app (.n2 .app f' n') (.n3 .re s b' f' n'))
 | fo0 (s:Ty) (f:Tm) {b b':Tm} : Par b b'→Par (.n3 .fo s b f (.n0 .nil)) b'
 | foC (s:Ty) {b b' f f' h h' l l':Tm} : Par b b'→Par f f'→Par h h'→Par l l'→Par (.n3 .fo s b f (.n2 .cons h l)) (.n2 .app (.n2 .app (.n2 .app f' h') l') (.n3 .fo s b' f' l'))
inductive Ps:Tm→Tm→Prop
 | refl (t:Tm):Ps t t
 | step {a b c:Tm} : Par a b→Ps b c→Ps a c
def Cv (a b:Tm):Prop:=∃ w,Ps a w∧Ps b w
def Ht:List Ty→Tm→Ty→Prop
 | G,.v i,u=>tyV G i = .ok u
 | G,.lam s b,u => ∃ w,u = .two true s w∧Ht (G++[s]) b w
 | _,.n0 k,u=>u=match k with
  | .zero => .nat
  | .nil => .list
  | .unit => .unit
 | G,.n1 k a,u=>match k with
  | .succ=>u = .nat∧Ht G a .nat
  | .fst => ∃ w,Ht G a (.two false u w)
  | .snd => ∃ w,Ht G a (.two false w u)
 | G,.n2 k a b,u=>match k with
  | .app => ∃ s,Ht G a (.two true s u)∧Ht G b s
  | .cons=>u = .list∧Ht G a .nat∧Ht G b .list
  | .pair => ∃ s w,u = .two false s w∧Ht G a s∧Ht G b w
 | G,.n3 k s a b c,u=>u=s∧Ht G a s∧match k with
  | .re=>Ht G b (.two true .nat (.two true s s))∧Ht G c .nat
  | .fo=>Ht G b (.two true .nat (.two true .list (.two true s s)))∧Ht G c .list
class PA:Prop where
 nf:∀ {a b x y:Tm} {k l:Nat},Cv a b→nrm a = .ok x k→nrm b = .ok y l→x=y
 ht:∀ {t:Tm} {g:List Ty} {u:Ty},Ht g t u→t.tyR g = .ok u∨t.tyR g = .er 3
def Tm.sm (t:Tm):Prop:=t.chk=0∧t.mx≤536870912
def kz:List PV:=[.int 0,.int 0,.int 0,.nils,.nils]
abbrev bx (l:List PV):Ob:=.box (l.map .pv)
open Go.Lg
set_option maxRecDepth 100000
def qZt:Nat→Tm
 | 0 => .n0 .zero
 | n+1 => .n1 .succ (qZt n)
def plusT:Tm:=.lam .nat (.lam .nat (.n3 .re .nat (.v 1) (.lam .nat (.lam .nat (.n1 .succ (.v 0)))) (.v 0)))
def predT:Tm:=.lam .nat (.n3 .re .nat (.n0 .zero) (.lam .nat (.lam .nat (.v 1))) (.v 0))
def subT:Tm:=.lam .nat (.lam .nat (.n3 .re .nat (.v 1) (.lam .nat (.lam .nat (.n2 .app predT (.v 0)))) (.v 0)))
theorem a66 {n:Nat} (h:n<4):A 32 [num n] (.tuple [(qZt n).p,num 0]):=by
 match n,h with
 | 0,_=>exact f0 []
 | 1,_=>exact f0 []
 | 2,_=>exact f0 []
 | 3,_=>exact f0 []
theorem qN7 (t:Tm):A 110 [t.p] (Tm.lam .nat t).p:=f1 [6] (qVh .nat t)
theorem zAu (a b c:Tm):A 111 [a.p,b.p,c.p] (Tm.n3 .re .nat a b c).p:=f1 [12] (qN4 .re .nat a b c)
theorem a82:A 58 [] plusT.p:=by
 let x1:=Tm.n1 .succ (.v 0)
 let x2:=Tm.lam .nat x1
 let x3:=Tm.lam .nat x2
 let x4:=Tm.n3 .re .nat (.v 1) x3 (.v 0)
 let x5:=Tm.lam .nat x4
 exact f6 [4,5,6,8,9,10] (zZ1 5 (.v 0)) (qN7 x1) (qN7 x2) (zAu (.v 1) x3 (.v 0)) (qN7 x4) (qN7 x5)
theorem zEc:A 112 [] predT.p:=by
 let x2:=Tm.lam .nat (.v 1)
 let x3:=Tm.lam .nat x2
 let x4:=Tm.n3 .re .nat (.n0 .zero) x3 (.v 0)
 exact f5 [1,3,4,6,7] (zZ0 4) (qN7 (.v 1)) (qN7 x2) (zAu (.n0 .zero) x3 (.v 0)) (qN7 x4)
theorem a83:A 59 [] subT.p:=by
 let x1:=Tm.n2 .app predT (.v 0)
 let x2:=Tm.lam .nat x1
 let x3:=Tm.lam .nat x2
 let x4:=Tm.n3 .re .nat (.v 1) x3 (.v 0)
 let x5:=Tm.lam .nat x4
 exact f7 [2,5,6,7,9,10,11] zEc (zZ2 3 predT (.v 0)) (qN7 x1) (qN7 x2) (zAu (.v 1) x3 (.v 0)) (qN7 x4) (qN7 x5)
abbrev zt:PV:=.agg [num 0,.slice []]
def Fm.cnt:Fm→Nat
 | .eq a b=>1+a.cnt+b.cnt
 | .bin _ f g=>1+f.cnt+g.cnt
 | .q _ _ f=>1+f.cnt
def Fm.mx:Fm→Nat
 | .eq a b=>max a.mx b.mx
 | .bin _ f g=>max f.mx g.mx
 | .q _ _ f=>f.mx
def Fm.tsz:Fm→Nat
 | .eq a b=>max a.tsz b.tsz
 | .bin _ f g=>max f.tsz g.tsz
 | .q _ s f=>max s.size f.tsz
theorem a64:∀ f:Fm,A 46 [f.p] f.p
 | .eq a b=>f3 [12,24,24] zZz (a65 a) (a65 b)
 | .bin k f g=>f3 [12,39,39] zZz (a64 f) (a64 g)
 | .q k s f=>f2 [12,39] (qFe s) (a64 f)
theorem a43 (a b:Tm):A 26 [a.p,b.p] (Fm.eq a b).p:=f2 [6,8] (a65 a) (a65 b)
theorem zVw:∀ f:Fm,f.cnt≤big→A 51 [f.p] (num f.cnt)
 | .eq a b,h=>by
  have h:1+a.cnt+b.cnt≤big:=h
  exact f4 [17,(18,.ok),17,(18,.ok)] (a87 a (by omega)) (qCy (a:=1) (b:=a.cnt) (by omega)) (a87 b (by omega)) (qCy (a:=1+a.cnt) (b:=b.cnt) h)
 | .bin k f g,h=>by
  have h:1+f.cnt+g.cnt≤big:=h
  exact f4 [29,(30,.ok),29,(30,.ok)] (zVw f (by omega)) (qCy (a:=1) (b:=f.cnt) (by omega)) (zVw g (by omega)) (qCy (a:=1+f.cnt) (b:=g.cnt) h)
 | .q k s f,h=>by
  have h:1+f.cnt≤big:=h
  exact f2 [29,(30,.ok)] (zVw f (by omega)) (qCy (a:=1) (b:=f.cnt) h)
def Fm.shp:Fm→Bool
 | .eq a b=>a.shp && b.shp
 | .bin _ f g=>f.shp && g.shp
 | .q _ s f=>Nat.beq s.chk 0 && f.shp
theorem zYd:∀ f:Fm,f.tsz≤mid→A 87 [f.p] (.bool f.shp)
 | .eq a b,h=>by
  have h:max a.tsz b.tsz≤mid:=h
  have hm:=qQh
  have hb:=qQk
  have h1:=a86 a (by omega)
  have h2:=a86 b (by omega)
  show A 87 [(Fm.eq a b).p] (.bool (a.shp && b.shp))
  cases e1:a.shp<;>rw [e1] at h1
  ·exact f2 [14,27] qK4 h1
  cases e2:b.shp<;>rw [e2] at h2
  ·exact f3 [14,27,34] qK4 h1 h2
  ·exact f3 [14,27,34] qK4 h1 h2
 | .bin k f g,h=>by
  have h:max f.tsz g.tsz≤mid:=h
  have h1:=zYd f (by omega)
  have h2:=zYd g (by omega)
  show A 87 [(Fm.bin k f g).p] (.bool (f.shp && g.shp))
  cases e1:f.shp<;>rw [e1] at h1
  ·cases k<;>exact f2 [52,65] qK4 h1
  cases e2:g.shp<;>rw [e2] at h2
  ·cases k<;>exact f3 [52,65,72] qK4 h1 h2
  ·cases k<;>exact f3 [52,65,72] qK4 h1 h2
 | .q k s f,h=>by
  have h:max s.size f.tsz≤mid:=h
  have hm:=qQh
  have hb:=qQk
  have h1:=a84 s (by omega)
  have h2:=zYd f (by omega)
  unfold Fm.shp
  rcases qZp s with e|e<;>rw [e] at h1 ⊢
  ·cases e1:f.shp<;>rw [e1] at h2
   ·cases k<;>exact f2 [85,99] h1 h2
   ·cases k<;>exact f2 [85,99] h1 h2
  ·cases k<;>exact f1 [85] h1
def Fm.chk (f:Fm):Nat:=match f.shp with
 | false=>2
 | true=>match ltI (.ofNat 4096) (.ofNat f.cnt) with
  | true=>4
  | false=>0
theorem a75 (f:Fm) (h1:f.tsz≤mid) (h2:f.cnt≤big):A 35 [f.p] (num f.chk):=by
 have h3:=zYd f h1
 unfold Fm.chk
 cases e:f.shp<;>rw [e] at h3
 ·exact f1 [4] h3
 ·cases e1:ltI (.ofNat 4096) (.ofNat f.cnt)
  ·exact f3 [4,7,8] h3 (zVw f h2) e1
  ·exact f3 [4,7,8] h3 (zVw f h2) e1
theorem Fm.chk0 {f:Fm} (h:f.chk=0):f.cnt≤4096∧f.shp=true:=by
 grind [Fm.chk,qQn,of_decide_eq_false]
def Fm.sh:Nat→Int→Fm→Fm
 | c,z,.eq a b => .eq (a.sh c z) (b.sh c z)
 | c,z,.bin k f g => .bin k (f.sh c z) (g.sh c z)
 | c,z,.q k s f => .q k s (f.sh (c+1) z)
theorem zZ4 (z:Int):∀ (f:Fm) (c:Nat),(f.sh c z).cnt=f.cnt
 := by intro x;induction x<;>simp_all [Fm.sh,Fm.cnt,qJt]
def Fm.occ:Nat→Fm→Nat
 | c,.eq a b=>a.occ c+b.occ c
 | c,.bin _ f g=>f.occ c+g.occ c
 | c,.q _ _ f=>f.occ (c+1)
theorem zYe:∀ (f:Fm) (n:Nat),∃ r,A 91 [f.p,num n] (.bool r)∧(r=true↔f.mx≤n)
 | .eq a b,c=>by
  obtain⟨r,h1,ir⟩:=qLt a c
  obtain⟨q,h2,iq⟩:=qLt b c
  cases r
  ·exact⟨false,f1 [18] h1,by simp_all [Fm.mx]<;>omega⟩
  cases q
  ·exact⟨false,f2 [18,18] h1 h2,by simp_all [Fm.mx]<;>omega⟩
  ·exact⟨true,f2 [18,18] h1 h2,by simp_all [Fm.mx]<;>omega⟩
 | .bin k f g,c=>by
  obtain⟨r,h1,ir⟩:=zYe f c
  obtain⟨q,h2,iq⟩:=zYe g c
  cases r
  ·exact⟨false,f1 [30] h1,by simp_all [Fm.mx]<;>omega⟩
  cases q
  ·exact⟨false,f2 [30,30] h1 h2,by simp_all [Fm.mx]<;>omega⟩
  ·exact⟨true,f2 [30,30] h1 h2,by simp_all [Fm.mx]<;>omega⟩
 | .q k s f,c=>by
  obtain⟨r,h1,ir⟩:=zYe f c
  cases r
  ·exact⟨false,f1 [30] h1,by grind [Fm.mx]⟩
  ·exact⟨true,f1 [30] h1,by grind [Fm.mx]⟩
open Go.Lg
set_option maxRecDepth 100000
def Fm.put:Fm→Nat→Tm→Nat→Fm
 | .eq a b,c,s,d => .eq (a.put c s d) (b.put c s d)
 | .bin k f g,c,s,d => .bin k (f.put c s d) (g.put c s d)
 | .q k u f,c,s,d => .q k u (f.put c s (d+1))
theorem qJj:∀ (f:Fm) (c:Nat),f.occ c≤f.cnt
 | .eq a b,c=>by have:=qQp a c;have:=qQp b c;simp only [Fm.occ,Fm.cnt];omega
 | .bin k f g,c=>by have:=qJj f c;have:=qJj g c;simp only [Fm.occ,Fm.cnt];omega
 | .q k s f,c=>by have:=qJj f (c+1);simp only [Fm.occ,Fm.cnt];omega
theorem qWf (c:Nat) (s:Tm):∀ (f:Fm) (d:Nat),(f.put c s d).cnt+f.occ (c+d)=f.cnt+f.occ (c+d) * s.cnt
 | .eq a b,d=>by have:=qK5 c s a d;have:=qK5 c s b d;simp only [Fm.put,Fm.occ,Fm.cnt,Nat.add_mul];omega
 | .bin k f g,d=>by have:=qWf c s f d;have:=qWf c s g d;simp only [Fm.put,Fm.occ,Fm.cnt,Nat.add_mul];omega
 | .q k u f,d=>by have:=qWf c s f (d+1);simp only [Fm.put,Fm.occ,Fm.cnt,Nat.add_assoc] at this ⊢;omega
theorem zYf:∀ (f:Fm) (c d:Nat) (s:Tm),s.mx≤mid * mid→s.cnt≤mid→f.mx≤mid * mid→c+d+f.cnt≤mid→A 93 [f.p,num c,num d,s.p] (f.put c s d).p
 | .eq a b,c,d,s,h1,h2,h3,h4=>by
  have h3:max a.mx b.mx≤mid * mid:=h3
  have h4:c+d+(1+a.cnt+b.cnt)≤mid:=h4
  exact f2 [32,32] (qPq a c d s h1 h2 (by omega) (by omega)) (qPq b c d s h1 h2 (by omega) (by omega))
 | .bin k f g,c,d,s,h1,h2,h3,h4=>by
  have h3:max f.mx g.mx≤mid * mid:=h3
  have h4:c+d+(1+f.cnt+g.cnt)≤mid:=h4
  have hm:=qQh
  have h5:=inN (show d≤_ by omega)
  have h6:=zYf f c d s h1 h2 (by omega) (by omega)
  have h7:=zYf g c d s h1 h2 (by omega) (by omega)
  cases k<;>exact f4 [(51,.ok),53,(51,.ok),53] h5 h6 h5 h7
 | .q k u f,c,d,s,h1,h2,h3,h4=>by
  have h4:c+d+(1+f.cnt)≤mid:=h4
  have hm:=qQh
  have h5:=inN (show d+1≤_ by omega)
  have h6:=zYf f c (d+1) s h1 h2 h3 (by omega)
  cases k<;>exact f2 [(51,.ok),53] h5 h6
theorem qN8 {n:Nat} (h:n≤big):inB (Int.ofNat 0 + .ofNat n)=true∧Int.ofNat 0 + .ofNat n = .ofNat n:=by
 have e:Int.ofNat 0 + .ofNat n = .ofNat n:=by simp
 exact⟨by rw [e];exact inb h,e⟩
theorem zYg:∀ (f:Fm) (c:Nat),c+f.cnt≤mid→A 92 [f.p,num c] (num (f.occ c))
 | .eq a b,c,h=>by
  have h:c+(1+a.cnt+b.cnt)≤mid:=h
  have hm:=qQh
  have hb:=qQk
  have u1:=qQp a c
  have u2:=qQp b c
  exact f4 [20,21,20,(21,.ok)] (qPp a c (by omega)) (qN8 (n:=a.occ c) (by omega)) (qPp b c (by omega)) (qCy (a:=a.occ c) (b:=b.occ c) (by omega))
 | .bin k f g,c,h=>by
  have h:c+(1+f.cnt+g.cnt)≤mid:=h
  have hm:=qQh
  have hb:=qQk
  have u1:=qJj f c
  have u2:=qJj g c
  have h5:=inN (show c≤_ by omega)
  have h6:=zYg f c (by omega)
  have h7:=zYg g c (by omega)
  have h8:=qN8 (n:=f.occ c) (by omega)
  have h9:=qCy (a:=f.occ c) (b:=g.occ c) (by omega)
  cases k<;>exact f6 [(35,.ok),36,37,(35,.ok),36,(37,.ok)] h5 h6 h8 h5 h7 h9
 | .q k s f,c,h=>by
  have h:c+(1+f.cnt)≤mid:=h
  have hm:=qQh
  have hb:=qQk
  have u1:=qJj f (c+1)
  have h5:=inN (show c+1≤_ by omega)
  have h6:=zYg f (c+1) (by omega)
  have h8:=qN8 (n:=f.occ (c+1)) (by omega)
  cases k<;>exact f3 [(35,.ok),36,37] h5 h6 h8
theorem Tm.chk_i {t:Tm} (h:t.shp=true) (h':t.cnt≤4096):t.chk=0:=by
 unfold Tm.chk
 rw [h]
 simp only
 rw [qZ4 h']
theorem Fm.chk_i {t:Fm} (h:t.shp=true) (h':t.cnt≤4096):t.chk=0:=by
 unfold Fm.chk
 rw [h]
 simp only
 rw [qZ4 h']
theorem zZ5 {m n:Nat} (h:m=n):(!eqI (.ofNat m) (.ofNat n))=false:=by rw [h];exact qFf n
def Fm.ty:List Ty→Fm→Prop
 | g,.eq a b=>(a.chk=0∧a.tyR g = .ok .nat)∧b.chk=0∧b.tyR g = .ok .nat
 | g,.bin _ f h=>f.ty g∧h.ty g
 | g,.q _ s f=>f.ty (g++[s])
abbrev cmx:Nat:=mid * mid-1001 * 4096
def Fm.mt:Fm→Fm→Prop
 | .eq a c,.eq b d=>a.mt b∧c.mt d
 | .bin k f g,.bin l f' g'=>k=l∧f.mt f'∧g.mt g'
 | .q k s f,.q l u g=>k=l∧s=u∧f.mt g
 | _,_=>False
def Fm.sm (f:Fm):Prop:=f.chk=0∧f.mx≤536870912
inductive FR where
 | er (n:Nat)
 | ok (f:Fm)
def FR.k:FR→Nat
 | .er _=>0
 | .ok f=>f.kd
def FR.tk:FR→Nat
 | .er _=>0
 | .ok f=>f.tk
def FR.te:FR→List (List PV)
 | .er _=>[]
 | .ok f=>f.te
def FR.ts:FR→List (List PV)
 | .er _=>[]
 | .ok f=>f.ts
def FR.es:FR→List (List PV)
 | .er _=>[]
 | .ok f=>f.es
def FR.n:FR→Nat
 | .er n=>n+1
 | .ok _=>0
def FR.p (r:FR):PV:=.tuple [.agg [num r.k,num r.tk,.slice r.te,.slice r.ts,.slice r.es],num r.n]
theorem zEd (f:Fm) (s:Tm) (h1:f.cnt≤mid) (h2:f.mx≤mid * mid) (h3:f.tsz≤mid) (h4:s.cnt≤mid) (h5:s.mx≤mid * mid) (h6:s.tsz≤mid):∃ r:FR,A 37 [f.p,num 0,s.p] r.p∧((∃ n,r = .er n∧(f.sm→s.sm→n=3))∨r = .ok (f.put 0 s 0)∧(f.put 0 s 0).cnt≤4096):=by
 have hm:=qQh
 have hb:=qQk
 have g1:=a75 f h3 (by omega)
 cases e1:f.chk with
 | succ n=>rw [e1] at g1;exact⟨.er n,f1 [11] g1,.inl ⟨n,rfl,fun h=>nomatch h.1.symm.trans e1⟩⟩
 | zero =>
  rw [e1] at g1
  have g2:=a31 s (by omega) (by omega)
  cases e2:s.chk with
  | succ n=>rw [e2] at g2;exact⟨.er n,f2 [11,24] g1 g2,.inl ⟨n,rfl,fun _ h=>nomatch h.1.symm.trans e2⟩⟩
  | zero =>
   rw [e2] at g2
   obtain⟨p,g3,q3⟩:=zYe f 536870912
   obtain⟨q,g4,q4⟩:=qLt s 536870912
   cases p
   ·exact⟨.er 0,f3 [11,24,30] g1 g2 g3,.inl ⟨0,rfl,fun h=>nomatch q3.2 h.2⟩⟩
   cases q
   ·exact⟨.er 0,f4 [11,24,30,34] g1 g2 g3 g4,.inl ⟨0,rfl,fun _ h=>nomatch q4.2 h.2⟩⟩
   have g5:=zVw f (by omega)
   have g6:=zYg f 0 (by omega)
   have g7:=a87 s (by omega)
   have h7:=qR3 s
   have g8:=qFg h7 (by omega)
   have h8:=qJj f 0
   have h9:f.occ 0 * (s.cnt-1)≤mid * mid:=Nat.mul_le_mul (by omega) (by omega)
   have h10:f.occ 0 * s.cnt=f.occ 0 * (s.cnt-1)+f.occ 0:=by
    have:s.cnt=(s.cnt-1)+1:=by omega
    rw [this,Nat.mul_succ];simp
   have h11:=qWf 0 s f 0
   simp only [Nat.zero_add] at h11
   have h9':=h9
   rw [hm] at h9'
   have g9:=zW6 (a:=f.occ 0) (b:=s.cnt-1) (by omega)
   have g10:=qCy (a:=f.cnt) (b:=f.occ 0 * (s.cnt-1)) (by omega)
   cases e3:ltI (.ofNat 4096) (.ofNat (f.cnt+f.occ 0 * (s.cnt-1)))
   ·refine⟨.ok (f.put 0 s 0),f13 [11,24,30,34,39,42,44,45,(46,.ok),(47,.ok),48,53,54] g1 g2 g3 g4 g5 g6 g7 g8 g9 g10 e3 (zYf f 0 0 s h5 h4 h2 (by omega)) (a64 (f.put 0 s 0)),.inr ⟨rfl,?_⟩⟩
    rw [qQn] at e3
    have:=of_decide_eq_false e3
    simp at this
    omega
   ·exact⟨.er 3,f11 [11,24,30,34,39,42,44,45,(46,.ok),(47,.ok),48] g1 g2 g3 g4 g5 g6 g7 g8 g9 g10 e3,.inl ⟨3,rfl,fun _ _=>rfl⟩⟩
def Fm.has:Fm→Bool
 | .eq _ _=>false
 | .bin k f g=>match k with
  | .and=>f.has || g.has
  | .imp=>g.has
 | .q k _ f=>match k with
  | .ex=>true
  | _=>f.has
open Go.Lg
set_option maxRecDepth 100000
def Pf.cnt:Pf→Nat
 | .leaf u i=>1
 | .refl t=>1+t.cnt
 | .p1 k a=>1+a.cnt
 | .p2 k a b=>1+a.cnt+b.cnt
 | .impI f a=>1+f.cnt+a.cnt
 | .all u s a=>1+a.cnt
 | .ins u t a=>1+t.cnt+a.cnt
 | .ex u f t a=>1+t.cnt+f.cnt+a.cnt
 | .ind l f t a b=>1+t.cnt+f.cnt+a.cnt+b.cnt
 | .subst f a b=>1+f.cnt+a.cnt+b.cnt
def Pf.ck:Pf→Prop
 | .leaf _ _=>True
 | .refl t=>t.chk=0
 | .p1 _ a=>a.ck
 | .p2 _ a b=>a.ck∧b.ck
 | .impI f a=>f.chk=0∧a.ck
 | .all _ s a=>s.size≤64∧a.ck
 | .ins _ t a=>t.chk=0∧a.ck
 | .ex _ f t a=>t.chk=0∧f.chk=0∧a.ck
 | .ind _ f t a b=>t.chk=0∧f.chk=0∧a.ck∧b.ck
 | .subst f a b=>f.chk=0∧a.ck∧b.ck
end Go.Proofs.YtbbbnbikmbaejaaGreatDoor
namespace Go.Proofs.YtbbbnbikmbaejaaGreatDoor
open Go.Lg
set_option maxRecDepth 100000
abbrev fms (l:List Fm):PV:=.slice (l.map Fm.c)
theorem Fm.c_len (f:Fm):f.c.length=5:=rfl
def fin (c:Fm→Fm):List (List V)→Nat→List Fm→List (List V)
 | E,_,[]=>E
 | E,n,f::r=>fin c (E.take n++[pvL (c f).c]) (n+1) r
theorem pvE_len (A:List (List PV)):(pvE A).length=A.length:=by
 induction A with
 | nil=>rfl
 | cons a r ih=>show (pvL a::pvE r).length=_;simp [ih]
theorem pvE_app (A B:List (List PV)):pvE (A++B)=pvE A++pvE B:=by
 induction A with
 | nil=>rfl
 | cons a r ih=>show pvL a::pvE (r++B)=pvL a::pvE r++pvE B;rw [ih];rfl
theorem qEs:∀ l:List PV,qQg (pvL l)=[]
 | []=>rfl
 | c::r=>by show V.names (.pv c)++qQg (pvL r)=[];rw [qEs r];rfl
theorem zZ6 {v n m sz ty:Nat} {E ys:List (List V)} (hE:E.length=n) (h0:0<sz) (h1:qD8 sz ys=true) (h2:qVe ys=true) (h3:n+ys.length≤maxLen) (h4:(n+ys.length) * m≤140737488355328) :
  (Nat.beq v v && Nat.ble n E.length && Nat.beq ty ty && Nat.beq sz sz && Nat.blt 0 sz && qD8 sz ys && qVe ys && Nat.ble (n+ys.length) maxLen && Nat.ble ((n+ys.length) * m) 140737488355328)=true:=by
 have h5:Nat.blt 0 sz=true:=by rw [qVd];simpa using h0
 rw [h1,h2,h5,hE,Nat.ble_eq_true_of_le h3,Nat.ble_eq_true_of_le h4,Nat.ble_eq_true_of_le (Nat.le_refl n)]
 simp
theorem zW7 {α:Type} {c:α→List PV} (n m:Nat) (hn:∀ t,(c t).length=n) (h0:0<n) (g:List α) (s u:α) (h:(g.length+2) * m≤140737488355328) (hg:g.length+2≤maxLen) :
  (qWd n (g.map c) && qWd n [c s,c u] && Nat.blt 0 n && Nat.ble ((g.map c).length+[c s,c u].length) maxLen && Nat.ble (((g.map c).length+[c s,c u].length) * m) 140737488355328)=true:=by
 have h1:qWd n (g.map c)=true:=qW0 fun y hy=>by obtain⟨t,_,rfl⟩:=List.mem_map.1 hy;exact hn t
 have h2:qWd n [c s,c u]=true:=qW0 fun y hy=>by simp at hy;rcases hy with rfl|rfl<;>exact hn _
 have h3:Nat.blt 0 n=true:=by rw [qVd];simpa using h0
 rw [h1,h2,h3]
 simp only [List.length_map,List.length_cons,List.length_nil,Bool.true_and]
 rw [Nat.ble_eq_true_of_le hg,Nat.ble_eq_true_of_le h]
 rfl
abbrev ic (n:Nat):List PV:=[num n]
abbrev qR4 (l:List Nat):PV:=.slice (l.map ic)
theorem qKm (A:List (List PV)) (c:List PV):pvE (A++[c])=(pvE A).take A.length++[pvL c]:=by
 rw [List.take_of_length_le (by rw [pvE_len];omega),pvE_app]
 rfl
theorem qQu (A:List (List PV)):qQw (pvE A)=[]:=by
 induction A with
 | nil=>rfl
 | cons a r ih=>show qQg (pvL a)++qQw (pvE r)=[];rw [qEs,ih];rfl
theorem qZl (A:List (List PV)) (c:List PV):qQw ((pvE A).take A.length++[pvL c])=[]:=by rw [← qKm];exact qQu _
open Go.Lg
set_option maxRecDepth 100000
def aq:Bool→FQ
 | false => .all
 | true => .allU
def Fm.pt (f:Fm) (t:Tm):FR:=if f.cnt+f.occ 0 * (t.cnt-1)≤4096 then .ok (f.put 0 t 0) else .er 3
abbrev Fm.low (f:Fm):Fm:=f.put 0 (.v 0) 0
def nmF:Fm→Option Fm
 | .eq a b=>match nrm a with
  | .ok x _=>match nrm b with
   | .ok y _=>some (.eq x y)
   | .er _=>none
  | .er _=>none
 | .bin k f g=>match nmF f with
  | some x=>match nmF g with
   | some y=>some (.bin k x y)
   | none=>none
  | none=>none
 | .q k s f=>match nmF f with
  | some x=>some (.q k s x)
  | none=>none
def wtF (f:Fm):Option Fm:=if f.occ 0=0 then some f.low else match nmF f with
 | some g=>if g.occ 0=0 then some g.low else none
 | none=>none
inductive Jt where
 | leaf (u:Bool) (i:Nat) (f:Fm)
 | refl (t:Tm)
 | p1 (k:P1) (a:Jt) (f:Fm)
 | p2 (k:P2) (a b:Jt) (f:Fm)
 | impI (x:Fm) (a:Jt)
 | all (u:Bool) (s:Ty) (a:Jt)
 | ins (u:Bool) (t:Tm) (a:Jt) (f:Fm)
 | ex (u:Bool) (x:Fm) (t:Tm) (a:Jt)
 | ind (l:Bool) (x:Fm) (t:Tm) (a b:Jt) (f:Fm)
 | subst (x:Fm) (a b:Jt) (f:Fm)
def Jt.p:Jt→Pf
 | .leaf u i _ => .leaf u i
 | .refl t => .refl t
 | .p1 k a _ => .p1 k a.p
 | .p2 k a b _ => .p2 k a.p b.p
 | .impI x a => .impI x a.p
 | .all u s a => .all u s a.p
 | .ins u t a _ => .ins u t a.p
 | .ex u x t a => .ex u x t a.p
 | .ind l x t a b _ => .ind l x t a.p b.p
 | .subst x a b _ => .subst x a.p b.p
def Jt.f:Jt→Fm
 | .leaf _ _ f=>f
 | .refl t => .eq t t
 | .p1 _ _ f=>f
 | .p2 _ _ _ f=>f
 | .impI x a => .bin .imp x a.f
 | .all u s a => .q (aq u) s a.f
 | .ins _ _ _ f=>f
 | .ex _ x _ _=>x
 | .ind _ _ _ _ _ f=>f
 | .subst _ _ _ f=>f
def Fm.bd:Fm→Fm
 | .q _ _ f=>f
 | f=>f
abbrev upH (k:Nat) (hs:List Fm):List Fm:=hs.map (Fm.sh 0 (.ofNat k))
def eqq:Bool→FQ
 | false => .ex
 | true => .exU
def ek:Bool→P2
 | false => .exE
 | true => .exUE
abbrev vapp:Tm:=.n2 .app (.v 1) (.v 0)
def zAv (hs:List Fm) (x:Fm):Bool→List Fm
 | false=>upH 1 hs++[x]
 | true=>upH 2 hs++[x.sh 1 (.ofNat 1)]
def lN:Bool→Nat
 | false=>1
 | true=>2
def Jt.us:Jt→Nat→Prop
 | .leaf _ _ _,_=>False
 | .refl _,_=>False
 | .p1 _ a f,v=>f.has=true∧a.us v
 | .p2 k a b f,v=>f.has=true∧(a.us v∨match k with
  | .andI=>b.us v
  | .impE=>b.us v
  | _=>b.us (v+1))
 | .impI x a,v=>(Fm.bin .imp x a.f).has=true∧a.us v
 | .all u s a,v=>(Fm.q (aq u) s a.f).has=true∧a.us (v+1)
 | .ins u t a f,v=>f.has=true∧(a.us v∨u=false∧t.occ v≠0)
 | .ex u x t a,v=>x.has=true∧(a.us v∨u=false∧t.occ v≠0)
 | .ind l x t a b f,v=>f.has=true∧(t.occ v≠0∨a.us v∨b.us (v+lN l))
 | .subst x a b f,v=>f.has=true∧b.us v
def Fm.er:Fm→Fm
 | .eq _ _ => .eq (.n0 .unit) (.n0 .unit)
 | .bin k f g => .bin k f.er g.er
 | .q k s f => .q k s f.er
theorem zZ7 (z:Int):∀ (f:Fm) (c:Nat),(f.sh c z).er=f.er
 | .eq _ _,c=>rfl
 | .bin k f g,c=>by simp [Fm.sh,Fm.er,zZ7]
 | .q k s f,c=>by simp [Fm.sh,Fm.er,zZ7]
theorem qN9 (c:Nat) (s:Tm):∀ (f:Fm) (d:Nat),(f.put c s d).er=f.er
 | .eq _ _,d=>rfl
 | .bin k f g,d=>by simp [Fm.put,Fm.er,qN9]
 | .q k u f,d=>by simp [Fm.put,Fm.er,qN9]
theorem qR5 {f g:Fm} {t:Tm} (e:f.pt t = .ok g):g.er=f.er:=by
 grind [Fm.pt,qN9]
def lT:Bool→Ty
 | false => .nat
 | true => .list
def lG:Bool→List Ty
 | false=>[.nat]
 | true=>[.nat,.list]
def l0:Bool→Tm
 | false => .n0 .zero
 | true => .n0 .nil
def l1:Bool→Tm
 | false => .n1 .succ (.v 0)
 | true => .n2 .cons (.v 1) (.v 0)
def Jt.D (ls:List Fm):List Ty→List Fm→Jt→Prop
 | _,hs,.leaf u i f=>f.chk=0∧match u with
  | false=>i<hs.length∧hs[hs.length-1-i]? = some f
  | true=>ls[i]? = some f
 | g,_,.refl t=>(Fm.eq t t).chk=0∧t.chk=0∧t.tyR g = .ok .nat
 | g,hs,.p1 k a f=>f.chk=0∧a.D ls g hs∧match k with
  | .andL => ∃ y,a.f = .bin .and f y
  | .andR => ∃ x,a.f = .bin .and x f
  | .choice => ∃ s u x,a.f = .q .all s (.q .ex u x)∧(Ty.two true s u).size≤64 ∧ ∃ y,(x.sh 2 (.ofNat 1)).pt vapp = .ok y∧f = .q .ex (.two true s u) (.q .all s y)
 | g,hs,.p2 k a b f=>f.chk=0∧a.D ls g hs∧match k with
  | .andI=>b.D ls g hs∧f = .bin .and a.f b.f
  | .impE=>b.D ls g hs ∧ ∃ x,a.f = .bin .imp x f∧x.mt b.f
  | .exE=>(∃ s,a.f = .q .ex s a.f.bd∧b.D ls (g++[s]) (upH 1 hs++[a.f.bd]))∧(g.length+1≤16∧hs.length+1≤16)∧wtF b.f=some f
  | .exUE=>(∃ s,a.f = .q .exU s a.f.bd∧b.D ls (g++[s]) (upH 1 hs++[a.f.bd]))∧(g.length+1≤16∧hs.length+1≤16)∧wtF b.f=some f ∧ ¬b.us 0
 | g,hs,.impI x a=>(Fm.bin .imp x a.f).chk=0∧(x.chk=0∧x.ty g)∧hs.length+1≤16∧a.D ls g (hs++[x])
 | g,hs,.all u s a=>(Fm.q (aq u) s a.f).chk=0∧g.length+1≤16∧a.D ls (g++[s]) (upH 1 hs)∧(u=true→¬a.us 0)
 | g,hs,.ins u t a f=>f.chk=0∧t.chk=0∧a.D ls g hs ∧ ∃ s x,t.tyR g = .ok s∧a.f = .q (aq u) s x∧x.pt t = .ok f
 | g,hs,.ex u x t a=>(x.chk=0∧x.ty g)∧t.chk=0∧a.D ls g hs ∧ ∃ s y w,t.tyR g = .ok s∧x = .q (eqq u) s y∧y.pt t = .ok w∧w.mt a.f
 | g,hs,.ind l x t a b f=>f.chk=0∧(x.chk=0∧x.ty (g++[lT l]))∧(t.chk=0∧t.tyR g = .ok (lT l))∧(a.D ls g hs ∧ ∃ w,x.pt (l0 l) = .ok w∧w.mt a.f)∧(g.length+lN l≤16∧hs.length+1≤16)∧(b.D ls (g++lG l) (zAv hs x l) ∧ ∃ w,(x.sh 1 (.ofNat (lN l))).pt (l1 l) = .ok w∧w.mt b.f)∧x.pt t = .ok f
 | g,hs,.subst x a b f=>f.chk=0∧(x.chk=0∧x.ty (g++[.nat]))∧a.D ls g hs∧b.D ls g hs ∧ ∃ t u w,a.f = .eq t u∧x.pt t = .ok w∧w.mt b.f∧x.pt u = .ok f
theorem qZ1 {a b:Bool} (h:(a && b)=true):a=true∧b=true:=by simpa using h
theorem qBg (z:Int):∀ (t:Tm) (c:Nat),(t.sh c z).shp=t.shp
 | .v i,c=>by simp only [Tm.sh];split<;>rfl
 | .lam s b,c=>by simp [Tm.sh,Tm.shp,qBg]
 | .n0 k,c=>rfl
 | .n1 k a,c=>by simp [Tm.sh,Tm.shp,qBg]
 | .n2 k a b,c=>by simp [Tm.sh,Tm.shp,qBg]
 | .n3 k s a b d,c=>by simp [Tm.sh,Tm.shp,qBg]
theorem qJy (c:Nat) (S:Tm):∀ (t:Tm) (d:Nat),(S.shp=true∨t.occ (c+d)=0)→t.shp=true→(t.put c S d).shp=true
 | .v i,d,hS,h=>by
  simp only [Tm.put]
  split
  ·rename_i e
   rcases hS with hS|hS
   ·rw [qBg];exact hS
   ·simp [Tm.occ,e] at hS
  ·split<;>rfl
 | .lam s b,d,hS,h=>by
  obtain⟨h1,h2⟩:=qZ1 h
  show (_ && _)=true
  rw [h1,qJy c S b (d+1) hS h2];rfl
 | .n0 k,d,hS,h=>rfl
 | .n1 k a,d,hS,h=>qJy c S a d hS h
 | .n2 k a b,d,hS,h=>by
  obtain⟨h1,h2⟩:=qZ1 h
  simp only [Tm.occ] at hS
  show (_ && _)=true
  rw [qJy c S a d (hS.imp id (by omega)) h1,qJy c S b d (hS.imp id (by omega)) h2];rfl
 | .n3 k s a b e,d,hS,h=>by
  obtain⟨h1,h2⟩:=qZ1 h
  obtain⟨h2,h3⟩:=qZ1 h2
  obtain⟨h3,h4⟩:=qZ1 h3
  simp only [Tm.occ] at hS
  show (_ && (_ && (_ && _)))=true
  rw [h1,qJy c S a d (hS.imp id (by omega)) h2,qJy c S b d (hS.imp id (by omega)) h3,qJy c S e d (hS.imp id (by omega)) h4];rfl
theorem zZ8 (z:Int):∀ (f:Fm) (c:Nat),(f.sh c z).shp=f.shp
 := by intro x;induction x<;>simp_all [Fm.sh,Fm.shp,qBg]
theorem qWg (c:Nat) (S:Tm):∀ (f:Fm) (d:Nat),(S.shp=true∨f.occ (c+d)=0)→f.shp=true→(f.put c S d).shp=true
 | .eq a b,d,hS,h=>by
  obtain⟨h1,h2⟩:=qZ1 h
  simp only [Fm.occ] at hS
  show (_ && _)=true
  rw [qJy c S a d (hS.imp id (by omega)) h1,qJy c S b d (hS.imp id (by omega)) h2];rfl
 | .bin k a b,d,hS,h=>by
  obtain⟨h1,h2⟩:=qZ1 h
  simp only [Fm.occ] at hS
  show (_ && _)=true
  rw [qWg c S a d (hS.imp id (by omega)) h1,qWg c S b d (hS.imp id (by omega)) h2];rfl
 | .q k s a,d,hS,h=>by
  obtain⟨h1,h2⟩:=qZ1 h
  show (_ && _)=true
  rw [h1,qWg c S a (d+1) hS h2];rfl
theorem zAw {ls:List Fm} {g:List Ty} {hs:List Fm} {j:Jt} (h:j.D ls g hs):j.f.chk=0:=by
 cases j<;>first|exact h.1|exact h.1.1
def FO (M:Nat) (f:Fm):Prop:=f.cnt≤4096∧f.mx≤M∧f.tsz≤mid
abbrev zAx:Nat:=8388608
theorem a95:∀ t:Ty,A 102 [t.p] t.p
 | .nat=>f0 []
 | .list=>f0 []
 | .unit=>f0 []
 | .two k a b=>f2 [19,19] (a95 a) (a95 b)
theorem qAe:A 102 [zt] zt:=f0 []
theorem a96 (a b:Ty):A 103 [a.p,b.p] (.bool (a.same b)):=by
 induction a generalizing b with
 | two k a b h1 h2=>cases b with
  | two l c d =>
   have h1:=h1 c
   have h2:=h2 d
   show A 103 [(Ty.two k a b).p,(Ty.two l c d).p] (.bool ((k == l) && (a.same c && b.same d)))
   generalize a.same c=p at *
   generalize b.same d=q at *
   by_cases e:k=l
   ·subst e
    cases p
    ·cases k<;>exact f1 [35] h1
    ·cases q
     ·cases k<;>exact f2 [35,35] h1 h2
     ·cases k<;>exact f2 [35,35] h1 h2
   ·cases k<;>cases l<;>first|exact absurd rfl e|exact f0 []
  | _=>cases k<;>exact f0 []
 | _=>cases b with
  | two l c d=>cases l<;>exact f0 []
  | _=>exact f0 []
theorem zYh:∀ t:Ty,t.size≤big→A 244 [t.p] (.tuple [num t.size,.bool true])
 | .nat,_=>f0 []
 | .list,_=>f0 []
 | .unit,_=>f0 []
 | .two k a b,h=>by
  have h:1+a.size+b.size≤big:=h
  have h1:=zYh a (by omega)
  have h2:=zYh b (by omega)
  have h3:inB (.ofNat (1+a.size))=true:=inb (by omega)
  cases k<;>exact f4 [33,(40,.ok),33,(40,.ok)] h1 h3 h2 (inb h)
def ckN (n m:Nat):Nat:=match ltI (.ofNat m) (.ofNat n) with
 | true=>0
 | false=>n
def ckE (n m:Nat):Nat:=match ltI (.ofNat m) (.ofNat n) with
 | true=>4
 | false=>0
theorem qGp {n m:Nat} (h:n≤m):ckN n m=n∧ckE n m=0:=by
 have e:ltI (.ofNat m) (.ofNat n)=false:=qZ4 h
 grind [ckN,ckE]
theorem zAy {n m:Nat} (h:m<n):ckN n m=0∧ckE n m=4:=by
 have e:ltI (.ofNat m) (.ofNat n)=true:=qWz h
 grind [ckN,ckE]
theorem qR6 (n m:Nat):(n≤m∧ckN n m=n∧ckE n m=0)∨(m<n∧ckN n m=0∧ckE n m=4):=by
 grind [qGp,zAy]
theorem ckE_0 {n m:Nat} : ckE n m=0↔n≤m:=by
 rcases qR6 n m with ⟨h,_,e⟩|⟨h,_,e⟩<;>rw [e]<;>simp<;>omega
theorem zVx (t:Ty) (h:t.size≤big):A 173 [t.p] (.tuple [num (ckN t.size 64),num (ckE t.size 64)]):=by
 unfold ckN ckE
 cases e:ltI (.ofNat 64) (.ofNat t.size)
 ·exact f2 [8,16] (zYh t h) e
 ·exact f2 [8,16] (zYh t h) e
theorem zYi (t:Ty) (h:t.size≤big):A 97 [t.p] (num (ckE t.size 64)):=f1 [7] (zVx t h)
theorem qY8:A 318 [zt] (.bool true):=f0 []
open Go.Lg
set_option maxRecDepth 100000
def Tm.nd (t:Tm):Nat:=match t.shp with
 | true=>t.cnt
 | false=>0
theorem qWo (s:Ty):s.chk=ckE s.size 64:=rfl
theorem qPr:∀ t:Tm,t.tsz≤big→t.cnt≤big→A 248 [t.p] (.tuple [num t.nd,.bool t.shp])
 | .v i,_,_=>by cases i<;>exact f0 []
 | .n0 k,_,_=>by cases k<;>exact f0 []
 | .lam s b,h,hc=>by
  have h:max s.size b.tsz≤big:=h
  have hc:1+b.cnt≤big:=hc
  have h1:=zVx s (by omega)
  have h2:=qPr b (by omega) (by omega)
  unfold Tm.nd at *
  unfold Tm.shp
  rcases qZp s with e|e<;>rw [qWo] at e<;>rw [e] at h1<;>rw [qWo,e]
  ·cases e2:b.shp<;>rw [e2] at h2
   ·exact f2 [49,67] h1 h2
   ·exact f3 [49,67,(74,.ok)] h1 h2 (inb hc)
  ·exact f1 [49] h1
 | .n1 k a,h,hc=>by
  have hc:1+a.cnt≤big:=hc
  have h2:=qPr a h (by omega)
  unfold Tm.nd at *
  show A 248 [(Tm.n1 k a).p] (.tuple [num (match a.shp with|true=>1+a.cnt|false=>0),.bool a.shp])
  cases e2:a.shp<;>rw [e2] at h2
  ·cases k<;>exact f1 [67] h2
  ·cases k<;>exact f2 [67,(74,.ok)] h2 (inb hc)
 | .n2 k a b,h,hc=>by
  have h:max a.tsz b.tsz≤big:=h
  have hc:1+a.cnt+b.cnt≤big:=hc
  have h1:=qPr a (by omega) (by omega)
  have h2:=qPr b (by omega) (by omega)
  have hc1:inB (.ofNat (1+a.cnt))=true:=inb (by omega)
  unfold Tm.nd at *
  show A 248 [(Tm.n2 k a b).p] (.tuple [num (match a.shp && b.shp with|true=>1+a.cnt+b.cnt|false=>0),.bool (a.shp && b.shp)])
  cases e1:a.shp<;>rw [e1] at h1
  ·cases k<;>exact f1 [67] h1
  ·cases e2:b.shp<;>rw [e2] at h2
   ·cases k<;>exact f3 [67,(74,.ok),67] h1 hc1 h2
   ·cases k<;>exact f4 [67,(74,.ok),67,(74,.ok)] h1 hc1 h2 (inb hc)
 | .n3 k s a b c,h,hc=>by
  have h:max (max s.size a.tsz) (max b.tsz c.tsz)≤big:=h
  have hc:1+a.cnt+b.cnt+c.cnt≤big:=hc
  have h0:=zVx s (by omega)
  have h1:=qPr a (by omega) (by omega)
  have h2:=qPr b (by omega) (by omega)
  have h3:=qPr c (by omega) (by omega)
  have hc1:inB (.ofNat (1+a.cnt))=true:=inb (by omega)
  have hc2:inB (.ofNat (1+a.cnt+b.cnt))=true:=inb (by omega)
  unfold Tm.nd at *
  unfold Tm.shp
  rcases qZp s with e|e<;>rw [qWo] at e<;>rw [e] at h0<;>rw [qWo,e]
  ·cases e1:a.shp<;>rw [e1] at h1
   ·cases k<;>exact f2 [49,67] h0 h1
   ·cases e2:b.shp<;>rw [e2] at h2
    ·cases k<;>exact f4 [49,67,(74,.ok),67] h0 h1 hc1 h2
    ·cases e3:c.shp<;>rw [e3] at h3
     ·cases k<;>exact f6 [49,67,(74,.ok),67,(74,.ok),67] h0 h1 hc1 h2 hc2 h3
     ·cases k<;>exact f7 [49,67,(74,.ok),67,(74,.ok),67,(74,.ok)] h0 h1 hc1 h2 hc2 h3 (inb hc)
  ·cases k<;>exact f1 [49] h0
def Tm.ckn (t:Tm):Nat:=match t.chk with
 | 0=>t.cnt
 | _=>0
theorem zYj (t:Tm) (h1:t.tsz≤big) (h2:t.cnt≤big):A 177 [t.p] (.tuple [num t.ckn,num t.chk]):=by
 have h3:=qPr t h1 h2
 unfold Tm.nd at h3
 unfold Tm.ckn Tm.chk
 cases e:t.shp<;>rw [e] at h3
 ·exact f1 [8] h3
 ·cases e2:ltI (.ofNat 4096) (.ofNat t.cnt)
  ·exact f2 [8,16] h3 e2
  ·exact f2 [8,16] h3 e2
theorem a297 (t:Tm) (h1:t.tsz≤big) (h2:t.cnt≤big):A 335 [t.p] (.tuple [num t.ckn,num t.chk]):=f1 [5] (zYj t h1 h2)
theorem a92 (t:Tm) (h1:t.tsz≤big) (h2:t.cnt≤big):A 99 [t.p] (num t.chk):=f1 [7] (zYj t h1 h2)
theorem Tm.chk0 {t:Tm} (h:t.chk=0):t.cnt≤4096∧t.shp=true:=by
 grind [Tm.chk,ltI,qQn]
theorem Tm.ckn0 {t:Tm} (h:t.chk=0):t.ckn=t.cnt:=by unfold Tm.ckn;split<;>simp_all
theorem qLu:A 103 [.agg [num 0,.slice []],.agg [num 0,.slice []]] (.bool true):=f0 []
theorem zVy {a:Tm} (H:∀ b:Tm,a.kd=b.kd→∃ r,A 387 [a.p,b.p] (.bool r)∧(r=true↔a=b)) (b:Tm):∃ r,A 387 [a.p,b.p] (.bool r)∧(r=true↔a=b):=by
 by_cases h:a.kd=b.kd
 ·exact H b h
 ·exact⟨false,f1 [11] (zW3 h),ff fun e=>h (by rw [e])⟩
theorem qPs:∀ a b:Tm,∃ r,A 387 [a.p,b.p] (.bool r)∧(r=true↔a=b)
 | .v i=>zVy fun b h=>by
  cases b with
  | v j =>
   by_cases e:i=j
   ·subst e;exact⟨true,f2 [17,24] (qFf i) qLu,by simp_all⟩
   ·exact⟨false,f1 [17] (zW3 e),by simp_all⟩
  | _=>have:=congrArg zZ3 h;rw [qZ5,qZ5] at this;cases this
 | .n0 k=>zVy fun b h=>by
  cases b with
  | n0 l=>cases K0.inj h;exact⟨true,f2 [11,24] (qFf k.n) qLu,by simp_all⟩
  | _=>have:=congrArg zZ3 h;rw [qZ5,qZ5] at this;cases this
 | .lam s a=>zVy fun b h=>by
  cases b with
  | lam u b =>
   have h1:=a96 s u
   have e1:=qZ6 s u
   cases e:s.same u<;>rw [e] at h1 e1
   ·exact⟨false,f1 [24] h1,by simp_all⟩
   ·obtain⟨r,h3,q3⟩:=qPs a b
    cases r
    ·exact⟨false,f2 [24,50] h1 h3,by simp_all⟩
    ·exact⟨true,f2 [24,50] h1 h3,by simp_all⟩
  | _=>have:=congrArg zZ3 h;rw [qZ5,qZ5] at this;cases this
 | .n1 k a=>zVy fun b h=>by
  cases b with
  | n1 l b =>
   cases K1.inj h
   obtain⟨r,h3,q3⟩:=qPs a b
   cases r
   ·exact⟨false,f3 [11,24,50] (qFf k.n) qLu h3,by simp_all⟩
   ·exact⟨true,f3 [11,24,50] (qFf k.n) qLu h3,by simp_all⟩
  | _=>have:=congrArg zZ3 h;rw [qZ5,qZ5] at this;cases this
 | .n2 k a c=>zVy fun b h=>by
  cases b with
  | n2 l b d =>
   cases K2.inj h
   obtain⟨r,h3,q3⟩:=qPs a b
   obtain⟨q,h4,q4⟩:=qPs c d
   cases r
   ·exact⟨false,f3 [11,24,50] (qFf k.n) qLu h3,by simp_all⟩
   ·cases q
    ·exact⟨false,f4 [11,24,50,50] (qFf k.n) qLu h3 h4,by simp_all⟩
    ·exact⟨true,f4 [11,24,50,50] (qFf k.n) qLu h3 h4,by simp_all⟩
  | _=>have:=congrArg zZ3 h;rw [qZ5,qZ5] at this;cases this
 | .n3 k s a c e=>zVy fun b h=>by
  cases b with
  | n3 l u b d f =>
   cases K3.inj h
   have h2:=a96 s u
   have e1:=qZ6 s u
   obtain⟨r,h3,q3⟩:=qPs a b
   obtain⟨q,h4,q4⟩:=qPs c d
   obtain⟨p,h5,q5⟩:=qPs e f
   cases e2:s.same u<;>rw [e2] at h2 e1
   ·exact⟨false,f2 [11,24] (qFf k.n) h2,by simp_all⟩
   cases r
   ·exact⟨false,f3 [11,24,50] (qFf k.n) h2 h3,by simp_all⟩
   cases q
   ·exact⟨false,f4 [11,24,50,50] (qFf k.n) h2 h3 h4,by simp_all⟩
   cases p
   ·exact⟨false,f5 [11,24,50,50,50] (qFf k.n) h2 h3 h4 h5,by simp_all⟩
   ·exact⟨true,f5 [11,24,50,50,50] (qFf k.n) h2 h3 h4 h5,by simp_all⟩
  | _=>have:=congrArg zZ3 h;rw [qZ5,qZ5] at this;cases this
theorem zCv (a b:Tm):∃ r,A 379 [a.p,b.p] (.bool r)∧(r=true↔a=b):=by
 obtain⟨r,h,q⟩:=qPs a b
 exact⟨r,f1 [7] h,q⟩
abbrev szc (s:Ty):List PV:=[num s.kd,.slice s.es,num (ckN s.size 64)]
abbrev tzs (g:List Ty):PV:=.slice (g.map szc)
theorem qCz (s:Ty):(szc s).length=3:=rfl
def TR.nn:TR→Nat
 | .er _=>0
 | .ok s=>ckN s.size 64
def TR.q (r:TR):PV:=.tuple [.agg [num r.k,.slice r.l,num r.nn],num r.n]
theorem qC0 (s:Ty) (h:s.size≤big):A 178 [s.p] (.agg (szc s)):=f1 [7] (zVx s h)
theorem zAz (s u:Ty):∃ r,A 252 [.agg (szc s),.agg (szc u)] (.bool r)∧r=s.same u:=by
 cases e:eqI (.ofNat (ckN s.size 64)) (.ofNat (ckN u.size 64))
 ·refine⟨false,f1 [9] e,?_⟩
  cases h:s.same u with
  | false=>rfl
  | true=>rw [(qZ6 s u).1 h,qLg] at e;cases e
 ·exact⟨s.same u,f2 [9,15] e (a96 s u),rfl⟩
theorem zCw (k:Bool) (s u:Ty) (h1:s.size≤64) (h2:u.size≤64):∃ r:TR,A 179 [num (bn k 3 4),.agg (szc s),.agg (szc u)] r.q∧r.sz≤64∧r = .fit (.two k s u):=by
 have e1:=(qGp h1).1
 have e2:=(qGp h2).1
 unfold szc
 rw [e1,e2]
 have hb:=qQk
 have g1:inB (.ofNat (1+s.size))=true:=inb (by omega)
 have g2:inB (.ofNat (1+s.size+u.size))=true:=inb (by omega)
 by_cases h:1+s.size+u.size≤64
 ·have e:ltI (.ofNat 64) (.ofNat (1+s.size+u.size))=false:=qZ4 h
  have e3:ckN (1+s.size+u.size) 64=1+s.size+u.size:=(qGp h).1
  have e4:(TR.ok (.two k s u)).q = .tuple [.agg [num (bn k 3 4),.slice [s.c,u.c],num (1+s.size+u.size)],num 0]:=by
   show PV.tuple [.agg [num (Ty.two k s u).kd,.slice [s.c,u.c],num (ckN (1+s.size+u.size) 64)],num 0]=_
   rw [e3]
   cases k<;>rfl
  refine⟨.ok (.two k s u),?_,h,by unfold TR.fit;rw [if_pos (show (Ty.two k s u).size≤64 from h)]⟩
  rw [e4]
  exact f3 [(11,.ok),(14,.ok),16] g1 g2 e
 ·have e:ltI (.ofNat 64) (.ofNat (1+s.size+u.size))=true:=qWz (by omega)
  exact⟨.er 3,f3 [(11,.ok),(14,.ok),16] g1 g2 e,Nat.zero_le _,by unfold TR.fit;rw [if_neg (show ¬(Ty.two k s u).size≤64 from h)]⟩
abbrev zs3:List PV:=[num 0,.slice [],num 0]
theorem zW8 (k:K0):∃ r:TR,A 180 [(Tm.n0 k).p,.agg (zs3++zs3++zs3)] r.q∧r.sz≤64∧r=(Tm.n0 k).tyR []:=by
 cases k
 ·exact⟨.ok .nat,f1 [37] (qC0 .nat (by decide)),by decide,rfl⟩
 ·exact⟨.ok .list,f1 [37] (qC0 .list (by decide)),by decide,rfl⟩
 ·exact⟨.ok .unit,f1 [37] (qC0 .unit (by decide)),by decide,rfl⟩
theorem zW9 (k:K1) (a:Tm) (s:Ty) (h:s.size≤64):∃ r:TR,A 180 [(Tm.n1 k a).p,.agg (szc s++zs3++zs3)] r.q∧r.sz≤64∧r=ty1 k (.ok s):=by
 have hb:=qQk
 cases k
 ·cases s with
  | nat=>exact⟨.ok .nat,f1 [37] (qC0 .nat (by decide)),by decide,rfl⟩
  | two k s u=>cases k<;>exact⟨.er 6,f0 [],Nat.zero_le _,rfl⟩
  | _=>exact⟨.er 6,f0 [],Nat.zero_le _,rfl⟩
 ·cases s with
  | two k s u =>
   have h:1+s.size+u.size≤64:=h
   cases k
   ·exact⟨.ok s,f1 [(110,.n [(11,.r (.agg (szc s)))])] (qC0 s (by omega)),by show s.size≤64;omega,rfl⟩
   ·exact⟨.er 6,f0 [],Nat.zero_le _,rfl⟩
  | _=>exact⟨.er 6,f0 [],Nat.zero_le _,rfl⟩
 ·cases s with
  | two k s u =>
   have h:1+s.size+u.size≤64:=h
   cases k
   ·exact⟨.ok u,f1 [(113,.n [(11,.r (.agg (szc u)))])] (qC0 u (by omega)),by show u.size≤64;omega,rfl⟩
   ·exact⟨.er 6,f0 [],Nat.zero_le _,rfl⟩
  | _=>exact⟨.er 6,f0 [],Nat.zero_le _,rfl⟩
theorem zKa (k:K2) (a b:Tm) (s v:Ty) (h:s.size≤64) (h':v.size≤64):∃ r:TR,A 180 [(Tm.n2 k a b).p,.agg (szc s++szc v++zs3)] r.q∧r.sz≤64∧r=ty2 k (.ok s) (.ok v):=by
 have hb:=qQk
 cases k
 ·cases s with
  | two k s u =>
   have h:1+s.size+u.size≤64:=h
   cases k
   ·exact⟨.er 6,f0 [],Nat.zero_le _,rfl⟩
   ·obtain⟨b,g,hb'⟩:=zAz s v
    cases b
    ·exact⟨.er 6,f2 [(49,.n [(11,.r (.agg (szc s)))]),52] (qC0 s (by omega)) g,Nat.zero_le _,by show _=bif s.same v then _ else _;rw [← hb'];rfl⟩
    ·exact⟨.ok u,f3 [(49,.n [(11,.r (.agg (szc s)))]),52,(58,.n [(11,.r (.agg (szc u)))])] (qC0 s (by omega)) g (qC0 u (by omega)),by show u.size≤64;omega,by show _=bif s.same v then _ else _;rw [← hb'];rfl⟩
  | _=>exact⟨.er 6,f0 [],Nat.zero_le _,rfl⟩
 ·cases s with
  | nat=>cases v with
   | list=>exact⟨.ok .list,f1 [37] (qC0 .list (by decide)),by decide,rfl⟩
   | two k s u=>cases k<;>exact⟨.er 6,f0 [],Nat.zero_le _,rfl⟩
   | _=>exact⟨.er 6,f0 [],Nat.zero_le _,rfl⟩
  | two k s u=>cases k<;>exact⟨.er 6,f0 [],Nat.zero_le _,rfl⟩
  | _=>exact⟨.er 6,f0 [],Nat.zero_le _,rfl⟩
 ·obtain⟨r,g,g',g2⟩:=zCw false s v h h'
  cases r with
  | er n=>exact⟨.er n,f1 [97] g,g',g2⟩
  | ok w=>exact⟨.ok w,f1 [97] g,g',g2⟩
def qGq:K3→Ty→Ty
 | .re,s => .two true .nat (.two true s s)
 | .fo,s => .two true .nat (.two true .list (.two true s s))
theorem zEe (k:K3) (s:Ty) (a b c:Tm):A 253 [(Tm.n3 k s a b c).p] (qGq k s).p:=by
 cases k<;>exact f0 []
theorem zKb (k:K3) (z:Ty) (a b c:Tm) (s v w:Ty) (h:z.size≤64):∃ r:TR,A 180 [(Tm.n3 k z a b c).p,.agg (szc s++szc v++szc w)] r.q∧r.sz≤64∧r=ty3 k z (.ok s) (.ok v) (.ok w):=by
 have hb:=qQk
 have g1:=qC0 z (by omega)
 obtain⟨b1,g2,hs⟩:=zAz s z
 have g3:=zEe k z a b c
 have g4:=a96 v (qGq k z)
 cases b1
 ·cases k<;>exact⟨.er 6,f2 [64,71] g1 g2,Nat.zero_le _,by simp only [ty3,← hs,cond_false]⟩
 cases e:v.same (qGq k z)<;>rw [e] at g4
 ·cases k
  ·exact⟨.er 6,f4 [64,71,78,79] g1 g2 g3 g4,Nat.zero_le _,by simp only [qGq] at e;simp only [ty3,← hs,e,cond_false,cond_true]⟩
  ·exact⟨.er 6,f4 [64,71,78,79] g1 g2 g3 g4,Nat.zero_le _,by simp only [qGq] at e;simp only [ty3,← hs,e,cond_false,cond_true]⟩
 ·have key:(∃ r:TR,A 180 [(Tm.n3 k z a b c).p,.agg (szc s++szc v++szc w)] r.q∧r.sz≤64∧r=ty3 k z (.ok s) (.ok v) (.ok w)):=by
   cases w with
   | two l w1 w2 =>
    cases l<;>cases k
    ·exact⟨.er 6,f4 [64,71,78,79] g1 g2 g3 g4,Nat.zero_le _,by simp only [qGq] at e;simp only [ty3,← hs,e,cond_true];rfl⟩
    ·exact⟨.er 6,f4 [64,71,78,79] g1 g2 g3 g4,Nat.zero_le _,by simp only [qGq] at e;simp only [ty3,← hs,e,cond_true];rfl⟩
    ·exact⟨.er 6,f4 [64,71,78,79] g1 g2 g3 g4,Nat.zero_le _,by simp only [qGq] at e;simp only [ty3,← hs,e,cond_true];rfl⟩
    ·exact⟨.er 6,f4 [64,71,78,79] g1 g2 g3 g4,Nat.zero_le _,by simp only [qGq] at e;simp only [ty3,← hs,e,cond_true];rfl⟩
   | nat =>
     cases k
     ·exact⟨.ok z,f4 [64,71,78,79] g1 g2 g3 g4,h,by simp only [qGq] at e;simp only [ty3,← hs,e,cond_true];rfl⟩
     ·exact⟨.er 6,f4 [64,71,78,79] g1 g2 g3 g4,Nat.zero_le _,by simp only [qGq] at e;simp only [ty3,← hs,e,cond_true];rfl⟩
   | list =>
     cases k
     ·exact⟨.er 6,f4 [64,71,78,79] g1 g2 g3 g4,Nat.zero_le _,by simp only [qGq] at e;simp only [ty3,← hs,e,cond_true];rfl⟩
     ·exact⟨.ok z,f4 [64,71,78,79] g1 g2 g3 g4,h,by simp only [qGq] at e;simp only [ty3,← hs,e,cond_true];rfl⟩
   | unit =>
    cases k
    ·exact⟨.er 6,f4 [64,71,78,79] g1 g2 g3 g4,Nat.zero_le _,by simp only [qGq] at e;simp only [ty3,← hs,e,cond_true];rfl⟩
    ·exact⟨.er 6,f4 [64,71,78,79] g1 g2 g3 g4,Nat.zero_le _,by simp only [qGq] at e;simp only [ty3,← hs,e,cond_true];rfl⟩
  exact key
open Go.Lg
set_option maxRecDepth 100000
def Tm.sc:Nat→Tm→Prop
 | n,.v i=>i<n
 | n,.lam _ b=>b.sc (n+1)
 | _,.n0 _=>True
 | n,.n1 _ a=>a.sc n
 | n,.n2 _ a b=>a.sc n∧b.sc n
 | n,.n3 _ _ a b d=>a.sc n∧b.sc n∧d.sc n
theorem zZ9 {s:Ty} (h:Nat.beq s.chk 0=true):s.size≤64:=ckE_0.1 (Nat.eq_of_beq_eq_true h)
abbrev T94 (g:List Ty) (t:Tm) (r:TR):Prop:=A 101 [tzs g,t.p] r.q∧r.sz≤64∧(∀ s,r = .ok s→t.sc g.length)∧r=t.tyR g
theorem qT9 {g:List Ty} {t:Tm} {n:Nat} (h:A 101 [tzs g,t.p] (TR.er n).q) (e:TR.er n=t.tyR g):∃ r:TR,T94 g t r:=⟨.er n,h,Nat.zero_le _,(fun _ h=>nomatch h),e⟩
theorem qLh {g:List Ty} {t:Tm} {r:TR} (h:t.sc g.length) (h1:A 101 [tzs g,t.p] r.q) (h2:r.sz≤64) (e:r=t.tyR g):∃ r:TR,T94 g t r:=⟨r,h1,h2,fun _ _=>h,e⟩
theorem a94:∀ (t:Tm) (g:List Ty),(∀ s∈g,s.size≤64)→t.shp=true→g.length+t.cnt≤mid→∃ r:TR,T94 g t r
 | .v i,g,hg,_,hl=>by
  have hm:=qQh
  by_cases h:i<g.length
  ·obtain⟨s,hx⟩:∃ s,g[g.length-1-i]? = some s:=⟨_,List.getElem?_eq_getElem (by omega)⟩
   have h1:(!ltI (.ofNat i) (.ofNat (g.map szc).length))=false:=by rw [qWz (by simp_all)];rfl
   have h2:inB (Int.ofNat (g.map szc).length-1)=true∧Int.ofNat (g.map szc).length-1 = .ofNat (g.length-1):=by
    have e:Int.ofNat (g.map szc).length-1 = .ofNat (g.length-1):=by simp;omega
    grind [inN]
   have h3:inB (Int.ofNat (g.length-1) - .ofNat i)=true∧Int.ofNat (g.length-1) - .ofNat i = .ofNat (g.length-1-i):=by
    have e:Int.ofNat (g.length-1) - .ofNat i = .ofNat (g.length-1-i):=by simp;omega
    grind [inN]
   exact qLh (r:=.ok s) h (f4 [21,26,29,(30,.i (szc s))] h1 h2 h3 (qQ3 hx qCz)) (hg s (List.mem_of_getElem? hx)) (by show _=tyV g i;unfold tyV;rw [if_pos h,hx])
  ·have h1:(!ltI (.ofNat i) (.ofNat (g.map szc).length))=true:=by rw [qZ4 (by simp_all)];rfl
   exact qT9 (n:=5) (f1 [21] h1) (by show _=tyV g i;unfold tyV;rw [if_neg h])
 | .lam s b,g,hg,hs,hl=>by
  have hm:=qQh
  have hb:=qQk
  have hl:g.length+(1+b.cnt)≤mid:=hl
  obtain⟨hs1,hs2⟩:=qZ1 hs
  have hz:=zZ9 hs1
  have g1:=qXh (g.map szc).length
  have g2:=qN5 3 40 qCz (by decide) g s (by omega) (by simp only [maxLen];omega)
  obtain⟨r,q1,q2,q3,q0⟩:=a94 b (g++[s]) (fun u hu=>by grind) hs2 (by simp;omega)
  rw [show tzs (g++[s]) = .slice (g.map szc++[szc s]) by simp [tzs]] at q1
  cases r with
  | er n=>exact qT9 (n:=n) (f4 [37,(44,.ok),(47,.ok),52] (qC0 s (by omega)) g1 g2 q1) (by show _=tyL s (b.tyR (g++[s]));rw [← q0];rfl)
  | ok u =>
   have hsc:(Tm.lam s b).sc g.length:=by have:=q3 u rfl;grind [Tm.sc]
   obtain⟨r,q4,q5,q6⟩:=zCw true s u hz q2
   exact qLh hsc (f5 [37,(44,.ok),(47,.ok),52,61] (qC0 s (by omega)) g1 g2 q1 q4) q5 (by show _=tyL s (b.tyR (g++[s]));rw [← q0];exact q6)
 | .n0 k,g,hg,hs,hl=>by
  obtain⟨r,q4,q5,q6⟩:=zW8 k
  cases k<;>exact qLh trivial (f1 [88] q4) q5 q6
 | .n1 k a,g,hg,hs,hl=>by
  have hl:g.length+(1+a.cnt)≤mid:=hl
  obtain⟨r,q1,q2,q3,q0⟩:=a94 a g hg hs (by omega)
  cases r with
  | er n=>cases k<;>exact qT9 (n:=n) (f1 [75] q1) (by show _=ty1 _ (a.tyR g);rw [← q0];rfl)
  | ok u =>
   have hsc:(Tm.n1 k a).sc g.length:=q3 u rfl
   obtain⟨r,q4,q5,q6⟩:=zW9 k a u q2
   cases k<;>exact qLh hsc (f2 [75,88] q1 q4) q5 (by show _=ty1 _ (a.tyR g);rw [← q0];exact q6)
 | .n2 k a b,g,hg,hs,hl=>by
  have hl:g.length+(1+a.cnt+b.cnt)≤mid:=hl
  obtain⟨hs1,hs2⟩:=qZ1 hs
  obtain⟨r,q1,q2,q3,q0⟩:=a94 a g hg hs1 (by omega)
  cases r with
  | er n=>cases k<;>exact qT9 (n:=n) (f1 [75] q1) (by show _=ty2 _ (a.tyR g) (b.tyR g);rw [← q0];rfl)
  | ok u =>
   obtain⟨r,p1,p2,p3,p0⟩:=a94 b g hg hs2 (by omega)
   cases r with
   | er n=>cases k<;>exact qT9 (n:=n) (f2 [75,75] q1 p1) (by show _=ty2 _ (a.tyR g) (b.tyR g);rw [← q0,← p0];rfl)
   | ok v =>
    have hsc:(Tm.n2 k a b).sc g.length:=⟨q3 u rfl,p3 v rfl⟩
    obtain⟨r,q4,q5,q6⟩:=zKa k a b u v q2 p2
    cases k<;>exact qLh hsc (f3 [75,75,88] q1 p1 q4) q5 (by show _=ty2 _ (a.tyR g) (b.tyR g);rw [← q0,← p0];exact q6)
 | .n3 k s a b c,g,hg,hs,hl=>by
  have hl:g.length+(1+a.cnt+b.cnt+c.cnt)≤mid:=hl
  obtain⟨hs0,hs⟩:=qZ1 hs
  obtain⟨hs1,hs⟩:=qZ1 hs
  obtain⟨hs2,hs3⟩:=qZ1 hs
  obtain⟨r,q1,q2,q3,q0⟩:=a94 a g hg hs1 (by omega)
  cases r with
  | er n=>cases k<;>exact qT9 (n:=n) (f1 [75] q1) (by show _=ty3 _ s (a.tyR g) (b.tyR g) (c.tyR g);rw [← q0];rfl)
  | ok u =>
   obtain⟨r,p1,p2,p3,p0⟩:=a94 b g hg hs2 (by omega)
   cases r with
   | er n=>cases k<;>exact qT9 (n:=n) (f2 [75,75] q1 p1) (by show _=ty3 _ s (a.tyR g) (b.tyR g) (c.tyR g);rw [← q0,← p0];rfl)
   | ok v =>
    obtain⟨r,o1,o2,o3,o0⟩:=a94 c g hg hs3 (by omega)
    cases r with
    | er n=>cases k<;>exact qT9 (n:=n) (f3 [75,75,75] q1 p1 o1) (by show _=ty3 _ s (a.tyR g) (b.tyR g) (c.tyR g);rw [← q0,← p0,← o0];rfl)
    | ok w =>
     have hsc:(Tm.n3 k s a b c).sc g.length:=⟨q3 u rfl,p3 v rfl,o3 w rfl⟩
     obtain⟨r,q4,q5,q6⟩:=zKb k s a b c u v w (zZ9 hs0)
     cases k<;>exact qLh hsc (f4 [75,75,75,88] q1 p1 o1 q4) q5 (by show _=ty3 _ s (a.tyR g) (b.tyR g) (c.tyR g);rw [← q0,← p0,← o0];exact q6)
theorem zA0 (g:List Ty) (t:Tm) (n:Nat) (hg:∀ s∈g,s.size≤64) (h1:t.shp=true) (h2:g.length+t.cnt≤mid):∃ e,A 272 [tzs g,t.p,num n] (num e)∧(e=0→t.sc g.length)∧(∀ s,t.tyR g = .ok s→s.kd=n→e=0):=by
 obtain⟨r,q1,q2,q3,q4⟩:=a94 t g hg h1 h2
 cases r with
 | er e=>exact⟨e+1,f1 [12] q1,(fun h=>nomatch h),fun s h=>by rw [← q4] at h;cases h⟩
 | ok s =>
  by_cases c:s.kd=n
  ·exact⟨0,f2 [12,(20,.n [(9,.G)])] q1 (show eqI (.ofNat s.kd) (.ofNat n)=true by rw [c];exact qLg n),(fun _=>q3 s rfl),fun _ _ _=>rfl⟩
  ·exact⟨7,f2 [12,(20,.n [(9,.H)])] q1 (qGo c),(fun h=>nomatch h),fun u h hk=>by grind⟩
theorem zA1 (g:List Ty) (t:Tm) (hg:∀ s∈g,s.size≤64) (h1:t.shp=true) (h2:g.length+t.cnt≤mid):∃ e,A 274 [tzs g,t.p] (num e)∧(e=0→t.sc g.length)∧(t.tyR g = .ok .nat→e=0):=by
 obtain⟨e,q1,q2,q3⟩:=zA0 g t 1 hg h1 h2
 exact⟨e,f1 [7] q1,q2,fun h=>q3 _ h rfl⟩
def Fm.frm:Fm→Bool
 | .q _ s _=>Nat.beq s.chk 0
 | _=>true
theorem zA2 (f:Fm) (h:f.tsz≤big):A 351 [f.p] (.bool f.frm):=by
 cases f with
 | eq a b=>exact f1 [31] qY8
 | bin k f g=>cases k<;>exact f1 [31] qY8
 | q k s f =>
  have h:max s.size f.tsz≤big:=h
  have h1:=zVx s (by omega)
  show A 351 [(Fm.q k s f).p] (.bool (Nat.beq s.chk 0))
  rcases qZp s with e|e<;>rw [qWo] at e<;>rw [e] at h1<;>rw [qWo,e]
  ·cases k<;>exact f1 [24] h1
  ·cases k<;>exact f1 [24] h1
def Fm.nd (f:Fm):Nat:=match f.shp with
 | true=>f.cnt
 | false=>0
theorem zYk:∀ f:Fm,f.tsz≤big→f.cnt≤big→A 315 [f.p] (.tuple [num f.nd,.bool f.shp])
 | .eq a b,h,hc=>by
  have h:max a.tsz b.tsz≤big:=h
  have hc:1+a.cnt+b.cnt≤big:=hc
  have h1:=qPr a (by omega) (by omega)
  have h2:=qPr b (by omega) (by omega)
  have hc1:inB (.ofNat (1+a.cnt))=true:=inb (by omega)
  have h0:=zA2 (.eq a b) h
  unfold Fm.nd Tm.nd at *
  show A 315 [(Fm.eq a b).p] (.tuple [num (match a.shp && b.shp with|true=>1+a.cnt+b.cnt|false=>0),.bool (a.shp && b.shp)])
  cases e1:a.shp<;>rw [e1] at h1
  ·exact f2 [14,25] h0 h1
  ·cases e2:b.shp<;>rw [e2] at h2
   ·exact f4 [14,25,(32,.ok),25] h0 h1 hc1 h2
   ·exact f5 [14,25,(32,.ok),25,(32,.ok)] h0 h1 hc1 h2 (inb hc)
 | .bin k a b,h,hc=>by
  have h:max a.tsz b.tsz≤big:=h
  have hc:1+a.cnt+b.cnt≤big:=hc
  have h1:=zYk a (by omega) (by omega)
  have h2:=zYk b (by omega) (by omega)
  have hc1:inB (.ofNat (1+a.cnt))=true:=inb (by omega)
  have h0:=zA2 (.bin k a b) h
  unfold Fm.nd at *
  show A 315 [(Fm.bin k a b).p] (.tuple [num (match a.shp && b.shp with|true=>1+a.cnt+b.cnt|false=>0),.bool (a.shp && b.shp)])
  cases e1:a.shp<;>rw [e1] at h1
  ·cases k<;>exact f2 [14,43] h0 h1
  ·cases e2:b.shp<;>rw [e2] at h2
   ·cases k<;>exact f4 [14,43,(50,.ok),43] h0 h1 hc1 h2
   ·cases k<;>exact f5 [14,43,(50,.ok),43,(50,.ok)] h0 h1 hc1 h2 (inb hc)
 | .q k s a,h,hc=>by
  have h0:A 351 [(Fm.q k s a).p] (.bool (Nat.beq s.chk 0)):=zA2 (.q k s a) h
  have h:max s.size a.tsz≤big:=h
  have hc:1+a.cnt≤big:=hc
  have h1:=zYk a (by omega) (by omega)
  unfold Fm.nd at *
  show A 315 [(Fm.q k s a).p] (.tuple [num (match Nat.beq s.chk 0 && a.shp with|true=>1+a.cnt|false=>0),.bool (Nat.beq s.chk 0 && a.shp)])
  cases e0:Nat.beq s.chk 0<;>rw [e0] at h0
  ·cases k<;>exact f1 [14] h0
  ·cases e1:a.shp<;>rw [e1] at h1
   ·cases k<;>exact f2 [14,43] h0 h1
   ·cases k<;>exact f3 [14,43,(50,.ok)] h0 h1 (inb hc)
def Fm.ckn (f:Fm):Nat:=match f.chk with
 | 0=>f.cnt
 | _=>0
theorem zYl (f:Fm) (h1:f.tsz≤big) (h2:f.cnt≤big):A 245 [f.p] (.tuple [num f.ckn,num f.chk]):=by
 have h3:=zYk f h1 h2
 unfold Fm.nd at h3
 unfold Fm.ckn Fm.chk
 cases e:f.shp<;>rw [e] at h3
 ·exact f1 [8] h3
 ·cases e2:ltI (.ofNat 4096) (.ofNat f.cnt)
  ·exact f2 [8,16] h3 e2
  ·exact f2 [8,16] h3 e2
theorem Fm.ckn0 {f:Fm} (h:f.chk=0):f.ckn=f.cnt:=by unfold Fm.ckn;split<;>simp_all
theorem a89 (f:Fm) (h1:f.tsz≤big) (h2:f.cnt≤big):A 174 [f.p] (num f.chk):=f1 [7] (zYl f h1 h2)
theorem a296 (f:Fm) (h1:f.tsz≤big) (h2:f.cnt≤big):A 334 [f.p] (.tuple [num f.ckn,num f.chk]):=f1 [5] (zYl f h1 h2)
end Go.Proofs.YtbbbnbikmbaejaaGreatDoor
