/- Contracts of functions; no conditions. -/
import Derived.Test.YtbebdmlomjpamaaGreatDoorAccC1
import Derived.Test.YtbebdmlomjpamaaGreatDoorAccB2
set_option linter.all false
namespace Go.Proofs.YtbebdmlomjpamaaGreatDoor
open Go.Lg
set_option maxRecDepth 100000
noncomputable def fl:List Func:=Tryz.prog.funcs.toList
noncomputable def F(f:Nat):Option Func:=nB fl f
def deB:List PV:=[.num .u8 (.ofNat 0),.num .u8 (.ofNat 1),.num .u8 (.ofNat 28),.num .u8 (.ofNat 2),.num .u8 (.ofNat 29),.num .u8 (.ofNat 14),.num .u8 (.ofNat 24),.num .u8 (.ofNat 3),.num .u8 (.ofNat 30),.num .u8 (.ofNat 22),.num .u8 (.ofNat 20),.num .u8 (.ofNat 15),.num .u8 (.ofNat 25),.num .u8 (.ofNat 17),.num .u8 (.ofNat 4),.num .u8 (.ofNat 8),.num .u8 (.ofNat 31),.num .u8 (.ofNat 27),.num .u8 (.ofNat 13),.num .u8 (.ofNat 23),.num .u8 (.ofNat 21),.num .u8 (.ofNat 19),.num .u8 (.ofNat 16),.num .u8 (.ofNat 7),.num .u8 (.ofNat 26),.num .u8 (.ofNat 12),.num .u8 (.ofNat 18),.num .u8 (.ofNat 6),.num .u8 (.ofNat 11),.num .u8 (.ofNat 5),.num .u8 (.ofNat 10),.num .u8 (.ofNat 9)]
def arB:List PV:=[.int (.ofNat 0),.int (.ofNat 0),.int (.ofNat 1),.int (.ofNat 2),.int (.ofNat 0),.int (.ofNat 1),.int (.ofNat 3),.int (.ofNat 0),.int (.ofNat 2),.int (.ofNat 3),.int (.ofNat 2),.int (.ofNat 1),.int (.ofNat 1),.int (.ofNat 0)]
def rlB:List PV:=[.bool false,.bool false,.int (.ofNat 0),.int (.ofNat 0),.int (.ofNat 0),.int (.ofNat 0),.int (.ofNat 0),.int (.ofNat 0),.bool true,.bool false,.int (.ofNat 0),.int (.ofNat 0),.int (.ofNat 0),.int (.ofNat 0),.int (.ofNat 0),.int (.ofNat 0),.bool true,.bool false,.int (.ofNat 0),.int (.ofNat 0),.int (.ofNat 0),.int (.ofNat 0),.int (.ofNat 0),.int (.ofNat 0),.bool false,.bool false,.int (.ofNat 0),.int (.ofNat 0),.int (.ofNat 2),.int (.ofNat 0),.int (.ofNat 0),.int (.ofNat 0),.bool false,.bool false,.int (.ofNat 0),.int (.ofNat 0),.int (.ofNat 1),.int (.ofNat 0),.int (.ofNat 0),.int (.ofNat 0),.bool false,.bool false,.int (.ofNat 0),.int (.ofNat 0),.int (.ofNat 1),.int (.ofNat 0),.int (.ofNat 0),.int (.ofNat 0),.bool false,.bool false,.int (.ofNat 0),.int (.ofNat 1),.int (.ofNat 1),.int (.ofNat 0),.int (.ofNat 0),.int (.ofNat 1),.bool false,.bool false,.int (.ofNat 0),.int (.ofNat 0),.int (.ofNat 2),.int (.ofNat 0),.int (.ofNat 0),.int (.ofNat 0),.bool false,.bool true,.int (.ofNat 0),.int (.ofNat 0),.int (.ofNat 1),.int (.ofNat 0),.int (.ofNat 1),.int (.ofNat 0),.bool false,.bool false,.int (.ofNat 1),.int (.ofNat 0),.int (.ofNat 1),.int (.ofNat 0),.int (.ofNat 0),.int (.ofNat 0),.bool false,.bool false,.int (.ofNat 1),.int (.ofNat 1),.int (.ofNat 1),.int (.ofNat 0),.int (.ofNat 0),.int (.ofNat 0),.bool false,.bool false,.int (.ofNat 0),.int (.ofNat 0),.int (.ofNat 2),.int (.ofNat 0),.int (.ofNat 1),.int (.ofNat 1),.bool false,.bool true,.int (.ofNat 0),.int (.ofNat 0),.int (.ofNat 1),.int (.ofNat 0),.int (.ofNat 1),.int (.ofNat 0),.bool false,.bool false,.int (.ofNat 1),.int (.ofNat 0),.int (.ofNat 1),.int (.ofNat 0),.int (.ofNat 0),.int (.ofNat 0),.bool false,.bool false,.int (.ofNat 1),.int (.ofNat 1),.int (.ofNat 1),.int (.ofNat 0),.int (.ofNat 0),.int (.ofNat 0),.bool false,.bool false,.int (.ofNat 0),.int (.ofNat 0),.int (.ofNat 2),.int (.ofNat 0),.int (.ofNat 1),.int (.ofNat 1),.bool false,.bool false,.int (.ofNat 1),.int (.ofNat 1),.int (.ofNat 2),.int (.ofNat 1),.int (.ofNat 1),.int (.ofNat 1),.bool false,.bool false,.int (.ofNat 1),.int (.ofNat 1),.int (.ofNat 2),.int (.ofNat 1),.int (.ofNat 2),.int (.ofNat 1),.bool false,.bool false,.int (.ofNat 1),.int (.ofNat 0),.int (.ofNat 0),.int (.ofNat 0),.int (.ofNat 0),.int (.ofNat 0),.bool false,.bool false,.int (.ofNat 0),.int (.ofNat 1),.int (.ofNat 2),.int (.ofNat 1),.int (.ofNat 0),.int (.ofNat 0),.bool false,.bool false,.int (.ofNat 0),.int (.ofNat 0),.int (.ofNat 1),.int (.ofNat 0),.int (.ofNat 0),.int (.ofNat 0)]
def gl:Nat->Option (List PV)|0=>some rlB|1=>some deB|2=>some arB|_=>none
noncomputable def ev:SA:=⟨tt,gl,F,λ_ _=>none⟩
theorem nl:Tryz.prog.funcs=fl.toArray:=rfl
theorem Cz:fl.all (λfn=> !(fn.name== "runtime.NumGoroutine"))=true:=bG
def evOK:IG ev Tryz.prog:=by
 refine⟨iw,λf fn h=>?_,λf args x h=>(by cases h),ow⟩;have h:fl[f]? =some fn:=by rw[<-mI];exact h
 grind[nl,Cz,List.mem_of_getElem]
abbrev num(n:Nat):PV:=.int (.ofNat n)
abbrev _root_.Go.Lg.De.N(n:Nat):De:=.r (num n)
inductive Ty where|nat|list|unit|two (k:Bool) (a b:Ty)
def Ty.kd:Ty->Nat
 |.nat=>1|.list=>2|.unit=>5|.two k _ _=>match k with|true=>4|false=>3
def Ty.es:Ty->List (List PV)|.two _ a b=>[[num a.kd,.slice a.es],[num b.kd,.slice b.es]]|_=>[]
def Ty.c(t:Ty):List PV:=[num t.kd,.slice t.es]
def Ty.p(t:Ty):PV:=.agg t.c
abbrev _root_.Go.Lg.De.Y:De:=.r Ty.nat.p
inductive K0 where|zero|nil|unit
inductive K1 where|succ|fst|snd
inductive K2 where|app|cons|pair
inductive K3 where|re|fo
def K0.n:K0->Nat|.zero=>4|.nil=>7|.unit=>13
def K1.n:K1->Nat|.succ=>5|.fst=>11|.snd=>12
def K2.n:K2->Nat|.app=>3|.cons=>8|.pair=>10
def K3.n:K3->Nat|.re=>6|.fo=>9
inductive Tm where|v (i:Nat)|lam (s:Ty) (b:Tm)|n0 (k:K0)|n1 (k:K1) (a:Tm)|n2 (k:K2) (a b:Tm)|n3 (k:K3) (s:Ty) (a b c:Tm)
def Tm.kd:Tm->Nat|.v _=>1|.lam _ _=>2|.n0 k=>k.n|.n1 k _=>k.n|.n2 k _ _=>k.n|.n3 k _ _ _ _=>k.n
def Tm.ix:Tm->Nat|.v i=>i|_=>0
def Tm.tk:Tm->Nat|.lam s _=>s.kd|.n3 _ s _ _ _=>s.kd|_=>0
def Tm.te:Tm->List (List PV)|.lam s _=>s.es|.n3 _ s _ _ _=>s.es|_=>[]
def Tm.es:Tm->List (List PV)|.lam _ b=>[[num b.kd,num b.ix,num b.tk,.slice b.te,.slice b.es]]|.n1 _ a=>[[num a.kd,num a.ix,num a.tk,.slice a.te,.slice a.es]]|.n2 _ a b=>[[num a.kd,num a.ix,num a.tk,.slice a.te,.slice a.es],[num b.kd,num b.ix,num b.tk,.slice b.te,.slice b.es]]|.n3 _ _ a b c=>[[num a.kd,num a.ix,num a.tk,.slice a.te,.slice a.es],[num b.kd,num b.ix,num b.tk,.slice b.te,.slice b.es],[num c.kd,num c.ix,num c.tk,.slice c.te,.slice c.es]]|_=>[]
def Tm.c(t:Tm):List PV:=[num t.kd,num t.ix,num t.tk,.slice t.te,.slice t.es]
def Tm.p(t:Tm):PV:=.agg t.c
inductive FB where|and|imp
inductive FQ where|all|ex|allU|exU
def FB.n:FB->Nat|.and=>2|.imp=>3
def FQ.n:FQ->Nat|.all=>4|.ex=>5|.allU=>6|.exU=>7
inductive Fm where|eq (a b:Tm)|bin (k:FB) (f g:Fm)|q (k:FQ) (s:Ty) (f:Fm)
def Fm.kd:Fm->Nat|.eq _ _=>1|.bin k _ _=>k.n|.q k _ _=>k.n
def Fm.tk:Fm->Nat|.q _ s _=>s.kd|_=>0
def Fm.te:Fm->List (List PV)|.q _ s _=>s.es|_=>[]
def Fm.ts:Fm->List (List PV)|.eq a b=>[a.c,b.c]|_=>[]
def Fm.es:Fm->List (List PV)|.bin _ f g=>[[num f.kd,num f.tk,.slice f.te,.slice f.ts,.slice f.es],[num g.kd,num g.tk,.slice g.te,.slice g.ts,.slice g.es]]|.q _ _ f=>[[num f.kd,num f.tk,.slice f.te,.slice f.ts,.slice f.es]]|_=>[]
def Fm.c(f:Fm):List PV:=[num f.kd,num f.tk,.slice f.te,.slice f.ts,.slice f.es]
def Fm.p(f:Fm):PV:=.agg f.c
inductive P1 where|andL|andR|choice
inductive P2 where|andI|impE|exE|exUE
def P1.n:P1->Nat|.andL=>4|.andR=>5|.choice=>20
def P2.n:P2->Nat|.andI=>3|.impE=>7|.exE=>11|.exUE=>15
def bn(b:Bool)(x y:Nat):Nat:=match b with|false=>x|true=>y
inductive Pf where|leaf (u:Bool) (i:Nat)|refl (t:Tm)|p1 (k:P1) (a:Pf)|p2 (k:P2) (a b:Pf)|impI (f:Fm) (a:Pf)|all (u:Bool) (s:Ty) (a:Pf)|ins (u:Bool) (t:Tm) (a:Pf)|ex (u:Bool) (f:Fm) (t:Tm) (a:Pf)|ind (l:Bool) (f:Fm) (t:Tm) (a b:Pf)|subst (f:Fm) (a b:Pf)
def Pf.kd:Pf->Nat|.leaf u _=>bn u 1 2|.refl _=>18|.p1 k _=>k.n|.p2 k _ _=>k.n|.impI _ _=>6|.all u _ _=>bn u 8 12|.ins u _ _=>bn u 9 13|.ex u _ _ _=>bn u 10 14|.ind l _ _ _ _=>bn l 16 17|.subst _ _ _=>19
def Pf.ix:Pf->Nat|.leaf _ i=>i|_=>0
def Pf.tk:Pf->Nat|.all _ s _=>s.kd|_=>0
def Pf.te:Pf->List (List PV)|.all _ s _=>s.es|_=>[]
def Pf.ts:Pf->List (List PV)|.refl t=>[t.c]|.ins _ t _=>[t.c]|.ex _ _ t _=>[t.c]|.ind _ _ t _ _=>[t.c]|_=>[]
def Pf.fs:Pf->List (List PV)|.impI f _=>[f.c]|.ex _ f _ _=>[f.c]|.ind _ f _ _ _=>[f.c]|.subst f _ _=>[f.c]|_=>[]
def Pf.es:Pf->List (List PV)|.p1 _ a=>[[num a.kd,num a.ix,num a.tk,.slice a.te,.slice a.ts,.slice a.fs,.slice a.es]]|.impI _ a=>[[num a.kd,num a.ix,num a.tk,.slice a.te,.slice a.ts,.slice a.fs,.slice a.es]]|.all _ _ a=>[[num a.kd,num a.ix,num a.tk,.slice a.te,.slice a.ts,.slice a.fs,.slice a.es]]|.ins _ _ a=>[[num a.kd,num a.ix,num a.tk,.slice a.te,.slice a.ts,.slice a.fs,.slice a.es]]|.ex _ _ _ a=>[[num a.kd,num a.ix,num a.tk,.slice a.te,.slice a.ts,.slice a.fs,.slice a.es]]|.p2 _ a b=>[[num a.kd,num a.ix,num a.tk,.slice a.te,.slice a.ts,.slice a.fs,.slice a.es],[num b.kd,num b.ix,num b.tk,.slice b.te,.slice b.ts,.slice b.fs,.slice b.es]]|.ind _ _ _ a b=>[[num a.kd,num a.ix,num a.tk,.slice a.te,.slice a.ts,.slice a.fs,.slice a.es],[num b.kd,num b.ix,num b.tk,.slice b.te,.slice b.ts,.slice b.fs,.slice b.es]]|.subst _ a b=>[[num a.kd,num a.ix,num a.tk,.slice a.te,.slice a.ts,.slice a.fs,.slice a.es],[num b.kd,num b.ix,num b.tk,.slice b.te,.slice b.ts,.slice b.fs,.slice b.es]]|_=>[]
def Pf.c(a:Pf):List PV:=[num a.kd,num a.ix,num a.tk,.slice a.te,.slice a.ts,.slice a.fs,.slice a.es]
def Pf.p(a:Pf):PV:=.agg a.c
abbrev A(f:Nat)(args:List PV)(x:PV):Prop:=AC Tryz.prog gl f (args.map .pv) [] (.ret (.pv x)) []
abbrev U(f:Nat)(args:List PV)(tp:Di)(x:PV):Prop:=Ja ev Tryz.prog 100 6 f args tp x
abbrev O(f:Nat)(args:List V)(objs:List (Nat×Ob))(x:V)(objs':List (Nat×Ob)):Prop:=AC Tryz.prog gl f args objs (.ret x) objs'
abbrev UO(f:Nat)(args:List V)(objs:List (Nat×Ob))(m:Nat)(tp:Di)(x:V)(objs':List (Nat×Ob)):Prop:=Vh ev Tryz.prog 100 6 f args objs m tp x objs'
def WL:Code->List Code|.loop b=>b::WL b|.seq a b=>WL a++WL b|.cond _ a b=>WL a++WL b|.block _ b=>WL b|.scope b=>WL b|_=>[]
noncomputable def fnc(f:Nat):Func:=match nB fl f with|some fn=>fn|none=>Tryz.f0
noncomputable def Ic(f i:Nat):Code:=match (fnc f).body with
 |some c=>match nB (WL c) i with|some b=>b|none=>.skip
 |none=>.skip
abbrev st(sl:List (Nat×V))(ob:List (Nat×Ob))(nx:Nat)(dt:List Nat):IS:=⟨qJ sl .nil,QB ob .nil,nx,dt⟩
abbrev Lp(f i bs:Nat)(s:IS)(e:AE)(s':IS):Prop:=LoopIs ev Tryz.prog (fnc f).ntmps bs (Ic f i) s e s'
abbrev Rd(f i bs:Nat)(s:IS)(tp:Di)(ki ko:Kp)(e:AE)(s':IS):Prop:=Sh ev Tryz.prog 6 100 (fnc f).ntmps bs (Ic f i) s tp ki ko e s'
def kx:=@Nat.ble_eq_true_of_le
theorem BA{n:Nat}(h:n<=9223372036854775807):xA (.ofNat n)=true:=kx h
theorem KA{a b:Nat}(h:a<b):dA (.ofNat a) (.ofNat b)=true:=by rw[vC];simpa using h
theorem iA{a b:Nat}(h:b<=a):dA (.ofNat a) (.ofNat b)=false:=by rw[vC];simpa using h
def uC{α:Type}{g r:List α}{k:Nat}{t:α}(h:g.drop k=t::r):g[k]? =some t/\k<g.length/\g.drop (k+1)=r:=by
 have a:g[k]? =some t:=by
  have:=k0 (λm=>m[0]?) h
  grind
 refine⟨a,(gf.1 a).1,?_⟩;rw[<-lo,h];rfl
def rW{α:Type}{g:List α}{k:Nat}(h:g.drop k=[]):g.length<=k:=by simpa using h
abbrev kp(sl:List Nat):Kp:=⟨sl,[],0,[]⟩
def wQ{n:Nat}:∀{l:List (List PV)},(∀y∈l,y.length=n)->tB n l=true
 |[],_=>rfl|y::r,h=>by
  unfold tB;rw[ME (h y a8),gb];exact wQ λz a=>h z (by simp[a])
def EA{α:Type}{c:α->List PV}{g:List α}{k:Nat}{t:α}{n:Nat}(h:g[k]? =some t)(a:∀t,(c t).length=n):nB (g.map c) k=some (c t)/\tB n (g.map c)=true:=by
 refine⟨by rw[mI,i1,h];rfl,wQ ?_⟩;simp_all
class Ans (H:Prop) where
 d:De
instance{n:Nat}:OfNat (Nat×De) n:=⟨(n,.c ⟨.undef,[],[],0⟩ [])⟩
instance(priority:=low){H:Prop}:Ans H:=⟨.ok⟩
instance{P:Program}{g:Nat->Option (List PV)}{f:Nat}{a:List V}{x:PV}:Ans (AC P g f a [] (.ret (.pv x)) []):=⟨.r x⟩
instance{P:Program}{g:Nat->Option (List PV)}{f:Nat}{a:List V}{p:PV}:Ans (AC P g f a [] (.panic p) []):=⟨.r (.int 0)⟩
instance{P:Program}{g:Nat->Option (List PV)}{f n:Nat}{a:List V}{o u:Ob}{x:V}:Ans (AC P g f a [(n,o)] (.ret x) [(n,u)]):=⟨.d n u x⟩
instance{z u:Int}{n:Nat}:Ans (xA u=true/\z=.ofNat n):=⟨.z n⟩
instance{x b:Bool}:Ans (x=b):=⟨.b b⟩
def Jc:Di->Nat|[]=>0|(_,.fb _ _)::t=>Jc t|_::t=>Jc t+1
def fill:Di->List De->Di
 |[],_=>[]|(k,e)::t,a=>match e with
  |.c _ _=>match a with|d::r=>(k,d)::fill t r|[]=>[]
  |.fb _ _=>(k,e)::fill t a|.n l=>(k,e)::fill t (a.drop (Jc l))|_=>(k,e)::fill t (a.drop 1)
class AnsL (B:Prop) where
 d:List De
instance(priority:=low){B:Prop}:AnsL B:=⟨[]⟩
instance{H R:Prop}[Ans H][AnsL R]:AnsL (H/\R):=⟨Ans.d H::AnsL.d R⟩
section
variable{f:Nat}{args:List PV}{x:PV}
def fk(a:Di){B:Prop}[AnsL B](h:B)(e:B=U f args (fill a (AnsL.d B)) x:=by kernel_rfl):A f args x:=Sa evOK (e▸h)
end
section
variable{f:Nat}{args:List V}{objs:List (Nat×Ob)}{x:V}{objs':List (Nat×Ob)}
def ok(m:Nat)(a:Di){B:Prop}[AnsL B](h:B)(e:B=UO f args objs m (fill a (AnsL.d B)) x objs':=by kernel_rfl):O f args objs x objs':=Nv evOK (e▸h)
end
def rk{f i a:Nat}{s b:IS}{e:AE}(c:Di)(d g:Kp){B:Prop}[AnsL B](h:B)(q:B=Rd f i a s (fill c (AnsL.d B)) d g e b:=by kernel_rfl):Lp f i a s e b:=LoopIs.of_round evOK (q▸h)
section
variable{K H1 H2 H3 H4 H5 H6 H7 H8 H9 H10 H11 H12 H13 H14 H15 H16 H17 lF UD H20 H21 H22 H23 H24 H25 H26 H27 fF H29 H30:Prop}(h1:H1)(h2:H2)(h3:H3)(h4:H4)(h5:H5)(h6:H6)(h7:H7)(h8:H8)(h9:H9)(h10:H10)(h11:H11)(h12:H12)(h13:H13)(h14:H14)(h15:H15)(h16:H16)(h17:H17)(QE:lF)(NG:UD)(h20:H20)(h21:H21)(h22:H22)(h23:H23)(h24:H24)(h25:H25)(h26:H26)(h27:H27)(kO:fF)(h29:H29)(h30:H30)(k:K)
def XL:=And.intro h1 k
def SG:=XL h1 (And.intro h2 k)
def YL:=SG h1 h2 (And.intro h3 k)
def bK:=YL h1 h2 h3 (And.intro h4 k)
def ZL:=bK h1 h2 h3 h4 (And.intro h5 k)
def kQ:=ZL h1 h2 h3 h4 h5 (And.intro h6 k)
def mO:=kQ h1 h2 h3 h4 h5 h6 (And.intro h7 k)
def ES:=mO h1 h2 h3 h4 h5 h6 h7 (And.intro h8 k)
def GS:=ES h1 h2 h3 h4 h5 h6 h7 h8 (And.intro h9 k)
def nO:=GS h1 h2 h3 h4 h5 h6 h7 h8 h9 (And.intro h10 k)
def JS:=nO h1 h2 h3 h4 h5 h6 h7 h8 h9 h10 (And.intro h11 k)
def pO:=JS h1 h2 h3 h4 h5 h6 h7 h8 h9 h10 h11 (And.intro h12 k)
def KS:=pO h1 h2 h3 h4 h5 h6 h7 h8 h9 h10 h11 h12 (And.intro h13 k)
def LS:=KS h1 h2 h3 h4 h5 h6 h7 h8 h9 h10 h11 h12 h13 (And.intro h14 k)
def Kc:=LS h1 h2 h3 h4 h5 h6 h7 h8 h9 h10 h11 h12 h13 h14 (And.intro h15 k)
def MS:=Kc h1 h2 h3 h4 h5 h6 h7 h8 h9 h10 h11 h12 h13 h14 h15 (And.intro h16 k)
def Dz:=MS h1 h2 h3 h4 h5 h6 h7 h8 h9 h10 h11 h12 h13 h14 h15 h16 (And.intro h17 k)
def Lc:=Dz h1 h2 h3 h4 h5 h6 h7 h8 h9 h10 h11 h12 h13 h14 h15 h16 h17 (And.intro QE k)
def Mc:=Lc h1 h2 h3 h4 h5 h6 h7 h8 h9 h10 h11 h12 h13 h14 h15 h16 h17 QE (And.intro NG k)
def al:=Mc h1 h2 h3 h4 h5 h6 h7 h8 h9 h10 h11 h12 h13 h14 h15 h16 h17 QE NG (And.intro h20 k)
def Ez:=al h1 h2 h3 h4 h5 h6 h7 h8 h9 h10 h11 h12 h13 h14 h15 h16 h17 QE NG h20 (And.intro h21 k)
def Fz:=Ez h1 h2 h3 h4 h5 h6 h7 h8 h9 h10 h11 h12 h13 h14 h15 h16 h17 QE NG h20 h21 (And.intro h22 k)
end
section
variable{f:Nat}{args:List PV}{x:PV}{ag:List V}{obs:List (Nat×Ob)}{y:V}{obs':List (Nat×Ob)}{i bs:Nat}{s s':IS}{e:AE}(m:Nat)(tp:Di)(ko:Kp){H1 H2 H3 H4 H5 H6 H7 H8 H9 H10 H11 H12 H13 H14 H15 H16 H17 lF UD H20 H21 H22 H23 H24 H25 H26 H27 fF H29 N:Prop}(h1:H1)(h2:H2)(h3:H3)(h4:H4)(h5:H5)(h6:H6)(h7:H7)(h8:H8)(h9:H9)(h10:H10)(h11:H11)(h12:H12)(h13:H13)(h14:H14)(h15:H15)(h16:H16)(h17:H17)(QE:lF)(NG:UD)(h20:H20)(h21:H21)(h22:H22)(h23:H23)(h24:H24)(h25:H25)(h26:H26)(h27:H27)(kO:fF)(h29:H29)(w:N)[Ans H1][Ans H2][Ans H3][Ans H4][Ans H5][Ans H6][Ans H7][Ans H8][Ans H9][Ans H10][Ans H11][Ans H12][Ans H13][Ans H14][Ans H15][Ans H16][Ans H17][Ans lF][Ans UD][Ans H20][Ans H21][Ans H22][Ans H23][Ans H24][Ans H25][Ans H26][Ans H27][Ans fF][Ans H29]
def f0:=@fk f args x tp _ _ (rfl:x=x)
def f1:=@fk f args x tp _ _ (XL h1 (Eq.refl x))
def f2:=@fk f args x tp _ _ (SG h1 h2 (Eq.refl x))
def f3:=@fk f args x tp _ _ (YL h1 h2 h3 (Eq.refl x))
def f4:=@fk f args x tp _ _ (bK h1 h2 h3 h4 (Eq.refl x))
def f5:=@fk f args x tp _ _ (ZL h1 h2 h3 h4 h5 (Eq.refl x))
def f6:=@fk f args x tp _ _ (kQ h1 h2 h3 h4 h5 h6 (Eq.refl x))
def f7:=@fk f args x tp _ _ (mO h1 h2 h3 h4 h5 h6 h7 (Eq.refl x))
def f8:=@fk f args x tp _ _ (ES h1 h2 h3 h4 h5 h6 h7 h8 (Eq.refl x))
def f9:=@fk f args x tp _ _ (GS h1 h2 h3 h4 h5 h6 h7 h8 h9 (Eq.refl x))
def bJ:=@fk f args x tp _ _ (nO h1 h2 h3 h4 h5 h6 h7 h8 h9 h10 (Eq.refl x))
def qM:=@fk f args x tp _ _ (JS h1 h2 h3 h4 h5 h6 h7 h8 h9 h10 h11 (Eq.refl x))
def NS:=@fk f args x tp _ _ (pO h1 h2 h3 h4 h5 h6 h7 h8 h9 h10 h11 h12 (Eq.refl x))
def sW:=@fk f args x tp _ _ (KS h1 h2 h3 h4 h5 h6 h7 h8 h9 h10 h11 h12 h13 (Eq.refl x))
def Gz:=@fk f args x tp _ _ (Kc h1 h2 h3 h4 h5 h6 h7 h8 h9 h10 h11 h12 h13 h14 h15 (Eq.refl x))
def Hz:=@fk f args x tp _ _ (MS h1 h2 h3 h4 h5 h6 h7 h8 h9 h10 h11 h12 h13 h14 h15 h16 (Eq.refl x))
def Iz:=@fk f args x tp _ _ (Lc h1 h2 h3 h4 h5 h6 h7 h8 h9 h10 h11 h12 h13 h14 h15 h16 h17 QE (Eq.refl x))
def Jz:=@fk f args x tp _ _ (Mc h1 h2 h3 h4 h5 h6 h7 h8 h9 h10 h11 h12 h13 h14 h15 h16 h17 QE NG (Eq.refl x))
def o0:=@ok f ag obs y obs' m tp _ _ (rfl:(y,obs')=(y,obs'))
def o1:=@ok f ag obs y obs' m tp _ _ (XL h1 (Eq.refl (y,obs')))
def o2:=@ok f ag obs y obs' m tp _ _ (SG h1 h2 (Eq.refl (y,obs')))
def o3:=@ok f ag obs y obs' m tp _ _ (YL h1 h2 h3 (Eq.refl (y,obs')))
def o4:=@ok f ag obs y obs' m tp _ _ (bK h1 h2 h3 h4 (Eq.refl (y,obs')))
def o5:=@ok f ag obs y obs' m tp _ _ (ZL h1 h2 h3 h4 h5 (Eq.refl (y,obs')))
def o6:=@ok f ag obs y obs' m tp _ _ (kQ h1 h2 h3 h4 h5 h6 (Eq.refl (y,obs')))
def o7:=@ok f ag obs y obs' m tp _ _ (mO h1 h2 h3 h4 h5 h6 h7 (Eq.refl (y,obs')))
def o8:=@ok f ag obs y obs' m tp _ _ (ES h1 h2 h3 h4 h5 h6 h7 h8 (Eq.refl (y,obs')))
def o9:=@ok f ag obs y obs' m tp _ _ (GS h1 h2 h3 h4 h5 h6 h7 h8 h9 (Eq.refl (y,obs')))
def GC:=@ok f ag obs y obs' m tp _ _ (nO h1 h2 h3 h4 h5 h6 h7 h8 h9 h10 (Eq.refl (y,obs')))
def dK:=@ok f ag obs y obs' m tp _ _ (JS h1 h2 h3 h4 h5 h6 h7 h8 h9 h10 h11 (Eq.refl (y,obs')))
def fK:=@ok f ag obs y obs' m tp _ _ (pO h1 h2 h3 h4 h5 h6 h7 h8 h9 h10 h11 h12 (Eq.refl (y,obs')))
def o13:=@ok f ag obs y obs' m tp _ _ (KS h1 h2 h3 h4 h5 h6 h7 h8 h9 h10 h11 h12 h13 (Eq.refl (y,obs')))
def Kz:=@ok f ag obs y obs' m tp _ _ (LS h1 h2 h3 h4 h5 h6 h7 h8 h9 h10 h11 h12 h13 h14 (Eq.refl (y,obs')))
def Lz:=@ok f ag obs y obs' m tp _ _ (Kc h1 h2 h3 h4 h5 h6 h7 h8 h9 h10 h11 h12 h13 h14 h15 (Eq.refl (y,obs')))
def Nc:=@ok f ag obs y obs' m tp _ _ (MS h1 h2 h3 h4 h5 h6 h7 h8 h9 h10 h11 h12 h13 h14 h15 h16 (Eq.refl (y,obs')))
def il:=@ok f ag obs y obs' m tp _ _ (Lc h1 h2 h3 h4 h5 h6 h7 h8 h9 h10 h11 h12 h13 h14 h15 h16 h17 QE (Eq.refl (y,obs')))
def Mz:=@ok f ag obs y obs' m tp _ _ (Mc h1 h2 h3 h4 h5 h6 h7 h8 h9 h10 h11 h12 h13 h14 h15 h16 h17 QE NG (Eq.refl (y,obs')))
def Nz:=@ok f ag obs y obs' m tp _ _ (al h1 h2 h3 h4 h5 h6 h7 h8 h9 h10 h11 h12 h13 h14 h15 h16 h17 QE NG h20 (Eq.refl (y,obs')))
def Oz:=@ok f ag obs y obs' m tp _ _ (Fz h1 h2 h3 h4 h5 h6 h7 h8 h9 h10 h11 h12 h13 h14 h15 h16 h17 QE NG h20 h21 h22 (Eq.refl (y,obs')))
def x0:=@rk f i bs s s' e tp ko ko _ _ (⟨rfl,rfl⟩:e=e/\s'=s')
def x1:=@rk f i bs s s' e tp ko ko _ _ (XL h1 (And.intro (Eq.refl e) (Eq.refl s')))
def x2:=@rk f i bs s s' e tp ko ko _ _ (SG h1 h2 (And.intro (Eq.refl e) (Eq.refl s')))
def x3:=@rk f i bs s s' e tp ko ko _ _ (YL h1 h2 h3 (And.intro (Eq.refl e) (Eq.refl s')))
def x4:=@rk f i bs s s' e tp ko ko _ _ (bK h1 h2 h3 h4 (And.intro (Eq.refl e) (Eq.refl s')))
def x5:=@rk f i bs s s' e tp ko ko _ _ (ZL h1 h2 h3 h4 h5 (And.intro (Eq.refl e) (Eq.refl s')))
def x6:=@rk f i bs s s' e tp ko ko _ _ (kQ h1 h2 h3 h4 h5 h6 (And.intro (Eq.refl e) (Eq.refl s')))
def x7:=@rk f i bs s s' e tp ko ko _ _ (mO h1 h2 h3 h4 h5 h6 h7 (And.intro (Eq.refl e) (Eq.refl s')))
def x8:=@rk f i bs s s' e tp ko ko _ _ (ES h1 h2 h3 h4 h5 h6 h7 h8 (And.intro (Eq.refl e) (Eq.refl s')))
def x9:=@rk f i bs s s' e tp ko ko _ _ (GS h1 h2 h3 h4 h5 h6 h7 h8 h9 (And.intro (Eq.refl e) (Eq.refl s')))
def n1:=@rk f i bs s s' e tp ko ko _ _ (h1:H1)
def n2:=@rk f i bs s s' e tp ko ko _ _ (XL h1 h2)
def n3:=@rk f i bs s s' e tp ko ko _ _ (SG h1 h2 h3)
def n4:=@rk f i bs s s' e tp ko ko _ _ (YL h1 h2 h3 h4)
def n5:=@rk f i bs s s' e tp ko ko _ _ (bK h1 h2 h3 h4 h5)
def n6:=@rk f i bs s s' e tp ko ko _ _ (ZL h1 h2 h3 h4 h5 h6)
def n7:=@rk f i bs s s' e tp ko ko _ _ (kQ h1 h2 h3 h4 h5 h6 h7)
def n8:=@rk f i bs s s' e tp ko ko _ _ (mO h1 h2 h3 h4 h5 h6 h7 h8)
def n9:=@rk f i bs s s' e tp ko ko _ _ (ES h1 h2 h3 h4 h5 h6 h7 h8 h9)
def y1:=@rk f i bs s s' e tp ko ko _ _ (XL h1 (And.intro (Eq.refl e) (And.intro w (Eq.refl s'))))
def y2:=@rk f i bs s s' e tp ko ko _ _ (SG h1 h2 (And.intro (Eq.refl e) (And.intro w (Eq.refl s'))))
def y5:=@rk f i bs s s' e tp ko ko _ _ (ZL h1 h2 h3 h4 h5 (And.intro (Eq.refl e) (And.intro w (Eq.refl s'))))
end
open Go.Lg
abbrev bA:Nat:=1152921504606846976
def bb{p:Prop}(h:p:=by decide):=h
theorem cB{n:Nat}(h:n<=bA):xA (.ofNat n)=true:=BA (hV h bb)
def Ty.size:Ty->Nat|.two _ a b=>1+a.size+b.size|_=>1
def Ty.same:Ty->Ty->Bool|.nat,.nat=>true|.list,.list=>true|.unit,.unit=>true|.two k a b,.two l c d=>(k==l)&&(a.same c&&b.same d)|_,_=>false
def yQ:∀t:Ty,A 262 [t.p] (.bool true)|.nat=>f0 []|.list=>f0 []|.unit=>f0 []|.two true a b=>f2 [28,28] (yQ a) (yQ b)|.two false a b=>f2 [28,28] (yQ a) (yQ b)
def OS:∀t:Ty,t.size<=bA->A 263 [t.p] (num t.size)
 |.nat,_=>f0 []|.list,_=>f0 []|.unit,_=>f0 []|.two k a b,h=>by
  have h:1+a.size+b.size<=bA:=h;have c:=OS a a6;have d:=OS b a6;have e:xA (.ofNat (1+a.size))=true:=cB a6;cases k<;>exact f4 [15,(16,.ok),15,(16,.ok)] c e d (cB h)
def xD:∀t:Ty,A 132 [t.p] t.p|.nat=>f0 []|.list=>f0 []|.unit=>f0 []|.two k a b=>f2 [15,15] (xD a) (xD b)
def TE(a b:Ty):A 47 [a.p,b.p] (.bool (a.same b)):=by
 induction a generalizing b with
 |two k a b f g=>cases b with
  |two l c d=>
   have f:=f c;have g:=g d;show A 47 [(Ty.two k a b).p,(Ty.two l c d).p] (.bool ((k==l)&&(a.same c&&b.same d)));generalize a.same c=p at *
   generalize b.same d=q at *
   by_cases e:k=l
   ·subst e;cases p
    ·cases k<;>exact f1 [36] f
    cases q
    ·cases k<;>exact f2 [36,36] f g
    cases k<;>exact f2 [36,36] f g
   cases k<;>cases l<;>first|exact absurd rfl e|exact f0 []
  |_=>cases k<;>exact f0 []
 |_=>cases b with
  |two l c d=>cases l<;>exact f0 []
  |_=>exact f0 []
def Ty.chk(t:Ty):Nat:=match dA (.ofNat 64) (.ofNat t.size)with|true=>4|false=>0
def gK(t:Ty)(h:t.size<=bA:=by omega):A 192 [t.p] (num t.chk):=by
 unfold Ty.chk;cases e:dA (.ofNat 64) (.ofNat t.size)
 ·exact f3 [4,7,8] (yQ t) (OS t h) e
 exact f3 [4,7,8] (yQ t) (OS t h) e
def ol(a b:Ty):A 130 [a.p,b.p] (Ty.two false a b).p:=f2 [6,8] (xD a) (xD b)
def rO(a b:Ty):A 131 [a.p,b.p] (Ty.two true a b).p:=f2 [6,8] (xD a) (xD b)
def kB:A 206 [.agg [num 0,.slice []]] (.bool true):=f0 []
abbrev rA(g:List Ty):PV:=.slice (g.map Ty.c)
def Ty.c_len(t:Ty):t.c.length=2:=rfl
def DF:List Ty->Nat
 |[]=>0|t::r=>match t.chk with|0=>DF r|_+1=>4
def KH(t:Ty):t.chk=0\/t.chk=4:=by unfold Ty.chk;split<;>simp
def xl{g:List Ty}(j:g.length<=16):∀(r:List Ty)(k:Nat),g.drop k=r->(∀t∈r,t.size<=bA)->
  (DF r=0/\Lp 120 0 0 (st [(9,.pv (rA g)),(10,.pv (num (g.map Ty.c).length)),(11,.pv (num k))] [] 0 []) (.exit 0) (st [] [] 0 []))\/DF r=4/\Lp 120 0 0 (st [(9,.pv (rA g)),(10,.pv (num (g.map Ty.c).length)),(11,.pv (num k))] [] 0 []) .ret (st [(2,.pv (num 4))] [] 0 [])
 |[],k,h,_=>.inl ⟨rfl,x1 [12] (kp []) (show dA (.ofNat k) (.ofNat (g.map Ty.c).length)=false from iA bS)⟩|t::r,k,h,i=>by
  have⟨c,n,l⟩:=uC h;have b:=gK t (i t a8);have a:dA (.ofNat k) (.ofNat (g.map Ty.c).length)=true:=KA bS;unfold DF;rcases KH t with e|e<;>rw[e]at b⊢
  ·rcases xl j r (k+1) l (λt m=>i t (by simp[m]))with ⟨d,f⟩|⟨d,f⟩
   ·exact .inl ⟨d,n5 [12,(13,.i t.c),16,(20,.ok)] (kp [9,10,11]) a (EA c Ty.c_len) b (BA (show k+1<=_ by omega)) f⟩
   exact .inr ⟨d,n5 [12,(13,.i t.c),16,(20,.ok)] (kp [9,10,11]) a (EA c Ty.c_len) b (BA (show k+1<=_ by omega)) f⟩
  exact .inr ⟨rfl,x3 [12,(13,.i t.c),16] (kp [2]) a (EA c Ty.c_len) b⟩
def UG(g:List Ty):Nat:=match dA (.ofNat 16) (.ofNat (g.map Ty.c).length)with|true=>3|false=>DF g
def tW(g:List Ty)(c:∀t∈g,t.size<=bA):A 120 [rA g] (num (UG g)):=by
 unfold UG;cases e:dA (.ofNat 16) (.ofNat (g.map Ty.c).length)
 ·have d:g.length<=16:=by
   rw[vC]at e
   grind
  rcases xl d g 0 rfl c with ⟨b,a⟩|⟨b,a⟩<;>rw[b]
  ·exact f2 [8,(100004,.l (kp [9,10,11]) (.exit 0) (st [] [] 0 []))] e a
  exact f2 [8,(100004,.l (kp [9,10,11]) .ret (st [(2,.pv (num 4))] [] 0 []))] e a
 exact f1 [8] e
def Tm.cnt:Tm->Nat|.lam _ b=>1+b.cnt|.n1 _ a=>1+a.cnt|.n2 _ a b=>1+a.cnt+b.cnt|.n3 _ _ a b c=>1+a.cnt+b.cnt+c.cnt|_=>1
def Tm.tsz:Tm->Nat|.lam s b=>max s.size b.tsz|.n1 _ a=>a.tsz|.n2 _ a b=>max a.tsz b.tsz|.n3 _ s a b c=>max (max s.size a.tsz) (max b.tsz c.tsz)|_=>0
def Tm.mx:Tm->Nat|.v i=>i|.lam _ b=>b.mx|.n1 _ a=>a.mx|.n2 _ a b=>max a.mx b.mx|.n3 _ _ a b c=>max a.mx (max b.mx c.mx)|_=>0
abbrev Tm.ty(t:Tm):PV:=.agg [num t.tk,.slice t.te]
abbrev row(l:List Tm):PV:=.slice (l.map Tm.c)
def VG:A 132 [.agg [num 0,.slice []]] (.agg [num 0,.slice []]):=f0 []
def aW(t:Tm):A 132 [t.ty] t.ty:=by
 cases t with|lam s b=>exact xD s|n3 k s a b c=>exact xD s|_=>exact VG
def lB:∀t:Tm,t.cnt<=bA->A 195 [t.p] (num t.cnt)
 |.v i,_=>f0 []|.n0 k,_=>f0 []|.lam s b,h=>f2 [15,(16,.ok)] (lB b (by grind[Tm.cnt])) (cB h)|.n1 k b,h=>f2 [15,(16,.ok)] (lB b (by grind[Tm.cnt])) (cB h)|.n2 k a b,h=>by
  have h:1+a.cnt+b.cnt<=bA:=h;have d:xA (.ofNat (1+a.cnt))=true:=cB a6;exact f4 [15,(16,.ok),15,(16,.ok)] (lB a a6) d (lB b a6) (cB h)
 |.n3 k s a b c,h=>by
  have h:1+a.cnt+b.cnt+c.cnt<=bA:=h;have d:xA (.ofNat (1+a.cnt))=true:=cB a6;have e:xA (.ofNat (1+a.cnt+b.cnt))=true:=cB a6;exact f6 [15,(16,.ok),15,(16,.ok),15,(16,.ok)] (lB a a6) d (lB b a6) e (lB c a6) (cB h)
def aC:∀t:Tm,A 83 [t.p] t.p|.v i=>f1 [25] (aW (.v i))|.n0 k=>f1 [25] (aW (.n0 k))|.lam s b=>f2 [15,25] (aC b) (xD s)|.n1 k a=>f2 [15,25] (aC a) (aW (.n1 k a))|.n2 k a b=>f3 [15,15,25] (aC a) (aC b) (aW (.n2 k a b))|.n3 k s a b c=>f4 [15,15,15,25] (aC a) (aC b) (aC c) (xD s)
def EF(i:Nat):A 58 [num i] (Tm.v i).p:=f0 []
def PS(n:Nat):A 46 [num n,row []] (.agg [num n,num 0,num 0,.slice [],.slice []]):=f0 []
def QS(n:Nat)(a:Tm):A 46 [num n,row [a]] (.agg [num n,num 0,num 0,.slice [],row [a]]):=f1 [16] (aC a)
def WG(n:Nat)(a b:Tm):A 46 [num n,row [a,b]] (.agg [num n,num 0,num 0,.slice [],row [a,b]]):=f2 [16,16] (aC a) (aC b)
def Pz(n:Nat)(a b c:Tm):A 46 [num n,row [a,b,c]] (.agg [num n,num 0,num 0,.slice [],row [a,b,c]]):=f3 [16,16,16] (aC a) (aC b) (aC c)
def VD(s:Ty)(b:Tm):A 59 [num 2,s.p,row [b]] (Tm.lam s b).p:=f2 [10,12] (QS 2 b) (xD s)
def sO(k:K3)(s:Ty)(a b c:Tm):A 59 [num k.n,s.p,row [a,b,c]] (Tm.n3 k s a b c).p:=f2 [10,12] (Pz k.n a b c) (xD s)
def Tm.shp:Tm->Bool|.lam s b=>Nat.beq s.chk 0&&b.shp|.n1 _ a=>a.shp|.n2 _ a b=>a.shp&&b.shp|.n3 _ s a b c=>Nat.beq s.chk 0&&(a.shp&&(b.shp&&c.shp))|_=>true
def FF:∀t:Tm,t.tsz<=bA->A 194 [t.p] (.bool t.shp)
 |.v i,_=>f1 [31] kB|.n0 k,_=>by cases k<;>exact f1 [31] kB
 |.lam s b,h=>by
  have h:max s.size b.tsz<=bA:=h;have f:=gK s;have d:=FF b a6;unfold Tm.shp;rcases KH s with e|e<;>rw[e]at f⊢
  ·cases g:b.shp<;>rw[g]at d
   ·exact f2 [39,49] f d
   exact f2 [39,49] f d
  exact f1 [39] f
 |.n1 k a,h=>by
  have d:=FF a h;show A 194 [(Tm.n1 k a).p] (.bool a.shp);cases g:a.shp<;>rw[g]at d
  ·cases k<;>exact f2 [31,49] kB d
  cases k<;>exact f2 [31,49] kB d
 |.n2 k a b,h=>by
  have h:max a.tsz b.tsz<=bA:=h;have f:=FF a a6;have d:=FF b a6;show A 194 [(Tm.n2 k a b).p] (.bool (a.shp&&b.shp));cases l:a.shp<;>rw[l]at f
  ·cases k<;>exact f2 [31,49] kB f
  cases g:b.shp<;>rw[g]at d
  ·cases k<;>exact f3 [31,49,49] kB f d
  cases k<;>exact f3 [31,49,49] kB f d
 |.n3 k s a b c,h=>by
  have h:max (max s.size a.tsz) (max b.tsz c.tsz)<=bA:=h;have j:=gK s;have f:=FF a a6;have d:=FF b a6;have m:=FF c a6;unfold Tm.shp;rcases KH s with e|e<;>rw[e]at j⊢
  ·cases l:a.shp<;>rw[l]at f
   ·cases k<;>exact f2 [39,49] j f
   cases g:b.shp<;>rw[g]at d
   ·cases k<;>exact f3 [39,49,49] j f d
   cases n:c.shp<;>rw[n]at m
   ·cases k<;>exact f4 [39,49,49,49] j f d m
   cases k<;>exact f4 [39,49,49,49] j f d m
  cases k<;>exact f1 [39] j
def Tm.chk(t:Tm):Nat:=match t.shp with
 |false=>2|true=>match dA (.ofNat 4096) (.ofNat t.cnt)with|true=>4|false=>0
def XG(t:Tm)(d:t.tsz<=bA:=by omega)(b:t.cnt<=bA:=by omega):A 124 [t.p] (num t.chk):=by
 have a:=FF t d;unfold Tm.chk;cases e:t.shp<;>rw[e]at a
 ·exact f1 [4] a
 cases c:dA (.ofNat 4096) (.ofNat t.cnt)
 ·exact f3 [4,7,8] a (lB t b) c
 exact f3 [4,7,8] a (lB t b) c
def eI(n:Nat):sB (.ofNat n) (.ofNat n)=true:=by rw[XI];simp
theorem GF{m n:Nat}(h:m≠n):sB (.ofNat m) (.ofNat n)=false:=by rw[XI];grind
def MB(n:Nat):(!sB (.ofNat n) (.ofNat n))=false:=by rw[eI];rfl
def AD{m n:Nat}(h:m≠n:=by omega):(!sB (.ofNat m) (.ofNat n))=true:=by rw[GF h];rfl
def Tm.cls:Tm->Nat|.v _=>0|.lam _ _=>1|.n0 _=>2|.n1 _ _=>3|.n2 _ _ _=>4|.n3 _ _ _ _ _=>5
def YG:Nat->Nat|1=>0|2=>1|4=>2|7=>2|13=>2|5=>3|11=>3|12=>3|3=>4|8=>4|10=>4|_=>5
def YC(t:Tm):YG t.kd=t.cls:=by
 cases t with
 |n0 k=>cases k<;>rfl
 |n1 k=>cases k<;>rfl
 |n2 k=>cases k<;>rfl
 |n3 k=>cases k<;>rfl
 |_=>rfl
def K0.inj{k l:K0}(h:k.n=l.n):k=l:=by cases k<;>cases l<;>first|rfl|cases h
def K1.inj{k l:K1}(h:k.n=l.n):k=l:=by cases k<;>cases l<;>first|rfl|cases h
def K2.inj{k l:K2}(h:k.n=l.n):k=l:=by cases k<;>cases l<;>first|rfl|cases h
def K3.inj{k l:K3}(h:k.n=l.n):k=l:=by cases k<;>cases l<;>first|rfl|cases h
def ZG:A 47 [.agg [num 0,.slice []],.agg [num 0,.slice []]] (.bool true):=f0 []
theorem BD:∀a b:Ty,a.same b=true↔a=b
 |.nat,b=>by cases b<;>simp[Ty.same]
 |.list,b=>by cases b<;>simp[Ty.same]
 |.unit,b=>by cases b<;>simp[Ty.same]
 |.two k a c,b=>by cases b<;>simp[Ty.same,BD a,BD c]
def ff{p:Prop}(h:¬p):false=true↔p:=⟨λe=>(by cases e),λe=>absurd e h⟩
def uQ{a:Tm}(H:∀b:Tm,a.kd=b.kd->∃r,A 128 [a.p,b.p] (.bool r)/\(r=true↔a=b))(b:Tm):∃r,A 128 [a.p,b.p] (.bool r)/\(r=true↔a=b):=by
 by_cases h:a.kd=b.kd
 ·exact H b h
 exact⟨false,f1 [10] (AD h),ff λe=>h (by rw[e])⟩
def lK:∀a b:Tm,∃r,A 128 [a.p,b.p] (.bool r)/\(r=true↔a=b)
 |.v i=>uQ λb h=>by
  cases b with
  |v j=>
   by_cases e:i=j
   ·subst e;exact⟨true,f2 [16,23] (MB i) ZG,bS⟩
   exact⟨false,f1 [16] (AD e),bS⟩
  |_=>have:=k0 YG h;rw[YC,YC]at this;cases this
 |.n0 k=>uQ λb h=>by
  cases b with
  |n0 l=>cases K0.inj h;exact⟨true,f2 [10,23] (MB k.n) ZG,bS⟩
  |_=>have:=k0 YG h;rw[YC,YC]at this;cases this
 |.lam s a=>uQ λb h=>by
  cases b with
  |lam u b=>
   have o:=TE s u;have t:=BD s u;cases e:s.same u<;>rw[e]at o t
   ·exact⟨false,f1 [23] o,bS⟩
   have⟨r,g,w⟩:=lK a b;cases r
   ·exact⟨false,f2 [23,51] o g,bS⟩
   exact⟨true,f2 [23,51] o g,bS⟩
  |_=>have:=k0 YG h;rw[YC,YC]at this;cases this
 |.n1 k a=>uQ λb h=>by
  cases b with
  |n1 l b=>
   cases K1.inj h;have⟨r,g,w⟩:=lK a b;cases r
   ·exact⟨false,f3 [10,23,51] (MB k.n) ZG g,bS⟩
   exact⟨true,f3 [10,23,51] (MB k.n) ZG g,bS⟩
  |_=>have:=k0 YG h;rw[YC,YC]at this;cases this
 |.n2 k a c=>uQ λb h=>by
  cases b with
  |n2 l b d=>
   cases K2.inj h;have⟨r,g,w⟩:=lK a b;have⟨q,m,y⟩:=lK c d;cases r
   ·exact⟨false,f3 [10,23,51] (MB k.n) ZG g,bS⟩
   cases q
   ·exact⟨false,f4 [10,23,51,51] (MB k.n) ZG g m,bS⟩
   exact⟨true,f4 [10,23,51,51] (MB k.n) ZG g m,bS⟩
  |_=>have:=k0 YG h;rw[YC,YC]at this;cases this
 |.n3 k s a c e=>uQ λb h=>by
  cases b with
  |n3 l u b d f=>
   cases K3.inj h;have n:=TE s u;have t:=BD s u;have⟨r,g,w⟩:=lK a b;have⟨q,m,y⟩:=lK c d;have⟨p,x,B⟩:=lK e f;cases z:s.same u<;>rw[z]at n t
   ·exact⟨false,f2 [10,23] (MB k.n) n,bS⟩
   cases r
   ·exact⟨false,f3 [10,23,51] (MB k.n) n g,bS⟩
   cases q
   ·exact⟨false,f4 [10,23,51,51] (MB k.n) n g m,bS⟩
   cases p
   ·exact⟨false,f5 [10,23,51,51,51] (MB k.n) n g m x,bS⟩
   exact⟨true,f5 [10,23,51,51,51] (MB k.n) n g m x,bS⟩
  |_=>have:=k0 YG h;rw[YC,YC]at this;cases this
open Go.Lg
abbrev qA:Nat:=33554432
theorem zA:qA=33554432:=rfl
def yA:bA=1152921504606846976:=rfl
theorem chk0{s:Ty}(h:s.chk=0):s.size<=64:=by
 grind[Ty.chk,vC,of_decide_eq_false]
inductive TR where|er (n:Nat)|ok (s:Ty)
def TR.k:TR->Nat|.er _=>0|.ok s=>s.kd
def TR.l:TR->List (List PV)|.er _=>[]|.ok s=>s.es
def TR.n:TR->Nat|.er n=>n+1|.ok _=>0
def TR.p(r:TR):PV:=.tuple [.agg [num r.k,.slice r.l],num r.n]
def TR.sz:TR->Nat|.er _=>0|.ok s=>s.size
def TR.fit(t:Ty):TR:=if t.size<=64 then .ok t else .er 3
def iI(s:Ty):TR->TR|.er n=>.er n|.ok u=>.fit (.two true s u)
def mF(k:K1):TR->TR
 |.er n=>.er n|.ok s=>match k with
  |.succ=>bif s.same .nat then .ok .nat else .er 6|.fst=>match s with|.two k c _=>bif k then .er 6 else .ok c|_=>.er 6
  |.snd=>match s with|.two k _ d=>bif k then .er 6 else .ok d|_=>.er 6
def ZC(k:K2):TR->TR->TR
 |.er n,_=>.er n|.ok _,.er n=>.er n|.ok s,.ok u=>match k with
  |.app=>match s with|.two k c d=>bif k then(bif c.same u then .ok d else .er 6)else .er 6|_=>.er 6
  |.cons=>bif s.same .nat then(bif u.same .list then .ok .list else .er 6)else .er 6|.pair=>.fit (.two false s u)
def rB(k:K3)(s:Ty):TR->TR->TR->TR
 |.er n,_,_=>.er n|.ok _,.er n,_=>.er n|.ok _,.ok _,.er n=>.er n|.ok x,.ok y,.ok z=>match k with|.re=>bif x.same s then(bif y.same (.two true .nat (.two true s s))then(bif z.same .nat then .ok s else .er 6)else .er 6)else .er 6|.fo=>bif x.same s then(bif y.same (.two true .nat (.two true .list (.two true s s)))then(bif z.same .list then .ok s else .er 6)else .er 6)else .er 6
def ZA(g:List Ty)(i:Nat):TR:=if i<g.length then(match g[g.length-1-i]? with|some s=>.ok s|none=>.er 5)else .er 5
def Tm.tyR:List Ty->Tm->TR
 |g,.v i=>ZA g i|g,.lam s b=>iI s (b.tyR (g++[s]))|_,.n0 k=>match k with|.zero=>.ok .nat|.nil=>.ok .list|.unit=>.ok .unit
 |g,.n1 k a=>mF k (a.tyR g)|g,.n2 k a b=>ZC k (a.tyR g) (b.tyR g)|g,.n3 k s a b c=>rB k s (a.tyR g) (b.tyR g) (c.tyR g)
def Al(s:Ty)(h:s.size<=bA):∃r:TR,A 378 [s.p] r.p/\r.sz<=64/\r=.fit s:=by
 have a:=gK s h;rcases KH s with e|e<;>rw[e]at a
 ·exact⟨.ok s,f1 [5] a,chk0 e,by unfold TR.fit;rw[gm (chk0 e)]⟩
 exact⟨.er 3,f1 [5] a,c6 _,by unfold TR.fit;rw[e9 λh=>by unfold Ty.chk at e;rw[iA h]at e;cases e]⟩
def jG{α:Type}{c:α->List PV}(n m:Nat)(a:∀t,(c t).length=n)(a:0<n)(g:List α)(s:α)(h:(g.length+1)*m<=140737488355328)(a:g.length+1<=maxLen):
  (tB n (g.map c)&&tB n [c s]&&Nat.blt 0 n&&Nat.ble ((g.map c).length+[c s].length) maxLen&&Nat.ble (((g.map c).length+[c s].length)*m) 140737488355328)=true:=by
 have:tB n (g.map c)=true:=wQ λy a=>by grind
 have:tB n [c s]=true:=wQ λy a=>by simp_all
 have:Nat.blt 0 n=true:=bS
 simp_all
def qH(n:Nat):(Nat.beq n n&&Nat.beq n n)=true:=a8
def zM:∀(t:Tm)(g:List Ty),(∀s∈g,s.size<=qA)->t.tsz<=qA->g.length+t.cnt<=qA->∃r:TR,A 337 [rA g,t.p] r.p/\r.sz<=qA/\r=t.tyR g
 |.v i,g,w,_,v=>by
  have M:=zA;by_cases h:i<g.length
  ·obtain⟨s,Q⟩:∃s,g[g.length-1-i]? =some s:=⟨_,e7 a6⟩;have f:(!dA (.ofNat i) (.ofNat (g.map Ty.c).length))=false:=by rw[KA bS];rfl
   have o:xA (Int.ofNat (g.map Ty.c).length-1)=true/\Int.ofNat (g.map Ty.c).length-1=.ofNat (g.length-1):=by
    have e:Int.ofNat (g.map Ty.c).length-1=.ofNat (g.length-1):=a9
    grind[BA]
   have j:xA (Int.ofNat (g.length-1)-.ofNat i)=true/\Int.ofNat (g.length-1)-.ofNat i=.ofNat (g.length-1-i):=by
    have e:Int.ofNat (g.length-1)-.ofNat i=.ofNat (g.length-1-i):=a9
    grind[BA]
   exact⟨.ok s,f5 [22,27,30,(31,.i s.c),33] f o j (EA Q Ty.c_len) (xD s),w s (gg Q),by show _=ZA g i;unfold ZA;rw[gm h,Q]⟩
  have f:(!dA (.ofNat i) (.ofNat (g.map Ty.c).length))=true:=by rw[iA a9];rfl
  exact⟨.er 5,f1 [22] f,c6 _,by show _=ZA g i;unfold ZA;rw[e9 h]⟩
 |.lam s b,g,w,B,v=>by
  have M:=zA;have X:=yA;have B:max s.size b.tsz<=qA:=B;have v:g.length+(1+b.cnt)<=qA:=v;rw[show(Tm.lam s b).tyR g=iI s (b.tyR (g++[s]))from rfl];have⟨r,f,o,Y⟩:=zM b (g++[s]) c5 a6 a9;simp only[rA,gn,gF,i2]at f;rw[<-Y];have j:=jG 2 32 Ty.c_len bb g s a6 (by simp only[maxLen];omega)
  cases r with
  |er n=>exact⟨.er n,f3 [(43,.ok),(47,.ok),52] (qH (g.map Ty.c).length) j f,c6 _,rfl⟩|ok u=>
   have o:u.size<=qA:=o;have⟨r,H,l,R⟩:=Al (.two true s u) (by show 1+s.size+u.size<=bA;omega);exact⟨r,f5 [(43,.ok),(47,.ok),52,62,63] (qH (g.map Ty.c).length) j f (rO s u) H,a6,R⟩
 |.n0 k,g,w,B,v=>by
  cases k
  ·exact⟨.ok .nat,f0 [],bb,rfl⟩
  ·exact⟨.ok .list,f0 [],bb,rfl⟩
  exact⟨.ok .unit,f0 [],bb,rfl⟩
 |.n1 k a,g,w,B,v=>by
  rw[show(Tm.n1 k a).tyR g=mF k (a.tyR g)from rfl];have M:=zA;have v:g.length+(1+a.cnt)<=qA:=v;have⟨r,f,o,I⟩:=zM a g w B a6;rw[<-I]
  cases r with
  |er n=>cases k<;>exact⟨.er n,f1 [76] f,c6 _,rfl⟩
  |ok s=>
   have o:s.size<=qA:=o;cases k
   ·have j:=TE s .nat;cases S:s.same .nat<;>rw[S]at j
    ·exact⟨.er 6,f2 [76,128] f j,c6 _,by simp only[mF,S,gp]⟩
    exact⟨.ok .nat,f2 [76,128] f j,bb,by simp only[mF,S,gb]⟩
   ·cases s with
    |two q c d=>
     have o:1+c.size+d.size<=qA:=o;cases q
     ·exact⟨.ok c,f1 [76] f,(show c.size<=qA by omega),rfl⟩
     exact⟨.er 6,f1 [76] f,c6 _,rfl⟩
    |nat=>exact⟨.er 6,f1 [76] f,c6 _,rfl⟩|list=>exact⟨.er 6,f1 [76] f,c6 _,rfl⟩|unit=>exact⟨.er 6,f1 [76] f,c6 _,rfl⟩
   cases s with
   |two q c d=>
    have o:1+c.size+d.size<=qA:=o;cases q
    ·exact⟨.ok d,f1 [76] f,(show d.size<=qA by omega),rfl⟩
    exact⟨.er 6,f1 [76] f,c6 _,rfl⟩
   |nat=>exact⟨.er 6,f1 [76] f,c6 _,rfl⟩|list=>exact⟨.er 6,f1 [76] f,c6 _,rfl⟩|unit=>exact⟨.er 6,f1 [76] f,c6 _,rfl⟩
 |.n2 k a b,g,w,B,v=>by
  rw[show(Tm.n2 k a b).tyR g=ZC k (a.tyR g) (b.tyR g)from rfl];have M:=zA;have X:=yA;have B:max a.tsz b.tsz<=qA:=B;have v:g.length+(1+a.cnt+b.cnt)<=qA:=v;have⟨r,f,o,I⟩:=zM a g w a6 a6;rw[<-I]
  cases r with
  |er n=>cases k<;>exact⟨.er n,f1 [76] f,c6 _,rfl⟩
  |ok s=>
   have o:s.size<=qA:=o;have⟨r,j,H,T⟩:=zM b g w a6 a6;rw[<-T]
   cases r with
   |er n=>cases k<;>exact⟨.er n,f2 [76,76] f j,c6 _,rfl⟩
   |ok u=>
    have H:u.size<=qA:=H;cases k
    ·cases s with
     |two q c d=>
      have o:1+c.size+d.size<=qA:=o;cases q
      ·exact⟨.er 6,f2 [76,76] f j,c6 _,rfl⟩
      have l:=TE c u;cases U:c.same u<;>rw[U]at l
      ·exact⟨.er 6,f3 [76,76,109] f j l,c6 _,by simp only[ZC,U,gb,gp]⟩
      exact⟨.ok d,f3 [76,76,109] f j l,(show d.size<=qA by omega),by simp only[ZC,U,gb]⟩
     |nat=>exact⟨.er 6,f2 [76,76] f j,c6 _,rfl⟩|list=>exact⟨.er 6,f2 [76,76] f j,c6 _,rfl⟩|unit=>exact⟨.er 6,f2 [76,76] f j,c6 _,rfl⟩
    ·have l:=TE s .nat;have J:=TE u .list;cases N:s.same .nat<;>rw[N]at l
     ·exact⟨.er 6,f3 [76,76,176] f j l,c6 _,by simp only[ZC,N,gp]⟩
     cases V:u.same .list<;>rw[V]at J
     ·exact⟨.er 6,f4 [76,76,176,183] f j l J,c6 _,by simp only[ZC,N,V,gb,gp]⟩
     exact⟨.ok .list,f4 [76,76,176,183] f j l J,bb,by simp only[ZC,N,V,gb]⟩
    have⟨r,l,J,R⟩:=Al (.two false s u) (by show 1+s.size+u.size<=bA;omega);exact⟨r,f4 [76,76,233,234] f j (ol s u) l,a6,R⟩
 |.n3 k s a b c,g,w,B,v=>by
  rw[show(Tm.n3 k s a b c).tyR g=rB k s (a.tyR g) (b.tyR g) (c.tyR g)from rfl];have M:=zA;have B:max (max s.size a.tsz) (max b.tsz c.tsz)<=qA:=B;have v:g.length+(1+a.cnt+b.cnt+c.cnt)<=qA:=v;have⟨r,f,o,I⟩:=zM a g w a6 a6;rw[<-I]
  cases r with
  |er n=>cases k<;>exact⟨.er n,f1 [76] f,c6 _,rfl⟩
  |ok x=>
   have⟨r,j,H,T⟩:=zM b g w a6 a6;rw[<-T]
   cases r with
   |er n=>cases k<;>exact⟨.er n,f2 [76,76] f j,c6 _,rfl⟩
   |ok y=>
    have⟨r,l,J,Z⟩:=zM c g w a6 a6;rw[<-Z]
    cases r with
    |er n=>cases k<;>exact⟨.er n,f3 [76,76,76] f j l,c6 _,rfl⟩
    |ok z=>
     have C:=TE x s;have G:=rO s s;cases k
     ·have D:=rO .nat (.two true s s);have m:=TE y (.two true .nat (.two true s s));have p:=TE z .nat;cases K:x.same s<;>rw[K]at C
      ·exact⟨.er 6,f4 [76,76,76,139] f j l C,c6 _,by simp only[rB,K,gp]⟩
      cases O:y.same (.two true .nat (.two true s s))<;>rw[O]at m
      ·exact⟨.er 6,f7 [76,76,76,139,150,151,152] f j l C G D m,c6 _,by simp only[rB,K,O,gb,gp]⟩
      cases W:z.same .nat<;>rw[W]at p
      ·exact⟨.er 6,f8 [76,76,76,139,150,151,152,160] f j l C G D m p,c6 _,by simp only[rB,K,O,W,gb,gp]⟩
      exact⟨.ok s,f9 [76,76,76,139,150,151,152,160,166] f j l C G D m p (xD s),(show s.size<=qA by omega),by simp only[rB,K,O,W,gb]⟩
     have D:=rO .list (.two true s s);have E:=rO .nat (.two true .list (.two true s s));have m:=TE y (.two true .nat (.two true .list (.two true s s)));have p:=TE z .list;cases L:x.same s<;>rw[L]at C
     ·exact⟨.er 6,f4 [76,76,76,195] f j l C,c6 _,by simp only[rB,L,gp]⟩
     cases P:y.same (.two true .nat (.two true .list (.two true s s)))<;>rw[P]at m
     ·exact⟨.er 6,f8 [76,76,76,195,207,208,209,210] f j l C G D E m,c6 _,by simp only[rB,L,P,gb,gp]⟩
     cases F:z.same .list<;>rw[F]at p
     ·exact⟨.er 6,f9 [76,76,76,195,207,208,209,210,218] f j l C G D E m p,c6 _,by simp only[rB,L,P,F,gb,gp]⟩
     exact⟨.ok s,bJ [76,76,76,195,207,208,209,210,218,224] f j l C G D E m p (xD s),(show s.size<=qA by omega),by simp only[rB,L,P,F,gb]⟩
def Tm.sh:Nat->Int->Tm->Tm|c,z,.v i=>if c<=i then .v (Int.ofNat i+z).toNat else .v i|c,z,.lam s b=>.lam s (b.sh (c+1) z)|_,_,.n0 k=>.n0 k|c,z,.n1 k a=>.n1 k (a.sh c z)|c,z,.n2 k a b=>.n2 k (a.sh c z) (b.sh c z)|c,z,.n3 k s a b d=>.n3 k s (a.sh c z) (b.sh c z) (d.sh c z)
theorem LC(z:Int):∀(t:Tm)(c:Nat),(t.sh c z).cnt=t.cnt|.v i,c=>by simp only[Tm.sh];split<;>rfl|.lam s b,c=>by simp[Tm.sh,Tm.cnt,LC]|.n0 k,c=>rfl|.n1 k a,c=>by simp[Tm.sh,Tm.cnt,LC]|.n2 k a b,c=>by simp[Tm.sh,Tm.cnt,LC]|.n3 k s a b d,c=>by simp[Tm.sh,Tm.cnt,LC]
theorem zH(z:Int):∀(t:Tm)(c:Nat),(t.sh c z).tsz=t.tsz|.v i,c=>by simp only[Tm.sh];split<;>rfl|.lam s b,c=>by simp[Tm.sh,Tm.tsz,zH]|.n0 k,c=>rfl|.n1 k a,c=>by simp[Tm.sh,Tm.tsz,zH]|.n2 k a b,c=>by simp[Tm.sh,Tm.tsz,zH]|.n3 k s a b d,c=>by simp[Tm.sh,Tm.tsz,zH]
theorem vG(z:Int):∀(t:Tm)(c:Nat),(t.sh c z).mx<=t.mx+z.toNat|.v i,c=>by grind[Tm.sh,Tm.mx]|.lam s b,c=>vG z b (c+1)|.n0 k,c=>c6 _|.n1 k a,c=>vG z a c|.n2 k a b,c=>by have:=vG z a c;have:=vG z b c;grind[Tm.sh,Tm.mx]|.n3 k s a b d,c=>by have:=vG z a c;have:=vG z b c;have:=vG z d c;grind[Tm.sh,Tm.mx]
def Qz{z:Int}(h:0<=z)(a:z<=1152921504606846976):xA z=true/\z=.ofNat z.toNat:=by
 grind[BA]
def dJ{a b:Nat}(h:b<=a):(!dA (.ofNat a) (.ofNat b))=true:=by rw[iA h];rfl
theorem jH{a b:Nat}(h:a<b):(!dA (.ofNat a) (.ofNat b))=false:=by rw[KA h];rfl
def vH:∀(t:Tm)(c:Nat)(z:Int),0<=c+z->z<=qA->t.mx<=qA*qA->c+t.cnt<=qA->A 142 [t.p,num c,.int z] (t.sh c z).p
 |.v i,c,z,l,j,f,g=>by
  have n:=zA;have f:i<=qA*qA:=f;rw[n]at f;by_cases h:c<=i
  ·have e:(Tm.v i).sh c z=.v (Int.ofNat i+z).toNat:=by simp only[Tm.sh,gm h]
   rw[e];exact f2 [24,29] (dJ h) (Qz (z:=Int.ofNat i+z) a9 a9)
  have e:(Tm.v i).sh c z=.v i:=by simp only[Tm.sh,e9 h]
  rw[e];exact f1 [24] (jH (show i<c by omega))
 |.lam s b,c,z,l,j,f,g=>by
  have g:c+(1+b.cnt)<=qA:=g;have n:=zA;exact f2 [(44,.ok),46] (BA (show c+1<=_ by omega)) (vH b (c+1) z a6 j f a6)
 |.n0 k,c,z,_,_,_,_=>by cases k<;>exact f0 []
 |.n1 k a,c,z,l,j,f,g=>by
  have g:c+(1+a.cnt)<=qA:=g;have n:=zA;have m:=BA (show c<=_ by omega);cases k<;>exact f2 [(44,.ok),46] m (vH a c z l j f a6)
 |.n2 k a b,c,z,l,j,f,g=>by
  have f:max a.mx b.mx<=qA*qA:=f;have g:c+(1+a.cnt+b.cnt)<=qA:=g;have n:=zA;have m:=BA (show c<=_ by omega);have o:=vH a c z l j a6 a6;have p:=vH b c z l j a6 a6;cases k<;>exact f4 [(44,.ok),46,(44,.ok),46] m o m p
 |.n3 k s a b d,c,z,l,j,f,g=>by
  have f:max a.mx (max b.mx d.mx)<=qA*qA:=f;have g:c+(1+a.cnt+b.cnt+d.cnt)<=qA:=g;have n:=zA;have m:=BA (show c<=_ by omega);have o:=vH a c z l j a6 a6;have p:=vH b c z l j a6 a6;have r:=vH d c z l j a6 a6;cases k<;>exact f6 [(44,.ok),46,(44,.ok),46,(44,.ok),46] m o m p m r
def Tm.occ:Nat->Tm->Nat|c,.v i=>if i=c then 1 else 0|c,.lam _ b=>b.occ (c+1)|_,.n0 _=>0|c,.n1 _ a=>a.occ c|c,.n2 _ a b=>a.occ c+b.occ c|c,.n3 _ _ a b d=>a.occ c+b.occ c+d.occ c
def IB:∀(t:Tm)(c:Nat),t.occ c<=t.cnt
 :=by intro x;induction x<;>simp_all[Tm.occ,Tm.cnt,c6]<;>grind
def fJ:∀(t:Tm)(c:Nat),c+t.cnt<=qA->A 335 [t.p,num c] (num (t.occ c))
 |.v i,c,f=>by
  by_cases h:i=c
  ·have e:(Tm.v i).occ c=1:=by simp only[Tm.occ,gm h]
   rw[e];subst h;exact f1 [15] (eI i)
  have e:(Tm.v i).occ c=0:=by simp only[Tm.occ,e9 h]
  rw[e];exact f1 [15] (GF h)
 |.lam s b,c,f=>by
  have f:c+(1+b.cnt)<=qA:=f;have m:=zA;have n:=IB b (c+1);have g:=BA (show(c+1)<=_ by omega);have j:=fJ b (c+1) a6;have l:xA (.ofNat (0)+.ofNat (b.occ (c+1)))=true/\Int.ofNat (0)+.ofNat (b.occ (c+1))=.ofNat (b.occ (c+1)):=⟨BA (show 0+b.occ (c+1)<=_ by omega),a8⟩;exact f3 [(31,.ok),32,33] g j l
 |.n0 k,c,f=>by
  cases k<;>exact f0 []
 |.n1 k a,c,f=>by
  have f:c+(1+a.cnt)<=qA:=f;have m:=zA;have n:=IB a c;have g:=BA (show c<=_ by omega);have j:=fJ a c a6;have l:xA (.ofNat (0)+.ofNat (a.occ c))=true/\Int.ofNat (0)+.ofNat (a.occ c)=.ofNat (a.occ c):=⟨BA (show 0+a.occ c<=_ by omega),a8⟩;cases k<;>exact f3 [(31,.ok),32,33] g j l
 |.n2 k a b,c,f=>by
  have f:c+(1+a.cnt+b.cnt)<=qA:=f;have m:=zA;have n:=IB a c;have g:=BA (show c<=_ by omega);have j:=fJ a c a6;have l:xA (.ofNat (0)+.ofNat (a.occ c))=true/\Int.ofNat (0)+.ofNat (a.occ c)=.ofNat (a.occ c):=⟨BA (show 0+a.occ c<=_ by omega),a8⟩;have r:=IB b c;have p1:=BA (show c<=_ by omega);have o:=fJ b c a6;have p:xA (.ofNat (a.occ c)+.ofNat (b.occ c))=true/\Int.ofNat (a.occ c)+.ofNat (b.occ c)=.ofNat (a.occ c+b.occ c):=⟨BA (show a.occ c+b.occ c<=_ by omega),a8⟩;cases k<;>exact f6 [(31,.ok),32,33,(31,.ok),32,33] g j l p1 o p
 |.n3 k s a b d,c,f=>by
  have f:c+(1+a.cnt+b.cnt+d.cnt)<=qA:=f;have m:=zA;have n:=IB a c;have g:=BA (show c<=_ by omega);have j:=fJ a c a6;have l:xA (.ofNat (0)+.ofNat (a.occ c))=true/\Int.ofNat (0)+.ofNat (a.occ c)=.ofNat (a.occ c):=⟨BA (show 0+a.occ c<=_ by omega),a8⟩;have r:=IB b c;have p1:=BA (show c<=_ by omega);have o:=fJ b c a6;have p:xA (.ofNat (a.occ c)+.ofNat (b.occ c))=true/\Int.ofNat (a.occ c)+.ofNat (b.occ c)=.ofNat (a.occ c+b.occ c):=⟨BA (show a.occ c+b.occ c<=_ by omega),a8⟩;have:=IB d c;have p2:=BA (show c<=_ by omega);have u:=fJ d c a6;have v:xA (.ofNat (a.occ c+b.occ c)+.ofNat (d.occ c))=true/\Int.ofNat (a.occ c+b.occ c)+.ofNat (d.occ c)=.ofNat (a.occ c+b.occ c+d.occ c):=⟨BA (show a.occ c+b.occ c+d.occ c<=_ by omega),a8⟩;cases k<;>exact f9 [(31,.ok),32,33,(31,.ok),32,33,(31,.ok),32,33] g j l p1 o p p2 u v
def Tm.put:Tm->Nat->Tm->Nat->Tm|.v i,c,s,d=>if i=c+d then s.sh 0 (.ofNat (c+d))else if c+d<i then .v (i-1)else .v i|.lam u b,c,s,d=>.lam u (b.put c s (d+1))|.n0 k,_,_,_=>.n0 k|.n1 k a,c,s,d=>.n1 k (a.put c s d)|.n2 k a b,c,s,d=>.n2 k (a.put c s d) (b.put c s d)|.n3 k u a b e,c,s,d=>.n3 k u (a.put c s d) (b.put c s d) (e.put c s d)
def mK:∀(t:Tm)(c:Nat),c+t.cnt<=qA->∃r,A 340 [t.p,num c] (.bool r)/\(r=true↔t.occ c≠0)
 |.v i,c,g=>by
  by_cases h:i=c
  ·exact⟨true,f1 [14] (show sB (.ofNat i) (.ofNat c)=true by rw[h];exact eI c),by simp_all[Tm.occ]⟩
  exact⟨false,f1 [14] (GF h),by simp_all[Tm.occ]⟩
 |.lam s b,c,g=>by
  have g:c+(1+b.cnt)<=qA:=g;have m:=zA;have e:=BA (show(c+1)<=_ by omega);have⟨j,f,n⟩:=mK b (c+1) a6;cases j
  ·exact⟨false,f2 [(27,.ok),28] e f,by simp_all[Tm.occ]⟩
  exact⟨true,f2 [(27,.ok),28] e f,by simp_all[Tm.occ]⟩
 |.n0 k,c,g=>by
  cases k<;>exact⟨false,f0 [],by simp_all[Tm.occ]⟩
 |.n1 k a,c,g=>by
  have g:c+(1+a.cnt)<=qA:=g;have m:=zA;have e:=BA (show c<=_ by omega);have⟨j,f,n⟩:=mK a c a6;cases j
  ·cases k<;>exact⟨false,f2 [(27,.ok),28] e f,by simp_all[Tm.occ]⟩
  cases k<;>exact⟨true,f2 [(27,.ok),28] e f,by simp_all[Tm.occ]⟩
 |.n2 k a b,c,g=>by
  have g:c+(1+a.cnt+b.cnt)<=qA:=g;have m:=zA;have e:=BA (show c<=_ by omega);have⟨j,f,n⟩:=mK a c a6;have p1:=BA (show c<=_ by omega);have⟨o,l,u⟩:=mK b c a6;cases j;rotate_left
  ·cases k<;>exact⟨true,f2 [(27,.ok),28] e f,by simp_all[Tm.occ]⟩
  cases o
  ·cases k<;>exact⟨false,f4 [(27,.ok),28,(27,.ok),28] e f p1 l,by simp_all[Tm.occ]⟩
  cases k<;>exact⟨true,f4 [(27,.ok),28,(27,.ok),28] e f p1 l,by simp_all[Tm.occ]⟩
 |.n3 k s a b d,c,g=>by
  have g:c+(1+a.cnt+b.cnt+d.cnt)<=qA:=g;have m:=zA;have e:=BA (show c<=_ by omega);have⟨j,f,n⟩:=mK a c a6;have p1:=BA (show c<=_ by omega);have⟨o,l,u⟩:=mK b c a6;have p2:=BA (show c<=_ by omega);have⟨v,p,w⟩:=mK d c a6;cases j;rotate_left
  ·cases k<;>exact⟨true,f2 [(27,.ok),28] e f,by simp_all[Tm.occ]⟩
  cases o;rotate_left
  ·cases k<;>exact⟨true,f4 [(27,.ok),28,(27,.ok),28] e f p1 l,by simp_all[Tm.occ]⟩
  cases v
  ·cases k<;>exact⟨false,f6 [(27,.ok),28,(27,.ok),28,(27,.ok),28] e f p1 l p2 p,by simp_all[Tm.occ]⟩
  cases k<;>exact⟨true,f6 [(27,.ok),28,(27,.ok),28,(27,.ok),28] e f p1 l p2 p,by simp_all[Tm.occ]⟩
def z0(n:Nat):dA (.ofNat n) (.ofNat 0)=false:=iA (c6 n)
def LH:∀(t:Tm)(n:Nat),∃r,A 193 [t.p,num n] (.bool r)/\(r=true↔t.mx<=n)
 |.v i,n=>by
  by_cases h:n<i
  ·exact⟨false,f1 [10] (KA h),by grind[Tm.mx]⟩
  exact⟨true,f1 [10] (iA (abF h)),by grind[Tm.mx]⟩
 |.lam s b,n=>by
  have⟨e,c,g⟩:=LH b n;cases e
  ·exact⟨false,f2 [10,20] (z0 n) c,by grind[Tm.mx]⟩
  exact⟨true,f2 [10,20] (z0 n) c,by grind[Tm.mx]⟩
 |.n0 k,n=>by
  exact⟨true,f1 [10] (z0 n),by simp[Tm.mx]⟩
 |.n1 k a,n=>by
  have⟨e,c,g⟩:=LH a n;cases e
  ·exact⟨false,f2 [10,20] (z0 n) c,by grind[Tm.mx]⟩
  exact⟨true,f2 [10,20] (z0 n) c,by grind[Tm.mx]⟩
 |.n2 k a b,n=>by
  have⟨e,c,g⟩:=LH a n;have⟨j,f,m⟩:=LH b n;cases e
  ·exact⟨false,f2 [10,20] (z0 n) c,by simp_all[Tm.mx]<;>omega⟩
  cases j
  ·exact⟨false,f3 [10,20,20] (z0 n) c f,by simp_all[Tm.mx]<;>omega⟩
  exact⟨true,f3 [10,20,20] (z0 n) c f,by simp_all[Tm.mx]<;>omega⟩
 |.n3 k s a b d,n=>by
  have⟨e,c,g⟩:=LH a n;have⟨j,f,m⟩:=LH b n;have⟨o,l,p⟩:=LH d n;cases e
  ·exact⟨false,f2 [10,20] (z0 n) c,by simp_all[Tm.mx]<;>omega⟩
  cases j
  ·exact⟨false,f3 [10,20,20] (z0 n) c f,by simp_all[Tm.mx]<;>omega⟩
  cases o
  ·exact⟨false,f4 [10,20,20,20] (z0 n) c f l,by simp_all[Tm.mx]<;>omega⟩
  exact⟨true,f4 [10,20,20,20] (z0 n) c f l,by simp_all[Tm.mx]<;>omega⟩
def gJ:∀(t:Tm)(c d:Nat)(s:Tm),s.mx<=qA*qA->s.cnt<=qA->t.mx<=qA*qA->c+d+t.cnt<=qA->A 336 [t.p,num c,num d,s.p] (t.put c s d).p
 |.v i,c,d,s,j,l,f,g=>by
  have o:=zA;have f:i<=qA*qA:=f;have g:c+d+1<=qA:=g;have p:=BA (show c+d<=_ by omega);by_cases h:i=c+d
  ·have e:(Tm.v i).put c s d=s.sh 0 (.ofNat (c+d)):=by simp only[Tm.put,gm h]
   rw[e];exact f4 [(19,.ok),20,(24,.ok),25] p (show sB (.ofNat i) (.ofNat (c+d))=true by rw[h];exact eI _) p (vH s 0 (.ofNat (c+d)) a9 a9 j a6)
  by_cases r:c+d<i
  ·have e:(Tm.v i).put c s d=.v (i-1):=by simp only[Tm.put,e9 h,gm r]
   rw[e];have z:xA (Int.ofNat i-1)=true/\Int.ofNat i-1=.ofNat (i-1):=by
    have e:Int.ofNat i-1=.ofNat (i-1):=a9
    grind[BA]
   exact f5 [(19,.ok),20,(30,.ok),31,34] p (GF h) p (KA r) z
  have e:(Tm.v i).put c s d=.v i:=by simp only[Tm.put,e9 h,e9 r]
  rw[e];exact f4 [(19,.ok),20,(30,.ok),31] p (GF h) p (iA (abF r))
 |.lam u b,c,d,s,j,l,f,g=>by
  have f:b.mx<=qA*qA:=f;have g:c+d+(1+b.cnt)<=qA:=g;have o:=zA;have m:=BA (show(d+1)<=_ by omega);have n:=gJ b c (d+1) s j l a6 a6;exact f2 [(58,.ok),60] m n
 |.n0 k,c,d,s,j,l,f,g=>by
  cases k<;>exact f0 []
 |.n1 k a,c,d,s,j,l,f,g=>by
  have f:a.mx<=qA*qA:=f;have g:c+d+(1+a.cnt)<=qA:=g;have o:=zA;have m:=BA (show d<=_ by omega);have n:=gJ a c d s j l a6 a6;cases k<;>exact f2 [(58,.ok),60] m n
 |.n2 k a b,c,d,s,j,l,f,g=>by
  have f:max a.mx b.mx<=qA*qA:=f;have g:c+d+(1+a.cnt+b.cnt)<=qA:=g;have o:=zA;have m:=BA (show d<=_ by omega);have n:=gJ a c d s j l a6 a6;have p1:=BA (show d<=_ by omega);have v:=gJ b c d s j l a6 a6;cases k<;>exact f4 [(58,.ok),60,(58,.ok),60] m n p1 v
 |.n3 k u a b e,c,d,s,j,l,f,g=>by
  have f:max a.mx (max b.mx e.mx)<=qA*qA:=f;have g:c+d+(1+a.cnt+b.cnt+e.cnt)<=qA:=g;have o:=zA;have m:=BA (show d<=_ by omega);have n:=gJ a c d s j l a6 a6;have p1:=BA (show d<=_ by omega);have v:=gJ b c d s j l a6 a6;have p2:=BA (show d<=_ by omega);have w:=gJ e c d s j l a6 a6;cases k<;>exact f6 [(58,.ok),60,(58,.ok),60,(58,.ok),60] m n p1 v p2 w
open Go.Lg
def Tm.isLam:Tm->Option Tm|.lam _ b=>some b|_=>none
def Tm.isPair:Tm->Option (Tm×Tm)|.n2 .pair a b=>some (a,b)|_=>none
def Tm.red:Tm->Option Tm
 |.n1 .fst a=>a.isPair.map (·.1)|.n1 .snd a=>a.isPair.map (·.2)|.n2 .app f a=>f.isLam.map λb=>b.put 0 a 0|.n3 .re s b f d=>match d with|.n0 .zero=>some b|.n1 .succ n=>some (.n2 .app (.n2 .app f n) (.n3 .re s b f n))|_=>none
 |.n3 .fo s b f d=>match d with|.n0 .nil=>some b|.n2 .cons h l=>some (.n2 .app (.n2 .app (.n2 .app f h) l) (.n3 .fo s b f l))|_=>none
 |_=>none
theorem nK(t:Tm):A 379 [t.p] (.bool t.red.isSome):=by
 cases t with
 |v i=>exact f0 []|lam s b=>exact f0 []|n0 k=>cases k<;>exact f0 []
 |n1 k a=>cases k with
  |succ=>exact f0 []|_=>cases a with
   |v i=>exact f0 []|lam s b=>exact f0 []|n0 l=>cases l<;>exact f0 []
   |n1 l a=>cases l<;>exact f0 []
   |n2 l a b=>cases l<;>exact f0 []
   |n3 l s a b c=>cases l<;>exact f0 []
 |n2 k f b=>cases k with
  |app=>cases f with
   |v i=>exact f0 []|lam s b=>exact f0 []|n0 l=>cases l<;>exact f0 []
   |n1 l a=>cases l<;>exact f0 []
   |n2 l a b=>cases l<;>exact f0 []
   |n3 l s a b c=>cases l<;>exact f0 []
  |_=>exact f0 []
 |n3 k s a b d=>cases k<;>cases d with
   |v i=>exact f0 []|lam s b=>exact f0 []|n0 l=>cases l<;>exact f0 []
   |n1 l a=>cases l<;>exact f0 []
   |n2 l a b=>cases l<;>exact f0 []
   |n3 l s a b c=>cases l<;>exact f0 []
def pK{P:Tm->Tm->Prop}(c:∀a b,P (.n1 .fst (.n2 .pair a b)) a)(e:∀a b,P (.n1 .snd (.n2 .pair a b)) b)(g:∀s b a,P (.n2 .app (.lam s b) a) (b.put 0 a 0))
  (j:∀s b f,P (.n3 .re s b f (.n0 .zero)) b) (m:∀s b f n,P (.n3 .re s b f (.n1 .succ n)) (.n2 .app (.n2 .app f n) (.n3 .re s b f n)))
  (o:∀s b f,P (.n3 .fo s b f (.n0 .nil)) b) (p:∀s b f h l,P (.n3 .fo s b f (.n2 .cons h l)) (.n2 .app (.n2 .app (.n2 .app f h) l) (.n3 .fo s b f l))):∀{t r:Tm},t.red=some r->P t r:=by
 intro t r h
 cases t with
 |v i=>cases h
 |lam s b=>cases h
 |n0 k=>cases h
 |n1 k a=>cases k with
  |succ=>cases h
  |fst=>cases a with
   |n2 l a b=>cases l<;>cases h;simp_all
   |_=>cases h
  |snd=>cases a with
   |n2 l a b=>cases l<;>cases h;simp_all
   |_=>cases h
 |n2 k f b=>cases k with
  |app=>cases f with
   |lam s b=>cases h;simp_all
   |_=>cases h
  |_=>cases h
 |n3 k s a b d=>cases k with
  |re=>cases d with
   |n0 l=>cases l<;>cases h;simp_all
   |n1 l n=>cases l<;>cases h;simp_all
   |_=>cases h
  |fo=>cases d with
   |n0 l=>cases l<;>cases h;simp_all
   |n2 l u t=>cases l<;>cases h;simp_all
   |_=>cases h
def RS(c:Nat)(s:Tm):∀(t:Tm)(d:Nat),(t.put c s d).cnt+t.occ (c+d)=t.cnt+t.occ (c+d)*s.cnt
 :=by intro x;induction x<;>grind[Tm.put,Tm.occ,LC,Tm.cnt,Nat.add_assoc,Nat.add_mul]
theorem hJ(c:Nat)(s:Tm):∀(t:Tm)(d:Nat),(t.put c s d).tsz<=max t.tsz s.tsz
 |.v i,d=>by
  grind[Tm.put,zH,Tm.tsz]
 |.lam u b,d=>by have:=hJ c s b (d+1);grind[Tm.put,Tm.tsz]|.n0 k,d=>c6 _|.n1 k a,d=>hJ c s a d|.n2 k a b,d=>by have:=hJ c s a d;have:=hJ c s b d;grind[Tm.put,Tm.tsz]|.n3 k u a b e,d=>by have:=hJ c s a d;have:=hJ c s b d;have:=hJ c s e d;grind[Tm.put,Tm.tsz]
theorem cW(c:Nat)(s:Tm):∀(t:Tm)(d:Nat),(t.put c s d).mx<=max t.mx (s.mx+(c+d+t.cnt))
 :=by intro x;induction x<;>grind[Tm.put,vG,Tm.mx,Tm.cnt]
def Rz:∀{t r:Tm},t.red=some r->r.mx<=t.mx+t.cnt/\r.tsz<=t.tsz:=by
 refine pK (P:=λt r=>r.mx<=t.mx+t.cnt/\r.tsz<=t.tsz) ?_ ?_ ?_ ?_ ?_ ?_ ?_
 ·grind[Tm.mx,Tm.cnt,Tm.tsz]
 ·grind[Tm.mx,Tm.cnt,Tm.tsz]
 ·grind[cW,hJ,Tm.mx,Tm.cnt,Tm.tsz]
 all_goals (simp only[Tm.mx,Tm.cnt,Tm.tsz];omega)
theorem bQ{z:Int}(h: -1152921504606846976<=z)(a:z<=1152921504606846976):xA z=true:=by
 cases z with|ofNat n=>grind[BA]|negSucc n=>exact kx a6
def Sz:∀{t r:Tm},t.red=some r->t.mx<=qA*qA->t.cnt<=qA->A 381 [t.p] r.p:=by
 refine pK (P:=λt r=>t.mx<=qA*qA->t.cnt<=qA->A 381 [t.p] r.p) ?_ ?_ ?_ ?_ ?_ ?_ ?_
 ·intro a b _ _;exact f0 []
 ·intro a b _ _;exact f0 []
 ·intro s b a c d;simp only[Tm.mx,Tm.cnt]at c d;exact f1 [21] (gJ b 0 0 a a6 a6 a6 a6)
 ·intro s b f _ _;exact f0 []
 ·intro s b f n _ _;exact f3 [47,60,62] (WG 3 f n) (sO .re s b f n) (WG 3 (.n2 .app f n) (.n3 .re s b f n))
 ·intro s b f _ _;exact f0 []
 intro s b f h l _ _;exact f4 [95,98,111,113] (WG 3 f h) (WG 3 (.n2 .app f h) l) (sO .fo s b f l) (WG 3 (.n2 .app (.n2 .app f h) l) (.n3 .fo s b f l))
def gC{a b:Nat}{z:Int}(h:a<=bA:=by omega)(c:b<=bA:=by omega)(e:(a:Int)-b=z:=by omega):xA (Int.ofNat a-Int.ofNat b)=true/\Int.ofNat a-Int.ofNat b=z:=by
 have:=yA;refine⟨bQ ?_ ?_,e⟩<;>simp<;>omega
def EB{a b:Nat}(h:a+b<=bA:=by omega):xA (Int.ofNat a+Int.ofNat b)=true:=cB (n:=a+b) h
def lC{a:Nat}(h:1<=a:=by omega)(b:a<=bA:=by omega):xA (Int.ofNat a-1)=true/\Int.ofNat a-1=.ofNat (a-1):=by
 grind[cB]
def Bl{a b:Nat}(h:a*b<=bA:=by omega):xA (Int.ofNat a*Int.ofNat b)=true:=cB (n:=a*b) h
def UE(a:Tm):1<=a.cnt:=by cases a<;>simp[Tm.cnt]<;>omega
def aaV:=@Nat.mul_le_mul
def abk:=@Nat.mul_succ
def Tz:∀{t r:Tm},t.red=some r->t.cnt<=qA->A 380 [t.p] (.int ((r.cnt:Int)-t.cnt)):=by
 have z:=zA;have D:=yA;refine@pK (λt r=>t.cnt<=qA->A 380 [t.p] (.int ((r.cnt:Int)-t.cnt))) ?_ ?_ ?_ ?_ ?_ ?_ ?_
 ·intro a b h;generalize e:Tm.n1 .fst (.n2 .pair a b)=t at *
  have i:a.cnt<=qA:=by grind[Tm.cnt]
  have g:=lB t a6;have d:=lB a a6;have c:=gC (a:=a.cnt) (b:=t.cnt) a6 a6 rfl;subst e;exact f3 [(9,.N (Tm.n1 .fst (.n2 .pair a b)).cnt),(129,.N a.cnt),(131,.y ((a.cnt:Int)-(Tm.n1 .fst (.n2 .pair a b)).cnt))] g d c
 ·intro a b h;generalize e:Tm.n1 .snd (.n2 .pair a b)=t at *
  have i:b.cnt<=qA:=by grind[Tm.cnt]
  have g:=lB t a6;have d:=lB b a6;have c:=gC (a:=b.cnt) (b:=t.cnt) a6 a6 rfl;subst e;exact f3 [(9,.N (Tm.n1 .snd (.n2 .pair a b)).cnt),(139,.N b.cnt),(141,.y ((b.cnt:Int)-(Tm.n1 .snd (.n2 .pair a b)).cnt))] g d c
 ·intro s b a h;have i:1+(1+b.cnt)+a.cnt<=qA:=h;have g:=IB b 0;have d:=RS 0 a b 0;simp only[ia]at d;have u:=UE a;have c:b.occ 0*(a.cnt-1)<=qA*qA:=aaV a6 a6;have E:b.occ 0*a.cnt=b.occ 0*(a.cnt-1)+b.occ 0:=by
   have:a.cnt=(a.cnt-1)+1:=a6
   rw[this,abk];simp
  rw[z]at c;generalize e:Tm.n2 .app (.lam s b) a=t at *
  have j:=lB t a6;have k:=lB b a6;have m:=fJ b 0 a6;have o:=lB a a6;have p:=lC u;have v:=Bl (a:=b.occ 0) (b:=a.cnt-1);have B:=EB (a:=b.cnt) (b:=b.occ 0*(a.cnt-1));have C:=gC (a:=b.cnt+b.occ 0*(a.cnt-1)) (b:=t.cnt) (z:=((b.put 0 a 0).cnt:Int)-t.cnt);subst e;exact f8 [(9,.N (Tm.n2 .app (.lam s b) a).cnt),(26,.N b.cnt),(28,.N (b.occ 0)),(30,.N a.cnt),(31,.z (a.cnt-1)),(32,.ok),(33,.ok),(35,.y (((b.put 0 a 0).cnt:Int)-(Tm.n2 .app (.lam s b) a).cnt))] j k m o p v B C
 ·intro s b f h;have i:1+b.cnt+f.cnt+1<=qA:=h;generalize e:Tm.n3 .re s b f (.n0 .zero)=t at *
  have g:=lB t a6;have d:=lB b a6;have c:=gC (a:=b.cnt) (b:=t.cnt) a6 a6 rfl;subst e;exact f3 [(9,.N (Tm.n3 .re s b f (.n0 .zero)).cnt),(48,.N b.cnt),(50,.y ((b.cnt:Int)-(Tm.n3 .re s b f (.n0 .zero)).cnt))] g d c
 ·intro s b f n h;have i:1+b.cnt+f.cnt+(1+n.cnt)<=qA:=h;have w:((Tm.n2 .app (.n2 .app f n) (.n3 .re s b f n)).cnt:Int)-(Tm.n3 .re s b f (.n1 .succ n)).cnt=(1+f.cnt+n.cnt:Nat):=by grind[Tm.cnt]
  rw[w];generalize e:Tm.n3 .re s b f (.n1 .succ n)=t at *
  have g:=lB t a6;have d:=lB f a6;have c:=lB n a6;have j:=EB (a:=2) (b:=f.cnt);have k:=EB (a:=2+f.cnt) (b:=n.cnt);have m:=EB (a:=2+f.cnt+n.cnt) (b:=t.cnt);have o:=lC (a:=2+f.cnt+n.cnt+t.cnt);have p:=gC (a:=2+f.cnt+n.cnt+t.cnt-1) (b:=t.cnt) (z:=((1+f.cnt+n.cnt:Nat):Int));subst e;exact f8 [(9,.N (Tm.n3 .re s b f (.n1 .succ n)).cnt),(55,.N f.cnt),(56,.ok),(64,.N n.cnt),(65,.ok),(67,.ok),(68,.z (2+f.cnt+n.cnt+(Tm.n3 .re s b f (.n1 .succ n)).cnt-1)),(70,.y ((1+f.cnt+n.cnt:Nat):Int))] g d j c k m o p
 ·intro s b f h;have i:1+b.cnt+f.cnt+1<=qA:=h;generalize e:Tm.n3 .fo s b f (.n0 .nil)=t at *
  have g:=lB t a6;have d:=lB b a6;have c:=gC (a:=b.cnt) (b:=t.cnt) a6 a6 rfl;subst e;exact f3 [(9,.N (Tm.n3 .fo s b f (.n0 .nil)).cnt),(83,.N b.cnt),(85,.y ((b.cnt:Int)-(Tm.n3 .fo s b f (.n0 .nil)).cnt))] g d c
 intro s b f x l h;have i:1+b.cnt+f.cnt+(1+x.cnt+l.cnt)<=qA:=h;have w:((Tm.n2 .app (.n2 .app (.n2 .app f x) l) (.n3 .fo s b f l)).cnt:Int)-(Tm.n3 .fo s b f (.n2 .cons x l)).cnt=(2+f.cnt+l.cnt:Nat):=by grind[Tm.cnt]
 rw[w];generalize e:Tm.n3 .fo s b f (.n2 .cons x l)=t at *
 have g:=lB t a6;have d:=lB f a6;have c:=lB x a6;have u:=lB l a6;have j:=EB (a:=3) (b:=f.cnt);have k:=EB (a:=3+f.cnt) (b:=x.cnt);have y:=EB (a:=3+f.cnt+x.cnt) (b:=l.cnt);have m:=EB (a:=3+f.cnt+x.cnt+l.cnt) (b:=t.cnt);have o:=lC (a:=3+f.cnt+x.cnt+l.cnt+t.cnt);have p:=gC (a:=3+f.cnt+x.cnt+l.cnt+t.cnt-1) (b:=x.cnt) (z:=((2+f.cnt+l.cnt+t.cnt:Nat):Int));have v:=gC (a:=2+f.cnt+l.cnt+t.cnt) (b:=t.cnt) (z:=((2+f.cnt+l.cnt:Nat):Int));exact NS [(9,.N (Tm.n3 .fo s b f (.n2 .cons x l)).cnt),(104,.N f.cnt),(105,.ok),(107,.N x.cnt),(108,.ok),(110,.N l.cnt),(111,.ok),(113,.ok),(114,.z (3+f.cnt+x.cnt+l.cnt+(Tm.n3 .fo s b f (.n2 .cons x l)).cnt-1)),(116,.N x.cnt),(117,.z (2+f.cnt+l.cnt+(Tm.n3 .fo s b f (.n2 .cons x l)).cnt)),(119,.y ((2+f.cnt+l.cnt:Nat):Int))] g d j c k u y m o c p v
open Go.Lg
structure NR where
 k:Nat
 i:Nat
 tk:Nat
 te:List (List PV)
 es:List (List PV)
 fd:Bool
 ft:Bool
def NR.row(c:NR):List PV:=[num c.k,num c.i,num c.tk,.slice c.te,.slice c.es]
def NR.p(c:NR):PV:=.tuple [.agg c.row,.bool c.fd,.bool c.ft]
def NR.of(t:Tm)(a:Bool):NR:=⟨t.kd,t.ix,t.tk,t.te,t.es,a,true⟩
def rK(t:Tm)(z:Int)(x:Tm):Prop:=(x.cnt:Int)<=t.cnt+z/\x.mx<=t.mx+t.cnt/\x.tsz<=t.tsz
inductive SR where|er|no|ok (x:Tm)
def SR.or(f:Tm->Tm)(r:SR):SR->SR|.no=>r|.er=>.er|.ok x=>.ok (f x)
def rt(z:Int)(t r:Tm):SR:=bif dA z ((r.cnt:Int)-t.cnt)then .er else .ok r
def Tm.st(z:Int):Tm->SR
 |.v _=>.no|.n0 _=>.no|.lam s b=>.or (.lam s) .no (b.st z)|.n1 k a=>match (Tm.n1 k a).red with|some r=>rt z (.n1 k a) r|none=>.or (.n1 k) .no (a.st z)
 |.n2 k a b=>match (Tm.n2 k a b).red with|some r=>rt z (.n2 k a b) r|none=>.or (λx=>.n2 k x b) (.or (.n2 k a) .no (b.st z)) (a.st z)
 |.n3 k s a b c=>match (Tm.n3 k s a b c).red with|some r=>rt z (.n3 k s a b c) r|none=>.or (λx=>.n3 k s x b c) (.or (λx=>.n3 k s a x c) (.or (.n3 k s a b) .no (c.st z)) (b.st z)) (a.st z)
def CD{t r:Tm}(h:t.red=some r)(z:Int):t.st z=rt z t r:=by
 cases t with
 |v i=>cases h
 |n0 k=>cases h
 |lam s b=>cases h
 |_=>simp only[Tm.st,h]
def mC{f:Tm->Tm}{r q:SR}{x:Tm}(h:SR.or f r q=.ok x):(∃y,q=.ok y/\x=f y)\/q=.no/\r=.ok x:=by
 cases q with
 |no=>exact .inr ⟨rfl,h⟩|er=>cases h
 |ok y=>cases h;simp
def sK(z:Int):∀(t:Tm){x:Tm},t.st z=.ok x->rK t z x:=by
 have root:∀{t r x:Tm},t.red=some r->rt z t r=.ok x->rK t z x:=by
  intro t r x h e;unfold rt at e;cases d:dA z ((r.cnt:Int)-t.cnt)<;>rw[d]at e<;>cases e;rw[vC]at d;have:=of_decide_eq_false d;exact⟨a6,Rz h⟩
 intro t
 induction t with
 |v i=>intro x h;cases h
 |n0 k=>intro x h;cases h
 |lam s b o=>
  intro x h;rcases mC h with ⟨y,e,rfl⟩|⟨_,h⟩
  ·grind[rK,Tm.cnt,Tm.mx,Tm.tsz]
  cases h
 |n1 k a o=>
  intro x h
  cases f:(Tm.n1 k a).red with
  |some r=>rw[CD f]at h;simp_all|none=>
   simp only[Tm.st,f]at h;rcases mC h with ⟨y,e,rfl⟩|⟨_,h⟩
   ·grind[rK,Tm.cnt,Tm.mx,Tm.tsz]
   cases h
 |n2 k a b g j=>
  intro x h
  cases f:(Tm.n2 k a b).red with
  |some r=>rw[CD f]at h;simp_all|none=>
   simp only[Tm.st,f]at h;rcases mC h with ⟨y,e,rfl⟩|⟨_,h⟩
   ·have⟨d,l,m⟩:=g e;simp only[rK,Tm.cnt,Tm.mx,Tm.tsz];omega
   rcases mC h with ⟨y,e,rfl⟩|⟨_,h⟩
   ·have⟨d,l,m⟩:=j e;simp only[rK,Tm.cnt,Tm.mx,Tm.tsz];omega
   cases h
 |n3 k s a b c g j n=>
  intro x h
  cases f:(Tm.n3 k s a b c).red with
  |some r=>rw[CD f]at h;simp_all|none=>
   simp only[Tm.st,f]at h;rcases mC h with ⟨y,e,rfl⟩|⟨_,h⟩
   ·have⟨d,l,m⟩:=g e;simp only[rK,Tm.cnt,Tm.mx,Tm.tsz];omega
   rcases mC h with ⟨y,e,rfl⟩|⟨_,h⟩
   ·have⟨d,l,m⟩:=j e;simp only[rK,Tm.cnt,Tm.mx,Tm.tsz];omega
   rcases mC h with ⟨y,e,rfl⟩|⟨_,h⟩
   ·have⟨d,l,m⟩:=n e;simp only[rK,Tm.cnt,Tm.mx,Tm.tsz];omega
   cases h
def NR.Is(c:NR):SR->Prop|.no=>c.fd=false|.er=>c.fd=true/\c.ft=false|.ok x=>c.fd=true/\c.ft=true/\c.row=x.c
abbrev NR.Good(c:NR)(t:Tm)(z:Int):Prop:=c.Is (t.st z)
def wH{c:NR}{r:SR}(q:c.Is r)(h:c.fd=false):r=.no:=by
 cases r with
 |no=>rfl|er=>rw[q.1]at h;cases h
 |ok x=>rw[q.1]at h;cases h
def aO{c a:NR}{r g:SR}{f:Tm->Tm}(q:c.Is r)(b:c.fd=true)(d:a.fd=true)(e:a.ft=c.ft)(h:∀x,c.row=x.c->a.row=(f x).c):a.Is (.or f g r):=by
 cases r with
 |no=>rw[show c.fd=false from q]at b;cases b
 |er=>exact⟨d,e.trans q.2⟩|ok x=>exact⟨d,e.trans q.2.1,h x q.2.2⟩
def lJ(f:Tm->Tm)(r:SR):SR.or f r .no=r:=rfl
def Uz{c:NR}{x:Tm}(h:c.row=x.c):c.k=x.kd/\c.i=x.ix/\c.tk=x.tk/\c.te=x.te/\c.es=x.es:=by
 simp only[NR.row,Tm.c,abh,PV.int.injEq,PV.slice.injEq,and_true]at h
 grind
def jM{t r:Tm}(h:t.red=some r)(z:Int)(f:t.mx<=qA*qA:=by omega)(b:t.cnt<=qA:=by omega):∃c:NR,A 338 [t.p,.int z] c.p/\c.Good t z:=by
 have a:=nK t;rw[h]at a;have d:=Tz h b;simp only[NR.Good,CD h,rt];cases e:dA z ((r.cnt:Int)-t.cnt)
 ·exact⟨.of r true,f4 [14,16,18,21] a d e (Sz h f b),rfl,rfl,rfl⟩
 exact⟨⟨0,0,0,[],[],true,false⟩,f3 [14,16,18] a d e,rfl,rfl⟩
def Cl:∀(t:Tm)(z:Int),t.mx<=qA*qA->t.cnt<=qA->∃c:NR,A 338 [t.p,.int z] c.p/\c.Good t z:=by
 intro t z F I
 cases j:t.red with|some r=>exact jM j z F I|none=>
 have g:=nK t;rw[j]at g
 induction t with
 |v i=>exact⟨.of (.v i) false,f1 [14] g,rfl⟩|n0 k=>exact⟨.of (.n0 k) false,f1 [14] g,rfl⟩|lam s b V=>
  have w:1+b.cnt<=qA:=I;obtain⟨⟨k,i,tk,te,es,fd,W⟩,X,Y⟩:∃c:NR,A 338 [b.p,.int z] c.p/\c.Good b z:=by
   cases e:b.red with|some r=>exact jM e z F|none=>exact V F a6 e (by have:=nK b;rw[e]at this;exact this)
  cases fd
  ·exact⟨.of (.lam s b) false,f2 [14,33] g X,by show NR.Is _ (SR.or _ _ _);rw[wH Y rfl];rfl⟩
  exact⟨⟨2,0,s.kd,s.es,[NR.row ⟨k,i,tk,te,es,true,W⟩],true,W⟩,f2 [14,33] g X,by show NR.Is _ (SR.or _ _ _);exact aO Y rfl rfl rfl λx h=>by rw[h];rfl⟩
 |n1 k a V=>
  have w:1+a.cnt<=qA:=I;have J:a.mx<=qA*qA:=F;obtain⟨⟨K,L,l,m,n,o,f⟩,ga,p⟩:∃c:NR,A 338 [a.p,.int z] c.p/\c.Good a z:=by
   cases e:a.red with|some r=>exact jM e z|none=>grind[nK]
  cases o;rotate_left
  ·exact⟨⟨(Tm.n1 k a).kd,0,0,[],[NR.row ⟨K,L,l,m,n,true,f⟩],true,f⟩,f2 [14,33] g ga,by simp only[NR.Good,Tm.st,j];exact aO p rfl rfl rfl λx h=>by rw[h];rfl⟩
  exact⟨.of ((Tm.n1 k a)) false,f2 [14,33] g ga,by simp only[NR.Good,Tm.st,j];rw[wH p rfl,lJ];rfl⟩
 |n2 k a b M y=>
  have w:1+a.cnt+b.cnt<=qA:=I;have J:max a.mx b.mx<=qA*qA:=F;obtain⟨⟨K,L,l,m,n,o,f⟩,ga,p⟩:∃c:NR,A 338 [a.p,.int z] c.p/\c.Good a z:=by
   cases e:a.red with|some r=>exact jM e z|none=>grind[nK]
  cases o;rotate_left
  ·exact⟨⟨(Tm.n2 k a b).kd,0,0,[],[NR.row ⟨K,L,l,m,n,true,f⟩,b.c],true,f⟩,f2 [14,33] g ga,by simp only[NR.Good,Tm.st,j];exact aO p rfl rfl rfl λx h=>by rw[h];rfl⟩
  obtain⟨⟨O,P,B,C,D,E,u⟩,G,H⟩:∃c:NR,A 338 [b.p,.int z] c.p/\c.Good b z:=by
   cases e:b.red with|some r=>exact jM e z|none=>exact y a6 a6 e (by have:=nK b;rw[e]at this;exact this)
  cases E;rotate_left
  ·exact⟨⟨(Tm.n2 k a b).kd,0,0,[],[a.c,NR.row ⟨O,P,B,C,D,true,u⟩],true,u⟩,f3 [14,33,33] g ga G,by simp only[NR.Good,Tm.st,j];rw[wH p rfl,lJ];exact aO H rfl rfl rfl λx h=>by rw[h];rfl⟩
  exact⟨.of ((Tm.n2 k a b)) false,f3 [14,33,33] g ga G,by simp only[NR.Good,Tm.st,j];rw[wH p rfl,lJ,wH H rfl,lJ];rfl⟩
 |n3 k s a b d M y Q=>
  have w:1+a.cnt+b.cnt+d.cnt<=qA:=I;have J:max a.mx (max b.mx d.mx)<=qA*qA:=F;obtain⟨⟨K,L,l,m,n,o,f⟩,ga,p⟩:∃c:NR,A 338 [a.p,.int z] c.p/\c.Good a z:=by
   cases e:a.red with|some r=>exact jM e z|none=>exact M a6 a6 e (by have:=nK a;rw[e]at this;exact this)
  cases o;rotate_left
  ·exact⟨⟨(Tm.n3 k s a b d).kd,0,s.kd,s.es,[NR.row ⟨K,L,l,m,n,true,f⟩,b.c,d.c],true,f⟩,f2 [14,33] g ga,by simp only[NR.Good,Tm.st,j];exact aO p rfl rfl rfl λx h=>by rw[h];rfl⟩
  obtain⟨⟨O,P,B,C,D,E,u⟩,G,H⟩:∃c:NR,A 338 [b.p,.int z] c.p/\c.Good b z:=by
   cases e:b.red with|some r=>exact jM e z|none=>exact y a6 a6 e (by have:=nK b;rw[e]at this;exact this)
  cases E;rotate_left
  ·exact⟨⟨(Tm.n3 k s a b d).kd,0,s.kd,s.es,[a.c,NR.row ⟨O,P,B,C,D,true,u⟩,d.c],true,u⟩,f3 [14,33,33] g ga G,by simp only[NR.Good,Tm.st,j];rw[wH p rfl,lJ];exact aO H rfl rfl rfl λx h=>by rw[h];rfl⟩
  obtain⟨⟨kd,id,R,S,T,U,N⟩,gd,Z⟩:∃c:NR,A 338 [d.p,.int z] c.p/\c.Good d z:=by
   cases e:d.red with|some r=>exact jM e z|none=>exact Q a6 a6 e (by have:=nK d;rw[e]at this;exact this)
  cases U;rotate_left
  ·exact⟨⟨(Tm.n3 k s a b d).kd,0,s.kd,s.es,[a.c,b.c,NR.row ⟨kd,id,R,S,T,true,N⟩],true,N⟩,f4 [14,33,33,33] g ga G gd,by simp only[NR.Good,Tm.st,j];rw[wH p rfl,lJ,wH H rfl,lJ];exact aO Z rfl rfl rfl λx h=>by rw[h];rfl⟩
  exact⟨.of ((Tm.n3 k s a b d)) false,f4 [14,33,33,33] g ga G gd,by simp only[NR.Good,Tm.st,j];rw[wH p rfl,lJ,wH H rfl,lJ,wH Z rfl,lJ];rfl⟩
inductive NF where|ok (x:Tm) (n:Nat)|er (e:Nat)
def NF.k:NF->Nat|.ok x _=>x.kd|.er _=>0
def NF.i:NF->Nat|.ok x _=>x.ix|.er _=>0
def NF.tk:NF->Nat|.ok x _=>x.tk|.er _=>0
def NF.te:NF->List (List PV)|.ok x _=>x.te|.er _=>[]
def NF.es:NF->List (List PV)|.ok x _=>x.es|.er _=>[]
def NF.n:NF->Nat|.ok _ n=>n|.er _=>0
def NF.e:NF->Nat|.ok _ _=>0|.er e=>e+1
def NF.p(r:NF):PV:=.tuple [.agg [num r.k,num r.i,num r.tk,.slice r.te,.slice r.es],num r.n,num r.e]
def MC:Nat->Nat->Tm->NF
 |0,n,t=>match t.st (4096-t.cnt)with|.no=>.ok t n|_=>.er 4
 |r+1,n,t=>match t.st (4096-t.cnt)with|.no=>.ok t n|.er=>.er 3|.ok x=>MC r (n+1) x
def lE(t:Tm):NF:=MC 1000 0 t
def Tm.mt(a b:Tm):Prop:=a=b\/∃x k l,lE a=.ok x k/\lE b=.ok x l
abbrev Lm(e:Nat):Prop:=3<=e/\e<=5
inductive Par:Tm->Tm->Prop|v (i:Nat):Par (.v i) (.v i)|n0 (k:K0):Par (.n0 k) (.n0 k)|lam (s:Ty) {b b':Tm}:Par b b'->Par (.lam s b) (.lam s b')|n1 (k:K1) {a a':Tm}:Par a a'->Par (.n1 k a) (.n1 k a')|n2 (k:K2) {a a' b b':Tm}:Par a a'->Par b b'->Par (.n2 k a b) (.n2 k a' b')|n3 (k:K3) (s:Ty) {a a' b b' c c':Tm}:Par a a'->Par b b'->Par c c'->Par (.n3 k s a b c) (.n3 k s a' b' c')|fst (b:Tm) {a a':Tm}:Par a a'->Par (.n1 .fst (.n2 .pair a b)) a'|snd (a:Tm) {b b':Tm}:Par b b'->Par (.n1 .snd (.n2 .pair a b)) b'|beta (s:Ty) {b b' a a':Tm}:Par b b'->Par a a'->Par (.n2 .app (.lam s b) a) (b'.put 0 a' 0)|re0 (s:Ty) (f:Tm) {b b':Tm}:Par b b'->Par (.n3 .re s b f (.n0 .zero)) b'|reS (s:Ty) {b b' f f' n n':Tm}:Par b b'->Par f f'->Par n n'->Par (.n3 .re s b f (.n1 .succ n)) (.n2 .app (.n2 .app f' n') (.n3 .re s b' f' n'))|fo0 (s:Ty) (f:Tm) {b b':Tm}:Par b b'->Par (.n3 .fo s b f (.n0 .nil)) b'|foC (s:Ty) {b b' f f' h h' l l':Tm}:Par b b'->Par f f'->Par h h'->Par l l'->Par (.n3 .fo s b f (.n2 .cons h l)) (.n2 .app (.n2 .app (.n2 .app f' h') l') (.n3 .fo s b' f' l'))
inductive Ps:Tm->Tm->Prop|refl (t:Tm):Ps t t|step {a b c:Tm}:Par a b->Ps b c->Ps a c
def Cv(a b:Tm):Prop:=∃w,Ps a w/\Ps b w
def Ht:List Ty->Tm->Ty->Prop
 |G,.v i,u=>ZA G i=.ok u|G,.lam s b,u=>∃w,u=.two true s w/\Ht (G++[s]) b w|_,.n0 k,u=>u=match k with
  |.zero=>.nat|.nil=>.list|.unit=>.unit
 |G,.n1 k a,u=>match k with|.succ=>u=.nat/\Ht G a .nat|.fst=>∃w,Ht G a (.two false u w)|.snd=>∃w,Ht G a (.two false w u)
 |G,.n2 k a b,u=>match k with|.app=>∃s,Ht G a (.two true s u)/\Ht G b s|.cons=>u=.list/\Ht G a .nat/\Ht G b .list|.pair=>∃s w,u=.two false s w/\Ht G a s/\Ht G b w
 |G,.n3 k s a b c,u=>u=s/\Ht G a s/\match k with
  |.re=>Ht G b (.two true .nat (.two true s s))/\Ht G c .nat|.fo=>Ht G b (.two true .nat (.two true .list (.two true s s)))/\Ht G c .list
class PA:Prop where
 nf:∀{a b x y:Tm}{k l:Nat},Cv a b->lE a=.ok x k->lE b=.ok y l->x=y
 ht:∀{t:Tm}{g:List Ty}{u:Ty},Ht g t u->t.tyR g=.ok u\/t.tyR g=.er 3
def Tm.sm(t:Tm):Prop:=t.chk=0/\t.mx<=536870912
def kz:List PV:=[.int 0,.int 0,.int 0,.nils,.nils]
abbrev bx(l:List PV):Ob:=.box (l.map .pv)
abbrev iW:Kp:=⟨[1,2,4,8],[0,1],2,[]⟩
abbrev oW:Kp:=⟨[4,5,6],[1],2,[]⟩
abbrev Dl(m n:Nat)(t:Tm):IS:=st [(1,.pv (num m)),(2,.loc 0 0),(4,.loc 1 0),(8,.pv (num n))] [(0,bx t.c),(1,bx kz)] 2 []
abbrev xW(n e:Nat)(l:List PV):IS:=st [(4,.loc 1 0),(5,.pv (num n)),(6,.pv (num e))] [(1,bx l)] 2 []
def Vz(m M T:Nat)(s:M+(m+1)*4096<=qA*qA)(F:T<=qA)(B:m<=qA):∀(r n:Nat),n+r=m->∀t:Tm,t.cnt<=4096->t.mx<=M+n*4096->t.tsz<=T->
  (∃x k,Lp 269 0 0 (Dl m n t) .ret (xW k 0 (Tm.c x))/\MC r n t=.ok x k/\x.cnt<=4096/\x.mx<=M+m*4096/\x.tsz<=T/\k<=m)\/∃e,Lp 269 0 0 (Dl m n t) .ret (xW 0 (e+1) kz)/\Lm (e+1):=by
 have u:=zA;have:=yA;intro r
 induction r with
 |zero=>
  intro n C t f v g;obtain rfl:n=m:=by omega
  obtain⟨⟨k,i,tk,te,es,h,w⟩,b,a⟩:=Cl t (4096-t.cnt) (by rw[u]at s⊢;omega) (by omega);have c:=lB t (by omega);have d:=gC (a:=4096) (b:=t.cnt) (z:=4096-(t.cnt:Int)) (by omega) (by omega) rfl;cases h
  ·exact .inl ⟨t,n,x4 [35,(36,.y (4096-(t.cnt:Int))),37,44] oW c d b (aC t),by rw[MC,wH a rfl],f,v,g,Nat.le_refl _⟩
  exact .inr ⟨4,x4 [35,(36,.y (4096-(t.cnt:Int))),37,48] oW c d b (eI n),by decide⟩
 |succ r D=>
  intro n C t f v g;have:n*4096<=m*4096:=Nat.mul_le_mul_right _ (by omega);obtain⟨⟨k,i,tk,te,es,h,w⟩,b,a⟩:=Cl t (4096-t.cnt) (by rw[u]at s⊢;omega) (by omega);have c:=lB t (by omega);have d:=gC (a:=4096) (b:=t.cnt) (z:=4096-(t.cnt:Int)) (by omega) (by omega) rfl;cases h
  ·exact .inl ⟨t,n,x4 [35,(36,.y (4096-(t.cnt:Int))),37,44] oW c d b (aC t),by rw[MC,wH a rfl],f,by omega,g,by omega⟩
  have l:sB (.ofNat n) (.ofNat m)=false:=GF (by omega);cases w
  ·exact .inr ⟨3,x4 [35,(36,.y (4096-(t.cnt:Int))),37,48] oW c d b l,by decide⟩
  obtain⟨x,z,E⟩:∃x,t.st (4096-t.cnt)=.ok x/\NR.row ⟨k,i,tk,te,es,true,true⟩=x.c:=by
   simp only[NR.Good]at a;cases e:t.st (4096-t.cnt)<;>rw[e]at a
   ·cases a.2
   ·cases a
   exact⟨_,rfl,a.2.2⟩
  obtain⟨I,J,K⟩:=sK _ t z;rw[MC,z];obtain⟨rfl,rfl,rfl,rfl,rfl⟩:=Uz E;have A:=EB (a:=n) (b:=1);rcases D (n+1) (by omega) x (by omega) (by omega) (by omega)with ⟨y,j,o,p⟩|⟨e,o,p⟩
  ·exact .inl ⟨y,j,n6 [35,(36,.y (4096-(t.cnt:Int))),37,48,(31,.ok)] iW c d b l A o,p⟩
  exact .inr ⟨e,n6 [35,(36,.y (4096-(t.cnt:Int))),37,48,(31,.ok)] iW c d b l A o,p⟩
def NF.Good(t:Tm):NF->Prop|.ok x _=>x.cnt<=4096/\x.mx<=t.mx+1001*4096/\x.tsz<=t.tsz|.er _=>True
def i3:=@Nat.lt_of_not_le
def AW(t:Tm)(i:t.cnt<=bA)(o:t.mx+1001*4096<=qA*qA)(j:t.tsz<=qA:=by omega):∃r:NF,A 269 [t.p,num 1000] r.p/\r.Good t/\(∀x k,r=.ok x k->lE t=.ok x k)/\(t.sm->∀e,r=.er e->Lm (e+1)):=by
 have:=zA;have:=yA;have b:=XG t a6 i;by_cases c:t.shp=true/\t.cnt<=4096
 ·have a:t.chk=0:=by
   unfold Tm.chk;rw[c.1];rw[iA c.2]
  rw[a]at b;have⟨q,d,l⟩:=LH t 536870912;cases q
  ·exact⟨.er 0,f2 [13,26] b d,trivial,(λ_ _ h=>nomatch h),λh=>nomatch l.2 h.2⟩
  rcases Vz 1000 t.mx t.tsz a6 j a6 1000 0 rfl t c.2 a6 (e6 _)with ⟨x,k,f,m,g,u,n,v⟩|⟨e,f,g⟩
  ·exact⟨.ok x k,f3 [13,26,(100008,.l iW .ret (xW k 0 x.c))] b d f,⟨g,a6,n⟩,(λ_ _ e=>by cases e;exact m),λ_ _ h=>nomatch h⟩
  exact⟨.er e,f3 [13,26,(100008,.l iW .ret (xW 0 (e+1) kz))] b d f,trivial,(λ_ _ h=>nomatch h),λ_ _ h=>by grind⟩
 have a:t.chk=2\/t.chk=4:=by
  unfold Tm.chk;cases e:t.shp
  ·simp
  rw[KA (by have h:t.cnt>4096:=i3 (λh=>c ⟨e,h⟩);exact h)];simp
 rcases a with a|a<;>rw[a]at b
 ·exact⟨.er 1,f1 [13] b,trivial,(λ_ _ h=>nomatch h),λh=>nomatch h.1.symm.trans a⟩
 exact⟨.er 3,f1 [13] b,trivial,(λ_ _ h=>nomatch h),λh=>nomatch h.1.symm.trans a⟩
def El[PA](a b:Tm)(l:a.cnt<=bA)(w:a.mx+1001*4096<=qA*qA)(z:a.tsz<=qA)(o:b.cnt<=bA)(B:b.mx+1001*4096<=qA*qA)(C:b.tsz<=qA:=by omega):∃e,A 205 [a.p,b.p,num 1000] (num e)/\(e=0->a.mt b)/\(Cv a b->a.sm->b.sm->e=0\/Lm e):=by
 have:=zA;have:=yA;have c:=XG a a6 l;have d:=XG b a6 o
 cases i:a.chk with
 |succ n=>rw[i]at c;exact⟨n+1,f1 [15] c,(λh=>nomatch h),λ_ h=>nomatch h.1.symm.trans i⟩|zero=>
  rw[i]at c
  cases j:b.chk with
  |succ n=>rw[j]at d;exact⟨n+1,f2 [15,20] c d,(λh=>nomatch h),λ_ _ h=>nomatch h.1.symm.trans j⟩|zero=>
   rw[j]at d;have⟨q,f,D⟩:=lK a b;cases q;rotate_left
   ·exact⟨0,f3 [15,20,26] c d f,(λ_=>.inl (D.1 rfl)),λ_ _ _=>.inl rfl⟩
   have⟨r,g,_,p,E⟩:=AW a l w z;have⟨s,k,_,t,F⟩:=AW b o B C
   cases r with
   |er e=>exact⟨e+1,f4 [15,20,26,30] c d f g,(λh=>nomatch h),λ_ h _=>.inr (E h e rfl)⟩|ok x n=>
    cases s with
    |er e=>exact⟨e+1,f5 [15,20,26,30,40] c d f g k,(λh=>nomatch h),λ_ _ h=>.inr (F h e rfl)⟩|ok y m=>
     have⟨q,u,v⟩:=lK x y;cases q
     ·exact⟨11,f6 [15,20,26,30,40,49] c d f g k u,(λh=>nomatch h),λh _ _=>nomatch v.2 (PA.nf h (p _ _ rfl) (t _ _ rfl))⟩
     exact⟨0,f6 [15,20,26,30,40,49] c d f g k u,(λ_=>.inr ⟨x,n,m,p _ _ rfl,by rw[v.1 rfl];exact t _ _ rfl⟩),λ_ _ _=>.inl rfl⟩
open Go.Lg
def AB:Nat->Tm|0=>.n0 .zero|n+1=>.n1 .succ (AB n)
def plusT:Tm:=.lam .nat (.lam .nat (.n3 .re .nat (.v 1) (.lam .nat (.lam .nat (.n1 .succ (.v 0)))) (.v 0)))
def predT:Tm:=.lam .nat (.n3 .re .nat (.n0 .zero) (.lam .nat (.lam .nat (.v 1))) (.v 0))
def subT:Tm:=.lam .nat (.lam .nat (.n3 .re .nat (.v 1) (.lam .nat (.lam .nat (.n2 .app predT (.v 0)))) (.v 0)))
def Wz{n:Nat}(h:n<4):A 84 [num n] (.tuple [(AB n).p,num 0]):=by
 match n,h with|0,_=>exact f0 []|1,_=>exact f0 []|2,_=>exact f0 []|3,_=>exact f0 []
def oI(t:Tm):A 138 [t.p] (Tm.lam .nat t).p:=f1 [6] (VD .nat t)
def Oc(a b c:Tm):A 139 [a.p,b.p,c.p] (Tm.n3 .re .nat a b c).p:=f1 [12] (sO .re .nat a b c)
def SS:A 62 [] plusT.p:=by
 let x1:=Tm.n1 .succ (.v 0);let x2:=Tm.lam .nat x1;let x3:=Tm.lam .nat x2;let x4:=Tm.n3 .re .nat (.v 1) x3 (.v 0);let x5:=Tm.lam .nat x4;exact f6 [4,5,6,8,9,10] (QS 5 (.v 0)) (oI x1) (oI x2) (Oc (.v 1) x3 (.v 0)) (oI x4) (oI x5)
def Xz:A 140 [] predT.p:=by
 let x2:=Tm.lam .nat (.v 1);let x3:=Tm.lam .nat x2;let x4:=Tm.n3 .re .nat (.n0 .zero) x3 (.v 0);exact f5 [1,3,4,6,7] (PS 4) (oI (.v 1)) (oI x2) (Oc (.n0 .zero) x3 (.v 0)) (oI x4)
def BW:A 63 [] subT.p:=by
 let x1:=Tm.n2 .app predT (.v 0);let x2:=Tm.lam .nat x1;let x3:=Tm.lam .nat x2;let x4:=Tm.n3 .re .nat (.v 1) x3 (.v 0);let x5:=Tm.lam .nat x4;exact f7 [2,5,6,7,9,10,11] Xz (WG 3 predT (.v 0)) (oI x1) (oI x2) (Oc (.v 1) x3 (.v 0)) (oI x4) (oI x5)
abbrev zt:PV:=.agg [num 0,.slice []]
def Fm.cnt:Fm->Nat|.eq a b=>1+a.cnt+b.cnt|.bin _ f g=>1+f.cnt+g.cnt|.q _ _ f=>1+f.cnt
def Fm.mx:Fm->Nat|.eq a b=>max a.mx b.mx|.bin _ f g=>max f.mx g.mx|.q _ _ f=>f.mx
def Fm.tsz:Fm->Nat|.eq a b=>max a.tsz b.tsz|.bin _ f g=>max f.tsz g.tsz|.q _ s f=>max s.size f.tsz
def mE:∀f:Fm,A 82 [f.p] f.p|.eq a b=>f3 [12,24,24] VG (aC a) (aC b)|.bin k f g=>f3 [12,39,39] VG (mE f) (mE g)|.q k s f=>f2 [12,39] (xD s) (mE f)
def TS(k:FB)(f g:Fm):A 51 [num k.n,f.p,g.p] (Fm.bin k f g).p:=f2 [9,11] (mE f) (mE g)
def EE(k:FQ)(s:Ty)(f:Fm):A 52 [num k.n,s.p,f.p] (Fm.q k s f).p:=f2 [9,11] (xD s) (mE f)
def kG(a b:Tm):A 45 [a.p,b.p] (Fm.eq a b).p:=f2 [6,8] (aC a) (aC b)
def nF:∀f:Fm,f.cnt<=bA->A 134 [f.p] (num f.cnt)
 |.eq a b,h=>by
  have h:1+a.cnt+b.cnt<=bA:=h;exact f4 [17,(18,.ok),17,(18,.ok)] (lB a a6) (EB (a:=1) (b:=a.cnt)) (lB b a6) (EB (a:=1+a.cnt) (b:=b.cnt) h)
 |.bin k f g,h=>by
  have h:1+f.cnt+g.cnt<=bA:=h;exact f4 [29,(30,.ok),29,(30,.ok)] (nF f a6) (EB (a:=1) (b:=f.cnt)) (nF g a6) (EB (a:=1+f.cnt) (b:=g.cnt) h)
 |.q k s f,h=>by
  have h:1+f.cnt<=bA:=h;exact f2 [29,(30,.ok)] (nF f a6) (EB (a:=1) (b:=f.cnt) h)
def Fm.shp:Fm->Bool|.eq a b=>a.shp&&b.shp|.bin _ f g=>f.shp&&g.shp|.q _ s f=>Nat.beq s.chk 0&&f.shp
def tK:∀f:Fm,f.tsz<=qA->A 133 [f.p] (.bool f.shp)
 |.eq a b,h=>by
  have h:max a.tsz b.tsz<=qA:=h;have l:=zA;have m:=yA;have c:=FF a a6;have d:=FF b a6;show A 133 [(Fm.eq a b).p] (.bool (a.shp&&b.shp));cases i:a.shp<;>rw[i]at c
  ·exact f2 [14,27] kB c
  cases j:b.shp<;>rw[j]at d
  ·exact f3 [14,27,34] kB c d
  exact f3 [14,27,34] kB c d
 |.bin k f g,h=>by
  have h:max f.tsz g.tsz<=qA:=h;have c:=tK f a6;have d:=tK g a6;show A 133 [(Fm.bin k f g).p] (.bool (f.shp&&g.shp));cases i:f.shp<;>rw[i]at c
  ·cases k<;>exact f2 [52,65] kB c
  cases j:g.shp<;>rw[j]at d
  ·cases k<;>exact f3 [52,65,72] kB c d
  cases k<;>exact f3 [52,65,72] kB c d
 |.q k s f,h=>by
  have h:max s.size f.tsz<=qA:=h;have l:=zA;have m:=yA;have c:=gK s;have d:=tK f a6;unfold Fm.shp;rcases KH s with e|e<;>rw[e]at c⊢
  ·cases i:f.shp<;>rw[i]at d
   ·cases k<;>exact f2 [85,99] c d
   cases k<;>exact f2 [85,99] c d
  cases k<;>exact f1 [85] c
def Fm.chk(f:Fm):Nat:=match f.shp with
 |false=>2|true=>match dA (.ofNat 4096) (.ofNat f.cnt)with|true=>4|false=>0
def mJ(f:Fm)(d:f.tsz<=qA)(b:f.cnt<=bA:=by omega):A 55 [f.p] (num f.chk):=by
 have a:=tK f d;unfold Fm.chk;cases e:f.shp<;>rw[e]at a
 ·exact f1 [4] a
 cases c:dA (.ofNat 4096) (.ofNat f.cnt)
 ·exact f3 [4,7,8] a (nF f b) c
 exact f3 [4,7,8] a (nF f b) c
theorem Fm.chk0{f:Fm}(h:f.chk=0):f.cnt<=4096/\f.shp=true:=by
 grind[Fm.chk,vC,of_decide_eq_false]
def Fm.sh:Nat->Int->Fm->Fm|c,z,.eq a b=>.eq (a.sh c z) (b.sh c z)|c,z,.bin k f g=>.bin k (f.sh c z) (g.sh c z)|c,z,.q k s f=>.q k s (f.sh (c+1) z)
def WD:∀(f:Fm)(c:Nat)(z:Int),0<=c+z->z<=qA->f.mx<=qA*qA->c+f.cnt<=qA->A 72 [f.p,num c,.int z] (f.sh c z).p
 |.eq a b,c,z,i,e,h,d=>by
  have h:max a.mx b.mx<=qA*qA:=h;have d:c+(1+a.cnt+b.cnt)<=qA:=d;exact f2 [29,29] (vH a c z i e a6 a6) (vH b c z i e a6 a6)
 |.bin k f g,c,z,i,e,h,d=>by
  have h:max f.mx g.mx<=qA*qA:=h;have d:c+(1+f.cnt+g.cnt)<=qA:=d;have m:=zA;have j:=BA (show c<=_ by omega);have l:=WD f c z i e a6 a6;have n:=WD g c z i e a6 a6;cases k<;>exact f4 [(47,.ok),49,(47,.ok),49] j l j n
 |.q k s f,c,z,i,e,h,d=>by
  have d:c+(1+f.cnt)<=qA:=d;have m:=zA;have j:=BA (show c+1<=_ by omega);have l:=WD f (c+1) z a6 e h a6;cases k<;>exact f2 [(47,.ok),49] j l
theorem MD(z:Int):∀(f:Fm)(c:Nat),(f.sh c z).cnt=f.cnt
 :=by intro x;induction x<;>simp_all[Fm.sh,Fm.cnt,LC]
theorem kH(z:Int):∀(f:Fm)(c:Nat),(f.sh c z).tsz=f.tsz
 :=by intro x;induction x<;>simp_all[Fm.sh,Fm.tsz,zH]
def yH(z:Int):∀(f:Fm)(c:Nat),(f.sh c z).mx<=f.mx+z.toNat
 :=by intro x;induction x<;>grind[vG,Fm.sh,Fm.mx]
def Fm.occ:Nat->Fm->Nat|c,.eq a b=>a.occ c+b.occ c|c,.bin _ f g=>f.occ c+g.occ c|c,.q _ _ f=>f.occ (c+1)
def US:∀(f:Fm)(c:Nat),c+f.cnt<=qA->∃r,A 279 [f.p,num c] (.bool r)/\(r=true↔f.occ c≠0)
 |.eq a b,c,h=>by
  have h:c+(1+a.cnt+b.cnt)<=qA:=h;have⟨r,d,j⟩:=mK a c a6;have⟨q,i,l⟩:=mK b c a6;cases r
  ·cases q
   ·exact⟨false,f2 [18,18] d i,by simp_all[Fm.occ]⟩
   exact⟨true,f2 [18,18] d i,by simp_all[Fm.occ]⟩
  exact⟨true,f1 [18] d,by simp_all[Fm.occ]⟩
 |.bin k f g,c,h=>by
  have h:c+(1+f.cnt+g.cnt)<=qA:=h;have m:=zA;have e:=BA (show c<=_ by omega);have⟨r,d,j⟩:=US f c a6;have⟨q,i,l⟩:=US g c a6;cases r
  ·cases q
   ·cases k<;>exact⟨false,f4 [(31,.ok),32,(31,.ok),32] e d e i,by simp_all[Fm.occ]⟩
   cases k<;>exact⟨true,f4 [(31,.ok),32,(31,.ok),32] e d e i,by simp_all[Fm.occ]⟩
  cases k<;>exact⟨true,f2 [(31,.ok),32] e d,by simp_all[Fm.occ]⟩
 |.q k s f,c,h=>by
  have h:c+(1+f.cnt)<=qA:=h;have m:=zA;have e:=BA (show c+1<=_ by omega);have⟨r,d,j⟩:=US f (c+1) a6;cases r
  ·cases k<;>exact⟨false,f2 [(31,.ok),32] e d,by simp_all[Fm.occ]⟩
  cases k<;>exact⟨true,f2 [(31,.ok),32] e d,by simp_all[Fm.occ]⟩
def VS:∀(f:Fm)(n:Nat),∃r,A 123 [f.p,num n] (.bool r)/\(r=true↔f.mx<=n)
 |.eq a b,c=>by
  have⟨r,d,h⟩:=LH a c;have⟨q,e,i⟩:=LH b c;cases r
  ·exact⟨false,f1 [18] d,by simp_all[Fm.mx]<;>omega⟩
  cases q
  ·exact⟨false,f2 [18,18] d e,by simp_all[Fm.mx]<;>omega⟩
  exact⟨true,f2 [18,18] d e,by simp_all[Fm.mx]<;>omega⟩
 |.bin k f g,c=>by
  have⟨r,d,h⟩:=VS f c;have⟨q,e,i⟩:=VS g c;cases r
  ·exact⟨false,f1 [30] d,by simp_all[Fm.mx]<;>omega⟩
  cases q
  ·exact⟨false,f2 [30,30] d e,by simp_all[Fm.mx]<;>omega⟩
  exact⟨true,f2 [30,30] d e,by simp_all[Fm.mx]<;>omega⟩
 |.q k s f,c=>by
  have⟨r,d,h⟩:=VS f c;cases r
  ·exact⟨false,f1 [30] d,by grind[Fm.mx]⟩
  exact⟨true,f1 [30] d,by grind[Fm.mx]⟩
open Go.Lg
def Fm.put:Fm->Nat->Tm->Nat->Fm|.eq a b,c,s,d=>.eq (a.put c s d) (b.put c s d)|.bin k f g,c,s,d=>.bin k (f.put c s d) (g.put c s d)|.q k u f,c,s,d=>.q k u (f.put c s (d+1))
def MH:∀(f:Fm)(c:Nat),f.occ c<=f.cnt|.eq a b,c=>by have:=IB a c;have:=IB b c;simp only[Fm.occ,Fm.cnt];omega|.bin k f g,c=>by have:=MH f c;have:=MH g c;simp only[Fm.occ,Fm.cnt];omega|.q k s f,c=>by have:=MH f (c+1);simp only[Fm.occ,Fm.cnt];omega
def aK(c:Nat)(s:Tm):∀(f:Fm)(d:Nat),(f.put c s d).cnt+f.occ (c+d)=f.cnt+f.occ (c+d)*s.cnt|.eq a b,d=>by have:=RS c s a d;have:=RS c s b d;simp only[Fm.put,Fm.occ,Fm.cnt,aaI];omega|.bin k f g,d=>by have:=aK c s f d;have:=aK c s g d;simp only[Fm.put,Fm.occ,Fm.cnt,aaI];omega|.q k u f,d=>by have:=aK c s f (d+1);simp only[Fm.put,Fm.occ,Fm.cnt,aaD]at this⊢;omega
def cK(c:Nat)(s:Tm):∀(f:Fm)(d:Nat),(f.put c s d).tsz<=max f.tsz s.tsz|.eq a b,d=>by have:=hJ c s a d;have:=hJ c s b d;simp only[Fm.put,Fm.tsz];omega|.bin k f g,d=>by have:=cK c s f d;have:=cK c s g d;simp only[Fm.put,Fm.tsz];omega|.q k u f,d=>by have:=cK c s f (d+1);simp only[Fm.put,Fm.tsz];omega
def nJ(c:Nat)(s:Tm):∀(f:Fm)(d:Nat),(f.put c s d).mx<=max f.mx (s.mx+(c+d+f.cnt))|.eq a b,d=>by have:=cW c s a d;have:=cW c s b d;simp only[Fm.put,Fm.mx,Fm.cnt];omega|.bin k f g,d=>by have:=nJ c s f d;have:=nJ c s g d;simp only[Fm.put,Fm.mx,Fm.cnt];omega|.q k u f,d=>by have:=nJ c s f (d+1);simp only[Fm.put,Fm.mx,Fm.cnt];omega
def CW:∀(f:Fm)(c d:Nat)(s:Tm),s.mx<=qA*qA->s.cnt<=qA->f.mx<=qA*qA->c+d+f.cnt<=qA->A 267 [f.p,num c,num d,s.p] (f.put c s d).p
 |.eq a b,c,d,s,h,i,j,e=>by
  have j:max a.mx b.mx<=qA*qA:=j;have e:c+d+(1+a.cnt+b.cnt)<=qA:=e;exact f2 [32,32] (gJ a c d s h i a6 a6) (gJ b c d s h i a6 a6)
 |.bin k f g,c,d,s,h,i,j,e=>by
  have j:max f.mx g.mx<=qA*qA:=j;have e:c+d+(1+f.cnt+g.cnt)<=qA:=e;have n:=zA;have l:=BA (show d<=_ by omega);have m:=CW f c d s h i a6 a6;have o:=CW g c d s h i a6 a6;cases k<;>exact f4 [(51,.ok),53,(51,.ok),53] l m l o
 |.q k u f,c,d,s,h,i,j,e=>by
  have e:c+d+(1+f.cnt)<=qA:=e;have n:=zA;have l:=BA (show d+1<=_ by omega);have m:=CW f c (d+1) s h i j a6;cases k<;>exact f2 [(51,.ok),53] l m
def uH{n:Nat}(h:n<=bA:=by omega):xA (Int.ofNat 0+.ofNat n)=true/\Int.ofNat 0+.ofNat n=.ofNat n:=by
 have e:Int.ofNat 0+.ofNat n=.ofNat n:=a8
 exact⟨by rw[e];exact cB h,e⟩
def DW:∀(f:Fm)(c:Nat),c+f.cnt<=qA->A 266 [f.p,num c] (num (f.occ c))
 |.eq a b,c,h=>by
  have h:c+(1+a.cnt+b.cnt)<=qA:=h;have j:=zA;have l:=yA;have m:=IB a c;have n:=IB b c;exact f4 [20,21,20,(21,.ok)] (fJ a c a6) (uH (n:=a.occ c)) (fJ b c a6) (EB (a:=a.occ c) (b:=b.occ c))
 |.bin k f g,c,h=>by
  have h:c+(1+f.cnt+g.cnt)<=qA:=h;have j:=zA;have l:=yA;have m:=MH f c;have n:=MH g c;have d:=BA (show c<=_ by omega);have e:=DW f c a6;have o:=DW g c a6;have i:=uH (n:=f.occ c);have p:=EB (a:=f.occ c) (b:=g.occ c);cases k<;>exact f6 [(35,.ok),36,37,(35,.ok),36,(37,.ok)] d e i d o p
 |.q k s f,c,h=>by
  have h:c+(1+f.cnt)<=qA:=h;have j:=zA;have l:=yA;have m:=MH f (c+1);have d:=BA (show c+1<=_ by omega);have e:=DW f (c+1) a6;have i:=uH (n:=f.occ (c+1));cases k<;>exact f3 [(35,.ok),36,37] d e i
def lf_iff{a b:Nat}:dA (.ofNat a) (.ofNat b)=false↔b<=a:=by
 rw[vC];simp
def dQ{n:Nat}:dA 4096 (n:Int)=false↔n<=4096:=lf_iff (a:=4096)
def Tm.chk_i{t:Tm}(h:t.shp=true)(a:t.cnt<=4096:=by omega):t.chk=0:=by
 unfold Tm.chk;rw[h];simp only;rw[iA a]
def Fm.chk_i{t:Fm}(h:t.shp=true)(a:t.cnt<=4096:=by omega):t.chk=0:=by
 unfold Fm.chk;rw[h];simp only;rw[iA a]
inductive FCv:Fm->Fm->Prop|eq {a b c d:Tm}:Cv a c->Cv b d->FCv (.eq a b) (.eq c d)|bin (k:FB) {f g f' g':Fm}:FCv f f'->FCv g g'->FCv (.bin k f g) (.bin k f' g')|q (k:FQ) (s:Ty) {f g:Fm}:FCv f g->FCv (.q k s f) (.q k s g)
def Cv.symm{a b:Tm}:Cv a b->Cv b a:=λ⟨w,h,k⟩=>⟨w,k,h⟩
def FCv.symm{f g:Fm}(h:FCv f g):FCv g f:=by
 induction h with|eq h k=>exact .eq h.symm k.symm|bin k _ _ a b=>exact .bin k a b|q k s _ c=>exact .q k s c
def Fm.hq:List Ty->Fm->Prop|g,.eq a b=>Ht g a .nat/\Ht g b .nat|g,.bin _ f h=>f.hq g/\h.hq g|g,.q _ s f=>f.hq (g++[s])
def vM{a b:Bool}(h:(a&&b)=true):a=true/\b=true:=by cases a<;>cases b<;>simp_all
def Pc[PA](g:List Ty)(t:Tm)(c:∀s∈g,s.size<=qA)(d:t.tsz<=qA:=by omega)(f:g.length+t.cnt<=qA:=by omega):∃r:TR,A 268 [rA g,t.p] r.p/\r.sz<=qA/\(∀s,r=.ok s->t.chk=0/\t.tyR g=.ok s)/\∀u,t.chk=0->Ht g t u->r=.ok u\/∃n,r=.er n/\Lm (n+1):=by
 have:=zA;have:=yA;have a:=XG t
 cases e:t.chk with
 |succ n=>rw[e]at a;exact⟨.er n,f1 [8] a,c6 _,(λ_ h=>by cases h),λ_ h=>nomatch h⟩|zero=>
  rw[e]at a;have⟨r,i,j,b⟩:=zM t g c d f;exact⟨r,f2 [8,15] a i,j,(λ_ h=>⟨rfl,by rw[<-b,h]⟩),λu _ h=>by rw[b];exact(PA.ht h).imp id λh=>⟨3,h,bb⟩⟩
def Qc{g:List Ty}{n:Nat}(h:UG g=n+1):Lm (n+1):=by
 unfold UG at h;split at h
 ·cases h;decide
 have:∀l:List Ty,DF l=0\/DF l=4:=λl=>by
  induction l with|nil=>exact .inl rfl|cons t r a=>unfold DF;split;exact a;exact .inr rfl
 rcases this g with e|e<;>rw[e]at h<;>cases h;decide
def Uc[PA](g:List Ty)(t:Tm)(b:∀s∈g,s.size<=qA)(c:t.tsz<=qA:=by omega)(d:g.length+t.cnt<=qA:=by omega):∃r:TR,A 275 [rA g,t.p] r.p/\r.sz<=qA/\(∀s,r=.ok s->t.chk=0/\t.tyR g=.ok s)/\∀u,t.chk=0->Ht g t u->r=.ok u\/∃n,r=.er n/\Lm (n+1):=by
 have:=zA;have:=yA;have a:=tW g (λs f=>by have:=b s f;omega)
 cases e:UG g with
 |succ n=>rw[e]at a;exact⟨.er n,f1 [8] a,c6 _,(λ_ h=>by cases h),λ_ _ _=>.inr ⟨n,rfl,Qc e⟩⟩|zero=>
  rw[e]at a;have⟨r,i,j⟩:=Pc g t b c d;exact⟨r,f2 [8,15] a i,j⟩
def TR.cases'(r:TR):(∃n,r=.er n)\/(∃s,r=.ok s/\s.kd=1)\/∃s,r=.ok s/\s.kd≠1:=by
 cases r with
 |er n=>exact .inl ⟨n,rfl⟩|ok s=>
  by_cases h:s.kd=1
  ·exact .inr (.inl ⟨s,rfl,h⟩)
  exact .inr (.inr ⟨s,rfl,h⟩)
def nC{m n:Nat}(h:m=n):(!sB (.ofNat m) (.ofNat n))=false:=by rw[h];exact MB n
def EW{s:Ty}(h:s.kd=1):s=.nat:=by
 cases s with
 |nat=>rfl|two k a b=>cases k<;>cases h
 |_=>cases h
def Fm.ty:List Ty->Fm->Prop|g,.eq a b=>(a.chk=0/\a.tyR g=.ok .nat)/\b.chk=0/\b.tyR g=.ok .nat|g,.bin _ f h=>f.ty g/\h.ty g|g,.q _ s f=>f.ty (g++[s])
def FW[PA]:∀(f:Fm)(g:List Ty),(∀s∈g,s.size<=qA)->f.tsz<=qA->g.length+f.cnt<=qA->∃e,A 204 [rA g,f.p] (num e)/\(e=0->f.ty g)/\(f.hq g->f.cnt<=4096->f.shp=true->e=0\/Lm e)
 |.eq a b,g,p,j,o=>by
  have j:max a.tsz b.tsz<=qA:=j;have o:g.length+(1+a.cnt+b.cnt)<=qA:=o;have⟨r,c,_,w,p1⟩:=Pc g a p;have⟨q,d,_,y,p2⟩:=Pc g b p;have i:(Fm.eq a b).hq g->(Fm.eq a b).cnt<=4096->(Fm.eq a b).shp=true->(r=.ok .nat\/∃n,r=.er n/\Lm (n+1))/\(q=.ok .nat\/∃n,q=.er n/\Lm (n+1)):=λh k l=>by
   have k:1+a.cnt+b.cnt<=4096:=k;have l:=vM l;exact⟨p1 _ (Tm.chk_i l.1) h.1,p2 _ (Tm.chk_i l.2) h.2⟩
  rcases r.cases' with ⟨n,rfl⟩|⟨s,rfl,t⟩|⟨s,rfl,t⟩
  ·exact⟨n+1,f1 [22] c,(λh=>nomatch h),λh k l=>.inr (by rcases(i h k l).1 with e|⟨m,e,h⟩<;>cases e;exact h)⟩
  ·rcases q.cases' with ⟨n,rfl⟩|⟨u,rfl,x⟩|⟨u,rfl,x⟩
   ·exact⟨n+1,f3 [22,30,22] c (nC t) d,(λh=>nomatch h),λh k l=>.inr (by rcases(i h k l).2 with e|⟨m,e,h⟩<;>cases e;exact h)⟩
   ·exact⟨0,f4 [22,30,22,30] c (nC t) d (nC x),(λ_=>⟨w _ (k0 _ (EW t)),y _ (k0 _ (EW x))⟩),λ_ _ _=>.inl rfl⟩
   exact⟨7,f4 [22,30,22,30] c (nC t) d (AD x),(λh=>nomatch h),λh k l=>by rcases(i h k l).2 with e|⟨m,e,h⟩<;>cases e;exact absurd rfl x⟩
  exact⟨7,f2 [22,30] c (AD t),(λh=>nomatch h),λh k l=>by rcases(i h k l).1 with e|⟨m,e,h⟩<;>cases e;exact absurd rfl t⟩
 |.bin k f h,g,p,j,o=>by
  have j:max f.tsz h.tsz<=qA:=j;have o:g.length+(1+f.cnt+h.cnt)<=qA:=o;have⟨e,c,w,p1⟩:=FW f g p a6 a6;have⟨z,d,y,p2⟩:=FW h g p a6 a6;have i:(Fm.bin k f h).hq g->(Fm.bin k f h).cnt<=4096->(Fm.bin k f h).shp=true->(e=0\/Lm e)/\(z=0\/Lm z):=λu v l=>by
   have v:1+f.cnt+h.cnt<=4096:=v;have l:=vM l;exact⟨p1 u.1 a6 l.1,p2 u.2 a6 l.2⟩
  cases e with
  |succ n=>cases k<;>exact⟨n+1,f1 [54] c,(λh=>nomatch h),λh k l=>(i h k l).1⟩
  |zero=>cases z with
   |succ n=>cases k<;>exact⟨n+1,f2 [54,54] c d,(λh=>nomatch h),λh k l=>(i h k l).2⟩
   |zero=>cases k<;>exact⟨0,f2 [54,54] c d,(λ_=>⟨w rfl,y rfl⟩),λ_ _ _=>.inl rfl⟩
 |.q k s f,g,p,j,o=>by
  have j:max s.size f.tsz<=qA:=j;have o:g.length+(1+f.cnt)<=qA:=o;have:=zA;have⟨e,c,w,p1⟩:=FW f (g++[s]) (by intro u C;rcases eh.1 C with h|h;exact p u h;simp at h;subst h;omega) a6 a9;have i:(Fm.q k s f).hq g->(Fm.q k s f).cnt<=4096->(Fm.q k s f).shp=true->e=0\/Lm e:=λu v l=>by
   have v:1+f.cnt<=4096:=v;exact p1 u a6 (vM l).2
  simp only[rA,gn,gF,i2]at c;have B:=jG 2 32 Ty.c_len bb g s a6 (by simp only[maxLen];omega);have d:=qH (g.map Ty.c).length
  cases e with
  |succ n=>cases k<;>exact⟨n+1,f3 [(40,.ok),(44,.ok),54] d B c,(λh=>nomatch h),i⟩
  |zero=>cases k<;>exact⟨0,f3 [(40,.ok),(44,.ok),54] d B c,w,λ_ _ _=>.inl rfl⟩
def GW[PA](g:List Ty)(f:Fm)(d:∀s∈g,s.size<=qA)(b:f.tsz<=qA)(i:g.length+f.cnt<=qA):∃e,A 126 [rA g,f.p] (num e)/\(e=0->f.chk=0/\f.ty g)/\(f.chk=0->f.hq g->e=0\/Lm e):=by
 have:=zA;have:=yA;have a:=mJ f b
 cases e:f.chk with
 |succ n=>rw[e]at a;exact⟨n+1,f1 [7] a,(nofun),λh _=>nomatch h⟩|zero=>
  rw[e]at a;have⟨r,j,c⟩:=FW f g d b i;exact⟨r,f2 [7,13] a j,(λh=>⟨rfl,c.1 h⟩),λh k=>c.2 k (Fm.chk0 e).1 (Fm.chk0 e).2⟩
def WS[PA](g:List Ty)(f:Fm)(b:∀s∈g,s.size<=qA)(c:f.tsz<=qA:=by omega)(d:g.length+f.cnt<=qA:=by omega):∃e,A 43 [rA g,f.p] (num e)/\(e=0->f.chk=0/\f.ty g)/\(f.chk=0->f.hq g->e=0\/Lm e):=by
 have:=zA;have:=yA;have a:=tW g (λs h=>by have:=b s h;omega)
 cases e:UG g with
 |succ n=>rw[e]at a;exact⟨n+1,f1 [7] a,(nofun),λ_ _=>.inr (Qc e)⟩|zero=>
  rw[e]at a;have⟨r,i,j⟩:=GW g f b c d;exact⟨r,f2 [7,13] a i,j⟩
end Go.Proofs.YtbebdmlomjpamaaGreatDoor
