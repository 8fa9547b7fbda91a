/- Contracts of functions; no conditions. -/
import Derived.Test.YtjobiknipefjdaaGreatDoorSolC9
import Derived.Maps.RangeRun
import Derived.Test.YtjobiknipefjdaaGreatDoorSolB2
import Derived.Test.YtjobiknipefjdaaGreatDoorSolC8
set_option linter.all false
set_option maxHeartbeats 4000000
namespace Go.Proofs.YtjobiknipefjdaaGreatDoor
open Go.Lg
set_option maxRecDepth 100000
structure TG(n C S:Nat)(x:Tm):Prop where
 sc:x.sc n
 cnt:x.cnt<=C
 tsz:x.tsz<=S
def TG.mono{n C S a b:Nat}{x:Tm}(h:TG n C S x)(c:C<=a)(d:S<=b):TG n a b x:=⟨h.sc,Nat.le_trans h.cnt c,Nat.le_trans h.tsz d⟩
def VY{n i:Nat}(h:i<3):TG n 4 0 (eC i):=by
 rcases i with _|_|_|i
 ·exact⟨trivial,by decide,by decide⟩
 ·exact⟨trivial,by decide,by decide⟩
 ·exact⟨trivial,by decide,by decide⟩
 omega
abbrev TT(g:List Ty)(_:Ty)(C S:Nat)(x:Tm):Prop:=TG g.length C S x
def TT.mono{g:List Ty}{t:Ty}{C S a b:Nat}{x:Tm}(h:TT g t C S x)(c:C<=a)(d:S<=b):TT g t a b x:=TG.mono h c d
def BO(g:List Ty){i:Nat}(h:i<3):TT g .nat 4 0 (eC i):=VY h
abbrev WY(L:List Int)(g:List Ty)(t:Ty)(z:PV)(a:Nat)(x:Tm)(b:Nat):Prop:=O 64 [.loc 0 0,.pv (OA g),.pv t.p,.pv z] [(0,dk L a)] (.pv x.p) [(0,dk L b)]
def sg{L:List Int}(e:Dk L){g:List Ty}{t:Ty}(s:g.length<=1000000)(z:PV){a:Nat}(k:a<=L.length):
  (∃(i b:Nat),sB g i=.ok t/\b<=L.length/\WY L g t z a (.v i) b)\/A 129 [OA g,t.p] (JA [])\/∃(i:Nat)(r:List Nat)(b:Nat),b<=L.length/\A 129 [OA g,t.p] (JA (i::r))/\O 15 [.loc 0 0,.pv (num 3)] [(0,dk L a)] (.pv (num 0)) [(0,dk L b)]:=by
 have:=vA;obtain⟨l,m,n,f⟩:=N4 g t
 cases l with
 |nil=>simp_all|cons i r=>
  obtain⟨x,b,v,d,h⟩:=nx e k (n:=3) (by omega) (by omega)
  cases x with
  |zero=>exact .inr (.inr ⟨i,r,b,d,f,h⟩)|succ x=>
   have:r.length+1<=g.length:=n;have:((i::r).map ic).length=r.length+1:=by simp
   obtain⟨y,c,hy,o,p⟩:=nx e d (n:=((i::r).map ic).length) (by omega) (by omega);obtain⟨w,j⟩:∃w,(i::r)[y]? =some w:=⟨_,List.getElem?_eq_getElem (by simp_all)⟩;exact .inl ⟨w,c,m w (List.mem_of_getElem? j),o,o5 1 [19,25,32,(33,.i (ic w)),35] f h p (kB (c:=ic) (n:=1) j λ_=>rfl) (zP w)⟩
def tg{g:List Ty}{i:Nat}{t:Ty}(h:sB g i=.ok t):i<g.length:=by
 grind[sB]
def Lr{z:Int}(h:z<=0):fA 0 z=false:=by rw[UB];simpa using h
def Mr{z:Int}(h: -1000000<=z:=by omega)(a:z<=1000000:=by omega):xA (z-1)=true/\z-1=z-1:=⟨wP (by omega) (by omega),rfl⟩
def CO:A 41 [num 7,row []] (Tm.n0 .nil).p:=XQ 7
def DO:A 41 [num 13,row []] (Tm.n0 .unit).p:=XQ 13
def bE(k:K2)(x y:Tm):A 41 [num k.n,row [x,y]] (Tm.n2 k x y).p:=JG k.n x y
def DK(k:K1)(x:Tm):A 41 [num k.n,row [x]] (Tm.n1 k x).p:=nU k.n x
def OM{L:List Int}(p:Dk L):∀(t:Ty)(g:List Ty)(z:Int)(a:Nat),z<=0->-1000000+t.size<=z->g.length+t.size<=1000000->a<=L.length->t.size<=64->∃(x:Tm)(b:Nat),TT g t (4*t.size) t.size x/\b<=L.length/\WY L g t (.int z) a x b
 |t,g,z,a,F,A,E,v,B=>by
  have I:=vA;have e:=Lr F;have w:=Mr (z:=z);have G:1<=t.size:=by cases t<;>simp[Ty.size]<;>omega
  rcases sg p (g:=g) (t:=t) (by omega) (.int z) v with ⟨i,b,H,f,h⟩|j|⟨J,K,C,l,j,m⟩
  ·exact⟨.v i,b,⟨tg H,by grind[Tm.cnt],Nat.zero_le _⟩,f,h⟩
  ·cases t with
   |nat=>
    obtain⟨y,b,hy,f,n⟩:=nx p v (n:=3) (by omega) (by omega);have o:=MH (n:=y);exact⟨eC y,b,(BO g hy).mono (by decide) (by decide),f,o5 1 [19,37,218,266,267] j e e n o⟩
   |list=>exact⟨.n0 .nil,a,⟨trivial,by decide,by decide⟩,v,o4 1 [19,37,271,291] j e e CO⟩|unit=>exact⟨.n0 .unit,a,⟨trivial,by decide,by decide⟩,v,o3 1 [19,37,337] j e DO⟩|two k s u=>
    simp only[Ty.size]at A E B⊢
    cases k with
    |false=>
     obtain⟨x,b,d,f,n⟩:=OM p s g (z-1) a (by omega) (by omega) (by omega) v (by omega);obtain⟨y,c,r,D,o⟩:=OM p u g (z-1) b (by omega) (by omega) (by omega) f (by omega);exact⟨.n2 .pair x y,c,⟨⟨d.sc,r.sc⟩,by have:=d.cnt;have:=r.cnt;grind[Tm.cnt],by have:=d.tsz;have:=r.tsz;grind[Tm.tsz]⟩,D,o7 1 [19,37,(301,.y (z-1)),302,(310,.y (z-1)),311,313] j e w n w o (bE .pair x y)⟩
    |true=>
     obtain⟨x,b,d,f,n⟩:=OM p u (g++[s]) (z-1) a (by omega) (by omega) (by simp;omega) v (by omega);have o:=wH g [s] (by simp;omega);exact⟨.lam s x,b,⟨by have:=d.sc;grind[Tm.sc],by have:=d.cnt;grind[Tm.cnt],by have:=d.tsz;grind[Tm.tsz]⟩,f,o6 1 [19,37,327,(333,.y (z-1)),334,336] j e o w n (HD s x)⟩
  cases t with
  |nat=>
   obtain⟨y,b,hy,f,n⟩:=nx p l (n:=3) (by omega) (by omega);have o:=MH (n:=y);exact⟨eC y,b,(BO g hy).mono (by decide) (by decide),f,o6 1 [19,25,37,218,266,267] j m e e n o⟩
  |list=>exact⟨.n0 .nil,C,⟨trivial,by decide,by decide⟩,l,o5 1 [19,25,37,271,291] j m e e CO⟩|unit=>exact⟨.n0 .unit,C,⟨trivial,by decide,by decide⟩,l,o4 1 [19,25,37,337] j m e DO⟩|two k s u=>
   simp only[Ty.size]at A E B⊢
   cases k with
   |false=>
    obtain⟨x,b,d,f,n⟩:=OM p s g (z-1) C (by omega) (by omega) (by omega) l (by omega);obtain⟨y,c,r,D,o⟩:=OM p u g (z-1) b (by omega) (by omega) (by omega) f (by omega);exact⟨.n2 .pair x y,c,⟨⟨d.sc,r.sc⟩,by have:=d.cnt;have:=r.cnt;grind[Tm.cnt],by have:=d.tsz;have:=r.tsz;grind[Tm.tsz]⟩,D,o8 1 [19,25,37,(301,.y (z-1)),302,(310,.y (z-1)),311,313] j m e w n w o (bE .pair x y)⟩
   |true=>
    obtain⟨x,b,d,f,n⟩:=OM p u (g++[s]) (z-1) C (by omega) (by omega) (by simp;omega) l (by omega);have o:=wH g [s] (by simp;omega);exact⟨.lam s x,b,⟨by have:=d.sc;simpa[Tm.sc]using this,by have:=d.cnt;simp only[Tm.cnt];omega,by have:=d.tsz;simp only[Tm.tsz];omega⟩,f,o7 1 [19,25,37,327,(333,.y (z-1)),334,336] j m e o w n (HD s x)⟩
def tb(S:Nat):Nat->Nat|0=>4*S|k+1=>3*tb S k+200
def QE(L:List Int)(S k:Nat):Prop:=∀(t:Ty)(g:List Ty)(a:Nat),t.size<=S->(∀s∈g,s.size<=S)->g.length+3*k+S<=1000000->a<=L.length->∃(x:Tm)(b:Nat),TT g t (tb S k) S x/\b<=L.length/\WY L g t (num k) a x b
theorem Nr{L:List Int}(c:Dk L)(S:Nat)(i:S<=20):QE L S 0:=by
 intro t g a d j k e;obtain⟨x,b,q,f,h⟩:=OM c t g 0 a (Int.le_refl _) (by omega) (by omega) e (by omega);exact⟨x,b,q.mono (by grind[tb]) d,f,h⟩
abbrev z5:List PV:=[.int 0,.int 0,.int 0,.nils,.nils]
abbrev LB:Kp:=⟨[0,1,3,6,8,176,177],[0,1,2],3,[0]⟩
abbrev cg(L:List Int)(g:List Ty)(t:Ty)(k a i:Nat):IS:=st [(0,.loc 0 0),(1,.pv (OA g)),(3,.pv (num (k+1))),(6,.loc 1 0),(8,.loc 2 0),(176,.pv (num (g.map Ty.c).length)),(177,.pv (num i))] [(0,dk L a),(1,bx t.c),(2,bx z5)] 3 [0]
abbrev ED(L:List Int)(g:List Ty)(t:Ty)(k a:Nat):IS:=st [(0,.loc 0 0),(1,.pv (OA g)),(3,.pv (num (k+1))),(6,.loc 1 0),(8,.loc 2 0)] [(0,dk L a),(1,bx t.c),(2,bx z5)] 3 [0]
def XY{L:List Int}{S k:Nat}(y:QE L S k)(t:Ty){g:List Ty}(p:∀s∈g,s.size<=S)(z:g.length+3*k+S<=1000000){a:Nat}(A:a<=L.length):∀(r i:Nat),i+r=g.length->
  Lp 64 0 1 (cg L g t k a i) (.exit 1) (ED L g t k a)\/∃(x:Tm)(b:Nat),TT g t (tb S k+2) S x/\b<=L.length/\Lp 64 0 1 (cg L g t k a i) .ret (st [(8,.loc 2 0)] [(0,dk L b),(2,bx x.c)] 3 [0])
 |0,i,h=>by
  have e:fA (.ofNat i) (.ofNat (g.map Ty.c).length)=false:=HA (by simp;omega);exact .inl (x1 [178] ⟨[0,1,3,6,8],[0,1,2],3,[0]⟩ e)
 |r+1,i,h=>by
  have:=vA;have f:=uA;have e:fA (.ofNat i) (.ofNat (g.map Ty.c).length)=true:=NA (by simp;omega);obtain⟨s,j,l,m,B,F⟩:=Ub (g:=g) (k:=i);have n:=nA (a:=i) (b:=1);have d:=XY y t p z A r (i+1) (by omega)
  cases s with
  |nat=>
   rcases d with d|⟨x,b,q,f,d⟩
   ·exact .inl (n6 [178,183,185,(186,.i Ty.nat.c),212] LB e j l m n d)
   exact .inr ⟨x,b,q,f,n6 [178,183,185,(186,.i Ty.nat.c),212] LB e j l m n d⟩
  |list=>
   rcases d with d|⟨x,b,q,f,d⟩
   ·exact .inl (n6 [178,183,185,(186,.i Ty.list.c),212] LB e j l m n d)
   exact .inr ⟨x,b,q,f,n6 [178,183,185,(186,.i Ty.list.c),212] LB e j l m n d⟩
  |unit=>
   rcases d with d|⟨x,b,q,f,d⟩
   ·exact .inl (n6 [178,183,185,(186,.i Ty.unit.c),212] LB e j l m n d)
   exact .inr ⟨x,b,q,f,n6 [178,183,185,(186,.i Ty.unit.c),212] LB e j l m n d⟩
  |two c u w=>
   have:1+u.size+w.size<=S:=p _ B
   cases c with
   |false=>
    rcases d with d|⟨x,b,q,f,d⟩
    ·exact .inl (n6 [178,183,185,(186,.i (Ty.two false u w).c),212] LB e j l m n d)
    exact .inr ⟨x,b,q,f,n6 [178,183,185,(186,.i (Ty.two false u w).c),212] LB e j l m n d⟩
   |true=>
    have o:=YD w t;cases v:w.same t<;>rw[v]at o
    ·rcases d with d|⟨x,b,q,f,d⟩
     ·exact .inl (n7 [178,183,185,(186,.i (Ty.two true u w).c),197,212] LB e j l m o n d)
     exact .inr ⟨x,b,q,f,n7 [178,183,185,(186,.i (Ty.two true u w).c),197,212] LB e j l m o n d⟩
    obtain⟨x,b,q,f,C⟩:=y u g a (by omega) p z A;have D:=rD (a:=k+1);exact .inr ⟨.n2 .app (.v i) x,b,⟨⟨by show i<g.length;omega,q.sc⟩,by have:=q.cnt;simp only[Tm.cnt];omega,by have:=q.tsz;simp only[Tm.tsz];omega⟩,f,x9 [178,183,185,(186,.i (Ty.two true u w).c),197,200,208,209,211] ⟨[8],[0,2],3,[0]⟩ e j l m o (zP i) D C (bE .app (.v i) x)⟩
def kI{S:Nat}{g:List Ty}{l:List Ty}(a:∀s∈g,s.size<=S)(a:∀s∈l,s.size<=S):∀s∈g++l,s.size<=S:=λs a=>by
 grind
def ZT(n S:Nat)(h:1<=S:=by omega):TG n 50 S plusT:=⟨by simp[plusT,Tm.sc],by decide,Nat.le_trans (by decide:plusT.tsz<=1) h⟩
def qU(n S:Nat)(h:1<=S:=by omega):TG n 50 S subT:=⟨by simp[subT,predT,Tm.sc],by decide,Nat.le_trans (by decide:subT.tsz<=1) h⟩
theorem Pr{L:List Int}(K:Dk L){S k:Nat}(hS:3<=S)(hS2:S<=20)(A:QE L S k):QE L S (k+1):=by
 intro t g a H B hl Y;have hm:=vA;have Z:=uA;have p:=rD (a:=k+1);have etb:tb S (k+1)=3*tb S k+200:=rfl;rcases sg K (g:=g) (t:=t) (by omega) (num (k+1)) Y with ⟨i,b,hi,Z,h⟩|C|⟨i0,r0,a0,W,C,D⟩
 ·exact⟨.v i,b,⟨tg hi,by grind[Tm.cnt],Nat.zero_le _⟩,Z,h⟩
 ·obtain⟨w,b,V,n,E⟩:=nx K Y (n:=8) (by omega) (by omega);rcases w with _|_|_|_|_|_|w
  ·obtain⟨s,c,N,F,r⟩:=PI K 0 (by omega) n;have N:s.size<=1:=N;obtain⟨x,d,f,o,z⟩:=A t (g++[s]) c H (kI B (by simp;omega)) (by simp;omega) F;obtain⟨y,e,l,G,M⟩:=A s g d (by omega) B (by omega) o;have P:=wH g [s] (by simp;omega);exact⟨.n2 .app (.lam s x) y,e,⟨⟨by have:=f.sc;grind[Tm.sc],l.sc⟩,by have:=f.cnt;have:=l.cnt;grind[Tm.cnt],by have:=f.tsz;have:=l.tsz;grind[Tm.tsz]⟩,G,aH 1 [19,39,43,49,52,53,55,60,61,63] C E r P p z (HD s x) p M (bE .app (.lam s x) y)⟩
  ·obtain⟨s,c,N,F,r⟩:=PI K 0 (by omega) n;have N:s.size<=1:=N;obtain⟨x,d,f,o,z⟩:=A t g c H B (by omega) F;obtain⟨y,e,l,G,M⟩:=A s g d (by omega) B (by omega) o;exact⟨.n1 .fst (.n2 .pair x y),e,⟨⟨f.sc,l.sc⟩,by have:=f.cnt;have:=l.cnt;grind[Tm.cnt],by have:=f.tsz;have:=l.tsz;grind[Tm.tsz]⟩,G,o9 1 [19,39,67,72,73,78,79,81,83] C E r p z p M (bE .pair x y) (DK .fst (.n2 .pair x y))⟩
  ·obtain⟨x,c,f,F,r⟩:=A t (g++[.nat,t]) b H (kI B (by simp[Ty.size];omega)) (by simp;omega) n;obtain⟨y,d,l,o,z⟩:=A t g c H B (by omega) F;obtain⟨v,e,Q,G,M⟩:=nx K o (n:=3) (by omega) (by omega);have P:=wH g [.nat,t] (by simp;omega);have X:=MH (n:=v);have R:TG g.length 4 0 (eC v):=VY Q;exact⟨.n3 .re t y (.lam .nat (.lam t x)) (eC v),e,⟨⟨l.sc,by have:=f.sc;simpa[Tm.sc]using this,R.sc⟩,by have:=f.cnt;have:=l.cnt;have:=R.cnt;simp only[Tm.cnt];omega,by have:=f.tsz;have:=l.tsz;have:=R.tsz;simp only[Tm.tsz,Ty.size];omega⟩,G,ju 1 [19,39,86,90,93,96,97,99,101,107,108,111,112,114] C E tE tE P p r (HD t x) (HD .nat (.lam t x)) p z M X (qN .re t y (.lam .nat (.lam t x)) (eC v))⟩
  ·obtain⟨x,c,f,F,r⟩:=A t (g++[.nat,.list,t]) b H (kI B (by simp[Ty.size];omega)) (by simp;omega) n;obtain⟨y,d,l,o,z⟩:=A t g c H B (by omega) F;obtain⟨v,e,T,G,M⟩:=A .list g d (by simp only[Ty.size];omega) B (by omega) o;have P:=wH g [.nat,.list,t] (by simp;omega);exact⟨.n3 .fo t y (.lam .nat (.lam .list (.lam t x))) v,e,⟨⟨l.sc,by have:=f.sc;simpa[Tm.sc]using this,T.sc⟩,by have:=f.cnt;have:=l.cnt;have:=T.cnt;simp only[Tm.cnt];omega,by have:=f.tsz;have:=l.tsz;have:=T.tsz;simp only[Tm.tsz,Ty.size];omega⟩,G,wu 1 [19,39,117,118,122,123,126,129,130,132,134,136,142,143,147,149,150,152] C E tE NN tE NN P p r (HD t x) (HD .list (.lam t x)) (HD .nat (.lam .list (.lam t x))) p z NN p M (qN .fo t y (.lam .nat (.lam .list (.lam t x))) v)⟩
  ·obtain⟨s,c,N,F,r⟩:=PI K 0 (by omega) n;have N:s.size<=1:=N;obtain⟨y,d,l,o,z⟩:=A s g c (by omega) B (by omega) F;obtain⟨x,e,f,G,M⟩:=A t g d H B (by omega) o;exact⟨.n1 .snd (.n2 .pair y x),e,⟨⟨l.sc,f.sc⟩,by have:=f.cnt;have:=l.cnt;simp only[Tm.cnt];omega,by have:=f.tsz;have:=l.tsz;simp only[Tm.tsz];omega⟩,G,o9 1 [19,39,156,161,162,167,168,170,172] C E r p z p M (bE .pair y x) (DK .snd (.n2 .pair y x))⟩
  ·rcases XY A t B (by omega) n g.length 0 (by omega)with gl|⟨x,c,q,F,gl⟩
   ·have gl:=gl
    cases t with
    |unit=>exact⟨.n0 .unit,b,⟨trivial,by simp only[Tm.cnt];omega,Nat.zero_le _⟩,n,o4 1 [19,39,(100023,.l LB (.exit 1) (ED L g .unit k b)),337] C E gl DO⟩|nat=>
     obtain⟨m,c,O,F,I⟩:=nx K n (n:=5) (by omega) (by omega);obtain⟨x,d,f,o,r⟩:=A .nat g c H B (by omega) F;obtain⟨y,e,l,G,z⟩:=A .nat g d H B (by omega) o;rcases m with _|_|_|m
     ·exact⟨.n1 .succ x,d,⟨f.sc,by have:=f.cnt;simp only[Tm.cnt];omega,by have:=f.tsz;simp only[Tm.tsz];omega⟩,o,o7 1 [19,39,(100023,.l LB (.exit 1) (ED L g .nat k b)),220,227,228,230] C E gl I p r (DK .succ x)⟩
     ·have J:=ZT g.length S;exact⟨.n2 .app (.n2 .app plusT x) y,e,⟨⟨⟨J.sc,f.sc⟩,l.sc⟩,by have:=f.cnt;have:=l.cnt;have:=J.cnt;simp only[Tm.cnt];omega,by have:=f.tsz;have:=l.tsz;have:=J.tsz;simp only[Tm.tsz];omega⟩,G,aH 1 [19,39,(100023,.l LB (.exit 1) (ED L g .nat k b)),220,233,238,239,244,245,247] C E gl I kN p r p z (cG plusT x y)⟩
     ·have J:=qU g.length S;exact⟨.n2 .app (.n2 .app subT x) y,e,⟨⟨⟨J.sc,f.sc⟩,l.sc⟩,by have:=f.cnt;have:=l.cnt;have:=J.cnt;simp only[Tm.cnt];omega,by have:=f.tsz;have:=l.tsz;have:=J.tsz;simp only[Tm.tsz];omega⟩,G,aH 1 [19,39,(100023,.l LB (.exit 1) (ED L g .nat k b)),220,250,255,256,261,262,264] C E gl I yN p r p z (cG subT x y)⟩
     obtain⟨v,d,Q,o,gv⟩:=nx K F (n:=3) (by omega) (by omega);have U:=MH (n:=v);exact⟨eC v,d,(BO g Q).mono (by omega) (Nat.zero_le _),o,o6 1 [19,39,(100023,.l LB (.exit 1) (ED L g .nat k b)),220,266,267] C E gl I gv U⟩
    |list=>
     obtain⟨m,c,O,F,I⟩:=nx K n (n:=2) (by omega) (by omega)
     cases m with
     |zero=>
      obtain⟨x,d,f,o,r⟩:=A .nat g c (by simp only[Ty.size];omega) B (by omega) F;obtain⟨y,e,l,G,z⟩:=A .list g d H B (by omega) o;exact⟨.n2 .cons x y,e,⟨⟨f.sc,l.sc⟩,by have:=f.cnt;have:=l.cnt;simp only[Tm.cnt];omega,by have:=f.tsz;have:=l.tsz;simp only[Tm.tsz];omega⟩,G,aH 1 [19,39,(100023,.l LB (.exit 1) (ED L g .list k b)),274,279,281,282,287,288,290] C E gl I tE p r p z (bE .cons x y)⟩
     |succ m=>exact⟨.n0 .nil,c,⟨trivial,by simp only[Tm.cnt];omega,Nat.zero_le _⟩,F,o5 1 [19,39,(100023,.l LB (.exit 1) (ED L g .list k b)),274,291] C E gl I CO⟩
    |two j s u=>
     have H:1+s.size+u.size<=S:=H
     cases j with
     |false=>
      obtain⟨x,d,f,o,r⟩:=A s g b (by omega) B (by omega) n;obtain⟨y,e,l,G,z⟩:=A u g d (by omega) B (by omega) o;exact⟨.n2 .pair x y,e,⟨⟨f.sc,l.sc⟩,by have:=f.cnt;have:=l.cnt;simp only[Tm.cnt];omega,by have:=f.tsz;have:=l.tsz;simp only[Tm.tsz];omega⟩,G,o8 1 [19,39,(100023,.l LB (.exit 1) (ED L g (.two false s u) k b)),301,302,310,311,313] C E gl p r p z (bE .pair x y)⟩
     |true=>
      obtain⟨x,d,f,o,r⟩:=A u (g++[s]) b (by omega) (kI B (by simp;omega)) (by simp;omega) n;have z:=wH g [s] (by simp;omega);exact⟨.lam s x,d,⟨(by have:=f.sc;simpa[Tm.sc]using this),by have:=f.cnt;simp only[Tm.cnt];omega,by have:=f.tsz;simp only[Tm.tsz];omega⟩,o,o7 1 [19,39,(100023,.l LB (.exit 1) (ED L g (.two true s u) k b)),327,333,334,336] C E gl z p r (HD s x)⟩
   exact⟨x,c,q.mono (by omega) (Nat.le_refl _),F,o3 1 [19,39,(100023,.l LB .ret (st [(8,.loc 2 0)] [(0,dk L c),(2,bx x.c)] 3 [0]))] C E gl⟩
  have V:=V
  cases t with
  |unit=>exact⟨.n0 .unit,b,⟨trivial,by simp only[Tm.cnt];omega,Nat.zero_le _⟩,n,o3 1 [19,39,337] C E DO⟩|nat=>
   obtain⟨m,c,O,F,I⟩:=nx K n (n:=5) (by omega) (by omega);obtain⟨x,d,f,o,r⟩:=A .nat g c H B (by omega) F;obtain⟨y,e,l,G,z⟩:=A .nat g d H B (by omega) o;rcases m with _|_|_|m
   ·exact⟨.n1 .succ x,d,⟨f.sc,by have:=f.cnt;simp only[Tm.cnt];omega,by have:=f.tsz;simp only[Tm.tsz];omega⟩,o,o6 1 [19,39,220,227,228,230] C E I p r (DK .succ x)⟩
   ·have J:=ZT g.length S;exact⟨.n2 .app (.n2 .app plusT x) y,e,⟨⟨⟨J.sc,f.sc⟩,l.sc⟩,by have:=f.cnt;have:=l.cnt;have:=J.cnt;simp only[Tm.cnt];omega,by have:=f.tsz;have:=l.tsz;have:=J.tsz;simp only[Tm.tsz];omega⟩,G,o9 1 [19,39,220,233,238,239,244,245,247] C E I kN p r p z (cG plusT x y)⟩
   ·have J:=qU g.length S;exact⟨.n2 .app (.n2 .app subT x) y,e,⟨⟨⟨J.sc,f.sc⟩,l.sc⟩,by have:=f.cnt;have:=l.cnt;have:=J.cnt;simp only[Tm.cnt];omega,by have:=f.tsz;have:=l.tsz;have:=J.tsz;simp only[Tm.tsz];omega⟩,G,o9 1 [19,39,220,250,255,256,261,262,264] C E I yN p r p z (cG subT x y)⟩
   obtain⟨v,d,Q,o,gv⟩:=nx K F (n:=3) (by omega) (by omega);have U:=MH (n:=v);exact⟨eC v,d,(BO g Q).mono (by omega) (Nat.zero_le _),o,o5 1 [19,39,220,266,267] C E I gv U⟩
  |list=>
   obtain⟨m,c,O,F,I⟩:=nx K n (n:=2) (by omega) (by omega)
   cases m with
   |zero=>
    obtain⟨x,d,f,o,r⟩:=A .nat g c (by simp only[Ty.size];omega) B (by omega) F;obtain⟨y,e,l,G,z⟩:=A .list g d H B (by omega) o;exact⟨.n2 .cons x y,e,⟨⟨f.sc,l.sc⟩,by have:=f.cnt;have:=l.cnt;simp only[Tm.cnt];omega,by have:=f.tsz;have:=l.tsz;simp only[Tm.tsz];omega⟩,G,o9 1 [19,39,274,279,281,282,287,288,290] C E I tE p r p z (bE .cons x y)⟩
   |succ m=>exact⟨.n0 .nil,c,⟨trivial,by simp only[Tm.cnt];omega,Nat.zero_le _⟩,F,o4 1 [19,39,274,291] C E I CO⟩
  |two j s u=>
   have H:1+s.size+u.size<=S:=H
   cases j with
   |false=>
    obtain⟨x,d,f,o,r⟩:=A s g b (by omega) B (by omega) n;obtain⟨y,e,l,G,z⟩:=A u g d (by omega) B (by omega) o;exact⟨.n2 .pair x y,e,⟨⟨f.sc,l.sc⟩,by have:=f.cnt;have:=l.cnt;simp only[Tm.cnt];omega,by have:=f.tsz;have:=l.tsz;simp only[Tm.tsz];omega⟩,G,o7 1 [19,39,301,302,310,311,313] C E p r p z (bE .pair x y)⟩
   |true=>
    obtain⟨x,d,f,o,r⟩:=A u (g++[s]) b (by omega) (kI B (by simp;omega)) (by simp;omega) n;have z:=wH g [s] (by simp;omega);exact⟨.lam s x,d,⟨(by have:=f.sc;simpa[Tm.sc]using this),by have:=f.cnt;simp only[Tm.cnt];omega,by have:=f.tsz;simp only[Tm.tsz];omega⟩,o,o6 1 [19,39,327,333,334,336] C E z p r (HD s x)⟩
 obtain⟨w,b,V,n,E⟩:=nx K W (n:=8) (by omega) (by omega);rcases w with _|_|_|_|_|_|w
 ·obtain⟨s,c,N,F,r⟩:=PI K 0 (by omega) n;have N:s.size<=1:=N;obtain⟨x,d,f,o,z⟩:=A t (g++[s]) c H (kI B (by simp;omega)) (by simp;omega) F;obtain⟨y,e,l,G,M⟩:=A s g d (by omega) B (by omega) o;have P:=wH g [s] (by simp;omega);exact⟨.n2 .app (.lam s x) y,e,⟨⟨by have:=f.sc;simpa[Tm.sc]using this,l.sc⟩,by have:=f.cnt;have:=l.cnt;simp only[Tm.cnt];omega,by have:=f.tsz;have:=l.tsz;simp only[Tm.tsz];omega⟩,G,fU 1 [19,25,39,43,49,52,53,55,60,61,63] C D E r P p z (HD s x) p M (bE .app (.lam s x) y)⟩
 ·obtain⟨s,c,N,F,r⟩:=PI K 0 (by omega) n;have N:s.size<=1:=N;obtain⟨x,d,f,o,z⟩:=A t g c H B (by omega) F;obtain⟨y,e,l,G,M⟩:=A s g d (by omega) B (by omega) o;exact⟨.n1 .fst (.n2 .pair x y),e,⟨⟨f.sc,l.sc⟩,by have:=f.cnt;have:=l.cnt;simp only[Tm.cnt];omega,by have:=f.tsz;have:=l.tsz;simp only[Tm.tsz];omega⟩,G,aH 1 [19,25,39,67,72,73,78,79,81,83] C D E r p z p M (bE .pair x y) (DK .fst (.n2 .pair x y))⟩
 ·obtain⟨x,c,f,F,r⟩:=A t (g++[.nat,t]) b H (kI B (by simp[Ty.size];omega)) (by simp;omega) n;obtain⟨y,d,l,o,z⟩:=A t g c H B (by omega) F;obtain⟨v,e,Q,G,M⟩:=nx K o (n:=3) (by omega) (by omega);have P:=wH g [.nat,t] (by simp;omega);have X:=MH (n:=v);have R:TG g.length 4 0 (eC v):=VY Q;exact⟨.n3 .re t y (.lam .nat (.lam t x)) (eC v),e,⟨⟨l.sc,by have:=f.sc;simpa[Tm.sc]using this,R.sc⟩,by have:=f.cnt;have:=l.cnt;have:=R.cnt;simp only[Tm.cnt];omega,by have:=f.tsz;have:=l.tsz;have:=R.tsz;simp only[Tm.tsz,Ty.size];omega⟩,G,vu 1 [19,25,39,86,90,93,96,97,99,101,107,108,111,112,114] C D E tE tE P p r (HD t x) (HD .nat (.lam t x)) p z M X (qN .re t y (.lam .nat (.lam t x)) (eC v))⟩
 ·obtain⟨x,c,f,F,r⟩:=A t (g++[.nat,.list,t]) b H (kI B (by simp[Ty.size];omega)) (by simp;omega) n;obtain⟨y,d,l,o,z⟩:=A t g c H B (by omega) F;obtain⟨v,e,T,G,M⟩:=A .list g d (by simp only[Ty.size];omega) B (by omega) o;have P:=wH g [.nat,.list,t] (by simp;omega);exact⟨.n3 .fo t y (.lam .nat (.lam .list (.lam t x))) v,e,⟨⟨l.sc,by have:=f.sc;simpa[Tm.sc]using this,T.sc⟩,by have:=f.cnt;have:=l.cnt;have:=T.cnt;simp only[Tm.cnt];omega,by have:=f.tsz;have:=l.tsz;have:=T.tsz;simp only[Tm.tsz,Ty.size];omega⟩,G,ku 1 [19,25,39,117,118,122,123,126,129,130,132,134,136,142,143,147,149,150,152] C D E tE NN tE NN P p r (HD t x) (HD .list (.lam t x)) (HD .nat (.lam .list (.lam t x))) p z NN p M (qN .fo t y (.lam .nat (.lam .list (.lam t x))) v)⟩
 ·obtain⟨s,c,N,F,r⟩:=PI K 0 (by omega) n;have N:s.size<=1:=N;obtain⟨y,d,l,o,z⟩:=A s g c (by omega) B (by omega) F;obtain⟨x,e,f,G,M⟩:=A t g d H B (by omega) o;exact⟨.n1 .snd (.n2 .pair y x),e,⟨⟨l.sc,f.sc⟩,by have:=f.cnt;have:=l.cnt;simp only[Tm.cnt];omega,by have:=f.tsz;have:=l.tsz;simp only[Tm.tsz];omega⟩,G,aH 1 [19,25,39,156,161,162,167,168,170,172] C D E r p z p M (bE .pair y x) (DK .snd (.n2 .pair y x))⟩
 ·rcases XY A t B (by omega) n g.length 0 (by omega)with gl|⟨x,c,q,F,gl⟩
  ·have gl:=gl
   cases t with
   |unit=>exact⟨.n0 .unit,b,⟨trivial,by simp only[Tm.cnt];omega,Nat.zero_le _⟩,n,o5 1 [19,25,39,(100023,.l LB (.exit 1) (ED L g .unit k b)),337] C D E gl DO⟩|nat=>
    obtain⟨m,c,O,F,I⟩:=nx K n (n:=5) (by omega) (by omega);obtain⟨x,d,f,o,r⟩:=A .nat g c H B (by omega) F;obtain⟨y,e,l,G,z⟩:=A .nat g d H B (by omega) o;rcases m with _|_|_|m
    ·exact⟨.n1 .succ x,d,⟨f.sc,by have:=f.cnt;simp only[Tm.cnt];omega,by have:=f.tsz;simp only[Tm.tsz];omega⟩,o,o8 1 [19,25,39,(100023,.l LB (.exit 1) (ED L g .nat k b)),220,227,228,230] C D E gl I p r (DK .succ x)⟩
    ·have J:=ZT g.length S;exact⟨.n2 .app (.n2 .app plusT x) y,e,⟨⟨⟨J.sc,f.sc⟩,l.sc⟩,by have:=f.cnt;have:=l.cnt;have:=J.cnt;simp only[Tm.cnt];omega,by have:=f.tsz;have:=l.tsz;have:=J.tsz;simp only[Tm.tsz];omega⟩,G,fU 1 [19,25,39,(100023,.l LB (.exit 1) (ED L g .nat k b)),220,233,238,239,244,245,247] C D E gl I kN p r p z (cG plusT x y)⟩
    ·have J:=qU g.length S;exact⟨.n2 .app (.n2 .app subT x) y,e,⟨⟨⟨J.sc,f.sc⟩,l.sc⟩,by have:=f.cnt;have:=l.cnt;have:=J.cnt;simp only[Tm.cnt];omega,by have:=f.tsz;have:=l.tsz;have:=J.tsz;simp only[Tm.tsz];omega⟩,G,fU 1 [19,25,39,(100023,.l LB (.exit 1) (ED L g .nat k b)),220,250,255,256,261,262,264] C D E gl I yN p r p z (cG subT x y)⟩
    obtain⟨v,d,Q,o,gv⟩:=nx K F (n:=3) (by omega) (by omega);have U:=MH (n:=v);exact⟨eC v,d,(BO g Q).mono (by omega) (Nat.zero_le _),o,o7 1 [19,25,39,(100023,.l LB (.exit 1) (ED L g .nat k b)),220,266,267] C D E gl I gv U⟩
   |list=>
    obtain⟨m,c,O,F,I⟩:=nx K n (n:=2) (by omega) (by omega)
    cases m with
    |zero=>
     obtain⟨x,d,f,o,r⟩:=A .nat g c (by simp only[Ty.size];omega) B (by omega) F;obtain⟨y,e,l,G,z⟩:=A .list g d H B (by omega) o;exact⟨.n2 .cons x y,e,⟨⟨f.sc,l.sc⟩,by have:=f.cnt;have:=l.cnt;simp only[Tm.cnt];omega,by have:=f.tsz;have:=l.tsz;simp only[Tm.tsz];omega⟩,G,fU 1 [19,25,39,(100023,.l LB (.exit 1) (ED L g .list k b)),274,279,281,282,287,288,290] C D E gl I tE p r p z (bE .cons x y)⟩
    |succ m=>exact⟨.n0 .nil,c,⟨trivial,by simp only[Tm.cnt];omega,Nat.zero_le _⟩,F,o6 1 [19,25,39,(100023,.l LB (.exit 1) (ED L g .list k b)),274,291] C D E gl I CO⟩
   |two j s u=>
    have H:1+s.size+u.size<=S:=H
    cases j with
    |false=>
     obtain⟨x,d,f,o,r⟩:=A s g b (by omega) B (by omega) n;obtain⟨y,e,l,G,z⟩:=A u g d (by omega) B (by omega) o;exact⟨.n2 .pair x y,e,⟨⟨f.sc,l.sc⟩,by have:=f.cnt;have:=l.cnt;simp only[Tm.cnt];omega,by have:=f.tsz;have:=l.tsz;simp only[Tm.tsz];omega⟩,G,o9 1 [19,25,39,(100023,.l LB (.exit 1) (ED L g (.two false s u) k b)),301,302,310,311,313] C D E gl p r p z (bE .pair x y)⟩
    |true=>
     obtain⟨x,d,f,o,r⟩:=A u (g++[s]) b (by omega) (kI B (by simp;omega)) (by simp;omega) n;have z:=wH g [s] (by simp;omega);exact⟨.lam s x,d,⟨(by have:=f.sc;simpa[Tm.sc]using this),by have:=f.cnt;simp only[Tm.cnt];omega,by have:=f.tsz;simp only[Tm.tsz];omega⟩,o,o8 1 [19,25,39,(100023,.l LB (.exit 1) (ED L g (.two true s u) k b)),327,333,334,336] C D E gl z p r (HD s x)⟩
  exact⟨x,c,q.mono (by omega) (Nat.le_refl _),F,o4 1 [19,25,39,(100023,.l LB .ret (st [(8,.loc 2 0)] [(0,dk L c),(2,bx x.c)] 3 [0]))] C D E gl⟩
 have V:=V
 cases t with
 |unit=>exact⟨.n0 .unit,b,⟨trivial,by simp only[Tm.cnt];omega,Nat.zero_le _⟩,n,o4 1 [19,25,39,337] C D E DO⟩|nat=>
  obtain⟨m,c,O,F,I⟩:=nx K n (n:=5) (by omega) (by omega);obtain⟨x,d,f,o,r⟩:=A .nat g c H B (by omega) F;obtain⟨y,e,l,G,z⟩:=A .nat g d H B (by omega) o;rcases m with _|_|_|m
  ·exact⟨.n1 .succ x,d,⟨f.sc,by have:=f.cnt;simp only[Tm.cnt];omega,by have:=f.tsz;simp only[Tm.tsz];omega⟩,o,o7 1 [19,25,39,220,227,228,230] C D E I p r (DK .succ x)⟩
  ·have J:=ZT g.length S;exact⟨.n2 .app (.n2 .app plusT x) y,e,⟨⟨⟨J.sc,f.sc⟩,l.sc⟩,by have:=f.cnt;have:=l.cnt;have:=J.cnt;simp only[Tm.cnt];omega,by have:=f.tsz;have:=l.tsz;have:=J.tsz;simp only[Tm.tsz];omega⟩,G,aH 1 [19,25,39,220,233,238,239,244,245,247] C D E I kN p r p z (cG plusT x y)⟩
  ·have J:=qU g.length S;exact⟨.n2 .app (.n2 .app subT x) y,e,⟨⟨⟨J.sc,f.sc⟩,l.sc⟩,by have:=f.cnt;have:=l.cnt;have:=J.cnt;simp only[Tm.cnt];omega,by have:=f.tsz;have:=l.tsz;have:=J.tsz;simp only[Tm.tsz];omega⟩,G,aH 1 [19,25,39,220,250,255,256,261,262,264] C D E I yN p r p z (cG subT x y)⟩
  obtain⟨v,d,Q,o,gv⟩:=nx K F (n:=3) (by omega) (by omega);have U:=MH (n:=v);exact⟨eC v,d,(BO g Q).mono (by omega) (Nat.zero_le _),o,o6 1 [19,25,39,220,266,267] C D E I gv U⟩
 |list=>
  obtain⟨m,c,O,F,I⟩:=nx K n (n:=2) (by omega) (by omega)
  cases m with
  |zero=>
   obtain⟨x,d,f,o,r⟩:=A .nat g c (by simp only[Ty.size];omega) B (by omega) F;obtain⟨y,e,l,G,z⟩:=A .list g d H B (by omega) o;exact⟨.n2 .cons x y,e,⟨⟨f.sc,l.sc⟩,by have:=f.cnt;have:=l.cnt;simp only[Tm.cnt];omega,by have:=f.tsz;have:=l.tsz;simp only[Tm.tsz];omega⟩,G,aH 1 [19,25,39,274,279,281,282,287,288,290] C D E I tE p r p z (bE .cons x y)⟩
  |succ m=>exact⟨.n0 .nil,c,⟨trivial,by simp only[Tm.cnt];omega,Nat.zero_le _⟩,F,o5 1 [19,25,39,274,291] C D E I CO⟩
 |two j s u=>
  have H:1+s.size+u.size<=S:=H
  cases j with
  |false=>
   obtain⟨x,d,f,o,r⟩:=A s g b (by omega) B (by omega) n;obtain⟨y,e,l,G,z⟩:=A u g d (by omega) B (by omega) o;exact⟨.n2 .pair x y,e,⟨⟨f.sc,l.sc⟩,by have:=f.cnt;have:=l.cnt;simp only[Tm.cnt];omega,by have:=f.tsz;have:=l.tsz;simp only[Tm.tsz];omega⟩,G,o8 1 [19,25,39,301,302,310,311,313] C D E p r p z (bE .pair x y)⟩
  |true=>
   obtain⟨x,d,f,o,r⟩:=A u (g++[s]) b (by omega) (kI B (by simp;omega)) (by simp;omega) n;have z:=wH g [s] (by simp;omega);exact⟨.lam s x,d,⟨(by have:=f.sc;simpa[Tm.sc]using this),by have:=f.cnt;simp only[Tm.cnt];omega,by have:=f.tsz;simp only[Tm.tsz];omega⟩,o,o7 1 [19,25,39,327,333,334,336] C D E z p r (HD s x)⟩
def PM{L:List Int}(b:Dk L){S:Nat}(c:3<=S)(a:S<=20):∀k,QE L S k
 :=by intro x;induction x<;>grind[Nr,Pr,QE]
end Go.Proofs.YtjobiknipefjdaaGreatDoor
namespace Go.Lg
def Ga.swapO{C:Ctx}{E:Env}{σ:St}{a:Act}{w:World}(h:Ga C E σ a w){n:Nat}{o o':Ob}(u:zA σ.objs n=some o)(y:ObOK E w n o')(v:∀m∈o'.names,m∈σ.used):Ga C E ⟨σ.slots,iB σ.objs n o',σ.used⟩ a w:=by
 have s:∀m,zA (iB σ.objs n o') m=if m=n then some o' else zA σ.objs m:=λm=>fD _ _ _ _
 have d:∀m q,zA (iB σ.objs n o') m=some q->∃f,zA σ.objs m=some f:=λm q h=>by
  grind
 refine⟨h.slots,h.size,h.defers,h.heap,?_,?_,h.usedS,?_,h.usedG,h.grown,h.rest,h.same,h.hle,?_,h.ext,?_⟩
 ·intro m q c;simp only[s]at c;split at c
  ·simp_all
  exact h.objs m q c
 ·intro m t q f c g i b j;obtain⟨p,k⟩:=d m q c;obtain⟨x,l⟩:=d t f g;exact h.apart m t p x k l i b j
 ·intro m q c;simp only[s]at c;split at c
  ·rename_i e;cases c;subst e;exact⟨(h.usedO _ _ u).1,v⟩
  exact h.usedO m q c
 ·intro m q b c j r;obtain⟨p,k⟩:=d m q c;exact h.own m p b k j r
 intro m c;obtain⟨z,A,B⟩:=h.keep m c
 grind
def Ga.slotW{C:Ctx}{E:Env}{σ:St}{a:Act}{w:World}(h:Ga C E σ a w){d:Nat}{x:V}{v:Value}(b:RepV E x v)(c:∀n∈x.names,n∈σ.used)(f:d<C.nt):Ga C E ⟨(d,x)::σ.slots,σ.objs,σ.used⟩ (a.put (some d) v) w:=
 h.pure E.H (some d) x v (Hle.refl _) (Nat.le_refl _) ⟨rfl,rfl,rfl⟩ (λ_ _=>⟨rfl,rfl⟩) h.heap b c (λ_ e=>by simp_all)
def QQ{C:Ctx}{E:Env}{σ:St}{a:Act}{w:World}(h:Ga C E σ a w){d:Nat}(b:d<C.nt)(v:Value):(a.put (some d) v).eval (.tmp d)=v:=by
 have:d<a.tmps.size:=by rw[h.size];exact b
 simp[Act.put,Act.eval,this]
section
variable{X:Env1}{id:Nat}{σ:St}{Q:EB->St->Prop}{t1 t2 t3:Nat}{p1 p2 p3:String}{f1 f2 f3:Array Edge}
def AWP.range{n r b ck t A B:Nat}{ms:Array MapEntry}{s c g:Nat}(H:IA σ.slots s=.map n)(I:zA σ.objs n=some (.raw (.map (some b)) (.map ms ck)))(D:r∉σ.used)(J:X.P.underlying t=some (.map A B))(L:c<X.nt)(M:g<X.nt)
  (N:∀rb,Q .normal ⟨(g,.loc r 0)::(c,.map n)::σ.slots,iB σ.objs r (.raw (.pointer (some ⟨rb,0,none⟩)) (.mapIter (some b) ck #[] ck)),r::σ.used⟩):
  AWP X (.region id #[⟨some c,.move (.tmp s),t1,p1,f1,none⟩,⟨some g,.range t (.tmp c),t2,p2,f2,none⟩] false) σ Q:=by
 intro C E a w F h;have i:c<C.nt:=by rw[F.nt];exact L
 have:g<C.nt:=by rw[F.nt];exact M
 have j:=h.slots s;rw[H]at j;obtain⟨S,G,j⟩:=j;obtain⟨k,T,p,d,u⟩:=h.objs n _ I;rw[k]at G;cases G;cases p;have f:Ga C E ⟨(c,.map n)::σ.slots,σ.objs,σ.used⟩ (a.put (some c) (a.eval (.tmp s))) w:=h.slotW (x:=.map n) (v:=a.eval (.tmp s)) (by
  exact⟨b,k,j⟩) (λm v=>by
   have:=h.usedS s;simp_all) i
 have x:(a.put (some c) (a.eval (.tmp s))).eval (.tmp c)=.map (some b):=by rw[QQ h i];exact j
 have l:=run_range_map (P:=X.P) w t A B b ms ck J d;refine wp_region_list ?_;refine wpList_plain rfl λK y=>?_
 refine OpRes.wp (v:=a.eval (.tmp s)) (w':=w) (.inl (by rfl)) (y _ _ ?_);refine wpList_plain rfl λK y=>?_
 refine OpRes.wp (v:=.pointer (some ⟨w.heap.size,0,none⟩)) (w':=w.alloc (.mapIter (some b) ck #[] ck)) (.inl (by
  simp only[execOp,x,Sem.run_bind,l,Result.andThen_ok,Sem.run_pure])) (y _ _ ?_)
 let E':Env:={E with g:=λm=>if m=r then .pointer (some ⟨w.heap.size,0,none⟩)else E.g m};have o:E'.g r=.pointer (some ⟨w.heap.size,0,none⟩):=by simp[E']
 have P:∀m,m≠r->E'.g m=E.g m/\E'.ver m=E.ver m/\E'.sz m=E.sz m:=λm v=>⟨by grind,rfl,rfl⟩
 refine⟨E',_,.normal,?_,rfl,N w.heap.size⟩;refine f.change (E':=E') r (some (.raw (.pointer (some ⟨w.heap.size,0,none⟩)) (.mapIter (some b) ck #[] ck))) _ (r::σ.used) (some g) (.loc r 0) _ (λm=>fD _ _ _ _) (Hle.refl _) P (λz=>absurd z D) (λz=>absurd z D)
  (by simp) ⟨rfl,rfl,rfl⟩ (λb R _=>⟨@heap_alloc_old w _ b R,rfl⟩) (vQ f.heap _ E' rfl) ?_ ?_ (λm v=>by simp[v]) ?_ ?_ (λ_ e=>by simp_all)
 ·intro U e;cases e;exact⟨⟨o,w.heap.size,rfl,heap_alloc_new w _,f.heap.lt (Nat.le_refl _)⟩,by simp,by simp[Ob.names]⟩
 ·grind[BA]
 ·exact⟨_,o,rfl⟩
 simp[V.names]
def AWP.next{n r b rb ck d N:Nat}{B:Array MapEntry}{seen:Array Nat}{s f D:Nat}(O:n≠r)(hs:IA σ.slots s=.loc r 0)(ho:zA σ.objs n=some (.raw (.map (some b)) (.map B ck)))(l:zA σ.objs r=some (.raw (.pointer (some ⟨rb,0,none⟩)) (.mapIter (some b) d seen N)))
  (F:∀x∈B.toList,x.born<d) (P:d<=N) (h1:f<X.nt) (h2:D<X.nt)
  (R:(leftOf B seen).size=0->Q .normal ⟨(D,.pv (.bool false))::(f,.undef)::σ.slots,σ.objs,σ.used⟩)
  (S:∀e∈(leftOf B seen).toList,Q .normal ⟨(D,.pv (.bool true))::(f,.undef)::σ.slots,iB σ.objs r (.raw (.pointer (some ⟨rb,0,none⟩)) (.mapIter (some b) d (seen.push e.born) ck)),σ.used⟩):
  AWP X (.region id #[⟨some f,.next (.tmp s) false,t1,p1,f1,none⟩,⟨some D,.extract (.tmp f) 0,t2,p2,f2,none⟩] false) σ Q:=by
 intro C E a w hC o;have p:f<C.nt:=by rw[hC.nt];exact h1
 have G:D<C.nt:=by rw[hC.nt];exact h2
 have u:=o.slots s;rw[hs]at u;simp only[RepV]at u;obtain⟨b1,H,u⟩:=u;obtain⟨T,b2,U,v,V⟩:=o.objs n _ ho;obtain⟨t,b3,W,I,J⟩:=o.objs r _ l;rw[t]at H;cases H;cases U;cases W;have hbr:b≠rb:=λe=>o.apart n r _ _ ho l O b (by rw[T];rfl) (by rw[t,e];rfl)
 have Y:rb<w.heap.size:=(Array.getElem?_eq_some_iff.1 I).1;have u:a.eval (.tmp s)=.pointer (some ⟨rb,0,none⟩):=u;refine wp_region_list ?_;refine wpList_plain rfl λK A=>?_
 rcases run_next_at (P:=X.P) w t1 rb b d N seen B ck I v F P with ⟨h0,g⟩|⟨e,he,w1,Z,g⟩
 ·refine OpRes.wp (v:=.tuple #[.bool false]) (w':=w) (.inl (by simp only[execOp,u,Sem.run_bind,g,Result.andThen_ok,Sem.run_pure])) (A _ _ ?_);have y:Ga C E ⟨(f,.undef)::σ.slots,σ.objs,σ.used⟩ (a.put (some f) (.tuple #[.bool false])) w:=o.slotW (x:=.undef) trivial (λm z=>by cases z) p;refine wpList_plain rfl λK A=>?_
  refine OpRes.wp (v:=.bool false) (w':=w) (.inl (by simp only[execOp,QQ o p];rfl)) (A _ _ ?_);exact⟨E,_,.normal,y.slotW (x:=.pv (.bool false)) (by rfl) (λm z=>by cases z) G,rfl,R h0⟩
 have j:w1.heap=w.heap/\w1.os=w.os/\w1.tape=w.tape/\w1.output=w.output:=by rcases Z with rfl|rfl<;>exact⟨rfl,rfl,rfl,rfl⟩
 refine OpRes.wp (v:=.tuple #[.bool true,e.key,e.val]) (w':=ChangeMaps.setBlock w1 rb (.mapIter (some b) d (seen.push e.born) ck)) (.inl (by simp only[execOp,u,Sem.run_bind,g,Result.andThen_ok,Sem.run_pure])) (A _ _ ?_);have k:∀i,(ChangeMaps.setBlock w1 rb (.mapIter (some b) d (seen.push e.born) ck)).heap[i]? =if i=rb then some (.mapIter (some b) d (seen.push e.born) ck)else w.heap[i]?:=by
  intro i;simp only[ChangeMaps.setBlock,j.1];by_cases l:i=rb
  ·subst l;simp[Y]
  rw[if_neg l,Array.getElem?_setIfInBounds_ne (λh=>l h.symm)]
 have y:Ga C E ⟨(f,.undef)::σ.slots,iB σ.objs r (.raw (.pointer (some ⟨rb,0,none⟩)) (.mapIter (some b) d (seen.push e.born) ck)),σ.used⟩ (a.put (some f) (.tuple #[.bool true,e.key,e.val])) (ChangeMaps.setBlock w1 rb (.mapIter (some b) d (seen.push e.born) ck)):=by
  refine o.change (E':=E) r (some (.raw (.pointer (some ⟨rb,0,none⟩)) (.mapIter (some b) d (seen.push e.born) ck))) _ σ.used (some f) .undef _ (λm=>fD _ _ _ _) (Hle.refl _) (λ_ _=>⟨rfl,rfl,rfl⟩) (λ_=>EExt.refl _ _) (λ_=>⟨_,l⟩)
   (by simp[ChangeMaps.setBlock,j.1]) ⟨j.2.1,j.2.2.1,j.2.2.2⟩ (λi hlt L=>⟨by rw[k,if_neg (λh=>L _ l (by rw[t,h];rfl))],rfl⟩) ?_ ?_ ?_ (λ_ h=>h) trivial (λm z=>by cases z) (λ_ e=>by cases e;exact p)
  ·intro i M;have:i≠rb:=λh=>M (h▸J)
   obtain⟨c,T',fr,hc,hp⟩:=o.heap i M;exact⟨c,T',fr,by rw[k,if_neg this];exact hc,hp⟩
  ·intro o' e';cases e';exact⟨⟨t,rb,rfl,by rw[k,if_pos rfl],J⟩,(o.usedO r _ l).1,by simp[Ob.names]⟩
  intro o' b' e' hb';exact .inr ⟨hb',_,l⟩
 refine wpList_plain rfl λK A=>?_
 refine OpRes.wp (v:=.bool true) (w':=_) (.inl (by simp only[execOp,QQ o p];rfl)) (A _ _ ?_);exact⟨E,_,.normal,y.slotW (x:=.pv (.bool true)) (by simp[RepV,RepP]) (λm z=>by cases z) G,rfl,S e he⟩
def AWP.entry{n r b rb ck c:Nat}{ms:Array MapEntry}{seen:Array Nat}{e:MapEntry}{z:Int}{s d g v:Nat}(J:IA σ.slots s=.loc r 0)(L:zA σ.objs n=some (.raw (.map (some b)) (.map ms ck)))(M:zA σ.objs r=some (.raw (.pointer (some ⟨rb,0,none⟩)) (.mapIter (some b) c (seen.push e.born) ck)))
  (N:e∈ms.toList) (x:(ms.toList.map (·.born)).Nodup) (O:e.key=.int .i64 z) (P:d<X.nt) (R:g<X.nt) (S:v<X.nt)
  (T:Q .normal ⟨(v,.pv (.int z))::(g,.pv (.int z))::(d,.undef)::σ.slots,σ.objs,σ.used⟩):
  AWP X (.region id #[⟨some d,.entry (.tmp s),t1,p1,f1,none⟩,⟨some g,.extract (.tmp d) 0,t2,p2,f2,none⟩,⟨some v,.assign (.tmp g),t3,p3,f3,none⟩] false) σ Q:=by
 intro C E a w y i;have j:d<C.nt:=by rw[y.nt];exact P
 have k:g<C.nt:=by rw[y.nt];exact R
 have A:v<C.nt:=by rw[y.nt];exact S
 have h:=i.slots s;rw[J]at h;obtain⟨W,l,h⟩:=h;obtain⟨U,Y,B,f,D⟩:=i.objs n _ L;obtain⟨F,Z,G,H,V⟩:=i.objs r _ M;rw[F]at l;cases l;cases B;cases G;have h:a.eval (.tmp s)=.pointer (some ⟨rb,0,none⟩):=h;have o:=run_entry_at (P:=X.P) w rb b c seen ms ck e H f N x;refine wp_region_list ?_;refine wpList_plain rfl λK p=>?_
 refine OpRes.wp (v:=.tuple #[e.key,e.val]) (w':=w) (.inl (by simp only[execOp,h,Sem.run_bind,o,Result.andThen_ok,Sem.run_pure])) (p _ _ ?_);have t:Ga C E ⟨(d,.undef)::σ.slots,σ.objs,σ.used⟩ (a.put (some d) (.tuple #[e.key,e.val])) w:=i.slotW (x:=.undef) trivial (λm u=>by cases u) j;refine wpList_plain rfl λK p=>?_
 refine OpRes.wp (v:=.int .i64 z) (w':=w) (.inl (by simp only[execOp,QQ i j,O];rfl)) (p _ _ ?_);have I:=t.slotW (d:=g) (x:=.pv (.int z)) (v:=.int .i64 z) (by rfl) (λm u=>by cases u) k;refine wpList_plain rfl λK p=>?_
 refine OpRes.wp (v:=.int .i64 z) (w':=w) (.inl (by simp only[execOp,QQ t k];rfl)) (p _ _ ?_);exact⟨E,_,.normal,I.slotW (x:=.pv (.int z)) (by rfl) (λm u=>by cases u) A,rfl,T⟩
end
end Go.Lg
namespace Go.Proofs.YtjobiknipefjdaaGreatDoor
open Go.Lg
set_option maxRecDepth 100000
abbrev vN(L:List Nat):List (List V):=kA (L.map ic)
def YY(A B:List Nat)(x:Nat):TB (vN (A++x::B)) A.length=some [.pv (num x)]:=by
 rw[nH,So];simp[ic,DA]
def eg(A:List Nat):(vN A).length=A.length:=by simp[vN,kA]
def ig(A B:List Nat)(x y:Nat):(vN (A++x::B)).set A.length [.pv (num y)]=vN (A++y::B):=by
 simp only[vN,kA,List.map_append,List.map_cons];rw[show A.length=(List.map DA (List.map ic A)).length by simp,List.set_append_right _ _ (Nat.le_refl _),Nat.sub_self];rfl
def ZY{n v k len:Nat}{es:List (List V)}(a:k<len:=by omega)(b:len<=es.length:=by omega):ro (bif Nat.beq v v then(bif Nat.blt k len then(bif Nat.beq 1 1 then(bif Nat.ble len es.length then some (V.eloc n v k 0)else none)else none)else none)else none)=some ⟨.eloc n v k 0,none,false⟩:=by
 rw[iE rfl,show Nat.blt k len=true from Nat.ble_eq_true_of_le a,show Nat.ble len es.length=true from Nat.ble_eq_true_of_le b];rfl
def Qr{v k:Nat}{es:List (List V)}{x:V}(h:TB es k=some [x]):ro (match TB es k with
   |some e=>bif Nat.beq v v then cQ false 1 (mK e 0)else none|none=>none)=some ⟨x,none,false⟩:=by
 rw[h,iE rfl];rfl
def og{n v k:Nat}{es es':List (List V)}{x y:V}(h:TB es k=some [x])(a:es.set k [y]=es'):(bif Nat.beq v v then(bif Nat.ble (0+1) 1 then(match TB es k with
    |some e=>some (⟨.undef,some (n,.arr v 1 3 (es.set k (RD e 0 [y]))),false⟩:RB)|none=>none)else none)else none)=some ⟨.undef,some (n,.arr v 1 3 es'),false⟩:=by
 rw[h,iE rfl];subst a;rfl
def Rr{a:Nat}(h:a<=yA:=by omega):xA (Int.ofNat (a+1)-1)=true/\Int.ofNat (a+1)-1=.ofNat a:=by
 grind[wP]
abbrev QM(mv:Value)(mo:Obj)(iv:Value)(io:Obj)(v:Nat)(L:List Nat):List (Nat×Ob):=[(0,.raw mv mo),(1,.raw iv io),(2,.arr v 1 3 (vN L))]
abbrev EO(v len n i:Nat):List (Nat×V):=[(3,.arr 2 v len),(4,.pv (num n)),(5,.pv (num i)),(7,.loc 1 0)]
abbrev GO:Kp:=⟨[3,4,5,7],[0,1,2],3,[]⟩
section
variable{mv iv:Value}{mo io:Obj}{n v len:Nat}
def xg:∀(k:Nat)(A:List Nat)(y:Nat)(B:List Nat),A.length=k->len=A.length+1+B.length->len<=yA->
  ∃(b:List Nat)(j:Nat)(c:List Nat),b++c=A++B/\(∀x∈c,x∈B\/n<x)/\(∀h:b≠[],b.getLast h<=n)/\
   Lp 259 1 1 (st (EO v len n A.length) (QM mv mo iv io v (A++y::B)) 3 []) (.exit 2) (st (EO v len n b.length) (QM mv mo iv io v (b++j::c)) 3 [])
 |0,A,y,B,f,l,r=>by
  have e:A=[]:=List.length_eq_zero_iff.1 f;subst e;exact⟨[],y,B,rfl,λx g=>.inl g,λh=>absurd rfl h,y1 [19] GO (HA (Nat.le_refl 0)) (sD ((y::B).map ic))⟩
 |k+1,A,y,B,f,l,r=>by
  have d:A≠[]:=λe=>by subst e;cases f
  obtain⟨a,x,rfl⟩:∃a x,A=a++[x]:=⟨A.dropLast,A.getLast d,(List.dropLast_concat_getLast d).symm⟩;have w:a.length=k:=by simpa using f
  have s:(a++[x]).length=a.length+1:=by simp
  have t:a++[x]++y::B=a++x::y::B:=by simp
  have gl:(vN (a++x::y::B)).length=len:=by rw[eg];simp at l⊢;omega
  rw[s]at l⊢;rw[t];have u:=NA (show 0<a.length+1 by omega);have i:=Rr (a:=a.length);have m:=ZY (n:=2) (v:=v) (k:=a.length) (len:=len) (es:=vN (a++x::y::B));have o:=Qr (v:=v) (YY a (y::B) x);by_cases g:n<x
  ·obtain⟨b,j,c,C,D,E,F⟩:=xg k a x (x::B) w (by simp;omega) r;have G:=ZY (n:=2) (v:=v) (k:=a.length+1) (len:=len) (es:=vN (a++x::y::B));have H:=og (n:=2) (v:=v) (k:=a.length+1) (es:=vN (a++x::y::B)) (es':=vN (a++x::x::B)) (y:=.pv (num x)) (by
    have:=YY (a++[x]) B y;simpa using this) (by
    have:=ig (a++[x]) B y x;simpa using this)
   refine⟨b,j,c,by simpa using C,λz p=>?_,E,?_⟩
   ·rcases D z p with h|h
    ·rcases List.mem_cons.1 h with rfl|h
     ·exact .inr g
     exact .inl h
    exact .inr h
   exact rk [(19,.G),(23,.z a.length),(24,.w ⟨.eloc 2 v a.length 0,none,false⟩),(25,.w ⟨.pv (num x),none,false⟩),(27,.G),(33,.z a.length),(34,.w ⟨.eloc 2 v a.length 0,none,false⟩),(35,.w ⟨.pv (num x),none,false⟩),(36,.w ⟨.eloc 2 v (a.length+1) 0,none,false⟩),(99999,.w ⟨.undef,some (2,.arr v 1 3 (vN (a++x::x::B))),false⟩),(38,.z a.length)] GO GO (And.intro u (And.intro i (And.intro m (And.intro o (And.intro (NA g) (And.intro i (And.intro m (And.intro o (And.intro G (And.intro H (And.intro i (And.intro (sD ((a++x::x::B).map ic)) F))))))))))))
  refine⟨a++[x],y,B,by simp,λz p=>.inl p,λ_=>by simp;omega,?_⟩;rw[s,t];exact y5 [19,23,(24,.w ⟨.eloc 2 v a.length 0,none,false⟩),(25,.w ⟨.pv (num x),none,false⟩),27] GO u i m o (HA (show x<=n by omega)) (sD ((a++x::y::B).map ic))
end
end Go.Proofs.YtjobiknipefjdaaGreatDoor
namespace Go.Lg
section
variable{ev:MA}{P:Program}
def qZ(ev:MA)(P:Program)(n N c d:Nat)(b:Code)(s:IS)(f:Di)(a:Kp)(e:AE)(g:IS):Prop:=
 lD ev P (VF ev P N n) N c d b s f λf c _=>f=e/\gd (AK a d c) (TF c.ob a.on (EG a c=g))
def Reach.of_go(g:SF ev P){n N c d:Nat}{b:Code}{s f:IS}{i:Di}{j:Kp}{e:AE}(h:qZ ev P n N c d b s i j e f):Reach ev P c d b s e f:=by
 obtain⟨p,r,k,l,rfl,a⟩:=tC (sH g N n) _ _ _ _ h;obtain⟨m,a⟩:=CB a;obtain⟨a,o⟩:=jI a;exact a▸l.keep (HM m o)
def Rel.slotT{s:IS}{σ:St}(h:Rel s σ)(d:Nat)(x:V):Rel ⟨s.sl.put d (some x),s.ob,s.nx,s.dt⟩ ⟨(d,x)::σ.slots,σ.objs,σ.used⟩:=by
 refine⟨λt=>?_,h.ob,h.us⟩;show(if d=t then x else IA σ.slots t)=_;rw[Tr.get_put];by_cases e:t=d
 ·simp_all
 rw[if_neg e,if_neg (λh=>e h.symm)];exact h.sl t
def Rel.objT{s:IS}{σ:St}(h:Rel s σ)(n:Nat)(o:Ob):Rel ⟨s.sl,s.ob.put n (some o),s.nx,s.dt⟩ ⟨σ.slots,iB σ.objs n o,σ.used⟩:=by
 refine⟨h.sl,λm=>?_,h.us⟩;rw[fD,Tr.get_put];by_cases e:m=n
 ·rw[if_pos e,if_pos e]
 rw[if_neg e,if_neg e];exact h.ob m
def Rel.newT{s:IS}{σ:St}(h:Rel s σ)(o:Ob):Rel ⟨s.sl,s.ob.put s.nx (some o),s.nx+1,s.dt⟩ ⟨σ.slots,iB σ.objs s.nx o,s.nx::σ.used⟩:=by
 have:=h.objT s.nx o;exact⟨this.sl,this.ob,λm a=>by
  rcases List.mem_cons.1 a with rfl|a
  ·simp
  exact Nat.lt_succ_of_lt (h.us m a)⟩
def Rel.keep{b a:Nat}{X:Env1}(c:HX X ev P b a){s s':IS}{σ:St}(h:Rel s σ)(k:Kp)(b:AK k a s=true)(a:TF s.ob k.on True)(d:EG k s=s'):∃τ,DM X σ τ/\Rel s' τ:=d▸(HM b (jI a).2).wk c h
end
end Go.Lg
namespace Go.Proofs.YtjobiknipefjdaaGreatDoor
open Go.Lg
set_option maxRecDepth 100000
def cs1:Code->Code|.seq a _=>a|c=>c
def cs2:Code->Code|.seq _ b=>b|c=>c
def Ag:Code->Code|.block _ b=>b|.loop b=>b|c=>c
noncomputable def EK:Code:=iZ 259 0
noncomputable def Bg:Code:=cs1 EK
noncomputable def zZ:Code:=cs1 (cs2 EK)
noncomputable def jZ:Code:=cs1 (Ag (cs2 (cs2 EK)))
noncomputable def vZ:Code:=cs2 (Ag (cs2 (cs2 EK)))
def Sr:EK=.seq Bg (.seq zZ (.block 1 (.seq jZ vZ))):=by kernel_rfl
def Ur:∃i t1 t2 p1 p2 f1 f2,Bg=.region i #[⟨some 8,.next (.tmp 7) false,t1,p1,f1,none⟩,⟨some 9,.extract (.tmp 8) 0,t2,p2,f2,none⟩] false:=⟨_,_,_,_,_,_,_,rfl⟩
def Vr:∃i t1 t2 t3 p1 p2 a f1 f2 f3,jZ=.region i #[⟨some 10,.entry (.tmp 7),t1,p1,f1,none⟩,⟨some 11,.extract (.tmp 10) 0,t2,p2,f2,none⟩,⟨some 4,.assign (.tmp 11),t3,a,f3,none⟩] false:=⟨_,_,_,_,_,_,_,_,_,_,rfl⟩
noncomputable def HO:Code:=match (fnc 259).body with|some c=>c|none=>.skip
def Cg:(fnc 259).ntmps=44:=by kernel_rfl
abbrev Rc(bs f:Nat)(c:Code)(s:IS)(e:AE)(s':IS):Prop:=Go.Lg.Reach ev Tryz.prog (fnc f).ntmps bs c s e s'
section
variable{f bs:Nat}{c:Code}{s s':IS}{e:AE}
def JO(a:Di)(b:Kp){B:Prop}(h:B)(q:B=qZ ev Tryz.prog 6 100 (fnc f).ntmps bs c s a b e s':=by kernel_rfl):Rc bs f c s e s':=Reach.of_go evOK (q▸h)
variable(tp:Di)(ko:Kp){H1 H2 H3 H4 H5 H6 N:Prop}(h1:H1)(h2:H2)(h3:H3)(h4:H4)(h5:H5)(h6:H6)(w:N)
def RM:=@JO f bs c s s' e tp ko _ (⟨rfl,w,rfl⟩:e=e/\N/\s'=s')
def Wr:=@JO f bs c s s' e tp ko _ (⟨h1,rfl,w,rfl⟩:H1/\e=e/\N/\s'=s')
def Dg:=@JO f bs c s s' e tp ko _ (⟨h1,h2,rfl,w,rfl⟩:H1/\H2/\e=e/\N/\s'=s')
def Xr:=@JO f bs c s s' e tp ko _ (⟨h1,h2,h3,rfl,w,rfl⟩:H1/\H2/\H3/\e=e/\N/\s'=s')
def Eg:=@JO f bs c s s' e tp ko _ (⟨h1,h2,h3,h4,rfl,w,rfl⟩:H1/\H2/\H3/\H4/\e=e/\N/\s'=s')
def Fg:=@JO f bs c s s' e tp ko _ (⟨h1,h2,h3,h4,h5,h6,rfl,w,rfl⟩:H1/\H2/\H3/\H4/\H5/\H6/\e=e/\N/\s'=s')
end
section
variable(mv iv:Value)(mo io:Obj)
def hs:Nat->List Nat->IS|0,_=>st [(3,.pv .nils),(7,.loc 1 0)] [(0,.raw mv mo),(1,.raw iv io)] 2 []|v+1,L=>st [(3,.arr 2 (v+1) (v+1)),(7,.loc 1 0)] (QM mv mo iv io (v+1) L) 3 []
def qs(n:Nat):Nat->List Nat->IS|0,_=>st [(3,.pv .nils),(4,.pv (num n)),(7,.loc 1 0)] [(0,.raw mv mo),(1,.raw iv io)] 2 []|v+1,L=>st [(3,.arr 2 (v+1) (v+1)),(4,.pv (num n)),(7,.loc 1 0)] (QM mv mo iv io (v+1) L) 3 []
def SM:Nat->List Nat->IS|0,_=>st [(3,.pv .nils)] [(0,.raw mv mo)] 3 []|v+1,L=>st [(3,.arr 2 (v+1) (v+1))] [(0,.raw mv mo),(2,.arr (v+1) 1 3 (vN L))] 3 []
end
def Yr{v len:Nat}:ro (bif Nat.beq v v then some (V.pv (.int (.ofNat len)))else none)=some ⟨.pv (num len),none,false⟩:=by rw[iE rfl];rfl
def Zr{A:List (List PV)}{k v sz ty m:Nat}{c:List PV}(a:A.length=k)(a:0<sz)(a:KC sz [DA c]=true)(a:lC [DA c]=true)(a:k+1<=maxLen)(a:(k+1)*m<=140737488355328):
  (Nat.beq v v&&Nat.ble k (kA A).length&&Nat.beq ty ty&&Nat.beq sz sz&&Nat.blt 0 sz&&KC sz [DA c]&&lC [DA c]&&Nat.ble (k+[DA c].length) maxLen&&Nat.ble ((k+[DA c].length)*m) 140737488355328)=true:=by
 grind[mP]
section
variable{mv iv:Value}{mo io:Obj}
def js(n v:Nat)(L:List Nat)(a:L.length=v)(j:v+1<=yA)(k:v+1<=maxLen)(b:(v+1)*8<=140737488355328:=by omega):
  ∃A B,A++B=L/\(∀x∈B,n<x)/\(∀h:A≠[],A.getLast h<=n)/\Rc 1 259 vZ (qs mv iv mo io n v L) .normal (hs mv iv mo io (v+1) (A++n::B)):=by
 obtain⟨A,y,B,c,d,l,h⟩:=xg (mv:=mv) (mo:=mo) (iv:=iv) (io:=io) (n:=n) (v:=v+1) (len:=v+1) v L n [] a (by simp;omega) j;rw[List.append_nil]at c;have d:∀x∈B,n<x:=λx m=>(d x m).resolve_left (by simp)
 have r:A.length+B.length=v:=by rw[<-a,<-c];simp
 have gl:(vN (A++y::B)).length=v+1:=by rw[eg];simp;omega
 have f:=ZY (n:=2) (v:=v+1) (k:=A.length) (len:=v+1) (es:=vN (A++y::B));have g:=og (n:=2) (v:=v+1) (k:=A.length) (es:=vN (A++y::B)) (es':=vN (A++n::B)) (y:=.pv (num n)) (YY A B y) (ig A B y n);refine⟨A,B,c,d,l,?_⟩;rw[a]at h
 cases v with
 |zero=>
  have e:=List.length_eq_zero_iff.1 a;subst e;exact Eg [(100007,.l GO (.exit 2) (st (EO 1 1 n A.length) (QM mv mo iv io 1 (A++y::B)) 3 [])),(42,.w ⟨.eloc 2 1 A.length 0,none,false⟩),(99999,.w ⟨.undef,some (2,.arr 1 1 3 (vN (A++n::B))),false⟩)] ⟨[3,7],[0,1,2],3,[]⟩ (sD [ic n]) h f g (sD ((A++n::B).map ic))
 |succ v=>
  have i:vN (L++[n])=(vN L).take (v+1)++[DA (ic n)]:=by
   have:=ZK (L.map ic) (ic n);rw[List.length_map,a]at this;rw[<-this];show kA ((L++[n]).map ic)=_;rw[List.map_append];rfl
  have o:=Zr (A:=L.map ic) (v:=v+1) (ty:=3) (m:=8) (c:=ic n) (k:=v+1) (by simpa using a) (show 0<1 by decide) rfl rfl k b;have p:wB ((vN L).take (v+1)++[DA (ic n)])=[]:=by rw[<-i];exact sD ((L++[n]).map ic)
  have h:Lp 259 1 1 (st (EO (v+1+1) (v+1+1) n (v+1)) [(0,.raw mv mo),(1,.raw iv io),(2,.arr (v+1+1) 1 3 ((vN L).take (v+1)++[DA (ic n)]))] 3 []) (.exit 2) (st (EO (v+1+1) (v+1+1) n A.length) (QM mv mo iv io (v+1+1) (A++y::B)) 3 []):=by rw[<-i];exact h
  exact Fg [(13,.w ⟨.pv (num (v+1)),none,false⟩),(17,.ok),(100007,.l GO (.exit 2) (st (EO (v+1+1) (v+1+1) n A.length) (QM mv mo iv io (v+1+1) (A++y::B)) 3 [])),(42,.w ⟨.eloc 2 (v+1+1) A.length 0,none,false⟩),(99999,.w ⟨.undef,some (2,.arr (v+1+1) 1 3 (vN (A++n::B))),false⟩)] ⟨[3,7],[0,1,2],3,[]⟩ (Yr (v:=v+1) (len:=v+1)) o p h f g (sD ((A++n::B).map ic))
end
end Go.Proofs.YtjobiknipefjdaaGreatDoor
namespace Go.Proofs.YtjobiknipefjdaaGreatDoor
open Go.Lg
set_option maxRecDepth 100000
section
variable{f bs:Nat}{c:Code}{s s':IS}{e:AE}
def Gg(a:Di)(b:Kp)(q:(e=e/\s'=s')=qZ ev Tryz.prog 6 100 (fnc f).ntmps bs c s a b e s':=by kernel_rfl):Rc bs f c s e s':=Reach.of_go evOK (q▸(⟨rfl,rfl⟩:e=e/\s'=s'))
end
def Ig:∀{L S:List Nat},VC L->VC S->(∀x,x∈L↔x∈S)->L=S
 |[],[],_,_,_=>rfl|[],y::S,_,_,h=>absurd ((h y).2 (List.mem_cons_self ..)) (by simp)|x::L,[],_,_,h=>absurd ((h x).1 (List.mem_cons_self ..)) (by simp)|x::L,y::S,d,f,h=>by
  obtain⟨b,g⟩:=List.pairwise_cons.1 d;obtain⟨c,i⟩:=List.pairwise_cons.1 f;have e:x=y:=by
   rcases List.mem_cons.1 ((h x).1 (List.mem_cons_self ..))with e|j
   ·exact e
   rcases List.mem_cons.1 ((h y).2 (List.mem_cons_self ..))with e|hy
   ·exact e.symm
   have:=b y hy;have:=c x j;omega
  subst e;rw[Ig g i λz=>⟨λa=>(List.mem_cons.1 ((h z).1 (List.mem_cons_of_mem _ a))).resolve_left (λe=>by have:=b z a;omega),λa=>(List.mem_cons.1 ((h z).2 (List.mem_cons_of_mem _ a))).resolve_left (λe=>by have:=c z a;omega)⟩]
def wZ:∀{S L:List Nat},VC L->VC S->(∀x∈L,x∈S)->L.length<=S.length
 |S,[],_,_,_=>Nat.zero_le _|[],x::L,_,_,h=>absurd (h x (List.mem_cons_self ..)) (by simp)|y::S,x::L,b,d,h=>by
  obtain⟨f,g⟩:=List.pairwise_cons.1 b;obtain⟨i,c⟩:=List.pairwise_cons.1 d;by_cases e:x=y
  ·exact Nat.succ_le_succ (wZ g c λz a=>(List.mem_cons.1 (h z (List.mem_cons_of_mem _ a))).resolve_left (λe=>by have:=f z a;omega))
  have:x∈S:=(List.mem_cons.1 (h x (List.mem_cons_self ..))).resolve_left e;have:=wZ (S:=S) b c λz a=>(List.mem_cons.1 (h z a)).resolve_left (λe=>by
   grind)
  grind
def ws{A B:List Nat}{n:Nat}(h:VC (A++B))(g:n∉A++B)(i:∀x∈B,n<x)(j:∀h:A≠[],A.getLast h<=n):VC (A++n::B):=by
 obtain⟨a,b,c⟩:=List.pairwise_append.1 h;have:∀x∈A,x<n:=by
  intro x f;have d:A≠[]:=λe=>by simp_all
  have:=j d;have:x<=A.getLast d:=by
   have e:=List.dropLast_concat_getLast d
   grind
  have:x≠n:=λe=>g (List.mem_append_left _ (e▸f))
  omega
 refine List.pairwise_append.2 ⟨a,List.pairwise_cons.2 ⟨i,b⟩,λx f y hy=>?_⟩
 grind
abbrev km(b:Nat):Value:=.map (some b)
abbrev uJ(rb:Nat):Value:=.pointer (some ⟨rb,0,none⟩)
abbrev oi(b ck:Nat)(seen:Array Nat):Obj:=.mapIter (some b) ck seen ck
section
variable{X:Env1}{b rb ck:Nat}{ms:Array MapEntry}{S:List Nat}
def ss{a d:Value}{c io:Obj}(v:Nat)(L:List Nat):
  Rc 1 259 (.seq zZ (.block 1 (.seq jZ vZ))) ⟨((hs a d c io v L).sl.put 8 (some .undef)).put 9 (some (.pv (.bool false))),(hs a d c io v L).ob,(hs a d c io v L).nx,(hs a d c io v L).dt⟩ (.exit 0) (SM a c v L):=by
 cases v with|zero=>exact Gg [] ⟨[3],[0],3,[]⟩|succ v=>exact RM [] ⟨[3],[0,2],3,[]⟩ (sD (L.map ic))
def As{c a:Value}{d io e:Obj}(v:Nat)(L:List Nat):
  Rc 1 259 zZ ⟨((hs c a d io v L).sl.put 8 (some .undef)).put 9 (some (.pv (.bool true))),(hs c a d io v L).ob.put 1 (some (.raw a e)),(hs c a d io v L).nx,(hs c a d io v L).dt⟩ .normal (hs c a d e v L):=by
 cases v with|zero=>exact Gg [] ⟨[3,7],[0,1],2,[]⟩|succ v=>exact RM [] ⟨[3,7],[0,1,2],3,[]⟩ (sD (L.map ic))
def Bs(a:HX X ev Tryz.prog (fnc 259).ntmps 1){c d:Value}{e io:Obj}(v:Nat)(L:List Nat)(n:Nat){σ:St}(h:Rel (hs c d e io v L) σ):
  ∃τ,DM X ⟨(4,.pv (num n))::(11,.pv (num n))::(10,.undef)::σ.slots,σ.objs,σ.used⟩ τ/\Rel (qs c d e io n v L) τ:=by
 have f:=((h.slotT 10 .undef).slotT 11 (.pv (num n))).slotT 4 (.pv (num n))
 cases v with|zero=>exact f.keep a ⟨[3,4,7],[0,1],2,[]⟩ (by kernel_rfl) True.intro (by kernel_rfl)|succ v=>exact f.keep a ⟨[3,4,7],[0,1,2],3,[]⟩ (by kernel_rfl) ⟨sD (L.map ic),True.intro⟩ (by kernel_rfl)
def Jg{a c:Value}{d io:Obj}(v:Nat)(L:List Nat){σ:St}(h:Rel (hs a c d io v L) σ):IA σ.slots 7=.loc 1 0/\zA σ.objs 0=some (.raw a d)/\zA σ.objs 1=some (.raw c io):=by
 have e:=h.sl 7;have f:=h.ob 0;have g:=h.ob 1;cases v<;>exact⟨e,f,g⟩
structure kZ(ms:Array MapEntry)(seen:Array Nat)(L:List Nat):Prop where
 asc:VC L
 mem:∀x:Nat,x∈L↔∃e∈ms.toList,e.key=.int .i64 (.ofNat x)/\seen.contains e.born=true
structure KO(ms:Array MapEntry)(ck:Nat)(S:List Nat):Prop where
 hold:∀x∈ms.toList,x.born<ck
 nd:(ms.toList.map (·.born)).Nodup
 kn:∀e∈ms.toList,∃z:Nat,e.key=.int .i64 (.ofNat z)
 inj:∀e∈ms.toList,∀e'∈ms.toList,e.key=e'.key->e=e'
 asc:VC S
 mem:∀x:Nat,x∈S↔∃e∈ms.toList,e.key=.int .i64 (.ofNat x)
 len:S.length<=8589934592
def Cs:∀{l:List MapEntry},(l.map (·.born)).Nodup->∀{e a:MapEntry},e∈l->a∈l->e.born=a.born->e=a
 :=by intro x;induction x<;>grind[absurd]
def Kg(t:HX X ev Tryz.prog (fnc 259).ntmps 1)(j:KO ms ck S)(seen:Array Nat)(v:Nat)(L:List Nat)(σ:St)(m:kZ ms seen L)(M:L.length=v)(D:Rel (hs (km b) (uJ rb) (.map ms ck) (oi b ck seen) v L) σ)(Q:EB->St->Prop)
  (O:∀σ',EM (.exit 0) (SM (km b) (.map ms ck) S.length S) (.exit 0) σ'->Q (.exit 0) σ')
  (P:∀a E σ',(leftOf ms a).size<(leftOf ms seen).size->kZ ms a E->E.length=v+1->Rel (hs (km b) (uJ rb) (.map ms ck) (oi b ck a) (v+1) E) σ'->Q .normal σ'):AWP X EK σ Q:=by
 have d:X.nt=44:=by rw[t.nt];exact Cg
 have l:∀x∈L,x∈S:=λx o=>by
  obtain⟨e,p,f,_⟩:=(m.mem x).1 o;exact(j.mem x).2 ⟨e,p,f⟩
 obtain⟨F,G,H⟩:=Jg v L D;rw[Sr];refine AWP.seq ?_;obtain⟨i,t1,t2,p1,p2,f1,f2,u⟩:=Ur;rw[u];refine AWP.next (n:=0) (r:=1) (by decide) F G H j.hold (Nat.le_refl _) (by rw[d];decide) (by rw[d];decide) ?_ ?_
 ·intro R;have e:L=S:=Ig m.asc j.asc λx=>⟨λo=>l x o,λo=>by
   obtain⟨e,p,f⟩:=(j.mem x).1 o;exact(m.mem x).2 ⟨e,p,f,all_seen ms seen R e p⟩⟩
  have r:=(D.slotT 8 .undef).slotT 9 (.pv (.bool false));refine AWP.mono ((ss v L).awp X t _ r) ?_
  rintro N σ' ⟨rfl,h⟩
  rw[M.symm,e]at h;exact O σ' ⟨rfl,h⟩
 intro e p;obtain⟨g,w⟩:=mem_left p;obtain⟨n,z⟩:=j.kn e g;have r:=((D.slotT 8 .undef).slotT 9 (.pv (.bool true))).objT 1 (.raw (uJ rb) (oi b ck (seen.push e.born)));refine AWP.seq (AWP.mono ((As v L).awp X t _ r) ?_)
 rintro N σ' ⟨rfl,y⟩
 refine AWP.block (AWP.seq ?_);obtain⟨F,G,H⟩:=Jg v L y;obtain⟨i,t1,t2,t3,p1,p2,p3,f1,f2,f3,u⟩:=Vr;rw[u];refine AWP.entry F G H g j.nd z (by rw[d];decide) (by rw[d];decide) (by rw[d];decide) ?_;obtain⟨τ,T,I⟩:=Bs t v L n y;have J:n∉L:=λu=>by
  obtain⟨s,c,f,k⟩:=(m.mem n).1 u;rw[j.inj e g s c (z.trans f.symm),k]at w;cases w
 have U:=wZ m.asc j.asc l;have V:=j.len;obtain⟨A,B,C,k,W,Y⟩:=js (mv:=km b) (iv:=uJ rb) (mo:=.map ms ck) (io:=oi b ck (seen.push e.born)) n v L M (by grind) (by simp only[maxLen];omega);refine AWP.wkX T (AWP.mono (Y.awp X t τ I) ?_)
 rintro N σ3 ⟨rfl,K⟩
 refine P (seen.push e.born) (A++n::B) σ3 (left_shrinks ms seen e p) ⟨ws (C▸m.asc) (C▸J) k W,λx=>?_⟩ (by have:=congrArg List.length C;simp at this⊢;omega) K;have o:x∈A++n::B↔x=n\/x∈L:=by rw[<-C];simp;constructor<;>(rintro(h|h|h)<;>simp[h])
 rw[o,m.mem];constructor
 ·rintro(rfl|⟨s,c,f,k⟩)
  ·exact⟨e,g,z,by simp⟩
  exact⟨s,c,f,by simp at k⊢;exact .inl k⟩
 rintro⟨s,c,f,k⟩
 by_cases hq:seen.contains s.born=true
 ·exact .inr ⟨s,c,f,hq⟩
 have Z:s.born=e.born:=by simp at k hq;exact k.resolve_left hq
 have:=Cs j.nd c g Z;subst this;rw[z]at f;simp at f;omega
def Mg(c:HX X ev Tryz.prog (fnc 259).ntmps 1)(d:KO ms ck S):∀(k:Nat)(seen:Array Nat)(v:Nat)(L:List Nat)(σ:St),(leftOf ms seen).size<=k->kZ ms seen L->L.length=v->
   Rel (hs (km b) (uJ rb) (.map ms ck) (oi b ck seen) v L) σ->UH X EK (EM (.exit 0) (SM (km b) (.map ms ck) S.length S)) (k+1) σ
 |0,seen,v,L,σ,g,a,e,f=>TS (Kg c d seen v L σ a e f _ (λ_ h=>h) (λ_ _ _ h=>by omega))|k+1,seen,v,L,σ,g,a,e,f=>TS (Kg c d seen v L σ a e f _ (λ_ h=>h) (λa i σ' h e f g=>Mg c d k a (v+1) i σ' (by omega) e f g))
end
end Go.Proofs.YtjobiknipefjdaaGreatDoor
namespace Go.Lg
def Ds{ev:MA}{P:Program}{f m nx:Nat}{args:List V}{objs:List (Nat×Ob)}{n:List Nat}{y:V}{ro o1:List (Nat×Ob)}(d:UF (jC objs)=true)(c:xK (jC objs) n=true)
  (g:Called P ev.gl ⟨.nil,HB objs .nil,m,[]⟩ f args ⟨y,[],[],nx⟩ n ro o1):AC P ev.gl f args objs (.ret y) objs:=by
 have d:=iO d;rw[WF]at d;have c:=GM c;rw[WF]at c;have i:∀k,(HB objs .nil).get k=zA objs k:=λk=>by
  rw[xO objs _ d];cases zA objs k<;>rfl
 have h:o1=[]:=by
  cases o1 with|nil=>rfl|cons p r=>have:=g.inch p.1 (keysO_mem.2 ⟨p.2,List.mem_cons_self ..⟩);cases this
 subst h;have a:∀p∈ro,zA objs p.1=some p.2:=λp s=>by rw[<-i];exact g.subs p (by simp_all)
 have b:∀k,zA ro k=zA objs k:=by
  intro k
  cases e:zA ro k with
  |some o=>exact(a (k,o) (vJ e)).symm|none=>
   cases t:zA objs k with
   |none=>rfl|some o=>
    have h:=g.all k (c k (getO_iff.2 (by rw[t];rfl)));rw[List.append_nil,getO_iff,e]at h;cases h
 have j:AC P ev.gl f args ro (.ret y) ro:=by simpa using g.ac
 refine AC.cong j b b λk c=>?_
 obtain⟨p,s,l⟩:=mem_mentO.1 c;exact mem_mentO.2 ⟨p,vJ (a p s),l⟩
end Go.Lg
namespace Go.Proofs.YtjobiknipefjdaaGreatDoor
open Go.Lg
set_option maxRecDepth 100000
def se(U:List Nat):List (SK×V):=U.map λn=>(.int (.ofNat n),.pv (.bool true))
def vD:∀U:List Nat,DC (se U)=[]|[]=>rfl|n::U=>by show([]:List Nat)++DC (se U)=[];rw[vD U];rfl
def Ng{E b:Env}:∀{U:List Nat}{a:List MapEntry},EntsS E false (se U) a->EntsS b false (se U) a|[],[],_=>True.intro|n::U,e::a,h=>⟨⟨h.1.1,h.1.2.1,h.1.2.2.1,h.1.2.2.2⟩,Ng h.2⟩|[],_::_,h=>h.elim|_::_,[],h=>h.elim
def Og{E:Env}:∀{U:List Nat}{a:List MapEntry},EntsS E false (se U) a->a.map (·.key)=U.map λn=>.int .i64 (.ofNat n)
 |[],[],_=>rfl|n::U,e::a,h=>by
  show e.key::a.map (·.key)=_::U.map _;rw[Og h.2,h.1.1];rfl
 |[],_::_,h=>h.elim|_::_,[],h=>h.elim
def Es:∀{l:List MapEntry},(l.map (·.key)).Nodup->∀{e a:MapEntry},e∈l->a∈l->e.key=a.key->e=a
 :=by intro x;induction x<;>grind[absurd]
def Fs{U:List Nat}(h:U.Nodup):(U.map λn=>Value.int .i64 (.ofNat n)).Nodup:=by
 grind
structure LO(U S:List Nat):Prop where
 nd:U.Nodup
 asc:VC S
 mem:∀x:Nat,x∈S↔x∈U
 len:S.length<=8589934592
def Gs{E:Env}{U S:List Nat}{b:Array MapEntry}{ck:Nat}(h:LO U S)(c:EntsS E false (se U) b.toList)(hs:StampOK b.toList ck):KO b ck S:=by
 have g:=Og c;have a:∀v,(∃e∈b.toList,e.key=v)↔∃n∈U,Value.int .i64 (.ofNat n)=v:=λv=>by
  have:v∈b.toList.map (·.key)↔v∈U.map λn=>Value.int .i64 (.ofNat n):=by rw[g]
  grind
 refine⟨hs.1,hs.2,λe c=>?_,λe c i d f=>Es (g▸Fs h.nd) c d f,h.asc,λx=>?_,h.len⟩
 ·obtain⟨n,_,j⟩:=(a e.key).1 ⟨e,c,rfl⟩
  grind
 rw[h.mem,a]
 grind
section
variable{b rb ck:Nat}{ms:Array MapEntry}{S:List Nat}
def Hs(f:KO ms ck S):Lp 259 0 1 (hs (km b) (uJ rb) (.map ms ck) (oi b ck #[]) 0 []) (.exit 0) (SM (km b) (.map ms ck) S.length S):=by
 refine⟨λsub c=>?_,(leftOf ms #[]).size+1,λX g σ i=>Mg g f _ #[] 0 [] σ (Nat.le_refl _) ⟨List.Pairwise.nil,λx=>⟨λh=>(by cases h),λ⟨e,_,_,h⟩=>(by simp at h)⟩⟩ rfl i⟩;have d:∀n,n<1->n=0:=λn h=>by omega
 have j:∀v,(SM (km b) (.map ms ck) v S).ob.get 0=some (.raw (km b) (.map ms ck)):=λv=>by cases v<;>rfl
 have k:∀v,(SM (km b) (.map ms ck) v S).dt=[]/\(SM (km b) (.map ms ck) v S).nx=3:=λv=>by cases v<;>exact⟨rfl,rfl⟩
 refine⟨by rw[(k _).2];omega,λn a _=>?_,λn a _=>?_,c.names,λn a=>?_⟩
 ·rw[d n a,j];exact c.same 0 (by omega) (by simp[hs])
 ·rw[d n a];exact c.old 0 (by omega) rfl
 simp_all
def GK(o:Ob):List Nat->IS|[]=>st [(3,.pv .nils)] [(0,o)] 3 []|x::S=>st [(3,.pv (JA (x::S)))] [(0,o)] 3 []
def Js(c:KO ms ck S):Lp 259 0 1 (hs (km b) (uJ rb) (.map ms ck) (oi b ck #[]) 0 []) (.exit 0) (GK (.raw (km b) (.map ms ck)) S):=by
 have h:=Hs (b:=b) (rb:=rb) c
 cases S with
 |nil=>exact h|cons x S=>
  have a:=LoopIs.fz (by simp) (show Lp 259 0 1 _ (.exit 0) (st [(3,.arr 2 (S.length+1) (S.length+1))] [(0,.raw (km b) (.map ms ck)),(2,.arr (S.length+1) 1 3 (kA ((x::S).map ic)))] 3 [])from h) 2 (ver:=S.length+1) (sz:=1) (ty:=3) (ps:=(x::S).map ic) rfl (by kernel_rfl);have e:((x::S).map ic).take (S.length+1)=(x::S).map ic:=List.take_of_length_le (by simp);simp (decide:=true) only[XF,OE,RC,UD,yE,and_self,↓reduceIte,e]at a;exact a
abbrev KA(U:List Nat):Ob:=.smap false (se U)
abbrev yZ(U:List Nat):IS:=st [(0,.map 0),(3,.pv .nils)] [(0,KA U)] 1 []
def Ks:Tryz.prog.underlying 266=some (.map 3 4):=by kernel_rfl
noncomputable abbrev Pg:Code:=.seq (cs1 (cs1 (cs2 (cs2 HO)))) (.block 0 (.loop EK))
def Ls{X:Env1}(d:HX X ev Tryz.prog (fnc 259).ntmps 1)(i:KO ms ck S){U:List Nat}{σ:St}(e:Rel (yZ U) σ):
  AWP X Pg ⟨σ.slots,iB σ.objs 0 (.raw (km b) (.map ms ck)),σ.used⟩ (EM .normal (GK (.raw (km b) (.map ms ck)) S)):=by
 have a:X.nt=44:=by rw[d.nt];exact Cg
 have c:=e.objT 0 (.raw (km b) (.map ms ck));refine AWP.seq ?_;refine AWP.range (n:=0) (r:=1) (b:=b) (ck:=ck) (ms:=ms) (e.sl 0) (c.ob 0) (λh=>(by have:1<1:=e.us 1 h;omega)) (by rw[d.P];exact Ks) (by rw[a];decide) (by rw[a];decide) ?_;intro rb;have f:=((c.slotT 6 (.map 0)).slotT 7 (.loc 1 0)).newT (.raw (uJ rb) (oi b ck #[]));obtain⟨τ,j,g⟩:=f.keep d (s':=hs (km b) (uJ rb) (.map ms ck) (oi b ck #[]) 0 []) ⟨[3,7],[0,1],2,[]⟩ (by kernel_rfl) (cast (show True=TF _ _ True by kernel_rfl) True.intro) (by kernel_rfl);refine AWP.wkX j (AWP.block (AWP.mono ((Js i).reach.awp X d τ g) ?_))
 rintro k σ' ⟨rfl,h⟩
 exact⟨rfl,h⟩
def Ms{U:List Nat}(D:LO U S):Rc 1 259 Pg (yZ U) .normal (GK (KA U) S):=by
 refine⟨λsub s=>?_,λX F σ y C E a w G z=>?_⟩
 ·have A:∀n,n<1->n=0:=λn h=>by omega
  have H:(GK (KA U) S).ob.get 0=some (KA U):=by cases S<;>rfl
  have:(GK (KA U) S).dt=[]/\(GK (KA U) S).nx=3:=by cases S<;>exact⟨rfl,rfl⟩
  refine⟨by omega,λn r _=>?_,λn r _=>?_,s.names,λn r=>?_⟩
  ·rw[A n r,H];exact s.same 0 (by omega) (by simp)
  ·rw[A n r];exact s.old 0 (by omega) rfl
  simp_all
 have B:zA σ.objs 0=some (KA U):=y.ob 0;obtain⟨b,ms,ck,I,g,i,c,k⟩:=z.objs 0 _ B;have t:=z.swapO (o':=.raw (km b) (.map ms ck)) B ⟨I,b,rfl,g,i⟩ (by simp[Ob.names]);refine wp_mono (Ls F (Gs D c k) y C E a w G t) ?_
 rintro e L M ⟨J,σ',N,l,m,rfl,o⟩
 have p:zA σ'.objs 0=some (.raw (km b) (.map ms ck)):=by rw[o.ob 0];cases S<;>rfl
 obtain⟨u,O,v,d,f⟩:=l.objs 0 _ p;cases v;have x:=l.swapO (o':=KA U) p ⟨b,ms,ck,u,d,f,Ng c,k⟩ (by simp[Ob.names,vD]);refine⟨J,_,.normal,x,m,rfl,?_⟩;have j:=o.objT 0 (KA U);cases S<;>exact⟨j.sl,λn=>(j.ob n).trans (by simp only[GK,Tr.get_put];by_cases e:n=0<;>simp[e,HB,Tr.get_put];done),j.us⟩
end
end Go.Proofs.YtjobiknipefjdaaGreatDoor
namespace Go.Lg
end Go.Lg
namespace Go.Proofs.YtjobiknipefjdaaGreatDoor
open Go.Lg
set_option maxRecDepth 100000
def Qg(U:List Nat)(m:Nat)(a:Nat.blt 0 m=true):reach m (HB [(0,KA U)] .nil) 1000000 [0] .nil []=some (Tr.nil.put 0 (some (KA U)),[0]):=by
 have e:reach m (HB [(0,KA U)] .nil) 1000000 [0] .nil []=bif Nat.blt 0 m then reach m (HB [(0,KA U)] .nil) 999999 (DC (se U)++[]) (Tr.nil.put 0 (some (KA U))) [0]else none:=by kernel_rfl
 rw[e,a,vD];rfl
def zU:List Nat->PV|[]=>.nils|x::S=>JA (x::S)
def Ns:∀S:List Nat,PV.w 4 (zU S)=JA S|[]=>rfl|_::_=>rfl
section
variable{U S:List Nat}
def p33_0:Rc 1 259 (cs1 HO) ⟨VD 0 [.map 0] .nil,Tr.nil.put 0 (some (KA U)),1,[]⟩ .normal (st [(0,.map 0)] [(0,KA U)] 1 []):=RM [] ⟨[0],[0],1,[]⟩ (vD U)
def p33_1:Rc 1 259 (cs1 (cs2 HO)) (st [(0,.map 0)] [(0,KA U)] 1 []) .normal (yZ U):=RM [] ⟨[0,3],[0],1,[]⟩ (vD U)
def Qs:Rc 1 259 (cs2 (cs2 (cs2 HO))) (GK (KA U) S) .ret (st [(2,.pv (zU S))] [(0,KA U)] 3 []):=by
 cases S with|nil=>exact RM [] ⟨[2],[0],3,[]⟩ (vD U)|cons x S=>exact RM [] ⟨[2],[0],3,[]⟩ (vD U)
def Ss(a:LO U S):Rc 1 259 HO ⟨VD 0 [.map 0] .nil,Tr.nil.put 0 (some (KA U)),1,[]⟩ .ret (st [(2,.pv (zU S))] [(0,KA U)] 3 []):=by
 exact p33_0.seq (p33_1.seq ((Ms a).seq Qs))
def Rg(a:LO U S):O 259 [.map 0] [(0,KA U)] (.pv (JA S)) [(0,KA U)]:=by
 obtain⟨ro,o1,b⟩:=tT (s:=⟨.nil,HB [(0,KA U)] .nil,1,[]⟩) (HY (Ss a)) evOK (f:=259) (fn:=fnc 259) (c:=HO) (by kernel_rfl) (by kernel_rfl) (args:=[.map 0]) (by decide) (Qg U 1 rfl) (r:=⟨.pv (zU S),[],[],3⟩) (by
  unfold lO oO;simp only[and_self,if_true];cases S<;>kernel_rfl)
 have h:=Ds (objs:=[(0,KA U)]) (by kernel_rfl) (by kernel_rfl) b;rw[<-Ns S];exact AC.wO 4 h
end
end Go.Proofs.YtjobiknipefjdaaGreatDoor
namespace Go.Lg
def Ts{ev:MA}{P:Program}{f m nx:Nat}{args:List V}{objs d:List (Nat×Ob)}{s:List Nat}{y:V}{ro o1:List (Nat×Ob)}(j:UF (jC objs)=true)(g:xK (jC objs) s=true)(v:UF (jC d)=true)
  (h:Called P ev.gl ⟨.nil,HB objs .nil,m,[]⟩ f args ⟨y,d,[],nx⟩ s ro o1):AC P ev.gl f args objs (.ret y) (eO d objs):=by
 have j:=iO j;rw[WF]at j;have g:=GM g;rw[WF]at g;have l:∀k,(HB objs .nil).get k=zA objs k:=λk=>by
  rw[xO objs _ j];cases zA objs k<;>rfl
 have b:∀p∈ro++o1,zA objs p.1=some p.2:=λp n=>by rw[<-l];exact h.subs p n
 have c:∀k,zA (ro++o1) k=zA objs k:=by
  intro k
  cases e:zA (ro++o1) k with
  |some o=>exact(b (k,o) (vJ e)).symm|none=>
   cases i:zA objs k with
   |none=>rfl|some o=>
    have a:=h.all k (g k (getO_iff.2 (by rw[i];rfl)));rw[getO_iff,e]at a;cases a
 refine AC.cong h.ac c (λk=>?_) (λk g=>?_)
 ·rw[JY,<-c,List.append_nil,MT,MT]
  cases e:zA ro k with
  |some o=>
   have a:=(h.apart k (getO_iff.2 (by rw[e];rfl))).2;have:zA d k=none:=by
    cases i:zA d k with|none=>rfl|some o=>exact absurd (by simpa using getO_iff.2 (by rw[i];rfl)) a
   grind[LQ]
  |none=>
   cases i:zA o1 k with
   |some o=>
    have a:=h.inch k (getO_iff.2 (by rw[i];rfl));obtain⟨x,t⟩:=Option.isSome_iff_exists.1 (getO_iff.1 a)
    grind[LQ]
   |none=>
    cases u:zA d k with
    |none=>rfl|some o=>
     have a:=(h.chs k (getO_iff.2 (by rw[u];rfl))).2.2;rw[getO_iff,i]at a;cases a
 obtain⟨p,n,r⟩:=mem_mentO.1 g;exact mem_mentO.2 ⟨p,vJ (b p n),r⟩
end Go.Lg
namespace Go.Proofs.YtjobiknipefjdaaGreatDoor
open Go.Lg
set_option maxRecDepth 100000
def SC:List Nat->Nat->List Nat|[],n=>[n]|m::U,n=>if n=m then m::U else m::SC U n
theorem mem_ins1:∀{U:List Nat}{n x:Nat},x∈SC U n↔x=n\/x∈U
 :=by intro x;induction x<;>simp_all[SC,U,List.mem_cons]<;>grind
theorem uZ:∀{U:List Nat}{n:Nat},U.Nodup->(SC U n).Nodup
 |[],n,_=>by simp[SC]|m::U,n,h=>by
  obtain⟨a,b⟩:=List.nodup_cons.1 h;unfold SC;split
  ·exact h
  rename_i e;exact List.nodup_cons.2 ⟨λc=>(mem_ins1.1 c).elim (λh=>e h.symm) a,uZ b⟩
def Sg:∀(U:List Nat)(n:Nat),(SC U n).length<=U.length+1
 :=by intro x;induction x<;>simp_all[SC,U]<;>grind
def Tg:∀(U:List Nat)(n:Nat),SD (se U) (.int (.ofNat n)) (.pv (.bool true))=se (SC U n)
 |[],n=>rfl|m::U,n=>by
  show(bif SK.eqB (.int (.ofNat n)) (.int (.ofNat m))then _::se U else _::SD (se U) _ _)=_;unfold SC;by_cases e:n=m
  ·subst e;rw[(SK.eqB_iff _ _).2 rfl,if_pos rfl];rfl
  rw[if_neg e];have:SK.eqB (.int (.ofNat n)) (.int (.ofNat m))=false:=by
   cases h:SK.eqB (.int (.ofNat n)) (.int (.ofNat m))with|false=>rfl|true=>have:=(SK.eqB_iff _ _).1 h;grind
  rw[this,cond_false,Tg U n];rfl
def bZ(k:Nat)(U:List Nat)(n:Nat):some (⟨.undef,some (k,.smap false (SD (se U) (.int (.ofNat n)) (.pv (.bool true)))),false⟩:RB)=some ⟨.undef,some (k,KA (SC U n)),false⟩:=by rw[Tg]
def UA:Tm->Nat->List Nat->List Nat|.v i,c,U=>if c<=i then SC U (i-c)else U|.lam _ b,c,U=>UA b (c+1) U|.n0 _,_,U=>U|.n1 _ a,c,U=>UA a c U|.n2 _ a b,c,U=>UA b c (UA a c U)|.n3 _ _ a b d,c,U=>UA d c (UA b c (UA a c U))
noncomputable def Ug:Code:=match (fnc 371).body with|some c=>c|none=>.skip
abbrev Us(t:Tm)(c:Nat)(U:List Nat):IS:=⟨VD 0 [.pv t.p,.pv (num c),.map 0] .nil,Tr.nil.put 0 (some (KA U)),1,[]⟩
def TM{t:Tm}{c:Nat}{U a:List Nat}(h:Rc 1 371 Ug (Us t c U) .normal (st [] [(0,KA a)] 2 [0])):O 371 [.pv t.p,.pv (num c),.map 0] [(0,KA U)] (.pv (.tuple [])) [(0,KA a)]:=by
 obtain⟨ro,o1,b⟩:=tT (s:=⟨.nil,HB [(0,KA U)] .nil,1,[]⟩) (HY h) evOK (f:=371) (fn:=fnc 371) (c:=Ug) (by kernel_rfl) (by kernel_rfl) (args:=[.pv t.p,.pv (num c),.map 0]) (Nat.le_of_ble_eq_true (show Nat.ble 3 (fnc 371).ntmps=true by kernel_rfl)) (Qg U 1 rfl) (r:=⟨.pv (.tuple []),[(0,KA a)],[],2⟩) (by
  unfold lO oO;simp only[and_self,if_true]
  have e:gO ev.T 1 (Tr.nil.put 0 (some (KA U))) (fnc 371).results.toList .normal (st [] [(0,KA a)] 2 [0])=(match sK 1 2 (Tr.nil.put 0 (some (KA U))) (HB [(0,KA a)] .nil) 1000000 (DC (se a)++[]) .nil []with
   |some d=>some ⟨.pv (.tuple []),[(0,KA a)],d,2⟩|none=>none):=by kernel_rfl
  refine e.trans ?_;rw[vD];rfl)
 exact AC.wO 4 (Ts (objs:=[(0,KA U)]) (by kernel_rfl) (by kernel_rfl) (by kernel_rfl) b)
def MO{c:Nat}(h:c<=qA:=by omega):xA (Int.ofNat c+0)=true/\Int.ofNat c+0=.ofNat c:=⟨by grind[AA,vA],Int.add_zero _⟩
def Vs{c:Nat}(h:c+1<=qA:=by omega):xA (Int.ofNat c+1)=true/\Int.ofNat c+1=.ofNat (c+1):=⟨AA (n:=c+1) (by have:=vA;omega),rfl⟩
def Ws{i c:Nat}(h:c<=i)(a:i<=qA*qA):xA (Int.ofNat i-Int.ofNat c)=true/\Int.ofNat i-Int.ofNat c=.ofNat (i-c):=by
 have e:Int.ofNat i-Int.ofNat c=.ofNat (i-c):=by simp;omega
 exact⟨by rw[e];exact AA (by have:qA*qA=1125899906842624:=rfl;omega),e⟩
abbrev UM:Kp:=⟨[],[0],2,[0]⟩
def HK:∀(t:Tm)(c:Nat)(U:List Nat),c+t.cnt<=qA->t.mx<=qA*qA->O 371 [.pv t.p,.pv (num c),.map 0] [(0,KA U)] (.pv (.tuple [])) [(0,KA (UA t c U))]
 |.v i,c,U,f,e=>by
  unfold UA;by_cases h:c<=i
  ·rw[if_pos h];exact TM (Xr [(15,.G),(21,.z (i-c)),(99999,.w ⟨.undef,some (0,KA (SC U (i-c))),false⟩)] UM (show(!fA (.ofNat i) (.ofNat c))=true by rw[HA h];rfl) (Ws h e) (bZ 0 U (i-c)) (vD (SC U (i-c))))
  rw[if_neg h];exact TM (Wr [(15,.H)] UM (show(!fA (.ofNat i) (.ofNat c))=false by rw[NA (by omega)];rfl) (vD U))
 |.n0 k,c,U,f,e=>by cases k<;>exact TM (RM [] UM (vD U))
 |.lam s b,c,U,f,e=>by
  simp only[Tm.cnt]at f;have g:=HK b (c+1) U (by omega) e;exact TM (Dg [(33,.z (c+1)),(35,.d 0 (KA (UA b (c+1) U)) (.pv (.tuple [])))] UM (Vs (c:=c)) g (vD (UA b (c+1) U)))
 |.n1 k a,c,U,f,e=>by
  simp only[Tm.cnt]at f;have g:=HK a c U (by omega) e;cases k<;>exact TM (Dg [(33,.z c),(35,.d 0 (KA (UA a c U)) (.pv (.tuple [])))] UM (MO (c:=c)) g (vD (UA a c U)))
 |.n2 k a b,c,U,f,e=>by
  simp only[Tm.cnt]at f;simp only[Tm.mx]at e;have g:=HK a c U (by omega) (by omega);have j:=HK b c (UA a c U) (by omega) (by omega);cases k<;>exact TM (Eg [(33,.z c),(35,.d 0 (KA (UA a c U)) (.pv (.tuple []))),(33,.z c),(35,.d 0 (KA (UA b c (UA a c U))) (.pv (.tuple [])))] UM (MO (c:=c)) g (MO (c:=c)) j (vD (UA b c (UA a c U))))
 |.n3 k s a b d,c,U,f,e=>by
  simp only[Tm.cnt]at f;simp only[Tm.mx]at e;have g:=HK a c U (by omega) (by omega);have j:=HK b c (UA a c U) (by omega) (by omega);have l:=HK d c (UA b c (UA a c U)) (by omega) (by omega);cases k<;>exact TM (Fg [(33,.z c),(35,.d 0 (KA (UA a c U)) (.pv (.tuple []))),(33,.z c),(35,.d 0 (KA (UA b c (UA a c U))) (.pv (.tuple []))),(33,.z c),(35,.d 0 (KA (UA d c (UA b c (UA a c U)))) (.pv (.tuple [])))] UM (MO (c:=c)) g (MO (c:=c)) j (MO (c:=c)) l (vD (UA d c (UA b c (UA a c U)))))
end Go.Proofs.YtjobiknipefjdaaGreatDoor
namespace Go.Proofs.YtjobiknipefjdaaGreatDoor
open Go.Lg
set_option maxRecDepth 100000
def Vg(n:Nat):∀{S:List Nat},VC S->n∉S->∃d,VC d/\(∀x,x∈d↔x=n\/x∈S)/\d.length=S.length+1
 |[],_,_=>⟨[n],List.pairwise_singleton _ _,λx=>by simp,rfl⟩|y::S,h,e=>by
  obtain⟨a,b⟩:=List.pairwise_cons.1 h;by_cases c:n<y
  ·refine⟨n::y::S,List.pairwise_cons.2 ⟨λx f=>?_,h⟩,λx=>List.mem_cons,rfl⟩
   grind
  obtain⟨d,g,j,i⟩:=Vg n b (λh=>e (List.mem_cons_of_mem _ h));refine⟨y::d,List.pairwise_cons.2 ⟨λx f=>?_,g⟩,λx=>?_,by simp[i]⟩
  ·grind
  grind
def Wg:∀{U:List Nat},U.Nodup->∃S,VC S/\(∀x,x∈S↔x∈U)/\S.length=U.length
 |[],_=>⟨[],List.Pairwise.nil,λ_=>Iff.rfl,rfl⟩|n::U,h=>by
  obtain⟨d,e⟩:=List.nodup_cons.1 h;obtain⟨S,a,b,c⟩:=Wg e;obtain⟨f,g,i,j⟩:=Vg n a (λh=>d ((b n).1 h))
  grind
def Xg{U:List Nat}(h:U.Nodup)(d:U.length<=8589934592):∃S,LO U S/\S.length=U.length:=by
 obtain⟨S,a,b,c⟩:=Wg h;exact⟨S,⟨h,a,b,by omega⟩,c⟩
def IK:∀(t:Tm)(c:Nat)(U:List Nat)(x:Nat),x∈UA t c U↔x∈U\/t.occ (c+x)≠0
 |.v i,c,U,x=>by
  grind[UA,Tm.occ,mem_ins1]
 |.n0 k,c,U,x=>by simp[UA,Tm.occ]|.lam s b,c,U,x=>by simp only[UA,Tm.occ];rw[IK b,show c+1+x=c+x+1 by omega]|.n1 k a,c,U,x=>by exact IK a c U x|.n2 k a b,c,U,x=>by simp only[UA,Tm.occ];rw[IK b,IK a];constructor<;>(by_cases e:x∈U<;>simp_all<;>omega)|.n3 k s a b d,c,U,x=>by simp only[UA,Tm.occ];rw[IK d,IK b,IK a];constructor<;>(by_cases e:x∈U<;>simp_all<;>omega)
def JK:∀(t:Tm)(c:Nat){U:List Nat},U.Nodup->(UA t c U).Nodup
 |.v i,c,U,h=>by
  grind[UA,uZ]
 |.n0 k,c,U,h=>h|.lam s b,c,U,h=>JK b (c+1) h|.n1 k a,c,U,h=>JK a c h|.n2 k a b,c,U,h=>JK b c (JK a c h)|.n3 k s a b d,c,U,h=>JK d c (JK b c (JK a c h))
def KK:∀(t:Tm)(c:Nat)(U:List Nat),(UA t c U).length<=U.length+t.cnt
 |.v i,c,U=>by
  simp only[UA,Tm.cnt];split
  ·exact Sg U _
  omega
 |.n0 k,c,U=>by simp[UA]|.lam s b,c,U=>by have:=KK b (c+1) U;grind[UA,Tm.cnt]|.n1 k a,c,U=>by have:=KK a c U;grind[UA,Tm.cnt]|.n2 k a b,c,U=>by have:=KK a c U;have:=KK b c (UA a c U);grind[UA,Tm.cnt]|.n3 k s a b d,c,U=>by have:=KK a c U;have:=KK b c (UA a c U);have:=KK d c (UA b c (UA a c U));grind[UA,Tm.cnt]
def LK:∀(t:Tm)(v:Nat),t.occ v≠0->v<=t.mx
 |.v i,v,h=>by grind[Tm.occ,Tm.mx]|.n0 k,v,h=>absurd rfl h|.lam s b,v,h=>by have:=LK b (v+1) h;grind[Tm.mx]|.n1 k a,v,h=>LK a v h|.n2 k a b,v,h=>by
  simp only[Tm.occ]at h;simp only[Tm.mx];by_cases c:a.occ v=0
  ·have:=LK b v (by omega);omega
  have:=LK a v c;omega
 |.n3 k s a b d,v,h=>by
  simp only[Tm.occ]at h;simp only[Tm.mx];by_cases c:a.occ v=0
  ·by_cases e:b.occ v=0
   ·have:=LK d v (by omega);omega
   have:=LK b v e;omega
  have:=LK a v c;omega
def MK:Nat->Nat|0=>1|1=>0|n=>n
def Yg:∀n,MK (MK n)=n|0=>rfl|1=>rfl|_+2=>rfl
def Zg(ρ:Nat->Nat):∀U:List Nat,ZI ρ (se U)=se U|[]=>rfl|n::U=>by show(_,_)::ZI ρ (se U)=_::se U;rw[Zg ρ U];rfl
def qh(U:List Nat):(KA U).ren MK=KA U:=by show Ob.smap false (ZI MK (se U))=_;rw[Zg]
def Xs(t:Tm)(a:t.cnt<=qA)(a:t.mx<=qA*qA):O 371 [.pv t.p,.pv (num 0),.map 1] [(1,.smap false [])] (.pv (.tuple [])) [(1,KA (UA t 0 []))]:=by
 have h:=AC.ren Yg (HK t 0 [] (by omega) a);have e:ME MK [(0,KA (UA t 0 []))]=[(1,KA (UA t 0 []))]:=by show [(1,(KA _).ren MK)]=_;rw[qh]
 rw[e]at h;exact h
def Ys{U S:List Nat}(h:LO U S):O 259 [.map 1] [(1,KA U)] (.pv (JA S)) [(1,KA U)]:=by
 have h:=AC.ren Yg (Rg h);have e:ME MK [(0,KA U)]=[(1,KA U)]:=by show [(1,(KA _).ren MK)]=_;rw[qh]
 rw[e]at h;exact h
def Zs(t:Tm)(b:t.cnt<=qA)(c:t.tsz<=yA)(d:t.mx<=qA*qA):∃u:List Nat,A 327 [t.p] (.tuple [JA u,num t.chk])/\(t.chk=0->∀v,v∈u↔t.occ v≠0)/\(t.chk≠0->u=[])/\u.length<=t.cnt/\VC u:=by
 have:=vA;have:=uA;have a:=jP t c
 cases e:t.chk with
 |succ k=>
  rw[e]at a;exact⟨[],f2 [7,9] a (TC (m:=k+1) (n:=0)),λh=>(by cases h),λ_=>rfl,Nat.zero_le _,.nil⟩
 |zero=>
  rw[e]at a;have:=KK t 0 [];obtain⟨S,h,j⟩:=Xg (JK t 0 (U:=[]) List.nodup_nil) (by grind);refine⟨S,f3 [7,14,(16,.o [1] [] (.pv (JA S)))] a (Xs t b d) (Ys h),λ_ v=>?_,λh=>absurd rfl h,by simp_all,h.asc⟩;rw[h.mem,IK,Nat.zero_add];simp
def RE(U:List Nat):List Nat->List Nat|[]=>U|x::r=>RE (SC U x) r
def zh:∀(r U:List Nat)(x:Nat),x∈RE U r↔x∈U\/x∈r
 :=by intro x;induction x<;>simp_all[U,RE,mem_ins1,List.mem_cons]<;>grind
def dZ:∀(r:List Nat){U:List Nat},U.Nodup->(RE U r).Nodup|[],_,h=>h|y::r,_,h=>dZ r (uZ h)
def fZ:∀(r U:List Nat),(RE U r).length<=U.length+r.length|[],U=>by simp[RE]|y::r,U=>by have:=fZ r (SC U y);have:=Sg U y;grind[RE,List.length_cons]
abbrev jt(a b:List Nat)(k:Nat):List (Nat×V):=[(1,.pv (JA b)),(5,.map 0),(11,.pv (JA a)),(12,.pv (num (a.map ic).length)),(13,.pv (num k))]
abbrev wt(b:List Nat)(k:Nat):List (Nat×V):=[(5,.map 0),(20,.pv (JA b)),(21,.pv (num (b.map ic).length)),(22,.pv (num k))]
def jh(a b:List Nat)(c:a.length<=qA):∀(r:List Nat)(k:Nat)(U:List Nat),a.drop k=r->
  Lp 205 0 0 (st (jt a b k) [(0,KA U)] 1 []) (.exit 0) (st [(1,.pv (JA b)),(5,.map 0)] [(0,KA (RE U r))] 1 [])
 |[],k,U,h=>by
  have e:fA (.ofNat k) (.ofNat (a.map ic).length)=false:=HA (by simp_all);exact y1 [14] ⟨[1,5],[0],1,[]⟩ e (vD U)
 |x::r,k,U,h=>by
  have:=vA;obtain⟨d,l,f⟩:=tH h;have e:fA (.ofNat k) (.ofNat (a.map ic).length)=true:=NA (by simp_all);have g:=AA (show k+1<=_ by omega);have i:=jh a b c r (k+1) (SC U x) f;exact n6 [14,(15,.i (ic x)),(99999,.w ⟨.undef,some (0,KA (SC U x)),false⟩),(19,.ok)] ⟨[1,5,11,12,13],[0],1,[]⟩ e (kB d YK) (bZ 0 U x) g (vD (SC U x)) i
def vh(b:List Nat)(a:b.length<=qA):∀(r:List Nat)(k:Nat)(U:List Nat),b.drop k=r->
  Lp 205 1 0 (st (wt b k) [(0,KA U)] 1 []) (.exit 2) (st [(5,.map 0)] [(0,KA (RE U r))] 1 [])
 |[],k,U,h=>by
  have e:fA (.ofNat k) (.ofNat (b.map ic).length)=false:=HA (by simp_all);exact y1 [23] ⟨[5],[0],1,[]⟩ e (vD U)
 |x::r,k,U,h=>by
  have:=vA;obtain⟨c,j,d⟩:=tH h;have e:fA (.ofNat k) (.ofNat (b.map ic).length)=true:=NA (by simp_all);have f:=AA (show k+1<=_ by omega);have g:=vh b a r (k+1) (SC U x) d;exact n6 [23,(24,.i (ic x)),(99999,.w ⟨.undef,some (0,KA (SC U x)),false⟩),(28,.ok)] ⟨[5,20,21,22],[0],1,[]⟩ e (kB c YK) (bZ 0 U x) f (vD (SC U x)) g
def yt(a b:List Nat)(c:a.length<=qA:=by omega)(d:b.length<=qA:=by omega):∃u:List Nat,A 205 [JA a,JA b] (JA u)/\(∀v,v∈u↔v∈a\/v∈b)/\u.length<=a.length+b.length/\VC u:=by
 have:=fZ a [];have:=fZ b (RE [] a);obtain⟨S,h,i⟩:=Xg (dZ b (dZ a (U:=[]) List.nodup_nil)) (by grind);have l1:=jh a b c a 0 [] rfl;have e:=vh b d b 0 (RE [] a) rfl;refine⟨S,fk [(100003,.l ⟨[1,5,11,12,13],[0],1,[]⟩ (.exit 0) (st [(1,.pv (JA b)),(5,.map 0)] [(0,KA (RE [] a))] 1 [])),(100008,.l ⟨[5,20,21,22],[0],1,[]⟩ (.exit 2) (st [(5,.map 0)] [(0,KA (RE (RE [] a) b))] 1 [])),(30,.o [0] [] (.pv (JA S)))] (And.intro (vD []) (And.intro l1 (And.intro (vD (RE [] a)) (And.intro e (And.intro (Rg h) (rfl:JA S=JA S)))))),λv=>?_,by grind,h.asc⟩;rw[h.mem,zh,zh];simp
def wh:MF where
 uses t h1 h2 h3:=by
  have hm:=vA;obtain⟨u,g1,g2,g3,g4,g5⟩:=Zs t h1 (by have:=uA;omega) h3;refine⟨u,t.chk,g1,λh=>⟨h,λv hv=>(g2 h v).2 hv⟩,λx hx=>?_,g4,g5⟩;by_cases e:t.chk=0
  ·exact LK t x ((g2 e x).1 hx)
  simp_all
 union a b h1 h2 h3:=by
  obtain⟨u,g1,g2,g3,g4⟩:=yt a b;exact⟨u,g1,λv hv=>(g2 v).2 hv,λv hv=>(g2 v).1 hv,g3,g4⟩
end Go.Proofs.YtjobiknipefjdaaGreatDoor
namespace Go.Proofs.YtjobiknipefjdaaGreatDoor
open Go.Lg
set_option maxRecDepth 100000
def ot(j:Jt)(tl:List Tm)(s:Sc)(σ:Nat->Tm):rz j.f σ (j.xt tl s)=rz j.f σ (j.tx tl s):=by
 unfold Jt.tx;cases e:j.f.has
 ·exact IH _ _ _ _ e
 rfl
section
variable{g:List Ty}(hg:g.length<=16)(hgs:∀s∈g,s.size<=64){j:Jt}(hD:j.D [] g [])(hO:j.OK [] g.length [])
include hg hgs hD hO
theorem At(H:MF){X:Pf}(k:(j.pv [] (yB g.length 0)).p=X)(b:X.ck)(l:X.cnt<=16384):
  ∃r:PR,A 26 [dA [],qB g [],X.p] r.p/\(∀n,r=.er n->Lm (n+1))/\∀f u,r=.ok f u->FCv f (j.gl g.length)/\∃a:Jt,a.p=X/\a.f=f/\a.D [] g []:=by
 subst k;have:=vA;have:=uA;obtain⟨w1,w2⟩:=AD V4 j g [] g [] (yB g.length 0) (Wb g) hD hO;have w:=kF w1 b;have:=uH _ _ _ _ w;have:=yH _ b;have:mB=1125899902742528:=rfl;have:rA=8388608:=rfl;obtain⟨r,o,p,t⟩:=Qb H (X:=1000000) (ls:=[]) (g:=g) (hs:=[]) (p:=(j.pv [] (yB g.length 0)).p) ⟨nofun,nofun,λs hs=>by have:=hgs s hs;omega,by omega,by simp,by simp,by omega,by omega,by omega,by omega⟩;refine⟨r,o,λn e=>t n e ⟨nofun,nofun⟩ b l _ w,λf u e=>?_⟩;obtain⟨_,_,_,_,_,⟨a,c,d,h,_⟩,_⟩:=p f u e;refine⟨?_,a,c,d,h⟩;have i:=w;rw[<-c]at i;rw[<-d];refine(PB.un h i).trans (w2.trans ?_);rw[ot];exact .refl _
theorem yh:(j.gl g.length).hq g:=by
 have a:=GF (ls:=[]) nofun j g [] nofun hD;refine OC _ g g _ _ (JH _ _ a) (Wb g).T.v λe=>?_
 rw[show j.tx [] (yB g.length 0)=j.xt [] (yB g.length 0) by unfold Jt.tx;rw[e];rfl];exact rC (ls:=[]) (tl:=[]) (λi f h=>by simp at h) j g g.length [] g (yB g.length 0) rfl hD hO (MV g.length 0) (Wb g).T e
theorem Bt(a:FK g.length (j.gl g.length)):∃e,A 36 [OA g,(j.gl g.length).p] (num e)/\(e=0\/Lm e):=by
 have:=vA;have:=ZE _ a.shp;have:=a.cnt;obtain⟨e,b,_,q⟩:=qR g (j.gl g.length) (λs hs=>by have:=hgs s hs;omega);exact⟨e,b,q a.chk (yh hg hgs hD hO)⟩
theorem Ct{f:Fm}(c:FK g.length (j.gl g.length)){b:Jt}(e:b.f=f)(a:b.D [] g [])(h:FCv f (j.gl g.length)):∃e,A 37 [f.p,(j.gl g.length).p] (num e)/\(e=0\/Lm e):=by
 subst e;have:=vA;have:=uA;have:mB=1125899902742528:=rfl;have d:=BH a;obtain⟨o,k⟩:=Fm.chk0 d;have:=ZE _ k;have:=OI (JH _ _ (GF (ls:=[]) nofun b g [] nofun a));have:=ZE _ c.shp;have:=c.cnt;have:=OI (yh hg hgs hD hO);obtain⟨e,l,_,q⟩:=FU b.f (j.gl g.length);exact⟨e,l,q h ⟨d,by omega⟩ ⟨c.chk,by omega⟩⟩
end
def Dt{g:List Ty}(b:g.length<=16)(a:∀s∈g,s.size<=64){j:Jt}(c:j.D [] g [])(d:j.OK [] g.length [])(H:MF){X:Pf}(o:(j.pv [] (yB g.length 0)).p=X)(p:X.ck)(t:X.cnt<=16384)(l:FK g.length (j.gl g.length)):
  ∃e,A 11 [dA [],qB g [],X.p,(j.gl g.length).p] (num e)/\(e=0\/Lm e):=by
 obtain⟨r,h,v,w⟩:=At b a c d H o p t
 cases r with
 |er n=>exact⟨n+1,f1 [16] h,.inr (v n rfl)⟩|ok f u=>
  obtain⟨x,C,_,y,i⟩:=w f u rfl;obtain⟨e,m,z⟩:=Bt b a c d l
  cases e with
  |succ e=>exact⟨e+1,f2 [16,25] h m,.inr (z.resolve_left (Nat.succ_ne_zero _))⟩|zero=>
   obtain⟨e,B,k⟩:=Ct b a c d l y i x;exact⟨e,f3 [16,25,32] h m B,k⟩
open Go.Lg
def YA(s:Tm):Fm:=.q .ex .nat (.eq (.v 0) (s.sh 0 (.ofNat 1)))
def VM(s t:Tm)(p:Pf):Pf:=.ex false (YA s) t p
def WM(g:Tm):Pf:=.all false .nat (VM (.n2 .app g (.v 0)) (.n2 .app g (.v 0)) (.refl (.n2 .app g (.v 0))))
def sSuc:Tm:=.lam .nat (.n1 .succ (.v 0))
def Et:∃j:Jt,j.p=WM sSuc/\j.D [] [] []:=by
 refine⟨.all false .nat (.ex false (YA (.n2 .app sSuc (.v 0))) (.n2 .app sSuc (.v 0)) (.refl (.n2 .app sSuc (.v 0)))),rfl,?_⟩;refine⟨by decide,by decide,⟨⟨by decide,?_⟩,by decide,⟨by decide,by decide,rfl⟩,.nat,.eq (.v 0) ((Tm.n2 .app sSuc (.v 0)).sh 0 (.ofNat 1)),.eq (.n2 .app sSuc (.v 0)) (.n2 .app sSuc (.v 0)),rfl,rfl,?_,?_⟩,nofun⟩
 ·exact⟨⟨by decide,rfl⟩,by decide,rfl⟩
 ·rfl
 exact⟨.inl rfl,.inl rfl⟩
abbrev gB(f a:Tm):Tm:=.n2 .app f a
abbrev lA(f a b:Tm):Tm:=.n2 .app (.n2 .app f a) b
abbrev vC(f a b c:Tm):Tm:=.n2 .app (.n2 .app (.n2 .app f a) b) c
def gZ(b g:Tm):Pf:=
 .all false .nat (.ind false (YA (.n3 .re .nat b g (.v 0))) (.v 0) (VM (.n3 .re .nat b g (.n0 .zero)) b (.refl b))
  (.p2 .exE (.leaf false 0) (VM (.n3 .re .nat b g (.n1 .succ (.v 1))) (lA g (.v 1) (.v 0)) (.subst (.eq ((lA g (.v 1) (.v 0)).sh 0 (.ofNat 1)) (lA g (.v 2) (.v 0))) (.leaf false 0) (.refl (lA g (.v 1) (.v 0)))))))
def hZ(b g:Tm):Pf:=
 .all false .list (.ind true (YA (.n3 .fo .nat b g (.v 0))) (.v 0) (VM (.n3 .fo .nat b g (.n0 .nil)) b (.refl b))
  (.p2 .exE (.leaf false 0) (VM (.n3 .fo .nat b g (.n2 .cons (.v 2) (.v 1))) (vC g (.v 2) (.v 1) (.v 0)) (.subst (.eq ((vC g (.v 2) (.v 1) (.v 0)).sh 0 (.ofNat 1)) (vC g (.v 3) (.v 2) (.v 0))) (.leaf false 0) (.refl (vC g (.v 2) (.v 1) (.v 0)))))))
def lZ(f:Tm)(p:Pf)(g:Tm)(q:Pf):Pf:=
 .all false .nat (.p2 .exE (.ins false (.v 0) p) (.p2 .exE (.ins false (.v 0) q) (VM (gB g (gB f (.v 2))) (.v 0) (.subst (.eq (.v 1) (gB g (.v 0))) (.leaf false 1) (.leaf false 0)))))
abbrev sF(t:Tm):Tm:=.n1 .fst t
abbrev gA(t:Tm):Tm:=.n1 .snd t
abbrev nn:Ty:=.two false .nat .nat
def aB(b c u n:Tm):Tm:=.n3 .re nn (.n2 .pair b c) (.lam .nat (.lam nn u)) n
def WD(s:Tm):Fm:=.q .ex nn (.bin .and (.eq (sF (.v 0)) (sF (s.sh 0 (.ofNat 1)))) (.eq (gA (.v 0)) (gA (s.sh 0 (.ofNat 1)))))
def NO(g:Tm):Tm:=.n2 .pair (gA (.v 0)) (lA g (sF (.v 0)) (gA (.v 0)))
def uh(g:Tm):Tm:=lA g (sF (.v 1)) (gA (.v 1))
def mZ(b c g:Tm):Pf:=
 .all false .nat (.p2 .exE
  (.ind false (WD (aB b c (NO g) (.v 0))) (.v 0)
   (.ex false (WD (aB b c (NO g) (.n0 .zero))) (.n2 .pair b c) (.p2 .andI (.refl b) (.refl c)))
   (.p2 .exE (.leaf false 0) (.ex false (WD (aB b c (NO g) (.n1 .succ (.v 1)))) (NO g) (.p2 .andI
    (.subst (.eq (gA (.v 1)) (.v 0)) (.p1 .andR (.leaf false 0)) (.refl (gA (.v 0))))
    (.subst (.eq (uh g) (lA g (sF (aB b c (NO g) (.v 2))) (.v 0))) (.p1 .andR (.leaf false 0))
     (.subst (.eq (uh g) (lA g (.v 0) (gA (.v 1)))) (.p1 .andL (.leaf false 0)) (.refl (lA g (sF (.v 0)) (gA (.v 0))))))))))
  (VM (sF (aB b c (NO g) (.v 1))) (sF (.v 0)) (.p1 .andL (.leaf false 0))))
structure Sml(C:Nat)(t:Tm):Prop where
 c:t.cnt<=C
 m:t.mx<=C
 z:t.tsz<=20
structure SmF(C:Nat)(f:Fm):Prop where
 c:f.cnt<=C
 m:f.mx<=C
 z:f.tsz<=20
 x:f.gx
structure SmP(C:Nat)(p:Pf):Prop where
 c:p.cnt<=C
 m:p.mx<=C
 z:p.tsz<=20
 x:p.gx
section
variable{A B C D E i:Nat}{a b c t:Tm}{f g:Fm}{p q:Pf}{s:Ty}
theorem Sml.v(h:i<=4):Sml 4 (.v i):=⟨by simp[Tm.cnt],by simpa[Tm.mx]using h,by simp[Tm.tsz]⟩
def Sml.n0(k:K0):Sml 1 (.n0 k):=⟨by simp[Tm.cnt],by simp[Tm.mx],by simp[Tm.tsz]⟩
def Sml.lam(hs:s.size<=20)(h:Sml A a):Sml (A+1) (.lam s a):=by
 obtain⟨x,y,z⟩:=h;exact⟨by simp only[Tm.cnt];omega,by simp only[Tm.mx];omega,by simp only[Tm.tsz];omega⟩
def Sml.n1(k:K1)(h:Sml A a):Sml (A+1) (.n1 k a):=by
 obtain⟨x,y,z⟩:=h;exact⟨by simp only[Tm.cnt];omega,by simp only[Tm.mx];omega,by simp only[Tm.tsz];omega⟩
def Sml.n2(k:K2)(h:Sml A a)(d:Sml B b):Sml (A+B+1) (.n2 k a b):=by
 obtain⟨x,y,z⟩:=h;obtain⟨e,j,l⟩:=d;exact⟨by simp only[Tm.cnt];omega,by simp only[Tm.mx];omega,by simp only[Tm.tsz];omega⟩
def Sml.n3(k:K3)(hs:s.size<=20)(h:Sml A a)(e:Sml B b)(d:Sml C c):Sml (A+B+C+1) (.n3 k s a b c):=by
 obtain⟨x,y,z⟩:=h;obtain⟨n,o,r⟩:=e;obtain⟨j,l,m⟩:=d;exact⟨by simp only[Tm.cnt];omega,by simp only[Tm.mx];omega,by simp only[Tm.tsz];omega⟩
theorem Sml.sh(h:Sml A t):Sml (A+1) (t.sh 0 (.ofNat 1)):=by
 have:(t.sh 0 (.ofNat 1)).mx<=t.mx+1:=eH (.ofNat 1) t 0;exact⟨by rw[ZD];have:=h.c;omega,by have:=h.m;omega,by rw[jN];exact h.z⟩
def Sml.mono(h:Sml A t)(k:A<=B):Sml B t:=⟨Nat.le_trans h.c k,Nat.le_trans h.m k,h.z⟩
def Sml.crs{u n:Tm}(d:Sml A b)(e:Sml B c)(h:Sml C u)(j:Sml D n):Sml (A+B+1+(C+1+1)+D+1) (aB b c u n):=
 .n3 .re (by decide) (.n2 .pair d e) (.lam (by decide) (.lam (by decide) h)) j
def SmF.all(hs:s.size<=20)(h:SmF A f):SmF (A+1) (.q .all s f):=by
 obtain⟨x,y,z,w⟩:=h;exact⟨by simp only[Fm.cnt];omega,by simp only[Fm.mx];omega,by simp only[Fm.tsz];omega,w,nofun⟩
def SmF.eq(h:Sml A a)(d:Sml B b):SmF (A+B+1) (.eq a b):=by
 obtain⟨x,y,z⟩:=h;obtain⟨e,j,k⟩:=d;exact⟨by simp only[Fm.cnt];omega,by simp only[Fm.mx];omega,by simp only[Fm.tsz];omega,trivial⟩
def SmF.is(h:Sml A a):SmF (A+7) (YA a):=by
 obtain⟨x,y,z⟩:=h.sh;refine⟨?_,?_,?_,trivial,λ_=>.inr (Nat.zero_le _)⟩<;>simp only[YA,Fm.cnt,Fm.mx,Fm.tsz,Tm.cnt,Tm.mx,Tm.tsz,Ty.size]<;>omega
def SmF.two(h:Sml A a):SmF (2*A+20) (WD a):=by
 obtain⟨x,y,z⟩:=h.sh;refine⟨?_,?_,?_,⟨trivial,trivial⟩,λ_=>.inr (Nat.zero_le _)⟩<;>simp only[WD,Fm.cnt,Fm.mx,Fm.tsz,Tm.cnt,Tm.mx,Tm.tsz,Ty.size]<;>omega
def SmP.leaf(u:Bool)(i:Nat):SmP 1 (.leaf u i):=⟨by simp[Pf.cnt],by simp[Pf.mx],by simp[Pf.tsz],trivial⟩
theorem SmP.refl(h:Sml A t):SmP (A+1) (.refl t):=by
 obtain⟨x,y,z⟩:=h;exact⟨by simp only[Pf.cnt];omega,by simp only[Pf.mx];omega,by simp only[Pf.tsz];omega,trivial⟩
def SmP.p1(k:P1)(h:SmP A p):SmP (A+1) (.p1 k p):=by
 obtain⟨x,y,z,w⟩:=h;exact⟨by simp only[Pf.cnt];omega,by simp only[Pf.mx];omega,by simp only[Pf.tsz];omega,w⟩
def SmP.p2(k:P2)(h:SmP A p)(d:SmP B q):SmP (A+B+1) (.p2 k p q):=by
 obtain⟨x,y,z,w⟩:=h;obtain⟨j,l,m,e⟩:=d;exact⟨by simp only[Pf.cnt];omega,by simp only[Pf.mx];omega,by simp only[Pf.tsz];omega,w,e⟩
def SmP.all(hs:s.size<=20)(h:SmP A p):SmP (A+1) (.all false s p):=by
 obtain⟨x,y,z,w⟩:=h;exact⟨by simp only[Pf.cnt];omega,by simp only[Pf.mx];omega,by simp only[Pf.tsz];omega,w⟩
def SmP.ins(k:Sml B t)(h:SmP A p):SmP (A+B+1) (.ins false t p):=by
 obtain⟨x,y,z,w⟩:=h;obtain⟨d,e,j⟩:=k;exact⟨by simp only[Pf.cnt];omega,by simp only[Pf.mx];omega,by simp only[Pf.tsz];omega,w⟩
def SmP.ex(l:SmF C f)(k:Sml B t)(h:SmP A p):SmP (A+B+C+1) (.ex false f t p):=by
 obtain⟨x,y,z,w⟩:=h;obtain⟨n,o,r⟩:=k;obtain⟨e,j,m,d⟩:=l;exact⟨by simp only[Pf.cnt];omega,by simp only[Pf.mx];omega,by simp only[Pf.tsz];omega,d,w⟩
def SmP.ind(l:Bool)(e:SmF C f)(k:Sml B t)(h:SmP A p)(j:SmP D q):SmP (A+B+C+D+1) (.ind l f t p q):=by
 obtain⟨x,y,z,w⟩:=h;obtain⟨r,u,v⟩:=k;obtain⟨m,n,o,d⟩:=e;obtain⟨x3,y3,F,w3⟩:=j;exact⟨by simp only[Pf.cnt];omega,by simp only[Pf.mx];omega,by simp only[Pf.tsz];omega,d,w,w3⟩
def SmP.subst(e:SmF C f)(h:SmP A p)(j:SmP D q):SmP (A+C+D+1) (.subst f p q):=by
 obtain⟨x,y,z,w⟩:=h;obtain⟨k,l,m,d⟩:=e;obtain⟨x3,y3,n,w3⟩:=j;exact⟨by simp only[Pf.cnt];omega,by simp only[Pf.mx];omega,by simp only[Pf.tsz];omega,d,w,w3⟩
def SmP.mono(h:SmP A p)(k:A<=B):SmP B p:=⟨Nat.le_trans h.c k,Nat.le_trans h.m k,h.z,h.x⟩
end
abbrev vS(i:Nat)(h:i<=4:=by decide):Sml 4 (.v i):=.v h
def OO{g:Tm}(h:Sml 1000 g):SmP 100000 (WM g):=by
 have t:=Sml.n2 .app h (vS 0);exact(SmP.all (s:=.nat) (by decide) (.ex (.is t) t (.refl t))).mono (by decide)
def bh{b g:Tm}(a:Sml 1000 b)(h:Sml 1000 g):SmP 100000 (gZ b g):=by
 have t:=Sml.n2 .app (.n2 .app h (vS 1)) (vS 0);have l {n:Tm} {N:Nat} (k:Sml N n):=Sml.n3 (s:=.nat) .re (by decide) a h k;exact(SmP.all (s:=.nat) (by decide) (.ind false (.is (l (vS 0))) (vS 0) (.ex (.is (l (.n0 .zero))) a (.refl a))
  (.p2 .exE (.leaf false 0) (.ex (.is (l (.n1 .succ (vS 1)))) t (.subst (.eq t.sh (.n2 .app (.n2 .app h (vS 2)) (vS 0))) (.leaf false 0) (.refl t)))))).mono (by decide)
def dh{b g:Tm}(a:Sml 1000 b)(h:Sml 1000 g):SmP 100000 (hZ b g):=by
 have t:=Sml.n2 .app (.n2 .app (.n2 .app h (vS 2)) (vS 1)) (vS 0);have l {n:Tm} {N:Nat} (k:Sml N n):=Sml.n3 (s:=.nat) .fo (by decide) a h k;exact(SmP.all (s:=.list) (by decide) (.ind true (.is (l (vS 0))) (vS 0) (.ex (.is (l (.n0 .nil))) a (.refl a))
  (.p2 .exE (.leaf false 0) (.ex (.is (l (.n2 .cons (vS 2) (vS 1)))) t (.subst (.eq t.sh (.n2 .app (.n2 .app (.n2 .app h (vS 3)) (vS 2)) (vS 0))) (.leaf false 0) (.refl t)))))).mono (by decide)
def fh{f g:Tm}{p q:Pf}(a:Sml 1000 f)(h:Sml 1000 g)(b:SmP 100000 p)(hq:SmP 100000 q):SmP 300000 (lZ f p g q):=by
 exact(SmP.all (s:=.nat) (by decide) (.p2 .exE (.ins (vS 0) b) (.p2 .exE (.ins (vS 0) hq) (.ex (.is (.n2 .app h (.n2 .app a (vS 2)))) (vS 0) (.subst (.eq (vS 1) (.n2 .app h (vS 0))) (.leaf false 1) (.leaf false 0)))))).mono (by decide)
def lh{b c g:Tm}(d:Sml 1000 b)(e:Sml 1000 c)(h:Sml 1000 g):SmP 200000 (mZ b c g):=by
 have F {i:Nat} (f:i<=4):=Sml.n1 .fst (.v f);have S {i:Nat} (f:i<=4):=Sml.n1 .snd (.v f);have u:=Sml.n2 .pair (S (Nat.zero_le _)) (.n2 .app (.n2 .app h (F (Nat.zero_le _))) (S (Nat.zero_le _)));have r {n:Tm} {N:Nat} (k:Sml N n):=Sml.n3 (s:=nn) .re (by decide) (.n2 .pair d e) (.lam (s:=.nat) (by decide) (.lam (s:=nn) (by decide) u)) k;have w:=Sml.n2 .app (.n2 .app h (F (i:=1) (by decide))) (S (i:=1) (by decide));have f {a b:Tm} {A B:Nat} (k:Sml A a) (l:Sml B b):=Sml.n2 .app (.n2 .app h k) l;exact(SmP.all (s:=.nat) (by decide) (.p2 .exE
  (.ind false (.two (r (vS 0))) (vS 0) (.ex (.two (r (.n0 .zero))) (.n2 .pair d e) (.p2 .andI (.refl d) (.refl e)))
   (.p2 .exE (.leaf false 0) (.ex (.two (r (.n1 .succ (vS 1)))) u (.p2 .andI
    (.subst (.eq (S (i:=1) (by decide)) (vS 0)) (.p1 .andR (.leaf false 0)) (.refl (S (Nat.zero_le _))))
    (.subst (.eq w (f (.n1 .fst (r (vS 2))) (vS 0))) (.p1 .andR (.leaf false 0))
     (.subst (.eq w (f (vS 0) (S (i:=1) (by decide)))) (.p1 .andL (.leaf false 0)) (.refl (f (F (Nat.zero_le _)) (S (Nat.zero_le _))))))))))
  (.ex (.is (.n1 .fst (r (vS 1)))) (F (Nat.zero_le _)) (.p1 .andL (.leaf false 0))))).mono (by decide)
open Go.Lg
def jU(a:List Fm)(g:List Ty)(hs:List Fm)(p:Pf):Prop:=p.ck/\p.cnt<=16384/\p.gx/\∃j:Jt,j.p=p/\j.D a g hs
def RQ(H:MF){p:Pf}(h:SmP 300000 p):∃r:PR,A 26 [dA [],qB [] [],p.p] r.p/\∀f u,r=.ok f u->jU [] [] [] p:=by
 have:=vA;have:=uA;have:mB=1125899902742528:=rfl;have:rA=8388608:=rfl;have:=h.c;have:=h.m;have:=h.z;obtain⟨r,b,c,_⟩:=Qb H (X:=1000000) (ls:=[]) (g:=[]) (hs:=[]) (p:=p) ⟨nofun,nofun,nofun,by simp,by simp,by simp,by omega,by omega,by omega,by omega⟩;refine⟨r,b,λf u e=>?_⟩;obtain⟨_,d,g,_,_,⟨j,i,_,k,_⟩,_⟩:=c f u e;exact⟨d,g,h.x,j,i,k⟩
def Ft:jU [] [] [] (WM sSuc):=by
 obtain⟨j,e,h⟩:=Et;refine⟨⟨by decide,?_⟩,by decide,⟨⟨trivial,λ_=>.inr (Nat.zero_le _)⟩,trivial⟩,j,e,h⟩;exact⟨by decide,by decide,show Tm.chk _=0 by decide⟩
abbrev dE(s t:Ty):Ty:=.two true s t
def aC:A 46 [] Ty.nat.p:=f0 []
def SE:A 28 [] Ty.nat.p:=f0 []
def NK:A 70 [] Ty.list.p:=f0 []
def SQ(s t:Ty):A 47 [s.p,t.p] (dE s t).p:=f0 []
def mh(s t:Ty):A 140 [s.p,t.p] (Ty.two false s t).p:=f0 []
def QO:A 48 [] (dE .nat .nat).p:=f3 [1,2,3] aC aC (SQ .nat .nat)
def FD(i:Nat):A 30 [num i] (Tm.v i).p:=f0 []
def vB(i:Nat):A 50 [num i] (Tm.v i).p:=f0 []
def nZ(k:K0):A 29 [num k.n,row []] (Tm.n0 k).p:=f0 []
def yI(k:K1)(a:Tm):A 29 [num k.n,row [a]] (Tm.n1 k a).p:=f0 []
def pZ(k:K2)(a b:Tm):A 29 [num k.n,row [a,b]] (Tm.n2 k a b).p:=f0 []
def RO(a b:Tm):A 126 [a.p,b.p] (Tm.n2 .app a b).p:=f1 [8] (pZ .app a b)
def ZB(s:Ty)(a:Tm):A 27 [s.p,a.p] (Tm.lam s a).p:=f0 []
def XM(f a:Tm):A 49 [f.p,row [a]] (gB f a).p:=f1 [17] (RO f a)
def YM(f a b:Tm):A 49 [f.p,row [a,b]] (lA f a b).p:=f2 [17,17] (RO f a) (RO (gB f a) b)
def nh(f a b c:Tm):A 49 [f.p,row [a,b,c]] (vC f a b c).p:=f3 [17,17,17] (RO f a) (RO (gB f a) b) (RO (lA f a b) c)
def vU{t:Tm}(h:Sml 200000 t):A 53 [t.p] (t.sh 0 (.ofNat 1)).p:=by
 have:=vA;have:=h.c;have a:=h.m;exact f1 [4] (iH t 0 1 (by omega) (by omega) (Nat.le_trans a (by decide)) (by omega))
def bJ(a b:Tm):A 52 [a.p,b.p] (Fm.eq a b).p:=f0 []
def ph(s:Ty)(f:Fm):A 128 [s.p,f.p] (Fm.q .ex s f).p:=f0 []
def SO(s:Ty)(f:Fm):A 61 [s.p,f.p] (Fm.q .all s f).p:=f0 []
def YF{s:Tm}(h:Sml 200000 s):A 58 [s.p] (YA s).p:=f5 [3,4,6,7,8] aC (FD 0) (vU h) (bJ (.v 0) (s.sh 0 (.ofNat 1))) (ph .nat (.eq (.v 0) (s.sh 0 (.ofNat 1))))
def TO(k:K3)(a b c:Tm):A 59 [num k.n,a.p,b.p,c.p] (Tm.n3 k .nat a b c).p:=f1 [10] aC
def dJ(i:Nat):A 54 [num i] (Pf.leaf false i).p:=f0 []
def fJ(t:Tm):A 55 [t.p] (Pf.refl t).p:=f0 []
def gJ(f:Fm)(t:Tm)(p:Pf):A 57 [f.p,t.p,p.p] (Pf.ex false f t p).p:=f0 []
def VO(p q:Pf):A 56 [p.p,q.p] (Pf.p2 .exE p q).p:=f0 []
def TQ(s:Ty)(p:Pf):A 62 [s.p,p.p] (Pf.all false s p).p:=f0 []
def rh(t:Tm)(p:Pf):A 79 [t.p,p.p] (Pf.ins false t p).p:=f0 []
def WO(f:Fm)(p q:Pf):A 51 [f.p,p.p,q.p] (Pf.subst f p q).p:=f0 []
def th(f:Fm)(t:Tm)(p q:Pf):A 63 [num 16,f.p,t.p,p.p,q.p] (Pf.ind false f t p q).p:=f0 []
def Gt(f:Fm)(t:Tm)(p q:Pf):A 63 [num 17,f.p,t.p,p.p,q.p] (Pf.ind true f t p q).p:=f0 []
def hJ(t:Tm):A 73 [t.p] (sF t).p:=f1 [5] (yI .fst t)
def lJ(t:Tm):A 72 [t.p] (gA t).p:=f1 [5] (yI .snd t)
def rZ(a b:Tm):A 71 [a.p,b.p] (Tm.n2 .pair a b).p:=f1 [8] (pZ .pair a b)
def It(p:Pf):A 74 [num 4,EZ [p]] (Pf.p1 .andL p).p:=f0 []
def Kt(p:Pf):A 74 [num 5,EZ [p]] (Pf.p1 .andR p).p:=f0 []
def ah(p q:Pf):A 74 [num 3,EZ [p,q]] (Pf.p2 .andI p q).p:=f0 []
def YO(b c u n:Tm):A 75 [b.p,c.p,u.p,n.p] (aB b c u n).p:=f7 [11,12,13,14,17,18,22] aC aC (mh .nat .nat) aC (ZB nn u) (ZB .nat (.lam nn u)) (rZ b c)
def sZ{s:Tm}(h:Sml 200000 s):A 76 [s.p] (WD s).p:=
 dU [8,9,10,11,12,13,15,16,17,18,20,21,27] (vU h) aC aC (mh .nat .nat) (vB 0) (hJ (.v 0)) (hJ (s.sh 0 (.ofNat 1))) (bJ (sF (.v 0)) (sF (s.sh 0 (.ofNat 1)))) (vB 0) (lJ (.v 0)) (lJ (s.sh 0 (.ofNat 1))) (bJ (gA (.v 0)) (gA (s.sh 0 (.ofNat 1)))) (ph nn (.bin .and (.eq (sF (.v 0)) (sF (s.sh 0 (.ofNat 1)))) (.eq (gA (.v 0)) (gA (s.sh 0 (.ofNat 1))))))
def oh(H:MF){t:Tm}{p:Pf}(c:Sml 100000 t)(h:SmP 300000 p):∃e,A 78 [t.p,p.p] (num e):=by
 have:=vA;have:=uA;have:mB=1125899902742528:=rfl;have:rA=8388608:=rfl;have:=h.c;have:=h.m;have:=h.z;obtain⟨r,a,g,_⟩:=Qb H (X:=1000000) (ls:=[]) (g:=[]) (hs:=[]) (p:=p) ⟨nofun,nofun,nofun,by simp,by simp,by simp,by omega,by omega,by omega,by omega⟩
 cases r with
 |er n=>exact⟨n+1,f1 [10] a⟩|ok f u=>
  obtain⟨_,_,_,⟨v,w,x⟩,_⟩:=g f u rfl;have b:=Sml.n2 .app c (vS 0);obtain⟨l1,y,z,_⟩:=SmF.all (s:=.nat) (by decide) (SmF.is b);obtain⟨e,i,_⟩:=FU f (.q .all .nat (YA (.n2 .app t (.v 0))));exact⟨e,f7 [10,18,20,22,23,24,25] a aC (FD 0) (XM t (.v 0)) (YF (b.mono (by decide))) (SO .nat (YA (gB t (.v 0)))) i⟩
def uI{t:Tm}(h:Sml 100000 t)(s:Ty):∃e,A 45 [t.p,s.p] (num e):=by
 have:=vA;have:=h.c;have:=h.z;obtain⟨r,g,_⟩:=xU [] t nofun (by omega) (by simp;omega)
 cases r with
 |er e=>exact⟨e+1,f1 [9] g⟩|ok u=>
  have a:=YD s u;cases e:s.same u<;>rw[e]at a
  ·exact⟨7,f2 [9,17] g a⟩
  exact⟨0,f2 [9,17] g a⟩
abbrev Lt:PV:=.agg [num 0,num 0,.slice [],.slice [],.slice []]
abbrev Mt:PV:=.agg [num 0,num 0,num 0,.slice [],.slice [],.slice [],.slice []]
def Rs(f:Nat)(args:List PV)(p:Pf):Prop:=(∃e,A f args (.tuple [Lt,Mt,num (e+1)]))\/∃F:Fm,A f args (.tuple [F.p,p.p,num 0])
def UQ{F:Fm}{p:Pf}{C D:Nat}(b:SmF C F)(c:SmP D p)(g:C<=1000000)(h:D<=1000000):Rs 60 [F.p,p.p] p:=by
 have:=vA;have:=uA;have:=b.z;have:=b.c;have:=c.c;have:=c.z;have a:=uN F
 cases d:F.chk with
 |succ n=>rw[d]at a;exact .inl ⟨3,f1 [8] a⟩|zero=>
  rw[d]at a;obtain⟨e,f,_⟩:=Qh p
  cases e with|succ e=>exact .inl ⟨3,f2 [8,12] a f⟩|zero=>exact .inr ⟨F,f2 [8,12] a f⟩
end Go.Proofs.YtjobiknipefjdaaGreatDoor
