/- Contracts of functions; no conditions. -/
import Derived.Test.YtbebdmlomjpamaaGreatDoorAccC11
import Derived.Test.YtbebdmlomjpamaaGreatDoorAccC9
import Derived.Test.YtbebdmlomjpamaaGreatDoorAccC10
set_option linter.all false
set_option maxHeartbeats 4000000
namespace Go.Proofs.YtbebdmlomjpamaaGreatDoor
open Go.Lg
set_option maxRecDepth 100000
def mc:A 23 [] Ty.unit.p:=f0 []
def Tk(s u:Ty):A 136 [s.p,u.p] (Ty.two false s u).p:=f0 []
def Uk(s u:Ty):A 137 [s.p,u.p] (Ty.two true s u).p:=f0 []
def vW{t:Ty}(h:t.size<=64):A 135 [t.p,num 0] (TR.ok t).p:=by
 have:=yA;have a:=gK t;rw[RH,ckE_0.2 h]at a;have b:A 208 [t.p] (.tuple [num t.size,num 0]):=f2 [6,11] a (OS t a6);exact f1 [12] b
def wW{f:Fm}(h:f.shp=true)(a:f.cnt<=4096):f.chk=0:=by
 unfold Fm.chk;rw[h];simp only;rw[iA a]
def OG{f:Fm}(h:f.shp=true)(a:f.cnt<=4096:=by omega):A 121 [f.p] (.bool f.has):=by
 have:=zA;have:=yA;have⟨b,e,g,q⟩:=Gl f (by have:=FD f h;omega);obtain⟨rfl,rfl⟩:=q (wW h a);exact f1 [7] g
def QG{f:Fm}(h:f.has=true):f.ctu=f.cty:=by unfold Fm.ctu;rw[h];rfl
def Vk{f:Fm}(h:f.has=false):f.ctu=.unit:=by unfold Fm.ctu;rw[h];rfl
def kW:∀(f:Fm),f.shp=true->f.cnt<=4096->f.csz<=64->A 56 [f.p] (TR.ok f.ctu).p/\f.ctu.size<=f.csz
 |.eq a b,h,o,_=>⟨f2 [15,17] (OG h o) mc,e6 1⟩|.bin k f g,h,o,u=>by
  have⟨t,r⟩:=JA h;have w:1+f.cnt+g.cnt<=4096:=o;have z0:1+f.csz+g.csz<=64:=u;have d:=OG h o;have m:=OG t;have v:=OG r;have⟨j,y1⟩:=kW f t a6 a6;have⟨p,y2⟩:=kW g r a6 a6;show _/\_<=1+f.csz+g.csz;cases i:(Fm.bin k f g).has
  ·rw[i]at d;rw[Vk i];exact⟨by cases k<;>exact f2 [15,17] d mc,c4⟩
  rw[i]at d;rw[QG i];cases c:f.has<;>rw[c]at m
  ·have n:g.has=true:=by cases k<;>simpa[Fm.has,c]using i
   have e:(Fm.bin k f g).cty=g.ctu:=by rw[QG n];cases k<;>simp[Fm.cty,c]
   rw[e];refine⟨?_,a6⟩
   cases k with|and=>exact f3 [15,26,32] d m p|imp=>exact f3 [15,81,87] d m p
  rw[QG c]at j y1
  cases k with
  |and=>
   cases n:g.has<;>rw[n]at v
   ·have e:(Fm.bin .and f g).cty=f.cty:=by simp[Fm.cty,c,n]
    rw[e];exact⟨f4 [15,26,39,45] d m v j,a6⟩
   rw[QG n]at p y2;have e:(Fm.bin .and f g).cty=.two false f.cty g.cty:=by simp[Fm.cty,c,n]
   rw[e];have l:(Ty.two false f.cty g.cty).size<=1+f.csz+g.csz:=c4
   exact⟨f7 [15,26,39,53,65,70,72] d m v j p (Tk f.cty g.cty) (vW (hV l z0)),l⟩
  |imp=>
   have n:g.has=true:=i;rw[QG n]at p y2;have e:(Fm.bin .imp f g).cty=.two true f.cty g.cty:=by simp[Fm.cty,c]
   rw[e];have l:(Ty.two true f.cty g.cty).size<=1+f.csz+g.csz:=c4
   exact⟨f6 [15,81,95,107,112,114] d m j p (Uk f.cty g.cty) (vW (hV l z0)),l⟩
 |.q k s f,h,o,u=>by
  have⟨t,r⟩:=JA h;have hs:=lD t;have w:1+f.cnt<=4096:=o;have z0:1+s.size+f.csz<=64:=u;have d:=OG h o;have m:=OG r;have⟨j,y1⟩:=kW f r a6 a6;show _/\_<=1+s.size+f.csz;cases i:(Fm.q k s f).has
  ·rw[i]at d;rw[Vk i];exact⟨by cases k<;>exact f2 [15,17] d mc,c4⟩
  rw[i]at d;rw[QG i]
  cases k with
  |all=>
   have c:f.has=true:=i;rw[QG c]at j y1;have l:(Ty.two true s f.cty).size<=1+s.size+f.csz:=c4
   exact⟨f4 [15,124,130,132] d j (Uk s f.cty) (vW (hV l z0)),l⟩
  |ex=>
   cases c:f.has<;>rw[c]at m
   ·rw[show(Fm.q .ex s f).cty=s by simp[Fm.cty,c]];exact⟨f2 [15,141] d m,a6⟩
   rw[QG c]at j y1;rw[show(Fm.q .ex s f).cty=.two false s f.cty by simp[Fm.cty,c]];have l:(Ty.two false s f.cty).size<=1+s.size+f.csz:=c4
   exact⟨f5 [15,141,150,156,158] d m j (Tk s f.cty) (vW (hV l z0)),l⟩
  |allU=>
   have c:f.has=true:=i;rw[QG c]at j y1;exact⟨f2 [15,165] d j,by show f.cty.size<=_;omega⟩
  |exU=>
   have c:f.has=true:=i;rw[QG c]at j y1;exact⟨f2 [15,165] d j,by show f.cty.size<=_;omega⟩
def yW{f:Fm}(h:f.chk=0)(c:f.csz<=64:=by omega):A 22 [f.p] (TR.ok f.ctu).p/\f.ctu.size<=f.csz:=by
 have:=zA;have:=yA;have⟨d,a⟩:=Fm.chk0 h;have⟨e,q⟩:=kW f a d c;have b:=mJ f (by have:=FD f a;omega);rw[h]at b;exact⟨f2 [6,12] b e,q⟩
def YP(hs:List Fm):Prop:=∀f∈hs,f.chk=0/\f.csz<=64
abbrev nc:Kp:=⟨[1,5,6],[0,1],2,[]⟩
abbrev rc(g:List Ty)(hs:List Fm)(k v:Nat)(A:List (List PV)):IS:=st [(1,.loc 0 0),(5,.arr 1 v A.length),(6,.pv (num k))] [(0,bx [rA g,uA hs]),(1,.arr v 2 36 (vA A))] 2 []
def xc(g:List Ty){hs:List Fm}(m:hs.length<=16):∀(r:List Fm)(k v:Nat)(A:List (List PV)),hs.drop k=r->A.length<=100+k->YP r->
  ∃a,Lp 36 0 0 (rc g hs k v A) (.exit 0) (st [(5,.arr 1 a (A.length+(jB r).length))] [(1,.arr a 2 36 (vA (A++(jB r).map Ty.c)))] 2 [])
 |[],k,v,A,h,t,c=>by
  have e:dA (.ofNat k) (.ofNat (hs.map Fm.c).length)=false:=iA bS;refine⟨v,?_⟩;simp only[jB,i2,hI,iq,ir];exact y1 [26] ⟨[5],[1],2,[]⟩ e (BB A)
 |f::r,k,v,A,h,t,c=>by
  have:=yA;have⟨u,D,n⟩:=uC h;have e:dA (.ofNat k) (.ofNat (hs.map Fm.c).length)=true:=KA bS;have⟨o,w⟩:=c f a8;have⟨y,z⟩:=Fm.chk0 o;have p:=(yW o w).1;have j:=OG z y;have s:=lA (a:=k) (b:=1);have d:=EA u Fm.c_len;cases i:f.has<;>rw[i]at j
  ·have⟨a,b⟩:=xc g m r (k+1) v A n a6 (λx l=>c x (by simp[l]));rw[show jB (f::r)=jB r by simp only[jB,i]];exact⟨a,n8 [26,(33,.i f.c),35,(44,.i f.c),46,28] nc e d p d j s (BB A) b⟩
  have B:=YD (A:=A) (v:=v) (ty:=36) (m:=32) (c:=f.ctu.c) (show 0<2 by decide) rfl rfl (by simp only[maxLen];omega) a6;have⟨a,b⟩:=xc g m r (k+1) (v+1) (A++[f.ctu.c]) n a9 (λx l=>c x (by simp[l]));dsimp only[rc]at b;rw[gD,show(A++[f.ctu.c]).length=A.length+1 by simp,show A.length+1+(jB r).length=A.length+(f.ctu::jB r).length by simp;omega,gy]at b;rw[show jB (f::r)=f.ctu::jB r by rw[QG i];simp only[jB,i]];exact⟨a,n9 [26,(33,.i f.c),35,(44,.i f.c),46,(50,.ok),28] nc e d p d j B s (dB A f.ctu.c) b⟩
def bz(g:List Ty)(b:g.length<=16)(a:∀s∈g,s.size<=64):A 120 [rA g] (num 0):=by
 have c:=tW g λt d=>Jf (a t d)
 rwa[LQ b a]at c
def Xk{g:List Ty}{hs:List Fm}(e:g.length<=16)(b:∀s∈g,s.size<=64)(c:hs.length<=16)(f:YP hs):A 36 [AA g hs] (.tuple [rA (qB g hs),num 0]):=by
 have:=zA;have:=yA;have h:dA (.ofNat 16) (.ofNat (hs.map Fm.c).length)=false:=iA (by simpa using c);have i:=dU (c:=Ty.c) (n:=2) (m:=32) Ty.c_len (λ_=>rfl) bb g a6 (by simp only[maxLen];omega);have⟨v,d⟩:=xc g c hs 0 1 (g.map Ty.c) rfl a9 f;rw[<-gn]at d;have a:=LoopIs.fz a8 d 1 (ver:=v) (sz:=2) (ty:=36) (ps:=(qB g hs).map Ty.c) rfl bG;simp (decide:=true) only[eD,XC,VB,sC,UC,bx,List.map,BC,and_self,↓reduceIte,gu (show((qB g hs).map Ty.c).length<=(g.map Ty.c).length+(jB hs).length by simp)]at a;dsimp only[rc]at a;rw[<-pvE_len (g.map Ty.c)]at a;exact f5 [11,18,(21,.ok),(100008,.l nc (.exit 0) (st [(5,.pv (rA (qB g hs)))] [] 2 []))] (bz g e b) h i (BB (g.map Ty.c)) a
abbrev ZP:Kp:=⟨[1,6,7,8],[0,1],2,[]⟩
abbrev uW(g:List Ty)(hs:List Fm)(n k v:Nat)(P:List (List PV)):IS:=st [(1,.loc 0 0),(6,.arr 1 v P.length),(7,.pv (num n)),(8,.pv (num k))] [(0,bx [rA g,uA hs]),(1,.arr v 1 3 (vA P))] 2 []
def Ac(g:List Ty){hs:List Fm}(o:hs.length<=16):∀(r:List Fm)(n k v:Nat)(P:List (List PV)),hs.drop k=r->P.length=k->n<=100+k->YP r->
  ∃b,Lp 37 0 0 (uW g hs n k v P) (.exit 0) (st [(6,.arr 1 b (P.length+r.length))] [(1,.arr b 1 3 (vA (P++(IA n r).map iC)))] 2 [])
 |[],n,k,v,P,h,d,u,c=>by
  have e:dA (.ofNat k) (.ofNat (hs.map Fm.c).length)=false:=iA bS;refine⟨v,?_⟩;simp only[IA,i2,hI,iq,ir];exact y1 [24] ⟨[6],[1],2,[]⟩ e (BB P)
 |f::r,n,k,v,P,h,d,u,c=>by
  have:=yA;have⟨w,D,p⟩:=uC h;have e:dA (.ofNat k) (.ofNat (hs.map Fm.c).length)=true:=KA bS;have⟨y,E⟩:=c f a8;have⟨z,A⟩:=Fm.chk0 y;have i:=OG A z;have s:=lA (a:=k) (b:=1);have t:=EA w Fm.c_len;cases j:f.has<;>rw[j]at i
  ·have l:=YD (A:=P) (v:=v) (ty:=3) (m:=8) (c:=iC (-1)) (show 0<1 by decide) rfl rfl (by simp only[maxLen];omega) a6;have⟨b,a⟩:=Ac g o r n (k+1) (v+1) (P++[iC (-1)]) p (by simp[d]) a6 (λx m=>c x (by simp[m]));dsimp only[uW]at a;rw[gD,show(P++[iC (-1)]).length=P.length+1 by simp,show P.length+1+r.length=P.length+(f::r).length by simp;omega,gy]at a;rw[show IA n (f::r)= -1::IA n r by simp only[IA,j]];exact⟨b,n7 [24,(30,.i f.c),32,(41,.ok),26] ZP e t i l s (dB P (iC (-1))) a⟩
  have l:=YD (A:=P) (v:=v) (ty:=3) (m:=8) (c:=iC (.ofNat n)) (show 0<1 by decide) rfl rfl (by simp only[maxLen];omega) a6;have B:=lA (a:=n) (b:=1);have⟨b,a⟩:=Ac g o r (n+1) (k+1) (v+1) (P++[iC (.ofNat n)]) p (by simp[d]) a6 (λx m=>c x (by simp[m]));dsimp only[uW]at a;rw[gD,show(P++[iC (.ofNat n)]).length=P.length+1 by simp,show P.length+1+r.length=P.length+(f::r).length by simp;omega,gy]at a;rw[show IA n (f::r)=.ofNat n::IA (n+1) r by simp only[IA,j]];exact⟨b,n8 [24,(30,.i f.c),32,(36,.ok),38,26] ZP e t i l B s (dB P (iC (.ofNat n))) a⟩
def dz{g:List Ty}{hs:List Fm}(p:g.length<=16)(b:∀s∈g,s.size<=64)(c:hs.length<=16)(d:YP hs):A 37 [AA g hs] (.tuple [uK (IA g.length hs),num 0]):=by
 have:=zA;have:=yA;have l:=Xk p b c d
 cases hs with
 |nil=>
  have h:Lp 37 0 0 (st [(1,.loc 0 0),(6,.pv .nils),(7,.pv (num (g.map Ty.c).length)),(8,.pv (num 0))] [(0,bx [rA g,uA []])] 1 []) (.exit 0) (st [(6,.pv .nils)] [] 2 []):=x0 [] ⟨[6],[],2,[]⟩;exact f2 [11,(100007,.l ⟨[1,6,7,8],[0],1,[]⟩ (.exit 0) (st [(6,.pv .nils)] [] 2 []))] l h
 |cons f r=>
  have c:r.length+1<=16:=by simpa using c
  have⟨t,F⟩:=d f a8;have⟨u,w⟩:=Fm.chk0 t;have i:=OG w u;have m:nB ((f::r).map Fm.c) 0=some f.c/\tB 5 ((f::r).map Fm.c)=true:=EA (g:=f::r) (k:=0) rfl Fm.c_len;have:(g.map Ty.c).length=g.length:=a8
  have key:∃n P,P.length=1/\n<=101/\P++(IA n r).map iC=(IA g.length (f::r)).map iC/\∀e a,Lp 37 0 0 (uW g (f::r) n 1 1 P) e a->Lp 37 0 0 (st [(1,.loc 0 0),(6,.pv .nils),(7,.pv (num (g.map Ty.c).length)),(8,.pv (num 0))] [(0,bx [rA g,uA (f::r)])] 1 []) e a:=by
   cases j:f.has<;>rw[j]at i
   ·exact⟨(g.map Ty.c).length,[iC (-1)],rfl,a6,by simp[IA,j],λe a k=>rk [(30,.i f.c),32] ZP ZP (YL m i (dB [] (iC (-1))) k)⟩
   have y:=lA (a:=(g.map Ty.c).length) (b:=1);exact⟨(g.map Ty.c).length+1,[iC (.ofNat (g.map Ty.c).length)],rfl,a6,by simp[IA,j],λe a k=>rk [(30,.i f.c),32,38] ZP ZP (bK m i y (dB [] (iC (.ofNat (g.map Ty.c).length))) k)⟩
  have⟨n,P,o,H,z,B⟩:=key;have⟨v,h⟩:=Ac g (hs:=f::r) a9 r n 1 1 P rfl o a6 (λx C=>d x (by simp[C]));have h:=B _ _ h;rw[z,o]at h;have h:=LoopIs.fz a8 h 1 (ver:=v) (sz:=1) (ty:=3) (ps:=(IA g.length (f::r)).map iC) rfl bG;simp (decide:=true) only[eD,XC,VB,sC,UC,bx,List.map,BC,and_self,↓reduceIte,gu (show((IA g.length (f::r)).map iC).length<=1+r.length by simp[kc];omega)]at h;exact f2 [11,(100007,.l ⟨[1,6,7,8],[0],1,[]⟩ (.exit 0) (st [(6,.pv (uK (IA g.length (f::r))))] [] 2 []))] l h
open Go.Lg
def yJ:∀t:Tm,t.mx<=268435456->A 122 [t.p] (.bool false)
 |.v i,h=>f1 [6] (iA (a:=268435456) (b:=i) h)|.lam s b,h=>f1 [19] (yJ b h)|.n0 k,_=>f0 []|.n1 k a,h=>f1 [19] (yJ a h)|.n2 k a b,h=>by
  have h:max a.mx b.mx<=268435456:=h;exact f2 [19,19] (yJ a a6) (yJ b a6)
 |.n3 k s a b c,h=>by
  simp only[Tm.mx]at h;exact f3 [19,19,19] (yJ a a6) (yJ b a6) (yJ c a6)
def qQ:∀f:Fm,f.mx<=268435456->A 38 [f.p] (.bool false)
 |.eq a b,h=>by
  have h:max a.mx b.mx<=268435456:=h;exact f2 [17,17] (yJ a a6) (yJ b a6)
 |.bin k a b,h=>by
  have h:max a.mx b.mx<=268435456:=h;exact f2 [30,30] (qQ a a6) (qQ b a6)
 |.q k s a,h=>f1 [30] (qQ a h)
def cI:A 40 [] (Tm.n0 .unit).p:=f0 []
def IH(i:Nat):A 41 [num i] (Tm.v i).p:=f0 []
def uJ(k:K1)(t:Tm):A 197 [num k.n,row [t]] (Tm.n1 k t).p:=f0 []
def Bc(t u:Tm):A 201 [t.p,u.p] (Tm.n2 .app t u).p:=f0 []
abbrev FR.cs(b:FR):List PV:=[num b.k,num b.tk,.slice b.te,.slice b.ts,.slice b.es]
abbrev bW(k:FB)(a:Fm)(b:FR):List PV:=[num k.n,num 0,.slice [],.slice [],.slice [a.c,b.cs]]
abbrev Yk(s:Ty)(b:FR):List PV:=[num 4,num s.kd,.slice s.es,.slice [],.slice [b.cs]]
def zQ(k:FB)(a:Fm)(b:FR):A 199 [num k.n,a.p,b.b] (.agg (bW k a b)):=f0 []
def Cc(s:Ty)(b:FR):A 202 [s.p,b.b] (.agg (Yk s b)):=f0 []
def dW(a b:Nat)(c d e:List (List PV)):A 198 [.agg [num a,num b,.slice c,.slice d,.slice e],num 4] (FR.er 3).p:=f0 []
def fW{F:Fm}(h:F.shp=true)(c:F.cnt<=qA):A 198 [F.p,num 0] (FR.fit F).p:=by
 have d:=zA;have f:=yA;have a:=mJ F (by have:=FD F h;omega);unfold FR.fit;split
 ·rename_i b;rw[wW h b]at a;exact f1 [11] a
 rename_i b;have e:F.chk=4:=by
  unfold Fm.chk;rw[h];simp only;rw[KA a6]
 rw[e]at a;exact f1 [11] a
def lW{n:Nat}(k:FB){a Y:Fm}{b:FR}(d:FK n a)(c:b.Gd n Y):A 198 [.agg (bW k a b),num b.n] (FR.two k (.ok a) b).p:=by
 have:=zA
 cases b with
 |er m=>
  obtain rfl:m=3:=c;exact dW k.n 0 [] [] _
 |ok y=>
  have:=d.cnt;have:=c.1.cnt;exact fW (F:=.bin k a y) (by show(_&&_)=true;rw[d.shp,c.1.shp];rfl) (by show 1+a.cnt+y.cnt<=_;omega)
def Dc{n:Nat}{s:Ty}{Y:Fm}{b:FR}(hs:s.size<=64)(a:b.Gd (n+1) Y):A 198 [.agg (Yk s b),num b.n] (FR.un .all s b).p:=by
 have:=zA
 cases b with
 |er m=>
  obtain rfl:m=3:=a;exact dW 4 s.kd s.es [] _
 |ok y=>
  have:=a.1.cnt;exact fW (F:=.q .all s y) (by show(_&&_)=true;rw[DJ hs,a.1.shp];rfl) (by show 1+y.cnt<=_;omega)
def Zk{t:Tm}(h:t.shp=true)(a:t.cnt<=4096):A 196 [t.p] (num 0):=by
 have:=yA;have g:=XG t (by have:=zD t h;omega);rw[z8 h a]at g;exact f1 [4] g
def ql{t:Tm}(h:t.shp=true)(a:4096<t.cnt)(a:t.cnt<=qA:=by omega):A 196 [t.p] (num 4):=by
 have:=yA;have:=zA;have g:=XG t (by have:=zD t h;omega);have e:t.chk=4:=by
  unfold Tm.chk;rw[h];simp only;rw[KA a6]
 rw[e]at g;exact f1 [4] g
def lz{n:Nat}{t:Tm}(h:TK n t)(b:n<=nA:=by omega):A 200 [t.p,num 1] t.u1.p:=by
 have c:=zA;have:=yA;have:nA=100000:=rfl;have:=h.cnt;have:=h.mx b;have a:=XG t (by have:=zD t h.shp;omega);rw[h.chk]at a;have⟨r,d,q⟩:=LH t 536870912;obtain rfl:r=true:=q.2 a6;have e:=vH t 0 1 a6 a6 (by rw[c];omega) a6;have f:A 265 [t.p,num 0,num 1] (.tuple [(t.sh 0 1).p,num 0]):=f4 [10,31,38,39] a d e (aC (t.sh 0 1));exact f1 [10] f
def mW{n z:Nat}{f:Fm}(h:FK n f)(b:n<=nA:=by omega)(c:z<=4096:=by omega):A 39 [f.p,num 0,num z] (FR.ok (f.sh 0 (.ofNat z))).p:=by
 have d:=zA;have:=yA;have:nA=100000:=rfl;have:=h.cnt;have:=h.mx b;have a:=mJ f (by have:=FD f h.shp;omega);rw[h.chk]at a;have⟨r,e,q⟩:=VS f 536870912;obtain rfl:r=true:=q.2 a6;have g:=WD f 0 z a6 a6 (by rw[d];omega) a6;have i:dA (.ofNat z) 0=false:=iA (b:=0) (c6 _);have j:dA 4096 (.ofNat z)=false:=iA (a:=4096) c;exact f6 [10,23,27,31,38,39] a i j e g (mE (f.sh 0 (.ofNat z)))
def mz{n:Nat}{f:Fm}{t:Tm}(a:FK (n+1) f)(b:TK n t)(d:n+1<=nA:=by omega):A 203 [f.p,num 0,t.p] (FR.er 3).p\/(f.put 0 t 0).cnt<=4096/\A 203 [f.p,num 0,t.p] (FR.ok (f.put 0 t 0)).p:=by
 have c:=zA;have:nA=100000:=rfl;have:=a.cnt;have:=a.mx d;have:=b.cnt;have:=b.mx a6;obtain⟨r,g,⟨m,rfl,q⟩|⟨rfl,q⟩⟩:=Fl f t a6 (by rw[c];omega) (by have:=FD f a.shp;omega) a6 (by rw[c];omega) (by have:=zD t b.shp;omega)
 ·obtain rfl:=q ⟨a.chk,a6⟩ ⟨b.chk,a6⟩;exact .inl g
 exact .inr ⟨q,g⟩
def UL:∀(f:Fm)(σ:Nat->Tm),(f.sub σ).csz=f.csz|.eq _ _,_=>rfl|.bin _ f g,σ=>by simp[Fm.sub,Fm.csz,UL]|.q _ _ f,σ=>by simp[Fm.sub,Fm.csz,UL]
abbrev zl(s:Ty)(a:Fm)(b:FR):List PV:=[num 4,num s.kd,.slice s.es,.slice [],.slice [bW .imp a b]]
def jl(s:Ty)(a:Fm)(b:FR):A 202 [s.p,.agg (bW .imp a b)] (.agg (zl s a b)):=f0 []
def yl{n:Nat}{s:Ty}{a Y:Fm}{b:FR}(hs:s.size<=64)(c:FK (n+1) a)(d:b.Gd (n+1) Y):∃r,A 198 [.agg (zl s a b),num b.n] (FR.p r)/\r.Gd n (.q .all s (.bin .imp a Y)):=by
 have:=zA
 cases b with
 |er m=>
  obtain rfl:m=3:=d;exact⟨.er 3,dW 4 s.kd s.es [] _,rfl⟩
 |ok y=>
  obtain⟨hy,rfl⟩:=d;have:=c.cnt;have:=hy.cnt;have e:(Fm.q .all s (.bin .imp a y)).shp=true:=by
   show(_&&(_&&_))=true;rw[DJ hs,c.shp,hy.shp];rfl
  exact⟨FR.fit (.q .all s (.bin .imp a y)),fW e (by show 1+(1+a.cnt+y.cnt)<=_;omega),mf e ⟨c.sc,hy.sc⟩ rfl⟩
def nz{n:Nat}{s:Ty}{Y:Fm}{b:FR}(hs:s.size<=64)(a:b.Gd (n+1) Y):A 198 [.agg [num 7,num s.kd,.slice s.es,.slice [],.slice [[num b.k,num b.tk,.slice b.te,.slice b.ts,.slice b.es]]],num b.n] (FR.un .exU s b).p:=by
 have:=zA
 cases b with
 |er m=>
  obtain rfl:m=3:=a;exact dW 7 s.kd s.es [] _
 |ok y=>
  have:=a.1.cnt;exact fW (F:=.q .exU s y) (by show(_&&_)=true;rw[DJ hs,a.1.shp];rfl) (by show 1+y.cnt<=_;omega)
abbrev XZ(n:Nat)(f:Fm)(t:Tm)(x:Fm):Prop:=∃r:FR,A 125 [f.p,t.p] r.p/\r.Gd n x
def jQ{n k:Nat}{x:Fm}(h:(FR.er k).Gd n x):k=3:=h
def pz:∀(m n:Nat)(f:Fm)(t:Tm),f.fn<=m->FK n f->f.csz<=64->TL n t->n+m<=nA->XZ n f t (rz f Tm.v t):=by
 intro m
 induction m with
 |zero=>intro n f t h;cases f<;>simp[Fm.fn]at h<;>omega
 |succ m K=>
  intro n f t O F V l hn;have:=zA;have:=yA;have:nA=100000:=rfl;have:=l.cnt;by_cases P:t.cnt<=4096;rotate_left
  ·exact⟨.er 3,f1 [34] (ql l.shp (i3 P)),rfl⟩
  have i:=Zk l.shp P;have C:TK n t:=⟨P,l.shp,l.sc⟩;have H:=lz C
  cases f with
  |eq a b=>
   refine⟨.ok (.eq a b),f1 [34] i,F,?_⟩;show _=Fm.eq (a.sub Tm.v) (b.sub Tm.v);rw[eC,eC]
  |bin k x y=>
   have O:1+x.fn+y.fn<=m+1:=O;have z0:1+x.csz+y.csz<=64:=V;have X:1+x.cnt+y.cnt<=4096:=F.cnt;have⟨L,J⟩:=JA F.shp;have G:FK n x:=⟨a6,L,F.sc.1⟩;have M:FK n y:=⟨a6,J,F.sc.2⟩;have ix:=λu(I:TL n u)=>K n x u a6 G a6 I a6
   have Q:=λu(I:TL n u)=>K n y u a6 M a6 I a6
   have j:=OG L G.cnt;have D:=OG J M.cnt
   cases k with
   |and=>
    show XZ n _ t (bif x.has&&y.has then _ else _);cases E:x.has<;>rw[E]at j
    ·have⟨o,d,p1⟩:=ix t l;have⟨v,p,p2⟩:=Q t l
     cases o with
     |er _=>cases jQ p1;exact⟨.er 3,f3 [34,51,71] i j d,rfl⟩
     |ok B=>
      exact⟨_,f6 [34,51,71,84,89,91] i j d p (zQ .and B v) (lW .and p1.1 p2),qU p1 p2⟩
    cases S:y.has<;>rw[S]at D
    ·have⟨o,d,p1⟩:=ix t l;have⟨v,p,p2⟩:=Q t l
     cases o with
     |er _=>cases jQ p1;exact⟨.er 3,f4 [34,51,57,71] i j D d,rfl⟩
     |ok B=>
      exact⟨_,f7 [34,51,57,71,84,89,91] i j D d p (zQ .and B v) (lW .and p1.1 p2),qU p1 p2⟩
    have⟨o,d,p1⟩:=ix _ (C.tl1 .fst);have⟨v,p,p2⟩:=Q _ (C.tl1 .snd)
    cases o with
    |er _=>cases jQ p1;exact⟨.er 3,f6 [34,51,57,61,64,71] i j D (uJ .fst t) (uJ .snd t) d,rfl⟩
    |ok B=>
     exact⟨_,f9 [34,51,57,61,64,71,84,89,91] i j D (uJ .fst t) (uJ .snd t) d p (zQ .and B v) (lW .and p1.1 p2),qU p1 p2⟩
   |imp=>
    show XZ n _ t (bif x.has then _ else _);cases E:x.has<;>rw[E]at j
    ·have⟨o,d,p1⟩:=ix t l;have⟨v,p,p2⟩:=Q t l
     cases o with
     |er _=>cases jQ p1;exact⟨.er 3,f3 [34,100,108] i j d,rfl⟩
     |ok B=>
      exact⟨_,f6 [34,100,108,121,126,128] i j d p (zQ .imp B v) (lW .imp p1.1 p2),qU p1 p2⟩
    have up:∀{z:Fm}{u:Tm},z.fn<=m->FK n z->z.csz<=64->TL (n+1) u->XZ (n+1) (z.sh 0 (.ofNat 1)) u (rz z (XB Tm.v) u):=λ{z u}Y Z a3 a4=>by
     rw[<-Np];have e:=ZH z 0 1;exact K (n+1) (z.sh 0 (.ofNat 1)) u (by rw[e,jR];exact Y) (Z.sh 0 1) (by rw[e,UL];exact a3) a4 a6
    have⟨t1,t2⟩:=yW (wW L G.cnt);rw[QG E]at t1 t2;have l1:=mW G (z:=1);have R:=mW M (z:=1);have⟨o,d,p1⟩:=up (z:=x) (u:=.v 0) a6 G a6 ⟨aab,rfl,aaJ n⟩;cases S:y.has<;>rw[S]at D
    ·have⟨v,p,p2⟩:=up (z:=y) (u:=t.u1) a6 M a6 C.tlu
     cases o with
     |er _=>cases jQ p1;exact⟨.er 3,f9 [34,100,136,144,149,158,170,179,180] i j t1 H D l1 R (IH 0) d,rfl⟩
     |ok B=>
      have⟨r,T,N⟩:=yl (s:=x.cty) a6 p1.1 p2;rw[p1.2]at N;exact⟨r,sW [34,100,136,144,149,158,170,179,180,190,196,197,199] i j t1 H D l1 R (IH 0) d p (zQ .imp B v) (jl x.cty B v) T,N⟩
    have⟨v,p,p2⟩:=up (z:=y) (u:=t.ap) a6 M a6 C.tla
    cases o with
    |er _=>cases jQ p1;exact⟨.er 3,qM [34,100,136,144,149,151,152,158,170,179,180] i j t1 H D (IH 0) (Bc t.u1 (.v 0)) l1 R (IH 0) d,rfl⟩
    |ok B=>
     have⟨r,T,N⟩:=yl (s:=x.cty) a6 p1.1 p2;rw[p1.2]at N;exact⟨r,Gz [34,100,136,144,149,151,152,158,170,179,180,190,196,197,199] i j t1 H D (IH 0) (Bc t.u1 (.v 0)) l1 R (IH 0) d p (zQ .imp B v) (jl x.cty B v) T,N⟩
  |q k s x=>
   have O:1+x.fn<=m+1:=O;have z0:1+s.size+x.csz<=64:=V;have X:1+x.cnt<=4096:=F.cnt;have⟨L,J⟩:=JA F.shp;have hs:=lD L;have G:FK (n+1) x:=⟨a6,J,F.sc⟩;have ix:=λu(I:TL (n+1) u)=>K (n+1) x u a6 G a6 I a6
   have j:=OG J G.cnt
   cases k with
   |all=>
    show XZ n _ _ (.q .all s (rz x (aA Tm.v) _));rw[MM];cases E:x.has<;>rw[E]at j
    ·have⟨o,d,p1⟩:=ix _ C.tlu;exact⟨_,f6 [34,205,210,220,226,228] i H j d (Cc s o) (Dc hs p1),vR hs p1⟩
    have⟨o,d,p1⟩:=ix _ C.tla;exact⟨_,f8 [34,205,210,212,213,220,226,228] i H j (IH 0) (Bc t.u1 (.v 0)) d (Cc s o) (Dc hs p1),vR hs p1⟩
   |allU=>
    show XZ n _ _ (.q .all s (rz x (aA Tm.v) _));rw[MM];have⟨o,d,p1⟩:=ix _ C.tlu;exact⟨_,f5 [34,239,240,246,248] i H d (Cc s o) (Dc hs p1),vR hs p1⟩
   |exU=>
    show XZ n _ _ (.q .exU s (rz x (aA Tm.v) _));rw[MM];have⟨o,d,p1⟩:=ix _ C.tlu;exact⟨_,f4 [34,259,260,269] i H d (nz hs p1),vR hs p1⟩
   |ex=>
    have key:∀w u:Tm,w.cnt<=4096->w.shp=true->w.sc n->TL n u->rz (.q .ex s x) Tm.v t=rz (x.put 0 w 0) Tm.v u->A 203 [x.p,num 0,w.p] (FR.er 3).p\/∃r:FR,A 203 [x.p,num 0,w.p] (FR.ok (x.put 0 w 0)).p/\A 125 [(x.put 0 w 0).p,u.p] r.p/\r.Gd n (rz (.q .ex s x) Tm.v t):=λw u w1 w2 w3 I hr=>by
     rcases mz G ⟨w1,w2,w3⟩with g|⟨c,g⟩
     ·exact .inl g
     have e:=VO x w;have⟨r,d,q⟩:=K n (x.put 0 w 0) u (by rw[e,jR];omega) ⟨c,xK 0 w x 0 (.inl w2) J,rM w n x 0 F.sc (.inl w3)⟩ (by rw[e,UL];omega) I a6;rw[<-hr]at q;exact .inr ⟨r,g,d,q⟩
    have er:∀w:Tm,rz (x.put 0 w 0) Tm.v=rz x (cs w Tm.v):=λw=>by
     funext u;rw[jN,eC]
    cases E:x.has<;>rw[E]at j
    ·rcases key t t P l.shp l.sc l (by rw[er];show(bif x.has then _ else _)=_;rw[E];rfl)with g|⟨r,g,d,q⟩
     ·exact⟨.er 3,f4 [34,278,286,295] i j i g,rfl⟩
     exact⟨r,f5 [34,278,286,295,304] i j i g d,q⟩
    by_cases U:(Tm.n1 .fst t).cnt<=4096
    ·have p:=Zk (t:=.n1 .fst t) l.shp U;rcases key (.n1 .fst t) (.n1 .snd t) U l.shp l.sc (C.tl1 .snd) (by rw[er];show(bif x.has then _ else _)=_;rw[E];rfl)with g|⟨r,g,d,q⟩
     ·exact⟨.er 3,f6 [34,278,281,284,286,295] i j (uJ .fst t) (uJ .snd t) p g,rfl⟩
     exact⟨r,f7 [34,278,281,284,286,295,304] i j (uJ .fst t) (uJ .snd t) p g d,q⟩
    have p:=ql (t:=.n1 .fst t) l.shp (i3 U) (by show 1+t.cnt<=_;omega);exact⟨.er 3,f5 [34,278,281,284,286] i j (uJ .fst t) (uJ .snd t) p,rfl⟩
def nW{n:Nat}{f:Fm}{t:Tm}(a:FK n f)(k:f.csz<=64)(b:TK n t)(s:n<=90000:=by omega):∃r:FR,A 42 [f.p,t.p] r.p/\r.Gd n (rz f Tm.v t):=by
 have:=zA;have:=yA;have:nA=100000:=rfl;have:=a.cnt;have:=Ip f;have:=a.mx a6;have:=b.mx a6;have:=b.cnt;have c:=mJ f (by have:=FD f a.shp;omega);rw[a.chk]at c;have d:=XG t (by have:=zD t b.shp;omega);rw[b.chk]at d;have i:=qQ f a6;have j:=yJ t a6;have h:=OG a.shp a.cnt;have key:∀u:Tm,TL n u->XZ n f u (rz f Tm.v u):=λu p=>pz f.fn n f u (e6 _) a k p a6
 rw[<-Pp];cases e:f.has<;>rw[e]at h
 ·have⟨r,g,q⟩:=key (.n0 .unit) ⟨aab,rfl,trivial⟩;exact⟨r,f7 [9,15,21,24,28,30,33] c d i j h cI g,q⟩
 have⟨r,g,q⟩:=key t b.tl;exact⟨r,f6 [9,15,21,24,28,33] c d i j h g,q⟩
open Go.Lg
abbrev JH:Kp:=⟨[1,2,4,6,8,9],[0,1,2,6],7,[]⟩
abbrev DS(g:List Ty)(hs:List Fm)(T:List Ty)(pl:List Int)(k v:Nat)(A:List (List PV)):IS:=st [(1,.loc 0 0),(2,.loc 1 0),(4,.pv (rA T)),(6,.pv (uK pl)),(8,.loc 2 0),(9,.pv (num k))] [(0,bx [rA g,uA hs]),(1,bx [.nils,.nils]),(2,.box [.pv (rA T),.arr 6 v A.length]),(6,.arr v 5 41 (vA A))] 7 []
abbrev tz(T:List Ty)(v:Nat)(A:List (List PV))(a:Nat):IS:=st [(2,.loc 1 0),(4,.pv (rA T)),(8,.loc 2 0)] [(1,bx [.nils,.nils]),(2,.box [.pv (rA T),.arr 6 v a]),(6,.arr v 5 41 (vA A))] 7 []
abbrev VL:IS:=st [(2,.loc 1 0),(3,.pv (num 4))] [(1,bx [.nils,.nils])] 7 []
abbrev vQ:Kp:=⟨[2,3],[1],7,[]⟩
def Ec{g T:List Ty}{hs:List Fm}{pl:List Int}{c:Nat}(P:hs.length<=16)(G:g.length+c=T.length)(Q:T.length<=32):∀(r:List Fm)(k m l v:Nat)(A:List (List PV)),hs.drop k=r->pl.drop k=IA m r->m+l=T.length->l=MA r->A.length=k->(∀f∈r,FK g.length f/\f.csz<=64)->
  (∃t,Lp 15 0 0 (DS g hs T pl k v A) (.exit 0) (tz T t (A++(VA c r l).map Fm.c) (A.length+r.length))/\∀x∈VA c r l,FK T.length x)\/Lp 15 0 0 (DS g hs T pl k v A) .ret VL
 |[],k,m,l,v,A,h,_,_,_,H,C=>by
  have e:dA (.ofNat k) (.ofNat (hs.map Fm.c).length)=false:=iA bS;refine .inl ⟨v,?_⟩;simp only[VA,i2,hI,iq,ir];exact⟨y1 [34] ⟨[2,4,8],[1,2,6],7,[]⟩ e (BB A),nofun⟩
 |f::r,k,m,l,v,A,h,D,I,w,H,C=>by
  have:=zA;have:=yA;have:nA=100000:=rfl;have⟨V,d2,R⟩:=uC h;have e:dA (.ofNat k) (.ofNat (hs.map Fm.c).length)=true:=KA bS;have⟨E,y⟩:=C f a8;have b:=EA V Fm.c_len;have:=E.cnt;have:=E.mx a6;have o:=qQ f a6;have p:=mW E (z:=c);have sc:=gC (a:=(T.map Ty.c).length) (b:=(g.map Ty.c).length) (z:=.ofNat c) a9 a9 (by rw[gB,gB];simp;omega);have S:FK T.length (f.sh 0 (.ofNat c)):=by rw[<-G];exact E.sh 0 c
  have F:=lA (a:=k) (b:=1);cases s:f.has
  ·have J:IA m (f::r)= -1::IA m r:=by simp only[IA,s]
   have K:VA c (f::r) l=rz (f.sh 0 (.ofNat c)) Tm.v (.n0 .unit)::VA c r l:=by simp only[VA,s]
   rw[J]at D;have⟨p1,p2,L⟩:=uC D;have i:=EA (c:=iC) (n:=1) p1 λ_=>rfl
   have⟨u,j,q⟩:=nW S (by rw[ZH,UL];exact y) (t:=.n0 .unit) ⟨bb,rfl,trivial⟩
   cases u with
   |er n=>
    obtain rfl:n=3:=q;exact .inr (x9 [34,(40,.i f.c),42,(48,.i f.c),(55,.z c),56,63,(66,.i (iC (-1))),81] vQ e b o b sc p cI i j)
   |ok u=>
    obtain⟨z,rfl⟩:=q;rw[K];generalize W:rz (f.sh 0 (.ofNat c)) Tm.v (.n0 .unit)=u at j z⊢;have B:=YD (A:=A) (v:=v) (ty:=41) (m:=88) (c:=u.c) (show 0<5 by decide) rfl rfl (by simp only[maxLen];omega) a6;have a:=Ec P G Q r (k+1) m l (v+1) (A++[u.c]) R L I (by rw[w];simp[MA,s,IC]) (by simp[H]) λx d=>C x (by simp[d])
    dsimp only[DS]at a;rw[gD,show(A++[u.c]).length=A.length+1 by simp,show A.length+1+r.length=A.length+(f::r).length by simp;omega,gy]at a;rcases a with ⟨t,a,M⟩|a
    ·exact .inl ⟨t,rk [34,(40,.i f.c),42,(48,.i f.c),(55,.z c),56,63,(66,.i (iC (-1))),81,(92,.ok),36] JH JH (pO e b o b sc p cI i j B F (dB A u.c) a),λx d=>by
      rcases e8.1 d with rfl|d
      ·exact z
      exact M x d⟩
    exact .inr (rk [34,(40,.i f.c),42,(48,.i f.c),(55,.z c),56,63,(66,.i (iC (-1))),81,(92,.ok),36] JH JH (pO e b o b sc p cI i j B F (dB A u.c) a))
  have J:IA m (f::r)=.ofNat m::IA (m+1) r:=by simp only[IA,s]
  have K:VA c (f::r) l=rz (f.sh 0 (.ofNat c)) Tm.v (.v (l-1))::VA c r (l-1):=by simp only[VA,s]
  have ec:l=MA r+1:=by rw[w];simp only[MA,s,IC];omega
  rw[J]at D;have⟨p1,p2,L⟩:=uC D;have i:=EA (c:=iC) (n:=1) p1 λ_=>rfl
  have X:(T.map Ty.c).length=T.length:=a8
  have N:=lC (a:=(T.map Ty.c).length);have O:=gC (a:=(T.map Ty.c).length-1) (b:=m) (z:=.ofNat (l-1)) a6 a6 (by rw[X];simp;omega);have⟨u,j,q⟩:=nW S (by rw[ZH,UL];exact y) (TB (i:=l-1))
  cases u with
  |er n=>
   obtain rfl:n=3:=q;exact .inr (rk [34,(40,.i f.c),42,(48,.i f.c),(55,.z c),56,63,(66,.i (iC (.ofNat m))),71,(74,.i (iC (.ofNat m))),(76,.z (l-1)),77,81] vQ vQ (LS e b o b sc p cI i N i O (IH (l-1)) j (rfl:AE.ret=AE.ret) (rfl:VL=VL)))
  |ok u=>
   obtain⟨z,rfl⟩:=q;rw[K];generalize W:rz (f.sh 0 (.ofNat c)) Tm.v (.v (l-1))=u at j z⊢;have B:=YD (A:=A) (v:=v) (ty:=41) (m:=88) (c:=u.c) (show 0<5 by decide) rfl rfl (by simp only[maxLen];omega) a6;have a:=Ec P G Q r (k+1) (m+1) (l-1) (v+1) (A++[u.c]) R L a6 a6 (by simp[H]) λx d=>C x (by simp[d])
   dsimp only[DS]at a;rw[gD,show(A++[u.c]).length=A.length+1 by simp,show A.length+1+r.length=A.length+(f::r).length by simp;omega,gy]at a;rcases a with ⟨t,a,M⟩|a
   ·exact .inl ⟨t,rk [34,(40,.i f.c),42,(48,.i f.c),(55,.z c),56,63,(66,.i (iC (.ofNat m))),71,(74,.i (iC (.ofNat m))),(76,.z (l-1)),77,81,(92,.ok),36] JH JH (MS e b o b sc p cI i N i O (IH (l-1)) j B F (dB A u.c) a),λx d=>by
     rcases e8.1 d with rfl|d
     ·exact z
     exact M x d⟩
   exact .inr (rk [34,(40,.i f.c),42,(48,.i f.c),(55,.z c),56,63,(66,.i (iC (.ofNat m))),71,(74,.i (iC (.ofNat m))),(76,.z (l-1)),77,81,(92,.ok),36] JH JH (MS e b o b sc p cI i N i O (IH (l-1)) j B F (dB A u.c) a))
abbrev Fc(g:List Ty)(hs:List Fm)(T:List Ty)(pl:List Int):IS:=st [(1,.loc 0 0),(2,.loc 1 0),(4,.pv (rA T)),(6,.pv (uK pl)),(8,.loc 2 0),(9,.pv (num 0))] [(0,bx [rA g,uA hs]),(1,bx [.nils,.nils]),(2,bx [rA T,.nils])] 3 []
def az{g T:List Ty}{f:Fm}{r:List Fm}{pl:List Int}{c l:Nat}(E:g.length+c=T.length)(I:T.length<=32)(p:pl=IA g.length (f::r))(x:g.length+l=T.length)(i:l=MA (f::r))(s:FK g.length f)(j:f.csz<=64):
  Lp 15 0 0 (Fc g (f::r) T pl) .ret VL\/∃m y u,pl.drop 1=IA m r/\m+y=T.length/\y=MA r/\VA c (f::r) l=u::VA c r y/\FK T.length u/\∀e t,Lp 15 0 0 (DS g (f::r) T pl 1 1 [u.c]) e t->Lp 15 0 0 (Fc g (f::r) T pl) e t:=by
 have:=zA;have:=yA;have:nA=100000:=rfl;have a:nB ((f::r).map Fm.c) 0=some f.c/\tB 5 ((f::r).map Fm.c)=true:=EA (g:=f::r) (k:=0) rfl Fm.c_len;have:=s.cnt;have:=s.mx a6;have v:=qQ f a6;have w:=mW s (z:=c);have sc:=gC (a:=(T.map Ty.c).length) (b:=(g.map Ty.c).length) (z:=.ofNat c) a9 a9 (by rw[gB,gB];simp;omega);have B:FK T.length (f.sh 0 (.ofNat c)):=by rw[<-E];exact s.sh 0 c
 cases h:f.has
 ·have z:IA g.length (f::r)= -1::IA g.length r:=by simp only[IA,h]
  have k:VA c (f::r) l=rz (f.sh 0 (.ofNat c)) Tm.v (.n0 .unit)::VA c r l:=by simp only[VA,h]
  rw[z]at p;subst p;have b:nB ((-1::IA g.length r).map iC) 0=some (iC (-1))/\tB 1 ((-1::IA g.length r).map iC)=true:=EA (c:=iC) (n:=1) (g:=-1::IA g.length r) (k:=0) rfl λ_=>rfl
  have⟨u,d,q⟩:=nW B (by rw[ZH,UL];exact j) (t:=.n0 .unit) ⟨bb,rfl,trivial⟩
  cases u with
  |er n=>
   obtain rfl:n=3:=q;exact .inl (x8 [(40,.i f.c),42,(48,.i f.c),(55,.z c),56,63,(66,.i (iC (-1))),81] vQ a v a sc w cI b d)
  |ok u=>
   obtain⟨o,rfl⟩:=q;generalize G:rz (f.sh 0 (.ofNat c)) Tm.v (.n0 .unit)=u at d k o;exact .inr ⟨g.length,l,u,rfl,x,by rw[i];simp[MA,h,IC],k,o,λe t A=>rk [(40,.i f.c),42,(48,.i f.c),(55,.z c),56,63,(66,.i (iC (-1))),81] JH JH (GS a v a sc w cI b d (dB [] u.c) A)⟩
 have z:IA g.length (f::r)=.ofNat g.length::IA (g.length+1) r:=by simp only[IA,h]
 have k:VA c (f::r) l=rz (f.sh 0 (.ofNat c)) Tm.v (.v (l-1))::VA c r (l-1):=by simp only[VA,h]
 have ec:l=MA r+1:=by rw[i];simp only[MA,h,IC];omega
 rw[z]at p;subst p;have b:nB ((.ofNat g.length::IA (g.length+1) r).map iC) 0=some (iC (.ofNat g.length))/\tB 1 ((.ofNat g.length::IA (g.length+1) r).map iC)=true:=EA (c:=iC) (n:=1) (g:=.ofNat g.length::IA (g.length+1) r) (k:=0) rfl λ_=>rfl
 have H:(T.map Ty.c).length=T.length:=a8
 have C:=lC (a:=(T.map Ty.c).length);have D:=gC (a:=(T.map Ty.c).length-1) (b:=g.length) (z:=.ofNat (l-1)) a6 a6 (by rw[H];simp;omega);have⟨u,d,q⟩:=nW B (by rw[ZH,UL];exact j) (TB (i:=l-1))
 cases u with
 |er n=>
  obtain rfl:n=3:=q;exact .inl (rk [(40,.i f.c),42,(48,.i f.c),(55,.z c),56,63,(66,.i (iC (.ofNat g.length))),71,(74,.i (iC (.ofNat g.length))),(76,.z (l-1)),77,81] vQ vQ (KS a v a sc w cI b C b D (IH (l-1)) d (rfl:AE.ret=AE.ret) (rfl:VL=VL)))
 |ok u=>
  obtain⟨o,rfl⟩:=q;generalize G:rz (f.sh 0 (.ofNat c)) Tm.v (.v (l-1))=u at d k o;exact .inr ⟨g.length+1,l-1,u,rfl,a6,a6,k,o,λe t A=>rk [(40,.i f.c),42,(48,.i f.c),(55,.z c),56,63,(66,.i (iC (.ofNat g.length))),71,(74,.i (iC (.ofNat g.length))),(76,.z (l-1)),77,81] JH JH (KS a v a sc w cI b C b D (IH (l-1)) d (dB [] u.c) A)⟩
def ul{g:List Ty}{hs:List Fm}(l:g.length<=16)(a:∀s∈g,s.size<=64)(d:YP hs)(n:∀f∈hs,FK g.length f)(o:g.length+hs.length<=16:=by omega):(A 15 [AA g hs] (.tuple [AA (qB g hs) (yC hs),num 0])/\∀f∈yC hs,FK (qB g hs).length f)\/A 15 [AA g hs] (.tuple [AA [] [],num 4]):=by
 have:=yA;have y:=gO hs;have lt:(qB g hs).length=g.length+MA hs:=by simp[qB,aI]
 have e:=Xk l a a6 d;have i:=dz l a a6 d;have p:dA 16 (.ofNat ((qB g hs).map Ty.c).length)=false:=iA (a:=16) (by rw[gB,lt];omega)
 cases hs with
 |nil=>
  left;have h:Lp 15 0 0 (Fc g [] (qB g []) []) (.exit 0) (st [(2,.loc 1 0),(4,.pv (rA (qB g []))),(8,.loc 2 0)] [(1,bx [.nils,.nils]),(2,bx [rA (qB g []),.nils])] 7 []):=x0 [] ⟨[2,4,8],[1,2],7,[]⟩;exact⟨f4 [16,25,(100007,.l ⟨[1,2,4,6,8,9],[0,1,2],3,[]⟩ (.exit 0) (st [(2,.loc 1 0),(4,.pv (rA (qB g []))),(8,.loc 2 0)] [(1,bx [.nils,.nils]),(2,bx [rA (qB g []),.nils])] 7 [])),96] e i h p,nofun⟩
 |cons f r=>
  generalize H:qB g (f::r)=T at *
  generalize k:MA (f::r)=c at *
  have o:g.length+(r.length+1)<=16:=by simpa using o
  have:c<=r.length+1:=by simpa using y
  rcases az (g:=g) (T:=T) (f:=f) (r:=r) (c:=c) (l:=c) lt.symm a6 rfl lt.symm k.symm (n f a8) (d f a8).2 with h|⟨m,t,u,z,B,C,v,D,w⟩
  ·exact .inr (f3 [16,25,(100007,.l ⟨[1,2,4,6,8,9],[0,1,2],3,[]⟩ .ret VL)] e i h)
  rcases Ec (g:=g) (T:=T) (hs:=f::r) (pl:=IA g.length (f::r)) (c:=c) a9 lt.symm a6 r 1 m t 1 [u.c] rfl z B C rfl (λx b=>⟨n x (by simp[b]),(d x (by simp[b])).2⟩)with ⟨E,h,F⟩|h
  ·left;have h:=w _ _ h;rw[show [u.c]++(VA c r t).map Fm.c=(yC (f::r)).map Fm.c by rw[yC,k,v];rfl]at h;have h:=LoopIs.fz a8 h 6 (ver:=E) (sz:=5) (ty:=41) (ps:=(yC (f::r)).map Fm.c) rfl bG;simp (decide:=true) only[eD,XC,VB,sC,UC,bx,List.map,BC,and_self,false_and,↓reduceIte,gu (show((yC (f::r)).map Fm.c).length<=[u.c].length+r.length by simp[YV];omega)]at h;refine⟨f4 [16,25,(100007,.l ⟨[1,2,4,6,8,9],[0,1,2],3,[]⟩ (.exit 0) (st [(2,.loc 1 0),(4,.pv (rA T)),(8,.loc 2 0)] [(1,bx [.nils,.nils]),(2,bx [rA T,uA (yC (f::r))])] 7 [])),96] e i h p,λx j=>?_⟩;rw[yC,k,v]at j;rcases e8.1 j with rfl|j
   ·exact D
   exact F x j
  exact .inr (f3 [16,25,(100007,.l ⟨[1,2,4,6,8,9],[0,1,2],3,[]⟩ .ret VL)] e i (w _ _ h))
def pW:∀f:Fm,f.tsz<=64->f.shp=true
 |.eq a b,h=>by
  have h:max a.tsz b.tsz<=64:=h;show(_&&_)=true;rw[sI a a6,sI b a6];rfl
 |.bin _ a b,h=>by
  have h:max a.tsz b.tsz<=64:=h;show(_&&_)=true;rw[pW a a6,pW b a6];rfl
 |.q _ s a,h=>by
  have h:max s.size a.tsz<=64:=h;show(_&&_)=true;rw[pW a a6,Cb];rfl
section
variable{g:List Ty}{f:Fm}
theorem FS.chk(h:FS g f):f.chk=0:=wW (pW f (by have:=h.tsz;omega)) (by have:=h.cnt;omega)
def FS.gx(h:FS g f):f.gx:=h.nx.x bb
def FS.fbd(h:FS g f)(a:g.length<=1000):FBd kC f:=FG.fbd h.toFG a bb (e6 _)
def FS.cz(h:FS g f):f.csz<=64:=by have:=h.csz;omega
end
def y7{L:List Int}(i:Dk L){a:Nat}(r:a<=L.length):∃(g:List Ty)(hs:List Fm)(b:Nat),g.length<=3/\(∀s∈g,s.size<=3)/\hs.length<=2/\(∀f∈hs,FS g f)/\b<=L.length/\O 7 [.loc 0 0] [(0,dk L a)] (.pv (AA g hs)) [(0,dk L b)]:=by
 have:=zA;have⟨g,b,j,h,t,k⟩:=a7 i r;have⟨x,c,z,m,l⟩:=nx i t (n:=3) a6 a6;have⟨f1,d,n,o,p⟩:=RV i h a6 m;have⟨f2,e,u,v,w⟩:=RV i h a6 o;rcases x with _|_|_|x
 ·exact⟨g,[],c,j,h,a8,nofun,m,o2 1 [6,9] k l⟩
 ·exact⟨g,[f1],d,j,h,a8,by simpa using n,o,o3 1 [6,9,19] k l p⟩
 ·exact⟨g,[f1,f2],e,j,h,a8,by simp;exact⟨n,u⟩,v,o4 1 [6,9,19,19] k l p w⟩
 omega
def y8{L:List Int}(g:Dk L){a:Nat}(m:a<=L.length):∃(hs:List Fm)(b:Nat),hs.length<=2/\(∀f∈hs,FS [] f)/\b<=L.length/\O 8 [.loc 0 0] [(0,dk L a)] (.pv (uA hs)) [(0,dk L b)]:=by
 have:=zA;have⟨x,c,s,i,h⟩:=nx g m (n:=3) a6 a6;have⟨f1,d,j,k,l⟩:=RV g (g:=[]) nofun a8 i;have⟨f2,e,n,o,p⟩:=RV g (g:=[]) nofun a8 k;rcases x with _|_|_|x
 ·exact⟨[],c,a8,nofun,i,o1 1 [6] h⟩
 ·exact⟨[f1],d,a8,by simpa using j,k,o2 1 [6,13] h l⟩
 ·exact⟨[f1,f2],e,a8,by simp;exact⟨j,n⟩,o,o3 1 [6,13,13] h l p⟩
 omega
def Gc{L:List Int}(d:Dk L){f:Fm}(c:FS [] f){a:Nat}(g:a<=L.length):∃(x:Tm)(b:Nat),(TK 0 x/\Ht [] x f.ctu)/\b<=L.length/\A 22 [f.p] (TR.ok f.ctu).p/\JP L [] f.ctu (num 2) a x b:=by
 have⟨i,q⟩:=yW c.chk c.cz;have:=c.csz;have⟨x,b,q,j,h⟩:=kO d (S:=16) a6 a6 2 f.ctu [] a a6 nofun a8 g;have e:tb 16 2=1376:=rfl;have:=q.cnt;have:=q.tsz;exact⟨x,b,⟨⟨a6,sI x a6,q.sc⟩,HE x [] _ q.ty⟩,j,i,h⟩
def y9{L:List Int}(j:Dk L){e:List Fm}(l:e.length<=2)(d:∀f∈e,FS [] f){a:Nat}(m:a<=L.length):∃(tl:List Tm)(b:Nat),FitL e tl/\b<=L.length/\O 9 [.loc 0 0,.pv (uA e)] [(0,dk L a)] (.pv (row tl)) [(0,dk L b)]:=by
 have ty:∀f∈e,f.chk=0/\f.ty []:=λf h=>⟨(d f h).chk,(d f h).ty⟩
 match e,l,d,ty with
 |[],_,_,ty=>exact⟨[],a,⟨a8,rfl,ty,λi f t h=>by simp at h⟩,m,o0 1 []⟩|[f],_,d,ty=>
  have⟨x,b,q,n,o,s⟩:=Gc j (d f a8) m;refine⟨[x],b,⟨a8,rfl,ty,λi u t h k=>?_⟩,n,o2 1 [18,27] o s⟩
  match i with|0=>simp at h k;subst h;subst k;exact q|i+1=>simp at h
 |[f,h],_,d,ty=>
  have⟨x,b,q,n,o,s⟩:=Gc j (d f a8) m;have⟨y,c,p,v,w,z⟩:=Gc j (d h a8) n;refine⟨[x,y],c,⟨a8,rfl,ty,λi u t g k=>?_⟩,v,o4 1 [18,27,18,27] o s w z⟩
  match i with|0=>simp at g k;subst g;subst k;exact q|1=>simp at g k;subst g;subst k;exact p|i+2=>simp at g
 |f::h::k::r,l,_,_=>simp at l
open Go.Lg
def bl:∀(r:List Fm)(u:List Tm),(∀f∈r,f.tq [])->(∀(i:Nat)(f:Fm)(t:Tm),r[i]? =some f->u[i]? =some t->f.has=true->Ht [] t f.cty)->∀y∈WB r u,y.hq []
 |[],_,_,_=>by intro y hy;simp[WB]at hy|_::_,[],_,_=>by intro y hy;simp[WB]at hy|f::r,t::u,h,k=>by
  intro y hy;rcases e8.1 hy with rfl|hy
  ·exact SC f [] [] Tm.v t (pH _ _ (h f a8)) (λi s e=>e) (k 0 f t rfl rfl)
  exact bl r u (λx a=>h x (by simp[a])) (λi f t b c=>k (i+1) f t (by simpa using b) (by simpa using c)) y hy
def Hc{G g:List Ty}{c:Nat}(b:∀i u,ZA g i=.ok u->ZA G (i+c)=.ok u):∀(r:List Fm)(l:Nat),(∃P,G=P++jB r)->l=MA r->(∀f∈r,f.tq g)->∀y∈VA c r l,y.hq G
 |[],_,_,_,_=>by intro y hy;simp[VA]at hy|f::r,l,⟨P,e⟩,j,h=>by
  intro y hy;have key:∀t:Tm,(f.has=true->Ht G t f.cty)->(rz (f.sh 0 (.ofNat c)) Tm.v t).hq G:=λt m=>by
   rw[ZH,RF];exact SC f g G _ t (pH _ _ (h f a8)) (λi s e=>by
    show ZA G (QC 0 c i)=_;rw[show QC 0 c i=i+c by simp[QC]];exact b i s e) m
  cases a:f.has
  ·rw[show VA c (f::r) l=rz (f.sh 0 (.ofNat c)) Tm.v (.n0 .unit)::VA c r l by simp only[VA,a]]at hy;rcases e8.1 hy with rfl|hy
   ·exact key _ λe=>by rw[a]at e;cases e
   exact Hc b r l ⟨P,by simpa[jB,a]using e⟩ (by rw[j];simp[MA,a,IC]) (λx d=>h x (by simp[d])) y hy
  rw[show VA c (f::r) l=rz (f.sh 0 (.ofNat c)) Tm.v (.v (l-1))::VA c r (l-1) by simp only[VA,a]]at hy;have ec:l-1=MA r:=by rw[j];simp[MA,a,IC]
  have k:G=P++f.cty::jB r:=by simpa[jB,a]using e
  rcases e8.1 hy with rfl|hy
  ·refine key _ λ_=>?_
   show ZA G (l-1)=_;rw[k,ec,<-aI,Kk]
  exact Hc b r (l-1) ⟨P++[f.cty],by simpa using k⟩ ec (λx d=>h x (by simp[d])) y hy
section
variable{ls:List Fm}{tl:List Tm}{g:List Ty}{hs:List Fm}(Q:SQ2 ls g hs)(F:FitL ls tl)
def FitL.has{i:Nat}{f:Fm}{t:Tm}(F:FitL ls tl)(h:ls[i]? =some f)(k:tl[i]? =some t)(e:f.has=true):Ht [] t f.cty:=by
 have:=(F.ht i f t h k).2;unfold Fm.ctu at this;rwa[e]at this
def FitL.T(F:FitL ls tl)(i:Nat)(f:Fm)(h:ls[i]? =some f)(e:f.has=true):∃t,tl[i]? =some t/\Ht [] t f.cty:=by
 have⟨t,k,_⟩:=F.HT i f h;exact⟨t,k,F.has h k e⟩
include F in
theorem iz:qN ls (WB ls tl) tl:=by
 refine⟨λf a=>pC _ _ (F.ty f a).2,λi t k=>?_,λi f h=>?_,F.T⟩
 ·obtain⟨f,h⟩:∃f,ls[i]? =some f:=⟨_,e7 (by rw[F.len];exact(gf.1 k).1)⟩;exact(F.ht i f t h k).1.sc
 have⟨t,k,_⟩:=F.HT i f h;refine⟨(Yb (F.ty f (gg h))).sc,_,Pk ls tl i f t h k,?_⟩;unfold tv;rw[k];exact .refl _
variable{j:Jt}(hD:j.D ls g hs)(hO:j.OK ls g.length hs)
include Q F hD hO
theorem oz:(CF tl g hs j).hq (qB g hs):=by
 have b:=iG (λf a=>pC _ _ (F.ty f a).2) j g hs (λf a=>pC _ _ (Q.hs f a).2) hD;refine SC _ g _ _ _ (pH _ _ b) Q.so.T.v λe=>?_
 rw[show j.tx tl (FC g hs)=j.xt tl (FC g hs) by unfold Jt.tx;rw[e];rfl];exact RC F.T j g g.length hs (qB g hs) (FC g hs) rfl hD hO Q.so.S Q.so.T e
variable(hR:∀f∈WB ls tl,FK 0 f)(hH:∀f∈yC hs,FK (qB g hs).length f)(hT:∀s∈qB g hs,s.size<=64)(hl:g.length+hs.length<=16)
include hR hH hT hl
theorem xz(H:MF){X:Pf}(p:(j.pv tl (FC g hs)).p=X)(c:X.ck)(v:X.cnt<=16384):
  ∃r:PR,A 26 [uA (WB ls tl),AA (qB g hs) (yC hs),X.p] r.p/\(∀n,r=.er n->Lm (n+1))/\∀f u,r=.ok f u->FCv f (CF tl g hs j)/\SQ2 (WB ls tl) (qB g hs) (yC hs)/\∃b:Jt,b.p=X/\b.f=f/\b.D (WB ls tl) (qB g hs) (yC hs):=by
 subst p;have:=zA;have:=yA;have:=gO hs;have lt:(qB g hs).length=g.length+MA hs:=by simp[qB,aI]
 have:(yC hs).length=hs.length:=YV _ _ _;have:(WB ls tl).length=ls.length:=gc ls tl F.len;have N:=F.ll;have⟨w1,w2⟩:=yE (iz F) j g hs _ _ _ Q.so hD hO;have w:=UF w1 c;have:=FH _ _ _ _ w;have:=EH _ c;have:eB=1125899902742528:=rfl;have:mA=8388608:=rfl;have:nA=100000:=rfl;have z:Cf (WB ls tl) (qB g hs) (yC hs):=⟨λf a=>⟨(hR f a).chk,bl ls tl (λf a=>pC _ _ (F.ty f a).2) (λi f t h k e=>F.has h k e) f a⟩,λf a=>⟨(hH f a).chk,Hc (λi u e=>by show ZA (g++jB hs) (i+MA hs)=_;rw[<-aI,Zb];exact e) hs _ ⟨g,rfl⟩ rfl (λf a=>pC _ _ (Q.hs f a).2) f a⟩⟩;have⟨r,B,C,E⟩:=Df H (X:=1000000) (ls:=WB ls tl) (g:=qB g hs) (hs:=yC hs) (p:=(j.pv tl (FC g hs)).p) ⟨λf a=>⟨by have:=(hR f a).cnt;omega,by have:=FD f (hR f a).shp;omega,by have:=(hR f a).mx a6;omega⟩,λf a=>⟨by have:=(hH f a).cnt;omega,by have:=FD f (hH f a).shp;omega,by have:=(hH f a).mx a6;omega⟩,λs hs=>by have:=hT s hs;omega,a6,a6,a6,a6,a6,a6,a6⟩;refine⟨r,B,λn e=>E n e z c v _ w,λf u e=>?_⟩;have⟨G,_,_,_,_,⟨b,d,l,m,_⟩,_⟩:=C f u e;refine⟨?_,G,b,d,l,m⟩;have o:=w;rw[<-d]at o;rw[<-l];refine(PB.un m o).trans (w2.trans ?_);rw[Iy];exact .refl _
theorem Az(H:MF){X:Pf}(p:(j.pv tl (FC g hs)).p=X)(t:X.ck)(v:X.cnt<=16384)(c:FK (g.length+MA hs) (CF tl g hs j)):
  ∃e,A 16 [uA (WB ls tl),AA (qB g hs) (yC hs),X.p,(CF tl g hs j).p] (num e)/\(e=0\/Lm e):=by
 have:=zA;have:=yA;have:eB=1125899902742528:=rfl;have:nA=100000:=rfl;have:=gO hs;have lt:(qB g hs).length=g.length+MA hs:=by simp[qB,aI]
 have:=FD _ c.shp;have:=c.cnt;have i:=oz Q F hD hO;have⟨r,d,y,z⟩:=xz Q F hD hO hR hH hT hl H p t v
 cases r with
 |er n=>exact⟨n+1,f1 [16] d,.inr (y n rfl)⟩|ok f u=>
  have⟨a,k,l,_,B,b⟩:=z f u rfl;have⟨e,m,_,h⟩:=WS (qB g hs) (CF tl g hs j) (λs hs=>by have:=hT s hs;omega);have h:=h c.chk i
  cases e with
  |succ e=>exact⟨e+1,f2 [16,25] d m,.inr (h.resolve_left (ej _))⟩|zero=>
   have o:=AI b;have⟨M,C⟩:=Fm.chk0 o;have:=FD _ C;have:=OJ (pH _ _ (iG (λf a=>pC _ _ (k.ls f a).2) l _ _ (λf a=>pC _ _ (k.hs f a).2) b));have:=OJ i;subst B;have⟨e,E,_,q⟩:=Wc l.f (CF tl g hs j);exact⟨e,f3 [16,25,32] d m E,q a ⟨o,a6⟩ ⟨c.chk,a6⟩⟩
end
def a4:A 4 [] (.bool true):=
 f6 [14,20,24,28,60,61] Lw Nw nj Iw nj Hw
def lO{e:Nat}(h:Lm e):A 13 [num e] (.bool true):=by
 have h:e=3\/e=4\/e=5:=by have h:=h;simp only[Lm]at h;omega
 rcases h with rfl|rfl|rfl<;>exact f0 []
def dl:A 13 [num 0] (.bool false):=f0 []
def ml:∀r:List Fm,(∀f∈r,f.has=true->f.cty.size<=64)->∀s∈jB r,s.size<=64
 |[],_=>by intro s hs;simp[jB]at hs|f::r,h=>by
  intro s hs;have b:=ml r (λx c=>h x (by simp[c])) s;cases a:f.has
  ·rw[show jB (f::r)=jB r by simp only[jB,a]]at hs;exact b hs
  rw[show jB (f::r)=f.cty::jB r by simp only[jB,a]]at hs;rcases e8.1 hs with rfl|hs
  ·exact h f a8 a
  exact b hs
def Bz{L:List Int}(S:∀z∈L,-9223372036854775808<=z/\z<=9223372036854775807):A 3 [.slice (L.map zL)] (.bool true):=by
 have b:=a5 L;by_cases c:L.length<=500;rotate_left
 ·rw[aaP c]at b;exact f3 [18,22,25] a4 b a4
 rw[aaU c]at b;have C:Dk L:=⟨c,S⟩;have⟨g,hs,b1,z1,J,z3,d,G,l⟩:=y7 C (c6 L.length);have⟨w,b2,l1,v,H,m⟩:=y8 C G;have⟨tl,b3,F,I,n⟩:=y9 C l1 v H;have T:S19 kC w g hs:=⟨a6,λf h=>(v f h).fbd a8,a6,J,a6,λf h=>(d f h).fbd a6,e6 _,λf h=>(v f h).gx,λf h=>(d f h).gx⟩;have Q:SQ2 w g hs:=⟨λf h=>⟨(v f h).chk,(v f h).ty⟩,a6,λs h=>by have:=J s h;omega,a6,λf h=>⟨(d f h).chk,(d f h).ty⟩⟩;have K:YP hs:=λf h=>⟨(d f h).chk,(d f h).cz⟩
 have U:∀s∈qB g hs,s.size<=64:=λs h=>by
  rcases eh.1 h with h|h
  ·exact Q.gs s h
  refine ml hs (λf y e=>?_) s h;have:=(yW (d f y).chk (d f y).cz).2;rw[QG e]at this;have:=(d f y).cz;omega
 obtain⟨p,r,b4,⟨M,N,V,j,rfl,D⟩,_,o⟩:=Kx xk C (k:=3) a6 bb T I;have B:=sF (λf h=>(v f h).gx) j g hs (λf h=>(d f h).gx) D V;have⟨W,Y⟩:=Sk Q F D M N B;generalize O:(j.pv tl (FC g hs)).p=X;have a:=uz Q F D M N B (λf h=>(d f h).gx) a6 O;rcases Y with h|⟨Z,h,hk⟩
 ·have k:A 11 [uA w,row tl,AA g hs,j.p.p] (FR.er 3).p:=f1 [19] h;rcases a with a|⟨_,_,a⟩
  ·exact f9 [18,22,29,31,34,39,47,55,65] a4 b l m n o k a (lO (e:=4) bb)
  exact f9 [18,22,29,31,34,39,47,55,65] a4 b l m n o k a (lO (e:=4) bb)
 have k:A 11 [uA w,row tl,AA g hs,j.p.p] (FR.ok (CF tl g hs j)).p:=f1 [19] h;rcases a with a|⟨k1,k2,a⟩
 ·exact bJ [18,22,29,31,34,39,47,55,65,68] a4 b l m n o k a dl (lO (e:=4) bb)
 have FL:lc w tl:=⟨F.ll,F.len,λf h=>⟨Yb (F.ty f h),(v f h).gx⟩,λt h=>by
  have⟨i,P⟩:=List.mem_iff_getElem?.1 h;obtain⟨f,y⟩:∃f,w[i]? =some f:=⟨_,e7 (by rw[F.len];exact(gf.1 P).1)⟩;exact(F.ht i f t y P).1⟩
 rcases yz FL Z with ⟨x,hR⟩|x;rotate_left
 ·rcases ul Q.gl Q.gs K Q.FK with ⟨u,_⟩|u
  ·exact qM [18,22,29,31,34,39,47,55,73,78,88] a4 b l m n o k a x u (lO (e:=4) bb)
  exact qM [18,22,29,31,34,39,47,55,73,78,88] a4 b l m n o k a x u (lO (e:=4) bb)
 rcases ul Q.gl Q.gs K Q.FK with ⟨u,hH⟩|u;rotate_left
 ·exact NS [18,22,29,31,34,39,47,55,73,78,88,91] a4 b l m n o k a x u dl (lO (e:=4) bb)
 have⟨e,R,E⟩:=Az Q F D W hR hH U a6 xk O k1 k2 hk;rcases E with rfl|E
 ·exact qM [18,22,29,31,34,39,47,55,73,78,97] a4 b l m n o k a x u R
 have g9:=lO E;obtain rfl|rfl|rfl:e=3\/e=4\/e=5:=by simp only[Lm]at E;omega
 all_goals exact NS [18,22,29,31,34,39,47,55,73,78,97,102] a4 b l m n o k a x u R g9
end Go.Proofs.YtbebdmlomjpamaaGreatDoor
