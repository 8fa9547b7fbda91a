/- Contracts of functions; no conditions. -/
import Derived.Test.YtbebdmlomjpamaaGreatDoorAccC8
import Derived.Test.YtbebdmlomjpamaaGreatDoorAccB2
import Derived.Test.YtbebdmlomjpamaaGreatDoorAccC7
import Derived.Test.YtbebdmlomjpamaaGreatDoorAccC5
set_option linter.all false
set_option maxHeartbeats 4000000
namespace Go.Proofs.YtbebdmlomjpamaaGreatDoor
open Go.Lg
set_option maxRecDepth 100000
def F9:cs (.v 0) (XB Tm.v)=Tm.v:=by
 funext i
 cases i with|zero=>rfl|succ i=>rfl
def Np(x:Fm)(t:Tm):rz (x.sh 0 (.ofNat 1)) Tm.v t=rz x (XB Tm.v) t:=by
 have:=UT x (XB Tm.v) (.v 0) t;rwa[F9]at this
def FQ.rz:FQ->FQ|.allU=>.all|k=>k
def sf{n:Nat}{s:Ty}{x X:Fm}{t:Tm}(k:FQ)(w:k≠.ex)(l:s.size<=64)(o:FK (n+1) x)(i:TK n t)(p:n+1<=nA)(H:RZ (n+1) x (match k with|.all=>bif x.has then t.ap else t.u1|_=>t.u1) X):
  RZ n (.q k s x) t (.q k.rz s X):=by
 have u:=zA;have:=yA;have:nA=100000:=rfl;have:200000<=qA*qA:=by rw[u];decide
 have:=i.mx a6;have h:=i.cnt;have a:=rD t a6;have b:=iA (a:=4096) h;have c:=IM t 0 1;have d:=WO o p;have j:=Mp (t:=t);have⟨r,g,q⟩:=H;refine⟨.un k.rz s r,?_,vR l q⟩
 cases k with
 |ex=>grind|all=>
  cases e:x.has<;>rw[e]at d g
  ·cases r with|er m=>exact f5 [13,14,65,74,84] a b c d g|ok f=>exact f6 [13,14,65,74,84,100] a b c d g (zU .all s q.1.cnt)
  cases r with|er m=>exact f6 [13,14,65,74,77,84] a b c d j g|ok f=>exact f7 [13,14,65,74,77,84,100] a b c d j g (zU .all s q.1.cnt)
 |allU=>
  cases r with|er m=>exact f4 [13,14,65,84] a b c g|ok f=>exact f5 [13,14,65,84,100] a b c g (zU .all s q.1.cnt)
 |exU=>
  cases r with|er m=>exact f4 [13,14,65,84] a b c g|ok f=>exact f5 [13,14,65,84,100] a b c g (zU .exU s q.1.cnt)
structure TL(n:Nat)(t:Tm):Prop where
 cnt:t.cnt<=8192
 shp:t.shp=true
 sc:t.sc n
def TK.tl{n:Nat}{t:Tm}(h:TK n t):TL n t:=⟨by have:=h.cnt;omega,h.shp,h.sc⟩
def TK.tl1{n:Nat}{t:Tm}(h:TK n t)(k:K1):TL n (.n1 k t):=⟨by have:=h.cnt;show 1+t.cnt<=_;omega,h.shp,h.sc⟩
def TK.tlu{n:Nat}{t:Tm}(h:TK n t):TL (n+1) t.u1:=⟨by have:=h.cnt;rw[LC];omega,by rw[oK];exact h.shp,rG 1 t 0 n h.sc⟩
def TK.tla{n:Nat}{t:Tm}(h:TK n t):TL (n+1) t.ap:=⟨by have:=h.cnt;show 1+(t.sh 0 (.ofNat 1)).cnt+1<=_;rw[LC];omega,by show(_&&_)=true;rw[h.tlu.shp];rfl,h.tlu.sc,aaJ n⟩
def G9:∀(m n:Nat)(f:Fm)(t:Tm),f.fn<=m->f.cnt<=4097->f.cnt<=4096+f.ne->f.shp=true->f.sc n->f.gx->TL n t->n+m<=nA->RZ n f t (rz f Tm.v t):=by
 intro m
 induction m with
 |zero=>intro n f t h;cases f<;>simp[Fm.fn]at h<;>omega
 |succ m B=>
  intro n f t D E P H c j i hn;have hb:=yA;have hl:nA=100000:=rfl;have Q:=i.cnt;have l:=rD t a6;by_cases I:t.cnt<=4096;rotate_left
  ·exact⟨.er 3,f2 [13,14] l (KA (a:=4096) (i3 I)),rfl⟩
  have A:=iA (a:=4096) I;have d:TK n t:=⟨I,i.shp,i.sc⟩
  cases f with
  |eq a b=>
   refine⟨.ok (.eq a b),f2 [13,14] l A,⟨P,H,c⟩,?_⟩;show _=Fm.eq (a.sub Tm.v) (b.sub Tm.v);rw[eC,eC]
  |bin k x y=>
   have D:1+x.fn+y.fn<=m+1:=D;have E:1+x.cnt+y.cnt<=4097:=E;have c1:=EX x;have c2:=EX y;have⟨o,p⟩:=JA H;have v:FK n x:=⟨a6,o,c.1⟩;have L:FK n y:=⟨a6,p,c.2⟩;have ix:=λu(C:TL n u)=>B n x u a6 a6 a6 o c.1 j.1 C a6
   have F:=λu(C:TL n u)=>B n y u a6 a6 a6 p c.2 j.2 C a6
   have G:=WO v;have J:=WO L
   cases k with
   |and=>
    show RZ n _ t (bif x.has&&y.has then _ else _);cases R:x.has<;>rw[R]at G
    ·have⟨r,g,q⟩:=jU .and (ix t i) (F t i);exact⟨r,f4 [13,14,26,50] l A G g,q⟩
    cases S:y.has<;>rw[S]at J
    ·have⟨r,g,q⟩:=jU .and (ix t i) (F t i);exact⟨r,f5 [13,14,26,32,50] l A G J g,q⟩
    have⟨r,g,q⟩:=jU .and (ix _ (d.tl1 .fst)) (F _ (d.tl1 .snd));exact⟨r,f7 [13,14,26,32,35,37,50] l A G J (mY .fst t) (mY .snd t) g,q⟩
   |imp=>
    have up:∀{z:Fm}{u:Tm},z.fn<=m->z.cnt<=4096->z.shp=true->z.sc n->z.gx->TL (n+1) u->RZ (n+1) (z.sh 0 (.ofNat 1)) u (rz z (XB Tm.v) u):=λ{z u}T a2 U V W X=>by
     rw[<-Np];have e:=ZH z 0 1;exact B (n+1) (z.sh 0 (.ofNat 1)) u (by rw[e,jR];exact T) (by rw[MD];omega) (by rw[MD];omega) (by rw[gQ];exact U) (xJ 1 z 0 n V) (by rw[e];exact MJ z _ W) X a6
    have⟨r,g,q⟩:=D9 (x:=x) (y:=y) (t:=t) (u:=bif x.has then rz x (XB Tm.v) (.v 0)else rz x Tm.v t) (v:=bif x.has then rz y (XB Tm.v) (bif y.has then t.ap else t.u1)else rz y Tm.v t) v L d a6
     (λe=>by rw[e];exact⟨ix t i,F t i⟩) (λe=>by
      rw[e];refine⟨up a6 a6 o c.1 j.1 ⟨aab,rfl,aaJ n⟩,up a6 a6 p c.2 j.2 ?_⟩;cases y.has
      ·exact d.tlu
      exact d.tla)
    refine⟨r,f3 [13,14,57] l A g,?_⟩;show r.Gd n (bif x.has then _ else _);cases e:x.has<;>rw[e]at q<;>exact q
  |q k s x=>
   have D:1+x.fn<=m+1:=D;have E:1+x.cnt<=4097:=E;have⟨o,p⟩:=JA H;have v:FK (n+1) x:=⟨a6,p,c⟩;have ix:=λu(C:TL (n+1) u)=>B (n+1) x u a6 a6 a6 p c j.1 C a6
   cases k with
   |all=>
    refine sf .all a8 (lD o) v d a6 ?_;show RZ _ _ _ (rz x (aA Tm.v) _);rw[MM];refine ix _ ?_;cases x.has
    ·exact d.tlu
    exact d.tla
   |allU=>
    refine sf .allU a8 (lD o) v d a6 ?_;show RZ _ _ _ (rz x (aA Tm.v) _);rw[MM];exact ix _ d.tlu
   |exU=>
    refine sf .exU a8 (lD o) v d a6 ?_;show RZ _ _ _ (rz x (aA Tm.v) _);rw[MM];exact ix _ d.tlu
   |ex=>
    have⟨r,g,q⟩:=E9 (s:=s) (x:=x) (t:=t) (X:=rz (.q .ex s x) Tm.v t) v d a6 (λw u M N wc Y=>by
     have e:=VO x w;have ne:(x.put 0 w 0).ne=x.ne:=by rw[e,zR]
     have K:w.shp=true/\w.sc n/\TL n u:=by
      subst M N;cases x.has
      ·exact⟨d.shp,d.sc,i⟩
      exact⟨d.shp,d.sc,d.tl1 .snd⟩
     have Z:rz (.q .ex s x) Tm.v t=rz (x.put 0 w 0) Tm.v u:=by
      rw[jN,eC];subst M N;show(bif x.has then _ else _)=_;cases x.has<;>rfl
     rw[Z];refine B n _ u (by rw[e,jR];omega) ?_ (by rw[ne];exact Y) (xK 0 w x 0 (.inl K.1) p) (rM w n x 0 c (.inl K.2.1)) (by rw[e];exact MJ x _ j.1) K.2.2 a6;rcases j.2 rfl with O|O
     ·have:=aK 0 w x 0;rw[ir,O]at this;omega
     omega)
    exact⟨r,f3 [13,14,107] l A g,q⟩
def Pp{f:Fm}{t:Tm}:rz f Tm.v (bif f.has then t else .n0 .unit)=rz f Tm.v t:=by
 cases e:f.has
 ·grind[II]
 rfl
def kN{n:Nat}{f:Fm}{t:Tm}(a:FK n f)(k:f.gx)(b:TK n t)(p:n<=90000:=by omega):∃r:FR,A 35 [f.p,t.p] r.p/\r.Gd n (rz f Tm.v t):=by
 have:=zA;have:nA=100000:=rfl;have:=a.cnt;have:=Ip f;have:=a.mx a6;have:=b.mx a6;have d:=a.a89;have h:=b.a92;have i:=df f;have j:=LJ t a6;have c:=WO a;have key:∀u:Tm,TL n u->RZ n f u (rz f Tm.v u):=λu o=>G9 f.fn n f u (e6 _) a6 a6 a.shp a.sc k o a6
 rw[<-Pp];cases e:f.has<;>rw[e]at c
 ·have⟨r,g,q⟩:=key (.n0 .unit) ⟨aab,rfl,trivial⟩;exact⟨r,f7 [9,15,21,24,28,30,33] d h i j c sD g,q⟩
 have⟨r,g,q⟩:=key t b.tl;exact⟨r,f6 [9,15,21,24,28,33] d h i j c g,q⟩
abbrev pE:PV:=.iface 46 (num 4)
abbrev Po(f:Nat)(args:List V)(objs:List (Nat×Ob)):Prop:=AC Tryz.prog gl f args objs (.panic pE) []
abbrev vU(f:Nat)(args:List V)(objs:List (Nat×Ob))(m rg ds:Nat)(tp:Di):Prop:=Wa ev Tryz.prog 100 6 f args objs m rg ds tp pE
abbrev Pn(f:Nat)(args:List PV):Prop:=Po f (args.map .pv) []
def wU{f:Nat}{args:List V}{a:List (Nat×Ob)}(m rg b:Nat)(c:Di){B:Prop}(h:B)(e:B=vU f args a m rg b c):Po f args a:=AV evOK (e▸h)
section
variable{f:Nat}{args:List PV}(rg ds:Nat)(tp:Di){H1 H2 H3 H4 H5 H6 H7 H8 H9 H10 H11 H12 H13 H14 H15 H16 H17 lF UD H20 H21 H22 H23 H24 H25 H26 H27 fF H29 H30:Prop}(h1:H1)(h2:H2)(h3:H3)(h4:H4)(h5:H5)(h6:H6)(h7:H7)(h8:H8)(h9:H9)(h10:H10)(h11:H11)(h12:H12)(h13:H13)(h14:H14)(h15:H15)(h16:H16)(h17:H17)(QE:lF)(NG:UD)(h20:H20)(h21:H21)(h22:H22)(h23:H23)(h24:H24)(h25:H25)(h26:H26)(h27:H27)(kO:fF)(h29:H29)(h30:H30)[Ans H1][Ans H2][Ans H3][Ans H4][Ans H5][Ans H6][Ans H7][Ans H8][Ans H9][Ans H10][Ans H11][Ans H12][Ans H13][Ans H14][Ans H15][Ans H16][Ans H17][Ans lF][Ans UD][Ans H20][Ans H21][Ans H22][Ans H23][Ans H24][Ans H25][Ans H26][Ans H27][Ans fF][Ans H29][Ans H30]
def pk{B:Prop}[AnsL B](h:B)(e:B=vU f (args.map .pv) [] 0 rg ds (fill tp (AnsL.d B))):Pn f args:=AV evOK (e▸h)
def af:=@pk f args rg ds tp _ _ (⟨rfl,trivial⟩:V.pv pE=V.pv pE/\True)
def kU:=@pk f args rg ds tp _ _ (XL h1 trivial)
def cf:=@pk f args rg ds tp _ _ (SG h1 h2 trivial)
def I9:=@pk f args rg ds tp _ _ (YL h1 h2 h3 trivial)
def J9:=@pk f args rg ds tp _ _ (bK h1 h2 h3 h4 trivial)
end
def uE(t:Tm):A 99 [t.p,num 0] t.p:=f0 []
abbrev FR.b(r:FR):PV:=.agg [num r.k,num r.tk,.slice r.te,.slice r.ts,.slice r.es]
def xf(f:Fm):A 175 [f.p,num 0] f.p:=f0 []
def Rp:Pn 175 [(FR.er 3).b,num 4]:=af 2 99999 [] bG
def Af:A 164 [num 0,num 0] (num 0):=f0 []
def Sp:Pn 164 [num 0,num 4]:=af 2 99999 [] bG
section
variable{f:Nat}{args:List PV}{x:PV}(tp:Di){H1 H2 H3 H4 H5 H6 H7 H8 H9 H10 H11 H12 H13 H14 H15 H16 H17 lF UD H20 H21 H22 H23 H24 H25 H26 H27 fF H29:Prop}(h1:H1)(h2:H2)(h3:H3)(h4:H4)(h5:H5)(h6:H6)(h7:H7)(h8:H8)(h9:H9)(h10:H10)(h11:H11)(h12:H12)(h13:H13)(h14:H14)(h15:H15)(h16:H16)(h17:H17)(QE:lF)(NG:UD)(h20:H20)(h21:H21)(h22:H22)(h23:H23)(h24:H24)(h25:H25)(h26:H26)(h27:H27)(kO:fF)(h29:H29)[Ans H1][Ans H2][Ans H3][Ans H4][Ans H5][Ans H6][Ans H7][Ans H8][Ans H9][Ans H10][Ans H11][Ans H12][Ans H13][Ans H14][Ans H15][Ans H16][Ans H17][Ans lF][Ans UD][Ans H20][Ans H21][Ans H22][Ans H23][Ans H24][Ans H25][Ans H26][Ans H27][Ans fF][Ans H29]
end
abbrev oN(n:Nat):List (Nat×Ob):=[(3,.box [.fn 172 [.loc 2 0,.loc 3 0]]),(2,bx [num n])]
def qI:∀(p:Pf)(n:Nat),n+p.cnt<=bA->O 172 [.pv p.p,.loc 2 0,.loc 3 0] (oN n) (.pv ut) (oN (n+p.cnt))
 |.leaf u i,n,h=>by
  have h:n+1<=bA:=h;have g:=lA (a:=n) (b:=1);cases u<;>exact o1 4 [11] g
 |.refl t,n,h=>by
  have h:n+(1+t.cnt)<=bA:=h;have c:=lA (a:=n) (b:=1);have d:=rD t a6;have e:=lA (a:=n+1) (b:=t.cnt);rw[show n+Pf.cnt (.refl t)=n+1+t.cnt by show n+(1+t.cnt)=_;omega];exact o3 4 [11,21,22] c d e
 |.p1 k a,n,h=>by
  have h:n+(1+a.cnt)<=bA:=h;have c:=lA (a:=n) (b:=1);have d:=qI a (n+1) a6;rw[show n+Pf.cnt (.p1 k a)=n+1+a.cnt by show n+(1+a.cnt)=_;omega];cases k<;>exact o2 4 [11,(45,.o [3] [(2,bx [num (n+1+a.cnt)])] (.pv ut))] c d
 |.p2 k a b,n,h=>by
  have h:n+(1+a.cnt+b.cnt)<=bA:=h;have c:=lA (a:=n) (b:=1);have d:=qI a (n+1) a6;have e:=qI b (n+1+a.cnt) a6;rw[show n+Pf.cnt (.p2 k a b)=n+1+a.cnt+b.cnt by show n+(1+a.cnt+b.cnt)=_;omega];cases k<;>exact o3 4 [11,(45,.o [3] [(2,bx [num (n+1+a.cnt)])] (.pv ut)),(45,.o [3] [(2,bx [num (n+1+a.cnt+b.cnt)])] (.pv ut))] c d e
 |.impI f a,n,h=>by
  have h:n+(1+f.cnt+a.cnt)<=bA:=h;have c:=lA (a:=n) (b:=1);have d:=rH f a6;have e:=lA (a:=n+1) (b:=f.cnt);have j:=qI a (n+1+f.cnt) a6;rw[show n+Pf.cnt (.impI f a)=n+1+f.cnt+a.cnt by show n+(1+f.cnt+a.cnt)=_;omega];exact o4 4 [11,33,34,(45,.o [3] [(2,bx [num (n+1+f.cnt+a.cnt)])] (.pv ut))] c d e j
 |.all u s a,n,h=>by
  have h:n+(1+a.cnt)<=bA:=h;have c:=lA (a:=n) (b:=1);have d:=qI a (n+1) a6;rw[show n+Pf.cnt (.all u s a)=n+1+a.cnt by show n+(1+a.cnt)=_;omega];cases u<;>exact o2 4 [11,(45,.o [3] [(2,bx [num (n+1+a.cnt)])] (.pv ut))] c d
 |.ins u t a,n,h=>by
  have h:n+(1+t.cnt+a.cnt)<=bA:=h;have c:=lA (a:=n) (b:=1);have d:=rD t a6;have e:=lA (a:=n+1) (b:=t.cnt);have j:=qI a (n+1+t.cnt) a6;rw[show n+Pf.cnt (.ins u t a)=n+1+t.cnt+a.cnt by show n+(1+t.cnt+a.cnt)=_;omega];cases u<;>exact o4 4 [11,21,22,(45,.o [3] [(2,bx [num (n+1+t.cnt+a.cnt)])] (.pv ut))] c d e j
 |.ex u f t a,n,h=>by
  have h:n+(1+t.cnt+f.cnt+a.cnt)<=bA:=h;have c:=lA (a:=n) (b:=1);have d:=rD t a6;have e:=lA (a:=n+1) (b:=t.cnt);have j:=rH f a6;have m:=lA (a:=n+1+t.cnt) (b:=f.cnt);have o:=qI a (n+1+t.cnt+f.cnt) a6;rw[show n+Pf.cnt (.ex u f t a)=n+1+t.cnt+f.cnt+a.cnt by show n+(1+t.cnt+f.cnt+a.cnt)=_;omega];cases u<;>exact o6 4 [11,21,22,33,34,(45,.o [3] [(2,bx [num (n+1+t.cnt+f.cnt+a.cnt)])] (.pv ut))] c d e j m o
 |.ind l f t a b,n,h=>by
  have h:n+(1+t.cnt+f.cnt+a.cnt+b.cnt)<=bA:=h;have c:=lA (a:=n) (b:=1);have d:=rD t a6;have e:=lA (a:=n+1) (b:=t.cnt);have j:=rH f a6;have m:=lA (a:=n+1+t.cnt) (b:=f.cnt);have o:=qI a (n+1+t.cnt+f.cnt) a6;have r:=qI b (n+1+t.cnt+f.cnt+a.cnt) a6;rw[show n+Pf.cnt (.ind l f t a b)=n+1+t.cnt+f.cnt+a.cnt+b.cnt by show n+(1+t.cnt+f.cnt+a.cnt+b.cnt)=_;omega];cases l<;>exact o7 4 [11,21,22,33,34,(45,.o [3] [(2,bx [num (n+1+t.cnt+f.cnt+a.cnt)])] (.pv ut)),(45,.o [3] [(2,bx [num (n+1+t.cnt+f.cnt+a.cnt+b.cnt)])] (.pv ut))] c d e j m o r
 |.subst f a b,n,h=>by
  have h:n+(1+f.cnt+a.cnt+b.cnt)<=bA:=h;have c:=lA (a:=n) (b:=1);have d:=rH f a6;have e:=lA (a:=n+1) (b:=f.cnt);have j:=qI a (n+1+f.cnt) a6;have m:=qI b (n+1+f.cnt+a.cnt) a6;rw[show n+Pf.cnt (.subst f a b)=n+1+f.cnt+a.cnt+b.cnt by show n+(1+f.cnt+a.cnt+b.cnt)=_;omega];exact o5 4 [11,33,34,(45,.o [3] [(2,bx [num (n+1+f.cnt+a.cnt)])] (.pv ut)),(45,.o [3] [(2,bx [num (n+1+f.cnt+a.cnt+b.cnt)])] (.pv ut))] c d e j m
def K9{p:Pf}(h:p.cnt<=bA):(p.cnt<=16384/\A 109 [p.p] p.p)\/Pn 109 [p.p]:=by
 have g:=qI p 0 a6;rw[ia]at g;by_cases a:p.cnt<=16384
 ·exact .inl ⟨a,f2 [(8,.o [3] [(2,bx [num p.cnt])] (.pv ut)),10] g (iA (a:=16384) a)⟩
 exact .inr (I9 6 99999 [(8,.o [3] [(2,bx [num p.cnt])] (.pv ut)),10] g (KA (a:=16384) (i3 a)) (rfl:V.pv pE=V.pv pE) bG)
open Go.Lg
def Pf.wk:Pf->Prop|.leaf _ _=>True|.refl t=>t.shp=true|.p1 _ a=>a.wk|.p2 _ a b=>a.wk/\b.wk|.impI f a=>f.shp=true/\a.wk|.all _ s a=>s.size<=64/\a.wk|.ins _ t a=>t.shp=true/\a.wk|.ex _ f t a=>t.shp=true/\f.shp=true/\a.wk|.ind _ f t a b=>t.shp=true/\f.shp=true/\a.wk/\b.wk|.subst f a b=>f.shp=true/\a.wk/\b.wk
abbrev Pf.K(p:Pf):Prop:=p.cnt<=16384/\p.wk
abbrev PO(f:Nat)(args:List PV)(p:Pf):Prop:=(p.K/\A f args p.p)\/Pn f args
instance{l:List (List PV)}{k n:Nat}{c:List PV}:Ans (nB l k=some c/\tB n l=true):=⟨.i c⟩
structure Px where
 t:Di
 B:Prop->Prop
 h:∀{R:Prop},R->B R
def Px.o:Px:=⟨[],λR=>R,λr=>r⟩
def Px.a(P:Px)(k:Nat){H:Prop}[Ans H](g:H):Px:=⟨P.t++[(k,Ans.d H)],λR=>P.B (H/\R),λr=>P.h ⟨g,r⟩⟩
def Px.n(P:Px)(k l:Nat){H:Prop}[Ans H](g:H):Px:=⟨P.t++[(k,.n [(l,Ans.d H)])],λR=>P.B (H/\R),λr=>P.h ⟨g,r⟩⟩
def Px.f{f:Nat}{args:List PV}{x:PV}(P:Px)(e:P.B (x=x)=U f args P.t x):A f args x:=Sa evOK (Eq.mp e (P.h rfl))
def Px.z{f:Nat}{args:List PV}(P:Px)(rg a:Nat)(d:Nat×De){H:Prop}(g:H)(e:P.B (H/\True)=vU f (args.map .pv) [] 0 rg a (P.t++[d])):Pn f args:=AV evOK (Eq.mp e (P.h ⟨g,trivial⟩))
def Px.p{f:Nat}{args:List PV}{p:Pf}{C A B:Prop}[Ans B](P:Px)(rg a:Nat)(H:(C/\A)\/B)(k:C->A->PO f args p)(e:P.B (B/\True)=vU f (args.map .pv) [] 0 rg a (P.t++[(a,Ans.d B)]):=by kernel_rfl):PO f args p:=H.elim (λh=>k h.1 h.2) λg=>.inr (P.z rg a _ g e)
def jI{p:Pf}(h:p.cnt<=bA)(a:p.wk):PO 109 [p.p] p:=(K9 h).imp (λh=>⟨⟨h.1,a⟩,h.2⟩) id
def Tp(k:P1){a:Pf}(h:a.K):PO 96 [num k.n,.slice [a.c]] (.p1 k a):=by
 have:=yA;rcases jI (p:=.p1 k a) (by show 1+a.cnt<=_;omega) h.2 with ⟨c,g⟩|g
 ·exact .inl ⟨c,f1 [8] g⟩
 exact .inr (kU 1 8 [8] g bG)
def NJ(k:P2){a b:Pf}(h:a.K)(d:b.K):PO 96 [num k.n,.slice [a.c,b.c]] (.p2 k a b):=by
 have:=yA;rcases jI (p:=.p2 k a b) (by show 1+a.cnt+b.cnt<=_;omega) ⟨h.2,d.2⟩with ⟨c,g⟩|g
 ·exact .inl ⟨c,f1 [8] g⟩
 exact .inr (kU 1 8 [8] g bG)
def yU{s:Ty}(b:s.size<=64){a:Pf}(h:a.K):PO 101 [s.p,a.p] (.all false s a):=by
 have:=yA;rcases jI (p:=.all false s a) (by show 1+a.cnt<=_;omega) ⟨b,h.2⟩with ⟨c,g⟩|g
 ·exact .inl ⟨c,f1 [9] g⟩
 exact .inr (kU 1 9 [9] g bG)
def qL{t:Tm}{a:Pf}(d:t.cnt<=8192)(b:t.shp=true)(h:a.K):PO 98 [t.p,a.p] (.ins false t a):=by
 have:=yA;rcases jI (p:=.ins false t a) (by show 1+t.cnt+a.cnt<=_;omega) ⟨b,h.2⟩with ⟨c,g⟩|g
 ·exact .inl ⟨c,f1 [10] g⟩
 exact .inr (kU 1 10 [10] g bG)
def Up{x:Fm}{a:Pf}(d:x.cnt<=4096)(b:x.shp=true)(h:a.K):PO 165 [x.p,a.p] (.impI x a):=by
 have:=yA;rcases jI (p:=.impI x a) (by show 1+x.cnt+a.cnt<=_;omega) ⟨b,h.2⟩with ⟨c,g⟩|g
 ·exact .inl ⟨c,f1 [10] g⟩
 exact .inr (kU 1 10 [10] g bG)
abbrev Vp(f:Nat)(args:List PV)(n:Nat)(x:Fm):Prop:=(FK n x/\A f args x.p)\/Pn f args
section
variable{s:Sc}(hv:DI s.dep s.vs)(hd:s.dep<=90000)(hl:s.vs.length<=90000)
include hv hd hl
theorem L9{f:Fm}{t:Tm}(d:FK s.vs.length f)(h:f.gx)(j:TK s.dep t):Vp 110 [s.p,f.p,t.p] s.dep (rz f (sS s) t):=by
 have:nA=100000:=rfl;have⟨r,g,q⟩:=Gp hv a6 a6 d
 cases r with
 |er n=>
  obtain rfl:n=3:=q;exact .inr (cf 1 12 [9,12] g Rp bG)
 |ok F=>
  obtain⟨k,rfl⟩:=q;have e:rz (f.sub (sS s)) Tm.v t=rz f (sS s) t:=by
   rw[RF];congr 1;funext i;exact eC _
  have⟨l,c,a⟩:=kN k (MJ f _ h) j hd;rw[e]at a
  cases l with
  |er n=>
   obtain rfl:n=3:=a;exact .inr (J9 1 17 [9,12,14,17] g (xf (f.sub (sS s))) c Rp bG)
  |ok o=>
   obtain⟨m,rfl⟩:=a;exact .inl ⟨m,f4 [9,12,14,17] g (xf (f.sub (sS s))) c (xf (rz f (sS s) t))⟩
end
def yN{n:Nat}{f:Fm}(h:FK n f)(a:n<=nA):A 168 [f.p] (.bool f.has)\/Pn 168 [f.p]:=by
 have⟨r,g,c,b,_⟩:=GI h a
 cases r with
 |er m=>
  obtain rfl:m=3:=b m rfl;exact .inr (cf 2 13 [8,13] g Sp bG)
 |ok w=>exact .inl (f2 [8,13] g Af)
def M9(s:Sc)(h:s.hyps<=qA):A 170 [s.p] s.skip.p:=f1 [5] (lA (a:=s.hyps) (b:=1) (by have:=zA;have:=yA;omega))
def aac{p:Prop}(h:p:=by simp only[Int.ofNat_eq_natCast];omega):=h
def N9(s:Sc)(i:Nat){y:Hy}(a:i<s.ks.length)(h:s.ks[s.ks.length-1-i]? =some y)(a:y.pl<s.hyps)(a:s.ks.length<=qA)(a:s.hyps<=qA):A 95 [s.p,num i] (num (s.pl i)):=by
 have:=zA;have:=yA;have e:s.pl i=s.hyps-1-y.pl:=by unfold Sc.pl;rw[h]
 rw[e];have:(s.ks.map Hy.c).length=s.ks.length:=gB ..;have a:=gC (a:=s.hyps) (b:=1) (z:=.ofNat (s.hyps-1)) a6 a6 aac;have b:=gC (a:=(s.ks.map Hy.c).length) (b:=1) (z:=.ofNat (s.ks.length-1)) a6 a6 aac;have c:=gC (a:=s.ks.length-1) (b:=i) (z:=.ofNat (s.ks.length-1-i)) a6 a6 aac;have d:=gC (a:=s.hyps-1) (b:=y.pl) (z:=.ofNat (s.hyps-1-y.pl)) a6 a6 aac;exact f5 [7,13,15,(16,.i y.c),19] a b c (EA h Hy.c_len) d
def O9(q:Sx):Pn 99 [.agg q.c,num 4]:=af 2 99999 [] bG
abbrev XO(f:Nat)(args:List PV)(n:Nat)(t:Tm):Prop:=(∃q:Sx,A f args (XR.er q 3).p)\/(TK n t/\A f args (XR.ok t).p)
def Px.x{f a:Nat}{args b:List PV}{p:Pf}{n:Nat}{t:Tm}(P:Px)(rg k c:Nat)(H:XO a b n t)(l:TK n t->A a b (XR.ok t).p->PO f args p)(e:∀q:Sx,P.B (A a b (XR.er q 3).p/\Pn 99 [.agg q.c,num 4]/\True)=vU f (args.map .pv) [] 0 rg c (P.t++[(k,.r (XR.er q 3).p),(c,.r (num 0))]):=by intro q;kernel_rfl):PO f args p:=H.elim (λ⟨q,g⟩=>.inr (AV evOK (Eq.mp (e q) (P.h ⟨g,O9 q,trivial⟩)))) λh=>l h.1 h.2
theorem XO.of{f:Nat}{args:List PV}{n:Nat}{t:Tm}(h:∃r:XR,A f args r.p/\r.Gd n t):XO f args n t:=by
 have⟨r,g,q⟩:=h
 cases r with
 |er x m=>
  obtain rfl:m=3:=q;exact .inl ⟨x,g⟩
 |ok u=>
  obtain⟨k,rfl⟩:=q;exact .inr ⟨k,g⟩
structure SB(m n:Nat)(s:Sc):Prop where
 ve:DI s.dep s.vs
 vl:s.vs.length=n
 n:n+m<=85000
 d:s.dep+m<=85000
 h:s.hyps+m<=85000
 k:s.ks.length+m<=85000
def SB.le{m m' n:Nat}{s:Sc}(h:SB m n s)(a:m'<=m:=by omega):SB m' n s:=⟨h.ve,h.vl,by have:=h.n;omega,by have:=h.d;omega,by have:=h.h;omega,by have:=h.k;omega⟩
theorem SB.bind{m n:Nat}{s:Sc}(h:SB (m+1) n s):SB m n s.bind:=⟨λe a=>⟨aaR (h.ve e a).1,(h.ve e a).2⟩,h.vl,by have:=h.n;omega,by have:=h.d;show s.dep+1+m<=_;omega,by have:=h.h;show s.hyps+m<=_;omega,by have:=h.k;show s.ks.length+m<=_;omega⟩
theorem SB.var{m n:Nat}{s:Sc}{t:Tm}(h:SB (m+1) n s)(b:TK s.dep t):SB m (n+1) (s.var t):=⟨λe a=>by
  rcases eh.1 a with a|a
  ·exact h.ve e a
  simp at a;subst a;exact⟨e6 _,b⟩,by show(s.vs++_).length=_;simp[h.vl],by have:=h.n;omega,by have:=h.d;show s.dep+m<=_;omega,by have:=h.h;show s.hyps+m<=_;omega,by have:=h.k;show s.ks.length+m<=_;omega⟩
def SB.sv{m n:Nat}{s:Sc}(h:SB (m+2) n s):SB m (n+1) (sv s):=h.bind.var (TB (aaJ _))
section
variable{m n:Nat}{s:Sc}(B:SB m n s)
include B
theorem SB.g80:A 102 [s.p] s.bind.p:=GM s (by have:=B.d;have:=zA;omega)
theorem SB.g81(t:Tm):A 103 [s.p,t.p] (s.var t).p:=MK s t (by have:=B.n;have:=B.vl;have:=zA;omega)
theorem SB.g123:A 154 [s.p] s.bare.p:=IT s (by have:=B.k;have:=zA;omega) (by have:=B.h;have:=zA;omega)
theorem SB.g124(t:Tm):A 155 [s.p,t.p] (s.hyp t).p:=HO s t (by have:=B.k;have:=zA;omega) (by have:=B.h;have:=zA;omega)
theorem SB.g139:A 170 [s.p] s.skip.p:=M9 s (by have:=B.h;have:=zA;omega)
theorem SB.real{f:Fm}{t:Tm}(a:FK n f)(b:f.gx)(c:TK s.dep t):Vp 110 [s.p,f.p,t.p] s.dep (rz f (sS s) t):=L9 B.ve (by have:=B.d;omega) (by have:=B.n;have:=B.vl;omega) (B.vl▸a) b c
theorem SB.term{t:Tm}(a:TK n t):XO 104 [s.p,t.p] s.dep (t.ps s.vs s.dep 0):=.of ⟨_,JT s t n B.vl.symm B.ve (by have:=B.d;have:nA=100000:=rfl;omega) (by have:=B.n;have:=B.vl;have:nA=100000:=rfl;omega) a,PK (EI B.ve t 0 a.shp) (FI B.ve t 0 (by rw[B.vl];exact a.sc)) rfl⟩
end
def nY(n:Nat):TK n (.n0 .unit):=⟨aab,rfl,trivial⟩
def uU{tl:List Tm}{x:Fm}{j:Jt}{k:List Fm}{n:Nat}{s:Sc}{b:Sc->Jt}(B:SB 2 n s)(c:FK n x)(l:x.gx)(H:∀d:Sc,d=(bif x.has then s.bind.hyp (.v 0)else s.bare)->PO 32 [eA tl,j.ptr k,d.p] (b d).p):
  PO 97 [eA tl,x.p,j.ptr k,s.p] (un x b s).p:=by
 have:nA=100000:=rfl;have bn:=B.n;have⟨r,g,o,p,t⟩:=GI c
 cases r with
 |er m=>
  obtain rfl:m=3:=p m rfl;exact .inr (cf 2 19 [(14,.U [.agg [num 0,.slice []],.bool x.has,num 4]),(19,.N 0)] g Sp bG)
 |ok w=>
 cases e:x.has<;>rw[e]at g
 ·rw[show un x b s=.impI (rz x (sS s) (.n0 .unit)) (b s.bare) by unfold un;rw[e];rfl];let P:=((Px.o.a 14 g).a 19 Af).a 24 sD;refine P.p 4 25 (B.real c l (nY _)) λa u=>?_
  let P:=(P.a 25 u).a 29 B.g123;refine P.p 4 30 (H s.bare (by rw[e];rfl)) λf v=>?_
  let P:=P.a 30 v;refine P.p 4 31 (Up a.cnt a.shp f) λh y=>?_
  let P:=P.a 31 y;exact .inl ⟨h,P.f bG⟩
 obtain rfl:=t w rfl e;rw[show un x b s=.all false x.cty (.impI (rz x (sS s.bind) (.v 0)) (b (s.bind.hyp (.v 0)))) by unfold un;rw[e];rfl];let P:=(((Px.o.a 14 g).a 19 Af).a 33 B.g80).a 37 (TA 0);refine P.p 6 38 (B.bind.real c l (TB (aaJ _))) λa z=>?_
 let P:=((P.a 38 z).a 42 (TA 0)).a 43 (B.bind.g124 (.v 0));refine P.p 6 44 (H (s.bind.hyp (.v 0)) (by rw[e];rfl)) λf A=>?_
 let P:=P.a 44 A;refine P.p 6 45 (Up a.cnt a.shp f) λh C=>?_
 let P:=P.a 45 C;refine P.p 6 46 (yU (s:=x.cty) o h) λD i=>?_
 let P:=P.a 46 i;exact .inl ⟨D,P.f bG⟩
open Go.Lg
abbrev oM(tl:List Tm)(x:PV)(s:Sc):List (Nat×Ob):=[(0,bx [row tl]),(1,bx [x]),(2,bx [num s.dep,num s.hyps,.slice (s.vs.map ec),.slice (s.ks.map Hy.c)])]
section
variable{tl:List Tm}{hs ha hb:List Fm}{s:Sc}{f:Fm}{a b:Jt}{p q:Pf}
def wR(h:Pn 32 [eA tl,a.ptr ha,s.p]):Po 94 [.pv (num 0),.loc 0 0,.loc 1 0,.loc 2 0] (oM tl (cA p f hs [[a.ptr ha]]) s):=wU 3 1 15 [(15,.N 0)] (⟨h,trivial⟩:_/\True) bG
def Wp(h:Pn 32 [eA tl,a.ptr ha,s.p]):Po 94 [.pv (num 0),.loc 0 0,.loc 1 0,.loc 2 0] (oM tl (cA p f hs [[a.ptr ha],[b.ptr hb]]) s):=wU 3 1 15 [(15,.N 0)] (⟨h,trivial⟩:_/\True) bG
def Xp(h:Pn 32 [eA tl,b.ptr hb,s.p]):Po 94 [.pv (num 1),.loc 0 0,.loc 1 0,.loc 2 0] (oM tl (cA p f hs [[a.ptr ha],[b.ptr hb]]) s):=wU 3 1 15 [(15,.N 0)] (⟨h,trivial⟩:_/\True) bG
abbrev mB(tl:List Tm)(x:PV)(s:Sc)(p:Pf):Prop:=PO 32 [eA tl,x,s.p] p
def P9{i:Nat}:mB tl (cA (.leaf true i) f hs []) s (.leaf true i):=by
 exact .inl ⟨⟨by simp only[Pf.cnt];omega,trivial⟩,f0 []⟩
def Q9{m n i:Nat}{y:Hy}(B:SB m n s)(c:i<s.ks.length)(h:s.ks[s.ks.length-1-i]? =some y)(d:y.pl<s.hyps):mB tl (cA (.leaf false i) f hs []) s (.leaf false (s.pl i)):=
 .inl ⟨⟨by simp only[Pf.cnt];omega,trivial⟩,f1 [(25,.N (s.pl i))] (N9 s i c h d (by have:=B.k;have:=zA;omega) (by have:=B.h;have:=zA;omega))⟩
def R9(H:mB tl (a.ptr hs) s p):mB tl (cA (.p1 .andL a.p) f hs [[a.ptr hs]]) s (.p1 .andL p):=by
 let P:=Px.o;rcases H with ⟨d,c⟩|c;rotate_left
 ·exact .inr (P.z 11 55 (55,.o [0,1,2] [] (.pv (num 0))) (wR (p:=.p1 .andL a.p) (f:=f) (hs:=hs) c) bG)
 let P:=P.n 55 15 c;refine P.p 11 57 (Tp .andL d) λe g=>?_
 let P:=P.a 57 g;exact .inl ⟨e,P.f bG⟩
def S9(H:mB tl (a.ptr hs) s p):mB tl (cA (.p1 .andR a.p) f hs [[a.ptr hs]]) s (.p1 .andR p):=by
 let P:=Px.o;rcases H with ⟨d,c⟩|c;rotate_left
 ·exact .inr (P.z 11 55 (55,.o [0,1,2] [] (.pv (num 0))) (wR (p:=.p1 .andR a.p) (f:=f) (hs:=hs) c) bG)
 let P:=P.n 55 15 c;refine P.p 11 57 (Tp .andR d) λe g=>?_
 let P:=P.a 57 g;exact .inl ⟨e,P.f bG⟩
def T9(H:mB tl (a.ptr hs) s p):mB tl (cA (.p1 .choice a.p) f hs [[a.ptr hs]]) s (p):=by
 let P:=Px.o;rcases H with ⟨d,c⟩|c;rotate_left
 ·exact .inr (P.z 40 237 (237,.o [0,1,2] [] (.pv (num 0))) (wR (p:=.p1 .choice a.p) (f:=f) (hs:=hs) c) bG)
 let P:=P.n 237 15 c;exact .inl ⟨d,P.f bG⟩
def U9{x:Fm}{t:Tm}(H:mB tl (a.ptr hs) s p):mB tl (cA (.ex false x t a.p) f hs [[a.ptr hs]]) s (p):=by
 let P:=Px.o;rcases H with ⟨d,c⟩|c;rotate_left
 ·exact .inr (P.z 40 237 (237,.o [0,1,2] [] (.pv (num 0))) (wR (p:=.ex false x t a.p) (f:=f) (hs:=hs) c) bG)
 let P:=P.n 237 15 c;exact .inl ⟨d,P.f bG⟩
def V9(H:mB tl (a.ptr hs) s p)(e:mB tl (b.ptr hs) s q):mB tl (cA (.p2 .andI a.p b.p) f hs [[a.ptr hs],[b.ptr hs]]) s (.p2 .andI p q):=by
 let P:=Px.o;rcases H with ⟨g,c⟩|c;rotate_left
 ·exact .inr (P.z 8 41 (41,.o [0,1,2] [] (.pv (num 0))) (Wp (p:=.p2 .andI a.p b.p) (f:=f) (hs:=hs) (a:=a) (b:=b) (ha:=hs) (hb:=hs) c) bG)
 let P:=P.n 41 15 c;rcases e with ⟨h,d⟩|d;rotate_left
 ·exact .inr (P.z 8 43 (43,.o [0,1,2] [] (.pv (num 0))) (Xp (p:=.p2 .andI a.p b.p) (f:=f) (hs:=hs) (a:=a) (b:=b) (ha:=hs) (hb:=hs) d) bG)
 let P:=P.n 43 15 d;refine P.p 8 45 (NJ .andI g h) λi j=>?_
 let P:=P.a 45 j;exact .inl ⟨i,P.f bG⟩
def W9{x:Fm}(H:PO 97 [eA tl,x.p,a.ptr ha,s.p] p):mB tl (cA (.impI x a.p) f hs [[a.ptr ha]]) s (p):=by
 let P:=Px.o;refine P.p 13 75 H λc d=>?_
 let P:=P.a 75 d;exact .inl ⟨c,P.f bG⟩
abbrev Jt.ptb(hs:List Fm)(a:Jt)(c:Bool):PV:=.ptr [num a.p.kd,num a.p.ix,num a.p.tk,.slice a.p.te,.slice a.p.ts,.slice a.p.fs,.slice a.p.es,num a.f.kd,num a.f.tk,.slice a.f.te,.slice a.f.ts,.slice a.f.es,uA hs,.bool c,.slice (a.pts hs)]
def ptb{hs:List Fm}{a:Jt}{c:Bool}(e:a.f.has=c):a.ptr hs=a.ptb hs c:=by subst e;rfl
def Yp{c:Bool}(h:Pn 32 [eA tl,a.ptr ha,s.p]):Po 94 [.pv (num 0),.loc 0 0,.loc 1 0,.loc 2 0] (oM tl (cA p f hs [[a.ptr ha],[b.ptb hb c]]) s):=wU 3 1 15 [(15,.N 0)] (⟨h,trivial⟩:_/\True) bG
def Zp{c:Bool}(h:Pn 32 [eA tl,b.ptb hb c,s.p]):Po 94 [.pv (num 1),.loc 0 0,.loc 1 0,.loc 2 0] (oM tl (cA p f hs [[a.ptr ha],[b.ptb hb c]]) s):=wU 3 1 15 [(15,.N 0)] (⟨h,trivial⟩:_/\True) bG
def X9(H:mB tl (a.ptr hs) s p)(e:mB tl (b.ptb hs false) s q):mB tl (cA (.p2 .impE a.p b.p) f hs [[a.ptr hs],[b.ptb hs false]]) s (.p2 .impE p q):=by
 let P:=Px.o;rcases H with ⟨g,c⟩|c;rotate_left
 ·exact .inr (P.z 15 79 (79,.o [0,1,2] [] (.pv (num 0))) (Yp (p:=.p2 .impE a.p b.p) (f:=f) (hs:=hs) (a:=a) (b:=b) (ha:=hs) (hb:=hs) (c:=false) c) bG)
 let P:=P.n 79 15 c;rcases e with ⟨h,d⟩|d;rotate_left
 ·exact .inr (P.z 18 105 (105,.o [0,1,2] [] (.pv (num 0))) (Zp (p:=.p2 .impE a.p b.p) (f:=f) (hs:=hs) (a:=a) (b:=b) (ha:=hs) (hb:=hs) (c:=false) d) bG)
 let P:=P.n 105 15 d;refine P.p 18 107 (NJ .impE g h) λi j=>?_
 let P:=P.a 107 j;exact .inl ⟨i,P.f bG⟩
def Y9{t:Tm}(H:mB tl (a.ptr hs) s p)(g:mB tl (b.ptb hs true) s q)(h:XO 100 [eA tl,b.ptb hs true,s.p] s.dep t):mB tl (cA (.p2 .impE a.p b.p) f hs [[a.ptr hs],[b.ptb hs true]]) s (.p2 .impE (.ins false t p) q):=by
 let P:=Px.o;rcases H with ⟨i,c⟩|c;rotate_left
 ·exact .inr (P.z 15 79 (79,.o [0,1,2] [] (.pv (num 0))) (Yp (p:=.p2 .impE a.p b.p) (f:=f) (hs:=hs) (a:=a) (b:=b) (ha:=hs) (hb:=hs) (c:=true) c) bG)
 let P:=P.n 79 15 c;refine P.x 17 97 100 h λe j=>?_
 let P:=(P.a 97 j).a 100 (uE t);refine P.p 17 102 (qL (t:=t) (by have:=e.cnt;omega) e.shp i) λk l=>?_
 let P:=P.a 102 l;rcases g with ⟨m,d⟩|d;rotate_left
 ·exact .inr (P.z 18 105 (105,.o [0,1,2] [] (.pv (num 0))) (Zp (p:=.p2 .impE a.p b.p) (f:=f) (hs:=hs) (a:=a) (b:=b) (ha:=hs) (hb:=hs) (c:=true) d) bG)
 let P:=P.n 105 15 d;refine P.p 18 107 (NJ .impE k m) λn o=>?_
 let P:=P.a 107 o;exact .inl ⟨n,P.f bG⟩
def Z9{m n:Nat}{w:Ty}(c:w.size<=64)(B:SB (m+2) n s)(H:mB tl (a.ptr ha) (sv s) p):mB tl (cA (.all false w a.p) f hs [[a.ptr ha]]) s (.all false w p):=by
 let P:=((Px.o.a 124 B.g80).a 125 (TA 0)).a 126 (SB.g81 (SB.bind (m:=m+1) B) (.v 0));refine P.p 21 127 H λd e=>?_
 let P:=P.a 127 e;refine P.p 21 128 (yU c d) λc d=>?_
 let P:=P.a 128 d;exact .inl ⟨c,P.f bG⟩
def zPm{m n:Nat}{w:Ty}(c:w.size<=64)(B:SB (m+2) n s)(H:mB tl (a.ptr ha) (sv s) p):mB tl (cA (.all true w a.p) f hs [[a.ptr ha]]) s (.all false w p):=by
 let P:=((Px.o.a 124 B.g80).a 125 (TA 0)).a 126 (SB.g81 (SB.bind (m:=m+1) B) (.v 0));refine P.p 21 127 H λd e=>?_
 let P:=P.a 127 e;refine P.p 21 128 (yU c d) λc d=>?_
 let P:=P.a 128 d;exact .inl ⟨c,P.f bG⟩
def zPn{m n:Nat}{t:Tm}(B:SB m n s)(e:TK n t)(H:mB tl (a.ptr hs) s p):mB tl (cA (.ins false t a.p) f hs [[a.ptr hs]]) s (.ins false (t.ps s.vs s.dep 0) p):=by
 let P:=Px.o;refine P.x 24 140 143 (B.term e) λd g=>?_
 let P:=(P.a 140 g).a 143 (uE (t.ps s.vs s.dep 0));rcases H with ⟨h,c⟩|c;rotate_left
 ·exact .inr (P.z 24 145 (145,.o [0,1,2] [] (.pv (num 0))) (wR (p:=.ins false t a.p) (f:=f) (hs:=hs) c) bG)
 let P:=P.n 145 15 c;refine P.p 24 146 (qL (t:=t.ps s.vs s.dep 0) (by have:=d.cnt;omega) d.shp h) λi j=>?_
 let P:=P.a 146 j;exact .inl ⟨i,P.f bG⟩
def zPo{m n:Nat}{t:Tm}(B:SB m n s)(e:TK n t)(H:mB tl (a.ptr hs) s p):mB tl (cA (.ins true t a.p) f hs [[a.ptr hs]]) s (.ins false (t.ps s.vs s.dep 0) p):=by
 let P:=Px.o;refine P.x 24 140 143 (B.term e) λd g=>?_
 let P:=(P.a 140 g).a 143 (uE (t.ps s.vs s.dep 0));rcases H with ⟨h,c⟩|c;rotate_left
 ·exact .inr (P.z 24 145 (145,.o [0,1,2] [] (.pv (num 0))) (wR (p:=.ins true t a.p) (f:=f) (hs:=hs) c) bG)
 let P:=P.n 145 15 c;refine P.p 24 146 (qL (t:=t.ps s.vs s.dep 0) (by have:=d.cnt;omega) d.shp h) λi j=>?_
 let P:=P.a 146 j;exact .inl ⟨i,P.f bG⟩
def jZf(H:PO 105 [eA tl,cA (.p2 .exE a.p b.p) f hs [[a.ptr ha],[b.ptr hb]],s.p] p):mB tl (cA (.p2 .exE a.p b.p) f hs [[a.ptr ha],[b.ptr hb]]) s (p):=by
 let P:=Px.o;refine P.p 26 152 H λc d=>?_
 let P:=P.a 152 d;exact .inl ⟨c,P.f bG⟩
def zPp{x:Fm}{t:Tm}(H:PO 106 [eA tl,cA (.ex true x t a.p) f hs [[a.ptr ha]],s.p] p):mB tl (cA (.ex true x t a.p) f hs [[a.ptr ha]]) s (p):=by
 let P:=Px.o;refine P.p 28 158 H λc d=>?_
 let P:=P.a 158 d;exact .inl ⟨c,P.f bG⟩
def zPq(H:PO 107 [eA tl,cA (.p2 .exUE a.p b.p) f hs [[a.ptr ha],[b.ptr hb]],s.p] p):mB tl (cA (.p2 .exUE a.p b.p) f hs [[a.ptr ha],[b.ptr hb]]) s (p):=by
 let P:=Px.o;refine P.p 30 164 H λc d=>?_
 let P:=P.a 164 d;exact .inl ⟨c,P.f bG⟩
def zPr{x:Fm}{t:Tm}(H:PO 108 [eA tl,cA (.ind false x t a.p b.p) f hs [[a.ptr ha],[b.ptr hb]],s.p] p):mB tl (cA (.ind false x t a.p b.p) f hs [[a.ptr ha],[b.ptr hb]]) s (p):=by
 let P:=Px.o;refine P.p 33 171 H λc d=>?_
 let P:=P.a 171 d;exact .inl ⟨c,P.f bG⟩
def zPs{x:Fm}{t:Tm}(H:PO 108 [eA tl,cA (.ind true x t a.p b.p) f hs [[a.ptr ha],[b.ptr hb]],s.p] p):mB tl (cA (.ind true x t a.p b.p) f hs [[a.ptr ha],[b.ptr hb]]) s (p):=by
 let P:=Px.o;refine P.p 33 171 H λc d=>?_
 let P:=P.a 171 d;exact .inl ⟨c,P.f bG⟩
def zPt{m n:Nat}{t:Tm}(B:SB m n s)(c:TK n t):mB tl (cA (.refl t) f hs []) s (.refl (t.ps s.vs s.dep 0)):=by
 let P:=Px.o;refine P.x 35 187 190 (B.term c) λc d=>?_
 let P:=(P.a 187 d).a 190 (uE (t.ps s.vs s.dep 0));refine P.p 35 193 (jI (p:=.refl (t.ps s.vs s.dep 0)) (by have:=c.cnt;have:=yA;show 1+_<=_;omega) c.shp) λc d=>?_
 let P:=P.a 193 d;exact .inl ⟨c,P.f bG⟩
def zHj{m n:Nat}{x:Fm}{t:Tm}(B:SB (m+2) n s)(g:FK (n+1) x)(h:x.gx)(H:mB tl (a.ptr hs) s p)(i:mB tl (b.ptr hs) s q)(j:XO 100 [eA tl,b.ptr hs,s.bind.p] (s.dep+1) t):mB tl (cA (.subst x a.p b.p) f hs [[a.ptr hs],[b.ptr hs]]) s (.subst (rz x (sS (sv s)) t) p q):=by
 let P:=Px.o.a 204 B.g80;refine P.x 37 205 208 j λk l=>?_
 let P:=((((P.a 205 l).a 208 (uE t)).a 210 B.g80).a 211 (TA 0)).a 212 (SB.g81 (SB.bind (m:=m+1) B) (.v 0));refine P.p 38 221 ((SB.sv B).real g h k) λe o=>?_
 let P:=P.a 221 o;rcases H with ⟨r,c⟩|c;rotate_left
 ·exact .inr (P.z 39 230 (230,.o [0,1,2] [] (.pv (num 0))) (Wp (p:=.subst x a.p b.p) (f:=f) (hs:=hs) (a:=a) (b:=b) (ha:=hs) (hb:=hs) c) bG)
 let P:=P.n 230 15 c;rcases i with ⟨u,d⟩|d;rotate_left
 ·exact .inr (P.z 39 232 (232,.o [0,1,2] [] (.pv (num 0))) (Xp (p:=.subst x a.p b.p) (f:=f) (hs:=hs) (a:=a) (b:=b) (ha:=hs) (hb:=hs) d) bG)
 let P:=P.n 232 15 d;refine P.p 39 235 (jI (p:=.subst (rz x (sS (sv s)) t) p q) (by have:=e.cnt;have:=yA;show 1+_+_+_<=_;omega) ⟨e.shp,r.2,u.2⟩) λv w=>?_
 let P:=P.a 235 w;exact .inl ⟨v,P.f bG⟩
end
def zq(k:K1){t:Tm}{n:Nat}(h:TK n t):XO 169 [num k.n,BX,row [t]] n (.n1 k t):=.of ⟨_,Be k t (by have:=h.cnt;have:=zA;omega),PK h.shp h.sc rfl⟩
section
variable{tl:List Tm}{hs hb:List Fm}{s:Sc}{f x:Fm}{u:Ty}{a b:Jt}{p q:Pf}{t:Tm}{m n:Nat}
def jZg(g:u.size<=64)(B:SB (m+2) n s)(d:FK (n+1) x)(e:x.has=false)(i:XO 100 [eA tl,a.pf hs (.q .ex u x),s.p] s.dep t)(j:PO 97 [eA tl,x.p,b.ptr hb,(sv s).p] q)(k:PO 32 [eA tl,a.pf hs (.q .ex u x),s.p] p):PO 105 [eA tl,cA (.p2 .exE a.p b.p) f hs [[a.pf hs (.q .ex u x)],[b.ptr hb]],s.p] (.p2 .impE (.ins false t (.all false u q)) p):=by
 have c:=yN d (by have:=B.n;have:nA=100000:=rfl;omega);rw[e]at c;let P:=Px.o;refine P.x 2 29 32 i λd i=>?_
 let P:=((((P.a 29 i).a 32 (uE t)).a 47 B.g80).a 48 (TA 0)).a 49 (SB.g81 (SB.bind (m:=m+1) B) (.v 0));refine P.p 3 50 j λi j=>?_
 let P:=P.a 50 j;refine P.p 3 51 (yU g i) λg i=>?_
 let P:=P.a 51 i;refine P.p 4 56 (c.imp (λh=>(⟨trivial,h⟩:True/\_)) id) λ_ c=>?_
 let P:=P.a 56 c;refine P.p 7 78 (qL (t:=t) (by have:=d.cnt;omega) d.shp g) λc d=>?_
 let P:=P.a 78 d;refine P.p 8 88 k λd g=>?_
 let P:=P.a 88 g;refine P.p 8 90 (NJ .impE c d) λd c=>?_
 let P:=P.a 90 c;exact .inl ⟨d,P.f bG⟩
def jZh(g:u.size<=64)(B:SB (m+2) n s)(d:FK (n+1) x)(e:x.has=true)(i:XO 100 [eA tl,a.pf hs (.q .ex u x),s.p] s.dep t)(j:PO 97 [eA tl,x.p,b.ptr hb,(sv s).p] q)(k:PO 32 [eA tl,a.pf hs (.q .ex u x),s.p] p):PO 105 [eA tl,cA (.p2 .exE a.p b.p) f hs [[a.pf hs (.q .ex u x)],[b.ptr hb]],s.p] (.p2 .impE (.ins false (.n1 .snd t) (.ins false (.n1 .fst t) (.all false u q))) p):=by
 have c:=yN d (by have:=B.n;have:nA=100000:=rfl;omega);rw[e]at c;let P:=Px.o;refine P.x 2 29 32 i λd i=>?_
 let P:=((((P.a 29 i).a 32 (uE t)).a 47 B.g80).a 48 (TA 0)).a 49 (SB.g81 (SB.bind (m:=m+1) B) (.v 0));refine P.p 3 50 j λi j=>?_
 let P:=P.a 50 j;refine P.p 3 51 (yU g i) λg i=>?_
 let P:=P.a 51 i;refine P.p 4 56 (c.imp (λh=>(⟨trivial,h⟩:True/\_)) id) λ_ c=>?_
 let P:=P.a 56 c;refine P.x 5 60 63 (zq .fst d) λc i=>?_
 let P:=(P.a 60 i).a 63 (uE (Tm.n1 .fst t));refine P.x 5 67 70 (zq .snd d) λd i=>?_
 let P:=(P.a 67 i).a 70 (uE (Tm.n1 .snd t));refine P.p 6 74 (qL (t:=.n1 .fst t) (by have:=c.cnt;omega) c.shp g) λg c=>?_
 let P:=P.a 74 c;refine P.p 6 75 (qL (t:=.n1 .snd t) (by have:=d.cnt;omega) d.shp g) λd c=>?_
 let P:=P.a 75 c;refine P.p 8 88 k λg c=>?_
 let P:=P.a 88 c;refine P.p 8 90 (NJ .impE d g) λd c=>?_
 let P:=P.a 90 c;exact .inl ⟨d,P.f bG⟩
def s84{w:Tm}(hu:u.chk=0)(B:SB (m+2) n s)(c:FK (n+1) x)(d:x.gx)(e:TK n t)(g:XO 100 [eA tl,a.ptr hs,s.bind.p] (s.dep+1) w)(h:PO 32 [eA tl,a.ptr hs,s.p] p):PO 106 [eA tl,cA (.ex true (.q .exU u x) t a.p) f hs [[a.ptr hs]],s.p] (.ex true (.q .exU u (rz x (sS (sv s)) w)) (t.ps s.vs s.dep 0) p):=by
 let P:=((Px.o.a 11 B.g80).a 13 (TA 0)).a 14 (SB.g81 (SB.bind (m:=m+1) B) (.v 0));refine P.x 2 33 36 g λg i=>?_
 let P:=(P.a 33 i).a 36 (uE w);refine P.p 2 37 ((SB.sv B).real c d g) λc d=>?_
 let P:=P.a 37 d;refine P.x 4 64 67 (B.term e) λd e=>?_
 let P:=(P.a 64 e).a 67 (uE (t.ps s.vs s.dep 0));refine P.p 4 77 h λe g=>?_
 let P:=P.a 77 g;refine P.p 4 80 (jI (p:=.ex true (.q .exU u (rz x (sS (sv s)) w)) (t.ps s.vs s.dep 0) p) (by have:=c.cnt;have:=d.cnt;have:=yA;show 1+_+(1+_)+_<=_;omega) ⟨d.shp,(show(Nat.beq u.chk 0&&_)=true by rw[hu,c.shp];rfl),e.2⟩) λc d=>?_
 let P:=P.a 80 d;exact .inl ⟨c,P.f bG⟩
def jZi(B:SB (m+2) n s)(d:FK (n+1) x)(e:x.has=false)(g:PO 32 [eA tl,a.pf hs (.q .exU u x),s.p] p)(i:PO 32 [eA tl,b.ptr hb,(sv s).bare.p] q):PO 107 [eA tl,cA (.p2 .exUE a.p b.p) f hs [[a.pf hs (.q .exU u x)],[b.ptr hb]],s.p] (.p2 .exUE p q):=by
 have c:=yN d (by have:=B.n;have:nA=100000:=rfl;omega);rw[e]at c;let P:=Px.o;refine P.p 1 32 g λd g=>?_
 let P:=(P.a 32 g).a 34 B.g80;refine P.p 2 36 (c.imp (λh=>(⟨trivial,h⟩:True/\_)) id) λ_ c=>?_
 let P:=(((P.a 36 c).a 52 (TA 0)).a 53 (SB.g81 (SB.bind (m:=m+1) B) (.v 0))).a 54 (SB.g123 (SB.sv (m:=m) B));refine P.p 3 55 i λc g=>?_
 let P:=P.a 55 g;refine P.p 3 57 (NJ .exUE d c) λc d=>?_
 let P:=P.a 57 d;exact .inl ⟨c,P.f bG⟩
def jZj(B:SB (m+2) n s)(d:FK (n+1) x)(e:x.has=true)(g:PO 32 [eA tl,a.pf hs (.q .exU u x),s.p] p)(i:XO 100 [eA tl,a.pf hs (.q .exU u x),s.bind.p] (s.dep+1) t)(j:PO 97 [eA tl,x.p,b.ptr hb,(sv s).skip.p] q):PO 107 [eA tl,cA (.p2 .exUE a.p b.p) f hs [[a.pf hs (.q .exU u x)],[b.ptr hb]],s.p] (.p2 .exUE p (.p2 .impE (.ins false t q) (.leaf false 0))):=by
 have c:=yN d (by have:=B.n;have:nA=100000:=rfl;omega);rw[e]at c;let P:=Px.o;refine P.p 1 32 g λd g=>?_
 let P:=(P.a 32 g).a 34 B.g80;refine P.p 2 36 (c.imp (λh=>(⟨trivial,h⟩:True/\_)) id) λ_ c=>?_
 let P:=P.a 36 c;refine P.x 4 66 69 i λc g=>?_
 let P:=((((P.a 66 g).a 69 (uE t)).a 79 (TA 0)).a 80 (SB.g81 (SB.bind (m:=m+1) B) (.v 0))).a 81 (SB.g139 (SB.sv (m:=m) B));refine P.p 5 82 j λg i=>?_
 let P:=P.a 82 i;refine P.p 6 91 (qL (t:=t) (by have:=c.cnt;omega) c.shp g) λc g=>?_
 let P:=P.a 91 g;refine P.p 6 94 (NJ .impE (b:=.leaf false 0) c ⟨by simp only[Pf.cnt];omega,trivial⟩) λg c=>?_
 let P:=P.a 94 c;refine P.p 6 96 (NJ .exUE d g) λd c=>?_
 let P:=P.a 96 c;exact .inl ⟨d,P.f bG⟩
def zPu(B:SB (m+4) n s)(c:FK (n+1) x)(g:x.gx)(i:TK n t)(d:hs.length<=qA)(e:x.has=false)(j:PO 32 [eA tl,a.ptr hs,s.p] p)(k:PO 32 [eA tl,b.ptr (fA 1 hs++[x]),(sv s).bare.p] q):PO 108 [eA tl,cA (.ind false x t a.p b.p) f hs [[a.ptr hs],[b.ptr (fA 1 hs++[x])]],s.p] (.ind false (rz x (sS (sv s)) (.n0 .unit)) (t.ps s.vs s.dep 0) p q):=by
 have d:=yN c (by have:=B.n;have:nA=100000:=rfl;omega);rw[e]at d;let P:=Px.o;refine P.p 1 31 (d.imp (λh=>(⟨trivial,h⟩:True/\_)) id) λ_ d=>?_
 let P:=(((((P.a 31 d).a 33 B.g80).a 34 (TA 0)).a 35 (SB.g81 (SB.bind (m:=m+3) B) (.v 0))).a 36 sD).a 37 sD;refine P.p 10 71 ((SB.sv (m:=m+2) B).real c g (nY _)) λd c=>?_
 let P:=P.a 71 c;refine P.p 11 80 j λj c=>?_
 let P:=(P.a 80 c).a 140 (SB.g123 (SB.sv (m:=m+2) B));refine P.p 19 141 k λg c=>?_
 let P:=P.a 141 c;refine P.x 20 157 160 (B.term i) λi c=>?_
 let P:=(P.a 157 c).a 160 (uE (t.ps s.vs s.dep 0));refine P.p 20 166 (jI (p:=.ind false (rz x (sS (sv s)) (.n0 .unit)) (t.ps s.vs s.dep 0) p q) (by have:=d.cnt;have:=i.cnt;have:=yA;have:=g.1;show 1+_+_+_+Pf.cnt _<=_;omega) ⟨i.shp,d.shp,j.2,g.2⟩) λd c=>?_
 let P:=P.a 166 c;exact .inl ⟨d,P.f bG⟩
def zPv{r r2:Tm}(B:SB (m+4) n s)(d:FK (n+1) x)(g:x.gx)(i:TK n t)(c:hs.length<=qA)(e:x.has=true)(j:XO 171 [row tl,cA (.ind false x t a.p b.p) f hs [[a.ptr hs],[b.ptr (fA 1 hs++[x])]],s.bind.p,(Tm.v 0).p] (s.dep+1) r)(k:PO 32 [eA tl,a.ptr hs,s.p] p)(l:PO 97 [eA tl,x.p,b.ptr (fA 1 hs++[x]),(sv s).skip.p] q):PO 108 [eA tl,cA (.ind false x t a.p b.p) f hs [[a.ptr hs],[b.ptr (fA 1 hs++[x])]],s.p] (.ind false (rz x (sS (sv s)) r) (t.ps s.vs s.dep 0) p (.p2 .impE (.ins false r q) (.leaf false 0))):=by
 have c:=yN d (by have:=B.n;have:nA=100000:=rfl;omega);rw[e]at c;let P:=Px.o;refine P.p 1 31 (c.imp (λh=>(⟨trivial,h⟩:True/\_)) id) λ_ c=>?_
 let P:=(((((((P.a 31 c).a 33 B.g80).a 34 (TA 0)).a 35 (SB.g81 (SB.bind (m:=m+3) B) (.v 0))).a 36 sD).a 37 sD).a 43 B.g80).a 44 (TA 0);refine P.x 5 45 48 j λc j=>?_
 let P:=(P.a 45 j).a 48 (uE r);refine P.p 10 71 ((SB.sv (m:=m+2) B).real d g c) λg d=>?_
 let P:=P.a 71 d;refine P.p 11 80 k λj d=>?_
 let P:=(P.a 80 d).a 126 (SB.g139 (SB.sv (m:=m+2) B));refine P.p 18 127 l λk d=>?_
 let P:=P.a 127 d;refine P.p 18 128 (qL (t:=r) (by have:=c.cnt;omega) c.shp k) λd c=>?_
 let P:=P.a 128 c;refine P.p 18 131 (NJ .impE (b:=.leaf false 0) d ⟨by simp only[Pf.cnt];omega,trivial⟩) λd c=>?_
 let P:=P.a 131 c;refine P.x 20 157 160 (B.term i) λi c=>?_
 let P:=(P.a 157 c).a 160 (uE (t.ps s.vs s.dep 0));refine P.p 20 166 (jI (p:=.ind false (rz x (sS (sv s)) r) (t.ps s.vs s.dep 0) p (.p2 .impE (.ins false r q) (.leaf false 0))) (by have:=g.cnt;have:=i.cnt;have:=yA;have:=d.1;show 1+_+_+_+Pf.cnt _<=_;omega) ⟨i.shp,g.shp,j.2,d.2⟩) λd c=>?_
 let P:=P.a 166 c;exact .inl ⟨d,P.f bG⟩
def zPw(B:SB (m+4) n s)(c:FK (n+1) x)(i:x.gx)(j:TK n t)(d:hs.length<=qA)(e:x.has=false)(k:PO 32 [eA tl,a.ptr hs,s.p] p)(l:PO 32 [eA tl,b.ptr (fA 2 hs++[x.sh 1 (.ofNat 1)]),(sv (sv s)).bare.p] q):PO 108 [eA tl,cA (.ind true x t a.p b.p) f hs [[a.ptr hs],[b.ptr (fA 2 hs++[x.sh 1 (.ofNat 1)])]],s.p] (.ind true (rz x (sS (sv s)) (.n0 .unit)) (t.ps s.vs s.dep 0) p q):=by
 have d:=yN c (by have:=B.n;have:nA=100000:=rfl;omega);rw[e]at d;have z0:((fA 2 hs++[x.sh 1 (.ofNat 1)]).map Fm.c).length=hs.length+1:=by rw[gB,gz,gB];rfl
 have g:=gC (a:=hs.length+1) (b:=1) (z:=.ofNat hs.length) (by have:=yA;have:=zA;omega) (by have:=yA;omega) aac;rw[<-z0]at g;have o:=EA (c:=Fm.c) (g:=fA 2 hs++[x.sh 1 (.ofNat 1)]) (k:=hs.length) (t:=x.sh 1 (.ofNat 1)) a8 Fm.c_len;let P:=Px.o;refine P.p 1 31 (d.imp (λh=>(⟨trivial,h⟩:True/\_)) id) λ_ d=>?_
 let P:=(((((P.a 31 d).a 33 B.g80).a 34 (TA 0)).a 35 (SB.g81 (SB.bind (m:=m+3) B) (.v 0))).a 36 sD).a 37 sD;refine P.p 10 71 ((SB.sv (m:=m+2) B).real c i (nY _)) λd c=>?_
 let P:=P.a 71 c;refine P.p 11 80 k λk c=>?_
 let P:=((((((P.a 80 c).a 90 (SB.g80 (SB.sv (m:=m+2) B))).a 91 (TA 0)).a 92 (SB.g81 (SB.bind (m:=m+1) (SB.sv (m:=m+2) B)) (.v 0))).a 112 g).a 113 o).a 140 (SB.g123 (SB.sv (m:=m) (SB.sv (m:=m+2) B)));refine P.p 19 141 l λg c=>?_
 let P:=P.a 141 c;refine P.x 20 157 160 (B.term j) λi c=>?_
 let P:=(P.a 157 c).a 160 (uE (t.ps s.vs s.dep 0));refine P.p 20 166 (jI (p:=.ind true (rz x (sS (sv s)) (.n0 .unit)) (t.ps s.vs s.dep 0) p q) (by have:=d.cnt;have:=i.cnt;have:=yA;have:=g.1;show 1+_+_+_+Pf.cnt _<=_;omega) ⟨i.shp,d.shp,k.2,g.2⟩) λd c=>?_
 let P:=P.a 166 c;exact .inl ⟨d,P.f bG⟩
def zPx{r c:Tm}(B:SB (m+4) n s)(g:FK (n+1) x)(k:x.gx)(l:TK n t)(d:hs.length<=qA)(e:x.has=true)(j:XO 171 [row tl,cA (.ind true x t a.p b.p) f hs [[a.ptr hs],[b.ptr (fA 2 hs++[x.sh 1 (.ofNat 1)])]],s.bind.p,(Tm.v 0).p] (s.dep+1) r)(o:XO 171 [row tl,cA (.ind true x t a.p b.p) f hs [[a.ptr hs],[b.ptr (fA 2 hs++[x.sh 1 (.ofNat 1)])]],s.bind.bind.p,(Tm.v 0).p] (s.dep+2) c)(v:PO 32 [eA tl,a.ptr hs,s.p] p)(w:PO 97 [eA tl,(x.sh 1 (.ofNat 1)).p,b.ptr (fA 2 hs++[x.sh 1 (.ofNat 1)]),(sv (sv s)).skip.p] q):PO 108 [eA tl,cA (.ind true x t a.p b.p) f hs [[a.ptr hs],[b.ptr (fA 2 hs++[x.sh 1 (.ofNat 1)])]],s.p] (.ind true (rz x (sS (sv s)) r) (t.ps s.vs s.dep 0) p (.p2 .impE (.ins false c q) (.leaf false 0))):=by
 have d:=yN g (by have:=B.n;have:nA=100000:=rfl;omega);rw[e]at d;have z0:((fA 2 hs++[x.sh 1 (.ofNat 1)]).map Fm.c).length=hs.length+1:=by rw[gB,gz,gB];rfl
 have i:=gC (a:=hs.length+1) (b:=1) (z:=.ofNat hs.length) (by have:=yA;have:=zA;omega) (by have:=yA;omega) aac;rw[<-z0]at i;have y:=EA (c:=Fm.c) (g:=fA 2 hs++[x.sh 1 (.ofNat 1)]) (k:=hs.length) (t:=x.sh 1 (.ofNat 1)) a8 Fm.c_len;let P:=Px.o;refine P.p 1 31 (d.imp (λh=>(⟨trivial,h⟩:True/\_)) id) λ_ d=>?_
 let P:=(((((((P.a 31 d).a 33 B.g80).a 34 (TA 0)).a 35 (SB.g81 (SB.bind (m:=m+3) B) (.v 0))).a 36 sD).a 37 sD).a 43 B.g80).a 44 (TA 0);refine P.x 5 45 48 j λz d=>?_
 let P:=((((P.a 45 d).a 48 (uE r)).a 61 B.g80).a 62 (SB.g80 (SB.bind (m:=m+3) B))).a 63 (TA 0);refine P.x 9 64 67 o λj d=>?_
 let P:=(P.a 64 d).a 67 (uE c);refine P.p 10 71 ((SB.sv (m:=m+2) B).real g k z) λg d=>?_
 let P:=P.a 71 d;refine P.p 11 80 v λk d=>?_
 let P:=((((((P.a 80 d).a 90 (SB.g80 (SB.sv (m:=m+2) B))).a 91 (TA 0)).a 92 (SB.g81 (SB.bind (m:=m+1) (SB.sv (m:=m+2) B)) (.v 0))).a 112 i).a 113 y).a 126 (SB.g139 (SB.sv (m:=m) (SB.sv (m:=m+2) B)));refine P.p 18 127 w λi d=>?_
 let P:=P.a 127 d;refine P.p 18 128 (qL (t:=c) (by have:=j.cnt;omega) j.shp i) λi d=>?_
 let P:=P.a 128 d;refine P.p 18 131 (NJ .impE (b:=.leaf false 0) i ⟨by simp only[Pf.cnt];omega,trivial⟩) λi d=>?_
 let P:=P.a 131 d;refine P.x 20 157 160 (B.term l) λj d=>?_
 let P:=(P.a 157 d).a 160 (uE (t.ps s.vs s.dep 0));refine P.p 20 166 (jI (p:=.ind true (rz x (sS (sv s)) r) (t.ps s.vs s.dep 0) p (.p2 .impE (.ins false c q) (.leaf false 0))) (by have:=g.cnt;have:=j.cnt;have:=yA;have:=i.1;show 1+_+_+_+Pf.cnt _<=_;omega) ⟨j.shp,g.shp,k.2,i.2⟩) λd c=>?_
 let P:=P.a 166 c;exact .inl ⟨d,P.f bG⟩
end
open Go.Lg
def Jt.gx:Jt->Prop|.leaf _ _ f=>f.gx|.refl _=>True|.p1 _ a f=>f.gx/\a.gx|.p2 _ a b f=>f.gx/\a.gx/\b.gx|.impI x a=>x.gx/\a.gx|.all _ _ a=>a.gx|.ins _ _ a f=>f.gx/\a.gx|.ex _ x _ a=>x.gx/\a.gx|.ind _ x _ a b f=>f.gx/\x.gx/\a.gx/\b.gx|.subst x a b f=>f.gx/\x.gx/\a.gx/\b.gx
def vI:∀j:Jt,j.gx->j.f.gx|.leaf _ _ _,h=>h|.refl _,_=>trivial|.p1 _ _ _,h=>h.1|.p2 _ _ _ _,h=>h.1|.impI _ a,h=>⟨h.1,vI a h.2⟩|.all u _ a,h=>⟨vI a h,λe=>by cases u<;>cases e⟩|.ins _ _ _ _,h=>h.1|.ex _ _ _ _,h=>h.1|.ind _ _ _ _ _ _,h=>h.1|.subst _ _ _ _,h=>h.1
structure SW(m n:Nat)(hs:List Fm)(s:Sc):Prop where
 S:ScOK n (hs.map Fm.has) s
 p:∀y∈s.ks,y.pl<s.hyps
 n:n+m<=85000
 d:s.dep+m<=85000
 h:s.hyps+m<=85000
 k:s.ks.length+m<=85000
section
variable{m n:Nat}{hs:List Fm}{s:Sc}
def SW.B(W:SW m n hs s):SB m n s:=⟨W.S.ve,W.S.vl,W.n,W.d,W.h,W.k⟩
def SW.kl(W:SW m n hs s):s.ks.length=hs.length:=by have:=W.S.kl;simpa using this
def SW.le{m':Nat}(W:SW m n hs s)(a:m'<=m):SW m' n hs s:=⟨W.S,W.p,by have:=W.n;omega,by have:=W.d;omega,by have:=W.h;omega,by have:=W.k;omega⟩
theorem SW.bind(W:SW (m+1) n hs s):SW m n hs s.bind:=⟨W.S.bind,W.p,by have:=W.n;omega,by have:=W.d;show s.dep+1+m<=_;omega,by have:=W.h;show s.hyps+m<=_;omega,by have:=W.k;show s.ks.length+m<=_;omega⟩
def SW.sv(W:SW (m+2) n hs s):SW m (n+1) (fA 1 hs) (sv s):=⟨by rw[aE];exact W.S.bind.var (TB (aaJ _)),W.p,by have:=W.n;omega,by have:=W.d;show s.dep+1+m<=_;omega,by have:=W.h;show s.hyps+m<=_;omega,by have:=W.k;show s.ks.length+m<=_;omega⟩
theorem SW.skip(W:SW (m+1) n hs s):SW m n hs s.skip:=⟨⟨W.S.vl,W.S.kl,W.S.ve,W.S.ke,W.S.kh⟩,λy hy=>abc (W.p y hy),by have:=W.n;omega,by have:=W.d;show s.dep+m<=_;omega,by have:=W.h;show s.hyps+1+m<=_;omega,by have:=W.k;show s.ks.length+m<=_;omega⟩
def SW.psh{x:Fm}{y:Hy}(W:SW (m+1) n hs s)(hy:y.pl=s.hyps)(b:ScOK n ((hs++[x]).map Fm.has) ⟨s.dep,s.hyps+1,s.vs,s.ks++[y]⟩):SW m n (hs++[x]) ⟨s.dep,s.hyps+1,s.vs,s.ks++[y]⟩:=
 ⟨b,λz a=>by
  rcases eh.1 a with a|a
  ·exact abc (W.p z a)
  simp at a;subst a;show z.pl<s.hyps+1;omega,by have:=W.n;omega,by have:=W.d;show s.dep+m<=_;omega,by have:=W.h;show s.hyps+1+m<=_;omega,by have:=W.k;show(s.ks++_).length+m<=_;simp;omega⟩
theorem SW.bare(W:SW (m+1) n hs s){x:Fm}(e:x.has=false):SW m n (hs++[x]) s.bare:=W.psh rfl (by rw[gn,gF,e];exact W.S.bare)
theorem SW.un(W:SW (m+2) n hs s)(x:Fm):SW m n (hs++[x]) (bif x.has then s.bind.hyp (.v 0)else s.bare):=by
 cases e:x.has
 ·exact(W.le (m':=m+1) a6).bare e
 exact SW.psh (SW.bind (m:=m+1) W) rfl (by rw[gn,gF,e];exact W.S.bind.hyp (TB (aaJ _)) true)
end
section
variable{ls:List Fm}{tl:List Tm}(HT:∀(i:Nat)(f:Fm),ls[i]? =some f->∃t,tl[i]? =some t/\TK 0 t){m n:Nat}{hs:List Fm}{s:Sc}{j:Jt}
include HT
theorem bt(W:SW m n hs s)(a:j.OK ls n hs)(b:j.p.cnt<=m)(e:j.f.has=true):BT tl hs j s:=cC HT j n hs s a e W.S (by have:=W.n;omega) (by have:=W.k;have:=W.kl;have:=zA;omega) (by have:=W.d;omega) (by have:=W.h;have:=zA;omega)
theorem kR(W:SW m n hs s)(a:j.OK ls n hs)(b:j.p.cnt<=m):XO 100 [eA tl,j.ptr hs,s.p] s.dep (j.tx tl s):=by
 unfold Jt.tx;cases e:j.f.has
 ·rw[ptb e];exact .inr ⟨nY _,f1 [13] sD⟩
 have⟨r,g,q⟩:=bt HT W a b e;have g:=N7 g;rw[ptb e]at g⊢;exact .of ⟨r,f1 [18] g,q⟩
theorem Bf{l:Bool}{x:Fm}{t:Tm}{a b:Jt}{f:Fm}(W:SW (m+8) n hs s)(o:(Jt.ind l x t a b f).OK ls n hs)(y:a.p.cnt<=m)(z:b.p.cnt<=m)(e:x.has=true):XO 171 [row tl,(Jt.ind l x t a b f).ptr hs,s.bind.p,(Tm.v 0).p] (s.dep+1) (GD tl l x a b s.bind (.v 0)):=by
 have⟨A,p,B,u,_,⟨v,h⟩,k⟩:=o;have:=zA;have c:=SW.bind (m:=m+7) W;have:=c.kl;have:=c.n;have:=c.d;have:=c.h;have:=c.k;have W2:=SW.sv (m:=m+5) c;have⟨r,g,q⟩:=Tn (tl:=tl) (l:=l) (t:=t) (T:=.v 0) (a:=a) (b:=b) (f:=f) p e c.S (TB (aaJ _)) a6 a6 a6 a6 (bt HT c u a6 (by rw[XA v];exact e)) (by
  cases l
  ·have d:=SW.un (m:=m+3) W2 x;rw[e]at d;exact bt HT d k a6 (by rw[XA h];exact e)
  have d:=SW.un (m:=m+1) (SW.sv (m:=m+3) W2) (x.sh 1 (.ofNat 1));have w:(x.sh 1 (.ofNat 1)).has=true:=by rw[XA (nE _ x 1)];exact e
  rw[w,show fA 1 (fA 1 hs)=fA 2 hs from kY hs]at d;exact bt HT d k a6 (by rw[XA h];exact e))
 exact .of ⟨r,f1 [15] g,q⟩
end
def pY{a:Jt}{b:List Fm}{F:Fm}(e:a.f=F):a.ptr b=a.pf b F:=by subst e;rfl
def eE{ls:List Fm}{tl:List Tm}(g:∀(i:Nat)(f:Fm),ls[i]? =some f->∃t,tl[i]? =some t/\TK 0 t):∀(j:Jt)(m n:Nat)(c:List Fm)(s:Sc),j.OK ls n c->j.gx->SW m n c s->5*j.p.cnt<=m->mB tl (j.ptr c) s (j.pv tl s).p
 |.leaf false i f,m,n,c,s,⟨_,V,_⟩,_,W,_=>by
  have I:=W.kl;obtain⟨y,hy⟩:∃y,s.ks[s.ks.length-1-i]? =some y:=⟨_,e7 a6⟩;exact Q9 W.B a6 hy (W.p y (gg hy))
 |.leaf true i f,m,n,c,s,_,_,_,_=>P9|.refl t,m,n,c,s,⟨A,_⟩,_,W,_=>zPt W.B A|.p1 k a f,m,n,c,s,⟨_,r,_⟩,⟨_,ga⟩,W,p=>by
  have p:5*(1+a.p.cnt)<=m:=p;have H:=eE g a m n c s r ga W a6;cases k
  ·exact R9 H
  ·exact S9 H
  exact T9 H
 |.impI x a,m,n,c,s,⟨d,_,r⟩,⟨gx,ga⟩,W,p=>by
  have p:5*(1+x.cnt+a.p.cnt)<=m:=p;have W:=W.le (m':=m-5+2) a6;exact W9 (uU (SB.le W.B) d gx λK e=>by subst e;exact eE g a (m-5) n _ _ r ga (W.un x) a6)
 |.all u w a,m,n,c,s,⟨R,_,r⟩,ga,W,p=>by
  have p:5*(1+a.p.cnt)<=m:=p;have W:=W.le (m':=m-5+2) a6;have H:=eE g a (m-5) (n+1) _ _ r ga W.sv a6;cases u
  ·exact Z9 R W.B H
  exact zPm R W.B H
 |.ins u t a f,m,n,c,s,⟨_,A,r,_⟩,⟨_,ga⟩,W,p=>by
  have p:5*(1+t.cnt+a.p.cnt)<=m:=p;have H:=eE g a m n c s r ga W a6;cases u
  ·exact zPn W.B A H
  exact zPo W.B A H
 |.ex u x t a,m,n,c,s,⟨d,A,r,⟨w,e⟩,er⟩,⟨gx,ga⟩,W,p=>by
  have p:5*(1+t.cnt+x.cnt+a.p.cnt)<=m:=p;have H:=eE g a m n c s r ga W a6;cases u
  ·exact U9 H
  have W:=W.le (m':=m-5+2) a6;have T:=kR g (SW.bind (m:=m-5+1) W) r a6;rw[e]at d gx⊢;generalize x.bd=y at d gx⊢;have hy:FK (n+1) y:=⟨by have:1+y.cnt<=4096:=d.cnt;omega,(JA d.shp).2,d.sc⟩;exact zPp (s84 (hu:=gq (JA d.shp).1) W.B hy gx.1 A T H)
 |.subst x a b f,m,n,c,s,⟨_,d,r,o,_⟩,⟨_,gx,ga,v⟩,W,p=>by
  have p:5*(1+x.cnt+a.p.cnt+b.p.cnt)<=m:=p;have H:=eE g a m n c s r ga W a6;have D:=eE g b m n c s o v W a6;have W:=W.le (m':=m-5+2) a6;exact zHj W.B d gx H D (kR g (SW.bind (m:=m-5+1) W) o a6)
 |.p2 k a b f,m,n,c,s,⟨_,r,h⟩,⟨_,ga,v⟩,W,p=>by
  have p:5*(1+a.p.cnt+b.p.cnt)<=m:=p;have H:=eE g a m n c s r ga W a6
  cases k with
  |andI=>exact V9 H (eE g b m n c s h.1 v W a6)|impE=>
   have⟨o,_⟩:=h;have D:=eE g b m n c s o v W a6;have L:=kR g W o a6;unfold Jt.tx at L;show mB tl (cA (.p2 .impE a.p b.p) f c [[a.ptr c],[b.ptr c]]) s (im (bif b.f.has then ou (b.xt tl s) (a.pv tl s)else a.pv tl s) (b.pv tl s)).p;cases e:b.f.has
   ·rw[ptb e]at D⊢;exact X9 H D
   rw[e]at L;rw[ptb e]at D L⊢;exact Y9 H D L
  |exE=>
   have⟨o,⟨u,e⟩,_⟩:=h;have z:=kR g W r a6;have B:=Jt.FKj r;have C:=vI a ga;have M:(Jt.p2 .exE a b f).ptr c=cA (.p2 .exE a.p b.p) f c [[a.ptr c],[b.ptr (fA 1 c++[a.f.bd])]]:=rfl;rw[M];show mB tl _ s (im (bif a.f.bd.has then ou (.n1 .snd (a.xt tl s)) (ou (.n1 .fst (a.xt tl s)) (.all false a.f.qs (un a.f.bd (b.pv tl) (sv s))))else ou (a.xt tl s) (.all false a.f.qs (un a.f.bd (b.pv tl) (sv s)))) (a.pv tl s)).p;unfold Jt.tx at z;have hq:a.f.qs=u:=by rw[e];rfl
   have N:a.f.has=true:=by rw[e];rfl
   rw[N]at z;rw[hq];generalize a.f.bd=x at e o⊢;rw[e]at B C;rw[pY e]at H z;have d:FK (n+1) x:=⟨by have:1+x.cnt<=4096:=B.cnt;omega,(JA B.shp).2,B.sc⟩;have W:=W.le (m':=m-5+4) a6;have W2:=SW.sv (m:=m-5+2) W;have D:PO 97 [eA tl,x.p,b.ptr (fA 1 c++[x]),(sv s).p] (un x (b.pv tl) (sv s)).p:=uU (SB.le W2.B) d C.1 λK e=>by subst e;exact eE g b (m-5) (n+1) _ _ o v (W2.un x) a6
   refine jZf (ha:=c) ?_;rw[pY e];cases F:x.has
   ·exact jZg (m:=m-5+2) (lD (JA B.shp).1) W.B d F z D H
   exact jZh (m:=m-5+2) (lD (JA B.shp).1) W.B d F z D H
  |exUE=>
   have⟨o,⟨u,e⟩,_⟩:=h;have W:=W.le (m':=m-5+5) a6;have z:=kR g (SW.bind (m:=m-5+4) W) r a6;have B:=Jt.FKj r;have C:=vI a ga;have M:(Jt.p2 .exUE a b f).ptr c=cA (.p2 .exUE a.p b.p) f c [[a.ptr c],[b.ptr (fA 1 c++[a.f.bd])]]:=rfl;rw[M];show mB tl _ s (Jt.p2 .exUE (a.pv tl s) (bif a.f.bd.has then im (ou (a.xt tl s.bind) (un a.f.bd (b.pv tl) (sv s).skip)) (.leaf false 0 (rz a.f.bd (sS (sv s)) (a.xt tl s.bind)))else b.pv tl (sv s).bare) _).p;unfold Jt.tx at z;have N:a.f.has=a.f.bd.has:=by rw[e];rfl
   rw[N]at z;generalize a.f.bd=x at e o z⊢;rw[e]at B C;rw[pY e]at H z;have d:FK (n+1) x:=⟨by have:1+x.cnt<=4096:=B.cnt;omega,(JA B.shp).2,B.sc⟩;have W2:=SW.sv (m:=m-5+3) W;refine zPq (ha:=c) ?_;rw[pY e];cases F:x.has
   ·exact jZi (m:=m-5+3) W.B d F H (eE g b (m-5) (n+1) _ _ o v ((SW.bare (m:=m-5+2) W2 F).le a6) a6)
   rw[F]at z;have J:=SW.skip (m:=m-5+2) W2;exact jZj (m:=m-5+3) W.B d F H z (uU (SB.le J.B) d C.1 λK e=>by subst e;exact eE g b (m-5) (n+1) _ _ o v ((SW.un (m:=m-5+0) J x).le a6) a6)
 |.ind l x t a b f,m,n,c,s,r,⟨_,gx,ga,v⟩,W,p=>by
  have G:=r;have⟨_,d,A,O,_,⟨X,Y⟩,E⟩:=r;have p:5*(1+t.cnt+x.cnt+a.p.cnt+b.p.cnt)<=m:=p;have H:=eE g a m n c s O ga W a6;have:=UE t;have:=EX x;have I:c.length<=qA:=by have:=W.k;have:=W.kl;have:=zA;omega
  have W:=W.le (m':=m-15+14) a6;have W2:=SW.sv (m:=m-15+12) W;cases l
  ·refine zPr ?_;cases e:x.has
   ·show PO 108 _ (Pf.ind false (rz x (sS (sv s)) (bif x.has then _ else _)) _ _ (Jt.p (bif x.has then _ else _)));rw[e];exact zPu (m:=m-15+10) W.B d gx A I e H (eE g b (m-15) (n+1) _ _ E v ((SW.bare (m:=m-15+11) W2 e).le a6) a6)
   show PO 108 _ (Pf.ind false (rz x (sS (sv s)) (bif x.has then _ else _)) _ _ (Jt.p (bif x.has then _ else _)));rw[e];have J:=SW.skip (m:=m-15+11) W2;exact zPv (r2:=.v 0) (m:=m-15+10) W.B d gx A I e (Bf g (m:=m-15+6) W G a6 a6 e) H (uU (SB.le J.B) d gx λK e=>by subst e;exact eE g b (m-15) (n+1) _ _ E v ((SW.un (m:=m-15+9) J x).le a6) a6)
  have P:=SW.sv (m:=m-15+10) W2;rw[show fA 1 (fA 1 c)=fA 2 c from kY c]at P;have U:(x.sh 1 (.ofNat 1)).has=x.has:=XA (nE _ x 1);refine zPs ?_;cases e:x.has
  ·show PO 108 _ (Pf.ind true (rz x (sS (sv s)) (bif x.has then _ else _)) _ _ (Jt.p (bif x.has then _ else _)));rw[e];exact zPw (m:=m-15+10) W.B d gx A I e H (eE g b (m-15) (n+2) _ _ E v ((SW.bare (m:=m-15+9) P (U.trans e)).le a6) a6)
  show PO 108 _ (Pf.ind true (rz x (sS (sv s)) (bif x.has then _ else _)) _ _ (Jt.p (bif x.has then _ else _)));rw[e];have S:=SW.skip (m:=m-15+9) P;have Q:FK (n+1+1) (x.sh 1 (.ofNat 1)):=⟨by rw[MD];exact d.cnt,by rw[gQ];exact d.shp,xJ 1 x 1 _ d.sc⟩;exact zPx (m:=m-15+10) W.B d gx A I e (Bf g (m:=m-15+6) W G a6 a6 e) (Bf g (m:=m-15+5) (SW.bind (m:=m-15+13) W) G a6 a6 e) H (uU (SB.le S.B) Q (by rw[ZH];exact MJ x _ gx) λK e=>by subst e;exact eE g b (m-15) (n+2) _ _ E v ((SW.un (m:=m-15+7) S _).le a6) a6)
open Go.Lg
section
variable{ls:List Fm}{tl:List Tm}(HT:∀(i:Nat)(f:Fm),ls[i]? =some f->∃t,tl[i]? =some t/\TK 0 t){m n:Nat}{hs:List Fm}{s:Sc}{j:Jt}
include HT
theorem s65(W:SW m n hs s)(b:j.OK ls n hs)(l:j.gx)(o:j.p.cnt<=m):∃r:FR,A 87 [eA tl,j.ptr hs,s.p] r.p/\r.Gd s.dep (rz j.f (sS s) (j.tx tl s)):=by
 have:nA=100000:=rfl;have B:=W.B;have kf:=Jt.FKj b;rw[<-W.S.vl]at kf;rcases kR HT W b o with ⟨w,a⟩|⟨p,a⟩
 ·exact⟨.er 3,f1 [15] a,rfl⟩
 have⟨r,d,g⟩:=Gp W.S.ve (by have:=W.d;omega) (by have:=W.n;rw[W.S.vl];omega) kf
 cases r with
 |er k=>
  obtain rfl:k=3:=g;exact⟨.er 3,f2 [15,28] a d,rfl⟩
 |ok F=>
  obtain⟨u,rfl⟩:=g;have e:rz (j.f.sub (sS s)) Tm.v (j.tx tl s)=rz j.f (sS s) (j.tx tl s):=by
   rw[RF];congr 1;funext i;exact eC _
  have⟨r,v,h⟩:=kN u (MJ j.f _ (vI j l)) p (by have:=W.d;omega);rw[e]at h;exact⟨r,f3 [15,28,37] a d v,h⟩
end
abbrev zSc:PV:=.agg [num 0,num 0,.slice [],.slice []]
def HD:∀{t:Tm}{g:List Ty}{s:Ty},Ht g t s->t.mx<=g.length+t.cnt
 |.v i,g,s,h=>by
  have:=TQ h
  grind[Tm.mx,Tm.cnt]
 |.lam w b,g,s,⟨_,_,h⟩=>by
  have:=HD h
  grind[List.length_append,List.length_cons,List.length_nil,Tm.mx,Tm.cnt]
 |.n0 _,_,_,_=>by simp[Tm.mx]|.n1 k a,g,s,h=>by
  have:a.mx<=g.length+a.cnt:=by
   cases k
   ·exact HD h.2
   ·have⟨_,h⟩:=h;exact HD h
   have⟨_,h⟩:=h;exact HD h
  grind[Tm.mx,Tm.cnt]
 |.n2 k a b,g,s,h=>by
  have:a.mx<=g.length+a.cnt/\b.mx<=g.length+b.cnt:=by
   cases k
   ·have⟨_,d,e⟩:=h;exact⟨HD d,HD e⟩
   ·exact⟨HD h.2.1,HD h.2.2⟩
   have⟨_,_,_,d,e⟩:=h;exact⟨HD d,HD e⟩
  grind[Tm.mx,Tm.cnt]
 |.n3 k w a b c,g,s,h=>by
  have d:=HD h.2.1;have:b.mx<=g.length+b.cnt/\c.mx<=g.length+c.cnt:=by
   cases k
   ·exact⟨HD h.2.2.1,HD h.2.2.2⟩
   exact⟨HD h.2.2.1,HD h.2.2.2⟩
  grind[Tm.mx,Tm.cnt]
def OJ:∀{f:Fm}{g:List Ty},f.hq g->f.mx<=g.length+f.cnt
 |.eq a b,g,h=>by
  have c:=HD h.1;have d:=HD h.2
  grind[Fm.mx,Fm.cnt]
 |.bin _ a b,g,h=>by
  have c:=OJ h.1;have d:=OJ h.2
  grind[Fm.mx,Fm.cnt]
 |.q _ s a,g,h=>by
  have:=OJ (f:=a) h
  grind[List.length_append,List.length_cons,List.length_nil,Fm.mx,Fm.cnt]
def zHk{f a:Fm}(h:FCv f a):∀{g b:Fm},zB f=some g->zB a=some b->g=b:=by
 induction h with
 |eq h k=>
  grind[zB,oo]
 |bin k _ _ c d=>
  grind[zB]
 |q k s _ e=>
  grind[zB]
def jq{f g y:Fm}(h:zB f=some g)(e:FCv f y)(k:y.occ 0=0):g.occ 0=0:=by
 have a:=e.ren λi=>max i 1
 have b:y.ren (λi=>max i 1)=y:=by
  rw[nH];refine(RM y _ Tm.v λi c=>?_).trans (We y)
  grind
 rw[b]at a;rw[zHk (e.trans a.symm) h (LX _ _ _ h)];simp[qR]
def HC(b a:List Fm):Prop:=b.length=a.length/\∀(i:Nat)(x:Fm),b[i]? =some x->∃y,a[i]? =some y/\FCv y x
theorem HC.refl(a:List Fm):HC a a:=⟨rfl,λ_ x h=>⟨x,h,.refl x⟩⟩
def HC.up{b a:List Fm}(h:HC b a)(k:Nat):HC (fA k b) (fA k a):=⟨by simp[h.1],λi x e=>by
 rw[fA,i1]at e;obtain⟨x0,c,rfl⟩:=aaC.1 e;have⟨y,d,f⟩:=h.2 i x0 c;exact⟨_,by rw[fA,i1,d];rfl,f.sh 0 k⟩⟩
theorem HC.sn{b a:List Fm}(h:HC b a){x y:Fm}(e:FCv y x):HC (b++[x]) (a++[y]):=⟨by simp[h.1],λi z k=>by
 rcases Nat.lt_or_ge i b.length with c|c
 ·rw[aag c]at k;have⟨w,d,f⟩:=h.2 i z k
  grind
 rw[List.getElem?_append_right c]at k;have:i-b.length=0:=by
  have:=(gf.1 k).1;simp_all
 rw[this]at k;cases k;exact⟨y,by rw[List.getElem?_append_right (h.1▸c),<-h.1,this];rfl,e⟩⟩
def HC.ind{b a:List Fm}(h:HC b a)(x:Fm)(l:Bool):HC (iK b x l) (iK a x l):=by
 cases l
 ·exact(h.up 1).sn (.refl _)
 exact(h.up 2).sn (.refl _)
def ID{r:List Fm}:∀{p:Pf}{g:List Ty}{m c:List Fm}{f:Fm},HC m c->p.W r g m f->p.W r g c f
 |.leaf u i,g,m,c,f,H,h=>by
  cases u
  ·have⟨d,x,e,j⟩:=h;have⟨y,n,o⟩:=H.2 _ _ e;exact⟨H.1▸d,y,H.1▸n,o.trans j⟩
  exact h
 |.refl _,_,_,_,_,_,h=>h|.p1 k a,g,m,c,f,H,h=>by
  cases k
  ·exact h.imp λ_=>ID H
  ·exact h.imp λ_=>ID H
  have⟨s,u,x,d,e⟩:=h;exact⟨s,u,x,ID H d,e⟩
 |.p2 k a b,g,m,c,f,H,h=>by
  cases k
  ·have⟨x,y,d,e,j⟩:=h;exact⟨x,y,ID H d,ID H e,j⟩
  ·have⟨x,d,e⟩:=h;exact⟨x,ID H d,ID H e⟩
  ·have⟨s,x,y,d,e,j⟩:=h;exact⟨s,x,y,ID H d,ID ((H.up 1).sn (.refl _)) e,j⟩
  have⟨s,x,y,d,e,j⟩:=h;exact⟨s,x,y,ID H d,ID ((H.up 1).sn (.refl _)) e,j⟩
 |.impI x a,g,m,c,f,H,⟨d,y,e,j⟩=>⟨d,y,ID (H.sn (.refl _)) e,j⟩|.all u s a,g,m,c,f,H,⟨d,y,e,j⟩=>⟨d,y,ID (H.up 1) e,j⟩|.ins u t a,g,m,c,f,H,⟨d,s,x,e,j,n⟩=>⟨d,s,x,e,ID H j,n⟩|.ex u x t a,g,m,c,f,H,⟨d,e,s,y,j,n,o,v⟩=>⟨d,e,s,y,j,n,ID H o,v⟩|.ind l x t a b,g,m,c,f,H,⟨d,e,j,n,o⟩=>⟨d,e,ID H j,ID (H.ind x l) n,o⟩|.subst x a b,g,m,c,f,H,⟨d,t,u,e,j,n⟩=>⟨d,t,u,ID H e,ID H j,n⟩
def iE{v:List Fm}:∀{p:Pf}{g:List Ty}{m:List Fm}{f n:Fm},p.W v g m f->FCv f n->p.W v g m n
 |.leaf u i,g,m,f,n,h,e=>by
  cases u
  ·have⟨d,x,c,j⟩:=h;exact⟨d,x,c,j.trans e⟩
  have⟨x,c,j⟩:=h;exact⟨x,c,j.trans e⟩
 |.refl _,_,_,_,_,⟨d,c,j⟩,e=>⟨d,c,j.trans e⟩|.p1 k a,g,m,f,n,h,e=>by
  cases k
  ·have⟨y,h⟩:=h;exact⟨y,iE h (.bin _ e (.refl _))⟩
  ·have⟨y,h⟩:=h;exact⟨y,iE h (.bin _ (.refl _) e)⟩
  have⟨s,u,x,d,c⟩:=h;exact⟨s,u,x,d,c.trans e⟩
 |.p2 k a b,g,m,f,n,h,e=>by
  cases k
  ·have⟨x,y,d,c,j⟩:=h;exact⟨x,y,d,c,j.trans e⟩
  ·have⟨x,d,c⟩:=h;exact⟨x,iE d (.bin _ (.refl _) e),c⟩
  ·have⟨s,x,y,d,c,j,o⟩:=h;exact⟨s,x,y,d,c,j,o.trans e⟩
  have⟨s,x,y,d,c,j,o,r⟩:=h;exact⟨s,x,y,d,c,j,o.trans e,r⟩
 |.impI x a,g,m,f,n,⟨d,y,c,j⟩,e=>⟨d,y,c,j.trans e⟩|.all u s a,g,m,f,n,⟨d,y,c,j⟩,e=>⟨d,y,c,j.trans e⟩|.ins u t a,g,m,f,n,⟨d,s,x,c,j,o⟩,e=>⟨d,s,x,c,j,o.trans e⟩|.ex u x t a,g,m,f,n,⟨d,c,s,y,j,o,r,w⟩,e=>⟨d,c,s,y,j,o,r,w.trans e⟩|.ind l x t a b,g,m,f,n,⟨d,c,j,o,r⟩,e=>⟨d,c,j,o,r.trans e⟩|.subst x a b,g,m,f,n,⟨d,t,u,c,j,o⟩,e=>⟨d,t,u,c,j,o.trans e⟩
def vq{f F f' y x:Fm}(e:NC F=some f)(h:FCv F y)(k:FCv y.low x):FCv f x:=by
 have:=((Xe e).symm.trans h).put (.v 0) 0 0;rw[show((f.sh 0 (.ofNat 1)).put 0 (.v 0) 0)=f from np f]at this;exact this.trans k
def TF{C:List Fm}:∀{j:Jt}{g:List Ty}{m:List Fm}{f:Fm},j.D C g m->j.p.W C g m f->FCv j.f f
 |.leaf u i f0,g,m,f,⟨_,h⟩,w=>by
  cases u
  ·have⟨_,x,o,v⟩:=w;rw[h.2]at o;cases o;exact v
  have⟨x,o,v⟩:=w;rw[h]at o;cases o;exact v
 |.refl t,_,_,_,_,⟨_,_,h⟩=>h|.p1 k a f0,g,m,f,⟨_,c,h⟩,w=>by
  cases k
  ·have⟨y,e⟩:=h;have⟨z,w⟩:=w;have:=TF c w;rw[e]at this;cases this with|bin _ d _=>exact d
  ·have⟨y,e⟩:=h;have⟨z,w⟩:=w;have:=TF c w;rw[e]at this;cases this with|bin _ _ d=>exact d
  obtain⟨s,u,x,e,_,y,D,rfl⟩:=h;have⟨A,E,F,w,n⟩:=w;have:=TF c w;rw[e]at this;obtain rfl:=YH D;cases this with|q _ _ d=>cases d with|q _ _ o=>exact FCv.trans (.q _ _ (.q _ _ ((o.sh 2 1).put vapp 0 0))) n
 |.p2 k a b f0,g,m,f,⟨_,c,h⟩,w=>by
  cases k
  ·obtain⟨p,rfl⟩:=h;have⟨x,y,w1,w2,w3⟩:=w;exact FCv.trans (.bin _ (TF c w1) (TF p w2)) w3
  ·have⟨p,x,e,_⟩:=h;have⟨y,w1,_⟩:=w;have:=TF c w1;rw[e]at this;cases this with|bin _ _ d=>exact d
  ·have⟨⟨s,e,p⟩,_,B⟩:=h;have⟨A,x,y,w1,w2,_,w4⟩:=w;have:=TF c w1;rw[e]at this;cases this with|q _ _ d=>exact vq (f':=f) B (TF p (ID ((HC.refl _).sn d) w2)) w4
  have⟨⟨s,e,p⟩,_,B,_⟩:=h;have⟨A,x,y,w1,w2,_,w4,_⟩:=w;have:=TF c w1;rw[e]at this;cases this with|q _ _ d=>exact vq (f':=f) B (TF p (ID ((HC.refl _).sn d) w2)) w4
 |.impI x a,g,m,f,⟨_,_,_,c⟩,⟨_,y,w,n⟩=>FCv.trans (.bin _ (.refl _) (TF c w)) n|.all u s a,g,m,f,⟨_,_,c,_⟩,⟨G,y,w,n⟩=>by
  subst G;exact FCv.trans (.q _ _ (TF c w)) n
 |.ins u t a f0,g,m,f,⟨_,_,c,s,x,_,e,r⟩,⟨_,A,F,_,w,n⟩=>by
  have:=TF c w;rw[e]at this;obtain rfl:=YH r;cases this with|q _ _ d=>exact(d.put t 0 0).trans n
 |.ex u x t a,g,m,f,_,⟨_,_,_,_,_,_,_,h⟩=>h|.ind l x t a b f0,g,m,f,⟨_,_,_,_,_,_,r⟩,⟨_,_,_,_,h⟩=>by
  obtain rfl:=YH r;exact h
 |.subst x a b f0,g,m,f,⟨_,_,c,_,t,u,_,e,_,_,r⟩,⟨_,H,E,w,_,n⟩=>by
  have:=TF c w;rw[e]at this;obtain rfl:=YH r;cases this with|eq _ d=>exact(Co d x).trans n
instance:PA:=⟨oo,λh=>PF _ _ _ h⟩
def jZl(g:List Ty):RNg (g++[.list]) (g++[.nat,.list]) (QC 1 1):=by
 have h:=(VM g .nat).up .list;rw[RT,gy]at h;exact h
instance:PB where
 un:=TF
 cv:=iE
 ft h k:=h.trans k
 pc h:=Co h _
 hc h e:=ID ((HC.refl _).sn e) h
 tq h d:=iG h.1 _ _ _ h.2 d
 mx h:=OJ (pH _ _ h)
 mt h:=HD (HE _ _ _ h)
 up1 h:=SQ (k:=1) (VM _ _) h
 up2 {g s u _} h:=SQ (k:=2) (by have:=j8 g s u;rw[gy]at this;exact this) h
 si h:=SQ (k:=1) (jZl _) h
 oc:=jq
def UF{J:List Fm}:∀{j:Jt}{g:List Ty}{d:List Fm},j.W J g d->j.p.ck->j.p.W J g d j.f
 |.leaf u i f,g,d,h,_=>by cases u<;>exact h
 |.refl t,_,_,h,c=>⟨c,h,.refl _⟩|.p1 k a f,g,d,⟨h,r⟩,c=>by
  have v:=UF h c;cases k
  ·have⟨y,e⟩:=r;exact⟨y,iE v e⟩
  ·have⟨y,e⟩:=r;exact⟨y,iE v e⟩
  have⟨s,u,x,e,F⟩:=r;exact⟨s,u,x,iE v e,F.symm⟩
 |.p2 k a b f,g,d,⟨h,r⟩,⟨K,D⟩=>by
  have v:=UF h K;cases k
  ·have⟨w,e⟩:=r;exact⟨_,_,v,UF w D,e.symm⟩
  ·have⟨w,x,e,F⟩:=r;exact⟨x,iE v e,iE (UF w D) F.symm⟩
  ·have⟨s,x,y,e,w,E,G,H⟩:=r;exact⟨s,x,y,iE v e,iE (UF w D) E,G,H.symm⟩
  have⟨⟨s,x,y,e,w,E,G,H⟩,L⟩:=r;exact⟨s,x,y,iE v e,iE (UF w D) E,G,H.symm,E.has▸L⟩
 |.impI x a,g,d,⟨m,n⟩,⟨o,p⟩=>⟨⟨o,m⟩,_,UF n p,.refl _⟩|.all u s a,g,d,⟨m,n⟩,⟨_,c⟩=>by
  subst n;exact⟨rfl,_,UF m c,.refl _⟩
 |.ins u t a f,g,d,⟨m,s,x,n,z,A⟩,⟨o,p⟩=>⟨o,s,x,n,iE (UF m p) z,A.symm⟩|.ex u x t a,g,d,⟨m,n,s,y,z,A,B⟩,⟨o,p,C⟩=>⟨⟨p,m⟩,o,s,y,z,A,iE (UF n C) B.symm,.refl _⟩|.ind l x t a b f,g,d,⟨m,n,⟨z,A⟩,⟨B,I⟩,M⟩,⟨o,p,C,N⟩=>⟨⟨p,m⟩,⟨o,n⟩,iE (UF z C) A.symm,iE (UF B N) I.symm,M.symm⟩|.subst x a b f,g,d,⟨m,n,z,t,u,A,B,I⟩,⟨o,p,C⟩=>⟨⟨o,m⟩,t,u,iE (UF n p) A,iE (UF z C) B.symm,I.symm⟩
open Go.Lg
def rY{t:Tm}(h:t.chk=0):t.tsz<=qA->A 194 [t.p] (.bool true):=λk=>by
 have:=zA;have:=yA;have q:=FF t a6;rwa[(Tm.chk0 h).2]at q
def sY{t:Fm}(h:t.chk=0):t.tsz<=qA->A 133 [t.p] (.bool true):=λk=>by
 have q:=tK t k;rwa[(Fm.chk0 h).2]at q
def jXg{s:Ty}(h:s.size<=64):A 192 [s.p] (num 0):=by
 have:=yA;have q:=gK s;have e:s.chk=0:=by
  rcases KH s with e|e
  ·exact e
  unfold Ty.chk at e;rw[iA h]at e;cases e
 rwa[e]at q
def wI:∀p:Pf,p.ck->p.tsz<=qA->A 145 [p.p] (.bool true)
 |.leaf u i,_,_=>by cases u<;>exact f1 [73] kB
 |.refl t,h,k=>f2 [73,85] kB (rY h k)|.p1 q a,h,k=>by cases q<;>exact f2 [73,107] kB (wI a h k)
 |.p2 q a b,h,k=>by
  have k:max a.tsz b.tsz<=qA:=k;cases q<;>exact f3 [73,107,107] kB (wI a h.1 a6) (wI b h.2 a6)
 |.impI f a,h,k=>by
  have k:max f.tsz a.tsz<=qA:=k;exact f3 [73,96,107] kB (sY h.1 a6) (wI a h.2 a6)
 |.all u s a,h,k=>by
  have k:max a.tsz s.size<=qA:=k;cases u<;>exact f2 [63,107] (jXg h.1) (wI a h.2 a6)
 |.ins u t a,h,k=>by
  have k:max t.tsz a.tsz<=qA:=k;cases u<;>exact f3 [73,85,107] kB (rY h.1 a6) (wI a h.2 a6)
 |.ex u f t a,h,k=>by
  have k:max (max t.tsz f.tsz) a.tsz<=qA:=k;cases u<;>exact f4 [73,85,96,107] kB (rY h.1 a6) (sY h.2.1 a6) (wI a h.2.2 a6)
 |.ind l f t a b,h,k=>by
  have k:max (max (max t.tsz f.tsz) a.tsz) b.tsz<=qA:=k;cases l<;>exact f5 [73,85,96,107,107] kB (rY h.1 a6) (sY h.2.1 a6) (wI a h.2.2.1 a6) (wI b h.2.2.2 a6)
 |.subst f a b,h,k=>by
  have k:max (max f.tsz a.tsz) b.tsz<=qA:=k;exact f4 [73,96,107,107] kB (sY h.1 a6) (wI a h.2.1 a6) (wI b h.2.2 a6)
def uN{t:Tm}(h:t.chk=0):A 195 [t.p] (num t.cnt)/\dA (.ofNat 4096) (.ofNat t.cnt)=false:=by
 have:=yA;have k:=(Tm.chk0 h).1;exact⟨lB t a6,iA k⟩
def bN{t:Fm}(h:t.chk=0):A 134 [t.p] (num t.cnt)/\dA (.ofNat 4096) (.ofNat t.cnt)=false:=by
 have:=yA;have k:=(Fm.chk0 h).1;exact⟨nF t a6,iA k⟩
def kI:∀p:Pf,p.ck->A 214 [p.p] (.bool true)|.leaf u i,_=>f0 []|.refl t,h=>f2 [17,18] (uN h).1 (uN h).2|.p1 q a,h=>f1 [39] (kI a h)|.p2 q a b,h=>f2 [39,39] (kI a h.1) (kI b h.2)|.impI f a,h=>f3 [28,29,39] (bN h.1).1 (bN h.1).2 (kI a h.2)|.all u s a,h=>f1 [39] (kI a h.2)|.ins u t a,h=>f3 [17,18,39] (uN h.1).1 (uN h.1).2 (kI a h.2)|.ex u f t a,h=>f5 [17,18,28,29,39] (uN h.1).1 (uN h.1).2 (bN h.2.1).1 (bN h.2.1).2 (kI a h.2.2)|.ind l f t a b,h=>f6 [17,18,28,29,39,39] (uN h.1).1 (uN h.1).2 (bN h.2.1).1 (bN h.2.1).2 (kI a h.2.2.1) (kI b h.2.2.2)|.subst f a b,h=>f4 [28,29,39,39] (bN h.1).1 (bN h.1).2 (kI a h.2.1) (kI b h.2.2)
def jXh(p:Pf)(h:p.cnt<=16384)(b:p.tsz<=qA)(a:p.ck):A 80 [p.p] (num 0):=by
 have:=yA;have e:(!dA (.ofNat 16384) (.ofNat p.cnt))=true:=by rw[iA h];rfl
 have g:A 146 [p.p] (.bool true):=f3 [4,7,8] (kI p a) (IF p a6) e;exact f2 [4,7] (wI p a b) g
def Pf.gx:Pf->Prop|.leaf _ _=>True|.refl _=>True|.p1 _ a=>a.gx|.p2 _ a b=>a.gx/\b.gx|.impI f a=>f.gx/\a.gx|.all _ _ a=>a.gx|.ins _ _ a=>a.gx|.ex _ f _ a=>f.gx/\a.gx|.ind _ f _ a b=>f.gx/\a.gx/\b.gx|.subst f a b=>f.gx/\a.gx/\b.gx
def tY:∀f:Fm,f.er.ne=f.ne|.eq _ _=>rfl|.bin _ f g=>by simp[Fm.er,Fm.ne,tY]|.q k _ f=>by cases k<;>simp only[Fm.er,Fm.ne,tY f]
theorem aY:∀f g:Fm,zB f=some g->f.gx->g.gx
 |.eq a b,g,e,_=>by
  simp only[zB]at e;split at e
  ·split at e
   ·cases e;trivial
   cases e
  cases e
 |.bin k f d,g,e,h=>by
  simp only[zB]at e;split at e
  ·rename_i x c;split at e
   ·rename_i y i;cases e;exact⟨aY f x c h.1,aY d y i h.2⟩
   cases e
  cases e
 |.q k s f,g,e,h=>by
  simp only[zB]at e;split at e
  ·rename_i x c;cases e;refine⟨aY f x c h.1,λek=>(h.2 ek).imp (λj=>jq c (.refl f) j) λl=>?_⟩;rw[<-tY,kT f x c,tY];exact l
  cases e
theorem wq(f:Fm)(t:Tm)(h:f.gx):(f.put 0 t 0).gx:=by rw[OD];exact MJ f _ h
theorem LI(f:Fm)(c k:Nat)(h:f.gx):(f.sh c (.ofNat k)).gx:=by rw[ZH];exact MJ f _ h
def cY{f g:Fm}{t:Tm}(e:f.pt t=.ok g)(h:f.gx):g.gx:=by
 grind[Fm.pt,wq]
def kq{f g:Fm}(e:NC f=some g)(h:f.gx):g.gx:=by
 grind[NC,wq,aY]
theorem zVl{s u:Ty}{x y:Fm}(h:(Fm.q .all s (.q .ex u x)).gx)(e:(x.sh 2 (.ofNat 1)).pt vapp=.ok y):(Fm.q .ex (.two true s u) (.q .all s y)).gx:=by
 have b:x.gx:=h.1.1;refine⟨⟨cY e (LI x 2 1 b),nofun⟩,λ_=>?_⟩;unfold Fm.pt at e;split at e
 ·cases e;refine(h.1.2 rfl).imp (λd=>?_) (λc=>?_)
  ·show((x.sh 2 (.ofNat 1)).put 0 vapp 0).occ 1=0;rw[VO,ZH,jf,RM x _ (λi=>.v (if i<=1 then 0 else i)) λi a=>?_,<-nH]
   ·grind[qR]
   match i,a with
   |0,a=>omega|1,_=>rfl|i+2,_=>
    rfl
  show Fm.ne ((x.sh 2 (.ofNat 1)).put 0 vapp 0)<=1;rw[VO,zR,ZH,zR];exact c
 cases e
def yq{a:List Fm}{i:Nat}{f:Fm}(h:∀x∈a,x.gx)(e:a[i]? =some f):f.gx:=h f (gg e)
def yR{a:List Fm}{k:Nat}(h:∀x∈a,x.gx):∀x∈fA k a,x.gx:=λx a=>by
 grind[LI]
def uR{a:List Fm}{f:Fm}(h:∀x∈a,x.gx)(b:f.gx):∀x∈a++[f],x.gx:=λx a=>by
 grind
def sF{D:List Fm}(p:∀x∈D,x.gx):∀(j:Jt)(g:List Ty)(n:List Fm),(∀x∈n,x.gx)->j.D D g n->j.p.gx->j.gx
 |.leaf false i f,g,n,d,r,_=>yq d r.2.2|.leaf true i f,g,n,d,r,_=>yq p r.2|.refl t,_,_,_,_,_=>trivial|.p1 k a f,g,n,d,⟨_,r,h⟩,c=>by
  have v:=sF p a g n d r c;have o:=vI a v;refine⟨?_,v⟩
  cases k with
  |andL=>have⟨y,e⟩:=h;rw[e]at o;exact o.1|andR=>have⟨y,e⟩:=h;rw[e]at o;exact o.2|choice=>
   obtain⟨s,u,x,e,_,y,E,rfl⟩:=h;rw[e]at o
   grind[zVl]
 |.p2 k a b f,g,n,d,⟨_,r,h⟩,c=>by
  have v:=sF p a g n d r c.1;have o:=vI a v
  cases k with
  |andI=>
   obtain⟨m,rfl⟩:=h;have z:=sF p b g n d m c.2;exact⟨⟨o,vI b z⟩,v,z⟩
  |impE=>
   have⟨m,x,e,_⟩:=h;rw[e]at o;exact⟨o.2,v,sF p b g n d m c.2⟩
  |exE=>
   have⟨⟨s,e,m⟩,_,C⟩:=h;have A:a.f.bd.gx:=by rw[e]at o;exact o.1
   have z:=sF p b _ _ (uR (yR d) A) m c.2;exact⟨kq C (vI b z),v,z⟩
  |exUE=>
   have⟨⟨s,e,m⟩,_,C,_⟩:=h;have A:a.f.bd.gx:=by rw[e]at o;exact o.1
   have z:=sF p b _ _ (uR (yR d) A) m c.2;exact⟨kq C (vI b z),v,z⟩
 |.impI x a,g,n,d,⟨_,_,_,r⟩,c=>⟨c.1,sF p a g _ (uR d c.1) r c.2⟩|.all u s a,g,n,d,⟨_,_,r,_⟩,c=>sF p a _ _ (yR d) r c|.ins u t a f,g,n,d,⟨_,_,r,s,x,_,e,E⟩,c=>by
  have v:=sF p a g n d r c;have o:=vI a v;rw[e]at o;exact⟨cY E o.1,v⟩
 |.ex u x t a,g,n,d,⟨_,_,r,_⟩,c=>⟨c.1,sF p a g n d r c.2⟩|.ind l x t a b f,g,n,d,⟨_,_,_,⟨B,_⟩,_,⟨m,_⟩,e⟩,c=>by
  refine⟨cY e c.1,c.1,sF p a g n d B c.2.1,sF p b _ _ ?_ m c.2.2⟩;cases l
  ·exact uR (yR d) c.1
  exact uR (yR d) (LI x 1 1 c.1)
 |.subst x a b f,g,n,d,⟨_,_,B,m,t,u,w,_,_,_,e⟩,c=>⟨cY e c.1,c.1,sF p a g n d B c.2.1,sF p b g n d m c.2.2⟩
open Go.Lg
abbrev uq(ls hs:List Fm)(g:List Ty)(k:Nat):IS:=st [(3,.loc 0 0),(15,.pv (uA ls)),(16,.pv (num (ls.map Fm.c).length)),(17,.pv (num k))] [(0,bx [rA g,uA hs])] 1 []
abbrev bU(hs:List Fm)(g:List Ty):IS:=st [(3,.loc 0 0)] [(0,bx [rA g,uA hs])] 1 []
def bq(d:List Fm)(g:List Ty){b:List Fm}(n:b.length<=qA):∀(r:List Fm)(k:Nat),b.drop k=r->(∀f∈r,f.cnt+1024<=qA/\f.tsz<=qA)->
  (Lp 79 0 0 (uq b d g k) (.exit 0) (bU d g)/\∀f∈r,f.chk=0/\f.ty [])\/∃e,Lp 79 0 0 (uq b d g k) .ret (st [(4,.pv (num (e+1)))] [] 1 [])/\((∀f∈r,f.chk=0/\f.hq [])->Lm (e+1))
 |[],k,h,_=>.inl ⟨x1 [18] ⟨[3],[0],1,[]⟩ (show dA (.ofNat k) (.ofNat (b.map Fm.c).length)=false from iA bS),λf h=>by cases h⟩|f::r,k,h,m=>by
  have⟨i,z,o⟩:=uC h;have:=zA;have a:dA (.ofNat k) (.ofNat (b.map Fm.c).length)=true:=KA bS;have p:=m f a8;have⟨e,j,u,v⟩:=WS [] f (λs h=>by cases h) p.2 a9
  cases e with
  |succ e=>exact .inr ⟨e,x3 [18,(19,.i f.c),22] ⟨[4],[],1,[]⟩ a (EA i Fm.c_len) j,λh=>(v (h f a8).1 (h f a8).2).resolve_left a8⟩|zero=>
   have w:=u rfl;rcases bq d g n r (k+1) o (λt y=>m t (by simp[y]))with ⟨l,q⟩|⟨e,l,q⟩
   ·refine .inl ⟨n5 [18,(19,.i f.c),22,(26,.ok)] ⟨[3,15,16,17],[0],1,[]⟩ a (EA i Fm.c_len) j (BA (show k+1<=_ by omega)) l,λx c=>?_⟩;rcases e8.1 c with rfl|c
    ·exact w
    exact q x c
   exact .inr ⟨e,n5 [18,(19,.i f.c),22,(26,.ok)] ⟨[3,15,16,17],[0],1,[]⟩ a (EA i Fm.c_len) j (BA (show k+1<=_ by omega)) l,λh=>q λx c=>h x (by simp[c])⟩
abbrev dq(hs:List Fm)(g:List Ty)(k:Nat):IS:=st [(3,.loc 0 0),(38,.pv (uA hs)),(39,.pv (num (hs.map Fm.c).length)),(40,.pv (num k))] [(0,bx [rA g,uA hs])] 1 []
def fq(g:List Ty)(l:∀s∈g,s.size<=qA)(c:g.length<=1024){b:List Fm}(o:b.length<=qA):∀(r:List Fm)(k:Nat),b.drop k=r->(∀f∈r,f.cnt+1024<=qA/\f.tsz<=qA)->
  (Lp 79 1 0 (dq b g k) (.exit 2) (st [] [] 1 [])/\∀f∈r,f.chk=0/\f.ty g)\/∃e,Lp 79 1 0 (dq b g k) .ret (st [(4,.pv (num (e+1)))] [] 1 [])/\((∀f∈r,f.chk=0/\f.hq g)->Lm (e+1))
 |[],k,h,_=>.inl ⟨x1 [41] ⟨[],[],1,[]⟩ (show dA (.ofNat k) (.ofNat (b.map Fm.c).length)=false from iA bS),λf h=>by cases h⟩|f::r,k,h,m=>by
  have⟨d,y,p⟩:=uC h;have:=zA;have a:dA (.ofNat k) (.ofNat (b.map Fm.c).length)=true:=KA bS;have u:=m f a8;have⟨e,i,A,v⟩:=WS g f l u.2
  cases e with
  |succ e=>exact .inr ⟨e,x3 [41,(42,.i f.c),47] ⟨[4],[],1,[]⟩ a (EA d Fm.c_len) i,λh=>(v (h f a8).1 (h f a8).2).resolve_left a8⟩|zero=>
   rcases fq g l c o r (k+1) p (λt w=>m t (by simp[w]))with ⟨j,q⟩|⟨e,j,q⟩
   ·refine .inl ⟨n5 [41,(42,.i f.c),47,(51,.ok)] ⟨[3,38,39,40],[0],1,[]⟩ a (EA d Fm.c_len) i (BA (show k+1<=_ by omega)) j,λx n=>?_⟩
    grind
   exact .inr ⟨e,n5 [41,(42,.i f.c),47,(51,.ok)] ⟨[3,38,39,40],[0],1,[]⟩ a (EA d Fm.c_len) i (BA (show k+1<=_ by omega)) j,λh=>q λx n=>h x (by simp[n])⟩
structure SQ2(ls:List Fm)(g:List Ty)(hs:List Fm):Prop where
 ls:∀f∈ls,f.chk=0/\f.ty []
 gl:g.length<=16
 gs:∀s∈g,s.size<=64
 hl:hs.length<=16
 hs:∀f∈hs,f.chk=0/\f.ty g
def Cf(a:List Fm)(g:List Ty)(b:List Fm):Prop:=(∀f∈a,f.chk=0/\f.hq [])/\∀f∈b,f.chk=0/\f.hq g
def a61(b:List Fm)(g:List Ty)(a:List Fm)(l:∀f∈b,f.cnt+1024<=qA/\f.tsz<=qA)(m:∀f∈a,f.cnt+1024<=qA/\f.tsz<=qA)(t:∀s∈g,s.size<=qA)(n:g.length<=1024:=by omega)(u:b.length<=qA:=by omega)(v:a.length<=qA:=by omega):∃e,A 79 [uA b,AA g a] (num e)/\(e=0->SQ2 b g a)/\(Cf b g a->e=0\/Lm e):=by
 have:=zA;have:=yA;cases c:dA (.ofNat 32) (.ofNat (b.map Fm.c).length);rotate_left
 ·exact⟨3,f1 [14] c,nofun,λ_=>.inr bb⟩
 rcases bq a g u b 0 rfl l with ⟨d,o⟩|⟨e,d,o⟩;rotate_left
 ·exact⟨e+1,f2 [14,(100004,.l ⟨[3,15,16,17],[0],1,[]⟩ .ret (st [(4,.pv (num (e+1)))] [] 1 []))] c d,nofun,λh=>.inr (o h.1)⟩
 have i:=tW g (λs h=>by have:=t s h;omega)
 cases j:UG g with
 |succ e=>
  rw[j]at i;exact⟨e+1,f3 [14,(100004,.l ⟨[3,15,16,17],[0],1,[]⟩ (.exit 0) (bU a g)),29] c d i,nofun,λ_=>.inr (Qc j)⟩
 |zero=>
  rw[j]at i;have⟨w,x⟩:=C2 j;cases k:dA (.ofNat 16) (.ofNat (a.map Fm.c).length);rotate_left
  ·exact⟨3,f4 [14,(100004,.l ⟨[3,15,16,17],[0],1,[]⟩ (.exit 0) (bU a g)),29,36] c d i k,nofun,λ_=>.inr bb⟩
  have y:a.length<=16:=by
   rw[vC]at k
   grind
  rcases fq g t n v a 0 rfl m with ⟨p,r⟩|⟨e,p,r⟩
  ·exact⟨0,f5 [14,(100004,.l ⟨[3,15,16,17],[0],1,[]⟩ (.exit 0) (bU a g)),29,36,(100016,.l ⟨[3,38,39,40],[0],1,[]⟩ (.exit 2) (st [] [] 1 []))] c d i k p,λ_=>⟨o,w,x,y,r⟩,λ_=>.inl rfl⟩
  exact⟨e+1,f5 [14,(100004,.l ⟨[3,15,16,17],[0],1,[]⟩ (.exit 0) (bU a g)),29,36,(100016,.l ⟨[3,38,39,40],[0],1,[]⟩ .ret (st [(4,.pv (num (e+1)))] [] 1 []))] c d i k p,nofun,λh=>.inr (r h.2)⟩
def lq:∀u:List Nat,VC 1 (vA (u.map ic))=true/\CC (vA (u.map ic))=true|[]=>⟨rfl,rfl⟩|n::r=>lq r
structure Bd2(X:Nat)(ls:List Fm)(g:List Ty)(hs:List Fm)(p:Pf):Prop where
 l1:∀f∈ls,f.cnt+1024<=qA/\f.tsz<=qA/\f.mx<=X
 h1:∀f∈hs,f.cnt+1024<=qA/\f.tsz<=qA/\f.mx<=X
 g1:∀s∈g,s.size<=qA
 gl:g.length<=1024
 hl:hs.length<=1000
 ll:ls.length<=1024
 cnt:p.cnt<=bA
 tsz:p.tsz<=qA
 mx:p.mx<=X
 X:X+mA*16384<=eB
def Df(H:MF){X:Nat}{ls:List Fm}{g:List Ty}{hs:List Fm}{p:Pf}(a:Bd2 X ls g hs p):∃r:PR,A 26 [uA ls,AA g hs,p.p] r.p/\(∀f u,r=.ok f u->SQ2 ls g hs/\p.ck/\p.cnt<=16384/\FO (X+mA*16384) f/\(f.has=false->u=[])/\(∃j:Jt,j.p=p/\j.f=f/\j.D ls g hs/\∀v,j.us v->v∈u)/\u.length<=16384)/\
  ∀n,r=.er n->Cf ls g hs->p.ck->p.cnt<=16384->∀f,p.W ls g hs f->Lm (n+1):=by
 have:=zA;have:=a.gl;have:=a.hl;have:=a.ll;have⟨e,i,E,l⟩:=a61 ls g hs (λf b=>⟨(a.l1 f b).1,(a.l1 f b).2.1⟩) (λf b=>⟨(a.h1 f b).1,(a.h1 f b).2.1⟩) a.g1
 cases e with
 |succ e=>exact⟨.er e,f1 [14] i,nofun,λn h k _ _ _ _=>by cases h;exact(l k).resolve_left a8⟩|zero=>
  have hq:=E rfl;obtain⟨e,c,o,s⟩:∃e,A 80 [p.p] (num e)/\(e=0->p.ck/\p.cnt<=16384)/\(p.ck->p.cnt<=16384->e=0):=by
   by_cases h:p.ck/\p.cnt<=16384
   ·exact⟨0,jXh p h.2 a.tsz h.1,λ_=>h,λ_ _=>rfl⟩
   have⟨e,c,o⟩:=Zz p a.cnt a.tsz;exact⟨e,c,o,λt x=>absurd ⟨t,x⟩ h⟩
  cases e with
  |succ e=>exact⟨.er e,f2 [14,20] i c,nofun,λn _ _ t x _ _=>absurd (s t x) a8⟩|zero=>
   have⟨F,z⟩:=o rfl;have:=a.X;have:mA*p.cnt<=mA*16384:=Nat.mul_le_mul_left _ z;have d:Pre ls g hs X p:=⟨λf b=>⟨(Fm.chk0 (hq.ls f b).1).1,(a.l1 f b).2.2,(a.l1 f b).2.1⟩,λf b=>⟨(Fm.chk0 (hq.hs f b).1).1,(a.h1 f b).2.2,(a.h1 f b).2.1⟩,a.g1,a.gl,a.hl,a.ll,a6,a.tsz,a.mx,a6⟩;have⟨r,B,C⟩:=fG H p ls g hs X d
   cases r with
   |er n=>exact⟨.er n,f3 [14,20,33] i c B,nofun,λm h _ _ _ f w=>by cases h;exact C ⟨λf b=>pC f _ (hq.ls f b).2,λf b=>pC f _ (hq.hs f b).2⟩ f w⟩|ok f u=>
    have⟨y,G,I,S,T,U⟩:=C;have⟨J,K⟩:=lq u;have L:(Nat.blt 0 1&&VC 1 (vA (u.map ic))&&CC (vA (u.map ic))&&Nat.ble (vA (u.map ic)).length maxLen&&Nat.ble ((vA (u.map ic)).length*8) 140737488355328)=true:=by
     rw[J,K,pvE_len,gB,kx (show u.length<=maxLen by simp only[maxLen];omega),kx (show u.length*8<=140737488355328 by omega)];rfl
    have D:A 26 [uA ls,AA g hs,p.p] (.tuple [.agg [num f.kd,num f.tk,.slice f.te,.slice f.ts,.slice f.es,.slice (List.take (vA (u.map ic)).length (u.map ic))],num 0]):=
     f6 [14,20,33,42,(45,.ok),(300010,.f 4 (u.map ic))] i c B (mE f) L (rfl:vA (u.map ic)=vA (u.map ic))
    rw[pvE_len,aaW]at D;refine⟨.ok f u,D,λV W h=>?_,nofun⟩;cases h;exact⟨hq,F,z,⟨y.1,by have:=y.2.1;omega,y.2.2⟩,G,I,a6⟩
def Fm.csz:Fm->Nat|.eq _ _=>1|.bin _ f g=>1+f.csz+g.csz|.q _ s f=>1+s.size+f.csz
open Go.Lg
abbrev zL(z:Int):List PV:=[.int z]
def zHl(z:Int):(zL z).length=1:=rfl
abbrev dk(L:List Int)(a:Nat):Ob:=bx [.slice (L.map zL),num a]
abbrev _root_.Go.Lg.De.D(L:List Int)(b:Nat)(x:V):De:=.d 0 (dk L b) x
structure Dk(L:List Int):Prop where
 len:L.length<=500
 rng:∀z∈L,-9223372036854775808<=z/\z<=9223372036854775807
def a38(z:Int)(k:Nat)(h:1<=k)(j:k<=qA)(l: -9223372036854775808<=z/\z<=9223372036854775807):∃x,x<k/\A 50 [.int z,num k] (num x):=by
 have a:(!sB (.ofNat k) 0)=true:=by
  rw[XI];simp;omega
 have: -(k:Int)<z.tmod (.ofNat k)/\z.tmod (.ofNat k)<k:=by
  constructor
  ·have:=Int.lt_tmod_of_pos z (show(0:Int)<.ofNat k by simp;omega);omega
  have:=Int.tmod_lt_of_pos z (show(0:Int)<.ofNat k by simp;omega);omega
 have b:0<=z.tmod (.ofNat k)+.ofNat k:=by
  grind
 have c:0<=(z.tmod (.ofNat k)+.ofNat k).tmod (.ofNat k)/\(z.tmod (.ofNat k)+.ofNat k).tmod (.ofNat k)<k:=by
  refine⟨Int.tmod_nonneg _ b,?_⟩;have:=Int.tmod_lt_of_pos (z.tmod (.ofNat k)+.ofNat k) (show(0:Int)<.ofNat k by simp;omega);omega
 have d:z.tmod (.ofNat k)+.ofNat k<=1152921504606846976:=by
  grind
 have⟨x,e⟩:=aam c.1;have f:(!sB (.ofNat k) 0)=true/\z.tmod (.ofNat k)=z.tmod (.ofNat k):=⟨a,rfl⟩;have g:xA (z.tmod (.ofNat k)+.ofNat k)=true/\z.tmod (.ofNat k)+.ofNat k=z.tmod (.ofNat k)+.ofNat k:=⟨bQ a6 d,rfl⟩;have i:(!sB (.ofNat k) 0)=true/\(z.tmod (.ofNat k)+.ofNat k).tmod (.ofNat k)=.ofNat x:=⟨a,e⟩;exact⟨x,a6,f3 [(7,.y (z.tmod (.ofNat k))),(9,.y (z.tmod (.ofNat k)+.ofNat k)),(11,.z x)] f g i⟩
def nx{L:List Int}(d:Dk L){a:Nat}(g:a<=L.length){n:Nat}(i:1<=n)(j:n<=qA):∃x b,x<n/\b<=L.length/\O 20 [.loc 0 0,.pv (num n)] [(0,dk L a)] (.pv (num x)) [(0,dk L b)]:=by
 have:=d.len;have:=yA;have e:dA (.ofNat n) 1=false:=by rw[vC];simp;omega
 by_cases h:a=L.length
 ·have c:(!dA (.ofNat a) (.ofNat (L.map zL).length))=true:=dJ a9;exact⟨0,a,a6,g,o2 1 [7,18] e c⟩
 have c:(!dA (.ofNat a) (.ofNat (L.map zL).length))=false:=jH a9;obtain⟨z,f⟩:∃z,L[a]? =some z:=⟨_,e7 a6⟩;have⟨x,k,l⟩:=a38 z n i j (d.rng z (gg f));exact⟨x,a+1,k,a6,o5 1 [7,18,(28,.i (zL z)),34,39] e c (EA f zHl) (lA (a:=a) (b:=1)) l⟩
def DA:A 54 [] Ty.nat.p:=f0 []
def dN:A 60 [] Ty.list.p:=f0 []
def a97:A 129 [] Ty.unit.p:=f0 []
def bR:Nat->Nat|0=>1|k+1=>1+2*bR k
def jZm(k:Nat):1<=bR k:=by cases k<;>simp[bR]
def PD{L:List Int}(g:Dk L):∀(k:Nat),k<=qA->∀{a:Nat},a<=L.length->∃(t:Ty)(b:Nat),t.size<=bR k/\b<=L.length/\O 49 [.loc 0 0,.pv (num k)] [(0,dk L a)] (.pv t.p) [(0,dk L b)]
 |k,r,a,n=>by
  have:=zA;have:=yA;have⟨x,b,w,e,f⟩:=nx g n (n:=7) a6 a6;have t1:=jZm k;rcases x with _|_|_|_|_|_|_|x
  ·exact⟨.nat,b,t1,e,o2 1 [6,11] f DA⟩
  ·exact⟨.nat,b,t1,e,o2 1 [6,11] f DA⟩
  ·exact⟨.nat,b,t1,e,o2 1 [6,11] f DA⟩
  ·exact⟨.list,b,t1,e,o2 1 [6,14] f dN⟩
  ·exact⟨.unit,b,t1,e,o2 1 [6,17] f a97⟩
  ·cases k with
   |zero=>exact⟨.nat,b,t1,e,o2 1 [6,44] f DA⟩|succ k=>
    have h:=lC (a:=k+1);have⟨t,c,o,i,j⟩:=PD g k a6 e;have⟨u,d,p,l,m⟩:=PD g k a6 i;exact⟨.two false t u,d,by grind[Ty.size,bR],l,o6 1 [6,24,25,28,29,30] f h j h m (ol t u)⟩
  ·cases k with
   |zero=>exact⟨.nat,b,t1,e,o2 1 [6,44] f DA⟩|succ k=>
    have h:=lC (a:=k+1);have⟨t,c,o,i,j⟩:=PD g k a6 e;have⟨u,d,p,l,m⟩:=PD g k a6 i;exact⟨.two true t u,d,by grind[Ty.size,bR],l,o6 1 [6,37,38,41,42,43] f h j h m (rO t u)⟩
  omega
def PJ{n:Nat}(h:n<4:=by omega):A 28 [num n] (AB n).p:=f1 [7] (Wz h)
def jL(f a b:Tm):A 61 [f.p,row [a,b]] (Tm.n2 .app (.n2 .app f a) b).p:=by
 have h:∀x y:Tm,A 46 [num 3,row [x,y]] (Tm.n2 .app x y).p:=λx y=>WG 3 x y
 exact f2 [16,16] (h f a) (h (.n2 .app f a) b)
def Ef{α:Type}{c:α->List PV}{n:Nat}(d:∀t,(c t).length=n)(f:∀t,CC [CA (c t)]=true):∀g:List α,VC n (vA (g.map c))=true/\CC (vA (g.map c))=true
 |[]=>⟨rfl,rfl⟩|t::r=>by
  have⟨a,b⟩:=Ef d f r;have e:vA ((t::r).map c)=CA (c t)::vA (r.map c):=rfl;rw[e];constructor
  ·unfold VC;rw[ME (show(CA (c t)).length=n by simp[CA,d]),gb];exact a
  grind[CC]
def dU{α:Type}{c:α->List PV}{n m:Nat}(d:∀t,(c t).length=n)(e:∀t,CC [CA (c t)]=true)(j:0<n)(g:List α)(h:g.length*m<=140737488355328)(f:g.length<=maxLen):
  (Nat.blt 0 n&&VC n (vA (g.map c))&&CC (vA (g.map c))&&Nat.ble (vA (g.map c)).length maxLen&&Nat.ble ((vA (g.map c)).length*m) 140737488355328)=true:=by
 have⟨a,b⟩:=Ef d e g;have i:Nat.blt 0 n=true:=bS
 rw[i,a,b,pvE_len,gB,kx f,kx h];rfl
def zY1{A B:List (List PV)}:List.take ((vA A).length+(vA B).length) (A++B)=A++B:=gu (by simp[pvE_len])
def mq(A B:List (List PV)):List.take (vA A).length (vA A)++vA B=vA (A++B):=by
 rw[aaW];simp[vA]
def JE(g l:List Ty)(h:g.length+l.length<=qA):A 53 [rA g,rA l] (rA (g++l)):=by
 have:=zA;have b:=dU (c:=Ty.c) (n:=2) (m:=32) Ty.c_len (λ_=>rfl) bb g a6 (by simp only[maxLen];omega);have⟨c,d⟩:=Ef (c:=Ty.c) (n:=2) Ty.c_len (λ_=>rfl) l;have e:(Nat.beq 1 1&&Nat.ble (vA (g.map Ty.c)).length (vA (g.map Ty.c)).length&&Nat.beq 34 34&&Nat.beq 2 2&&Nat.blt 0 2&&VC 2 (vA (l.map Ty.c))&&CC (vA (l.map Ty.c))&&Nat.ble ((vA (g.map Ty.c)).length+(vA (l.map Ty.c)).length) maxLen&&Nat.ble (((vA (g.map Ty.c)).length+(vA (l.map Ty.c)).length)*32) 140737488355328)=true:=
  ZS rfl bb c d (by rw[pvE_len,pvE_len];simp only[gB,maxLen];omega) (by rw[pvE_len,pvE_len];grind)
 have a:A 53 [rA g,rA l] (.slice (List.take ((vA (g.map Ty.c)).length+(vA (l.map Ty.c)).length) (g.map Ty.c++l.map Ty.c))):=
  f3 [(6,.ok),(8,.ok),(300001,.f 0 (g.map Ty.c++l.map Ty.c))] b e (mq (g.map Ty.c) (l.map Ty.c))
 rw[zY1,<-gn]at a;exact a
open Go.Lg
abbrev Ff:Kp:=⟨[0,3,5,8,9],[0,1],2,[]⟩
def Gf{g:List Ty}{k:Nat}(b:k<g.length:=by omega)(c:g.length<=qA:=by omega):∃s,(xA (Int.ofNat (g.map Ty.c).length-1)=true/\Int.ofNat (g.map Ty.c).length-1=.ofNat ((g.map Ty.c).length-1))/\(xA (Int.ofNat ((g.map Ty.c).length-1)-.ofNat k)=true/\Int.ofNat ((g.map Ty.c).length-1)-.ofNat k=.ofNat (g.length-1-k))/\(nB (g.map Ty.c) (g.length-1-k)=some (Ty.c s)/\tB 2 (g.map Ty.c)=true)/\s∈g/\ZA g k=.ok s:=by
 have:=zA;have:=yA;obtain⟨s,a⟩:∃s,g[g.length-1-k]? =some s:=⟨_,e7 a6⟩;refine⟨s,lC (a:=(g.map Ty.c).length) a9 a9,?_,EA a Ty.c_len,gg a,by unfold ZA;rw[gm b,a]⟩
 grind[BA]
def Hf(t:Ty){g:List Ty}(c:g.length<=qA):∀(r k v:Nat)(A:List (List PV)),k+r=g.length->A.length<=k->
  ∃(a:Nat)(l:List Nat),(∀x∈l,ZA g x=.ok t)/\l.length<=r/\Lp 57 0 0 (st [(0,.pv (rA g)),(3,.loc 0 0),(5,.arr 1 v A.length),(8,.pv (num (g.map Ty.c).length)),(9,.pv (num k))] [(0,bx t.c),(1,.arr v 1 3 (vA A))] 2 []) (.exit 0) (st [(5,.arr 1 a (A.length+l.length))] [(1,.arr a 1 3 (vA (A++l.map ic)))] 2 [])
 |0,k,v,A,h,u=>by
  have e:dA (.ofNat k) (.ofNat (g.map Ty.c).length)=false:=iA a9;refine⟨v,[],a8,e6 _,?_⟩;simp only[i2,hI,iq,ir];exact y1 [10] ⟨[5],[1],2,[]⟩ e (BB A)
 |r+1,k,v,A,h,u=>by
  have:=zA;have:=yA;have e:dA (.ofNat k) (.ofNat (g.map Ty.c).length)=true:=KA a9;have⟨s,f,i,j,_,w⟩:=Gf (g:=g) (k:=k) a6 c;have d:=TE s t;have m:=lA (a:=k) (b:=1);cases n:s.same t<;>rw[n]at d
  ·have⟨a,l,o,y,b⟩:=Hf t c r (k+1) v A a6 a6;exact⟨a,l,o,a6,n8 [10,15,17,(18,.i s.c),21,26] Ff e f i j d m (BB A) b⟩
  have z:=YD (A:=A) (v:=v) (ty:=3) (m:=8) (c:=ic k) (show 0<1 by decide) rfl rfl (by simp only[maxLen];omega) a6;have⟨a,l,o,y,b⟩:=Hf t c r (k+1) (v+1) (A++[ic k]) a6 a9;rw[gD,show(A++[ic k]).length=A.length+1 by simp,show A.length+1+l.length=A.length+(k::l).length by simp;omega,gy]at b;exact⟨a,k::l,λx p=>by
   rcases e8.1 p with rfl|p
   ·rw[w,(BD s t).1 n]
   simp_all,a9,n9 [10,15,17,(18,.i s.c),21,(25,.ok),26] Ff e f i j d z m (dB A (ic k)) b⟩
def nq(t:Ty){g:List Ty}(c:g.length<=qA):∀(r k:Nat),k+r=g.length->
  Lp 57 0 0 (st [(0,.pv (rA g)),(3,.loc 0 0),(5,.pv .nils),(8,.pv (num (g.map Ty.c).length)),(9,.pv (num k))] [(0,bx t.c)] 1 []) (.exit 0) (st [(5,.pv .nils)] [] 2 [])\/
  ∃l:List Nat,(∀x∈l,ZA g x=.ok t)/\1<=l.length/\l.length<=r/\Lp 57 0 0 (st [(0,.pv (rA g)),(3,.loc 0 0),(5,.pv .nils),(8,.pv (num (g.map Ty.c).length)),(9,.pv (num k))] [(0,bx t.c)] 1 []) (.exit 0) (st [(5,.pv (NA l))] [] 2 [])
 |0,k,h=>by
  have e:dA (.ofNat k) (.ofNat (g.map Ty.c).length)=false:=iA (by simp;omega);exact .inl (x1 [10] ⟨[5],[],2,[]⟩ e)
 |r+1,k,h=>by
  have:=zA;have:=yA;have e:dA (.ofNat k) (.ofNat (g.map Ty.c).length)=true:=KA (by simp;omega);obtain⟨s,d,f,i,_,w⟩:=Gf (g:=g) (k:=k) (by omega) c;have b:=TE s t;have j:=lA (a:=k) (b:=1);cases m:s.same t<;>rw[m]at b
  ·rcases nq t c r (k+1) (by omega)with a|⟨l,n,o,B,a⟩
   ·exact .inl (n7 [10,15,17,(18,.i s.c),21,26] ⟨[0,3,5,8,9],[0],1,[]⟩ e d f i b j a)
   exact .inr ⟨l,n,o,by omega,n7 [10,15,17,(18,.i s.c),21,26] ⟨[0,3,5,8,9],[0],1,[]⟩ e d f i b j a⟩
  right;by_cases y:k=0\/1<=k
  ·obtain⟨v,l,n,o,a⟩:=Hf t c r (k+1) 1 [ic k] (by omega) (by simp);have p:=LoopIs.fz (by simp) a 1 (ver:=v) (sz:=1) (ty:=3) (ps:=(k::l).map ic) rfl (by kernel_rfl);simp (decide:=true) only[eD,XC,VB,bx,List.map,BC,and_self,↓reduceIte,List.take_of_length_le (show(ic k::l.map ic).length<=[ic k].length+l.length by simp;omega)]at p;refine⟨k::l,λx u=>?_,by simp,by simp;omega,n8 [10,15,17,(18,.i s.c),21,26] Ff e d f i b j (dB [] (ic k)) p⟩;rcases List.mem_cons.1 u with rfl|u
   ·rw[w,(BD s t).1 m]
   simp_all
  omega
def a77(g:List Ty)(t:Ty)(a:g.length<=qA:=by omega):∃l:List Nat,(∀x∈l,ZA g x=.ok t)/\l.length<=g.length/\A 57 [rA g,t.p] (NA l):=by
 rcases nq t a g.length 0 (by omega)with h|⟨l,b,d,c,h⟩
 ·exact⟨[],by simp,by simp,f1 [(100003,.l ⟨[0,3,5,8,9],[0],1,[]⟩ (.exit 0) (st [(5,.pv .nils)] [] 2 []))] h⟩
 exact⟨l,b,c,f1 [(100003,.l ⟨[0,3,5,8,9],[0],1,[]⟩ (.exit 0) (st [(5,.pv (NA l))] [] 2 []))] h⟩
def If(g:List Ty)(a:List Fm)(f:Fm)(h:a.length<=1000000:=by omega):A 66 [AA g a,f.p] (AA g (a++[f])):=by
 have c:=dU (c:=Fm.c) (n:=5) (m:=88) Fm.c_len (λ_=>rfl) bb a a6 (by simp only[maxLen];omega);have d:(Nat.beq 1 1&&Nat.ble (vA (a.map Fm.c)).length (vA (a.map Fm.c)).length&&Nat.beq 40 40&&Nat.beq 5 5&&Nat.blt 0 5&&VC 5 [CA f.c]&&CC [CA f.c]&&Nat.ble ((vA (a.map Fm.c)).length+[CA f.c].length) maxLen&&Nat.ble (((vA (a.map Fm.c)).length+[CA f.c].length)*88) 140737488355328)=true:=
  ZS rfl bb rfl rfl (by rw[pvE_len];simp only[gB,maxLen,aar];omega) (by rw[pvE_len];grind)
 have b:A 66 [AA g a,f.p] (.agg [rA g,.slice (List.take ((vA (a.map Fm.c)).length+[CA f.c].length) (a.map Fm.c++[f.c]))]):=
  f3 [(9,.ok),(12,.ok),(300001,.f 3 (a.map Fm.c++[f.c]))] c d (mq (a.map Fm.c) [f.c])
 rw[gu (by rw[pvE_len];simp)]at b;rw[show AA g (a++[f])=.agg [rA g,.slice (a.map Fm.c++[f.c])] by simp];exact b
def eY(t:Tm)(h:t.cnt<=1000000)(a:t.mx<=qA*qA):A 70 [t.p] (t.sh 0 1).p:=by
 have:=zA;have a:=WD (.eq t t) 0 1 a6 a6 (by grind[Fm.mx]) (by grind[Fm.cnt]);exact f2 [5,6] (kG t t) a
def Jf{t:Ty}(h:t.size<=64):t.size<=bA:=by have:=yA;omega
def jXi{g:List Ty}(c:g.length<=16)(a:∀s∈g,s.size<=64):A 157 [AA g []] (.tuple [rA g,.slice [],num 0]):=by
 have:=yA;have b:=aQ g λt d=>Jf (a t d)
 rw[LQ c a]at b;have c:=dU (c:=Ty.c) (n:=2) (m:=32) Ty.c_len (λ_=>rfl) bb g a6 (by simp only[maxLen];omega);have a:A 157 [AA g []] (.tuple [.slice (List.take (vA (g.map Ty.c)).length (g.map Ty.c)),.slice [],num 0]):=
  f3 [12,(23,.ok),(300006,.f 1 (g.map Ty.c))] b c (show vA (g.map Ty.c)=vA (g.map Ty.c)from rfl)
 rw[pvE_len,aaW]at a;exact a
def pq{g:List Ty}(b:g.length<=16)(a:∀s∈g,s.size<=64):A 30 [AA g []] (.tuple [AA g [],num 0]):=by
 have h:=jXi b a;have a:A 88 [AA g []] (.tuple [rA g,num 0]):=f1 [9] h;have b:A 89 [AA g []] (.tuple [.slice [],num 0]):=f1 [9] h;have c:=gC (a:=(g.map Ty.c).length) (b:=(g.map Ty.c).length) (z:=.ofNat 0) (by simp;have:=yA;omega) (by simp;have:=yA;omega) a8;have d:dA 16 (.ofNat (g.map Ty.c).length)=false:=iA a9;exact f4 [18,27,37,93] a b c d
open Go.Lg
abbrev jC(n:Nat)(l:Bool):List (Nat×Ob):=[(1,bx [num n,.bool l])]
def rq(k n:Nat)(l:Bool)(h:n+k<=bA):O 250 [.loc 1 0,.pv (num k),.pv (num 0)] (jC n l) (.pv (.bool true)) (jC (n+k) l):=by
 have g:=lA (a:=n) (b:=k) h;cases l<;>exact o1 2 [12] g
def cq(k n:Nat)(l:Bool)(h:n+k<=bA:=by omega):O 250 [.loc 1 0,.pv (num k),.pv (num 4)] (jC n l) (.pv (.bool true)) (jC (n+k) true):=by
 have g:=lA (a:=n) (b:=k) h;cases l<;>exact o1 2 [12] g
def cT{t:Tm}(h:t.shp=true)(n:Nat)(l:Bool)(b:n+t.cnt<=bA:=by omega):∃(k e:Nat)(a:Bool),A 184 [t.p] (.tuple [num k,num e])/\k<=t.cnt/\(a=false->l=false/\t.chk=0)/\O 250 [.loc 1 0,.pv (num k),.pv (num e)] (jC n l) (.pv (.bool true)) (jC (n+k) a):=by
 have g:=bT t (by have:=zD t h;have:=yA;omega) a6;rcases Tm.chk_3 t with e|e|e
 ·rw[e,Tm.ckn0 e]at g;exact⟨_,_,l,g,e6 _,λh=>⟨h,e⟩,rq _ _ _ b⟩
 ·grind[Tm.chk]
 have c:t.ckn=0:=by unfold Tm.ckn;rw[e];rfl
 rw[e,c]at g;exact⟨_,_,true,g,c6 _,nofun,cq _ _ _⟩
def cF{t:Fm}(h:t.shp=true)(n:Nat)(l:Bool)(b:n+t.cnt<=bA:=by omega):∃(k e:Nat)(a:Bool),A 183 [t.p] (.tuple [num k,num e])/\k<=t.cnt/\(a=false->l=false/\t.chk=0)/\O 250 [.loc 1 0,.pv (num k),.pv (num e)] (jC n l) (.pv (.bool true)) (jC (n+k) a):=by
 have g:=dT t (by have:=FD t h;have:=yA;omega) a6;rcases Fm.chk_3 t with e|e|e
 ·rw[e,Fm.ckn0 e]at g;exact⟨_,_,l,g,e6 _,λh=>⟨h,e⟩,rq _ _ _ b⟩
 ·grind[Fm.chk]
 have c:t.ckn=0:=by unfold Fm.ckn;rw[e];rfl
 rw[e,c]at g;exact⟨_,_,true,g,c6 _,nofun,cq _ _ _⟩
def yI:∀(p:Pf)(n:Nat)(l:Bool),n+p.cnt<=bA->p.wk->∃(D:Nat)(E:Bool),D<=n+p.cnt/\(E=false->l=false/\p.ck)/\O 176 [.loc 1 0,.pv p.p] (jC n l) (.pv (.bool true)) (jC D E)
 |.leaf u i,n,l,c,_=>by
  have c:n+1<=bA:=c;exact⟨n+1,l,e6 _,λh=>⟨h,trivial⟩,by cases u<;>cases i<;>exact o2 2 [66,81] (lA (a:=n) (b:=1)) XD⟩
 |.refl t,n,l,c,h=>by
  have c:n+(1+t.cnt)<=bA:=c;have⟨k,e,l1,gt,x,q,ut⟩:=cT (t:=t) h (n+1) l;exact⟨n+1+k,l1,by show _<=n+(1+t.cnt);omega,q,o4 2 [66,81,92,(95,.o [] (jC (n+1+k) l1) (.pv (.bool true)))] (lA (a:=n) (b:=1)) XD gt ut⟩
 |.p1 k a,n,l,c,h=>by
  have c:n+(1+a.cnt)<=bA:=c;have⟨n1,l1,F,g,ga⟩:=yI a (n+1) l a6 h;have o:=lA (a:=n) (b:=1);exact⟨n1,l1,by show _<=n+(1+a.cnt);omega,g,by cases k<;>exact o3 2 [66,81,(122,.o [] (jC n1 l1) (.pv (.bool true)))] o XD ga⟩
 |.p2 k a b,n,l,c,h=>by
  have c:n+(1+a.cnt+b.cnt)<=bA:=c;have⟨n1,l1,F,g,ga⟩:=yI a (n+1) l a6 h.1;have⟨n2,j,B,d,y⟩:=yI b n1 l1 a6 h.2;have o:=lA (a:=n) (b:=1);exact⟨n2,j,by show _<=n+(1+a.cnt+b.cnt);omega,λe=>⟨(g (d e).1).1,(g (d e).1).2,(d e).2⟩,by cases k<;>exact o4 2 [66,81,(122,.o [] (jC n1 l1) (.pv (.bool true))),(122,.o [] (jC n2 j) (.pv (.bool true)))] o XD ga y⟩
 |.impI f a,n,l,c,h=>by
  have c:n+(1+f.cnt+a.cnt)<=bA:=c;have⟨k,e,l1,v,x,g,w⟩:=cF h.1 (n+1) l;have⟨n2,j,B,d,ga⟩:=yI a (n+1+k) l1 a6 h.2;exact⟨n2,j,by show _<=n+(1+f.cnt+a.cnt);omega,λe=>⟨(g (d e).1).1,(g (d e).1).2,(d e).2⟩,o5 2 [66,81,107,(110,.o [] (jC (n+1+k) l1) (.pv (.bool true))),(122,.o [] (jC n2 j) (.pv (.bool true)))] (lA (a:=n) (b:=1)) XD v w ga⟩
 |.all u s a,n,l,c,h=>by
  have:=yA;have c:n+(1+a.cnt)<=bA:=c;have G:=oO s (by have:=h.1;omega);rw[(AK h.1).1,(AK h.1).2]at G;have⟨n1,l1,F,g,ga⟩:=yI a (n+1) l a6 h.2;have o:=lA (a:=n) (b:=1);exact⟨n1,l1,by show _<=n+(1+a.cnt);omega,λe=>⟨(g e).1,h.1,(g e).2⟩,by cases u<;>exact o3 2 [66,74,(122,.o [] (jC n1 l1) (.pv (.bool true)))] o G ga⟩
 |.ins u t a,n,l,c,h=>by
  have c:n+(1+t.cnt+a.cnt)<=bA:=c;have⟨k,e,l1,gt,x,g,ut⟩:=cT h.1 (n+1) l;have⟨n2,j,B,d,ga⟩:=yI a (n+1+k) l1 a6 h.2;have o:=lA (a:=n) (b:=1);exact⟨n2,j,by show _<=n+(1+t.cnt+a.cnt);omega,λe=>⟨(g (d e).1).1,(g (d e).1).2,(d e).2⟩,by cases u<;>exact o5 2 [66,81,92,(95,.o [] (jC (n+1+k) l1) (.pv (.bool true))),(122,.o [] (jC n2 j) (.pv (.bool true)))] o XD gt ut ga⟩
 |.ex u f t a,n,l,c,h=>by
  have c:n+(1+t.cnt+f.cnt+a.cnt)<=bA:=c;have⟨k,e,l1,gt,x,g,ut⟩:=cT h.1 (n+1) l;have⟨z,I,j,v,C,d,w⟩:=cF h.2.1 (n+1+k) l1;have⟨n3,r,H,m,ga⟩:=yI a (n+1+k+z) j a6 h.2.2;have o:=lA (a:=n) (b:=1);exact⟨n3,r,by show _<=n+(1+t.cnt+f.cnt+a.cnt);omega,λe=>⟨(g (d (m e).1).1).1,(g (d (m e).1).1).2,(d (m e).1).2,(m e).2⟩,by cases u<;>exact o7 2 [66,81,92,(95,.o [] (jC (n+1+k) l1) (.pv (.bool true))),107,(110,.o [] (jC (n+1+k+z) j) (.pv (.bool true))),(122,.o [] (jC n3 r) (.pv (.bool true)))] o XD gt ut v w ga⟩
 |.ind u f t a b,n,l,c,h=>by
  have c:n+(1+t.cnt+f.cnt+a.cnt+b.cnt)<=bA:=c;have⟨k,e,l1,gt,x,g,ut⟩:=cT h.1 (n+1) l;have⟨z,I,j,v,C,d,w⟩:=cF h.2.1 (n+1+k) l1;have⟨n3,r,H,m,ga⟩:=yI a (n+1+k+z) j a6 h.2.2.1;have⟨n4,l4,K,A,y⟩:=yI b n3 r a6 h.2.2.2;have o:=lA (a:=n) (b:=1);exact⟨n4,l4,by show _<=n+(1+t.cnt+f.cnt+a.cnt+b.cnt);omega,λe=>⟨(g (d (m (A e).1).1).1).1,(g (d (m (A e).1).1).1).2,(d (m (A e).1).1).2,(m (A e).1).2,(A e).2⟩,by cases u<;>exact o8 2 [66,81,92,(95,.o [] (jC (n+1+k) l1) (.pv (.bool true))),107,(110,.o [] (jC (n+1+k+z) j) (.pv (.bool true))),(122,.o [] (jC n3 r) (.pv (.bool true))),(122,.o [] (jC n4 l4) (.pv (.bool true)))] o XD gt ut v w ga y⟩
 |.subst f a b,n,l,c,h=>by
  have c:n+(1+f.cnt+a.cnt+b.cnt)<=bA:=c;have⟨k,e,l1,v,x,g,w⟩:=cF h.1 (n+1) l;have⟨n2,j,B,d,ga⟩:=yI a (n+1+k) l1 a6 h.2.1;have⟨n3,r,H,m,y⟩:=yI b n2 j a6 h.2.2;exact⟨n3,r,by show _<=n+(1+f.cnt+a.cnt+b.cnt);omega,λe=>⟨(g (d (m e).1).1).1,(g (d (m e).1).1).2,(d (m e).1).2,(m e).2⟩,o6 2 [66,81,107,(110,.o [] (jC (n+1+k) l1) (.pv (.bool true))),(122,.o [] (jC n2 j) (.pv (.bool true))),(122,.o [] (jC n3 r) (.pv (.bool true)))] (lA (a:=n) (b:=1)) XD v w ga y⟩
def s25{p:Pf}(h:p.K):(p.ck/\A 33 [p.p] (num 0))\/A 33 [p.p] (num 4):=by
 by_cases d:p.ck
 ·grind[aX]
 have:=yA;have⟨a,b,i,j,g⟩:=yI p 0 false a6 h.2;have e:b=true:=by
  simp_all
 subst e;have c:A 111 [p.p] (.tuple [num 0,num 4]):=f1 [(10,.o [] (jC a true) (.pv (.bool true)))] g;exact .inr (f1 [7] c)
end Go.Proofs.YtbebdmlomjpamaaGreatDoor
