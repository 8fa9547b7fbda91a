/- Contracts of functions; no conditions. -/
import Derived.Test.YtbebdmlomjpamaaGreatDoorAccC7
import Derived.Test.YtbebdmlomjpamaaGreatDoorAccC4
import Derived.Test.YtbebdmlomjpamaaGreatDoorAccC3
set_option linter.all false
set_option maxHeartbeats 4000000
namespace Go.Proofs.YtbebdmlomjpamaaGreatDoor
open Go.Lg
set_option maxRecDepth 100000
def VQ(a:List Fm)(x:Fm)(k:Nat):(fA k a++[x]).map Fm.er=a.map Fm.er++[x.er]:=by
 rw[gn,rJ];rfl
def rC(g:List Ty)(u:Ty):(g++[u]).length=g.length+1:=a8
def RC{ls:List Fm}{tl:List Tm}(B:∀(i:Nat)(f:Fm),ls[i]? =some f->f.has=true->∃t,tl[i]? =some t/\Ht [] t f.cty):∀(j:Jt)(g:List Ty)(n:Nat)(o:List Fm)(G:List Ty)(s:Sc),g.length=n->j.D ls g o->j.OK ls n o->ScOK n (o.map Fm.has) s->ScT G g (o.map Fm.er) s->j.f.has=true->Ht G (j.xt tl s) j.f.cty
 |.leaf u i f,g,n,o,G,s,r,⟨_,h⟩,_,S,T,d=>by
  replace d:f.has=true:=d;cases u
  ·have:=T.k i f.er (by rw[gB];exact h.1) (by rw[gB,i1,h.2];rfl) (by rw[PH];exact d);rw[WH]at this;exact this
  have⟨t,e,ht⟩:=B i f h d;show Ht G (match tl[i]? with|some t=>t|none=>.n0 .unit) f.cty;rw[e];exact b8 ht G
 |.refl t,_,_,_,_,_,_,_,_,_,_,d=>by cases d
 |.p1 k a f,g,n,o,G,s,r,⟨_,E,h⟩,⟨_,C,_⟩,S,T,d=>by
  replace d:f.has=true:=d;have c:=RC B a g n o G s r E C S T;cases k
  ·have⟨y,e⟩:=h;show Ht G (bif a.f.both then .n1 .fst (a.xt tl s)else a.xt tl s) f.cty;rw[e]at c⊢;have c:=c (by show(f.has||y.has)=true;rw[d];rfl);simp only[Fm.cty,Fm.both,d]at c⊢;cases hy:y.has<;>rw[hy]at c
   ·exact c
   exact⟨_,c⟩
  ·have⟨y,e⟩:=h;show Ht G (bif a.f.both then .n1 .snd (a.xt tl s)else a.xt tl s) f.cty;rw[e]at c⊢;have c:=c (by show(y.has||f.has)=true;rw[d];simp);simp only[Fm.cty,Fm.both,d]at c⊢;cases hy:y.has<;>rw[hy]at c
   ·exact c
   exact⟨_,c⟩
  have⟨u,w,x,e,_,y,V,R⟩:=h;show Ht G (GJ a.f (a.xt tl s)) f.cty;rw[e]at c⊢;exact l8 R ((qD V).trans (nE _ x 2)) (c rfl)
 |.p2 k a b f,g,n,o,G,s,r,⟨_,E,h⟩,⟨_,C,U⟩,S,T,d=>by
  replace d:f.has=true:=d;have c:=RC B a g n o G s r E C S T;have A:s.ks.length=(o.map Fm.er).length:=by rw[S.kl];simp
  have z:∀{m:Nat},TK (m+1) (.v 0):=TB;cases k
  ·have⟨p,e⟩:=h;have O:=RC B b g n o G s r p U.1 S T;show Ht G (bif a.f.has then(bif b.f.has then .n2 .pair (a.xt tl s) (b.xt tl s)else a.xt tl s)else b.xt tl s) f.cty;rw[e]at d⊢;have W:(a.f.has||b.f.has)=true:=d;simp only[Fm.cty];cases X:a.f.has<;>cases Y:b.f.has
   ·rw[X,Y]at W;cases W
   ·simp_all
   ·exact c X
   exact⟨_,_,rfl,c X,O Y⟩
  ·have⟨p,x,e,em⟩:=h;have O:=RC B b g n o G s r p U.1 S T;have ex:=JK _ _ em;rw[e]at c;have c:=c d;show Ht G (bif b.f.has then .n2 .app (a.xt tl s) (b.xt tl s)else a.xt tl s) f.cty;simp only[Fm.cty]at c;rw[XA ex,vD ex]at c;cases Y:b.f.has<;>rw[Y]at c
   ·exact c
   exact⟨_,c,O Y⟩
  ·have⟨⟨u,e,p⟩,_,Z⟩:=h;have D:b.f.has=true:=by rw[<-XA (uG Z)];exact d
   show Ht G _ f.cty;rw[vD (uG Z)];have eq:a.f.qs=u:=by rw[e];rfl
   have c:Ht G (a.xt tl s) (bif a.f.bd.has then .two false u a.f.bd.cty else u):=by
    have:=c (by rw[e];rfl);rw[e]at this;exact this
   show Ht G (bif a.f.bd.has then .n2 .app (.lam (.two false a.f.qs a.f.bd.cty) (b.xt tl ((s.bind.var (.n1 .fst (.v 0))).hyp (.n1 .snd (.v 0))))) (a.xt tl s)else .n2 .app (.lam a.f.qs (b.xt tl (s.bind.var (.v 0)).bare)) (a.xt tl s)) b.f.cty;subst r;rw[eq];cases F:a.f.bd.has<;>rw[F]at c
   ·have I:=(((T.bind S u).var S.bind (kE G u)).bare A (x:=a.f.bd.er) (by rw[PH];exact F));have J:=(S.bind.var (t:=.v 0) z).bare;exact⟨_,⟨_,rfl,RC B b _ _ _ _ _ (rC g u) p U.1 (by rw[UB,F];exact J) (by rw[VQ];exact I) D⟩,c⟩
   have I:=((T.bind S (.two false u a.f.bd.cty)).var S.bind (t:=.n1 .fst (.v 0)) (u:=u) ⟨_,kE G _⟩).hyp A (x:=a.f.bd.er) (t:=.n1 .snd (.v 0)) (by rw[WH];exact⟨_,kE G _⟩);have J:=(S.bind.var (t:=.n1 .fst (.v 0)) (LK z aab)).hyp (t:=.n1 .snd (.v 0)) (LK z aab) true;exact⟨_,⟨_,rfl,RC B b _ _ _ _ _ (rC g u) p U.1 (by rw[UB,F];exact J) (by rw[VQ];exact I) D⟩,c⟩
  have⟨⟨u,e,p⟩,_,Z,_⟩:=h;have D:b.f.has=true:=by rw[<-XA (uG Z)];exact d
  show Ht G _ f.cty;rw[vD (uG Z)];have eq:a.f.qs=u:=by rw[e];rfl
  have K:a.f.qs.size<=64:=by
   have:=Jt.FKj C;rw[e]at this⊢;exact lD (JA this.shp).1
  show Ht G (bif a.f.bd.has then .n2 .app (.lam a.f.bd.cty (b.xt tl ((s.bind.var a.f.qs.ini).hyp (.v 0)))) (a.xt tl s)else b.xt tl (s.var a.f.qs.ini).bare) b.f.cty;subst r;rw[eq]at K⊢;cases F:a.f.bd.has
  ·have I:=(T.var S (UQ u G)).bare A (x:=a.f.bd.er) (by rw[PH];exact F);have J:=(S.var (t:=u.ini) (LF _ K _)).bare;exact RC B b _ _ _ _ _ (rC g u) p U.1 (by rw[UB,F];exact J) (by rw[VQ];exact I) D
  have c:Ht G (a.xt tl s) a.f.bd.cty:=by
   have:=c (by rw[e]at F⊢;exact F);rw[e]at this;exact this
  have I:=((T.bind S a.f.bd.cty).var S.bind (UQ u _)).hyp A (x:=a.f.bd.er) (t:=.v 0) (by rw[WH];exact kE G _);have J:=(S.bind.var (t:=u.ini) (LF _ K _)).hyp (t:=.v 0) z true;exact⟨_,⟨_,rfl,RC B b _ _ _ _ _ (rC g u) p U.1 (by rw[UB,F];exact J) (by rw[VQ];exact I) D⟩,c⟩
 |.impI x a,g,n,o,G,s,r,⟨_,_,_,E⟩,⟨_,_,C⟩,S,T,d=>by
  have A:s.ks.length=(o.map Fm.er).length:=by rw[S.kl];simp
  have z:∀{m:Nat},TK (m+1) (.v 0):=TB;have ex:(o++[x]).map Fm.has=o.map Fm.has++[x.has]:=by rw[gn];rfl
  have M:(o++[x]).map Fm.er=o.map Fm.er++[x.er]:=by rw[gn];rfl
  show Ht G (bif x.has then .lam x.cty (a.xt tl (s.bind.hyp (.v 0)))else a.xt tl s.bare) (bif x.has then .two true x.cty a.f.cty else a.f.cty);subst r;cases F:x.has
  ·exact RC B a g _ _ G _ rfl E C (by rw[ex,F];exact S.bare) (by rw[M];exact T.bare A (by rw[PH];exact F)) d
  exact⟨_,rfl,RC B a g _ _ _ _ rfl E C (by rw[ex,F];exact S.bind.hyp (t:=.v 0) z true) (by rw[M];exact(T.bind S x.cty).hyp A (by rw[WH];exact kE G _)) d⟩
 |.all u w a,g,n,o,G,s,r,⟨_,_,E,_⟩,⟨h64,_,C⟩,S,T,d=>by
  have z:∀{m:Nat},TK (m+1) (.v 0):=TB;subst r;cases u
  ·exact⟨_,rfl,RC B a _ _ _ _ _ (rC g w) E C (by rw[aE];exact S.bind.var (t:=.v 0) z) (by rw[rJ];exact(T.bind S w).var S.bind (kE G w)) d⟩
  exact RC B a _ _ _ _ _ (rC g w) E C (by rw[aE];exact S.var (t:=w.ini) (LF _ h64 _)) (by rw[rJ];exact T.var S (UQ w G)) d
 |.ins u t a f,g,n,o,G,s,r,⟨_,_,E,w,x,P,Q,R⟩,⟨_,_,C,_⟩,S,T,d=>by
  replace d:f.has=true:=d;have H:x.has=true:=by rw[<-XA (qD R)];exact d
  have c:=RC B a g n o G s r E C S T (by rw[Q];cases u<;>exact H);rw[Q]at c;show Ht G _ f.cty;rw[vD (qD R)];cases u
  ·exact⟨w,c,RK T P⟩
  exact c
 |.ex u x t a,g,n,o,G,s,r,⟨_,_,E,w,y,v,P,Q,V,R⟩,⟨_,_,C,_⟩,S,T,d=>by
  have c:=RC B a g n o G s r E C S T;have M:a.f.er=y.er:=(JK _ _ R).symm.trans (qD V);subst Q;cases u
  ·show Ht G (bif a.f.has then .n2 .pair (t.ps s.vs s.dep 0) (a.xt tl s)else t.ps s.vs s.dep 0) (bif y.has then .two false w y.cty else w);rw[<-XA M,<-vD M];cases X:a.f.has
   ·exact RK T P
   exact⟨_,_,rfl,RK T P,c X⟩
  show Ht G (a.xt tl s) y.cty;rw[<-vD M];exact c (by rw[XA M];exact d)
 |.ind l x t a b f,g,n,o,G,s,r,⟨_,_,⟨_,P⟩,⟨E,_⟩,_,⟨p,_⟩,Q⟩,⟨_,_,_,C,_,⟨ea,eb⟩,N⟩,S,T,d=>by
  replace d:f.has=true:=d;have H:x.has=true:=by rw[<-XA (qD Q)];exact d
  have c:=RC B a g n o G s r E C S T (by rw[XA ea];exact H);rw[vD ea]at c;have A:s.ks.length=(o.map Fm.er).length:=by rw[S.kl];simp
  have z:∀{m:Nat},TK (m+1) (.v 0):=TB;have D:b.f.has=true:=by rw[XA eb];exact H
  have ec:=vD (qD Q);subst r;have A1:=S.bind.var (t:=.v 0) z;have B1:=(T.bind S .nat).var S.bind (kE G .nat);cases l
  ·have J:=A1.bind.hyp (t:=.v 0) z true;have I:=(B1.bind (by rw[rC];exact A1) x.cty).hyp A (x:=x.er) (by rw[WH];exact kE _ _);have L:=RC B b _ _ _ _ _ (rC g .nat) p N (by show ScOK _ ((fA 1 o++[x]).map _) _;rw[UB,H];exact J) (by show ScT _ _ ((fA 1 o++[x]).map _) _;rw[VQ];exact I) D;rw[vD eb]at L;exact⟨ec,c,⟨_,rfl,_,rfl,L⟩,RK T P⟩
  have A2:=A1.bind.var (t:=.v 0) z;have B2:=(B1.bind (by rw[rC];exact A1) .list).var (by rw[rC];exact A1.bind) (kE _ .list);have J:=A2.bind.hyp (t:=.v 0) z true;have I:=(B2.bind (by rw[rC,rC];exact A2) x.cty).hyp A (x:=(x.sh 1 (.ofNat 1)).er) (by rw[WH,vD (nE _ x 1)];exact kE _ _);have L:=RC B b (g++[.nat]++[.list]) _ _ _ _ (by rw[rC,rC]) (by rw[gy];exact p) N (by show ScOK _ ((fA 2 o++[x.sh 1 (.ofNat 1)]).map _) _;rw[UB,XA (nE _ x 1),H];exact J) (by show ScT _ _ ((fA 2 o++[x.sh 1 (.ofNat 1)]).map _) _;rw[VQ];exact I) D;rw[vD eb]at L;exact⟨ec,c,⟨_,rfl,_,rfl,_,rfl,L⟩,RK T P⟩
 |.subst x a b f,g,n,o,G,s,r,⟨_,_,E,p,_⟩,⟨_,_,C,N,e,t,u,_,V⟩,S,T,d=>by
  have M:f.er=b.f.er:=(qD V).trans e.symm;show Ht G (b.xt tl s) f.cty;rw[vD M];exact RC B b g n o G s r p N S T (by rw[<-XA M];exact d)
abbrev Tm.u1(t:Tm):Tm:=t.sh 0 (.ofNat 1)
abbrev Tm.ap(t:Tm):Tm:=.n2 .app t.u1 (.v 0)
def cs(t:Tm)(σ:Nat->Tm):Nat->Tm|0=>t|i+1=>σ i
abbrev XB(σ:Nat->Tm):Nat->Tm:=λi=>(σ i).u1
def rz:Fm->(Nat->Tm)->Tm->Fm
 |.eq a b,σ,_=>.eq (a.sub σ) (b.sub σ)|.bin k x y,σ,t=>match k with|.and=>bif x.has&&y.has then .bin .and (rz x σ (.n1 .fst t)) (rz y σ (.n1 .snd t))else .bin .and (rz x σ t) (rz y σ t)|.imp=>bif x.has then .q .all x.cty (.bin .imp (rz x (XB σ) (.v 0)) (rz y (XB σ) (bif y.has then t.ap else t.u1)))else .bin .imp (rz x σ t) (rz y σ t)
 |.q k s x,σ,t=>match k with|.all=>.q .all s (rz x (aA σ) (bif x.has then t.ap else t.u1))|.allU=>.q .all s (rz x (aA σ) t.u1)|.exU=>.q .exU s (rz x (aA σ) t.u1)|.ex=>bif x.has then rz x (cs (.n1 .fst t) σ) (.n1 .snd t)else rz x (cs t σ) t
def WM(t:Tm)(σ:Nat->Tm):t.u1.sub (aA σ)=(t.sub σ).u1:=by
 rw[Tm.u1,Tm.u1,OC,OC,GE,gH];congr 1;funext i;show(σ i).sh 0 (.ofNat 1)=_;rw[OC]
def Qo(σ τ:Nat->Tm):(λi=>(XB σ i).sub (aA τ))=XB λi=>(σ i).sub τ:=by
 funext i;exact WM _ _
def RO(σ τ:Nat->Tm):(λi=>(aA σ i).sub (aA τ))=aA λi=>(σ i).sub τ:=by
 funext i
 cases i with|zero=>rfl|succ i=>exact WM _ _
def Ro(t:Tm)(σ τ:Nat->Tm):(λi=>(cs t σ i).sub τ)=cs (t.sub τ) λi=>(σ i).sub τ:=by
 funext i;cases i<;>rfl
def rF:∀(f:Fm)(σ τ:Nat->Tm)(t:Tm),(rz f σ t).sub τ=rz f (λi=>(σ i).sub τ) (t.sub τ)
 |.eq a b,σ,τ,t=>by simp[rz,Fm.sub,jE]|.bin .and x y,σ,τ,t=>by
  simp only[rz];cases x.has&&y.has<;>simp only[gb,gp,Fm.sub,rF x,rF y,Tm.sub]
 |.bin .imp x y,σ,τ,t=>by
  have c:(bif y.has then t.ap else t.u1).sub (aA τ)=bif y.has then(t.sub τ).ap else(t.sub τ).u1:=by
   cases y.has
   ·exact WM _ _
   simp only[gb,Tm.sub,Tm.ap,WM];rfl
  simp only[rz];cases x.has
  ·simp[gp,Fm.sub,rF]
  simp only[gb,Fm.sub,rF x,rF y,Qo,c];rfl
 |.q .all s x,σ,τ,t=>by
  have c:(bif x.has then t.ap else t.u1).sub (aA τ)=bif x.has then(t.sub τ).ap else(t.sub τ).u1:=by
   cases x.has
   ·exact WM _ _
   simp only[gb,Tm.sub,Tm.ap,WM];rfl
  simp only[rz,Fm.sub,rF x,RO,c]
 |.q .allU s x,σ,τ,t=>by simp[rz,Fm.sub,rF,RO,WM]|.q .exU s x,σ,τ,t=>by simp[rz,Fm.sub,rF,RO,WM]|.q .ex s x,σ,τ,t=>by
  simp only[rz];cases x.has
  ·simp[gp,rF,Ro]
  simp[gb,rF,Ro,Tm.sub]
def oG:∀(f:Fm)(σ:Nat->Tm),(f.sub σ).has=f.has
 |.eq _ _,_=>rfl|.bin k x y,σ=>by cases k<;>simp only[Fm.sub,Fm.has,oG x,oG y]
 |.q k s x,σ=>by cases k<;>simp only[Fm.sub,Fm.has,oG x]
def WQ:∀(f:Fm)(σ:Nat->Tm),(f.sub σ).cty=f.cty
 |.eq _ _,_=>rfl|.bin k x y,σ=>by cases k<;>simp only[Fm.sub,Fm.cty,oG,WQ x,WQ y]
 |.q k s x,σ=>by cases k<;>simp only[Fm.sub,Fm.cty,oG,WQ x]
def m8(a:Tm)(g σ:Nat->Tm):(λi=>(g i).sub (XB σ))=XB λi=>(g i).sub σ:=by
 grind[OC,gH,YE]
def r8(t:Tm)(g σ:Nat->Tm):(λi=>(aA g i).sub (cs t σ))=cs t λi=>(g i).sub σ:=by
 funext i
 cases i with
 |zero=>rfl|succ i=>
  show((g i).sh 0 (.ofNat 1)).sub _=_;rw[OC,GE];rfl
def RF:∀(f:Fm)(g σ:Nat->Tm)(t:Tm),rz (f.sub g) σ t=rz f (λi=>(g i).sub σ) t|.eq a b,g,σ,t=>by simp[rz,Fm.sub,jE]|.bin .and x y,g,σ,t=>by simp[rz,Fm.sub,oG,RF]|.bin .imp x y,g,σ,t=>by simp only[rz,Fm.sub,oG,WQ,RF x,RF y,m8 (.v 0)]|.q .all s x,g,σ,t=>by simp[rz,Fm.sub,oG,RF,RO]|.q .allU s x,g,σ,t=>by simp[rz,Fm.sub,RF,RO]|.q .exU s x,g,σ,t=>by simp[rz,Fm.sub,RF,RO]|.q .ex s x,g,σ,t=>by simp[rz,Fm.sub,oG,RF,r8]
theorem II:∀(f:Fm)(σ:Nat->Tm)(t u:Tm),f.has=false->rz f σ t=rz f σ u
 |.eq a b,σ,t,u,_=>rfl|.bin .and x y,σ,t,u,h=>by
  have h:(x.has||y.has)=false:=h;have d:x.has=false:=bS
  have c:y.has=false:=by rw[d]at h;exact h
  simp only[rz,d,c,abv,gp,II x σ t u d,II y σ t u c]
 |.bin .imp x y,σ,t,u,h=>by
  have c:y.has=false:=h;simp only[rz,c,gp];cases d:x.has
  ·simp only[gp,II x σ t u d,II y σ t u c]
  simp only[gb,II y _ t.u1 u.u1 c]
 |.q .all s x,σ,t,u,h=>by
  have h:x.has=false:=h;simp only[rz,h,gp,II x _ t.u1 u.u1 h]
 |.q .allU s x,σ,t,u,h=>by simp only[rz,II x _ t.u1 u.u1 h]|.q .exU s x,σ,t,u,h=>by simp only[rz,II x _ t.u1 u.u1 h]|.q .ex s x,σ,t,u,h=>by cases h
def UK:∀(f:Fm)(σ:Nat->Tm)(t:Tm),(rz f σ t).has=false
 |.eq a b,σ,t=>rfl|.bin .and x y,σ,t=>by
  simp only[rz];cases x.has&&y.has<;>simp only[gb,gp,Fm.has,UK x,UK y,Bool.or_false]
 |.bin .imp x y,σ,t=>by
  simp only[rz];cases x.has<;>simp only[gb,gp,Fm.has,UK x,UK y]
 |.q .all s x,σ,t=>by simp[rz,Fm.has,UK]|.q .allU s x,σ,t=>by simp[rz,Fm.has,UK]|.q .exU s x,σ,t=>by simp[rz,Fm.has,UK]|.q .ex s x,σ,t=>by
  simp only[rz];cases x.has<;>simp only[gb,gp,UK x]
def Ps.lam(s:Ty){a b:Tm}(h:Ps a b):Ps (.lam s a) (.lam s b):=by
 induction h with|refl=>exact .refl _|step p _ c=>exact .step (.lam s p) c
def Ps.n1(k:K1){a b:Tm}(h:Ps a b):Ps (.n1 k a) (.n1 k b):=by
 induction h with|refl=>exact .refl _|step p _ c=>exact .step (.n1 k p) c
def Ps.n2l(k:K2){a b:Tm}(h:Ps a b)(c:Tm):Ps (.n2 k a c) (.n2 k b c):=by
 induction h with|refl=>exact .refl _|step p _ d=>exact .step (.n2 k p (.refl c)) d
def Ps.n2r(k:K2)(c:Tm){a b:Tm}(h:Ps a b):Ps (.n2 k c a) (.n2 k c b):=by
 induction h with|refl=>exact .refl _|step p _ d=>exact .step (.n2 k (.refl c) p) d
def Ps.n3a(k:K3)(s:Ty){a b:Tm}(h:Ps a b)(c d:Tm):Ps (.n3 k s a c d) (.n3 k s b c d):=by
 induction h with|refl=>exact .refl _|step p _ e=>exact .step (.n3 k s p (.refl c) (.refl d)) e
def Ps.n3b(k:K3)(s:Ty)(c:Tm){a b:Tm}(h:Ps a b)(d:Tm):Ps (.n3 k s c a d) (.n3 k s c b d):=by
 induction h with|refl=>exact .refl _|step p _ e=>exact .step (.n3 k s (.refl c) p (.refl d)) e
def Ps.n3c(k:K3)(s:Ty)(c d:Tm){a b:Tm}(h:Ps a b):Ps (.n3 k s c d a) (.n3 k s c d b):=by
 induction h with|refl=>exact .refl _|step p _ e=>exact .step (.n3 k s (.refl c) (.refl d) p) e
def Cv.lam(s:Ty){a b:Tm}:Cv a b->Cv (.lam s a) (.lam s b):=λ⟨w,h,k⟩=>⟨_,h.lam s,k.lam s⟩
def Cv.n1(k:K1){a b:Tm}:Cv a b->Cv (.n1 k a) (.n1 k b):=λ⟨w,h,l⟩=>⟨_,h.n1 k,l.n1 k⟩
def Cv.n2(k:K2){a b c d:Tm}:Cv a b->Cv c d->Cv (.n2 k a c) (.n2 k b d):=λ⟨w,h,l⟩ ⟨x,m,n⟩=>⟨.n2 k w x,(h.n2l k c).trans (m.n2r k w),(l.n2l k d).trans (n.n2r k w)⟩
def Cv.n3(k:K3)(s:Ty){a b c d e f:Tm}:Cv a b->Cv c d->Cv e f->Cv (.n3 k s a c e) (.n3 k s b d f):=λ⟨w,h,l⟩ ⟨x,m,n⟩ ⟨y,o,p⟩=>⟨.n3 k s w x y,((h.n3a k s c e).trans (m.n3b k s w e)).trans (o.n3c k s w x),((l.n3a k s d f).trans (n.n3b k s w f)).trans (p.n3c k s w x)⟩
def Cv.u1{a b:Tm}(h:Cv a b):Cv a.u1 b.u1:=by
 rw[Tm.u1,Tm.u1,OC,OC,cG,cG];exact h.sub _
def Cv.up{σ τ:Nat->Tm}(h:∀i,Cv (σ i) (τ i)):∀i,Cv (aA σ i) (aA τ i)|0=>.refl _|i+1=>(h i).u1
def Cv.subst:∀(t:Tm){σ τ:Nat->Tm},(∀i,Cv (σ i) (τ i))->Cv (t.sub σ) (t.sub τ)|.v i,_,_,h=>h i|.n0 k,_,_,_=>.refl _|.lam s b,_,_,h=>(Cv.subst b (Cv.up h)).lam s|.n1 k a,_,_,h=>(Cv.subst a h).n1 k|.n2 k a b,_,_,h=>(Cv.subst a h).n2 k (Cv.subst b h)|.n3 k s a b c,_,_,h=>(Cv.subst a h).n3 k s (Cv.subst b h) (Cv.subst c h)
def Cv.ap{a b:Tm}(h:Cv a b):Cv a.ap b.ap:=h.u1.n2 .app (.refl _)
def Cv.cs{a b:Tm}(h:Cv a b){σ τ:Nat->Tm}(k:∀i,Cv (σ i) (τ i)):∀i,Cv (cs a σ i) (cs b τ i)|0=>h|i+1=>k i
def vF:∀(f:Fm){σ τ:Nat->Tm}{t u:Tm},(∀i,Cv (σ i) (τ i))->Cv t u->FCv (rz f σ t) (rz f τ u)
 |.eq a b,σ,τ,t,u,h,_=>.eq (Cv.subst a h) (Cv.subst b h)|.bin .and x y,σ,τ,t,u,h,k=>by
  simp only[rz];cases x.has&&y.has
  ·exact .bin .and (vF x h k) (vF y h k)
  exact .bin .and (vF x h (k.n1 .fst)) (vF y h (k.n1 .snd))
 |.bin .imp x y,σ,τ,t,u,h,k=>by
  simp only[rz];cases x.has
  ·exact .bin .imp (vF x h k) (vF y h k)
  refine .q .all _ (.bin .imp (vF x (λi=>(h i).u1) (.refl _)) (vF y (λi=>(h i).u1) ?_));cases y.has
  ·exact k.u1
  exact k.ap
 |.q .all s x,σ,τ,t,u,h,k=>by
  refine .q .all s (vF x (Cv.up h) ?_);cases x.has
  ·exact k.u1
  exact k.ap
 |.q .allU s x,σ,τ,t,u,h,k=>.q .all s (vF x (Cv.up h) k.u1)|.q .exU s x,σ,τ,t,u,h,k=>.q .exU s (vF x (Cv.up h) k.u1)|.q .ex s x,σ,τ,t,u,h,k=>by
  simp only[rz];cases x.has
  ·exact vF x (k.cs h) k
  exact vF x ((k.n1 .fst).cs h) (k.n1 .snd)
def FCv.cond(x:Bool){a b c d:Fm}(h:FCv a b)(k:FCv c d):FCv (bif x then a else c) (bif x then b else d):=by cases x<;>assumption
def VK{f g:Fm}(h:FCv f g):∀(σ:Nat->Tm)(t:Tm),FCv (rz f σ t) (rz g σ t):=by
 induction h with
 |eq h k=>exactλσ t=>.eq (h.sub σ) (k.sub σ)|bin k c e a b=>
  intro σ t;cases k
  ·simp only[rz,c.has,e.has];exact .cond _ (.bin .and (a _ _) (b _ _)) (.bin .and (a _ _) (b _ _))
  simp only[rz,c.has,e.has,vD c.er];exact .cond _ (.q .all _ (.bin .imp (a _ _) (b _ _))) (.bin .imp (a _ _) (b _ _))
 |q k s h d=>
  intro σ t;cases k<;>simp only[rz,h.has]
  ·exact .q .all s (d _ _)
  ·grind
  ·exact .q .all s (d _ _)
  exact .q .exU s (d _ _)
def pH:∀(f:Fm)(g:List Ty),f.tq g->f.hq g|.eq a b,g,h=>⟨HE a g _ h.1,HE b g _ h.2⟩|.bin _ f h,g,k=>⟨pH f g k.1,pH h g k.2⟩|.q _ s f,g,h=>pH f _ h
def Hg.u1{g G:List Ty}{σ:Nat->Tm}(h:Hg g G σ)(s:Ty):Hg g (G++[s]) (XB σ):=λi u e=>IE s (h i u e)
def Hg.cs{g G:List Ty}{σ:Nat->Tm}(h:Hg g G σ){t:Tm}{s:Ty}(a:Ht G t s):Hg (g++[s]) G (cs t σ):=λi u e=>by
 cases i with
 |zero=>rw[eG]at e;cases e;exact a
 |succ i=>rw[mH]at e;exact h i u e
theorem So{G:List Ty}{t:Tm}{s u:Ty}(h:Ht G t (.two true s u)):Ht (G++[s]) t.ap u:=⟨s,IE s h,kE G s⟩
def SC:∀(f:Fm)(g G:List Ty)(σ:Nat->Tm)(t:Tm),f.hq g->Hg g G σ->(f.has=true->Ht G t f.cty)->(rz f σ t).hq G
 |.eq a b,g,G,σ,t,h,c,_=>⟨pF a g G σ _ c h.1,pF b g G σ _ c h.2⟩|.bin .and x y,g,G,σ,t,h,c,d=>by
  simp only[rz];simp only[Fm.has,Fm.cty]at d;cases i:x.has<;>cases j:y.has<;>simp only[i,j,Bool.or_false,Bool.or_true,abv,Bool.and_true,gb,gp,forall_const]at d⊢
  ·exact⟨SC x g G σ t h.1 c (λe=>by rw[i]at e;cases e),SC y g G σ t h.2 c (λe=>by rw[j]at e;cases e)⟩
  ·exact⟨SC x g G σ t h.1 c (λe=>by rw[i]at e;cases e),SC y g G σ t h.2 c λ_=>d⟩
  ·exact⟨SC x g G σ t h.1 c λ_=>d,SC y g G σ t h.2 c (λe=>by rw[j]at e;cases e)⟩
  exact⟨SC x g G σ _ h.1 c λ_=>⟨_,d⟩,SC y g G σ _ h.2 c λ_=>⟨_,d⟩⟩
 |.bin .imp x y,g,G,σ,t,h,c,d=>by
  simp only[rz];simp only[Fm.has,Fm.cty]at d;cases i:x.has
  ·simp only[i,gp]at d⊢;exact⟨SC x g G σ t h.1 c (λe=>by rw[i]at e;cases e),SC y g G σ t h.2 c d⟩
  refine⟨SC x g _ _ _ h.1 (c.u1 _) λ_=>kE G _,SC y g _ _ _ h.2 (c.u1 _) λe=>?_⟩
  grind[So]
 |.q .all s x,g,G,σ,t,h,c,d=>SC x _ _ _ _ h (c.up s) λe=>by rw[e];exact So (d e)|.q .allU s x,g,G,σ,t,h,c,d=>SC x _ _ _ _ h (c.up s) λe=>IE s (d e)|.q .exU s x,g,G,σ,t,h,c,d=>SC x _ _ _ _ h (c.up s) λe=>IE s (d e)|.q .ex s x,g,G,σ,t,h,c,d=>by
  simp only[rz];have d:=d rfl;simp only[Fm.cty]at d;cases i:x.has<;>simp only[i,gb,gp]at d⊢
  ·exact SC x _ G _ _ h (c.cs d) (λe=>by rw[i]at e;cases e)
  exact SC x _ G _ _ h (c.cs ⟨_,d⟩) λ_=>⟨_,d⟩
open Go.Lg
def sS(s:Sc):Nat->Tm:=λi=>(Tm.v i).ps s.vs s.dep 0
def qY{σ τ:Nat->Tm}{n:Nat}(h:∀i,i<n->σ i=τ i):∀i,i<n+1->aA σ i=aA τ i|0,_=>rfl|i+1,k=>by show(σ i).sh 0 _=(τ i).sh 0 _;rw[h i a6]
def s8{σ τ:Nat->Tm}{n:Nat}(t:Tm)(h:∀i,i<n->σ i=τ i):∀i,i<n+1->cs t σ i=cs t τ i|0,_=>rfl|i+1,k=>h i a6
def To{t:Tm}{n:Nat}(a:t.sc n){σ τ:Nat->Tm}(h:∀i,i<n->σ i=τ i):t.sub σ=t.sub τ:=YE t σ τ λi b=>h i (NT a b)
theorem cE:∀(f:Fm)(n:Nat)(σ τ:Nat->Tm)(t:Tm),f.sc n->(∀i,i<n->σ i=τ i)->rz f σ t=rz f τ t
 |.eq a b,n,σ,τ,t,c,h=>by simp only[rz,To c.1 h,To c.2 h]|.bin .and x y,n,σ,τ,t,c,h=>by simp only[rz,cE x n σ τ _ c.1 h,cE y n σ τ _ c.2 h]|.bin .imp x y,n,σ,τ,t,c,h=>by
  have d:∀i,i<n->XB σ i=XB τ i:=λi e=>k0 Tm.u1 (h i e)
  simp only[rz,cE x n σ τ _ c.1 h,cE y n σ τ _ c.2 h,cE x n _ _ _ c.1 d,cE y n _ _ _ c.2 d]
 |.q .all s x,n,σ,τ,t,c,h=>by simp only[rz,cE x _ _ _ _ c (qY h)]|.q .allU s x,n,σ,τ,t,c,h=>by simp only[rz,cE x _ _ _ _ c (qY h)]|.q .exU s x,n,σ,τ,t,c,h=>by simp only[rz,cE x _ _ _ _ c (qY h)]|.q .ex s x,n,σ,τ,t,c,h=>by simp only[rz,cE x _ _ _ _ c (s8 _ h)]
def Te{n:Nat}{a:List Bool}{s:Sc}(h:ScOK n a s):∀i,i<n->sS s.bind i=(sS s i).u1:=λi a=>GX h.ve (show(Tm.v i).sc s.vs.length by rw[h.vl];exact a)
def Uo{n:Nat}{a:List Bool}{s:Sc}(h:ScOK n a s)(t:Tm):∀i,i<n+1->sS (s.var t) i=cs t (sS s) i
 |0,_=>PT _ _ _|i+1,k=>by
  exact IX s.vs s.dep (t,s.dep) (show(Tm.v i).sc s.vs.length by rw[h.vl];show i<n;omega)
def Vo(f:Fm)(σ:Nat->Tm)(t:Tm):(rz f σ t).sh 0 (.ofNat 1)=rz f (XB σ) t.u1:=by
 have e:∀a:Tm,a.sub (λi=>Tm.v (i+1))=a.u1:=λa=>by rw[Tm.u1,OC,cG]
 rw[qF,QO,nH,rF,e];simp_all
def UT(f:Fm)(σ:Nat->Tm)(u t:Tm):rz (f.sh 0 (.ofNat 1)) (cs u σ) t=rz f σ t:=by
 rw[qF,QO,nH,RF];rfl
def Jt.W(d:List Fm):List Ty->List Fm->Jt->Prop
 |_,c,.leaf u i f=>match u with|false=>i<c.length/\∃x,c[c.length-1-i]? =some x/\FCv x f|true=>∃x,d[i]? =some x/\FCv x f
 |g,_,.refl t=>Ht g t .nat|g,c,.p1 k a f=>a.W d g c/\match k with
  |.andL=>∃y,FCv a.f (.bin .and f y)|.andR=>∃x,FCv a.f (.bin .and x f)|.choice=>∃s u x,FCv a.f (.q .all s (.q .ex u x))/\FCv f (.q .ex (.two true s u) (.q .all s ((x.sh 2 (.ofNat 1)).put 0 vapp 0)))
 |g,c,.p2 k a b f=>a.W d g c/\match k with
  |.andI=>b.W d g c/\FCv f (.bin .and a.f b.f)|.impE=>b.W d g c/\∃x,FCv a.f (.bin .imp x f)/\FCv x b.f|.exE=>∃s x y,FCv a.f (.q .ex s x)/\b.W d (g++[s]) (fA 1 c++[x])/\FCv b.f y/\y.occ 0=0/\FCv f y.low|.exUE=>(∃s x y,FCv a.f (.q .exU s x)/\b.W d (g++[s]) (fA 1 c++[x])/\FCv b.f y/\y.occ 0=0/\FCv f y.low)/\b.f.has=false
 |g,c,.impI x a=>x.hq g/\a.W d g (c++[x])|g,c,.all u s a=>a.W d (g++[s]) (fA 1 c)/\u=false|g,c,.ins u t a f=>a.W d g c/\∃s x,Ht g t s/\FCv a.f (.q (aq u) s x)/\FCv f (x.put 0 t 0)|g,c,.ex u x t a=>x.hq g/\a.W d g c/\∃s y,Ht g t s/\x=.q (xI u) s y/\FCv (y.put 0 t 0) a.f|g,c,.ind l x t a b f=>x.hq (g++[lT l])/\Ht g t (lT l)/\(a.W d g c/\FCv (x.put 0 (l0 l) 0) a.f)/\(b.W d (g++lG l) (iK c x l)/\FCv ((x.sh 1 (.ofNat (lN l))).put 0 (l1 l) 0) b.f)/\FCv f (x.put 0 t 0)|g,c,.subst x a b f=>x.hq (g++[.nat])/\a.W d g c/\b.W d g c/\∃t u,FCv a.f (.eq t u)/\FCv (x.put 0 t 0) b.f/\FCv f (x.put 0 u 0)
def Sc.skip(s:Sc):Sc:=⟨s.dep,s.hyps+1,s.vs,s.ks⟩
structure SoT(G g:List Ty)(hs HS:List Fm)(s:Sc):Prop where
 S:ScOK g.length (hs.map Fm.has) s
 T:ScT G g (hs.map Fm.er) s
 d:G.length=s.dep
 h:HS.length=s.hyps
 sc:∀f∈hs,f.sc g.length
 q:∀f∈hs,f.tq g
 p:∀i f,i<hs.length->hs[hs.length-1-i]? =some f->∃y x,s.ks[s.ks.length-1-i]? =some y/\HS[y.pl]? =some x/\FCv x (rz f (sS s) (s.hy i))
variable{G g:List Ty}{hs HS:List Fm}{s:Sc}
theorem SoT.bind(H:SoT G g hs HS s)(u:Ty):SoT (G++[u]) g hs (fA 1 HS) s.bind:=by
 refine⟨H.S.bind,H.T.bind H.S u,by simp[Sc.bind,H.d],by simp[Sc.bind,H.h],H.sc,H.q,λi f a e=>?_⟩;have⟨y,x,b,c,d⟩:=H.p i f a e;refine⟨y,x.sh 0 (.ofNat 1),b,by rw[fA,i1,c];rfl,?_⟩;rw[JX H.S,cE f _ _ (XB (sS s)) _ (H.sc f (gg e)) (Te H.S),<-Vo];exact d.sh 0 1
theorem SoT.var(H:SoT G g hs HS s){t:Tm}{u:Ty}(c:Ht G t u)(d:TK s.dep t):SoT G (g++[u]) (fA 1 hs) HS (s.var t):=by
 have h:=H.S.var d;refine⟨by rw[aE,rC];exact h,by rw[rJ];exact H.T.var H.S c,H.d,H.h,λf j=>?_,WX (VM g u) H.q,λi f a e=>?_⟩
 ·obtain⟨x,k,rfl⟩:=iy.1 j;rw[rC];exact xJ 1 x 0 _ (H.sc x k)
 rw[fA,gB]at a e;rw[i1]at e;obtain⟨x0,b,rfl⟩:=aaC.1 e;have⟨y,x,l,m,n⟩:=H.p i x0 a b;refine⟨y,x,l,m,?_⟩;rw[cE (x0.sh 0 (.ofNat 1)) _ _ (cs t (sS s)) _ (xJ 1 x0 0 _ (H.sc x0 (gg b))) (Uo H.S t),UT];exact n
def SoT.psh(H:SoT G g hs HS s){x y:Fm}{k:Hy}(c:ScOK g.length ((hs++[x]).map Fm.has) ⟨s.dep,s.hyps+1,s.vs,s.ks++[k]⟩)(d:ScT G g ((hs++[x]).map Fm.er) ⟨s.dep,s.hyps+1,s.vs,s.ks++[k]⟩)(j:x.sc g.length)(hq:x.tq g)(l:k.pl=s.hyps){v:Tm}(m:(⟨s.dep,s.hyps+1,s.vs,s.ks++[k]⟩:Sc).hy 0=v)(n:FCv y (rz x (sS s) v)):SoT G g (hs++[x]) (HS++[y]) ⟨s.dep,s.hyps+1,s.vs,s.ks++[k]⟩:=by
 have w:s.ks.length=hs.length:=by have:=H.S.kl;simpa using this
 refine⟨c,d,H.d,by simp[H.h],λf h=>?_,XX H.q hq,λi f a e=>?_⟩
 ·rcases eh.1 h with h|h
  ·exact H.sc f h
  simp at h;subst h;exact j
 cases i with
 |zero=>
  refine⟨k,y,a8,by rw[l,<-H.h];simp,?_⟩;have:x=f:=by simpa using e
  subst this;rw[m];exact n
 |succ i=>
  have a:i<hs.length:=by simpa using a
  have o:hs[hs.length-1-i]? =some f:=by
   rw[<-e,gz];simp only[hW,iq];rw[show hs.length+(0+1)-1-(i+1)=hs.length-1-i by omega,aag a6]
  have⟨p,r,t,b,u⟩:=H.p i f a o;refine⟨p,r,?_,?_,?_⟩
  ·simp only[gz,hW,iq];rw[show s.ks.length+(0+1)-1-(i+1)=s.ks.length-1-i by omega,aag a6];exact t
  ·rw[aag (gf.1 b).1];exact b
  rw[QQ s k 0 _ i];exact u
theorem SoT.hyp(H:SoT G g hs HS s){x y:Fm}{t:Tm}(a:x.sc g.length)(hq:x.tq g)(c:Ht G t x.cty)(d:TK s.dep t)(e:FCv y (rz x (sS s) t))(b:x.has=true):SoT G g (hs++[x]) (HS++[y]) (s.hyp t):=by
 have f:s.ks.length=(hs.map Fm.er).length:=by rw[H.S.kl];simp
 refine H.psh (by rw[gn];exact H.S.hyp d _) (by rw[gn];exact H.T.hyp f (by rw[WH];exact c)) a hq rfl (v:=t) ?_ e;rw[MO];simp only[aaY,VE]
theorem SoT.bare(H:SoT G g hs HS s){x y:Fm}(a:x.sc g.length)(hq:x.tq g)(b:x.has=false)(c:FCv y (rz x (sS s) (.n0 .unit))):SoT G g (hs++[x]) (HS++[y]) s.bare:=by
 have d:s.ks.length=(hs.map Fm.er).length:=by rw[H.S.kl];simp
 exact H.psh (by rw[gn];show ScOK _ (_++[x.has]) _;rw[b];exact H.S.bare) (by rw[gn];exact H.T.bare d (by rw[PH];exact b)) a hq rfl (MO _ _ _) c
theorem SoT.skip(H:SoT G g hs HS s)(y:Fm):SoT G g hs (HS++[y]) s.skip:=
 ⟨⟨H.S.vl,H.S.kl,H.S.ve,H.S.ke,H.S.kh⟩,⟨H.T.v,H.T.k⟩,H.d,by simp[Sc.skip,H.h],H.sc,H.q,λi f b e=>by
  have⟨k,x,c,a,d⟩:=H.p i f b e;exact⟨k,x,c,by rw[aag (gf.1 a).1];exact a,d⟩⟩
end Go.Proofs.YtbebdmlomjpamaaGreatDoor
namespace Go.Proofs.YtbebdmlomjpamaaGreatDoor
open Go.Lg
set_option maxRecDepth 100000
def ou(t:Tm)(p:Jt):Jt:=.ins false t p (match p.f with|.q _ _ x=>x.put 0 t 0|f=>f)
def im(p q:Jt):Jt:=.p2 .impE p q (match p.f with|.bin _ _ y=>y|f=>f)
def un(x:Fm)(b:Sc->Jt)(s:Sc):Jt:=bif x.has then .all false x.cty (.impI (rz x (sS s.bind) (.v 0)) (b (s.bind.hyp (.v 0))))else .impI (rz x (sS s) (.n0 .unit)) (b s.bare)
def Jt.tx(tl:List Tm)(j:Jt)(s:Sc):Tm:=bif j.f.has then j.xt tl s else .n0 .unit
def Sc.pl(s:Sc)(i:Nat):Nat:=s.hyps-1-(match s.ks[s.ks.length-1-i]? with|some y=>y.pl|none=>0)
abbrev sv(s:Sc):Sc:=s.bind.var (.v 0)
def Jt.pv(tl:List Tm):Jt->Sc->Jt
 |.leaf u i f,s=>match u with|false=>.leaf false (s.pl i) (rz f (sS s) (s.hy i))|true=>.leaf true i (rz f (sS s) (Jt.xt tl (.leaf true i f) s))
 |.refl t,s=>.refl (t.ps s.vs s.dep 0)|.p1 k a _,s=>match k with|.andL=>.p1 .andL (a.pv tl s) (match (a.pv tl s).f with|.bin _ x _=>x|f=>f)|.andR=>.p1 .andR (a.pv tl s) (match (a.pv tl s).f with|.bin _ _ y=>y|f=>f)|.choice=>a.pv tl s
 |.p2 k a b f,s=>match k with|.andI=>.p2 .andI (a.pv tl s) (b.pv tl s) (.bin .and (a.pv tl s).f (b.pv tl s).f)|.impE=>im (bif b.f.has then ou (b.xt tl s) (a.pv tl s)else a.pv tl s) (b.pv tl s)|.exE=>im (bif a.f.bd.has then ou (.n1 .snd (a.xt tl s)) (ou (.n1 .fst (a.xt tl s)) (.all false a.f.qs (un a.f.bd (b.pv tl) (sv s))))else ou (a.xt tl s) (.all false a.f.qs (un a.f.bd (b.pv tl) (sv s)))) (a.pv tl s)|.exUE=>.p2 .exUE (a.pv tl s) (bif a.f.bd.has then im (ou (a.xt tl s.bind) (un a.f.bd (b.pv tl) (sv s).skip)) (.leaf false 0 (rz a.f.bd (sS (sv s)) (a.xt tl s.bind)))else b.pv tl (sv s).bare) (rz f (sS s) (Jt.xt tl (.p2 .exUE a b f) s))
 |.impI x a,s=>un x (a.pv tl) s|.all _ w a,s=>.all false w (a.pv tl (sv s))|.ins _ t a _,s=>ou (t.ps s.vs s.dep 0) (a.pv tl s)|.ex u x t a,s=>match u with|false=>a.pv tl s|true=>.ex true (.q .exU x.qs (rz x.bd (sS (sv s)) (a.tx tl s.bind))) (t.ps s.vs s.dep 0) (a.pv tl s)
 |.ind l x t a b f,s=>.ind l (rz x (sS (sv s)) (bif x.has then GD tl l x a b s.bind (.v 0)else .n0 .unit)) (t.ps s.vs s.dep 0) (a.pv tl s) (match l with
   |false=>bif x.has then im (ou (GD tl l x a b s.bind (.v 0)) (un x (b.pv tl) (sv s).skip)) (.leaf false 0 (rz x (sS (sv s)) (GD tl l x a b s.bind (.v 0))))else b.pv tl (sv s).bare|true=>bif x.has then im (ou (GD tl l x a b s.bind.bind (.v 0)) (un (x.sh 1 (.ofNat 1)) (b.pv tl) (sv (sv s)).skip)) (.leaf false 0 (rz (x.sh 1 (.ofNat 1)) (sS (sv (sv s))) (GD tl l x a b s.bind.bind (.v 0))))else b.pv tl (sv (sv s)).bare) (rz f (sS s) (Jt.xt tl (.ind l x t a b f) s))
 |.subst x a b f,s=>.subst (rz x (sS (sv s)) (b.tx tl s.bind)) (a.pv tl s) (b.pv tl s) (rz f (sS s) (b.xt tl s))
def VT(t u:Tm):t.u1.sub (λi=>(Tm.v i).put 0 u 0)=t:=by
 rw[Tm.u1,OC,GE];simp[YE,QT,eC]
def SO(t u:Tm):t.u1.put 0 u 0=t:=by rw[tD];exact VT t u
def Wo(t u:Tm):t.ap.put 0 u 0=.n2 .app t u:=by
 show Tm.n2 .app (t.u1.put 0 u 0) ((Tm.v 0).put 0 u 0)=_;rw[SO,vE]
def XM(f:Fm)(σ:Nat->Tm)(t u:Tm):(rz f (XB σ) t).put 0 u 0=rz f σ (t.put 0 u 0):=by
 rw[OD,rF,<-tD];simp[congr,funext,VT]
def WT(f:Fm)(σ:Nat->Tm)(t u:Tm):(rz f (aA σ) t).put 0 u 0=rz f (cs u σ) (t.put 0 u 0):=by
 rw[OD,rF,<-tD];congr 1;funext i
 cases i with|zero=>exact vE u|succ i=>exact VT _ _
def aD{f:Fm}{σ:Nat->Tm}{t u:Tm}(h:f.has=true->Cv t u):FCv (rz f σ t) (rz f σ u):=by
 cases e:f.has
 ·rw[II f σ t u e];exact .refl _
 exact vF f (λ_=>.refl _) (h e)
theorem Cv.of{a b:Tm}(h:Par a b):Cv a b:=⟨b,.step h (.refl _),.refl b⟩
def zY(s:Ty)(b:Tm):Cv (Tm.lam s b).ap b:=by
 have h:=Par.beta s (Par.refl (b.sh 1 (.ofNat 1))) (Par.refl (.v 0));have e:(b.sh 1 (.ofNat 1)).put 0 (.v 0) 0=b:=by
  rw[tD,zE,GE];refine(YE _ _ Tm.v λi _=>?_).trans (eC b)
  grind[vE,QT]
 rw[e]at h;exact .of h
def FCv.ofBin{f:Fm}{k:FB}{x y:Fm}(h:FCv f (.bin k x y)):∃a b,f=.bin k a b/\FCv a x/\FCv b y:=by
 cases h with|bin _ h k=>grind
def FCv.ofQ{f:Fm}{k:FQ}{s:Ty}{x:Fm}(h:FCv f (.q k s x)):∃a,f=.q k s a/\FCv a x:=by
 cases h with|q _ _ h=>simp_all
section
variable{ls:List Fm}{G:List Ty}{HS:List Fm}{p q:Jt}
def YM{s:Ty}{t:Tm}{X:Fm}(d:p.W ls G HS)(e:FCv p.f (.q .all s X))(g:Ht G t s):(ou t p).W ls G HS/\FCv (ou t p).f (X.put 0 t 0):=by
 have⟨a,b,h⟩:=e.ofQ;have c:(ou t p).f=a.put 0 t 0:=by show(match p.f with|.q _ _ x=>x.put 0 t 0|f=>f)=_;rw[b]
 refine⟨⟨d,s,a,g,by rw[b];exact .refl _,?_⟩,by rw[c];exact h.put t 0 0⟩;show FCv (ou t p).f _;rw[c];exact .refl _
def XQ{X Y:Fm}(d:p.W ls G HS)(hq:q.W ls G HS)(e:FCv p.f (.bin .imp X Y))(h:FCv X q.f):(im p q).W ls G HS/\FCv (im p q).f Y:=by
 have⟨a,g,b,i,j⟩:=e.ofBin;have c:(im p q).f=g:=by show(match p.f with|.bin _ _ y=>y|f=>f)=_;rw[b]
 refine⟨⟨d,hq,a,?_,i.trans h⟩,by rw[c];exact j⟩;show FCv p.f (.bin .imp a (im p q).f);rw[c,b];exact .refl _
end
def jY:aA Tm.v=Tm.v:=by
 funext i;cases i<;>rfl
def XH:∀p:Pf,PX .v p p|.leaf _ _=>rfl|.refl t=>⟨t,rfl⟩|.p1 _ a=>⟨a,rfl,XH a⟩|.p2 k a b=>⟨a,b,rfl,XH a,by cases k<;>simp only[jY]<;>exact XH b⟩|.impI x a=>⟨x,a,rfl,rfl,XH a⟩|.all _ _ a=>⟨a,rfl,by rw[jY];exact XH a⟩|.ins _ t a=>⟨t,a,rfl,λ_=>(eC t).symm,XH a⟩|.ex _ x t a=>⟨x,t,a,rfl,rfl,λ_=>(eC t).symm,XH a⟩|.ind l x t a b=>⟨x,t,a,b,rfl,rfl,(eC t).symm,XH a,by cases l<;>simp only[jY]<;>exact XH b⟩|.subst x a b=>⟨x,a,b,rfl,rfl,XH a,XH b⟩
def TO(t:Tm)(k:Nat):t.sh 0 (.ofNat k)=t.sub λi=>.v (i+k):=by
 rw[zE,cG];congr 1
def Ue(t:Tm)(k:Nat)(τ:Nat->Tm):(t.sh 0 (.ofNat k)).sub τ=t.sub λi=>τ (i+k):=by
 rw[TO,jE];rfl
section
variable{s:Sc}{n:Nat}{bs:List Bool}
def Xo(S:ScOK n bs s)(k:Nat)(es:List (Tm×Nat)){i:Nat}(a:i<n:=by omega):(Tm.v (i+es.length)).ps (s.vs++es) (s.dep+k) 0=(sS s i).sh 0 (.ofNat k):=by
 have⟨e,h,b⟩:=GT (vs:=s.vs) (v:=i) (by rw[S.vl];exact a);have c:ent (s.vs++es) (i+es.length)=some e:=by
  unfold ent at h⊢;rw[gm (by rw[gz,S.vl];omega),gz,aag (by rw[S.vl];omega),<-h]
  grind
 have:=(S.ve e b).1;unfold sS;rw[HI c,HI h,CI]
 grind
def c8(a:List (Tm×Nat))(t:Tm)(d k:Nat):(Tm.v 0).ps (a++[(t,d)]) (d+k) 0=t.sh 0 (.ofNat k):=by
 rw[HI (AX a (t,d)),Nat.add_sub_cancel_left]
def Yo(S:ScOK n bs s)(k h:Nat)(b:List (Tm×Nat))(a:List Hy){i:Nat}(c:i<bs.length):(⟨s.dep+k,h,b,s.ks++a⟩:Sc).hy (i+a.length)=(s.hy i).sh 0 (.ofNat k):=by
 have:=S.kl;unfold Sc.hy;rw[gz,aag a6,show s.ks.length+a.length-1-(i+a.length)=s.ks.length-1-i by omega]
 cases e:s.ks[s.ks.length-1-i]? with
 |none=>rfl|some x=>cases x with
  |bare p=>rfl|hy t d p=>
   have:=(S.ke _ (gg e) t d p rfl).1;rw[CI]
   grind
def Ve(d h k p:Nat)(a:List (Tm×Nat))(b:List Hy)(t:Tm):(⟨d+k,h,a,b++[.hy t d p]⟩:Sc).hy 0=t.sh 0 (.ofNat k):=by
 simp[Sc.hy]
end
def A8{d:List Fm}{tl:List Tm}(c:∀(i:Nat)(t:Tm),tl[i]? =some t->t.sc 0){j:Jt}{n:Nat}{a:List Fm}{s b:Sc}{τ:Nat->Tm}(e:j.OK d n a)(S:ScOK n (a.map Fm.has) s)(d:ScOK n (a.map Fm.has) b)(f:j.f.has=true)(g:∀v,j.us v->v<n->(Tm.v v).ps b.vs b.dep 0=((Tm.v v).ps s.vs s.dep 0).sub τ)(h:∀i,i<a.length->b.hy i=(s.hy i).sub τ):j.xt tl b=(j.xt tl s).sub τ:=
 wD c j j n n a a .v τ s b e e rfl (XH j.p) S d ⟨λv b a=>by
  rw[S.vl]at a;exact⟨by rw[d.vl];exact a,g v b a⟩,by rw[S.kl,d.kl],λi a=>h i (by rw[S.kl,gB]at a;exact a)⟩ f
open Go.Lg
def zC{m:Nat}:TK (m+1) (.v 0):=TB (aaJ _)
theorem ScOK.skip{n:Nat}{a:List Bool}{s:Sc}(h:ScOK n a s):ScOK n a s.skip:=⟨h.vl,h.kl,h.ve,h.ke,h.kh⟩
section
variable{ls:List Fm}{tl:List Tm}(htl:∀(i:Nat)(t:Tm),tl[i]? =some t->t.sc 0){s:Sc}{n:Nat}{hs hs':List Fm}{j:Jt}
include htl
theorem WK(S:ScOK n (hs.map Fm.has) s){k1 k2 h1 h2 l:Nat}{es1 es2:List (Tm×Nat)}{xs1 xs2:List Hy}{τ:Nat->Tm}(e:es1.length=l)(f:es2.length=l)(ex:xs1.length=xs2.length)(u:hs'.length=hs.length+xs1.length)(g:j.OK ls (n+l) hs')(h:ScOK (n+l) (hs'.map Fm.has) ⟨s.dep+k1,h1,s.vs++es1,s.ks++xs1⟩)(k:ScOK (n+l) (hs'.map Fm.has) ⟨s.dep+k2,h2,s.vs++es2,s.ks++xs2⟩)(m:j.f.has=true)(d:∀i,τ (i+k1)=.v (i+k2))(o:∀v,v<l->j.us v->(Tm.v v).ps (s.vs++es2) (s.dep+k2) 0=((Tm.v v).ps (s.vs++es1) (s.dep+k1) 0).sub τ)(p:∀i,i<xs1.length->(⟨s.dep+k2,h2,s.vs++es2,s.ks++xs2⟩:Sc).hy i=((⟨s.dep+k1,h1,s.vs++es1,s.ks++xs1⟩:Sc).hy i).sub τ):j.xt tl ⟨s.dep+k2,h2,s.vs++es2,s.ks++xs2⟩=(j.xt tl ⟨s.dep+k1,h1,s.vs++es1,s.ks++xs1⟩).sub τ:=by
 refine A8 htl g h k m (λv r x=>?_) λi y=>?_
 ·by_cases c:v<l
  ·exact o v c r
  obtain⟨w,rfl⟩:∃w,v=w+l:=⟨v-l,a6⟩;have b:=Xo S k1 es1 (i:=w);have a:=Xo S k2 es2 (i:=w);rw[e]at b;rw[f]at a;rw[b,a,Ue,TO];congr 1;funext i;exact(d i).symm
 by_cases c:i<xs1.length
 ·exact p i c
 obtain⟨w,rfl⟩:∃w,i=w+xs1.length:=⟨i-xs1.length,a6⟩;have b:=Yo S k1 h1 (s.vs++es1) xs1 (i:=w) a9;have a:=Yo S k2 h2 (s.vs++es2) xs2 (i:=w) a9;rw[<-ex]at a;rw[b,a,Ue,TO];congr 1;funext i;exact(d i).symm
theorem ZM(S:ScOK n (hs.map Fm.has) s)(a:j.OK ls n hs)(b:j.f.has=true):j.xt tl s.bind=(j.xt tl s).u1:=by
 have h:=WK htl S (k1:=0) (k2:=1) (h1:=s.hyps) (h2:=s.hyps) (l:=0) (es1:=[]) (es2:=[]) (xs1:=[]) (xs2:=[]) (τ:=λi=>.v (i+1)) rfl rfl rfl rfl a bS (by simp only[hI];exact S.bind) b (λi=>rfl) (λv a=>absurd a (lh v)) (λi a=>absurd a (lh i));simp only[hI,ir]at h;rw[Tm.u1,TO];exact h
theorem B8{t:Tm}(S:ScOK n (hs.map Fm.has) s)(a:TK s.dep t)(b:j.OK ls (n+1) (fA 1 hs))(c:¬j.us 0)(c:j.f.has=true):j.xt tl (sv s)=(j.xt tl (s.var t)).u1:=by
 have h:=WK htl S (hs':=fA 1 hs) (k1:=0) (k2:=1) (h1:=s.hyps) (h2:=s.hyps) (l:=1) (es1:=[(t,s.dep)]) (es2:=[(.v 0,s.dep+1)]) (xs1:=[]) (xs2:=[]) (τ:=λi=>.v (i+1)) rfl rfl rfl a8 b (by rw[aE];simp only[hI];exact S.var a) (by rw[aE];simp only[hI];exact S.bind.var (t:=.v 0) zC) c (λi=>rfl) (λv a k=>by
  simp_all) (λi a=>absurd a (lh i))
 simp only[hI,ir]at h;rw[Tm.u1,TO];exact h
theorem C8{x:Fm}{t:Tm}(S:ScOK n (hs.map Fm.has) s)(b:TK s.dep t)(c:j.OK ls (n+1) (fA 1 hs++[x]))(a:x.has=false)(e:¬j.us 0)(d:j.f.has=true):j.xt tl (sv s).bare=(j.xt tl (s.var t).bare).u1:=by
 have h:=WK htl S (hs':=fA 1 hs++[x]) (k1:=0) (k2:=1) (h1:=s.hyps+1) (h2:=s.hyps+1) (l:=1) (es1:=[(t,s.dep)]) (es2:=[(.v 0,s.dep+1)]) (xs1:=[.bare s.hyps]) (xs2:=[.bare s.hyps]) (τ:=λi=>.v (i+1)) rfl rfl rfl a8 c (by rw[UB,a];exact(S.var b).bare) (by rw[UB,a];exact(S.bind.var (t:=.v 0) zC).bare) d (λi=>rfl) (λv f k=>by
  simp_all) (λi g=>by
  obtain rfl:i=0:=bS
  simp[Sc.hy,Tm.sub])
 rw[Tm.u1,TO];exact h
theorem D8{x:Fm}{t:Tm}(S:ScOK n (hs.map Fm.has) s)(b:TK (s.dep+1) t)(c:j.OK ls (n+1) (fA 1 hs++[x]))(a:x.has=true)(e:¬j.us 0)(d:j.f.has=true):j.xt tl ((sv s).skip.bind.hyp (.v 0))=(j.xt tl ((s.bind.var t).hyp (.v 0))).sh 1 (.ofNat 1):=by
 have h:=WK htl S (hs':=fA 1 hs++[x]) (k1:=1) (k2:=2) (h1:=s.hyps+1) (h2:=s.hyps+2) (l:=1) (es1:=[(t,s.dep+1)]) (es2:=[(.v 0,s.dep+1)]) (xs1:=[.hy (.v 0) (s.dep+1) s.hyps]) (xs2:=[.hy (.v 0) (s.dep+2) (s.hyps+1)]) (τ:=λi=>.v (if 1<=i then i+1 else i)) rfl rfl rfl a8 c (by rw[UB,a];exact(S.bind.var b).hyp (t:=.v 0) zC true) (by rw[UB,a];exact(S.bind.var (t:=.v 0) zC).skip.bind.hyp (t:=.v 0) zC true) d (λi=>by simp) (λv f k=>by
  simp_all) (λi g=>by
  obtain rfl:i=0:=bS
  rw[show s.dep+2=s.dep+2+0 by rfl,Ve,show s.dep+1=s.dep+1+0 by rfl,Ve];rfl)
 rw[zE,cG];exact h
end
def KJ(d h p:Nat)(a:List (Tm×Nat))(b:List Hy)(t:Tm):(⟨d,h,a,b++[.hy t d p]⟩:Sc).hy 0=t:=(Ve d h 0 p a b t).trans (VE t 0)
def E8(a:List (Tm×Nat))(t:Tm)(d:Nat):(Tm.v 0).ps (a++[(t,d)]) d 0=t:=PT a d t
def XT(a:List (Tm×Nat))(t:Tm)(d:Nat):(Tm.v 0).ps (a++[(t,d)]) (d+1) 0=t.u1:=c8 a t d 1
section
variable{ls:List Fm}{tl:List Tm}(htl:∀(i:Nat)(t:Tm),tl[i]? =some t->t.sc 0){s:Sc}{n:Nat}{hs:List Fm}{j:Jt}{x:Fm}
include htl
theorem F8(S:ScOK n (hs.map Fm.has) s)(b:j.OK ls (n+1) (fA 1 hs++[x]))(a:x.has=true)(c:j.f.has=true):j.xt tl ((s.bind.var (.n1 .fst (.v 0))).hyp (.n1 .snd (.v 0)))=(j.xt tl ((sv s).bind.hyp (.v 0))).sub (cs (.n1 .snd (.v 0)) (cs (.n1 .fst (.v 0)) λi=>.v (i+1))):=by
 have k1:∀{m:Nat}(k:K1),TK (m+1) (.n1 k (.v 0)):=λk=>LK zC aab
 exact WK htl S (hs':=fA 1 hs++[x]) (k1:=2) (k2:=1) (h1:=s.hyps+1) (h2:=s.hyps+1) (l:=1) (es1:=[(.v 0,s.dep+1)]) (es2:=[(.n1 .fst (.v 0),s.dep+1)]) (xs1:=[.hy (.v 0) (s.dep+2) s.hyps]) (xs2:=[.hy (.n1 .snd (.v 0)) (s.dep+1) s.hyps]) rfl rfl rfl a8 b (by rw[UB,a];exact(S.bind.var (t:=.v 0) zC).bind.hyp (t:=.v 0) zC true) (by rw[UB,a];exact(S.bind.var (k1 .fst)).hyp (k1 .snd) true) c (λi=>rfl) (λv d _=>by
  obtain rfl:v=0:=a6
  rw[E8,show s.dep+2=s.dep+1+1 from rfl,XT];rfl) (λi e=>by
  obtain rfl:i=0:=bS
  rw[KJ,KJ];rfl)
theorem G8(S:ScOK n (hs.map Fm.has) s)(b:j.OK ls (n+1) (fA 1 hs++[x]))(a:x.has=true)(c:j.f.has=true):j.xt tl ((sv s).skip.bind.hyp (.v 0))=j.xt tl ((sv s).bind.hyp (.v 0)):=by
 have h:=WK htl S (hs':=fA 1 hs++[x]) (k1:=2) (k2:=2) (h1:=s.hyps+1) (h2:=s.hyps+2) (l:=1) (es1:=[(.v 0,s.dep+1)]) (es2:=[(.v 0,s.dep+1)]) (xs1:=[.hy (.v 0) (s.dep+2) s.hyps]) (xs2:=[.hy (.v 0) (s.dep+2) (s.hyps+1)]) (τ:=Tm.v) rfl rfl rfl a8 b (by rw[UB,a];exact(S.bind.var (t:=.v 0) zC).bind.hyp (t:=.v 0) zC true) (by rw[UB,a];exact(S.bind.var (t:=.v 0) zC).skip.bind.hyp (t:=.v 0) zC true) c (λi=>rfl) (λv d _=>(eC _).symm) (λi e=>by
  obtain rfl:i=0:=bS
  rw[KJ,KJ];rfl)
 exact h.trans (eC _)
theorem I8(S:ScOK n (hs.map Fm.has) s)(b:j.OK ls (n+1) (fA 1 hs++[x]))(a:x.has=true)(c:j.f.has=true):j.xt tl ((sv s.bind).bind.hyp (.v 0))=(j.xt tl ((sv s).bind.hyp (.v 0))).sh 2 (.ofNat 1):=by
 rw[zE,cG];exact WK htl S (hs':=fA 1 hs++[x]) (k1:=2) (k2:=3) (h1:=s.hyps+1) (h2:=s.hyps+1) (l:=1) (es1:=[(.v 0,s.dep+1)]) (es2:=[(.v 0,s.dep+2)]) (xs1:=[.hy (.v 0) (s.dep+2) s.hyps]) (xs2:=[.hy (.v 0) (s.dep+3) s.hyps]) (τ:=λi=>.v (if 2<=i then i+1 else i)) rfl rfl rfl a8 b (by rw[UB,a];exact(S.bind.var (t:=.v 0) zC).bind.hyp (t:=.v 0) zC true) (by rw[UB,a];exact(S.bind.bind.var (t:=.v 0) zC).bind.hyp (t:=.v 0) zC true) c (λi=>by simp) (λv d _=>by
  obtain rfl:v=0:=a6
  rw[show s.dep+3=s.dep+2+1 from rfl,XT,show s.dep+2=s.dep+1+1 from rfl,XT];rfl) (λi e=>by
  obtain rfl:i=0:=bS
  rw[KJ,KJ];rfl)
theorem J8(S:ScOK n (hs.map Fm.has) s)(b:j.OK ls (n+2) (fA 2 hs++[x]))(a:x.has=true)(c:j.f.has=true):j.xt tl ((sv (sv s)).skip.bind.hyp (.v 0))=j.xt tl ((sv (sv s)).bind.hyp (.v 0)):=by
 have h:=WK htl S (hs':=fA 2 hs++[x]) (k1:=3) (k2:=3) (h1:=s.hyps+1) (h2:=s.hyps+2) (l:=2) (es1:=[(.v 0,s.dep+1),(.v 0,s.dep+2)]) (es2:=[(.v 0,s.dep+1),(.v 0,s.dep+2)]) (xs1:=[.hy (.v 0) (s.dep+3) s.hyps]) (xs2:=[.hy (.v 0) (s.dep+3) (s.hyps+1)]) (τ:=Tm.v) rfl rfl rfl a8 b (by rw[UB,a];have:=((S.bind.var (t:=.v 0) zC).bind.var (t:=.v 0) zC).bind.hyp (t:=.v 0) zC true;grind[Sc.bind,Sc.var,Sc.hyp,List.append_assoc]) (by rw[UB,a];have:=((S.bind.var (t:=.v 0) zC).bind.var (t:=.v 0) zC).skip.bind.hyp (t:=.v 0) zC true;grind[Sc.bind,Sc.var,Sc.hyp,Sc.skip,List.append_assoc]) c (λi=>rfl) (λv d _=>(eC _).symm) (λi e=>by
  obtain rfl:i=0:=bS
  rw[KJ,KJ];rfl)
 simp only[sv,Sc.bind,Sc.var,Sc.hyp,Sc.skip,gy,aau,aaO]
 grind[eC]
theorem K8(S:ScOK n (hs.map Fm.has) s)(b:j.OK ls (n+2) (fA 2 hs++[x]))(a:x.has=true)(c:j.f.has=true):j.xt tl ((sv (sv s.bind)).bind.hyp (.v 0))=(j.xt tl ((sv (sv s)).bind.hyp (.v 0))).sh 3 (.ofNat 1):=by
 rw[zE,cG];have h:=WK htl S (hs':=fA 2 hs++[x]) (k1:=3) (k2:=4) (h1:=s.hyps+1) (h2:=s.hyps+1) (l:=2) (es1:=[(.v 0,s.dep+1),(.v 0,s.dep+2)]) (es2:=[(.v 0,s.dep+2),(.v 0,s.dep+3)]) (xs1:=[.hy (.v 0) (s.dep+3) s.hyps]) (xs2:=[.hy (.v 0) (s.dep+4) s.hyps]) (τ:=λi=>.v (if 3<=i then i+1 else i)) rfl rfl rfl a8 b (by rw[UB,a];have:=((S.bind.var (t:=.v 0) zC).bind.var (t:=.v 0) zC).bind.hyp (t:=.v 0) zC true;grind[Sc.bind,Sc.var,Sc.hyp,List.append_assoc]) (by rw[UB,a];have:=((S.bind.bind.var (t:=.v 0) zC).bind.var (t:=.v 0) zC).bind.hyp (t:=.v 0) zC true;grind[Sc.bind,Sc.var,Sc.hyp,List.append_assoc]) c (λi=>by simp) (λv f _=>by
  have d:s.vs++[(Tm.v 0,s.dep+2),(Tm.v 0,s.dep+3)]=(s.vs++[(Tm.v 0,s.dep+2)])++[(Tm.v 0,s.dep+3)]:=a8
  have e:s.vs++[(Tm.v 0,s.dep+1),(Tm.v 0,s.dep+2)]=(s.vs++[(Tm.v 0,s.dep+1)])++[(Tm.v 0,s.dep+2)]:=a8
  rw[d,e];rcases v with _|_|v
  ·rw[show s.dep+4=s.dep+3+1 from rfl,XT,show s.dep+3=s.dep+2+1 from rfl,XT];rfl
  ·rw[HI (e:=(Tm.v 0,s.dep+2)) (by rw[Ae];exact AX _ _),HI (e:=(Tm.v 0,s.dep+1)) (by rw[Ae];exact AX _ _)];rw[show s.dep+4-(s.dep+2)=2 by omega,show s.dep+3-(s.dep+1)=2 by omega];rfl
  ·omega) (λi g=>by
  obtain rfl:i=0:=bS
  rw[KJ,KJ];rfl)
 simp only[sv,Sc.bind,Sc.var,Sc.hyp,gy,aau,aaO];exact h
end
open Go.Lg
abbrev tv(tl:List Tm)(i:Nat):Tm:=match tl[i]? with|some t=>t|none=>.n0 .unit
structure qN(ls lsR:List Fm)(tl:List Tm):Prop where
 q:∀f∈ls,f.tq []
 c:∀(i:Nat)(t:Tm),tl[i]? =some t->t.sc 0
 h:∀(i:Nat)(f:Fm),ls[i]? =some f->f.sc 0/\∃y,lsR[i]? =some y/\FCv y (rz f Tm.v (tv tl i))
 T:∀(i:Nat)(f:Fm),ls[i]? =some f->f.has=true->∃t,tl[i]? =some t/\Ht [] t f.cty
section
variable{lsR:List Fm}{G g:List Ty}{hs HS:List Fm}{s:Sc}
def YQ{n:Nat}{a:List Bool}(h:ScOK n a s):∀i,i<n+1->sS (sv s) i=aA (sS s) i:=λi b=>by
 rw[Uo h.bind (.v 0) i b]
 cases i with|zero=>rfl|succ i=>exact Te h i a6
def SoT.sv(H:SoT G g hs HS s)(u:Ty):SoT (G++[u]) (g++[u]) (fA 1 hs) (fA 1 HS) (sv s):=(H.bind u).var (kE G u) zC
def ZQ(H:SoT G g hs HS s){f:Fm}(a:f.sc (g.length+1))(t:Tm):rz f (sS (sv s)) t=rz f (aA (sS s)) t:=cE f _ _ _ t a (YQ H.S)
def Zo(H:SoT G g hs HS s){f:Fm}(a:f.sc g.length)(t:Tm):rz f (sS s.bind) t=rz f (XB (sS s)) t:=cE f _ _ _ t a (Te H.S)
def SF(x y:Fm)(σ:Nat->Tm)(t u:Tm):Fm:=bif x.has then .q .all x.cty (.bin .imp (rz x (XB σ) (.v 0)) (rz y (XB σ) t))else .bin .imp (rz x σ (.n0 .unit)) (rz y σ u)
def vY(H:SoT G g hs HS s){x y:Fm}(d:x.sc g.length)(hq:x.tq g)(hy:y.sc g.length){b:Sc->Jt}{T:Sc->Tm}(j:∀l a c,SoT l g (hs++[x]) a c->(b c).W lsR l a/\FCv (b c).f (rz y (sS c) (T c))):(un x b s).W lsR G HS/\FCv (un x b s).f (SF x y (sS s) (T (s.bind.hyp (.v 0))) (T s.bare)):=by
 unfold un SF;cases e:x.has
 ·have f:=H.bare d hq e (y:=rz x (sS s) (.n0 .unit)) (.refl _);have⟨h,i⟩:=j _ _ _ f;exact⟨⟨SC x g G _ _ (pH _ _ hq) H.T.v (λk=>by rw[e]at k;cases k),h⟩,.bin .imp (.refl _) i⟩
 have m:=H.bind x.cty;have f:=m.hyp d hq (kE G x.cty) zC (y:=rz x (sS s.bind) (.v 0)) (.refl _) e;have⟨h,i⟩:=j _ _ _ f;refine⟨⟨⟨SC x g _ _ _ (pH _ _ hq) m.T.v λ_=>kE G x.cty,h⟩,rfl⟩,?_⟩;rw[Zo H d];refine .q .all _ (.bin .imp (.refl _) (i.trans ?_));rw[show sS (s.bind.hyp (.v 0))=sS s.bind from rfl,Zo H hy];exact .refl _
end
def jN(x:Fm)(t:Tm)(σ:Nat->Tm)(u:Tm):rz (x.put 0 t 0) σ u=rz x (cs (t.sub σ) σ) u:=by
 rw[OD,RF];congr 1;funext i
 cases i with|zero=>rw[vE];rfl|succ i=>rfl
def YH{x w:Fm}{t:Tm}(h:x.pt t=.ok w):w=x.put 0 t 0:=by
 grind[Fm.pt]
def We:∀f:Fm,f.sub Tm.v=f
 :=by intro x;induction x<;>simp_all[Fm.sub,eC,MM]
theorem zp{f:Fm}(h:f.occ 0=0):(f.low).sh 0 (.ofNat 1)=f:=by
 have e:f.low=f.sub λi=>.v (i-1):=by
  rw[Fm.low,OD];refine RM f _ _ λi a=>?_
  cases i with|zero=>rfl|succ i=>rfl
 rw[e,qF,QO,P7];refine(RM f _ Tm.v λi a=>?_).trans (We f)
 cases i with|zero=>omega|succ i=>rfl
def Xe{F f:Fm}(h:NC F=some f):FCv F (f.sh 0 (.ofNat 1)):=by
 unfold NC at h;split at h
 ·rename_i a;cases h;rw[zp a];exact .refl _
 grind[zp,OX,F]
def DB(c a:List Fm)(tl:List Tm)(j:Jt):Prop:=∀(g:List Ty)(b:List Fm)(G:List Ty)(d:List Fm)(s:Sc),SoT G g b d s->j.D c g b->j.OK c g.length b->(j.pv tl s).W a G d/\FCv (j.pv tl s).f (rz j.f (sS s) (j.xt tl s))
section
variable{ls lsR:List Fm}{tl:List Tm}(L:qN ls lsR tl){a b:Jt}{f:Fm}
def L8{i:Nat}:DB ls lsR tl (.leaf false i f):=by
 intro g j G k s H ⟨_,c,d⟩ _;have⟨y,x,l,e,h⟩:=H.p i f c d;have:=(gf.1 e).1;have:=H.h;have:s.pl i=s.hyps-1-y.pl:=by grind[Sc.pl]
 refine⟨⟨?_,x,?_,h⟩,.refl _⟩
 ·omega
 grind
include L in
theorem M8{i:Nat}:DB ls lsR tl (.leaf true i f):=by
 intro g j G l s H ⟨_,h⟩ _;have⟨c,y,e,k⟩:=L.h i f h;refine⟨⟨y,e,?_⟩,.refl _⟩;show FCv y (rz f (sS s) (tv tl i));rw[cE f 0 (sS s) Tm.v _ c λi d=>absurd d (lh i)];exact k
theorem N8{t:Tm}:DB ls lsR tl (.refl t):=by
 intro g c G c s H ⟨_,_,h⟩ _;refine⟨RK H.T h,?_⟩;show FCv (.eq (t.ps s.vs s.dep 0) (t.ps s.vs s.dep 0)) (.eq (t.sub (sS s)) (t.sub (sS s)));rw[ND];exact .refl _
theorem vp(x y:Fm)(σ:Nat->Tm)(t:Tm):∃u v,rz (.bin .and x y) σ t=.bin .and (rz x σ u) (rz y σ v)/\u=(bif x.has&&y.has then .n1 .fst t else t)/\v=(bif x.has&&y.has then .n1 .snd t else t):=by
 grind[rz]
theorem O8(i:DB ls lsR tl a):DB ls lsR tl (.p1 .andL a f):=by
 intro g j G k s H ⟨_,l,y,e⟩ ⟨_,m,_⟩;have⟨n,c⟩:=i g j G k s H l m;have o:(Jt.p1 .andL a f).xt tl s=bif f.has&&y.has then .n1 .fst (a.xt tl s)else a.xt tl s:=by
  show(bif a.f.both then .n1 .fst (a.xt tl s)else a.xt tl s)=_;rw[e];rfl
 rw[e]at c;have⟨u,v,p,r,_⟩:=vp f y (sS s) (a.xt tl s);rw[p]at c;have⟨X,Y,d,t,w⟩:=c.ofBin;have h:((Jt.p1 .andL a f).pv tl s).f=X:=by show(match (a.pv tl s).f with|.bin _ x _=>x|f=>f)=_;rw[d]
 refine⟨⟨n,Y,?_⟩,?_⟩
 ·show FCv (a.pv tl s).f (.bin .and ((Jt.p1 .andL a f).pv tl s).f Y);rw[h,d];exact .refl _
 rw[h,o,<-r];exact t
theorem P8(i:DB ls lsR tl a):DB ls lsR tl (.p1 .andR a f):=by
 intro g j G k s H ⟨_,l,y,e⟩ ⟨_,m,_⟩;have⟨n,c⟩:=i g j G k s H l m;have o:(Jt.p1 .andR a f).xt tl s=bif y.has&&f.has then .n1 .snd (a.xt tl s)else a.xt tl s:=by
  show(bif a.f.both then .n1 .snd (a.xt tl s)else a.xt tl s)=_;rw[e];rfl
 rw[e]at c;have⟨u,v,p,_,r⟩:=vp y f (sS s) (a.xt tl s);rw[p]at c;have⟨X,Y,d,w,t⟩:=c.ofBin;have h:((Jt.p1 .andR a f).pv tl s).f=Y:=by show(match (a.pv tl s).f with|.bin _ _ y=>y|f=>f)=_;rw[d]
 refine⟨⟨n,X,?_⟩,?_⟩
 ·show FCv (a.pv tl s).f (.bin .and X ((Jt.p1 .andR a f).pv tl s).f);rw[h,d];exact .refl _
 rw[h,o,<-r];exact t
theorem Ye(x y:Tm):Cv (.n1 .fst (.n2 .pair x y)) x:=.of (.fst y (.refl x))
theorem Ze(x y:Tm):Cv (.n1 .snd (.n2 .pair x y)) y:=.of (.snd x (.refl y))
theorem Q8(n:DB ls lsR tl a)(o:DB ls lsR tl b):DB ls lsR tl (.p2 .andI a b f):=by
 intro g j G l s H ⟨_,p,h,e⟩ ⟨_,r,i,_⟩;have⟨t,c⟩:=n g j G l s H p r;have⟨u,d⟩:=o g j G l s H h i;refine⟨⟨t,u,.refl _⟩,?_⟩;show FCv (.bin .and (a.pv tl s).f (b.pv tl s).f) (rz f (sS s) (bif a.f.has then(bif b.f.has then .n2 .pair (a.xt tl s) (b.xt tl s)else a.xt tl s)else b.xt tl s));rw[e];simp only[rz];cases m:a.f.has<;>cases v:b.f.has
 ·exact .bin .and (c.trans (aD λk=>by rw[m]at k;cases k)) d
 ·exact .bin .and (c.trans (aD λk=>by rw[m]at k;cases k)) d
 ·exact .bin .and c (d.trans (aD λk=>by rw[v]at k;cases k))
 exact .bin .and (c.trans (aD λ_=>(Ye _ _).symm)) (d.trans (aD λ_=>(Ze _ _).symm))
include L in
theorem R8(t:DB ls lsR tl a)(u:DB ls lsR tl b):DB ls lsR tl (.p2 .impE a b f):=by
 intro g j G l s H ⟨_,v,d,x,e,w⟩ ⟨_,y,h,_⟩;have⟨m,c⟩:=t g j G l s H v y;have⟨n,o⟩:=u g j G l s H d h;have ex:=TM w;have z:=ex.has;rw[e]at c;show(im (bif b.f.has then ou (b.xt tl s) (a.pv tl s)else a.pv tl s) (b.pv tl s)).W lsR G l/\FCv (im _ _).f (rz f (sS s) (bif b.f.has then .n2 .app (a.xt tl s) (b.xt tl s)else a.xt tl s));simp only[rz,z]at c;cases i:b.f.has
 ·simp only[i,gp]at c⊢;exact XQ m n c ((VK ex _ _).trans ((aD λk=>by rw[i]at k;cases k).trans o.symm))
 simp only[i,gb]at c⊢;have p:=RC L.T b g g.length j G s rfl d h H.S H.T i;rw[<-vD ex.er]at p;have⟨A,r⟩:=YM m c p;have B:(Fm.bin .imp (rz x (XB (sS s)) (.v 0)) (rz f (XB (sS s)) (bif f.has then(a.xt tl s).ap else(a.xt tl s).u1))).put 0 (b.xt tl s) 0=.bin .imp (rz x (sS s) (b.xt tl s)) (rz f (sS s) (bif f.has then .n2 .app (a.xt tl s) (b.xt tl s)else a.xt tl s)):=by
  show Fm.bin .imp ((rz x _ _).put 0 _ 0) ((rz f _ _).put 0 _ 0)=_;rw[XM,XM,vE];cases f.has
  ·rw[gp,gp,SO]
  rw[gb,gb,Wo]
 rw[B]at r;have⟨w1,w2⟩:=XQ A n r ((VK ex _ _).trans o.symm);exact⟨w1,w2.trans (aD λk=>by rw[k];exact .refl _)⟩
theorem S8{x:Fm}(h:DB ls lsR tl a):DB ls lsR tl (.impI x a):=by
 intro g r G t s H ⟨_,⟨_,i⟩,_,j⟩ ⟨l,_,d⟩;have m:=Jt.FKj d;have⟨w1,w2⟩:=vY (lsR:=lsR) H l.sc (pC _ _ i) m.sc (b:=a.pv tl) (T:=a.xt tl) λn c o p=>h g _ n c o p j d
 refine⟨w1,w2.trans ?_⟩;show FCv (SF x a.f _ _ _) (rz (.bin .imp x a.f) (sS s) (bif x.has then .lam x.cty (a.xt tl (s.bind.hyp (.v 0)))else a.xt tl s.bare));unfold SF;simp only[rz];cases e:x.has
 ·exact .bin .imp (aD λk=>by rw[e]at k;cases k) (.refl _)
 refine .q .all _ (.bin .imp (.refl _) (aD λk=>?_));rw[k];exact(zY _ _).symm
end
open Go.Lg
section
variable{ls lsR:List Fm}{tl:List Tm}(L:qN ls lsR tl){a b:Jt}{f:Fm}
def T8{u:Bool}{w:Ty}(i:DB ls lsR tl a):DB ls lsR tl (.all u w a):=by
 intro g j G p s H ⟨_,_,l,m⟩ ⟨c,_,d⟩;have n:=H.sv w;have e:a.OK ls (g++[w]).length (fA 1 j):=by rw[rC];exact d
 have⟨o,h⟩:=i _ _ _ _ _ n l e;refine⟨⟨o,rfl⟩,?_⟩;show FCv (.q .all w (a.pv tl (sv s)).f) _;rw[ZQ H (Jt.FKj d).sc]at h;cases u
 ·refine .q .all w (h.trans (aD λk=>?_));show Cv _ (bif a.f.has then(Tm.lam w (a.xt tl (sv s))).ap else _);rw[k];exact(zY _ _).symm
 refine .q .all w (h.trans (aD λk=>?_));rw[B8 L.c H.S (LF w c _) d (m rfl) k];exact .refl _
def U8{u:Bool}{t:Tm}(l:DB ls lsR tl a):DB ls lsR tl (.ins u t a f):=by
 intro g m G h s H ⟨_,_,n,w,x,o,p,r⟩ ⟨_,_,v,_⟩;have⟨i,d⟩:=l g m G h s H n v;have y:=YH r;subst y;rw[p]at d;have z:t.ps s.vs s.dep 0=t.sub (sS s):=ND s.vs s.dep t 0;have j:=RK H.T o;show(ou (t.ps s.vs s.dep 0) (a.pv tl s)).W lsR G h/\FCv (ou (t.ps s.vs s.dep 0) (a.pv tl s)).f (rz (x.put 0 t 0) (sS s) ((Jt.ins u t a (x.put 0 t 0)).xt tl s));rw[jN,<-z];cases u
 ·have⟨e,c⟩:=YM i d j;rw[WT]at c;refine⟨e,c.trans (aD λk=>?_)⟩;rw[k,gb,Wo];exact .refl _
 have⟨e,c⟩:=YM i d j;rw[WT,SO]at c;exact⟨e,c⟩
include L in
theorem V8{u:Bool}{x:Fm}{t:Tm}(r:DB ls lsR tl a):DB ls lsR tl (.ex u x t a):=by
 intro g j G z s H ⟨⟨_,A⟩,_,l,w,y,v,B,C,D,E⟩ ⟨F,_,c,_⟩;have⟨m,I⟩:=r g j G z s H l c;have J:=YH D;subst J C;have ex:=TM E;have i:t.ps s.vs s.dep 0=t.sub (sS s):=ND s.vs s.dep t 0;have K:=RK H.T B;have d:y.has=a.f.has:=by rw[<-ex.has,OD,oG]
 have ec:y.cty=a.f.cty:=by rw[<-vD ex.er,OD,WQ]
 have hy:y.sc (g.length+1):=F.sc
 --n M part h
 have o:FCv (a.pv tl s).f (rz y (cs (t.sub (sS s)) (sS s)) (a.xt tl s)):=by
  rw[<-jN];exact I.trans (VK ex.symm _ _)
 cases u
 ·refine⟨m,o.trans ?_⟩;show FCv _ (rz (.q .ex w y) (sS s) (bif a.f.has then .n2 .pair (t.ps s.vs s.dep 0) (a.xt tl s)else t.ps s.vs s.dep 0));simp only[rz,d];cases e:a.f.has
  ·rw[gp,gp,i];exact aD λk=>by rw[d,e]at k;cases k
  rw[gb,gb,i];exact vF y (Cv.cs (Ye _ _).symm λ_=>.refl _) (Ze _ _).symm
 have N:=H.sv w;have hq:(Fm.q .exU w (rz y (sS (sv s)) (a.tx tl s.bind))).hq G:=SC y _ (G++[w]) _ _ (pH _ _ (pC _ _ A)) N.T.v λk=>by
  rw[d]at k;unfold Jt.tx;rw[k,gb,ZM L.c H.S c k,ec];exact IE w (RC L.T a g g.length j G s rfl l c H.S H.T k)
 have p:FCv (rz y (sS (sv s)) (a.tx tl s.bind)) (rz y (aA (sS s)) (a.xt tl s).u1):=by
  rw[ZQ H hy];refine aD λk=>?_
  rw[d]at k;unfold Jt.tx;rw[k,gb,ZM L.c H.S c k];exact .refl _
 refine⟨⟨hq,m,w,_,K,rfl,?_⟩,?_⟩
 ·refine(p.put _ 0 0).trans ?_;rw[WT,SO,i];exact o.symm
 show FCv (.q .exU w (rz y (sS (sv s)) (a.tx tl s.bind))) (.q .exU w (rz y (aA (sS s)) (a.xt tl s).u1));exact .q .exU w p
include L in
theorem W8{x:Fm}(n:DB ls lsR tl a)(o:DB ls lsR tl b):DB ls lsR tl (.subst x a b f):=by
 intro g h G i s H ⟨_,⟨_,p⟩,r,d,t,u,w,e,y,z,A⟩ ⟨_,B,C,c,_⟩;have⟨D,j⟩:=n g h G i s H r C;have⟨E,F⟩:=o g h G i s H d c;have I:=YH y;have J:=YH A;subst I J;have ex:=TM z;have l:x.has=b.f.has:=by rw[<-ex.has,OD,oG]
 have ec:x.cty=b.f.cty:=by rw[<-vD ex.er,OD,WQ]
 have K:=H.sv .nat;rw[e]at j;have hq:(rz x (sS (sv s)) (b.tx tl s.bind)).hq (G++[.nat]):=SC x _ _ _ _ (pH _ _ (pC _ _ p)) K.T.v λk=>by
  rw[l]at k;unfold Jt.tx;rw[k,gb,ZM L.c H.S c k,ec];exact IE .nat (RC L.T b g g.length h G s rfl d c H.S H.T k)
 have M:FCv (rz x (sS (sv s)) (b.tx tl s.bind)) (rz x (aA (sS s)) (b.xt tl s).u1):=by
  rw[ZQ H B.sc];refine aD λk=>?_
  rw[l]at k;unfold Jt.tx;rw[k,gb,ZM L.c H.S c k];exact .refl _
 have m:∀v:Tm,FCv ((rz x (sS (sv s)) (b.tx tl s.bind)).put 0 (v.sub (sS s)) 0) (rz (x.put 0 v 0) (sS s) (b.xt tl s)):=λv=>by
  refine(M.put _ 0 0).trans ?_;rw[WT,SO,jN];exact .refl _
 refine⟨⟨hq,D,E,t.sub (sS s),u.sub (sS s),j,(m t).trans ((VK ex _ _).trans F.symm),?_⟩,?_⟩
 ·exact(m u).symm
 exact .refl _
theorem yp(t:Tm)(σ:Nat->Tm)(u:Tm):(t.sub (aA σ)).put 0 u 0=t.sub (cs u σ):=by
 rw[tD,jE];congr 1;funext i
 cases i with|zero=>exact vE u|succ i=>exact VT _ _
theorem XK(s:Ty)(b a:Tm):Cv (.n2 .app (.lam s b) a) (b.sub (cs a Tm.v)):=by
 have h:=Par.beta s (Par.refl b) (Par.refl a);have e:=yp b Tm.v a;rw[jY,eC]at e;rw[e]at h;exact .of h
theorem bp(w:Ty)(S:Ty)(t:Tm):Cv (.n2 .app (.lam S (VH w)) t) (.n2 .pair (.lam w (.n1 .fst t.ap)) (.lam w (.n1 .snd t.ap))):=XK S (VH w) t
theorem X8(w S:Ty)(t:Tm):Cv (Tm.n1 .fst (.n2 .app (.lam S (VH w)) t)).ap (.n1 .fst t.ap):=((((bp w S t).n1 .fst).trans (Ye _ _)).ap).trans (zY _ _)
theorem Y8(w S:Ty)(t:Tm):Cv (Tm.n1 .snd (.n2 .app (.lam S (VH w)) t)).ap (.n1 .snd t.ap):=((((bp w S t).n1 .snd).trans (Ze _ _)).ap).trans (zY _ _)
theorem Z8(n:DB ls lsR tl a):DB ls lsR tl (.p1 .choice a f):=by
 intro g o G p s H ⟨_,r,w,u,x,e,_,y,v,z⟩ ⟨_,A,_⟩;have⟨B,l⟩:=n g o G p s H r A;have C:=YH v;subst C z;rw[e]at l;refine⟨B,l.trans ?_⟩;show FCv (rz (.q .all w (.q .ex u x)) _ _) (rz _ (sS s) (GJ a.f (a.xt tl s)));rw[e];have D:((x.sh 2 (.ofNat 1)).put 0 vapp 0).has=x.has:=by rw[OD,oG,qF,nH,oG]
 --h d below,with j for h function and E c
 have key:∀(τ:Nat->Tm)(t:Tm),rz ((x.sh 2 (.ofNat 1)).put 0 vapp 0) τ t=rz x (cs (.n2 .app (τ 1) (τ 0)) (cs (τ 0) λi=>τ (i+2))) t:=λτ t=>by
  rw[jN,qF,nH,RF];congr 1;funext i;rcases i with _|_|i
  ·rfl
  ·rfl
  rfl
 show FCv (.q .all w (rz (.q .ex u x) (aA (sS s)) (a.xt tl s).ap)) (rz (.q .ex (.two true w u) (.q .all w _)) (sS s) (bif x.has then .n2 .app (.lam (.two true w (.two false u x.cty)) (VH w)) (a.xt tl s)else a.xt tl s));simp only[rz,Fm.has,D];cases k:x.has
 ·simp only[gp,key];refine .q .all w ?_;exact aD λm=>by rw[k]at m;cases m
 simp only[gb,key];refine .q .all w (vF x (λi=>?_) (Y8 _ _ _).symm);rcases i with _|_|i
 ·exact(X8 _ _ _).symm
 ·exact .refl _
 exact .refl _
end
def YT(A:Tm):(λi=>(Tm.v i).put 0 A 0)=cs A Tm.v:=by
 funext i
 cases i with|zero=>exact vE A|succ i=>rfl
def VO(f:Fm)(A:Tm):f.put 0 A 0=f.sub (cs A Tm.v):=by rw[OD,YT]
def dp(σ:Nat->Tm)(A:Tm):(λi=>(aA σ i).sub (cs A Tm.v))=cs A σ:=by
 funext i
 cases i with
 |zero=>rfl|succ i=>
  rw[<-YT];exact VT _ _
def fp(x y:Fm)(σ:Nat->Tm)(t a A:Tm):(SF x y (aA σ) t a).put 0 A 0=SF x y (cs A σ) (t.sub (aA (cs A Tm.v))) (a.sub (cs A Tm.v)):=by
 rw[VO];unfold SF;cases x.has
 ·simp only[gp,Fm.sub,rF,dp];rfl
 simp only[gb,Fm.sub,rF,Qo,dp];rfl
section
variable{ls lsR:List Fm}{tl:List Tm}(L:qN ls lsR tl){a b:Jt}{f:Fm}
def j9{g G:List Ty}{c d:List Fm}{s:Sc}(H:SoT G g c d s){x y:Fm}(c:x.sc (g.length+1))(hy:y.sc (g.length+1))(t c:Tm):SF x y (sS (sv s)) t c=SF x y (aA (sS s)) t c:=by
 have h:=YQ H.S
 grind[SF,cE]
include L in
theorem v9(I:DB ls lsR tl a)(J:DB ls lsR tl b):DB ls lsR tl (.p2 .exE a b f):=by
 intro g r G t s H ⟨_,v,⟨u,e,l⟩,_,C⟩ ⟨_,w,c,_⟩;have⟨D,j⟩:=I g r G t s H v w;have m:=(Jt.FKj w).sc;have p:=iG L.q a g r H.q v;have K:a.f.has=true:=by rw[e];rfl
 have h:=RC L.T a g g.length r G s rfl v w H.S H.T K;have eq:a.f.qs=u:=by rw[e];rfl
 show(im (bif a.f.bd.has then ou (.n1 .snd (a.xt tl s)) (ou (.n1 .fst (a.xt tl s)) (.all false a.f.qs (un a.f.bd (b.pv tl) (sv s))))else ou (a.xt tl s) (.all false a.f.qs (un a.f.bd (b.pv tl) (sv s)))) (a.pv tl s)).W lsR G t/\FCv (im _ _).f (rz f (sS s) (bif a.f.bd.has then .n2 .app (.lam (.two false a.f.qs a.f.bd.cty) (b.xt tl ((s.bind.var (.n1 .fst (.v 0))).hyp (.n1 .snd (.v 0))))) (a.xt tl s)else .n2 .app (.lam a.f.qs (b.xt tl (sv s).bare)) (a.xt tl s)));rw[eq];generalize a.f.bd=x at e l c⊢;rw[e]at m p h j;have m:x.sc (g.length+1):=m;have p:x.tq (g++[u]):=p;have fb:b.f.sc (g.length+1):=(Jt.FKj c).sc;have M:=H.sv u;have⟨w1,w2⟩:=vY (lsR:=lsR) M (x:=x) (y:=b.f) (by rw[rC];exact m) p (by rw[rC];exact fb) (b:=b.pv tl) (T:=b.xt tl) λN y O P=>J _ _ N y O P l (by rw[rC];exact c)
 rw[j9 H m fb]at w2;have E:(Jt.all false u (un x (b.pv tl) (sv s))).W lsR G t:=⟨w1,rfl⟩;have w3:FCv (Jt.all false u (un x (b.pv tl) (sv s))).f (.q .all u (SF x b.f (aA (sS s)) (b.xt tl ((sv s).bind.hyp (.v 0))) (b.xt tl (sv s).bare))):=.q .all u w2;have n:FCv b.f (f.sh 0 (.ofNat 1)):=Xe C;have z:f.has=b.f.has:=XA (uG C);simp only[rz]at j;simp only[Fm.cty]at h;cases k:x.has
 ·simp only[k,gp]at j h⊢;have⟨A,d⟩:=YM E w3 h;rw[fp]at d;unfold SF at d;simp only[k,gp]at d;have⟨p1,p2⟩:=XQ A D d ((aD λo=>by rw[k]at o;cases o).trans j.symm);refine⟨p1,p2.trans ((VK n _ _).trans ?_)⟩;rw[UT];exact aD λ_=>(XK _ _ _).symm
 simp only[k,gb]at j h⊢;have⟨A,d⟩:=YM E w3 (t:=.n1 .fst (a.xt tl s)) ⟨_,h⟩;rw[fp]at d;unfold SF at d;simp only[k,gb]at d;have⟨Q,F⟩:=YM A d (t:=.n1 .snd (a.xt tl s)) ⟨_,h⟩;have R:∀(τ:Nat->Tm)(T B:Tm),(Fm.bin .imp (rz x (XB τ) (.v 0)) (rz b.f (XB τ) T)).put 0 B 0=.bin .imp (rz x τ B) (rz b.f τ (T.put 0 B 0)):=λτ T B=>by
  show Fm.bin .imp ((rz x _ _).put 0 _ 0) ((rz b.f _ _).put 0 _ 0)=_;rw[XM,XM,vE]
 rw[R]at F;have⟨p1,p2⟩:=XQ Q D F j.symm;refine⟨p1,p2.trans ((VK n _ _).trans ?_)⟩;rw[UT,yp];refine aD λo=>?_
 rw[z]at o;rw[F8 L.c H.S c k o];refine .trans ?_ (XK _ _ _).symm;rw[jE];refine Cv.subst _ λi=>?_
 rcases i with _|_|i
 ·exact .refl _
 ·exact .refl _
 exact .refl _
end
open Go.Lg
theorem lp{t:Tm}{g:Nat->Nat}{c:Nat}(h:∀j,g j≠c):(t.ren g).occ c=0:=by
 grind[QM,absurd]
theorem qR:∀(f:Fm)(i:Nat->Nat)(c:Nat),(∀j,i j≠c)->(f.ren i).occ c=0
 |.eq a b,i,c,h=>by grind[Fm.ren,Fm.occ,lp]|.bin _ f g,i,c,h=>by simp only[Fm.ren,Fm.occ,qR f i c h,qR g i c h]|.q _ _ f,i,c,h=>by
  refine qR f _ _ λj=>?_
  cases j with|zero=>simp[ZD]|succ j=>have:=h j;simp only[ZD];omega
def zf(f:Fm):(f.sh 0 (.ofNat 1)).occ 0=0:=by
 rw[qF,QO];simp[qR]
def jf:∀(f:Fm)(σ τ:Nat->Tm),(f.sub σ).sub τ=f.sub λi=>(σ i).sub τ
 :=by intro x;induction x<;>simp_all[Fm.sub,jE,RO]
def np(f:Fm):(f.sh 0 (.ofNat 1)).low=f:=by
 rw[Fm.low,VO,qF,QO,nH,jf];exact We f
section
variable{ls lsR:List Fm}{tl:List Tm}(L:qN ls lsR tl){a b:Jt}{f:Fm}
include L in
theorem k9(U:DB ls lsR tl a)(M:DB ls lsR tl b):DB ls lsR tl (.p2 .exUE a b f):=by
 intro g C G r s H ⟨_,F,⟨u,e,o⟩,_,N,O⟩ ⟨ff,D,c,_⟩;have⟨V,t⟩:=U g C G r s H F D;have fk:=Jt.FKj D;have j:=fk.sc;have p:=iG L.q a g C H.q F;have v:a.f.qs.size<=64:=by
  rw[e]at fk⊢;exact lD (JA fk.shp).1
 have w:a.f.has=a.f.bd.has:=by rw[e];rfl
 have y:a.f.cty=a.f.bd.cty:=by rw[e];rfl
 --W l
 have d:∀{Q:Jt}{E:Fm},FCv (a.pv tl s).f (.q .exU u E)->Q.W lsR (G++[u]) (fA 1 r++[E])->∀T:Tm,FCv Q.f (rz b.f (sS (sv s)) T)->(f.has=true->Cv T ((Jt.p2 .exUE a b f).xt tl s).u1)->(Jt.p2 .exUE (a.pv tl s) Q (rz f (sS s) ((Jt.p2 .exUE a b f).xt tl s))).W lsR G r/\FCv (Jt.p2 .exUE (a.pv tl s) Q (rz f (sS s) ((Jt.p2 .exUE a b f).xt tl s))).f (rz f (sS s) ((Jt.p2 .exUE a b f).xt tl s)):=λ{Q E}X Y T P Z=>by
  refine⟨⟨V,⟨u,E,(rz f (sS s) ((Jt.p2 .exUE a b f).xt tl s)).sh 0 (.ofNat 1),X,Y,?_,zf _,?_⟩,?_⟩,.refl _⟩
  ·refine P.trans ((VK (Xe N) _ _).trans ?_);rw[cE (f.sh 0 (.ofNat 1)) _ _ (aA (sS s)) _ (xJ 1 f 0 _ ff.sc) (YQ H.S),show aA (sS s)=cs (.v 0) (XB (sS s)) by funext i;cases i<;>rfl,UT,Vo];exact aD Z
  ·rw[np];exact .refl _
  rw[P.has,UK]
 have h:(Jt.p2 .exUE a b f).xt tl s=bif a.f.bd.has then .n2 .app (.lam a.f.bd.cty (b.xt tl ((s.bind.var a.f.qs.ini).hyp (.v 0)))) (a.xt tl s)else b.xt tl (s.var a.f.qs.ini).bare:=rfl;have z:f.has=b.f.has:=XA (uG N);show(Jt.p2 .exUE (a.pv tl s) (bif a.f.bd.has then im (ou (a.xt tl s.bind) (un a.f.bd (b.pv tl) (sv s).skip)) (.leaf false 0 (rz a.f.bd (sS (sv s)) (a.xt tl s.bind)))else b.pv tl (sv s).bare) (rz f (sS s) _)).W lsR G r/\FCv (Jt.p2 .exUE _ _ _).f _;rw[e]at j p t;generalize a.f.bd=x at e o c h w y j p t⊢;have j:x.sc (g.length+1):=j;have p:x.tq (g++[u]):=p;have fb:b.f.sc (g.length+1):=(Jt.FKj c).sc;have R:=H.sv u;have m:b.OK ls (g++[u]).length (fA 1 C++[x]):=by rw[rC];exact c
 simp only[rz]at t;cases k:x.has
 ·simp only[k,gp]at h⊢;have I:=R.bare (x:=x) (by rw[rC];exact j) p k (y:=rz x (aA (sS s)) (a.xt tl s).u1) (by rw[ZQ H j];exact aD λn=>by rw[k]at n;cases n);have⟨w1,w2⟩:=M _ _ _ _ _ I o m;refine d t w1 _ w2 λn=>?_
  rw[z]at n;rw[h,C8 L.c H.S (LF _ v _) c k O n];exact .refl _
 simp only[k,gb]at h⊢;have A:a.f.has=true:=by rw[w];exact k
 have J:=ZM L.c H.S D A;have I:=R.skip (rz x (sS (sv s)) (a.xt tl s.bind));have⟨w1,w2⟩:=vY (lsR:=lsR) I (x:=x) (y:=b.f) (by rw[rC];exact j) p (by rw[rC];exact fb) (b:=b.pv tl) (T:=b.xt tl) λG' K s' H'=>M _ _ G' K s' H' o m
 unfold SF at w2;simp only[k,gb]at w2;have ht:Ht (G++[u]) (a.xt tl s.bind) x.cty:=by
  rw[J,<-y];exact IE u (RC L.T a g g.length C G s rfl F D H.S H.T A)
 have⟨q1,S⟩:=YM w1 w2 ht;have e3:∀(τ:Nat->Tm)(T B:Tm),(Fm.bin .imp (rz x (XB τ) (.v 0)) (rz b.f (XB τ) T)).put 0 B 0=.bin .imp (rz x τ B) (rz b.f τ (T.put 0 B 0)):=λτ T B=>by
  show Fm.bin .imp ((rz x _ _).put 0 _ 0) ((rz b.f _ _).put 0 _ 0)=_;rw[XM,XM,vE]
 rw[e3,show sS (sv s).skip=sS (sv s)from rfl]at S;have hl:(Jt.leaf false 0 (rz x (sS (sv s)) (a.xt tl s.bind))).W lsR (G++[u]) (fA 1 r++[rz x (sS (sv s)) (a.xt tl s.bind)]):=⟨a8,_,a8,.refl _⟩;have⟨p1,p2⟩:=XQ q1 hl S (.refl _);refine d (t.trans (.q .exU u ?_)) p1 _ p2 λn=>?_
 ·rw[ZQ H j,J];exact .refl _
 rw[z]at n;rw[h,D8 L.c H.S (LF _ v _) c k O n,J,tD,YT];exact(XK _ _ _).symm
end
def wY(f:Fm)(k:Nat)(c:Tm):(f.sh 1 (.ofNat k)).put 0 c 0=f.sub (cs c λi=>.v (i+k)):=by
 rw[VO,qF,nH,jf];congr 1;funext i
 cases i with
 |zero=>rfl|succ i=>
  rw[show QC 1 k (i+1)=i+k+1 by unfold QC;rw[gm a6];omega];rfl
def vf(t:Tm)(k:Nat)(c:Tm):t.u1.sub (cs c λi=>.v (i+k))=t.sh 0 (.ofNat k):=by
 rw[Tm.u1,Ue,TO];rfl
def u9(x:Fm)(σ:Nat->Tm)(R c:Tm)(k:Nat):(rz x (aA σ) R).sub (cs c λi=>.v (i+k))=rz x (cs c λi=>(σ i).sh 0 (.ofNat k)) (R.sub (cs c λi=>.v (i+k))):=by
 rw[rF];congr 1;funext i
 cases i with|zero=>rfl|succ i=>exact vf _ _ _
def JI(tl:List Tm)(l:Bool)(x:Fm)(b:Jt)(s:Sc):Tm:=match l with|false=>.lam .nat (.lam x.cty (b.xt tl ((sv s).bind.hyp (.v 0))))|true=>.lam .nat (.lam .list (.lam x.cty (b.xt tl ((sv (sv s)).bind.hyp (.v 0)))))
def kk:Bool->K3|false=>.re|true=>.fo
def pp(tl:List Tm)(l:Bool)(x:Fm)(a b:Jt)(s:Sc)(n:Tm):GD tl l x a b s n=.n3 (kk l) x.cty (a.xt tl s) (JI tl l x b s) n:=by cases l<;>rfl
def ip(a:List Fm)(n:Nat)(c:List Fm)(l:Bool)(x:Fm)(b:Jt):Prop:=match l with|false=>b.OK a (n+1) (fA 1 c++[x])|true=>b.OK a (n+2) (fA 2 c++[x.sh 1 (.ofNat 1)])
section
variable{ls lsR:List Fm}{tl:List Tm}(L:qN ls lsR tl){a b:Jt}{f:Fm}
include L in
theorem yf{n:Nat}{c:List Fm}{s:Sc}{l:Bool}{x:Fm}(S:ScOK n (c.map Fm.has) s)(d:ip ls n c l x b)(e:x.has=true)(g:b.f.has=true):JI tl l x b s.bind=(JI tl l x b s).u1:=by
 cases l
 ·show Tm.lam .nat (.lam x.cty (b.xt tl ((sv s.bind).bind.hyp (.v 0))))=_;rw[I8 L.c S d e g];rfl
 show Tm.lam .nat (.lam .list (.lam x.cty (b.xt tl ((sv (sv s.bind)).bind.hyp (.v 0)))))=_;rw[K8 L.c S d (by rw[XA (nE _ x 1)];exact e) g];rfl
theorem d9(s:Ty)(A B R:Tm)(h:R=.n3 .re s A.u1 (Tm.lam .nat (.lam s B)).u1 (.v 0)):Cv (.n3 .re s A.u1 (Tm.lam .nat (.lam s B)).u1 (.n1 .succ (.v 0))) (B.put 0 R 0):=by
 have c:Cv (.n3 .re s A.u1 (Tm.lam .nat (.lam s B)).u1 (.n1 .succ (.v 0))) (.n2 .app (.n2 .app (Tm.lam .nat (.lam s B)).u1 (.v 0)) R):=h▸.of (.reS s (.refl _) (.refl _) (.refl _));refine c.trans ?_;have d:Cv (.n2 .app (Tm.lam .nat (.lam s B)).u1 (.v 0)) ((Tm.lam s (B.sh 2 (.ofNat 1))).sub (cs (.v 0) Tm.v)):=XK .nat (.lam s (B.sh 2 (.ofNat 1))) (.v 0);refine(d.n2 .app (.refl R)).trans ((XK s _ R).trans ?_);rw[jE,zE,GE,tD,YT];refine Cv.subst _ λi=>?_
 rcases i with _|_|i
 ·exact .refl _
 ·exact .refl _
 exact .refl _
theorem l9(s:Ty)(A B R:Tm)(h:R=.n3 .fo s A.u1.u1 (Tm.lam .nat (.lam .list (.lam s B))).u1.u1 (.v 0)):Cv (.n3 .fo s A.u1.u1 (Tm.lam .nat (.lam .list (.lam s B))).u1.u1 (.n2 .cons (.v 1) (.v 0))) (B.put 0 R 0):=by
 have c:Cv (.n3 .fo s A.u1.u1 (Tm.lam .nat (.lam .list (.lam s B))).u1.u1 (.n2 .cons (.v 1) (.v 0))) (.n2 .app (.n2 .app (.n2 .app (Tm.lam .nat (.lam .list (.lam s B))).u1.u1 (.v 1)) (.v 0)) R):=h▸.of (.foC s (.refl _) (.refl _) (.refl _) (.refl _));refine c.trans ?_;have d:Cv (.n2 .app (Tm.lam .nat (.lam .list (.lam s B))).u1.u1 (.v 1)) ((Tm.lam .list (.lam s ((B.sh 3 (.ofNat 1)).sh 3 (.ofNat 1)))).sub (cs (.v 1) Tm.v)):=XK .nat (.lam .list (.lam s ((B.sh 3 (.ofNat 1)).sh 3 (.ofNat 1)))) (.v 1);refine(((d.n2 .app (.refl (.v 0))).trans (XK .list _ _)).n2 .app (.refl R)).trans ?_;refine(XK s _ R).trans ?_;rw[jE,jE,zE,zE,GE,GE,tD,YT];refine Cv.subst _ λi=>?_
 rcases i with _|_|_|i
 ·exact .refl _
 ·exact .refl _
 ·exact .refl _
 exact .refl _
end
open Go.Lg
def kY(a:List Fm):fA 1 (fA 1 a)=fA 2 a:=by
 simp only[fA,abj];exact aak λf _=>am 1 1 f 0
section
variable{ls lsR:List Fm}{tl:List Tm}{a b:Jt}{f:Fm}
def xp{g G:List Ty}{d e:List Fm}{s:Sc}{x:Fm}(H:SoT G g d e s)(i:x.sc g.length)(j:x.tq g)(fb:b.f.sc g.length)(l:DB ls lsR tl b)(m:b.D ls g (d++[x]))(n:b.OK ls g.length (d++[x])){R:Tm}(p:x.has=true->Ht G R x.cty){Mo:Fm}(c:FCv Mo (rz x (sS s) (bif x.has then R else .n0 .unit))):(bif x.has then im (ou R (un x (b.pv tl) s.skip)) (.leaf false 0 (rz x (sS s) R))else b.pv tl s.bare).W lsR G (e++[Mo])/\FCv (bif x.has then im (ou R (un x (b.pv tl) s.skip)) (.leaf false 0 (rz x (sS s) R))else b.pv tl s.bare).f (rz b.f (sS s) (bif x.has then(b.xt tl (s.skip.bind.hyp (.v 0))).put 0 R 0 else b.xt tl s.bare)):=by
 cases k:x.has
 ·simp only[k,gp]at c⊢;exact l _ _ _ _ _ (H.bare i j k c) m n
 simp only[k,gb]at c⊢;have r:=H.skip Mo;have⟨w1,w2⟩:=vY (lsR:=lsR) r (x:=x) (y:=b.f) i j fb (b:=b.pv tl) (T:=b.xt tl) λt h u v=>l _ _ t h u v m n
 unfold SF at w2;simp only[k,gb]at w2;have⟨w,o⟩:=YM w1 w2 (p k);have y:∀(τ:Nat->Tm)(T B:Tm),(Fm.bin .imp (rz x (XB τ) (.v 0)) (rz b.f (XB τ) T)).put 0 B 0=.bin .imp (rz x τ B) (rz b.f τ (T.put 0 B 0)):=λτ T B=>by
  show Fm.bin .imp ((rz x _ _).put 0 _ 0) ((rz b.f _ _).put 0 _ 0)=_;rw[XM,XM,vE]
 rw[y]at o;have z:(Jt.leaf false 0 (rz x (sS s) R)).W lsR G (e++[Mo]):=⟨a8,_,a8,c⟩;exact XQ w z o (.refl _)
def bf{σ τ:Nat->Tm}{k n:Nat}{c:Tm}{s:Sc}(d:∀i,τ (i+k)=(σ i).sh 0 (.ofNat k))(e:c.sub τ=c)(g:∀i,i<n->sS s i=τ i){x y:Fm}(hy:y.sc n)(h:FCv ((x.sh 1 (.ofNat k)).put 0 c 0) y)(T:Tm):FCv (rz y (sS s) T) (rz x (cs c λi=>(σ i).sh 0 (.ofNat k)) T):=by
 rw[cE y n _ τ T hy g];refine(VK h.symm τ T).trans ?_;rw[wY,RF,show(λi=>(cs c (λi=>Tm.v (i+k)) i).sub τ)=cs c λi=>(σ i).sh 0 (.ofNat k) by
  funext i
  cases i with|zero=>exact e|succ i=>exact d i]
 exact .refl _
def m9(K:K3)(s:Ty)(A F c:Tm)(k:Nat):(Tm.n3 K s A.u1 F.u1 (.v 0)).sub (cs c λi=>.v (i+k))=.n3 K s (A.sh 0 (.ofNat k)) (F.sh 0 (.ofNat k)) c:=by
 show Tm.n3 K s (A.u1.sub _) (F.u1.sub _) c=_;rw[vf,vf]
def ZT(t:Tm):t.sh 0 (.ofNat 2)=t.u1.u1:=(CI 1 1 t 0).symm
def p9{n:Nat}{c cs:List Bool}{s:Sc}(h:ScOK n c s)(d:ScOK (n+1) cs (sv s)):∀i,i<n+2->sS (sv (sv s)) i=aA (aA (sS s)) i:=λi c=>(YQ d i c).trans (qY (YQ h) i c)
end
section
variable{ls lsR:List Fm}{tl:List Tm}(L:qN ls lsR tl){a b:Jt}{f:Fm}
include L in
theorem r9{l:Bool}{x:Fm}{t:Tm}(Ha:DB ls lsR tl a)(Hb:DB ls lsR tl b):DB ls lsR tl (.ind l x t a b f):=by
 intro g N G P s H hD hO;have R:=hD;have S:=hO;obtain⟨_,⟨_,hx⟩,⟨_,U⟩,⟨V,w,e1,em⟩,_,⟨B,w2,p,W⟩,e3⟩:=hD;obtain⟨_,X,_,n,_,⟨ea,eb⟩,d⟩:=hO;obtain⟨h1,h2⟩:=Ha g N G P s H V n;have ew:=YH e1;have Y:=YH p;have ef:=YH e3;subst ew Y ef;have c1:=TM em;have c2:=TM W;have C:a.f.has=x.has:=XA ea;have o:b.f.has=x.has:=XA eb;have Z:=pC _ _ hx;have r:ip ls g.length N l x b:=by cases l<;>exact d
 have O:x.has=true->GD tl l x a b s.bind (.v 0)=.n3 (kk l) x.cty (a.xt tl s).u1 (JI tl l x b s).u1 (.v 0):=λk=>by
  rw[pp,ZM L.c H.S n (by rw[C];exact k),yf L H.S r k (by rw[o];exact k)]
 have D:(Jt.ind l x t a b (x.put 0 t 0)).xt tl s=.n3 (kk l) x.cty (a.xt tl s) (JI tl l x b s) (t.sub (sS s)):=by
  rw[<-show t.ps s.vs s.dep 0=t.sub (sS s)from ND _ _ _ _];cases l<;>rfl
 have hT:x.has=true->Ht G (.n3 (kk l) x.cty (a.xt tl s) (JI tl l x b s) (t.sub (sS s))) (x.put 0 t 0).cty:=λk=>by
  rw[<-D];exact RC L.T _ g g.length N G s rfl R S H.S H.T (by show(x.put 0 t 0).has=true;rw[OD,oG];exact k)
 have E:x.has=true->Ht (G++[lT l]) (GD tl l x a b s.bind (.v 0)) x.cty:=λk=>by
  have q:=hT k;rw[O k];cases l
  ·exact⟨rfl,IE _ q.2.1,IE _ q.2.2.1,kE G _⟩
  exact⟨rfl,IE _ q.2.1,IE _ q.2.2.1,kE G _⟩
 have H1:=H.sv (lT l);have hM:=ZQ H X.sc (bif x.has then GD tl l x a b s.bind (.v 0)else .n0 .unit);have hq:(rz x (sS (sv s)) (bif x.has then GD tl l x a b s.bind (.v 0)else .n0 .unit)).hq (G++[lT l]):=SC x _ _ _ _ (pH _ _ Z) H1.T.v λk=>by rw[k];exact E k
 have mp:∀u:Tm,FCv ((rz x (sS (sv s)) (bif x.has then GD tl l x a b s.bind (.v 0)else .n0 .unit)).put 0 u 0) (rz x (cs u (sS s)) (.n3 (kk l) x.cty (a.xt tl s) (JI tl l x b s) u)):=λu=>by
  rw[hM,WT];refine aD λk=>?_
  rw[k,gb,O k];show Cv (.n3 (kk l) _ ((a.xt tl s).u1.put 0 u 0) ((JI tl l x b s).u1.put 0 u 0) ((Tm.v 0).put 0 u 0)) _;rw[SO,SO,vE];exact .refl _
 have hb0:Cv (.n3 (kk l) x.cty (a.xt tl s) (JI tl l x b s) (l0 l)) (a.xt tl s):=by
  cases l
  ·exact .of (.re0 _ _ (.refl _))
  exact .of (.fo0 _ _ (.refl _))
 have base:FCv ((rz x (sS (sv s)) (bif x.has then GD tl l x a b s.bind (.v 0)else .n0 .unit)).put 0 (l0 l) 0) (a.pv tl s).f:=by
  refine((mp _).trans (vF x (λ_=>.refl _) hb0)).trans (.trans ?_ h2.symm);have q:=VK c1 (sS s) (a.xt tl s);rw[jN,show(l0 l).sub (sS s)=l0 l by cases l<;>rfl]at q;exact q
 have e:∀Q:Jt,Q.W lsR (G++lG l) (iK P (rz x (sS (sv s)) (bif x.has then GD tl l x a b s.bind (.v 0)else .n0 .unit)) l)->FCv (((rz x (sS (sv s)) (bif x.has then GD tl l x a b s.bind (.v 0)else .n0 .unit)).sh 1 (.ofNat (lN l))).put 0 (l1 l) 0) Q.f->(Jt.ind l (rz x (sS (sv s)) (bif x.has then GD tl l x a b s.bind (.v 0)else .n0 .unit)) (t.ps s.vs s.dep 0) (a.pv tl s) Q (rz (x.put 0 t 0) (sS s) ((Jt.ind l x t a b (x.put 0 t 0)).xt tl s))).W lsR G P:=λQ z A=>by
  refine⟨hq,RK H.T U,⟨h1,base⟩,⟨z,A⟩,?_⟩;rw[D,jN,show t.ps s.vs s.dep 0=t.sub (sS s)from ND _ _ _ _];exact(mp _).symm
 have j:∀(k:Nat)(c T:Tm),(x.has=true->Cv (.n3 (kk l) x.cty ((a.xt tl s).sh 0 (.ofNat k)) ((JI tl l x b s).sh 0 (.ofNat k)) c) T)->FCv ((rz x (sS (sv s)) (bif x.has then GD tl l x a b s.bind (.v 0)else .n0 .unit)).sub (cs c λi=>.v (i+k))) (rz x (cs c λi=>(sS s i).sh 0 (.ofNat k)) T):=λk c T hc=>by
  rw[hM,u9];refine aD λh=>?_
  rw[h,gb,O h,m9];exact hc h
 have fb:=(Jt.FKj (show b.OK ls (g.length+lN l) (iK N x l) by cases l<;>exact d)).sc;refine⟨?_,.refl _⟩;cases l
 ·obtain⟨z,A⟩:=xp (lsR:=lsR) (tl:=tl) (b:=b) H1 (x:=x) (by rw[rC];exact X.sc) Z (by rw[rC];exact fb) Hb B (by rw[rC];exact d) E (.refl _);refine e _ z (.trans ?_ A.symm);refine .trans ?_ (bf (σ:=sS s) (τ:=aA (sS s)) (k:=1) (n:=g.length+1) (c:=.n1 .succ (.v 0)) (λi=>rfl) rfl (YQ H.S) fb c2 _).symm;rw[lN,wY];refine j 1 (.n1 .succ (.v 0)) _ λk=>?_
  rw[k,gb,G8 L.c H.S d k (by rw[o];exact k)];exact d9 _ _ _ _ (O k)
 have I:=H.sv .nat;have H2:=I.sv .list;rw[kY,kY]at H2;have m:(x.sh 1 (.ofNat 1)).has=x.has:=XA (nE _ x 1);have ec':(x.sh 1 (.ofNat 1)).cty=x.cty:=vD (nE _ x 1);have p:(g++[.nat]++[.list]:List Ty)=g++lG true:=by rw[gy];rfl
 have v:(G++[.nat]++[.list]:List Ty)=G++lG true:=by rw[gy];rfl
 have el:(g++lG true).length=g.length+2:=by simp[lG]
 have J:=p9 H.S (by have:=I.S;rw[rC]at this;exact this);have K:(x.sh 1 (.ofNat 1)).sc (g.length+2):=xJ 1 x 1 _ X.sc;have qx':(x.sh 1 (.ofNat 1)).tq (g++lG true):=by
  have h:=(VM g .nat).up .list;rw[RT]at h;rw[<-p];exact SQ h Z
 have y:x.has=true->GD tl true x a b s.bind.bind (.v 0)=.n3 .fo x.cty (a.xt tl s).u1.u1 (JI tl true x b s).u1.u1 (.v 0):=λk=>by
  have ka:a.f.has=true:=by rw[C];exact k
  have kb:b.f.has=true:=by rw[o];exact k
  rw[pp,ZM L.c H.S.bind n ka,ZM L.c H.S n ka,yf L H.S.bind r k kb,yf L H.S r k kb];rfl
 have M:(x.sh 1 (.ofNat 1)).has=true->Ht (G++lG true) (GD tl true x a b s.bind.bind (.v 0)) (x.sh 1 (.ofNat 1)).cty:=λk=>by
  rw[m]at k;have q:=hT k;rw[y k,ec',<-v];exact⟨rfl,IE _ (IE _ q.2.1),IE _ (IE _ q.2.2.1),kE _ _⟩
 have es:(x.sh 1 (.ofNat 2)).put 0 (.v 0) 0=x.sh 1 (.ofNat 1):=by
  rw[wY,qF,nH];congr 1;funext i
  cases i with|zero=>rfl|succ i=>show Tm.v (i+2)=.v (QC 1 1 (i+1));rw[show QC 1 1 (i+1)=i+2 by unfold QC;rw[gm a6]]
 have hm:∀F:Fm,F.sh 1 (.ofNat 1)=F.sub (cs (.v 0) λi=>.v (i+2)):=λF=>by
  rw[qF,nH];congr 1;funext i
  cases i with|zero=>rfl|succ i=>show Tm.v (QC 1 1 (i+1))=.v (i+2);rw[show QC 1 1 (i+1)=i+2 by unfold QC;rw[gm a6]]
 have hτ:∀i,aA (aA (sS s)) (i+2)=(sS s i).sh 0 (.ofNat 2):=λi=>(ZT _).symm
 obtain⟨z,A⟩:=xp (lsR:=lsR) (tl:=tl) (b:=b) H2 (x:=x.sh 1 (.ofNat 1)) (by rw[p,el];exact K) (by rw[p];exact qx') (by rw[p,el];exact fb) Hb (by rw[p];exact B) (by rw[p,el];exact d) (by rw[v];exact M) (Mo:=(rz x (sS (sv s)) (bif x.has then GD tl true x a b s.bind (.v 0)else .n0 .unit)).sh 1 (.ofNat 1)) (by
  refine .trans ?_ (bf (σ:=sS s) (τ:=aA (aA (sS s))) (k:=2) (n:=g.length+2) (c:=.v 0) hτ rfl J K (by rw[es];exact .refl _) _).symm;rw[hm];refine j 2 (.v 0) _ λk=>?_
  rw[m,k,gb,y k,ZT,ZT];exact .refl _)
 rw[m,v]at z;rw[m]at A;refine e _ z (.trans ?_ A.symm);refine .trans ?_ (bf (σ:=sS s) (τ:=aA (aA (sS s))) (k:=2) (n:=g.length+2) (c:=.n2 .cons (.v 1) (.v 0)) hτ rfl J fb c2 _).symm;rw[lN,wY];refine j 2 (.n2 .cons (.v 1) (.v 0)) _ λk=>?_
 rw[k,gb,J8 L.c H.S d (by rw[m];exact k) (by rw[o];exact k),ZT,ZT];exact l9 _ _ _ _ (y k)
end
open Go.Lg
def yE{d c:List Fm}{tl:List Tm}(L:qN d c tl):∀j:Jt,DB d c tl j|.leaf false _ _=>L8|.leaf true _ _=>M8 L|.refl _=>N8|.p1 .andL a _=>O8 (yE L a)|.p1 .andR a _=>P8 (yE L a)|.p1 .choice a _=>Z8 (yE L a)|.p2 .andI a b _=>Q8 (yE L a) (yE L b)|.p2 .impE a b _=>R8 L (yE L a) (yE L b)|.p2 .exE a b _=>v9 L (yE L a) (yE L b)|.p2 .exUE a b _=>k9 L (yE L a) (yE L b)|.impI _ a=>S8 (yE L a)|.all _ _ a=>T8 L (yE L a)|.ins _ _ a _=>U8 (yE L a)|.ex _ _ _ a=>V8 L (yE L a)|.ind _ _ _ a b _=>r9 L (yE L a) (yE L b)|.subst _ a b _=>W8 L (yE L a) (yE L b)
def rH:∀f:Fm,f.cnt<=bA->A 174 [f.p] (num f.cnt)
 |.eq t u,h=>by
  have h:1+t.cnt+u.cnt<=bA:=h;exact f4 [17,18,17,18] (rD t a6) (lA (a:=1) (b:=t.cnt)) (rD u a6) (lA (a:=1+t.cnt) (b:=u.cnt))
 |.bin k f g,h=>by
  have h:1+f.cnt+g.cnt<=bA:=h;have a:=rH f a6;have b:=lA (a:=1) (b:=f.cnt);have c:=rH g a6;have d:=lA (a:=1+f.cnt) (b:=g.cnt);cases k<;>exact f4 [29,30,29,30] a b c d
 |.q k s f,h=>by
  have h:1+f.cnt<=bA:=h;have a:=rH f a6;have b:=lA (a:=1) (b:=f.cnt);cases k<;>exact f2 [29,30] a b
def LJ:∀t:Tm,t.mx<=268435456->A 117 [t.p] (.bool false)
 |.v i,h=>f1 [7] (show dA (.ofNat 268435456) (.ofNat i)=false from iA h)|.lam s b,h=>f1 [16] (LJ b h)|.n0 k,h=>by cases k<;>exact f0 []
 |.n1 k a,h=>by cases k<;>exact f1 [16] (LJ a h)
 |.n2 k a b,h=>by
  have h:max a.mx b.mx<=268435456:=h;have c:=LJ a a6;have e:=LJ b a6;cases k<;>exact f2 [16,16] c e
 |.n3 k s a b d,h=>by
  have h:max a.mx (max b.mx d.mx)<=268435456:=h;have c:=LJ a a6;have e:=LJ b a6;have f:=LJ d a6;cases k<;>exact f3 [16,16,16] c e f
abbrev Ap:List (Nat×Ob):=[(1,bx [.bool false])]
def yY:∀(f:Fm)(d:Nat),d+f.cnt<=qA->f.mx<=268435456->O 158 [.pv f.p,.pv (num d),.fn 159 [.loc 1 0]] Ap (.pv f.p) Ap
 |.eq t u,d,a,h=>by
  have h:max t.mx u.mx<=268435456:=h;exact o2 2 [(37,.n [(9,.F)]),(37,.n [(9,.F)])] (LJ t a6) (LJ u a6)
 |.bin k f g,d,a,h=>by
  have a:d+(1+f.cnt+g.cnt)<=qA:=a;have h:max f.mx g.mx<=268435456:=h;have b:=yY f d a6 a6;have c:=yY g d a6 a6;cases k<;>exact o2 2 [(54,.o [1] [] (.pv f.p)),(54,.o [1] [] (.pv g.p))] b c
 |.q k s f,d,a,h=>by
  have:=zA;have:=yA;have a:d+(1+f.cnt)<=qA:=a;have g:=lA (a:=d) (b:=1);have b:=yY f (d+1) a6 h;cases k<;>exact o2 2 [24,(54,.o [1] [] (.pv f.p))] g b
def df(f:Fm)(h:f.cnt<=qA:=by omega)(a:f.mx<=268435456:=by omega):A 90 [f.p] (.bool false):=
 f1 [(6,.o [1] [] (.pv f.p))] (yY f 0 a6 a)
abbrev Bp(z:Nat):List (Nat×Ob):=[(1,bx [num z])]
def uY(z:Nat)(b:z<=qA):∀(f:Fm)(d:Nat),d+f.cnt<=qA->f.mx<=qA*qA->O 158 [.pv f.p,.pv (num d),.fn 330 [.loc 1 0]] (Bp z) (.pv (f.sh d (.ofNat z)).p) (Bp z)
 |.eq t u,d,a,h=>by
  have a:d+(1+t.cnt+u.cnt)<=qA:=a;have h:max t.mx u.mx<=qA*qA:=h;exact o2 2 [(37,.n [(9,.r (t.sh d (.ofNat z)).p)]),(37,.n [(9,.r (u.sh d (.ofNat z)).p)])] (IM t d z) (IM u d z)
 |.bin k f g,d,a,h=>by
  have a:d+(1+f.cnt+g.cnt)<=qA:=a;have h:max f.mx g.mx<=qA*qA:=h;have c:=uY z b f d a6 a6;have e:=uY z b g d a6 a6;cases k<;>exact o2 2 [(54,.o [1] [] (.pv (f.sh d (.ofNat z)).p)),(54,.o [1] [] (.pv (g.sh d (.ofNat z)).p))] c e
 |.q k s f,d,a,h=>by
  have:=zA;have:=yA;have a:d+(1+f.cnt)<=qA:=a;have g:=lA (a:=d) (b:=1);have c:=uY z b f (d+1) a6 h;cases k<;>exact o2 2 [24,(54,.o [1] [] (.pv (f.sh (d+1) (.ofNat z)).p))] g c
def Cp(f:Fm)(z:Nat)(a:z<=qA)(h:f.cnt<=qA)(b:f.mx<=qA*qA):A 258 [f.p,num z] (f.sh 0 (.ofNat z)).p:=
 f1 [(7,.o [1] [] (.pv (f.sh 0 (.ofNat z)).p))] (uY z a f 0 a6 b)
def YK(c:Nat)(S:Tm)(l:S.mx<=qA*qA)(f:S.cnt<=qA):∀(t:Tm)(d:Nat),c+d+t.cnt<=qA->t.mx<=qA*qA->A 334 [t.p,num c,num d,S.p] (t.put c S d).p
 |.v i,d,j,h=>by
  have n:=zA;have u:=yA;have h:i<=qA*qA:=h;rw[n]at h;have g:=lA (a:=c) (b:=d);by_cases m:i=c+d
  ·have e:(Tm.v i).put c S d=S.sh 0 (.ofNat (c+d)):=by simp only[Tm.put,gm m]
   rw[e];exact f4 [20,21,25,26] g (show sB (.ofNat i) (.ofNat (c+d))=true by rw[m];exact eI _) g (IM S 0 (c+d) a6 l)
  by_cases p:c+d<i
  ·have e:(Tm.v i).put c S d=.v (i-1):=by simp only[Tm.put,e9 m,gm p]
   rw[e];exact f5 [20,21,32,33,36] g (GF m) g (KA p) (gC (a:=i) (b:=1) (z:=.ofNat (i-1)) a6 a6 c5)
  have e:(Tm.v i).put c S d=.v i:=by simp only[Tm.put,e9 m,e9 p]
  rw[e];exact f4 [20,21,32,33] g (GF m) g (iA (show i<=c+d by omega))
 |.lam s b,d,j,h=>by
  have n:=zA;have u:=yA;have j:c+d+(1+b.cnt)<=qA:=j;exact f2 [43,59] (lA (a:=d) (b:=1)) (YK c S l f b (d+1) a6 h)
 |.n0 k,d,_,_=>by cases k<;>exact f0 []
 |.n1 k a,d,j,h=>by
  have j:c+d+(1+a.cnt)<=qA:=j;have o:=YK c S l f a d a6 h;cases k<;>exact f1 [59] o
 |.n2 k a b,d,j,h=>by
  have j:c+d+(1+a.cnt+b.cnt)<=qA:=j;have h:max a.mx b.mx<=qA*qA:=h;have o:=YK c S l f a d a6 a6;have r:=YK c S l f b d a6 a6;cases k<;>exact f2 [59,59] o r
 |.n3 k s a b e,d,j,h=>by
  have j:c+d+(1+a.cnt+b.cnt+e.cnt)<=qA:=j;have h:max a.mx (max b.mx e.mx)<=qA*qA:=h;have o:=YK c S l f a d a6 a6;have r:=YK c S l f b d a6 a6;have v:=YK c S l f e d a6 a6;cases k<;>exact f3 [59,59,59] o r v
abbrev Dp(S:Tm):List (Nat×Ob):=[(1,bx S.c)]
def bY(S:Tm)(c:S.mx<=qA*qA)(a:S.cnt<=qA):∀(f:Fm)(d:Nat),d+f.cnt<=qA->f.mx<=qA*qA->O 158 [.pv f.p,.pv (num d),.fn 333 [.loc 1 0]] (Dp S) (.pv (f.put 0 S d).p) (Dp S)
 |.eq t u,d,b,h=>by
  have b:d+(1+t.cnt+u.cnt)<=qA:=b;have h:max t.mx u.mx<=qA*qA:=h;exact o2 2 [(37,.n [(9,.r (t.put 0 S d).p)]),(37,.n [(9,.r (u.put 0 S d).p)])] (YK 0 S c a t d a6 a6) (YK 0 S c a u d a6 a6)
 |.bin k f g,d,b,h=>by
  have b:d+(1+f.cnt+g.cnt)<=qA:=b;have h:max f.mx g.mx<=qA*qA:=h;have e:=bY S c a f d a6 a6;have i:=bY S c a g d a6 a6;cases k<;>exact o2 2 [(54,.o [1] [] (.pv (f.put 0 S d).p)),(54,.o [1] [] (.pv (g.put 0 S d).p))] e i
 |.q k s f,d,b,h=>by
  have:=zA;have:=yA;have b:d+(1+f.cnt)<=qA:=b;have g:=lA (a:=d) (b:=1);have e:=bY S c a f (d+1) a6 h;cases k<;>exact o2 2 [24,(54,.o [1] [] (.pv (f.put 0 S (d+1)).p))] g e
def s9(f:Fm)(S:Tm)(h:f.cnt<=qA)(b:f.mx<=qA*qA)(c:S.mx<=qA*qA)(a:S.cnt<=qA:=by omega):A 261 [f.p,S.p] (f.put 0 S 0).p:=
 f1 [(7,.o [1] [] (.pv (f.put 0 S 0).p))] (bY S c a f 0 a6 b)
def ZK:∀(t:Tm)(c:Nat),c+t.cnt<=qA->A 332 [t.p,num c] (num (t.occ c))
 |.v i,c,_=>by
  by_cases h:i=c
  ·have e:(Tm.v i).occ c=1:=by simp[Tm.occ,h]
   rw[e];exact f1 [15] (show sB (.ofNat i) (.ofNat c)=true by rw[h];exact eI c)
  have e:(Tm.v i).occ c=0:=by simp[Tm.occ,h]
  rw[e];exact f1 [15] (GF h)
 |.lam s b,c,h=>by
  have f:=zA;have l:=yA;have h:c+(1+b.cnt)<=qA:=h;have:=IB b (c+1);have g:=ZK b (c+1) a6;have j:=uH (n:=b.occ (c+1));exact f3 [21,32,33] (lA (a:=c) (b:=1)) g j
 |.n0 k,c,_=>by cases k<;>exact f0 []
 |.n1 k a,c,h=>by
  have f:=zA;have l:=yA;have h:c+(1+a.cnt)<=qA:=h;have:=IB a c;have g:=ZK a c a6;have j:=uH (n:=a.occ c);cases k<;>exact f2 [32,33] g j
 |.n2 k a b,c,h=>by
  have f:=zA;have l:=yA;have h:c+(1+a.cnt+b.cnt)<=qA:=h;have:=IB a c;have:=IB b c;have g:=ZK a c a6;have j:=uH (n:=a.occ c);have m:=ZK b c a6;have n:=lA (a:=a.occ c) (b:=b.occ c);cases k<;>exact f4 [32,33,32,33] g j m n
 |.n3 k s a b d,c,h=>by
  have f:=zA;have l:=yA;have h:c+(1+a.cnt+b.cnt+d.cnt)<=qA:=h;have:=IB a c;have:=IB b c;have:=IB d c;have g:=ZK a c a6;have j:=uH (n:=a.occ c);have m:=ZK b c a6;have n:=lA (a:=a.occ c) (b:=b.occ c);have o:=ZK d c a6;have p:=lA (a:=a.occ c+b.occ c) (b:=d.occ c);cases k<;>exact f6 [32,33,32,33,32,33] g j m n o p
abbrev Ep(n m:Nat):List (Nat×Ob):=[(3,bx [num m]),(2,bx [num n])]
def lf{o k m:Nat}(h:o<=k)(a:m<=4096):m*o<=4096*k:=aaV a h
def dY(m:Nat)(c:m<=4096):∀(f:Fm)(n d:Nat),d+f.cnt<=qA->n+4096*f.cnt<=bA->O 158 [.pv f.p,.pv (num d),.fn 331 [.loc 2 0,.loc 3 0]] (Ep n m) (.pv f.p) (Ep (n+m*f.occ d) m)
 |.eq t u,n,d,a,b=>by
  have a:d+(1+t.cnt+u.cnt)<=qA:=a;have b:n+4096*(1+t.cnt+u.cnt)<=bA:=b;have j:=lf (IB t d) c;have:=lf (IB u d) c;have e:n+m*(Fm.eq t u).occ d=n+m*t.occ d+m*u.occ d:=by simp[Fm.occ,i4,aaD]
  rw[e];have h:=ZK t d a6;have i:=AO (a:=m) (b:=t.occ d) (c:=m*t.occ d) a6 rfl;have l:=lA (a:=n) (b:=m*t.occ d);have o:=ZK u d a6;have p:=AO (a:=m) (b:=u.occ d) (c:=m*u.occ d) a6 rfl;have r:=lA (a:=n+m*t.occ d) (b:=m*u.occ d);exact o6 4 [(37,.n [(11,.N (t.occ d)),(12,.z (m*t.occ d)),(13,.z (n+m*t.occ d))]),(37,.n [(11,.N (u.occ d)),(12,.z (m*u.occ d)),(13,.z (n+m*t.occ d+m*u.occ d))])] h i l o p r
 |.bin k f g,n,d,a,b=>by
  have a:d+(1+f.cnt+g.cnt)<=qA:=a;have b:n+4096*(1+f.cnt+g.cnt)<=bA:=b;have j:=lf (MH f d) c;have e:n+m*(Fm.bin k f g).occ d=n+m*f.occ d+m*g.occ d:=by simp[Fm.occ,i4,aaD]
  rw[e];have h:=dY m c f n d a6 a6;have i:=dY m c g (n+m*f.occ d) d a6 a6;cases k<;>exact o2 4 [(54,.o [3] [(2,bx [num (n+m*f.occ d)])] (.pv f.p)),(54,.o [3] [(2,bx [num (n+m*f.occ d+m*g.occ d)])] (.pv g.p))] h i
 |.q k s f,n,d,a,b=>by
  have:=zA;have:=yA;have a:d+(1+f.cnt)<=qA:=a;have b:n+4096*(1+f.cnt)<=bA:=b;have g:=lA (a:=d) (b:=1);have h:=dY m c f n (d+1) a6 a6;cases k<;>exact o2 4 [24,(54,.o [3] [(2,bx [num (n+m*f.occ (d+1))])] (.pv f.p))] g h
def c9(f:Fm)(S:Tm)(h:f.cnt<=4096)(a:1<=S.cnt)(a:S.cnt<=4096):A 259 [f.p,S.p] (num (f.cnt+(S.cnt-1)*f.occ 0)):=by
 have:=zA;have:=yA;have a:=gC (a:=S.cnt) (b:=1) (z:=.ofNat (S.cnt-1)) a6 a6 c5;exact f4 [8,10,11,(14,.o [3] [(2,bx [num (f.cnt+(S.cnt-1)*f.occ 0)])] (.pv f.p))] (rH f a6) (rD S a6) a (dY (S.cnt-1) a6 f f.cnt 0 a6 a6)
open Go.Lg
def Fm.ps(e:List (Tm×Nat))(d:Nat):Fm->Nat->Fm|.eq a b,c=>.eq (a.ps e d c) (b.ps e d c)|.bin k f g,c=>.bin k (f.ps e d c) (g.ps e d c)|.q k s f,c=>.q k s (f.ps e d (c+1))
def i9(a:List (Tm×Nat))(d b:Nat):(λi=>(Tm.v i).ps a d (b+1))=aA λi=>(Tm.v i).ps a d b:=by
 funext i
 cases i with
 |zero=>rfl|succ i=>
  simp only[Tm.ps,aA,Nat.add_lt_add_iff_right,Nat.add_sub_add_right];split
  ·rfl
  split
  ·rw[PQ];rfl
  rfl
def fY(a:List (Tm×Nat))(d:Nat):∀(f:Fm)(b:Nat),f.ps a d b=f.sub λi=>(Tm.v i).ps a d b|.eq x y,b=>by simp only[Fm.ps,Fm.sub,<-ND]|.bin _ f g,b=>by simp only[Fm.ps,Fm.sub,fY a d f,fY a d g]|.q _ _ f,b=>by simp only[Fm.ps,Fm.sub,fY a d f,i9]
def FR.Gd(d:Nat)(x:Fm):FR->Prop|.er n=>n=3|.ok f=>FK d f/\f=x
section
variable{s:Sc}(hv:DI s.dep s.vs)(hd:s.dep<=nA)(hl:s.vs.length<=nA)
include hv hd hl
theorem Fp(t:Tm)(b:Nat)(f:t.cnt<=4096)(d:t.sc (s.vs.length+b))(g:b<=8192):A 167 [s.p,t.p,num b] (XR.fit (t.ps s.vs s.dep b)).p:=by
 have i:=zA;have e:=yA;have a:=NK s hv hd hl t b d a6;have j:=KK hv t b;have c:=rD (t.ps s.vs s.dep b) a6;unfold XR.fit;split
 ·rename_i h;exact f3 [12,14,15] a c (iA h)
 rename_i h;exact f3 [12,14,15] a c (KA (a:=4096) (i3 h))
theorem gY:∀(f:Fm)(b:Nat),f.cnt<=4096->f.shp=true->f.sc (s.vs.length+b)->b+f.cnt<=8192->∃r:FR,A 237 [s.p,f.p,num b] r.p/\r.Gd (s.dep+b) (f.ps s.vs s.dep b)
 |.eq t u,b,h,m,d,i=>by
  have o:=yA;have h:1+t.cnt+u.cnt<=4096:=h;have i:b+(1+t.cnt+u.cnt)<=8192:=i;have⟨p,v⟩:=JA m;have a:=Fp hv hd hl t b a6 d.1 a6;have e:=Fp hv hd hl u b a6 d.2 a6;by_cases E:(t.ps s.vs s.dep b).cnt<=4096
  ·rw[XR.fit,gm E]at a;by_cases F:(u.ps s.vs s.dep b).cnt<=4096
   ·rw[XR.fit,gm F]at e;have j:=rH (.eq (t.ps s.vs s.dep b) (u.ps s.vs s.dep b)) (by show 1+_+_<=_;omega);by_cases c:(Fm.eq (t.ps s.vs s.dep b) (u.ps s.vs s.dep b)).cnt<=4096
    ·exact⟨.ok _,f5 [40,40,(300017,.f 6 [(t.ps s.vs s.dep b).c,(u.ps s.vs s.dep b).c]),80,81] a e (rfl:vA [(t.ps s.vs s.dep b).c,(u.ps s.vs s.dep b).c]=vA [(t.ps s.vs s.dep b).c,(u.ps s.vs s.dep b).c]) j (iA c),⟨c,by show(_&&_)=true;rw[EI hv t b p,EI hv u b v];rfl,FI hv t b d.1,FI hv u b d.2⟩,rfl⟩
    exact⟨.er 3,f5 [40,40,(300017,.f 6 [(t.ps s.vs s.dep b).c,(u.ps s.vs s.dep b).c]),80,81] a e (rfl:vA [(t.ps s.vs s.dep b).c,(u.ps s.vs s.dep b).c]=vA [(t.ps s.vs s.dep b).c,(u.ps s.vs s.dep b).c]) j (KA (a:=4096) (i3 c)),rfl⟩
   rw[XR.fit,e9 F]at e;exact⟨.er 3,f2 [40,40] a e,rfl⟩
  rw[XR.fit,e9 E]at a;exact⟨.er 3,f1 [40] a,rfl⟩
 |.bin k f g,b,h,m,d,i=>by
  have o:=yA;have h:1+f.cnt+g.cnt<=4096:=h;have i:b+(1+f.cnt+g.cnt)<=8192:=i;have⟨p,v⟩:=JA m;have⟨z,a,w⟩:=gY f b a6 p d.1 a6;have⟨H,e,G⟩:=gY g b a6 v d.2 a6
  cases z with
  |er n=>obtain rfl:n=3:=w;exact⟨.er 3,by cases k<;>exact f1 [65] a,rfl⟩|ok x=>
   have⟨l,B⟩:=w
   cases H with
   |er n=>obtain rfl:n=3:=G;exact⟨.er 3,by cases k<;>exact f2 [65,65] a e,rfl⟩|ok y=>
    have⟨C,I⟩:=G;have J:=l.cnt;have:=C.cnt;have j:=rH (.bin k x y) (by show 1+_+_<=_;omega);by_cases c:(Fm.bin k x y).cnt<=4096
    ·exact⟨.ok _,by cases k<;>exact f5 [(65,.r (FR.ok x).p),(65,.r (FR.ok y).p),(300023,.ok),(300023,.f 6 [x.c,y.c]),(80,.N (1+x.cnt+y.cnt)),(81,.H)] a e (rfl:vA [x.c,y.c]=vA [x.c,y.c]) j (iA c),⟨c,by show(_&&_)=true;rw[l.shp,C.shp];rfl,l.sc,C.sc⟩,by rw[B,I];rfl⟩
    exact⟨.er 3,by cases k<;>exact f5 [(65,.r (FR.ok x).p),(65,.r (FR.ok y).p),(300023,.ok),(300023,.f 6 [x.c,y.c]),(80,.N (1+x.cnt+y.cnt)),(81,.G)] a e (rfl:vA [x.c,y.c]=vA [x.c,y.c]) j (KA (a:=4096) (i3 c)),rfl⟩
 |.q k u f,b,h,m,d,i=>by
  have o:=yA;have h:1+f.cnt<=4096:=h;have i:b+(1+f.cnt)<=8192:=i;have⟨p,v⟩:=JA m;have D:=lA (a:=b) (b:=1);have⟨z,a,w⟩:=gY f (b+1) a6 v d a6
  cases z with
  |er n=>obtain rfl:n=3:=w;exact⟨.er 3,by cases k<;>exact f2 [28,65] D a,rfl⟩|ok x=>
   have⟨l,B⟩:=w;have J:=l.cnt;have j:=rH (.q k u x) (by show 1+_<=_;omega);by_cases c:(Fm.q k u x).cnt<=4096
   ·exact⟨.ok _,by cases k<;>exact f5 [28,65,(300023,.f 6 [x.c]),80,81] D a (rfl:vA [x.c]=vA [x.c]) j (iA c),⟨c,by show(_&&_)=true;rw[p,l.shp];rfl,l.sc⟩,by rw[B];rfl⟩
   exact⟨.er 3,by cases k<;>exact f5 [28,65,(300023,.f 6 [x.c]),80,81] D a (rfl:vA [x.c]=vA [x.c]) j (KA (a:=4096) (i3 c)),rfl⟩
theorem Gp{f:Fm}(a:FK s.vs.length f):∃r:FR,A 156 [s.p,f.p] r.p/\r.Gd s.dep (f.sub (sS s)):=by
 have⟨r,g,q⟩:=gY hv hd hl f 0 a.cnt a.shp a.sc (by have:=a.cnt;omega);rw[fY]at q;exact⟨r,f1 [8] g,q⟩
end
def Fm.ne:Fm->Nat
 |.eq _ _=>0|.bin _ f g=>f.ne+g.ne|.q k _ f=>match k with|.ex=>1+f.ne|_=>f.ne
def Fm.gx:Fm->Prop|.eq _ _=>True|.bin _ f g=>f.gx/\g.gx|.q k _ f=>f.gx/\(k=.ex->f.occ 0=0\/f.ne<=1)
def Fm.fn:Fm->Nat|.eq _ _=>1|.bin _ f g=>1+f.fn+g.fn|.q _ _ f=>1+f.fn
def Ip:∀f:Fm,f.fn<=f.cnt
 :=by intro x;induction x<;>grind[Fm.fn,Fm.cnt]
def hY:∀f:Fm,f.ne<=f.cnt
 :=by intro x;induction x<;>simp_all[Fm.ne,Fm.cnt]<;>grind
def zR:∀(f:Fm)(σ:Nat->Tm),(f.sub σ).ne=f.ne|.eq _ _,_=>rfl|.bin _ f g,σ=>by simp[Fm.sub,Fm.ne,zR]|.q k _ f,σ=>by cases k<;>simp only[Fm.sub,Fm.ne,zR f]
def jR:∀(f:Fm)(σ:Nat->Tm),(f.sub σ).fn=f.fn|.eq _ _,_=>rfl|.bin _ f g,σ=>by simp[Fm.sub,Fm.fn,jR]|.q _ _ f,σ=>by simp[Fm.sub,Fm.fn,jR]
def Jp{σ:Nat->Tm}{c:Nat}(h:∀i,(σ i).occ c=if i=c then 1 else 0):∀i,(aA σ i).occ (c+1)=if i=c+1 then 1 else 0
 :=by intro x;induction x<;>grind[aA,Tm.occ,OC,PM]
def wN:∀(t:Tm)(σ:Nat->Tm)(c:Nat),(∀i,(σ i).occ c=if i=c then 1 else 0)->(t.sub σ).occ c=t.occ c|.v i,σ,c,h=>by grind[Tm.sub,Tm.occ]|.lam s b,σ,c,h=>by exact wN b _ _ (Jp h)|.n0 _,_,_,_=>rfl|.n1 _ a,σ,c,h=>by simp only[Tm.sub,Tm.occ,wN a σ c h]|.n2 _ a b,σ,c,h=>by simp only[Tm.sub,Tm.occ,wN a σ c h,wN b σ c h]|.n3 _ _ a b d,σ,c,h=>by simp only[Tm.sub,Tm.occ,wN a σ c h,wN b σ c h,wN d σ c h]
def A9:∀(f:Fm)(σ:Nat->Tm)(c:Nat),(∀i,(σ i).occ c=if i=c then 1 else 0)->(f.sub σ).occ c=f.occ c
 :=by intro x;induction x<;>simp_all[Fm.sub,Fm.occ,wN,Jp]
def B9(σ:Nat->Tm):∀i,(aA σ i).occ 0=if i=0 then 1 else 0
 :=by intro x;induction x<;>grind[aA,Tm.occ,OC,lp]
def MJ:∀(f:Fm)(σ:Nat->Tm),f.gx->(f.sub σ).gx|.eq _ _,_,_=>trivial|.bin _ f g,σ,h=>⟨MJ f σ h.1,MJ g σ h.2⟩|.q k _ f,σ,h=>⟨MJ f _ h.1,λe=>by rw[A9 f _ 0 (B9 σ),zR];exact h.2 e⟩
def ZH(f:Fm)(c k:Nat):f.sh c (.ofNat k)=f.sub λi=>.v (QC c k i):=by rw[qF,nH]
def FR.fit(f:Fm):FR:=if f.cnt<=4096 then .ok f else .er 3
def mf{n:Nat}{f x:Fm}(a:f.shp=true)(b:f.sc n)(c:f=x):(FR.fit f).Gd n x:=by
 unfold FR.fit;split
 ·rename_i h;exact⟨⟨h,a,b⟩,c⟩
 rfl
def FR.two(k:FB):FR->FR->FR|.ok x,.ok y=>.fit (.bin k x y)|.er n,_=>.er n|.ok _,.er n=>.er n
def FR.un(k:FQ)(s:Ty):FR->FR|.ok x=>.fit (.q k s x)|.er n=>.er n
def qU{n:Nat}{k:FB}{a b:FR}{x y:Fm}(c:a.Gd n x)(d:b.Gd n y):(FR.two k a b).Gd n (.bin k x y):=by
 cases a with
 |er _=>exact c|ok u=>cases b with|er _=>exact d|ok v=>exact mf (by show(_&&_)=true;rw[c.1.shp,d.1.shp];rfl) ⟨c.1.sc,d.1.sc⟩ (by rw[c.2,d.2])
def vR{n:Nat}{k:FQ}{s:Ty}{a:FR}{x:Fm}(c:s.size<=64)(b:a.Gd (n+1) x):(FR.un k s a).Gd n (.q k s x):=by
 cases a with|er _=>exact b|ok u=>exact mf (by show(_&&_)=true;rw[DJ c,b.1.shp];rfl) b.1.sc (by rw[b.2])
def lY:∀f:Fm,f.cnt<=qA->A 260 [f.p] (num f.ne)
 |.eq a b,_=>f0 []|.bin k f g,h=>by
  have e:=zA;have j:=yA;have h:1+f.cnt+g.cnt<=qA:=h;have:=hY f;have:=hY g;have c:=lY f a6;have d:=uH (n:=f.ne);have l:=lY g a6;have i:=lA (a:=f.ne) (b:=g.ne);cases k<;>exact f4 [20,21,20,21] c d l i
 |.q k s f,h=>by
  have e:=zA;have j:=yA;have h:1+f.cnt<=qA:=h;have:=hY f;have c:=lY f a6;have d:=uH (n:=f.ne);have i:=lA (a:=1) (b:=f.ne);cases k
  ·exact f2 [20,21] c d
  ·exact f2 [20,21] c i
  ·exact f2 [20,21] c d
  exact f2 [20,21] c d
def WO{n:Nat}{f:Fm}(h:FK n f)(a:n<=nA:=by omega):A 118 [f.p] (.bool f.has):=f1 [7] (h.a70 a)
def C9(k:FB){x y:Fm}(a:x.cnt<=4096)(hy:y.cnt<=4096):A 190 [num k.n,BX,uA [x,y]] (FR.fit (.bin k x y)).p:=by
 have b:=yA;have g:=rH (.bin k x y) (by show 1+_+_<=_;omega);unfold FR.fit;split
 ·rename_i h;cases k<;>exact f2 [14,15] g (iA h)
 rename_i h;cases k<;>exact f2 [14,15] g (KA (a:=4096) (i3 h))
def zU(k:FQ)(s:Ty){x:Fm}(a:x.cnt<=4096):A 190 [num k.n,s.p,uA [x]] (FR.fit (.q k s x)).p:=by
 have b:=yA;have g:=rH (.q k s x) (by show 1+_<=_;omega);unfold FR.fit;split
 ·rename_i h;cases k<;>exact f2 [14,15] g (iA h)
 rename_i h;cases k<;>exact f2 [14,15] g (KA (a:=4096) (i3 h))
def Mp{t:Tm}(h:t.cnt<=qA:=by omega)(a:t.mx<=qA*qA:=by omega):A 189 [t.p] t.ap.p:=f2 [4,5] (IM t 0 1 (by have:=zA;omega) a) (TA 0)
def mY(k:K1)(t:Tm):A 185 [num k.n,t.p] (Tm.n1 k t).p:=by cases k<;>exact f0 []
abbrev RZ(n:Nat)(f:Fm)(t:Tm)(x:Fm):Prop:=∃r:FR,A 119 [f.p,t.p] r.p/\r.Gd n x
def jU(k:FB){n:Nat}{x y u v:Fm}{a b:Tm}(m:RZ n x a u)(o:RZ n y b v):∃r:FR,A 186 [num k.n,x.p,a.p,y.p,b.p] r.p/\r.Gd n (.bin k u v):=by
 have⟨d,c,h⟩:=m;have⟨i,j,l⟩:=o;refine⟨.two k d i,?_,qU h l⟩
 cases d with
 |er e=>exact f1 [18] c|ok f=>cases i with|er e=>exact f2 [18,28] c j|ok g=>exact f3 [18,28,40] c j (C9 k h.1.cnt l.1.cnt)
open Go.Lg
def D9{n:Nat}{x y u v:Fm}{t:Tm}(h:FK n x)(hy:FK n y)(p:TK n t)(M:n+1<=nA)
  (s:x.has=false->RZ n x t u/\RZ n y t v) (C:x.has=true->RZ (n+1) (x.sh 0 (.ofNat 1)) (.v 0) u/\RZ (n+1) (y.sh 0 (.ofNat 1)) (bif y.has then t.ap else t.u1) v):
  ∃r:FR,A 187 [(Fm.bin .imp x y).p,t.p] r.p/\r.Gd n (bif x.has then .q .all x.cty (.bin .imp u v)else .bin .imp u v):=by
 have D:=zA;have:nA=100000:=rfl;have:200000<=qA*qA:=by rw[D];decide
 have:=p.mx a6;have:=p.cnt;have a:=WO h;have b:=WO hy;cases e:x.has<;>rw[e]at a
 ·have⟨r,g,q⟩:=jU .imp (s e).1 (s e).2;exact⟨r,f2 [14,26] a g,q⟩
 have⟨G,H⟩:=C e;have⟨c,d,l,I,J⟩:=h.a34
 cases c with
 |er m=>exact⟨.er m,f2 [14,34] a d,J m rfl⟩|ok w=>
  obtain rfl:=I w rfl e;have i:=IM t 0 1;have:=h.cnt;have:=hy.cnt;have j:=Cp x 1 a6 a6 (by have:=h.mx a6;omega);have k:=Cp y 1 a6 a6 (by have:=hy.mx a6;omega);have z:=Mp (t:=t);have⟨r,g,q⟩:=jU .imp G H;have l:x.cty.size<=64:=l
  cases r with
  |er m=>
   refine⟨.er m,?_,q⟩;cases o:y.has<;>rw[o]at b g
   ·exact f8 [14,34,42,47,55,56,61,63] a d i b j (TA 0) k g
   exact f9 [14,34,42,47,49,55,56,61,63] a d i b z j (TA 0) k g
  |ok f=>
   have B:=zU .all x.cty q.1.cnt;refine⟨.un .all x.cty (.ok f),?_,vR l q⟩;cases o:y.has<;>rw[o]at b g
   ·exact f9 [14,34,42,47,55,56,61,63,73] a d i b j (TA 0) k g B
   exact bJ [14,34,42,47,49,55,56,61,63,73] a d i b z j (TA 0) k g B
def E9{n:Nat}{s:Ty}{x X:Fm}{t:Tm}(m:FK (n+1) x)(y:TK n t)(z:n+1<=nA)
  (H:∀w u:Tm,(w=bif x.has then .n1 .fst t else t)->(u=bif x.has then .n1 .snd t else t)->w.cnt<=4096->(x.put 0 w 0).cnt<=4096+x.ne->RZ n (x.put 0 w 0) u X):
  ∃r:FR,A 191 [(Fm.q .ex s x).p,t.p] r.p/\r.Gd n X:=by
 have C:=zA;have:=yA;have:nA=100000:=rfl;have:200000<=qA*qA:=by rw[C];decide
 have:=y.mx a6;have:=y.cnt;have o:=m.cnt;have:=m.mx z;have:=hY x;have c:=WO m z;have I:(bif x.has then Tm.n1 .fst t else t).cnt<=4097/\(bif x.has then Tm.n1 .fst t else t).mx<=qA*qA/\1<=(bif x.has then Tm.n1 .fst t else t).cnt:=by
  have:=UE t;cases x.has
  ·grind
  exact⟨by show 1+t.cnt<=_;omega,by show t.mx<=_;omega,by show 1<=1+t.cnt;omega⟩
 have H:=H _ _ rfl rfl;have⟨w1,w2,w3⟩:=I;have p:=mY .fst t;have f:=mY .snd t;have b:=rD (bif x.has then Tm.n1 .fst t else t) a6;have l:=lY x a6;by_cases j:(bif x.has then Tm.n1 .fst t else t).cnt<=4096
 ·have d:=c9 x (bif x.has then Tm.n1 .fst t else t) o w3 j;have J:=aK 0 (bif x.has then Tm.n1 .fst t else t) x 0;have:=MH x 0;have:x.occ 0*((bif x.has then Tm.n1 .fst t else t).cnt-1)<=4096*4096:=aaV a6 a6;have:x.occ 0*(bif x.has then Tm.n1 .fst t else t).cnt=x.occ 0*((bif x.has then Tm.n1 .fst t else t).cnt-1)+x.occ 0:=by
   rw[<-abk];simp_all
  rw[Nat.mul_comm]at d;have i:=gC (a:=x.cnt+x.occ 0*((bif x.has then Tm.n1 .fst t else t).cnt-1)) (b:=x.ne) (z:=.ofNat (x.cnt+x.occ 0*((bif x.has then Tm.n1 .fst t else t).cnt-1)-x.ne)) a6 a6 c5;simp only[ir]at J;have v:=s9 x (bif x.has then Tm.n1 .fst t else t) a6 a6 w2;by_cases B:x.cnt+x.occ 0*((bif x.has then Tm.n1 .fst t else t).cnt-1)-x.ne<=4096
  ·have⟨r,g,q⟩:=H j a6;refine⟨r,?_,q⟩;have h:=iA B;have a:=iA j;generalize x.cnt+x.occ 0*((bif x.has then Tm.n1 .fst t else t).cnt-1)=G at d i h;generalize (bif x.has then Tm.n1 .fst t else t).cnt=k at b a;cases e:x.has<;>rw[e]at c b d v g
   ·exact f9 [16,22,23,27,29,30,31,36,38] c b a d l i h v g
   exact qM [16,18,20,22,23,27,29,30,31,36,38] c p f b a d l i h v g
  refine⟨.er 3,?_,rfl⟩;have h:=KA (a:=4096) (i3 B);have a:=iA j;generalize x.cnt+x.occ 0*((bif x.has then Tm.n1 .fst t else t).cnt-1)=G at d i h;generalize (bif x.has then Tm.n1 .fst t else t).cnt=k at b a;cases e:x.has<;>rw[e]at c b d
  ·exact f7 [16,22,23,27,29,30,31] c b a d l i h
  exact f9 [16,18,20,22,23,27,29,30,31] c p f b a d l i h
 refine⟨.er 3,?_,rfl⟩;have a:=KA (a:=4096) (i3 j);generalize (bif x.has then Tm.n1 .fst t else t).cnt=k at b a;cases e:x.has<;>rw[e]at c b
 ·exact f3 [16,22,23] c b a
 exact f5 [16,18,20,22,23] c p f b a
end Go.Proofs.YtbebdmlomjpamaaGreatDoor
