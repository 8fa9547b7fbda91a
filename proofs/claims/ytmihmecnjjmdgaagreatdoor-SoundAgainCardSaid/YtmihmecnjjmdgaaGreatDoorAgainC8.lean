/- Contracts of functions; no conditions. -/
import Derived.Test.YtmihmecnjjmdgaaGreatDoorAgainC7
import Derived.Test.YtmihmecnjjmdgaaGreatDoorAgainC4
import Derived.Test.YtmihmecnjjmdgaaGreatDoorAgainC3
set_option linter.all false
set_option maxHeartbeats 4000000
namespace Go.Proofs.YtmihmecnjjmdgaaGreatDoor
open Go.Lg
set_option maxRecDepth 100000
def OP(a:List Fm)(x:Fm)(k:Nat):(bA k a++[x]).map Fm.er=a.map Fm.er++[x.er]:=by
 rw[List.map_append,HI];rfl
def wC(g:List Ty)(u:Ty):(g++[u]).length=g.length+1:=by simp
def eC{ls:List Fm}{tl:List Tm}(B:∀(i:Nat)(f:Fm),ls[i]? =some f->f.has=true->∃t,tl[i]? =some t/\Ht [] t f.cty):∀(j:Jt)(g:List Ty)(n:Nat)(o:List Fm)(G:List Ty)(s:Sc),g.length=n->j.D ls g o->j.OK ls n o->ScOK n (o.map Fm.has) s->ScT G g (o.map Fm.er) s->j.f.has=true->Ht G (j.xt tl s) j.f.cty
 |.leaf u i f,g,n,o,G,s,r,⟨_,h⟩,_,S,T,d=>by
  replace d:f.has=true:=d;cases u
  ·have:=T.k i f.er (by rw[List.length_map];exact h.1) (by rw[List.length_map,List.getElem?_map,h.2];rfl) (by rw[pH];exact d);rw[iH]at this;exact this
  obtain⟨t,e,ht⟩:=B i f h d;show Ht G (match tl[i]? with|some t=>t|none=>.n0 .unit) f.cty;rw[e];exact D2 ht G
 |.refl t,_,_,_,_,_,_,_,_,_,_,d=>by cases d
 |.p1 k a f,g,n,o,G,s,r,⟨_,E,h⟩,⟨_,C,_⟩,S,T,d=>by
  replace d:f.has=true:=d;have c:=eC B a g n o G s r E C S T;cases k
  ·obtain⟨y,e⟩:=h;show Ht G (bif a.f.both then .n1 .fst (a.xt tl s)else a.xt tl s) f.cty;rw[e]at c⊢;have c:=c (by show(f.has||y.has)=true;rw[d];rfl);simp only[Fm.cty,Fm.both,d]at c⊢;cases hy:y.has<;>rw[hy]at c
   ·exact c
   exact⟨_,c⟩
  ·obtain⟨y,e⟩:=h;show Ht G (bif a.f.both then .n1 .snd (a.xt tl s)else a.xt tl s) f.cty;rw[e]at c⊢;have c:=c (by show(y.has||f.has)=true;rw[d];simp);simp only[Fm.cty,Fm.both,d]at c⊢;cases hy:y.has<;>rw[hy]at c
   ·exact c
   exact⟨_,c⟩
  obtain⟨u,w,x,e,_,y,V,R⟩:=h;show Ht G (YI a.f (a.xt tl s)) f.cty;rw[e]at c⊢;exact I2 R ((DC V).trans (SD _ x 2)) (c rfl)
 |.p2 k a b f,g,n,o,G,s,r,⟨_,E,h⟩,⟨_,C,U⟩,S,T,d=>by
  replace d:f.has=true:=d;have c:=eC B a g n o G s r E C S T;have A:s.ks.length=(o.map Fm.er).length:=by rw[S.kl];simp
  have z:∀{m:Nat},TK (m+1) (.v 0):=uC;cases k
  ·obtain⟨p,e⟩:=h;have O:=eC B b g n o G s r p U.1 S T;show Ht G (bif a.f.has then(bif b.f.has then .n2 .pair (a.xt tl s) (b.xt tl s)else a.xt tl s)else b.xt tl s) f.cty;rw[e]at d⊢;have W:(a.f.has||b.f.has)=true:=d;simp only[Fm.cty];cases X:a.f.has<;>cases Y:b.f.has
   ·rw[X,Y]at W;cases W
   ·simp_all
   ·exact c X
   exact⟨_,_,rfl,c X,O Y⟩
  ·obtain⟨p,x,e,em⟩:=h;have O:=eC B b g n o G s r p U.1 S T;have ex:=kK _ _ em;rw[e]at c;have c:=c d;show Ht G (bif b.f.has then .n2 .app (a.xt tl s) (b.xt tl s)else a.xt tl s) f.cty;simp only[Fm.cty]at c;rw[SA ex,GC ex]at c;cases Y:b.f.has<;>rw[Y]at c
   ·exact c
   exact⟨_,c,O Y⟩
  ·obtain⟨⟨u,e,p⟩,_,Z⟩:=h;have D:b.f.has=true:=by rw[<-SA (IF Z)];exact d
   show Ht G _ f.cty;rw[GC (IF Z)];have eq:a.f.qs=u:=by rw[e];rfl
   have c:Ht G (a.xt tl s) (bif a.f.bd.has then .two false u a.f.bd.cty else u):=by
    have:=c (by rw[e];rfl);rw[e]at this;exact this
   show Ht G (bif a.f.bd.has then .n2 .app (.lam (.two false a.f.qs a.f.bd.cty) (b.xt tl ((s.bind.var (.n1 .fst (.v 0))).hyp (.n1 .snd (.v 0))))) (a.xt tl s)else .n2 .app (.lam a.f.qs (b.xt tl (s.bind.var (.v 0)).bare)) (a.xt tl s)) b.f.cty;subst r;rw[eq];cases F:a.f.bd.has<;>rw[F]at c
   ·have I:=(((T.bind S u).var S.bind (JD G u)).bare A (x:=a.f.bd.er) (by rw[pH];exact F));have J:=(S.bind.var (t:=.v 0) z).bare;exact⟨_,⟨_,rfl,eC B b _ _ _ _ _ (wC g u) p U.1 (by rw[LB,F];exact J) (by rw[OP];exact I) D⟩,c⟩
   have I:=((T.bind S (.two false u a.f.bd.cty)).var S.bind (t:=.n1 .fst (.v 0)) (u:=u) ⟨_,JD G _⟩).hyp A (x:=a.f.bd.er) (t:=.n1 .snd (.v 0)) (by rw[iH];exact⟨_,JD G _⟩);have J:=(S.bind.var (t:=.n1 .fst (.v 0)) (uK z (by simp[Tm.cnt]))).hyp (t:=.n1 .snd (.v 0)) (uK z (by simp[Tm.cnt])) true;exact⟨_,⟨_,rfl,eC B b _ _ _ _ _ (wC g u) p U.1 (by rw[LB,F];exact J) (by rw[OP];exact I) D⟩,c⟩
  obtain⟨⟨u,e,p⟩,_,Z,_⟩:=h;have D:b.f.has=true:=by rw[<-SA (IF Z)];exact d
  show Ht G _ f.cty;rw[GC (IF Z)];have eq:a.f.qs=u:=by rw[e];rfl
  have K:a.f.qs.size<=64:=by
   have:=Jt.FKj C;rw[e]at this⊢;exact aD (DA this.shp).1
  show Ht G (bif a.f.bd.has then .n2 .app (.lam a.f.bd.cty (b.xt tl ((s.bind.var a.f.qs.ini).hyp (.v 0)))) (a.xt tl s)else b.xt tl (s.var a.f.qs.ini).bare) b.f.cty;subst r;rw[eq]at K⊢;cases F:a.f.bd.has
  ·have I:=(T.var S (NP u G)).bare A (x:=a.f.bd.er) (by rw[pH];exact F);have J:=(S.var (t:=u.ini) (nF _ K _)).bare;exact eC B b _ _ _ _ _ (wC g u) p U.1 (by rw[LB,F];exact J) (by rw[OP];exact I) D
  have c:Ht G (a.xt tl s) a.f.bd.cty:=by
   have:=c (by rw[e]at F⊢;exact F);rw[e]at this;exact this
  have I:=((T.bind S a.f.bd.cty).var S.bind (NP u _)).hyp A (x:=a.f.bd.er) (t:=.v 0) (by rw[iH];exact JD G _);have J:=(S.bind.var (t:=u.ini) (nF _ K _)).hyp (t:=.v 0) z true;exact⟨_,⟨_,rfl,eC B b _ _ _ _ _ (wC g u) p U.1 (by rw[LB,F];exact J) (by rw[OP];exact I) D⟩,c⟩
 |.impI x a,g,n,o,G,s,r,⟨_,_,_,E⟩,⟨_,_,C⟩,S,T,d=>by
  have A:s.ks.length=(o.map Fm.er).length:=by rw[S.kl];simp
  have z:∀{m:Nat},TK (m+1) (.v 0):=uC;have ex:(o++[x]).map Fm.has=o.map Fm.has++[x.has]:=by rw[List.map_append];rfl
  have M:(o++[x]).map Fm.er=o.map Fm.er++[x.er]:=by rw[List.map_append];rfl
  show Ht G (bif x.has then .lam x.cty (a.xt tl (s.bind.hyp (.v 0)))else a.xt tl s.bare) (bif x.has then .two true x.cty a.f.cty else a.f.cty);subst r;cases F:x.has
  ·exact eC B a g _ _ G _ rfl E C (by rw[ex,F];exact S.bare) (by rw[M];exact T.bare A (by rw[pH];exact F)) d
  exact⟨_,rfl,eC B a g _ _ _ _ rfl E C (by rw[ex,F];exact S.bind.hyp (t:=.v 0) z true) (by rw[M];exact(T.bind S x.cty).hyp A (by rw[iH];exact JD G _)) d⟩
 |.all u w a,g,n,o,G,s,r,⟨_,_,E,_⟩,⟨h64,_,C⟩,S,T,d=>by
  have z:∀{m:Nat},TK (m+1) (.v 0):=uC;subst r;cases u
  ·exact⟨_,rfl,eC B a _ _ _ _ _ (wC g w) E C (by rw[XD];exact S.bind.var (t:=.v 0) z) (by rw[HI];exact(T.bind S w).var S.bind (JD G w)) d⟩
  exact eC B a _ _ _ _ _ (wC g w) E C (by rw[XD];exact S.var (t:=w.ini) (nF _ h64 _)) (by rw[HI];exact T.var S (NP w G)) d
 |.ins u t a f,g,n,o,G,s,r,⟨_,_,E,w,x,P,Q,R⟩,⟨_,_,C,_⟩,S,T,d=>by
  replace d:f.has=true:=d;have H:x.has=true:=by rw[<-SA (DC R)];exact d
  have c:=eC B a g n o G s r E C S T (by rw[Q];cases u<;>exact H);rw[Q]at c;show Ht G _ f.cty;rw[GC (DC R)];cases u
  ·exact⟨w,c,lK T P⟩
  exact c
 |.ex u x t a,g,n,o,G,s,r,⟨_,_,E,w,y,v,P,Q,V,R⟩,⟨_,_,C,_⟩,S,T,d=>by
  have c:=eC B a g n o G s r E C S T;have M:a.f.er=y.er:=(kK _ _ R).symm.trans (DC V);subst Q;cases u
  ·show Ht G (bif a.f.has then .n2 .pair (t.ps s.vs s.dep 0) (a.xt tl s)else t.ps s.vs s.dep 0) (bif y.has then .two false w y.cty else w);rw[<-SA M,<-GC M];cases X:a.f.has
   ·exact lK T P
   exact⟨_,_,rfl,lK T P,c X⟩
  show Ht G (a.xt tl s) y.cty;rw[<-GC M];exact c (by rw[SA M];exact d)
 |.ind l x t a b f,g,n,o,G,s,r,⟨_,_,⟨_,P⟩,⟨E,_⟩,_,⟨p,_⟩,Q⟩,⟨_,_,_,C,_,⟨ea,eb⟩,N⟩,S,T,d=>by
  replace d:f.has=true:=d;have H:x.has=true:=by rw[<-SA (DC Q)];exact d
  have c:=eC B a g n o G s r E C S T (by rw[SA ea];exact H);rw[GC ea]at c;have A:s.ks.length=(o.map Fm.er).length:=by rw[S.kl];simp
  have z:∀{m:Nat},TK (m+1) (.v 0):=uC;have D:b.f.has=true:=by rw[SA eb];exact H
  have ec:=GC (DC Q);subst r;have A1:=S.bind.var (t:=.v 0) z;have B1:=(T.bind S .nat).var S.bind (JD G .nat);cases l
  ·have J:=A1.bind.hyp (t:=.v 0) z true;have I:=(B1.bind (by rw[wC];exact A1) x.cty).hyp A (x:=x.er) (by rw[iH];exact JD _ _);have L:=eC B b _ _ _ _ _ (wC g .nat) p N (by show ScOK _ ((bA 1 o++[x]).map _) _;rw[LB,H];exact J) (by show ScT _ _ ((bA 1 o++[x]).map _) _;rw[OP];exact I) D;rw[GC eb]at L;exact⟨ec,c,⟨_,rfl,_,rfl,L⟩,lK T P⟩
  have A2:=A1.bind.var (t:=.v 0) z;have B2:=(B1.bind (by rw[wC];exact A1) .list).var (by rw[wC];exact A1.bind) (JD _ .list);have J:=A2.bind.hyp (t:=.v 0) z true;have I:=(B2.bind (by rw[wC,wC];exact A2) x.cty).hyp A (x:=(x.sh 1 (.ofNat 1)).er) (by rw[iH,GC (SD _ x 1)];exact JD _ _);have L:=eC B b (g++[.nat]++[.list]) _ _ _ _ (by rw[wC,wC]) (by rw[List.append_assoc];exact p) N (by show ScOK _ ((bA 2 o++[x.sh 1 (.ofNat 1)]).map _) _;rw[LB,SA (SD _ x 1),H];exact J) (by show ScT _ _ ((bA 2 o++[x.sh 1 (.ofNat 1)]).map _) _;rw[OP];exact I) D;rw[GC eb]at L;exact⟨ec,c,⟨_,rfl,_,rfl,_,rfl,L⟩,lK T P⟩
 |.subst x a b f,g,n,o,G,s,r,⟨_,_,E,p,_⟩,⟨_,_,C,N,e,t,u,_,V⟩,S,T,d=>by
  have M:f.er=b.f.er:=(DC V).trans e.symm;show Ht G (b.xt tl s) f.cty;rw[GC M];exact eC B b g n o G s r p N S T (by rw[<-SA M];exact d)
abbrev Tm.u1(t:Tm):Tm:=t.sh 0 (.ofNat 1)
abbrev Tm.ap(t:Tm):Tm:=.n2 .app t.u1 (.v 0)
def cs(t:Tm)(σ:Nat->Tm):Nat->Tm|0=>t|i+1=>σ i
abbrev TB(σ:Nat->Tm):Nat->Tm:=λi=>(σ i).u1
def rz:Fm->(Nat->Tm)->Tm->Fm
 |.eq a b,σ,_=>.eq (a.sub σ) (b.sub σ)|.bin k x y,σ,t=>match k with|.and=>bif x.has&&y.has then .bin .and (rz x σ (.n1 .fst t)) (rz y σ (.n1 .snd t))else .bin .and (rz x σ t) (rz y σ t)|.imp=>bif x.has then .q .all x.cty (.bin .imp (rz x (TB σ) (.v 0)) (rz y (TB σ) (bif y.has then t.ap else t.u1)))else .bin .imp (rz x σ t) (rz y σ t)
 |.q k s x,σ,t=>match k with|.all=>.q .all s (rz x (rA σ) (bif x.has then t.ap else t.u1))|.allU=>.q .all s (rz x (rA σ) t.u1)|.exU=>.q .exU s (rz x (rA σ) t.u1)|.ex=>bif x.has then rz x (cs (.n1 .fst t) σ) (.n1 .snd t)else rz x (cs t σ) t
def dM(t:Tm)(σ:Nat->Tm):t.u1.sub (rA σ)=(t.sub σ).u1:=by
 rw[Tm.u1,Tm.u1,cC,cC,lE,KG];congr 1;funext i;show(σ i).sh 0 (.ofNat 1)=_;rw[cC]
def Bk(σ τ:Nat->Tm):(λi=>(TB σ i).sub (rA τ))=TB λi=>(σ i).sub τ:=by
 funext i;exact dM _ _
def VN(σ τ:Nat->Tm):(λi=>(rA σ i).sub (rA τ))=rA λi=>(σ i).sub τ:=by
 funext i
 cases i with|zero=>rfl|succ i=>exact dM _ _
def Ck(t:Tm)(σ τ:Nat->Tm):(λi=>(cs t σ i).sub τ)=cs (t.sub τ) λi=>(σ i).sub τ:=by
 funext i;cases i<;>rfl
def WE:∀(f:Fm)(σ τ:Nat->Tm)(t:Tm),(rz f σ t).sub τ=rz f (λi=>(σ i).sub τ) (t.sub τ)
 |.eq a b,σ,τ,t=>by simp[rz,Fm.sub,HD]|.bin .and x y,σ,τ,t=>by
  simp only[rz];cases x.has&&y.has<;>simp only[cond_true,cond_false,Fm.sub,WE x,WE y,Tm.sub]
 |.bin .imp x y,σ,τ,t=>by
  have c:(bif y.has then t.ap else t.u1).sub (rA τ)=bif y.has then(t.sub τ).ap else(t.sub τ).u1:=by
   cases y.has
   ·exact dM _ _
   simp only[cond_true,Tm.sub,Tm.ap,dM];rfl
  simp only[rz];cases x.has
  ·simp[cond_false,Fm.sub,WE]
  simp only[cond_true,Fm.sub,WE x,WE y,Bk,c];rfl
 |.q .all s x,σ,τ,t=>by
  have c:(bif x.has then t.ap else t.u1).sub (rA τ)=bif x.has then(t.sub τ).ap else(t.sub τ).u1:=by
   cases x.has
   ·exact dM _ _
   simp only[cond_true,Tm.sub,Tm.ap,dM];rfl
  simp only[rz,Fm.sub,WE x,VN,c]
 |.q .allU s x,σ,τ,t=>by simp[rz,Fm.sub,WE,VN,dM]|.q .exU s x,σ,τ,t=>by simp[rz,Fm.sub,WE,VN,dM]|.q .ex s x,σ,τ,t=>by
  simp only[rz];cases x.has
  ·simp[cond_false,WE,Ck]
  simp[cond_true,WE,Ck,Tm.sub]
def ZF:∀(f:Fm)(σ:Nat->Tm),(f.sub σ).has=f.has
 |.eq _ _,_=>rfl|.bin k x y,σ=>by cases k<;>simp only[Fm.sub,Fm.has,ZF x,ZF y]
 |.q k s x,σ=>by cases k<;>simp only[Fm.sub,Fm.has,ZF x]
def PP:∀(f:Fm)(σ:Nat->Tm),(f.sub σ).cty=f.cty
 |.eq _ _,_=>rfl|.bin k x y,σ=>by cases k<;>simp only[Fm.sub,Fm.cty,ZF,PP x,PP y]
 |.q k s x,σ=>by cases k<;>simp only[Fm.sub,Fm.cty,ZF,PP x]
def J2(a:Tm)(ρ σ:Nat->Tm):(λi=>(ρ i).sub (TB σ))=TB λi=>(ρ i).sub σ:=by
 grind[cC,KG,GE]
def L2(t:Tm)(ρ σ:Nat->Tm):(λi=>(rA ρ i).sub (cs t σ))=cs t λi=>(ρ i).sub σ:=by
 funext i
 cases i with
 |zero=>rfl|succ i=>
  show((ρ i).sh 0 (.ofNat 1)).sub _=_;rw[cC,lE];rfl
def SG:∀(f:Fm)(ρ σ:Nat->Tm)(t:Tm),rz (f.sub ρ) σ t=rz f (λi=>(ρ i).sub σ) t|.eq a b,ρ,σ,t=>by simp[rz,Fm.sub,HD]|.bin .and x y,ρ,σ,t=>by simp[rz,Fm.sub,ZF,SG]|.bin .imp x y,ρ,σ,t=>by simp only[rz,Fm.sub,ZF,PP,SG x,SG y,J2 (.v 0)]|.q .all s x,ρ,σ,t=>by simp[rz,Fm.sub,ZF,SG,VN]|.q .allU s x,ρ,σ,t=>by simp[rz,Fm.sub,SG,VN]|.q .exU s x,ρ,σ,t=>by simp[rz,Fm.sub,SG,VN]|.q .ex s x,ρ,σ,t=>by simp[rz,Fm.sub,ZF,SG,L2]
theorem yI:∀(f:Fm)(σ:Nat->Tm)(t u:Tm),f.has=false->rz f σ t=rz f σ u
 |.eq a b,σ,t,u,_=>rfl|.bin .and x y,σ,t,u,h=>by
  have h:(x.has||y.has)=false:=h;have d:x.has=false:=by simp_all
  have c:y.has=false:=by rw[d]at h;exact h
  simp only[rz,d,c,Bool.and_false,cond_false,yI x σ t u d,yI y σ t u c]
 |.bin .imp x y,σ,t,u,h=>by
  have c:y.has=false:=h;simp only[rz,c,cond_false];cases d:x.has
  ·simp only[cond_false,yI x σ t u d,yI y σ t u c]
  simp only[cond_true,yI y _ t.u1 u.u1 c]
 |.q .all s x,σ,t,u,h=>by
  have h:x.has=false:=h;simp only[rz,h,cond_false,yI x _ t.u1 u.u1 h]
 |.q .allU s x,σ,t,u,h=>by simp only[rz,yI x _ t.u1 u.u1 h]|.q .exU s x,σ,t,u,h=>by simp only[rz,yI x _ t.u1 u.u1 h]|.q .ex s x,σ,t,u,h=>by cases h
def jJ:∀(f:Fm)(σ:Nat->Tm)(t:Tm),(rz f σ t).has=false
 |.eq a b,σ,t=>rfl|.bin .and x y,σ,t=>by
  simp only[rz];cases x.has&&y.has<;>simp only[cond_true,cond_false,Fm.has,jJ x,jJ y,Bool.or_false]
 |.bin .imp x y,σ,t=>by
  simp only[rz];cases x.has<;>simp only[cond_true,cond_false,Fm.has,jJ x,jJ y]
 |.q .all s x,σ,t=>by simp[rz,Fm.has,jJ]|.q .allU s x,σ,t=>by simp[rz,Fm.has,jJ]|.q .exU s x,σ,t=>by simp[rz,Fm.has,jJ]|.q .ex s x,σ,t=>by
  simp only[rz];cases x.has<;>simp only[cond_true,cond_false,jJ x]
def Ps.lam(s:Ty){a b:Tm}(h:Ps a b):Ps (.lam s a) (.lam s b):=by
 induction h with|refl=>exact .refl _|step p _ c=>exact .step (.lam s p) c
def Ps.n1(k:K1){a b:Tm}(h:Ps a b):Ps (.n1 k a) (.n1 k b):=by
 induction h with|refl=>exact .refl _|step p _ c=>exact .step (.n1 k p) c
def Ps.n2l(k:K2){a b:Tm}(h:Ps a b)(c:Tm):Ps (.n2 k a c) (.n2 k b c):=by
 induction h with|refl=>exact .refl _|step p _ d=>exact .step (.n2 k p (.refl c)) d
def Ps.n2r(k:K2)(c:Tm){a b:Tm}(h:Ps a b):Ps (.n2 k c a) (.n2 k c b):=by
 induction h with|refl=>exact .refl _|step p _ d=>exact .step (.n2 k (.refl c) p) d
def Ps.n3a(k:K3)(s:Ty){a b:Tm}(h:Ps a b)(c d:Tm):Ps (.n3 k s a c d) (.n3 k s b c d):=by
 induction h with|refl=>exact .refl _|step p _ e=>exact .step (.n3 k s p (.refl c) (.refl d)) e
def Ps.n3b(k:K3)(s:Ty)(c:Tm){a b:Tm}(h:Ps a b)(d:Tm):Ps (.n3 k s c a d) (.n3 k s c b d):=by
 induction h with|refl=>exact .refl _|step p _ e=>exact .step (.n3 k s (.refl c) p (.refl d)) e
def Ps.n3c(k:K3)(s:Ty)(c d:Tm){a b:Tm}(h:Ps a b):Ps (.n3 k s c d a) (.n3 k s c d b):=by
 induction h with|refl=>exact .refl _|step p _ e=>exact .step (.n3 k s (.refl c) (.refl d) p) e
def Cv.lam(s:Ty){a b:Tm}:Cv a b->Cv (.lam s a) (.lam s b):=λ⟨w,h,k⟩=>⟨_,h.lam s,k.lam s⟩
def Cv.n1(k:K1){a b:Tm}:Cv a b->Cv (.n1 k a) (.n1 k b):=λ⟨w,h,l⟩=>⟨_,h.n1 k,l.n1 k⟩
def Cv.n2(k:K2){a b c d:Tm}:Cv a b->Cv c d->Cv (.n2 k a c) (.n2 k b d):=λ⟨w,h,l⟩ ⟨x,m,n⟩=>⟨.n2 k w x,(h.n2l k c).trans (m.n2r k w),(l.n2l k d).trans (n.n2r k w)⟩
def Cv.n3(k:K3)(s:Ty){a b c d e f:Tm}:Cv a b->Cv c d->Cv e f->Cv (.n3 k s a c e) (.n3 k s b d f):=λ⟨w,h,l⟩ ⟨x,m,n⟩ ⟨y,o,p⟩=>⟨.n3 k s w x y,((h.n3a k s c e).trans (m.n3b k s w e)).trans (o.n3c k s w x),((l.n3a k s d f).trans (n.n3b k s w f)).trans (p.n3c k s w x)⟩
def Cv.u1{a b:Tm}(h:Cv a b):Cv a.u1 b.u1:=by
 rw[Tm.u1,Tm.u1,cC,cC,WF,WF];exact h.sub _
def Cv.up{σ τ:Nat->Tm}(h:∀i,Cv (σ i) (τ i)):∀i,Cv (rA σ i) (rA τ i)|0=>.refl _|i+1=>(h i).u1
def Cv.subst:∀(t:Tm){σ τ:Nat->Tm},(∀i,Cv (σ i) (τ i))->Cv (t.sub σ) (t.sub τ)|.v i,_,_,h=>h i|.n0 k,_,_,_=>.refl _|.lam s b,_,_,h=>(Cv.subst b (Cv.up h)).lam s|.n1 k a,_,_,h=>(Cv.subst a h).n1 k|.n2 k a b,_,_,h=>(Cv.subst a h).n2 k (Cv.subst b h)|.n3 k s a b c,_,_,h=>(Cv.subst a h).n3 k s (Cv.subst b h) (Cv.subst c h)
def Cv.ap{a b:Tm}(h:Cv a b):Cv a.ap b.ap:=h.u1.n2 .app (.refl _)
def Cv.cs{a b:Tm}(h:Cv a b){σ τ:Nat->Tm}(k:∀i,Cv (σ i) (τ i)):∀i,Cv (cs a σ i) (cs b τ i)|0=>h|i+1=>k i
def KE:∀(f:Fm){σ τ:Nat->Tm}{t u:Tm},(∀i,Cv (σ i) (τ i))->Cv t u->FCv (rz f σ t) (rz f τ u)
 |.eq a b,σ,τ,t,u,h,_=>.eq (Cv.subst a h) (Cv.subst b h)|.bin .and x y,σ,τ,t,u,h,k=>by
  simp only[rz];cases x.has&&y.has
  ·exact .bin .and (KE x h k) (KE y h k)
  exact .bin .and (KE x h (k.n1 .fst)) (KE y h (k.n1 .snd))
 |.bin .imp x y,σ,τ,t,u,h,k=>by
  simp only[rz];cases x.has
  ·exact .bin .imp (KE x h k) (KE y h k)
  refine .q .all _ (.bin .imp (KE x (λi=>(h i).u1) (.refl _)) (KE y (λi=>(h i).u1) ?_));cases y.has
  ·exact k.u1
  exact k.ap
 |.q .all s x,σ,τ,t,u,h,k=>by
  refine .q .all s (KE x (Cv.up h) ?_);cases x.has
  ·exact k.u1
  exact k.ap
 |.q .allU s x,σ,τ,t,u,h,k=>.q .all s (KE x (Cv.up h) k.u1)|.q .exU s x,σ,τ,t,u,h,k=>.q .exU s (KE x (Cv.up h) k.u1)|.q .ex s x,σ,τ,t,u,h,k=>by
  simp only[rz];cases x.has
  ·exact KE x (k.cs h) k
  exact KE x ((k.n1 .fst).cs h) (k.n1 .snd)
def FCv.cond(x:Bool){a b c d:Fm}(h:FCv a b)(k:FCv c d):FCv (bif x then a else c) (bif x then b else d):=by cases x<;>assumption
def mK{f g:Fm}(h:FCv f g):∀(σ:Nat->Tm)(t:Tm),FCv (rz f σ t) (rz g σ t):=by
 induction h with
 |eq h k=>exactλσ t=>.eq (h.sub σ) (k.sub σ)|bin k c e a b=>
  intro σ t;cases k
  ·simp only[rz,c.has,e.has];exact .cond _ (.bin .and (a _ _) (b _ _)) (.bin .and (a _ _) (b _ _))
  simp only[rz,c.has,e.has,GC c.er];exact .cond _ (.q .all _ (.bin .imp (a _ _) (b _ _))) (.bin .imp (a _ _) (b _ _))
 |q k s h d=>
  intro σ t;cases k<;>simp only[rz,h.has]
  ·exact .q .all s (d _ _)
  ·grind
  ·exact .q .all s (d _ _)
  exact .q .exU s (d _ _)
def uI:∀(f:Fm)(g:List Ty),f.tq g->f.hq g|.eq a b,g,h=>⟨JE a g _ h.1,JE b g _ h.2⟩|.bin _ f h,g,k=>⟨uI f g k.1,uI h g k.2⟩|.q _ s f,g,h=>uI f _ h
def Hg.u1{g G:List Ty}{σ:Nat->Tm}(h:Hg g G σ)(s:Ty):Hg g (G++[s]) (TB σ):=λi u e=>mE s (h i u e)
def Hg.cs{g G:List Ty}{σ:Nat->Tm}(h:Hg g G σ){t:Tm}{s:Ty}(a:Ht G t s):Hg (g++[s]) G (cs t σ):=λi u e=>by
 cases i with
 |zero=>rw[NG]at e;cases e;exact a
 |succ i=>rw[OG]at e;exact h i u e
theorem Ek{G:List Ty}{t:Tm}{s u:Ty}(h:Ht G t (.two true s u)):Ht (G++[s]) t.ap u:=⟨s,mE s h,JD G s⟩
def WC:∀(f:Fm)(g G:List Ty)(σ:Nat->Tm)(t:Tm),f.hq g->Hg g G σ->(f.has=true->Ht G t f.cty)->(rz f σ t).hq G
 |.eq a b,g,G,σ,t,h,c,_=>⟨VE a g G σ _ c h.1,VE b g G σ _ c h.2⟩|.bin .and x y,g,G,σ,t,h,c,d=>by
  simp only[rz];simp only[Fm.has,Fm.cty]at d;cases i:x.has<;>cases j:y.has<;>simp only[i,j,Bool.or_false,Bool.or_true,Bool.and_false,Bool.and_true,cond_true,cond_false,forall_const]at d⊢
  ·exact⟨WC x g G σ t h.1 c (λe=>by rw[i]at e;cases e),WC y g G σ t h.2 c (λe=>by rw[j]at e;cases e)⟩
  ·exact⟨WC x g G σ t h.1 c (λe=>by rw[i]at e;cases e),WC y g G σ t h.2 c λ_=>d⟩
  ·exact⟨WC x g G σ t h.1 c λ_=>d,WC y g G σ t h.2 c (λe=>by rw[j]at e;cases e)⟩
  exact⟨WC x g G σ _ h.1 c λ_=>⟨_,d⟩,WC y g G σ _ h.2 c λ_=>⟨_,d⟩⟩
 |.bin .imp x y,g,G,σ,t,h,c,d=>by
  simp only[rz];simp only[Fm.has,Fm.cty]at d;cases i:x.has
  ·simp only[i,cond_false]at d⊢;exact⟨WC x g G σ t h.1 c (λe=>by rw[i]at e;cases e),WC y g G σ t h.2 c d⟩
  refine⟨WC x g _ _ _ h.1 (c.u1 _) λ_=>JD G _,WC y g _ _ _ h.2 (c.u1 _) λe=>?_⟩
  grind[Ek]
 |.q .all s x,g,G,σ,t,h,c,d=>WC x _ _ _ _ h (c.up s) λe=>by rw[e];exact Ek (d e)|.q .allU s x,g,G,σ,t,h,c,d=>WC x _ _ _ _ h (c.up s) λe=>mE s (d e)|.q .exU s x,g,G,σ,t,h,c,d=>WC x _ _ _ _ h (c.up s) λe=>mE s (d e)|.q .ex s x,g,G,σ,t,h,c,d=>by
  simp only[rz];have d:=d rfl;simp only[Fm.cty]at d;cases i:x.has<;>simp only[i,cond_true,cond_false]at d⊢
  ·exact WC x _ G _ _ h (c.cs d) (λe=>by rw[i]at e;cases e)
  exact WC x _ G _ _ h (c.cs ⟨_,d⟩) λ_=>⟨_,d⟩
open Go.Lg
def sS(s:Sc):Nat->Tm:=λi=>(Tm.v i).ps s.vs s.dep 0
def jW{σ τ:Nat->Tm}{n:Nat}(h:∀i,i<n->σ i=τ i):∀i,i<n+1->rA σ i=rA τ i|0,_=>rfl|i+1,k=>by show(σ i).sh 0 _=(τ i).sh 0 _;rw[h i (by omega)]
def M2{σ τ:Nat->Tm}{n:Nat}(t:Tm)(h:∀i,i<n->σ i=τ i):∀i,i<n+1->cs t σ i=cs t τ i|0,_=>rfl|i+1,k=>h i (by omega)
def Fk{t:Tm}{n:Nat}(a:t.sc n){σ τ:Nat->Tm}(h:∀i,i<n->σ i=τ i):t.sub σ=t.sub τ:=GE t σ τ λi b=>h i (vS a b)
theorem nE:∀(f:Fm)(n:Nat)(σ τ:Nat->Tm)(t:Tm),f.sc n->(∀i,i<n->σ i=τ i)->rz f σ t=rz f τ t
 |.eq a b,n,σ,τ,t,c,h=>by simp only[rz,Fk c.1 h,Fk c.2 h]|.bin .and x y,n,σ,τ,t,c,h=>by simp only[rz,nE x n σ τ _ c.1 h,nE y n σ τ _ c.2 h]|.bin .imp x y,n,σ,τ,t,c,h=>by
  have d:∀i,i<n->TB σ i=TB τ i:=λi e=>congrArg Tm.u1 (h i e)
  simp only[rz,nE x n σ τ _ c.1 h,nE y n σ τ _ c.2 h,nE x n _ _ _ c.1 d,nE y n _ _ _ c.2 d]
 |.q .all s x,n,σ,τ,t,c,h=>by simp only[rz,nE x _ _ _ _ c (jW h)]|.q .allU s x,n,σ,τ,t,c,h=>by simp only[rz,nE x _ _ _ _ c (jW h)]|.q .exU s x,n,σ,τ,t,c,h=>by simp only[rz,nE x _ _ _ _ c (jW h)]|.q .ex s x,n,σ,τ,t,c,h=>by simp only[rz,nE x _ _ _ _ c (M2 _ h)]
def Db{n:Nat}{a:List Bool}{s:Sc}(h:ScOK n a s):∀i,i<n->sS s.bind i=(sS s i).u1:=λi a=>LV h.ve (show(Tm.v i).sc s.vs.length by rw[h.vl];exact a)
def Gk{n:Nat}{a:List Bool}{s:Sc}(h:ScOK n a s)(t:Tm):∀i,i<n+1->sS (s.var t) i=cs t (sS s) i
 |0,_=>kS _ _ _|i+1,k=>by
  exact MV s.vs s.dep (t,s.dep) (show(Tm.v i).sc s.vs.length by rw[h.vl];show i<n;omega)
def Hk(f:Fm)(σ:Nat->Tm)(t:Tm):(rz f σ t).sh 0 (.ofNat 1)=rz f (TB σ) t.u1:=by
 have e:∀a:Tm,a.sub (λi=>Tm.v (i+1))=a.u1:=λa=>by rw[Tm.u1,cC,WF]
 rw[HE,UN,QG,WE,e];simp_all
def fS(f:Fm)(σ:Nat->Tm)(u t:Tm):rz (f.sh 0 (.ofNat 1)) (cs u σ) t=rz f σ t:=by
 rw[HE,UN,QG,SG];rfl
def Jt.W(d:List Fm):List Ty->List Fm->Jt->Prop
 |_,c,.leaf u i f=>match u with|false=>i<c.length/\∃x,c[c.length-1-i]? =some x/\FCv x f|true=>∃x,d[i]? =some x/\FCv x f
 |g,_,.refl t=>Ht g t .nat|g,c,.p1 k a f=>a.W d g c/\match k with
  |.andL=>∃y,FCv a.f (.bin .and f y)|.andR=>∃x,FCv a.f (.bin .and x f)|.choice=>∃s u x,FCv a.f (.q .all s (.q .ex u x))/\FCv f (.q .ex (.two true s u) (.q .all s ((x.sh 2 (.ofNat 1)).put 0 vapp 0)))
 |g,c,.p2 k a b f=>a.W d g c/\match k with
  |.andI=>b.W d g c/\FCv f (.bin .and a.f b.f)|.impE=>b.W d g c/\∃x,FCv a.f (.bin .imp x f)/\FCv x b.f|.exE=>∃s x y,FCv a.f (.q .ex s x)/\b.W d (g++[s]) (bA 1 c++[x])/\FCv b.f y/\y.occ 0=0/\FCv f y.low|.exUE=>(∃s x y,FCv a.f (.q .exU s x)/\b.W d (g++[s]) (bA 1 c++[x])/\FCv b.f y/\y.occ 0=0/\FCv f y.low)/\b.f.has=false
 |g,c,.impI x a=>x.hq g/\a.W d g (c++[x])|g,c,.all u s a=>a.W d (g++[s]) (bA 1 c)/\u=false|g,c,.ins u t a f=>a.W d g c/\∃s x,Ht g t s/\FCv a.f (.q (aq u) s x)/\FCv f (x.put 0 t 0)|g,c,.ex u x t a=>x.hq g/\a.W d g c/\∃s y,Ht g t s/\x=.q (YH u) s y/\FCv (y.put 0 t 0) a.f|g,c,.ind l x t a b f=>x.hq (g++[lT l])/\Ht g t (lT l)/\(a.W d g c/\FCv (x.put 0 (l0 l) 0) a.f)/\(b.W d (g++lG l) (TJ c x l)/\FCv ((x.sh 1 (.ofNat (lN l))).put 0 (l1 l) 0) b.f)/\FCv f (x.put 0 t 0)|g,c,.subst x a b f=>x.hq (g++[.nat])/\a.W d g c/\b.W d g c/\∃t u,FCv a.f (.eq t u)/\FCv (x.put 0 t 0) b.f/\FCv f (x.put 0 u 0)
def Sc.skip(s:Sc):Sc:=⟨s.dep,s.hyps+1,s.vs,s.ks⟩
structure SoT(G g:List Ty)(hs HS:List Fm)(s:Sc):Prop where
 S:ScOK g.length (hs.map Fm.has) s
 T:ScT G g (hs.map Fm.er) s
 d:G.length=s.dep
 h:HS.length=s.hyps
 sc:∀f∈hs,f.sc g.length
 q:∀f∈hs,f.tq g
 p:∀i f,i<hs.length->hs[hs.length-1-i]? =some f->∃y x,s.ks[s.ks.length-1-i]? =some y/\HS[y.pl]? =some x/\FCv x (rz f (sS s) (s.hy i))
variable{G g:List Ty}{hs HS:List Fm}{s:Sc}
theorem SoT.bind(H:SoT G g hs HS s)(u:Ty):SoT (G++[u]) g hs (bA 1 HS) s.bind:=by
 refine⟨H.S.bind,H.T.bind H.S u,by simp[Sc.bind,H.d],by simp[Sc.bind,H.h],H.sc,H.q,λi f a e=>?_⟩;obtain⟨y,x,b,c,d⟩:=H.p i f a e;refine⟨y,x.sh 0 (.ofNat 1),b,by rw[bA,List.getElem?_map,c];rfl,?_⟩;rw[NV H.S,nE f _ _ (TB (sS s)) _ (H.sc f (List.mem_of_getElem? e)) (Db H.S),<-Hk];exact d.sh 0 1
theorem SoT.var(H:SoT G g hs HS s){t:Tm}{u:Ty}(c:Ht G t u)(d:TK s.dep t):SoT G (g++[u]) (bA 1 hs) HS (s.var t):=by
 have h:=H.S.var d;refine⟨by rw[XD,wC];exact h,by rw[HI];exact H.T.var H.S c,H.d,H.h,λf j=>?_,YV (bM g u) H.q,λi f a e=>?_⟩
 ·obtain⟨x,k,rfl⟩:=List.mem_map.1 j;rw[wC];exact RI 1 x 0 _ (H.sc x k)
 rw[bA,List.length_map]at a e;rw[List.getElem?_map]at e;obtain⟨x0,b,rfl⟩:=Option.map_eq_some_iff.1 e;obtain⟨y,x,l,m,n⟩:=H.p i x0 a b;refine⟨y,x,l,m,?_⟩;rw[nE (x0.sh 0 (.ofNat 1)) _ _ (cs t (sS s)) _ (RI 1 x0 0 _ (H.sc x0 (List.mem_of_getElem? b))) (Gk H.S t),fS];exact n
def SoT.psh(H:SoT G g hs HS s){x y:Fm}{k:Hy}(c:ScOK g.length ((hs++[x]).map Fm.has) ⟨s.dep,s.hyps+1,s.vs,s.ks++[k]⟩)(d:ScT G g ((hs++[x]).map Fm.er) ⟨s.dep,s.hyps+1,s.vs,s.ks++[k]⟩)(j:x.sc g.length)(hq:x.tq g)(l:k.pl=s.hyps){v:Tm}(m:(⟨s.dep,s.hyps+1,s.vs,s.ks++[k]⟩:Sc).hy 0=v)(n:FCv y (rz x (sS s) v)):SoT G g (hs++[x]) (HS++[y]) ⟨s.dep,s.hyps+1,s.vs,s.ks++[k]⟩:=by
 have w:s.ks.length=hs.length:=by have:=H.S.kl;simpa using this
 refine⟨c,d,H.d,by simp[H.h],λf h=>?_,ZV H.q hq,λi f a e=>?_⟩
 ·rcases List.mem_append.1 h with h|h
  ·exact H.sc f h
  simp at h;subst h;exact j
 cases i with
 |zero=>
  refine⟨k,y,by simp,by rw[l,<-H.h];simp,?_⟩;have:x=f:=by simpa using e
  subst this;rw[m];exact n
 |succ i=>
  have a:i<hs.length:=by simpa using a
  have o:hs[hs.length-1-i]? =some f:=by
   rw[<-e,List.length_append];simp only[List.length_cons,List.length_nil];rw[show hs.length+(0+1)-1-(i+1)=hs.length-1-i by omega,List.getElem?_append_left (by omega)]
  obtain⟨p,r,t,b,u⟩:=H.p i f a o;refine⟨p,r,?_,?_,?_⟩
  ·simp only[List.length_append,List.length_cons,List.length_nil];rw[show s.ks.length+(0+1)-1-(i+1)=s.ks.length-1-i by omega,List.getElem?_append_left (by omega)];exact t
  ·rw[List.getElem?_append_left (List.getElem?_eq_some_iff.1 b).1];exact b
  rw[JP s k 0 _ i];exact u
theorem SoT.hyp(H:SoT G g hs HS s){x y:Fm}{t:Tm}(a:x.sc g.length)(hq:x.tq g)(c:Ht G t x.cty)(d:TK s.dep t)(e:FCv y (rz x (sS s) t))(b:x.has=true):SoT G g (hs++[x]) (HS++[y]) (s.hyp t):=by
 have f:s.ks.length=(hs.map Fm.er).length:=by rw[H.S.kl];simp
 refine H.psh (by rw[List.map_append];exact H.S.hyp d _) (by rw[List.map_append];exact H.T.hyp f (by rw[iH];exact c)) a hq rfl (v:=t) ?_ e;rw[RN];simp only[Nat.sub_self,EE]
theorem SoT.bare(H:SoT G g hs HS s){x y:Fm}(a:x.sc g.length)(hq:x.tq g)(b:x.has=false)(c:FCv y (rz x (sS s) (.n0 .unit))):SoT G g (hs++[x]) (HS++[y]) s.bare:=by
 have d:s.ks.length=(hs.map Fm.er).length:=by rw[H.S.kl];simp
 exact H.psh (by rw[List.map_append];show ScOK _ (_++[x.has]) _;rw[b];exact H.S.bare) (by rw[List.map_append];exact H.T.bare d (by rw[pH];exact b)) a hq rfl (RN _ _ _) c
theorem SoT.skip(H:SoT G g hs HS s)(y:Fm):SoT G g hs (HS++[y]) s.skip:=
 ⟨⟨H.S.vl,H.S.kl,H.S.ve,H.S.ke,H.S.kh⟩,⟨H.T.v,H.T.k⟩,H.d,by simp[Sc.skip,H.h],H.sc,H.q,λi f b e=>by
  obtain⟨k,x,c,a,d⟩:=H.p i f b e;exact⟨k,x,c,by rw[List.getElem?_append_left (List.getElem?_eq_some_iff.1 a).1];exact a,d⟩⟩
end Go.Proofs.YtmihmecnjjmdgaaGreatDoor
namespace Go.Proofs.YtmihmecnjjmdgaaGreatDoor
open Go.Lg
set_option maxRecDepth 100000
def ou(t:Tm)(p:Jt):Jt:=.ins false t p (match p.f with|.q _ _ x=>x.put 0 t 0|f=>f)
def im(p q:Jt):Jt:=.p2 .impE p q (match p.f with|.bin _ _ y=>y|f=>f)
def un(x:Fm)(b:Sc->Jt)(s:Sc):Jt:=bif x.has then .all false x.cty (.impI (rz x (sS s.bind) (.v 0)) (b (s.bind.hyp (.v 0))))else .impI (rz x (sS s) (.n0 .unit)) (b s.bare)
def Jt.tx(tl:List Tm)(j:Jt)(s:Sc):Tm:=bif j.f.has then j.xt tl s else .n0 .unit
def Sc.pl(s:Sc)(i:Nat):Nat:=s.hyps-1-(match s.ks[s.ks.length-1-i]? with|some y=>y.pl|none=>0)
abbrev sv(s:Sc):Sc:=s.bind.var (.v 0)
def Jt.pv(tl:List Tm):Jt->Sc->Jt
 |.leaf u i f,s=>match u with|false=>.leaf false (s.pl i) (rz f (sS s) (s.hy i))|true=>.leaf true i (rz f (sS s) (Jt.xt tl (.leaf true i f) s))
 |.refl t,s=>.refl (t.ps s.vs s.dep 0)|.p1 k a _,s=>match k with|.andL=>.p1 .andL (a.pv tl s) (match (a.pv tl s).f with|.bin _ x _=>x|f=>f)|.andR=>.p1 .andR (a.pv tl s) (match (a.pv tl s).f with|.bin _ _ y=>y|f=>f)|.choice=>a.pv tl s
 |.p2 k a b f,s=>match k with|.andI=>.p2 .andI (a.pv tl s) (b.pv tl s) (.bin .and (a.pv tl s).f (b.pv tl s).f)|.impE=>im (bif b.f.has then ou (b.xt tl s) (a.pv tl s)else a.pv tl s) (b.pv tl s)|.exE=>im (bif a.f.bd.has then ou (.n1 .snd (a.xt tl s)) (ou (.n1 .fst (a.xt tl s)) (.all false a.f.qs (un a.f.bd (b.pv tl) (sv s))))else ou (a.xt tl s) (.all false a.f.qs (un a.f.bd (b.pv tl) (sv s)))) (a.pv tl s)|.exUE=>.p2 .exUE (a.pv tl s) (bif a.f.bd.has then im (ou (a.xt tl s.bind) (un a.f.bd (b.pv tl) (sv s).skip)) (.leaf false 0 (rz a.f.bd (sS (sv s)) (a.xt tl s.bind)))else b.pv tl (sv s).bare) (rz f (sS s) (Jt.xt tl (.p2 .exUE a b f) s))
 |.impI x a,s=>un x (a.pv tl) s|.all _ w a,s=>.all false w (a.pv tl (sv s))|.ins _ t a _,s=>ou (t.ps s.vs s.dep 0) (a.pv tl s)|.ex u x t a,s=>match u with|false=>a.pv tl s|true=>.ex true (.q .exU x.qs (rz x.bd (sS (sv s)) (a.tx tl s.bind))) (t.ps s.vs s.dep 0) (a.pv tl s)
 |.ind l x t a b f,s=>.ind l (rz x (sS (sv s)) (bif x.has then dD tl l x a b s.bind (.v 0)else .n0 .unit)) (t.ps s.vs s.dep 0) (a.pv tl s) (match l with
   |false=>bif x.has then im (ou (dD tl l x a b s.bind (.v 0)) (un x (b.pv tl) (sv s).skip)) (.leaf false 0 (rz x (sS (sv s)) (dD tl l x a b s.bind (.v 0))))else b.pv tl (sv s).bare|true=>bif x.has then im (ou (dD tl l x a b s.bind.bind (.v 0)) (un (x.sh 1 (.ofNat 1)) (b.pv tl) (sv (sv s)).skip)) (.leaf false 0 (rz (x.sh 1 (.ofNat 1)) (sS (sv (sv s))) (dD tl l x a b s.bind.bind (.v 0))))else b.pv tl (sv (sv s)).bare) (rz f (sS s) (Jt.xt tl (.ind l x t a b f) s))
 |.subst x a b f,s=>.subst (rz x (sS (sv s)) (b.tx tl s.bind)) (a.pv tl s) (b.pv tl s) (rz f (sS s) (b.xt tl s))
def gS(t u:Tm):t.u1.sub (λi=>(Tm.v i).put 0 u 0)=t:=by
 rw[Tm.u1,cC,lE];simp[GE,yS,FC]
def WN(t u:Tm):t.u1.put 0 u 0=t:=by rw[VC];exact gS t u
def Ik(t u:Tm):t.ap.put 0 u 0=.n2 .app t u:=by
 show Tm.n2 .app (t.u1.put 0 u 0) ((Tm.v 0).put 0 u 0)=_;rw[WN,ID]
def fM(f:Fm)(σ:Nat->Tm)(t u:Tm):(rz f (TB σ) t).put 0 u 0=rz f σ (t.put 0 u 0):=by
 rw[oD,WE,<-VC];simp[congr,funext,gS]
def lS(f:Fm)(σ:Nat->Tm)(t u:Tm):(rz f (rA σ) t).put 0 u 0=rz f (cs u σ) (t.put 0 u 0):=by
 rw[oD,WE,<-VC];congr 1;funext i
 cases i with|zero=>exact ID u|succ i=>exact gS _ _
def XC{f:Fm}{σ:Nat->Tm}{t u:Tm}(h:f.has=true->Cv t u):FCv (rz f σ t) (rz f σ u):=by
 cases e:f.has
 ·rw[yI f σ t u e];exact .refl _
 exact KE f (λ_=>.refl _) (h e)
theorem Cv.of{a b:Tm}(h:Par a b):Cv a b:=⟨b,.step h (.refl _),.refl b⟩
def vW(s:Ty)(b:Tm):Cv (Tm.lam s b).ap b:=by
 have h:=Par.beta s (Par.refl (b.sh 1 (.ofNat 1))) (Par.refl (.v 0));have e:(b.sh 1 (.ofNat 1)).put 0 (.v 0) 0=b:=by
  rw[VC,GD,lE];refine(GE _ _ Tm.v λi _=>?_).trans (FC b)
  grind[ID,yS]
 rw[e]at h;exact .of h
def FCv.ofBin{f:Fm}{k:FB}{x y:Fm}(h:FCv f (.bin k x y)):∃a b,f=.bin k a b/\FCv a x/\FCv b y:=by
 cases h with|bin _ h k=>grind
def FCv.ofQ{f:Fm}{k:FQ}{s:Ty}{x:Fm}(h:FCv f (.q k s x)):∃a,f=.q k s a/\FCv a x:=by
 cases h with|q _ _ h=>simp_all
section
variable{ls:List Fm}{G:List Ty}{HS:List Fm}{p q:Jt}
def gM{s:Ty}{t:Tm}{X:Fm}(d:p.W ls G HS)(e:FCv p.f (.q .all s X))(g:Ht G t s):(ou t p).W ls G HS/\FCv (ou t p).f (X.put 0 t 0):=by
 obtain⟨a,b,h⟩:=e.ofQ;have c:(ou t p).f=a.put 0 t 0:=by show(match p.f with|.q _ _ x=>x.put 0 t 0|f=>f)=_;rw[b]
 refine⟨⟨d,s,a,g,by rw[b];exact .refl _,?_⟩,by rw[c];exact h.put t 0 0⟩;show FCv (ou t p).f _;rw[c];exact .refl _
def QP{X Y:Fm}(d:p.W ls G HS)(hq:q.W ls G HS)(e:FCv p.f (.bin .imp X Y))(h:FCv X q.f):(im p q).W ls G HS/\FCv (im p q).f Y:=by
 obtain⟨a,g,b,i,j⟩:=e.ofBin;have c:(im p q).f=g:=by show(match p.f with|.bin _ _ y=>y|f=>f)=_;rw[b]
 refine⟨⟨d,hq,a,?_,i.trans h⟩,by rw[c];exact j⟩;show FCv p.f (.bin .imp a (im p q).f);rw[c,b];exact .refl _
end
def wW:rA Tm.v=Tm.v:=by
 funext i;cases i<;>rfl
def oH:∀p:Pf,PX .v p p|.leaf _ _=>rfl|.refl t=>⟨t,rfl⟩|.p1 _ a=>⟨a,rfl,oH a⟩|.p2 k a b=>⟨a,b,rfl,oH a,by cases k<;>simp only[wW]<;>exact oH b⟩|.impI x a=>⟨x,a,rfl,rfl,oH a⟩|.all _ _ a=>⟨a,rfl,by rw[wW];exact oH a⟩|.ins _ t a=>⟨t,a,rfl,λ_=>(FC t).symm,oH a⟩|.ex _ x t a=>⟨x,t,a,rfl,rfl,λ_=>(FC t).symm,oH a⟩|.ind l x t a b=>⟨x,t,a,b,rfl,rfl,(FC t).symm,oH a,by cases l<;>simp only[wW]<;>exact oH b⟩|.subst x a b=>⟨x,a,b,rfl,rfl,oH a,oH b⟩
def XN(t:Tm)(k:Nat):t.sh 0 (.ofNat k)=t.sub λi=>.v (i+k):=by
 rw[GD,WF];congr 1
def Eb(t:Tm)(k:Nat)(τ:Nat->Tm):(t.sh 0 (.ofNat k)).sub τ=t.sub λi=>τ (i+k):=by
 rw[XN,HD];rfl
section
variable{s:Sc}{n:Nat}{bs:List Bool}
def Jk(S:ScOK n bs s)(k:Nat)(es:List (Tm×Nat)){i:Nat}(a:i<n:=by omega):(Tm.v (i+es.length)).ps (s.vs++es) (s.dep+k) 0=(sS s i).sh 0 (.ofNat k):=by
 obtain⟨e,h,b⟩:=ZR (vs:=s.vs) (v:=i) (by rw[S.vl];exact a);have c:ent (s.vs++es) (i+es.length)=some e:=by
  unfold ent at h⊢;rw[if_pos (by rw[List.length_append,S.vl];omega),List.length_append,List.getElem?_append_left (by rw[S.vl];omega),<-h]
  grind
 have:=(S.ve e b).1;unfold sS;rw[kI c,kI h,ZH]
 grind
def N2(a:List (Tm×Nat))(t:Tm)(d k:Nat):(Tm.v 0).ps (a++[(t,d)]) (d+k) 0=t.sh 0 (.ofNat k):=by
 rw[kI (EV a (t,d)),Nat.add_sub_cancel_left]
def Kk(S:ScOK n bs s)(k h:Nat)(b:List (Tm×Nat))(a:List Hy){i:Nat}(c:i<bs.length):(⟨s.dep+k,h,b,s.ks++a⟩:Sc).hy (i+a.length)=(s.hy i).sh 0 (.ofNat k):=by
 have:=S.kl;unfold Sc.hy;rw[List.length_append,List.getElem?_append_left (by omega),show s.ks.length+a.length-1-(i+a.length)=s.ks.length-1-i by omega]
 cases e:s.ks[s.ks.length-1-i]? with
 |none=>rfl|some x=>cases x with
  |bare p=>rfl|hy t d p=>
   have:=(S.ke _ (List.mem_of_getElem? e) t d p rfl).1;rw[ZH]
   grind
def Fb(d h k p:Nat)(a:List (Tm×Nat))(b:List Hy)(t:Tm):(⟨d+k,h,a,b++[.hy t d p]⟩:Sc).hy 0=t.sh 0 (.ofNat k):=by
 simp[Sc.hy]
end
def O2{d:List Fm}{tl:List Tm}(c:∀(i:Nat)(t:Tm),tl[i]? =some t->t.sc 0){j:Jt}{n:Nat}{a:List Fm}{s b:Sc}{τ:Nat->Tm}(e:j.OK d n a)(S:ScOK n (a.map Fm.has) s)(d:ScOK n (a.map Fm.has) b)(f:j.f.has=true)(g:∀v,j.us v->v<n->(Tm.v v).ps b.vs b.dep 0=((Tm.v v).ps s.vs s.dep 0).sub τ)(h:∀i,i<a.length->b.hy i=(s.hy i).sub τ):j.xt tl b=(j.xt tl s).sub τ:=
 IC c j j n n a a .v τ s b e e rfl (oH j.p) S d ⟨λv b a=>by
  rw[S.vl]at a;exact⟨by rw[d.vl];exact a,g v b a⟩,by rw[S.kl,d.kl],λi a=>h i (by rw[S.kl,List.length_map]at a;exact a)⟩ f
open Go.Lg
def UB{m:Nat}:TK (m+1) (.v 0):=uC (Nat.succ_pos _)
theorem ScOK.skip{n:Nat}{a:List Bool}{s:Sc}(h:ScOK n a s):ScOK n a s.skip:=⟨h.vl,h.kl,h.ve,h.ke,h.kh⟩
section
variable{ls:List Fm}{tl:List Tm}(htl:∀(i:Nat)(t:Tm),tl[i]? =some t->t.sc 0){s:Sc}{n:Nat}{hs hs':List Fm}{j:Jt}
include htl
theorem nK(S:ScOK n (hs.map Fm.has) s){k1 k2 h1 h2 l:Nat}{es1 es2:List (Tm×Nat)}{xs1 xs2:List Hy}{τ:Nat->Tm}(e:es1.length=l)(f:es2.length=l)(ex:xs1.length=xs2.length)(u:hs'.length=hs.length+xs1.length)(g:j.OK ls (n+l) hs')(h:ScOK (n+l) (hs'.map Fm.has) ⟨s.dep+k1,h1,s.vs++es1,s.ks++xs1⟩)(k:ScOK (n+l) (hs'.map Fm.has) ⟨s.dep+k2,h2,s.vs++es2,s.ks++xs2⟩)(m:j.f.has=true)(d:∀i,τ (i+k1)=.v (i+k2))(o:∀v,v<l->j.us v->(Tm.v v).ps (s.vs++es2) (s.dep+k2) 0=((Tm.v v).ps (s.vs++es1) (s.dep+k1) 0).sub τ)(p:∀i,i<xs1.length->(⟨s.dep+k2,h2,s.vs++es2,s.ks++xs2⟩:Sc).hy i=((⟨s.dep+k1,h1,s.vs++es1,s.ks++xs1⟩:Sc).hy i).sub τ):j.xt tl ⟨s.dep+k2,h2,s.vs++es2,s.ks++xs2⟩=(j.xt tl ⟨s.dep+k1,h1,s.vs++es1,s.ks++xs1⟩).sub τ:=by
 refine O2 htl g h k m (λv r x=>?_) λi y=>?_
 ·by_cases c:v<l
  ·exact o v c r
  obtain⟨w,rfl⟩:∃w,v=w+l:=⟨v-l,by omega⟩;have b:=Jk S k1 es1 (i:=w);have a:=Jk S k2 es2 (i:=w);rw[e]at b;rw[f]at a;rw[b,a,Eb,XN];congr 1;funext i;exact(d i).symm
 by_cases c:i<xs1.length
 ·exact p i c
 obtain⟨w,rfl⟩:∃w,i=w+xs1.length:=⟨i-xs1.length,by omega⟩;have b:=Kk S k1 h1 (s.vs++es1) xs1 (i:=w) (by simp;omega);have a:=Kk S k2 h2 (s.vs++es2) xs2 (i:=w) (by simp;omega);rw[<-ex]at a;rw[b,a,Eb,XN];congr 1;funext i;exact(d i).symm
theorem lM(S:ScOK n (hs.map Fm.has) s)(a:j.OK ls n hs)(b:j.f.has=true):j.xt tl s.bind=(j.xt tl s).u1:=by
 have h:=nK htl S (k1:=0) (k2:=1) (h1:=s.hyps) (h2:=s.hyps) (l:=0) (es1:=[]) (es2:=[]) (xs1:=[]) (xs2:=[]) (τ:=λi=>.v (i+1)) rfl rfl rfl rfl a (by simp_all) (by simp only[List.append_nil];exact S.bind) b (λi=>rfl) (λv a=>absurd a (Nat.not_lt_zero v)) (λi a=>absurd a (Nat.not_lt_zero i));simp only[List.append_nil,Nat.add_zero]at h;rw[Tm.u1,XN];exact h
theorem Q2{t:Tm}(S:ScOK n (hs.map Fm.has) s)(a:TK s.dep t)(b:j.OK ls (n+1) (bA 1 hs))(c:¬j.us 0)(c:j.f.has=true):j.xt tl (sv s)=(j.xt tl (s.var t)).u1:=by
 have h:=nK htl S (hs':=bA 1 hs) (k1:=0) (k2:=1) (h1:=s.hyps) (h2:=s.hyps) (l:=1) (es1:=[(t,s.dep)]) (es2:=[(.v 0,s.dep+1)]) (xs1:=[]) (xs2:=[]) (τ:=λi=>.v (i+1)) rfl rfl rfl (by simp) b (by rw[XD];simp only[List.append_nil];exact S.var a) (by rw[XD];simp only[List.append_nil];exact S.bind.var (t:=.v 0) UB) c (λi=>rfl) (λv a k=>by
  simp_all) (λi a=>absurd a (Nat.not_lt_zero i))
 simp only[List.append_nil,Nat.add_zero]at h;rw[Tm.u1,XN];exact h
theorem R2{x:Fm}{t:Tm}(S:ScOK n (hs.map Fm.has) s)(b:TK s.dep t)(c:j.OK ls (n+1) (bA 1 hs++[x]))(a:x.has=false)(e:¬j.us 0)(d:j.f.has=true):j.xt tl (sv s).bare=(j.xt tl (s.var t).bare).u1:=by
 have h:=nK htl S (hs':=bA 1 hs++[x]) (k1:=0) (k2:=1) (h1:=s.hyps+1) (h2:=s.hyps+1) (l:=1) (es1:=[(t,s.dep)]) (es2:=[(.v 0,s.dep+1)]) (xs1:=[.bare s.hyps]) (xs2:=[.bare s.hyps]) (τ:=λi=>.v (i+1)) rfl rfl rfl (by simp) c (by rw[LB,a];exact(S.var b).bare) (by rw[LB,a];exact(S.bind.var (t:=.v 0) UB).bare) d (λi=>rfl) (λv f k=>by
  simp_all) (λi g=>by
  obtain rfl:i=0:=by simp_all
  simp[Sc.hy,Tm.sub])
 rw[Tm.u1,XN];exact h
theorem T2{x:Fm}{t:Tm}(S:ScOK n (hs.map Fm.has) s)(b:TK (s.dep+1) t)(c:j.OK ls (n+1) (bA 1 hs++[x]))(a:x.has=true)(e:¬j.us 0)(d:j.f.has=true):j.xt tl ((sv s).skip.bind.hyp (.v 0))=(j.xt tl ((s.bind.var t).hyp (.v 0))).sh 1 (.ofNat 1):=by
 have h:=nK htl S (hs':=bA 1 hs++[x]) (k1:=1) (k2:=2) (h1:=s.hyps+1) (h2:=s.hyps+2) (l:=1) (es1:=[(t,s.dep+1)]) (es2:=[(.v 0,s.dep+1)]) (xs1:=[.hy (.v 0) (s.dep+1) s.hyps]) (xs2:=[.hy (.v 0) (s.dep+2) (s.hyps+1)]) (τ:=λi=>.v (if 1<=i then i+1 else i)) rfl rfl rfl (by simp) c (by rw[LB,a];exact(S.bind.var b).hyp (t:=.v 0) UB true) (by rw[LB,a];exact(S.bind.var (t:=.v 0) UB).skip.bind.hyp (t:=.v 0) UB true) d (λi=>by simp) (λv f k=>by
  simp_all) (λi g=>by
  obtain rfl:i=0:=by simp_all
  rw[show s.dep+2=s.dep+2+0 by rfl,Fb,show s.dep+1=s.dep+1+0 by rfl,Fb];rfl)
 rw[GD,WF];exact h
end
def vJ(d h p:Nat)(a:List (Tm×Nat))(b:List Hy)(t:Tm):(⟨d,h,a,b++[.hy t d p]⟩:Sc).hy 0=t:=(Fb d h 0 p a b t).trans (EE t 0)
def U2(a:List (Tm×Nat))(t:Tm)(d:Nat):(Tm.v 0).ps (a++[(t,d)]) d 0=t:=kS a d t
def mS(a:List (Tm×Nat))(t:Tm)(d:Nat):(Tm.v 0).ps (a++[(t,d)]) (d+1) 0=t.u1:=N2 a t d 1
section
variable{ls:List Fm}{tl:List Tm}(htl:∀(i:Nat)(t:Tm),tl[i]? =some t->t.sc 0){s:Sc}{n:Nat}{hs:List Fm}{j:Jt}{x:Fm}
include htl
theorem V2(S:ScOK n (hs.map Fm.has) s)(b:j.OK ls (n+1) (bA 1 hs++[x]))(a:x.has=true)(c:j.f.has=true):j.xt tl ((s.bind.var (.n1 .fst (.v 0))).hyp (.n1 .snd (.v 0)))=(j.xt tl ((sv s).bind.hyp (.v 0))).sub (cs (.n1 .snd (.v 0)) (cs (.n1 .fst (.v 0)) λi=>.v (i+1))):=by
 have k1:∀{m:Nat}(k:K1),TK (m+1) (.n1 k (.v 0)):=λk=>uK UB (by simp[Tm.cnt])
 exact nK htl S (hs':=bA 1 hs++[x]) (k1:=2) (k2:=1) (h1:=s.hyps+1) (h2:=s.hyps+1) (l:=1) (es1:=[(.v 0,s.dep+1)]) (es2:=[(.n1 .fst (.v 0),s.dep+1)]) (xs1:=[.hy (.v 0) (s.dep+2) s.hyps]) (xs2:=[.hy (.n1 .snd (.v 0)) (s.dep+1) s.hyps]) rfl rfl rfl (by simp) b (by rw[LB,a];exact(S.bind.var (t:=.v 0) UB).bind.hyp (t:=.v 0) UB true) (by rw[LB,a];exact(S.bind.var (k1 .fst)).hyp (k1 .snd) true) c (λi=>rfl) (λv d _=>by
  obtain rfl:v=0:=by omega
  rw[U2,show s.dep+2=s.dep+1+1 from rfl,mS];rfl) (λi e=>by
  obtain rfl:i=0:=by simp_all
  rw[vJ,vJ];rfl)
theorem X2(S:ScOK n (hs.map Fm.has) s)(b:j.OK ls (n+1) (bA 1 hs++[x]))(a:x.has=true)(c:j.f.has=true):j.xt tl ((sv s).skip.bind.hyp (.v 0))=j.xt tl ((sv s).bind.hyp (.v 0)):=by
 have h:=nK htl S (hs':=bA 1 hs++[x]) (k1:=2) (k2:=2) (h1:=s.hyps+1) (h2:=s.hyps+2) (l:=1) (es1:=[(.v 0,s.dep+1)]) (es2:=[(.v 0,s.dep+1)]) (xs1:=[.hy (.v 0) (s.dep+2) s.hyps]) (xs2:=[.hy (.v 0) (s.dep+2) (s.hyps+1)]) (τ:=Tm.v) rfl rfl rfl (by simp) b (by rw[LB,a];exact(S.bind.var (t:=.v 0) UB).bind.hyp (t:=.v 0) UB true) (by rw[LB,a];exact(S.bind.var (t:=.v 0) UB).skip.bind.hyp (t:=.v 0) UB true) c (λi=>rfl) (λv d _=>(FC _).symm) (λi e=>by
  obtain rfl:i=0:=by simp_all
  rw[vJ,vJ];rfl)
 exact h.trans (FC _)
theorem Y2(S:ScOK n (hs.map Fm.has) s)(b:j.OK ls (n+1) (bA 1 hs++[x]))(a:x.has=true)(c:j.f.has=true):j.xt tl ((sv s.bind).bind.hyp (.v 0))=(j.xt tl ((sv s).bind.hyp (.v 0))).sh 2 (.ofNat 1):=by
 rw[GD,WF];exact nK htl S (hs':=bA 1 hs++[x]) (k1:=2) (k2:=3) (h1:=s.hyps+1) (h2:=s.hyps+1) (l:=1) (es1:=[(.v 0,s.dep+1)]) (es2:=[(.v 0,s.dep+2)]) (xs1:=[.hy (.v 0) (s.dep+2) s.hyps]) (xs2:=[.hy (.v 0) (s.dep+3) s.hyps]) (τ:=λi=>.v (if 2<=i then i+1 else i)) rfl rfl rfl (by simp) b (by rw[LB,a];exact(S.bind.var (t:=.v 0) UB).bind.hyp (t:=.v 0) UB true) (by rw[LB,a];exact(S.bind.bind.var (t:=.v 0) UB).bind.hyp (t:=.v 0) UB true) c (λi=>by simp) (λv d _=>by
  obtain rfl:v=0:=by omega
  rw[show s.dep+3=s.dep+2+1 from rfl,mS,show s.dep+2=s.dep+1+1 from rfl,mS];rfl) (λi e=>by
  obtain rfl:i=0:=by simp_all
  rw[vJ,vJ];rfl)
theorem Z2(S:ScOK n (hs.map Fm.has) s)(b:j.OK ls (n+2) (bA 2 hs++[x]))(a:x.has=true)(c:j.f.has=true):j.xt tl ((sv (sv s)).skip.bind.hyp (.v 0))=j.xt tl ((sv (sv s)).bind.hyp (.v 0)):=by
 have h:=nK htl S (hs':=bA 2 hs++[x]) (k1:=3) (k2:=3) (h1:=s.hyps+1) (h2:=s.hyps+2) (l:=2) (es1:=[(.v 0,s.dep+1),(.v 0,s.dep+2)]) (es2:=[(.v 0,s.dep+1),(.v 0,s.dep+2)]) (xs1:=[.hy (.v 0) (s.dep+3) s.hyps]) (xs2:=[.hy (.v 0) (s.dep+3) (s.hyps+1)]) (τ:=Tm.v) rfl rfl rfl (by simp) b (by rw[LB,a];have:=((S.bind.var (t:=.v 0) UB).bind.var (t:=.v 0) UB).bind.hyp (t:=.v 0) UB true;grind[Sc.bind,Sc.var,Sc.hyp,List.append_assoc]) (by rw[LB,a];have:=((S.bind.var (t:=.v 0) UB).bind.var (t:=.v 0) UB).skip.bind.hyp (t:=.v 0) UB true;grind[Sc.bind,Sc.var,Sc.hyp,Sc.skip,List.append_assoc]) c (λi=>rfl) (λv d _=>(FC _).symm) (λi e=>by
  obtain rfl:i=0:=by simp_all
  rw[vJ,vJ];rfl)
 simp only[sv,Sc.bind,Sc.var,Sc.hyp,Sc.skip,List.append_assoc,List.cons_append,List.nil_append]
 grind[FC]
theorem A3(S:ScOK n (hs.map Fm.has) s)(b:j.OK ls (n+2) (bA 2 hs++[x]))(a:x.has=true)(c:j.f.has=true):j.xt tl ((sv (sv s.bind)).bind.hyp (.v 0))=(j.xt tl ((sv (sv s)).bind.hyp (.v 0))).sh 3 (.ofNat 1):=by
 rw[GD,WF];have h:=nK htl S (hs':=bA 2 hs++[x]) (k1:=3) (k2:=4) (h1:=s.hyps+1) (h2:=s.hyps+1) (l:=2) (es1:=[(.v 0,s.dep+1),(.v 0,s.dep+2)]) (es2:=[(.v 0,s.dep+2),(.v 0,s.dep+3)]) (xs1:=[.hy (.v 0) (s.dep+3) s.hyps]) (xs2:=[.hy (.v 0) (s.dep+4) s.hyps]) (τ:=λi=>.v (if 3<=i then i+1 else i)) rfl rfl rfl (by simp) b (by rw[LB,a];have:=((S.bind.var (t:=.v 0) UB).bind.var (t:=.v 0) UB).bind.hyp (t:=.v 0) UB true;grind[Sc.bind,Sc.var,Sc.hyp,List.append_assoc]) (by rw[LB,a];have:=((S.bind.bind.var (t:=.v 0) UB).bind.var (t:=.v 0) UB).bind.hyp (t:=.v 0) UB true;grind[Sc.bind,Sc.var,Sc.hyp,List.append_assoc]) c (λi=>by simp) (λv f _=>by
  have d:s.vs++[(Tm.v 0,s.dep+2),(Tm.v 0,s.dep+3)]=(s.vs++[(Tm.v 0,s.dep+2)])++[(Tm.v 0,s.dep+3)]:=by simp
  have e:s.vs++[(Tm.v 0,s.dep+1),(Tm.v 0,s.dep+2)]=(s.vs++[(Tm.v 0,s.dep+1)])++[(Tm.v 0,s.dep+2)]:=by simp
  rw[d,e];rcases v with _|_|v
  ·rw[show s.dep+4=s.dep+3+1 from rfl,mS,show s.dep+3=s.dep+2+1 from rfl,mS];rfl
  ·rw[kI (e:=(Tm.v 0,s.dep+2)) (by rw[Sa];exact EV _ _),kI (e:=(Tm.v 0,s.dep+1)) (by rw[Sa];exact EV _ _)];rw[show s.dep+4-(s.dep+2)=2 by omega,show s.dep+3-(s.dep+1)=2 by omega];rfl
  ·omega) (λi g=>by
  obtain rfl:i=0:=by simp_all
  rw[vJ,vJ];rfl)
 simp only[sv,Sc.bind,Sc.var,Sc.hyp,List.append_assoc,List.cons_append,List.nil_append];exact h
end
open Go.Lg
abbrev tv(tl:List Tm)(i:Nat):Tm:=match tl[i]? with|some t=>t|none=>.n0 .unit
structure mM(ls lsR:List Fm)(tl:List Tm):Prop where
 q:∀f∈ls,f.tq []
 c:∀(i:Nat)(t:Tm),tl[i]? =some t->t.sc 0
 h:∀(i:Nat)(f:Fm),ls[i]? =some f->f.sc 0/\∃y,lsR[i]? =some y/\FCv y (rz f Tm.v (tv tl i))
 T:∀(i:Nat)(f:Fm),ls[i]? =some f->f.has=true->∃t,tl[i]? =some t/\Ht [] t f.cty
section
variable{lsR:List Fm}{G g:List Ty}{hs HS:List Fm}{s:Sc}
def RP{n:Nat}{a:List Bool}(h:ScOK n a s):∀i,i<n+1->sS (sv s) i=rA (sS s) i:=λi b=>by
 rw[Gk h.bind (.v 0) i b]
 cases i with|zero=>rfl|succ i=>exact Db h i (by omega)
def SoT.sv(H:SoT G g hs HS s)(u:Ty):SoT (G++[u]) (g++[u]) (bA 1 hs) (bA 1 HS) (sv s):=(H.bind u).var (JD G u) UB
def SP(H:SoT G g hs HS s){f:Fm}(a:f.sc (g.length+1))(t:Tm):rz f (sS (sv s)) t=rz f (rA (sS s)) t:=nE f _ _ _ t a (RP H.S)
def Lk(H:SoT G g hs HS s){f:Fm}(a:f.sc g.length)(t:Tm):rz f (sS s.bind) t=rz f (TB (sS s)) t:=nE f _ _ _ t a (Db H.S)
def rF(x y:Fm)(σ:Nat->Tm)(t u:Tm):Fm:=bif x.has then .q .all x.cty (.bin .imp (rz x (TB σ) (.v 0)) (rz y (TB σ) t))else .bin .imp (rz x σ (.n0 .unit)) (rz y σ u)
def kW(H:SoT G g hs HS s){x y:Fm}(d:x.sc g.length)(hq:x.tq g)(hy:y.sc g.length){b:Sc->Jt}{T:Sc->Tm}(j:∀l a c,SoT l g (hs++[x]) a c->(b c).W lsR l a/\FCv (b c).f (rz y (sS c) (T c))):(un x b s).W lsR G HS/\FCv (un x b s).f (rF x y (sS s) (T (s.bind.hyp (.v 0))) (T s.bare)):=by
 unfold un rF;cases e:x.has
 ·have f:=H.bare d hq e (y:=rz x (sS s) (.n0 .unit)) (.refl _);obtain⟨h,i⟩:=j _ _ _ f;exact⟨⟨WC x g G _ _ (uI _ _ hq) H.T.v (λk=>by rw[e]at k;cases k),h⟩,.bin .imp (.refl _) i⟩
 have m:=H.bind x.cty;have f:=m.hyp d hq (JD G x.cty) UB (y:=rz x (sS s.bind) (.v 0)) (.refl _) e;obtain⟨h,i⟩:=j _ _ _ f;refine⟨⟨⟨WC x g _ _ _ (uI _ _ hq) m.T.v λ_=>JD G x.cty,h⟩,rfl⟩,?_⟩;rw[Lk H d];refine .q .all _ (.bin .imp (.refl _) (i.trans ?_));rw[show sS (s.bind.hyp (.v 0))=sS s.bind from rfl,Lk H hy];exact .refl _
end
def YN(x:Fm)(t:Tm)(σ:Nat->Tm)(u:Tm):rz (x.put 0 t 0) σ u=rz x (cs (t.sub σ) σ) u:=by
 rw[oD,SG];congr 1;funext i
 cases i with|zero=>rw[ID];rfl|succ i=>rfl
def xH{x w:Fm}{t:Tm}(h:x.pt t=.ok w):w=x.put 0 t 0:=by
 grind[Fm.pt]
def Gb:∀f:Fm,f.sub Tm.v=f
 :=by intro x;induction x<;>simp_all[Fm.sub,FC,jS]
theorem Mk{f:Fm}(h:f.occ 0=0):(f.low).sh 0 (.ofNat 1)=f:=by
 have e:f.low=f.sub λi=>.v (i-1):=by
  rw[Fm.low,oD];refine wM f _ _ λi a=>?_
  cases i with|zero=>rfl|succ i=>rfl
 rw[e,HE,UN,Y0];refine(wM f _ Tm.v λi a=>?_).trans (Gb f)
 cases i with|zero=>omega|succ i=>rfl
def Ib{F f:Fm}(h:aC F=some f):FCv F (f.sh 0 (.ofNat 1)):=by
 unfold aC at h;split at h
 ·rename_i a;cases h;rw[Mk a];exact .refl _
 grind[Mk,TV,F]
def iB(c a:List Fm)(tl:List Tm)(j:Jt):Prop:=∀(g:List Ty)(b:List Fm)(G:List Ty)(d:List Fm)(s:Sc),SoT G g b d s->j.D c g b->j.OK c g.length b->(j.pv tl s).W a G d/\FCv (j.pv tl s).f (rz j.f (sS s) (j.xt tl s))
section
variable{ls lsR:List Fm}{tl:List Tm}(L:mM ls lsR tl){a b:Jt}{f:Fm}
def B3{i:Nat}:iB ls lsR tl (.leaf false i f):=by
 intro g j G k s H ⟨_,c,d⟩ _;obtain⟨y,x,l,e,h⟩:=H.p i f c d;have:=(List.getElem?_eq_some_iff.1 e).1;have:=H.h;have:s.pl i=s.hyps-1-y.pl:=by grind[Sc.pl]
 refine⟨⟨?_,x,?_,h⟩,.refl _⟩
 ·omega
 grind
include L in
theorem C3{i:Nat}:iB ls lsR tl (.leaf true i f):=by
 intro g j G l s H ⟨_,h⟩ _;obtain⟨c,y,e,k⟩:=L.h i f h;refine⟨⟨y,e,?_⟩,.refl _⟩;show FCv y (rz f (sS s) (tv tl i));rw[nE f 0 (sS s) Tm.v _ c λi d=>absurd d (Nat.not_lt_zero i)];exact k
theorem D3{t:Tm}:iB ls lsR tl (.refl t):=by
 intro g c G c s H ⟨_,_,h⟩ _;refine⟨lK H.T h,?_⟩;show FCv (.eq (t.ps s.vs s.dep 0) (t.ps s.vs s.dep 0)) (.eq (t.sub (sS s)) (t.sub (sS s)));rw[eD];exact .refl _
theorem Nk(x y:Fm)(σ:Nat->Tm)(t:Tm):∃u v,rz (.bin .and x y) σ t=.bin .and (rz x σ u) (rz y σ v)/\u=(bif x.has&&y.has then .n1 .fst t else t)/\v=(bif x.has&&y.has then .n1 .snd t else t):=by
 grind[rz]
theorem F3(i:iB ls lsR tl a):iB ls lsR tl (.p1 .andL a f):=by
 intro g j G k s H ⟨_,l,y,e⟩ ⟨_,m,_⟩;obtain⟨n,c⟩:=i g j G k s H l m;have o:(Jt.p1 .andL a f).xt tl s=bif f.has&&y.has then .n1 .fst (a.xt tl s)else a.xt tl s:=by
  show(bif a.f.both then .n1 .fst (a.xt tl s)else a.xt tl s)=_;rw[e];rfl
 rw[e]at c;obtain⟨u,v,p,r,_⟩:=Nk f y (sS s) (a.xt tl s);rw[p]at c;obtain⟨X,Y,d,t,w⟩:=c.ofBin;have h:((Jt.p1 .andL a f).pv tl s).f=X:=by show(match (a.pv tl s).f with|.bin _ x _=>x|f=>f)=_;rw[d]
 refine⟨⟨n,Y,?_⟩,?_⟩
 ·show FCv (a.pv tl s).f (.bin .and ((Jt.p1 .andL a f).pv tl s).f Y);rw[h,d];exact .refl _
 rw[h,o,<-r];exact t
theorem G3(i:iB ls lsR tl a):iB ls lsR tl (.p1 .andR a f):=by
 intro g j G k s H ⟨_,l,y,e⟩ ⟨_,m,_⟩;obtain⟨n,c⟩:=i g j G k s H l m;have o:(Jt.p1 .andR a f).xt tl s=bif y.has&&f.has then .n1 .snd (a.xt tl s)else a.xt tl s:=by
  show(bif a.f.both then .n1 .snd (a.xt tl s)else a.xt tl s)=_;rw[e];rfl
 rw[e]at c;obtain⟨u,v,p,_,r⟩:=Nk y f (sS s) (a.xt tl s);rw[p]at c;obtain⟨X,Y,d,w,t⟩:=c.ofBin;have h:((Jt.p1 .andR a f).pv tl s).f=Y:=by show(match (a.pv tl s).f with|.bin _ _ y=>y|f=>f)=_;rw[d]
 refine⟨⟨n,X,?_⟩,?_⟩
 ·show FCv (a.pv tl s).f (.bin .and X ((Jt.p1 .andR a f).pv tl s).f);rw[h,d];exact .refl _
 rw[h,o,<-r];exact t
theorem Jb(x y:Tm):Cv (.n1 .fst (.n2 .pair x y)) x:=.of (.fst y (.refl x))
theorem Kb(x y:Tm):Cv (.n1 .snd (.n2 .pair x y)) y:=.of (.snd x (.refl y))
theorem I3(n:iB ls lsR tl a)(o:iB ls lsR tl b):iB ls lsR tl (.p2 .andI a b f):=by
 intro g j G l s H ⟨_,p,h,e⟩ ⟨_,r,i,_⟩;obtain⟨t,c⟩:=n g j G l s H p r;obtain⟨u,d⟩:=o g j G l s H h i;refine⟨⟨t,u,.refl _⟩,?_⟩;show FCv (.bin .and (a.pv tl s).f (b.pv tl s).f) (rz f (sS s) (bif a.f.has then(bif b.f.has then .n2 .pair (a.xt tl s) (b.xt tl s)else a.xt tl s)else b.xt tl s));rw[e];simp only[rz];cases m:a.f.has<;>cases v:b.f.has
 ·exact .bin .and (c.trans (XC λk=>by rw[m]at k;cases k)) d
 ·exact .bin .and (c.trans (XC λk=>by rw[m]at k;cases k)) d
 ·exact .bin .and c (d.trans (XC λk=>by rw[v]at k;cases k))
 exact .bin .and (c.trans (XC λ_=>(Jb _ _).symm)) (d.trans (XC λ_=>(Kb _ _).symm))
include L in
theorem J3(t:iB ls lsR tl a)(u:iB ls lsR tl b):iB ls lsR tl (.p2 .impE a b f):=by
 intro g j G l s H ⟨_,v,d,x,e,w⟩ ⟨_,y,h,_⟩;obtain⟨m,c⟩:=t g j G l s H v y;obtain⟨n,o⟩:=u g j G l s H d h;have ex:=yM w;have z:=ex.has;rw[e]at c;show(im (bif b.f.has then ou (b.xt tl s) (a.pv tl s)else a.pv tl s) (b.pv tl s)).W lsR G l/\FCv (im _ _).f (rz f (sS s) (bif b.f.has then .n2 .app (a.xt tl s) (b.xt tl s)else a.xt tl s));simp only[rz,z]at c;cases i:b.f.has
 ·simp only[i,cond_false]at c⊢;exact QP m n c ((mK ex _ _).trans ((XC λk=>by rw[i]at k;cases k).trans o.symm))
 simp only[i,cond_true]at c⊢;have p:=eC L.T b g g.length j G s rfl d h H.S H.T i;rw[<-GC ex.er]at p;obtain⟨A,r⟩:=gM m c p;have B:(Fm.bin .imp (rz x (TB (sS s)) (.v 0)) (rz f (TB (sS s)) (bif f.has then(a.xt tl s).ap else(a.xt tl s).u1))).put 0 (b.xt tl s) 0=.bin .imp (rz x (sS s) (b.xt tl s)) (rz f (sS s) (bif f.has then .n2 .app (a.xt tl s) (b.xt tl s)else a.xt tl s)):=by
  show Fm.bin .imp ((rz x _ _).put 0 _ 0) ((rz f _ _).put 0 _ 0)=_;rw[fM,fM,ID];cases f.has
  ·rw[cond_false,cond_false,WN]
  rw[cond_true,cond_true,Ik]
 rw[B]at r;obtain⟨w1,w2⟩:=QP A n r ((mK ex _ _).trans o.symm);exact⟨w1,w2.trans (XC λk=>by rw[k];exact .refl _)⟩
theorem L3{x:Fm}(h:iB ls lsR tl a):iB ls lsR tl (.impI x a):=by
 intro g r G t s H ⟨_,⟨_,i⟩,_,j⟩ ⟨l,_,d⟩;have m:=Jt.FKj d;obtain⟨w1,w2⟩:=kW (lsR:=lsR) H l.sc (ED _ _ i) m.sc (b:=a.pv tl) (T:=a.xt tl) λn c o p=>h g _ n c o p j d
 refine⟨w1,w2.trans ?_⟩;show FCv (rF x a.f _ _ _) (rz (.bin .imp x a.f) (sS s) (bif x.has then .lam x.cty (a.xt tl (s.bind.hyp (.v 0)))else a.xt tl s.bare));unfold rF;simp only[rz];cases e:x.has
 ·exact .bin .imp (XC λk=>by rw[e]at k;cases k) (.refl _)
 refine .q .all _ (.bin .imp (.refl _) (XC λk=>?_));rw[k];exact(vW _ _).symm
end
open Go.Lg
section
variable{ls lsR:List Fm}{tl:List Tm}(L:mM ls lsR tl){a b:Jt}{f:Fm}
def M3{u:Bool}{w:Ty}(i:iB ls lsR tl a):iB ls lsR tl (.all u w a):=by
 intro g j G p s H ⟨_,_,l,m⟩ ⟨c,_,d⟩;have n:=H.sv w;have e:a.OK ls (g++[w]).length (bA 1 j):=by rw[wC];exact d
 obtain⟨o,h⟩:=i _ _ _ _ _ n l e;refine⟨⟨o,rfl⟩,?_⟩;show FCv (.q .all w (a.pv tl (sv s)).f) _;rw[SP H (Jt.FKj d).sc]at h;cases u
 ·refine .q .all w (h.trans (XC λk=>?_));show Cv _ (bif a.f.has then(Tm.lam w (a.xt tl (sv s))).ap else _);rw[k];exact(vW _ _).symm
 refine .q .all w (h.trans (XC λk=>?_));rw[Q2 L.c H.S (nF w c _) d (m rfl) k];exact .refl _
def N3{u:Bool}{t:Tm}(l:iB ls lsR tl a):iB ls lsR tl (.ins u t a f):=by
 intro g m G h s H ⟨_,_,n,w,x,o,p,r⟩ ⟨_,_,v,_⟩;obtain⟨i,d⟩:=l g m G h s H n v;have y:=xH r;subst y;rw[p]at d;have z:t.ps s.vs s.dep 0=t.sub (sS s):=eD s.vs s.dep t 0;have j:=lK H.T o;show(ou (t.ps s.vs s.dep 0) (a.pv tl s)).W lsR G h/\FCv (ou (t.ps s.vs s.dep 0) (a.pv tl s)).f (rz (x.put 0 t 0) (sS s) ((Jt.ins u t a (x.put 0 t 0)).xt tl s));rw[YN,<-z];cases u
 ·obtain⟨e,c⟩:=gM i d j;rw[lS]at c;refine⟨e,c.trans (XC λk=>?_)⟩;rw[k,cond_true,Ik];exact .refl _
 obtain⟨e,c⟩:=gM i d j;rw[lS,WN]at c;exact⟨e,c⟩
include L in
theorem O3{u:Bool}{x:Fm}{t:Tm}(r:iB ls lsR tl a):iB ls lsR tl (.ex u x t a):=by
 intro g j G z s H ⟨⟨_,A⟩,_,l,w,y,v,B,C,D,E⟩ ⟨F,_,c,_⟩;obtain⟨m,I⟩:=r g j G z s H l c;have J:=xH D;subst J C;have ex:=yM E;have i:t.ps s.vs s.dep 0=t.sub (sS s):=eD s.vs s.dep t 0;have K:=lK H.T B;have d:y.has=a.f.has:=by rw[<-ex.has,oD,ZF]
 have ec:y.cty=a.f.cty:=by rw[<-GC ex.er,oD,PP]
 have hy:y.sc (g.length+1):=F.sc
 --n M part h
 have o:FCv (a.pv tl s).f (rz y (cs (t.sub (sS s)) (sS s)) (a.xt tl s)):=by
  rw[<-YN];exact I.trans (mK ex.symm _ _)
 cases u
 ·refine⟨m,o.trans ?_⟩;show FCv _ (rz (.q .ex w y) (sS s) (bif a.f.has then .n2 .pair (t.ps s.vs s.dep 0) (a.xt tl s)else t.ps s.vs s.dep 0));simp only[rz,d];cases e:a.f.has
  ·rw[cond_false,cond_false,i];exact XC λk=>by rw[d,e]at k;cases k
  rw[cond_true,cond_true,i];exact KE y (Cv.cs (Jb _ _).symm λ_=>.refl _) (Kb _ _).symm
 have N:=H.sv w;have hq:(Fm.q .exU w (rz y (sS (sv s)) (a.tx tl s.bind))).hq G:=WC y _ (G++[w]) _ _ (uI _ _ (ED _ _ A)) N.T.v λk=>by
  rw[d]at k;unfold Jt.tx;rw[k,cond_true,lM L.c H.S c k,ec];exact mE w (eC L.T a g g.length j G s rfl l c H.S H.T k)
 have p:FCv (rz y (sS (sv s)) (a.tx tl s.bind)) (rz y (rA (sS s)) (a.xt tl s).u1):=by
  rw[SP H hy];refine XC λk=>?_
  rw[d]at k;unfold Jt.tx;rw[k,cond_true,lM L.c H.S c k];exact .refl _
 refine⟨⟨hq,m,w,_,K,rfl,?_⟩,?_⟩
 ·refine(p.put _ 0 0).trans ?_;rw[lS,WN,i];exact o.symm
 show FCv (.q .exU w (rz y (sS (sv s)) (a.tx tl s.bind))) (.q .exU w (rz y (rA (sS s)) (a.xt tl s).u1));exact .q .exU w p
include L in
theorem P3{x:Fm}(n:iB ls lsR tl a)(o:iB ls lsR tl b):iB ls lsR tl (.subst x a b f):=by
 intro g h G i s H ⟨_,⟨_,p⟩,r,d,t,u,w,e,y,z,A⟩ ⟨_,B,C,c,_⟩;obtain⟨D,j⟩:=n g h G i s H r C;obtain⟨E,F⟩:=o g h G i s H d c;have I:=xH y;have J:=xH A;subst I J;have ex:=yM z;have l:x.has=b.f.has:=by rw[<-ex.has,oD,ZF]
 have ec:x.cty=b.f.cty:=by rw[<-GC ex.er,oD,PP]
 have K:=H.sv .nat;rw[e]at j;have hq:(rz x (sS (sv s)) (b.tx tl s.bind)).hq (G++[.nat]):=WC x _ _ _ _ (uI _ _ (ED _ _ p)) K.T.v λk=>by
  rw[l]at k;unfold Jt.tx;rw[k,cond_true,lM L.c H.S c k,ec];exact mE .nat (eC L.T b g g.length h G s rfl d c H.S H.T k)
 have M:FCv (rz x (sS (sv s)) (b.tx tl s.bind)) (rz x (rA (sS s)) (b.xt tl s).u1):=by
  rw[SP H B.sc];refine XC λk=>?_
  rw[l]at k;unfold Jt.tx;rw[k,cond_true,lM L.c H.S c k];exact .refl _
 have m:∀v:Tm,FCv ((rz x (sS (sv s)) (b.tx tl s.bind)).put 0 (v.sub (sS s)) 0) (rz (x.put 0 v 0) (sS s) (b.xt tl s)):=λv=>by
  refine(M.put _ 0 0).trans ?_;rw[lS,WN,YN];exact .refl _
 refine⟨⟨hq,D,E,t.sub (sS s),u.sub (sS s),j,(m t).trans ((mK ex _ _).trans F.symm),?_⟩,?_⟩
 ·exact(m u).symm
 exact .refl _
theorem Ok(t:Tm)(σ:Nat->Tm)(u:Tm):(t.sub (rA σ)).put 0 u 0=t.sub (cs u σ):=by
 rw[VC,HD];congr 1;funext i
 cases i with|zero=>exact ID u|succ i=>exact gS _ _
theorem pK(s:Ty)(b a:Tm):Cv (.n2 .app (.lam s b) a) (b.sub (cs a Tm.v)):=by
 have h:=Par.beta s (Par.refl b) (Par.refl a);have e:=Ok b Tm.v a;rw[wW,FC]at e;rw[e]at h;exact .of h
theorem Pk(w:Ty)(S:Ty)(t:Tm):Cv (.n2 .app (.lam S (eH w)) t) (.n2 .pair (.lam w (.n1 .fst t.ap)) (.lam w (.n1 .snd t.ap))):=pK S (eH w) t
theorem Q3(w S:Ty)(t:Tm):Cv (Tm.n1 .fst (.n2 .app (.lam S (eH w)) t)).ap (.n1 .fst t.ap):=((((Pk w S t).n1 .fst).trans (Jb _ _)).ap).trans (vW _ _)
theorem R3(w S:Ty)(t:Tm):Cv (Tm.n1 .snd (.n2 .app (.lam S (eH w)) t)).ap (.n1 .snd t.ap):=((((Pk w S t).n1 .snd).trans (Kb _ _)).ap).trans (vW _ _)
theorem S3(n:iB ls lsR tl a):iB ls lsR tl (.p1 .choice a f):=by
 intro g o G p s H ⟨_,r,w,u,x,e,_,y,v,z⟩ ⟨_,A,_⟩;obtain⟨B,l⟩:=n g o G p s H r A;have C:=xH v;subst C z;rw[e]at l;refine⟨B,l.trans ?_⟩;show FCv (rz (.q .all w (.q .ex u x)) _ _) (rz _ (sS s) (YI a.f (a.xt tl s)));rw[e];have D:((x.sh 2 (.ofNat 1)).put 0 vapp 0).has=x.has:=by rw[oD,ZF,HE,QG,ZF]
 --h d below,with j for h function and E c
 have key:∀(τ:Nat->Tm)(t:Tm),rz ((x.sh 2 (.ofNat 1)).put 0 vapp 0) τ t=rz x (cs (.n2 .app (τ 1) (τ 0)) (cs (τ 0) λi=>τ (i+2))) t:=λτ t=>by
  rw[YN,HE,QG,SG];congr 1;funext i;rcases i with _|_|i
  ·rfl
  ·rfl
  rfl
 show FCv (.q .all w (rz (.q .ex u x) (rA (sS s)) (a.xt tl s).ap)) (rz (.q .ex (.two true w u) (.q .all w _)) (sS s) (bif x.has then .n2 .app (.lam (.two true w (.two false u x.cty)) (eH w)) (a.xt tl s)else a.xt tl s));simp only[rz,Fm.has,D];cases k:x.has
 ·simp only[cond_false,key];refine .q .all w ?_;exact XC λm=>by rw[k]at m;cases m
 simp only[cond_true,key];refine .q .all w (KE x (λi=>?_) (R3 _ _ _).symm);rcases i with _|_|i
 ·exact(Q3 _ _ _).symm
 ·exact .refl _
 exact .refl _
end
def nS(A:Tm):(λi=>(Tm.v i).put 0 A 0)=cs A Tm.v:=by
 funext i
 cases i with|zero=>exact ID A|succ i=>rfl
def TP(f:Fm)(A:Tm):f.put 0 A 0=f.sub (cs A Tm.v):=by rw[oD,nS]
def Qk(σ:Nat->Tm)(A:Tm):(λi=>(rA σ i).sub (cs A Tm.v))=cs A σ:=by
 funext i
 cases i with
 |zero=>rfl|succ i=>
  rw[<-nS];exact gS _ _
def Rk(x y:Fm)(σ:Nat->Tm)(t a A:Tm):(rF x y (rA σ) t a).put 0 A 0=rF x y (cs A σ) (t.sub (rA (cs A Tm.v))) (a.sub (cs A Tm.v)):=by
 rw[TP];unfold rF;cases x.has
 ·simp only[cond_false,Fm.sub,WE,Qk];rfl
 simp only[cond_true,Fm.sub,WE,Bk,Qk];rfl
section
variable{ls lsR:List Fm}{tl:List Tm}(L:mM ls lsR tl){a b:Jt}{f:Fm}
def T3{g G:List Ty}{c d:List Fm}{s:Sc}(H:SoT G g c d s){x y:Fm}(c:x.sc (g.length+1))(hy:y.sc (g.length+1))(t c:Tm):rF x y (sS (sv s)) t c=rF x y (rA (sS s)) t c:=by
 have h:=RP H.S
 grind[rF,nE]
include L in
theorem U3(I:iB ls lsR tl a)(J:iB ls lsR tl b):iB ls lsR tl (.p2 .exE a b f):=by
 intro g r G t s H ⟨_,v,⟨u,e,l⟩,_,C⟩ ⟨_,w,c,_⟩;obtain⟨D,j⟩:=I g r G t s H v w;have m:=(Jt.FKj w).sc;have p:=YF L.q a g r H.q v;have K:a.f.has=true:=by rw[e];rfl
 have h:=eC L.T a g g.length r G s rfl v w H.S H.T K;have eq:a.f.qs=u:=by rw[e];rfl
 show(im (bif a.f.bd.has then ou (.n1 .snd (a.xt tl s)) (ou (.n1 .fst (a.xt tl s)) (.all false a.f.qs (un a.f.bd (b.pv tl) (sv s))))else ou (a.xt tl s) (.all false a.f.qs (un a.f.bd (b.pv tl) (sv s)))) (a.pv tl s)).W lsR G t/\FCv (im _ _).f (rz f (sS s) (bif a.f.bd.has then .n2 .app (.lam (.two false a.f.qs a.f.bd.cty) (b.xt tl ((s.bind.var (.n1 .fst (.v 0))).hyp (.n1 .snd (.v 0))))) (a.xt tl s)else .n2 .app (.lam a.f.qs (b.xt tl (sv s).bare)) (a.xt tl s)));rw[eq];generalize a.f.bd=x at e l c⊢;rw[e]at m p h j;have m:x.sc (g.length+1):=m;have p:x.tq (g++[u]):=p;have fb:b.f.sc (g.length+1):=(Jt.FKj c).sc;have M:=H.sv u;obtain⟨w1,w2⟩:=kW (lsR:=lsR) M (x:=x) (y:=b.f) (by rw[wC];exact m) p (by rw[wC];exact fb) (b:=b.pv tl) (T:=b.xt tl) λN y O P=>J _ _ N y O P l (by rw[wC];exact c)
 rw[T3 H m fb]at w2;have E:(Jt.all false u (un x (b.pv tl) (sv s))).W lsR G t:=⟨w1,rfl⟩;have w3:FCv (Jt.all false u (un x (b.pv tl) (sv s))).f (.q .all u (rF x b.f (rA (sS s)) (b.xt tl ((sv s).bind.hyp (.v 0))) (b.xt tl (sv s).bare))):=.q .all u w2;have n:FCv b.f (f.sh 0 (.ofNat 1)):=Ib C;have z:f.has=b.f.has:=SA (IF C);simp only[rz]at j;simp only[Fm.cty]at h;cases k:x.has
 ·simp only[k,cond_false]at j h⊢;obtain⟨A,d⟩:=gM E w3 h;rw[Rk]at d;unfold rF at d;simp only[k,cond_false]at d;obtain⟨p1,p2⟩:=QP A D d ((XC λo=>by rw[k]at o;cases o).trans j.symm);refine⟨p1,p2.trans ((mK n _ _).trans ?_)⟩;rw[fS];exact XC λ_=>(pK _ _ _).symm
 simp only[k,cond_true]at j h⊢;obtain⟨A,d⟩:=gM E w3 (t:=.n1 .fst (a.xt tl s)) ⟨_,h⟩;rw[Rk]at d;unfold rF at d;simp only[k,cond_true]at d;obtain⟨Q,F⟩:=gM A d (t:=.n1 .snd (a.xt tl s)) ⟨_,h⟩;have R:∀(τ:Nat->Tm)(T B:Tm),(Fm.bin .imp (rz x (TB τ) (.v 0)) (rz b.f (TB τ) T)).put 0 B 0=.bin .imp (rz x τ B) (rz b.f τ (T.put 0 B 0)):=λτ T B=>by
  show Fm.bin .imp ((rz x _ _).put 0 _ 0) ((rz b.f _ _).put 0 _ 0)=_;rw[fM,fM,ID]
 rw[R]at F;obtain⟨p1,p2⟩:=QP Q D F j.symm;refine⟨p1,p2.trans ((mK n _ _).trans ?_)⟩;rw[fS,Ok];refine XC λo=>?_
 rw[z]at o;rw[V2 L.c H.S c k o];refine .trans ?_ (pK _ _ _).symm;rw[HD];refine Cv.subst _ λi=>?_
 rcases i with _|_|i
 ·exact .refl _
 ·exact .refl _
 exact .refl _
end
open Go.Lg
theorem Sk{t:Tm}{ρ:Nat->Nat}{c:Nat}(h:∀j,ρ j≠c):(t.ren ρ).occ c=0:=by
 grind[vM,absurd]
theorem UP:∀(f:Fm)(ρ:Nat->Nat)(c:Nat),(∀j,ρ j≠c)->(f.ren ρ).occ c=0
 |.eq a b,ρ,c,h=>by grind[Fm.ren,Fm.occ,Sk]|.bin _ f g,ρ,c,h=>by simp only[Fm.ren,Fm.occ,UP f ρ c h,UP g ρ c h]|.q _ _ f,ρ,c,h=>by
  refine UP f _ _ λj=>?_
  cases j with|zero=>simp[dC]|succ j=>have:=h j;simp only[dC];omega
def Lb(f:Fm):(f.sh 0 (.ofNat 1)).occ 0=0:=by
 rw[HE,UN];simp[UP]
def Mb:∀(f:Fm)(σ τ:Nat->Tm),(f.sub σ).sub τ=f.sub λi=>(σ i).sub τ
 :=by intro x;induction x<;>simp_all[Fm.sub,HD,VN]
def Tk(f:Fm):(f.sh 0 (.ofNat 1)).low=f:=by
 rw[Fm.low,TP,HE,UN,QG,Mb];exact Gb f
section
variable{ls lsR:List Fm}{tl:List Tm}(L:mM ls lsR tl){a b:Jt}{f:Fm}
include L in
theorem V3(U:iB ls lsR tl a)(M:iB ls lsR tl b):iB ls lsR tl (.p2 .exUE a b f):=by
 intro g C G r s H ⟨_,F,⟨u,e,o⟩,_,N,O⟩ ⟨ff,D,c,_⟩;obtain⟨V,t⟩:=U g C G r s H F D;have fk:=Jt.FKj D;have j:=fk.sc;have p:=YF L.q a g C H.q F;have v:a.f.qs.size<=64:=by
  rw[e]at fk⊢;exact aD (DA fk.shp).1
 have w:a.f.has=a.f.bd.has:=by rw[e];rfl
 have y:a.f.cty=a.f.bd.cty:=by rw[e];rfl
 --W l
 have d:∀{Q:Jt}{E:Fm},FCv (a.pv tl s).f (.q .exU u E)->Q.W lsR (G++[u]) (bA 1 r++[E])->∀T:Tm,FCv Q.f (rz b.f (sS (sv s)) T)->(f.has=true->Cv T ((Jt.p2 .exUE a b f).xt tl s).u1)->(Jt.p2 .exUE (a.pv tl s) Q (rz f (sS s) ((Jt.p2 .exUE a b f).xt tl s))).W lsR G r/\FCv (Jt.p2 .exUE (a.pv tl s) Q (rz f (sS s) ((Jt.p2 .exUE a b f).xt tl s))).f (rz f (sS s) ((Jt.p2 .exUE a b f).xt tl s)):=λ{Q E}X Y T P Z=>by
  refine⟨⟨V,⟨u,E,(rz f (sS s) ((Jt.p2 .exUE a b f).xt tl s)).sh 0 (.ofNat 1),X,Y,?_,Lb _,?_⟩,?_⟩,.refl _⟩
  ·refine P.trans ((mK (Ib N) _ _).trans ?_);rw[nE (f.sh 0 (.ofNat 1)) _ _ (rA (sS s)) _ (RI 1 f 0 _ ff.sc) (RP H.S),show rA (sS s)=cs (.v 0) (TB (sS s)) by funext i;cases i<;>rfl,fS,Hk];exact XC Z
  ·rw[Tk];exact .refl _
  rw[P.has,jJ]
 have h:(Jt.p2 .exUE a b f).xt tl s=bif a.f.bd.has then .n2 .app (.lam a.f.bd.cty (b.xt tl ((s.bind.var a.f.qs.ini).hyp (.v 0)))) (a.xt tl s)else b.xt tl (s.var a.f.qs.ini).bare:=rfl;have z:f.has=b.f.has:=SA (IF N);show(Jt.p2 .exUE (a.pv tl s) (bif a.f.bd.has then im (ou (a.xt tl s.bind) (un a.f.bd (b.pv tl) (sv s).skip)) (.leaf false 0 (rz a.f.bd (sS (sv s)) (a.xt tl s.bind)))else b.pv tl (sv s).bare) (rz f (sS s) _)).W lsR G r/\FCv (Jt.p2 .exUE _ _ _).f _;rw[e]at j p t;generalize a.f.bd=x at e o c h w y j p t⊢;have j:x.sc (g.length+1):=j;have p:x.tq (g++[u]):=p;have fb:b.f.sc (g.length+1):=(Jt.FKj c).sc;have R:=H.sv u;have m:b.OK ls (g++[u]).length (bA 1 C++[x]):=by rw[wC];exact c
 simp only[rz]at t;cases k:x.has
 ·simp only[k,cond_false]at h⊢;have I:=R.bare (x:=x) (by rw[wC];exact j) p k (y:=rz x (rA (sS s)) (a.xt tl s).u1) (by rw[SP H j];exact XC λn=>by rw[k]at n;cases n);obtain⟨w1,w2⟩:=M _ _ _ _ _ I o m;refine d t w1 _ w2 λn=>?_
  rw[z]at n;rw[h,R2 L.c H.S (nF _ v _) c k O n];exact .refl _
 simp only[k,cond_true]at h⊢;have A:a.f.has=true:=by rw[w];exact k
 have J:=lM L.c H.S D A;have I:=R.skip (rz x (sS (sv s)) (a.xt tl s.bind));obtain⟨w1,w2⟩:=kW (lsR:=lsR) I (x:=x) (y:=b.f) (by rw[wC];exact j) p (by rw[wC];exact fb) (b:=b.pv tl) (T:=b.xt tl) λG' K s' H'=>M _ _ G' K s' H' o m
 unfold rF at w2;simp only[k,cond_true]at w2;have ht:Ht (G++[u]) (a.xt tl s.bind) x.cty:=by
  rw[J,<-y];exact mE u (eC L.T a g g.length C G s rfl F D H.S H.T A)
 obtain⟨q1,S⟩:=gM w1 w2 ht;have e3:∀(τ:Nat->Tm)(T B:Tm),(Fm.bin .imp (rz x (TB τ) (.v 0)) (rz b.f (TB τ) T)).put 0 B 0=.bin .imp (rz x τ B) (rz b.f τ (T.put 0 B 0)):=λτ T B=>by
  show Fm.bin .imp ((rz x _ _).put 0 _ 0) ((rz b.f _ _).put 0 _ 0)=_;rw[fM,fM,ID]
 rw[e3,show sS (sv s).skip=sS (sv s)from rfl]at S;have hl:(Jt.leaf false 0 (rz x (sS (sv s)) (a.xt tl s.bind))).W lsR (G++[u]) (bA 1 r++[rz x (sS (sv s)) (a.xt tl s.bind)]):=⟨by simp,_,by simp,.refl _⟩;obtain⟨p1,p2⟩:=QP q1 hl S (.refl _);refine d (t.trans (.q .exU u ?_)) p1 _ p2 λn=>?_
 ·rw[SP H j,J];exact .refl _
 rw[z]at n;rw[h,T2 L.c H.S (nF _ v _) c k O n,J,VC,nS];exact(pK _ _ _).symm
end
def yW(f:Fm)(k:Nat)(c:Tm):(f.sh 1 (.ofNat k)).put 0 c 0=f.sub (cs c λi=>.v (i+k)):=by
 rw[TP,HE,QG,Mb];congr 1;funext i
 cases i with
 |zero=>rfl|succ i=>
  rw[show iD 1 k (i+1)=i+k+1 by unfold iD;rw[if_pos (by omega)];omega];rfl
def Nb(t:Tm)(k:Nat)(c:Tm):t.u1.sub (cs c λi=>.v (i+k))=t.sh 0 (.ofNat k):=by
 rw[Tm.u1,Eb,XN];rfl
def X3(x:Fm)(σ:Nat->Tm)(R c:Tm)(k:Nat):(rz x (rA σ) R).sub (cs c λi=>.v (i+k))=rz x (cs c λi=>(σ i).sh 0 (.ofNat k)) (R.sub (cs c λi=>.v (i+k))):=by
 rw[WE];congr 1;funext i
 cases i with|zero=>rfl|succ i=>exact Nb _ _ _
def bI(tl:List Tm)(l:Bool)(x:Fm)(b:Jt)(s:Sc):Tm:=match l with|false=>.lam .nat (.lam x.cty (b.xt tl ((sv s).bind.hyp (.v 0))))|true=>.lam .nat (.lam .list (.lam x.cty (b.xt tl ((sv (sv s)).bind.hyp (.v 0)))))
def kk:Bool->K3|false=>.re|true=>.fo
def Uk(tl:List Tm)(l:Bool)(x:Fm)(a b:Jt)(s:Sc)(n:Tm):dD tl l x a b s n=.n3 (kk l) x.cty (a.xt tl s) (bI tl l x b s) n:=by cases l<;>rfl
def Vk(a:List Fm)(n:Nat)(c:List Fm)(l:Bool)(x:Fm)(b:Jt):Prop:=match l with|false=>b.OK a (n+1) (bA 1 c++[x])|true=>b.OK a (n+2) (bA 2 c++[x.sh 1 (.ofNat 1)])
section
variable{ls lsR:List Fm}{tl:List Tm}(L:mM ls lsR tl){a b:Jt}{f:Fm}
include L in
theorem Pb{n:Nat}{c:List Fm}{s:Sc}{l:Bool}{x:Fm}(S:ScOK n (c.map Fm.has) s)(d:Vk ls n c l x b)(e:x.has=true)(g:b.f.has=true):bI tl l x b s.bind=(bI tl l x b s).u1:=by
 cases l
 ·show Tm.lam .nat (.lam x.cty (b.xt tl ((sv s.bind).bind.hyp (.v 0))))=_;rw[Y2 L.c S d e g];rfl
 show Tm.lam .nat (.lam .list (.lam x.cty (b.xt tl ((sv (sv s.bind)).bind.hyp (.v 0)))))=_;rw[A3 L.c S d (by rw[SA (SD _ x 1)];exact e) g];rfl
theorem Y3(s:Ty)(A B R:Tm)(h:R=.n3 .re s A.u1 (Tm.lam .nat (.lam s B)).u1 (.v 0)):Cv (.n3 .re s A.u1 (Tm.lam .nat (.lam s B)).u1 (.n1 .succ (.v 0))) (B.put 0 R 0):=by
 have c:Cv (.n3 .re s A.u1 (Tm.lam .nat (.lam s B)).u1 (.n1 .succ (.v 0))) (.n2 .app (.n2 .app (Tm.lam .nat (.lam s B)).u1 (.v 0)) R):=h▸.of (.reS s (.refl _) (.refl _) (.refl _));refine c.trans ?_;have d:Cv (.n2 .app (Tm.lam .nat (.lam s B)).u1 (.v 0)) ((Tm.lam s (B.sh 2 (.ofNat 1))).sub (cs (.v 0) Tm.v)):=pK .nat (.lam s (B.sh 2 (.ofNat 1))) (.v 0);refine(d.n2 .app (.refl R)).trans ((pK s _ R).trans ?_);rw[HD,GD,lE,VC,nS];refine Cv.subst _ λi=>?_
 rcases i with _|_|i
 ·exact .refl _
 ·exact .refl _
 exact .refl _
theorem Z3(s:Ty)(A B R:Tm)(h:R=.n3 .fo s A.u1.u1 (Tm.lam .nat (.lam .list (.lam s B))).u1.u1 (.v 0)):Cv (.n3 .fo s A.u1.u1 (Tm.lam .nat (.lam .list (.lam s B))).u1.u1 (.n2 .cons (.v 1) (.v 0))) (B.put 0 R 0):=by
 have c:Cv (.n3 .fo s A.u1.u1 (Tm.lam .nat (.lam .list (.lam s B))).u1.u1 (.n2 .cons (.v 1) (.v 0))) (.n2 .app (.n2 .app (.n2 .app (Tm.lam .nat (.lam .list (.lam s B))).u1.u1 (.v 1)) (.v 0)) R):=h▸.of (.foC s (.refl _) (.refl _) (.refl _) (.refl _));refine c.trans ?_;have d:Cv (.n2 .app (Tm.lam .nat (.lam .list (.lam s B))).u1.u1 (.v 1)) ((Tm.lam .list (.lam s ((B.sh 3 (.ofNat 1)).sh 3 (.ofNat 1)))).sub (cs (.v 1) Tm.v)):=pK .nat (.lam .list (.lam s ((B.sh 3 (.ofNat 1)).sh 3 (.ofNat 1)))) (.v 1);refine(((d.n2 .app (.refl (.v 0))).trans (pK .list _ _)).n2 .app (.refl R)).trans ?_;refine(pK s _ R).trans ?_;rw[HD,HD,GD,GD,lE,lE,VC,nS];refine Cv.subst _ λi=>?_
 rcases i with _|_|_|i
 ·exact .refl _
 ·exact .refl _
 ·exact .refl _
 exact .refl _
end
open Go.Lg
def uW(a:List Fm):bA 1 (bA 1 a)=bA 2 a:=by
 simp only[bA,List.map_map];exact List.map_congr_left λf _=>Ii 1 1 f 0
section
variable{ls lsR:List Fm}{tl:List Tm}{a b:Jt}{f:Fm}
def Xk{g G:List Ty}{d e:List Fm}{s:Sc}{x:Fm}(H:SoT G g d e s)(i:x.sc g.length)(j:x.tq g)(fb:b.f.sc g.length)(l:iB ls lsR tl b)(m:b.D ls g (d++[x]))(n:b.OK ls g.length (d++[x])){R:Tm}(p:x.has=true->Ht G R x.cty){Mo:Fm}(c:FCv Mo (rz x (sS s) (bif x.has then R else .n0 .unit))):(bif x.has then im (ou R (un x (b.pv tl) s.skip)) (.leaf false 0 (rz x (sS s) R))else b.pv tl s.bare).W lsR G (e++[Mo])/\FCv (bif x.has then im (ou R (un x (b.pv tl) s.skip)) (.leaf false 0 (rz x (sS s) R))else b.pv tl s.bare).f (rz b.f (sS s) (bif x.has then(b.xt tl (s.skip.bind.hyp (.v 0))).put 0 R 0 else b.xt tl s.bare)):=by
 cases k:x.has
 ·simp only[k,cond_false]at c⊢;exact l _ _ _ _ _ (H.bare i j k c) m n
 simp only[k,cond_true]at c⊢;have r:=H.skip Mo;obtain⟨w1,w2⟩:=kW (lsR:=lsR) r (x:=x) (y:=b.f) i j fb (b:=b.pv tl) (T:=b.xt tl) λt h u v=>l _ _ t h u v m n
 unfold rF at w2;simp only[k,cond_true]at w2;obtain⟨w,o⟩:=gM w1 w2 (p k);have y:∀(τ:Nat->Tm)(T B:Tm),(Fm.bin .imp (rz x (TB τ) (.v 0)) (rz b.f (TB τ) T)).put 0 B 0=.bin .imp (rz x τ B) (rz b.f τ (T.put 0 B 0)):=λτ T B=>by
  show Fm.bin .imp ((rz x _ _).put 0 _ 0) ((rz b.f _ _).put 0 _ 0)=_;rw[fM,fM,ID]
 rw[y]at o;have z:(Jt.leaf false 0 (rz x (sS s) R)).W lsR G (e++[Mo]):=⟨by simp,_,by simp,c⟩;exact QP w z o (.refl _)
def Qb{σ τ:Nat->Tm}{k n:Nat}{c:Tm}{s:Sc}(d:∀i,τ (i+k)=(σ i).sh 0 (.ofNat k))(e:c.sub τ=c)(g:∀i,i<n->sS s i=τ i){x y:Fm}(hy:y.sc n)(h:FCv ((x.sh 1 (.ofNat k)).put 0 c 0) y)(T:Tm):FCv (rz y (sS s) T) (rz x (cs c λi=>(σ i).sh 0 (.ofNat k)) T):=by
 rw[nE y n _ τ T hy g];refine(mK h.symm τ T).trans ?_;rw[yW,SG,show(λi=>(cs c (λi=>Tm.v (i+k)) i).sub τ)=cs c λi=>(σ i).sh 0 (.ofNat k) by
  funext i
  cases i with|zero=>exact e|succ i=>exact d i]
 exact .refl _
def d4(K:K3)(s:Ty)(A F c:Tm)(k:Nat):(Tm.n3 K s A.u1 F.u1 (.v 0)).sub (cs c λi=>.v (i+k))=.n3 K s (A.sh 0 (.ofNat k)) (F.sh 0 (.ofNat k)) c:=by
 show Tm.n3 K s (A.u1.sub _) (F.u1.sub _) c=_;rw[Nb,Nb]
def pS(t:Tm):t.sh 0 (.ofNat 2)=t.u1.u1:=(ZH 1 1 t 0).symm
def m4{n:Nat}{c cs:List Bool}{s:Sc}(h:ScOK n c s)(d:ScOK (n+1) cs (sv s)):∀i,i<n+2->sS (sv (sv s)) i=rA (rA (sS s)) i:=λi c=>(RP d i c).trans (jW (RP h) i c)
end
section
variable{ls lsR:List Fm}{tl:List Tm}(L:mM ls lsR tl){a b:Jt}{f:Fm}
include L in
theorem A4{l:Bool}{x:Fm}{t:Tm}(Ha:iB ls lsR tl a)(Hb:iB ls lsR tl b):iB ls lsR tl (.ind l x t a b f):=by
 intro g N G P s H hD hO;have R:=hD;have S:=hO;obtain⟨_,⟨_,hx⟩,⟨_,U⟩,⟨V,w,e1,em⟩,_,⟨B,w2,p,W⟩,e3⟩:=hD;obtain⟨_,X,_,n,_,⟨ea,eb⟩,d⟩:=hO;obtain⟨h1,h2⟩:=Ha g N G P s H V n;have ew:=xH e1;have Y:=xH p;have ef:=xH e3;subst ew Y ef;have c1:=yM em;have c2:=yM W;have C:a.f.has=x.has:=SA ea;have o:b.f.has=x.has:=SA eb;have Z:=ED _ _ hx;have r:Vk ls g.length N l x b:=by cases l<;>exact d
 have O:x.has=true->dD tl l x a b s.bind (.v 0)=.n3 (kk l) x.cty (a.xt tl s).u1 (bI tl l x b s).u1 (.v 0):=λk=>by
  rw[Uk,lM L.c H.S n (by rw[C];exact k),Pb L H.S r k (by rw[o];exact k)]
 have D:(Jt.ind l x t a b (x.put 0 t 0)).xt tl s=.n3 (kk l) x.cty (a.xt tl s) (bI tl l x b s) (t.sub (sS s)):=by
  rw[<-show t.ps s.vs s.dep 0=t.sub (sS s)from eD _ _ _ _];cases l<;>rfl
 have hT:x.has=true->Ht G (.n3 (kk l) x.cty (a.xt tl s) (bI tl l x b s) (t.sub (sS s))) (x.put 0 t 0).cty:=λk=>by
  rw[<-D];exact eC L.T _ g g.length N G s rfl R S H.S H.T (by show(x.put 0 t 0).has=true;rw[oD,ZF];exact k)
 have E:x.has=true->Ht (G++[lT l]) (dD tl l x a b s.bind (.v 0)) x.cty:=λk=>by
  have q:=hT k;rw[O k];cases l
  ·exact⟨rfl,mE _ q.2.1,mE _ q.2.2.1,JD G _⟩
  exact⟨rfl,mE _ q.2.1,mE _ q.2.2.1,JD G _⟩
 have H1:=H.sv (lT l);have hM:=SP H X.sc (bif x.has then dD tl l x a b s.bind (.v 0)else .n0 .unit);have hq:(rz x (sS (sv s)) (bif x.has then dD tl l x a b s.bind (.v 0)else .n0 .unit)).hq (G++[lT l]):=WC x _ _ _ _ (uI _ _ Z) H1.T.v λk=>by rw[k];exact E k
 have mp:∀u:Tm,FCv ((rz x (sS (sv s)) (bif x.has then dD tl l x a b s.bind (.v 0)else .n0 .unit)).put 0 u 0) (rz x (cs u (sS s)) (.n3 (kk l) x.cty (a.xt tl s) (bI tl l x b s) u)):=λu=>by
  rw[hM,lS];refine XC λk=>?_
  rw[k,cond_true,O k];show Cv (.n3 (kk l) _ ((a.xt tl s).u1.put 0 u 0) ((bI tl l x b s).u1.put 0 u 0) ((Tm.v 0).put 0 u 0)) _;rw[WN,WN,ID];exact .refl _
 have hb0:Cv (.n3 (kk l) x.cty (a.xt tl s) (bI tl l x b s) (l0 l)) (a.xt tl s):=by
  cases l
  ·exact .of (.re0 _ _ (.refl _))
  exact .of (.fo0 _ _ (.refl _))
 have base:FCv ((rz x (sS (sv s)) (bif x.has then dD tl l x a b s.bind (.v 0)else .n0 .unit)).put 0 (l0 l) 0) (a.pv tl s).f:=by
  refine((mp _).trans (KE x (λ_=>.refl _) hb0)).trans (.trans ?_ h2.symm);have q:=mK c1 (sS s) (a.xt tl s);rw[YN,show(l0 l).sub (sS s)=l0 l by cases l<;>rfl]at q;exact q
 have e:∀Q:Jt,Q.W lsR (G++lG l) (TJ P (rz x (sS (sv s)) (bif x.has then dD tl l x a b s.bind (.v 0)else .n0 .unit)) l)->FCv (((rz x (sS (sv s)) (bif x.has then dD tl l x a b s.bind (.v 0)else .n0 .unit)).sh 1 (.ofNat (lN l))).put 0 (l1 l) 0) Q.f->(Jt.ind l (rz x (sS (sv s)) (bif x.has then dD tl l x a b s.bind (.v 0)else .n0 .unit)) (t.ps s.vs s.dep 0) (a.pv tl s) Q (rz (x.put 0 t 0) (sS s) ((Jt.ind l x t a b (x.put 0 t 0)).xt tl s))).W lsR G P:=λQ z A=>by
  refine⟨hq,lK H.T U,⟨h1,base⟩,⟨z,A⟩,?_⟩;rw[D,YN,show t.ps s.vs s.dep 0=t.sub (sS s)from eD _ _ _ _];exact(mp _).symm
 have j:∀(k:Nat)(c T:Tm),(x.has=true->Cv (.n3 (kk l) x.cty ((a.xt tl s).sh 0 (.ofNat k)) ((bI tl l x b s).sh 0 (.ofNat k)) c) T)->FCv ((rz x (sS (sv s)) (bif x.has then dD tl l x a b s.bind (.v 0)else .n0 .unit)).sub (cs c λi=>.v (i+k))) (rz x (cs c λi=>(sS s i).sh 0 (.ofNat k)) T):=λk c T hc=>by
  rw[hM,X3];refine XC λh=>?_
  rw[h,cond_true,O h,d4];exact hc h
 have fb:=(Jt.FKj (show b.OK ls (g.length+lN l) (TJ N x l) by cases l<;>exact d)).sc;refine⟨?_,.refl _⟩;cases l
 ·obtain⟨z,A⟩:=Xk (lsR:=lsR) (tl:=tl) (b:=b) H1 (x:=x) (by rw[wC];exact X.sc) Z (by rw[wC];exact fb) Hb B (by rw[wC];exact d) E (.refl _);refine e _ z (.trans ?_ A.symm);refine .trans ?_ (Qb (σ:=sS s) (τ:=rA (sS s)) (k:=1) (n:=g.length+1) (c:=.n1 .succ (.v 0)) (λi=>rfl) rfl (RP H.S) fb c2 _).symm;rw[lN,yW];refine j 1 (.n1 .succ (.v 0)) _ λk=>?_
  rw[k,cond_true,X2 L.c H.S d k (by rw[o];exact k)];exact Y3 _ _ _ _ (O k)
 have I:=H.sv .nat;have H2:=I.sv .list;rw[uW,uW]at H2;have m:(x.sh 1 (.ofNat 1)).has=x.has:=SA (SD _ x 1);have ec':(x.sh 1 (.ofNat 1)).cty=x.cty:=GC (SD _ x 1);have p:(g++[.nat]++[.list]:List Ty)=g++lG true:=by rw[List.append_assoc];rfl
 have v:(G++[.nat]++[.list]:List Ty)=G++lG true:=by rw[List.append_assoc];rfl
 have el:(g++lG true).length=g.length+2:=by simp[lG]
 have J:=m4 H.S (by have:=I.S;rw[wC]at this;exact this);have K:(x.sh 1 (.ofNat 1)).sc (g.length+2):=RI 1 x 1 _ X.sc;have qx':(x.sh 1 (.ofNat 1)).tq (g++lG true):=by
  have h:=(bM g .nat).up .list;rw[uS]at h;rw[<-p];exact LP h Z
 have y:x.has=true->dD tl true x a b s.bind.bind (.v 0)=.n3 .fo x.cty (a.xt tl s).u1.u1 (bI tl true x b s).u1.u1 (.v 0):=λk=>by
  have ka:a.f.has=true:=by rw[C];exact k
  have kb:b.f.has=true:=by rw[o];exact k
  rw[Uk,lM L.c H.S.bind n ka,lM L.c H.S n ka,Pb L H.S.bind r k kb,Pb L H.S r k kb];rfl
 have M:(x.sh 1 (.ofNat 1)).has=true->Ht (G++lG true) (dD tl true x a b s.bind.bind (.v 0)) (x.sh 1 (.ofNat 1)).cty:=λk=>by
  rw[m]at k;have q:=hT k;rw[y k,ec',<-v];exact⟨rfl,mE _ (mE _ q.2.1),mE _ (mE _ q.2.2.1),JD _ _⟩
 have es:(x.sh 1 (.ofNat 2)).put 0 (.v 0) 0=x.sh 1 (.ofNat 1):=by
  rw[yW,HE,QG];congr 1;funext i
  cases i with|zero=>rfl|succ i=>show Tm.v (i+2)=.v (iD 1 1 (i+1));rw[show iD 1 1 (i+1)=i+2 by unfold iD;rw[if_pos (by omega)]]
 have hm:∀F:Fm,F.sh 1 (.ofNat 1)=F.sub (cs (.v 0) λi=>.v (i+2)):=λF=>by
  rw[HE,QG];congr 1;funext i
  cases i with|zero=>rfl|succ i=>show Tm.v (iD 1 1 (i+1))=.v (i+2);rw[show iD 1 1 (i+1)=i+2 by unfold iD;rw[if_pos (by omega)]]
 have hτ:∀i,rA (rA (sS s)) (i+2)=(sS s i).sh 0 (.ofNat 2):=λi=>(pS _).symm
 obtain⟨z,A⟩:=Xk (lsR:=lsR) (tl:=tl) (b:=b) H2 (x:=x.sh 1 (.ofNat 1)) (by rw[p,el];exact K) (by rw[p];exact qx') (by rw[p,el];exact fb) Hb (by rw[p];exact B) (by rw[p,el];exact d) (by rw[v];exact M) (Mo:=(rz x (sS (sv s)) (bif x.has then dD tl true x a b s.bind (.v 0)else .n0 .unit)).sh 1 (.ofNat 1)) (by
  refine .trans ?_ (Qb (σ:=sS s) (τ:=rA (rA (sS s))) (k:=2) (n:=g.length+2) (c:=.v 0) hτ rfl J K (by rw[es];exact .refl _) _).symm;rw[hm];refine j 2 (.v 0) _ λk=>?_
  rw[m,k,cond_true,y k,pS,pS];exact .refl _)
 rw[m,v]at z;rw[m]at A;refine e _ z (.trans ?_ A.symm);refine .trans ?_ (Qb (σ:=sS s) (τ:=rA (rA (sS s))) (k:=2) (n:=g.length+2) (c:=.n2 .cons (.v 1) (.v 0)) hτ rfl J fb c2 _).symm;rw[lN,yW];refine j 2 (.n2 .cons (.v 1) (.v 0)) _ λk=>?_
 rw[k,cond_true,Z2 L.c H.S d (by rw[m];exact k) (by rw[o];exact k),pS,pS];exact Z3 _ _ _ _ (y k)
end
open Go.Lg
def KD{d c:List Fm}{tl:List Tm}(L:mM d c tl):∀j:Jt,iB d c tl j|.leaf false _ _=>B3|.leaf true _ _=>C3 L|.refl _=>D3|.p1 .andL a _=>F3 (KD L a)|.p1 .andR a _=>G3 (KD L a)|.p1 .choice a _=>S3 (KD L a)|.p2 .andI a b _=>I3 (KD L a) (KD L b)|.p2 .impE a b _=>J3 L (KD L a) (KD L b)|.p2 .exE a b _=>U3 L (KD L a) (KD L b)|.p2 .exUE a b _=>V3 L (KD L a) (KD L b)|.impI _ a=>L3 (KD L a)|.all _ _ a=>M3 L (KD L a)|.ins _ _ a _=>N3 (KD L a)|.ex _ _ _ a=>O3 L (KD L a)|.ind _ _ _ a b _=>A4 L (KD L a) (KD L b)|.subst _ a b _=>P3 L (KD L a) (KD L b)
def UG:∀f:Fm,f.cnt<=yA->A 149 [f.p] (num f.cnt)
 |.eq t u,h=>by
  have h:1+t.cnt+u.cnt<=yA:=h;exact f4 [17,18,17,18] (UC t (by omega)) (lA (a:=1) (b:=t.cnt)) (UC u (by omega)) (lA (a:=1+t.cnt) (b:=u.cnt))
 |.bin k f g,h=>by
  have h:1+f.cnt+g.cnt<=yA:=h;have a:=UG f (by omega);have b:=lA (a:=1) (b:=f.cnt);have c:=UG g (by omega);have d:=lA (a:=1+f.cnt) (b:=g.cnt);cases k<;>exact f4 [29,30,29,30] a b c d
 |.q k s f,h=>by
  have h:1+f.cnt<=yA:=h;have a:=UG f (by omega);have b:=lA (a:=1) (b:=f.cnt);cases k<;>exact f2 [29,30] a b
def wJ:∀t:Tm,t.mx<=268435456->A 106 [t.p] (.bool false)
 |.v i,h=>f1 [7] (show fA (.ofNat 268435456) (.ofNat i)=false from GA h)|.lam s b,h=>f1 [16] (wJ b h)|.n0 k,h=>by cases k<;>exact f0 []
 |.n1 k a,h=>by cases k<;>exact f1 [16] (wJ a h)
 |.n2 k a b,h=>by
  have h:max a.mx b.mx<=268435456:=h;have c:=wJ a (by omega);have e:=wJ b (by omega);cases k<;>exact f2 [16,16] c e
 |.n3 k s a b d,h=>by
  have h:max a.mx (max b.mx d.mx)<=268435456:=h;have c:=wJ a (by omega);have e:=wJ b (by omega);have f:=wJ d (by omega);cases k<;>exact f3 [16,16,16] c e f
abbrev Yk:List (Nat×Ob):=[(1,bx [.bool false])]
def bW:∀(f:Fm)(d:Nat),d+f.cnt<=qA->f.mx<=268435456->O 133 [.pv f.p,.pv (num d),.fn 134 [.loc 1 0]] Yk (.pv f.p) Yk
 |.eq t u,d,a,h=>by
  have h:max t.mx u.mx<=268435456:=h;exact o2 2 [(37,.n [(9,.F)]),(37,.n [(9,.F)])] (wJ t (by omega)) (wJ u (by omega))
 |.bin k f g,d,a,h=>by
  have a:d+(1+f.cnt+g.cnt)<=qA:=a;have h:max f.mx g.mx<=268435456:=h;have b:=bW f d (by omega) (by omega);have c:=bW g d (by omega) (by omega);cases k<;>exact o2 2 [(54,.o [1] [] (.pv f.p)),(54,.o [1] [] (.pv g.p))] b c
 |.q k s f,d,a,h=>by
  have:=vA;have:=uA;have a:d+(1+f.cnt)<=qA:=a;have g:=lA (a:=d) (b:=1);have b:=bW f (d+1) (by omega) h;cases k<;>exact o2 2 [24,(54,.o [1] [] (.pv f.p))] g b
def B4(f:Fm)(h:f.cnt<=qA:=by omega)(a:f.mx<=268435456:=by omega):A 70 [f.p] (.bool false):=
 f1 [(6,.o [1] [] (.pv f.p))] (bW f 0 (by omega) a)
abbrev Zk(z:Nat):List (Nat×Ob):=[(1,bx [num z])]
def dW(z:Nat)(b:z<=qA):∀(f:Fm)(d:Nat),d+f.cnt<=qA->f.mx<=qA*qA->O 133 [.pv f.p,.pv (num d),.fn 301 [.loc 1 0]] (Zk z) (.pv (f.sh d (.ofNat z)).p) (Zk z)
 |.eq t u,d,a,h=>by
  have a:d+(1+t.cnt+u.cnt)<=qA:=a;have h:max t.mx u.mx<=qA*qA:=h;exact o2 2 [(37,.n [(9,.r (t.sh d (.ofNat z)).p)]),(37,.n [(9,.r (u.sh d (.ofNat z)).p)])] (VL t d z) (VL u d z)
 |.bin k f g,d,a,h=>by
  have a:d+(1+f.cnt+g.cnt)<=qA:=a;have h:max f.mx g.mx<=qA*qA:=h;have c:=dW z b f d (by omega) (by omega);have e:=dW z b g d (by omega) (by omega);cases k<;>exact o2 2 [(54,.o [1] [] (.pv (f.sh d (.ofNat z)).p)),(54,.o [1] [] (.pv (g.sh d (.ofNat z)).p))] c e
 |.q k s f,d,a,h=>by
  have:=vA;have:=uA;have a:d+(1+f.cnt)<=qA:=a;have g:=lA (a:=d) (b:=1);have c:=dW z b f (d+1) (by omega) h;cases k<;>exact o2 2 [24,(54,.o [1] [] (.pv (f.sh (d+1) (.ofNat z)).p))] g c
def ql(f:Fm)(z:Nat)(a:z<=qA)(h:f.cnt<=qA)(b:f.mx<=qA*qA):A 241 [f.p,num z] (f.sh 0 (.ofNat z)).p:=
 f1 [(7,.o [1] [] (.pv (f.sh 0 (.ofNat z)).p))] (dW z a f 0 (by omega) b)
def rK(c:Nat)(S:Tm)(l:S.mx<=qA*qA)(f:S.cnt<=qA):∀(t:Tm)(d:Nat),c+d+t.cnt<=qA->t.mx<=qA*qA->A 305 [t.p,num c,num d,S.p] (t.put c S d).p
 |.v i,d,j,h=>by
  have n:=vA;have u:=uA;have h:i<=qA*qA:=h;rw[n]at h;have g:=lA (a:=c) (b:=d);by_cases m:i=c+d
  ·have e:(Tm.v i).put c S d=S.sh 0 (.ofNat (c+d)):=by simp only[Tm.put,if_pos m]
   rw[e];exact f4 [20,21,25,26] g (show mB (.ofNat i) (.ofNat (c+d))=true by rw[m];exact VH _) g (VL S 0 (c+d) (by omega) l)
  by_cases p:c+d<i
  ·have e:(Tm.v i).put c S d=.v (i-1):=by simp only[Tm.put,if_neg m,if_pos p]
   rw[e];exact f5 [20,21,32,33,36] g (dF m) g (NA p) (rD (a:=i) (b:=1) (z:=.ofNat (i-1)) (by omega) (by omega) (by grind))
  have e:(Tm.v i).put c S d=.v i:=by simp only[Tm.put,if_neg m,if_neg p]
  rw[e];exact f4 [20,21,32,33] g (dF m) g (GA (show i<=c+d by omega))
 |.lam s b,d,j,h=>by
  have n:=vA;have u:=uA;have j:c+d+(1+b.cnt)<=qA:=j;exact f2 [43,59] (lA (a:=d) (b:=1)) (rK c S l f b (d+1) (by omega) h)
 |.n0 k,d,_,_=>by cases k<;>exact f0 []
 |.n1 k a,d,j,h=>by
  have j:c+d+(1+a.cnt)<=qA:=j;have o:=rK c S l f a d (by omega) h;cases k<;>exact f1 [59] o
 |.n2 k a b,d,j,h=>by
  have j:c+d+(1+a.cnt+b.cnt)<=qA:=j;have h:max a.mx b.mx<=qA*qA:=h;have o:=rK c S l f a d (by omega) (by omega);have r:=rK c S l f b d (by omega) (by omega);cases k<;>exact f2 [59,59] o r
 |.n3 k s a b e,d,j,h=>by
  have j:c+d+(1+a.cnt+b.cnt+e.cnt)<=qA:=j;have h:max a.mx (max b.mx e.mx)<=qA*qA:=h;have o:=rK c S l f a d (by omega) (by omega);have r:=rK c S l f b d (by omega) (by omega);have v:=rK c S l f e d (by omega) (by omega);cases k<;>exact f3 [59,59,59] o r v
abbrev zl(S:Tm):List (Nat×Ob):=[(1,bx S.c)]
def fW(S:Tm)(c:S.mx<=qA*qA)(a:S.cnt<=qA):∀(f:Fm)(d:Nat),d+f.cnt<=qA->f.mx<=qA*qA->O 133 [.pv f.p,.pv (num d),.fn 304 [.loc 1 0]] (zl S) (.pv (f.put 0 S d).p) (zl S)
 |.eq t u,d,b,h=>by
  have b:d+(1+t.cnt+u.cnt)<=qA:=b;have h:max t.mx u.mx<=qA*qA:=h;exact o2 2 [(37,.n [(9,.r (t.put 0 S d).p)]),(37,.n [(9,.r (u.put 0 S d).p)])] (rK 0 S c a t d (by omega) (by omega)) (rK 0 S c a u d (by omega) (by omega))
 |.bin k f g,d,b,h=>by
  have b:d+(1+f.cnt+g.cnt)<=qA:=b;have h:max f.mx g.mx<=qA*qA:=h;have e:=fW S c a f d (by omega) (by omega);have i:=fW S c a g d (by omega) (by omega);cases k<;>exact o2 2 [(54,.o [1] [] (.pv (f.put 0 S d).p)),(54,.o [1] [] (.pv (g.put 0 S d).p))] e i
 |.q k s f,d,b,h=>by
  have:=vA;have:=uA;have b:d+(1+f.cnt)<=qA:=b;have g:=lA (a:=d) (b:=1);have e:=fW S c a f (d+1) (by omega) h;cases k<;>exact o2 2 [24,(54,.o [1] [] (.pv (f.put 0 S (d+1)).p))] g e
def C4(f:Fm)(S:Tm)(h:f.cnt<=qA)(b:f.mx<=qA*qA)(c:S.mx<=qA*qA)(a:S.cnt<=qA:=by omega):A 244 [f.p,S.p] (f.put 0 S 0).p:=
 f1 [(7,.o [1] [] (.pv (f.put 0 S 0).p))] (fW S c a f 0 (by omega) b)
def sK:∀(t:Tm)(c:Nat),c+t.cnt<=qA->A 303 [t.p,num c] (num (t.occ c))
 |.v i,c,_=>by
  by_cases h:i=c
  ·have e:(Tm.v i).occ c=1:=by simp[Tm.occ,h]
   rw[e];exact f1 [15] (show mB (.ofNat i) (.ofNat c)=true by rw[h];exact VH c)
  have e:(Tm.v i).occ c=0:=by simp[Tm.occ,h]
  rw[e];exact f1 [15] (dF h)
 |.lam s b,c,h=>by
  have f:=vA;have l:=uA;have h:c+(1+b.cnt)<=qA:=h;have:=BB b (c+1);have g:=sK b (c+1) (by omega);have j:=DG (n:=b.occ (c+1));exact f3 [21,32,33] (lA (a:=c) (b:=1)) g j
 |.n0 k,c,_=>by cases k<;>exact f0 []
 |.n1 k a,c,h=>by
  have f:=vA;have l:=uA;have h:c+(1+a.cnt)<=qA:=h;have:=BB a c;have g:=sK a c (by omega);have j:=DG (n:=a.occ c);cases k<;>exact f2 [32,33] g j
 |.n2 k a b,c,h=>by
  have f:=vA;have l:=uA;have h:c+(1+a.cnt+b.cnt)<=qA:=h;have:=BB a c;have:=BB b c;have g:=sK a c (by omega);have j:=DG (n:=a.occ c);have m:=sK b c (by omega);have n:=lA (a:=a.occ c) (b:=b.occ c);cases k<;>exact f4 [32,33,32,33] g j m n
 |.n3 k s a b d,c,h=>by
  have f:=vA;have l:=uA;have h:c+(1+a.cnt+b.cnt+d.cnt)<=qA:=h;have:=BB a c;have:=BB b c;have:=BB d c;have g:=sK a c (by omega);have j:=DG (n:=a.occ c);have m:=sK b c (by omega);have n:=lA (a:=a.occ c) (b:=b.occ c);have o:=sK d c (by omega);have p:=lA (a:=a.occ c+b.occ c) (b:=d.occ c);cases k<;>exact f6 [32,33,32,33,32,33] g j m n o p
abbrev jl(n m:Nat):List (Nat×Ob):=[(3,bx [num m]),(2,bx [num n])]
def Sb{o k m:Nat}(h:o<=k)(a:m<=4096):m*o<=4096*k:=Nat.mul_le_mul a h
def lW(m:Nat)(c:m<=4096):∀(f:Fm)(n d:Nat),d+f.cnt<=qA->n+4096*f.cnt<=yA->O 133 [.pv f.p,.pv (num d),.fn 302 [.loc 2 0,.loc 3 0]] (jl n m) (.pv f.p) (jl (n+m*f.occ d) m)
 |.eq t u,n,d,a,b=>by
  have a:d+(1+t.cnt+u.cnt)<=qA:=a;have b:n+4096*(1+t.cnt+u.cnt)<=yA:=b;have j:=Sb (BB t d) c;have:=Sb (BB u d) c;have e:n+m*(Fm.eq t u).occ d=n+m*t.occ d+m*u.occ d:=by simp[Fm.occ,Nat.mul_add,Nat.add_assoc]
  rw[e];have h:=sK t d (by omega);have i:=HN (a:=m) (b:=t.occ d) (c:=m*t.occ d) (by omega) rfl;have l:=lA (a:=n) (b:=m*t.occ d);have o:=sK u d (by omega);have p:=HN (a:=m) (b:=u.occ d) (c:=m*u.occ d) (by omega) rfl;have r:=lA (a:=n+m*t.occ d) (b:=m*u.occ d);exact o6 4 [(37,.n [(11,.N (t.occ d)),(12,.z (m*t.occ d)),(13,.z (n+m*t.occ d))]),(37,.n [(11,.N (u.occ d)),(12,.z (m*u.occ d)),(13,.z (n+m*t.occ d+m*u.occ d))])] h i l o p r
 |.bin k f g,n,d,a,b=>by
  have a:d+(1+f.cnt+g.cnt)<=qA:=a;have b:n+4096*(1+f.cnt+g.cnt)<=yA:=b;have j:=Sb (lH f d) c;have e:n+m*(Fm.bin k f g).occ d=n+m*f.occ d+m*g.occ d:=by simp[Fm.occ,Nat.mul_add,Nat.add_assoc]
  rw[e];have h:=lW m c f n d (by omega) (by omega);have i:=lW m c g (n+m*f.occ d) d (by omega) (by omega);cases k<;>exact o2 4 [(54,.o [3] [(2,bx [num (n+m*f.occ d)])] (.pv f.p)),(54,.o [3] [(2,bx [num (n+m*f.occ d+m*g.occ d)])] (.pv g.p))] h i
 |.q k s f,n,d,a,b=>by
  have:=vA;have:=uA;have a:d+(1+f.cnt)<=qA:=a;have b:n+4096*(1+f.cnt)<=yA:=b;have g:=lA (a:=d) (b:=1);have h:=lW m c f n (d+1) (by omega) (by omega);cases k<;>exact o2 4 [24,(54,.o [3] [(2,bx [num (n+m*f.occ (d+1))])] (.pv f.p))] g h
def D4(f:Fm)(S:Tm)(h:f.cnt<=4096)(a:1<=S.cnt)(a:S.cnt<=4096):A 242 [f.p,S.p] (num (f.cnt+(S.cnt-1)*f.occ 0)):=by
 have:=vA;have:=uA;have a:=rD (a:=S.cnt) (b:=1) (z:=.ofNat (S.cnt-1)) (by omega) (by omega) (by grind);exact f4 [8,10,11,(14,.o [3] [(2,bx [num (f.cnt+(S.cnt-1)*f.occ 0)])] (.pv f.p))] (UG f (by omega)) (UC S (by omega)) a (lW (S.cnt-1) (by omega) f f.cnt 0 (by omega) (by omega))
open Go.Lg
def Fm.ps(e:List (Tm×Nat))(d:Nat):Fm->Nat->Fm|.eq a b,c=>.eq (a.ps e d c) (b.ps e d c)|.bin k f g,c=>.bin k (f.ps e d c) (g.ps e d c)|.q k s f,c=>.q k s (f.ps e d (c+1))
def F4(a:List (Tm×Nat))(d b:Nat):(λi=>(Tm.v i).ps a d (b+1))=rA λi=>(Tm.v i).ps a d b:=by
 funext i
 cases i with
 |zero=>rfl|succ i=>
  simp only[Tm.ps,rA,Nat.add_lt_add_iff_right,Nat.add_sub_add_right];split
  ·rfl
  split
  ·rw[IP];rfl
  rfl
def mW(a:List (Tm×Nat))(d:Nat):∀(f:Fm)(b:Nat),f.ps a d b=f.sub λi=>(Tm.v i).ps a d b|.eq x y,b=>by simp only[Fm.ps,Fm.sub,<-eD]|.bin _ f g,b=>by simp only[Fm.ps,Fm.sub,mW a d f,mW a d g]|.q _ _ f,b=>by simp only[Fm.ps,Fm.sub,mW a d f,F4]
def FR.Gd(d:Nat)(x:Fm):FR->Prop|.er n=>n=3|.ok f=>FK d f/\f=x
section
variable{s:Sc}(hv:qI s.dep s.vs)(hd:s.dep<=cA)(hl:s.vs.length<=cA)
include hv hd hl
theorem yl(t:Tm)(b:Nat)(f:t.cnt<=4096)(d:t.sc (s.vs.length+b))(g:b<=8192):A 142 [s.p,t.p,num b] (XR.fit (t.ps s.vs s.dep b)).p:=by
 have i:=vA;have e:=uA;have a:=dK s hv hd hl t b d (by omega);have j:=yK hv t b;have c:=UC (t.ps s.vs s.dep b) (by omega);unfold XR.fit;split
 ·rename_i h;exact f3 [12,14,15] a c (GA h)
 rename_i h;exact f3 [12,14,15] a c (NA (a:=4096) (Nat.lt_of_not_le h))
theorem nW:∀(f:Fm)(b:Nat),f.cnt<=4096->f.shp=true->f.sc (s.vs.length+b)->b+f.cnt<=8192->∃r:FR,A 204 [s.p,f.p,num b] r.p/\r.Gd (s.dep+b) (f.ps s.vs s.dep b)
 |.eq t u,b,h,m,d,i=>by
  have o:=uA;have h:1+t.cnt+u.cnt<=4096:=h;have i:b+(1+t.cnt+u.cnt)<=8192:=i;obtain⟨p,v⟩:=DA m;have a:=yl hv hd hl t b (by omega) d.1 (by omega);have e:=yl hv hd hl u b (by omega) d.2 (by omega);by_cases E:(t.ps s.vs s.dep b).cnt<=4096
  ·rw[XR.fit,if_pos E]at a;by_cases F:(u.ps s.vs s.dep b).cnt<=4096
   ·rw[XR.fit,if_pos F]at e;have j:=UG (.eq (t.ps s.vs s.dep b) (u.ps s.vs s.dep b)) (by show 1+_+_<=_;omega);by_cases c:(Fm.eq (t.ps s.vs s.dep b) (u.ps s.vs s.dep b)).cnt<=4096
    ·exact⟨.ok _,f5 [40,40,(300017,.f 6 [(t.ps s.vs s.dep b).c,(u.ps s.vs s.dep b).c]),80,81] a e (rfl:kA [(t.ps s.vs s.dep b).c,(u.ps s.vs s.dep b).c]=kA [(t.ps s.vs s.dep b).c,(u.ps s.vs s.dep b).c]) j (GA c),⟨c,by show(_&&_)=true;rw[jI hv t b p,jI hv u b v];rfl,vI hv t b d.1,vI hv u b d.2⟩,rfl⟩
    exact⟨.er 3,f5 [40,40,(300017,.f 6 [(t.ps s.vs s.dep b).c,(u.ps s.vs s.dep b).c]),80,81] a e (rfl:kA [(t.ps s.vs s.dep b).c,(u.ps s.vs s.dep b).c]=kA [(t.ps s.vs s.dep b).c,(u.ps s.vs s.dep b).c]) j (NA (a:=4096) (Nat.lt_of_not_le c)),rfl⟩
   rw[XR.fit,if_neg F]at e;exact⟨.er 3,f2 [40,40] a e,rfl⟩
  rw[XR.fit,if_neg E]at a;exact⟨.er 3,f1 [40] a,rfl⟩
 |.bin k f g,b,h,m,d,i=>by
  have o:=uA;have h:1+f.cnt+g.cnt<=4096:=h;have i:b+(1+f.cnt+g.cnt)<=8192:=i;obtain⟨p,v⟩:=DA m;obtain⟨z,a,w⟩:=nW f b (by omega) p d.1 (by omega);obtain⟨H,e,G⟩:=nW g b (by omega) v d.2 (by omega)
  cases z with
  |er n=>obtain rfl:n=3:=w;exact⟨.er 3,by cases k<;>exact f1 [65] a,rfl⟩|ok x=>
   obtain⟨l,B⟩:=w
   cases H with
   |er n=>obtain rfl:n=3:=G;exact⟨.er 3,by cases k<;>exact f2 [65,65] a e,rfl⟩|ok y=>
    obtain⟨C,I⟩:=G;have J:=l.cnt;have:=C.cnt;have j:=UG (.bin k x y) (by show 1+_+_<=_;omega);by_cases c:(Fm.bin k x y).cnt<=4096
    ·exact⟨.ok _,by cases k<;>exact f5 [(65,.r (FR.ok x).p),(65,.r (FR.ok y).p),(300023,.ok),(300023,.f 6 [x.c,y.c]),(80,.N (1+x.cnt+y.cnt)),(81,.H)] a e (rfl:kA [x.c,y.c]=kA [x.c,y.c]) j (GA c),⟨c,by show(_&&_)=true;rw[l.shp,C.shp];rfl,l.sc,C.sc⟩,by rw[B,I];rfl⟩
    exact⟨.er 3,by cases k<;>exact f5 [(65,.r (FR.ok x).p),(65,.r (FR.ok y).p),(300023,.ok),(300023,.f 6 [x.c,y.c]),(80,.N (1+x.cnt+y.cnt)),(81,.G)] a e (rfl:kA [x.c,y.c]=kA [x.c,y.c]) j (NA (a:=4096) (Nat.lt_of_not_le c)),rfl⟩
 |.q k u f,b,h,m,d,i=>by
  have o:=uA;have h:1+f.cnt<=4096:=h;have i:b+(1+f.cnt)<=8192:=i;obtain⟨p,v⟩:=DA m;have D:=lA (a:=b) (b:=1);obtain⟨z,a,w⟩:=nW f (b+1) (by omega) v d (by omega)
  cases z with
  |er n=>obtain rfl:n=3:=w;exact⟨.er 3,by cases k<;>exact f2 [28,65] D a,rfl⟩|ok x=>
   obtain⟨l,B⟩:=w;have J:=l.cnt;have j:=UG (.q k u x) (by show 1+_<=_;omega);by_cases c:(Fm.q k u x).cnt<=4096
   ·exact⟨.ok _,by cases k<;>exact f5 [28,65,(300023,.f 6 [x.c]),80,81] D a (rfl:kA [x.c]=kA [x.c]) j (GA c),⟨c,by show(_&&_)=true;rw[p,l.shp];rfl,l.sc⟩,by rw[B];rfl⟩
   exact⟨.er 3,by cases k<;>exact f5 [28,65,(300023,.f 6 [x.c]),80,81] D a (rfl:kA [x.c]=kA [x.c]) j (NA (a:=4096) (Nat.lt_of_not_le c)),rfl⟩
theorem ul{f:Fm}(a:FK s.vs.length f):∃r:FR,A 131 [s.p,f.p] r.p/\r.Gd s.dep (f.sub (sS s)):=by
 obtain⟨r,g,q⟩:=nW hv hd hl f 0 a.cnt a.shp a.sc (by have:=a.cnt;omega);rw[mW]at q;exact⟨r,f1 [8] g,q⟩
end
def Fm.ne:Fm->Nat
 |.eq _ _=>0|.bin _ f g=>f.ne+g.ne|.q k _ f=>match k with|.ex=>1+f.ne|_=>f.ne
def Fm.gx:Fm->Prop|.eq _ _=>True|.bin _ f g=>f.gx/\g.gx|.q k _ f=>f.gx/\(k=.ex->f.occ 0=0\/f.ne<=1)
def Fm.fn:Fm->Nat|.eq _ _=>1|.bin _ f g=>1+f.fn+g.fn|.q _ _ f=>1+f.fn
def G4:∀f:Fm,f.fn<=f.cnt
 :=by intro x;induction x<;>grind[Fm.fn,Fm.cnt]
def pW:∀f:Fm,f.ne<=f.cnt
 :=by intro x;induction x<;>simp_all[Fm.ne,Fm.cnt]<;>grind
def VP:∀(f:Fm)(σ:Nat->Tm),(f.sub σ).ne=f.ne|.eq _ _,_=>rfl|.bin _ f g,σ=>by simp[Fm.sub,Fm.ne,VP]|.q k _ f,σ=>by cases k<;>simp only[Fm.sub,Fm.ne,VP f]
def rW:∀(f:Fm)(σ:Nat->Tm),(f.sub σ).fn=f.fn|.eq _ _,_=>rfl|.bin _ f g,σ=>by simp[Fm.sub,Fm.fn,rW]|.q _ _ f,σ=>by simp[Fm.sub,Fm.fn,rW]
def bl{σ:Nat->Tm}{c:Nat}(h:∀i,(σ i).occ c=if i=c then 1 else 0):∀i,(rA σ i).occ (c+1)=if i=c+1 then 1 else 0
 :=by intro x;induction x<;>grind[rA,Tm.occ,cC,jM]
def nM:∀(t:Tm)(σ:Nat->Tm)(c:Nat),(∀i,(σ i).occ c=if i=c then 1 else 0)->(t.sub σ).occ c=t.occ c|.v i,σ,c,h=>by grind[Tm.sub,Tm.occ]|.lam s b,σ,c,h=>by exact nM b _ _ (bl h)|.n0 _,_,_,_=>rfl|.n1 _ a,σ,c,h=>by simp only[Tm.sub,Tm.occ,nM a σ c h]|.n2 _ a b,σ,c,h=>by simp only[Tm.sub,Tm.occ,nM a σ c h,nM b σ c h]|.n3 _ _ a b d,σ,c,h=>by simp only[Tm.sub,Tm.occ,nM a σ c h,nM b σ c h,nM d σ c h]
def I4:∀(f:Fm)(σ:Nat->Tm)(c:Nat),(∀i,(σ i).occ c=if i=c then 1 else 0)->(f.sub σ).occ c=f.occ c
 :=by intro x;induction x<;>simp_all[Fm.sub,Fm.occ,nM,bl]
def J4(σ:Nat->Tm):∀i,(rA σ i).occ 0=if i=0 then 1 else 0
 :=by intro x;induction x<;>grind[rA,Tm.occ,cC,Sk]
def kJ:∀(f:Fm)(σ:Nat->Tm),f.gx->(f.sub σ).gx|.eq _ _,_,_=>trivial|.bin _ f g,σ,h=>⟨kJ f σ h.1,kJ g σ h.2⟩|.q k _ f,σ,h=>⟨kJ f _ h.1,λe=>by rw[I4 f _ 0 (J4 σ),VP];exact h.2 e⟩
def rS(f:Fm)(c k:Nat):f.sh c (.ofNat k)=f.sub λi=>.v (iD c k i):=by rw[HE,QG]
def FR.fit(f:Fm):FR:=if f.cnt<=4096 then .ok f else .er 3
def dl{n:Nat}{f x:Fm}(a:f.shp=true)(b:f.sc n)(c:f=x):(FR.fit f).Gd n x:=by
 unfold FR.fit;split
 ·rename_i h;exact⟨⟨h,a,b⟩,c⟩
 rfl
def FR.two(k:FB):FR->FR->FR|.ok x,.ok y=>.fit (.bin k x y)|.er n,_=>.er n|.ok _,.er n=>.er n
def FR.un(k:FQ)(s:Ty):FR->FR|.ok x=>.fit (.q k s x)|.er n=>.er n
def K4{n:Nat}{k:FB}{a b:FR}{x y:Fm}(c:a.Gd n x)(d:b.Gd n y):(FR.two k a b).Gd n (.bin k x y):=by
 cases a with
 |er _=>exact c|ok u=>cases b with|er _=>exact d|ok v=>exact dl (by show(_&&_)=true;rw[c.1.shp,d.1.shp];rfl) ⟨c.1.sc,d.1.sc⟩ (by rw[c.2,d.2])
def ml{n:Nat}{k:FQ}{s:Ty}{a:FR}{x:Fm}(c:s.size<=64)(b:a.Gd (n+1) x):(FR.un k s a).Gd n (.q k s x):=by
 cases a with|er _=>exact b|ok u=>exact dl (by show(_&&_)=true;rw[NN c,b.1.shp];rfl) b.1.sc (by rw[b.2])
def sW:∀f:Fm,f.cnt<=qA->A 243 [f.p] (num f.ne)
 |.eq a b,_=>f0 []|.bin k f g,h=>by
  have e:=vA;have j:=uA;have h:1+f.cnt+g.cnt<=qA:=h;have:=pW f;have:=pW g;have c:=sW f (by omega);have d:=DG (n:=f.ne);have l:=sW g (by omega);have i:=lA (a:=f.ne) (b:=g.ne);cases k<;>exact f4 [20,21,20,21] c d l i
 |.q k s f,h=>by
  have e:=vA;have j:=uA;have h:1+f.cnt<=qA:=h;have:=pW f;have c:=sW f (by omega);have d:=DG (n:=f.ne);have i:=lA (a:=1) (b:=f.ne);cases k
  ·exact f2 [20,21] c d
  ·exact f2 [20,21] c i
  ·exact f2 [20,21] c d
  exact f2 [20,21] c d
def ZN{n:Nat}{f:Fm}(h:FK n f)(a:n<=cA:=by omega):A 107 [f.p] (.bool f.has):=f1 [7] (h.a70 a)
def L4(k:FB){x y:Fm}(a:x.cnt<=4096)(hy:y.cnt<=4096):A 187 [num k.n,GV,dA [x,y]] (FR.fit (.bin k x y)).p:=by
 have b:=uA;have g:=UG (.bin k x y) (by show 1+_+_<=_;omega);unfold FR.fit;split
 ·rename_i h;cases k<;>exact f2 [14,15] g (GA h)
 rename_i h;cases k<;>exact f2 [14,15] g (NA (a:=4096) (Nat.lt_of_not_le h))
def aS(k:FQ)(s:Ty){x:Fm}(a:x.cnt<=4096):A 187 [num k.n,s.p,dA [x]] (FR.fit (.q k s x)).p:=by
 have b:=uA;have g:=UG (.q k s x) (by show 1+_<=_;omega);unfold FR.fit;split
 ·rename_i h;cases k<;>exact f2 [14,15] g (GA h)
 rename_i h;cases k<;>exact f2 [14,15] g (NA (a:=4096) (Nat.lt_of_not_le h))
def nl{t:Tm}(h:t.cnt<=qA:=by omega)(a:t.mx<=qA*qA:=by omega):A 186 [t.p] t.ap.p:=f2 [4,5] (VL t 0 1 (by have:=vA;omega) a) (TA 0)
def tW(k:K1)(t:Tm):A 182 [num k.n,t.p] (Tm.n1 k t).p:=by cases k<;>exact f0 []
abbrev RZ(n:Nat)(f:Fm)(t:Tm)(x:Fm):Prop:=∃r:FR,A 108 [f.p,t.p] r.p/\r.Gd n x
def cS(k:FB){n:Nat}{x y u v:Fm}{a b:Tm}(m:RZ n x a u)(o:RZ n y b v):∃r:FR,A 183 [num k.n,x.p,a.p,y.p,b.p] r.p/\r.Gd n (.bin k u v):=by
 obtain⟨d,c,h⟩:=m;obtain⟨i,j,l⟩:=o;refine⟨.two k d i,?_,K4 h l⟩
 cases d with
 |er e=>exact f1 [18] c|ok f=>cases i with|er e=>exact f2 [18,28] c j|ok g=>exact f3 [18,28,40] c j (L4 k h.1.cnt l.1.cnt)
open Go.Lg
def M4{n:Nat}{x y u v:Fm}{t:Tm}(h:FK n x)(hy:FK n y)(p:TK n t)(M:n+1<=cA)
  (s:x.has=false->RZ n x t u/\RZ n y t v) (C:x.has=true->RZ (n+1) (x.sh 0 (.ofNat 1)) (.v 0) u/\RZ (n+1) (y.sh 0 (.ofNat 1)) (bif y.has then t.ap else t.u1) v):
  ∃r:FR,A 184 [(Fm.bin .imp x y).p,t.p] r.p/\r.Gd n (bif x.has then .q .all x.cty (.bin .imp u v)else .bin .imp u v):=by
 have D:=vA;have:cA=100000:=rfl;have:200000<=qA*qA:=by rw[D];decide
 have:=p.mx (by omega);have:=p.cnt;have a:=ZN h;have b:=ZN hy;cases e:x.has<;>rw[e]at a
 ·obtain⟨r,g,q⟩:=cS .imp (s e).1 (s e).2;exact⟨r,f2 [14,26] a g,q⟩
 obtain⟨G,H⟩:=C e;obtain⟨c,d,l,I,J⟩:=h.a34
 cases c with
 |er m=>exact⟨.er m,f2 [14,34] a d,J m rfl⟩|ok w=>
  obtain rfl:=I w rfl e;have i:=VL t 0 1;have:=h.cnt;have:=hy.cnt;have j:=ql x 1 (by omega) (by omega) (by have:=h.mx (by omega);omega);have k:=ql y 1 (by omega) (by omega) (by have:=hy.mx (by omega);omega);have z:=nl (t:=t);obtain⟨r,g,q⟩:=cS .imp G H;have l:x.cty.size<=64:=l
  cases r with
  |er m=>
   refine⟨.er m,?_,q⟩;cases o:y.has<;>rw[o]at b g
   ·exact f8 [14,34,42,47,55,56,61,63] a d i b j (TA 0) k g
   exact f9 [14,34,42,47,49,55,56,61,63] a d i b z j (TA 0) k g
  |ok f=>
   have B:=aS .all x.cty q.1.cnt;refine⟨.un .all x.cty (.ok f),?_,ml l q⟩;cases o:y.has<;>rw[o]at b g
   ·exact f9 [14,34,42,47,55,56,61,63,73] a d i b j (TA 0) k g B
   exact UH [14,34,42,47,49,55,56,61,63,73] a d i b z j (TA 0) k g B
def N4{n:Nat}{s:Ty}{x X:Fm}{t:Tm}(m:FK (n+1) x)(y:TK n t)(z:n+1<=cA)
  (H:∀w u:Tm,(w=bif x.has then .n1 .fst t else t)->(u=bif x.has then .n1 .snd t else t)->w.cnt<=4096->(x.put 0 w 0).cnt<=4096+x.ne->RZ n (x.put 0 w 0) u X):
  ∃r:FR,A 188 [(Fm.q .ex s x).p,t.p] r.p/\r.Gd n X:=by
 have C:=vA;have:=uA;have:cA=100000:=rfl;have:200000<=qA*qA:=by rw[C];decide
 have:=y.mx (by omega);have:=y.cnt;have o:=m.cnt;have:=m.mx z;have:=pW x;have c:=ZN m z;have I:(bif x.has then Tm.n1 .fst t else t).cnt<=4097/\(bif x.has then Tm.n1 .fst t else t).mx<=qA*qA/\1<=(bif x.has then Tm.n1 .fst t else t).cnt:=by
  have:=DE t;cases x.has
  ·grind
  exact⟨by show 1+t.cnt<=_;omega,by show t.mx<=_;omega,by show 1<=1+t.cnt;omega⟩
 have H:=H _ _ rfl rfl;obtain⟨w1,w2,w3⟩:=I;have p:=tW .fst t;have f:=tW .snd t;have b:=UC (bif x.has then Tm.n1 .fst t else t) (by omega);have l:=sW x (by omega);by_cases j:(bif x.has then Tm.n1 .fst t else t).cnt<=4096
 ·have d:=D4 x (bif x.has then Tm.n1 .fst t else t) o w3 j;have J:=PJ 0 (bif x.has then Tm.n1 .fst t else t) x 0;have:=lH x 0;have:x.occ 0*((bif x.has then Tm.n1 .fst t else t).cnt-1)<=4096*4096:=Nat.mul_le_mul (by omega) (by omega);have:x.occ 0*(bif x.has then Tm.n1 .fst t else t).cnt=x.occ 0*((bif x.has then Tm.n1 .fst t else t).cnt-1)+x.occ 0:=by
   rw[<-Nat.mul_succ];simp_all
  rw[Nat.mul_comm]at d;have i:=rD (a:=x.cnt+x.occ 0*((bif x.has then Tm.n1 .fst t else t).cnt-1)) (b:=x.ne) (z:=.ofNat (x.cnt+x.occ 0*((bif x.has then Tm.n1 .fst t else t).cnt-1)-x.ne)) (by omega) (by omega) (by grind);simp only[Nat.add_zero]at J;have v:=C4 x (bif x.has then Tm.n1 .fst t else t) (by omega) (by omega) w2;by_cases B:x.cnt+x.occ 0*((bif x.has then Tm.n1 .fst t else t).cnt-1)-x.ne<=4096
  ·obtain⟨r,g,q⟩:=H j (by omega);refine⟨r,?_,q⟩;have h:=GA B;have a:=GA j;generalize x.cnt+x.occ 0*((bif x.has then Tm.n1 .fst t else t).cnt-1)=G at d i h;generalize (bif x.has then Tm.n1 .fst t else t).cnt=k at b a;cases e:x.has<;>rw[e]at c b d v g
   ·exact f9 [16,22,23,27,29,30,31,36,38] c b a d l i h v g
   exact tU [16,18,20,22,23,27,29,30,31,36,38] c p f b a d l i h v g
  refine⟨.er 3,?_,rfl⟩;have h:=NA (a:=4096) (Nat.lt_of_not_le B);have a:=GA j;generalize x.cnt+x.occ 0*((bif x.has then Tm.n1 .fst t else t).cnt-1)=G at d i h;generalize (bif x.has then Tm.n1 .fst t else t).cnt=k at b a;cases e:x.has<;>rw[e]at c b d
  ·exact f7 [16,22,23,27,29,30,31] c b a d l i h
  exact f9 [16,18,20,22,23,27,29,30,31] c p f b a d l i h
 refine⟨.er 3,?_,rfl⟩;have a:=NA (a:=4096) (Nat.lt_of_not_le j);generalize (bif x.has then Tm.n1 .fst t else t).cnt=k at b a;cases e:x.has<;>rw[e]at c b
 ·exact f3 [16,22,23] c b a
 exact f5 [16,18,20,22,23] c p f b a
end Go.Proofs.YtmihmecnjjmdgaaGreatDoor
