/- Contracts of functions; no conditions. -/
import Derived.Test.YtjobiknipefjdaaGreatDoorSolC7
import Derived.Test.YtjobiknipefjdaaGreatDoorSolC3
import Derived.Test.YtjobiknipefjdaaGreatDoorSolB2
set_option linter.all false
set_option maxHeartbeats 4000000
namespace Go.Proofs.YtjobiknipefjdaaGreatDoor
open Go.Lg
set_option maxRecDepth 100000
def JI(d h p:Nat)(a:List (Tm×Nat))(b:List Hy)(t:Tm):(⟨d,h,a,b++[.hy t d p]⟩:Sc).hy 0=t:=(sb d h 0 p a b t).trans (gE t 0)
def Sz(a:List (Tm×Nat))(t:Tm)(d:Nat):(Tm.v 0).ps (a++[(t,d)]) d 0=t:=OR a d t
def qS(a:List (Tm×Nat))(t:Tm)(d:Nat):(Tm.v 0).ps (a++[(t,d)]) (d+1) 0=t.u1:=Nz a t d 1
section
variable{ls:List Fm}{tl:List Tm}(htl:∀(i:Nat)(t:Tm),tl[i]? =some t->t.sc 0){s:Sc}{n:Nat}{hs:List Fm}{j:Jt}{x:Fm}
include htl
theorem Tz(S:ScOK n (hs.map Fm.has) s)(b:j.OK ls (n+1) (bA 1 hs++[x]))(a:x.has=true)(c:j.f.has=true):j.xt tl ((s.bind.var (.n1 .fst (.v 0))).hyp (.n1 .snd (.v 0)))=(j.xt tl ((sv s).bind.hyp (.v 0))).sub (cs (.n1 .snd (.v 0)) (cs (.n1 .fst (.v 0)) λi=>.v (i+1))):=by
 have k1:∀{m:Nat}(k:K1),TK (m+1) (.n1 k (.v 0)):=λk=>MJ OB (by simp[Tm.cnt])
 exact UJ htl S (hs':=bA 1 hs++[x]) (k1:=2) (k2:=1) (h1:=s.hyps+1) (h2:=s.hyps+1) (l:=1) (es1:=[(.v 0,s.dep+1)]) (es2:=[(.n1 .fst (.v 0),s.dep+1)]) (xs1:=[.hy (.v 0) (s.dep+2) s.hyps]) (xs2:=[.hy (.n1 .snd (.v 0)) (s.dep+1) s.hyps]) rfl rfl rfl (by simp) b (by rw[JB,a];exact(S.bind.var (t:=.v 0) OB).bind.hyp (t:=.v 0) OB true) (by rw[JB,a];exact(S.bind.var (k1 .fst)).hyp (k1 .snd) true) c (λi=>rfl) (λv d _=>by
  obtain rfl:v=0:=by omega
  rw[Sz,show s.dep+2=s.dep+1+1 from rfl,qS];rfl) (λi e=>by
  obtain rfl:i=0:=by simp_all
  rw[JI,JI];rfl)
theorem Uz(S:ScOK n (hs.map Fm.has) s)(b:j.OK ls (n+1) (bA 1 hs++[x]))(a:x.has=true)(c:j.f.has=true):j.xt tl ((sv s).skip.bind.hyp (.v 0))=j.xt tl ((sv s).bind.hyp (.v 0)):=by
 have h:=UJ htl S (hs':=bA 1 hs++[x]) (k1:=2) (k2:=2) (h1:=s.hyps+1) (h2:=s.hyps+2) (l:=1) (es1:=[(.v 0,s.dep+1)]) (es2:=[(.v 0,s.dep+1)]) (xs1:=[.hy (.v 0) (s.dep+2) s.hyps]) (xs2:=[.hy (.v 0) (s.dep+2) (s.hyps+1)]) (τ:=Tm.v) rfl rfl rfl (by simp) b (by rw[JB,a];exact(S.bind.var (t:=.v 0) OB).bind.hyp (t:=.v 0) OB true) (by rw[JB,a];exact(S.bind.var (t:=.v 0) OB).skip.bind.hyp (t:=.v 0) OB true) c (λi=>rfl) (λv d _=>(xC _).symm) (λi e=>by
  obtain rfl:i=0:=by simp_all
  rw[JI,JI];rfl)
 exact h.trans (xC _)
theorem Vz(S:ScOK n (hs.map Fm.has) s)(b:j.OK ls (n+1) (bA 1 hs++[x]))(a:x.has=true)(c:j.f.has=true):j.xt tl ((sv s.bind).bind.hyp (.v 0))=(j.xt tl ((sv s).bind.hyp (.v 0))).sh 2 (.ofNat 1):=by
 rw[eD,EF];exact UJ htl S (hs':=bA 1 hs++[x]) (k1:=2) (k2:=3) (h1:=s.hyps+1) (h2:=s.hyps+1) (l:=1) (es1:=[(.v 0,s.dep+1)]) (es2:=[(.v 0,s.dep+2)]) (xs1:=[.hy (.v 0) (s.dep+2) s.hyps]) (xs2:=[.hy (.v 0) (s.dep+3) s.hyps]) (τ:=λi=>.v (if 2<=i then i+1 else i)) rfl rfl rfl (by simp) b (by rw[JB,a];exact(S.bind.var (t:=.v 0) OB).bind.hyp (t:=.v 0) OB true) (by rw[JB,a];exact(S.bind.bind.var (t:=.v 0) OB).bind.hyp (t:=.v 0) OB true) c (λi=>by simp) (λv d _=>by
  obtain rfl:v=0:=by omega
  rw[show s.dep+3=s.dep+2+1 from rfl,qS,show s.dep+2=s.dep+1+1 from rfl,qS];rfl) (λi e=>by
  obtain rfl:i=0:=by simp_all
  rw[JI,JI];rfl)
theorem Wz(S:ScOK n (hs.map Fm.has) s)(b:j.OK ls (n+2) (bA 2 hs++[x]))(a:x.has=true)(c:j.f.has=true):j.xt tl ((sv (sv s)).skip.bind.hyp (.v 0))=j.xt tl ((sv (sv s)).bind.hyp (.v 0)):=by
 have h:=UJ htl S (hs':=bA 2 hs++[x]) (k1:=3) (k2:=3) (h1:=s.hyps+1) (h2:=s.hyps+2) (l:=2) (es1:=[(.v 0,s.dep+1),(.v 0,s.dep+2)]) (es2:=[(.v 0,s.dep+1),(.v 0,s.dep+2)]) (xs1:=[.hy (.v 0) (s.dep+3) s.hyps]) (xs2:=[.hy (.v 0) (s.dep+3) (s.hyps+1)]) (τ:=Tm.v) rfl rfl rfl (by simp) b (by rw[JB,a];have:=((S.bind.var (t:=.v 0) OB).bind.var (t:=.v 0) OB).bind.hyp (t:=.v 0) OB true;grind[Sc.bind,Sc.var,Sc.hyp,List.append_assoc]) (by rw[JB,a];have:=((S.bind.var (t:=.v 0) OB).bind.var (t:=.v 0) OB).skip.bind.hyp (t:=.v 0) OB true;grind[Sc.bind,Sc.var,Sc.hyp,Sc.skip,List.append_assoc]) c (λi=>rfl) (λv d _=>(xC _).symm) (λi e=>by
  obtain rfl:i=0:=by simp_all
  rw[JI,JI];rfl)
 simp only[sv,Sc.bind,Sc.var,Sc.hyp,Sc.skip,List.append_assoc,List.cons_append,List.nil_append]
 grind[xC]
theorem Xz(S:ScOK n (hs.map Fm.has) s)(b:j.OK ls (n+2) (bA 2 hs++[x]))(a:x.has=true)(c:j.f.has=true):j.xt tl ((sv (sv s.bind)).bind.hyp (.v 0))=(j.xt tl ((sv (sv s)).bind.hyp (.v 0))).sh 3 (.ofNat 1):=by
 rw[eD,EF];have h:=UJ htl S (hs':=bA 2 hs++[x]) (k1:=3) (k2:=4) (h1:=s.hyps+1) (h2:=s.hyps+1) (l:=2) (es1:=[(.v 0,s.dep+1),(.v 0,s.dep+2)]) (es2:=[(.v 0,s.dep+2),(.v 0,s.dep+3)]) (xs1:=[.hy (.v 0) (s.dep+3) s.hyps]) (xs2:=[.hy (.v 0) (s.dep+4) s.hyps]) (τ:=λi=>.v (if 3<=i then i+1 else i)) rfl rfl rfl (by simp) b (by rw[JB,a];have:=((S.bind.var (t:=.v 0) OB).bind.var (t:=.v 0) OB).bind.hyp (t:=.v 0) OB true;grind[Sc.bind,Sc.var,Sc.hyp,List.append_assoc]) (by rw[JB,a];have:=((S.bind.bind.var (t:=.v 0) OB).bind.var (t:=.v 0) OB).bind.hyp (t:=.v 0) OB true;grind[Sc.bind,Sc.var,Sc.hyp,List.append_assoc]) c (λi=>by simp) (λv f _=>by
  have d:s.vs++[(Tm.v 0,s.dep+2),(Tm.v 0,s.dep+3)]=(s.vs++[(Tm.v 0,s.dep+2)])++[(Tm.v 0,s.dep+3)]:=by simp
  have e:s.vs++[(Tm.v 0,s.dep+1),(Tm.v 0,s.dep+2)]=(s.vs++[(Tm.v 0,s.dep+1)])++[(Tm.v 0,s.dep+2)]:=by simp
  rw[d,e];rcases v with _|_|v
  ·rw[show s.dep+4=s.dep+3+1 from rfl,qS,show s.dep+3=s.dep+2+1 from rfl,qS];rfl
  ·rw[HH (e:=(Tm.v 0,s.dep+2)) (by rw[Ka];exact BV _ _),HH (e:=(Tm.v 0,s.dep+1)) (by rw[Ka];exact BV _ _)];rw[show s.dep+4-(s.dep+2)=2 by omega,show s.dep+3-(s.dep+1)=2 by omega];rfl
  ·omega) (λi g=>by
  obtain rfl:i=0:=by simp_all
  rw[JI,JI];rfl)
 simp only[sv,Sc.bind,Sc.var,Sc.hyp,List.append_assoc,List.cons_append,List.nil_append];exact h
end
abbrev tv(tl:List Tm)(i:Nat):Tm:=match tl[i]? with|some t=>t|none=>.n0 .unit
structure RL(ls lsR:List Fm)(tl:List Tm):Prop where
 q:∀f∈ls,f.tq []
 c:∀(i:Nat)(t:Tm),tl[i]? =some t->t.sc 0
 h:∀(i:Nat)(f:Fm),ls[i]? =some f->f.sc 0/\∃y,lsR[i]? =some y/\FCv y (rz f Tm.v (tv tl i))
 T:∀(i:Nat)(f:Fm),ls[i]? =some f->f.has=true->∃t,tl[i]? =some t/\Ht [] t f.cty
section
variable{lsR:List Fm}{G g:List Ty}{hs HS:List Fm}{s:Sc}
def LP{n:Nat}{a:List Bool}(h:ScOK n a s):∀i,i<n+1->sS (sv s) i=cA (sS s) i:=λi b=>by
 rw[xk h.bind (.v 0) i b]
 cases i with|zero=>rfl|succ i=>exact nb h i (by omega)
def SoT.sv(H:SoT G g hs HS s)(u:Ty):SoT (G++[u]) (g++[u]) (bA 1 hs) (bA 1 HS) (sv s):=(H.bind u).var (xD G u) OB
def MP(H:SoT G g hs HS s){f:Fm}(a:f.sc (g.length+1))(t:Tm):rz f (sS (sv s)) t=rz f (cA (sS s)) t:=vE f _ _ _ t a (LP H.S)
def Fk(H:SoT G g hs HS s){f:Fm}(a:f.sc g.length)(t:Tm):rz f (sS s.bind) t=rz f (NB (sS s)) t:=vE f _ _ _ t a (nb H.S)
def vF(x y:Fm)(σ:Nat->Tm)(t u:Tm):Fm:=bif x.has then .q .all x.cty (.bin .imp (rz x (NB σ) (.v 0)) (rz y (NB σ) t))else .bin .imp (rz x σ (.n0 .unit)) (rz y σ u)
def jW(H:SoT G g hs HS s){x y:Fm}(d:x.sc g.length)(hq:x.tq g)(hy:y.sc g.length){b:Sc->Jt}{T:Sc->Tm}(j:∀l a c,SoT l g (hs++[x]) a c->(b c).W lsR l a/\FCv (b c).f (rz y (sS c) (T c))):(un x b s).W lsR G HS/\FCv (un x b s).f (vF x y (sS s) (T (s.bind.hyp (.v 0))) (T s.bare)):=by
 unfold un vF;cases e:x.has
 ·have f:=H.bare d hq e (y:=rz x (sS s) (.n0 .unit)) (.refl _);obtain⟨h,i⟩:=j _ _ _ f;exact⟨⟨OC x g G _ _ (JH _ _ hq) H.T.v (λk=>by rw[e]at k;cases k),h⟩,.bin .imp (.refl _) i⟩
 have m:=H.bind x.cty;have f:=m.hyp d hq (xD G x.cty) OB (y:=rz x (sS s.bind) (.v 0)) (.refl _) e;obtain⟨h,i⟩:=j _ _ _ f;refine⟨⟨⟨OC x g _ _ _ (JH _ _ hq) m.T.v λ_=>xD G x.cty,h⟩,rfl⟩,?_⟩;rw[Fk H d];refine .q .all _ (.bin .imp (.refl _) (i.trans ?_));rw[show sS (s.bind.hyp (.v 0))=sS s.bind from rfl,Fk H hy];exact .refl _
end
def LN(x:Fm)(t:Tm)(σ:Nat->Tm)(u:Tm):rz (x.put 0 t 0) σ u=rz x (cs (t.sub σ) σ) u:=by
 rw[dD,tG];congr 1;funext i
 cases i with|zero=>rw[oD];rfl|succ i=>rfl
def ZG{x w:Fm}{t:Tm}(h:x.pt t=.ok w):w=x.put 0 t 0:=by
 grind[Fm.pt]
def ab:∀f:Fm,f.sub Tm.v=f
 :=by intro x;induction x<;>simp_all[Fm.sub,xC,JR]
theorem Gk{f:Fm}(h:f.occ 0=0):(f.low).sh 0 (.ofNat 1)=f:=by
 have e:f.low=f.sub λi=>.v (i-1):=by
  rw[Fm.low,dD];refine IL f _ _ λi a=>?_
  cases i with|zero=>rfl|succ i=>rfl
 rw[e,mE,GN,mz];refine(IL f _ Tm.v λi a=>?_).trans (ab f)
 cases i with|zero=>omega|succ i=>rfl
def xb{F f:Fm}(h:nC F=some f):FCv F (f.sh 0 (.ofNat 1)):=by
 unfold nC at h;split at h
 ·rename_i a;cases h;rw[Gk a];exact .refl _
 grind[Gk,QV,F]
open Go.Lg
def tB(c a:List Fm)(tl:List Tm)(j:Jt):Prop:=∀(g:List Ty)(b:List Fm)(G:List Ty)(d:List Fm)(s:Sc),SoT G g b d s->j.D c g b->j.OK c g.length b->(j.pv tl s).W a G d/\FCv (j.pv tl s).f (rz j.f (sS s) (j.xt tl s))
section
variable{ls lsR:List Fm}{tl:List Tm}(L:RL ls lsR tl){a b:Jt}{f:Fm}
def Yz{i:Nat}:tB ls lsR tl (.leaf false i f):=by
 intro g j G k s H ⟨_,c,d⟩ _;obtain⟨y,x,l,e,h⟩:=H.p i f c d;have:=(List.getElem?_eq_some_iff.1 e).1;have:=H.h;have:s.pl i=s.hyps-1-y.pl:=by grind[Sc.pl]
 refine⟨⟨?_,x,?_,h⟩,.refl _⟩
 ·omega
 grind
include L in
theorem Zz{i:Nat}:tB ls lsR tl (.leaf true i f):=by
 intro g j G l s H ⟨_,h⟩ _;obtain⟨c,y,e,k⟩:=L.h i f h;refine⟨⟨y,e,?_⟩,.refl _⟩;show FCv y (rz f (sS s) (tv tl i));rw[vE f 0 (sS s) Tm.v _ c λi d=>absurd d (Nat.not_lt_zero i)];exact k
theorem j0{t:Tm}:tB ls lsR tl (.refl t):=by
 intro g c G c s H ⟨_,_,h⟩ _;refine⟨RJ H.T h,?_⟩;show FCv (.eq (t.ps s.vs s.dep 0) (t.ps s.vs s.dep 0)) (.eq (t.sub (sS s)) (t.sub (sS s)));rw[uD];exact .refl _
theorem Hk(x y:Fm)(σ:Nat->Tm)(t:Tm):∃u v,rz (.bin .and x y) σ t=.bin .and (rz x σ u) (rz y σ v)/\u=(bif x.has&&y.has then .n1 .fst t else t)/\v=(bif x.has&&y.has then .n1 .snd t else t):=by
 grind[rz]
theorem y0(i:tB ls lsR tl a):tB ls lsR tl (.p1 .andL a f):=by
 intro g j G k s H ⟨_,l,y,e⟩ ⟨_,m,_⟩;obtain⟨n,c⟩:=i g j G k s H l m;have o:(Jt.p1 .andL a f).xt tl s=bif f.has&&y.has then .n1 .fst (a.xt tl s)else a.xt tl s:=by
  show(bif a.f.both then .n1 .fst (a.xt tl s)else a.xt tl s)=_;rw[e];rfl
 rw[e]at c;obtain⟨u,v,p,r,_⟩:=Hk f y (sS s) (a.xt tl s);rw[p]at c;obtain⟨X,Y,d,t,w⟩:=c.ofBin;have h:((Jt.p1 .andL a f).pv tl s).f=X:=by show(match (a.pv tl s).f with|.bin _ x _=>x|f=>f)=_;rw[d]
 refine⟨⟨n,Y,?_⟩,?_⟩
 ·show FCv (a.pv tl s).f (.bin .and ((Jt.p1 .andL a f).pv tl s).f Y);rw[h,d];exact .refl _
 rw[h,o,<-r];exact t
theorem B0(i:tB ls lsR tl a):tB ls lsR tl (.p1 .andR a f):=by
 intro g j G k s H ⟨_,l,y,e⟩ ⟨_,m,_⟩;obtain⟨n,c⟩:=i g j G k s H l m;have o:(Jt.p1 .andR a f).xt tl s=bif y.has&&f.has then .n1 .snd (a.xt tl s)else a.xt tl s:=by
  show(bif a.f.both then .n1 .snd (a.xt tl s)else a.xt tl s)=_;rw[e];rfl
 rw[e]at c;obtain⟨u,v,p,_,r⟩:=Hk y f (sS s) (a.xt tl s);rw[p]at c;obtain⟨X,Y,d,w,t⟩:=c.ofBin;have h:((Jt.p1 .andR a f).pv tl s).f=Y:=by show(match (a.pv tl s).f with|.bin _ _ y=>y|f=>f)=_;rw[d]
 refine⟨⟨n,X,?_⟩,?_⟩
 ·show FCv (a.pv tl s).f (.bin .and X ((Jt.p1 .andR a f).pv tl s).f);rw[h,d];exact .refl _
 rw[h,o,<-r];exact t
theorem Ab(x y:Tm):Cv (.n1 .fst (.n2 .pair x y)) x:=.of (.fst y (.refl x))
theorem Bb(x y:Tm):Cv (.n1 .snd (.n2 .pair x y)) y:=.of (.snd x (.refl y))
theorem C0(n:tB ls lsR tl a)(o:tB ls lsR tl b):tB ls lsR tl (.p2 .andI a b f):=by
 intro g j G l s H ⟨_,p,h,e⟩ ⟨_,r,i,_⟩;obtain⟨t,c⟩:=n g j G l s H p r;obtain⟨u,d⟩:=o g j G l s H h i;refine⟨⟨t,u,.refl _⟩,?_⟩;show FCv (.bin .and (a.pv tl s).f (b.pv tl s).f) (rz f (sS s) (bif a.f.has then(bif b.f.has then .n2 .pair (a.xt tl s) (b.xt tl s)else a.xt tl s)else b.xt tl s));rw[e];simp only[rz];cases m:a.f.has<;>cases v:b.f.has
 ·exact .bin .and (c.trans (PC λk=>by rw[m]at k;cases k)) d
 ·exact .bin .and (c.trans (PC λk=>by rw[m]at k;cases k)) d
 ·exact .bin .and c (d.trans (PC λk=>by rw[v]at k;cases k))
 exact .bin .and (c.trans (PC λ_=>(Ab _ _).symm)) (d.trans (PC λ_=>(Bb _ _).symm))
include L in
theorem D0(t:tB ls lsR tl a)(u:tB ls lsR tl b):tB ls lsR tl (.p2 .impE a b f):=by
 intro g j G l s H ⟨_,v,d,x,e,w⟩ ⟨_,y,h,_⟩;obtain⟨m,c⟩:=t g j G l s H v y;obtain⟨n,o⟩:=u g j G l s H d h;have ex:=KL w;have z:=ex.has;rw[e]at c;show(im (bif b.f.has then ou (b.xt tl s) (a.pv tl s)else a.pv tl s) (b.pv tl s)).W lsR G l/\FCv (im _ _).f (rz f (sS s) (bif b.f.has then .n2 .app (a.xt tl s) (b.xt tl s)else a.xt tl s));simp only[rz,z]at c;cases i:b.f.has
 ·simp only[i,cond_false]at c⊢;exact KP m n c ((TJ ex _ _).trans ((PC λk=>by rw[i]at k;cases k).trans o.symm))
 simp only[i,cond_true]at c⊢;have p:=rC L.T b g g.length j G s rfl d h H.S H.T i;rw[<-BC ex.er]at p;obtain⟨A,r⟩:=PL m c p;have B:(Fm.bin .imp (rz x (NB (sS s)) (.v 0)) (rz f (NB (sS s)) (bif f.has then(a.xt tl s).ap else(a.xt tl s).u1))).put 0 (b.xt tl s) 0=.bin .imp (rz x (sS s) (b.xt tl s)) (rz f (sS s) (bif f.has then .n2 .app (a.xt tl s) (b.xt tl s)else a.xt tl s)):=by
  show Fm.bin .imp ((rz x _ _).put 0 _ 0) ((rz f _ _).put 0 _ 0)=_;rw[OL,OL,oD];cases f.has
  ·rw[cond_false,cond_false,IN]
  rw[cond_true,cond_true,Bk]
 rw[B]at r;obtain⟨w1,w2⟩:=KP A n r ((TJ ex _ _).trans o.symm);exact⟨w1,w2.trans (PC λk=>by rw[k];exact .refl _)⟩
theorem F0{x:Fm}(h:tB ls lsR tl a):tB ls lsR tl (.impI x a):=by
 intro g r G t s H ⟨_,⟨_,i⟩,_,j⟩ ⟨l,_,d⟩;have m:=Jt.FKj d;obtain⟨w1,w2⟩:=jW (lsR:=lsR) H l.sc (tD _ _ i) m.sc (b:=a.pv tl) (T:=a.xt tl) λn c o p=>h g _ n c o p j d
 refine⟨w1,w2.trans ?_⟩;show FCv (vF x a.f _ _ _) (rz (.bin .imp x a.f) (sS s) (bif x.has then .lam x.cty (a.xt tl (s.bind.hyp (.v 0)))else a.xt tl s.bare));unfold vF;simp only[rz];cases e:x.has
 ·exact .bin .imp (PC λk=>by rw[e]at k;cases k) (.refl _)
 refine .q .all _ (.bin .imp (.refl _) (PC λk=>?_));rw[k];exact(qW _ _).symm
end
section
variable{ls lsR:List Fm}{tl:List Tm}(L:RL ls lsR tl){a b:Jt}{f:Fm}
def G0{u:Bool}{w:Ty}(i:tB ls lsR tl a):tB ls lsR tl (.all u w a):=by
 intro g j G p s H ⟨_,_,l,m⟩ ⟨c,_,d⟩;have n:=H.sv w;have e:a.OK ls (g++[w]).length (bA 1 j):=by rw[zC];exact d
 obtain⟨o,h⟩:=i _ _ _ _ _ n l e;refine⟨⟨o,rfl⟩,?_⟩;show FCv (.q .all w (a.pv tl (sv s)).f) _;rw[MP H (Jt.FKj d).sc]at h;cases u
 ·refine .q .all w (h.trans (PC λk=>?_));show Cv _ (bif a.f.has then(Tm.lam w (a.xt tl (sv s))).ap else _);rw[k];exact(qW _ _).symm
 refine .q .all w (h.trans (PC λk=>?_));rw[Pz L.c H.S (qF w c _) d (m rfl) k];exact .refl _
def I0{u:Bool}{t:Tm}(l:tB ls lsR tl a):tB ls lsR tl (.ins u t a f):=by
 intro g m G h s H ⟨_,_,n,w,x,o,p,r⟩ ⟨_,_,v,_⟩;obtain⟨i,d⟩:=l g m G h s H n v;have y:=ZG r;subst y;rw[p]at d;have z:t.ps s.vs s.dep 0=t.sub (sS s):=uD s.vs s.dep t 0;have j:=RJ H.T o;show(ou (t.ps s.vs s.dep 0) (a.pv tl s)).W lsR G h/\FCv (ou (t.ps s.vs s.dep 0) (a.pv tl s)).f (rz (x.put 0 t 0) (sS s) ((Jt.ins u t a (x.put 0 t 0)).xt tl s));rw[LN,<-z];cases u
 ·obtain⟨e,c⟩:=PL i d j;rw[ZR]at c;refine⟨e,c.trans (PC λk=>?_)⟩;rw[k,cond_true,Bk];exact .refl _
 obtain⟨e,c⟩:=PL i d j;rw[ZR,IN]at c;exact⟨e,c⟩
include L in
theorem J0{u:Bool}{x:Fm}{t:Tm}(r:tB ls lsR tl a):tB ls lsR tl (.ex u x t a):=by
 intro g j G z s H ⟨⟨_,A⟩,_,l,w,y,v,B,C,D,E⟩ ⟨F,_,c,_⟩;obtain⟨m,I⟩:=r g j G z s H l c;have J:=ZG D;subst J C;have ex:=KL E;have i:t.ps s.vs s.dep 0=t.sub (sS s):=uD s.vs s.dep t 0;have K:=RJ H.T B;have d:y.has=a.f.has:=by rw[<-ex.has,dD,HF]
 have ec:y.cty=a.f.cty:=by rw[<-BC ex.er,dD,JP]
 have hy:y.sc (g.length+1):=F.sc
 --n M part h
 have o:FCv (a.pv tl s).f (rz y (cs (t.sub (sS s)) (sS s)) (a.xt tl s)):=by
  rw[<-LN];exact I.trans (TJ ex.symm _ _)
 cases u
 ·refine⟨m,o.trans ?_⟩;show FCv _ (rz (.q .ex w y) (sS s) (bif a.f.has then .n2 .pair (t.ps s.vs s.dep 0) (a.xt tl s)else t.ps s.vs s.dep 0));simp only[rz,d];cases e:a.f.has
  ·rw[cond_false,cond_false,i];exact PC λk=>by rw[d,e]at k;cases k
  rw[cond_true,cond_true,i];exact sE y (Cv.cs (Ab _ _).symm λ_=>.refl _) (Bb _ _).symm
 have N:=H.sv w;have hq:(Fm.q .exU w (rz y (sS (sv s)) (a.tx tl s.bind))).hq G:=OC y _ (G++[w]) _ _ (JH _ _ (tD _ _ A)) N.T.v λk=>by
  rw[d]at k;unfold Jt.tx;rw[k,cond_true,QL L.c H.S c k,ec];exact jE w (rC L.T a g g.length j G s rfl l c H.S H.T k)
 have p:FCv (rz y (sS (sv s)) (a.tx tl s.bind)) (rz y (cA (sS s)) (a.xt tl s).u1):=by
  rw[MP H hy];refine PC λk=>?_
  rw[d]at k;unfold Jt.tx;rw[k,cond_true,QL L.c H.S c k];exact .refl _
 refine⟨⟨hq,m,w,_,K,rfl,?_⟩,?_⟩
 ·refine(p.put _ 0 0).trans ?_;rw[ZR,IN,i];exact o.symm
 show FCv (.q .exU w (rz y (sS (sv s)) (a.tx tl s.bind))) (.q .exU w (rz y (cA (sS s)) (a.xt tl s).u1));exact .q .exU w p
include L in
theorem L0{x:Fm}(n:tB ls lsR tl a)(o:tB ls lsR tl b):tB ls lsR tl (.subst x a b f):=by
 intro g h G i s H ⟨_,⟨_,p⟩,r,d,t,u,w,e,y,z,A⟩ ⟨_,B,C,c,_⟩;obtain⟨D,j⟩:=n g h G i s H r C;obtain⟨E,F⟩:=o g h G i s H d c;have I:=ZG y;have J:=ZG A;subst I J;have ex:=KL z;have l:x.has=b.f.has:=by rw[<-ex.has,dD,HF]
 have ec:x.cty=b.f.cty:=by rw[<-BC ex.er,dD,JP]
 have K:=H.sv .nat;rw[e]at j;have hq:(rz x (sS (sv s)) (b.tx tl s.bind)).hq (G++[.nat]):=OC x _ _ _ _ (JH _ _ (tD _ _ p)) K.T.v λk=>by
  rw[l]at k;unfold Jt.tx;rw[k,cond_true,QL L.c H.S c k,ec];exact jE .nat (rC L.T b g g.length h G s rfl d c H.S H.T k)
 have M:FCv (rz x (sS (sv s)) (b.tx tl s.bind)) (rz x (cA (sS s)) (b.xt tl s).u1):=by
  rw[MP H B.sc];refine PC λk=>?_
  rw[l]at k;unfold Jt.tx;rw[k,cond_true,QL L.c H.S c k];exact .refl _
 have m:∀v:Tm,FCv ((rz x (sS (sv s)) (b.tx tl s.bind)).put 0 (v.sub (sS s)) 0) (rz (x.put 0 v 0) (sS s) (b.xt tl s)):=λv=>by
  refine(M.put _ 0 0).trans ?_;rw[ZR,IN,LN];exact .refl _
 refine⟨⟨hq,D,E,t.sub (sS s),u.sub (sS s),j,(m t).trans ((TJ ex _ _).trans F.symm),?_⟩,?_⟩
 ·exact(m u).symm
 exact .refl _
theorem Ik(t:Tm)(σ:Nat->Tm)(u:Tm):(t.sub (cA σ)).put 0 u 0=t.sub (cs u σ):=by
 rw[NC,iD];congr 1;funext i
 cases i with|zero=>exact oD u|succ i=>exact YR _ _
theorem VJ(s:Ty)(b a:Tm):Cv (.n2 .app (.lam s b) a) (b.sub (cs a Tm.v)):=by
 have h:=Par.beta s (Par.refl b) (Par.refl a);have e:=Ik b Tm.v a;rw[zW,xC]at e;rw[e]at h;exact .of h
theorem Jk(w:Ty)(S:Ty)(t:Tm):Cv (.n2 .app (.lam S (WG w)) t) (.n2 .pair (.lam w (.n1 .fst t.ap)) (.lam w (.n1 .snd t.ap))):=VJ S (WG w) t
theorem M0(w S:Ty)(t:Tm):Cv (Tm.n1 .fst (.n2 .app (.lam S (WG w)) t)).ap (.n1 .fst t.ap):=((((Jk w S t).n1 .fst).trans (Ab _ _)).ap).trans (qW _ _)
theorem N0(w S:Ty)(t:Tm):Cv (Tm.n1 .snd (.n2 .app (.lam S (WG w)) t)).ap (.n1 .snd t.ap):=((((Jk w S t).n1 .snd).trans (Bb _ _)).ap).trans (qW _ _)
theorem O0(n:tB ls lsR tl a):tB ls lsR tl (.p1 .choice a f):=by
 intro g o G p s H ⟨_,r,w,u,x,e,_,y,v,z⟩ ⟨_,A,_⟩;obtain⟨B,l⟩:=n g o G p s H r A;have C:=ZG v;subst C z;rw[e]at l;refine⟨B,l.trans ?_⟩;show FCv (rz (.q .all w (.q .ex u x)) _ _) (rz _ (sS s) (FI a.f (a.xt tl s)));rw[e];have D:((x.sh 2 (.ofNat 1)).put 0 vapp 0).has=x.has:=by rw[dD,HF,mE,sG,HF]
 --h d below,with j for h function and E c
 have key:∀(τ:Nat->Tm)(t:Tm),rz ((x.sh 2 (.ofNat 1)).put 0 vapp 0) τ t=rz x (cs (.n2 .app (τ 1) (τ 0)) (cs (τ 0) λi=>τ (i+2))) t:=λτ t=>by
  rw[LN,mE,sG,tG];congr 1;funext i;rcases i with _|_|i
  ·rfl
  ·rfl
  rfl
 show FCv (.q .all w (rz (.q .ex u x) (cA (sS s)) (a.xt tl s).ap)) (rz (.q .ex (.two true w u) (.q .all w _)) (sS s) (bif x.has then .n2 .app (.lam (.two true w (.two false u x.cty)) (WG w)) (a.xt tl s)else a.xt tl s));simp only[rz,Fm.has,D];cases k:x.has
 ·simp only[cond_false,key];refine .q .all w ?_;exact PC λm=>by rw[k]at m;cases m
 simp only[cond_true,key];refine .q .all w (sE x (λi=>?_) (N0 _ _ _).symm);rcases i with _|_|i
 ·exact(M0 _ _ _).symm
 ·exact .refl _
 exact .refl _
end
open Go.Lg
def zS(A:Tm):(λi=>(Tm.v i).put 0 A 0)=cs A Tm.v:=by
 funext i
 cases i with|zero=>exact oD A|succ i=>rfl
def NP(f:Fm)(A:Tm):f.put 0 A 0=f.sub (cs A Tm.v):=by rw[dD,zS]
def Kk(σ:Nat->Tm)(A:Tm):(λi=>(cA σ i).sub (cs A Tm.v))=cs A σ:=by
 funext i
 cases i with
 |zero=>rfl|succ i=>
  rw[<-zS];exact YR _ _
def Lk(x y:Fm)(σ:Nat->Tm)(t a A:Tm):(vF x y (cA σ) t a).put 0 A 0=vF x y (cs A σ) (t.sub (cA (cs A Tm.v))) (a.sub (cs A Tm.v)):=by
 rw[NP];unfold vF;cases x.has
 ·simp only[cond_false,Fm.sub,EE,Kk];rfl
 simp only[cond_true,Fm.sub,EE,gk,Kk];rfl
section
variable{ls lsR:List Fm}{tl:List Tm}(L:RL ls lsR tl){a b:Jt}{f:Fm}
def P0{g G:List Ty}{c d:List Fm}{s:Sc}(H:SoT G g c d s){x y:Fm}(c:x.sc (g.length+1))(hy:y.sc (g.length+1))(t c:Tm):vF x y (sS (sv s)) t c=vF x y (cA (sS s)) t c:=by
 have h:=LP H.S
 grind[vF,vE]
include L in
theorem Q0(I:tB ls lsR tl a)(J:tB ls lsR tl b):tB ls lsR tl (.p2 .exE a b f):=by
 intro g r G t s H ⟨_,v,⟨u,e,l⟩,_,C⟩ ⟨_,w,c,_⟩;obtain⟨D,j⟩:=I g r G t s H v w;have m:=(Jt.FKj w).sc;have p:=GF L.q a g r H.q v;have K:a.f.has=true:=by rw[e];rfl
 have h:=rC L.T a g g.length r G s rfl v w H.S H.T K;have eq:a.f.qs=u:=by rw[e];rfl
 show(im (bif a.f.bd.has then ou (.n1 .snd (a.xt tl s)) (ou (.n1 .fst (a.xt tl s)) (.all false a.f.qs (un a.f.bd (b.pv tl) (sv s))))else ou (a.xt tl s) (.all false a.f.qs (un a.f.bd (b.pv tl) (sv s)))) (a.pv tl s)).W lsR G t/\FCv (im _ _).f (rz f (sS s) (bif a.f.bd.has then .n2 .app (.lam (.two false a.f.qs a.f.bd.cty) (b.xt tl ((s.bind.var (.n1 .fst (.v 0))).hyp (.n1 .snd (.v 0))))) (a.xt tl s)else .n2 .app (.lam a.f.qs (b.xt tl (sv s).bare)) (a.xt tl s)));rw[eq];generalize a.f.bd=x at e l c⊢;rw[e]at m p h j;have m:x.sc (g.length+1):=m;have p:x.tq (g++[u]):=p;have fb:b.f.sc (g.length+1):=(Jt.FKj c).sc;have M:=H.sv u;obtain⟨w1,w2⟩:=jW (lsR:=lsR) M (x:=x) (y:=b.f) (by rw[zC];exact m) p (by rw[zC];exact fb) (b:=b.pv tl) (T:=b.xt tl) λN y O P=>J _ _ N y O P l (by rw[zC];exact c)
 rw[P0 H m fb]at w2;have E:(Jt.all false u (un x (b.pv tl) (sv s))).W lsR G t:=⟨w1,rfl⟩;have w3:FCv (Jt.all false u (un x (b.pv tl) (sv s))).f (.q .all u (vF x b.f (cA (sS s)) (b.xt tl ((sv s).bind.hyp (.v 0))) (b.xt tl (sv s).bare))):=.q .all u w2;have n:FCv b.f (f.sh 0 (.ofNat 1)):=xb C;have z:f.has=b.f.has:=SA (pF C);simp only[rz]at j;simp only[Fm.cty]at h;cases k:x.has
 ·simp only[k,cond_false]at j h⊢;obtain⟨A,d⟩:=PL E w3 h;rw[Lk]at d;unfold vF at d;simp only[k,cond_false]at d;obtain⟨p1,p2⟩:=KP A D d ((PC λo=>by rw[k]at o;cases o).trans j.symm);refine⟨p1,p2.trans ((TJ n _ _).trans ?_)⟩;rw[WR];exact PC λ_=>(VJ _ _ _).symm
 simp only[k,cond_true]at j h⊢;obtain⟨A,d⟩:=PL E w3 (t:=.n1 .fst (a.xt tl s)) ⟨_,h⟩;rw[Lk]at d;unfold vF at d;simp only[k,cond_true]at d;obtain⟨Q,F⟩:=PL A d (t:=.n1 .snd (a.xt tl s)) ⟨_,h⟩;have R:∀(τ:Nat->Tm)(T B:Tm),(Fm.bin .imp (rz x (NB τ) (.v 0)) (rz b.f (NB τ) T)).put 0 B 0=.bin .imp (rz x τ B) (rz b.f τ (T.put 0 B 0)):=λτ T B=>by
  show Fm.bin .imp ((rz x _ _).put 0 _ 0) ((rz b.f _ _).put 0 _ 0)=_;rw[OL,OL,oD]
 rw[R]at F;obtain⟨p1,p2⟩:=KP Q D F j.symm;refine⟨p1,p2.trans ((TJ n _ _).trans ?_)⟩;rw[WR,Ik];refine PC λo=>?_
 rw[z]at o;rw[Tz L.c H.S c k o];refine .trans ?_ (VJ _ _ _).symm;rw[iD];refine Cv.subst _ λi=>?_
 rcases i with _|_|i
 ·exact .refl _
 ·exact .refl _
 exact .refl _
end
theorem Mk{t:Tm}{ρ:Nat->Nat}{c:Nat}(h:∀j,ρ j≠c):(t.ren ρ).occ c=0:=by
 grind[HL,absurd]
theorem OP:∀(f:Fm)(ρ:Nat->Nat)(c:Nat),(∀j,ρ j≠c)->(f.ren ρ).occ c=0
 |.eq a b,ρ,c,h=>by grind[Fm.ren,Fm.occ,Mk]|.bin _ f g,ρ,c,h=>by simp only[Fm.ren,Fm.occ,OP f ρ c h,OP g ρ c h]|.q _ _ f,ρ,c,h=>by
  refine OP f _ _ λj=>?_
  cases j with|zero=>simp[cD]|succ j=>have:=h j;simp only[cD];omega
def T0(f:Fm):(f.sh 0 (.ofNat 1)).occ 0=0:=by
 rw[mE,GN];simp[OP]
def Cb:∀(f:Fm)(σ τ:Nat->Tm),(f.sub σ).sub τ=f.sub λi=>(σ i).sub τ
 :=by intro x;induction x<;>simp_all[Fm.sub,iD,HN]
def Nk(f:Fm):(f.sh 0 (.ofNat 1)).low=f:=by
 rw[Fm.low,NP,mE,GN,sG,Cb];exact ab f
section
variable{ls lsR:List Fm}{tl:List Tm}(L:RL ls lsR tl){a b:Jt}{f:Fm}
include L in
theorem U0(U:tB ls lsR tl a)(M:tB ls lsR tl b):tB ls lsR tl (.p2 .exUE a b f):=by
 intro g C G r s H ⟨_,F,⟨u,e,o⟩,_,N,O⟩ ⟨ff,D,c,_⟩;obtain⟨V,t⟩:=U g C G r s H F D;have fk:=Jt.FKj D;have j:=fk.sc;have p:=GF L.q a g C H.q F;have v:a.f.qs.size<=64:=by
  rw[e]at fk⊢;exact kD (EA fk.shp).1
 have w:a.f.has=a.f.bd.has:=by rw[e];rfl
 have y:a.f.cty=a.f.bd.cty:=by rw[e];rfl
 --W l
 have d:∀{Q:Jt}{E:Fm},FCv (a.pv tl s).f (.q .exU u E)->Q.W lsR (G++[u]) (bA 1 r++[E])->∀T:Tm,FCv Q.f (rz b.f (sS (sv s)) T)->(f.has=true->Cv T ((Jt.p2 .exUE a b f).xt tl s).u1)->(Jt.p2 .exUE (a.pv tl s) Q (rz f (sS s) ((Jt.p2 .exUE a b f).xt tl s))).W lsR G r/\FCv (Jt.p2 .exUE (a.pv tl s) Q (rz f (sS s) ((Jt.p2 .exUE a b f).xt tl s))).f (rz f (sS s) ((Jt.p2 .exUE a b f).xt tl s)):=λ{Q E}X Y T P Z=>by
  refine⟨⟨V,⟨u,E,(rz f (sS s) ((Jt.p2 .exUE a b f).xt tl s)).sh 0 (.ofNat 1),X,Y,?_,T0 _,?_⟩,?_⟩,.refl _⟩
  ·refine P.trans ((TJ (xb N) _ _).trans ?_);rw[vE (f.sh 0 (.ofNat 1)) _ _ (cA (sS s)) _ (xI 1 f 0 _ ff.sc) (LP H.S),show cA (sS s)=cs (.v 0) (NB (sS s)) by funext i;cases i<;>rfl,WR,Ak];exact PC Z
  ·rw[Nk];exact .refl _
  rw[P.has,SJ]
 have h:(Jt.p2 .exUE a b f).xt tl s=bif a.f.bd.has then .n2 .app (.lam a.f.bd.cty (b.xt tl ((s.bind.var a.f.qs.ini).hyp (.v 0)))) (a.xt tl s)else b.xt tl (s.var a.f.qs.ini).bare:=rfl;have z:f.has=b.f.has:=SA (pF N);show(Jt.p2 .exUE (a.pv tl s) (bif a.f.bd.has then im (ou (a.xt tl s.bind) (un a.f.bd (b.pv tl) (sv s).skip)) (.leaf false 0 (rz a.f.bd (sS (sv s)) (a.xt tl s.bind)))else b.pv tl (sv s).bare) (rz f (sS s) _)).W lsR G r/\FCv (Jt.p2 .exUE _ _ _).f _;rw[e]at j p t;generalize a.f.bd=x at e o c h w y j p t⊢;have j:x.sc (g.length+1):=j;have p:x.tq (g++[u]):=p;have fb:b.f.sc (g.length+1):=(Jt.FKj c).sc;have R:=H.sv u;have m:b.OK ls (g++[u]).length (bA 1 C++[x]):=by rw[zC];exact c
 simp only[rz]at t;cases k:x.has
 ·simp only[k,cond_false]at h⊢;have I:=R.bare (x:=x) (by rw[zC];exact j) p k (y:=rz x (cA (sS s)) (a.xt tl s).u1) (by rw[MP H j];exact PC λn=>by rw[k]at n;cases n);obtain⟨w1,w2⟩:=M _ _ _ _ _ I o m;refine d t w1 _ w2 λn=>?_
  rw[z]at n;rw[h,Qz L.c H.S (qF _ v _) c k O n];exact .refl _
 simp only[k,cond_true]at h⊢;have A:a.f.has=true:=by rw[w];exact k
 have J:=QL L.c H.S D A;have I:=R.skip (rz x (sS (sv s)) (a.xt tl s.bind));obtain⟨w1,w2⟩:=jW (lsR:=lsR) I (x:=x) (y:=b.f) (by rw[zC];exact j) p (by rw[zC];exact fb) (b:=b.pv tl) (T:=b.xt tl) λG' K s' H'=>M _ _ G' K s' H' o m
 unfold vF at w2;simp only[k,cond_true]at w2;have ht:Ht (G++[u]) (a.xt tl s.bind) x.cty:=by
  rw[J,<-y];exact jE u (rC L.T a g g.length C G s rfl F D H.S H.T A)
 obtain⟨q1,S⟩:=PL w1 w2 ht;have e3:∀(τ:Nat->Tm)(T B:Tm),(Fm.bin .imp (rz x (NB τ) (.v 0)) (rz b.f (NB τ) T)).put 0 B 0=.bin .imp (rz x τ B) (rz b.f τ (T.put 0 B 0)):=λτ T B=>by
  show Fm.bin .imp ((rz x _ _).put 0 _ 0) ((rz b.f _ _).put 0 _ 0)=_;rw[OL,OL,oD]
 rw[e3,show sS (sv s).skip=sS (sv s)from rfl]at S;have hl:(Jt.leaf false 0 (rz x (sS (sv s)) (a.xt tl s.bind))).W lsR (G++[u]) (bA 1 r++[rz x (sS (sv s)) (a.xt tl s.bind)]):=⟨by simp,_,by simp,.refl _⟩;obtain⟨p1,p2⟩:=KP q1 hl S (.refl _);refine d (t.trans (.q .exU u ?_)) p1 _ p2 λn=>?_
 ·rw[MP H j,J];exact .refl _
 rw[z]at n;rw[h,Rz L.c H.S (qF _ v _) c k O n,J,NC,zS];exact(VJ _ _ _).symm
end
open Go.Lg
def vW(f:Fm)(k:Nat)(c:Tm):(f.sh 1 (.ofNat k)).put 0 c 0=f.sub (cs c λi=>.v (i+k)):=by
 rw[NP,mE,sG,Cb];congr 1;funext i
 cases i with
 |zero=>rfl|succ i=>
  rw[show bD 1 k (i+1)=i+k+1 by unfold bD;rw[if_pos (by omega)];omega];rfl
def Db(t:Tm)(k:Nat)(c:Tm):t.u1.sub (cs c λi=>.v (i+k))=t.sh 0 (.ofNat k):=by
 rw[Tm.u1,pb,JN];rfl
def V0(x:Fm)(σ:Nat->Tm)(R c:Tm)(k:Nat):(rz x (cA σ) R).sub (cs c λi=>.v (i+k))=rz x (cs c λi=>(σ i).sh 0 (.ofNat k)) (R.sub (cs c λi=>.v (i+k))):=by
 rw[EE];congr 1;funext i
 cases i with|zero=>rfl|succ i=>exact Db _ _ _
def KH(tl:List Tm)(l:Bool)(x:Fm)(b:Jt)(s:Sc):Tm:=match l with|false=>.lam .nat (.lam x.cty (b.xt tl ((sv s).bind.hyp (.v 0))))|true=>.lam .nat (.lam .list (.lam x.cty (b.xt tl ((sv (sv s)).bind.hyp (.v 0)))))
def kk:Bool->K3|false=>.re|true=>.fo
def Ok(tl:List Tm)(l:Bool)(x:Fm)(a b:Jt)(s:Sc)(n:Tm):YC tl l x a b s n=.n3 (kk l) x.cty (a.xt tl s) (KH tl l x b s) n:=by cases l<;>rfl
def Pk(a:List Fm)(n:Nat)(c:List Fm)(l:Bool)(x:Fm)(b:Jt):Prop:=match l with|false=>b.OK a (n+1) (bA 1 c++[x])|true=>b.OK a (n+2) (bA 2 c++[x.sh 1 (.ofNat 1)])
section
variable{ls lsR:List Fm}{tl:List Tm}(L:RL ls lsR tl){a b:Jt}{f:Fm}
include L in
theorem Eb{n:Nat}{c:List Fm}{s:Sc}{l:Bool}{x:Fm}(S:ScOK n (c.map Fm.has) s)(d:Pk ls n c l x b)(e:x.has=true)(g:b.f.has=true):KH tl l x b s.bind=(KH tl l x b s).u1:=by
 cases l
 ·show Tm.lam .nat (.lam x.cty (b.xt tl ((sv s.bind).bind.hyp (.v 0))))=_;rw[Vz L.c S d e g];rfl
 show Tm.lam .nat (.lam .list (.lam x.cty (b.xt tl ((sv (sv s.bind)).bind.hyp (.v 0)))))=_;rw[Xz L.c S d (by rw[SA (JD _ x 1)];exact e) g];rfl
theorem X0(s:Ty)(A B R:Tm)(h:R=.n3 .re s A.u1 (Tm.lam .nat (.lam s B)).u1 (.v 0)):Cv (.n3 .re s A.u1 (Tm.lam .nat (.lam s B)).u1 (.n1 .succ (.v 0))) (B.put 0 R 0):=by
 have c:Cv (.n3 .re s A.u1 (Tm.lam .nat (.lam s B)).u1 (.n1 .succ (.v 0))) (.n2 .app (.n2 .app (Tm.lam .nat (.lam s B)).u1 (.v 0)) R):=h▸.of (.reS s (.refl _) (.refl _) (.refl _));refine c.trans ?_;have d:Cv (.n2 .app (Tm.lam .nat (.lam s B)).u1 (.v 0)) ((Tm.lam s (B.sh 2 (.ofNat 1))).sub (cs (.v 0) Tm.v)):=VJ .nat (.lam s (B.sh 2 (.ofNat 1))) (.v 0);refine(d.n2 .app (.refl R)).trans ((VJ s _ R).trans ?_);rw[iD,eD,zE,NC,zS];refine Cv.subst _ λi=>?_
 rcases i with _|_|i
 ·exact .refl _
 ·exact .refl _
 exact .refl _
theorem Y0(s:Ty)(A B R:Tm)(h:R=.n3 .fo s A.u1.u1 (Tm.lam .nat (.lam .list (.lam s B))).u1.u1 (.v 0)):Cv (.n3 .fo s A.u1.u1 (Tm.lam .nat (.lam .list (.lam s B))).u1.u1 (.n2 .cons (.v 1) (.v 0))) (B.put 0 R 0):=by
 have c:Cv (.n3 .fo s A.u1.u1 (Tm.lam .nat (.lam .list (.lam s B))).u1.u1 (.n2 .cons (.v 1) (.v 0))) (.n2 .app (.n2 .app (.n2 .app (Tm.lam .nat (.lam .list (.lam s B))).u1.u1 (.v 1)) (.v 0)) R):=h▸.of (.foC s (.refl _) (.refl _) (.refl _) (.refl _));refine c.trans ?_;have d:Cv (.n2 .app (Tm.lam .nat (.lam .list (.lam s B))).u1.u1 (.v 1)) ((Tm.lam .list (.lam s ((B.sh 3 (.ofNat 1)).sh 3 (.ofNat 1)))).sub (cs (.v 1) Tm.v)):=VJ .nat (.lam .list (.lam s ((B.sh 3 (.ofNat 1)).sh 3 (.ofNat 1)))) (.v 1);refine(((d.n2 .app (.refl (.v 0))).trans (VJ .list _ _)).n2 .app (.refl R)).trans ?_;refine(VJ s _ R).trans ?_;rw[iD,iD,eD,eD,zE,zE,NC,zS];refine Cv.subst _ λi=>?_
 rcases i with _|_|_|i
 ·exact .refl _
 ·exact .refl _
 ·exact .refl _
 exact .refl _
end
def wW(a:List Fm):bA 1 (bA 1 a)=bA 2 a:=by
 simp only[bA,List.map_map];exact List.map_congr_left λf _=>Bi 1 1 f 0
section
variable{ls lsR:List Fm}{tl:List Tm}{a b:Jt}{f:Fm}
def Qk{g G:List Ty}{d e:List Fm}{s:Sc}{x:Fm}(H:SoT G g d e s)(i:x.sc g.length)(j:x.tq g)(fb:b.f.sc g.length)(l:tB ls lsR tl b)(m:b.D ls g (d++[x]))(n:b.OK ls g.length (d++[x])){R:Tm}(p:x.has=true->Ht G R x.cty){Mo:Fm}(c:FCv Mo (rz x (sS s) (bif x.has then R else .n0 .unit))):(bif x.has then im (ou R (un x (b.pv tl) s.skip)) (.leaf false 0 (rz x (sS s) R))else b.pv tl s.bare).W lsR G (e++[Mo])/\FCv (bif x.has then im (ou R (un x (b.pv tl) s.skip)) (.leaf false 0 (rz x (sS s) R))else b.pv tl s.bare).f (rz b.f (sS s) (bif x.has then(b.xt tl (s.skip.bind.hyp (.v 0))).put 0 R 0 else b.xt tl s.bare)):=by
 cases k:x.has
 ·simp only[k,cond_false]at c⊢;exact l _ _ _ _ _ (H.bare i j k c) m n
 simp only[k,cond_true]at c⊢;have r:=H.skip Mo;obtain⟨w1,w2⟩:=jW (lsR:=lsR) r (x:=x) (y:=b.f) i j fb (b:=b.pv tl) (T:=b.xt tl) λt h u v=>l _ _ t h u v m n
 unfold vF at w2;simp only[k,cond_true]at w2;obtain⟨w,o⟩:=PL w1 w2 (p k);have y:∀(τ:Nat->Tm)(T B:Tm),(Fm.bin .imp (rz x (NB τ) (.v 0)) (rz b.f (NB τ) T)).put 0 B 0=.bin .imp (rz x τ B) (rz b.f τ (T.put 0 B 0)):=λτ T B=>by
  show Fm.bin .imp ((rz x _ _).put 0 _ 0) ((rz b.f _ _).put 0 _ 0)=_;rw[OL,OL,oD]
 rw[y]at o;have z:(Jt.leaf false 0 (rz x (sS s) R)).W lsR G (e++[Mo]):=⟨by simp,_,by simp,c⟩;exact KP w z o (.refl _)
def Fb{σ τ:Nat->Tm}{k n:Nat}{c:Tm}{s:Sc}(d:∀i,τ (i+k)=(σ i).sh 0 (.ofNat k))(e:c.sub τ=c)(g:∀i,i<n->sS s i=τ i){x y:Fm}(hy:y.sc n)(h:FCv ((x.sh 1 (.ofNat k)).put 0 c 0) y)(T:Tm):FCv (rz y (sS s) T) (rz x (cs c λi=>(σ i).sh 0 (.ofNat k)) T):=by
 rw[vE y n _ τ T hy g];refine(TJ h.symm τ T).trans ?_;rw[vW,tG,show(λi=>(cs c (λi=>Tm.v (i+k)) i).sub τ)=cs c λi=>(σ i).sh 0 (.ofNat k) by
  funext i
  cases i with|zero=>exact e|succ i=>exact d i]
 exact .refl _
def Z0(K:K3)(s:Ty)(A F c:Tm)(k:Nat):(Tm.n3 K s A.u1 F.u1 (.v 0)).sub (cs c λi=>.v (i+k))=.n3 K s (A.sh 0 (.ofNat k)) (F.sh 0 (.ofNat k)) c:=by
 show Tm.n3 K s (A.u1.sub _) (F.u1.sub _) c=_;rw[Db,Db]
def jS(t:Tm):t.sh 0 (.ofNat 2)=t.u1.u1:=(CH 1 1 t 0).symm
def C1{n:Nat}{c cs:List Bool}{s:Sc}(h:ScOK n c s)(d:ScOK (n+1) cs (sv s)):∀i,i<n+2->sS (sv (sv s)) i=cA (cA (sS s)) i:=λi c=>(LP d i c).trans (ZV (LP h) i c)
end
open Go.Lg
section
variable{ls lsR:List Fm}{tl:List Tm}(L:RL ls lsR tl){a b:Jt}{f:Fm}
include L in
theorem D1{l:Bool}{x:Fm}{t:Tm}(Ha:tB ls lsR tl a)(Hb:tB ls lsR tl b):tB ls lsR tl (.ind l x t a b f):=by
 intro g N G P s H hD hO;have R:=hD;have S:=hO;obtain⟨_,⟨_,hx⟩,⟨_,U⟩,⟨V,w,e1,em⟩,_,⟨B,w2,p,W⟩,e3⟩:=hD;obtain⟨_,X,_,n,_,⟨ea,eb⟩,d⟩:=hO;obtain⟨h1,h2⟩:=Ha g N G P s H V n;have ew:=ZG e1;have Y:=ZG p;have ef:=ZG e3;subst ew Y ef;have c1:=KL em;have c2:=KL W;have C:a.f.has=x.has:=SA ea;have o:b.f.has=x.has:=SA eb;have Z:=tD _ _ hx;have r:Pk ls g.length N l x b:=by cases l<;>exact d
 have O:x.has=true->YC tl l x a b s.bind (.v 0)=.n3 (kk l) x.cty (a.xt tl s).u1 (KH tl l x b s).u1 (.v 0):=λk=>by
  rw[Ok,QL L.c H.S n (by rw[C];exact k),Eb L H.S r k (by rw[o];exact k)]
 have D:(Jt.ind l x t a b (x.put 0 t 0)).xt tl s=.n3 (kk l) x.cty (a.xt tl s) (KH tl l x b s) (t.sub (sS s)):=by
  rw[<-show t.ps s.vs s.dep 0=t.sub (sS s)from uD _ _ _ _];cases l<;>rfl
 have hT:x.has=true->Ht G (.n3 (kk l) x.cty (a.xt tl s) (KH tl l x b s) (t.sub (sS s))) (x.put 0 t 0).cty:=λk=>by
  rw[<-D];exact rC L.T _ g g.length N G s rfl R S H.S H.T (by show(x.put 0 t 0).has=true;rw[dD,HF];exact k)
 have E:x.has=true->Ht (G++[lT l]) (YC tl l x a b s.bind (.v 0)) x.cty:=λk=>by
  have q:=hT k;rw[O k];cases l
  ·exact⟨rfl,jE _ q.2.1,jE _ q.2.2.1,xD G _⟩
  exact⟨rfl,jE _ q.2.1,jE _ q.2.2.1,xD G _⟩
 have H1:=H.sv (lT l);have hM:=MP H X.sc (bif x.has then YC tl l x a b s.bind (.v 0)else .n0 .unit);have hq:(rz x (sS (sv s)) (bif x.has then YC tl l x a b s.bind (.v 0)else .n0 .unit)).hq (G++[lT l]):=OC x _ _ _ _ (JH _ _ Z) H1.T.v λk=>by rw[k];exact E k
 have mp:∀u:Tm,FCv ((rz x (sS (sv s)) (bif x.has then YC tl l x a b s.bind (.v 0)else .n0 .unit)).put 0 u 0) (rz x (cs u (sS s)) (.n3 (kk l) x.cty (a.xt tl s) (KH tl l x b s) u)):=λu=>by
  rw[hM,ZR];refine PC λk=>?_
  rw[k,cond_true,O k];show Cv (.n3 (kk l) _ ((a.xt tl s).u1.put 0 u 0) ((KH tl l x b s).u1.put 0 u 0) ((Tm.v 0).put 0 u 0)) _;rw[IN,IN,oD];exact .refl _
 have hb0:Cv (.n3 (kk l) x.cty (a.xt tl s) (KH tl l x b s) (l0 l)) (a.xt tl s):=by
  cases l
  ·exact .of (.re0 _ _ (.refl _))
  exact .of (.fo0 _ _ (.refl _))
 have base:FCv ((rz x (sS (sv s)) (bif x.has then YC tl l x a b s.bind (.v 0)else .n0 .unit)).put 0 (l0 l) 0) (a.pv tl s).f:=by
  refine((mp _).trans (sE x (λ_=>.refl _) hb0)).trans (.trans ?_ h2.symm);have q:=TJ c1 (sS s) (a.xt tl s);rw[LN,show(l0 l).sub (sS s)=l0 l by cases l<;>rfl]at q;exact q
 have e:∀Q:Jt,Q.W lsR (G++lG l) (xJ P (rz x (sS (sv s)) (bif x.has then YC tl l x a b s.bind (.v 0)else .n0 .unit)) l)->FCv (((rz x (sS (sv s)) (bif x.has then YC tl l x a b s.bind (.v 0)else .n0 .unit)).sh 1 (.ofNat (lN l))).put 0 (l1 l) 0) Q.f->(Jt.ind l (rz x (sS (sv s)) (bif x.has then YC tl l x a b s.bind (.v 0)else .n0 .unit)) (t.ps s.vs s.dep 0) (a.pv tl s) Q (rz (x.put 0 t 0) (sS s) ((Jt.ind l x t a b (x.put 0 t 0)).xt tl s))).W lsR G P:=λQ z A=>by
  refine⟨hq,RJ H.T U,⟨h1,base⟩,⟨z,A⟩,?_⟩;rw[D,LN,show t.ps s.vs s.dep 0=t.sub (sS s)from uD _ _ _ _];exact(mp _).symm
 have j:∀(k:Nat)(c T:Tm),(x.has=true->Cv (.n3 (kk l) x.cty ((a.xt tl s).sh 0 (.ofNat k)) ((KH tl l x b s).sh 0 (.ofNat k)) c) T)->FCv ((rz x (sS (sv s)) (bif x.has then YC tl l x a b s.bind (.v 0)else .n0 .unit)).sub (cs c λi=>.v (i+k))) (rz x (cs c λi=>(sS s i).sh 0 (.ofNat k)) T):=λk c T hc=>by
  rw[hM,V0];refine PC λh=>?_
  rw[h,cond_true,O h,Z0];exact hc h
 have fb:=(Jt.FKj (show b.OK ls (g.length+lN l) (xJ N x l) by cases l<;>exact d)).sc;refine⟨?_,.refl _⟩;cases l
 ·obtain⟨z,A⟩:=Qk (lsR:=lsR) (tl:=tl) (b:=b) H1 (x:=x) (by rw[zC];exact X.sc) Z (by rw[zC];exact fb) Hb B (by rw[zC];exact d) E (.refl _);refine e _ z (.trans ?_ A.symm);refine .trans ?_ (Fb (σ:=sS s) (τ:=cA (sS s)) (k:=1) (n:=g.length+1) (c:=.n1 .succ (.v 0)) (λi=>rfl) rfl (LP H.S) fb c2 _).symm;rw[lN,vW];refine j 1 (.n1 .succ (.v 0)) _ λk=>?_
  rw[k,cond_true,Uz L.c H.S d k (by rw[o];exact k)];exact X0 _ _ _ _ (O k)
 have I:=H.sv .nat;have H2:=I.sv .list;rw[wW,wW]at H2;have m:(x.sh 1 (.ofNat 1)).has=x.has:=SA (JD _ x 1);have ec':(x.sh 1 (.ofNat 1)).cty=x.cty:=BC (JD _ x 1);have p:(g++[.nat]++[.list]:List Ty)=g++lG true:=by rw[List.append_assoc];rfl
 have v:(G++[.nat]++[.list]:List Ty)=G++lG true:=by rw[List.append_assoc];rfl
 have el:(g++lG true).length=g.length+2:=by simp[lG]
 have J:=C1 H.S (by have:=I.S;rw[zC]at this;exact this);have K:(x.sh 1 (.ofNat 1)).sc (g.length+2):=xI 1 x 1 _ X.sc;have qx':(x.sh 1 (.ofNat 1)).tq (g++lG true):=by
  have h:=(ML g .nat).up .list;rw[UR]at h;rw[<-p];exact FP h Z
 have y:x.has=true->YC tl true x a b s.bind.bind (.v 0)=.n3 .fo x.cty (a.xt tl s).u1.u1 (KH tl true x b s).u1.u1 (.v 0):=λk=>by
  have ka:a.f.has=true:=by rw[C];exact k
  have kb:b.f.has=true:=by rw[o];exact k
  rw[Ok,QL L.c H.S.bind n ka,QL L.c H.S n ka,Eb L H.S.bind r k kb,Eb L H.S r k kb];rfl
 have M:(x.sh 1 (.ofNat 1)).has=true->Ht (G++lG true) (YC tl true x a b s.bind.bind (.v 0)) (x.sh 1 (.ofNat 1)).cty:=λk=>by
  rw[m]at k;have q:=hT k;rw[y k,ec',<-v];exact⟨rfl,jE _ (jE _ q.2.1),jE _ (jE _ q.2.2.1),xD _ _⟩
 have es:(x.sh 1 (.ofNat 2)).put 0 (.v 0) 0=x.sh 1 (.ofNat 1):=by
  rw[vW,mE,sG];congr 1;funext i
  cases i with|zero=>rfl|succ i=>show Tm.v (i+2)=.v (bD 1 1 (i+1));rw[show bD 1 1 (i+1)=i+2 by unfold bD;rw[if_pos (by omega)]]
 have hm:∀F:Fm,F.sh 1 (.ofNat 1)=F.sub (cs (.v 0) λi=>.v (i+2)):=λF=>by
  rw[mE,sG];congr 1;funext i
  cases i with|zero=>rfl|succ i=>show Tm.v (bD 1 1 (i+1))=.v (i+2);rw[show bD 1 1 (i+1)=i+2 by unfold bD;rw[if_pos (by omega)]]
 have hτ:∀i,cA (cA (sS s)) (i+2)=(sS s i).sh 0 (.ofNat 2):=λi=>(jS _).symm
 obtain⟨z,A⟩:=Qk (lsR:=lsR) (tl:=tl) (b:=b) H2 (x:=x.sh 1 (.ofNat 1)) (by rw[p,el];exact K) (by rw[p];exact qx') (by rw[p,el];exact fb) Hb (by rw[p];exact B) (by rw[p,el];exact d) (by rw[v];exact M) (Mo:=(rz x (sS (sv s)) (bif x.has then YC tl true x a b s.bind (.v 0)else .n0 .unit)).sh 1 (.ofNat 1)) (by
  refine .trans ?_ (Fb (σ:=sS s) (τ:=cA (cA (sS s))) (k:=2) (n:=g.length+2) (c:=.v 0) hτ rfl J K (by rw[es];exact .refl _) _).symm;rw[hm];refine j 2 (.v 0) _ λk=>?_
  rw[m,k,cond_true,y k,jS,jS];exact .refl _)
 rw[m,v]at z;rw[m]at A;refine e _ z (.trans ?_ A.symm);refine .trans ?_ (Fb (σ:=sS s) (τ:=cA (cA (sS s))) (k:=2) (n:=g.length+2) (c:=.n2 .cons (.v 1) (.v 0)) hτ rfl J fb c2 _).symm;rw[lN,vW];refine j 2 (.n2 .cons (.v 1) (.v 0)) _ λk=>?_
 rw[k,cond_true,Wz L.c H.S d (by rw[m];exact k) (by rw[o];exact k),jS,jS];exact Y0 _ _ _ _ (y k)
end
def AD{d c:List Fm}{tl:List Tm}(L:RL d c tl):∀j:Jt,tB d c tl j|.leaf false _ _=>Yz|.leaf true _ _=>Zz L|.refl _=>j0|.p1 .andL a _=>y0 (AD L a)|.p1 .andR a _=>B0 (AD L a)|.p1 .choice a _=>O0 (AD L a)|.p2 .andI a b _=>C0 (AD L a) (AD L b)|.p2 .impE a b _=>D0 L (AD L a) (AD L b)|.p2 .exE a b _=>Q0 L (AD L a) (AD L b)|.p2 .exUE a b _=>U0 L (AD L a) (AD L b)|.impI _ a=>F0 (AD L a)|.all _ _ a=>G0 L (AD L a)|.ins _ _ a _=>I0 (AD L a)|.ex _ _ _ a=>J0 L (AD L a)|.ind _ _ _ a b _=>D1 L (AD L a) (AD L b)|.subst _ a b _=>L0 L (AD L a) (AD L b)
open Go.Lg
def aG:∀f:Fm,f.cnt<=yA->A 171 [f.p] (num f.cnt)
 |.eq t u,h=>by
  have h:1+t.cnt+u.cnt<=yA:=h;exact f4 [17,18,17,18] (MC t (by omega)) (nA (a:=1) (b:=t.cnt)) (MC u (by omega)) (nA (a:=1+t.cnt) (b:=u.cnt))
 |.bin k f g,h=>by
  have h:1+f.cnt+g.cnt<=yA:=h;have a:=aG f (by omega);have b:=nA (a:=1) (b:=f.cnt);have c:=aG g (by omega);have d:=nA (a:=1+f.cnt) (b:=g.cnt);cases k<;>exact f4 [29,30,29,30] a b c d
 |.q k s f,h=>by
  have h:1+f.cnt<=yA:=h;have a:=aG f (by omega);have b:=nA (a:=1) (b:=f.cnt);cases k<;>exact f2 [29,30] a b
def LI:∀t:Tm,t.mx<=268435456->A 120 [t.p] (.bool false)
 |.v i,h=>f1 [7] (show fA (.ofNat 268435456) (.ofNat i)=false from HA h)|.lam s b,h=>f1 [16] (LI b h)|.n0 k,h=>by cases k<;>exact f0 []
 |.n1 k a,h=>by cases k<;>exact f1 [16] (LI a h)
 |.n2 k a b,h=>by
  have h:max a.mx b.mx<=268435456:=h;have c:=LI a (by omega);have e:=LI b (by omega);cases k<;>exact f2 [16,16] c e
 |.n3 k s a b d,h=>by
  have h:max a.mx (max b.mx d.mx)<=268435456:=h;have c:=LI a (by omega);have e:=LI b (by omega);have f:=LI d (by omega);cases k<;>exact f3 [16,16,16] c e f
abbrev Rk:List (Nat×Ob):=[(1,bx [.bool false])]
def kW:∀(f:Fm)(d:Nat),d+f.cnt<=qA->f.mx<=268435456->O 155 [.pv f.p,.pv (num d),.fn 156 [.loc 1 0]] Rk (.pv f.p) Rk
 |.eq t u,d,a,h=>by
  have h:max t.mx u.mx<=268435456:=h;exact o2 2 [(37,.n [(9,.F)]),(37,.n [(9,.F)])] (LI t (by omega)) (LI u (by omega))
 |.bin k f g,d,a,h=>by
  have a:d+(1+f.cnt+g.cnt)<=qA:=a;have h:max f.mx g.mx<=268435456:=h;have b:=kW f d (by omega) (by omega);have c:=kW g d (by omega) (by omega);cases k<;>exact o2 2 [(54,.o [1] [] (.pv f.p)),(54,.o [1] [] (.pv g.p))] b c
 |.q k s f,d,a,h=>by
  have:=vA;have:=uA;have a:d+(1+f.cnt)<=qA:=a;have g:=nA (a:=d) (b:=1);have b:=kW f (d+1) (by omega) h;cases k<;>exact o2 2 [24,(54,.o [1] [] (.pv f.p))] g b
def F1(f:Fm)(h:f.cnt<=qA:=by omega)(a:f.mx<=268435456:=by omega):A 89 [f.p] (.bool false):=
 f1 [(6,.o [1] [] (.pv f.p))] (kW f 0 (by omega) a)
abbrev Sk(z:Nat):List (Nat×Ob):=[(1,bx [num z])]
def yW(z:Nat)(b:z<=qA):∀(f:Fm)(d:Nat),d+f.cnt<=qA->f.mx<=qA*qA->O 155 [.pv f.p,.pv (num d),.fn 321 [.loc 1 0]] (Sk z) (.pv (f.sh d (.ofNat z)).p) (Sk z)
 |.eq t u,d,a,h=>by
  have a:d+(1+t.cnt+u.cnt)<=qA:=a;have h:max t.mx u.mx<=qA*qA:=h;exact o2 2 [(37,.n [(9,.r (t.sh d (.ofNat z)).p)]),(37,.n [(9,.r (u.sh d (.ofNat z)).p)])] (xL t d z) (xL u d z)
 |.bin k f g,d,a,h=>by
  have a:d+(1+f.cnt+g.cnt)<=qA:=a;have h:max f.mx g.mx<=qA*qA:=h;have c:=yW z b f d (by omega) (by omega);have e:=yW z b g d (by omega) (by omega);cases k<;>exact o2 2 [(54,.o [1] [] (.pv (f.sh d (.ofNat z)).p)),(54,.o [1] [] (.pv (g.sh d (.ofNat z)).p))] c e
 |.q k s f,d,a,h=>by
  have:=vA;have:=uA;have a:d+(1+f.cnt)<=qA:=a;have g:=nA (a:=d) (b:=1);have c:=yW z b f (d+1) (by omega) h;cases k<;>exact o2 2 [24,(54,.o [1] [] (.pv (f.sh (d+1) (.ofNat z)).p))] g c
def Tk(f:Fm)(z:Nat)(a:z<=qA)(h:f.cnt<=qA)(b:f.mx<=qA*qA):A 253 [f.p,num z] (f.sh 0 (.ofNat z)).p:=
 f1 [(7,.o [1] [] (.pv (f.sh 0 (.ofNat z)).p))] (yW z a f 0 (by omega) b)
def WJ(c:Nat)(S:Tm)(l:S.mx<=qA*qA)(f:S.cnt<=qA):∀(t:Tm)(d:Nat),c+d+t.cnt<=qA->t.mx<=qA*qA->A 325 [t.p,num c,num d,S.p] (t.put c S d).p
 |.v i,d,j,h=>by
  have n:=vA;have u:=uA;have h:i<=qA*qA:=h;rw[n]at h;have g:=nA (a:=c) (b:=d);by_cases m:i=c+d
  ·have e:(Tm.v i).put c S d=S.sh 0 (.ofNat (c+d)):=by simp only[Tm.put,if_pos m]
   rw[e];exact f4 [20,21,25,26] g (show fB (.ofNat i) (.ofNat (c+d))=true by rw[m];exact cH _) g (xL S 0 (c+d) (by omega) l)
  by_cases p:c+d<i
  ·have e:(Tm.v i).put c S d=.v (i-1):=by simp only[Tm.put,if_neg m,if_pos p]
   rw[e];exact f5 [20,21,32,33,36] g (VE m) g (NA p) (wD (a:=i) (b:=1) (z:=.ofNat (i-1)) (by omega) (by omega) (by grind))
  have e:(Tm.v i).put c S d=.v i:=by simp only[Tm.put,if_neg m,if_neg p]
  rw[e];exact f4 [20,21,32,33] g (VE m) g (HA (show i<=c+d by omega))
 |.lam s b,d,j,h=>by
  have n:=vA;have u:=uA;have j:c+d+(1+b.cnt)<=qA:=j;exact f2 [43,59] (nA (a:=d) (b:=1)) (WJ c S l f b (d+1) (by omega) h)
 |.n0 k,d,_,_=>by cases k<;>exact f0 []
 |.n1 k a,d,j,h=>by
  have j:c+d+(1+a.cnt)<=qA:=j;have o:=WJ c S l f a d (by omega) h;cases k<;>exact f1 [59] o
 |.n2 k a b,d,j,h=>by
  have j:c+d+(1+a.cnt+b.cnt)<=qA:=j;have h:max a.mx b.mx<=qA*qA:=h;have o:=WJ c S l f a d (by omega) (by omega);have r:=WJ c S l f b d (by omega) (by omega);cases k<;>exact f2 [59,59] o r
 |.n3 k s a b e,d,j,h=>by
  have j:c+d+(1+a.cnt+b.cnt+e.cnt)<=qA:=j;have h:max a.mx (max b.mx e.mx)<=qA*qA:=h;have o:=WJ c S l f a d (by omega) (by omega);have r:=WJ c S l f b d (by omega) (by omega);have v:=WJ c S l f e d (by omega) (by omega);cases k<;>exact f3 [59,59,59] o r v
abbrev Uk(S:Tm):List (Nat×Ob):=[(1,bx S.c)]
def uW(S:Tm)(c:S.mx<=qA*qA)(a:S.cnt<=qA):∀(f:Fm)(d:Nat),d+f.cnt<=qA->f.mx<=qA*qA->O 155 [.pv f.p,.pv (num d),.fn 324 [.loc 1 0]] (Uk S) (.pv (f.put 0 S d).p) (Uk S)
 |.eq t u,d,b,h=>by
  have b:d+(1+t.cnt+u.cnt)<=qA:=b;have h:max t.mx u.mx<=qA*qA:=h;exact o2 2 [(37,.n [(9,.r (t.put 0 S d).p)]),(37,.n [(9,.r (u.put 0 S d).p)])] (WJ 0 S c a t d (by omega) (by omega)) (WJ 0 S c a u d (by omega) (by omega))
 |.bin k f g,d,b,h=>by
  have b:d+(1+f.cnt+g.cnt)<=qA:=b;have h:max f.mx g.mx<=qA*qA:=h;have e:=uW S c a f d (by omega) (by omega);have i:=uW S c a g d (by omega) (by omega);cases k<;>exact o2 2 [(54,.o [1] [] (.pv (f.put 0 S d).p)),(54,.o [1] [] (.pv (g.put 0 S d).p))] e i
 |.q k s f,d,b,h=>by
  have:=vA;have:=uA;have b:d+(1+f.cnt)<=qA:=b;have g:=nA (a:=d) (b:=1);have e:=uW S c a f (d+1) (by omega) h;cases k<;>exact o2 2 [24,(54,.o [1] [] (.pv (f.put 0 S (d+1)).p))] g e
def G1(f:Fm)(S:Tm)(h:f.cnt<=qA)(b:f.mx<=qA*qA)(c:S.mx<=qA*qA)(a:S.cnt<=qA:=by omega):A 256 [f.p,S.p] (f.put 0 S 0).p:=
 f1 [(7,.o [1] [] (.pv (f.put 0 S 0).p))] (uW S c a f 0 (by omega) b)
def XJ:∀(t:Tm)(c:Nat),c+t.cnt<=qA->A 323 [t.p,num c] (num (t.occ c))
 |.v i,c,_=>by
  by_cases h:i=c
  ·have e:(Tm.v i).occ c=1:=by simp[Tm.occ,h]
   rw[e];exact f1 [15] (show fB (.ofNat i) (.ofNat c)=true by rw[h];exact cH c)
  have e:(Tm.v i).occ c=0:=by simp[Tm.occ,h]
  rw[e];exact f1 [15] (VE h)
 |.lam s b,c,h=>by
  have f:=vA;have l:=uA;have h:c+(1+b.cnt)<=qA:=h;have:=xB b (c+1);have g:=XJ b (c+1) (by omega);have j:=uG (n:=b.occ (c+1));exact f3 [21,32,33] (nA (a:=c) (b:=1)) g j
 |.n0 k,c,_=>by cases k<;>exact f0 []
 |.n1 k a,c,h=>by
  have f:=vA;have l:=uA;have h:c+(1+a.cnt)<=qA:=h;have:=xB a c;have g:=XJ a c (by omega);have j:=uG (n:=a.occ c);cases k<;>exact f2 [32,33] g j
 |.n2 k a b,c,h=>by
  have f:=vA;have l:=uA;have h:c+(1+a.cnt+b.cnt)<=qA:=h;have:=xB a c;have:=xB b c;have g:=XJ a c (by omega);have j:=uG (n:=a.occ c);have m:=XJ b c (by omega);have n:=nA (a:=a.occ c) (b:=b.occ c);cases k<;>exact f4 [32,33,32,33] g j m n
 |.n3 k s a b d,c,h=>by
  have f:=vA;have l:=uA;have h:c+(1+a.cnt+b.cnt+d.cnt)<=qA:=h;have:=xB a c;have:=xB b c;have:=xB d c;have g:=XJ a c (by omega);have j:=uG (n:=a.occ c);have m:=XJ b c (by omega);have n:=nA (a:=a.occ c) (b:=b.occ c);have o:=XJ d c (by omega);have p:=nA (a:=a.occ c+b.occ c) (b:=d.occ c);cases k<;>exact f6 [32,33,32,33,32,33] g j m n o p
abbrev Vk(n m:Nat):List (Nat×Ob):=[(3,bx [num m]),(2,bx [num n])]
def Gb{o k m:Nat}(h:o<=k)(a:m<=4096):m*o<=4096*k:=Nat.mul_le_mul a h
def bW(m:Nat)(c:m<=4096):∀(f:Fm)(n d:Nat),d+f.cnt<=qA->n+4096*f.cnt<=yA->O 155 [.pv f.p,.pv (num d),.fn 322 [.loc 2 0,.loc 3 0]] (Vk n m) (.pv f.p) (Vk (n+m*f.occ d) m)
 |.eq t u,n,d,a,b=>by
  have a:d+(1+t.cnt+u.cnt)<=qA:=a;have b:n+4096*(1+t.cnt+u.cnt)<=yA:=b;have j:=Gb (xB t d) c;have:=Gb (xB u d) c;have e:n+m*(Fm.eq t u).occ d=n+m*t.occ d+m*u.occ d:=by simp[Fm.occ,Nat.mul_add,Nat.add_assoc]
  rw[e];have h:=XJ t d (by omega);have i:=sN (a:=m) (b:=t.occ d) (c:=m*t.occ d) (by omega) rfl;have l:=nA (a:=n) (b:=m*t.occ d);have o:=XJ u d (by omega);have p:=sN (a:=m) (b:=u.occ d) (c:=m*u.occ d) (by omega) rfl;have r:=nA (a:=n+m*t.occ d) (b:=m*u.occ d);exact o6 4 [(37,.n [(11,.N (t.occ d)),(12,.z (m*t.occ d)),(13,.z (n+m*t.occ d))]),(37,.n [(11,.N (u.occ d)),(12,.z (m*u.occ d)),(13,.z (n+m*t.occ d+m*u.occ d))])] h i l o p r
 |.bin k f g,n,d,a,b=>by
  have a:d+(1+f.cnt+g.cnt)<=qA:=a;have b:n+4096*(1+f.cnt+g.cnt)<=yA:=b;have j:=Gb (MG f d) c;have e:n+m*(Fm.bin k f g).occ d=n+m*f.occ d+m*g.occ d:=by simp[Fm.occ,Nat.mul_add,Nat.add_assoc]
  rw[e];have h:=bW m c f n d (by omega) (by omega);have i:=bW m c g (n+m*f.occ d) d (by omega) (by omega);cases k<;>exact o2 4 [(54,.o [3] [(2,bx [num (n+m*f.occ d)])] (.pv f.p)),(54,.o [3] [(2,bx [num (n+m*f.occ d+m*g.occ d)])] (.pv g.p))] h i
 |.q k s f,n,d,a,b=>by
  have:=vA;have:=uA;have a:d+(1+f.cnt)<=qA:=a;have b:n+4096*(1+f.cnt)<=yA:=b;have g:=nA (a:=d) (b:=1);have h:=bW m c f n (d+1) (by omega) (by omega);cases k<;>exact o2 4 [24,(54,.o [3] [(2,bx [num (n+m*f.occ (d+1))])] (.pv f.p))] g h
def I1(f:Fm)(S:Tm)(h:f.cnt<=4096)(a:1<=S.cnt)(a:S.cnt<=4096):A 254 [f.p,S.p] (num (f.cnt+(S.cnt-1)*f.occ 0)):=by
 have:=vA;have:=uA;have a:=wD (a:=S.cnt) (b:=1) (z:=.ofNat (S.cnt-1)) (by omega) (by omega) (by grind);exact f4 [8,10,11,(14,.o [3] [(2,bx [num (f.cnt+(S.cnt-1)*f.occ 0)])] (.pv f.p))] (aG f (by omega)) (MC S (by omega)) a (bW (S.cnt-1) (by omega) f f.cnt 0 (by omega) (by omega))
def Fm.ps(e:List (Tm×Nat))(d:Nat):Fm->Nat->Fm|.eq a b,c=>.eq (a.ps e d c) (b.ps e d c)|.bin k f g,c=>.bin k (f.ps e d c) (g.ps e d c)|.q k s f,c=>.q k s (f.ps e d (c+1))
def J1(a:List (Tm×Nat))(d b:Nat):(λi=>(Tm.v i).ps a d (b+1))=cA λi=>(Tm.v i).ps a d b:=by
 funext i
 cases i with
 |zero=>rfl|succ i=>
  simp only[Tm.ps,cA,Nat.add_lt_add_iff_right,Nat.add_sub_add_right];split
  ·rfl
  split
  ·rw[CP];rfl
  rfl
def dW(a:List (Tm×Nat))(d:Nat):∀(f:Fm)(b:Nat),f.ps a d b=f.sub λi=>(Tm.v i).ps a d b|.eq x y,b=>by simp only[Fm.ps,Fm.sub,<-uD]|.bin _ f g,b=>by simp only[Fm.ps,Fm.sub,dW a d f,dW a d g]|.q _ _ f,b=>by simp only[Fm.ps,Fm.sub,dW a d f,J1]
def FR.Gd(d:Nat)(x:Fm):FR->Prop|.er n=>n=3|.ok f=>FK d f/\f=x
section
variable{s:Sc}(hv:DH s.dep s.vs)(hd:s.dep<=iA)(hl:s.vs.length<=iA)
include hv hd hl
theorem Xk(t:Tm)(b:Nat)(f:t.cnt<=4096)(d:t.sc (s.vs.length+b))(g:b<=8192):A 164 [s.p,t.p,num b] (XR.fit (t.ps s.vs s.dep b)).p:=by
 have i:=vA;have e:=uA;have a:=OJ s hv hd hl t b d (by omega);have j:=LJ hv t b;have c:=MC (t.ps s.vs s.dep b) (by omega);unfold XR.fit;split
 ·rename_i h;exact f3 [12,14,15] a c (HA h)
 rename_i h;exact f3 [12,14,15] a c (NA (a:=4096) (Nat.lt_of_not_le h))
theorem fW:∀(f:Fm)(b:Nat),f.cnt<=4096->f.shp=true->f.sc (s.vs.length+b)->b+f.cnt<=8192->∃r:FR,A 226 [s.p,f.p,num b] r.p/\r.Gd (s.dep+b) (f.ps s.vs s.dep b)
 |.eq t u,b,h,m,d,i=>by
  have o:=uA;have h:1+t.cnt+u.cnt<=4096:=h;have i:b+(1+t.cnt+u.cnt)<=8192:=i;obtain⟨p,v⟩:=EA m;have a:=Xk hv hd hl t b (by omega) d.1 (by omega);have e:=Xk hv hd hl u b (by omega) d.2 (by omega);by_cases E:(t.ps s.vs s.dep b).cnt<=4096
  ·rw[XR.fit,if_pos E]at a;by_cases F:(u.ps s.vs s.dep b).cnt<=4096
   ·rw[XR.fit,if_pos F]at e;have j:=aG (.eq (t.ps s.vs s.dep b) (u.ps s.vs s.dep b)) (by show 1+_+_<=_;omega);by_cases c:(Fm.eq (t.ps s.vs s.dep b) (u.ps s.vs s.dep b)).cnt<=4096
    ·exact⟨.ok _,f5 [40,40,(300017,.f 6 [(t.ps s.vs s.dep b).c,(u.ps s.vs s.dep b).c]),80,81] a e (rfl:kA [(t.ps s.vs s.dep b).c,(u.ps s.vs s.dep b).c]=kA [(t.ps s.vs s.dep b).c,(u.ps s.vs s.dep b).c]) j (HA c),⟨c,by show(_&&_)=true;rw[EH hv t b p,EH hv u b v];rfl,FH hv t b d.1,FH hv u b d.2⟩,rfl⟩
    exact⟨.er 3,f5 [40,40,(300017,.f 6 [(t.ps s.vs s.dep b).c,(u.ps s.vs s.dep b).c]),80,81] a e (rfl:kA [(t.ps s.vs s.dep b).c,(u.ps s.vs s.dep b).c]=kA [(t.ps s.vs s.dep b).c,(u.ps s.vs s.dep b).c]) j (NA (a:=4096) (Nat.lt_of_not_le c)),rfl⟩
   rw[XR.fit,if_neg F]at e;exact⟨.er 3,f2 [40,40] a e,rfl⟩
  rw[XR.fit,if_neg E]at a;exact⟨.er 3,f1 [40] a,rfl⟩
 |.bin k f g,b,h,m,d,i=>by
  have o:=uA;have h:1+f.cnt+g.cnt<=4096:=h;have i:b+(1+f.cnt+g.cnt)<=8192:=i;obtain⟨p,v⟩:=EA m;obtain⟨z,a,w⟩:=fW f b (by omega) p d.1 (by omega);obtain⟨H,e,G⟩:=fW g b (by omega) v d.2 (by omega)
  cases z with
  |er n=>obtain rfl:n=3:=w;exact⟨.er 3,by cases k<;>exact f1 [65] a,rfl⟩|ok x=>
   obtain⟨l,B⟩:=w
   cases H with
   |er n=>obtain rfl:n=3:=G;exact⟨.er 3,by cases k<;>exact f2 [65,65] a e,rfl⟩|ok y=>
    obtain⟨C,I⟩:=G;have J:=l.cnt;have:=C.cnt;have j:=aG (.bin k x y) (by show 1+_+_<=_;omega);by_cases c:(Fm.bin k x y).cnt<=4096
    ·exact⟨.ok _,by cases k<;>exact f5 [(65,.r (FR.ok x).p),(65,.r (FR.ok y).p),(300023,.ok),(300023,.f 6 [x.c,y.c]),(80,.N (1+x.cnt+y.cnt)),(81,.H)] a e (rfl:kA [x.c,y.c]=kA [x.c,y.c]) j (HA c),⟨c,by show(_&&_)=true;rw[l.shp,C.shp];rfl,l.sc,C.sc⟩,by rw[B,I];rfl⟩
    exact⟨.er 3,by cases k<;>exact f5 [(65,.r (FR.ok x).p),(65,.r (FR.ok y).p),(300023,.ok),(300023,.f 6 [x.c,y.c]),(80,.N (1+x.cnt+y.cnt)),(81,.G)] a e (rfl:kA [x.c,y.c]=kA [x.c,y.c]) j (NA (a:=4096) (Nat.lt_of_not_le c)),rfl⟩
 |.q k u f,b,h,m,d,i=>by
  have o:=uA;have h:1+f.cnt<=4096:=h;have i:b+(1+f.cnt)<=8192:=i;obtain⟨p,v⟩:=EA m;have D:=nA (a:=b) (b:=1);obtain⟨z,a,w⟩:=fW f (b+1) (by omega) v d (by omega)
  cases z with
  |er n=>obtain rfl:n=3:=w;exact⟨.er 3,by cases k<;>exact f2 [28,65] D a,rfl⟩|ok x=>
   obtain⟨l,B⟩:=w;have J:=l.cnt;have j:=aG (.q k u x) (by show 1+_<=_;omega);by_cases c:(Fm.q k u x).cnt<=4096
   ·exact⟨.ok _,by cases k<;>exact f5 [28,65,(300023,.f 6 [x.c]),80,81] D a (rfl:kA [x.c]=kA [x.c]) j (HA c),⟨c,by show(_&&_)=true;rw[p,l.shp];rfl,l.sc⟩,by rw[B];rfl⟩
   exact⟨.er 3,by cases k<;>exact f5 [28,65,(300023,.f 6 [x.c]),80,81] D a (rfl:kA [x.c]=kA [x.c]) j (NA (a:=4096) (Nat.lt_of_not_le c)),rfl⟩
theorem Yk{f:Fm}(a:FK s.vs.length f):∃r:FR,A 153 [s.p,f.p] r.p/\r.Gd s.dep (f.sub (sS s)):=by
 obtain⟨r,g,q⟩:=fW hv hd hl f 0 a.cnt a.shp a.sc (by have:=a.cnt;omega);rw[dW]at q;exact⟨r,f1 [8] g,q⟩
end
open Go.Lg
def Fm.ne:Fm->Nat
 |.eq _ _=>0|.bin _ f g=>f.ne+g.ne|.q k _ f=>match k with|.ex=>1+f.ne|_=>f.ne
def Fm.gx:Fm->Prop|.eq _ _=>True|.bin _ f g=>f.gx/\g.gx|.q k _ f=>f.gx/\(k=.ex->f.occ 0=0\/f.ne<=1)
def Fm.fn:Fm->Nat|.eq _ _=>1|.bin _ f g=>1+f.fn+g.fn|.q _ _ f=>1+f.fn
def L1:∀f:Fm,f.fn<=f.cnt
 :=by intro x;induction x<;>grind[Fm.fn,Fm.cnt]
def gW:∀f:Fm,f.ne<=f.cnt
 :=by intro x;induction x<;>simp_all[Fm.ne,Fm.cnt]<;>grind
def PP:∀(f:Fm)(σ:Nat->Tm),(f.sub σ).ne=f.ne|.eq _ _,_=>rfl|.bin _ f g,σ=>by simp[Fm.sub,Fm.ne,PP]|.q k _ f,σ=>by cases k<;>simp only[Fm.sub,Fm.ne,PP f]
def lW:∀(f:Fm)(σ:Nat->Tm),(f.sub σ).fn=f.fn|.eq _ _,_=>rfl|.bin _ f g,σ=>by simp[Fm.sub,Fm.fn,lW]|.q _ _ f,σ=>by simp[Fm.sub,Fm.fn,lW]
def Zk{σ:Nat->Tm}{c:Nat}(h:∀i,(σ i).occ c=if i=c then 1 else 0):∀i,(cA σ i).occ (c+1)=if i=c+1 then 1 else 0
 :=by intro x;induction x<;>grind[cA,Tm.occ,pC,GL]
def SL:∀(t:Tm)(σ:Nat->Tm)(c:Nat),(∀i,(σ i).occ c=if i=c then 1 else 0)->(t.sub σ).occ c=t.occ c|.v i,σ,c,h=>by grind[Tm.sub,Tm.occ]|.lam s b,σ,c,h=>by exact SL b _ _ (Zk h)|.n0 _,_,_,_=>rfl|.n1 _ a,σ,c,h=>by simp only[Tm.sub,Tm.occ,SL a σ c h]|.n2 _ a b,σ,c,h=>by simp only[Tm.sub,Tm.occ,SL a σ c h,SL b σ c h]|.n3 _ _ a b d,σ,c,h=>by simp only[Tm.sub,Tm.occ,SL a σ c h,SL b σ c h,SL d σ c h]
def M1:∀(f:Fm)(σ:Nat->Tm)(c:Nat),(∀i,(σ i).occ c=if i=c then 1 else 0)->(f.sub σ).occ c=f.occ c
 :=by intro x;induction x<;>simp_all[Fm.sub,Fm.occ,SL,Zk]
def N1(σ:Nat->Tm):∀i,(cA σ i).occ 0=if i=0 then 1 else 0
 :=by intro x;induction x<;>grind[cA,Tm.occ,pC,Mk]
def MI:∀(f:Fm)(σ:Nat->Tm),f.gx->(f.sub σ).gx|.eq _ _,_,_=>trivial|.bin _ f g,σ,h=>⟨MI f σ h.1,MI g σ h.2⟩|.q k _ f,σ,h=>⟨MI f _ h.1,λe=>by rw[M1 f _ 0 (N1 σ),PP];exact h.2 e⟩
def wS(f:Fm)(c k:Nat):f.sh c (.ofNat k)=f.sub λi=>.v (bD c k i):=by rw[mE,sG]
def FR.fit(f:Fm):FR:=if f.cnt<=4096 then .ok f else .er 3
def ql{n:Nat}{f x:Fm}(a:f.shp=true)(b:f.sc n)(c:f=x):(FR.fit f).Gd n x:=by
 unfold FR.fit;split
 ·rename_i h;exact⟨⟨h,a,b⟩,c⟩
 rfl
def FR.two(k:FB):FR->FR->FR|.ok x,.ok y=>.fit (.bin k x y)|.er n,_=>.er n|.ok _,.er n=>.er n
def FR.un(k:FQ)(s:Ty):FR->FR|.ok x=>.fit (.q k s x)|.er n=>.er n
def O1{n:Nat}{k:FB}{a b:FR}{x y:Fm}(c:a.Gd n x)(d:b.Gd n y):(FR.two k a b).Gd n (.bin k x y):=by
 cases a with
 |er _=>exact c|ok u=>cases b with|er _=>exact d|ok v=>exact ql (by show(_&&_)=true;rw[c.1.shp,d.1.shp];rfl) ⟨c.1.sc,d.1.sc⟩ (by rw[c.2,d.2])
def zl{n:Nat}{k:FQ}{s:Ty}{a:FR}{x:Fm}(c:s.size<=64)(b:a.Gd (n+1) x):(FR.un k s a).Gd n (.q k s x):=by
 cases a with|er _=>exact b|ok u=>exact ql (by show(_&&_)=true;rw[xN c,b.1.shp];rfl) b.1.sc (by rw[b.2])
def mW:∀f:Fm,f.cnt<=qA->A 255 [f.p] (num f.ne)
 |.eq a b,_=>f0 []|.bin k f g,h=>by
  have e:=vA;have j:=uA;have h:1+f.cnt+g.cnt<=qA:=h;have:=gW f;have:=gW g;have c:=mW f (by omega);have d:=uG (n:=f.ne);have l:=mW g (by omega);have i:=nA (a:=f.ne) (b:=g.ne);cases k<;>exact f4 [20,21,20,21] c d l i
 |.q k s f,h=>by
  have e:=vA;have j:=uA;have h:1+f.cnt<=qA:=h;have:=gW f;have c:=mW f (by omega);have d:=uG (n:=f.ne);have i:=nA (a:=1) (b:=f.ne);cases k
  ·exact f2 [20,21] c d
  ·exact f2 [20,21] c i
  ·exact f2 [20,21] c d
  exact f2 [20,21] c d
def MN{n:Nat}{f:Fm}(h:FK n f)(a:n<=iA:=by omega):A 121 [f.p] (.bool f.has):=f1 [7] (h.a70 a)
def Q1(k:FB){x y:Fm}(a:x.cnt<=4096)(hy:y.cnt<=4096):A 192 [num k.n,DV,dA [x,y]] (FR.fit (.bin k x y)).p:=by
 have b:=uA;have g:=aG (.bin k x y) (by show 1+_+_<=_;omega);unfold FR.fit;split
 ·rename_i h;cases k<;>exact f2 [14,15] g (HA h)
 rename_i h;cases k<;>exact f2 [14,15] g (NA (a:=4096) (Nat.lt_of_not_le h))
def kS(k:FQ)(s:Ty){x:Fm}(a:x.cnt<=4096):A 192 [num k.n,s.p,dA [x]] (FR.fit (.q k s x)).p:=by
 have b:=uA;have g:=aG (.q k s x) (by show 1+_<=_;omega);unfold FR.fit;split
 ·rename_i h;cases k<;>exact f2 [14,15] g (HA h)
 rename_i h;cases k<;>exact f2 [14,15] g (NA (a:=4096) (Nat.lt_of_not_le h))
def jl{t:Tm}(h:t.cnt<=qA:=by omega)(a:t.mx<=qA*qA:=by omega):A 191 [t.p] t.ap.p:=f2 [4,5] (xL t 0 1 (by have:=vA;omega) a) (TA 0)
def nW(k:K1)(t:Tm):A 187 [num k.n,t.p] (Tm.n1 k t).p:=by cases k<;>exact f0 []
abbrev RZ(n:Nat)(f:Fm)(t:Tm)(x:Fm):Prop:=∃r:FR,A 122 [f.p,t.p] r.p/\r.Gd n x
def yS(k:FB){n:Nat}{x y u v:Fm}{a b:Tm}(m:RZ n x a u)(o:RZ n y b v):∃r:FR,A 188 [num k.n,x.p,a.p,y.p,b.p] r.p/\r.Gd n (.bin k u v):=by
 obtain⟨d,c,h⟩:=m;obtain⟨i,j,l⟩:=o;refine⟨.two k d i,?_,O1 h l⟩
 cases d with
 |er e=>exact f1 [18] c|ok f=>cases i with|er e=>exact f2 [18,28] c j|ok g=>exact f3 [18,28,40] c j (Q1 k h.1.cnt l.1.cnt)
def U1{n:Nat}{x y u v:Fm}{t:Tm}(h:FK n x)(hy:FK n y)(p:TK n t)(M:n+1<=iA)
  (s:x.has=false->RZ n x t u/\RZ n y t v) (C:x.has=true->RZ (n+1) (x.sh 0 (.ofNat 1)) (.v 0) u/\RZ (n+1) (y.sh 0 (.ofNat 1)) (bif y.has then t.ap else t.u1) v):
  ∃r:FR,A 189 [(Fm.bin .imp x y).p,t.p] r.p/\r.Gd n (bif x.has then .q .all x.cty (.bin .imp u v)else .bin .imp u v):=by
 have D:=vA;have:iA=100000:=rfl;have:200000<=qA*qA:=by rw[D];decide
 have:=p.mx (by omega);have:=p.cnt;have a:=MN h;have b:=MN hy;cases e:x.has<;>rw[e]at a
 ·obtain⟨r,g,q⟩:=yS .imp (s e).1 (s e).2;exact⟨r,f2 [14,26] a g,q⟩
 obtain⟨G,H⟩:=C e;obtain⟨c,d,l,I,J⟩:=h.a34
 cases c with
 |er m=>exact⟨.er m,f2 [14,34] a d,J m rfl⟩|ok w=>
  obtain rfl:=I w rfl e;have i:=xL t 0 1;have:=h.cnt;have:=hy.cnt;have j:=Tk x 1 (by omega) (by omega) (by have:=h.mx (by omega);omega);have k:=Tk y 1 (by omega) (by omega) (by have:=hy.mx (by omega);omega);have z:=jl (t:=t);obtain⟨r,g,q⟩:=yS .imp G H;have l:x.cty.size<=64:=l
  cases r with
  |er m=>
   refine⟨.er m,?_,q⟩;cases o:y.has<;>rw[o]at b g
   ·exact f8 [14,34,42,47,55,56,61,63] a d i b j (TA 0) k g
   exact f9 [14,34,42,47,49,55,56,61,63] a d i b z j (TA 0) k g
  |ok f=>
   have B:=kS .all x.cty q.1.cnt;refine⟨.un .all x.cty (.ok f),?_,zl l q⟩;cases o:y.has<;>rw[o]at b g
   ·exact f9 [14,34,42,47,55,56,61,63,73] a d i b j (TA 0) k g B
   exact mJ [14,34,42,47,49,55,56,61,63,73] a d i b z j (TA 0) k g B
def V1{n:Nat}{s:Ty}{x X:Fm}{t:Tm}(m:FK (n+1) x)(y:TK n t)(z:n+1<=iA)
  (H:∀w u:Tm,(w=bif x.has then .n1 .fst t else t)->(u=bif x.has then .n1 .snd t else t)->w.cnt<=4096->(x.put 0 w 0).cnt<=4096+x.ne->RZ n (x.put 0 w 0) u X):
  ∃r:FR,A 193 [(Fm.q .ex s x).p,t.p] r.p/\r.Gd n X:=by
 have C:=vA;have:=uA;have:iA=100000:=rfl;have:200000<=qA*qA:=by rw[C];decide
 have:=y.mx (by omega);have:=y.cnt;have o:=m.cnt;have:=m.mx z;have:=gW x;have c:=MN m z;have I:(bif x.has then Tm.n1 .fst t else t).cnt<=4097/\(bif x.has then Tm.n1 .fst t else t).mx<=qA*qA/\1<=(bif x.has then Tm.n1 .fst t else t).cnt:=by
  have:=fE t;cases x.has
  ·grind
  exact⟨by show 1+t.cnt<=_;omega,by show t.mx<=_;omega,by show 1<=1+t.cnt;omega⟩
 have H:=H _ _ rfl rfl;obtain⟨w1,w2,w3⟩:=I;have p:=nW .fst t;have f:=nW .snd t;have b:=MC (bif x.has then Tm.n1 .fst t else t) (by omega);have l:=mW x (by omega);by_cases j:(bif x.has then Tm.n1 .fst t else t).cnt<=4096
 ·have d:=I1 x (bif x.has then Tm.n1 .fst t else t) o w3 j;have J:=iJ 0 (bif x.has then Tm.n1 .fst t else t) x 0;have:=MG x 0;have:x.occ 0*((bif x.has then Tm.n1 .fst t else t).cnt-1)<=4096*4096:=Nat.mul_le_mul (by omega) (by omega);have:x.occ 0*(bif x.has then Tm.n1 .fst t else t).cnt=x.occ 0*((bif x.has then Tm.n1 .fst t else t).cnt-1)+x.occ 0:=by
   rw[<-Nat.mul_succ];simp_all
  rw[Nat.mul_comm]at d;have i:=wD (a:=x.cnt+x.occ 0*((bif x.has then Tm.n1 .fst t else t).cnt-1)) (b:=x.ne) (z:=.ofNat (x.cnt+x.occ 0*((bif x.has then Tm.n1 .fst t else t).cnt-1)-x.ne)) (by omega) (by omega) (by grind);simp only[Nat.add_zero]at J;have v:=G1 x (bif x.has then Tm.n1 .fst t else t) (by omega) (by omega) w2;by_cases B:x.cnt+x.occ 0*((bif x.has then Tm.n1 .fst t else t).cnt-1)-x.ne<=4096
  ·obtain⟨r,g,q⟩:=H j (by omega);refine⟨r,?_,q⟩;have h:=HA B;have a:=HA j;generalize x.cnt+x.occ 0*((bif x.has then Tm.n1 .fst t else t).cnt-1)=G at d i h;generalize (bif x.has then Tm.n1 .fst t else t).cnt=k at b a;cases e:x.has<;>rw[e]at c b d v g
   ·exact f9 [16,22,23,27,29,30,31,36,38] c b a d l i h v g
   exact uU [16,18,20,22,23,27,29,30,31,36,38] c p f b a d l i h v g
  refine⟨.er 3,?_,rfl⟩;have h:=NA (a:=4096) (Nat.lt_of_not_le B);have a:=HA j;generalize x.cnt+x.occ 0*((bif x.has then Tm.n1 .fst t else t).cnt-1)=G at d i h;generalize (bif x.has then Tm.n1 .fst t else t).cnt=k at b a;cases e:x.has<;>rw[e]at c b d
  ·exact f7 [16,22,23,27,29,30,31] c b a d l i h
  exact f9 [16,18,20,22,23,27,29,30,31] c p f b a d l i h
 refine⟨.er 3,?_,rfl⟩;have a:=NA (a:=4096) (Nat.lt_of_not_le j);generalize (bif x.has then Tm.n1 .fst t else t).cnt=k at b a;cases e:x.has<;>rw[e]at c b
 ·exact f3 [16,22,23] c b a
 exact f5 [16,18,20,22,23] c p f b a
open Go.Lg
def X1:cs (.v 0) (NB Tm.v)=Tm.v:=by
 funext i
 cases i with|zero=>rfl|succ i=>rfl
def Y1(x:Fm)(t:Tm):rz (x.sh 0 (.ofNat 1)) Tm.v t=rz x (NB Tm.v) t:=by
 have:=WR x (NB Tm.v) (.v 0) t;rwa[X1]at this
def FQ.rz:FQ->FQ|.allU=>.all|k=>k
def Ib{n:Nat}{s:Ty}{x X:Fm}{t:Tm}(k:FQ)(w:k≠.ex)(l:s.size<=64)(o:FK (n+1) x)(i:TK n t)(p:n+1<=iA)(H:RZ (n+1) x (match k with|.all=>bif x.has then t.ap else t.u1|_=>t.u1) X):
  RZ n (.q k s x) t (.q k.rz s X):=by
 have u:=vA;have:=uA;have:iA=100000:=rfl;have:200000<=qA*qA:=by rw[u];decide
 have:=i.mx (by omega);have h:=i.cnt;have a:=MC t (by omega);have b:=HA (a:=4096) h;have c:=xL t 0 1;have d:=MN o p;have j:=jl (t:=t);obtain⟨r,g,q⟩:=H;refine⟨.un k.rz s r,?_,zl l q⟩
 cases k with
 |ex=>grind|all=>
  cases e:x.has<;>rw[e]at d g
  ·cases r with|er m=>exact f5 [13,14,65,74,84] a b c d g|ok f=>exact f6 [13,14,65,74,84,100] a b c d g (kS .all s q.1.cnt)
  cases r with|er m=>exact f6 [13,14,65,74,77,84] a b c d j g|ok f=>exact f7 [13,14,65,74,77,84,100] a b c d j g (kS .all s q.1.cnt)
 |allU=>
  cases r with|er m=>exact f4 [13,14,65,84] a b c g|ok f=>exact f5 [13,14,65,84,100] a b c g (kS .all s q.1.cnt)
 |exU=>
  cases r with|er m=>exact f4 [13,14,65,84] a b c g|ok f=>exact f5 [13,14,65,84,100] a b c g (kS .exU s q.1.cnt)
structure TL(n:Nat)(t:Tm):Prop where
 cnt:t.cnt<=8192
 shp:t.shp=true
 sc:t.sc n
def TK.tl{n:Nat}{t:Tm}(h:TK n t):TL n t:=⟨by have:=h.cnt;omega,h.shp,h.sc⟩
def TK.tl1{n:Nat}{t:Tm}(h:TK n t)(k:K1):TL n (.n1 k t):=⟨by have:=h.cnt;show 1+t.cnt<=_;omega,h.shp,h.sc⟩
def TK.tlu{n:Nat}{t:Tm}(h:TK n t):TL (n+1) t.u1:=⟨by have:=h.cnt;rw[ZD];omega,by rw[AJ];exact h.shp,AF 1 t 0 n h.sc⟩
def TK.tla{n:Nat}{t:Tm}(h:TK n t):TL (n+1) t.ap:=⟨by have:=h.cnt;show 1+(t.sh 0 (.ofNat 1)).cnt+1<=_;rw[ZD];omega,by show(_&&_)=true;rw[h.tlu.shp];rfl,h.tlu.sc,Nat.succ_pos n⟩
def Z1:∀(m n:Nat)(f:Fm)(t:Tm),f.fn<=m->f.cnt<=4097->f.cnt<=4096+f.ne->f.shp=true->f.sc n->f.gx->TL n t->n+m<=iA->RZ n f t (rz f Tm.v t):=by
 intro m
 induction m with
 |zero=>intro n f t h;cases f<;>simp[Fm.fn]at h<;>omega
 |succ m B=>
  intro n f t D E P H c j i hn;have hb:=uA;have hl:iA=100000:=rfl;have Q:=i.cnt;have l:=MC t (by omega);by_cases I:t.cnt<=4096;rotate_left
  ·exact⟨.er 3,f2 [13,14] l (NA (a:=4096) (Nat.lt_of_not_le I)),rfl⟩
  have A:=HA (a:=4096) I;have d:TK n t:=⟨I,i.shp,i.sc⟩
  cases f with
  |eq a b=>
   refine⟨.ok (.eq a b),f2 [13,14] l A,⟨P,H,c⟩,?_⟩;show _=Fm.eq (a.sub Tm.v) (b.sub Tm.v);rw[xC,xC]
  |bin k x y=>
   have D:1+x.fn+y.fn<=m+1:=D;have E:1+x.cnt+y.cnt<=4097:=E;have c1:=GV x;have c2:=GV y;obtain⟨o,p⟩:=EA H;have v:FK n x:=⟨by omega,o,c.1⟩;have L:FK n y:=⟨by omega,p,c.2⟩;have ix:=λu(C:TL n u)=>B n x u (by omega) (by omega) (by omega) o c.1 j.1 C (by omega)
   have F:=λu(C:TL n u)=>B n y u (by omega) (by omega) (by omega) p c.2 j.2 C (by omega)
   have G:=MN v;have J:=MN L
   cases k with
   |and=>
    show RZ n _ t (bif x.has&&y.has then _ else _);cases R:x.has<;>rw[R]at G
    ·obtain⟨r,g,q⟩:=yS .and (ix t i) (F t i);exact⟨r,f4 [13,14,26,50] l A G g,q⟩
    cases S:y.has<;>rw[S]at J
    ·obtain⟨r,g,q⟩:=yS .and (ix t i) (F t i);exact⟨r,f5 [13,14,26,32,50] l A G J g,q⟩
    obtain⟨r,g,q⟩:=yS .and (ix _ (d.tl1 .fst)) (F _ (d.tl1 .snd));exact⟨r,f7 [13,14,26,32,35,37,50] l A G J (nW .fst t) (nW .snd t) g,q⟩
   |imp=>
    have up:∀{z:Fm}{u:Tm},z.fn<=m->z.cnt<=4096->z.shp=true->z.sc n->z.gx->TL (n+1) u->RZ (n+1) (z.sh 0 (.ofNat 1)) u (rz z (NB Tm.v) u):=λ{z u}T a2 U V W X=>by
     rw[<-Y1];have e:=wS z 0 1;exact B (n+1) (z.sh 0 (.ofNat 1)) u (by rw[e,lW];exact T) (by rw[XE];omega) (by rw[XE];omega) (by rw[yP];exact U) (xI 1 z 0 n V) (by rw[e];exact MI z _ W) X (by omega)
    obtain⟨r,g,q⟩:=U1 (x:=x) (y:=y) (t:=t) (u:=bif x.has then rz x (NB Tm.v) (.v 0)else rz x Tm.v t) (v:=bif x.has then rz y (NB Tm.v) (bif y.has then t.ap else t.u1)else rz y Tm.v t) v L d (by omega)
     (λe=>by rw[e];exact⟨ix t i,F t i⟩) (λe=>by
      rw[e];refine⟨up (by omega) (by omega) o c.1 j.1 ⟨by simp[Tm.cnt],rfl,Nat.succ_pos n⟩,up (by omega) (by omega) p c.2 j.2 ?_⟩;cases y.has
      ·exact d.tlu
      exact d.tla)
    refine⟨r,f3 [13,14,57] l A g,?_⟩;show r.Gd n (bif x.has then _ else _);cases e:x.has<;>rw[e]at q<;>exact q
  |q k s x=>
   have D:1+x.fn<=m+1:=D;have E:1+x.cnt<=4097:=E;obtain⟨o,p⟩:=EA H;have v:FK (n+1) x:=⟨by omega,p,c⟩;have ix:=λu(C:TL (n+1) u)=>B (n+1) x u (by omega) (by omega) (by omega) p c j.1 C (by omega)
   cases k with
   |all=>
    refine Ib .all (by simp) (kD o) v d (by omega) ?_;show RZ _ _ _ (rz x (cA Tm.v) _);rw[JR];refine ix _ ?_;cases x.has
    ·exact d.tlu
    exact d.tla
   |allU=>
    refine Ib .allU (by simp) (kD o) v d (by omega) ?_;show RZ _ _ _ (rz x (cA Tm.v) _);rw[JR];exact ix _ d.tlu
   |exU=>
    refine Ib .exU (by simp) (kD o) v d (by omega) ?_;show RZ _ _ _ (rz x (cA Tm.v) _);rw[JR];exact ix _ d.tlu
   |ex=>
    obtain⟨r,g,q⟩:=V1 (s:=s) (x:=x) (t:=t) (X:=rz (.q .ex s x) Tm.v t) v d (by omega) (λw u M N wc Y=>by
     have e:=NP x w;have ne:(x.put 0 w 0).ne=x.ne:=by rw[e,PP]
     have K:w.shp=true/\w.sc n/\TL n u:=by
      subst M N;cases x.has
      ·exact⟨d.shp,d.sc,i⟩
      exact⟨d.shp,d.sc,d.tl1 .snd⟩
     have Z:rz (.q .ex s x) Tm.v t=rz (x.put 0 w 0) Tm.v u:=by
      rw[LN,xC];subst M N;show(bif x.has then _ else _)=_;cases x.has<;>rfl
     rw[Z];refine B n _ u (by rw[e,lW];omega) ?_ (by rw[ne];exact Y) (qL 0 w x 0 (.inl K.1) p) (pN w n x 0 c (.inl K.2.1)) (by rw[e];exact MI x _ j.1) K.2.2 (by omega);rcases j.2 rfl with O|O
     ·have:=iJ 0 w x 0;rw[Nat.add_zero,O]at this;omega
     omega)
    exact⟨r,f3 [13,14,107] l A g,q⟩
def C2{f:Fm}{t:Tm}:rz f Tm.v (bif f.has then t else .n0 .unit)=rz f Tm.v t:=by
 cases e:f.has
 ·grind[IH]
 rfl
def yl{n:Nat}{f:Fm}{t:Tm}(a:FK n f)(k:f.gx)(b:TK n t)(p:n<=90000):∃r:FR,A 39 [f.p,t.p] r.p/\r.Gd n (rz f Tm.v t):=by
 have:=vA;have:iA=100000:=rfl;have:=a.cnt;have:=L1 f;have:=a.mx (by omega);have:=b.mx (by omega);have d:=a.a89;have h:=b.a92;have i:=F1 f;have j:=LI t (by omega);have c:=MN a;have key:∀u:Tm,TL n u->RZ n f u (rz f Tm.v u):=λu o=>Z1 f.fn n f u (Nat.le_refl _) (by omega) (by omega) a.shp a.sc k o (by omega)
 rw[<-C2];cases e:f.has<;>rw[e]at c
 ·obtain⟨r,g,q⟩:=key (.n0 .unit) ⟨by simp[Tm.cnt],rfl,trivial⟩;exact⟨r,f7 [9,15,21,24,28,30,33] d h i j c fG g,q⟩
 obtain⟨r,g,q⟩:=key t b.tl;exact⟨r,f6 [9,15,21,24,28,33] d h i j c g,q⟩
abbrev pE:PV:=.iface 39 (num 4)
abbrev Po(f:Nat)(args:List V)(objs:List (Nat×Ob)):Prop:=AC Tryz.prog gl f args objs (.panic pE) []
abbrev uS(f:Nat)(args:List V)(objs:List (Nat×Ob))(m rg ds:Nat)(tp:Di):Prop:=MY ev Tryz.prog 100 6 f args objs m rg ds tp pE
abbrev Pn(f:Nat)(args:List PV):Prop:=Po f (args.map .pv) []
def bS{f:Nat}{args:List V}{a:List (Nat×Ob)}(m rg b:Nat)(c:Di){B:Prop}(h:B)(e:B=uS f args a m rg b c):Po f args a:=QT evOK (e▸h)
section
variable{f:Nat}{args:List PV}(rg ds:Nat)(tp:Di){H1 H2 H3 H4 H5 H6 H7 H8 H9 H10 H11 H12 H13 H14 H15 H16 H17 H18 H19 H20 H21 H22 H23 H24 H25 H26 H27 QE H29 H30:Prop}(h1:H1)(h2:H2)(h3:H3)(h4:H4)(h5:H5)(h6:H6)(h7:H7)(h8:H8)(h9:H9)(h10:H10)(h11:H11)(h12:H12)(h13:H13)(h14:H14)(h15:H15)(h16:H16)(h17:H17)(h18:H18)(h19:H19)(h20:H20)(h21:H21)(h22:H22)(h23:H23)(h24:H24)(h25:H25)(h26:H26)(h27:H27)(PM:QE)(h29:H29)(h30:H30)[Ans H1][Ans H2][Ans H3][Ans H4][Ans H5][Ans H6][Ans H7][Ans H8][Ans H9][Ans H10][Ans H11][Ans H12][Ans H13][Ans H14][Ans H15][Ans H16][Ans H17][Ans H18][Ans H19][Ans H20][Ans H21][Ans H22][Ans H23][Ans H24][Ans H25][Ans H26][Ans H27][Ans QE][Ans H29][Ans H30]
def pk{B:Prop}[AnsL B](h:B)(e:B=uS f (args.map .pv) [] 0 rg ds (fill tp (AnsL.d B))):Pn f args:=QT evOK (e▸h)
def Jb:=@pk f args rg ds tp _ _ (⟨rfl,trivial⟩:V.pv pE=V.pv pE/\True)
def dS:=@pk f args rg ds tp _ _ (⟨h1,trivial⟩:H1/\True)
def Kb:=@pk f args rg ds tp _ _ (⟨h1,h2,trivial⟩:H1/\H2/\True)
def D2:=@pk f args rg ds tp _ _ (⟨h1,h2,h3,trivial⟩:H1/\H2/\H3/\True)
def G2:=@pk f args rg ds tp _ _ (⟨h1,h2,h3,h4,trivial⟩:H1/\H2/\H3/\H4/\True)
end
def BD(t:Tm):A 98 [t.p,num 0] t.p:=f0 []
abbrev FR.b(r:FR):PV:=.agg [num r.k,num r.tk,.slice r.te,.slice r.ts,.slice r.es]
def Lb(f:Fm):A 172 [f.p,num 0] f.p:=f0 []
def ul:Pn 172 [(FR.er 3).b,num 4]:=Jb 2 99999 [] (by kernel_rfl)
def Mb:A 161 [num 0,num 0] (num 0):=f0 []
def bl:Pn 161 [num 0,num 4]:=Jb 2 99999 [] (by kernel_rfl)
section
variable{f:Nat}{args:List PV}{x:PV}(tp:Di){H1 H2 H3 H4 H5 H6 H7 H8 H9 H10 H11 H12 H13 H14 H15 H16 H17 H18 H19 H20 H21 H22 H23 H24 H25 H26 H27 QE H29:Prop}(h1:H1)(h2:H2)(h3:H3)(h4:H4)(h5:H5)(h6:H6)(h7:H7)(h8:H8)(h9:H9)(h10:H10)(h11:H11)(h12:H12)(h13:H13)(h14:H14)(h15:H15)(h16:H16)(h17:H17)(h18:H18)(h19:H19)(h20:H20)(h21:H21)(h22:H22)(h23:H23)(h24:H24)(h25:H25)(h26:H26)(h27:H27)(PM:QE)(h29:H29)[Ans H1][Ans H2][Ans H3][Ans H4][Ans H5][Ans H6][Ans H7][Ans H8][Ans H9][Ans H10][Ans H11][Ans H12][Ans H13][Ans H14][Ans H15][Ans H16][Ans H17][Ans H18][Ans H19][Ans H20][Ans H21][Ans H22][Ans H23][Ans H24][Ans H25][Ans H26][Ans H27][Ans QE][Ans H29]
end
abbrev oN(n:Nat):List (Nat×Ob):=[(3,.box [.fn 169 [.loc 2 0,.loc 3 0]]),(2,bx [num n])]
def qH:∀(p:Pf)(n:Nat),n+p.cnt<=yA->O 169 [.pv p.p,.loc 2 0,.loc 3 0] (oN n) (.pv ut) (oN (n+p.cnt))
 |.leaf u i,n,h=>by
  have h:n+1<=yA:=h;have g:=nA (a:=n) (b:=1);cases u<;>exact o1 4 [11] g
 |.refl t,n,h=>by
  have h:n+(1+t.cnt)<=yA:=h;have c:=nA (a:=n) (b:=1);have d:=MC t (by omega);have e:=nA (a:=n+1) (b:=t.cnt);rw[show n+Pf.cnt (.refl t)=n+1+t.cnt by show n+(1+t.cnt)=_;omega];exact o3 4 [11,21,22] c d e
 |.p1 k a,n,h=>by
  have h:n+(1+a.cnt)<=yA:=h;have c:=nA (a:=n) (b:=1);have d:=qH a (n+1) (by omega);rw[show n+Pf.cnt (.p1 k a)=n+1+a.cnt by show n+(1+a.cnt)=_;omega];cases k<;>exact o2 4 [11,(45,.o [3] [(2,bx [num (n+1+a.cnt)])] (.pv ut))] c d
 |.p2 k a b,n,h=>by
  have h:n+(1+a.cnt+b.cnt)<=yA:=h;have c:=nA (a:=n) (b:=1);have d:=qH a (n+1) (by omega);have e:=qH b (n+1+a.cnt) (by omega);rw[show n+Pf.cnt (.p2 k a b)=n+1+a.cnt+b.cnt by show n+(1+a.cnt+b.cnt)=_;omega];cases k<;>exact o3 4 [11,(45,.o [3] [(2,bx [num (n+1+a.cnt)])] (.pv ut)),(45,.o [3] [(2,bx [num (n+1+a.cnt+b.cnt)])] (.pv ut))] c d e
 |.impI f a,n,h=>by
  have h:n+(1+f.cnt+a.cnt)<=yA:=h;have c:=nA (a:=n) (b:=1);have d:=aG f (by omega);have e:=nA (a:=n+1) (b:=f.cnt);have j:=qH a (n+1+f.cnt) (by omega);rw[show n+Pf.cnt (.impI f a)=n+1+f.cnt+a.cnt by show n+(1+f.cnt+a.cnt)=_;omega];exact o4 4 [11,33,34,(45,.o [3] [(2,bx [num (n+1+f.cnt+a.cnt)])] (.pv ut))] c d e j
 |.all u s a,n,h=>by
  have h:n+(1+a.cnt)<=yA:=h;have c:=nA (a:=n) (b:=1);have d:=qH a (n+1) (by omega);rw[show n+Pf.cnt (.all u s a)=n+1+a.cnt by show n+(1+a.cnt)=_;omega];cases u<;>exact o2 4 [11,(45,.o [3] [(2,bx [num (n+1+a.cnt)])] (.pv ut))] c d
 |.ins u t a,n,h=>by
  have h:n+(1+t.cnt+a.cnt)<=yA:=h;have c:=nA (a:=n) (b:=1);have d:=MC t (by omega);have e:=nA (a:=n+1) (b:=t.cnt);have j:=qH a (n+1+t.cnt) (by omega);rw[show n+Pf.cnt (.ins u t a)=n+1+t.cnt+a.cnt by show n+(1+t.cnt+a.cnt)=_;omega];cases u<;>exact o4 4 [11,21,22,(45,.o [3] [(2,bx [num (n+1+t.cnt+a.cnt)])] (.pv ut))] c d e j
 |.ex u f t a,n,h=>by
  have h:n+(1+t.cnt+f.cnt+a.cnt)<=yA:=h;have c:=nA (a:=n) (b:=1);have d:=MC t (by omega);have e:=nA (a:=n+1) (b:=t.cnt);have j:=aG f (by omega);have m:=nA (a:=n+1+t.cnt) (b:=f.cnt);have o:=qH a (n+1+t.cnt+f.cnt) (by omega);rw[show n+Pf.cnt (.ex u f t a)=n+1+t.cnt+f.cnt+a.cnt by show n+(1+t.cnt+f.cnt+a.cnt)=_;omega];cases u<;>exact o6 4 [11,21,22,33,34,(45,.o [3] [(2,bx [num (n+1+t.cnt+f.cnt+a.cnt)])] (.pv ut))] c d e j m o
 |.ind l f t a b,n,h=>by
  have h:n+(1+t.cnt+f.cnt+a.cnt+b.cnt)<=yA:=h;have c:=nA (a:=n) (b:=1);have d:=MC t (by omega);have e:=nA (a:=n+1) (b:=t.cnt);have j:=aG f (by omega);have m:=nA (a:=n+1+t.cnt) (b:=f.cnt);have o:=qH a (n+1+t.cnt+f.cnt) (by omega);have r:=qH b (n+1+t.cnt+f.cnt+a.cnt) (by omega);rw[show n+Pf.cnt (.ind l f t a b)=n+1+t.cnt+f.cnt+a.cnt+b.cnt by show n+(1+t.cnt+f.cnt+a.cnt+b.cnt)=_;omega];cases l<;>exact o7 4 [11,21,22,33,34,(45,.o [3] [(2,bx [num (n+1+t.cnt+f.cnt+a.cnt)])] (.pv ut)),(45,.o [3] [(2,bx [num (n+1+t.cnt+f.cnt+a.cnt+b.cnt)])] (.pv ut))] c d e j m o r
 |.subst f a b,n,h=>by
  have h:n+(1+f.cnt+a.cnt+b.cnt)<=yA:=h;have c:=nA (a:=n) (b:=1);have d:=aG f (by omega);have e:=nA (a:=n+1) (b:=f.cnt);have j:=qH a (n+1+f.cnt) (by omega);have m:=qH b (n+1+f.cnt+a.cnt) (by omega);rw[show n+Pf.cnt (.subst f a b)=n+1+f.cnt+a.cnt+b.cnt by show n+(1+f.cnt+a.cnt+b.cnt)=_;omega];exact o5 4 [11,33,34,(45,.o [3] [(2,bx [num (n+1+f.cnt+a.cnt)])] (.pv ut)),(45,.o [3] [(2,bx [num (n+1+f.cnt+a.cnt+b.cnt)])] (.pv ut))] c d e j m
def I2{p:Pf}(h:p.cnt<=yA):(p.cnt<=16384/\A 108 [p.p] p.p)\/Pn 108 [p.p]:=by
 have g:=qH p 0 (by omega);rw[Nat.zero_add]at g;by_cases a:p.cnt<=16384
 ·exact .inl ⟨a,f2 [(8,.o [3] [(2,bx [num p.cnt])] (.pv ut)),10] g (HA (a:=16384) a)⟩
 exact .inr (D2 6 99999 [(8,.o [3] [(2,bx [num p.cnt])] (.pv ut)),10] g (NA (a:=16384) (Nat.lt_of_not_le a)) (rfl:V.pv pE=V.pv pE) (by kernel_rfl))
open Go.Lg
def Pf.wk:Pf->Prop|.leaf _ _=>True|.refl t=>t.shp=true|.p1 _ a=>a.wk|.p2 _ a b=>a.wk/\b.wk|.impI f a=>f.shp=true/\a.wk|.all _ s a=>s.size<=64/\a.wk|.ins _ t a=>t.shp=true/\a.wk|.ex _ f t a=>t.shp=true/\f.shp=true/\a.wk|.ind _ f t a b=>t.shp=true/\f.shp=true/\a.wk/\b.wk|.subst f a b=>f.shp=true/\a.wk/\b.wk
abbrev Pf.K(p:Pf):Prop:=p.cnt<=16384/\p.wk
abbrev PO(f:Nat)(args:List PV)(p:Pf):Prop:=(p.K/\A f args p.p)\/Pn f args
instance{l:List (List PV)}{k n:Nat}{c:List PV}:Ans (TB l k=some c/\YB n l=true):=⟨.i c⟩
structure Px where
 t:Di
 B:Prop->Prop
 h:∀{R:Prop},R->B R
def Px.o:Px:=⟨[],λR=>R,λr=>r⟩
def Px.a(P:Px)(k:Nat){H:Prop}[Ans H](g:H):Px:=⟨P.t++[(k,Ans.d H)],λR=>P.B (H/\R),λr=>P.h ⟨g,r⟩⟩
def Px.n(P:Px)(k l:Nat){H:Prop}[Ans H](g:H):Px:=⟨P.t++[(k,.n [(l,Ans.d H)])],λR=>P.B (H/\R),λr=>P.h ⟨g,r⟩⟩
def Px.f{f:Nat}{args:List PV}{x:PV}(P:Px)(e:P.B (x=x)=U f args P.t x):A f args x:=IY evOK (Eq.mp e (P.h rfl))
def Px.z{f:Nat}{args:List PV}(P:Px)(rg a:Nat)(d:Nat×De){H:Prop}(g:H)(e:P.B (H/\True)=uS f (args.map .pv) [] 0 rg a (P.t++[d])):Pn f args:=QT evOK (Eq.mp e (P.h ⟨g,trivial⟩))
def Px.p{f:Nat}{args:List PV}{p:Pf}{C A B:Prop}[Ans B](P:Px)(rg a:Nat)(H:(C/\A)\/B)(k:C->A->PO f args p)(e:P.B (B/\True)=uS f (args.map .pv) [] 0 rg a (P.t++[(a,Ans.d B)]):=by kernel_rfl):PO f args p:=H.elim (λh=>k h.1 h.2) λg=>.inr (P.z rg a _ g e)
def zH{p:Pf}(h:p.cnt<=yA)(a:p.wk):PO 108 [p.p] p:=(I2 h).imp (λh=>⟨⟨h.1,a⟩,h.2⟩) id
def dl(k:P1){a:Pf}(h:a.K):PO 95 [num k.n,.slice [a.c]] (.p1 k a):=by
 have:=uA;rcases zH (p:=.p1 k a) (by show 1+a.cnt<=_;omega) h.2 with ⟨c,g⟩|g
 ·exact .inl ⟨c,f1 [8] g⟩
 exact .inr (dS 1 8 [8] g (by kernel_rfl))
def NI(k:P2){a b:Pf}(h:a.K)(d:b.K):PO 95 [num k.n,.slice [a.c,b.c]] (.p2 k a b):=by
 have:=uA;rcases zH (p:=.p2 k a b) (by show 1+a.cnt+b.cnt<=_;omega) ⟨h.2,d.2⟩with ⟨c,g⟩|g
 ·exact .inl ⟨c,f1 [8] g⟩
 exact .inr (dS 1 8 [8] g (by kernel_rfl))
def fS{s:Ty}(b:s.size<=64){a:Pf}(h:a.K):PO 100 [s.p,a.p] (.all false s a):=by
 have:=uA;rcases zH (p:=.all false s a) (by show 1+a.cnt<=_;omega) ⟨b,h.2⟩with ⟨c,g⟩|g
 ·exact .inl ⟨c,f1 [9] g⟩
 exact .inr (dS 1 9 [9] g (by kernel_rfl))
def YJ{t:Tm}{a:Pf}(d:t.cnt<=8192)(b:t.shp=true)(h:a.K):PO 97 [t.p,a.p] (.ins false t a):=by
 have:=uA;rcases zH (p:=.ins false t a) (by show 1+t.cnt+a.cnt<=_;omega) ⟨b,h.2⟩with ⟨c,g⟩|g
 ·exact .inl ⟨c,f1 [10] g⟩
 exact .inr (dS 1 10 [10] g (by kernel_rfl))
def ml{x:Fm}{a:Pf}(d:x.cnt<=4096)(b:x.shp=true)(h:a.K):PO 162 [x.p,a.p] (.impI x a):=by
 have:=uA;rcases zH (p:=.impI x a) (by show 1+x.cnt+a.cnt<=_;omega) ⟨b,h.2⟩with ⟨c,g⟩|g
 ·exact .inl ⟨c,f1 [10] g⟩
 exact .inr (dS 1 10 [10] g (by kernel_rfl))
abbrev nl(f:Nat)(args:List PV)(n:Nat)(x:Fm):Prop:=(FK n x/\A f args x.p)\/Pn f args
section
variable{s:Sc}(hv:DH s.dep s.vs)(hd:s.dep<=90000)(hl:s.vs.length<=90000)
include hv hd hl
theorem J2{f:Fm}{t:Tm}(d:FK s.vs.length f)(h:f.gx)(j:TK s.dep t):nl 109 [s.p,f.p,t.p] s.dep (rz f (sS s) t):=by
 have:iA=100000:=rfl;obtain⟨r,g,q⟩:=Yk hv (by omega) (by omega) d
 cases r with
 |er n=>
  obtain rfl:n=3:=q;exact .inr (Kb 1 12 [9,12] g ul (by kernel_rfl))
 |ok F=>
  obtain⟨k,rfl⟩:=q;have e:rz (f.sub (sS s)) Tm.v t=rz f (sS s) t:=by
   rw[tG];congr 1;funext i;exact xC _
  obtain⟨l,c,a⟩:=yl k (MI f _ h) j hd;rw[e]at a
  cases l with
  |er n=>
   obtain rfl:n=3:=a;exact .inr (G2 1 17 [9,12,14,17] g (Lb (f.sub (sS s))) c ul (by kernel_rfl))
  |ok o=>
   obtain⟨m,rfl⟩:=a;exact .inl ⟨m,f4 [9,12,14,17] g (Lb (f.sub (sS s))) c (Lb (rz f (sS s) t))⟩
end
def UL{n:Nat}{f:Fm}(h:FK n f)(a:n<=iA):A 165 [f.p] (.bool f.has)\/Pn 165 [f.p]:=by
 obtain⟨r,g,c,b,_⟩:=GH h a
 cases r with
 |er m=>
  obtain rfl:m=3:=b m rfl;exact .inr (Kb 2 13 [8,13] g bl (by kernel_rfl))
 |ok w=>exact .inl (f2 [8,13] g Mb)
def L2(s:Sc)(h:s.hyps<=qA):A 167 [s.p] s.skip.p:=f1 [5] (nA (a:=s.hyps) (b:=1) (by have:=vA;have:=uA;omega))
def M2(s:Sc)(i:Nat){y:Hy}(a:i<s.ks.length)(h:s.ks[s.ks.length-1-i]? =some y)(a:y.pl<s.hyps)(a:s.ks.length<=qA)(a:s.hyps<=qA):A 94 [s.p,num i] (num (s.pl i)):=by
 have:=vA;have:=uA;have e:s.pl i=s.hyps-1-y.pl:=by unfold Sc.pl;rw[h]
 rw[e];have:(s.ks.map Hy.c).length=s.ks.length:=List.length_map ..;have a:=wD (a:=s.hyps) (b:=1) (z:=.ofNat (s.hyps-1)) (by omega) (by omega) (by simp only[Int.ofNat_eq_natCast];omega);have b:=wD (a:=(s.ks.map Hy.c).length) (b:=1) (z:=.ofNat (s.ks.length-1)) (by omega) (by omega) (by simp only[Int.ofNat_eq_natCast];omega);have c:=wD (a:=s.ks.length-1) (b:=i) (z:=.ofNat (s.ks.length-1-i)) (by omega) (by omega) (by simp only[Int.ofNat_eq_natCast];omega);have d:=wD (a:=s.hyps-1) (b:=y.pl) (z:=.ofNat (s.hyps-1-y.pl)) (by omega) (by omega) (by simp only[Int.ofNat_eq_natCast];omega);exact f5 [7,13,15,(16,.i y.c),19] a b c (kB h Hy.c_len) d
def N2(q:Sx):Pn 98 [.agg q.c,num 4]:=Jb 2 99999 [] (by kernel_rfl)
abbrev XO(f:Nat)(args:List PV)(n:Nat)(t:Tm):Prop:=(∃q:Sx,A f args (XR.er q 3).p)\/(TK n t/\A f args (XR.ok t).p)
def Px.x{f a:Nat}{args b:List PV}{p:Pf}{n:Nat}{t:Tm}(P:Px)(rg k c:Nat)(H:XO a b n t)(l:TK n t->A a b (XR.ok t).p->PO f args p)(e:∀q:Sx,P.B (A a b (XR.er q 3).p/\Pn 98 [.agg q.c,num 4]/\True)=uS f (args.map .pv) [] 0 rg c (P.t++[(k,.r (XR.er q 3).p),(c,.r (num 0))]):=by intro q;kernel_rfl):PO f args p:=H.elim (λ⟨q,g⟩=>.inr (QT evOK (Eq.mp (e q) (P.h ⟨g,N2 q,trivial⟩)))) λh=>l h.1 h.2
theorem XO.of{f:Nat}{args:List PV}{n:Nat}{t:Tm}(h:∃r:XR,A f args r.p/\r.Gd n t):XO f args n t:=by
 obtain⟨r,g,q⟩:=h
 cases r with
 |er x m=>
  obtain rfl:m=3:=q;exact .inl ⟨x,g⟩
 |ok u=>
  obtain⟨k,rfl⟩:=q;exact .inr ⟨k,g⟩
structure SB(m n:Nat)(s:Sc):Prop where
 ve:DH s.dep s.vs
 vl:s.vs.length=n
 n:n+m<=85000
 d:s.dep+m<=85000
 h:s.hyps+m<=85000
 k:s.ks.length+m<=85000
def SB.le{m m' n:Nat}{s:Sc}(h:SB m n s)(a:m'<=m:=by omega):SB m' n s:=⟨h.ve,h.vl,by have:=h.n;omega,by have:=h.d;omega,by have:=h.h;omega,by have:=h.k;omega⟩
theorem SB.bind{m n:Nat}{s:Sc}(h:SB (m+1) n s):SB m n s.bind:=⟨λe a=>⟨Nat.le_succ_of_le (h.ve e a).1,(h.ve e a).2⟩,h.vl,by have:=h.n;omega,by have:=h.d;show s.dep+1+m<=_;omega,by have:=h.h;show s.hyps+m<=_;omega,by have:=h.k;show s.ks.length+m<=_;omega⟩
theorem SB.var{m n:Nat}{s:Sc}{t:Tm}(h:SB (m+1) n s)(b:TK s.dep t):SB m (n+1) (s.var t):=⟨λe a=>by
  rcases List.mem_append.1 a with a|a
  ·exact h.ve e a
  simp at a;subst a;exact⟨Nat.le_refl _,b⟩,by show(s.vs++_).length=_;simp[h.vl],by have:=h.n;omega,by have:=h.d;show s.dep+m<=_;omega,by have:=h.h;show s.hyps+m<=_;omega,by have:=h.k;show s.ks.length+m<=_;omega⟩
def SB.sv{m n:Nat}{s:Sc}(h:SB (m+2) n s):SB m (n+1) (sv s):=h.bind.var (yC (Nat.succ_pos _))
section
variable{m n:Nat}{s:Sc}(B:SB m n s)
include B
theorem SB.g80:A 101 [s.p] s.bind.p:=iL s (by have:=B.d;have:=vA;omega)
theorem SB.g81(t:Tm):A 102 [s.p,t.p] (s.var t).p:=NJ s t (by have:=B.n;have:=B.vl;have:=vA;omega)
theorem SB.g123:A 151 [s.p] s.bare.p:=CV s (by have:=B.k;have:=vA;omega) (by have:=B.h;have:=vA;omega)
theorem SB.g124(t:Tm):A 152 [s.p,t.p] (s.hyp t).p:=xP s t (by have:=B.k;have:=vA;omega) (by have:=B.h;have:=vA;omega)
theorem SB.g139:A 167 [s.p] s.skip.p:=L2 s (by have:=B.h;have:=vA;omega)
theorem SB.real{f:Fm}{t:Tm}(a:FK n f)(b:f.gx)(c:TK s.dep t):nl 109 [s.p,f.p,t.p] s.dep (rz f (sS s) t):=J2 B.ve (by have:=B.d;omega) (by have:=B.n;have:=B.vl;omega) (B.vl▸a) b c
theorem SB.term{t:Tm}(a:TK n t):XO 103 [s.p,t.p] s.dep (t.ps s.vs s.dep 0):=.of ⟨_,HR s t n B.vl.symm B.ve (by have:=B.d;have:iA=100000:=rfl;omega) (by have:=B.n;have:=B.vl;have:iA=100000:=rfl;omega) a,PJ (EH B.ve t 0 a.shp) (FH B.ve t 0 (by rw[B.vl];exact a.sc)) rfl⟩
end
def pW(n:Nat):TK n (.n0 .unit):=⟨by simp[Tm.cnt],rfl,trivial⟩
def gS{tl:List Tm}{x:Fm}{j:Jt}{k:List Fm}{n:Nat}{s:Sc}{b:Sc->Jt}(B:SB 2 n s)(c:FK n x)(l:x.gx)(H:∀d:Sc,d=(bif x.has then s.bind.hyp (.v 0)else s.bare)->PO 34 [eA tl,j.ptr k,d.p] (b d).p):
  PO 96 [eA tl,x.p,j.ptr k,s.p] (un x b s).p:=by
 have:iA=100000:=rfl;have bn:=B.n;obtain⟨r,g,o,p,t⟩:=GH c
 cases r with
 |er m=>
  obtain rfl:m=3:=p m rfl;exact .inr (Kb 2 19 [(14,.U [.agg [num 0,.slice []],.bool x.has,num 4]),(19,.N 0)] g bl (by kernel_rfl))
 |ok w=>
 cases e:x.has<;>rw[e]at g
 ·rw[show un x b s=.impI (rz x (sS s) (.n0 .unit)) (b s.bare) by unfold un;rw[e];rfl];let P:=((Px.o.a 14 g).a 19 Mb).a 24 fG;refine P.p 4 25 (B.real c l (pW _)) λa u=>?_
  let P:=(P.a 25 u).a 29 B.g123;refine P.p 4 30 (H s.bare (by rw[e];rfl)) λf v=>?_
  let P:=P.a 30 v;refine P.p 4 31 (ml a.cnt a.shp f) λh y=>?_
  let P:=P.a 31 y;exact .inl ⟨h,P.f (by kernel_rfl)⟩
 obtain rfl:=t w rfl e;rw[show un x b s=.all false x.cty (.impI (rz x (sS s.bind) (.v 0)) (b (s.bind.hyp (.v 0)))) by unfold un;rw[e];rfl];let P:=(((Px.o.a 14 g).a 19 Mb).a 33 B.g80).a 37 (TA 0);refine P.p 6 38 (B.bind.real c l (yC (Nat.succ_pos _))) λa z=>?_
 let P:=((P.a 38 z).a 42 (TA 0)).a 43 (B.bind.g124 (.v 0));refine P.p 6 44 (H (s.bind.hyp (.v 0)) (by rw[e];rfl)) λf A=>?_
 let P:=P.a 44 A;refine P.p 6 45 (ml a.cnt a.shp f) λh C=>?_
 let P:=P.a 45 C;refine P.p 6 46 (fS (s:=x.cty) o h) λD i=>?_
 let P:=P.a 46 i;exact .inl ⟨D,P.f (by kernel_rfl)⟩
open Go.Lg
abbrev oM(tl:List Tm)(x:PV)(s:Sc):List (Nat×Ob):=[(0,bx [row tl]),(1,bx [x]),(2,bx [num s.dep,num s.hyps,.slice (s.vs.map ec),.slice (s.ks.map Hy.c)])]
section
variable{tl:List Tm}{hs ha hb:List Fm}{s:Sc}{f:Fm}{a b:Jt}{p q:Pf}
def QP(h:Pn 34 [eA tl,a.ptr ha,s.p]):Po 93 [.pv (num 0),.loc 0 0,.loc 1 0,.loc 2 0] (oM tl (aA p f hs [[a.ptr ha]]) s):=bS 3 1 15 [(15,.N 0)] (⟨h,trivial⟩:_/\True) (by kernel_rfl)
def al(h:Pn 34 [eA tl,a.ptr ha,s.p]):Po 93 [.pv (num 0),.loc 0 0,.loc 1 0,.loc 2 0] (oM tl (aA p f hs [[a.ptr ha],[b.ptr hb]]) s):=bS 3 1 15 [(15,.N 0)] (⟨h,trivial⟩:_/\True) (by kernel_rfl)
def il(h:Pn 34 [eA tl,b.ptr hb,s.p]):Po 93 [.pv (num 1),.loc 0 0,.loc 1 0,.loc 2 0] (oM tl (aA p f hs [[a.ptr ha],[b.ptr hb]]) s):=bS 3 1 15 [(15,.N 0)] (⟨h,trivial⟩:_/\True) (by kernel_rfl)
abbrev bB(tl:List Tm)(x:PV)(s:Sc)(p:Pf):Prop:=PO 34 [eA tl,x,s.p] p
def O2{i:Nat}:bB tl (aA (.leaf true i) f hs []) s (.leaf true i):=by
 exact .inl ⟨⟨by simp only[Pf.cnt];omega,trivial⟩,f0 []⟩
def Q2{m n i:Nat}{y:Hy}(B:SB m n s)(c:i<s.ks.length)(h:s.ks[s.ks.length-1-i]? =some y)(d:y.pl<s.hyps):bB tl (aA (.leaf false i) f hs []) s (.leaf false (s.pl i)):=
 .inl ⟨⟨by simp only[Pf.cnt];omega,trivial⟩,f1 [(25,.N (s.pl i))] (M2 s i c h d (by have:=B.k;have:=vA;omega) (by have:=B.h;have:=vA;omega))⟩
def R2(H:bB tl (a.ptr hs) s p):bB tl (aA (.p1 .andL a.p) f hs [[a.ptr hs]]) s (.p1 .andL p):=by
 let P:=Px.o;rcases H with ⟨d,c⟩|c;rotate_left
 ·exact .inr (P.z 11 55 (55,.o [0,1,2] [] (.pv (num 0))) (QP (p:=.p1 .andL a.p) (f:=f) (hs:=hs) c) (by kernel_rfl))
 let P:=P.n 55 15 c;refine P.p 11 57 (dl .andL d) λe g=>?_
 let P:=P.a 57 g;exact .inl ⟨e,P.f (by kernel_rfl)⟩
def T2(H:bB tl (a.ptr hs) s p):bB tl (aA (.p1 .andR a.p) f hs [[a.ptr hs]]) s (.p1 .andR p):=by
 let P:=Px.o;rcases H with ⟨d,c⟩|c;rotate_left
 ·exact .inr (P.z 11 55 (55,.o [0,1,2] [] (.pv (num 0))) (QP (p:=.p1 .andR a.p) (f:=f) (hs:=hs) c) (by kernel_rfl))
 let P:=P.n 55 15 c;refine P.p 11 57 (dl .andR d) λe g=>?_
 let P:=P.a 57 g;exact .inl ⟨e,P.f (by kernel_rfl)⟩
def U2(H:bB tl (a.ptr hs) s p):bB tl (aA (.p1 .choice a.p) f hs [[a.ptr hs]]) s (p):=by
 let P:=Px.o;rcases H with ⟨d,c⟩|c;rotate_left
 ·exact .inr (P.z 40 237 (237,.o [0,1,2] [] (.pv (num 0))) (QP (p:=.p1 .choice a.p) (f:=f) (hs:=hs) c) (by kernel_rfl))
 let P:=P.n 237 15 c;exact .inl ⟨d,P.f (by kernel_rfl)⟩
def V2{x:Fm}{t:Tm}(H:bB tl (a.ptr hs) s p):bB tl (aA (.ex false x t a.p) f hs [[a.ptr hs]]) s (p):=by
 let P:=Px.o;rcases H with ⟨d,c⟩|c;rotate_left
 ·exact .inr (P.z 40 237 (237,.o [0,1,2] [] (.pv (num 0))) (QP (p:=.ex false x t a.p) (f:=f) (hs:=hs) c) (by kernel_rfl))
 let P:=P.n 237 15 c;exact .inl ⟨d,P.f (by kernel_rfl)⟩
def X2(H:bB tl (a.ptr hs) s p)(e:bB tl (b.ptr hs) s q):bB tl (aA (.p2 .andI a.p b.p) f hs [[a.ptr hs],[b.ptr hs]]) s (.p2 .andI p q):=by
 let P:=Px.o;rcases H with ⟨g,c⟩|c;rotate_left
 ·exact .inr (P.z 8 41 (41,.o [0,1,2] [] (.pv (num 0))) (al (p:=.p2 .andI a.p b.p) (f:=f) (hs:=hs) (a:=a) (b:=b) (ha:=hs) (hb:=hs) c) (by kernel_rfl))
 let P:=P.n 41 15 c;rcases e with ⟨h,d⟩|d;rotate_left
 ·exact .inr (P.z 8 43 (43,.o [0,1,2] [] (.pv (num 0))) (il (p:=.p2 .andI a.p b.p) (f:=f) (hs:=hs) (a:=a) (b:=b) (ha:=hs) (hb:=hs) d) (by kernel_rfl))
 let P:=P.n 43 15 d;refine P.p 8 45 (NI .andI g h) λi j=>?_
 let P:=P.a 45 j;exact .inl ⟨i,P.f (by kernel_rfl)⟩
def Y2{x:Fm}(H:PO 96 [eA tl,x.p,a.ptr ha,s.p] p):bB tl (aA (.impI x a.p) f hs [[a.ptr ha]]) s (p):=by
 let P:=Px.o;refine P.p 13 75 H λc d=>?_
 let P:=P.a 75 d;exact .inl ⟨c,P.f (by kernel_rfl)⟩
abbrev Jt.ptb(hs:List Fm)(a:Jt)(c:Bool):PV:=.ptr [num a.p.kd,num a.p.ix,num a.p.tk,.slice a.p.te,.slice a.p.ts,.slice a.p.fs,.slice a.p.es,num a.f.kd,num a.f.tk,.slice a.f.te,.slice a.f.ts,.slice a.f.es,dA hs,.bool c,.slice (a.pts hs)]
def ptb{hs:List Fm}{a:Jt}{c:Bool}(e:a.f.has=c):a.ptr hs=a.ptb hs c:=by subst e;rfl
def ol{c:Bool}(h:Pn 34 [eA tl,a.ptr ha,s.p]):Po 93 [.pv (num 0),.loc 0 0,.loc 1 0,.loc 2 0] (oM tl (aA p f hs [[a.ptr ha],[b.ptb hb c]]) s):=bS 3 1 15 [(15,.N 0)] (⟨h,trivial⟩:_/\True) (by kernel_rfl)
def xl{c:Bool}(h:Pn 34 [eA tl,b.ptb hb c,s.p]):Po 93 [.pv (num 1),.loc 0 0,.loc 1 0,.loc 2 0] (oM tl (aA p f hs [[a.ptr ha],[b.ptb hb c]]) s):=bS 3 1 15 [(15,.N 0)] (⟨h,trivial⟩:_/\True) (by kernel_rfl)
def Z2(H:bB tl (a.ptr hs) s p)(e:bB tl (b.ptb hs false) s q):bB tl (aA (.p2 .impE a.p b.p) f hs [[a.ptr hs],[b.ptb hs false]]) s (.p2 .impE p q):=by
 let P:=Px.o;rcases H with ⟨g,c⟩|c;rotate_left
 ·exact .inr (P.z 15 79 (79,.o [0,1,2] [] (.pv (num 0))) (ol (p:=.p2 .impE a.p b.p) (f:=f) (hs:=hs) (a:=a) (b:=b) (ha:=hs) (hb:=hs) (c:=false) c) (by kernel_rfl))
 let P:=P.n 79 15 c;rcases e with ⟨h,d⟩|d;rotate_left
 ·exact .inr (P.z 18 105 (105,.o [0,1,2] [] (.pv (num 0))) (xl (p:=.p2 .impE a.p b.p) (f:=f) (hs:=hs) (a:=a) (b:=b) (ha:=hs) (hb:=hs) (c:=false) d) (by kernel_rfl))
 let P:=P.n 105 15 d;refine P.p 18 107 (NI .impE g h) λi j=>?_
 let P:=P.a 107 j;exact .inl ⟨i,P.f (by kernel_rfl)⟩
def A3{t:Tm}(H:bB tl (a.ptr hs) s p)(g:bB tl (b.ptb hs true) s q)(h:XO 99 [eA tl,b.ptb hs true,s.p] s.dep t):bB tl (aA (.p2 .impE a.p b.p) f hs [[a.ptr hs],[b.ptb hs true]]) s (.p2 .impE (.ins false t p) q):=by
 let P:=Px.o;rcases H with ⟨i,c⟩|c;rotate_left
 ·exact .inr (P.z 15 79 (79,.o [0,1,2] [] (.pv (num 0))) (ol (p:=.p2 .impE a.p b.p) (f:=f) (hs:=hs) (a:=a) (b:=b) (ha:=hs) (hb:=hs) (c:=true) c) (by kernel_rfl))
 let P:=P.n 79 15 c;refine P.x 17 97 100 h λe j=>?_
 let P:=(P.a 97 j).a 100 (BD t);refine P.p 17 102 (YJ (t:=t) (by have:=e.cnt;omega) e.shp i) λk l=>?_
 let P:=P.a 102 l;rcases g with ⟨m,d⟩|d;rotate_left
 ·exact .inr (P.z 18 105 (105,.o [0,1,2] [] (.pv (num 0))) (xl (p:=.p2 .impE a.p b.p) (f:=f) (hs:=hs) (a:=a) (b:=b) (ha:=hs) (hb:=hs) (c:=true) d) (by kernel_rfl))
 let P:=P.n 105 15 d;refine P.p 18 107 (NI .impE k m) λn o=>?_
 let P:=P.a 107 o;exact .inl ⟨n,P.f (by kernel_rfl)⟩
def B3{m n:Nat}{w:Ty}(c:w.size<=64)(B:SB (m+2) n s)(H:bB tl (a.ptr ha) (sv s) p):bB tl (aA (.all false w a.p) f hs [[a.ptr ha]]) s (.all false w p):=by
 let P:=((Px.o.a 124 B.g80).a 125 (TA 0)).a 126 (SB.g81 (SB.bind (m:=m+1) B) (.v 0));refine P.p 21 127 H λd e=>?_
 let P:=P.a 127 e;refine P.p 21 128 (fS c d) λc d=>?_
 let P:=P.a 128 d;exact .inl ⟨c,P.f (by kernel_rfl)⟩
def C3{m n:Nat}{w:Ty}(c:w.size<=64)(B:SB (m+2) n s)(H:bB tl (a.ptr ha) (sv s) p):bB tl (aA (.all true w a.p) f hs [[a.ptr ha]]) s (.all false w p):=by
 let P:=((Px.o.a 124 B.g80).a 125 (TA 0)).a 126 (SB.g81 (SB.bind (m:=m+1) B) (.v 0));refine P.p 21 127 H λd e=>?_
 let P:=P.a 127 e;refine P.p 21 128 (fS c d) λc d=>?_
 let P:=P.a 128 d;exact .inl ⟨c,P.f (by kernel_rfl)⟩
def D3{m n:Nat}{t:Tm}(B:SB m n s)(e:TK n t)(H:bB tl (a.ptr hs) s p):bB tl (aA (.ins false t a.p) f hs [[a.ptr hs]]) s (.ins false (t.ps s.vs s.dep 0) p):=by
 let P:=Px.o;refine P.x 24 140 143 (B.term e) λd g=>?_
 let P:=(P.a 140 g).a 143 (BD (t.ps s.vs s.dep 0));rcases H with ⟨h,c⟩|c;rotate_left
 ·exact .inr (P.z 24 145 (145,.o [0,1,2] [] (.pv (num 0))) (QP (p:=.ins false t a.p) (f:=f) (hs:=hs) c) (by kernel_rfl))
 let P:=P.n 145 15 c;refine P.p 24 146 (YJ (t:=t.ps s.vs s.dep 0) (by have:=d.cnt;omega) d.shp h) λi j=>?_
 let P:=P.a 146 j;exact .inl ⟨i,P.f (by kernel_rfl)⟩
def F3{m n:Nat}{t:Tm}(B:SB m n s)(e:TK n t)(H:bB tl (a.ptr hs) s p):bB tl (aA (.ins true t a.p) f hs [[a.ptr hs]]) s (.ins false (t.ps s.vs s.dep 0) p):=by
 let P:=Px.o;refine P.x 24 140 143 (B.term e) λd g=>?_
 let P:=(P.a 140 g).a 143 (BD (t.ps s.vs s.dep 0));rcases H with ⟨h,c⟩|c;rotate_left
 ·exact .inr (P.z 24 145 (145,.o [0,1,2] [] (.pv (num 0))) (QP (p:=.ins true t a.p) (f:=f) (hs:=hs) c) (by kernel_rfl))
 let P:=P.n 145 15 c;refine P.p 24 146 (YJ (t:=t.ps s.vs s.dep 0) (by have:=d.cnt;omega) d.shp h) λi j=>?_
 let P:=P.a 146 j;exact .inl ⟨i,P.f (by kernel_rfl)⟩
def G3(H:PO 104 [eA tl,aA (.p2 .exE a.p b.p) f hs [[a.ptr ha],[b.ptr hb]],s.p] p):bB tl (aA (.p2 .exE a.p b.p) f hs [[a.ptr ha],[b.ptr hb]]) s (p):=by
 let P:=Px.o;refine P.p 26 152 H λc d=>?_
 let P:=P.a 152 d;exact .inl ⟨c,P.f (by kernel_rfl)⟩
def I3{x:Fm}{t:Tm}(H:PO 105 [eA tl,aA (.ex true x t a.p) f hs [[a.ptr ha]],s.p] p):bB tl (aA (.ex true x t a.p) f hs [[a.ptr ha]]) s (p):=by
 let P:=Px.o;refine P.p 28 158 H λc d=>?_
 let P:=P.a 158 d;exact .inl ⟨c,P.f (by kernel_rfl)⟩
def J3(H:PO 106 [eA tl,aA (.p2 .exUE a.p b.p) f hs [[a.ptr ha],[b.ptr hb]],s.p] p):bB tl (aA (.p2 .exUE a.p b.p) f hs [[a.ptr ha],[b.ptr hb]]) s (p):=by
 let P:=Px.o;refine P.p 30 164 H λc d=>?_
 let P:=P.a 164 d;exact .inl ⟨c,P.f (by kernel_rfl)⟩
def L3{x:Fm}{t:Tm}(H:PO 107 [eA tl,aA (.ind false x t a.p b.p) f hs [[a.ptr ha],[b.ptr hb]],s.p] p):bB tl (aA (.ind false x t a.p b.p) f hs [[a.ptr ha],[b.ptr hb]]) s (p):=by
 let P:=Px.o;refine P.p 33 171 H λc d=>?_
 let P:=P.a 171 d;exact .inl ⟨c,P.f (by kernel_rfl)⟩
def M3{x:Fm}{t:Tm}(H:PO 107 [eA tl,aA (.ind true x t a.p b.p) f hs [[a.ptr ha],[b.ptr hb]],s.p] p):bB tl (aA (.ind true x t a.p b.p) f hs [[a.ptr ha],[b.ptr hb]]) s (p):=by
 let P:=Px.o;refine P.p 33 171 H λc d=>?_
 let P:=P.a 171 d;exact .inl ⟨c,P.f (by kernel_rfl)⟩
def N3{m n:Nat}{t:Tm}(B:SB m n s)(c:TK n t):bB tl (aA (.refl t) f hs []) s (.refl (t.ps s.vs s.dep 0)):=by
 let P:=Px.o;refine P.x 35 187 190 (B.term c) λc d=>?_
 let P:=(P.a 187 d).a 190 (BD (t.ps s.vs s.dep 0));refine P.p 35 193 (zH (p:=.refl (t.ps s.vs s.dep 0)) (by have:=c.cnt;have:=uA;show 1+_<=_;omega) c.shp) λc d=>?_
 let P:=P.a 193 d;exact .inl ⟨c,P.f (by kernel_rfl)⟩
def O3{m n:Nat}{x:Fm}{t:Tm}(B:SB (m+2) n s)(g:FK (n+1) x)(h:x.gx)(H:bB tl (a.ptr hs) s p)(i:bB tl (b.ptr hs) s q)(j:XO 99 [eA tl,b.ptr hs,s.bind.p] (s.dep+1) t):bB tl (aA (.subst x a.p b.p) f hs [[a.ptr hs],[b.ptr hs]]) s (.subst (rz x (sS (sv s)) t) p q):=by
 let P:=Px.o.a 204 B.g80;refine P.x 37 205 208 j λk l=>?_
 let P:=((((P.a 205 l).a 208 (BD t)).a 210 B.g80).a 211 (TA 0)).a 212 (SB.g81 (SB.bind (m:=m+1) B) (.v 0));refine P.p 38 221 ((SB.sv B).real g h k) λe o=>?_
 let P:=P.a 221 o;rcases H with ⟨r,c⟩|c;rotate_left
 ·exact .inr (P.z 39 230 (230,.o [0,1,2] [] (.pv (num 0))) (al (p:=.subst x a.p b.p) (f:=f) (hs:=hs) (a:=a) (b:=b) (ha:=hs) (hb:=hs) c) (by kernel_rfl))
 let P:=P.n 230 15 c;rcases i with ⟨u,d⟩|d;rotate_left
 ·exact .inr (P.z 39 232 (232,.o [0,1,2] [] (.pv (num 0))) (il (p:=.subst x a.p b.p) (f:=f) (hs:=hs) (a:=a) (b:=b) (ha:=hs) (hb:=hs) d) (by kernel_rfl))
 let P:=P.n 232 15 d;refine P.p 39 235 (zH (p:=.subst (rz x (sS (sv s)) t) p q) (by have:=e.cnt;have:=uA;show 1+_+_+_<=_;omega) ⟨e.shp,r.2,u.2⟩) λv w=>?_
 let P:=P.a 235 w;exact .inl ⟨v,P.f (by kernel_rfl)⟩
end
end Go.Proofs.YtjobiknipefjdaaGreatDoor
