/- Contracts of functions; no conditions. -/
import Derived.Test.YtjobiknipefjdaaGreatDoorSolC6
import Derived.Test.YtjobiknipefjdaaGreatDoorSolC4
set_option linter.all false
set_option maxHeartbeats 4000000
namespace Go.Proofs.YtjobiknipefjdaaGreatDoor
open Go.Lg
set_option maxRecDepth 100000
def HH{a:List (Tm×Nat)}{d i:Nat}{e:Tm×Nat}(h:ent a i=some e):(Tm.v i).ps a d 0=e.1.sh 0 (.ofNat (d-e.2)):=by
 simp only[Tm.ps,Nat.not_lt_zero,if_false,Nat.sub_zero,h,Nat.add_zero]
def IV{a:List (Tm×Nat)}{d:Nat}(b:DH d a){t:Tm}(c:t.sc a.length):t.ps a (d+1) 0=(t.ps a d 0).sh 0 (.ofNat 1):=by
 rw[uD,uD a d t,pC,gG];refine lE _ _ _ λi f=>?_
 obtain⟨e,h,g⟩:=GR (LR c f);rw[HH h,HH h,<-pC,CP,show d+1-e.2=d-e.2+1 by have:=(b e g).1;omega]
def JV(a:List (Tm×Nat))(d:Nat)(e:Tm×Nat){t:Tm}(b:t.sc a.length):(t.sh 0 (.ofNat 1)).ps (a++[e]) d 0=t.ps a d 0:=by
 rw[uD,pC,zE,uD a];refine lE _ _ _ λi c=>?_
 obtain⟨x,h,_⟩:=GR (LR b c);rw[HH h,HH (e:=x) (by rw[Ka];exact h)]
structure SX(σ τ:Nat->Tm)(U:Nat->Prop)(s s':Sc):Prop where
 v:∀v,U v->v<s.vs.length->(σ v).sc s'.vs.length/\(σ v).ps s'.vs s'.dep 0=((Tm.v v).ps s.vs s.dep 0).sub τ
 l:s'.ks.length=s.ks.length
 k:∀i,i<s.ks.length->s'.hy i=(s.hy i).sub τ
def SX.mono{σ τ:Nat->Tm}{U W:Nat->Prop}{s a:Sc}(h:SX σ τ U s a)(b:∀v,W v->U v):SX σ τ W s a:=⟨λv a=>h.v v (b v a),h.l,h.k⟩
def KV{n:Nat}{a:List Bool}{s:Sc}(h:ScOK n a s)(i:Nat):s.bind.hy i=(s.hy i).sh 0 (.ofNat 1):=by
 unfold Sc.hy;show(match s.ks[s.ks.length-1-i]? with|some (.hy t d _)=>t.sh 0 (.ofNat (s.dep+1-d))|_=>.n0 .unit)=_
 cases e:s.ks[s.ks.length-1-i]? with
 |none=>rfl|some x=>cases x with
  |bare p=>rfl|hy t d p=>
   have:=(h.ke _ (List.mem_of_getElem? e) t d p rfl).1
   grind[CP]
theorem SX.bind{σ τ:Nat->Tm}{U:Nat->Prop}{s a:Sc}{n j:Nat}{k b:List Bool}(h:SX σ τ U s a)(d:ScOK n k s)(f:ScOK j b a):SX σ (cA τ) U s.bind a.bind:=
 ⟨λv l g=>by
  obtain⟨c,e⟩:=h.v v l g;refine⟨c,?_⟩;show(σ v).ps a.vs (a.dep+1) 0=((Tm.v v).ps s.vs (s.dep+1) 0).sub (cA τ);rw[IV f.ve c,e,IV d.ve (show(Tm.v v).sc s.vs.length from g),Oa],h.l,λi m=>by rw[KV d,KV f,h.k i m,Oa]⟩
def OR(a:List (Tm×Nat))(d:Nat)(t:Tm):(Tm.v 0).ps (a++[(t,d)]) d 0=t:=by
 rw[HH (BV a (t,d))];rw[Nat.sub_self,gE]
theorem SX.var{σ τ:Nat->Tm}{U W:Nat->Prop}{s a:Sc}{t t':Tm}(h:SX σ τ U s a)(f:t'=t.sub τ)(g:∀v,W (v+1)->U v):SX (cA σ) τ W (s.var t) (a.var t'):=
 ⟨λv i b=>by
  have d:(a.var t').vs.length=a.vs.length+1:=by simp[Sc.var]
  cases v with
  |zero=>
   refine⟨by rw[d];exact Nat.succ_pos _,?_⟩;show(Tm.v 0).ps (a.vs++[(t',a.dep)]) a.dep 0=((Tm.v 0).ps (s.vs++[(t,s.dep)]) s.dep 0).sub τ;rw[OR,OR,f]
  |succ v=>
   have b:v<s.vs.length:=by grind[Sc.var]
   obtain⟨c,e⟩:=h.v v (g v i) b;refine⟨by rw[d];exact AF 1 _ 0 _ c,?_⟩;show((σ v).sh 0 (.ofNat 1)).ps (a.vs++[(t',a.dep)]) a.dep 0=((Tm.v (v+1)).ps (s.vs++[(t,s.dep)]) s.dep 0).sub τ;rw[JV _ _ _ c,e,<-JV s.vs s.dep (t,s.dep) (show(Tm.v v).sc s.vs.length from b)];rfl,h.l,h.k⟩
def DP(s:Sc)(x:Hy)(d h:Nat)(i:Nat)(a:i<s.ks.length:=by omega):(⟨s.dep,h,s.vs,s.ks++[x]⟩:Sc).hy (i+1)=s.hy i:=by
 grind[Sc.hy,List.length_append,List.length_cons,List.length_nil]
def DN(s:Sc)(x:Hy)(h:Nat):(⟨s.dep,h,s.vs,s.ks++[x]⟩:Sc).hy 0=match x with|.hy t d _=>t.sh 0 (.ofNat (s.dep-d))|_=>.n0 .unit:=by
 grind[Sc.hy]
theorem SX.hyp{σ τ:Nat->Tm}{U:Nat->Prop}{s b:Sc}{t t':Tm}(h:SX σ τ U s b)(c:t'=t.sub τ):SX σ τ U (s.hyp t) (b.hyp t'):=
 ⟨h.v,by simp[Sc.hyp,h.l],λi a=>by
  cases i with
  |zero=>
   rw[Sc.hyp,Sc.hyp,DN,DN];simp only[Nat.sub_self,gE];exact c
  |succ i=>
   have a:i<s.ks.length:=by grind[Sc.hyp]
   rw[Sc.hyp,Sc.hyp,DP s _ 0 _ i a,DP b _ 0 _ i (by rw[h.l];exact a)];exact h.k i a⟩
theorem SX.bare{σ τ:Nat->Tm}{U:Nat->Prop}{s b:Sc}(h:SX σ τ U s b):SX σ τ U s.bare b.bare:=
 ⟨h.v,by simp[Sc.bare,h.l],λi a=>by
  cases i with
  |zero=>rw[Sc.bare,Sc.bare,DN,DN];rfl|succ i=>
   have a:i<s.ks.length:=by grind[Sc.bare]
   rw[Sc.bare,Sc.bare,DP s _ 0 _ i a,DP b _ 0 _ i (by rw[h.l];exact a)];exact h.k i a⟩
def SX.tm{σ τ:Nat->Tm}{U:Nat->Prop}{s a:Sc}{n:Nat}{t:Tm}(h:SX σ τ U s a)(b:s.vs.length=n)(c:t.sc n)(d:∀v,t.occ v≠0->U v):(t.sub σ).ps a.vs a.dep 0=(t.ps s.vs s.dep 0).sub τ:=by
 rw[uD,iD,uD s.vs,iD];refine lE _ _ _ λi a=>?_
 rw[<-(h.v i (d i a) (by rw[b];exact LR c a)).2,<-uD]
def Ij{f g:Fm}(e:f.er=g.er):f.both=g.both:=by
 cases f<;>cases g<;>simp only[Fm.er,reduceCtorEq]at e<;>first|rfl|grind[Fm.bin.injEq,Fm.both,SA]
def uz{f g:Fm}(e:f.er=g.er)(τ:Nat->Tm)(t:Tm):FI f (t.sub τ)=(FI g t).sub τ:=by
 cases f with
 |q k s f=>cases g with
  |q a b g=>
   obtain⟨es,e⟩:=MR e
   cases f with
   |q l u f=>cases g with
    |q c d g=>
     obtain⟨h,e⟩:=MR e;simp only[FI,SA e,BC e,es,h];cases g.has
     ·rfl
     rfl
    |_=>cases e
   |_=>cases g with
    |q c d g=>cases e
    |_=>rfl
  |_=>cases e
 |_=>cases g with
  |q a b g=>cases e
  |_=>rfl
def JB(a:List Fm)(x:Fm)(k:Nat):(bA k a++[x]).map Fm.has=a.map Fm.has++[x.has]:=by
 rw[List.map_append,OD];rfl
def Qa(t:Ty)(τ:Nat->Tm):t.ini=t.ini.sub τ:=(Gj (IR t 0) τ).symm
def CC{ls:List Fm}{tl:List Tm}(J:∀(i:Nat)(t:Tm),tl[i]? =some t->t.sc 0):∀(j L:Jt)(n B:Nat)(E o:List Fm)(σ τ:Nat->Tm)(s g:Sc),j.OK ls n E->L.OK ls B o->o.map Fm.er=E.map Fm.er->PX σ j.p L.p->ScOK n (E.map Fm.has) s->ScOK B (E.map Fm.has) g->SX σ τ j.us s g->j.f.has=true->L.xt tl g=(j.xt tl s).sub τ
 |.leaf u i f,L,n,B,E,o,σ,τ,s,g,h,P,e,r,S,C,R,p=>by
  cases L with
  |leaf u' i' f'=>
   have r:Pf.leaf u' i'=.leaf u i:=r;cases r;cases u
   ·refine R.k i ?_;rw[S.kl,List.length_map];exact h.2.1
   show(match tl[i]? with|some t=>t|none=>.n0 .unit)=Tm.sub τ (match tl[i]? with|some t=>t|none=>.n0 .unit)
   cases M:tl[i]? with|none=>rfl|some t=>grind[Gj]
  |_=>cases r
 |.refl t,L,n,B,E,o,σ,τ,s,g,h,P,e,r,S,C,R,p=>by cases p
 |.p1 k a f,L,n,B,E,o,σ,τ,s,g,⟨g0,H,g2⟩,P,e,⟨a',r,I⟩,S,C,R,p=>by
  cases L with
  |p1 k' b f'=>
   obtain⟨-,A,Q⟩:=P;cases r;replace p:f.has=true:=p;have q:=mG ls a b n B E o σ H A e I;have Ra:SX σ τ a.us s g:=R.mono λv D=>⟨p,D⟩
   cases k
   ·obtain⟨y,M⟩:=g2;have F:a.f.has=true:=by rw[M];show(f.has||y.has)=true;rw[p];rfl
    have V:=CC J a b n B E o σ τ s g H A e I S C Ra F;show(bif b.f.both then Tm.n1 .fst (b.xt tl g)else b.xt tl g)=(bif a.f.both then Tm.n1 .fst (a.xt tl s)else a.xt tl s).sub τ;rw[Ij q,V];cases a.f.both<;>rfl
   ·obtain⟨y,M⟩:=g2;have F:a.f.has=true:=by rw[M];show(y.has||f.has)=true;rw[p];cases y.has<;>rfl
    have V:=CC J a b n B E o σ τ s g H A e I S C Ra F;show(bif b.f.both then Tm.n1 .snd (b.xt tl g)else b.xt tl g)=(bif a.f.both then Tm.n1 .snd (a.xt tl s)else a.xt tl s).sub τ;rw[Ij q,V];cases a.f.both<;>rfl
   obtain⟨u,w,x,M,_⟩:=g2;have F:a.f.has=true:=by rw[M];rfl
   have V:=CC J a b n B E o σ τ s g H A e I S C Ra F;show FI b.f (b.xt tl g)=(FI a.f (a.xt tl s)).sub τ;rw[V,uz q]
  |_=>cases r
 |.p2 k a b f,L,n,B,E,o,σ,τ,s,g,⟨g0,H,g2⟩,P,e,⟨a',b',r,I,rb⟩,S,C,R,p=>by
  cases L with
  |p2 k' c d f'=>
   obtain⟨-,A,Q⟩:=P;cases r;replace p:f.has=true:=p;have q:=mG ls a c n B E o σ H A e I;have Ra:SX σ τ a.us s g:=R.mono λv D=>⟨p,.inl D⟩
   cases k
   ·obtain⟨X,M⟩:=g2;obtain⟨G,e2⟩:=Q;have Rb:SX σ τ b.us s g:=R.mono λv D=>⟨p,.inr D⟩
    have q2:=mG ls b d n B E o σ X G e rb;show(bif c.f.has then(bif d.f.has then Tm.n2 .pair (c.xt tl g) (d.xt tl g)else c.xt tl g)else d.xt tl g)=(bif a.f.has then(bif b.f.has then Tm.n2 .pair (a.xt tl s) (b.xt tl s)else a.xt tl s)else b.xt tl s).sub τ;rw[SA q,SA q2];have hor:(a.f.has||b.f.has)=true:=by rw[M]at p;exact p
    have N:=λF=>CC J a c n B E o σ τ s g H A e I S C Ra F
    have K:=λhb=>CC J b d n B E o σ τ s g X G e rb S C Rb hb
    cases F:a.f.has<;>cases hb:b.f.has
    ·rw[F,hb]at hor;cases hor
    ·simp_all
    ·simp_all
    show Tm.n2 .pair _ _=_;rw[N F,K hb];rfl
   ·obtain⟨X,x,M⟩:=g2;obtain⟨G,x',e2⟩:=Q;have Rb:SX σ τ b.us s g:=R.mono λv D=>⟨p,.inr D⟩
    have q2:=mG ls b d n B E o σ X G e rb;have F:a.f.has=true:=by rw[M];exact p
    have N:=CC J a c n B E o σ τ s g H A e I S C Ra F;show(bif d.f.has then Tm.n2 .app (c.xt tl g) (d.xt tl g)else c.xt tl g)=(bif b.f.has then Tm.n2 .app (a.xt tl s) (b.xt tl s)else a.xt tl s).sub τ;rw[SA q2,N];cases hb:b.f.has
    ·rfl
    show Tm.n2 .app _ _=_;rw[CC J b d n B E o σ τ s g X G e rb S C Rb hb];rfl
   ·obtain⟨X,⟨u,M⟩,e3⟩:=g2;obtain⟨G,⟨u',e2⟩,e4⟩:=Q;have O:b.f.has=true:=by rw[<-SA (pF e3)];exact p
    have Y:∀v,b.us (v+1)->Jt.us (.p2 .exE a b f) v:=λv D=>⟨p,.inr D⟩
    have F:a.f.has=true:=by rw[M];rfl
    have N:=CC J a c n B E o σ τ s g H A e I S C Ra F;have Z:=HV q;show(bif c.f.bd.has then Tm.n2 .app (.lam (.two false c.f.qs c.f.bd.cty) (d.xt tl ((g.bind.var (.n1 .fst (.v 0))).hyp (.n1 .snd (.v 0))))) (c.xt tl g)else Tm.n2 .app (.lam c.f.qs (d.xt tl (g.bind.var (.v 0)).bare)) (c.xt tl g))=(bif a.f.bd.has then Tm.n2 .app (.lam (.two false a.f.qs a.f.bd.cty) (b.xt tl ((s.bind.var (.n1 .fst (.v 0))).hyp (.n1 .snd (.v 0))))) (a.xt tl s)else Tm.n2 .app (.lam a.f.qs (b.xt tl (s.bind.var (.v 0)).bare)) (a.xt tl s)).sub τ;rw[Hj q,SA Z,BC Z,N];have RB:=R.bind S C;have z:∀{m:Nat},TK (m+1) (.v 0):=yC;cases U:a.f.bd.has
    ·have K:=CC J b d (n+1) (B+1) _ _ (cA σ) (cA τ) _ _ X G (DL 1 e Z) rb (by rw[JB,U];exact(S.bind.var (t:=.v 0) z).bare) (by rw[JB,U];exact(C.bind.var (t:=.v 0) z).bare) (RB.var (t:=.v 0) (t':=.v 0) rfl Y).bare O;show Tm.n2 .app (.lam _ _) _=_;rw[K];rfl
    have K:=CC J b d (n+1) (B+1) _ _ (cA σ) (cA τ) _ _ X G (DL 1 e Z) rb (by rw[JB,U];exact(S.bind.var (t:=.n1 .fst (.v 0)) (MJ z (by simp[Tm.cnt]))).hyp (t:=.n1 .snd (.v 0)) (MJ z (by simp[Tm.cnt])) true) (by rw[JB,U];exact(C.bind.var (t:=.n1 .fst (.v 0)) (MJ z (by simp[Tm.cnt]))).hyp (t:=.n1 .snd (.v 0)) (MJ z (by simp[Tm.cnt])) true) ((RB.var (t:=.n1 .fst (.v 0)) (t':=.n1 .fst (.v 0)) rfl Y).hyp (t:=.n1 .snd (.v 0)) (t':=.n1 .snd (.v 0)) rfl) O;show Tm.n2 .app (.lam _ _) _=_;rw[K];rfl
   obtain⟨X,⟨u,M⟩,e3⟩:=g2;obtain⟨G,⟨u',e2⟩,e4⟩:=Q;have O:b.f.has=true:=by rw[<-SA (pF e3)];exact p
   have Y:∀v,b.us (v+1)->Jt.us (.p2 .exUE a b f) v:=λv D=>⟨p,.inr D⟩
   have Z:=HV q;have W:a.f.qs.size<=64:=by
    have:=(Jt.FKj H);rw[M]at this⊢;exact kD (EA this.shp).1
   show(bif c.f.bd.has then Tm.n2 .app (.lam c.f.bd.cty (d.xt tl ((g.bind.var c.f.qs.ini).hyp (.v 0)))) (c.xt tl g)else d.xt tl (g.var c.f.qs.ini).bare)=(bif a.f.bd.has then Tm.n2 .app (.lam a.f.bd.cty (b.xt tl ((s.bind.var a.f.qs.ini).hyp (.v 0)))) (a.xt tl s)else b.xt tl (s.var a.f.qs.ini).bare).sub τ;rw[Hj q,SA Z,BC Z];have z:∀{m:Nat},TK (m+1) (.v 0):=yC;cases U:a.f.bd.has
   ·exact CC J b d (n+1) (B+1) _ _ (cA σ) τ _ _ X G (DL 1 e Z) rb (by rw[JB,U];exact(S.var (t:=a.f.qs.ini) (qF _ W _)).bare) (by rw[JB,U];exact(C.var (t:=a.f.qs.ini) (qF _ W _)).bare) (R.var (Qa _ _) Y).bare O
   have F:a.f.has=true:=by rw[M]at U⊢;exact U
   have N:=CC J a c n B E o σ τ s g H A e I S C Ra F;have K:=CC J b d (n+1) (B+1) _ _ (cA σ) (cA τ) _ _ X G (DL 1 e Z) rb (by rw[JB,U];exact(S.bind.var (t:=a.f.qs.ini) (qF _ W _)).hyp (t:=.v 0) z true) (by rw[JB,U];exact(C.bind.var (t:=a.f.qs.ini) (qF _ W _)).hyp (t:=.v 0) z true) (((R.bind S C).var (Qa _ _) Y).hyp (t:=.v 0) (t':=.v 0) rfl) O;show Tm.n2 .app (.lam _ _) _=_;rw[K,N];rfl
  |_=>cases r
 |.impI x a,L,n,B,E,o,σ,τ,s,g,⟨_,_,H⟩,P,e,⟨x',a',r,rx,I⟩,S,C,R,p=>by
  cases L with
  |impI x2 b=>
   obtain⟨-,-,A⟩:=P;cases r;have F:a.f.has=true:=p;have Ra:SX σ τ a.us s g:=R.mono λv D=>⟨p,D⟩
   have ee:(o++[x']).map Fm.er=(E++[x]).map Fm.er:=by rw[List.map_append,List.map_append,e];simp only[List.map_cons,List.map_nil,rx]
   have ex:(E++[x]).map Fm.has=E.map Fm.has++[x.has]:=by rw[List.map_append];rfl
   have z:∀{m:Nat},TK (m+1) (.v 0):=yC;show(bif x'.has then Tm.lam x'.cty (b.xt tl (g.bind.hyp (.v 0)))else b.xt tl g.bare)=(bif x.has then Tm.lam x.cty (a.xt tl (s.bind.hyp (.v 0)))else a.xt tl s.bare).sub τ;rw[SA rx,BC rx];cases U:x.has
   ·exact CC J a b n B _ _ σ τ _ _ H A ee I (by rw[ex,U];exact S.bare) (by rw[ex,U];exact C.bare) Ra.bare F
   have V:=CC J a b n B _ _ σ (cA τ) _ _ H A ee I (by rw[ex,U];exact S.bind.hyp (t:=.v 0) z true) (by rw[ex,U];exact C.bind.hyp (t:=.v 0) z true) ((Ra.bind S C).hyp (t:=.v 0) (t':=.v 0) rfl) F;show Tm.lam _ _=_;rw[V];rfl
  |_=>cases r
 |.all u w a,L,n,B,E,o,σ,τ,s,g,⟨g0,_,H⟩,P,e,⟨a',r,I⟩,S,C,R,p=>by
  cases L with
  |all u' w' b=>
   obtain⟨-,-,A⟩:=P;cases r;have ee:(bA 1 o).map Fm.er=(bA 1 E).map Fm.er:=by rw[pI,pI,e]
   cases u
   ·have F:a.f.has=true:=p;have Y:∀v,a.us (v+1)->Jt.us (.all false w a) v:=λv D=>⟨p,D⟩
    have z:∀{m:Nat},TK (m+1) (.v 0):=yC;have V:=CC J a b (n+1) (B+1) _ _ (cA σ) (cA τ) _ _ H A ee I (by rw[OD];exact S.bind.var (t:=.v 0) z) (by rw[OD];exact C.bind.var (t:=.v 0) z) ((R.bind S C).var (t:=.v 0) (t':=.v 0) rfl Y) F;show Tm.lam _ (b.xt tl (g.bind.var (.v 0)))=(Tm.lam _ (a.xt tl (s.bind.var (.v 0)))).sub τ;rw[V];rfl
   have F:a.f.has=true:=p;have Y:∀v,a.us (v+1)->Jt.us (.all true w a) v:=λv D=>⟨p,D⟩
   exact CC J a b (n+1) (B+1) _ _ (cA σ) τ _ _ H A ee I (by rw[OD];exact S.var (t:=w.ini) (qF _ g0 _)) (by rw[OD];exact C.var (t:=w.ini) (qF _ g0 _)) (R.var (Qa _ _) Y) F
  |_=>cases r
 |.ins u t a f,L,n,B,E,o,σ,τ,s,g,⟨_,g0,H,w,x,M,e3⟩,P,e,⟨t',a',r,rt,I⟩,S,C,R,p=>by
  cases L with
  |ins u' t2 b f'=>
   obtain⟨-,-,A,-⟩:=P;cases r;replace p:f.has=true:=p;have T:x.has=true:=by rw[<-SA (iC e3)];exact p
   have F:a.f.has=true:=by rw[M];cases u<;>exact T
   have V:=CC J a b n B E o σ τ s g H A e I S C (R.mono λv D=>⟨p,.inl D⟩) F;cases u
   ·show Tm.n2 .app (b.xt tl g) (t'.ps g.vs g.dep 0)=(Tm.n2 .app (a.xt tl s) (t.ps s.vs s.dep 0)).sub τ;rw[V,rt rfl,R.tm S.vl g0.sc λv D=>⟨p,.inr ⟨rfl,D⟩⟩];rfl
   exact V
  |_=>cases r
 |.ex u x t a,L,n,B,E,o,σ,τ,s,g,⟨_,g0,H,⟨w,M⟩,e3⟩,P,e,⟨x',t',a',r,rx,rt,I⟩,S,C,R,p=>by
  cases L with
  |ex u' x2 t2 b=>
   obtain⟨-,-,A,-⟩:=P;cases r;replace p:x.has=true:=p;have q:=mG ls a b n B E o σ H A e I;have V:=λF=>CC J a b n B E o σ τ s g H A e I S C (R.mono λv D=>⟨p,.inl D⟩) F
   cases u
   ·have it:=R.tm (t:=t) S.vl g0.sc λv D=>⟨p,.inr ⟨rfl,D⟩⟩
    show(bif b.f.has then Tm.n2 .pair (t'.ps g.vs g.dep 0) (b.xt tl g)else t'.ps g.vs g.dep 0)=(bif a.f.has then Tm.n2 .pair (t.ps s.vs s.dep 0) (a.xt tl s)else t.ps s.vs s.dep 0).sub τ;rw[SA q,rt rfl,it];cases F:a.f.has
    ·rfl
    show Tm.n2 .pair _ _=_;rw[V F];rfl
   refine V ?_;rw[SA e3];rw[M]at p;exact p
  |_=>cases r
 |.ind l x t a b f,L,n,B,E,o,σ,τ,s,g,⟨_,_,g0,H,M,⟨ea,Z⟩,g2⟩,P,e,⟨x',t',a',b',r,rx,rt,I,rb⟩,S,C,R,p=>by
  cases L with
  |ind l' x2 t2 c d f'=>
   obtain⟨-,-,-,A,-,-,Q⟩:=P;cases r;replace p:f.has=true:=p;have T:x.has=true:=by rw[<-SA (iC M)];exact p
   have F:a.f.has=true:=by rw[SA ea];exact T
   have O:b.f.has=true:=by rw[SA Z];exact T
   have N:=CC J a c n B E o σ τ s g H A e I S C (R.mono λv D=>⟨p,.inr (.inl D)⟩) F;have it:=R.tm (t:=t) S.vl g0.sc λv D=>⟨p,.inl D⟩
   have z:∀{m:Nat},TK (m+1) (.v 0):=yC;cases l
   ·have Y:∀v,b.us (v+1)->Jt.us (.ind false x t a b f) v:=λv D=>⟨p,.inr (.inr D)⟩
    have S1:=(S.bind.var (t:=.v 0) z).bind.hyp (t:=.v 0) z true;have S1':=(C.bind.var (t:=.v 0) z).bind.hyp (t:=.v 0) z true;have R1:=(((R.bind S C).var (t:=.v 0) (t':=.v 0) (W:=b.us) rfl Y).bind (S.bind.var (t:=.v 0) z) (C.bind.var (t:=.v 0) z)).hyp (t:=.v 0) (t':=.v 0) rfl;have K:=CC J b d (n+1) (B+1) _ _ (cA σ) (cA (cA τ)) _ _ g2 Q (DL 1 e rx) rb (by rw[JB,T];exact S1) (by rw[JB,T];exact S1') R1 O;show Tm.n3 .re x'.cty (c.xt tl g) (.lam .nat (.lam x'.cty (d.xt tl ((g.bind.var (.v 0)).bind.hyp (.v 0))))) (t'.ps g.vs g.dep 0)=(Tm.n3 .re x.cty (a.xt tl s) (.lam .nat (.lam x.cty (b.xt tl ((s.bind.var (.v 0)).bind.hyp (.v 0))))) (t.ps s.vs s.dep 0)).sub τ;rw[BC rx,N,K,rt,it];rfl
   have Y:∀v,b.us (v+1+1)->Jt.us (.ind true x t a b f) v:=λv D=>⟨p,.inr (.inr D)⟩
   have A1:=S.bind.var (t:=.v 0) z;have A1':=C.bind.var (t:=.v 0) z;have A2:=A1.bind.var (t:=.v 0) z;have A2':=A1'.bind.var (t:=.v 0) z;have S1:=A2.bind.hyp (t:=.v 0) z true;have S1':=A2'.bind.hyp (t:=.v 0) z true;have R0:=(((R.bind S C).var (t:=.v 0) (t':=.v 0) (W:=λv=>b.us (v+1)) rfl Y).bind A1 A1').var (t:=.v 0) (t':=.v 0) (W:=b.us) rfl λv D=>D
   have R1:=(R0.bind A2 A2').hyp (t:=.v 0) (t':=.v 0) rfl;have K:=CC J b d (n+2) (B+2) _ _ (cA (cA σ)) (cA (cA (cA τ))) _ _ g2 Q (DL 2 e (by rw[JD,JD,rx])) rb (by rw[JB,SA (JD _ x 1),T];exact S1) (by rw[JB,SA (JD _ x 1),T];exact S1') R1 O;show Tm.n3 .fo x'.cty (c.xt tl g) (.lam .nat (.lam .list (.lam x'.cty (d.xt tl (((g.bind.var (.v 0)).bind.var (.v 0)).bind.hyp (.v 0)))))) (t'.ps g.vs g.dep 0)=(Tm.n3 .fo x.cty (a.xt tl s) (.lam .nat (.lam .list (.lam x.cty (b.xt tl (((s.bind.var (.v 0)).bind.var (.v 0)).bind.hyp (.v 0)))))) (t.ps s.vs s.dep 0)).sub τ;rw[BC rx,N,K,rt,it];rfl
  |_=>cases r
 |.subst x a b f,L,n,B,E,o,σ,τ,s,g,⟨_,_,_,X,Z,t,u,M,e2⟩,P,e,⟨x',a',b',r,rx,I,rb⟩,S,C,R,p=>by
  cases L with
  |subst x2 c d f'=>
   obtain⟨-,-,-,G,-⟩:=P;cases r;have O:b.f.has=true:=by rw[SA Z,<-SA (iC e2)];exact p
   exact CC J b d n B E o σ τ s g X G e rb S C (R.mono λv D=>⟨p,D⟩) O
  |_=>cases r
open Go.Lg
def nG(d:Nat):Nat->Nat->List (Tm×Nat)|_,0=>[]|i,n+1=>(.v (d-1-i),d)::nG d (i+1) n
abbrev EL:List PV:=[.int 0,.int 0,.nils,.nils]
abbrev Jj(c a i v:Nat)(A:List (List PV)):IS:=st [(4,.loc 0 0),(5,.loc 1 0),(11,.pv (num a)),(12,.pv (num i))] [(0,bx EL),(1,.box [.pv (num c),.pv (num 0),.arr 2 v A.length,.pv .nils]),(2,.arr v 6 175 (kA A))] 3 []
abbrev Kj:Kp:=⟨[4,5,11,12],[0,1,2],3,[]⟩
def Lj(c a:Nat)(g:c<=qA)(j:a<=c):∀(r i v:Nat)(A:List (List PV)),i+r=a->A.length=i->
  ∃b,Lp 150 0 0 (Jj c a i v A) (.exit 0) (st [(4,.loc 0 0),(5,.loc 1 0)] [(0,bx EL),(1,.box [.pv (num c),.pv (num 0),.arr 2 b (A.length+r),.pv .nils]),(2,.arr b 6 175 (kA (A++(nG c i r).map ec)))] 3 [])
 |0,i,v,A,h,f=>by
  have e:fA (.ofNat i) (.ofNat a)=false:=HA (by omega);simp only[nG,List.map_nil,List.append_nil,Nat.add_zero];exact⟨v,y1 [13] ⟨[4,5],[0,1,2],3,[]⟩ e (sD A)⟩
 |r+1,i,v,A,h,f=>by
  have:=vA;have:=uA;have e:fA (.ofNat i) (.ofNat a)=true:=NA (by omega);have k:=rD (a:=c);have l:xA (Int.ofNat (c-1)-.ofNat i)=true/\Int.ofNat (c-1)-.ofNat i=.ofNat (c-1-i):=by
   have e:Int.ofNat (c-1)-.ofNat i=.ofNat (c-1-i):=by simp;omega
   exact⟨by rw[e];exact AA (by omega),e⟩
  have m:=mP (A:=A) (v:=v) (ty:=175) (m:=80) (c:=ec (.v (c-1-i),c)) (show 0<6 by decide) rfl rfl (by simp only[maxLen];omega) (by omega);have n:=nA (a:=i) (b:=1);obtain⟨b,d⟩:=Lj c a g j r (i+1) (v+1) (A++[ec (.v (c-1-i),c)]) (by omega) (by simp[f]);dsimp only[Jj]at d;rw[ZK,show(A++[ec (.v (c-1-i),c)]).length=A.length+1 by simp,show A.length+1+r=A.length+(r+1) by omega,List.append_assoc]at d;exact⟨b,n8 [13,19,21,22,(27,.ok),29] Kj e k l (TA (c-1-i)) m n (xH A (ec (.v (c-1-i),c))) d⟩
abbrev yB(a b:Nat):Sc:=⟨a+b,0,nG (a+b) 0 a,[]⟩
def LV(d:Nat):∀(n i:Nat),(nG d i n).length=n|0,_=>rfl|n+1,i=>by simp[nG,LV]
def bz(a b:Nat)(h:a+b<=qA):A 150 [num a,num b] (yB a b).p:=by
 have:=vA;have:=uA;have g:=nA (a:=a) (b:=b)
 cases a with
 |zero=>
  have d:Lp 150 0 0 (st [(4,.loc 0 0),(5,.loc 1 0),(11,.pv (num 0)),(12,.pv (num 0))] [(0,bx EL),(1,bx [num (0+b),num 0,.nils,.nils])] 2 []) (.exit 0) (st [(4,.loc 0 0),(5,.loc 1 0)] [(0,bx EL),(1,bx [num (0+b),num 0,.nils,.nils])] 2 []):=
   x0 [] ⟨[4,5],[0,1],2,[]⟩
  exact f2 [9,(100003,.l ⟨[4,5,11,12],[0,1],2,[]⟩ (.exit 0) (st [(4,.loc 0 0),(5,.loc 1 0)] [(0,bx EL),(1,bx [num (0+b),num 0,.nils,.nils])] 2 []))] g d
 |succ a=>
  generalize o:a+1+b=c at *
  obtain⟨v,d⟩:=Lj c (a+1) (by omega) (by omega) a 1 1 [ec (.v (c-1-0),c)] (by omega) rfl;have f:=LoopIs.fz (by simp) d 2 (ver:=v) (sz:=6) (ty:=175) (ps:=(nG c 0 (a+1)).map ec) rfl (by kernel_rfl);have i:(([ec (.v (c-1-0),c)]:List (List PV)).length+a)=a+1:=by simp;omega
  rw[i]at f;simp (decide:=true) only[XF,OE,RC,UD,JE,List.map,yE,and_self,↓reduceIte,List.take_of_length_le (show((nG c 0 (a+1)).map ec).length<=a+1 by simp[LV])]at f;have e:fA (.ofNat 0) (.ofNat (a+1))=true:=NA (by omega);have j:=rD (a:=c);have k:xA (Int.ofNat (c-1)-.ofNat 0)=true/\Int.ofNat (c-1)-.ofNat 0=.ofNat (c-1-0):=by
   grind
  have l:Lp 150 0 0 (st [(4,.loc 0 0),(5,.loc 1 0),(11,.pv (num (a+1))),(12,.pv (num 0))] [(0,bx EL),(1,bx [num c,num 0,.nils,.nils])] 2 []) (.exit 0) (st [(4,.loc 0 0),(5,.loc 1 0)] [(0,bx EL),(1,bx [num c,num 0,.slice ((nG c 0 (a+1)).map ec),.nils])] 3 []):=
   n6 [13,19,21,22] Kj e j k (TA (c-1-0)) (xH [] (ec (.v (c-1-0),c))) f
  exact f2 [9,(100003,.l ⟨[4,5,11,12],[0,1],2,[]⟩ (.exit 0) (st [(4,.loc 0 0),(5,.loc 1 0)] [(0,bx EL),(1,bx [num c,num 0,.slice ((nG c 0 (a+1)).map ec),.nils])] 3 []))] g l
def Sa(g:List Ty)(a:g.length<=16):A 85 [qB g []] (yB g.length 0).p:=by
 have:=vA;have a:=bz (g.map Ty.c).length 0 (by simp;omega);rw[show yB (g.map Ty.c).length 0=yB g.length 0 by simp]at a;exact f1 [36] a
def Mj(d:Nat):∀(n i k:Nat),k<n->(nG d i n)[k]? =some (.v (d-1-(i+k)),d)
 |0,_,_,h=>absurd h (Nat.not_lt_zero _)|n+1,i,0,_=>rfl|n+1,i,k+1,h=>by
  have:=Mj d n (i+1) k (by omega)
  grind[nG]
def Nj(d:Nat):∀(n i:Nat)(e:Tm×Nat),e∈nG d i n->∃k,e=(.v (d-1-k),d)
 |0,_,_,h=>by cases h
 |n+1,i,e,h=>by
  rcases List.mem_cons.1 h with rfl|h
  ·grind
  exact Nj d n (i+1) e h
def MV(a b:Nat):ScOK a [] (yB a b):=by
 refine⟨LV _ _ _,rfl,λe c=>?_,(λh d=>by cases d),λi f=>by simp at f⟩
 cases a with
 |zero=>cases c
 |succ a=>
  obtain⟨k,rfl⟩:=Nj _ _ _ _ c;exact⟨Nat.le_refl _,yC⟩
def Ta:A 38 [dA [],row []] (num 0):=by
 have e:(!fB (.ofNat (([]:List Fm).map Fm.c).length) (.ofNat (([]:List Tm).map Tm.c).length))=false:=rfl;exact f1 [14] e
def Oj(g:List Ty)(b:g.length<=16)(a:∀s∈g,s.size<=64)(j:Jt)(c:j.D [] g [])(d:j.p.ck)(i:j.p.cnt<=16384):A 84 [dA [],qB g [],j.p.p] (.tuple [j.ptr [],num 0])/\j.OK [] g.length []:=by
 have:=vA;obtain⟨n,L,k⟩:=Ax g b a j c d i;have e:=(BE (ls:=[]) (λf h=>nomatch h) j g [] c a b (λf h=>nomatch h) d).1;have l:=CE (ls:=[]) j g.length [] (λf h=>nomatch h) (by simp;omega) (by omega) e;exact⟨f2 [14,24] k l,e⟩
def dz{tl:List Tm}{a:List Fm}{j:Jt}{s:Sc}{r:XR}(h:A 233 [eA tl,j.ptr a,s.p] r.p):A 163 [row tl,j.ptr a,s.p] r.p:=f1 [12] h
open Go.Lg
def FL:∀(t:Tm)(ρ:Nat->Nat),(t.ren ρ).cnt=t.cnt|.v _,_=>rfl|.lam s b,ρ=>by simp[Tm.ren,Tm.cnt,FL]|.n0 _,_=>rfl|.n1 _ a,ρ=>by simp[Tm.ren,Tm.cnt,FL]|.n2 _ a b,ρ=>by simp[Tm.ren,Tm.cnt,FL]|.n3 _ _ a b d,ρ=>by simp[Tm.ren,Tm.cnt,FL]
theorem GL:∀(t:Tm)(ρ:Nat->Nat)(c e:Nat),(∀j,ρ j=c↔j=e)->(t.ren ρ).occ c=t.occ e
 |.v i,ρ,c,e,h=>by
  grind[Tm.ren,Tm.occ]
 |.lam s b,ρ,c,e,h=>GL b (cD ρ) (c+1) (e+1) λj=>by
  cases j with|zero=>simp[cD]|succ j=>grind[cD]
 |.n0 _,_,_,_,_=>rfl|.n1 _ a,ρ,c,e,h=>GL a ρ c e h|.n2 _ a b,ρ,c,e,h=>by simp only[Tm.ren,Tm.occ,GL a ρ c e h,GL b ρ c e h]|.n3 _ _ a b d,ρ,c,e,h=>by simp only[Tm.ren,Tm.occ,GL a ρ c e h,GL b ρ c e h,GL d ρ c e h]
theorem HL:∀(t:Tm)(ρ:Nat->Nat)(c:Nat),(t.ren ρ).occ c≠0->∃j,t.occ j≠0/\ρ j=c
 |.v i,ρ,c,h=>by
  grind[Tm.occ,Tm.ren]
 |.lam s b,ρ,c,h=>by
  obtain⟨j,g,f⟩:=HL b (cD ρ) (c+1) h
  cases j with|zero=>simp only[cD]at f;omega|succ j=>exact⟨j,g,by simp only[cD]at f;omega⟩
 |.n0 _,_,_,h=>absurd rfl h|.n1 _ a,ρ,c,h=>HL a ρ c h|.n2 _ a b,ρ,c,h=>by
  simp only[Tm.ren,Tm.occ]at h;by_cases e:(a.ren ρ).occ c=0
  ·obtain⟨j,g,f⟩:=HL b ρ c (by omega);exact⟨j,by simp only[Tm.occ];omega,f⟩
  obtain⟨j,g,f⟩:=HL a ρ c e;exact⟨j,by simp only[Tm.occ];omega,f⟩
 |.n3 _ _ a b d,ρ,c,h=>by
  simp only[Tm.ren,Tm.occ]at h;by_cases e:(a.ren ρ).occ c=0
  ·by_cases k:(b.ren ρ).occ c=0
   ·obtain⟨j,g,f⟩:=HL d ρ c (by omega);exact⟨j,by simp only[Tm.occ];omega,f⟩
   obtain⟨j,g,f⟩:=HL b ρ c k;exact⟨j,by simp only[Tm.occ];omega,f⟩
  obtain⟨j,g,f⟩:=HL a ρ c e;exact⟨j,by simp only[Tm.occ];omega,f⟩
def Pj(ρ:Nat->Nat):cA (λi=>.v (ρ i))=λi=>.v (cD ρ i):=by
 funext i
 cases i with|zero=>rfl|succ i=>rfl
def EF:∀(t:Tm)(ρ:Nat->Nat),t.ren ρ=t.sub λi=>.v (ρ i)|.v _,_=>rfl|.lam s b,ρ=>by simp[Tm.ren,Tm.sub,Pj,EF]|.n0 _,_=>rfl|.n1 _ a,ρ=>by simp[Tm.ren,Tm.sub,EF]|.n2 _ a b,ρ=>by simp[Tm.ren,Tm.sub,EF]|.n3 _ _ a b d,ρ=>by simp[Tm.ren,Tm.sub,EF]
theorem oD(s:Tm):(Tm.v 0).put 0 s 0=s:=by
 exact gE s 0
theorem QR(s:Tm)(i:Nat):(Tm.v (i+1)).put 0 s 0=.v i:=by
 simp[Tm.put]
def Qj(t s:Tm)(ρ:Nat->Nat):(t.put 0 s 0).ren ρ=(t.ren (cD ρ)).put 0 (s.ren ρ) 0:=by
 rw[NC,gG,NC 0 (s.ren ρ),zE];congr 1;funext i
 cases i with|zero=>rw[oD];exact(oD _).symm|succ i=>rfl
def Ua(t:Tm)(ρ:Nat->Nat):(t.ren ρ).red=t.red.map (Tm.ren ρ):=by
 cases t with
 |v i=>rfl|lam s b=>rfl|n0 k=>rfl|n1 k a=>cases k with
  |succ=>rfl|fst=>cases a with
   |n2 l x y=>cases l<;>rfl
   |_=>rfl
  |snd=>cases a with
   |n2 l x y=>cases l<;>rfl
   |_=>rfl
 |n2 k a b=>cases k with
  |app=>cases a with
   |lam s x=>
    show some _=some _;rw[Qj]
   |_=>rfl
  |_=>rfl
 |n3 k s a b d=>cases k with
  |re=>cases d with
   |n0 l=>cases l<;>rfl
   |n1 l x=>cases l<;>rfl
   |_=>rfl
  |fo=>cases d with
   |n0 l=>cases l<;>rfl
   |n2 l x y=>cases l<;>rfl
   |_=>rfl
def SR.ren(ρ:Nat->Nat):SR->SR|.no=>.no|.er=>.er|.ok x=>.ok (x.ren ρ)
def EN(ρ τ:Nat->Nat)(f a:Tm->Tm)(h:∀x,a (x.ren τ)=(f x).ren ρ)(r q:SR):SR.or a (r.ren ρ) (q.ren τ)=(SR.or f r q).ren ρ:=by
 cases q with|no=>rfl|er=>rfl|ok x=>show SR.ok _=SR.ok _;rw[h]
def Va(z:Int)(t r:Tm)(ρ:Nat->Nat):rt z (t.ren ρ) (r.ren ρ)=(rt z t r).ren ρ:=by
 unfold rt;rw[FL,FL];cases fA z ((r.cnt:Int)-t.cnt)<;>rfl
def QJ(z:Int):∀(t:Tm)(ρ:Nat->Nat),(t.ren ρ).st z=(t.st z).ren ρ
 |.v _,_=>rfl|.n0 _,_=>rfl|.lam s b,ρ=>by
  show SR.or (.lam s) .no ((b.ren (cD ρ)).st z)=_;rw[QJ z b];exact EN ρ (cD ρ) (.lam s) (.lam s) (λx=>rfl) .no (b.st z)
 |.n1 k a,ρ=>by
  have h:=Ua (.n1 k a) ρ
  cases e:(Tm.n1 k a).red with
  |some r=>
   rw[e]at h;rw[UC e,UC h,Va]
  |none=>
   rw[e]at h;have h:(Tm.n1 k (a.ren ρ)).red=none:=h;show(Tm.n1 k (a.ren ρ)).st z=_;simp only[Tm.st,e,h];rw[QJ z a];exact EN ρ ρ (.n1 k) (.n1 k) (λx=>rfl) .no (a.st z)
 |.n2 k a b,ρ=>by
  have h:=Ua (.n2 k a b) ρ
  cases e:(Tm.n2 k a b).red with
  |some r=>
   rw[e]at h;rw[UC e,UC h,Va]
  |none=>
   rw[e]at h;have h:(Tm.n2 k (a.ren ρ) (b.ren ρ)).red=none:=h;show(Tm.n2 k (a.ren ρ) (b.ren ρ)).st z=_;simp only[Tm.st,e,h];rw[QJ z a,QJ z b,show SR.or (.n2 k (a.ren ρ)) .no ((b.st z).ren ρ)=(SR.or (.n2 k a) .no (b.st z)).ren ρ from EN ρ ρ (.n2 k a) (.n2 k (a.ren ρ)) (λx=>rfl) .no (b.st z)];exact EN ρ ρ (λx=>.n2 k x b) (λx=>.n2 k x (b.ren ρ)) (λx=>rfl) _ (a.st z)
 |.n3 k s a b c,ρ=>by
  have h:=Ua (.n3 k s a b c) ρ
  cases e:(Tm.n3 k s a b c).red with
  |some r=>
   rw[e]at h;rw[UC e,UC h,Va]
  |none=>
   rw[e]at h;have h:(Tm.n3 k s (a.ren ρ) (b.ren ρ) (c.ren ρ)).red=none:=h;show(Tm.n3 k s (a.ren ρ) (b.ren ρ) (c.ren ρ)).st z=_;simp only[Tm.st,e,h];rw[QJ z a,QJ z b,QJ z c,show SR.or (.n3 k s (a.ren ρ) (b.ren ρ)) .no ((c.st z).ren ρ)=(SR.or (.n3 k s a b) .no (c.st z)).ren ρ from EN ρ ρ (.n3 k s a b) (.n3 k s (a.ren ρ) (b.ren ρ)) (λx=>rfl) .no (c.st z),
    show SR.or (λx=>.n3 k s (a.ren ρ) x (c.ren ρ)) ((SR.or (.n3 k s a b) .no (c.st z)).ren ρ) ((b.st z).ren ρ)=(SR.or (λx=>.n3 k s a x c) (SR.or (.n3 k s a b) .no (c.st z)) (b.st z)).ren ρ from EN ρ ρ (λx=>.n3 k s a x c) (λx=>.n3 k s (a.ren ρ) x (c.ren ρ)) (λx=>rfl) _ (b.st z)]
   exact EN ρ ρ (λx=>.n3 k s x b c) (λx=>.n3 k s x (b.ren ρ) (c.ren ρ)) (λx=>rfl) _ (a.st z)
def NF.ren(ρ:Nat->Nat):NF->NF|.ok x n=>.ok (x.ren ρ) n|.er e=>.er e
def Rj(ρ:Nat->Nat):∀(r n:Nat)(t:Tm),mC r n (t.ren ρ)=(mC r n t).ren ρ
 |0,n,t=>by
  unfold mC;rw[QJ,FL];cases t.st (4096-t.cnt)<;>rfl
 |r+1,n,t=>by
  unfold mC;rw[QJ,FL]
  cases t.st (4096-t.cnt)with|no=>rfl|er=>rfl|ok x=>exact Rj ρ r (n+1) x
def Sj(t:Tm)(ρ:Nat->Nat):ID (t.ren ρ)=(ID t).ren ρ:=Rj ρ 1000 0 t
def RNg(g a:List Ty)(ρ:Nat->Nat):Prop:=∀i s,sB g i=.ok s->sB a (ρ i)=.ok s
def pG(g:List Ty)(s:Ty):sB (g++[s]) 0=.ok s:=by
 unfold sB;rw[if_pos (by simp)];simp
def rG(g:List Ty)(s:Ty)(i:Nat):sB (g++[s]) (i+1)=sB g i:=by
 grind[sB]
def RNg.up{g a:List Ty}{ρ:Nat->Nat}(h:RNg g a ρ)(u:Ty):RNg (g++[u]) (a++[u]) (cD ρ):=λi s e=>by
 cases i with|zero=>rw[pG]at e;show sB _ 0=_;rw[pG];exact e|succ i=>rw[rG]at e;show sB _ (ρ i+1)=_;rw[rG];exact h i s e
def HI:∀(t:Tm)(g j:List Ty)(ρ:Nat->Nat)(s:Ty),RNg g j ρ->t.tyR g=.ok s->(t.ren ρ).tyR j=.ok s
 |.v i,g,j,ρ,s,h,e=>h i s e|.lam u b,g,j,ρ,s,h,e=>by
  simp only[Tm.tyR,Tm.ren]at e⊢
  cases d:b.tyR (g++[u])with
  |er n=>rw[d]at e;cases e
  |ok x=>rw[d]at e;rw[HI b _ _ _ x (h.up u) d];exact e
 |.n0 k,_,_,_,_,_,e=>e|.n1 k a,g,j,ρ,s,h,e=>by
  simp only[Tm.tyR,Tm.ren]at e⊢
  cases d:a.tyR g with
  |er n=>rw[d]at e;cases e
  |ok x=>rw[d]at e;rw[HI a _ _ _ x h d];exact e
 |.n2 k a b,g,j,ρ,s,h,e=>by
  simp only[Tm.tyR,Tm.ren]at e⊢
  cases d:a.tyR g with
  |er n=>rw[d]at e;cases e
  |ok x=>cases f:b.tyR g with
   |er n=>rw[d,f]at e;cases e
   |ok y=>rw[d,f]at e;rw[HI a _ _ _ x h d,HI b _ _ _ y h f];exact e
 |.n3 k u a b c,g,j,ρ,s,h,e=>by
  simp only[Tm.tyR,Tm.ren]at e⊢
  cases d:a.tyR g with
  |er n=>rw[d]at e;cases e
  |ok x=>cases f:b.tyR g with
   |er n=>rw[d,f]at e;cases e
   |ok y=>cases l:c.tyR g with
    |er n=>rw[d,f,l]at e;cases e
    |ok w=>rw[d,f,l]at e;rw[HI a _ _ _ x h d,HI b _ _ _ y h f,HI c _ _ _ w h l];exact e
def Fm.ren:(Nat->Nat)->Fm->Fm|ρ,.eq a b=>.eq (a.ren ρ) (b.ren ρ)|ρ,.bin k f g=>.bin k (f.ren ρ) (g.ren ρ)|ρ,.q k s f=>.q k s (f.ren (cD ρ))
def Fm.sub:(Nat->Tm)->Fm->Fm|σ,.eq a b=>.eq (a.sub σ) (b.sub σ)|σ,.bin k f g=>.bin k (f.sub σ) (g.sub σ)|σ,.q k s f=>.q k s (f.sub (cA σ))
def bD(c k i:Nat):Nat:=if c<=i then i+k else i
def lz(σ:Nat->Tm)(ρ:Nat->Nat):(λi=>(cA σ i).ren (cD ρ))=cA λi=>(σ i).ren ρ:=by
 funext i
 cases i with|zero=>rfl|succ i=>simp only[cA,pC,GI];rfl
def UR(c k:Nat):cD (bD c k)=bD (c+1) k:=by
 funext i
 cases i with|zero=>rfl|succ i=>grind[cD,bD]
def mz:∀(f:Fm)(σ:Nat->Tm)(ρ:Nat->Nat),(f.sub σ).ren ρ=f.sub λi=>(σ i).ren ρ
 :=by intro x;induction x<;>simp_all[Fm.ren,Fm.sub,gG,lz]
def IL:∀(f:Fm)(σ τ:Nat->Tm),(∀i,f.occ i≠0->σ i=τ i)->f.sub σ=f.sub τ
 |.eq a b,σ,τ,h=>by
  grind[Fm.sub,lE,Fm.occ]
 |.bin k f g,σ,τ,h=>by
  simp only[Fm.sub];rw[IL f σ τ λi c=>h i (by simp only[Fm.occ];omega),IL g σ τ λi c=>h i (by simp only[Fm.occ];omega)]
 |.q k s f,σ,τ,h=>by
  simp only[Fm.sub];rw[IL f (cA σ) (cA τ) λi c=>by
   cases i with|zero=>rfl|succ i=>simp only[cA];rw[h i c]]
def mE(k:Nat):∀(f:Fm)(c:Nat),f.sh c (.ofNat k)=f.ren (bD c k)
 |.eq a b,c=>by
  simp only[Fm.sh,Fm.ren];rw[eD k a,eD k b];rfl
 |.bin l f g,c=>by simp only[Fm.sh,Fm.ren];rw[mE k f,mE k g]|.q l s f,c=>by simp only[Fm.sh,Fm.ren];rw[mE k f,UR]
def nz(c:Nat)(S:Tm)(d:Nat):cA (λi=>(Tm.v i).put c S d)=λi=>(Tm.v i).put c S (d+1):=by
 funext i;symm
 cases i with
 |zero=>
  rfl
 |succ i=>
  simp only[Tm.put,cA];by_cases e:i=c+d
  ·rw[if_pos (by omega),if_pos e,CP];rfl
  rw[if_neg (by omega),if_neg e];by_cases a:c+d<i
  ·rw[if_pos (by omega),if_pos a];simp only[Tm.sh,Nat.zero_le,if_true]
   grind
  rw[if_neg (by omega),if_neg a];rfl
def dD(c:Nat)(S:Tm):∀(f:Fm)(d:Nat),f.put c S d=f.sub λi=>(Tm.v i).put c S d|.eq a b,d=>by grind[Fm.put,Fm.sub,NC]|.bin l f g,d=>by simp[Fm.put,Fm.sub,dD]|.q l s f,d=>by simp[Fm.put,Fm.sub,dD,nz]
def NV:∀(f g:Fm)(ρ:Nat->Nat),VA f=some g->VA (f.ren ρ)=some (g.ren ρ)
 |.eq a b,g,ρ,h=>by
  simp only[VA,Fm.ren]at h⊢;rw[Sj,Sj]
  cases c:ID a with
  |er n=>rw[c]at h;cases h
  |ok x k=>cases d:ID b with
   |er n=>rw[c,d]at h;cases h
   |ok y l=>rw[c,d]at h;cases h;rfl
 |.bin k a b,g,ρ,h=>by
  simp only[VA,Fm.ren]at h⊢
  cases c:VA a with
  |none=>rw[c]at h;cases h
  |some x=>cases d:VA b with
   |none=>rw[c,d]at h;cases h
   |some y=>rw[c,d]at h;cases h;rw[NV a x ρ c,NV b y ρ d];rfl
 |.q k s a,g,ρ,h=>by
  simp only[VA,Fm.ren]at h⊢
  cases c:VA a with
  |none=>rw[c]at h;cases h
  |some x=>rw[c]at h;cases h;rw[NV a x _ c];rfl
open Go.Lg
def pz{n v:Nat}(h:v<n):(Tm.v v).ps (yB n 0).vs n 0=.v v:=by
 have e:ent (yB n 0).vs v=some (.v v,n):=by
  unfold ent;rw[LV,if_pos h,Mj _ _ _ _ (by omega)]
  grind
 rw[HH e];rw[Nat.sub_self,gE]
def Tj(g:List Ty)(s:Ty):RNg g (g++[s]) (· +1):=λi u e=>by rw[rG];exact e
def tz:cD (λi=>i)=λi=>i:=by
 funext i;cases i<;>rfl
def az(t:Tm):t.ren (λi=>i)=t:=by rw[EF];exact xC t
def cz:∀f:Fm,f.ren (λi=>i)=f
 :=by intro x;induction x<;>simp_all[Fm.ren,az,tz]
open Go.Lg
theorem Par.refl:∀t:Tm,Par t t|.v i=>.v i|.n0 k=>.n0 k|.lam s b=>.lam s (refl b)|.n1 k a=>.n1 k (refl a)|.n2 k a b=>.n2 k (refl a) (refl b)|.n3 k s a b c=>.n3 k s (refl a) (refl b) (refl c)
theorem Par.ren{t u:Tm}(h:Par t u):∀ρ:Nat->Nat,Par (t.ren ρ) (u.ren ρ):=by
 induction h with|v i=>exactλρ=>.v _|n0 k=>exactλρ=>.n0 k|lam s _ c=>exactλρ=>.lam s (c _)|n1 k _ c=>exactλρ=>.n1 k (c ρ)|n2 k _ _ d e=>exactλρ=>.n2 k (d ρ) (e ρ)|n3 k s _ _ _ d e g=>exactλρ=>.n3 k s (d ρ) (e ρ) (g ρ)|fst b _ c=>exactλρ=>.fst _ (c ρ)|snd a _ c=>exactλρ=>.snd _ (c ρ)|beta s _ _ d e=>intro ρ;rw[Qj];exact .beta s (d _) (e ρ)|re0 s f _ c=>exactλρ=>.re0 s _ (c ρ)|reS s _ _ _ d e g=>exactλρ=>.reS s (d ρ) (e ρ) (g ρ)|fo0 s f _ c=>exactλρ=>.fo0 s _ (c ρ)|foC s _ _ _ _ d e g j=>exactλρ=>.foC s (d ρ) (e ρ) (g ρ) (j ρ)
def iz(t s:Tm)(σ:Nat->Tm):(t.put 0 s 0).sub σ=(t.sub (cA σ)).put 0 (s.sub σ) 0:=by
 rw[NC,iD,NC 0 (s.sub σ),iD];congr 1;funext i
 cases i with
 |zero=>rw[oD];exact(oD _).symm|succ i=>
  show σ i=((σ i).sh 0 (.ofNat 1)).sub _;rw[pC,zE];simp[lE,QR,xC]
def Par.up{σ τ:Nat->Tm}(h:∀i,Par (σ i) (τ i)):∀i,Par (cA σ i) (cA τ i)
 |0=>.v 0|i+1=>by
  show Par ((σ i).sh 0 (.ofNat 1)) ((τ i).sh 0 (.ofNat 1));rw[pC,pC];exact(h i).ren _
theorem Par.sub{t u:Tm}(h:Par t u):∀{σ τ:Nat->Tm},(∀i,Par (σ i) (τ i))->Par (t.sub σ) (u.sub τ):=by
 induction h with|v i=>exactλk=>k i|n0 k=>exactλ_=>.n0 k|lam s _ c=>exactλk=>.lam s (c (Par.up k))|n1 k _ c=>exactλh=>.n1 k (c h)|n2 k _ _ d e=>exactλh=>.n2 k (d h) (e h)|n3 k s _ _ _ d e g=>exactλh=>.n3 k s (d h) (e h) (g h)|fst b _ c=>exactλh=>.fst _ (c h)|snd a _ c=>exactλh=>.snd _ (c h)|beta s _ _ d e=>intro σ τ h;rw[iz];exact .beta s (d (Par.up h)) (e h)|re0 s f _ c=>exactλh=>.re0 s _ (c h)|reS s _ _ _ d e g=>exactλh=>.reS s (d h) (e h) (g h)|fo0 s f _ c=>exactλh=>.fo0 s _ (c h)|foC s _ _ _ _ d e g j=>exactλh=>.foC s (d h) (e h) (g h) (j h)
theorem Par.put{t u a b:Tm}(h:Par t u)(k:Par a b):Par (t.put 0 a 0) (u.put 0 b 0):=by
 rw[NC,NC 0 b];refine h.sub λi=>?_
 cases i with|zero=>rw[oD,oD];exact k|succ i=>exact .v i
def Tm.cd:Tm->Tm|.v i=>.v i|.n0 k=>.n0 k|.lam s b=>.lam s b.cd|.n1 k a=>if(Tm.n1 k a).red.isSome then(Tm.n1 k a.cd).red.getD (.v 0)else .n1 k a.cd|.n2 k a b=>if(Tm.n2 k a b).red.isSome then(Tm.n2 k a.cd b.cd).red.getD (.v 0)else .n2 k a.cd b.cd|.n3 k s a b c=>if(Tm.n3 k s a b c).red.isSome then(Tm.n3 k s a.cd b.cd c.cd).red.getD (.v 0)else .n3 k s a.cd b.cd c.cd
def Par.cd{t u:Tm}(h:Par t u):Par u t.cd:=by
 induction h with
 |v i=>exact .v i|n0 k=>exact .n0 k|lam s _ d=>exact .lam s d|n1 k h d=>cases k with
  |succ=>exact .n1 _ d|fst=>rename_i a n;cases a with
   |n2 q x y=>cases q with
    |pair=>cases h with
     |n2 _ o hy=>cases d with|n2 _ l p=>exact .fst _ l
    |_=>exact .n1 _ d
   |_=>exact .n1 _ d
  |snd=>rename_i a n;cases a with
   |n2 q x y=>cases q with
    |pair=>cases h with
     |n2 _ o hy=>cases d with|n2 _ l p=>exact .snd _ p
    |_=>exact .n1 _ d
   |_=>exact .n1 _ d
 |n2 k h B d m=>cases k with
  |app=>rename_i a n b w;cases a with
   |lam s x=>cases h with
    |lam _ o=>cases d with|lam _ l=>exact .beta _ l m
   |_=>exact .n2 _ d m
  |_=>exact .n2 _ d m
 |n3 k s C D r e g j=>cases k with
  |re=>rename_i a n b w c A;cases c with
   |n0 q=>cases q with
    |zero=>cases r;exact .re0 _ _ e
    |_=>exact .n3 _ _ e g j
   |n1 q x=>cases q with
    |succ=>cases r with
     |n1 _ o=>cases j with|n1 _ l=>exact .reS _ e g l
    |_=>exact .n3 _ _ e g j
   |_=>exact .n3 _ _ e g j
  |fo=>rename_i a n b w c A;cases c with
   |n0 q=>cases q with
    |nil=>cases r;exact .fo0 _ _ e
    |_=>exact .n3 _ _ e g j
   |n2 q x y=>cases q with
    |cons=>cases r with
     |n2 _ o hy=>cases j with|n2 _ l p=>exact .foC _ e g l p
    |_=>exact .n3 _ _ e g j
   |_=>exact .n3 _ _ e g j
 |fst b _ d=>exact d|snd a _ d=>exact d|beta s _ _ e g=>exact e.put g|re0 s f _ d=>exact d|reS s _ _ _ e g j=>exact .n2 _ (.n2 _ g j) (.n3 _ _ e g j)|fo0 s f _ d=>exact d|foC s _ _ _ _ e g j z=>exact .n2 _ (.n2 _ (.n2 _ g j) z) (.n3 _ _ e g z)
def Ps.trans{a b c:Tm}(h:Ps a b)(k:Ps b c):Ps a c:=by
 induction h with|refl=>exact k|step p _ d=>exact .step p (d k)
def Ps.strip{a c:Tm}(h:Ps a c):∀{b:Tm},Par a b->∃d,Ps b d/\Par c d:=by
 induction h with
 |refl=>exactλp=>⟨_,.refl _,p⟩|step p _ e=>
  intro b q;obtain⟨d,f,g⟩:=e p.cd;exact⟨d,.step q.cd f,g⟩
def Ps.conf{a b:Tm}(h:Ps a b):∀{c:Tm},Ps a c->∃d,Ps b d/\Ps c d:=by
 induction h with
 |refl=>exactλk=>⟨_,k,.refl _⟩|step p _ f=>
  intro c k;obtain⟨d,g,i⟩:=k.strip p;obtain⟨e,j,l⟩:=f g;exact⟨e,j,.step i l⟩
theorem Ps.sub{a b:Tm}(h:Ps a b)(σ:Nat->Tm):Ps (a.sub σ) (b.sub σ):=by
 induction h with|refl=>exact .refl _|step p _ c=>exact .step (p.sub λi=>.refl _) c
theorem Cv.refl(a:Tm):Cv a a:=⟨a,.refl a,.refl a⟩
def Cv.trans{a b c:Tm}:Cv a b->Cv b c->Cv a c:=λ⟨w,h,k⟩ ⟨x,l,m⟩=>by
 obtain⟨d,e,f⟩:=k.conf l;exact⟨d,h.trans e,m.trans f⟩
theorem Cv.sub{a b:Tm}(σ:Nat->Tm):Cv a b->Cv (a.sub σ) (b.sub σ):=λ⟨w,h,k⟩=>⟨w.sub σ,h.sub σ,k.sub σ⟩
def Wa{t r:Tm}:t.red=some r->Par t r:=
 sJ (P:=Par) (λa b=>.fst b (.refl a)) (λa b=>.snd a (.refl b)) (λs b a=>.beta s (.refl b) (.refl a)) (λs b f=>.re0 s f (.refl b)) (λs b f n=>.reS s (.refl b) (.refl f) (.refl n)) (λs b f=>.fo0 s f (.refl b)) (λs b f h l=>.foC s (.refl b) (.refl f) (.refl h) (.refl l))
def Xa{z:Int}{t r x:Tm}(h:rt z t r=.ok x):x=r:=by
 unfold rt at h;cases e:fA z ((r.cnt:Int)-t.cnt)<;>rw[e]at h<;>cases h;rfl
def oz{z:Int}{t r:Tm}(h:rt z t r=.no):False:=by
 grind[rt,fA]
def JL(z:Int):∀(t:Tm){x:Tm},t.st z=.ok x->Par t x
 |.v _,_,h=>nomatch h
 |.n0 _,_,h=>nomatch h
 |.lam s b,x,h=>by
  rcases qC h with ⟨y,e,rfl⟩|⟨_,e⟩
  ·exact .lam s (JL z b e)
  cases e
 |.n1 k a,x,h=>by
  cases e:(Tm.n1 k a).red with
  |some r=>rw[UC e]at h;rw[Xa h];exact Wa e|none=>
   simp only[Tm.st,e]at h;rcases qC h with ⟨y,e,rfl⟩|⟨_,e⟩
   ·exact .n1 k (JL z a e)
   cases e
 |.n2 k a b,x,h=>by
  cases e:(Tm.n2 k a b).red with
  |some r=>rw[UC e]at h;rw[Xa h];exact Wa e|none=>
   simp only[Tm.st,e]at h;rcases qC h with ⟨y,e,rfl⟩|⟨_,h⟩
   ·exact .n2 k (JL z a e) (.refl b)
   rcases qC h with ⟨y,e,rfl⟩|⟨_,e⟩
   ·exact .n2 k (.refl a) (JL z b e)
   cases e
 |.n3 k s a b c,x,h=>by
  cases e:(Tm.n3 k s a b c).red with
  |some r=>rw[UC e]at h;rw[Xa h];exact Wa e|none=>
   simp only[Tm.st,e]at h;rcases qC h with ⟨y,e,rfl⟩|⟨_,h⟩
   ·exact .n3 k s (JL z a e) (.refl b) (.refl c)
   rcases qC h with ⟨y,e,rfl⟩|⟨_,h⟩
   ·exact .n3 k s (.refl a) (JL z b e) (.refl c)
   rcases qC h with ⟨y,e,rfl⟩|⟨_,e⟩
   ·exact .n3 k s (.refl a) (.refl b) (JL z c e)
   cases e
theorem OV{z:Int}{t r:Tm}(h:t.st z=.no)(e:t.red=some r):False:=by
 rw[UC e]at h;exact oz h
def xz{t u:Tm}(h:Par t u):∀{z:Int},t.st z=.no->u=t:=by
 induction h with
 |v i=>simp|n0 k=>simp|lam s _ d=>exactλh=>by rw[d (or_nn.1 h).1]|n1 k _ d=>
  intro z h;rename_i a j _
  cases e:(Tm.n1 k a).red with
  |some r=>grind[OV]|none=>
   simp only[Tm.st,e]at h;rw[d (or_nn.1 h).1]
 |n2 k _ _ f g=>
  intro z h;rename_i a j b l _ _
  cases e:(Tm.n2 k a b).red with
  |some r=>grind[OV]|none=>
   simp only[Tm.st,e]at h;rw[f (or_nn.1 h).1,g (or_nn.1 (or_nn.1 h).2).1]
 |n3 k s _ _ _ f g m=>
  intro z h;rename_i a j b l c n _ _ _
  cases e:(Tm.n3 k s a b c).red with
  |some r=>grind[OV]|none=>
   simp only[Tm.st,e]at h;rw[f (or_nn.1 h).1,g (or_nn.1 (or_nn.1 h).2).1,m (or_nn.1 (or_nn.1 (or_nn.1 h).2).2).1]
 |_=>exactλh=>(OV h rfl).elim
theorem Az{t u:Tm}(h:Ps t u):∀{z:Int},t.st z=.no->u=t:=by
 induction h with
 |refl=>simp|step p _ a=>
  intro z h;obtain rfl:=xz p h;exact a h
def Ya:∀(r n:Nat)(t:Tm){x:Tm}{k:Nat},mC r n t=.ok x k->Ps t x/\∃z,x.st z=.no:=by
 intro r
 induction r with
 |zero=>
  intro n t x k h;simp only[mC]at h;split at h
  ·rename_i e;cases h;exact⟨.refl _,_,e⟩
  cases h
 |succ r a=>
  intro n t x k h;simp only[mC]at h;split at h
  ·rename_i e;cases h;exact⟨.refl _,_,e⟩
  ·cases h
  rename_i y e;obtain⟨b,c⟩:=a _ _ h;exact⟨.step (JL _ _ e) b,c⟩
def Bz{t x:Tm}{k:Nat}(h:ID t=.ok x k):Ps t x:=(Ya _ _ _ h).1
def EP{t x:Tm}{k:Nat}(h:ID t=.ok x k):Cv t x:=⟨x,Bz h,.refl x⟩
theorem Uj{a b x y:Tm}{k l:Nat}(h:Cv a b)(c:ID a=.ok x k)(d:ID b=.ok y l):x=y:=by
 obtain⟨w,e,f⟩:=((EP c).symm.trans h).trans (EP d);obtain⟨z,g⟩:=(Ya _ _ _ c).2;obtain⟨i,j⟩:=(Ya _ _ _ d).2
 grind[Az]
def Vj{a b:Tm}(h:a.mt b):Cv a b:=by
 rcases h with rfl|⟨x,k,l,c,d⟩
 ·exact .refl _
 exact(EP c).trans (EP d).symm
theorem FCv.refl:∀f:Fm,FCv f f|.eq a b=>.eq (.refl a) (.refl b)|.bin k f g=>.bin k (refl f) (refl g)|.q k s f=>.q k s (refl f)
def FCv.trans{f g:Fm}(h:FCv f g):∀{x:Fm},FCv g x->FCv f x:=by
 induction h with
 |eq h k=>intro x e;cases e with|eq a b=>exact .eq (h.trans a) (k.trans b)
 |bin k _ _ c d=>intro x e;cases e with|bin _ a b=>exact .bin k (c a) (d b)
 |q k s _ i=>intro x e;cases e with|q _ _ a=>exact .q k s (i a)
theorem FCv.sub{f g:Fm}(h:FCv f g):∀σ:Nat->Tm,FCv (f.sub σ) (g.sub σ):=by
 induction h with|eq h k=>exactλσ=>.eq (h.sub σ) (k.sub σ)|bin k _ _ a b=>exactλσ=>.bin k (a σ) (b σ)|q k s _ c=>exactλσ=>.q k s (c _)
theorem FCv.put{f g:Fm}(h:FCv f g)(t:Tm)(c d:Nat):FCv (f.put c t d) (g.put c t d):=by
 rw[dD,dD];exact h.sub _
def sG:∀(f:Fm)(ρ:Nat->Nat),f.ren ρ=f.sub λi=>.v (ρ i)
 :=by intro x;induction x<;>simp_all[Fm.ren,Fm.sub,EF,Pj]
theorem FCv.ren{f g:Fm}(h:FCv f g)(ρ:Nat->Nat):FCv (f.ren ρ) (g.ren ρ):=by
 rw[sG,sG];exact h.sub _
theorem FCv.sh{f g:Fm}(h:FCv f g)(c k:Nat):FCv (f.sh c (.ofNat k)) (g.sh c (.ofNat k)):=by
 rw[mE,mE];exact h.ren _
theorem FCv.er{f g:Fm}(h:FCv f g):f.er=g.er:=by
 induction h with|eq h k=>rfl|bin k _ _ a b=>grind[Fm.er]|q k s _ c=>grind[Fm.er]
def KL:∀{f g:Fm},f.mt g->FCv f g
 |.eq _ _,.eq _ _,h=>.eq (Vj h.1) (Vj h.2)|.bin k _ _,.bin l _ _,h=>by
  obtain⟨rfl,a,b⟩:=h;exact .bin k (KL a) (KL b)
 |.q k s _,.q l u _,h=>by
  obtain⟨rfl,rfl,a⟩:=h;exact .q k s (KL a)
 |.eq _ _,.bin _ _ _,h=>h.elim|.eq _ _,.q _ _ _,h=>h.elim|.bin _ _ _,.eq _ _,h=>h.elim|.bin _ _ _,.q _ _ _,h=>h.elim|.q _ _ _,.eq _ _,h=>h.elim|.q _ _ _,.bin _ _ _,h=>h.elim
theorem QV:∀(f:Fm){g:Fm},VA f=some g->FCv f g
 |.eq a b,g,h=>by
  simp only[VA]at h;split at h
  ·rename_i e;split at h
   ·rename_i c;cases h;exact .eq (EP e) (EP c)
   cases h
  cases h
 |.bin k f x,g,h=>by
  simp only[VA]at h;split at h
  ·rename_i e;split at h
   ·rename_i c;cases h;exact .bin k (QV f e) (QV x c)
   cases h
  cases h
 |.q k s f,g,h=>by
  simp only[VA]at h;split at h
  ·rename_i e;cases h;exact .q k s (QV f e)
  cases h
def RV:∀(f:Fm){σ τ:Nat->Tm},(∀i,Par (σ i) (τ i))->FCv (f.sub σ) (f.sub τ)|.eq a b,_,_,h=>.eq ⟨_,.step ((Par.refl a).sub h) (.refl _),.refl _⟩ ⟨_,.step ((Par.refl b).sub h) (.refl _),.refl _⟩|.bin k f g,_,_,h=>.bin k (RV f h) (RV g h)|.q k s f,_,_,h=>.q k s (RV f (Par.up h))
def Wj{a b:Tm}(h:Ps a b)(f:Fm):FCv (f.put 0 a 0) (f.put 0 b 0):=by
 induction h with
 |refl=>exact .refl _|step p _ c=>
  refine FCv.trans ?_ c;rw[dD,dD];refine RV f λi=>?_
  cases i with|zero=>rw[oD,oD];exact p|succ i=>exact .v i
def Xj{a b:Tm}(h:Cv a b)(f:Fm):FCv (f.put 0 a 0) (f.put 0 b 0):=by
 obtain⟨w,c,d⟩:=h;exact(Wj c f).trans (Wj d f).symm
open Go.Lg
def Za(s:Ty):s.same s=true:=(nD s s).2 rfl
def FN{x y u:Ty}{r:TR}(h:(bif x.same y then r else .er 6)=.ok u):x=y/\r=.ok u:=by
 grind[nD]
def Yj(t:Ty):TR.fit t=.ok t\/TR.fit t=.er 3:=by
 grind[TR.fit]
def FF:∀(t:Tm)(G:List Ty)(u:Ty),Ht G t u->t.tyR G=.ok u\/t.tyR G=.er 3
 |.v _,_,_,h=>.inl h|.lam s b,G,u,⟨w,e,h⟩=>by
  rcases FF b _ w h with h|h
  ·rw[show(Tm.lam s b).tyR G=bI s (b.tyR (G++[s]))from rfl,h,e];exact Yj _
  rw[show(Tm.lam s b).tyR G=bI s (b.tyR (G++[s]))from rfl,h];exact .inr rfl
 |.n0 k,_,_,h=>.inl (by cases k<;>subst h<;>rfl)|.n1 k a,G,u,h=>by
  show KG k (a.tyR G)=_\/KG k (a.tyR G)=_;cases k
  ·obtain⟨rfl,h⟩:=h;rcases FF a _ _ h with h|h<;>rw[h]
   ·exact .inl rfl
   exact .inr rfl
  ·obtain⟨w,h⟩:=h;rcases FF a _ _ h with h|h<;>rw[h]
   ·exact .inl rfl
   exact .inr rfl
  obtain⟨w,h⟩:=h;rcases FF a _ _ h with h|h<;>rw[h]
  ·exact .inl rfl
  exact .inr rfl
 |.n2 k a b,G,u,h=>by
  show pD k (a.tyR G) (b.tyR G)=_\/pD k (a.tyR G) (b.tyR G)=_;cases k
  ·obtain⟨s,d,f⟩:=h;rcases FF a _ _ d with h|h<;>rw[h]
   ·rcases FF b _ _ f with h|h<;>rw[h]
    ·simp[pD,Za,cond_true]
    exact .inr rfl
   exact .inr rfl
  ·obtain⟨rfl,d,f⟩:=h;rcases FF a _ _ d with h|h<;>rw[h]
   ·rcases FF b _ _ f with h|h<;>rw[h]
    ·exact .inl rfl
    exact .inr rfl
   exact .inr rfl
  obtain⟨s,w,rfl,d,f⟩:=h;rcases FF a _ _ d with h|h<;>rw[h]
  ·rcases FF b _ _ f with h|h<;>rw[h]
   ·exact Yj _
   exact .inr rfl
  exact .inr rfl
 |.n3 k s a b c,G,u,h=>by
  show cB k s (a.tyR G) (b.tyR G) (c.tyR G)=_\/cB k s (a.tyR G) (b.tyR G) (c.tyR G)=_;obtain⟨rfl,d,h⟩:=h;cases k<;>obtain⟨f,g⟩:=h
  all_goals
   rcases FF a _ _ d with h|h<;>rw[h]
   ·rcases FF b _ _ f with h|h<;>rw[h]
    ·rcases FF c _ _ g with h|h<;>rw[h]
     ·exact .inl (by simp only[cB,Za,cond_true])
     exact .inr rfl
    exact .inr rfl
   exact .inr rfl
def Zj{t u:Ty}(h:TR.fit t=.ok u):u=t:=by
 grind[TR.fit]
def TI(G:List Ty):Tm->Ty->Prop
 |.v i,u=>sB G i=.ok u|.lam s b,u=>∃w,u=.two true s w/\b.tyR (G++[s])=.ok w|.n0 k,u=>u=match k with
  |.zero=>.nat|.nil=>.list|.unit=>.unit
 |.n1 k a,u=>match k with|.succ=>u=.nat/\a.tyR G=.ok .nat|.fst=>∃w,a.tyR G=.ok (.two false u w)|.snd=>∃w,a.tyR G=.ok (.two false w u)
 |.n2 k a b,u=>match k with|.app=>∃s,a.tyR G=.ok (.two true s u)/\b.tyR G=.ok s|.cons=>u=.list/\a.tyR G=.ok .nat/\b.tyR G=.ok .list|.pair=>∃s w,u=.two false s w/\a.tyR G=.ok s/\b.tyR G=.ok w
 |.n3 k s a b c,u=>u=s/\a.tyR G=.ok s/\match k with
  |.re=>b.tyR G=.ok (.two true .nat (.two true s s))/\c.tyR G=.ok .nat|.fo=>b.tyR G=.ok (.two true .nat (.two true .list (.two true s s)))/\c.tyR G=.ok .list
def nE(t:Tm)(G:List Ty)(u:Ty)(h:t.tyR G=.ok u):TI G t u:=by
 cases t with
 |v i=>exact h|lam s b=>
  have h:bI s (b.tyR (G++[s]))=.ok u:=h
  cases e:b.tyR (G++[s])with
  |er n=>rw[e]at h;cases h
  |ok w=>rw[e]at h;exact⟨w,Zj h,e⟩
 |n0 k=>cases k<;>cases h<;>rfl
 |n1 k a=>
  have h:KG k (a.tyR G)=.ok u:=h
  cases e:a.tyR G with
  |er n=>rw[e]at h;cases h
  |ok s=>
   rw[e]at h;cases k
   ·obtain⟨rfl,h⟩:=FN h;cases h;exact⟨rfl,e⟩
   all_goals
    cases s with
    |two q c d=>
     cases q
     ·cases h;exact⟨_,e⟩
     cases h
    |_=>cases h
 |n2 k a b=>
  have h:pD k (a.tyR G) (b.tyR G)=.ok u:=h
  cases e:a.tyR G with
  |er n=>rw[e]at h;cases h
  |ok s=>cases f:b.tyR G with
   |er n=>rw[e,f]at h;cases h
   |ok w=>
    rw[e,f]at h;cases k
    ·cases s with
     |two q c d=>
      cases q
      ·cases h
      obtain⟨g,q⟩:=FN h;cases q;exact⟨c,e,g▸f⟩
     |_=>cases h
    ·obtain⟨rfl,h⟩:=FN h;obtain⟨rfl,h⟩:=FN h;cases h;exact⟨rfl,e,f⟩
    exact⟨s,w,Zj h,e,f⟩
 |n3 k s a b c=>
  have h:cB k s (a.tyR G) (b.tyR G) (c.tyR G)=.ok u:=h
  cases e:a.tyR G with
  |er n=>rw[e]at h;cases h
  |ok x=>cases f:b.tyR G with
   |er n=>rw[e,f]at h;cases h
   |ok y=>cases j:c.tyR G with
    |er n=>rw[e,f,j]at h;cases h
    |ok z=>
     rw[e,f,j]at h;cases k
     all_goals
      obtain⟨g,k⟩:=FN h;obtain⟨l,k⟩:=FN k;obtain⟨m,k⟩:=FN k;cases k;subst g l m;exact⟨rfl,e,f,j⟩
def rE:∀(t:Tm)(G:List Ty)(u:Ty),t.tyR G=.ok u->Ht G t u
 |.v _,_,_,h=>h|.lam s b,G,u,h=>by
  obtain⟨w,e,k⟩:=nE _ _ _ h;exact⟨w,e,rE b _ _ k⟩
 |.n0 k,G,u,h=>nE _ _ _ h|.n1 k a,G,u,h=>by
  have h:=nE _ _ _ h;cases k
  ·exact⟨h.1,rE a _ _ h.2⟩
  ·exact⟨_,rE a _ _ h.choose_spec⟩
  exact⟨_,rE a _ _ h.choose_spec⟩
 |.n2 k a b,G,u,h=>by
  have h:=nE _ _ _ h;cases k
  ·exact⟨_,rE a _ _ h.choose_spec.1,rE b _ _ h.choose_spec.2⟩
  ·exact⟨h.1,rE a _ _ h.2.1,rE b _ _ h.2.2⟩
  obtain⟨s,w,e,d,f⟩:=h;exact⟨s,w,e,rE a _ _ d,rE b _ _ f⟩
 |.n3 k s a b c,G,u,h=>by
  have h:=nE _ _ _ h;exact⟨h.1,rE a _ _ h.2.1,by cases k<;>exact⟨rE b _ _ h.2.2.1,rE c _ _ h.2.2.2⟩⟩
def jF:∀(t:Tm)(g f:List Ty)(ρ:Nat->Nat)(u:Ty),RNg g f ρ->Ht g t u->Ht f (t.ren ρ) u
 |.v i,_,_,_,_,h,k=>h i _ k|.lam s b,_,_,_,_,h,⟨w,e,k⟩=>⟨w,e,jF b _ _ _ _ (h.up s) k⟩|.n0 _,_,_,_,_,_,k=>k|.n1 q a,g,f,ρ,u,h,k=>by
  cases q
  ·exact⟨k.1,jF a _ _ _ _ h k.2⟩
  ·exact⟨_,jF a _ _ _ _ h k.choose_spec⟩
  exact⟨_,jF a _ _ _ _ h k.choose_spec⟩
 |.n2 q a b,g,f,ρ,u,h,k=>by
  cases q
  ·obtain⟨s,j,d⟩:=k;exact⟨s,jF a _ _ _ _ h j,jF b _ _ _ _ h d⟩
  ·exact⟨k.1,jF a _ _ _ _ h k.2.1,jF b _ _ _ _ h k.2.2⟩
  obtain⟨s,w,e,j,d⟩:=k;exact⟨s,w,e,jF a _ _ _ _ h j,jF b _ _ _ _ h d⟩
 |.n3 q s a b c,g,f,ρ,u,h,⟨e,j,d⟩=>⟨e,jF a _ _ _ _ h j,by cases q<;>exact⟨jF b _ _ _ _ h d.1,jF c _ _ _ _ h d.2⟩⟩
def jE{G:List Ty}{t:Tm}{u:Ty}(s:Ty)(h:Ht G t u):Ht (G++[s]) (t.sh 0 (.ofNat 1)) u:=by
 rw[pC];exact jF t _ _ _ _ (λi u e=>by rw[rG];exact e) h
def Hg(g a:List Ty)(σ:Nat->Tm):Prop:=∀i s,sB g i=.ok s->Ht a (σ i) s
def Hg.up{g a:List Ty}{σ:Nat->Tm}(h:Hg g a σ)(u:Ty):Hg (g++[u]) (a++[u]) (cA σ):=λi s e=>by
 cases i with|zero=>rw[pG]at e;show sB _ 0=_;rw[pG];exact e|succ i=>rw[rG]at e;exact jE u (h i s e)
def DE:∀(t:Tm)(g f:List Ty)(σ:Nat->Tm)(u:Ty),Hg g f σ->Ht g t u->Ht f (t.sub σ) u
 |.v i,_,_,_,_,h,k=>h i _ k|.lam s b,_,_,_,_,h,⟨w,e,k⟩=>⟨w,e,DE b _ _ _ _ (h.up s) k⟩|.n0 _,_,_,_,_,_,k=>k|.n1 q a,g,f,ρ,u,h,k=>by
  cases q
  ·exact⟨k.1,DE a _ _ _ _ h k.2⟩
  ·exact⟨_,DE a _ _ _ _ h k.choose_spec⟩
  exact⟨_,DE a _ _ _ _ h k.choose_spec⟩
 |.n2 q a b,g,f,ρ,u,h,k=>by
  cases q
  ·obtain⟨s,j,d⟩:=k;exact⟨s,DE a _ _ _ _ h j,DE b _ _ _ _ h d⟩
  ·exact⟨k.1,DE a _ _ _ _ h k.2.1,DE b _ _ _ _ h k.2.2⟩
  obtain⟨s,w,e,j,d⟩:=k;exact⟨s,w,e,DE a _ _ _ _ h j,DE b _ _ _ _ h d⟩
 |.n3 q s a b c,g,f,ρ,u,h,⟨e,j,d⟩=>⟨e,DE a _ _ _ _ h j,by cases q<;>exact⟨DE b _ _ _ _ h d.1,DE c _ _ _ _ h d.2⟩⟩
def SNg(g a:List Ty)(σ:Nat->Tm):Prop:=∀i s,sB g i=.ok s->(σ i).tyR a=.ok s
def SNg.up{g a:List Ty}{σ:Nat->Tm}(h:SNg g a σ)(u:Ty):SNg (g++[u]) (a++[u]) (cA σ):=λi s e=>by
 cases i with
 |zero=>rw[pG]at e;show sB _ 0=_;rw[pG];exact e|succ i=>
  rw[rG]at e;show((σ i).sh 0 (.ofNat 1)).tyR _=_;rw[pC];exact HI _ _ _ _ _ (Tj a u) (h i s e)
def qk{k:K1}{a b:Tm}{g c:List Ty}{u:Ty}(d:∀w,a.tyR g=.ok w->b.tyR c=.ok w)(h:(Tm.n1 k a).tyR g=.ok u):(Tm.n1 k b).tyR c=.ok u:=by
 have h:KG k (a.tyR g)=.ok u:=h;show KG k (b.tyR c)=_
 cases e:a.tyR g with
 |er n=>rw[e]at h;cases h
 |ok w=>rw[d w e,<-e];exact h
def zb{k:K2}{a b c d:Tm}{g f:List Ty}{u:Ty}(j:∀w,a.tyR g=.ok w->b.tyR f=.ok w)(l:∀w,c.tyR g=.ok w->d.tyR f=.ok w)(h:(Tm.n2 k a c).tyR g=.ok u):(Tm.n2 k b d).tyR f=.ok u:=by
 have h:pD k (a.tyR g) (c.tyR g)=.ok u:=h;show pD k (b.tyR f) (d.tyR f)=_
 cases e:a.tyR g with
 |er n=>rw[e]at h;cases h
 |ok w=>cases i:c.tyR g with
  |er n=>rw[e,i]at h;cases h
  |ok v=>rw[j w e,l v i,<-e,<-i];exact h
def SV{k:K3}{s:Ty}{a b c d e f:Tm}{g i:List Ty}{u:Ty}(o:∀w,a.tyR g=.ok w->b.tyR i=.ok w)(p:∀w,c.tyR g=.ok w->d.tyR i=.ok w)(r:∀w,e.tyR g=.ok w->f.tyR i=.ok w)(h:(Tm.n3 k s a c e).tyR g=.ok u):(Tm.n3 k s b d f).tyR i=.ok u:=by
 have h:cB k s (a.tyR g) (c.tyR g) (e.tyR g)=.ok u:=h;show cB k s (b.tyR i) (d.tyR i) (f.tyR i)=_
 cases j:a.tyR g with
 |er n=>rw[j]at h;cases h
 |ok w=>cases l:c.tyR g with
  |er n=>rw[j,l]at h;cases h
  |ok v=>cases m:e.tyR g with
   |er n=>rw[j,l,m]at h;cases h
   |ok x=>rw[o w j,p v l,r x m,<-j,<-l,<-m];exact h
def zk{s:Ty}{a b:Tm}{g c:List Ty}{u:Ty}(d:∀w,a.tyR (g++[s])=.ok w->b.tyR (c++[s])=.ok w)(h:(Tm.lam s a).tyR g=.ok u):(Tm.lam s b).tyR c=.ok u:=by
 have h:bI s (a.tyR (g++[s]))=.ok u:=h;show bI s (b.tyR (c++[s]))=_
 cases e:a.tyR (g++[s])with
 |er n=>rw[e]at h;cases h
 |ok w=>rw[d w e,<-e];exact h
theorem II:∀(t:Tm)(g d:List Ty)(σ:Nat->Tm)(s:Ty),SNg g d σ->t.tyR g=.ok s->(t.sub σ).tyR d=.ok s|.v i,g,d,σ,s,h,e=>h i s e|.lam u b,_,_,_,_,h,e=>zk (λw=>II b _ _ _ w (h.up u)) e|.n0 k,_,_,_,_,_,e=>e|.n1 k a,_,_,_,_,h,e=>qk (λw=>II a _ _ _ w h) e|.n2 k a b,_,_,_,_,h,e=>zb (λw=>II a _ _ _ w h) (λw=>II b _ _ _ w h) e|.n3 k u a b c,_,_,_,_,h,e=>SV (λw=>II a _ _ _ w h) (λw=>II b _ _ _ w h) (λw=>II c _ _ _ w h) e
theorem jk{g:List Ty}{t:Tm}{s:Ty}(h:t.tyR g=.ok s):SNg (g++[s]) g λi=>(Tm.v i).put 0 t 0:=λi u e=>by
 cases i with|zero=>rw[pG]at e;grind[oD]|succ i=>rw[rG]at e;exact e
theorem Cz{g:List Ty}{b t:Tm}{s u:Ty}(a:b.tyR (g++[s])=.ok u)(h:t.tyR g=.ok s):(b.put 0 t 0).tyR g=.ok u:=by
 rw[NC];grind[II,jk]
theorem vb{g:List Ty}{f x:Tm}{s u:Ty}(a:f.tyR g=.ok (.two true s u))(b:x.tyR g=.ok s):(Tm.n2 .app f x).tyR g=.ok u:=by
 show pD .app (f.tyR g) (x.tyR g)=_;rw[a,b];simp[pD,Za,cond_true]
theorem vk{k:K3}{g:List Ty}{s u:Ty}{a b c d:Tm}(h:(Tm.n3 k s a b c).tyR g=.ok u)(e:d.tyR g=c.tyR g):(Tm.n3 k s a b d).tyR g=.ok u:=by
 show cB k s (a.tyR g) (b.tyR g) (d.tyR g)=_;rw[e];exact h
theorem yb(g:List Ty)(u:Ty):∀{t r:Tm},t.red=some r->t.tyR g=.ok u->r.tyR g=.ok u:=by
 refine sJ (P:=λt r=>t.tyR g=.ok u->r.tyR g=.ok u) (λa b h=>?_) (λa b h=>?_) (λs b a h=>?_) (λs b f h=>?_) (λs b f n h=>?_) (λs b f h=>?_) (λs b f x l h=>?_)
 ·obtain⟨w,h⟩:=nE _ _ _ h;obtain⟨s,w,e,c,_⟩:=nE _ _ _ h;simp_all
 ·obtain⟨w,h⟩:=nE _ _ _ h;obtain⟨s,w,e,_,c⟩:=nE _ _ _ h;simp_all
 ·obtain⟨w,h,i⟩:=nE _ _ _ h;obtain⟨v,e,c⟩:=nE _ _ _ h
  grind[Cz]
 ·obtain⟨e,c,_⟩:=nE _ _ _ h;rw[e];exact c
 ·obtain⟨e,c,i,d⟩:=nE _ _ _ h;have j:=(nE _ _ _ d).2
  grind[vb,vk]
 ·obtain⟨e,c,_⟩:=nE _ _ _ h;rw[e];exact c
 obtain⟨e,c,i,d⟩:=nE _ _ _ h;obtain⟨_,j,k⟩:=nE _ _ _ d
 grind[vb,vk]
def ub{z:Int}{t r x:Tm}(h:rt z t r=.ok x):x=r:=by
 unfold rt at h;cases a:fA z ((r.cnt:Int)-t.cnt)<;>rw[a]at h<;>cases h;rfl
def LL(z:Int):∀(t:Tm){x:Tm}{g:List Ty}{u:Ty},t.st z=.ok x->t.tyR g=.ok u->x.tyR g=.ok u
 |.v _,_,_,_,h,_=>by cases h
 |.n0 _,_,_,_,h,_=>by cases h
 |.lam s b,_,_,_,h,k=>by
  rcases qC h with ⟨y,e,rfl⟩|⟨_,h⟩
  ·exact zk (λw=>LL z b e) k
  cases h
 |.n1 q a,_,g,u,h,k=>by
  cases d:(Tm.n1 q a).red with
  |some r=>rw[UC d]at h;rw[ub h];grind[yb]|none=>
   simp only[Tm.st,d]at h;rcases qC h with ⟨y,e,rfl⟩|⟨_,h⟩
   ·exact qk (λw=>LL z a e) k
   cases h
 |.n2 q a b,_,g,u,h,k=>by
  cases d:(Tm.n2 q a b).red with
  |some r=>rw[UC d]at h;rw[ub h];grind[yb]|none=>
   simp only[Tm.st,d]at h;rcases qC h with ⟨y,e,rfl⟩|⟨_,h⟩
   ·exact zb (λw=>LL z a e) (λw e=>e) k
   rcases qC h with ⟨y,e,rfl⟩|⟨_,h⟩
   ·exact zb (λw e=>e) (λw=>LL z b e) k
   cases h
 |.n3 q s a b c,_,g,u,h,k=>by
  cases d:(Tm.n3 q s a b c).red with
  |some r=>rw[UC d]at h;rw[ub h];grind[yb]|none=>
   simp only[Tm.st,d]at h;rcases qC h with ⟨y,e,rfl⟩|⟨_,h⟩
   ·exact SV (λw=>LL z a e) (λw e=>e) (λw e=>e) k
   rcases qC h with ⟨y,e,rfl⟩|⟨_,h⟩
   ·exact SV (λw e=>e) (λw=>LL z b e) (λw e=>e) k
   rcases qC h with ⟨y,e,rfl⟩|⟨_,h⟩
   ·exact SV (λw e=>e) (λw e=>e) (λw=>LL z c e) k
   cases h
def lb:∀(r n:Nat)(t:Tm){x:Tm}{k:Nat}{g:List Ty}{u:Ty},mC r n t=.ok x k->t.tyR g=.ok u->x.tyR g=.ok u
 |0,n,t,x,k,g,u,h,q=>by
  grind[mC]
 |r+1,n,t,x,k,g,u,h,q=>by
  unfold mC at h;split at h
  ·cases h;exact q
  ·cases h
  rename_i y e;exact lb r _ y h (LL _ t e q)
theorem TV:∀(f:Fm)(g c:List Ty)(σ:Nat->Tm),SNg g c σ->f.tq g->(f.sub σ).tq c|.eq a b,g,c,σ,h,⟨d,e⟩=>⟨II a g c σ _ h d,II b g c σ _ h e⟩|.bin _ f k,g,c,σ,h,⟨e,d⟩=>⟨TV f g c σ h e,TV k g c σ h d⟩|.q _ s f,g,c,σ,h,e=>TV f _ _ _ (h.up s) e
theorem yk{f:Fm}{g:List Ty}{t:Tm}{s:Ty}(h:f.tq (g++[s]))(a:t.tyR g=.ok s):(f.put 0 t 0).tq g:=by
 rw[dD];grind[TV,jk]
def UV{f y:Fm}{g:List Ty}{t:Tm}{s:Ty}(e:f.pt t=.ok y)(h:f.tq (g++[s]))(a:t.tyR g=.ok s):y.tq g:=by
 grind[Fm.pt,yk]
theorem VR:∀(f:Fm)(g c:List Ty)(ρ:Nat->Nat),RNg g c ρ->f.tq g->(f.ren ρ).tq c|.eq a b,g,c,σ,h,⟨d,e⟩=>⟨HI a g c σ _ h d,HI b g c σ _ h e⟩|.bin _ f k,g,c,σ,h,⟨e,d⟩=>⟨VR f g c σ h e,VR k g c σ h d⟩|.q _ s f,g,c,σ,h,e=>VR f _ _ _ (h.up s) e
theorem FP{f:Fm}{g a:List Ty}{c k:Nat}(h:RNg g a (bD c k))(b:f.tq g):(f.sh c (.ofNat k)).tq a:=by
 rw[mE];grind[VR]
def GP{g:List Ty}{i:Nat}{t:Ty}(h:sB g i=.ok t):i<g.length:=by
 grind[sB]
def GN(k:Nat):bD 0 k=(· +k):=by funext i;simp[bD]
def ML(g:List Ty)(s:Ty):RNg g (g++[s]) (bD 0 1):=by rw[GN];exact Tj g s
def Dz(g:List Ty)(s u:Ty):RNg g (g++[s]++[u]) (bD 0 2):=by
 rw[GN];exactλi w e=>by rw[rG (g++[s]) u (i+1),rG];exact e
def VV{g a:List Ty}{b:List Fm}{k:Nat}(h:RNg g a (bD 0 k))(c:∀f∈b,f.tq g):∀f∈bA k b,f.tq a:=λf a=>by
 grind[FP]
def WV{g:List Ty}{a:List Fm}{x:Fm}(b:∀f∈a,f.tq g)(b:x.tq g):∀f∈a++[x],f.tq g:=λf a=>by
 grind
theorem XV:∀(f y:Fm)(g:List Ty),VA f=some y->f.tq g->y.tq g
 |.eq a b,y,g,e,⟨d,i⟩=>by
  unfold VA at e;split at e
  ·rename_i c;split at e
   ·rename_i j;cases e;exact⟨lb _ _ _ c d,lb _ _ _ j i⟩
   cases e
  cases e
 |.bin k f h,y,g,e,⟨d,i⟩=>by
  unfold VA at e;split at e
  ·rename_i c;split at e
   ·rename_i j;cases e;exact⟨XV f _ g c d,XV h _ g j i⟩
   cases e
  cases e
 |.q k s f,y,g,e,h=>by
  unfold VA at e;split at e
  ·rename_i x c;cases e;exact XV f x (g++[s]) c h
  cases e
theorem YV:∀(t:Ty)(g:List Ty),t.size<=64->t.ini.tyR g=.ok t
 |.nat,_,_=>rfl|.list,_,_=>rfl|.unit,_,_=>rfl|.two false a b,g,h=>by
  have c:1+a.size+b.size<=64:=h;show pD .pair (a.ini.tyR g) (b.ini.tyR g)=_;rw[YV a g (by omega),YV b g (by omega)];exact if_pos h
 |.two true a b,g,h=>by
  have c:1+a.size+b.size<=64:=h;show bI a (b.ini.tyR (g++[a]))=_;rw[YV b _ (by omega)];exact if_pos h
theorem Ez{f:Fm}{g:List Ty}{s:Ty}(a:s.size<=64)(b:f.occ 0=0)(h:f.tq (g++[s])):f.low.tq g:=by
 rw[show f.low=f.put 0 s.ini 0 by
  rw[Fm.low,dD,dD];exact IL f _ _ λi c=>by
   cases i with|zero=>omega|succ i=>rw[QR,QR]]
 grind[yk,YV]
def uk{f y:Fm}{g:List Ty}{s:Ty}(a:s.size<=64)(e:nC f=some y)(h:f.tq (g++[s])):y.tq g:=by
 grind[nC,Ez,XV]
def bk{k:FQ}{s:Ty}{f:Fm}(h:(Fm.q k s f).chk=0):s.size<=64:=kD (EA (Fm.chk0 h).2).1
def Fz(g:List Ty)(s u:Ty):vapp.tyR (g++[.two true s u,s])=.ok u:=by
 rw[show g++[Ty.two true s u,s]=g++[.two true s u]++[s] by simp];exact vb (s:=s) (by show sB _ (0+1)=_;rw[rG,pG]) (by show sB _ 0=_;rw[pG])
def Gz(g:List Ty)(s t u:Ty):RNg (g++[s]++[t]) (g++[u]++[s]++[t]) (bD 2 1):=by
 have:=((ML g u).up s).up t;rwa[UR,UR]at this
def GF{ls:List Fm}(p:∀f∈ls,f.tq []):∀(j:Jt)(g:List Ty)(m:List Fm),(∀f∈m,f.tq g)->j.D ls g m->j.f.tq g
 |.leaf u i f,g,m,c,⟨_,h⟩=>by
  cases u
  ·exact c f (List.mem_of_getElem? h.2)
  have:=VR f [] g (λi=>i) (λi s e=>absurd (GP e) (Nat.not_lt_zero _)) (p f (List.mem_of_getElem? h));rwa[cz]at this
 |.refl t,_,_,_,⟨_,_,h⟩=>⟨h,h⟩|.p1 k a f,g,m,c,⟨_,n,h⟩=>by
  have d:=GF p a g m c n;cases k
  ·obtain⟨y,e⟩:=h;rw[e]at d;exact d.1
  ·obtain⟨y,e⟩:=h;rw[e]at d;exact d.2
  obtain⟨s,u,x,e,_,y,v,z⟩:=h;rw[e]at d;rw[z];show y.tq (g++[.two true s u]++[s]);exact UV v (FP (Gz g s u (.two true s u)) d) (by have:=Fz g s u;simp_all)
 |.p2 k a b f,g,m,c,⟨_,n,h⟩=>by
  have d:=GF p a g m c n;cases k
  ·obtain⟨r,e⟩:=h;rw[e];exact⟨d,GF p b g m c r⟩
  ·obtain⟨_,x,e,_⟩:=h;rw[e]at d;exact d.2
  all_goals
   obtain⟨⟨u,e,r⟩,_,h⟩:=h;have hq:=BH n;rw[e]at hq;have o:a.f.bd.tq (g++[u]):=by rw[e]at d;exact d
  ·exact uk (bk hq) h (GF p b _ _ (WV (VV (ML g u) c) o) r)
  exact uk (bk hq) h.1 (GF p b _ _ (WV (VV (ML g u) c) o) r)
 |.impI x a,g,m,c,⟨_,⟨_,o⟩,_,n⟩=>⟨tD x g o,GF p a g _ (WV c (tD x g o)) n⟩|.all u s a,g,m,c,⟨_,_,n,_⟩=>GF p a _ _ (VV (ML g s) c) n|.ins u t a f,g,m,c,⟨_,_,n,s,x,A,e,v⟩=>by
  have d:=GF p a g m c n;rw[e]at d;exact UV v d A
 |.ex u x t a,g,m,c,⟨⟨_,o⟩,_⟩=>tD x g o|.ind l x t a b f,g,m,c,⟨_,⟨_,o⟩,⟨_,B⟩,_,_,_,e⟩=>UV e (tD x _ o) B|.subst x a b f,g,m,c,⟨_,⟨_,o⟩,n,_,t,u,w,e,_,_,v⟩=>by
  have d:=GF p a g m c n;rw[e]at d;exact UV v (tD x _ o) d.2
open Go.Lg
structure ScT(G g:List Ty)(es:List Fm)(s:Sc):Prop where
 v:Hg g G λi=>(Tm.v i).ps s.vs s.dep 0
 k:∀i f,i<es.length->es[es.length-1-i]? =some f->f.has=true->Ht G (s.hy i) f.cty
variable{G g:List Ty}{es:List Fm}{bs:List Bool}{s:Sc}
theorem ScT.bind(h:ScT G g es s)(S:ScOK g.length bs s)(u:Ty):ScT (G++[u]) g es s.bind:=
 ⟨λi w e=>by
  have a:=GP e;show Ht _ ((Tm.v i).ps s.vs (s.dep+1) 0) w;rw[IV S.ve (show(Tm.v i).sc s.vs.length by rw[S.vl];exact a)];exact jE u (h.v i w e),λi f a e b=>by rw[KV S];exact jE u (h.k i f a e b)⟩
theorem ScT.var(h:ScT G g es s)(S:ScOK g.length bs s){t:Tm}{u:Ty}(a:Ht G t u):ScT G (g++[u]) es (s.var t):=
 ⟨λi w e=>by
  cases i with
  |zero=>
   rw[pG]at e;cases e;show Ht G ((Tm.v 0).ps (s.vs++[(t,s.dep)]) s.dep 0) u;rw[OR];exact a
  |succ i=>
   rw[rG]at e;have b:=GP e;show Ht G ((Tm.v (i+1)).ps (s.vs++[(t,s.dep)]) s.dep 0) w;rw[show Tm.v (i+1)=(Tm.v i).sh 0 (.ofNat 1) by rfl,JV s.vs s.dep (t,s.dep) (show(Tm.v i).sc s.vs.length by rw[S.vl];exact b)];exact h.v i w e,h.k⟩
def ScT.psh(h:ScT G g es s)(c:s.ks.length=es.length){x:Fm}(y:Hy)(m:Nat)(hy:x.has=true->Ht G (match y with|.hy t d _=>t.sh 0 (.ofNat (s.dep-d))|_=>.n0 .unit) x.cty):ScT G g (es++[x]) ⟨s.dep,m,s.vs,s.ks++[y]⟩:=
 ⟨h.v,λi f a e b=>by
  cases i with
  |zero=>
   rw[DN]
   grind
  |succ i=>
   have a:i<es.length:=by simp_all
   rw[DP s y 0 m i];refine h.k i f a ?_ b
   grind⟩
theorem ScT.hyp(h:ScT G g es s)(a:s.ks.length=es.length){x:Fm}{t:Tm}(b:Ht G t x.cty):ScT G g (es++[x]) (s.hyp t):=
 h.psh a (.hy t s.dep s.hyps) _ λ_=>by simp only[Nat.sub_self,gE];exact b
theorem ScT.bare(h:ScT G g es s)(a:s.ks.length=es.length){x:Fm}(b:x.has=false):ScT G g (es++[x]) s.bare:=
 h.psh a _ _ λe=>by rw[b]at e;cases e
def HP:∀(t:Ty)(G:List Ty),Ht G t.ini t|.nat,_=>rfl|.list,_=>rfl|.unit,_=>rfl|.two false a b,G=>⟨a,b,rfl,HP a G,HP b G⟩|.two true a b,G=>⟨b,rfl,HP b _⟩
def Hz{t:Tm}{u:Ty}(h:Ht [] t u)(G:List Ty):Ht G t u:=by
 have:=jF t [] G (λi=>i) u (λi s e=>absurd (GP e) (Nat.not_lt_zero _)) h;rwa[EF,show(λi:Nat=>Tm.v i)=Tm.v from rfl,xC]at this
def xD(G:List Ty)(u:Ty):Ht (G++[u]) (.v 0) u:=pG G u
def RJ(h:ScT G g es s){t:Tm}{u:Ty}(a:t.tyR g=.ok u):Ht G (t.ps s.vs s.dep 0) u:=by
 rw[uD];exact DE t g G _ u h.v (rE t g u a)
def Iz(G:List Ty)(u w v:Ty):Ht (G++[.two true u (.two false w v)]) (WG u) (.two false (.two true u w) (.two true u v)):=by
 have a:Ht (G++[.two true u (.two false w v)]++[u]) (.v 1) (.two true u (.two false w v)):=by
  show sB _ (0+1)=_;rw[rG,pG]
 exact⟨_,_,rfl,⟨w,rfl,v,u,a,xD _ u⟩,⟨v,rfl,w,u,a,xD _ u⟩⟩
def Jz{u w:Ty}{x f y:Fm}{t:Tm}(b:f=.q .ex (.two true u w) (.q .all u y))(e:y.er=x.er)(a:Ht G t (Fm.q .all u (.q .ex w x)).cty):Ht G (FI (.q .all u (.q .ex w x)) t) f.cty:=by
 subst b;show Ht G (bif x.has then .n2 .app (.lam (.two true u (.two false w x.cty)) (WG u)) t else t) (bif y.has then .two false (.two true u w) (.two true u y.cty)else .two true u w);rw[SA e,BC e];have a:Ht G t (.two true u (bif x.has then .two false w x.cty else w)):=a;cases c:x.has<;>rw[c]at a
 ·exact a
 exact⟨_,⟨_,rfl,Iz G u w x.cty⟩,a⟩
end Go.Proofs.YtjobiknipefjdaaGreatDoor
namespace Go.Proofs.YtjobiknipefjdaaGreatDoor
open Go.Lg
set_option maxRecDepth 100000
def IP(a:List Fm)(x:Fm)(k:Nat):(bA k a++[x]).map Fm.er=a.map Fm.er++[x.er]:=by
 rw[List.map_append,pI];rfl
def zC(g:List Ty)(u:Ty):(g++[u]).length=g.length+1:=by simp
def rC{ls:List Fm}{tl:List Tm}(B:∀(i:Nat)(f:Fm),ls[i]? =some f->f.has=true->∃t,tl[i]? =some t/\Ht [] t f.cty):∀(j:Jt)(g:List Ty)(n:Nat)(o:List Fm)(G:List Ty)(s:Sc),g.length=n->j.D ls g o->j.OK ls n o->ScOK n (o.map Fm.has) s->ScT G g (o.map Fm.er) s->j.f.has=true->Ht G (j.xt tl s) j.f.cty
 |.leaf u i f,g,n,o,G,s,r,⟨_,h⟩,_,S,T,d=>by
  replace d:f.has=true:=d;cases u
  ·have:=T.k i f.er (by rw[List.length_map];exact h.1) (by rw[List.length_map,List.getElem?_map,h.2];rfl) (by rw[PG];exact d);rw[XG]at this;exact this
  obtain⟨t,e,ht⟩:=B i f h d;show Ht G (match tl[i]? with|some t=>t|none=>.n0 .unit) f.cty;rw[e];exact Hz ht G
 |.refl t,_,_,_,_,_,_,_,_,_,_,d=>by cases d
 |.p1 k a f,g,n,o,G,s,r,⟨_,E,h⟩,⟨_,C,_⟩,S,T,d=>by
  replace d:f.has=true:=d;have c:=rC B a g n o G s r E C S T;cases k
  ·obtain⟨y,e⟩:=h;show Ht G (bif a.f.both then .n1 .fst (a.xt tl s)else a.xt tl s) f.cty;rw[e]at c⊢;have c:=c (by show(f.has||y.has)=true;rw[d];rfl);simp only[Fm.cty,Fm.both,d]at c⊢;cases hy:y.has<;>rw[hy]at c
   ·exact c
   exact⟨_,c⟩
  ·obtain⟨y,e⟩:=h;show Ht G (bif a.f.both then .n1 .snd (a.xt tl s)else a.xt tl s) f.cty;rw[e]at c⊢;have c:=c (by show(y.has||f.has)=true;rw[d];simp);simp only[Fm.cty,Fm.both,d]at c⊢;cases hy:y.has<;>rw[hy]at c
   ·exact c
   exact⟨_,c⟩
  obtain⟨u,w,x,e,_,y,V,R⟩:=h;show Ht G (FI a.f (a.xt tl s)) f.cty;rw[e]at c⊢;exact Jz R ((iC V).trans (JD _ x 2)) (c rfl)
 |.p2 k a b f,g,n,o,G,s,r,⟨_,E,h⟩,⟨_,C,U⟩,S,T,d=>by
  replace d:f.has=true:=d;have c:=rC B a g n o G s r E C S T;have A:s.ks.length=(o.map Fm.er).length:=by rw[S.kl];simp
  have z:∀{m:Nat},TK (m+1) (.v 0):=yC;cases k
  ·obtain⟨p,e⟩:=h;have O:=rC B b g n o G s r p U.1 S T;show Ht G (bif a.f.has then(bif b.f.has then .n2 .pair (a.xt tl s) (b.xt tl s)else a.xt tl s)else b.xt tl s) f.cty;rw[e]at d⊢;have W:(a.f.has||b.f.has)=true:=d;simp only[Fm.cty];cases X:a.f.has<;>cases Y:b.f.has
   ·rw[X,Y]at W;cases W
   ·simp_all
   ·exact c X
   exact⟨_,_,rfl,c X,O Y⟩
  ·obtain⟨p,x,e,em⟩:=h;have O:=rC B b g n o G s r p U.1 S T;have ex:=KJ _ _ em;rw[e]at c;have c:=c d;show Ht G (bif b.f.has then .n2 .app (a.xt tl s) (b.xt tl s)else a.xt tl s) f.cty;simp only[Fm.cty]at c;rw[SA ex,BC ex]at c;cases Y:b.f.has<;>rw[Y]at c
   ·exact c
   exact⟨_,c,O Y⟩
  ·obtain⟨⟨u,e,p⟩,_,Z⟩:=h;have D:b.f.has=true:=by rw[<-SA (pF Z)];exact d
   show Ht G _ f.cty;rw[BC (pF Z)];have eq:a.f.qs=u:=by rw[e];rfl
   have c:Ht G (a.xt tl s) (bif a.f.bd.has then .two false u a.f.bd.cty else u):=by
    have:=c (by rw[e];rfl);rw[e]at this;exact this
   show Ht G (bif a.f.bd.has then .n2 .app (.lam (.two false a.f.qs a.f.bd.cty) (b.xt tl ((s.bind.var (.n1 .fst (.v 0))).hyp (.n1 .snd (.v 0))))) (a.xt tl s)else .n2 .app (.lam a.f.qs (b.xt tl (s.bind.var (.v 0)).bare)) (a.xt tl s)) b.f.cty;subst r;rw[eq];cases F:a.f.bd.has<;>rw[F]at c
   ·have I:=(((T.bind S u).var S.bind (xD G u)).bare A (x:=a.f.bd.er) (by rw[PG];exact F));have J:=(S.bind.var (t:=.v 0) z).bare;exact⟨_,⟨_,rfl,rC B b _ _ _ _ _ (zC g u) p U.1 (by rw[JB,F];exact J) (by rw[IP];exact I) D⟩,c⟩
   have I:=((T.bind S (.two false u a.f.bd.cty)).var S.bind (t:=.n1 .fst (.v 0)) (u:=u) ⟨_,xD G _⟩).hyp A (x:=a.f.bd.er) (t:=.n1 .snd (.v 0)) (by rw[XG];exact⟨_,xD G _⟩);have J:=(S.bind.var (t:=.n1 .fst (.v 0)) (MJ z (by simp[Tm.cnt]))).hyp (t:=.n1 .snd (.v 0)) (MJ z (by simp[Tm.cnt])) true;exact⟨_,⟨_,rfl,rC B b _ _ _ _ _ (zC g u) p U.1 (by rw[JB,F];exact J) (by rw[IP];exact I) D⟩,c⟩
  obtain⟨⟨u,e,p⟩,_,Z,_⟩:=h;have D:b.f.has=true:=by rw[<-SA (pF Z)];exact d
  show Ht G _ f.cty;rw[BC (pF Z)];have eq:a.f.qs=u:=by rw[e];rfl
  have K:a.f.qs.size<=64:=by
   have:=Jt.FKj C;rw[e]at this⊢;exact kD (EA this.shp).1
  show Ht G (bif a.f.bd.has then .n2 .app (.lam a.f.bd.cty (b.xt tl ((s.bind.var a.f.qs.ini).hyp (.v 0)))) (a.xt tl s)else b.xt tl (s.var a.f.qs.ini).bare) b.f.cty;subst r;rw[eq]at K⊢;cases F:a.f.bd.has
  ·have I:=(T.var S (HP u G)).bare A (x:=a.f.bd.er) (by rw[PG];exact F);have J:=(S.var (t:=u.ini) (qF _ K _)).bare;exact rC B b _ _ _ _ _ (zC g u) p U.1 (by rw[JB,F];exact J) (by rw[IP];exact I) D
  have c:Ht G (a.xt tl s) a.f.bd.cty:=by
   have:=c (by rw[e]at F⊢;exact F);rw[e]at this;exact this
  have I:=((T.bind S a.f.bd.cty).var S.bind (HP u _)).hyp A (x:=a.f.bd.er) (t:=.v 0) (by rw[XG];exact xD G _);have J:=(S.bind.var (t:=u.ini) (qF _ K _)).hyp (t:=.v 0) z true;exact⟨_,⟨_,rfl,rC B b _ _ _ _ _ (zC g u) p U.1 (by rw[JB,F];exact J) (by rw[IP];exact I) D⟩,c⟩
 |.impI x a,g,n,o,G,s,r,⟨_,_,_,E⟩,⟨_,_,C⟩,S,T,d=>by
  have A:s.ks.length=(o.map Fm.er).length:=by rw[S.kl];simp
  have z:∀{m:Nat},TK (m+1) (.v 0):=yC;have ex:(o++[x]).map Fm.has=o.map Fm.has++[x.has]:=by rw[List.map_append];rfl
  have M:(o++[x]).map Fm.er=o.map Fm.er++[x.er]:=by rw[List.map_append];rfl
  show Ht G (bif x.has then .lam x.cty (a.xt tl (s.bind.hyp (.v 0)))else a.xt tl s.bare) (bif x.has then .two true x.cty a.f.cty else a.f.cty);subst r;cases F:x.has
  ·exact rC B a g _ _ G _ rfl E C (by rw[ex,F];exact S.bare) (by rw[M];exact T.bare A (by rw[PG];exact F)) d
  exact⟨_,rfl,rC B a g _ _ _ _ rfl E C (by rw[ex,F];exact S.bind.hyp (t:=.v 0) z true) (by rw[M];exact(T.bind S x.cty).hyp A (by rw[XG];exact xD G _)) d⟩
 |.all u w a,g,n,o,G,s,r,⟨_,_,E,_⟩,⟨h64,_,C⟩,S,T,d=>by
  have z:∀{m:Nat},TK (m+1) (.v 0):=yC;subst r;cases u
  ·exact⟨_,rfl,rC B a _ _ _ _ _ (zC g w) E C (by rw[OD];exact S.bind.var (t:=.v 0) z) (by rw[pI];exact(T.bind S w).var S.bind (xD G w)) d⟩
  exact rC B a _ _ _ _ _ (zC g w) E C (by rw[OD];exact S.var (t:=w.ini) (qF _ h64 _)) (by rw[pI];exact T.var S (HP w G)) d
 |.ins u t a f,g,n,o,G,s,r,⟨_,_,E,w,x,P,Q,R⟩,⟨_,_,C,_⟩,S,T,d=>by
  replace d:f.has=true:=d;have H:x.has=true:=by rw[<-SA (iC R)];exact d
  have c:=rC B a g n o G s r E C S T (by rw[Q];cases u<;>exact H);rw[Q]at c;show Ht G _ f.cty;rw[BC (iC R)];cases u
  ·exact⟨w,c,RJ T P⟩
  exact c
 |.ex u x t a,g,n,o,G,s,r,⟨_,_,E,w,y,v,P,Q,V,R⟩,⟨_,_,C,_⟩,S,T,d=>by
  have c:=rC B a g n o G s r E C S T;have M:a.f.er=y.er:=(KJ _ _ R).symm.trans (iC V);subst Q;cases u
  ·show Ht G (bif a.f.has then .n2 .pair (t.ps s.vs s.dep 0) (a.xt tl s)else t.ps s.vs s.dep 0) (bif y.has then .two false w y.cty else w);rw[<-SA M,<-BC M];cases X:a.f.has
   ·exact RJ T P
   exact⟨_,_,rfl,RJ T P,c X⟩
  show Ht G (a.xt tl s) y.cty;rw[<-BC M];exact c (by rw[SA M];exact d)
 |.ind l x t a b f,g,n,o,G,s,r,⟨_,_,⟨_,P⟩,⟨E,_⟩,_,⟨p,_⟩,Q⟩,⟨_,_,_,C,_,⟨ea,eb⟩,N⟩,S,T,d=>by
  replace d:f.has=true:=d;have H:x.has=true:=by rw[<-SA (iC Q)];exact d
  have c:=rC B a g n o G s r E C S T (by rw[SA ea];exact H);rw[BC ea]at c;have A:s.ks.length=(o.map Fm.er).length:=by rw[S.kl];simp
  have z:∀{m:Nat},TK (m+1) (.v 0):=yC;have D:b.f.has=true:=by rw[SA eb];exact H
  have ec:=BC (iC Q);subst r;have A1:=S.bind.var (t:=.v 0) z;have B1:=(T.bind S .nat).var S.bind (xD G .nat);cases l
  ·have J:=A1.bind.hyp (t:=.v 0) z true;have I:=(B1.bind (by rw[zC];exact A1) x.cty).hyp A (x:=x.er) (by rw[XG];exact xD _ _);have L:=rC B b _ _ _ _ _ (zC g .nat) p N (by show ScOK _ ((bA 1 o++[x]).map _) _;rw[JB,H];exact J) (by show ScT _ _ ((bA 1 o++[x]).map _) _;rw[IP];exact I) D;rw[BC eb]at L;exact⟨ec,c,⟨_,rfl,_,rfl,L⟩,RJ T P⟩
  have A2:=A1.bind.var (t:=.v 0) z;have B2:=(B1.bind (by rw[zC];exact A1) .list).var (by rw[zC];exact A1.bind) (xD _ .list);have J:=A2.bind.hyp (t:=.v 0) z true;have I:=(B2.bind (by rw[zC,zC];exact A2) x.cty).hyp A (x:=(x.sh 1 (.ofNat 1)).er) (by rw[XG,BC (JD _ x 1)];exact xD _ _);have L:=rC B b (g++[.nat]++[.list]) _ _ _ _ (by rw[zC,zC]) (by rw[List.append_assoc];exact p) N (by show ScOK _ ((bA 2 o++[x.sh 1 (.ofNat 1)]).map _) _;rw[JB,SA (JD _ x 1),H];exact J) (by show ScT _ _ ((bA 2 o++[x.sh 1 (.ofNat 1)]).map _) _;rw[IP];exact I) D;rw[BC eb]at L;exact⟨ec,c,⟨_,rfl,_,rfl,_,rfl,L⟩,RJ T P⟩
 |.subst x a b f,g,n,o,G,s,r,⟨_,_,E,p,_⟩,⟨_,_,C,N,e,t,u,_,V⟩,S,T,d=>by
  have M:f.er=b.f.er:=(iC V).trans e.symm;show Ht G (b.xt tl s) f.cty;rw[BC M];exact rC B b g n o G s r p N S T (by rw[<-SA M];exact d)
abbrev Tm.u1(t:Tm):Tm:=t.sh 0 (.ofNat 1)
abbrev Tm.ap(t:Tm):Tm:=.n2 .app t.u1 (.v 0)
def cs(t:Tm)(σ:Nat->Tm):Nat->Tm|0=>t|i+1=>σ i
abbrev NB(σ:Nat->Tm):Nat->Tm:=λi=>(σ i).u1
def rz:Fm->(Nat->Tm)->Tm->Fm
 |.eq a b,σ,_=>.eq (a.sub σ) (b.sub σ)|.bin k x y,σ,t=>match k with|.and=>bif x.has&&y.has then .bin .and (rz x σ (.n1 .fst t)) (rz y σ (.n1 .snd t))else .bin .and (rz x σ t) (rz y σ t)|.imp=>bif x.has then .q .all x.cty (.bin .imp (rz x (NB σ) (.v 0)) (rz y (NB σ) (bif y.has then t.ap else t.u1)))else .bin .imp (rz x σ t) (rz y σ t)
 |.q k s x,σ,t=>match k with|.all=>.q .all s (rz x (cA σ) (bif x.has then t.ap else t.u1))|.allU=>.q .all s (rz x (cA σ) t.u1)|.exU=>.q .exU s (rz x (cA σ) t.u1)|.ex=>bif x.has then rz x (cs (.n1 .fst t) σ) (.n1 .snd t)else rz x (cs t σ) t
def NL(t:Tm)(σ:Nat->Tm):t.u1.sub (cA σ)=(t.sub σ).u1:=by
 rw[Tm.u1,Tm.u1,pC,pC,zE,gG];congr 1;funext i;show(σ i).sh 0 (.ofNat 1)=_;rw[pC]
def gk(σ τ:Nat->Tm):(λi=>(NB σ i).sub (cA τ))=NB λi=>(σ i).sub τ:=by
 funext i;exact NL _ _
def HN(σ τ:Nat->Tm):(λi=>(cA σ i).sub (cA τ))=cA λi=>(σ i).sub τ:=by
 funext i
 cases i with|zero=>rfl|succ i=>exact NL _ _
def lk(t:Tm)(σ τ:Nat->Tm):(λi=>(cs t σ i).sub τ)=cs (t.sub τ) λi=>(σ i).sub τ:=by
 funext i;cases i<;>rfl
def EE:∀(f:Fm)(σ τ:Nat->Tm)(t:Tm),(rz f σ t).sub τ=rz f (λi=>(σ i).sub τ) (t.sub τ)
 |.eq a b,σ,τ,t=>by simp[rz,Fm.sub,iD]|.bin .and x y,σ,τ,t=>by
  simp only[rz];cases x.has&&y.has<;>simp only[cond_true,cond_false,Fm.sub,EE x,EE y,Tm.sub]
 |.bin .imp x y,σ,τ,t=>by
  have c:(bif y.has then t.ap else t.u1).sub (cA τ)=bif y.has then(t.sub τ).ap else(t.sub τ).u1:=by
   cases y.has
   ·exact NL _ _
   simp only[cond_true,Tm.sub,Tm.ap,NL];rfl
  simp only[rz];cases x.has
  ·simp[cond_false,Fm.sub,EE]
  simp only[cond_true,Fm.sub,EE x,EE y,gk,c];rfl
 |.q .all s x,σ,τ,t=>by
  have c:(bif x.has then t.ap else t.u1).sub (cA τ)=bif x.has then(t.sub τ).ap else(t.sub τ).u1:=by
   cases x.has
   ·exact NL _ _
   simp only[cond_true,Tm.sub,Tm.ap,NL];rfl
  simp only[rz,Fm.sub,EE x,HN,c]
 |.q .allU s x,σ,τ,t=>by simp[rz,Fm.sub,EE,HN,NL]|.q .exU s x,σ,τ,t=>by simp[rz,Fm.sub,EE,HN,NL]|.q .ex s x,σ,τ,t=>by
  simp only[rz];cases x.has
  ·simp[cond_false,EE,lk]
  simp[cond_true,EE,lk,Tm.sub]
def HF:∀(f:Fm)(σ:Nat->Tm),(f.sub σ).has=f.has
 |.eq _ _,_=>rfl|.bin k x y,σ=>by cases k<;>simp only[Fm.sub,Fm.has,HF x,HF y]
 |.q k s x,σ=>by cases k<;>simp only[Fm.sub,Fm.has,HF x]
def JP:∀(f:Fm)(σ:Nat->Tm),(f.sub σ).cty=f.cty
 |.eq _ _,_=>rfl|.bin k x y,σ=>by cases k<;>simp only[Fm.sub,Fm.cty,HF,JP x,JP y]
 |.q k s x,σ=>by cases k<;>simp only[Fm.sub,Fm.cty,HF,JP x]
def Kz(a:Tm)(ρ σ:Nat->Tm):(λi=>(ρ i).sub (NB σ))=NB λi=>(ρ i).sub σ:=by
 grind[pC,gG,lE]
def Lz(t:Tm)(ρ σ:Nat->Tm):(λi=>(cA ρ i).sub (cs t σ))=cs t λi=>(ρ i).sub σ:=by
 funext i
 cases i with
 |zero=>rfl|succ i=>
  show((ρ i).sh 0 (.ofNat 1)).sub _=_;rw[pC,zE];rfl
def tG:∀(f:Fm)(ρ σ:Nat->Tm)(t:Tm),rz (f.sub ρ) σ t=rz f (λi=>(ρ i).sub σ) t|.eq a b,ρ,σ,t=>by simp[rz,Fm.sub,iD]|.bin .and x y,ρ,σ,t=>by simp[rz,Fm.sub,HF,tG]|.bin .imp x y,ρ,σ,t=>by simp only[rz,Fm.sub,HF,JP,tG x,tG y,Kz (.v 0)]|.q .all s x,ρ,σ,t=>by simp[rz,Fm.sub,HF,tG,HN]|.q .allU s x,ρ,σ,t=>by simp[rz,Fm.sub,tG,HN]|.q .exU s x,ρ,σ,t=>by simp[rz,Fm.sub,tG,HN]|.q .ex s x,ρ,σ,t=>by simp[rz,Fm.sub,HF,tG,Lz]
theorem IH:∀(f:Fm)(σ:Nat->Tm)(t u:Tm),f.has=false->rz f σ t=rz f σ u
 |.eq a b,σ,t,u,_=>rfl|.bin .and x y,σ,t,u,h=>by
  have h:(x.has||y.has)=false:=h;have d:x.has=false:=by simp_all
  have c:y.has=false:=by rw[d]at h;exact h
  simp only[rz,d,c,Bool.and_false,cond_false,IH x σ t u d,IH y σ t u c]
 |.bin .imp x y,σ,t,u,h=>by
  have c:y.has=false:=h;simp only[rz,c,cond_false];cases d:x.has
  ·simp only[cond_false,IH x σ t u d,IH y σ t u c]
  simp only[cond_true,IH y _ t.u1 u.u1 c]
 |.q .all s x,σ,t,u,h=>by
  have h:x.has=false:=h;simp only[rz,h,cond_false,IH x _ t.u1 u.u1 h]
 |.q .allU s x,σ,t,u,h=>by simp only[rz,IH x _ t.u1 u.u1 h]|.q .exU s x,σ,t,u,h=>by simp only[rz,IH x _ t.u1 u.u1 h]|.q .ex s x,σ,t,u,h=>by cases h
def SJ:∀(f:Fm)(σ:Nat->Tm)(t:Tm),(rz f σ t).has=false
 |.eq a b,σ,t=>rfl|.bin .and x y,σ,t=>by
  simp only[rz];cases x.has&&y.has<;>simp only[cond_true,cond_false,Fm.has,SJ x,SJ y,Bool.or_false]
 |.bin .imp x y,σ,t=>by
  simp only[rz];cases x.has<;>simp only[cond_true,cond_false,Fm.has,SJ x,SJ y]
 |.q .all s x,σ,t=>by simp[rz,Fm.has,SJ]|.q .allU s x,σ,t=>by simp[rz,Fm.has,SJ]|.q .exU s x,σ,t=>by simp[rz,Fm.has,SJ]|.q .ex s x,σ,t=>by
  simp only[rz];cases x.has<;>simp only[cond_true,cond_false,SJ x]
def Ps.lam(s:Ty){a b:Tm}(h:Ps a b):Ps (.lam s a) (.lam s b):=by
 induction h with|refl=>exact .refl _|step p _ c=>exact .step (.lam s p) c
def Ps.n1(k:K1){a b:Tm}(h:Ps a b):Ps (.n1 k a) (.n1 k b):=by
 induction h with|refl=>exact .refl _|step p _ c=>exact .step (.n1 k p) c
def Ps.n2l(k:K2){a b:Tm}(h:Ps a b)(c:Tm):Ps (.n2 k a c) (.n2 k b c):=by
 induction h with|refl=>exact .refl _|step p _ d=>exact .step (.n2 k p (.refl c)) d
def Ps.n2r(k:K2)(c:Tm){a b:Tm}(h:Ps a b):Ps (.n2 k c a) (.n2 k c b):=by
 induction h with|refl=>exact .refl _|step p _ d=>exact .step (.n2 k (.refl c) p) d
def Ps.n3a(k:K3)(s:Ty){a b:Tm}(h:Ps a b)(c d:Tm):Ps (.n3 k s a c d) (.n3 k s b c d):=by
 induction h with|refl=>exact .refl _|step p _ e=>exact .step (.n3 k s p (.refl c) (.refl d)) e
def Ps.n3b(k:K3)(s:Ty)(c:Tm){a b:Tm}(h:Ps a b)(d:Tm):Ps (.n3 k s c a d) (.n3 k s c b d):=by
 induction h with|refl=>exact .refl _|step p _ e=>exact .step (.n3 k s (.refl c) p (.refl d)) e
def Ps.n3c(k:K3)(s:Ty)(c d:Tm){a b:Tm}(h:Ps a b):Ps (.n3 k s c d a) (.n3 k s c d b):=by
 induction h with|refl=>exact .refl _|step p _ e=>exact .step (.n3 k s (.refl c) (.refl d) p) e
def Cv.lam(s:Ty){a b:Tm}:Cv a b->Cv (.lam s a) (.lam s b):=λ⟨w,h,k⟩=>⟨_,h.lam s,k.lam s⟩
def Cv.n1(k:K1){a b:Tm}:Cv a b->Cv (.n1 k a) (.n1 k b):=λ⟨w,h,l⟩=>⟨_,h.n1 k,l.n1 k⟩
def Cv.n2(k:K2){a b c d:Tm}:Cv a b->Cv c d->Cv (.n2 k a c) (.n2 k b d):=λ⟨w,h,l⟩ ⟨x,m,n⟩=>⟨.n2 k w x,(h.n2l k c).trans (m.n2r k w),(l.n2l k d).trans (n.n2r k w)⟩
def Cv.n3(k:K3)(s:Ty){a b c d e f:Tm}:Cv a b->Cv c d->Cv e f->Cv (.n3 k s a c e) (.n3 k s b d f):=λ⟨w,h,l⟩ ⟨x,m,n⟩ ⟨y,o,p⟩=>⟨.n3 k s w x y,((h.n3a k s c e).trans (m.n3b k s w e)).trans (o.n3c k s w x),((l.n3a k s d f).trans (n.n3b k s w f)).trans (p.n3c k s w x)⟩
def Cv.u1{a b:Tm}(h:Cv a b):Cv a.u1 b.u1:=by
 rw[Tm.u1,Tm.u1,pC,pC,EF,EF];exact h.sub _
def Cv.up{σ τ:Nat->Tm}(h:∀i,Cv (σ i) (τ i)):∀i,Cv (cA σ i) (cA τ i)|0=>.refl _|i+1=>(h i).u1
def Cv.subst:∀(t:Tm){σ τ:Nat->Tm},(∀i,Cv (σ i) (τ i))->Cv (t.sub σ) (t.sub τ)|.v i,_,_,h=>h i|.n0 k,_,_,_=>.refl _|.lam s b,_,_,h=>(Cv.subst b (Cv.up h)).lam s|.n1 k a,_,_,h=>(Cv.subst a h).n1 k|.n2 k a b,_,_,h=>(Cv.subst a h).n2 k (Cv.subst b h)|.n3 k s a b c,_,_,h=>(Cv.subst a h).n3 k s (Cv.subst b h) (Cv.subst c h)
def Cv.ap{a b:Tm}(h:Cv a b):Cv a.ap b.ap:=h.u1.n2 .app (.refl _)
def Cv.cs{a b:Tm}(h:Cv a b){σ τ:Nat->Tm}(k:∀i,Cv (σ i) (τ i)):∀i,Cv (cs a σ i) (cs b τ i)|0=>h|i+1=>k i
def sE:∀(f:Fm){σ τ:Nat->Tm}{t u:Tm},(∀i,Cv (σ i) (τ i))->Cv t u->FCv (rz f σ t) (rz f τ u)
 |.eq a b,σ,τ,t,u,h,_=>.eq (Cv.subst a h) (Cv.subst b h)|.bin .and x y,σ,τ,t,u,h,k=>by
  simp only[rz];cases x.has&&y.has
  ·exact .bin .and (sE x h k) (sE y h k)
  exact .bin .and (sE x h (k.n1 .fst)) (sE y h (k.n1 .snd))
 |.bin .imp x y,σ,τ,t,u,h,k=>by
  simp only[rz];cases x.has
  ·exact .bin .imp (sE x h k) (sE y h k)
  refine .q .all _ (.bin .imp (sE x (λi=>(h i).u1) (.refl _)) (sE y (λi=>(h i).u1) ?_));cases y.has
  ·exact k.u1
  exact k.ap
 |.q .all s x,σ,τ,t,u,h,k=>by
  refine .q .all s (sE x (Cv.up h) ?_);cases x.has
  ·exact k.u1
  exact k.ap
 |.q .allU s x,σ,τ,t,u,h,k=>.q .all s (sE x (Cv.up h) k.u1)|.q .exU s x,σ,τ,t,u,h,k=>.q .exU s (sE x (Cv.up h) k.u1)|.q .ex s x,σ,τ,t,u,h,k=>by
  simp only[rz];cases x.has
  ·exact sE x (k.cs h) k
  exact sE x ((k.n1 .fst).cs h) (k.n1 .snd)
def FCv.cond(x:Bool){a b c d:Fm}(h:FCv a b)(k:FCv c d):FCv (bif x then a else c) (bif x then b else d):=by cases x<;>assumption
def TJ{f g:Fm}(h:FCv f g):∀(σ:Nat->Tm)(t:Tm),FCv (rz f σ t) (rz g σ t):=by
 induction h with
 |eq h k=>exactλσ t=>.eq (h.sub σ) (k.sub σ)|bin k c e a b=>
  intro σ t;cases k
  ·simp only[rz,c.has,e.has];exact .cond _ (.bin .and (a _ _) (b _ _)) (.bin .and (a _ _) (b _ _))
  simp only[rz,c.has,e.has,BC c.er];exact .cond _ (.q .all _ (.bin .imp (a _ _) (b _ _))) (.bin .imp (a _ _) (b _ _))
 |q k s h d=>
  intro σ t;cases k<;>simp only[rz,h.has]
  ·exact .q .all s (d _ _)
  ·grind
  ·exact .q .all s (d _ _)
  exact .q .exU s (d _ _)
def JH:∀(f:Fm)(g:List Ty),f.tq g->f.hq g|.eq a b,g,h=>⟨rE a g _ h.1,rE b g _ h.2⟩|.bin _ f h,g,k=>⟨JH f g k.1,JH h g k.2⟩|.q _ s f,g,h=>JH f _ h
def Hg.u1{g G:List Ty}{σ:Nat->Tm}(h:Hg g G σ)(s:Ty):Hg g (G++[s]) (NB σ):=λi u e=>jE s (h i u e)
def Hg.cs{g G:List Ty}{σ:Nat->Tm}(h:Hg g G σ){t:Tm}{s:Ty}(a:Ht G t s):Hg (g++[s]) G (cs t σ):=λi u e=>by
 cases i with
 |zero=>rw[pG]at e;cases e;exact a
 |succ i=>rw[rG]at e;exact h i u e
theorem nk{G:List Ty}{t:Tm}{s u:Ty}(h:Ht G t (.two true s u)):Ht (G++[s]) t.ap u:=⟨s,jE s h,xD G s⟩
def OC:∀(f:Fm)(g G:List Ty)(σ:Nat->Tm)(t:Tm),f.hq g->Hg g G σ->(f.has=true->Ht G t f.cty)->(rz f σ t).hq G
 |.eq a b,g,G,σ,t,h,c,_=>⟨DE a g G σ _ c h.1,DE b g G σ _ c h.2⟩|.bin .and x y,g,G,σ,t,h,c,d=>by
  simp only[rz];simp only[Fm.has,Fm.cty]at d;cases i:x.has<;>cases j:y.has<;>simp only[i,j,Bool.or_false,Bool.or_true,Bool.and_false,Bool.and_true,cond_true,cond_false,forall_const]at d⊢
  ·exact⟨OC x g G σ t h.1 c (λe=>by rw[i]at e;cases e),OC y g G σ t h.2 c (λe=>by rw[j]at e;cases e)⟩
  ·exact⟨OC x g G σ t h.1 c (λe=>by rw[i]at e;cases e),OC y g G σ t h.2 c λ_=>d⟩
  ·exact⟨OC x g G σ t h.1 c λ_=>d,OC y g G σ t h.2 c (λe=>by rw[j]at e;cases e)⟩
  exact⟨OC x g G σ _ h.1 c λ_=>⟨_,d⟩,OC y g G σ _ h.2 c λ_=>⟨_,d⟩⟩
 |.bin .imp x y,g,G,σ,t,h,c,d=>by
  simp only[rz];simp only[Fm.has,Fm.cty]at d;cases i:x.has
  ·simp only[i,cond_false]at d⊢;exact⟨OC x g G σ t h.1 c (λe=>by rw[i]at e;cases e),OC y g G σ t h.2 c d⟩
  refine⟨OC x g _ _ _ h.1 (c.u1 _) λ_=>xD G _,OC y g _ _ _ h.2 (c.u1 _) λe=>?_⟩
  grind[nk]
 |.q .all s x,g,G,σ,t,h,c,d=>OC x _ _ _ _ h (c.up s) λe=>by rw[e];exact nk (d e)|.q .allU s x,g,G,σ,t,h,c,d=>OC x _ _ _ _ h (c.up s) λe=>jE s (d e)|.q .exU s x,g,G,σ,t,h,c,d=>OC x _ _ _ _ h (c.up s) λe=>jE s (d e)|.q .ex s x,g,G,σ,t,h,c,d=>by
  simp only[rz];have d:=d rfl;simp only[Fm.cty]at d;cases i:x.has<;>simp only[i,cond_true,cond_false]at d⊢
  ·exact OC x _ G _ _ h (c.cs d) (λe=>by rw[i]at e;cases e)
  exact OC x _ G _ _ h (c.cs ⟨_,d⟩) λ_=>⟨_,d⟩
open Go.Lg
def sS(s:Sc):Nat->Tm:=λi=>(Tm.v i).ps s.vs s.dep 0
def ZV{σ τ:Nat->Tm}{n:Nat}(h:∀i,i<n->σ i=τ i):∀i,i<n+1->cA σ i=cA τ i|0,_=>rfl|i+1,k=>by show(σ i).sh 0 _=(τ i).sh 0 _;rw[h i (by omega)]
def Mz{σ τ:Nat->Tm}{n:Nat}(t:Tm)(h:∀i,i<n->σ i=τ i):∀i,i<n+1->cs t σ i=cs t τ i|0,_=>rfl|i+1,k=>h i (by omega)
def ik{t:Tm}{n:Nat}(a:t.sc n){σ τ:Nat->Tm}(h:∀i,i<n->σ i=τ i):t.sub σ=t.sub τ:=lE t σ τ λi b=>h i (LR a b)
theorem vE:∀(f:Fm)(n:Nat)(σ τ:Nat->Tm)(t:Tm),f.sc n->(∀i,i<n->σ i=τ i)->rz f σ t=rz f τ t
 |.eq a b,n,σ,τ,t,c,h=>by simp only[rz,ik c.1 h,ik c.2 h]|.bin .and x y,n,σ,τ,t,c,h=>by simp only[rz,vE x n σ τ _ c.1 h,vE y n σ τ _ c.2 h]|.bin .imp x y,n,σ,τ,t,c,h=>by
  have d:∀i,i<n->NB σ i=NB τ i:=λi e=>congrArg Tm.u1 (h i e)
  simp only[rz,vE x n σ τ _ c.1 h,vE y n σ τ _ c.2 h,vE x n _ _ _ c.1 d,vE y n _ _ _ c.2 d]
 |.q .all s x,n,σ,τ,t,c,h=>by simp only[rz,vE x _ _ _ _ c (ZV h)]|.q .allU s x,n,σ,τ,t,c,h=>by simp only[rz,vE x _ _ _ _ c (ZV h)]|.q .exU s x,n,σ,τ,t,c,h=>by simp only[rz,vE x _ _ _ _ c (ZV h)]|.q .ex s x,n,σ,τ,t,c,h=>by simp only[rz,vE x _ _ _ _ c (Mz _ h)]
def nb{n:Nat}{a:List Bool}{s:Sc}(h:ScOK n a s):∀i,i<n->sS s.bind i=(sS s i).u1:=λi a=>IV h.ve (show(Tm.v i).sc s.vs.length by rw[h.vl];exact a)
def xk{n:Nat}{a:List Bool}{s:Sc}(h:ScOK n a s)(t:Tm):∀i,i<n+1->sS (s.var t) i=cs t (sS s) i
 |0,_=>OR _ _ _|i+1,k=>by
  exact JV s.vs s.dep (t,s.dep) (show(Tm.v i).sc s.vs.length by rw[h.vl];show i<n;omega)
def Ak(f:Fm)(σ:Nat->Tm)(t:Tm):(rz f σ t).sh 0 (.ofNat 1)=rz f (NB σ) t.u1:=by
 have e:∀a:Tm,a.sub (λi=>Tm.v (i+1))=a.u1:=λa=>by rw[Tm.u1,pC,EF]
 rw[mE,GN,sG,EE,e];simp_all
def WR(f:Fm)(σ:Nat->Tm)(u t:Tm):rz (f.sh 0 (.ofNat 1)) (cs u σ) t=rz f σ t:=by
 rw[mE,GN,sG,tG];rfl
def Jt.W(d:List Fm):List Ty->List Fm->Jt->Prop
 |_,c,.leaf u i f=>match u with|false=>i<c.length/\∃x,c[c.length-1-i]? =some x/\FCv x f|true=>∃x,d[i]? =some x/\FCv x f
 |g,_,.refl t=>Ht g t .nat|g,c,.p1 k a f=>a.W d g c/\match k with
  |.andL=>∃y,FCv a.f (.bin .and f y)|.andR=>∃x,FCv a.f (.bin .and x f)|.choice=>∃s u x,FCv a.f (.q .all s (.q .ex u x))/\FCv f (.q .ex (.two true s u) (.q .all s ((x.sh 2 (.ofNat 1)).put 0 vapp 0)))
 |g,c,.p2 k a b f=>a.W d g c/\match k with
  |.andI=>b.W d g c/\FCv f (.bin .and a.f b.f)|.impE=>b.W d g c/\∃x,FCv a.f (.bin .imp x f)/\FCv x b.f|.exE=>∃s x y,FCv a.f (.q .ex s x)/\b.W d (g++[s]) (bA 1 c++[x])/\FCv b.f y/\y.occ 0=0/\FCv f y.low|.exUE=>(∃s x y,FCv a.f (.q .exU s x)/\b.W d (g++[s]) (bA 1 c++[x])/\FCv b.f y/\y.occ 0=0/\FCv f y.low)/\b.f.has=false
 |g,c,.impI x a=>x.hq g/\a.W d g (c++[x])|g,c,.all u s a=>a.W d (g++[s]) (bA 1 c)/\u=false|g,c,.ins u t a f=>a.W d g c/\∃s x,Ht g t s/\FCv a.f (.q (aq u) s x)/\FCv f (x.put 0 t 0)|g,c,.ex u x t a=>x.hq g/\a.W d g c/\∃s y,Ht g t s/\x=.q (AH u) s y/\FCv (y.put 0 t 0) a.f|g,c,.ind l x t a b f=>x.hq (g++[lT l])/\Ht g t (lT l)/\(a.W d g c/\FCv (x.put 0 (l0 l) 0) a.f)/\(b.W d (g++lG l) (xJ c x l)/\FCv ((x.sh 1 (.ofNat (lN l))).put 0 (l1 l) 0) b.f)/\FCv f (x.put 0 t 0)|g,c,.subst x a b f=>x.hq (g++[.nat])/\a.W d g c/\b.W d g c/\∃t u,FCv a.f (.eq t u)/\FCv (x.put 0 t 0) b.f/\FCv f (x.put 0 u 0)
def Sc.skip(s:Sc):Sc:=⟨s.dep,s.hyps+1,s.vs,s.ks⟩
structure SoT(G g:List Ty)(hs HS:List Fm)(s:Sc):Prop where
 S:ScOK g.length (hs.map Fm.has) s
 T:ScT G g (hs.map Fm.er) s
 d:G.length=s.dep
 h:HS.length=s.hyps
 sc:∀f∈hs,f.sc g.length
 q:∀f∈hs,f.tq g
 p:∀i f,i<hs.length->hs[hs.length-1-i]? =some f->∃y x,s.ks[s.ks.length-1-i]? =some y/\HS[y.pl]? =some x/\FCv x (rz f (sS s) (s.hy i))
variable{G g:List Ty}{hs HS:List Fm}{s:Sc}
theorem SoT.bind(H:SoT G g hs HS s)(u:Ty):SoT (G++[u]) g hs (bA 1 HS) s.bind:=by
 refine⟨H.S.bind,H.T.bind H.S u,by simp[Sc.bind,H.d],by simp[Sc.bind,H.h],H.sc,H.q,λi f a e=>?_⟩;obtain⟨y,x,b,c,d⟩:=H.p i f a e;refine⟨y,x.sh 0 (.ofNat 1),b,by rw[bA,List.getElem?_map,c];rfl,?_⟩;rw[KV H.S,vE f _ _ (NB (sS s)) _ (H.sc f (List.mem_of_getElem? e)) (nb H.S),<-Ak];exact d.sh 0 1
theorem SoT.var(H:SoT G g hs HS s){t:Tm}{u:Ty}(c:Ht G t u)(d:TK s.dep t):SoT G (g++[u]) (bA 1 hs) HS (s.var t):=by
 have h:=H.S.var d;refine⟨by rw[OD,zC];exact h,by rw[pI];exact H.T.var H.S c,H.d,H.h,λf j=>?_,VV (ML g u) H.q,λi f a e=>?_⟩
 ·obtain⟨x,k,rfl⟩:=List.mem_map.1 j;rw[zC];exact xI 1 x 0 _ (H.sc x k)
 rw[bA,List.length_map]at a e;rw[List.getElem?_map]at e;obtain⟨x0,b,rfl⟩:=Option.map_eq_some_iff.1 e;obtain⟨y,x,l,m,n⟩:=H.p i x0 a b;refine⟨y,x,l,m,?_⟩;rw[vE (x0.sh 0 (.ofNat 1)) _ _ (cs t (sS s)) _ (xI 1 x0 0 _ (H.sc x0 (List.mem_of_getElem? b))) (xk H.S t),WR];exact n
def SoT.psh(H:SoT G g hs HS s){x y:Fm}{k:Hy}(c:ScOK g.length ((hs++[x]).map Fm.has) ⟨s.dep,s.hyps+1,s.vs,s.ks++[k]⟩)(d:ScT G g ((hs++[x]).map Fm.er) ⟨s.dep,s.hyps+1,s.vs,s.ks++[k]⟩)(j:x.sc g.length)(hq:x.tq g)(l:k.pl=s.hyps){v:Tm}(m:(⟨s.dep,s.hyps+1,s.vs,s.ks++[k]⟩:Sc).hy 0=v)(n:FCv y (rz x (sS s) v)):SoT G g (hs++[x]) (HS++[y]) ⟨s.dep,s.hyps+1,s.vs,s.ks++[k]⟩:=by
 have w:s.ks.length=hs.length:=by have:=H.S.kl;simpa using this
 refine⟨c,d,H.d,by simp[H.h],λf h=>?_,WV H.q hq,λi f a e=>?_⟩
 ·rcases List.mem_append.1 h with h|h
  ·exact H.sc f h
  simp at h;subst h;exact j
 cases i with
 |zero=>
  refine⟨k,y,by simp,by rw[l,<-H.h];simp,?_⟩;have:x=f:=by simpa using e
  subst this;rw[m];exact n
 |succ i=>
  have a:i<hs.length:=by simpa using a
  have o:hs[hs.length-1-i]? =some f:=by
   rw[<-e,List.length_append];simp only[List.length_cons,List.length_nil];rw[show hs.length+(0+1)-1-(i+1)=hs.length-1-i by omega,List.getElem?_append_left (by omega)]
  obtain⟨p,r,t,b,u⟩:=H.p i f a o;refine⟨p,r,?_,?_,?_⟩
  ·simp only[List.length_append,List.length_cons,List.length_nil];rw[show s.ks.length+(0+1)-1-(i+1)=s.ks.length-1-i by omega,List.getElem?_append_left (by omega)];exact t
  ·rw[List.getElem?_append_left (List.getElem?_eq_some_iff.1 b).1];exact b
  rw[DP s k 0 _ i];exact u
theorem SoT.hyp(H:SoT G g hs HS s){x y:Fm}{t:Tm}(a:x.sc g.length)(hq:x.tq g)(c:Ht G t x.cty)(d:TK s.dep t)(e:FCv y (rz x (sS s) t))(b:x.has=true):SoT G g (hs++[x]) (HS++[y]) (s.hyp t):=by
 have f:s.ks.length=(hs.map Fm.er).length:=by rw[H.S.kl];simp
 refine H.psh (by rw[List.map_append];exact H.S.hyp d _) (by rw[List.map_append];exact H.T.hyp f (by rw[XG];exact c)) a hq rfl (v:=t) ?_ e;rw[DN];simp only[Nat.sub_self,gE]
theorem SoT.bare(H:SoT G g hs HS s){x y:Fm}(a:x.sc g.length)(hq:x.tq g)(b:x.has=false)(c:FCv y (rz x (sS s) (.n0 .unit))):SoT G g (hs++[x]) (HS++[y]) s.bare:=by
 have d:s.ks.length=(hs.map Fm.er).length:=by rw[H.S.kl];simp
 exact H.psh (by rw[List.map_append];show ScOK _ (_++[x.has]) _;rw[b];exact H.S.bare) (by rw[List.map_append];exact H.T.bare d (by rw[PG];exact b)) a hq rfl (DN _ _ _) c
theorem SoT.skip(H:SoT G g hs HS s)(y:Fm):SoT G g hs (HS++[y]) s.skip:=
 ⟨⟨H.S.vl,H.S.kl,H.S.ve,H.S.ke,H.S.kh⟩,⟨H.T.v,H.T.k⟩,H.d,by simp[Sc.skip,H.h],H.sc,H.q,λi f b e=>by
  obtain⟨k,x,c,a,d⟩:=H.p i f b e;exact⟨k,x,c,by rw[List.getElem?_append_left (List.getElem?_eq_some_iff.1 a).1];exact a,d⟩⟩
end Go.Proofs.YtjobiknipefjdaaGreatDoor
namespace Go.Proofs.YtjobiknipefjdaaGreatDoor
open Go.Lg
set_option maxRecDepth 100000
def ou(t:Tm)(p:Jt):Jt:=.ins false t p (match p.f with|.q _ _ x=>x.put 0 t 0|f=>f)
def im(p q:Jt):Jt:=.p2 .impE p q (match p.f with|.bin _ _ y=>y|f=>f)
def un(x:Fm)(b:Sc->Jt)(s:Sc):Jt:=bif x.has then .all false x.cty (.impI (rz x (sS s.bind) (.v 0)) (b (s.bind.hyp (.v 0))))else .impI (rz x (sS s) (.n0 .unit)) (b s.bare)
def Jt.tx(tl:List Tm)(j:Jt)(s:Sc):Tm:=bif j.f.has then j.xt tl s else .n0 .unit
def Sc.pl(s:Sc)(i:Nat):Nat:=s.hyps-1-(match s.ks[s.ks.length-1-i]? with|some y=>y.pl|none=>0)
abbrev sv(s:Sc):Sc:=s.bind.var (.v 0)
def Jt.pv(tl:List Tm):Jt->Sc->Jt
 |.leaf u i f,s=>match u with|false=>.leaf false (s.pl i) (rz f (sS s) (s.hy i))|true=>.leaf true i (rz f (sS s) (Jt.xt tl (.leaf true i f) s))
 |.refl t,s=>.refl (t.ps s.vs s.dep 0)|.p1 k a _,s=>match k with|.andL=>.p1 .andL (a.pv tl s) (match (a.pv tl s).f with|.bin _ x _=>x|f=>f)|.andR=>.p1 .andR (a.pv tl s) (match (a.pv tl s).f with|.bin _ _ y=>y|f=>f)|.choice=>a.pv tl s
 |.p2 k a b f,s=>match k with|.andI=>.p2 .andI (a.pv tl s) (b.pv tl s) (.bin .and (a.pv tl s).f (b.pv tl s).f)|.impE=>im (bif b.f.has then ou (b.xt tl s) (a.pv tl s)else a.pv tl s) (b.pv tl s)|.exE=>im (bif a.f.bd.has then ou (.n1 .snd (a.xt tl s)) (ou (.n1 .fst (a.xt tl s)) (.all false a.f.qs (un a.f.bd (b.pv tl) (sv s))))else ou (a.xt tl s) (.all false a.f.qs (un a.f.bd (b.pv tl) (sv s)))) (a.pv tl s)|.exUE=>.p2 .exUE (a.pv tl s) (bif a.f.bd.has then im (ou (a.xt tl s.bind) (un a.f.bd (b.pv tl) (sv s).skip)) (.leaf false 0 (rz a.f.bd (sS (sv s)) (a.xt tl s.bind)))else b.pv tl (sv s).bare) (rz f (sS s) (Jt.xt tl (.p2 .exUE a b f) s))
 |.impI x a,s=>un x (a.pv tl) s|.all _ w a,s=>.all false w (a.pv tl (sv s))|.ins _ t a _,s=>ou (t.ps s.vs s.dep 0) (a.pv tl s)|.ex u x t a,s=>match u with|false=>a.pv tl s|true=>.ex true (.q .exU x.qs (rz x.bd (sS (sv s)) (a.tx tl s.bind))) (t.ps s.vs s.dep 0) (a.pv tl s)
 |.ind l x t a b f,s=>.ind l (rz x (sS (sv s)) (bif x.has then YC tl l x a b s.bind (.v 0)else .n0 .unit)) (t.ps s.vs s.dep 0) (a.pv tl s) (match l with
   |false=>bif x.has then im (ou (YC tl l x a b s.bind (.v 0)) (un x (b.pv tl) (sv s).skip)) (.leaf false 0 (rz x (sS (sv s)) (YC tl l x a b s.bind (.v 0))))else b.pv tl (sv s).bare|true=>bif x.has then im (ou (YC tl l x a b s.bind.bind (.v 0)) (un (x.sh 1 (.ofNat 1)) (b.pv tl) (sv (sv s)).skip)) (.leaf false 0 (rz (x.sh 1 (.ofNat 1)) (sS (sv (sv s))) (YC tl l x a b s.bind.bind (.v 0))))else b.pv tl (sv (sv s)).bare) (rz f (sS s) (Jt.xt tl (.ind l x t a b f) s))
 |.subst x a b f,s=>.subst (rz x (sS (sv s)) (b.tx tl s.bind)) (a.pv tl s) (b.pv tl s) (rz f (sS s) (b.xt tl s))
def YR(t u:Tm):t.u1.sub (λi=>(Tm.v i).put 0 u 0)=t:=by
 rw[Tm.u1,pC,zE];simp[lE,QR,xC]
def IN(t u:Tm):t.u1.put 0 u 0=t:=by rw[NC];exact YR t u
def Bk(t u:Tm):t.ap.put 0 u 0=.n2 .app t u:=by
 show Tm.n2 .app (t.u1.put 0 u 0) ((Tm.v 0).put 0 u 0)=_;rw[IN,oD]
def OL(f:Fm)(σ:Nat->Tm)(t u:Tm):(rz f (NB σ) t).put 0 u 0=rz f σ (t.put 0 u 0):=by
 rw[dD,EE,<-NC];simp[congr,funext,YR]
def ZR(f:Fm)(σ:Nat->Tm)(t u:Tm):(rz f (cA σ) t).put 0 u 0=rz f (cs u σ) (t.put 0 u 0):=by
 rw[dD,EE,<-NC];congr 1;funext i
 cases i with|zero=>exact oD u|succ i=>exact YR _ _
def PC{f:Fm}{σ:Nat->Tm}{t u:Tm}(h:f.has=true->Cv t u):FCv (rz f σ t) (rz f σ u):=by
 cases e:f.has
 ·rw[IH f σ t u e];exact .refl _
 exact sE f (λ_=>.refl _) (h e)
theorem Cv.of{a b:Tm}(h:Par a b):Cv a b:=⟨b,.step h (.refl _),.refl b⟩
def qW(s:Ty)(b:Tm):Cv (Tm.lam s b).ap b:=by
 have h:=Par.beta s (Par.refl (b.sh 1 (.ofNat 1))) (Par.refl (.v 0));have e:(b.sh 1 (.ofNat 1)).put 0 (.v 0) 0=b:=by
  rw[NC,eD,zE];refine(lE _ _ Tm.v λi _=>?_).trans (xC b)
  grind[oD,QR]
 rw[e]at h;exact .of h
def FCv.ofBin{f:Fm}{k:FB}{x y:Fm}(h:FCv f (.bin k x y)):∃a b,f=.bin k a b/\FCv a x/\FCv b y:=by
 cases h with|bin _ h k=>grind
def FCv.ofQ{f:Fm}{k:FQ}{s:Ty}{x:Fm}(h:FCv f (.q k s x)):∃a,f=.q k s a/\FCv a x:=by
 cases h with|q _ _ h=>simp_all
section
variable{ls:List Fm}{G:List Ty}{HS:List Fm}{p q:Jt}
def PL{s:Ty}{t:Tm}{X:Fm}(d:p.W ls G HS)(e:FCv p.f (.q .all s X))(g:Ht G t s):(ou t p).W ls G HS/\FCv (ou t p).f (X.put 0 t 0):=by
 obtain⟨a,b,h⟩:=e.ofQ;have c:(ou t p).f=a.put 0 t 0:=by show(match p.f with|.q _ _ x=>x.put 0 t 0|f=>f)=_;rw[b]
 refine⟨⟨d,s,a,g,by rw[b];exact .refl _,?_⟩,by rw[c];exact h.put t 0 0⟩;show FCv (ou t p).f _;rw[c];exact .refl _
def KP{X Y:Fm}(d:p.W ls G HS)(hq:q.W ls G HS)(e:FCv p.f (.bin .imp X Y))(h:FCv X q.f):(im p q).W ls G HS/\FCv (im p q).f Y:=by
 obtain⟨a,g,b,i,j⟩:=e.ofBin;have c:(im p q).f=g:=by show(match p.f with|.bin _ _ y=>y|f=>f)=_;rw[b]
 refine⟨⟨d,hq,a,?_,i.trans h⟩,by rw[c];exact j⟩;show FCv p.f (.bin .imp a (im p q).f);rw[c,b];exact .refl _
end
def zW:cA Tm.v=Tm.v:=by
 funext i;cases i<;>rfl
def YG:∀p:Pf,PX .v p p|.leaf _ _=>rfl|.refl t=>⟨t,rfl⟩|.p1 _ a=>⟨a,rfl,YG a⟩|.p2 k a b=>⟨a,b,rfl,YG a,by cases k<;>simp only[zW]<;>exact YG b⟩|.impI x a=>⟨x,a,rfl,rfl,YG a⟩|.all _ _ a=>⟨a,rfl,by rw[zW];exact YG a⟩|.ins _ t a=>⟨t,a,rfl,λ_=>(xC t).symm,YG a⟩|.ex _ x t a=>⟨x,t,a,rfl,rfl,λ_=>(xC t).symm,YG a⟩|.ind l x t a b=>⟨x,t,a,b,rfl,rfl,(xC t).symm,YG a,by cases l<;>simp only[zW]<;>exact YG b⟩|.subst x a b=>⟨x,a,b,rfl,rfl,YG a,YG b⟩
def JN(t:Tm)(k:Nat):t.sh 0 (.ofNat k)=t.sub λi=>.v (i+k):=by
 rw[eD,EF];congr 1
def pb(t:Tm)(k:Nat)(τ:Nat->Tm):(t.sh 0 (.ofNat k)).sub τ=t.sub λi=>τ (i+k):=by
 rw[JN,iD];rfl
section
variable{s:Sc}{n:Nat}{bs:List Bool}
def Ck(S:ScOK n bs s)(k:Nat)(es:List (Tm×Nat)){i:Nat}(a:i<n:=by omega):(Tm.v (i+es.length)).ps (s.vs++es) (s.dep+k) 0=(sS s i).sh 0 (.ofNat k):=by
 obtain⟨e,h,b⟩:=GR (vs:=s.vs) (v:=i) (by rw[S.vl];exact a);have c:ent (s.vs++es) (i+es.length)=some e:=by
  unfold ent at h⊢;rw[if_pos (by rw[List.length_append,S.vl];omega),List.length_append,List.getElem?_append_left (by rw[S.vl];omega),<-h]
  grind
 have:=(S.ve e b).1;unfold sS;rw[HH c,HH h,CH]
 grind
def Nz(a:List (Tm×Nat))(t:Tm)(d k:Nat):(Tm.v 0).ps (a++[(t,d)]) (d+k) 0=t.sh 0 (.ofNat k):=by
 rw[HH (BV a (t,d)),Nat.add_sub_cancel_left]
def Ek(S:ScOK n bs s)(k h:Nat)(b:List (Tm×Nat))(a:List Hy){i:Nat}(c:i<bs.length):(⟨s.dep+k,h,b,s.ks++a⟩:Sc).hy (i+a.length)=(s.hy i).sh 0 (.ofNat k):=by
 have:=S.kl;unfold Sc.hy;rw[List.length_append,List.getElem?_append_left (by omega),show s.ks.length+a.length-1-(i+a.length)=s.ks.length-1-i by omega]
 cases e:s.ks[s.ks.length-1-i]? with
 |none=>rfl|some x=>cases x with
  |bare p=>rfl|hy t d p=>
   have:=(S.ke _ (List.mem_of_getElem? e) t d p rfl).1;rw[CH]
   grind
def sb(d h k p:Nat)(a:List (Tm×Nat))(b:List Hy)(t:Tm):(⟨d+k,h,a,b++[.hy t d p]⟩:Sc).hy 0=t.sh 0 (.ofNat k):=by
 simp[Sc.hy]
end
def Oz{d:List Fm}{tl:List Tm}(c:∀(i:Nat)(t:Tm),tl[i]? =some t->t.sc 0){j:Jt}{n:Nat}{a:List Fm}{s b:Sc}{τ:Nat->Tm}(e:j.OK d n a)(S:ScOK n (a.map Fm.has) s)(d:ScOK n (a.map Fm.has) b)(f:j.f.has=true)(g:∀v,j.us v->v<n->(Tm.v v).ps b.vs b.dep 0=((Tm.v v).ps s.vs s.dep 0).sub τ)(h:∀i,i<a.length->b.hy i=(s.hy i).sub τ):j.xt tl b=(j.xt tl s).sub τ:=
 CC c j j n n a a .v τ s b e e rfl (YG j.p) S d ⟨λv b a=>by
  rw[S.vl]at a;exact⟨by rw[d.vl];exact a,g v b a⟩,by rw[S.kl,d.kl],λi a=>h i (by rw[S.kl,List.length_map]at a;exact a)⟩ f
open Go.Lg
def OB{m:Nat}:TK (m+1) (.v 0):=yC (Nat.succ_pos _)
theorem ScOK.skip{n:Nat}{a:List Bool}{s:Sc}(h:ScOK n a s):ScOK n a s.skip:=⟨h.vl,h.kl,h.ve,h.ke,h.kh⟩
section
variable{ls:List Fm}{tl:List Tm}(htl:∀(i:Nat)(t:Tm),tl[i]? =some t->t.sc 0){s:Sc}{n:Nat}{hs hs':List Fm}{j:Jt}
include htl
theorem UJ(S:ScOK n (hs.map Fm.has) s){k1 k2 h1 h2 l:Nat}{es1 es2:List (Tm×Nat)}{xs1 xs2:List Hy}{τ:Nat->Tm}(e:es1.length=l)(f:es2.length=l)(ex:xs1.length=xs2.length)(u:hs'.length=hs.length+xs1.length)(g:j.OK ls (n+l) hs')(h:ScOK (n+l) (hs'.map Fm.has) ⟨s.dep+k1,h1,s.vs++es1,s.ks++xs1⟩)(k:ScOK (n+l) (hs'.map Fm.has) ⟨s.dep+k2,h2,s.vs++es2,s.ks++xs2⟩)(m:j.f.has=true)(d:∀i,τ (i+k1)=.v (i+k2))(o:∀v,v<l->j.us v->(Tm.v v).ps (s.vs++es2) (s.dep+k2) 0=((Tm.v v).ps (s.vs++es1) (s.dep+k1) 0).sub τ)(p:∀i,i<xs1.length->(⟨s.dep+k2,h2,s.vs++es2,s.ks++xs2⟩:Sc).hy i=((⟨s.dep+k1,h1,s.vs++es1,s.ks++xs1⟩:Sc).hy i).sub τ):j.xt tl ⟨s.dep+k2,h2,s.vs++es2,s.ks++xs2⟩=(j.xt tl ⟨s.dep+k1,h1,s.vs++es1,s.ks++xs1⟩).sub τ:=by
 refine Oz htl g h k m (λv r x=>?_) λi y=>?_
 ·by_cases c:v<l
  ·exact o v c r
  obtain⟨w,rfl⟩:∃w,v=w+l:=⟨v-l,by omega⟩;have b:=Ck S k1 es1 (i:=w);have a:=Ck S k2 es2 (i:=w);rw[e]at b;rw[f]at a;rw[b,a,pb,JN];congr 1;funext i;exact(d i).symm
 by_cases c:i<xs1.length
 ·exact p i c
 obtain⟨w,rfl⟩:∃w,i=w+xs1.length:=⟨i-xs1.length,by omega⟩;have b:=Ek S k1 h1 (s.vs++es1) xs1 (i:=w) (by simp;omega);have a:=Ek S k2 h2 (s.vs++es2) xs2 (i:=w) (by simp;omega);rw[<-ex]at a;rw[b,a,pb,JN];congr 1;funext i;exact(d i).symm
theorem QL(S:ScOK n (hs.map Fm.has) s)(a:j.OK ls n hs)(b:j.f.has=true):j.xt tl s.bind=(j.xt tl s).u1:=by
 have h:=UJ htl S (k1:=0) (k2:=1) (h1:=s.hyps) (h2:=s.hyps) (l:=0) (es1:=[]) (es2:=[]) (xs1:=[]) (xs2:=[]) (τ:=λi=>.v (i+1)) rfl rfl rfl rfl a (by simp_all) (by simp only[List.append_nil];exact S.bind) b (λi=>rfl) (λv a=>absurd a (Nat.not_lt_zero v)) (λi a=>absurd a (Nat.not_lt_zero i));simp only[List.append_nil,Nat.add_zero]at h;rw[Tm.u1,JN];exact h
theorem Pz{t:Tm}(S:ScOK n (hs.map Fm.has) s)(a:TK s.dep t)(b:j.OK ls (n+1) (bA 1 hs))(c:¬j.us 0)(c:j.f.has=true):j.xt tl (sv s)=(j.xt tl (s.var t)).u1:=by
 have h:=UJ htl S (hs':=bA 1 hs) (k1:=0) (k2:=1) (h1:=s.hyps) (h2:=s.hyps) (l:=1) (es1:=[(t,s.dep)]) (es2:=[(.v 0,s.dep+1)]) (xs1:=[]) (xs2:=[]) (τ:=λi=>.v (i+1)) rfl rfl rfl (by simp) b (by rw[OD];simp only[List.append_nil];exact S.var a) (by rw[OD];simp only[List.append_nil];exact S.bind.var (t:=.v 0) OB) c (λi=>rfl) (λv a k=>by
  simp_all) (λi a=>absurd a (Nat.not_lt_zero i))
 simp only[List.append_nil,Nat.add_zero]at h;rw[Tm.u1,JN];exact h
theorem Qz{x:Fm}{t:Tm}(S:ScOK n (hs.map Fm.has) s)(b:TK s.dep t)(c:j.OK ls (n+1) (bA 1 hs++[x]))(a:x.has=false)(e:¬j.us 0)(d:j.f.has=true):j.xt tl (sv s).bare=(j.xt tl (s.var t).bare).u1:=by
 have h:=UJ htl S (hs':=bA 1 hs++[x]) (k1:=0) (k2:=1) (h1:=s.hyps+1) (h2:=s.hyps+1) (l:=1) (es1:=[(t,s.dep)]) (es2:=[(.v 0,s.dep+1)]) (xs1:=[.bare s.hyps]) (xs2:=[.bare s.hyps]) (τ:=λi=>.v (i+1)) rfl rfl rfl (by simp) c (by rw[JB,a];exact(S.var b).bare) (by rw[JB,a];exact(S.bind.var (t:=.v 0) OB).bare) d (λi=>rfl) (λv f k=>by
  simp_all) (λi g=>by
  obtain rfl:i=0:=by simp_all
  simp[Sc.hy,Tm.sub])
 rw[Tm.u1,JN];exact h
theorem Rz{x:Fm}{t:Tm}(S:ScOK n (hs.map Fm.has) s)(b:TK (s.dep+1) t)(c:j.OK ls (n+1) (bA 1 hs++[x]))(a:x.has=true)(e:¬j.us 0)(d:j.f.has=true):j.xt tl ((sv s).skip.bind.hyp (.v 0))=(j.xt tl ((s.bind.var t).hyp (.v 0))).sh 1 (.ofNat 1):=by
 have h:=UJ htl S (hs':=bA 1 hs++[x]) (k1:=1) (k2:=2) (h1:=s.hyps+1) (h2:=s.hyps+2) (l:=1) (es1:=[(t,s.dep+1)]) (es2:=[(.v 0,s.dep+1)]) (xs1:=[.hy (.v 0) (s.dep+1) s.hyps]) (xs2:=[.hy (.v 0) (s.dep+2) (s.hyps+1)]) (τ:=λi=>.v (if 1<=i then i+1 else i)) rfl rfl rfl (by simp) c (by rw[JB,a];exact(S.bind.var b).hyp (t:=.v 0) OB true) (by rw[JB,a];exact(S.bind.var (t:=.v 0) OB).skip.bind.hyp (t:=.v 0) OB true) d (λi=>by simp) (λv f k=>by
  simp_all) (λi g=>by
  obtain rfl:i=0:=by simp_all
  rw[show s.dep+2=s.dep+2+0 by rfl,sb,show s.dep+1=s.dep+1+0 by rfl,sb];rfl)
 rw[eD,EF];exact h
end
end Go.Proofs.YtjobiknipefjdaaGreatDoor
