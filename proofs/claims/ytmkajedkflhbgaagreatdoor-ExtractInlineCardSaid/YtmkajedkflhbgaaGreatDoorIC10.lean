/- Contracts of functions; no conditions. -/
import Derived.Test.YtmkajedkflhbgaaGreatDoorIC9
import Derived.Test.YtmkajedkflhbgaaGreatDoorIC7
import Derived.Test.YtmkajedkflhbgaaGreatDoorIC8
set_option linter.all false
set_option maxHeartbeats 4000000
namespace Go.Proofs.YtmkajedkflhbgaaGreatDoor
open Go.Lg
set_option maxRecDepth 100000
structure ScT (G g:List Ty) (es:List Fm) (s:Sc):Prop where
 v:Hg g G λ i=>(Tm.v i).ps s.vs s.dep 0
 k:∀ i f,i<es.length->es[es.length-1-i]? = some f->f.has=true->Ht G (s.hy i) f.cty
variable {G g:List Ty} {es:List Fm} {bs:List Bool} {s:Sc}
theorem ScT.bind (h:ScT G g es s) (S:ScOK g.length bs s) (u:Ty):ScT (G++[u]) g es s.bind :=
 ⟨λ i w e=>by
  have hi:=ZN e;show Ht _ ((Tm.v i).ps s.vs (s.dep+1) 0) w;rw [Ss S.ve (show (Tm.v i).sc s.vs.length by rw [S.vl];exact hi)];exact GY u (h.v i w e),λ i f hi e hf=>by rw [Us S];exact GY u (h.k i f hi e hf)⟩
theorem ScT.var (h:ScT G g es s) (S:ScOK g.length bs s) {t:Tm} {u:Ty} (ht:Ht G t u):ScT G (g++[u]) es (s.var t) :=
 ⟨λ i w e=>by
  cases i with
  | zero =>
   rw [aG] at e;cases e;show Ht G ((Tm.v 0).ps (s.vs++[(t,s.dep)]) s.dep 0) u;rw [Vs];exact ht
  | succ i =>
   rw [YH] at e;have hi:=ZN e;show Ht G ((Tm.v (i+1)).ps (s.vs++[(t,s.dep)]) s.dep 0) w;rw [show Tm.v (i+1)=(Tm.v i).sh 0 (.ofNat 1) by simp [Tm.sh],Ts s.vs s.dep (t,s.dep) (show (Tm.v i).sc s.vs.length by rw [S.vl];exact hi)];exact h.v i w e,h.k⟩
theorem ScT.psh (h:ScT G g es s) (hl:s.ks.length=es.length) {x:Fm} (y:Hy) (m:Nat) (hy:x.has=true->Ht G (match y with | .hy t d _=>t.sh 0 (.ofNat (s.dep-d))|_ => .n0 .unit) x.cty):ScT G g (es++[x]) ⟨s.dep,m,s.vs,s.ks++[y]⟩ :=
 ⟨h.v,λ i f hi e hf=>by
  cases i with
  | zero =>
   rw [Xs];have:x=f:=by simpa using e
   subst this;exact hy hf
  | succ i =>
   have hi:i<es.length:=by simpa using hi
   rw [Ws s y 0 m i];refine h.k i f hi ?_ hf;rw [<- e,List.length_append];simp only [List.length_cons,List.length_nil];rw [show es.length+(0+1)-1-(i+1)=es.length-1-i by omega,List.getElem?_append_left (by omega)]⟩
theorem ScT.hyp (h:ScT G g es s) (hl:s.ks.length=es.length) {x:Fm} {t:Tm} (ht:Ht G t x.cty):ScT G g (es++[x]) (s.hyp t) :=
 h.psh hl (.hy t s.dep s.hyps) _ λ _=>by simp only [Nat.sub_self,tF];exact ht
theorem ScT.bare (h:ScT G g es s) (hl:s.ks.length=es.length) {x:Fm} (hx:x.has=false):ScT G g (es++[x]) s.bare :=
 h.psh hl _ _ λ e=>by rw [hx] at e;cases e
theorem TM:∀ (t:Ty) (G:List Ty),Ht G t.ini t
 | .nat,_=>rfl
 | .list,_=>rfl
 | .unit,_=>rfl
 | .two false a b,G=>⟨a,b,rfl,TM a G,TM b G⟩
 | .two true a b,G=>⟨b,rfl,TM b _⟩
theorem mm {t:Tm} {u:Ty} (h:Ht [] t u) (G:List Ty):Ht G t u:=by
 have:=aE t [] G (λ i=>i) u (λ i s e=>absurd (ZN e) (Nat.not_lt_zero _)) h;rwa [uJ,show (λ i:Nat=>Tm.v i)=Tm.v from rfl,zJ] at this
theorem KF (G:List Ty) (u:Ty):Ht (G++[u]) (.v 0) u:=aG G u
theorem gP (h:ScT G g es s) {t:Tm} {u:Ty} (ht:t.tyR g = .ok u):Ht G (t.ps s.vs s.dep 0) u:=by
 rw [RE];exact WE t g G _ u h.v (VE t g u ht)
theorem pm (G:List Ty) (u w v:Ty):Ht (G++[.two true u (.two false w v)]) (zM u) (.two false (.two true u w) (.two true u v)):=by
 have h1:Ht (G++[.two true u (.two false w v)]++[u]) (.v 1) (.two true u (.two false w v)):=by
  show vB _ (0+1)=_;rw [YH,aG]
 exact⟨_,_,rfl,⟨w,rfl,v,u,h1,KF _ u⟩,⟨v,rfl,w,u,h1,KF _ u⟩⟩
theorem rm {u w:Ty} {x f y:Fm} {t:Tm} (hf:f = .q .ex (.two true u w) (.q .all u y)) (e:y.er=x.er) (ht:Ht G t (Fm.q .all u (.q .ex w x)).cty):Ht G (NT (.q .all u (.q .ex w x)) t) f.cty:=by
 subst hf;show Ht G (bif x.has then .n2 .app (.lam (.two true u (.two false w x.cty)) (zM u)) t else t) (bif y.has then .two false (.two true u w) (.two true u y.cty) else .two true u w);rw [BB e,eF e];have ht:Ht G t (.two true u (bif x.has then .two false w x.cty else w)):=ht;cases hx:x.has<;>rw [hx] at ht
 ·exact ht
 ·exact⟨_,⟨_,rfl,pm G u w x.cty⟩,ht⟩
end Go.Proofs.YtmkajedkflhbgaaGreatDoor
namespace Go.Proofs.YtmkajedkflhbgaaGreatDoor
open Go.Lg
set_option maxRecDepth 100000
theorem UM (hs:List Fm) (x:Fm) (k:Nat):(lA k hs++[x]).map Fm.er=hs.map Fm.er++[x.er]:=by
 rw [List.map_append,yX];rfl
theorem oE (g:List Ty) (u:Ty):(g++[u]).length=g.length+1:=by simp
theorem wD {ls:List Fm} {tl:List Tm} (HT:∀ (i:Nat) (f:Fm),ls[i]? = some f->f.has=true->∃ t,tl[i]? = some t/\Ht [] t f.cty):∀ (j:Jt) (g:List Ty) (n:Nat) (hs:List Fm) (G:List Ty) (s:Sc),g.length=n->j.D ls g hs->j.OK ls n hs->ScOK n (hs.map Fm.has) s->ScT G g (hs.map Fm.er) s->j.f.has=true->Ht G (j.xt tl s) j.f.cty
 | .leaf u i f,g,n,hs,G,s,hn,⟨_,h⟩,_,S,T,hf=>by
  replace hf:f.has=true:=hf;cases u
  ·have:=T.k i f.er (by rw [List.length_map];exact h.1) (by rw [List.length_map,List.getElem?_map,h.2];rfl) (by rw [OG];exact hf);rw [ZG] at this;exact this
  ·obtain⟨t,e,ht⟩:=HT i f h hf;show Ht G (match tl[i]? with|some t=>t|none => .n0 .unit) f.cty;rw [e];exact mm ht G
 | .refl t,_,_,_,_,_,_,_,_,_,_,hf=>by cases hf
 | .p1 k a f,g,n,hs,G,s,hn,⟨_,hD,h⟩,⟨_,hO,_⟩,S,T,hf=>by
  replace hf:f.has=true:=hf;have ih:=wD HT a g n hs G s hn hD hO S T;cases k
  ·obtain⟨y,e⟩:=h;show Ht G (bif a.f.both then .n1 .fst (a.xt tl s) else a.xt tl s) f.cty;rw [e] at ih ⊢;have ih:=ih (by show (f.has || y.has)=true;rw [hf];rfl);simp only [Fm.cty,Fm.both,hf] at ih ⊢;cases hy:y.has<;>rw [hy] at ih
   ·exact ih
   ·exact⟨_,ih⟩
  ·obtain⟨y,e⟩:=h;show Ht G (bif a.f.both then .n1 .snd (a.xt tl s) else a.xt tl s) f.cty;rw [e] at ih ⊢;have ih:=ih (by show (y.has || f.has)=true;rw [hf];simp);simp only [Fm.cty,Fm.both,hf] at ih ⊢;cases hy:y.has<;>rw [hy] at ih
   ·exact ih
   ·exact⟨_,ih⟩
  ·obtain⟨u,w,x,e,_,y,e2,e3⟩:=h;show Ht G (NT a.f (a.xt tl s)) f.cty;rw [e] at ih ⊢;exact rm e3 ((NC e2).trans (QG _ x 2)) (ih rfl)
 | .p2 k a b f,g,n,hs,G,s,hn,⟨_,hD,h⟩,⟨_,hO,h'⟩,S,T,hf=>by
  replace hf:f.has=true:=hf;have ih:=wD HT a g n hs G s hn hD hO S T;have hkl:s.ks.length=(hs.map Fm.er).length:=by rw [S.kl];simp
  have z:∀ {m:Nat},TK (m+1) (.v 0):=WD;cases k
  ·obtain⟨hD2,e⟩:=h;have ih2:=wD HT b g n hs G s hn hD2 h'.1 S T;show Ht G (bif a.f.has then (bif b.f.has then .n2 .pair (a.xt tl s) (b.xt tl s) else a.xt tl s) else b.xt tl s) f.cty;rw [e] at hf ⊢;have hor:(a.f.has || b.f.has)=true:=hf;simp only [Fm.cty];cases ha:a.f.has<;>cases hb:b.f.has
   ·rw [ha,hb] at hor;cases hor
   ·exact ih2 hb
   ·exact ih ha
   ·exact⟨_,_,rfl,ih ha,ih2 hb⟩
  ·obtain⟨hD2,x,e,em⟩:=h;have ih2:=wD HT b g n hs G s hn hD2 h'.1 S T;have ex:=cF _ _ em;rw [e] at ih;have ih:=ih hf;show Ht G (bif b.f.has then .n2 .app (a.xt tl s) (b.xt tl s) else a.xt tl s) f.cty;simp only [Fm.cty] at ih;rw [BB ex,eF ex] at ih;cases hb:b.f.has<;>rw [hb] at ih
   ·exact ih
   ·exact⟨_,ih,ih2 hb⟩
  ·obtain⟨⟨u,e,hD2⟩,_,ew⟩:=h;have hbh:b.f.has=true:=by rw [<- BB (WJ ew)];exact hf
   show Ht G _ f.cty;rw [eF (WJ ew)];have eq:a.f.qs=u:=by rw [e];rfl
   have ih:Ht G (a.xt tl s) (bif a.f.bd.has then .two false u a.f.bd.cty else u):=by
    have:=ih (by rw [e];rfl);rw [e] at this;exact this
   show Ht G (bif a.f.bd.has then .n2 .app (.lam (.two false a.f.qs a.f.bd.cty) (b.xt tl ((s.bind.var (.n1 .fst (.v 0))).hyp (.n1 .snd (.v 0))))) (a.xt tl s) else .n2 .app (.lam a.f.qs (b.xt tl (s.bind.var (.v 0)).bare)) (a.xt tl s)) b.f.cty;subst hn;rw [eq];cases hx:a.f.bd.has<;>rw [hx] at ih
   ·have T1:=(((T.bind S u).var S.bind (KF G u)).bare hkl (x:=a.f.bd.er) (by rw [OG];exact hx));have S1:=(S.bind.var (t:=.v 0) z).bare;exact⟨_,⟨_,rfl,wD HT b _ _ _ _ _ (oE g u) hD2 h'.1 (by rw [IN,hx];exact S1) (by rw [UM];exact T1) hbh⟩,ih⟩
   ·have T1:=((T.bind S (.two false u a.f.bd.cty)).var S.bind (t:=.n1 .fst (.v 0)) (u:=u) ⟨_,KF G _⟩).hyp hkl (x:=a.f.bd.er) (t:=.n1 .snd (.v 0)) (by rw [ZG];exact⟨_,KF G _⟩);have S1:=(S.bind.var (t:=.n1 .fst (.v 0)) (FT z (by simp [Tm.cnt]))).hyp (t:=.n1 .snd (.v 0)) (FT z (by simp [Tm.cnt])) true;exact⟨_,⟨_,rfl,wD HT b _ _ _ _ _ (oE g u) hD2 h'.1 (by rw [IN,hx];exact S1) (by rw [UM];exact T1) hbh⟩,ih⟩
  ·obtain⟨⟨u,e,hD2⟩,_,ew,_⟩:=h;have hbh:b.f.has=true:=by rw [<- BB (WJ ew)];exact hf
   show Ht G _ f.cty;rw [eF (WJ ew)];have eq:a.f.qs=u:=by rw [e];rfl
   have hs64:a.f.qs.size<=64:=by
    have:=Jt.FKj hO;rw [e] at this ⊢;exact IE (DA this.shp).1
   show Ht G (bif a.f.bd.has then .n2 .app (.lam a.f.bd.cty (b.xt tl ((s.bind.var a.f.qs.ini).hyp (.v 0)))) (a.xt tl s) else b.xt tl (s.var a.f.qs.ini).bare) b.f.cty;subst hn;rw [eq] at hs64 ⊢;cases hx:a.f.bd.has
   ·have T1:=(T.var S (TM u G)).bare hkl (x:=a.f.bd.er) (by rw [OG];exact hx);have S1:=(S.var (t:=u.ini) (GN _ hs64 _)).bare;exact wD HT b _ _ _ _ _ (oE g u) hD2 h'.1 (by rw [IN,hx];exact S1) (by rw [UM];exact T1) hbh
   ·have ih:Ht G (a.xt tl s) a.f.bd.cty:=by
     have:=ih (by rw [e] at hx ⊢;exact hx);rw [e] at this;exact this
    have T1:=((T.bind S a.f.bd.cty).var S.bind (TM u _)).hyp hkl (x:=a.f.bd.er) (t:=.v 0) (by rw [ZG];exact KF G _);have S1:=(S.bind.var (t:=u.ini) (GN _ hs64 _)).hyp (t:=.v 0) z true;exact⟨_,⟨_,rfl,wD HT b _ _ _ _ _ (oE g u) hD2 h'.1 (by rw [IN,hx];exact S1) (by rw [UM];exact T1) hbh⟩,ih⟩
 | .impI x a,g,n,hs,G,s,hn,⟨_,_,_,hD⟩,⟨_,_,hO⟩,S,T,hf=>by
  have hkl:s.ks.length=(hs.map Fm.er).length:=by rw [S.kl];simp
  have z:∀ {m:Nat},TK (m+1) (.v 0):=WD;have ex:(hs++[x]).map Fm.has=hs.map Fm.has++[x.has]:=by rw [List.map_append];rfl
  have ee:(hs++[x]).map Fm.er=hs.map Fm.er++[x.er]:=by rw [List.map_append];rfl
  show Ht G (bif x.has then .lam x.cty (a.xt tl (s.bind.hyp (.v 0))) else a.xt tl s.bare) (bif x.has then .two true x.cty a.f.cty else a.f.cty);subst hn;cases hx:x.has
  ·exact wD HT a g _ _ G _ rfl hD hO (by rw [ex,hx];exact S.bare) (by rw [ee];exact T.bare hkl (by rw [OG];exact hx)) hf
  ·exact⟨_,rfl,wD HT a g _ _ _ _ rfl hD hO (by rw [ex,hx];exact S.bind.hyp (t:=.v 0) z true) (by rw [ee];exact (T.bind S x.cty).hyp hkl (by rw [ZG];exact KF G _)) hf⟩
 | .all u w a,g,n,hs,G,s,hn,⟨_,_,hD,_⟩,⟨h64,_,hO⟩,S,T,hf=>by
  have z:∀ {m:Nat},TK (m+1) (.v 0):=WD;subst hn;cases u
  ·exact⟨_,rfl,wD HT a _ _ _ _ _ (oE g w) hD hO (by rw [YG];exact S.bind.var (t:=.v 0) z) (by rw [yX];exact (T.bind S w).var S.bind (KF G w)) hf⟩
  ·exact wD HT a _ _ _ _ _ (oE g w) hD hO (by rw [YG];exact S.var (t:=w.ini) (GN _ h64 _)) (by rw [yX];exact T.var S (TM w G)) hf
 | .ins u t a f,g,n,hs,G,s,hn,⟨_,_,hD,w,x,e0,e1,e3⟩,⟨_,_,hO,_⟩,S,T,hf=>by
  replace hf:f.has=true:=hf;have hxh:x.has=true:=by rw [<- BB (NC e3)];exact hf
  have ih:=wD HT a g n hs G s hn hD hO S T (by rw [e1];cases u<;>exact hxh);rw [e1] at ih;show Ht G _ f.cty;rw [eF (NC e3)];cases u
  ·exact⟨w,ih,gP T e0⟩
  ·exact ih
 | .ex u x t a,g,n,hs,G,s,hn,⟨_,_,hD,w,y,v,e0,e1,e2,e3⟩,⟨_,_,hO,_⟩,S,T,hf=>by
  have ih:=wD HT a g n hs G s hn hD hO S T;have ee:a.f.er=y.er:=(cF _ _ e3).symm.trans (NC e2);subst e1;cases u
  ·show Ht G (bif a.f.has then .n2 .pair (t.ps s.vs s.dep 0) (a.xt tl s) else t.ps s.vs s.dep 0) (bif y.has then .two false w y.cty else w);rw [<- BB ee,<- eF ee];cases ha:a.f.has
   ·exact gP T e0
   ·exact⟨_,_,rfl,gP T e0,ih ha⟩
  ·show Ht G (a.xt tl s) y.cty;rw [<- eF ee];exact ih (by rw [BB ee];exact hf)
 | .ind l x t a b f,g,n,hs,G,s,hn,⟨_,_,⟨_,e0⟩,⟨hD,_⟩,_,⟨hD2,_⟩,e1⟩,⟨_,_,_,hO,_,⟨ea,eb⟩,hO2⟩,S,T,hf=>by
  replace hf:f.has=true:=hf;have hxh:x.has=true:=by rw [<- BB (NC e1)];exact hf
  have ih:=wD HT a g n hs G s hn hD hO S T (by rw [BB ea];exact hxh);rw [eF ea] at ih;have hkl:s.ks.length=(hs.map Fm.er).length:=by rw [S.kl];simp
  have z:∀ {m:Nat},TK (m+1) (.v 0):=WD;have hbh:b.f.has=true:=by rw [BB eb];exact hxh
  have ec:=eF (NC e1);subst hn;have A1:=S.bind.var (t:=.v 0) z;have B1:=(T.bind S .nat).var S.bind (KF G .nat);cases l
  ·have S1:=A1.bind.hyp (t:=.v 0) z true;have T1:=(B1.bind (by rw [oE];exact A1) x.cty).hyp hkl (x:=x.er) (by rw [ZG];exact KF _ _);have ihb:=wD HT b _ _ _ _ _ (oE g .nat) hD2 hO2 (by show ScOK _ ((lA 1 hs++[x]).map _) _;rw [IN,hxh];exact S1) (by show ScT _ _ ((lA 1 hs++[x]).map _) _;rw [UM];exact T1) hbh;rw [eF eb] at ihb;exact⟨ec,ih,⟨_,rfl,_,rfl,ihb⟩,gP T e0⟩
  ·have A2:=A1.bind.var (t:=.v 0) z;have B2:=(B1.bind (by rw [oE];exact A1) .list).var (by rw [oE];exact A1.bind) (KF _ .list);have S1:=A2.bind.hyp (t:=.v 0) z true;have T1:=(B2.bind (by rw [oE,oE];exact A2) x.cty).hyp hkl (x:=(x.sh 1 (.ofNat 1)).er) (by rw [ZG,eF (QG _ x 1)];exact KF _ _);have ihb:=wD HT b (g++[.nat]++[.list]) _ _ _ _ (by rw [oE,oE]) (by rw [List.append_assoc];exact hD2) hO2 (by show ScOK _ ((lA 2 hs++[x.sh 1 (.ofNat 1)]).map _) _;rw [IN,BB (QG _ x 1),hxh];exact S1) (by show ScT _ _ ((lA 2 hs++[x.sh 1 (.ofNat 1)]).map _) _;rw [UM];exact T1) hbh;rw [eF eb] at ihb;exact⟨ec,ih,⟨_,rfl,_,rfl,_,rfl,ihb⟩,gP T e0⟩
 | .subst x a b f,g,n,hs,G,s,hn,⟨_,_,hD,hD2,_⟩,⟨_,_,hO,hO2,e,t,u,_,e2⟩,S,T,hf=>by
  have ee:f.er=b.f.er:=(NC e2).trans e.symm;replace hf:f.has=true:=hf;show Ht G (b.xt tl s) f.cty;rw [eF ee];exact wD HT b g n hs G s hn hD2 hO2 S T (by rw [<- BB ee];exact hf)
def Jt.inl (P:Nat->Jt):Jt->Jt
 | .leaf u i f=>match u with
  | false => .leaf false i f
  | true=>P i
 | .refl t => .refl t
 | .p1 k a f => .p1 k (a.inl P) f
 | .p2 k a b f => .p2 k (a.inl P) (b.inl P) f
 | .impI x a => .impI x (a.inl P)
 | .all u s a => .all u s (a.inl P)
 | .ins u t a f => .ins u t (a.inl P) f
 | .ex u x t a => .ex u x t (a.inl P)
 | .ind l x t a b f => .ind l x t (a.inl P) (b.inl P) f
 | .subst x a b f => .subst x (a.inl P) (b.inl P) f
structure lP (ls:List Fm) (P:Nat->Jt) (w:Nat):Prop where
 f:∀ (i:Nat) (f:Fm),ls[i]? = some f->(P i).f=f
 D:∀ (i:Nat) (f:Fm),ls[i]? = some f->∀ (g:List Ty) (hs:List Fm),g.length+w<=16->hs.length+w<=16->(P i).D [] g hs
 us:∀ (i:Nat) (f:Fm),ls[i]? = some f->∀ v,¬(P i).us v
variable {ls:List Fm} {P:Nat->Jt} {w:Nat}
theorem tC (H:lP ls P w):∀ (j:Jt) (g:List Ty) (hs:List Fm),j.D ls g hs->(j.inl P).f=j.f
 | .leaf u i f,_,_,⟨_,h⟩=>by
  cases u
  ·rfl
  ·exact H.f i f h
 | .refl _,_,_,_=>rfl
 | .p1 _ _ _,_,_,_=>rfl
 | .p2 _ _ _ _,_,_,_=>rfl
 | .impI x a,g,hs,⟨_,_,_,hD⟩=>by show Fm.bin .imp x (a.inl P).f=_;rw [tC H a _ _ hD];rfl
 | .all u s a,g,hs,⟨_,_,hD,_⟩=>by show Fm.q (aq u) s (a.inl P).f=_;rw [tC H a _ _ hD];rfl
 | .ins _ _ _ _,_,_,_=>rfl
 | .ex _ _ _ _,_,_,_=>rfl
 | .ind _ _ _ _ _ _,_,_,_=>rfl
 | .subst _ _ _ _,_,_,_=>rfl
theorem RD (H:lP ls P w):∀ (j:Jt) (g:List Ty) (hs:List Fm) (v:Nat),j.D ls g hs->(j.inl P).us v->j.us v
 | .leaf u i f,_,_,v,⟨_,h⟩,k=>by
  cases u
  ·exact k
  ·exact absurd k (H.us i f h v)
 | .refl _,_,_,_,_,k=>k
 | .p1 _ a _,g,hs,v,h,k=>⟨k.1,RD H a g hs v h.2.1 k.2⟩
 | .p2 q a b _,g,hs,v,⟨_,h1,h2⟩,⟨k0,k⟩=>by
  refine⟨k0,k.imp (RD H a g hs v h1) λ k => ?_⟩;cases q
  ·exact RD H b g hs v h2.1 k
  ·exact RD H b g hs v h2.1 k
  ·exact RD H b _ _ _ h2.1.choose_spec.2 k
  ·exact RD H b _ _ _ h2.1.choose_spec.2 k
 | .impI x a,g,hs,v,⟨_,_,_,hD⟩,⟨k0,k⟩=>⟨by rw [tC H a _ _ hD] at k0;exact k0,RD H a _ _ v hD k⟩
 | .all u s a,g,hs,v,⟨_,_,hD,_⟩,⟨k0,k⟩=>⟨by rw [tC H a _ _ hD] at k0;exact k0,RD H a _ _ _ hD k⟩
 | .ins u t a f,g,hs,v,⟨_,_,hD,_⟩,⟨k0,k⟩=>⟨k0,k.imp (RD H a g hs v hD) id⟩
 | .ex u x t a,g,hs,v,⟨_,_,hD,_⟩,⟨k0,k⟩=>⟨k0,k.imp (RD H a g hs v hD) id⟩
 | .ind l x t a b f,g,hs,v,⟨_,_,_,⟨hD,_⟩,_,⟨hD2,_⟩,_⟩,⟨k0,k⟩=>⟨k0,k.imp id (Or.imp (RD H a g hs v hD) (RD H b _ _ _ hD2))⟩
 | .subst x a b f,g,hs,v,⟨_,_,_,hD2,_⟩,⟨k0,k⟩=>⟨k0,RD H b g hs v hD2 k⟩
theorem aW:∀ (g0 g:List Ty),RNg g (g0++g) λ i=>i
 | [],_=>λ _ _ e=>e
 | s::r,g=>λ i u e=>ov (r++g) s i u (aW r g i u e)
theorem YR {g:List Ty} {t:Tm} {s:Ty} (g0:List Ty) (h:t.tyR g = .ok s):t.tyR (g0++g) = .ok s:=by
 have:=iF t g _ _ s (aW g0 g) h;rwa [Xg] at this
theorem ZR {g:List Ty} {f:Fm} (g0:List Ty) (h:f.ty g):f.ty (g0++g):=by
 have:=yU f g _ _ (aW g0 g) h;rwa [aQ] at this
theorem qS (k:Nat) (a b:List Fm):lA k (a++b)=lA k a++lA k b:=List.map_append
theorem bE (H:lP ls P w):∀ (j:Jt) (g:List Ty) (hs:List Fm) (g0:List Ty) (hs0:List Fm),g0.length+g.length+j.p.dpw w<=16->hs0.length+hs.length+j.p.dpw w<=16->j.D ls g hs->(j.inl P).D [] (g0++g) (hs0++hs)
 | .leaf u i f,g,hs,g0,hs0,h1,h2,⟨h,k⟩=>by
  cases u
  ·refine⟨h,by have:=k.1;simp;omega,?_⟩;rw [List.getElem?_append_right (by simp;omega),<- k.2];congr 1;have:=k.1;simp;omega
  ·have h1:g0.length+g.length+w<=16:=h1;have h2:hs0.length+hs.length+w<=16:=h2;exact H.D i f k _ _ (by simp;omega) (by simp;omega)
 | .refl t,g,hs,g0,hs0,h1,h2,⟨a,b,c⟩=>⟨a,b,YR g0 c⟩
 | .p1 k a f,g,hs,g0,hs0,h1,h2,⟨h,hD,e⟩=>by
  refine⟨h,bE H a g hs g0 hs0 h1 h2 hD,?_⟩;rw [tC H a g hs hD];exact e
 | .p2 k a b f,g,hs,g0,hs0,h1,h2,⟨h,hD,e⟩=>by
  simp only [Jt.p,Pf.dpw] at h1 h2;refine⟨h,bE H a g hs g0 hs0 (by omega) (by omega) hD,?_⟩;rw [tC H a g hs hD];cases k
  ·exact⟨bE H b g hs g0 hs0 (by simp only at h1;omega) (by simp only at h2;omega) e.1,by rw [tC H b g hs e.1];exact e.2⟩
  ·exact⟨bE H b g hs g0 hs0 (by simp only at h1;omega) (by simp only at h2;omega) e.1,by rw [tC H b g hs e.1];exact e.2⟩
  all_goals
   simp only at h1 h2;obtain⟨⟨s,e1,hD2⟩,_,e2⟩:=e;have ih:=bE H b _ _ g0 (lA 1 hs0) (by simp;omega) (by simp;omega) hD2;rw [<- List.append_assoc,<- List.append_assoc,<- qS] at ih;refine⟨⟨s,e1,ih⟩,⟨by simp;omega,by simp;omega⟩,?_⟩;rw [tC H b _ _ hD2]
  ·exact e2
  ·exact⟨e2.1,λ k=>e2.2 (RD H b _ _ _ hD2 k)⟩
 | .impI x a,g,hs,g0,hs0,h1,h2,⟨h,hx,hl,hD⟩=>by
  have h1:g0.length+g.length+(a.p.dpw w+1)<=16:=h1;have h2:hs0.length+hs.length+(a.p.dpw w+1)<=16:=h2;have ih:=bE H a g _ g0 hs0 (by omega) (by simp;omega) hD;rw [<- List.append_assoc] at ih;exact⟨by rw [tC H a _ _ hD];exact h,⟨hx.1,ZR g0 hx.2⟩,by simp;omega,ih⟩
 | .all u s a,g,hs,g0,hs0,h1,h2,⟨h,hl,hD,hu⟩=>by
  have h1:g0.length+g.length+(a.p.dpw w+1)<=16:=h1;have h2:hs0.length+hs.length+(a.p.dpw w+1)<=16:=h2;have ih:=bE H a _ _ g0 (lA 1 hs0) (by simp;omega) (by simp;omega) hD;rw [<- List.append_assoc,<- qS] at ih;exact⟨by rw [tC H a _ _ hD];exact h,by simp;omega,ih,λ e k=>hu e (RD H a _ _ _ hD k)⟩
 | .ins u t a f,g,hs,g0,hs0,h1,h2,⟨h,ht,hD,s,x,e0,e⟩=>⟨h,ht,bE H a g hs g0 hs0 h1 h2 hD,s,x,YR g0 e0,by rw [tC H a g hs hD];exact e⟩
 | .ex u x t a,g,hs,g0,hs0,h1,h2,⟨⟨hx,hx2⟩,ht,hD,s,y,v,e0,e⟩=>⟨⟨hx,ZR g0 hx2⟩,ht,bE H a g hs g0 hs0 h1 h2 hD,s,y,v,YR g0 e0,by rw [tC H a g hs hD];exact e⟩
 | .ind l x t a b f,g,hs,g0,hs0,h1,h2,⟨h,⟨hx,hx2⟩,⟨ht,ht2⟩,⟨hD,e⟩,_,⟨hD2,e2⟩,e3⟩=>by
  simp only [Jt.p,Pf.dpw] at h1 h2;have hx2:=ZR g0 hx2;rw [<- List.append_assoc] at hx2;refine⟨h,⟨hx,hx2⟩,⟨ht,YR g0 ht2⟩,⟨bE H a g hs g0 hs0 (by omega) (by omega) hD,by rw [tC H a g hs hD];exact e⟩,?_,⟨?_,by rw [tC H b _ _ hD2];exact e2⟩,e3⟩
  ·cases l<;>simp only [lN] at h1 h2 ⊢<;>exact⟨by simp;omega,by simp;omega⟩
  ·cases l
   ·simp only [lN] at h1 h2;have ih:=bE H b _ _ g0 (lA 1 hs0) (by simp [lG];omega) (by simp [IP];omega) hD2;rw [<- List.append_assoc] at ih;show (b.inl P).D [] _ (lA 1 (hs0++hs)++[x]);rw [qS,List.append_assoc (lA 1 hs0)];exact ih
   ·simp only [lN] at h1 h2;have ih:=bE H b _ _ g0 (lA 2 hs0) (by simp [lG];omega) (by simp [IP];omega) hD2;rw [<- List.append_assoc] at ih;show (b.inl P).D [] _ (lA 2 (hs0++hs)++[x.sh 1 (.ofNat 1)]);rw [qS,List.append_assoc (lA 2 hs0)];exact ih
 | .subst x a b f,g,hs,g0,hs0,h1,h2,⟨h,⟨hx,hx2⟩,hD,hD2,e⟩=>by
  simp only [Jt.p,Pf.dpw] at h1 h2;have hx2:=ZR g0 hx2;rw [<- List.append_assoc] at hx2;refine⟨h,⟨hx,hx2⟩,bE H a g hs g0 hs0 (by omega) (by omega) hD,bE H b g hs g0 hs0 (by omega) (by omega) hD2,?_⟩;rw [tC H a g hs hD,tC H b g hs hD2];exact e
end Go.Proofs.YtmkajedkflhbgaaGreatDoor
namespace Go.Proofs.YtmkajedkflhbgaaGreatDoor
open Go.Lg
set_option maxRecDepth 100000
def Hy.up (k m:Nat):Hy->Hy
 | .bare p => .bare (p+m)
 | .hy t d p => .hy t (d+k) (p+m)
def Sc.ext (A:List (Tm × Nat)) (B:List Hy) (k m:Nat) (s:Sc):Sc:=⟨s.dep+k,s.hyps+m,A++s.vs.map λ e=>(e.1,e.2+k),B++s.ks.map (Hy.up k m)⟩
section
variable (A:List (Tm × Nat)) (B:List Hy) (k m:Nat) (s:Sc)
theorem VM:s.bind.ext A B k m=(s.ext A B k m).bind:=by
 simp only [Sc.ext,Sc.bind,Nat.add_right_comm]
theorem mP (t:Tm):(s.var t).ext A B k m=(s.ext A B k m).var t:=by
 simp only [Sc.ext,Sc.var,List.map_append,List.map_cons,List.map_nil,List.append_assoc]
theorem nP (t:Tm):(s.hyp t).ext A B k m=(s.ext A B k m).hyp t:=by
 simp only [Sc.ext,Sc.hyp,Hy.up,List.map_append,List.map_cons,List.map_nil,List.append_assoc,Nat.add_right_comm]
theorem cW:s.bare.ext A B k m=(s.ext A B k m).bare:=by
 simp only [Sc.ext,Sc.bare,Hy.up,List.map_append,List.map_cons,List.map_nil,List.append_assoc,Nat.add_right_comm]
theorem xc {α β:Type} (A:List β) (l:List α) (f:α->β) (i:Nat) (h:i<l.length):(A++l.map f)[(A++l.map f).length-1-i]? = (l[l.length-1-i]?).map f:=by
 rw [List.getElem?_append_right (by simp;omega),List.getElem?_map];congr 2;simp;omega
theorem iW {t:Tm} (ht:t.sc s.vs.length):t.ps (s.ext A B k m).vs (s.ext A B k m).dep 0=t.ps s.vs s.dep 0:=by
 rw [RE,RE s.vs];refine nG _ _ _ λ i hi => ?_
 have hl:=UX ht hi;obtain⟨e,h,_⟩:=yQ hl;have h':ent (s.ext A B k m).vs i=some (e.1,e.2+k):=by
  unfold ent at h ⊢;rw [if_pos hl] at h;rw [if_pos (by simp [Sc.ext];omega)];show (A++s.vs.map _)[(A++s.vs.map _).length-1-i]? = _;rw [xc A s.vs _ i hl,h];rfl
 rw [wM h,wM h'];show e.1.sh 0 (.ofNat (s.dep+k-(e.2+k)))=_;rw [Nat.add_sub_add_right]
theorem sm {i:Nat} (h:i<s.ks.length):(s.ext A B k m).hy i=s.hy i:=by
 unfold Sc.hy;show (match (B++s.ks.map (Hy.up k m))[(B++s.ks.map (Hy.up k m)).length-1-i]? with|some (.hy t d _)=>t.sh 0 (.ofNat (s.dep+k-d))|_ => .n0 .unit)=_;rw [xc B s.ks _ i h]
 cases s.ks[s.ks.length-1-i]? with
 | none=>rfl
 | some x=>cases x with
  | bare p=>rfl
  | hy t d p =>
   show t.sh 0 (.ofNat (s.dep+k-(d+k)))=_;rw [Nat.add_sub_add_right]
end
theorem kD (A:List (Tm × Nat)) (B:List Hy) (k m:Nat) {ls:List Fm} {tl:List Tm} : ∀ (j:Jt) (n:Nat) (hs:List Fm) (s:Sc),j.OK ls n hs->s.vs.length=n->s.ks.length=hs.length->j.xt tl (s.ext A B k m)=j.xt tl s
 | .leaf u i f,n,hs,s,⟨_,h⟩,hv,hk=>by
  cases u
  ·exact sm A B k m s (by rw [hk];exact h.1)
  ·rfl
 | .refl _,_,_,_,_,_,_=>rfl
 | .p1 q a f,n,hs,s,⟨_,h,_⟩,hv,hk=>by
  have ia:=kD A B k m (tl:=tl) a n hs s h hv hk;cases q<;>simp only [Jt.xt,ia]
 | .p2 q a b f,n,hs,s,⟨_,h1,h2⟩,hv,hk=>by
  have ia:=kD A B k m (tl:=tl) a n hs s h1 hv hk;cases q
  ·have ib:=kD A B k m (tl:=tl) b n hs s h2.1 hv hk;simp only [Jt.xt,ia,ib]
  ·have ib:=kD A B k m (tl:=tl) b n hs s h2.1 hv hk;simp only [Jt.xt,ia,ib]
  ·have i1:=λ x y=>kD A B k m (tl:=tl) b _ _ ((s.bind.var x).hyp y) h2.1 (by simp [Sc.var,Sc.hyp,Sc.bind,hv]) (by simp [Sc.var,Sc.hyp,Sc.bind,hk])
   have i2:=λ x=>kD A B k m (tl:=tl) b _ _ (s.bind.var x).bare h2.1 (by simp [Sc.var,Sc.bare,Sc.bind,hv]) (by simp [Sc.var,Sc.bare,Sc.bind,hk])
   simp only [nP,mP,VM,cW] at i1 i2;simp only [Jt.xt,ia,i1,i2]
  ·have i1:=λ x y=>kD A B k m (tl:=tl) b _ _ ((s.bind.var x).hyp y) h2.1 (by simp [Sc.var,Sc.hyp,Sc.bind,hv]) (by simp [Sc.var,Sc.hyp,Sc.bind,hk])
   have i2:=λ x=>kD A B k m (tl:=tl) b _ _ (s.var x).bare h2.1 (by simp [Sc.var,Sc.bare,hv]) (by simp [Sc.var,Sc.bare,hk])
   simp only [nP,mP,VM,cW] at i1 i2;simp only [Jt.xt,ia,i1,i2]
 | .impI x a,n,hs,s,⟨_,_,h⟩,hv,hk=>by
  have i1:=λ y=>kD A B k m (tl:=tl) a _ _ (s.bind.hyp y) h (by simp [Sc.hyp,Sc.bind,hv]) (by simp [Sc.hyp,Sc.bind,hk])
  have i2:=kD A B k m (tl:=tl) a _ _ s.bare h (by simp [Sc.bare,hv]) (by simp [Sc.bare,hk]);simp only [nP,VM,cW] at i1 i2;simp only [Jt.xt,i1,i2]
 | .all u t a,n,hs,s,⟨_,_,h⟩,hv,hk=>by
  have i1:=λ y=>kD A B k m (tl:=tl) a _ _ (s.bind.var y) h (by simp [Sc.var,Sc.bind,hv]) (by simp [Sc.var,Sc.bind,hk])
  have i2:=λ y=>kD A B k m (tl:=tl) a _ _ (s.var y) h (by simp [Sc.var,hv]) (by simp [Sc.var,hk])
  simp only [mP,VM] at i1 i2;cases u<;>simp only [Jt.xt,i1,i2]
 | .ins u t a f,n,hs,s,⟨_,ht,h,_⟩,hv,hk=>by
  have ia:=kD A B k m (tl:=tl) a n hs s h hv hk;have it:=iW A B k m s (t:=t) (by rw [hv];exact ht.sc);cases u<;>simp only [Jt.xt,ia,it]
 | .ex u x t a,n,hs,s,⟨_,ht,h,_⟩,hv,hk=>by
  have ia:=kD A B k m (tl:=tl) a n hs s h hv hk;have it:=iW A B k m s (t:=t) (by rw [hv];exact ht.sc);cases u<;>simp only [Jt.xt,ia,it]
 | .ind l x t a b f,n,hs,s,⟨_,_,ht,h,_,_,h2⟩,hv,hk=>by
  have ia:=kD A B k m (tl:=tl) a n hs s h hv hk;have it:=iW A B k m s (t:=t) (by rw [hv];exact ht.sc);cases l
  ·have ib:=λ y z=>kD A B k m (tl:=tl) b _ _ ((s.bind.var y).bind.hyp z) h2 (by simp [Sc.var,Sc.hyp,Sc.bind,hv]) (by simp [Sc.var,Sc.hyp,Sc.bind,hk])
   simp only [nP,mP,VM] at ib;simp only [Jt.xt,ia,it,ib]
  ·have ib:=λ y z v=>kD A B k m (tl:=tl) b _ _ (((s.bind.var y).bind.var z).bind.hyp v) h2 (by simp [Sc.var,Sc.hyp,Sc.bind,hv]) (by simp [Sc.var,Sc.hyp,Sc.bind,hk])
   simp only [nP,mP,VM] at ib;simp only [Jt.xt,ia,it,ib]
 | .subst x a b f,n,hs,s,⟨_,_,_,h,_⟩,hv,hk=>by
  have ib:=kD A B k m (tl:=tl) b n hs s h hv hk;simp only [Jt.xt,ib]
theorem tm {q:Jt} {ls:List Fm} {tl:List Tm} (h0:q.OK ls 0 []) (s:Sc):q.xt tl s=q.xt tl (ZB 0 0):=by
 have:=kD s.vs s.ks s.dep s.hyps (tl:=tl) q 0 [] (ZB 0 0) h0 rfl rfl;rw [<- this];congr 1;cases s;simp [Sc.ext,SE]
structure Dc where
 n:List Nat
 f:Fm
 p:Pf
abbrev Dc.c (d:Dc):List PV:=.str d.n::(d.f.c++d.p.c)
abbrev yF (ds:List Dc):PV:=.agg [.slice (ds.map Dc.c)]
structure DOK (ls:List Fm) (i:Nat) (d:Dc):Prop where
 n:∃ x,x<3/\d.n=[97+i,97+x]
 q:RQ ls d.p d.f
 g:PG (cp 2) (PA+cm 2) (2+2) d.p
abbrev uB (ds:List Dc):List Fm:=ds.map Dc.f
def ThOK (ds:List Dc):Prop:=∀ (i:Nat) (d:Dc),ds[i]? = some d->DOK (uB (ds.take i)) i d
theorem oW {ls:List Fm} (hl:∀ f∈ls,f.chk=0/\f.ty []) {p:Pf} {f:Fm} (h:RQ ls p f):f.chk=0/\f.ty []:=by
 obtain⟨_,_,j,rfl,rfl,hD⟩:=h;have hc:=NX hD;have k:=Fm.chk0 hc;exact⟨hc,dU j.f [] k.2 k.1 (jI (λ f hf=>bJ f [] (hl f hf).2) j [] [] (λ f hf=>nomatch hf) hD)⟩
theorem ThOK.take {ds:List Dc} (h:ThOK ds) (k:Nat):ThOK (ds.take k):=λ i d e=>by
 rw [List.getElem?_take] at e;split at e
 ·rw [List.take_take,Nat.min_eq_left (by omega)];exact h i d e
 ·cases e
theorem ThOK.ty {ds:List Dc} (h:ThOK ds):∀ f∈uB ds,f.chk=0/\f.ty []:=by
 have key:∀ (k i:Nat),i<=k->∀ d,ds[i]? = some d->d.f.chk=0/\d.f.ty []:=by
  intro k
  induction k with
  | zero =>
   intro i hi d e;obtain rfl:i=0:=by omega
   exact oW (λ f hf=>by simp [uB] at hf) (h 0 d e).q
  | succ k ih =>
   intro i hi d e;refine oW (λ f hf => ?_) (h i d e).q;obtain⟨d',hd,rfl⟩:=List.mem_map.1 hf;obtain⟨m,hm,e'⟩:=List.mem_iff_getElem?.1 hd |>.imp λ m hm=>(⟨List.getElem?_eq_some_iff.1 hm |>.1,hm⟩:_/\_)
   rw [List.length_take] at hm;rw [List.getElem?_take,if_pos (by omega)] at e';exact ih m (by omega) d' e'
 intro f hf;obtain⟨d,hd,rfl⟩:=List.mem_map.1 hf;obtain⟨i,e⟩:=List.mem_iff_getElem?.1 hd;exact key i i (Nat.le_refl _) d e
theorem ThOK.snoc {ds:List Dc} (h:ThOK ds) {d:Dc} (hd:DOK (uB ds) ds.length d):ThOK (ds++[d]):=λ i e k=>by
 by_cases hi:i<ds.length
 ·rw [List.getElem?_append_left hi] at k;rw [List.take_append_of_le_length (by omega)];exact h i e k
 ·have:i=ds.length:=by
   have:=(List.getElem?_eq_some_iff.1 k).1;simp at this;omega
  subst this;simp at k;subst k;simpa using hd
theorem am {f:Fm} (h:f.chk=0/\f.ty []):FK 0 f:=BN (g:=[]) (λ s h=>nomatch h) (by decide) h.1 h.2
theorem ThOK.S19 {ds:List Dc} (h:ThOK ds) (hl:ds.length<=3):S19 PA (uB ds) [] [] :=
 ⟨by simpa using hl,λ f hf=>by
  have k:=am (h.ty f hf);have:=QL f 0 k.sc;have c:=k.cnt;exact⟨c,hY (h.ty f hf).1,by show f.mx<=1048576;omega⟩,by simp,by simp,by simp,by simp,Nat.le_refl _⟩
theorem zS {L:List Int} (hL:Dk L) {ds:List Dc} (h:ThOK ds) (hl:ds.length<=3) {a:Nat} (ha:a<=L.length):∃ (f:Fm) (p:Pf) (u:List Nat) (x b c:Nat),ThOK (ds++[⟨[97+ds.length,97+x],f,p⟩])/\x<3/\c<=L.length /\
  O 15 [.loc 0 0,.pv (fA (uB ds)),.pv (VA [] []),.pv (num 2)] [(0,dk L a)] (.pv (.tuple [p.p,(PR.ok f u).v])) [(0,dk L b)]/\O 14 [.loc 0 0,.pv (num 3)] [(0,dk L b)] (.pv (num x)) [(0,dk L c)]:=by
 have hm:=jA;obtain⟨p,f,u,b,hp,hq,hb,g1⟩:=a9 lv hL (h.S19 hl) h.ty ha;obtain⟨x,c,hx,hc,g2⟩:=nx hL hb (n:=3) (by omega) (by omega);exact⟨f,p,u,x,b,c,h.snoc ⟨⟨x,hx,rfl⟩,hq,hp⟩,hx,hc,g1,g2⟩
open Go.Lg
theorem mH:∀ x:Nat,x<3->ro (match OO ev.T 3 5 (.pv (.int (.ofNat (97+x)))) with
  | some y=>some y
  | none=>PO ev.T 3 5 (.pv (.int (.ofNat (97+x)))))=some ⟨.pv (.num .u8 (.ofNat (97+x))),none,false⟩
 | 0,_=>by kernel_rfl
 | 1,_=>by kernel_rfl
 | 2,_=>by kernel_rfl
 | x+3,h=>absurd h (by omega)
theorem nH (i x:Nat) (hi:i<4) (hx:x<3):ro (match OO ev.T 61 9 (.pv (.slice [[.num .u8 (.ofNat (97+i))],[.num .u8 (.ofNat (97+x))]])) with
  | some y=>some y
  | none=>PO ev.T 61 9 (.pv (.slice [[.num .u8 (.ofNat (97+i))],[.num .u8 (.ofNat (97+x))]])))=some ⟨.pv (.str [97+i,97+x]),none,false⟩:=by
 rcases i with _|_|_|_|i<;>rcases x with _|_|_|x<;>first|(exfalso;omega)|kernel_rfl
theorem im (i x:Nat) (hi:i<4) (hx:x<3):A 252 [.str [97+i,97+x]] (.bool true):=by
 rcases i with _|_|_|_|i<;>rcases x with _|_|_|x<;>first|(exfalso;omega)|exact f0 []
theorem pH {x:Nat} (h:x<3):rA (97+Int.ofNat x)=true/\97+Int.ofNat x = .ofNat (97+x):=by
 have hb:=uA;have e:97+Int.ofNat x = .ofNat (97+x):=by simp
 exact⟨by rw [e];exact YA,e⟩
theorem dE {A B C D E F G R:Prop} (a:A) (b:B) (c:C) (d:D) (e:E) (f:F) (g:G) (r:R):A/\B/\C/\D/\E/\F/\G/\R:=⟨a,b,c,d,e,f,g,r⟩
theorem fz {R:Prop} (r:R):true=true/\R:=⟨rfl,r⟩
abbrev rH (L:List Int) (f:Fm) (p:Pf) (u:List Nat) (x b c i:Nat) (tl:Di):Di:=(17,.g)::(19,.D L b (.pv (.tuple [p.p,(PR.ok f u).v])))::(27,.D L c (.pv (num x)))::(28,.z (97+x))::(29,.w ⟨.pv (.num .u8 (.ofNat (97+x))),none,false⟩)::(31,.w ⟨.pv (.str [97+i,97+x]),none,false⟩)::(37,.r f.p)::(39,.r p.p)::tl
theorem jS {f:Nat} {args:List V} {objs:List (Nat × Ob)} {x:V} {objs':List (Nat × Ob)} (m:Nat) (tp:Di) {B:Prop->Prop} (h:∀ R,R->B R) (e:B ((x,objs')=(x,objs'))=UO f args objs m tp x objs'):O f args objs x objs':=ok m tp (h _ rfl) e
theorem a6 {L:List Int} (hL:Dk L):∃ (ds:List Dc) (b:Nat),ThOK ds/\ds.length<=4/\O 6 [.loc 0 0] [(0,dk L 0)] (.pv (yF ds)) [(0,dk L b)]:=by
 have hm:=jA;obtain⟨k,b0,hk,hb0,g0⟩:=nx hL (a:=0) (Nat.zero_le _) (n:=5) (by omega) (by omega);have t0:ThOK []:=λ i d e=>by simp at e
 rcases k with _|k
 ·exact⟨[],b0,t0,by simp,o1 1 [(10,.D L b0 (.pv (num 0)))] g0⟩
 obtain⟨f1,p1,u1,x1,b1,c1,t1,h1,hc1,r1,n1⟩:=zS hL t0 (by simp) hb0;rcases k with _|k
 ·exact⟨_,c1,t1,by simp,jS 1 ((10,.D L b0 (.pv (num 1)))::rH L f1 p1 u1 x1 b1 c1 0 []) (λ R r=>And.intro g0 (dE r1 n1 (pH h1) (mH x1 h1) (nH 0 x1 (by omega) h1) (MB f1) (kC p1) r)) (by kernel_rfl)⟩
 obtain⟨f2,p2,u2,x2,b2,c2,t2,h2,hc2,r2,n2⟩:=zS hL t1 (by simp) hc1;rcases k with _|k
 ·exact⟨_,c2,t2,by simp,jS 1 ((10,.D L b0 (.pv (num 2)))::rH L f1 p1 u1 x1 b1 c1 0 ((48,.g)::rH L f2 p2 u2 x2 b2 c2 1 [])) (λ R r=>And.intro g0 (dE r1 n1 (pH h1) (mH x1 h1) (nH 0 x1 (by omega) h1) (MB f1) (kC p1) (fz (dE r2 n2 (pH h2) (mH x2 h2) (nH 1 x2 (by omega) h2) (MB f2) (kC p2) r)))) (by kernel_rfl)⟩
 obtain⟨f3,p3,u3,x3,b3,c3,t3,h3,hc3,r3,n3⟩:=zS hL t2 (by simp) hc2;rcases k with _|k
 ·exact⟨_,c3,t3,by simp,jS 1 ((10,.D L b0 (.pv (num 3)))::rH L f1 p1 u1 x1 b1 c1 0 ((48,.g)::rH L f2 p2 u2 x2 b2 c2 1 (rH L f3 p3 u3 x3 b3 c3 2 []))) (λ R r=>And.intro g0 (dE r1 n1 (pH h1) (mH x1 h1) (nH 0 x1 (by omega) h1) (MB f1) (kC p1) (fz (dE r2 n2 (pH h2) (mH x2 h2) (nH 1 x2 (by omega) h2) (MB f2) (kC p2) ((dE r3 n3 (pH h3) (mH x3 h3) (nH 2 x3 (by omega) h3) (MB f3) (kC p3) r)))))) (by kernel_rfl)⟩
 obtain⟨f4,p4,u4,x4,b4,c4,t4,h4,hc4,r4,n4⟩:=zS hL t3 (by simp) hc3;rcases k with _|k
 ·exact⟨_,c4,t4,by simp,jS 1 ((10,.D L b0 (.pv (num 4)))::rH L f1 p1 u1 x1 b1 c1 0 ((48,.g)::rH L f2 p2 u2 x2 b2 c2 1 (rH L f3 p3 u3 x3 b3 c3 2 (rH L f4 p4 u4 x4 b4 c4 3 [])))) (λ R r=>And.intro g0 (dE r1 n1 (pH h1) (mH x1 h1) (nH 0 x1 (by omega) h1) (MB f1) (kC p1) (fz (dE r2 n2 (pH h2) (mH x2 h2) (nH 1 x2 (by omega) h2) (MB f2) (kC p2) ((dE r3 n3 (pH h3) (mH x3 h3) (nH 2 x3 (by omega) h3) (MB f3) (kC p3) ((dE r4 n4 (pH h4) (mH x4 h4) (nH 3 x4 (by omega) h4) (MB f4) (kC p4) r)))))))) (by kernel_rfl)⟩
 omega
theorem vS {f:Fm} (h:f.chk=0/\f.ty []):FK 0 f:=BN (g:=[]) (λ s h=>nomatch h) (by decide) h.1 h.2
theorem xm {f:Fm} (h:f.chk=0/\f.ty []):A 132 [cA [],f.p] (num 0):=by
 have hm:=jA;have k:=vS h;have c:=k.cnt;obtain⟨e,q4,_,q6⟩:=YJ f [] (λ s h=>nomatch h) k.shp (by simp;omega);rw [q6 h.2] at q4;exact f4 [(8,.N 0),(13,.N 0),(18,.r (ZA [])),(20,.N 0)] (tX [] (λ s h=>nomatch h)) k.a89 TS q4
abbrev Am (ls:List Fm) (k:Nat):IS:=st [(3,.loc 0 0),(15,.pv (fA ls)),(16,.pv (num (ls.map Fm.c).length)),(17,.pv (num k))] [(0,bx [cA [],fA []])] 1 []
theorem Ac {ls:List Fm} (hl:ls.length<=qA):∀ (r:List Fm) (k:Nat),ls.drop k=r->(∀ f∈r,f.chk=0/\f.ty [])->Lp 81 0 0 (Am ls k) (.exit 0) (Xe [])
 | [],k,h,_=>x1 [(18,.H)] ⟨[3],[0],1,[]⟩ (show kA (.ofNat k) (.ofNat (ls.map Fm.c).length)=false from CA (by simpa using TC h))
 | f::r,k,h,hb=>by
  obtain⟨h1,h2,h3⟩:=SC h;have hm:=jA;have hlt:kA (.ofNat k) (.ofNat (ls.map Fm.c).length)=true:=aA (by simpa using h2);have ih:=Ac hl r (k+1) h3 λ t ht=>hb t (by simp [ht])
  exact n5 [(18,.G),(19,.i f.c),(22,.N 0),(26,.ok)] ⟨[3,15,16,17],[0],1,[]⟩ hlt (KA h1 Fm.c_len) (xm (hb f (by simp))) (eA (show k+1<=_ by omega)) ih
theorem Bm {ls:List Fm} (hl:ls.length<=32) (h:∀ f∈ls,f.chk=0/\f.ty []):A 81 [fA ls,VA [] []] (num 0):=by
 have hm:=jA;have e0:kA (.ofNat 32) (.ofNat (ls.map Fm.c).length)=false:=CA (by simpa using hl);have g4:Lp 81 1 0 (Iq []) (.exit 2) (st [] [] 1 []):=x0 [] ⟨[],[],1,[]⟩;exact f4 [(14,.H),(100004,.l ⟨[3,15,16,17],[0],1,[]⟩ (.exit 0) (Xe [])),(29,.N 0),(100016,.l ⟨[3,38,39,40],[0],1,[]⟩ (.exit 2) (st [] [] 1 []))] e0 (Ac (ls:=ls) (by omega) ls 0 rfl h) (tX [] (λ s h=>nomatch h)) g4
variable {ls:List Fm}
theorem Cm (hl:ls.length<=32) (h:∀ f∈ls,f.chk=0/\f.ty []) (j:Jt) (hD:j.D ls [] []) (hc:j.p.ck) (hp:j.p.cnt<=16384):A 18 [fA ls,VA [] [],j.p.p] (.tuple [j.ptr [],num 0])/\j.OK ls 0 []:=by
 have hm:=jA;have hF:∀ f∈ls,FK 0 f:=λ f hf=>vS (h f hf)
 have hpl:PlOK [] []:=⟨by simp,by simp,by simp,by simp⟩;obtain⟨k2,z,hz,g4⟩:=DC hF j [] [] hpl hD hc;obtain⟨L,g5⟩:=Nq z hz.u;have g6:A 35 [fA ls,VA [] [],j.p.p] (.tuple [.agg [num j.f.kd,num j.f.tk,.slice j.f.te,.slice j.f.ts,.slice j.f.es,bA L],num 0]) :=
  f6 [(15,.N 0),(21,.N 0),(34,.r (eB [] [])),(35,.o [3,4] [] (.pv (sB j.f.y z 0))),(44,.r j.f.p),(47,.r (bA L))] (Bm hl h) (Mp j.p hp hc) (Hq [] (by simp) (λ s h=>nomatch h)) g4 (Mo j.f k2.cn) g5
 have hO:=(aD hF j [] [] hD (λ s h=>nomatch h) (by simp) (λ f h=>nomatch h) hc).1;have g2:=HD (ls:=ls) j 0 [] (λ f h=>nomatch h) (by simp;omega) (by omega) hO;exact⟨f2 [(14,.U [.agg [num j.f.kd,num j.f.tk,.slice j.f.te,.slice j.f.ts,.slice j.f.es,bA L],num 0]),(24,.r (j.ptr []))] g6 g2,hO⟩
def Fm.ctu (f:Fm):Ty:=bif f.has then f.cty else .unit
theorem Dm {f:Fm} (h:FK 0 f):A 25 [f.p] (TR.ok f.ctu).p\/A 25 [f.p] (TR.er 3).p:=by
 obtain⟨r,g,q⟩:=VP f h.shp
 cases r with
 | er n=>cases (show n=3 from q);exact .inr (f2 [(9,.N 0),(16,.r (CR.er 3).q)] h.a89 g)
 | ers s n=>cases (show n=3 from q);exact .inr (f2 [(9,.N 0),(16,.r (CR.ers s 3).q)] h.a89 g)
 | no =>
  have e:f.ctu = .unit:=by unfold Fm.ctu;rw [show f.has=false from q];rfl
  rw [e];exact .inl (f2 [(9,.N 0),(16,.r CR.no.q)] h.a89 g)
 | ok s =>
  have e:f.ctu=s:=by unfold Fm.ctu;rw [q.1,q.2.2];rfl
  rw [e];exact .inl (f2 [(9,.N 0),(16,.r (CR.ok s).q)] h.a89 g)
theorem Em {t:Tm} (h:TK 0 t) {u:Ty} (hu:Ht [] t u):A 26 [cA [],t.p] (TR.ok u).p\/A 26 [cA [],t.p] (TR.er 3).p:=by
 have hm:=jA;have c:=h.cnt;obtain⟨r,q4,_,_,rfl⟩:=HH t [] (λ s h=>nomatch h) h.shp (by simp;omega);have q1:=tX [] (λ s h=>nomatch h);rcases UE t [] u hu with e|e<;>rw [e] at q4
 ·exact .inl (f5 [(11,.N 0),(17,.N 0),(24,.r (ZA [])),(26,.r (TR.ok u).q),(35,.r u.p)] q1 h.a92 TS q4 (sE u))
 ·exact .inr (f4 [(11,.N 0),(17,.N 0),(24,.r (ZA [])),(26,.r (TR.er 3).q)] q1 h.a92 TS q4)
theorem Bc (s:Ty):A 27 [s.p,s.p] (.bool true):=by
 have g:=fN s s;rw [uU] at g;exact f1 [(7,.T)] g
structure pP (ls:List Fm) (tl:List Tm):Prop where
 ll:ls.length<=32
 len:ls.length=tl.length
 ty:∀ f∈ls,f.chk=0/\f.ty []
 ht:∀ (i:Nat) (f:Fm) (t:Tm),ls[i]? = some f->tl[i]? = some t->TK 0 t/\Ht [] t f.ctu
abbrev wS:Kp:=⟨[1,15,16,17],[],0,[]⟩
abbrev Cc (ls:List Fm) (tl:List Tm) (k:Nat):IS:=st [(1,.pv (row tl)),(15,.pv (fA ls)),(16,.pv (num (ls.map Fm.c).length)),(17,.pv (num k))] [] 0 []
theorem Ec {tl:List Tm} (H:pP ls tl):∀ (r:List Fm) (k:Nat),ls.drop k=r->Lp 13 0 0 (Cc ls tl k) (.exit 0) (st [] [] 0 [])\/Lp 13 0 0 (Cc ls tl k) .ret (st [(4,.pv (num 4))] [] 0 [])
 | [],k,h => .inl (x1 [(18,.H)] (kp []) (show kA (.ofNat k) (.ofNat (ls.map Fm.c).length)=false from CA (by simpa using TC h)))
 | f::r,k,h=>by
  have hb:=uA;have hll:=H.ll;have hle:=H.len;obtain⟨d1,d2,d3⟩:=SC h;have e:kA (.ofNat k) (.ofNat (ls.map Fm.c).length)=true:=aA (by simpa using d2);obtain⟨t,ht⟩:∃ t,tl[k]? = some t:=⟨_,List.getElem?_eq_getElem (by omega)⟩;obtain⟨q1,q2⟩:=H.ht k f t d1 ht;rcases Dm (vS (H.ty f (List.mem_of_getElem? d1))) with g1|g1
  ·rcases Em q1 q2 with g2|g2
   ·have g4:=AA (a:=k) (b:=1);rcases Ec H r (k+1) d3 with ih|ih
    ·exact .inl (n8 [(18,.G),(20,.i f.c),(24,.r (TR.ok f.ctu).p),(33,.i t.c),(35,.r (TR.ok f.ctu).p),(43,.T),(45,.z (k+1))] wS e (KA d1 Fm.c_len) g1 (KA ht Tm.c_len) g2 (Bc f.ctu) g4 ih)
    ·exact .inr (n8 [(18,.G),(20,.i f.c),(24,.r (TR.ok f.ctu).p),(33,.i t.c),(35,.r (TR.ok f.ctu).p),(43,.T),(45,.z (k+1))] wS e (KA d1 Fm.c_len) g1 (KA ht Tm.c_len) g2 (Bc f.ctu) g4 ih)
   ·exact .inr (x5 [(18,.G),(20,.i f.c),(24,.r (TR.ok f.ctu).p),(33,.i t.c),(35,.r (TR.er 3).p)] (kp [4]) e (KA d1 Fm.c_len) g1 (KA ht Tm.c_len) g2)
  ·exact .inr (x3 [(18,.G),(20,.i f.c),(24,.r (TR.er 3).p)] (kp [4]) e (KA d1 Fm.c_len) g1)
theorem Gm {tl:List Tm} (H:pP ls tl):A 13 [fA ls,row tl] (num 0)\/A 13 [fA ls,row tl] (num 4):=by
 have e:(!lB (.ofNat (ls.map Fm.c).length) (.ofNat (tl.map Tm.c).length))=false:=TB (by simpa using H.len);rcases Ec H ls 0 rfl with g|g
 ·exact .inl (f2 [(14,.H),(100004,.l wS (.exit 0) (st [] [] 0 []))] e g)
 ·exact .inr (f2 [(14,.H),(100004,.l wS .ret (st [(4,.pv (num 4))] [] 0 []))] e g)
def XR.Of (j:Jt) (tl:List Tm) (r:XR):Prop:=r = .er .z 3\/(j.f.has=false/\r = .er .z 39)\/(j.f.has=true/\r.Gd 0 (j.xt tl (ZB 0 0)))
theorem xW {tl:List Tm} (H:pP ls tl) (j:Jt) (hD:j.D ls [] []) (hc:j.p.ck) (hp:j.p.cnt<=16384):∃ r:XR,A 8 [fA ls,row tl,VA [] [],j.p.p] r.p/\r.Of j tl:=by
 have hm:=jA;obtain⟨g1,hj⟩:=Cm H.ll H.ty j hD hc hp;rcases Gm H with g2|g2
 ·cases hf:j.f.has
  ·exact⟨.er .z 39,f3 [(17,.U [j.ptr [],num 0]),(26,.N 0),(34,.H)] g1 g2 hf,.inr (.inl ⟨hf,rfl⟩)⟩
  ·obtain⟨r,g4,q⟩:=YB (ls:=ls) (tl:=tl) (λ i f h=>by
    obtain⟨t,ht⟩:∃ t,tl[i]? = some t:=⟨_,List.getElem?_eq_getElem (by rw [<- H.len];exact (List.getElem?_eq_some_iff.1 h).1)⟩;exact⟨t,ht,(H.ht i f t h ht).1⟩) j 0 [] (ZB 0 0) hj hf (WX 0 0) (by omega) (by simp;omega) (by show 0+0+_<=_;omega) (by show 0+_<=_;omega)
   have g5:A 19 [row tl,j.ptr [],(ZB 0 0).p] r.p:=f1 [(12,.r r.p)] g4;exact⟨r,f5 [(17,.U [j.ptr [],num 0]),(26,.N 0),(34,.G),(40,.r (ZB 0 0).p),(41,.r r.p)] g1 g2 hf (Sf [] (by simp)) g5,.inr (.inr ⟨hf,q⟩)⟩
 ·exact⟨.er .z 3,f2 [(17,.U [j.ptr [],num 0]),(26,.N 4)] g1 g2,.inl rfl⟩
end Go.Proofs.YtmkajedkflhbgaaGreatDoor
namespace Go.Proofs.YtmkajedkflhbgaaGreatDoor
open Go.Lg
set_option maxRecDepth 100000
def Pf.lms:Pf->List Nat->List Nat
 | .leaf u i,U=>match u with
  | false=>U
  | true=>oB U i
 | .refl _,U=>U
 | .p1 _ a,U=>a.lms U
 | .p2 _ a b,U=>b.lms (a.lms U)
 | .impI _ a,U=>a.lms U
 | .all _ _ a,U=>a.lms U
 | .ins _ _ a,U=>a.lms U
 | .ex _ _ _ a,U=>a.lms U
 | .ind _ _ _ a b,U=>b.lms (a.lms U)
 | .subst _ a b,U=>b.lms (a.lms U)
def Pf.lm:Pf->Nat->Prop
 | .leaf u i,x=>u=true/\x=i
 | .refl _,_=>False
 | .p1 _ a,x=>a.lm x
 | .p2 _ a b,x=>a.lm x\/b.lm x
 | .impI _ a,x=>a.lm x
 | .all _ _ a,x=>a.lm x
 | .ins _ _ a,x=>a.lm x
 | .ex _ _ _ a,x=>a.lm x
 | .ind _ _ _ a b,x=>a.lm x\/b.lm x
 | .subst _ a b,x=>a.lm x\/b.lm x
theorem LF:∀ (p:Pf) (U:List Nat) (x:Nat),x∈p.lms U↔x∈U\/p.lm x
 | .leaf u i,U,x=>by cases u<;>simp [Pf.lms,Pf.lm,mem_ins1,or_comm]
 | .refl _,U,x=>by simp [Pf.lms,Pf.lm]
 | .p1 _ a,U,x=>LF a U x
 | .p2 _ a b,U,x=>by simp only [Pf.lms,Pf.lm];rw [LF b,LF a,or_assoc]
 | .impI _ a,U,x=>LF a U x
 | .all _ _ a,U,x=>LF a U x
 | .ins _ _ a,U,x=>LF a U x
 | .ex _ _ _ a,U,x=>LF a U x
 | .ind _ _ _ a b,U,x=>by simp only [Pf.lms,Pf.lm];rw [LF b,LF a,or_assoc]
 | .subst _ a b,U,x=>by simp only [Pf.lms,Pf.lm];rw [LF b,LF a,or_assoc]
theorem OF:∀ (p:Pf) {U:List Nat},U.Nodup->(p.lms U).Nodup/\(p.lms U).length<=U.length+p.cnt
 | .leaf u i,U,h=>by
  cases u
  ·exact⟨h,Nat.le_add_right _ _⟩
  ·exact⟨rQ h,sQ U i⟩
 | .refl _,U,h=>⟨h,Nat.le_add_right _ _⟩
 | .p1 _ a,U,h=>by have q:=OF a h;exact⟨q.1,by have:=q.2;simp only [Pf.lms,Pf.cnt];omega⟩
 | .p2 _ a b,U,h=>by have q:=OF a h;have r:=OF b q.1;exact⟨r.1,by have:=q.2;have:=r.2;simp only [Pf.lms,Pf.cnt];omega⟩
 | .impI _ a,U,h=>by have q:=OF a h;exact⟨q.1,by have:=q.2;simp only [Pf.lms,Pf.cnt];omega⟩
 | .all _ _ a,U,h=>by have q:=OF a h;exact⟨q.1,by have:=q.2;simp only [Pf.lms,Pf.cnt];omega⟩
 | .ins _ _ a,U,h=>by have q:=OF a h;exact⟨q.1,by have:=q.2;simp only [Pf.lms,Pf.cnt];omega⟩
 | .ex _ _ _ a,U,h=>by have q:=OF a h;exact⟨q.1,by have:=q.2;simp only [Pf.lms,Pf.cnt];omega⟩
 | .ind _ _ _ a b,U,h=>by have q:=OF a h;have r:=OF b q.1;exact⟨r.1,by have:=q.2;have:=r.2;simp only [Pf.lms,Pf.cnt];omega⟩
 | .subst _ a b,U,h=>by have q:=OF a h;have r:=OF b q.1;exact⟨r.1,by have:=q.2;have:=r.2;simp only [Pf.lms,Pf.cnt];omega⟩
noncomputable def Fc:Code:=match (fnc 173).body with
 | some c=>c
 | none => .skip
abbrev Hm (p:Pf) (U:List Nat):IS:=⟨iE 0 [.pv p.p,.map 0] .nil,Tr.nil.put 0 (some (nA U)),1,[]⟩
theorem JG {p:Pf} {U U':List Nat} (h:Rc 1 173 Fc (Hm p U) .normal (st [] [(0,nA U')] 2 [0])):O 173 [.pv p.p,.map 0] [(0,nA U)] (.pv (.tuple [])) [(0,nA U')]:=by
 obtain⟨ro,o1,hC⟩:=qP (s:=⟨.nil,DB [(0,nA U)] .nil,1,[]⟩) (OR h) tH (f:=173) (fn:=fnc 173) (c:=Fc) (by kernel_rfl) (by kernel_rfl) (args:=[.pv p.p,.map 0]) (Nat.le_of_ble_eq_true (show Nat.ble 2 (fnc 173).ntmps=true by kernel_rfl)) (iY U 1 rfl) (r:=⟨.pv (.tuple []),[(0,nA U')],[],2⟩) (by
  unfold tL CL;simp only [and_self,if_true]
  have e:rL ev.T 1 (Tr.nil.put 0 (some (nA U))) (fnc 173).results.toList .normal (st [] [(0,nA U')] 2 [0])=(match nI 1 2 (Tr.nil.put 0 (some (nA U))) (DB [(0,nA U')] .nil) 1000000 (OB (se U')++[]) .nil [] with
   | some nw=>some ⟨.pv (.tuple []),[(0,nA U')],nw,2⟩
   | none=>none):=by kernel_rfl
  refine e.trans ?_;rw [wB];rfl)
 exact AC.wO 4 (Ng (objs:=[(0,nA U)]) (by kernel_rfl) (by kernel_rfl) (by kernel_rfl) hC)
theorem PF:∀ (p:Pf) (U:List Nat),O 173 [.pv p.p,.map 0] [(0,nA U)] (.pv (.tuple [])) [(0,nA (p.lms U))]
 | .leaf false i,U=>JG (kJ [] iD (wB U))
 | .leaf true i,U=>JG (dM [(99999,.w ⟨.undef,some (0,nA (oB U i)),false⟩)] iD (tQ 0 U i) (wB (oB U i)))
 | .refl t,U=>JG (kJ [] iD (wB U))
 | .p1 q a,U=>by cases q<;>exact JG (dM [(21,.d 0 (nA (a.lms U)) (.pv (.tuple [])))] iD (PF a U) (wB (a.lms U)))
 | .p2 q a b,U=>by cases q<;>exact JG (pQ [(21,.d 0 (nA (a.lms U)) (.pv (.tuple []))),(21,.d 0 (nA (b.lms (a.lms U))) (.pv (.tuple [])))] iD (PF a U) (PF b (a.lms U)) (wB (b.lms (a.lms U))))
 | .impI f a,U=>JG (dM [(21,.d 0 (nA (a.lms U)) (.pv (.tuple [])))] iD (PF a U) (wB (a.lms U)))
 | .all u s a,U=>by cases u<;>exact JG (dM [(21,.d 0 (nA (a.lms U)) (.pv (.tuple [])))] iD (PF a U) (wB (a.lms U)))
 | .ins u t a,U=>by cases u<;>exact JG (dM [(21,.d 0 (nA (a.lms U)) (.pv (.tuple [])))] iD (PF a U) (wB (a.lms U)))
 | .ex u f t a,U=>by cases u<;>exact JG (dM [(21,.d 0 (nA (a.lms U)) (.pv (.tuple [])))] iD (PF a U) (wB (a.lms U)))
 | .ind l f t a b,U=>by cases l<;>exact JG (pQ [(21,.d 0 (nA (a.lms U)) (.pv (.tuple []))),(21,.d 0 (nA (b.lms (a.lms U))) (.pv (.tuple [])))] iD (PF a U) (PF b (a.lms U)) (wB (b.lms (a.lms U))))
 | .subst f a b,U=>JG (pQ [(21,.d 0 (nA (a.lms U)) (.pv (.tuple []))),(21,.d 0 (nA (b.lms (a.lms U))) (.pv (.tuple [])))] iD (PF a U) (PF b (a.lms U)) (wB (b.lms (a.lms U))))
theorem Im (p:Pf):O 173 [.pv p.p,.map 1] [(1,.smap false [])] (.pv (.tuple [])) [(1,nA (p.lms []))]:=by
 have h:=AC.ren oY (PF p []);have e:MD XH [(0,nA (p.lms []))]=[(1,nA (p.lms []))]:=by show [(1,(nA _).ren XH)]=_;rw [xY]
 rw [e] at h;exact h
theorem Jm (p:Pf) (h1:p.cnt<=16384) (h2:p.tsz<=qA) (hc:p.ck):∃ S:List Nat,A 100 [p.p] (.tuple [bA S,num 0])/\WB S/\(∀ x,x∈S↔p.lm x)/\S.length<=16384:=by
 obtain⟨hn,hl⟩:=OF p (U:=[]) List.nodup_nil;simp only [List.length_nil,Nat.zero_add] at hl;obtain⟨S,h,h'⟩:=vU hn;refine⟨S,f3 [(7,.N 0),(14,.d 1 (nA (p.lms [])) (.pv (.tuple []))),(16,.o [1] [] (.pv (bA S)))] (mg p h1 h2 hc) (Im p) (AY h),h.asc,λ x => ?_,by omega⟩;rw [h.mem,LF];simp
theorem xE {ls:List Fm} {P:Nat->Jt} {w:Nat} {tl:List Tm} (H:lP ls P w) (HT:∀ (i:Nat) (f:Fm),ls[i]? = some f->f.has=true->tl[i]? = some ((P i).xt [] (ZB 0 0))) (H0:∀ (i:Nat) (f:Fm),ls[i]? = some f->(P i).OK [] 0 []):∀ (j:Jt) (g:List Ty) (hs:List Fm) (s:Sc),j.D ls g hs->j.f.has=true->(j.inl P).xt [] s=j.xt tl s
 | .leaf u i f,g,hs,s,⟨_,h⟩,hf=>by
  cases u
  ·rfl
  ·show (P i).xt [] s=(match tl[i]? with|some t=>t|none => .n0 .unit);rw [HT i f h hf,tm (H0 i f h) s]
 | .refl t,_,_,_,_,hf=>by cases hf
 | .p1 k a f,g,hs,s,⟨_,hD,h⟩,hf=>by
  replace hf:f.has=true:=hf;have ih:=xE H HT H0 a g hs s hD;have e:=tC H a g hs hD;cases k
  ·obtain⟨y,e2⟩:=h;have ih:=ih (by rw [e2];show (f.has || y.has)=true;rw [hf];rfl);simp only [Jt.inl,Jt.xt,e,ih]
  ·obtain⟨y,e2⟩:=h;have ih:=ih (by rw [e2];show (y.has || f.has)=true;rw [hf];simp);simp only [Jt.inl,Jt.xt,e,ih]
  ·obtain⟨u,w,x,e2,_⟩:=h;have ih:=ih (by rw [e2];rfl);simp only [Jt.inl,Jt.xt,e,ih]
 | .p2 k a b f,g,hs,s,⟨_,hD,h⟩,hf=>by
  replace hf:f.has=true:=hf;have ia:=xE H HT H0 a g hs s hD;have ea:=tC H a g hs hD;cases k
  ·obtain⟨hD2,e⟩:=h;have ib:=xE H HT H0 b g hs s hD2;have eb:=tC H b g hs hD2;simp only [Jt.inl,Jt.xt,ea,eb];rw [e] at hf;have hor:(a.f.has || b.f.has)=true:=hf;cases ha:a.f.has<;>cases hb:b.f.has
   ·rw [ha,hb] at hor;cases hor
   ·exact ib hb
   ·exact ia ha
   ·simp only [ia ha,ib hb,cond_true]
  ·obtain⟨hD2,x,e,_⟩:=h;have ib:=xE H HT H0 b g hs s hD2;have eb:=tC H b g hs hD2;have ia:=ia (by rw [e];exact hf);simp only [Jt.inl,Jt.xt,eb,ia];cases hb:b.f.has
   ·rfl
   ·simp only [ib hb]
  ·obtain⟨⟨u,e,hD2⟩,_,ew⟩:=h;have hbh:b.f.has=true:=by rw [<- BB (WJ ew)];exact hf
   have ia:=ia (by rw [e];rfl);have ib:=λ s=>xE H HT H0 b _ _ s hD2 hbh
   simp only [Jt.inl,Jt.xt,ea,ia,ib]
  ·obtain⟨⟨u,e,hD2⟩,_,ew,_⟩:=h;have hbh:b.f.has=true:=by rw [<- BB (WJ ew)];exact hf
   have ib:=λ s=>xE H HT H0 b _ _ s hD2 hbh
   simp only [Jt.inl,Jt.xt,ea,ib];cases hx:a.f.bd.has
   ·rfl
   ·rw [ia (by rw [e];exact hx)]
 | .impI x a,g,hs,s,⟨_,_,_,hD⟩,hf=>by
  have ia:=λ s=>xE H HT H0 a _ _ s hD hf
  simp only [Jt.inl,Jt.xt,ia]
 | .all u t a,g,hs,s,⟨_,_,hD,_⟩,hf=>by
  have ia:=λ s h=>xE H HT H0 a _ _ s hD h
  cases u<;>simp only [Jt.inl,Jt.xt,ia _ hf]
 | .ins u t a f,g,hs,s,⟨_,_,hD,w,x,_,e1,e3⟩,hf=>by
  replace hf:f.has=true:=hf;have hxh:x.has=true:=by rw [<- BB (NC e3)];exact hf
  have ia:=xE H HT H0 a g hs s hD (by rw [e1];cases u<;>exact hxh);cases u<;>simp only [Jt.inl,Jt.xt,ia]
 | .ex u x t a,g,hs,s,⟨_,_,hD,w,y,v,e0,e1,e2,e3⟩,hf=>by
  have ia:=xE H HT H0 a g hs s hD;have e:=tC H a g hs hD;have ee:a.f.er=y.er:=(cF _ _ e3).symm.trans (NC e2);subst e1;cases u
  ·simp only [Jt.inl,Jt.xt,e];cases ha:a.f.has
   ·rfl
   ·rw [ia ha]
  ·simp only [Jt.inl,Jt.xt];exact ia (by rw [BB ee];exact hf)
 | .ind l x t a b f,g,hs,s,⟨_,_,_,⟨hD,v,e5,e6⟩,_,⟨hD2,v2,e7,e8⟩,e1⟩,hf=>by
  replace hf:f.has=true:=hf;have hxh:x.has=true:=by rw [<- BB (NC e1)];exact hf
  have ia:=xE H HT H0 a g hs s hD (by rw [BB ((cF _ _ e6).symm.trans (NC e5))];exact hxh);have ib:=λ s=>xE H HT H0 b _ _ s hD2 (by rw [BB (((cF _ _ e8).symm.trans (NC e7)).trans (QG _ x 1))];exact hxh)
  cases l<;>simp only [Jt.inl,Jt.xt,ia,ib]
 | .subst x a b f,g,hs,s,⟨_,_,hD,hD2,t,u,v,_,e1,e2,e3⟩,hf=>by
  replace hf:f.has=true:=hf;have ee:f.er=b.f.er:=(NC e3).trans ((NC e1).symm.trans (cF _ _ e2));exact xE H HT H0 b g hs s hD2 (by rw [<- BB ee];exact hf)
open Go.Lg
theorem fE {ls:List Fm} : ∀ (j:Jt) (g:List Ty) (hs:List Fm) (x:Nat),j.D ls g hs->j.p.lm x->x<ls.length
 | .leaf u i f,g,hs,x,⟨_,h⟩,⟨hu,hx⟩=>by
  subst hu hx;exact (List.getElem?_eq_some_iff.1 h).1
 | .refl _,_,_,_,_,k=>k.elim
 | .p1 k a f,g,hs,x,⟨_,hD,_⟩,h=>fE a g hs x hD h
 | .p2 k a b f,g,hs,x,⟨_,hD,e⟩,h=>by
  rcases h with h|h
  ·exact fE a g hs x hD h
  ·cases k
   ·exact fE b _ _ x e.1 h
   ·exact fE b _ _ x e.1 h
   ·exact fE b _ _ x e.1.choose_spec.2 h
   ·exact fE b _ _ x e.1.choose_spec.2 h
 | .impI y a,g,hs,x,⟨_,_,_,hD⟩,h=>fE a _ _ x hD h
 | .all u s a,g,hs,x,⟨_,_,hD,_⟩,h=>fE a _ _ x hD h
 | .ins u t a f,g,hs,x,⟨_,_,hD,_⟩,h=>fE a _ _ x hD h
 | .ex u y t a,g,hs,x,⟨_,_,hD,_⟩,h=>fE a _ _ x hD h
 | .ind l y t a b f,g,hs,x,⟨_,_,_,⟨hD,_⟩,_,⟨hD2,_⟩,_⟩,h=>h.elim (fE a _ _ x hD) (fE b _ _ x hD2)
 | .subst y a b f,g,hs,x,⟨_,_,hD,hD2,_⟩,h=>h.elim (fE a _ _ x hD) (fE b _ _ x hD2)
open Classical in
noncomputable def Pf.S (p:Pf):List Nat:=if h:∃ S:List Nat,A 100 [p.p] (.tuple [bA S,num 0])/\WB S/\(∀ x,x∈S↔p.lm x)/\S.length<=16384 then h.choose else []
theorem DOK.S {ls:List Fm} {i:Nat} {d:Dc} (h:DOK ls i d):A 100 [d.p.p] (.tuple [bA d.p.S,num 0])/\WB d.p.S/\(∀ x,x∈d.p.S↔d.p.lm x)/\d.p.S.length<=16384:=by
 obtain⟨hc,hp,_⟩:=h.q;have e:=Jm d.p hp h.g.tsz hc;unfold Pf.S;rw [dif_pos e];exact e.choose_spec
theorem DOK.lm {ls:List Fm} {i:Nat} {d:Dc} (h:DOK ls i d) {x:Nat} (hx:d.p.lm x):x<ls.length:=by
 obtain⟨_,_,j,e,_,hD⟩:=h.q;rw [<- e] at hx;exact fE j [] [] x hD hx
theorem Dc.c_len (d:Dc):d.c.length=13:=rfl
theorem Km {n k x y:Nat} (h:k<n):oD [97+k,97+y] [97+n,97+x]=false:=by
 cases e:oD [97+k,97+y] [97+n,97+x]
 ·rfl
 ·rw [mM] at e;have:=(List.cons.inj e).1;omega
variable {ds:List Dc}
abbrev AW:Kp:=⟨[1,5,23,24,25],[1],2,[]⟩
abbrev Lm (n x:Nat) (f:Fm) (p:Pf) (es:List (List PV)) (k:Nat):IS:=st [(1,.pv (num n)),(5,.loc 1 0),(23,.pv (.slice es)),(24,.pv (num es.length)),(25,.pv (num k))] [(1,bx (Dc.c ⟨[97+n,97+x],f,p⟩))] 2 []
abbrev BW (n x:Nat) (f:Fm) (p:Pf):IS:=st [(1,.pv (num n)),(5,.loc 1 0)] [(1,bx (Dc.c ⟨[97+n,97+x],f,p⟩))] 2 []
theorem ThOK.n (h:ThOK ds) {i:Nat} {d:Dc} (e:ds[i]? = some d):∃ x f p,x<3/\d=⟨[97+i,97+x],f,p⟩:=by
 obtain⟨x,hx,e⟩:=(h i d e).n;exact⟨x,d.f,d.p,hx,by cases d;simp_all⟩
theorem Gc (h:ThOK ds) (h4:ds.length<=4) (n x:Nat) (hn:n<ds.length) (f:Fm) (p:Pf):∀ (r:List Dc) (k:Nat),(ds.take n).drop k=r->Lp 172 0 0 (Lm n x f p ((ds.map Dc.c).take n) k) (.exit 0) (BW n x f p)
 | [],k,e=>x1 [(26,.H)] ⟨[1,5],[1],2,[]⟩ (show kA (.ofNat k) (.ofNat ((ds.map Dc.c).take n).length)=false from CA (by rw [<- List.map_take,List.length_map];exact TC e))
 | d::r,k,e=>by
  have hb:=uA;obtain⟨d1,d2,d3⟩:=SC e;have hk:k<n:=by rw [List.length_take] at d2;omega
  have g1:kA (.ofNat k) (.ofNat ((ds.map Dc.c).take n).length)=true:=aA (by rw [<- List.map_take,List.length_map];exact d2);have g2:=KA d1 Dc.c_len;rw [List.map_take] at g2;rw [List.getElem?_take,if_pos hk] at d1;obtain⟨y,g,q,hy,rfl⟩:=h.n d1;exact n5 [(26,.G),(27,.i (Dc.c ⟨[97+k,97+y],g,q⟩)),(33,.H),(34,.ok)] AW g1 g2 (Km (x:=x) (y:=y) hk) (YA (n:=k+1)) (Gc h h4 n x hn f p r (k+1) d3)
theorem Mm (h:ThOK ds) (h4:ds.length<=4) {n:Nat} {d:Dc} (e:ds[n]? = some d):A 172 [yF ds,num n] (num 0):=by
 have hb:=uA;have hn:=(List.getElem?_eq_some_iff.1 e).1;have hd:=h n d e;have hl:=hd.S;have g1:=KA e Dc.c_len;obtain⟨x,f,p,hx,rfl⟩:=h.n e;have g2:=im n x (by omega) hx;have g3:Nat.ble n (ds.map Dc.c).length=true:=Nat.ble_eq_true_of_le (by simp;omega);have g4:=Gc h h4 n x hn f p _ 0 rfl;have hf:=oW (λ f hf=>(h.take n).ty f hf) hd.q;have g5:=ng hf.1 hf.2;have g6:=hl.1;by_cases hS:p.S=[]
 ·have g7:kA 0 (.ofNat (p.S.map ic).length)=false:=by rw [hS];rfl
  exact f7 [(14,.i (Dc.c ⟨[97+n,97+x],f,p⟩)),(18,.T),(23,.ok),(100005,.l AW (.exit 0) (BW n x f p)),(37,.N 0),(44,.U [bA p.S,num 0]),(52,.H)] g1 g2 g3 g4 g5 g6 g7
 ·obtain⟨k,hk⟩:∃ k,p.S.length=k+1:=⟨p.S.length-1,by have:=List.length_pos_iff.2 hS;omega⟩;have hk2:p.S.length<=16384:=hl.2.2.2;have g7:kA 0 (.ofNat (p.S.map ic).length)=true:=aA (a:=0) (by simp;omega);have g8:=nB (a:=(p.S.map ic).length) (by simp;omega) (by simp;omega);obtain⟨m,hk3⟩:∃ m,p.S[(p.S.map ic).length-1]? = some m:=⟨_,List.getElem?_eq_getElem (by rw [List.length_map];omega)⟩;have g10:=KA hk3 (c:=ic) (n:=1) (λ _=>rfl);have hm:m<n:=by
   have:=hd.lm ((hl.2.2.1 m).1 (List.mem_of_getElem? hk3));simp [uB] at this;omega
  have g11:(!kA (.ofNat m) (.ofNat n))=false:=by rw [aA hm];rfl
  exact f10 [(14,.i (Dc.c ⟨[97+n,97+x],f,p⟩)),(18,.T),(23,.ok),(100005,.l AW (.exit 0) (BW n x f p)),(37,.N 0),(44,.U [bA p.S,num 0]),(52,.G),(57,.z ((p.S.map ic).length-1)),(58,.i (ic m)),(61,.H)] g1 g2 g3 g4 g5 g6 g7 g8 g10 g11
abbrev Hc:Kp:=⟨[1,11,12],[0],1,[]⟩
abbrev Nm (ds:List Dc) (k:Nat):IS:=st [(1,.loc 0 0),(11,.pv (num (ds.map Dc.c).length)),(12,.pv (num k))] [(0,bx [.slice (ds.map Dc.c)])] 1 []
theorem Ic (h:ThOK ds) (h4:ds.length<=4):∀ (r:List Dc) (k:Nat),ds.drop k=r->Lp 99 0 0 (Nm ds k) (.exit 0) (st [] [] 1 [])
 | [],k,e=>x1 [(13,.H)] ⟨[],[],1,[]⟩ (show kA (.ofNat k) (.ofNat (ds.map Dc.c).length)=false from CA (by simpa using TC e))
 | d::r,k,e=>by
  have hb:=uA;obtain⟨d1,d2,d3⟩:=SC e;have g1:kA (.ofNat k) (.ofNat (ds.map Dc.c).length)=true:=aA (by simpa using d2);exact n4 [(13,.G),(17,.N 0),(21,.ok)] Hc g1 (Mm h h4 d1) (YA (n:=k+1)) (Ic h h4 r (k+1) d3)
theorem Om (h:ThOK ds) (h4:ds.length<=4):A 99 [yF ds] (num 0):=by
 have e:kA 32 (.ofNat (ds.map Dc.c).length)=false:=CA (a:=32) (by simp;omega);exact f2 [(8,.H),(100004,.l Hc (.exit 0) (st [] [] 1 []))] e (Ic h h4 ds 0 rfl)
noncomputable abbrev GL (ds:List Dc):List (List PV):=ds.map λ d=>[bA d.p.S]
theorem Pm (h:ThOK ds) (h4:ds.length<=4):A 43 [yF ds] (.tuple [.slice (GL ds),num 0]):=by
 have g:=Om h h4;rcases ds with _|⟨d1,_|⟨d2,_|⟨d3,_|⟨d4,_|⟨d5,ds⟩⟩⟩⟩⟩
 ·exact f1 [(11,.N 0)] g
 ·exact f3 [(11,.N 0),(25,.U [bA d1.p.S,num 0]),(31,.g),(33,.g)] g (h 0 d1 rfl).S.1 (rfl:true=true)
 ·exact f4 [(11,.N 0),(25,.U [bA d1.p.S,num 0]),(31,.g),(25,.U [bA d2.p.S,num 0]),(33,.g)] g (h 0 d1 rfl).S.1 (rfl:true=true) (h 1 d2 rfl).S.1
 ·exact f5 [(11,.N 0),(25,.U [bA d1.p.S,num 0]),(31,.g),(25,.U [bA d2.p.S,num 0]),(25,.U [bA d3.p.S,num 0]),(33,.g)] g (h 0 d1 rfl).S.1 (rfl:true=true) (h 1 d2 rfl).S.1 (h 2 d3 rfl).S.1
 ·exact f6 [(11,.N 0),(25,.U [bA d1.p.S,num 0]),(31,.g),(25,.U [bA d2.p.S,num 0]),(25,.U [bA d3.p.S,num 0]),(25,.U [bA d4.p.S,num 0]),(33,.g)] g (h 0 d1 rfl).S.1 (rfl:true=true) (h 1 d2 rfl).S.1 (h 2 d3 rfl).S.1 (h 3 d4 rfl).S.1
 ·simp at h4
end Go.Proofs.YtmkajedkflhbgaaGreatDoor
namespace Go.Proofs.YtmkajedkflhbgaaGreatDoor
open Go.Lg
set_option maxRecDepth 100000
variable {ds:List Dc}
def DD (U l:List Nat):List Nat:=l.foldl oB U
noncomputable def aI (ds:List Dc):Nat->List Nat->List Nat
 | 0,U=>U
 | k+1,U=>aI ds k (if k∈U then (match ds[k]? with|some d=>DD U d.p.S|none=>U) else U)
theorem Jc:∀ (U:List Nat) (i:Nat),GC (se U) (.int (.ofNat i))=if i∈U then some (.pv (.bool true)) else none
 | [],i=>by simp [se,GC]
 | n::U,i=>by
  show (bif SK.eqB (.int (.ofNat i)) (.int (.ofNat n)) then _ else GC (se U) _)=_;by_cases e:i=n
  ·subst e;rw [(SK.eqB_iff _ _).2 rfl];simp
  ·have:SK.eqB (.int (.ofNat i)) (.int (.ofNat n))=false:=by
    cases h:SK.eqB (.int (.ofNat i)) (.int (.ofNat n))
    ·rfl
    ·exact absurd (Int.ofNat.inj (SK.int.inj ((SK.eqB_iff _ _).1 h))) e
   rw [this,cond_false,Jc U i];simp [e]
theorem Qm (U:List Nat) (i:Nat):ro (NO false false (.bool false) (λ _=>some (nA U)) (.map 1) (.pv (num i)))=some ⟨.pv (.bool (decide (i∈U))),none,false⟩:=by
 show ro (match GC (se U) (.int (.ofNat i)),false with
    | some x,true=>some (.tuple [x,.pv (.bool true)])
    | none,true=>some (.pv (.tuple [.bool false,.bool false]))
    | some x,false=>some x
    | none,false=>some (.pv (.bool false)))=_
 rw [Jc];by_cases h:i∈U<;>simp [h,ro]
abbrev CW:Kp:=⟨[6,8,9,42,43,44],[1],2,[]⟩
abbrev Rm (E:List (List PV)) (U:List Nat) (i:Nat) (S:List Nat) (k:Nat):IS:=st [(6,.pv (.slice E)),(8,.map 1),(9,.pv (num i)),(42,.pv (bA S)),(43,.pv (num (S.map ic).length)),(44,.pv (num k))] [(1,nA U)] 2 []
abbrev kS (E:List (List PV)) (U:List Nat) (i:PV):IS:=st [(6,.pv (.slice E)),(8,.map 1),(9,.pv i)] [(1,nA U)] 2 []
theorem Kc (E:List (List PV)) (i:Nat) (S:List Nat) (hS:S.length<=16384):∀ (r:List Nat) (k:Nat) (U:List Nat),S.drop k=r->Lp 21 1 0 (Rm E U i S k) (.exit 2) (kS E (DD U r) (num i))
 | [],k,U,e=>y1 [(45,.H)] ⟨[6,8,9],[1],2,[]⟩ (show kA (.ofNat k) (.ofNat (S.map ic).length)=false from CA (by simpa using TC e)) (wB U)
 | x::r,k,U,e=>by
  have hb:=uA;obtain⟨d1,d2,d3⟩:=SC e;have g1:kA (.ofNat k) (.ofNat (S.map ic).length)=true:=aA (by simpa using d2);exact n6 [(45,.G),(46,.i (ic x)),(99999,.w ⟨.undef,some (1,nA (oB U x)),false⟩),(50,.ok)] CW g1 (KA d1 (c:=ic) (n:=1) (λ _=>rfl)) (tQ 1 U x) (YA (n:=k+1)) (wB (oB U x)) (Kc E i S hS r (k+1) (oB U x) d3)
theorem Lc (h:ThOK ds) (h4:ds.length<=4):∀ (k:Nat) (U:List Nat),k<=ds.length->Lp 21 0 0 (kS (GL ds) U (match k with|0 => .int (-1)|k+1=>num k)) (.exit 0) (st [(8,.map 1)] [(1,nA (aI ds k U))] 2 [])
 | 0,U,_=>rk [] ⟨[8],[1],2,[]⟩ ⟨[8],[1],2,[]⟩ (B:=AE.exit 0 = .exit 0/\OB (se U)=[]/\st [(8,.map 1)] [(1,nA U)] 2 []=st [(8,.map 1)] [(1,nA U)] 2 []) ⟨rfl,wB U,rfl⟩
 | k+1,U,hk=>by
  have hb:=uA;obtain⟨d,hd⟩:∃ d,ds[k]? = some d:=⟨_,List.getElem?_eq_getElem (by omega)⟩;have ih:=Lc h h4 k (if k∈U then DD U d.p.S else U) (by omega);have e:aI ds (k+1) U=aI ds k (if k∈U then DD U d.p.S else U):=by
   show aI ds k (if k∈U then (match ds[k]? with|some d=>DD U d.p.S|none=>U) else U)=_;rw [hd]
  rw [e];have g1:=Qm U k;by_cases hU:k∈U
  ·rw [if_pos hU] at ih ⊢;rw [decide_eq_true hU] at g1;have g2:=KA hd (c:=λ d:Dc=>[bA d.p.S]) (n:=1) (λ _=>rfl);have g3:=Kc (GL ds) k d.p.S (h k d hd).S.2.2.2 d.p.S 0 U rfl
   cases k with
   | zero=>exact n6 [(38,.w ⟨.pv (.bool true),none,false⟩),(41,.i [bA d.p.S]),(100012,.l CW (.exit 2) (kS (GL ds) (DD U d.p.S) (num 0)))] ⟨[6,8,9],[1],2,[]⟩ g1 g2 (wB U) g3 (wB (DD U d.p.S)) ih
   | succ k=>exact n7 [(38,.w ⟨.pv (.bool true),none,false⟩),(41,.i [bA d.p.S]),(100012,.l CW (.exit 2) (kS (GL ds) (DD U d.p.S) (num (k+1)))),(35,.z k)] ⟨[6,8,9],[1],2,[]⟩ g1 g2 (wB U) g3 (nB (a:=k+1)) (wB (DD U d.p.S)) ih
  ·rw [if_neg hU] at ih ⊢;rw [decide_eq_false hU] at g1
   cases k with
   | zero=>exact n3 [(38,.w ⟨.pv (.bool false),none,false⟩)] ⟨[6,8,9],[1],2,[]⟩ g1 (wB U) ih
   | succ k=>exact n4 [(38,.w ⟨.pv (.bool false),none,false⟩),(35,.z k)] ⟨[6,8,9],[1],2,[]⟩ g1 (nB (a:=k+1)) (wB U) ih
theorem rP:∀ (l U:List Nat) (x:Nat),x∈DD U l↔x∈U\/x∈l
 | [],U,x=>by simp [DD]
 | y::l,U,x=>by
  show x∈DD (oB U y) l↔_;rw [rP l,mem_ins1,List.mem_cons]
  grind
theorem Mc:∀ (l:List Nat) {U:List Nat},U.Nodup->(DD U l).Nodup/\(DD U l).length<=U.length+l.length
 | [],U,h=>⟨h,Nat.le_add_right _ _⟩
 | y::l,U,h=>by
  have q:=Mc l (rQ (n:=y) h);have:=sQ U y;exact⟨q.1,by show (DD (oB U y) l).length<=_;simp;omega⟩
structure yS (ds:List Dc) (n:Nat) (U:List Nat):Prop where
 nd:U.Nodup
 len:U.length<=100000
 le:∀ x∈U,x<=n
 n:n∈U
 cl:∀ i∈U,∀ d,ds[i]? = some d->∀ x,d.p.lm x->x∈U
theorem tP (h:ThOK ds) {i:Nat} {d:Dc} (e:ds[i]? = some d) {x:Nat} (hx:d.p.lm x):x<i:=by
 have:=(h i d e).lm hx;simp [uB] at this;omega
theorem DW (h:ThOK ds) (h4:ds.length<=4) {n:Nat} : ∀ (k:Nat) (U:List Nat),k<=4->U.Nodup->U.length+16384 * k<=100000->(∀ x∈U,x<=n)->n∈U->(∀ i∈U,k<=i->∀ d,ds[i]? = some d->∀ x,d.p.lm x->x∈U)->yS ds n (aI ds k U)
 | 0,U,_,h1,h2,h3,h5,h6=>⟨h1,by show U.length<=_;omega,h3,h5,λ i hi d e x hx=>h6 i hi (Nat.zero_le _) d e x hx⟩
 | k+1,U,hk,h1,h2,h3,h5,h6=>by
  have skip:(k∈U->∀ d,ds[k]? = some d->∀ x,d.p.lm x->x∈U)->yS ds n (aI ds k U):=λ h7=>DW h h4 k U (by omega) h1 (by omega) h3 h5 λ i hi hki d e x hx=>by
   by_cases hik:i=k
   ·subst hik;exact h7 hi d e x hx
   ·exact h6 i hi (by omega) d e x hx
  show yS ds n (aI ds k (if k∈U then (match ds[k]? with|some d=>DD U d.p.S|none=>U) else U));by_cases hU:k∈U
  ·rw [if_pos hU]
   cases hd:ds[k]? with
   | none=>exact skip λ _ d e=>by rw [hd] at e;cases e
   | some d =>
    have hS:=(h k d hd).S;obtain⟨q1,q2⟩:=Mc d.p.S h1;refine DW h h4 k (DD U d.p.S) (by omega) q1 (by have:=hS.2.2.2;omega) (λ x hx => ?_) ((rP _ _ _).2 (.inl h5)) λ i hi hki e ed x hx => ?_
    ·rcases (rP _ _ _).1 hx with hx|hx
     ·exact h3 x hx
     ·have:=tP h hd ((hS.2.2.1 x).1 hx);have:=h3 k hU;omega
    ·rw [rP];rcases (rP _ _ _).1 hi with hi|hi
     ·by_cases hik:i=k
      ·subst hik;rw [hd] at ed;cases ed;exact .inr ((hS.2.2.1 x).2 hx)
      ·exact .inl (h6 i hi (by omega) e ed x hx)
     ·have:=tP h hd ((hS.2.2.1 i).1 hi);omega
  ·rw [if_neg hU];exact skip λ hk=>absurd hk hU
theorem Sm (h:ThOK ds) (h4:ds.length<=4) {n:Nat} (hn:n<ds.length):∃ S:List Nat,A 21 [yF ds,num n] (.tuple [bA S,num 0])/\WB S /\ ∃ U,yS ds n U /\ ∀ x,x∈S↔x∈U:=by
 have hU:=DW h h4 (n:=n) (n+1) [n] (by omega) (by simp) (by simp;omega) (by simp) (by simp) (λ i hi hk=>by simp at hi;omega);obtain⟨S,hS,_⟩:=vU hU.nd (by have:=hU.len;omega);have e:(!kA (.ofNat n) (.ofNat (GL ds).length))=false:=by rw [aA (by simpa using hn)];rfl
 exact⟨S,f5 [(14,.U [.slice (GL ds),num 0]),(26,.H),(100008,.l ⟨[6,8,9],[1],2,[]⟩ (.exit 0) (st [(8,.map 1)] [(1,nA (aI ds (n+1) [n]))] 2 [])),(52,.o [1] [] (.pv (bA S)))] (Pm h h4) e (wB [n]) (Lc h h4 (n+1) [n] hn) (AY hS),hS.asc,_,hU,hS.mem⟩
end Go.Proofs.YtmkajedkflhbgaaGreatDoor
namespace Go.Proofs.YtmkajedkflhbgaaGreatDoor
open Go.Lg
set_option maxRecDepth 100000
def yD:List (Nat × Pf)->Nat->Option Pf
 | [],_=>none
 | e::r,i=>if i=e.1 then some e.2 else yD r i
def Pf.il (T:List (Nat × Pf)):Pf->Pf
 | .leaf u i=>match u with
  | false => .leaf false i
  | true=>(yD T i).getD (.leaf true i)
 | .refl t => .refl t
 | .p1 k a => .p1 k (a.il T)
 | .p2 k a b => .p2 k (a.il T) (b.il T)
 | .impI f a => .impI f (a.il T)
 | .all u s a => .all u s (a.il T)
 | .ins u t a => .ins u t (a.il T)
 | .ex u f t a => .ex u f t (a.il T)
 | .ind l f t a b => .ind l f t (a.il T) (b.il T)
 | .subst f a b => .subst f (a.il T) (b.il T)
def mp (T:List (Nat × Pf)):List (SK × V):=T.map λ e=>(.int (.ofNat e.1),.pv e.2.p)
abbrev mo (T:List (Nat × Pf)):Ob:=.smap false (mp T)
theorem Nc (i n:Nat):SK.eqB (.int (.ofNat i)) (.int (.ofNat n))=decide (i=n):=by
 cases h:SK.eqB (.int (.ofNat i)) (.int (.ofNat n))
 ·exact (decide_eq_false λ e=>by subst e;rw [(SK.eqB_iff _ _).2 rfl] at h;cases h).symm
 ·exact (decide_eq_true (Int.ofNat.inj (SK.int.inj ((SK.eqB_iff _ _).1 h)))).symm
theorem Oc:∀ (T:List (Nat × Pf)) (i:Nat),GC (mp T) (.int (.ofNat i))=(yD T i).map λ q => .pv q.p
 | [],i=>rfl
 | e::T,i=>by
  show (bif SK.eqB (.int (.ofNat i)) (.int (.ofNat e.1)) then _ else GC (mp T) _)=_;rw [Nc,Oc T i];by_cases h:i=e.1<;>simp [yD,h]
theorem EW {T:List (Nat × Pf)} {i:Nat} {q:Pf} (z:PV) (h:yD T i=some q):ro (NO false false z (λ _=>some (mo T)) (.map 2) (.pv (num i)))=some ⟨.pv q.p,none,false⟩:=by
 show ro (match GC (mp T) (.int (.ofNat i)),false with
    | some x,true=>some (.tuple [x,.pv (.bool true)])
    | none,true=>some (.pv (.tuple [z,.bool false]))
    | some x,false=>some x
    | none,false=>some (.pv z))=_
 rw [Oc,h];rfl
theorem T3 {T:List (Nat × Pf)} (h:T.length<=3):T=[]\/(∃ a,T=[a])\/(∃ a b,T=[a,b]) \/ ∃ a b c,T=[a,b,c]:=by
 rcases T with _|⟨a,_|⟨b,_|⟨c,_|⟨d,T⟩⟩⟩⟩
 ·exact .inl rfl
 ·exact .inr (.inl ⟨a,rfl⟩)
 ·exact .inr (.inr (.inl ⟨a,b,rfl⟩))
 ·exact .inr (.inr (.inr ⟨a,b,c,rfl⟩))
 ·simp at h
theorem dC (T:List (Nat × Pf)):∀ p:Pf,p.cnt<=(p.il T).cnt
 | .leaf u i=>by cases u<;>exact DN _
 | .refl t=>Nat.le_refl _
 | .p1 k a=>by have:=dC T a;simp only [Pf.il,Pf.cnt];omega
 | .p2 k a b=>by have:=dC T a;have:=dC T b;simp only [Pf.il,Pf.cnt];omega
 | .impI f a=>by have:=dC T a;simp only [Pf.il,Pf.cnt];omega
 | .all u s a=>by have:=dC T a;simp only [Pf.il,Pf.cnt];omega
 | .ins u t a=>by have:=dC T a;simp only [Pf.il,Pf.cnt];omega
 | .ex u f t a=>by have:=dC T a;simp only [Pf.il,Pf.cnt];omega
 | .ind l f t a b=>by have:=dC T a;have:=dC T b;simp only [Pf.il,Pf.cnt];omega
 | .subst f a b=>by have:=dC T a;have:=dC T b;simp only [Pf.il,Pf.cnt];omega
def FW (T:List (Nat × Pf)) (p:Pf):Prop:=∀ x,p.lm x->∃ q,yD T x=some q
theorem GW {a b:Nat} (h:b<=a) (h':a<=dA:=by omega):rA (Int.ofNat a - .ofNat b)=true/\Int.ofNat a - .ofNat b = .ofNat (a-b):=by
 have e:Int.ofNat a - .ofNat b = .ofNat (a-b):=by simp;omega
 exact⟨by rw [e];exact YA,e⟩
abbrev OA (n a' a c:Nat):Di:=[(17,.N n),(28,.o [2] [] (.pv (num a'))),(30,.N a),(31,.z (a'-a)),(32,.z c)]
abbrev ED (n a' a b' b c:Nat):Di:=[(17,.N n),(28,.o [2] [] (.pv (num a'))),(30,.N a),(31,.z (a'-a)),(32,.z (n+(a'-a))),(28,.o [2] [] (.pv (num b'))),(30,.N b),(31,.z (b'-b)),(32,.z c)]
theorem ad' {a b c:Nat} (e:c=a+b) (h:c<=dA):rA (Int.ofNat a + .ofNat b)=true/\Int.ofNat a + .ofNat b = .ofNat c:=e ▸ AA (e ▸ h)
theorem aP {T:List (Nat × Pf)} {p a:Pf} (hb:(p.il T).cnt<=dA) (e:(p.il T).cnt=p.cnt+((a.il T).cnt-a.cnt)) (h:(a.il T).cnt<=(p.il T).cnt):A 45 [p.p] (num p.cnt)/\A 45 [a.p] (num a.cnt)/\(rA (Int.ofNat (a.il T).cnt - .ofNat a.cnt)=true/\Int.ofNat (a.il T).cnt - .ofNat a.cnt = .ofNat ((a.il T).cnt-a.cnt))/\(rA (Int.ofNat p.cnt + .ofNat ((a.il T).cnt-a.cnt))=true/\Int.ofNat p.cnt + .ofNat ((a.il T).cnt-a.cnt) = .ofNat (p.il T).cnt):=by
 have k:=dC T a;exact⟨aC p (by omega),aC a (by omega),GW k,ad' e hb⟩
theorem HW {T:List (Nat × Pf)} {p a b:Pf} (hb:(p.il T).cnt<=dA) (e:(p.il T).cnt=p.cnt+((a.il T).cnt-a.cnt)+((b.il T).cnt-b.cnt)) (h:(a.il T).cnt<=(p.il T).cnt) (h':(b.il T).cnt<=(p.il T).cnt):A 45 [p.p] (num p.cnt)/\A 45 [a.p] (num a.cnt)/\(rA (Int.ofNat (a.il T).cnt - .ofNat a.cnt)=true/\Int.ofNat (a.il T).cnt - .ofNat a.cnt = .ofNat ((a.il T).cnt-a.cnt))/\(rA (Int.ofNat p.cnt + .ofNat ((a.il T).cnt-a.cnt))=true/\Int.ofNat p.cnt + .ofNat ((a.il T).cnt-a.cnt) = .ofNat (p.cnt+((a.il T).cnt-a.cnt)))/\A 45 [b.p] (num b.cnt)/\(rA (Int.ofNat (b.il T).cnt - .ofNat b.cnt)=true/\Int.ofNat (b.il T).cnt - .ofNat b.cnt = .ofNat ((b.il T).cnt-b.cnt))/\(rA (Int.ofNat (p.cnt+((a.il T).cnt-a.cnt)) + .ofNat ((b.il T).cnt-b.cnt))=true/\Int.ofNat (p.cnt+((a.il T).cnt-a.cnt)) + .ofNat ((b.il T).cnt-b.cnt) = .ofNat (p.il T).cnt):=by
 have k:=dC T a;have k':=dC T b;exact⟨aC p (by omega),aC a (by omega),GW k,AA,aC b (by omega),GW k',ad' e hb⟩
abbrev IW:PV:=.agg [num 0,num 0,num 0,.nils,.nils,.nils,.nils]
theorem QF:∀ (p:Pf) (T:List (Nat × Pf)),T.length<=3->FW T p->(p.il T).cnt<=dA->O 22 [.pv p.p,.map 2] [(2,mo T)] (.pv (num (p.il T).cnt)) [(2,mo T)]
 | .leaf false i,T,h3,h,hb=>by
  rcases T3 h3 with rfl|⟨x,rfl⟩|⟨x,y,rfl⟩|⟨x,y,z,rfl⟩<;>exact o1 3 [(17,.N 1)] (aC (.leaf false i) (show 1<=dA by decide))
 | .leaf true i,T,h3,h,hb=>by
  obtain⟨q,e⟩:=h i ⟨rfl,rfl⟩;have e':(Pf.leaf true i).il T=q:=by simp only [Pf.il,e,Option.getD_some]
  rw [e'] at hb ⊢;have g:=aC q hb;have g0:=EW IW e;rcases T3 h3 with rfl|⟨x,rfl⟩|⟨x,y,rfl⟩|⟨x,y,z,rfl⟩<;>exact o2 3 [(14,.w ⟨.pv q.p,none,false⟩),(15,.N q.cnt)] g0 g
 | .refl t,T,h3,h,hb=>by
  have hb':(Pf.refl t).cnt<=dA:=hb;rcases T3 h3 with rfl|⟨x,rfl⟩|⟨x,y,rfl⟩|⟨x,y,z,rfl⟩<;>exact o1 3 [(17,.N (Pf.refl t).cnt)] (aC (.refl t) hb')
 | .p1 k a,T,h3,h,hb=>by
  have w:=dC T a;have e:((Pf.p1 k a).il T:Pf).cnt=((Pf.p1 k a):Pf).cnt+((a.il T).cnt-a.cnt):=by simp only [Pf.cnt,Pf.il];omega
  have hb':(a.il T).cnt<=((Pf.p1 k a).il T:Pf).cnt:=by simp only [Pf.cnt,Pf.il];omega
  have g:=QF a T h3 h (by omega);have ⟨q1,q2,q3,q4⟩:=aP hb e hb';generalize ((Pf.p1 k a).il T).cnt=c,(a.il T).cnt=x',(Pf.p1 k a).cnt=n at q1 q3 q4 g ⊢;rcases T3 h3 with rfl|⟨x,rfl⟩|⟨x,y,rfl⟩|⟨x,y,z,rfl⟩<;>cases k<;>exact o5 3 (OA n x' a.cnt c) q1 g q2 q3 q4
 | .impI f a,T,h3,h,hb=>by
  have w:=dC T a;have e:((Pf.impI f a).il T:Pf).cnt=((Pf.impI f a):Pf).cnt+((a.il T).cnt-a.cnt):=by simp only [Pf.cnt,Pf.il];omega
  have hb':(a.il T).cnt<=((Pf.impI f a).il T:Pf).cnt:=by simp only [Pf.cnt,Pf.il];omega
  have g:=QF a T h3 h (by omega);have ⟨q1,q2,q3,q4⟩:=aP hb e hb';generalize ((Pf.impI f a).il T).cnt=c,(a.il T).cnt=x',(Pf.impI f a).cnt=n at q1 q3 q4 g ⊢;rcases T3 h3 with rfl|⟨x,rfl⟩|⟨x,y,rfl⟩|⟨x,y,z,rfl⟩<;>exact o5 3 (OA n x' a.cnt c) q1 g q2 q3 q4
 | .all u s a,T,h3,h,hb=>by
  have w:=dC T a;have e:((Pf.all u s a).il T:Pf).cnt=((Pf.all u s a):Pf).cnt+((a.il T).cnt-a.cnt):=by simp only [Pf.cnt,Pf.il];omega
  have hb':(a.il T).cnt<=((Pf.all u s a).il T:Pf).cnt:=by simp only [Pf.cnt,Pf.il];omega
  have g:=QF a T h3 h (by omega);have ⟨q1,q2,q3,q4⟩:=aP hb e hb';generalize ((Pf.all u s a).il T).cnt=c,(a.il T).cnt=x',(Pf.all u s a).cnt=n at q1 q3 q4 g ⊢;rcases T3 h3 with rfl|⟨x,rfl⟩|⟨x,y,rfl⟩|⟨x,y,z,rfl⟩<;>cases u<;>exact o5 3 (OA n x' a.cnt c) q1 g q2 q3 q4
 | .ins u t a,T,h3,h,hb=>by
  have w:=dC T a;have e:((Pf.ins u t a).il T:Pf).cnt=((Pf.ins u t a):Pf).cnt+((a.il T).cnt-a.cnt):=by simp only [Pf.cnt,Pf.il];omega
  have hb':(a.il T).cnt<=((Pf.ins u t a).il T:Pf).cnt:=by simp only [Pf.cnt,Pf.il];omega
  have g:=QF a T h3 h (by omega);have ⟨q1,q2,q3,q4⟩:=aP hb e hb';generalize ((Pf.ins u t a).il T).cnt=c,(a.il T).cnt=x',(Pf.ins u t a).cnt=n at q1 q3 q4 g ⊢;rcases T3 h3 with rfl|⟨x,rfl⟩|⟨x,y,rfl⟩|⟨x,y,z,rfl⟩<;>cases u<;>exact o5 3 (OA n x' a.cnt c) q1 g q2 q3 q4
 | .ex u f t a,T,h3,h,hb=>by
  have w:=dC T a;have e:((Pf.ex u f t a).il T:Pf).cnt=((Pf.ex u f t a):Pf).cnt+((a.il T).cnt-a.cnt):=by simp only [Pf.cnt,Pf.il];omega
  have hb':(a.il T).cnt<=((Pf.ex u f t a).il T:Pf).cnt:=by simp only [Pf.cnt,Pf.il];omega
  have g:=QF a T h3 h (by omega);have ⟨q1,q2,q3,q4⟩:=aP hb e hb';generalize ((Pf.ex u f t a).il T).cnt=c,(a.il T).cnt=x',(Pf.ex u f t a).cnt=n at q1 q3 q4 g ⊢;rcases T3 h3 with rfl|⟨x,rfl⟩|⟨x,y,rfl⟩|⟨x,y,z,rfl⟩<;>cases u<;>exact o5 3 (OA n x' a.cnt c) q1 g q2 q3 q4
 | .p2 k a b,T,h3,h,hb=>by
  have w:=dC T a;have w':=dC T b;have e:((Pf.p2 k a b).il T:Pf).cnt=((Pf.p2 k a b):Pf).cnt+((a.il T).cnt-a.cnt)+((b.il T).cnt-b.cnt):=by simp only [Pf.cnt,Pf.il];omega
  have h1:(a.il T).cnt<=((Pf.p2 k a b).il T:Pf).cnt:=by simp only [Pf.cnt,Pf.il];omega
  have h2:(b.il T).cnt<=((Pf.p2 k a b).il T:Pf).cnt:=by simp only [Pf.cnt,Pf.il];omega
  have g:=QF a T h3 (λ x hx=>h x (.inl hx)) (by omega);have g':=QF b T h3 (λ x hx=>h x (.inr hx)) (by omega);have ⟨q1,q2,q3,q4,q5,q6,q7⟩:=HW hb e h1 h2;generalize ((Pf.p2 k a b).il T).cnt=c,(a.il T).cnt=x',(b.il T).cnt=y',(Pf.p2 k a b).cnt=n at q1 q3 q4 q6 q7 g g' ⊢;rcases T3 h3 with rfl|⟨x,rfl⟩|⟨x,y,rfl⟩|⟨x,y,z,rfl⟩<;>cases k<;>exact o9 3 (ED n x' a.cnt y' b.cnt c) q1 g q2 q3 q4 g' q5 q6 q7
 | .ind l f t a b,T,h3,h,hb=>by
  have w:=dC T a;have w':=dC T b;have e:((Pf.ind l f t a b).il T:Pf).cnt=((Pf.ind l f t a b):Pf).cnt+((a.il T).cnt-a.cnt)+((b.il T).cnt-b.cnt):=by simp only [Pf.cnt,Pf.il];omega
  have h1:(a.il T).cnt<=((Pf.ind l f t a b).il T:Pf).cnt:=by simp only [Pf.cnt,Pf.il];omega
  have h2:(b.il T).cnt<=((Pf.ind l f t a b).il T:Pf).cnt:=by simp only [Pf.cnt,Pf.il];omega
  have g:=QF a T h3 (λ x hx=>h x (.inl hx)) (by omega);have g':=QF b T h3 (λ x hx=>h x (.inr hx)) (by omega);have ⟨q1,q2,q3,q4,q5,q6,q7⟩:=HW hb e h1 h2;generalize ((Pf.ind l f t a b).il T).cnt=c,(a.il T).cnt=x',(b.il T).cnt=y',(Pf.ind l f t a b).cnt=n at q1 q3 q4 q6 q7 g g' ⊢;rcases T3 h3 with rfl|⟨x,rfl⟩|⟨x,y,rfl⟩|⟨x,y,z,rfl⟩<;>cases l<;>exact o9 3 (ED n x' a.cnt y' b.cnt c) q1 g q2 q3 q4 g' q5 q6 q7
 | .subst f a b,T,h3,h,hb=>by
  have w:=dC T a;have w':=dC T b;have e:((Pf.subst f a b).il T:Pf).cnt=((Pf.subst f a b):Pf).cnt+((a.il T).cnt-a.cnt)+((b.il T).cnt-b.cnt):=by simp only [Pf.cnt,Pf.il];omega
  have h1:(a.il T).cnt<=((Pf.subst f a b).il T:Pf).cnt:=by simp only [Pf.cnt,Pf.il];omega
  have h2:(b.il T).cnt<=((Pf.subst f a b).il T:Pf).cnt:=by simp only [Pf.cnt,Pf.il];omega
  have g:=QF a T h3 (λ x hx=>h x (.inl hx)) (by omega);have g':=QF b T h3 (λ x hx=>h x (.inr hx)) (by omega);have ⟨q1,q2,q3,q4,q5,q6,q7⟩:=HW hb e h1 h2;generalize ((Pf.subst f a b).il T).cnt=c,(a.il T).cnt=x',(b.il T).cnt=y',(Pf.subst f a b).cnt=n at q1 q3 q4 q6 q7 g g' ⊢;rcases T3 h3 with rfl|⟨x,rfl⟩|⟨x,y,rfl⟩|⟨x,y,z,rfl⟩<;>exact o9 3 (ED n x' a.cnt y' b.cnt c) q1 g q2 q3 q4 g' q5 q6 q7
theorem RF:∀ (p:Pf) (T:List (Nat × Pf)),T.length<=3->FW T p->O 23 [.pv p.p,.map 2] [(2,mo T)] (.pv (p.il T).p) [(2,mo T)]
 | .leaf false i,T,h3,h=>by
  rcases T3 h3 with rfl|⟨x,rfl⟩|⟨x,y,rfl⟩|⟨x,y,z,rfl⟩<;>exact o0 3 []
 | .leaf true i,T,h3,h=>by
  obtain⟨q,e⟩:=h i ⟨rfl,rfl⟩;have e':(Pf.leaf true i).il T=q:=by simp only [Pf.il,e,Option.getD_some]
  rw [e'];have g0:=EW IW e;rcases T3 h3 with rfl|⟨x,rfl⟩|⟨x,y,rfl⟩|⟨x,y,z,rfl⟩<;>exact o1 3 [(14,.w ⟨.pv q.p,none,false⟩)] g0
 | .refl t,T,h3,h=>by
  rcases T3 h3 with rfl|⟨x,rfl⟩|⟨x,y,rfl⟩|⟨x,y,z,rfl⟩<;>exact o0 3 []
 | .p1 k a,T,h3,h=>by
  have g:=RF a T h3 h;show O 23 [.pv (Pf.p1 k a).p,.map 2] [(2,mo T)] (.pv (Pf.p1 k (a.il T)).p) [(2,mo T)];generalize a.il T=q at g ⊢;rcases T3 h3 with rfl|⟨x,rfl⟩|⟨x,y,rfl⟩|⟨x,y,z,rfl⟩<;>cases k<;>exact o1 3 [(28,.o [2] [] (.pv q.p))] g
 | .impI f a,T,h3,h=>by
  have g:=RF a T h3 h;show O 23 [.pv (Pf.impI f a).p,.map 2] [(2,mo T)] (.pv (Pf.impI f (a.il T)).p) [(2,mo T)];generalize a.il T=q at g ⊢;rcases T3 h3 with rfl|⟨x,rfl⟩|⟨x,y,rfl⟩|⟨x,y,z,rfl⟩<;>exact o1 3 [(28,.o [2] [] (.pv q.p))] g
 | .all u s a,T,h3,h=>by
  have g:=RF a T h3 h;show O 23 [.pv (Pf.all u s a).p,.map 2] [(2,mo T)] (.pv (Pf.all u s (a.il T)).p) [(2,mo T)];generalize a.il T=q at g ⊢;rcases T3 h3 with rfl|⟨x,rfl⟩|⟨x,y,rfl⟩|⟨x,y,z,rfl⟩<;>cases u<;>exact o1 3 [(28,.o [2] [] (.pv q.p))] g
 | .ins u t a,T,h3,h=>by
  have g:=RF a T h3 h;show O 23 [.pv (Pf.ins u t a).p,.map 2] [(2,mo T)] (.pv (Pf.ins u t (a.il T)).p) [(2,mo T)];generalize a.il T=q at g ⊢;rcases T3 h3 with rfl|⟨x,rfl⟩|⟨x,y,rfl⟩|⟨x,y,z,rfl⟩<;>cases u<;>exact o1 3 [(28,.o [2] [] (.pv q.p))] g
 | .ex u f t a,T,h3,h=>by
  have g:=RF a T h3 h;show O 23 [.pv (Pf.ex u f t a).p,.map 2] [(2,mo T)] (.pv (Pf.ex u f t (a.il T)).p) [(2,mo T)];generalize a.il T=q at g ⊢;rcases T3 h3 with rfl|⟨x,rfl⟩|⟨x,y,rfl⟩|⟨x,y,z,rfl⟩<;>cases u<;>exact o1 3 [(28,.o [2] [] (.pv q.p))] g
 | .p2 k a b,T,h3,h=>by
  have g:=RF a T h3 λ x hx=>h x (.inl hx)
  have g':=RF b T h3 λ x hx=>h x (.inr hx)
  show O 23 [.pv (Pf.p2 k a b).p,.map 2] [(2,mo T)] (.pv (Pf.p2 k (a.il T) (b.il T)).p) [(2,mo T)];generalize a.il T=q,b.il T=r at g g' ⊢;rcases T3 h3 with rfl|⟨x,rfl⟩|⟨x,y,rfl⟩|⟨x,y,z,rfl⟩<;>cases k<;>exact o2 3 [(28,.o [2] [] (.pv q.p)),(28,.o [2] [] (.pv r.p))] g g'
 | .ind l f t a b,T,h3,h=>by
  have g:=RF a T h3 λ x hx=>h x (.inl hx)
  have g':=RF b T h3 λ x hx=>h x (.inr hx)
  show O 23 [.pv (Pf.ind l f t a b).p,.map 2] [(2,mo T)] (.pv (Pf.ind l f t (a.il T) (b.il T)).p) [(2,mo T)];generalize a.il T=q,b.il T=r at g g' ⊢;rcases T3 h3 with rfl|⟨x,rfl⟩|⟨x,y,rfl⟩|⟨x,y,z,rfl⟩<;>cases l<;>exact o2 3 [(28,.o [2] [] (.pv q.p)),(28,.o [2] [] (.pv r.p))] g g'
 | .subst f a b,T,h3,h=>by
  have g:=RF a T h3 λ x hx=>h x (.inl hx)
  have g':=RF b T h3 λ x hx=>h x (.inr hx)
  show O 23 [.pv (Pf.subst f a b).p,.map 2] [(2,mo T)] (.pv (Pf.subst f (a.il T) (b.il T)).p) [(2,mo T)];generalize a.il T=q,b.il T=r at g g' ⊢;rcases T3 h3 with rfl|⟨x,rfl⟩|⟨x,y,rfl⟩|⟨x,y,z,rfl⟩<;>exact o2 3 [(28,.o [2] [] (.pv q.p)),(28,.o [2] [] (.pv r.p))] g g'
open Go.Lg
variable {ds:List Dc}
theorem SF:∀ {t:Tm} {g:List Ty} {s:Ty},t.tyR g = .ok s->∀ {v:Nat},t.occ v≠0->v<g.length
 | .v i,g,s,h,v,hv=>by
  simp only [Tm.occ] at hv;by_cases e:i=v
  ·subst e;exact ZN h
  ·rw [if_neg e] at hv;exact absurd rfl hv
 | .lam u b,g,s,h,v,hv=>by
  obtain⟨w,_,k⟩:=PC _ _ _ h;have:=SF k (v:=v+1) hv;simp at this;exact this
 | .n0 _,_,_,_,_,hv=>absurd rfl hv
 | .n1 k a,g,s,h,v,hv=>by
  have h:=PC _ _ _ h;cases k
  ·exact SF h.2 hv
  ·exact SF h.choose_spec hv
  ·exact SF h.choose_spec hv
 | .n2 k a b,g,s,h,v,hv=>by
  have h:=PC _ _ _ h;have key:∀ {w u},a.tyR g = .ok w->b.tyR g = .ok u->v<g.length:=λ h1 h2=>by
   by_cases e:a.occ v=0
   ·exact SF h2 (show b.occ v≠0 by simp only [Tm.occ] at hv;omega)
   ·exact SF h1 e
  cases k
  ·exact key h.choose_spec.1 h.choose_spec.2
  ·exact key h.2.1 h.2.2
  ·exact key h.choose_spec.choose_spec.2.1 h.choose_spec.choose_spec.2.2
 | .n3 k u a b c,g,s,h,v,hv=>by
  have h:=PC _ _ _ h;have key:∀ {w u x},a.tyR g = .ok w->b.tyR g = .ok u->c.tyR g = .ok x->v<g.length:=λ h1 h2 h3=>by
   by_cases e:a.occ v=0
   ·by_cases e':b.occ v=0
    ·exact SF h3 (show c.occ v≠0 by simp only [Tm.occ] at hv;omega)
    ·exact SF h2 e'
   ·exact SF h1 e
  cases k
  ·exact key h.2.1 h.2.2.1 h.2.2.2
  ·exact key h.2.1 h.2.2.1 h.2.2.2
theorem BE {ls:List Fm} : ∀ (j:Jt) (g:List Ty) (hs:List Fm) (v:Nat),j.D ls g hs->j.us v->v<g.length
 | .leaf _ _ _,_,_,_,_,k=>k.elim
 | .refl _,_,_,_,_,k=>k.elim
 | .p1 k a f,g,hs,v,⟨_,hD,_⟩,h=>BE a g hs v hD h.2
 | .p2 k a b f,g,hs,v,⟨_,hD,e⟩,h=>by
  rcases h.2 with h|h
  ·exact BE a g hs v hD h
  ·cases k
   ·exact BE b _ _ v e.1 h
   ·exact BE b _ _ v e.1 h
   ·have:=BE b _ _ _ e.1.choose_spec.2 h;simp at this;exact this
   ·have:=BE b _ _ _ e.1.choose_spec.2 h;simp at this;exact this
 | .impI y a,g,hs,v,⟨_,_,_,hD⟩,h=>BE a _ _ v hD h.2
 | .all u s a,g,hs,v,⟨_,_,hD,_⟩,h=>by have:=BE a _ _ _ hD h.2;simp at this;exact this
 | .ins u t a f,g,hs,v,⟨_,_,hD,s,x,e,_⟩,h=>h.2.elim (BE a _ _ v hD) λ k=>SF e k.2
 | .ex u y t a,g,hs,v,⟨_,_,hD,s,x,w,e,_⟩,h=>h.2.elim (BE a _ _ v hD) λ k=>SF e k.2
 | .ind l y t a b f,g,hs,v,⟨_,_,⟨_,e⟩,⟨hD,_⟩,_,⟨hD2,_⟩,_⟩,h=>by
  rcases h.2 with h|h|h
  ·exact SF e h
  ·exact BE a _ _ v hD h
  ·have:=BE b _ _ _ hD2 h;cases l<;>simp [lG,lN] at this<;>omega
 | .subst y a b f,g,hs,v,⟨_,_,hD,hD2,_⟩,h=>BE b _ _ v hD2 h.2
theorem TF:∀ (j:Jt) (P Q:Nat->Jt),(∀ x,j.p.lm x->P x=Q x)->j.inl P=j.inl Q
 | .leaf u i f,P,Q,h=>by
  cases u
  ·rfl
  ·exact h i ⟨rfl,rfl⟩
 | .refl _,_,_,_=>rfl
 | .p1 k a f,P,Q,h=>by simp only [Jt.inl,TF a P Q h]
 | .p2 k a b f,P,Q,h=>by simp only [Jt.inl,TF a P Q λ x hx=>h x (.inl hx),TF b P Q λ x hx=>h x (.inr hx)]
 | .impI x a,P,Q,h=>by simp only [Jt.inl,TF a P Q h]
 | .all u s a,P,Q,h=>by simp only [Jt.inl,TF a P Q h]
 | .ins u t a f,P,Q,h=>by simp only [Jt.inl,TF a P Q h]
 | .ex u x t a,P,Q,h=>by simp only [Jt.inl,TF a P Q h]
 | .ind l x t a b f,P,Q,h=>by simp only [Jt.inl,TF a P Q λ x hx=>h x (.inl hx),TF b P Q λ x hx=>h x (.inr hx)]
 | .subst x a b f,P,Q,h=>by simp only [Jt.inl,TF a P Q λ x hx=>h x (.inl hx),TF b P Q λ x hx=>h x (.inr hx)]
theorem UF:∀ (j:Jt) (P:Nat->Jt) (T:List (Nat × Pf)),(∀ x,j.p.lm x->yD T x=some (P x).p)->(j.inl P).p=j.p.il T
 | .leaf u i f,P,T,h=>by
  cases u
  ·rfl
  ·simp only [Jt.inl,Jt.p,Pf.il,h i ⟨rfl,rfl⟩,Option.getD_some]
 | .refl _,_,_,_=>rfl
 | .p1 k a f,P,T,h=>by simp only [Jt.inl,Jt.p,Pf.il,UF a P T h]
 | .p2 k a b f,P,T,h=>by simp only [Jt.inl,Jt.p,Pf.il,UF a P T λ x hx=>h x (.inl hx),UF b P T λ x hx=>h x (.inr hx)]
 | .impI x a,P,T,h=>by simp only [Jt.inl,Jt.p,Pf.il,UF a P T h]
 | .all u s a,P,T,h=>by simp only [Jt.inl,Jt.p,Pf.il,UF a P T h]
 | .ins u t a f,P,T,h=>by simp only [Jt.inl,Jt.p,Pf.il,UF a P T h]
 | .ex u x t a,P,T,h=>by simp only [Jt.inl,Jt.p,Pf.il,UF a P T h]
 | .ind l x t a b f,P,T,h=>by simp only [Jt.inl,Jt.p,Pf.il,UF a P T λ x hx=>h x (.inl hx),UF b P T λ x hx=>h x (.inr hx)]
 | .subst x a b f,P,T,h=>by simp only [Jt.inl,Jt.p,Pf.il,UF a P T λ x hx=>h x (.inl hx),UF b P T λ x hx=>h x (.inr hx)]
theorem VF:∀ (j:Jt) (P:Nat->Jt),j.p.ck->(∀ x,j.p.lm x->(P x).p.ck)->(j.inl P).p.ck
 | .leaf u i f,P,h,k=>by
  cases u
  ·trivial
  ·exact k i ⟨rfl,rfl⟩
 | .refl _,_,h,_=>h
 | .p1 k a f,P,h,q=>VF a P h q
 | .p2 k a b f,P,h,q=>⟨VF a P h.1 λ x hx=>q x (.inl hx),VF b P h.2 λ x hx=>q x (.inr hx)⟩
 | .impI x a,P,h,q=>⟨h.1,VF a P h.2 q⟩
 | .all u s a,P,h,q=>⟨h.1,VF a P h.2 q⟩
 | .ins u t a f,P,h,q=>⟨h.1,VF a P h.2 q⟩
 | .ex u x t a,P,h,q=>⟨h.1,h.2.1,VF a P h.2.2 q⟩
 | .ind l x t a b f,P,h,q=>⟨h.1,h.2.1,VF a P h.2.2.1 λ x hx=>q x (.inl hx),VF b P h.2.2.2 λ x hx=>q x (.inr hx)⟩
 | .subst x a b f,P,h,q=>⟨h.1,VF a P h.2.1 λ x hx=>q x (.inl hx),VF b P h.2.2 λ x hx=>q x (.inr hx)⟩
open Classical in
noncomputable def JJ (ds:List Dc) (i:Nat):Jt:=if h:∃ (d:Dc) (j:Jt),ds[i]? = some d/\j.p=d.p/\j.f=d.f/\j.D (uB (ds.take i)) [] [] then h.choose_spec.choose else .refl (.n0 .zero)
theorem uS (h:ThOK ds) {i:Nat} {d:Dc} (e:ds[i]? = some d):(JJ ds i).p=d.p/\(JJ ds i).f=d.f/\(JJ ds i).D (uB (ds.take i)) [] []:=by
 obtain⟨_,_,j,h1,h2,h3⟩:=(h i d e).q;have H:∃ (d:Dc) (j:Jt),ds[i]? = some d/\j.p=d.p/\j.f=d.f/\j.D (uB (ds.take i)) [] []:=⟨d,j,e,h1,h2,h3⟩;unfold JJ;rw [dif_pos H];obtain⟨e',k⟩:=H.choose_spec.choose_spec;rw [Option.some.inj (e.symm.trans e')];exact k
noncomputable def PP (ds:List Dc) (i:Nat):Jt:=(JJ ds i).inl λ x=>if _h:x<i then PP ds x else .refl (.n0 .zero)
termination_by i
theorem JW (h:ThOK ds) {i:Nat} {d:Dc} (e:ds[i]? = some d):PP ds i=(JJ ds i).inl (PP ds):=by
 rw [PP];refine TF _ _ _ λ x hx => ?_
 rw [dif_pos (tP h e (by rw [(uS h e).1] at hx;exact hx))]
theorem dS {i x:Nat} {f:Fm} (e:(uB (ds.take i))[x]? = some f):x<i /\ ∃ d,ds[x]? = some d/\d.f=f:=by
 rw [uB,List.getElem?_map,List.getElem?_take] at e;split at e
 ·rename_i hx;obtain⟨d,h1,h2⟩:=Option.map_eq_some_iff.1 e;exact⟨hx,d,h1,h2⟩
 ·cases e
theorem Pc (h:ThOK ds) (i:Nat):lP (uB (ds.take i)) (PP ds) (4 * i) /\ ∀ x d,x<i->ds[x]? = some d->(PP ds x).p.ck:=by
 induction i with
 | zero=>exact⟨⟨λ i f e=>by simp at e,λ i f e=>by simp at e,λ i f e=>by simp at e⟩,λ x d hx=>absurd hx (Nat.not_lt_zero _)⟩
 | succ n ih =>
  obtain⟨ih,ihc⟩:=ih;have key:∀ d,ds[n]? = some d->(PP ds n).f=d.f/\(∀ (g:List Ty) (hs:List Fm),g.length+4 * (n+1)<=16->hs.length+4 * (n+1)<=16->(PP ds n).D [] g hs)/\(∀ v,¬(PP ds n).us v)/\(PP ds n).p.ck:=λ d e=>by
   obtain⟨h1,h2,h3⟩:=uS h e;have hq:=(h n d e);have hdp:=hq.g.dp (4 * n);rw [JW h e];refine⟨by rw [tC ih _ _ _ h3,h2],λ g hs h4 h5 => ?_,λ v hv => ?_,VF _ _ (by rw [h1];exact hq.q.1) λ x hx => ?_⟩
   ·have:=bE ih (JJ ds n) [] [] g hs (by rw [h1];simp;omega) (by rw [h1];simp;omega) h3;rwa [List.append_nil,List.append_nil] at this
   ·have:=BE _ _ _ _ h3 (RD ih _ _ _ v h3 hv);simp at this
   ·have hx:=tP h e (by rw [h1] at hx;exact hx);exact ihc x _ hx (List.getElem?_eq_getElem (by have:=(List.getElem?_eq_some_iff.1 e).1;omega))
  refine⟨⟨λ x f e => ?_,λ x f e g hs h4 h5 => ?_,λ x f e v => ?_⟩,λ x d hx e => ?_⟩
  ·obtain⟨hx,d,e2,rfl⟩:=dS e;by_cases hn:x=n
   ·subst hn;exact (key d e2).1
   ·exact ih.f x d.f (by rw [uB,List.getElem?_map,List.getElem?_take,if_pos (by omega),e2];rfl)
  ·obtain⟨hx,d,e2,rfl⟩:=dS e;by_cases hn:x=n
   ·subst hn;exact (key d e2).2.1 g hs h4 h5
   ·exact ih.D x d.f (by rw [uB,List.getElem?_map,List.getElem?_take,if_pos (by omega),e2];rfl) g hs (by omega) (by omega)
  ·obtain⟨hx,d,e2,rfl⟩:=dS e;by_cases hn:x=n
   ·subst hn;exact (key d e2).2.2.1 v
   ·exact ih.us x d.f (by rw [uB,List.getElem?_map,List.getElem?_take,if_pos (by omega),e2];rfl) v
  ·by_cases hn:x=n
   ·subst hn;exact (key d e).2.2.2
   ·exact ihc x d (by omega) e
end Go.Proofs.YtmkajedkflhbgaaGreatDoor
namespace Go.Proofs.YtmkajedkflhbgaaGreatDoor
open Go.Lg
set_option maxRecDepth 100000
variable {ds:List Dc}
noncomputable def PT (ds:List Dc) (l:List Nat):List (Nat × Pf):=l.map λ i=>(i,(PP ds i).p)
theorem fS:∀ (l:List Nat) (i:Nat),i∈l->yD (PT ds l) i=some (PP ds i).p
 | x::l,i,h=>by
  show (if i=x then some (PP ds x).p else yD (PT ds l) i)=_;by_cases e:i=x
  ·rw [if_pos e,e]
  ·rw [if_neg e];exact fS l i ((List.mem_cons.1 h).resolve_left e)
theorem KW:∀ (l:List Nat) (i:Nat) (q:Pf),yD (PT ds l) i=some q->i∈l/\q=(PP ds i).p
 | [],_,_,h=>by cases h
 | x::l,i,q,h=>by
  have h:(if i=x then some (PP ds x).p else yD (PT ds l) i)=some q:=h;by_cases e:i=x
  ·rw [if_pos e] at h;cases h;exact⟨by simp [e],by rw [e]⟩
  ·rw [if_neg e] at h;obtain⟨h1,h2⟩:=KW l i q h;exact⟨List.mem_cons_of_mem _ h1,h2⟩
theorem LW:∀ T:List (Nat × Pf),OB (mp T)=[]
 | []=>rfl
 | e::T=>by show ([]:List Nat)++OB (mp T)=[];rw [LW T];rfl
theorem Qc:∀ (T:List (Nat × Pf)) (i:Nat) (q:Pf),yD T i=none->HC (mp T) (.int (.ofNat i)) (.pv q.p)=mp (T++[(i,q)])
 | [],_,_,_=>rfl
 | e::T,i,q,h=>by
  have h:(if i=e.1 then some e.2 else yD T i)=none:=h;show (bif SK.eqB (.int (.ofNat i)) (.int (.ofNat e.1)) then _ else (_::HC (mp T) _ _))=_;rw [Nc];by_cases k:i=e.1
  ·rw [if_pos k] at h;cases h
  ·rw [if_neg k] at h;rw [decide_eq_false k,cond_false,Qc T i q h];rfl
theorem Um {T:List (Nat × Pf)} {i:Nat} (q:Pf) (h:yD T i=none):some (⟨.undef,some (2,.smap false (HC (mp T) (.int (.ofNat i)) (.pv q.p))),false⟩:RB)=some ⟨.undef,some (2,mo (T++[(i,q)])),false⟩:=by rw [Qc T i q h]
theorem WF {T:List (Nat × Pf)} (h:∀ x q,yD T x=some q->q.cnt<=16384):∀ p:Pf,(p.il T).cnt<=p.cnt * 16384
 | .leaf u i=>by
  cases u
  ·exact (show 1<=1 * 16384 by decide)
  ·show ((yD T i).getD (.leaf true i)).cnt<=1 * 16384
   cases e:yD T i with
   | none=>exact (show 1<=1 * 16384 by decide)
   | some q=>exact h i q e
 | .refl t=>by simp only [Pf.il,Pf.cnt];omega
 | .p1 k a=>by have:=WF h a;simp only [Pf.il,Pf.cnt];omega
 | .p2 k a b=>by have:=WF h a;have:=WF h b;simp only [Pf.il,Pf.cnt];omega
 | .impI f a=>by have:=WF h a;simp only [Pf.il,Pf.cnt];omega
 | .all u s a=>by have:=WF h a;simp only [Pf.il,Pf.cnt];omega
 | .ins u t a=>by have:=WF h a;simp only [Pf.il,Pf.cnt];omega
 | .ex u f t a=>by have:=WF h a;simp only [Pf.il,Pf.cnt];omega
 | .ind l f t a b=>by have:=WF h a;have:=WF h b;simp only [Pf.il,Pf.cnt];omega
 | .subst f a b=>by have:=WF h a;have:=WF h b;simp only [Pf.il,Pf.cnt];omega
theorem Uc:∀ (S:List Nat) (a b:Nat),WB S->(∀ x∈S,a<=x/\x<b)->S.length<=b-a
 | [],_,_,_,_=>Nat.zero_le _
 | x::S,a,b,h,k=>by
  obtain⟨h1,h2⟩:=List.pairwise_cons.1 h;have:=Uc S (x+1) b h2 λ y hy=>⟨h1 y hy,(k y (List.mem_cons_of_mem _ hy)).2⟩
  have:=k x (by simp);simp;omega
abbrev zx:Ob:=bx [num 0,num 0,num 0,.nils,.nils,.nils,.nils]
noncomputable abbrev s9 (n:Nat) (ds:List Dc) (S:List Nat) (k:Nat):IS:=st [(1,.pv (num n)),(2,.loc 0 0),(4,.loc 1 0),(8,.map 2),(23,.pv (bA S)),(24,.pv (num (S.map ic).length)),(25,.pv (num k))] [(0,bx [.slice (ds.map Dc.c)]),(1,zx),(2,mo (PT ds (S.take k)))] 3 []
abbrev HL:Kp:=⟨[1,2,4,8,23,24,25],[0,1,2],3,[]⟩
abbrev r9:IS:=st [(4,.loc 1 0),(5,.pv (num 4))] [(1,zx)] 3 []
noncomputable abbrev e9 (n:Nat) (ds:List Dc) (S:List Nat):IS:=st [(1,.pv (num n)),(4,.loc 1 0),(8,.map 2)] [(1,zx),(2,mo (PT ds S))] 3 []
structure Vc (ds:List Dc) (n:Nat) (S:List Nat):Prop where
 asc:WB S
 le:∀ x∈S,x<=n
 n:n∈S
 cl:∀ i∈S,∀ d,ds[i]? = some d->∀ x,d.p.lm x->x∈S
theorem Wc (h:ThOK ds) (h4:ds.length<=4) {n:Nat} (hn:n<ds.length) {S:List Nat} (hS:Vc ds n S):∀ (r:List Nat) (k:Nat),S.drop k=r->(∀ x∈S.take k,(PP ds x).p.cnt<=16384)->Lp 9 0 0 (s9 n ds S k) .ret r9\/Lp 9 0 0 (s9 n ds S k) (.exit 0) (e9 n ds S) /\ ∀ x∈S,(PP ds x).p.cnt<=16384
 | [],k,e,hc=>by
  have hk:=TC e;rw [List.take_of_length_le hk] at hc;have g:kA (.ofNat k) (.ofNat (S.map ic).length)=false:=CA (by simpa using hk);have:=y1 (f:=9) (i:=0) (bs:=0) (s:=s9 n ds S k) (s':=e9 n ds (S.take k)) (e:=.exit 0) [(26,.H)] ⟨[1,4,8],[1,2],3,[]⟩ g (LW (PT ds (S.take k)));rw [show e9 n ds (S.take k)=e9 n ds S by rw [List.take_of_length_le hk]] at this;exact .inr ⟨this,hc⟩
 | i::r,k,e,hc=>by
  have hb:=uA;obtain⟨d1,d2,d3⟩:=SC e;have hi:=List.mem_of_getElem? d1;have hin:=hS.le i hi;obtain⟨d,hd⟩:∃ d,ds[i]? = some d:=⟨_,List.getElem?_eq_getElem (by omega)⟩;have eS:S.take k++i::r=S:=by rw [<- e];exact List.take_append_drop k S
  have hl:=Uc S 0 (n+1) hS.asc λ x hx=>⟨Nat.zero_le _,by have:=hS.le x hx;omega⟩
  have ha:=hS.asc;rw [<- eS] at ha;obtain⟨_,ha2,ha3⟩:=List.pairwise_append.1 ha;have hmem:∀ x,d.p.lm x->x∈S.take k:=λ x hx=>by
   have h1:=hS.cl i hi d hd x hx;have h2:=tP h hd hx;rw [<- eS] at h1;rcases List.mem_append.1 h1 with h1|h1
   ·exact h1
   ·rcases List.mem_cons.1 h1 with h1|h1
    ·omega
    ·have:=(List.pairwise_cons.1 ha2).1 x h1;omega
  have hnone:yD (PT ds (S.take k)) i=none:=by
   cases e:yD (PT ds (S.take k)) i with
   | none=>rfl
   | some q =>
    have:=ha3 i (KW _ _ _ e).1 i (by simp);omega
  have h3:(PT ds (S.take k)).length<=3:=by simp [PT];omega
  have hH:FW (PT ds (S.take k)) d.p:=λ x hx=>⟨_,fS _ x (hmem x hx)⟩
  obtain⟨j1,_,_⟩:=uS h hd;have eq:d.p.il (PT ds (S.take k))=(PP ds i).p:=by
   rw [JW h hd,<- j1];exact (UF _ _ _ λ x hx=>fS _ x (hmem x (by rw [j1] at hx;exact hx))).symm
  have hcb:=WF (T:=PT ds (S.take k)) (λ x q e=>by
   obtain⟨q1,q2⟩:=KW _ _ _ e;rw [q2];exact hc x q1) d.p
  have hpc:=(h i d hd).q.2.1;have g5:=QF d.p _ h3 hH (by omega);have g7:=RF d.p _ h3 hH;rw [eq] at g5 g7 hcb;have g1:kA (.ofNat k) (.ofNat (S.map ic).length)=true:=aA (by simpa using d2);have g2:=KA d1 (c:=ic) (n:=1) (λ _=>rfl);have g3:=KA hd Dc.c_len;have g4:some (⟨.undef,some (3,bx d.p.c),false⟩:RB)=some ⟨.undef,some (3,bx d.p.c),false⟩:=rfl;by_cases hs:(PP ds i).p.cnt<=16384
  ·have g6:kA 16384 (.ofNat (PP ds i).p.cnt)=false:=CA (a:=16384) hs;have g8:=Um (PP ds i).p hnone;have g9:=YA (n:=k+1);have eT:PT ds (S.take (k+1))=PT ds (S.take k)++[(i,(PP ds i).p)]:=by
    rw [List.take_add_one,d1];simp [PT]
   have g10:=LW (PT ds (S.take k)++[(i,(PP ds i).p)]);rcases Wc h h4 hn hS r (k+1) d3 (λ x hx=>by
    rw [List.take_add_one,d1] at hx;rcases List.mem_append.1 hx with hx|hx
    ·exact hc x hx
    ·simp at hx;subst hx;exact hs) with ih|⟨ih,hz⟩
   ·rw [show s9 n ds S (k+1)=st [(1,.pv (num n)),(2,.loc 0 0),(4,.loc 1 0),(8,.map 2),(23,.pv (bA S)),(24,.pv (num (S.map ic).length)),(25,.pv (num (k+1)))] [(0,bx [.slice (ds.map Dc.c)]),(1,zx),(2,mo (PT ds (S.take k)++[(i,(PP ds i).p)]))] 3 [] by rw [<- eT]] at ih;exact .inl (rk [(26,.G),(27,.i (ic i)),(32,.i d.c),(99999,.w ⟨.undef,some (3,bx d.p.c),false⟩),(37,.o [2] [] (.pv (num (PP ds i).p.cnt))),(38,.H),(44,.o [2] [] (.pv (PP ds i).p.p)),(99999,.w ⟨.undef,some (2,mo (PT ds (S.take k)++[(i,(PP ds i).p)])),false⟩),(45,.ok)] HL HL (dE g1 g2 g3 g4 g5 g6 g7 (And.intro g8 (And.intro g9 (And.intro g10 ih)))))
   ·rw [show s9 n ds S (k+1)=st [(1,.pv (num n)),(2,.loc 0 0),(4,.loc 1 0),(8,.map 2),(23,.pv (bA S)),(24,.pv (num (S.map ic).length)),(25,.pv (num (k+1)))] [(0,bx [.slice (ds.map Dc.c)]),(1,zx),(2,mo (PT ds (S.take k)++[(i,(PP ds i).p)]))] 3 [] by rw [<- eT]] at ih;exact .inr ⟨rk [(26,.G),(27,.i (ic i)),(32,.i d.c),(99999,.w ⟨.undef,some (3,bx d.p.c),false⟩),(37,.o [2] [] (.pv (num (PP ds i).p.cnt))),(38,.H),(44,.o [2] [] (.pv (PP ds i).p.p)),(99999,.w ⟨.undef,some (2,mo (PT ds (S.take k)++[(i,(PP ds i).p)])),false⟩),(45,.ok)] HL HL (dE g1 g2 g3 g4 g5 g6 g7 (And.intro g8 (And.intro g9 (And.intro g10 ih)))),hz⟩
  ·have g6:kA 16384 (.ofNat (PP ds i).p.cnt)=true:=aA (a:=16384);exact .inl (rk [(26,.G),(27,.i (ic i)),(32,.i d.c),(99999,.w ⟨.undef,some (3,bx d.p.c),false⟩),(37,.o [2] [] (.pv (num (PP ds i).p.cnt))),(38,.G)] HL ⟨[4,5],[1],3,[]⟩ (dE g1 g2 g3 g4 g5 g6 (rfl:AE.ret = .ret) (rfl:r9=r9)))
abbrev cI:PV:=.agg [num 0,num 0,num 0,.slice [],.slice [],.slice [],.slice []]
theorem MW (h:ThOK ds) (h4:ds.length<=4) {n:Nat} (hn:n<ds.length):A 9 [yF ds,num n] (.tuple [cI,num 4])\/A 9 [yF ds,num n] (.tuple [(PP ds n).p.p,num 0])/\(PP ds n).p.cnt<=16384:=by
 obtain⟨S,g1,hA,U,hU,hm⟩:=Sm h h4 hn;have hS:Vc ds n S:=⟨hA,λ x hx=>hU.le x ((hm x).1 hx),(hm n).2 hU.n,λ i hi d e x hx=>(hm x).2 (hU.cl i ((hm i).1 hi) d e x hx)⟩;have g0:([]:List Nat)=[]:=rfl;rcases Wc h h4 hn hS S 0 rfl (λ x hx=>by simp at hx) with g|⟨g,hz⟩
 ·exact .inl (f3 [(15,.U [bA S,num 0]),(100006,.l HL .ret r9)] g1 g0 g)
 ·have g2:=EW IW (fS (ds:=ds) S n hS.n);exact .inr ⟨f5 [(15,.U [bA S,num 0]),(100006,.l HL (.exit 0) (e9 n ds S)),(48,.w ⟨.pv (PP ds n).p.p,none,false⟩),(49,.r (PP ds n).p.p)] g1 g0 g g2 (kC (PP ds n).p),hz n hS.n⟩
end Go.Proofs.YtmkajedkflhbgaaGreatDoor
namespace Go.Proofs.YtmkajedkflhbgaaGreatDoor
open Go.Lg
set_option maxRecDepth 100000
abbrev Vm (E:List (List PV)):IS:=st [(3,.loc 1 0),(4,.pv .nils),(5,.pv .nils),(26,.pv (.slice E)),(27,.pv (num E.length)),(28,.pv (num 0))] [(1,bx [.slice E])] 2 []
abbrev Wm (E F G:List (List PV)) (k:Nat):IS:=st [(3,.loc 1 0),(4,.gsl 6 k F),(5,.gsl 7 k G),(26,.pv (.slice E)),(27,.pv (num E.length)),(28,.pv (num k))] [(1,bx [.slice E]),(6,.grow k 5 37 F),(7,.grow k 5 44 G)] 8 []
def sL (E F G:List (List PV)):Nat->IS
 | 0=>Vm E
 | k+1=>Wm E F G (k+1)
abbrev sH:Kp:=⟨[3,4,5,26,27,28],[1,6,7],8,[]⟩
abbrev eR:IS:=st [(2,.pv (.bool true))] [] 8 []
abbrev OJ:Kp:=⟨[2],[],8,[]⟩
theorem Xc {n v e nx:Nat} {te:Go.Lg.TI} {F:List (List PV)} {c:List PV} (h:te.size=5) (hb:te.bytes<=1000) (h1:SB (vA [c])=true) (hc:c.length=5) (hF:F.length<=3):gI e te (λ _=>some (.grow v te.size e F)) nx (.gsl n v F) (.pv (.slice [c]))=some ⟨.gsl n (v+1) (F++[c]),some (n,.grow (v+1) te.size e (F++[c])),false⟩:=by
 have e1:Nat.ble (F.length+1) maxLen=true:=Nat.ble_eq_true_of_le (by simp only [maxLen];omega);have e2:Nat.ble ((F.length+1) * te.bytes) 140737488355328=true:=Nat.ble_eq_true_of_le (Nat.le_trans (Nat.mul_le_mul (show F.length+1<=4 by omega) hb) (by decide));have e3:LB 5 [c]=true:=by simp [LB,hc]
 have e4:Nat.blt 0 5=true:=rfl;simp [gI,e1,e2,e3,e4,h1,h]
variable {ds:List Dc} {d:Dc} {k:Nat} {F G:List (List PV)}
abbrev nF (d:Dc) (r:XR) (y:PV) (m:Nat):Di:=[(29,.G),(31,.i d.c),(34,.g),(35,.g),(39,.r r.p),(45,.U [y,num m])]
abbrev gS (d:Dc) (r:XR) (y:PV) (m:Nat):Di:=[(29,.G),(31,.i d.c),(39,.r r.p),(45,.U [y,num m])]
theorem Yc {x:Sx} {y:PV} {m:Nat} (hy:y=cI \/ ∃ q:Pf,y=q.p) (hk:ds[k]? = some d) (h0:k=0->F=[]/\G=[]) (g1:A 8 [.slice F,.slice G,VA [] [],d.p.p] (XR.er x 3).p) (g2:A 9 [yF ds,num k] (.tuple [y,num m])):Lp 3 0 0 (sL (ds.map Dc.c) F G k) .ret eR:=by
 have e:kA (.ofNat k) (.ofNat (ds.map Dc.c).length)=true:=aA (by simpa using (List.getElem?_eq_some_iff.1 hk).1);have g:=KA hk Dc.c_len
 cases k with
 | zero =>
  obtain⟨rfl,rfl⟩:=h0 rfl;rcases hy with rfl|⟨q,rfl⟩
  ·exact x4 (gS d (.er x 3) cI m) OJ e g g1 g2
  ·exact x4 (gS d (.er x 3) q.p m) OJ e g g1 g2
 | succ k =>
  rcases hy with rfl|⟨q,rfl⟩
  ·exact x4 (nF d (.er x 3) cI m) OJ e g g1 g2
  ·exact x4 (nF d (.er x 3) q.p m) OJ e g g1 g2
theorem Zc {r:XR} (hr:(∃ t,r = .ok t)\/r = .er .z 39) (hk:ds[k]? = some d) (h0:k=0->F=[]/\G=[]) (g1:A 8 [.slice F,.slice G,VA [] [],d.p.p] r.p) (g2:A 9 [yF ds,num k] (.tuple [cI,num 4])):Lp 3 0 0 (sL (ds.map Dc.c) F G k) .ret eR:=by
 have e:kA (.ofNat k) (.ofNat (ds.map Dc.c).length)=true:=aA (by simpa using (List.getElem?_eq_some_iff.1 hk).1);have g:=KA hk Dc.c_len
 cases k with
 | zero =>
  obtain⟨rfl,rfl⟩:=h0 rfl;rcases hr with ⟨t,rfl⟩|rfl
  ·exact x4 (gS d (.ok t) cI 4) OJ e g g1 g2
  ·exact x4 (gS d (.er .z 39) cI 4) OJ e g g1 g2
 | succ k =>
  rcases hr with ⟨t,rfl⟩|rfl
  ·exact x4 (nF d (.ok t) cI 4) OJ e g g1 g2
  ·exact x4 (nF d (.er .z 39) cI 4) OJ e g g1 g2
abbrev lS (d:Dc) (r r':XR) (q:Pf):Di:=[(29,.G),(31,.i d.c),(39,.r r.p),(45,.U [q.p,num 0]),(67,.r r'.p),(84,.T),(95,.g),(99,.g),(100,.ok)]
abbrev nN (d:Dc) (r r':XR) (q:Pf) (F G:List (List PV)) (a:Tm) (k:Nat):Di:=[(29,.G),(31,.i d.c),(34,.g),(35,.g),(39,.r r.p),(45,.U [q.p,num 0]),(67,.r r'.p),(84,.T),(95,.w ⟨.gsl 6 (k+2) (F++[d.f.c]),some (6,.grow (k+2) 5 37 (F++[d.f.c])),false⟩),(99,.w ⟨.gsl 7 (k+2) (G++[a.c]),some (7,.grow (k+2) 5 44 (G++[a.c])),false⟩),(100,.ok)]
theorem rdN {r r':XR} {q:Pf} {a:Tm} {e':AE} {s':IS} (hr:(∃ x,r = .er .z 39/\a = .n0 .unit/\(r' = .er .z 39\/r' = .er x 3))\/r = .ok a/\(r' = .ok a \/ ∃ x,r' = .er x 3)) (h4:ds.length<=4) (hk:ds[k]? = some d) (hF:F.length=k) (hG:G.length=k) (g1:A 8 [.slice F,.slice G,VA [] [],d.p.p] r.p) (g2:A 9 [yF ds,num k] (.tuple [q.p,num 0])) (g3:A 8 [fA [],row [],VA [] [],q.p] r'.p) (ih:Lp 3 0 0 (sL (ds.map Dc.c) (F++[d.f.c]) (G++[a.c]) (k+1)) e' s'):Lp 3 0 0 (sL (ds.map Dc.c) F G k) e' s':=by
 have hb:=uA;have hk4:=(List.getElem?_eq_some_iff.1 hk).1;have e:kA (.ofNat k) (.ofNat (ds.map Dc.c).length)=true:=aA (by simpa using hk4);have g:=KA hk Dc.c_len;have t1:true=true:=rfl;have g9:=YA (n:=k+1);have g5:A 11 [a.p,a.p] (.bool true):=by
  obtain⟨w,s1,z1⟩:=eH a a;rwa [z1.2 rfl] at s1
 cases k with
 | zero =>
  obtain rfl:=List.length_eq_zero_iff.1 hF;obtain rfl:=List.length_eq_zero_iff.1 hG;rcases hr with ⟨x,rfl,rfl,rfl|rfl⟩|⟨rfl,rfl|⟨x,rfl⟩⟩
  ·exact n9 (lS d (.er .z 39) (.er .z 39) q) sH e g g1 g2 g3 t1 t1 g9 ih
  ·exact n9 (lS d (.er .z 39) (.er x 3) q) sH e g g1 g2 g3 t1 t1 g9 ih
  ·exact rk (lS d (.ok a) (.ok a) q) sH sH (dE e g g1 g2 g3 g5 t1 (And.intro t1 (And.intro g9 ih)))
  ·exact n9 (lS d (.ok a) (.er x 3) q) sH e g g1 g2 g3 t1 t1 g9 ih
 | succ k =>
  have g7:=Xc (n:=6) (v:=k+1) (e:=37) (nx:=20) (te:=⟨.int,5,88,.bool false,[]⟩) (c:=d.f.c) rfl (by decide) rfl rfl (show F.length<=3 by omega);have g8:=Xc (n:=7) (v:=k+1) (e:=44) (nx:=20) (te:=⟨.int,5,72,.bool false,[]⟩) (c:=a.c) rfl (by decide) rfl rfl (show G.length<=3 by omega);rcases hr with ⟨x,rfl,rfl,rfl|rfl⟩|⟨rfl,rfl|⟨x,rfl⟩⟩
  ·exact n9 (nN d (.er .z 39) (.er .z 39) q F G (.n0 .unit) k) sH e g g1 g2 g3 g7 g8 g9 ih
  ·exact n9 (nN d (.er .z 39) (.er x 3) q F G (.n0 .unit) k) sH e g g1 g2 g3 g7 g8 g9 ih
  ·exact rk (nN d (.ok a) (.ok a) q F G a k) sH sH (dE e g g1 g2 g3 g5 g7 (And.intro g8 (And.intro g9 ih)))
  ·exact n9 (nN d (.ok a) (.er x 3) q F G a k) sH e g g1 g2 g3 g7 g8 g9 ih
end Go.Proofs.YtmkajedkflhbgaaGreatDoor
namespace Go.Proofs.YtmkajedkflhbgaaGreatDoor
open Go.Lg
set_option maxRecDepth 100000
variable {ds:List Dc}
structure InL (ds:List Dc) (k:Nat) (tl:List Tm):Prop where
 fit:pP (uB (ds.take k)) tl
 xt:∀ (i:Nat) (f:Fm),(uB (ds.take k))[i]? = some f->f.has=true->tl[i]? = some ((PP ds i).xt [] (ZB 0 0))
theorem Xm:ScT [] [] [] (ZB 0 0):=⟨λ i s e=>absurd (ZN e) (Nat.not_lt_zero _),λ i f hi=>absurd hi (Nat.not_lt_zero _)⟩
theorem zd (h:ThOK ds) (h4:ds.length<=4) {k:Nat} {d:Dc} (e:ds[k]? = some d):(PP ds k).D [] [] []/\(PP ds k).p.ck/\(PP ds k).f=d.f:=by
 have hk:=(List.getElem?_eq_some_iff.1 e).1;obtain⟨q1,q2⟩:=Pc h (k+1);have e':(uB (ds.take (k+1)))[k]? = some d.f:=by rw [uB,List.getElem?_map,List.getElem?_take,if_pos (by omega),e];rfl
 exact⟨q1.D k d.f e' [] [] (by simp;omega) (by simp;omega),q2 k d (by omega) e,q1.f k d.f e'⟩
theorem InL.next {k:Nat} {tl:List Tm} {d:Dc} {a:Tm} (h:ThOK ds) (h4:ds.length<=4) (H:InL ds k tl) (e:ds[k]? = some d) (h1:TK 0 a) (h2:Ht [] a d.f.ctu) (h3:d.f.has=true->a=(PP ds k).xt [] (ZB 0 0)):uB (ds.take (k+1))=uB (ds.take k)++[d.f]/\InL ds (k+1) (tl++[a]):=by
 have hk:=(List.getElem?_eq_some_iff.1 e).1;have e1:uB (ds.take (k+1))=uB (ds.take k)++[d.f]:=by
  rw [uB,List.take_add_one,e];simp [uB]
 have hl:(uB (ds.take k)).length=k:=by simp [uB];omega
 have hl2:tl.length=k:=by rw [<- H.fit.len,hl]
 have key:∀ (i:Nat) (f:Fm),(uB (ds.take k)++[d.f])[i]? = some f->((uB (ds.take k))[i]? = some f/\(tl++[a])[i]? = tl[i]?)\/(i=k/\f=d.f/\(tl++[a])[i]? = some a):=λ i f k1=>by
  by_cases hi:i<k
  ·rw [List.getElem?_append_left (by omega)] at k1;exact .inl ⟨k1,List.getElem?_append_left (by omega)⟩
  ·have hi2:=(List.getElem?_eq_some_iff.1 k1).1;rw [List.length_append,hl] at hi2;simp at hi2;obtain rfl:i=k:=by omega
   rw [List.getElem?_append_right (by omega),hl,Nat.sub_self] at k1;simp at k1;exact .inr ⟨rfl,k1.symm,by rw [List.getElem?_append_right (by omega)];simp [hl2]⟩
 refine⟨e1,⟨by rw [e1,List.length_append,hl];simp;omega,by rw [e1,List.length_append,List.length_append,hl,hl2];rfl,λ f hf=>(h.take (k+1)).ty f hf,λ i f t k1 k2 => ?_⟩,λ i f k1 k2 => ?_⟩
 ·rw [e1] at k1;rcases key i f k1 with ⟨q1,q2⟩|⟨rfl,rfl,q2⟩
  ·exact H.fit.ht i f t q1 (q2 ▸ k2)
  ·rw [q2] at k2;cases k2;exact⟨h1,h2⟩
 ·rw [e1] at k1;rcases key i f k1 with ⟨q1,q2⟩|⟨rfl,rfl,q2⟩
  ·rw [q2];exact H.xt i f q1 k2
  ·rw [q2,h3 k2]
theorem NW:pP [] []:=⟨by simp,rfl,λ f hf=>(by simp at hf),λ i f t e=>(by simp at e)⟩
theorem jd (h:ThOK ds) (h4:ds.length<=4):∀ (r:List Dc) (k:Nat) (tl:List Tm),ds.drop k=r->InL ds k tl->Lp 3 0 0 (sL (ds.map Dc.c) ((uB (ds.take k)).map Fm.c) (tl.map Tm.c) k) .ret eR\/Lp 3 0 0 (sL (ds.map Dc.c) ((uB (ds.take k)).map Fm.c) (tl.map Tm.c) k) (.exit 0) (st [] [] 8 [])
 | [],k,tl,e,H=>by
  have g:kA (.ofNat k) (.ofNat (ds.map Dc.c).length)=false:=CA (by simpa using TC e)
  cases k with
  | zero=>exact .inr (x1 [(29,.H)] ⟨[],[],8,[]⟩ g)
  | succ k=>exact .inr (x1 [(29,.H)] ⟨[],[],8,[]⟩ g)
 | d::r,k,tl,e,H=>by
  obtain⟨d1,d2,d3⟩:=SC e;obtain⟨j1,j2,j3⟩:=uS h d1;have hq:=(h k d d1).q;have hl:(uB (ds.take k)).length=k:=by simp [uB];omega
  have hl2:tl.length=k:=by rw [<- H.fit.len,hl]
  have h0:k=0->(uB (ds.take k)).map Fm.c=[]/\tl.map Tm.c=[]:=λ e=>⟨by subst e;rfl,by subst e;rw [List.length_eq_zero_iff.1 hl2];rfl⟩
  obtain⟨r1,g1,q1⟩:=xW H.fit (JJ ds k) j3 (by rw [j1];exact hq.1) (by rw [j1];exact hq.2.1);rw [j1] at g1;have hE:∀ x,r1 = .er x 3->Lp 3 0 0 (sL (ds.map Dc.c) ((uB (ds.take k)).map Fm.c) (tl.map Tm.c) k) .ret eR:=λ x ex=>by
   subst ex;rcases MW h h4 d2 with g2|⟨g2,_⟩
   ·exact Yc (.inl rfl) d1 h0 g1 g2
   ·exact Yc (.inr ⟨_,rfl⟩) d1 h0 g1 g2
  obtain⟨p1,p2,p3⟩:=zd h h4 d1
  -- the round goes on
  have go:∀ (a:Tm) (r2:XR),A 8 [fA [],row [],VA [] [],(PP ds k).p.p] r2.p->A 9 [yF ds,num k] (.tuple [(PP ds k).p.p,num 0])->((∃ x,r1 = .er .z 39/\a = .n0 .unit/\(r2 = .er .z 39\/r2 = .er x 3))\/r1 = .ok a/\(r2 = .ok a \/ ∃ x,r2 = .er x 3))->TK 0 a->Ht [] a d.f.ctu->(d.f.has=true->a=(PP ds k).xt [] (ZB 0 0))->Lp 3 0 0 (sL (ds.map Dc.c) ((uB (ds.take k)).map Fm.c) (tl.map Tm.c) k) .ret eR\/Lp 3 0 0 (sL (ds.map Dc.c) ((uB (ds.take k)).map Fm.c) (tl.map Tm.c) k) (.exit 0) (st [] [] 8 []):=λ a r2 g3 g2 hr t1 t2 t3=>by
   obtain⟨e1,H'⟩:=H.next h h4 d1 t1 t2 t3;have ih:=jd h h4 r (k+1) (tl++[a]) d3 H';rw [e1,List.map_append,List.map_append] at ih;exact ih.imp (rdN hr h4 d1 (by rw [List.length_map];exact hl) (by rw [List.length_map];exact hl2) g1 g2 g3) (rdN hr h4 d1 (by rw [List.length_map];exact hl) (by rw [List.length_map];exact hl2) g1 g2 g3)
  rcases q1 with e1|⟨hf,e1⟩|⟨hf,G1⟩
  ·exact .inl (hE _ e1)
  ·rcases MW h h4 d2 with g2|⟨g2,hs⟩
   ·exact .inl (Zc (.inr e1) d1 h0 g1 g2)
   ·obtain⟨r2,g3,q2⟩:=xW NW (PP ds k) p1 p2 hs;unfold XR.Of at q2;rw [p3] at q2;rw [j2] at hf;have hc:d.f.ctu = .unit:=by unfold Fm.ctu;rw [hf];rfl
    have tu:TK 0 (.n0 .unit):=⟨by decide,rfl,trivial⟩;rcases q2 with e2|⟨_,e2⟩|⟨hf2,_⟩
    ·exact go (.n0 .unit) r2 g3 g2 (.inl ⟨_,e1,rfl,.inr e2⟩) tu (by rw [hc];rfl) λ k=>by rw [hf] at k;cases k
    ·exact go (.n0 .unit) r2 g3 g2 (.inl ⟨.z,e1,rfl,.inl e2⟩) tu (by rw [hc];rfl) λ k=>by rw [hf] at k;cases k
    ·rw [hf] at hf2;cases hf2
  ·cases r1 with
   | er x m =>
    obtain rfl:m=3:=G1;exact .inl (hE x rfl)
   | ok t =>
    obtain⟨t1,t2⟩:=G1;rcases MW h h4 d2 with g2|⟨g2,hs⟩
    ·exact .inl (Zc (.inl ⟨t,rfl⟩) d1 h0 g1 g2)
    ·obtain⟨r2,g3,q2⟩:=xW NW (PP ds k) p1 p2 hs;have hO:=(aD (λ f hf=>vS (H.fit.ty f hf)) (JJ ds k) [] [] j3 (λ s h=>nomatch h) (by simp) (λ f h=>nomatch h) (by rw [j1];exact hq.1)).1;have hty:Ht [] t d.f.ctu:=by
      have hc:d.f.ctu=d.f.cty:=by unfold Fm.ctu;rw [<- j2,hf];rfl
      rw [t2,hc,<- j2];refine wD (λ i f e hf => ?_) (JJ ds k) [] 0 [] [] (ZB 0 0) rfl j3 hO (WX 0 0) Xm hf;have e2:=H.xt i f e hf;have:=(H.fit.ht i f _ e e2).2;unfold Fm.ctu at this;rw [hf] at this;exact⟨_,e2,this⟩
     have heq:t=(PP ds k).xt [] (ZB 0 0):=by
      rw [t2,JW h d1];refine (xE (Pc h k).1 H.xt (λ i f e => ?_) (JJ ds k) [] [] (ZB 0 0) j3 hf).symm;obtain⟨_,d',e',_⟩:=dS e;obtain⟨u1,u2,_⟩:=zd h h4 e';exact (aD (ls:=[]) (λ f h=>nomatch h) (PP ds i) [] [] u1 (λ s h=>nomatch h) (by simp) (λ f h=>nomatch h) u2).1
     have UB:(r2 = .ok t \/ ∃ x,r2 = .er x 3):=by
      rcases q2 with e2|⟨hf2,_⟩|⟨_,G2⟩
      ·exact .inr ⟨_,e2⟩
      ·rw [p3,<- j2,hf] at hf2;cases hf2
      ·cases r2 with
       | er x m =>
        obtain rfl:m=3:=G2;exact .inr ⟨x,rfl⟩
       | ok u=>exact .inl (by rw [G2.2,<- heq])
     exact go t r2 g3 g2 (.inr ⟨rfl,UB⟩) t1 hty λ _=>heq
theorem Ym {L:List Int} (hA:A 4 [] (.bool true)) (hr:∀ z∈L,-9223372036854775808<=z/\z<=9223372036854775807):A 3 [.slice (L.map jJ)] (.bool true):=by
 have gf:=a5 L;by_cases hlen:L.length<=500;rotate_left
 ·rw [decide_eq_false hlen] at gf;exact f3 [(14,.T),(18,.F),(21,.T)] hA gf hA
 rw [decide_eq_true hlen] at gf;have hL:Dk L:=⟨hlen,hr⟩;obtain⟨ds,b,h,h4,g1⟩:=a6 hL;have H0:InL ds 0 []:=⟨NW,λ i f e=>by simp [uB] at e⟩;rcases jd h h4 ds 0 [] rfl H0 with g|g
 ·exact f4 [(14,.T),(18,.T),(24,.D L b (.pv (yF ds))),(100007,.l ⟨[3,4,5,26,27,28],[1],2,[]⟩ .ret eR)] hA gf g1 g
 ·exact f4 [(14,.T),(18,.T),(24,.D L b (.pv (yF ds))),(100007,.l ⟨[3,4,5,26,27,28],[1],2,[]⟩ (.exit 0) (st [] [] 8 []))] hA gf g1 g
end Go.Proofs.YtmkajedkflhbgaaGreatDoor
