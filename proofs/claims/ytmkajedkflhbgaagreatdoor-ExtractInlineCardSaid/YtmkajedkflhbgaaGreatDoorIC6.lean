/- Contracts of functions; no conditions. -/
import Derived.Test.YtmkajedkflhbgaaGreatDoorIC5
import Derived.Test.YtmkajedkflhbgaaGreatDoorIC2
import Derived.WalkKit
import Derived.Laws.Bits64b
import Derived.Lib.TrailingZeros
set_option linter.all false
set_option maxHeartbeats 4000000
namespace Go.Proofs.YtmkajedkflhbgaaGreatDoor
open Go.Lg
set_option maxRecDepth 100000
theorem FK.cn {n:Nat} {f:Fm} (h:FK n f):f.cnt<=qA:=by
 have hm:=jA;have:=h.cnt;omega
theorem WL {ls:List Fm} {j:Jt} (h:KI ls j) {g:List Ty} {H:List (Fm × Nat)} (hp:PlOK g H) (hD:j.D ls g (vw g.length H)) (hc:j.p.ck) {k:Nat} (hk:j.f.kd=k):FK g.length j.f /\ ∃ z,BS j.us z/\O 215 [.loc 4 0,.pv j.p.p,.pv (eB g H),.pv (num k)] (fG ls) (.pv (sB j.f.y z 0)) (fG ls):=by
 obtain⟨hf,z,hz,g1⟩:=h g H hp hD hc;exact⟨hf,z,hz,o2 5 [(16,.o [3,4] [] (.pv (sB j.f.y z 0))),(26,.H)] g1 (TB hk)⟩
theorem AN {ls:List Fm} {j:Jt} (h:KI ls j) {g:List Ty} {H:List (Fm × Nat)} (hp:PlOK g H) (hD:j.D ls g (vw g.length H)) (hc:j.p.ck) {f w:Fm} {t:Tm} (hf:FK (g.length+1) f) (ht:TK g.length t) (e:f.pt t = .ok w) (hm:w.mt j.f):∃ z,BS j.us z/\O 225 [.loc 4 0,.pv j.p.p,.pv (eB g H),.pv f.p,.pv t.p] (fG ls) (.pv (sB j.f.y z 0)) (fG ls):=by
 have hl:EA=100000:=rfl;have hg:=hp.gl;obtain⟨hj,z,hz,g1⟩:=h g H hp hD hc;have g2:=oN hf ht;rw [e] at g2;exact⟨z,hz,o3 5 [(19,.o [3,4] [] (.pv (sB j.f.y z 0))),(29,.r (FR.ok w).p),(40,.N 0)] g1 g2 (oe (hf.pt ht e).2 hj (by omega) hm)⟩
theorem Wp {ls:List Fm} {i:Nat} {f:Fm} : KR ls (.leaf false i f):=by
 intro g H hp hD hc;obtain⟨_,h1,h2⟩:=hD;rw [YP] at h1 h2;rcases Tp g H hp i with ⟨h,_⟩|⟨f',_,h3,h4,g1⟩
 ·exact absurd h1 (by omega)
 ·rw [h2] at h3;cases h3;exact⟨h4.sc,0,sK _,o1 5 [(14,.U [f.p,.bool true])] g1⟩
theorem Xp {ls:List Fm} {i:Nat} {f:Fm} (hl:∀ f∈ls,FK 0 f):KR ls (.leaf true i f):=by
 intro g H hp hD hc;obtain⟨_,hj⟩:=hD;have h:=(List.getElem?_eq_some_iff.1 hj).1;exact⟨((hl f (List.mem_of_getElem? hj)).up (Nat.zero_le g.length)).sc,0,sK _,o2 5 [(15,.H),(23,.i f.c)] (lF (a:=i) (b:=(ls.map Fm.c).length) (by simpa using h)) (KA hj Fm.c_len)⟩
theorem Yp {ls:List Fm} {a b:Jt} {f:Fm} (Ha:KI ls a) (Hb:KI ls b):KR ls (.p2 .andI a b f):=by
 intro g H hp hD hc;obtain⟨_,h1,h2,rfl⟩:=hD;obtain⟨fa,z,hz,g1⟩:=Ha g H hp h1 hc.1;obtain⟨fb,z',hz',g2⟩:=Hb g H hp h2 hc.2;exact⟨⟨fa.sc,fb.sc⟩,_,hz.or hz',o3 5 [(18,.o [3,4] [] (.pv (sB a.f.y z 0))),(32,.o [3,4] [] (.pv (sB b.f.y z' 0))),(49,.v (u32 (HA .or .u32 z z')))] g1 g2 (aF z z')⟩
theorem Zp {ls:List Fm} {a:Jt} {f:Fm} (Ha:KI ls a):KR ls (.p1 .andL a f):=by
 intro g H hp hD hc;obtain⟨_,h1,y,e⟩:=hD;obtain⟨fa,z,hz,g1⟩:=WL Ha hp h1 hc (k:=2) (by rw [e];rfl);rw [e] at g1 fa;exact⟨fa.bin1.sc,z,hz,o1 5 [(18,.o [3,4] [] (.pv (sB (Fm.bin .and f y).y z 0)))] g1⟩
theorem zq {ls:List Fm} {a:Jt} {f:Fm} (Ha:KI ls a):KR ls (.p1 .andR a f):=by
 intro g H hp hD hc;obtain⟨_,h1,y,e⟩:=hD;obtain⟨fa,z,hz,g1⟩:=WL Ha hp h1 hc (k:=2) (by rw [e];rfl);rw [e] at g1 fa;exact⟨fa.bin2.sc,z,hz,o1 5 [(18,.o [3,4] [] (.pv (sB (Fm.bin .and y f).y z 0)))] g1⟩
theorem PlOK.with {g:List Ty} {H:List (Fm × Nat)} (h:PlOK g H) {f:Fm} (hf:FK g.length f) (hl:H.length+1<=16):PlOK g (H++[(f,g.length)]):=by
 refine⟨h.gl,h.gs,by simpa using hl,λ x hx => ?_⟩;rcases List.mem_append.1 hx with hx|hx
 ·exact h.hs x hx
 ·simp at hx;subst hx;exact⟨hf,Nat.le_refl _⟩
theorem CT (n:Nat) (H:List (Fm × Nat)) (f:Fm):vw n (H++[(f,n)])=vw n H++[f]:=by
 simp only [vw,List.map_append,List.map_cons,List.map_nil,Nat.sub_self,NP]
theorem jq {ls:List Fm} {f:Fm} {a:Jt} (Ha:KI ls a):KR ls (.impI f a):=by
 intro g H hp hD hc;obtain⟨_,⟨hf,ht⟩,hr,h1⟩:=hD;have hm:=jA;have hg:=hp.gl;have hl:=hp.hl;rw [YP] at hr;obtain⟨e,g1,q1,q2⟩:=YJ f g hp.gs (Fm.chk0 hf).2 (by have:=(Fm.chk0 hf).1;omega);obtain rfl:=q2 ht;have hF:FK g.length f:=⟨(Fm.chk0 hf).1,(Fm.chk0 hf).2,q1 rfl⟩;have hp':=hp.with hF hr;obtain⟨fa,z,hz,g4⟩:=Ha g _ hp' (by rw [CT];exact h1) hc.2;exact⟨⟨hF.sc,fa.sc⟩,z,hz,o4 5 [(20,.N 0),(27,.N 0),(40,.r (eB g (H++[(f,g.length)]))),(41,.o [3,4] [] (.pv (sB a.f.y z 0)))] g1 (XP g.length (H.map NB).length 0 1 (by omega) (by simpa using hr)) (AT g H f) g4⟩
theorem vq {ls:List Fm} {a b:Jt} {f:Fm} (Ha:KI ls a) (Hb:KI ls b):KR ls (.p2 .impE a b f):=by
 intro g H hp hD hc;have hg:=hp.gl;obtain⟨_,h1,h2,x,e,hm⟩:=hD;obtain⟨fa,z,hz,g1⟩:=WL Ha hp h1 hc.1 (k:=3) (by rw [e];rfl);rw [e] at g1 fa;obtain⟨fb,z',hz',g2⟩:=Hb g H hp h2 hc.2;exact⟨fa.bin2.sc,_,hz.or hz',o4 5 [(19,.o [3,4] [] (.pv (sB (Fm.bin .imp x f).y z 0))),(33,.o [3,4] [] (.pv (sB b.f.y z' 0))),(47,.N 0),(61,.v (u32 (HA .or .u32 z z')))] g1 g2 (oe fa.bin1 fb (by omega) hm) (aF z z')⟩
theorem PlOK.below1 {g:List Ty} {H:List (Fm × Nat)} (h:PlOK g H) {s:Ty} (hs:s.size<=64) (hl:g.length+1<=16):PlOK (g++[s]) H:=by
 refine⟨by simpa using hl,λ x hx => ?_,h.hl,λ x hx => ?_⟩
 ·rcases List.mem_append.1 hx with hx|hx
  ·exact h.gs x hx
  ·simp at hx;subst hx;exact hs
 ·have:=h.hs x hx;exact⟨this.1,by simp;omega⟩
theorem PlOK.below2 {g:List Ty} {H:List (Fm × Nat)} (h:PlOK g H) {s u:Ty} (hs:s.size<=64) (hu:u.size<=64) (hl:g.length+2<=16):PlOK (g++[s,u]) H:=by
 refine⟨by simpa using hl,λ x hx => ?_,h.hl,λ x hx => ?_⟩
 ·rcases List.mem_append.1 hx with hx|hx
  ·exact h.gs x hx
  ·simp at hx;rcases hx with rfl|rfl
   ·exact hs
   ·exact hu
 ·have:=h.hs x hx;exact⟨this.1,by simp;omega⟩
theorem ZP (k n:Nat):∀ (H:List (Fm × Nat)),(∀ h∈H,h.2<=n)->vw (n+k) H=lA k (vw n H)
 | [],_=>rfl
 | (f,v)::H,h=>by
  have h1:=ZP k n H (λ x hx=>h x (by simp [hx]));have h2:v<=n:=h (f,v) (by simp);simp only [vw,lA,List.map_cons] at h1 ⊢;rw [h1,kT,show n-v+k=n+k-v by omega]
theorem wq {ls:List Fm} {u:Bool} {s:Ty} {a:Jt} (Ha:KI ls a) {g:List Ty} {H:List (Fm × Nat)} (hp:PlOK g H) (hc:(Pf.all u s a.p).ck) (hr:g.length+1<=16) (h1:a.D ls (g++[s]) (lA 1 (vw g.length H))) (hu:u=true->¬a.us 0):(Jt.all u s a).f.sc g.length /\ ∃ z,BS (Jt.all u s a).u0 z/\O 140 [.loc 4 0,.pv (Pf.all u s a.p).p,.pv (eB g H)] (fG ls) (.pv (sB (Jt.all u s a).f.y z 0)) (fG ls):=by
 have hs:s.size<=64:=hc.1;have hm:=jA;have hb:=uA;have hl:=hp.hl;have g1:=XP g.length (H.map NB).length 1 0 hr (by simpa using hl);have hp':=hp.below1 hs hr;have g2:=MX g H s;have e1:(g++[s]).length=g.length+1:=by simp
 obtain⟨fa,z,hz,g3⟩:=Ha _ H hp' (by rw [e1,ZP 1 g.length H λ x hx=>(hp.hs x hx).2];exact h1) hc.2;rw [e1] at fa;obtain⟨z',hz',g4⟩:=xT z 1 (by decide) hz;refine⟨fa.sc,z',hz',?_⟩;cases u
 ·exact o4 5 [(14,.N 0),(29,.r (eB (g++[s]) H)),(30,.o [3,4] [] (.pv (sB a.f.y z 0))),(53,.r (u32 z'))] g1 g2 g3 g4
 ·have e:(!lB (HA .and .u32 z 1) 0)=false:=by rw [hz.and1 (hu rfl)];rfl
  exact o6 5 [(14,.N 0),(29,.r (eB (g++[s]) H)),(30,.o [3,4] [] (.pv (sB a.f.y z 0))),(42,.v (u32 (HA .and .u32 z 1))),(43,.H),(53,.r (u32 z'))] g1 g2 g3 (LX z 1) e g4
theorem kq {ls:List Fm} {u:Bool} {s:Ty} {a:Jt} (Ha:KI ls a):KR ls (.all u s a):=λ _ _ hp hD hc=>wq Ha hp hc hD.2.1 hD.2.2.1 hD.2.2.2
theorem Qe (s:Ty) (h:s.size<=64):A 222 [.agg (BA s),s.p] (.bool true):=by
 have hb:=uA;obtain⟨r,g,e⟩:=mX s s;rw [(uD s s).2 rfl] at e;subst e;exact f2 [(7,.r (.agg (BA s))),(8,.T)] (fD s) g
theorem XI {g:List Ty} {t:Tm} {s:Ty} (hg:∀ s∈g,s.size<=64) (hl:g.length<=16) (h:t.chk=0) (e:t.tyR g = .ok s):A 51 [ZA g,t.p] (TR.ok s).q/\TK g.length t:=by
 have hm:=jA;obtain⟨h1,h2⟩:=Tm.chk0 h;obtain⟨r,g1,_,q,e'⟩:=HH t g hg h2 (by omega);rw [e] at e';subst e';exact⟨g1,h1,h2,q s rfl⟩
theorem yq (u:Bool) (s:Ty) (x:Fm):(Fm.q (aq u) s x).kd=(aq u).n:=by cases u<;>rfl
theorem uq {ls:List Fm} {u:Bool} {t:Tm} {a:Jt} {f:Fm} (Ha:KI ls a):KR ls (.ins u t a f):=by
 intro g H hp hD hc;obtain⟨_,ht,h1,s,x,hty,e,hpt⟩:=hD;have hg:=hp.gl;have hlm:EA=100000:=rfl;obtain⟨g1,hT⟩:=XI hp.gs hg ht hty;obtain⟨z1,hz1,g2⟩:=hT.a240 (by omega);obtain⟨fa,z,hz,g3⟩:=WL Ha hp h1 hc.2 (k:=(aq u).n) (by rw [e];exact yq u s x);rw [e] at g3 fa;have g4:=Qe s fa.qs;have g5:=oN fa.qf hT;rw [hpt] at g5;refine⟨(fa.qf.pt hT hpt).2.sc,?_⟩;cases u
 ·exact⟨_,(hz.or hz1).mono λ v h=>h.imp id λ h=>⟨rfl,h⟩,o6 5 [(23,.r (TR.ok s).q),(31,.r (u32 z1)),(43,.o [3,4] [] (.pv (sB (Fm.q .all s x).y z 0))),(54,.T),(64,.r (FR.ok f).p),(71,.v (u32 (HA .or .u32 z z1)))] g1 g2 g3 g4 g5 (aF z z1)⟩
 ·exact⟨_,(hz.or (sK λ _=>False)).mono λ v h=>h.imp id False.elim,o6 5 [(23,.r (TR.ok s).q),(31,.r (u32 z1)),(43,.o [3,4] [] (.pv (sB (Fm.q .allU s x).y z 0))),(54,.T),(64,.r (FR.ok f).p),(71,.v (u32 (HA .or .u32 z 0)))] g1 g2 g3 g4 g5 (aF z 0)⟩
theorem bq {ls:List Fm} {u:Bool} {f:Fm} {t:Tm} {a:Jt} (Ha:KI ls a):KR ls (.ex u f t a):=by
 intro g H hp hD hc;obtain⟨⟨hf,hfy⟩,ht,h1,s,x,w,hty,rfl,hpt,hmt⟩:=hD;have hm:=jA;have hg:=hp.gl;have hlm:EA=100000:=rfl;obtain⟨e,g1,q1,q2⟩:=YJ (.q (MI u) s x) g hp.gs (Fm.chk0 hf).2 (by have:=(Fm.chk0 hf).1;omega);obtain rfl:=q2 hfy;have hF:FK g.length (.q (MI u) s x):=⟨(Fm.chk0 hf).1,(Fm.chk0 hf).2,q1 rfl⟩;obtain⟨g2,hT⟩:=XI hp.gs hg ht hty;have g3:=Qe s hF.qs;obtain⟨z,hz,g4⟩:=AN Ha hp h1 hc.2.2 hF.qf hT hpt hmt;refine⟨hF.sc,?_⟩;cases u
 ·obtain⟨z1,hz1,g5⟩:=hT.a240 (by omega);exact⟨_,(hz.or hz1).mono λ v h=>h.imp id λ h=>⟨rfl,h⟩,o6 5 [(30,.N 0),(44,.r (TR.ok s).q),(54,.T),(69,.o [3,4] [] (.pv (sB a.f.y z 0))),(81,.r (u32 z1)),(82,.v (u32 (HA .or .u32 z z1)))] g1 g2 g3 g4 g5 (aF z z1)⟩
 ·exact⟨_,(hz.or (sK λ _=>False)).mono λ v h=>h.imp id False.elim,o5 5 [(30,.N 0),(44,.r (TR.ok s).q),(54,.T),(69,.o [3,4] [] (.pv (sB a.f.y z 0))),(82,.v (u32 (HA .or .u32 z 0)))] g1 g2 g3 g4 (aF z 0)⟩
open Go.Lg
theorem OX {n:Nat} {f g:Fm} (h:FK (n+1) f) (hn:n+1<=90000) (e:VC f=some g):g.sc n/\g.shp=true/\g.cnt<=16777216:=by
 have hl:EA=100000:=rfl;have c:=h.cnt;unfold VC at e;split at e
 ·rename_i h0;cases e;have:=h.low h0;exact⟨this.sc,this.shp,by have:=this.cnt;omega⟩
 ·split at e
  ·rename_i y e1;split at e
   ·rename_i h0;cases e;obtain⟨k1,k2,k3⟩:=xN f (n+1) h (by omega) y e1;refine⟨tN _ n y 0 k1 (.inr h0),aN 0 _ y 0 (.inr h0) k2,?_⟩;rw [JX h0];omega
   ·cases e
  ·cases e
theorem dq {ls:List Fm} {t:Tm} : KR ls (.refl t):=by
 intro g H hp hD hc;obtain⟨_,ht,hty⟩:=hD;have hm:=jA;have hg:=hp.gl;obtain⟨_,hT⟩:=XI hp.gs hg ht hty;obtain⟨e,g1,_,q2⟩:=rX g t hp.gs hT.shp (by have:=hT.cnt;omega);obtain rfl:=q2 hty;exact⟨⟨hT.sc,hT.sc⟩,0,sK _,o2 5 [(17,.N 0),(24,.r (Fm.eq t t).p)] g1 (He t t)⟩
theorem PX {g:List Ty} {f:Fm} {s:Ty} (hg:∀ s∈g,s.size<=64) (hl:g.length<=16) (hs:s.size<=64) (h:f.chk=0) (ht:f.ty (g++[s])):A 211 [ZA (g++[s]),f.p] (num 0)/\FK (g.length+1) f:=by
 have hm:=jA;have el:(g++[s]).length=g.length+1:=by simp
 obtain⟨e,g1,q1,q2⟩:=YJ f (g++[s]) (λ x hx=>by
  rcases List.mem_append.1 hx with hx|hx
  ·exact hg x hx
  ·simp at hx;subst hx;exact hs) (Fm.chk0 h).2 (by rw [el];have:=(Fm.chk0 h).1;omega)
 obtain rfl:=q2 ht;exact⟨g1,(Fm.chk0 h).1,(Fm.chk0 h).2,by have:=q1 rfl;rwa [el] at this⟩
theorem fq {ls:List Fm} {f r:Fm} {a b:Jt} (Ha:KI ls a) (Hb:KI ls b):KR ls (.subst f a b r):=by
 intro g H hp hD hc;obtain⟨_,⟨hf,hfy⟩,h1,h2,t,u,w,e,hpt,hmt,hpu⟩:=hD;have hm:=jA;have hg:=hp.gl;have hlm:EA=100000:=rfl;have g0:=KP g .nat (by omega) (by decide);obtain⟨g1,hF⟩:=PX hp.gs hg (s:=.nat) (by decide) hf hfy;obtain⟨fa,z,_,g2⟩:=WL Ha hp h1 hc.2.1 (k:=1) (by rw [e];rfl);rw [e] at g2 fa;obtain⟨z',hz',g3⟩:=AN Hb hp h2 hc.2.2 hF fa.eq1 hpt hmt;have g4:=oN hF fa.eq2;rw [hpu] at g4;exact⟨(hF.pt fa.eq2 hpu).2.sc,z',hz',o6 5 [(20,.Y),(22,.r (ZA (g++[.nat]))),(24,.N 0),(36,.o [3,4] [] (.pv (sB (Fm.eq t u).y z 0))),(56,.o [3,4] [] (.pv (sB b.f.y z' 0))),(70,.r (FR.ok r).p)] UI g0 g1 g2 g3 g4⟩
theorem lq (s u:Ty):A 234 [u.p,cA [s]] (Ty.two true s u).p:=f0 []
theorem QX (n:Nat):TK (n+2) vapp:=⟨by decide,rfl,⟨by show 1<n+2;omega,by show 0<n+2;omega⟩⟩
theorem mq {ls:List Fm} {a:Jt} {f:Fm} (Ha:KI ls a):KR ls (.p1 .choice a f):=by
 intro g H hp hD hc;obtain⟨_,h1,s,u,x,e,hsz,y,hpt,rfl⟩:=hD;have hm:=jA;have hb:=uA;have hg:=hp.gl;have hlm:EA=100000:=rfl;obtain⟨fa,z,hz,g1⟩:=WL Ha hp h1 hc (k:=4) (by rw [e];rfl);rw [e] at g1 fa;have k1:=fa.qf;have k2:=k1.qf;have g3:=IH x 2 1 (by omega) (by have:=k2.cnt;omega) (by have:=k2.mx (by omega);rw [hm];omega);have k3:=k2.sh 2 1;have g5:=oN (n:=g.length+2) (f:=x.sh 2 (.ofNat 1)) (t:=vapp) k3 (QX g.length);rw [hpt] at g5;have hv:=(FK.pt (n:=g.length+2) k3 (QX g.length) hpt).2;have g6:=lX (.two true s u);rw [(OL hsz).2] at g6;exact⟨hv.sc,z,hz,o8 5 [(21,.o [3,4] [] (.pv (sB (Fm.q .all s (.q .ex u x)).y z 0))),(43,.r (Ty.two true s u).p),(49,.r (x.sh 2 (.ofNat 1)).p),(50,.r (Tm.v 1).p),(51,.r (Tm.v 0).p),(53,.r vapp.p),(54,.r (FR.ok y).p),(61,.N 0)] g1 (lq s u) g3 (OH 1) (OH 0) (Ge (.v 1) (.v 0)) g5 g6⟩
theorem Re {ls:List Fm} (u:Bool) {a b:Jt} {f:Fm} (Ha:KI ls a) (Hb:KI ls b) (g:List Ty) (H:List (Fm × Nat)) (hp:PlOK g H) (hca:a.p.ck) (hcb:b.p.ck) (s:Ty) (h1:a.D ls g (vw g.length H)) (e:a.f = .q (MI u) s a.f.bd) (h2:b.D ls (g++[s]) (lA 1 (vw g.length H)++[a.f.bd])) (n1:g.length+1<=16) (n2:(vw g.length H).length+1<=16) (hw:VC b.f=some f) (hu:u=true->¬b.us 0) :
  f.sc g.length /\ ∃ z,BS (λ v=>a.us v\/b.us (v+1)) z/\O 143 [.loc 4 0,.pv (Pf.p2 (ek u) a.p b.p).p,.pv (eB g H)] (fG ls) (.pv (sB f.y z 0)) (fG ls):=by
 have hm:=jA;have hb:=uA;have hg:=hp.gl;have hl:=hp.hl;have hlm:EA=100000:=rfl;rw [YP] at n2;generalize hx:a.f.bd=x at *
 obtain⟨fa,z,hz,g1⟩:=WL Ha hp h1 hca (k:=(MI u).n) (by rw [e];cases u<;>rfl);rw [e] at g1 fa;have hs:=fa.qs;have g2:=XP g.length (H.map NB).length 1 1 n1 (by simpa using n2);have el:(g++[s]).length=g.length+1:=by simp
 have hxF:FK (g++[s]).length x:=by rw [el];exact fa.qf
 have hp':=(hp.below1 hs n1).with hxF n2;have g3:=MX g H s;have g4:=AT (g++[s]) H x;obtain⟨fb,z',hz',g5⟩:=Hb _ _ hp' (by rw [CT,el,ZP 1 g.length H λ x hx=>(hp.hs x hx).2];exact h2) hcb;rw [el] at fb;have g6:=np fb (by omega) hw;obtain⟨w1,_⟩:=OX fb (by omega) hw;obtain⟨z'',hz'',g7⟩:=xT z' 1 (by decide) hz';refine⟨w1,_,hz.or hz'',?_⟩;cases u
 ·exact o8 5 [(27,.o [3,4] [] (.pv (sB (Fm.q .ex s x).y z 0))),(36,.N 0),(52,.r (eB (g++[s]) H)),(58,.r (eB (g++[s]) (H++[(x,(g++[s]).length)]))),(59,.o [3,4] [] (.pv (sB b.f.y z' 0))),(69,.r (FR.ok f).p),(89,.r (u32 z'')),(90,.v (u32 (HA .or .u32 z z'')))] g1 g2 g3 g4 g5 g6 g7 (aF z z'')
 ·have e:(!lB (HA .and .u32 z' 1) 0)=false:=by rw [hz'.and1 (hu rfl)];rfl
  exact jC 5 [(27,.o [3,4] [] (.pv (sB (Fm.q .exU s x).y z 0))),(36,.N 0),(52,.r (eB (g++[s]) H)),(58,.r (eB (g++[s]) (H++[(x,(g++[s]).length)]))),(59,.o [3,4] [] (.pv (sB b.f.y z' 0))),(69,.r (FR.ok f).p),(80,.v (u32 (HA .and .u32 z' 1))),(81,.H),(89,.r (u32 z'')),(90,.v (u32 (HA .or .u32 z z'')))] g1 g2 g3 g4 g5 g6 (LX z' 1) e g7 (aF z z'')
theorem nq {ls:List Fm} {a b:Jt} {f:Fm} (Ha:KI ls a) (Hb:KI ls b):KR ls (.p2 .exE a b f):=by
 intro g H hp hD hc;obtain⟨_,h1,⟨s,e,h2⟩,⟨n1,n2⟩,hw⟩:=hD;exact Re false Ha Hb g H hp hc.1 hc.2 s h1 e h2 n1 n2 hw (λ h=>nomatch h)
theorem pq {ls:List Fm} {a b:Jt} {f:Fm} (Ha:KI ls a) (Hb:KI ls b):KR ls (.p2 .exUE a b f):=by
 intro g H hp hD hc;obtain⟨_,h1,⟨s,e,h2⟩,⟨n1,n2⟩,hw,hu⟩:=hD;exact Re true Ha Hb g H hp hc.1 hc.2 s h1 e h2 n1 n2 hw (λ _=>hu)
abbrev sucT1:Tm:=.n1 .succ (.v 0)
abbrev conT:Tm:=.n2 .cons (.v 1) (.v 0)
abbrev Se:PV:=.agg ([num 1]++(Tm.n0 .zero).c++[cA [.nat]]++sucT1.c)
abbrev Te:PV:=.agg ([num 2]++(Tm.n0 .nil).c++[cA [.nat,.list]]++conT.c)
theorem rq:A 258 [] Ty.list.p:=f0 []
theorem sq:A 227 [num 16] Se:=f4 [(5,.r (Tm.n0 .zero).p),(6,.Y),(8,.r (Tm.v 0).p),(10,.r sucT1.p)] (pT .zero) UI (OH 0) (Ce .succ (.v 0))
theorem cq:A 227 [num 17] Te:=f6 [(12,.r (Tm.n0 .nil).p),(13,.Y),(14,.r Ty.list.p),(16,.r (Tm.v 1).p),(17,.r (Tm.v 0).p),(19,.r conT.p)] (pT .nil) UI rq (OH 1) (OH 0) (rT .cons (.v 1) (.v 0))
theorem Ue (k:K0) (n:Nat):TK n (.n0 k):=⟨by show 1<=4096;decide,rfl,trivial⟩
theorem xq (n:Nat):TK (n+1) sucT1:=⟨by decide,rfl,by show 0<n+1;omega⟩
theorem Aq (n:Nat):TK (n+2) conT:=⟨by decide,rfl,⟨by show 1<n+2;omega,by show 0<n+2;omega⟩⟩
theorem Bq {ls:List Fm} {f r:Fm} {t:Tm} {a b:Jt} (Ha:KI ls a) (Hb:KI ls b):KR ls (.ind false f t a b r):=by
 intro g H hp hD hc;obtain⟨_,⟨hf,hfy⟩,⟨ht,hty⟩,⟨h1,wa,hpa,hma⟩,⟨n1,n2⟩,⟨h2,wb,hpb,hmb⟩,hpt⟩:=hD;have hm:=jA;have hb:=uA;have hg:=hp.gl;have hl:=hp.hl;have hlm:EA=100000:=rfl;rw [YP] at n2;have g0:=KP g .nat (by omega) (by decide);obtain⟨g1,hF⟩:=PX hp.gs hg (s:=.nat) (by decide) hf hfy;obtain⟨_,hT⟩:=XI hp.gs hg ht hty;obtain⟨e,g2,_,q2⟩:=pX g t 1 hp.gs hT.shp (by have:=hT.cnt;omega);obtain rfl:=q2 _ hty rfl;obtain⟨z,hz,g3⟩:=AN Ha hp h1 hc.2.2.1 hF (Ue .zero g.length) hpa hma;have g4:=XP g.length (H.map NB).length 1 1 n1 (by simpa using n2);have el2:(g++[Ty.nat]).length=g.length+1:=by simp
 have hx:FK (g++[Ty.nat]).length f:=by rw [el2];exact hF
 have hp':=(hp.below1 (s:=.nat) (by decide) n1).with hx n2;have g5:=MX g H .nat (by omega) (by decide);have g6:A 230 [f.p,num 1,num 0] f.p:=by have:=IH f 1 0 (by omega) (by have:=hF.cnt;omega) (by have:=hF.mx (by omega);rw [hm];omega);rwa [NP] at this
 have g7:=AT (g++[Ty.nat]) H f;have g8:=IH f 1 1 (by omega) (by have:=hF.cnt;omega) (by have:=hF.mx (by omega);rw [hm];omega);have hn:FK ((g++[Ty.nat]).length+1) (f.sh 1 (.ofNat 1)):=by rw [el2];exact hF.sh 1 1
 obtain⟨z',hz',g9⟩:=AN Hb hp' (by rw [CT,el2,ZP 1 g.length H λ x hx=>(hp.hs x hx).2];exact h2) hc.2.2.2 hn (by rw [el2];exact xq g.length) hpb hmb;obtain⟨z1,hz1,g10⟩:=hT.a240 (by omega);obtain⟨z2,hz2,g11⟩:=xT z' 1 (by decide) hz';have g12:=oN hF hT;rw [hpt] at g12;have o1':=aF z1 z;have o2':=aF (HA .or .u32 z1 z) z2;refine⟨(hF.pt hT hpt).2.sc,_,((hz1.or hz).or hz2).mono λ v h=>or_assoc.1 h,?_⟩;exact PW 5 [(29,.r Se),(36,.r (ZA (g++[.nat]))),(38,.N 0),(48,.N 0),(63,.o [3,4] [] (.pv (sB a.f.y z 0))),(75,.N 0),(83,.r (eB (g++[Ty.nat]) H)),(89,.r f.p),(90,.r (eB (g++[Ty.nat]) (H++[(f,(g++[Ty.nat]).length)]))),(102,.r (f.sh 1 (.ofNat 1)).p),(105,.o [3,4] [] (.pv (sB b.f.y z' 0))),(115,.r (FR.ok r).p),(120,.r (u32 z1)),(123,.v (u32 (HA .or .u32 z1 z))),(129,.r (u32 z2)),(130,.v (u32 (HA .or .u32 (HA .or .u32 z1 z) z2)))] sq g0 g1 g2 g3 g4 g5 g6 g7 g8 g9 g12 g10 o1' g11 o2'
theorem Cq {ls:List Fm} {f r:Fm} {t:Tm} {a b:Jt} (Ha:KI ls a) (Hb:KI ls b):KR ls (.ind true f t a b r):=by
 intro g H hp hD hc;obtain⟨_,⟨hf,hfy⟩,⟨ht,hty⟩,⟨h1,wa,hpa,hma⟩,⟨n1,n2⟩,⟨h2,wb,hpb,hmb⟩,hpt⟩:=hD;have hm:=jA;have hb:=uA;have hg:=hp.gl;have hl:=hp.hl;have hlm:EA=100000:=rfl;rw [YP] at n2;have g0:=KP g .list (by omega) (by decide);obtain⟨g1,hF⟩:=PX hp.gs hg (s:=.list) (by decide) hf hfy;obtain⟨_,hT⟩:=XI hp.gs hg ht hty;obtain⟨e,g2,_,q2⟩:=pX g t 2 hp.gs hT.shp (by have:=hT.cnt;omega);obtain rfl:=q2 _ hty rfl;obtain⟨z,hz,g3⟩:=AN Ha hp h1 hc.2.2.1 hF (Ue .nil g.length) hpa hma;have g4:=XP g.length (H.map NB).length 2 1 n1 (by simpa using n2);have el2:(g++[Ty.nat,.list]).length=g.length+2:=by simp
 have hx:FK (g++[Ty.nat,.list]).length (f.sh 1 (.ofNat 1)):=by rw [el2];exact hF.sh 1 1
 have hp':=(hp.below2 (s:=.nat) (u:=.list) (by decide) (by decide) n1).with hx n2;have g5:=Sp g H .nat .list (by omega) (by decide) (by decide);have g6:A 230 [f.p,num 1,num 1] (f.sh 1 (.ofNat 1)).p:=IH f 1 1 (by omega) (by have:=hF.cnt;omega) (by have:=hF.mx (by omega);rw [hm];omega);have g7:=AT (g++[Ty.nat,.list]) H (f.sh 1 (.ofNat 1));have g8:=IH f 1 2 (by omega) (by have:=hF.cnt;omega) (by have:=hF.mx (by omega);rw [hm];omega);have hn:FK ((g++[Ty.nat,.list]).length+1) (f.sh 1 (.ofNat 2)):=by rw [el2];have:=hF.sh 1 2;rwa [show g.length+1+2=g.length+2+1 by omega] at this
 obtain⟨z',hz',g9⟩:=AN Hb hp' (by rw [CT,el2,ZP 2 g.length H λ x hx=>(hp.hs x hx).2];exact h2) hc.2.2.2 hn (by rw [el2];exact Aq g.length) hpb hmb;obtain⟨z1,hz1,g10⟩:=hT.a240 (by omega);obtain⟨z2,hz2,g11⟩:=xT z' 2 (by decide) hz';have g12:=oN hF hT;rw [hpt] at g12;have o1':=aF z1 z;have o2':=aF (HA .or .u32 z1 z) z2;refine⟨(hF.pt hT hpt).2.sc,_,((hz1.or hz).or hz2).mono λ v h=>or_assoc.1 h,?_⟩;exact PW 5 [(29,.r Te),(36,.r (ZA (g++[.list]))),(38,.N 0),(48,.N 0),(63,.o [3,4] [] (.pv (sB a.f.y z 0))),(75,.N 0),(83,.r (eB (g++[Ty.nat,.list]) H)),(89,.r (f.sh 1 (.ofNat 1)).p),(90,.r (eB (g++[Ty.nat,.list]) (H++[((f.sh 1 (.ofNat 1)),(g++[Ty.nat,.list]).length)]))),(102,.r (f.sh 1 (.ofNat 2)).p),(105,.o [3,4] [] (.pv (sB b.f.y z' 0))),(115,.r (FR.ok r).p),(120,.r (u32 z1)),(123,.v (u32 (HA .or .u32 z1 z))),(129,.r (u32 z2)),(130,.v (u32 (HA .or .u32 (HA .or .u32 z1 z) z2)))] cq g0 g1 g2 g3 g4 g5 g6 g7 g8 g9 g12 g10 o1' g11 o2'
theorem DC {ls:List Fm} (hl:∀ f∈ls,FK 0 f):∀ j:Jt,KI ls j
 | .leaf false i f=>ki _ Wp
 | .leaf true i f=>ki _ (Xp hl)
 | .refl t=>ki _ dq
 | .p1 .andL a f=>ki _ (Zp (DC hl a))
 | .p1 .andR a f=>ki _ (zq (DC hl a))
 | .p1 .choice a f=>ki _ (mq (DC hl a))
 | .p2 .andI a b f=>ki _ (Yp (DC hl a) (DC hl b))
 | .p2 .impE a b f=>ki _ (vq (DC hl a) (DC hl b))
 | .p2 .exE a b f=>ki _ (nq (DC hl a) (DC hl b))
 | .p2 .exUE a b f=>ki _ (pq (DC hl a) (DC hl b))
 | .impI f a=>ki _ (jq (DC hl a))
 | .all u s a=>ki _ (kq (DC hl a))
 | .ins u t a f=>ki _ (uq (DC hl a))
 | .ex u f t a=>ki _ (bq (DC hl a))
 | .ind false f t a b r=>ki _ (Bq (DC hl a) (DC hl b))
 | .ind true f t a b r=>ki _ (Cq (DC hl a) (DC hl b))
 | .subst f a b r=>ki _ (fq (DC hl a) (DC hl b))
open Go.Lg
abbrev VA (g:List Ty) (hs:List Fm):PV:=.agg [cA g,fA hs]
abbrev Ve:List PV:=[.int 0,.int 0,.nils,.nils]
abbrev Dq (hs:List Fm) (k:Nat) (c:List PV):IS:=st [(2,.loc 1 0),(3,.loc 2 0),(16,.pv (fA hs)),(17,.pv (num (hs.map Fm.c).length)),(18,.pv (num k))] [(1,bx Ve),(2,bx c)] 3 []
abbrev We (c:List PV):IS:=st [(2,.loc 1 0),(3,.loc 2 0)] [(1,bx Ve),(2,bx c)] 3 []
abbrev Fq:Kp:=⟨[2,3,16,17,18],[1,2],3,[]⟩
abbrev Gq:Kp:=⟨[2,3],[1,2],3,[]⟩
theorem Hq (g:List Ty) (hg:g.length<=16) (hgs:∀ s∈g,s.size<=64):A 85 [VA g []] (eB g []):=by
 have hb:=uA;have hm:=jA;have g0:=Fo g (by omega) (λ s h=>by have:=hgs s h;omega);have el:num (g.map Ty.c).length=num g.length:=by rw [List.length_map]
 have g1:Lp 85 0 0 (Dq [] 0 [num (g.map Ty.c).length,.int 0,ZA g,.nils]) (.exit 0) (We [num (g.map Ty.c).length,.int 0,ZA g,.nils]):=x0 [] Gq;have g2:A 85 [VA g []] (.agg [num (g.map Ty.c).length,num 0,ZA g,.slice []]):=f2 [(8,.r (ZA g)),(100004,.l Fq (.exit 0) (We [num (g.map Ty.c).length,.int 0,ZA g,.nils]))] g0 g1;rwa [el] at g2
abbrev Xe (g:List Ty):IS:=st [(3,.loc 0 0)] [(0,bx [cA g,fA []])] 1 []
abbrev Iq (g:List Ty):IS:=st [(3,.loc 0 0),(38,.pv (fA [])),(39,.pv (num 0)),(40,.pv (num 0))] [(0,bx [cA g,fA []])] 1 []
theorem Jq (w:World):Calls Tryz.prog 152 #[.int .u32 0] w λ e w'=>e = .returned (.int .i64 32)/\w'=w:=by
 go_enter Tryz.func152,Tryz.ntmps152
 go_wp2
 go_ret
 exact⟨rfl,rfl⟩
theorem Ye (n:Int):IntKind.u32.wrap n=n % 4294967296:=by simp [IntKind.wrap,IntKind.signed,IntKind.bits]
theorem Ze (a b:Nat) (ha:a<4294967296) (hb:b<4294967296:=by omega):bits .and .u32 (a:Int) (b:Int)=((a &&& b:Nat):Int):=by
 have hx:a &&& b<2 ^ 32:=Nat.and_lt_two_pow _ (by omega);have h1:(BitVec.ofInt 32 (a:Int)).toNat=a:=by
  rw [BitVec.ofInt_natCast,BitVec.toNat_ofNat];exact Nat.mod_eq_of_lt (by omega)
 have h2:(BitVec.ofInt 32 (b:Int)).toNat=b:=by
  rw [BitVec.ofInt_natCast,BitVec.toNat_ofNat];exact Nat.mod_eq_of_lt (by omega)
 show IntKind.u32.wrap ((BitVec.ofInt 32 (a:Int) &&& BitVec.ofInt 32 (b:Int)).toNat:Int)=_;rw [BitVec.toNat_and,h1,h2,Ye];omega
theorem Kq (x a:Nat) (hx:x<4294967296) (hx0:x≠0) (hlow:x &&& (4294967296-x)=a) :
  bits BinOp.and IntKind.u32 (x:Int) (-(x:Int) % 4294967296) * 125613361 % 4294967296 / 134217728=((a * 125613361 % 4294967296 / 134217728:Nat):Int):=by
 have e1 : -(x:Int) % 4294967296=((4294967296-x:Nat):Int):=by omega
 rw [e1,Ze x _ hx,hlow];omega
theorem Lq (x k idx:Nat) (w:World) (hx0:((x:Int) == 0)=false)
  (key:bits BinOp.and IntKind.u32 (x:Int) (-(x:Int) % 4294967296) * 125613361 % 4294967296 / 134217728=(idx:Int))
  (hi:idx<32) (hk:k<32) (hcell:w.cell? ⟨0,idx,none⟩=some (.int .u8 k)) :
  Calls Tryz.prog 152 #[.int .u32 x] w λ e w'=>e = .returned (.int .i64 k)/\w'=w:=by
 go_enter Tryz.func152,Tryz.ntmps152
 go_wp2_with (simp only [key])
 go_ret
 exact⟨rfl,rfl⟩
theorem zf {H:Hp} : ∀ {cs:List PV} {vs:List Value} {i:Nat} {k:IntKind} {n:Int},RepL H cs vs->cs[i]? = some (.num k n)->vs[i]? = some (.int k n)
 | [],_,_,_,_,_,h=>by simp at h
 | c::cs,[],i,k,n,r,h=>by simp only [RepL] at r
 | c::cs,v::vs,0,k,n,r,h=>by
  simp only [RepL] at r;simp only [List.getElem?_cons_zero,Option.some.injEq] at h;subst h;have:=r.1;simp only [RepP] at this;rw [this.1];rfl
 | c::cs,v::vs,i+1,k,n,r,h=>by
  simp only [RepL] at r;exact zf (i:=i) r.2 (by simpa using h)
theorem Mq:∀ i,i<32->deB[i]? = some (.num .u8 (.ofNat (Go.Lib.deBruijn32tab.getD i 0)))
 | 0,_=>rfl
 | 1,_=>rfl
 | 2,_=>rfl
 | 3,_=>rfl
 | 4,_=>rfl
 | 5,_=>rfl
 | 6,_=>rfl
 | 7,_=>rfl
 | 8,_=>rfl
 | 9,_=>rfl
 | 10,_=>rfl
 | 11,_=>rfl
 | 12,_=>rfl
 | 13,_=>rfl
 | 14,_=>rfl
 | 15,_=>rfl
 | 16,_=>rfl
 | 17,_=>rfl
 | 18,_=>rfl
 | 19,_=>rfl
 | 20,_=>rfl
 | 21,_=>rfl
 | 22,_=>rfl
 | 23,_=>rfl
 | 24,_=>rfl
 | 25,_=>rfl
 | 26,_=>rfl
 | 27,_=>rfl
 | 28,_=>rfl
 | 29,_=>rfl
 | 30,_=>rfl
 | 31,_=>rfl
 | n+32,h=>absurd h (by omega)
theorem jf (z:Int) (hz:0<=z/\z<4294967296:=by omega):∃ n:Nat,n<=32/\AC Tryz.prog gl 152 [.pv (.num .u32 z)] [] (.ret (.pv (.int (.ofNat n)))) []:=by
 obtain⟨x,rfl⟩:∃ x:Nat,z=x:=⟨z.toNat,by omega⟩;have hx:x<4294967296:=by omega
 refine⟨Go.Lib.ctz 32 x,?_,?_,?_,?_,?_⟩
 ·by_cases h0:x=0
  ·subst h0;simp [Go.Lib.ctz]
  ·exact Nat.le_of_lt (Go.Lib.lowest_bit 32 x h0 hx).2
 ·exact⟨Tryz.f152,rfl,rfl,rfl⟩
 ·intro n hn;cases hn
 ·intro m o ho;cases ho
 ·intro E w vs hB hl hr;have hv:vs=[.int .u32 (x:Int)]:=by
   cases vs with
   | nil=>cases hl
   | cons v r =>
    cases r with
    | cons _ _=>simp at hl
    | nil =>
     simp only [RepVL,RepV,RepP] at hr;rw [hr.1.1]
  subst hv;have UB:∀ (e:Ending) (w':World),e = .returned (.int .i64 (Go.Lib.ctz 32 x:Nat))/\w'=w->∃ E',iM E w [] E' w' []/\LU E' (.ret (.pv (.int (.ofNat (Go.Lib.ctz 32 x))))) e:=by
   rintro e w' ⟨rfl,rfl⟩
   refine⟨E,⟨hB.heap,λ n o h=>(by cases h),λ n m o o' h=>(by cases h),Hle.refl _,Nat.le_refl _,⟨rfl,rfl,rfl⟩,λ b _ _=>⟨λ _=>rfl,rfl⟩,λ n o b h=>(by cases h),λ n o h=>(by cases h),λ n _ _=>⟨rfl,rfl,rfl⟩⟩,_,rfl,?_⟩;simp only [RepV,RepP];rfl
  by_cases h0:x=0
  ·subst h0;exact (Jq w).mono UB
  ·obtain⟨hlow,hk⟩:=Go.Lib.lowest_bit 32 x h0 hx;obtain⟨hi,htab⟩:=Go.Lib.deBruijn32_at _ hk;have hg:RepL E.H deB (E.H 0):=hB.glob 0 deB rfl;have h1:=zf hg (Mq _ hi);rw [htab] at h1;have hne:E.H 0≠[]:=by intro e;rw [e] at h1;simp at h1
   obtain⟨c,T,fr,hc,hm,_⟩:=hB.heap 0 hne;have h2:=hm.2.1 _ _ h1 (by simp [zC]) (by intro b;cases b<;>exact nofun);refine (Lq x _ _ w (by simp;omega) (Kq x _ hx h0 hlow) hi hk ?_).mono UB;simp only [World.cell?,hc];simpa using h2
open Go.Lg
theorem vf {x:Nat} (h0:x≠0) (hx:x<4294967296):∃ y:Nat,y<x/\HA .and .u32 (x:Int) (IntKind.u32.wrap ((x:Int)-1))=(y:Int):=by
 refine⟨x &&& (x-1),?_,?_⟩
 ·have:x &&& (x-1)<=x-1:=Nat.and_le_right;omega
 ·have e:IntKind.u32.wrap ((x:Int)-1)=((x-1:Nat):Int):=by rw [Ye];omega
  rw [e];exact Ze x (x-1) hx
theorem yf (z:Int):(bif GF .u32 .u32 then rA (IntKind.u32.wrap (z-1)) else false)=true/\u32 (IntKind.u32.wrap (z-1))=u32 (IntKind.u32.wrap (z-1)):=⟨(show rA (IntKind.u32.wrap (z-1))=true from WP (KX _)),rfl⟩
theorem bf {z w:Int} {y:Nat} (h:HA .and .u32 z w=(y:Int)):(bif GF .u32 .u32 then rA (HA .and .u32 z w) else false)=true/\u32 (HA .and .u32 z w)=u32 (.ofNat y):=⟨(LX z w).1,by rw [h];rfl⟩
abbrev df:Kp:=⟨[0,3],[0],1,[]⟩
theorem lf:∀ (N x:Nat) (L:List Nat) (v:Nat),x<=N->x<4294967296->L.length+N<=8589934592 ->
  ∃ (v':Nat) (L':List Nat),Lp 87 0 0 (st [(0,.pv (u32 (.ofNat x))),(3,.arr 0 v (L.map ic).length)] [(0,.arr v 1 3 (vA (L.map ic)))] 1 []) (.exit 0) (st [(3,.arr 0 v' (L'.map ic).length)] [(0,.arr v' 1 3 (vA (L'.map ic)))] 1 [])
 | N,0,L,v,h1,h2,h3=>⟨v,L,y1 [(5,.H)] ⟨[3],[0],1,[]⟩ (tB 0) (MC (L.map ic))⟩
 | 0,x+1,L,v,h1,h2,h3=>absurd h1 (by omega)
 | N+1,x+1,L,v,h1,h2,h3=>by
  obtain⟨y,hy,ey⟩:=vf (x:=x+1) (by omega) h2;obtain⟨n,hn,g1⟩:=jf (x+1:Nat);obtain⟨v',L',ih⟩:=lf N y (L++[n]) (v+1) (by omega) (by omega) (by simp;omega);have g5:=PL (A:=L.map ic) (v:=v) (ty:=3) (m:=8) (c:=ic n) (show 0<1 by decide) rfl rfl (by simp only [List.length_map,maxLen];omega) (by simp;omega);have e1:(L++[n]).map ic=L.map ic++[ic n]:=by simp
  rw [e1,LI,show (L.map ic++[ic n]).length=(L.map ic).length+1 by simp] at ih;exact⟨v',L',n7 [(5,.G),(12,.N n),(14,.ok),(8,.v (u32 (IntKind.u32.wrap (.ofNat (x+1)-1)))),(9,.v (u32 (.ofNat y)))] df (BC (m:=x+1) (n:=0)) g1 g5 (yf (.ofNat (x+1))) (bf ey) (rF (L.map ic) (ic n)) ih⟩
theorem Nq (z:Int) (hz:Me z):∃ L:List Nat,A 87 [u32 z] (bA L):=by
 obtain⟨x,rfl⟩:∃ x:Nat,z = .ofNat x:=⟨z.toNat,by have:=hz.1;simp;omega⟩;have hx:x<4294967296:=by have:=hz.2;simp at this;omega
 cases x with
 | zero=>exact⟨[],f0 []⟩
 | succ x =>
  obtain⟨y,hy,ey⟩:=vf (x:=x+1) (by omega) hx;obtain⟨n,hn,g1⟩:=jf (x+1:Nat);obtain⟨v,L,h⟩:=lf 4294967296 y [n] 1 (by omega) (by omega) (by simp);have h2:=LoopIs.fz (by simp) h 0 (ver:=v) (sz:=1) (ty:=3) (ps:=L.map ic) rfl (by kernel_rfl);simp (decide:=true) only [uE,CD,rC,pD,and_self,↓reduceIte,List.take_of_length_le (Nat.le_refl (L.map ic).length)] at h2;have h3:Lp 87 0 0 (st [(0,.pv (u32 (.ofNat (x+1)))),(3,.pv .nils)] [] 0 []) (.exit 0) (st [(3,.pv (bA L))] [] 1 []) :=
   n6 [(5,.G),(12,.N n),(8,.v (u32 (IntKind.u32.wrap (.ofNat (x+1)-1)))),(9,.v (u32 (.ofNat y)))] df (BC (m:=x+1) (n:=0)) g1 (yf (.ofNat (x+1))) (bf ey) (rF [] (ic n)) h2
  exact⟨L,f1 [(100002,.l ⟨[0,3],[],0,[]⟩ (.exit 0) (st [(3,.pv (bA L))] [] 1 []))] h3⟩
theorem cF:∀ a b:Fm,a.mt b->a.er=b.er
 | .eq _ _,.eq _ _,_=>rfl
 | .bin _ f g,.bin _ f' g',⟨h1,h2,h3⟩=>by subst h1;simp only [Fm.er,cF f f' h2,cF g g' h3]
 | .q _ _ f,.q _ _ g,⟨h1,h2,h3⟩=>by subst h1;subst h2;simp only [Fm.er,cF f g h3]
 | .eq _ _,.bin _ _ _,h=>h.elim
 | .eq _ _,.q _ _ _,h=>h.elim
 | .bin _ _ _,.eq _ _,h=>h.elim
 | .bin _ _ _,.q _ _ _,h=>h.elim
 | .q _ _ _,.eq _ _,h=>h.elim
 | .q _ _ _,.bin _ _ _,h=>h.elim
theorem BN {g:List Ty} {f:Fm} (hg:∀ s∈g,s.size<=64) (hl:g.length<=17) (h:f.chk=0) (ht:f.ty g):FK g.length f:=by
 have hm:=jA;obtain⟨e,_,q1,q2⟩:=YJ f g hg (Fm.chk0 h).2 (by have:=(Fm.chk0 h).1;omega);exact⟨(Fm.chk0 h).1,(Fm.chk0 h).2,q1 (q2 ht)⟩
theorem XL {n:Nat} {f:Fm} (h:f.chk=0) (hs:f.sc n):FK n f:=⟨(Fm.chk0 h).1,(Fm.chk0 h).2,hs⟩
theorem CN {g:List Ty} {s:Ty} (hg:∀ s∈g,s.size<=64) (hs:s.size<=64):∀ x∈g++[s],x.size<=64:=λ x hx=>by
 rcases List.mem_append.1 hx with hx|hx
 ·exact hg x hx
 ·simp at hx;subst hx;exact hs
theorem qQ {n:Nat} {hs:List Fm} (h:∀ f∈hs,FK n f) (k:Nat):∀ f∈lA k hs,FK (n+k) f:=λ f hf=>by
 obtain⟨x,hx,rfl⟩:=List.mem_map.1 hf;exact (h x hx).sh 0 k
theorem zQ {n:Nat} {hs:List Fm} {x:Fm} (h:∀ f∈hs,FK n f) (hx:FK n x):∀ f∈hs++[x],FK n f:=λ f hf=>by
 rcases List.mem_append.1 hf with hf|hf
 ·exact h f hf
 ·simp at hf;subst hf;exact hx
theorem aD {ls:List Fm} (hl:∀ f∈ls,FK 0 f):∀ (j:Jt) (g:List Ty) (hs:List Fm),j.D ls g hs->(∀ s∈g,s.size<=64)->g.length<=16->(∀ f∈hs,FK g.length f)->j.p.ck->j.OK ls g.length hs/\FK g.length j.f
 | .leaf u i f,g,hs,hD,hg,h16,hh,hc=>by
  have hf:FK g.length f:=by
   cases u
   ·exact hh f (List.mem_of_getElem? hD.2.2)
   ·exact (hl f (List.mem_of_getElem? hD.2)).up (Nat.zero_le _)
  exact⟨⟨hf,by cases u<;>exact hD.2⟩,hf⟩
 | .refl t,g,hs,⟨h0,h1,h2⟩,hg,h16,hh,hc=>by
  obtain⟨_,hT⟩:=XI hg h16 h1 h2;have hf:FK g.length (.eq t t):=XL h0 ⟨hT.sc,hT.sc⟩;exact⟨⟨hT,hf⟩,hf⟩
 | .p1 k a f,g,hs,⟨h0,h1,h2⟩,hg,h16,hh,hc=>by
  obtain⟨o1,fa⟩:=aD hl a g hs h1 hg h16 hh hc;cases k
  ·obtain⟨y,e⟩:=h2;rw [e] at fa;exact⟨⟨fa.bin1,o1,y,e⟩,fa.bin1⟩
  ·obtain⟨y,e⟩:=h2;rw [e] at fa;exact⟨⟨fa.bin2,o1,y,e⟩,fa.bin2⟩
  ·obtain⟨s,u,x,e,hsz,y,hpt,rfl⟩:=h2;rw [e] at fa;have hv:=(FK.pt (n:=g.length+2) (fa.qf.qf.sh 2 1) (QX g.length) hpt).2;have hf:FK g.length (.q .ex (.two true s u) (.q .all s y)):=XL h0 hv.sc;exact⟨⟨hf,o1,s,u,x,e,y,hpt,rfl⟩,hf⟩
 | .p2 k a b f,g,hs,⟨h0,h1,h2⟩,hg,h16,hh,hc=>by
  obtain⟨o1,fa⟩:=aD hl a g hs h1 hg h16 hh hc.1;have el:∀ s:Ty,(g++[s]).length=g.length+1:=λ s=>by simp
  cases k
  ·obtain⟨h3,rfl⟩:=h2;obtain⟨o2,fb⟩:=aD hl b g hs h3 hg h16 hh hc.2;have hf:FK g.length (.bin .and a.f b.f):=XL h0 ⟨fa.sc,fb.sc⟩;exact⟨⟨hf,o1,o2,rfl⟩,hf⟩
  ·obtain⟨h3,x,e,_⟩:=h2;obtain⟨o2,fb⟩:=aD hl b g hs h3 hg h16 hh hc.2;rw [e] at fa;exact⟨⟨fa.bin2,o1,o2,x,e⟩,fa.bin2⟩
  ·obtain⟨⟨s,e,h3⟩,⟨n1,_⟩,hw⟩:=h2;generalize hx:a.f.bd=x at *
   rw [e] at fa;obtain⟨o2,fb⟩:=aD hl b (g++[s]) _ h3 (CN hg fa.qs) (by rw [el];exact n1) (by rw [el];exact zQ (qQ hh 1) fa.qf) hc.2;rw [el] at o2 fb;have hf:FK g.length f:=XL h0 (OX fb (by omega) hw).1;exact⟨⟨hf,o1,by rw [hx];exact o2,⟨s,by rw [hx];exact e⟩,hw⟩,hf⟩
  ·obtain⟨⟨s,e,h3⟩,⟨n1,_⟩,hw,_⟩:=h2;generalize hx:a.f.bd=x at *
   rw [e] at fa;obtain⟨o2,fb⟩:=aD hl b (g++[s]) _ h3 (CN hg fa.qs) (by rw [el];exact n1) (by rw [el];exact zQ (qQ hh 1) fa.qf) hc.2;rw [el] at o2 fb;have hf:FK g.length f:=XL h0 (OX fb (by omega) hw).1;exact⟨⟨hf,o1,by rw [hx];exact o2,⟨s,by rw [hx];exact e⟩,hw⟩,hf⟩
 | .impI x a,g,hs,⟨h0,⟨h1,h2⟩,_,h3⟩,hg,h16,hh,hc=>by
  have fx:=BN hg (by omega) h1 h2;obtain⟨o1,fa⟩:=aD hl a g _ h3 hg h16 (zQ hh fx) hc.2;have hf:FK g.length (.bin .imp x a.f):=XL h0 ⟨fx.sc,fa.sc⟩;exact⟨⟨fx,hf,o1⟩,hf⟩
 | .all u s a,g,hs,⟨h0,n1,h1,_⟩,hg,h16,hh,hc=>by
  have el:(g++[s]).length=g.length+1:=by simp
  obtain⟨o1,fa⟩:=aD hl a (g++[s]) _ h1 (CN hg hc.1) (by rw [el];exact n1) (by rw [el];exact qQ hh 1) hc.2;rw [el] at o1 fa;have hf:FK g.length (.q (aq u) s a.f):=XL h0 fa.sc;exact⟨⟨hc.1,hf,o1⟩,hf⟩
 | .ins u t a f,g,hs,⟨h0,h1,h2,s,x,hty,e,hpt⟩,hg,h16,hh,hc=>by
  obtain⟨o1,fa⟩:=aD hl a g hs h2 hg h16 hh hc.2;obtain⟨_,hT⟩:=XI hg h16 h1 hty;rw [e] at fa;have hf:=(fa.qf.pt hT hpt).2;exact⟨⟨hf,hT,o1,s,x,e,hpt⟩,hf⟩
 | .ex u x t a,g,hs,⟨⟨h0,h0'⟩,h1,h2,s,y,w,hty,e,hpt,hmt⟩,hg,h16,hh,hc=>by
  obtain⟨o1,fa⟩:=aD hl a g hs h2 hg h16 hh hc.2.2;obtain⟨_,hT⟩:=XI hg h16 h1 hty;have hf:=BN hg (by omega) h0 h0';subst e;exact⟨⟨hf,hT,o1,⟨s,rfl⟩,by rw [<- cF _ _ hmt,NC hpt];rfl⟩,hf⟩
 | .ind l x t a b f,g,hs,⟨h0,⟨h1,h2⟩,⟨h3,h4⟩,⟨h5,wa,hpa,hma⟩,⟨n1,_⟩,⟨h6,wb,hpb,hmb⟩,hpt⟩,hg,h16,hh,hc=>by
  obtain⟨o1,fa⟩:=aD hl a g hs h5 hg h16 hh hc.2.2.1;obtain⟨_,hT⟩:=XI hg h16 h3 h4;have fx:FK (g.length+1) x:=by
   have:=BN (g:=g++[lT l]) (CN hg (by cases l<;>decide)) (by simp;omega) h1 h2;simpa using this
  have hf:=(fx.pt hT hpt).2;refine⟨⟨hf,fx,hT,o1,hpt,⟨by rw [<- cF _ _ hma,NC hpa],by rw [<- cF _ _ hmb,NC hpb,QG]⟩,?_⟩,hf⟩;cases l
  ·have el:(g++lG false).length=g.length+1:=by simp [lG]
   have:=(aD hl b (g++lG false) _ h6 (CN hg (by decide)) (by rw [el];exact n1) (by rw [el];exact zQ (qQ hh 1) fx) hc.2.2.2).1;rw [el] at this;exact this
  ·have el:(g++lG true).length=g.length+2:=by simp [lG]
   have:=(aD hl b (g++lG true) _ h6 (λ s hs=>by
    rcases List.mem_append.1 hs with h|h
    ·exact hg s h
    ·simp [lG] at h;rcases h with rfl|rfl<;>decide) (by rw [el];exact n1) (by rw [el];exact zQ (qQ hh 2) (fx.sh 1 1)) hc.2.2.2).1
   rw [el] at this;exact this
 | .subst x a b f,g,hs,⟨h0,⟨h1,h2⟩,h3,h4,t,u,w,e,hpt,hmt,hpu⟩,hg,h16,hh,hc=>by
  obtain⟨o1,fa⟩:=aD hl a g hs h3 hg h16 hh hc.2.1;obtain⟨o2,fb⟩:=aD hl b g hs h4 hg h16 hh hc.2.2;have fx:FK (g.length+1) x:=by
   have:=BN (g:=g++[.nat]) (CN hg (by decide)) (by simp;omega) h1 h2;simpa using this
  rw [e] at fa;have hf:=(fx.pt fa.eq2 hpu).2;exact⟨⟨hf,fx,o1,o2,by rw [<- cF _ _ hmt,NC hpt],t,u,e,hpu⟩,hf⟩
def Jt.pts:List Fm->Jt->List (List PV)
 | _,.leaf _ _ _=>[]
 | _,.refl _=>[]
 | hs,.p1 _ a _=>[[.ptr [num a.p.kd,num a.p.ix,num a.p.tk,.slice a.p.te,.slice a.p.ts,.slice a.p.fs,.slice a.p.es,num a.f.kd,num a.f.tk,.slice a.f.te,.slice a.f.ts,.slice a.f.es,fA hs,.bool a.f.has,.slice (a.pts hs)]]]
 | hs,.p2 k a b _=>match k with
  | .andI=>[[.ptr [num a.p.kd,num a.p.ix,num a.p.tk,.slice a.p.te,.slice a.p.ts,.slice a.p.fs,.slice a.p.es,num a.f.kd,num a.f.tk,.slice a.f.te,.slice a.f.ts,.slice a.f.es,fA hs,.bool a.f.has,.slice (a.pts hs)]],[.ptr [num b.p.kd,num b.p.ix,num b.p.tk,.slice b.p.te,.slice b.p.ts,.slice b.p.fs,.slice b.p.es,num b.f.kd,num b.f.tk,.slice b.f.te,.slice b.f.ts,.slice b.f.es,fA hs,.bool b.f.has,.slice (b.pts hs)]]]
  | .impE=>[[.ptr [num a.p.kd,num a.p.ix,num a.p.tk,.slice a.p.te,.slice a.p.ts,.slice a.p.fs,.slice a.p.es,num a.f.kd,num a.f.tk,.slice a.f.te,.slice a.f.ts,.slice a.f.es,fA hs,.bool a.f.has,.slice (a.pts hs)]],[.ptr [num b.p.kd,num b.p.ix,num b.p.tk,.slice b.p.te,.slice b.p.ts,.slice b.p.fs,.slice b.p.es,num b.f.kd,num b.f.tk,.slice b.f.te,.slice b.f.ts,.slice b.f.es,fA hs,.bool b.f.has,.slice (b.pts hs)]]]
  | .exE=>[[.ptr [num a.p.kd,num a.p.ix,num a.p.tk,.slice a.p.te,.slice a.p.ts,.slice a.p.fs,.slice a.p.es,num a.f.kd,num a.f.tk,.slice a.f.te,.slice a.f.ts,.slice a.f.es,fA hs,.bool a.f.has,.slice (a.pts hs)]],[.ptr [num b.p.kd,num b.p.ix,num b.p.tk,.slice b.p.te,.slice b.p.ts,.slice b.p.fs,.slice b.p.es,num b.f.kd,num b.f.tk,.slice b.f.te,.slice b.f.ts,.slice b.f.es,fA (lA 1 hs++[a.f.bd]),.bool b.f.has,.slice (b.pts (lA 1 hs++[a.f.bd]))]]]
  | .exUE=>[[.ptr [num a.p.kd,num a.p.ix,num a.p.tk,.slice a.p.te,.slice a.p.ts,.slice a.p.fs,.slice a.p.es,num a.f.kd,num a.f.tk,.slice a.f.te,.slice a.f.ts,.slice a.f.es,fA hs,.bool a.f.has,.slice (a.pts hs)]],[.ptr [num b.p.kd,num b.p.ix,num b.p.tk,.slice b.p.te,.slice b.p.ts,.slice b.p.fs,.slice b.p.es,num b.f.kd,num b.f.tk,.slice b.f.te,.slice b.f.ts,.slice b.f.es,fA (lA 1 hs++[a.f.bd]),.bool b.f.has,.slice (b.pts (lA 1 hs++[a.f.bd]))]]]
 | hs,.impI x a=>[[.ptr [num a.p.kd,num a.p.ix,num a.p.tk,.slice a.p.te,.slice a.p.ts,.slice a.p.fs,.slice a.p.es,num a.f.kd,num a.f.tk,.slice a.f.te,.slice a.f.ts,.slice a.f.es,fA (hs++[x]),.bool a.f.has,.slice (a.pts (hs++[x]))]]]
 | hs,.all _ _ a=>[[.ptr [num a.p.kd,num a.p.ix,num a.p.tk,.slice a.p.te,.slice a.p.ts,.slice a.p.fs,.slice a.p.es,num a.f.kd,num a.f.tk,.slice a.f.te,.slice a.f.ts,.slice a.f.es,fA (lA 1 hs),.bool a.f.has,.slice (a.pts (lA 1 hs))]]]
 | hs,.ins _ _ a _=>[[.ptr [num a.p.kd,num a.p.ix,num a.p.tk,.slice a.p.te,.slice a.p.ts,.slice a.p.fs,.slice a.p.es,num a.f.kd,num a.f.tk,.slice a.f.te,.slice a.f.ts,.slice a.f.es,fA hs,.bool a.f.has,.slice (a.pts hs)]]]
 | hs,.ex _ _ _ a=>[[.ptr [num a.p.kd,num a.p.ix,num a.p.tk,.slice a.p.te,.slice a.p.ts,.slice a.p.fs,.slice a.p.es,num a.f.kd,num a.f.tk,.slice a.f.te,.slice a.f.ts,.slice a.f.es,fA hs,.bool a.f.has,.slice (a.pts hs)]]]
 | hs,.ind l x _ a b _=>[[.ptr [num a.p.kd,num a.p.ix,num a.p.tk,.slice a.p.te,.slice a.p.ts,.slice a.p.fs,.slice a.p.es,num a.f.kd,num a.f.tk,.slice a.f.te,.slice a.f.ts,.slice a.f.es,fA hs,.bool a.f.has,.slice (a.pts hs)]],[.ptr [num b.p.kd,num b.p.ix,num b.p.tk,.slice b.p.te,.slice b.p.ts,.slice b.p.fs,.slice b.p.es,num b.f.kd,num b.f.tk,.slice b.f.te,.slice b.f.ts,.slice b.f.es,fA (IP hs x l),.bool b.f.has,.slice (b.pts (IP hs x l))]]]
 | hs,.subst _ a b _=>[[.ptr [num a.p.kd,num a.p.ix,num a.p.tk,.slice a.p.te,.slice a.p.ts,.slice a.p.fs,.slice a.p.es,num a.f.kd,num a.f.tk,.slice a.f.te,.slice a.f.ts,.slice a.f.es,fA hs,.bool a.f.has,.slice (a.pts hs)]],[.ptr [num b.p.kd,num b.p.ix,num b.p.tk,.slice b.p.te,.slice b.p.ts,.slice b.p.fs,.slice b.p.es,num b.f.kd,num b.f.tk,.slice b.f.te,.slice b.f.ts,.slice b.f.es,fA hs,.bool b.f.has,.slice (b.pts hs)]]]
abbrev Jt.ptr (hs:List Fm) (a:Jt):PV:=.ptr [num a.p.kd,num a.p.ix,num a.p.tk,.slice a.p.te,.slice a.p.ts,.slice a.p.fs,.slice a.p.es,num a.f.kd,num a.f.tk,.slice a.f.te,.slice a.f.ts,.slice a.f.es,fA hs,.bool a.f.has,.slice (a.pts hs)]
abbrev Oq (ls hs:List Fm) (j:Jt):Prop:=A 36 [fA ls,fA hs,j.p.p] (j.ptr hs)
open Go.Lg
theorem jQ (hs:List Fm) (f:Fm) (h:hs.length<=qA:=by omega):A 154 [fA hs,f.p] (fA (hs++[f])):=by
 have hm:=jA;have g1:=CE (hs.map Fm.c).length;have g2:=mE 5 88 Fm.c_len (by decide) hs f (by omega) (by simp only [maxLen];omega);rw [show fA (hs++[f]) = .slice (hs.map Fm.c++[f.c]) by simp [fA]];exact f2 [(10,.ok),(13,.ok)] g1 g2
abbrev mf (hs:List Fm) (n k:Nat) (x:V):List (Nat × V):=[(1,.pv (num n)),(5,x),(10,.pv (fA hs)),(11,.pv (num (hs.map Fm.c).length)),(12,.pv (num k))]
abbrev sf:Kp:=⟨[1,5,10,11,12],[2],3,[]⟩
theorem tf {hs:List Fm} (n:Nat) (hl:hs.length<=qA) (H:∀ f∈hs,A 238 [f.p,num 0,num n] (FR.ok (f.sh 0 (.ofNat n))).p):∀ (r:List Fm) (k v:Nat) (A:List (List PV)),hs.drop k=r->A.length=k ->
  ∃ v',Lp 155 0 0 (st (mf hs n k (.arr 2 v A.length)) [(2,.arr v 5 37 (vA A))] 3 []) (.exit 0) (st [(5,.arr 2 v' (A.length+r.length))] [(2,.arr v' 5 37 (vA (A++r.map λ f=>(f.sh 0 (.ofNat n)).c)))] 3 [])
 | [],k,v,A,h,hA=>by
  have e:kA (.ofNat k) (.ofNat (hs.map Fm.c).length)=false:=CA (by simpa using TC h);simp only [List.map_nil,List.append_nil,List.length_nil,Nat.add_zero];exact⟨v,y1 [(13,.H)] ⟨[5],[2],3,[]⟩ e (MC A)⟩
 | f::r,k,v,A,h,hA=>by
  have hm:=jA;obtain⟨d1,d2,d3⟩:=SC h;have e:kA (.ofNat k) (.ofNat (hs.map Fm.c).length)=true:=aA (by simpa using d2);have g3:=eA (show k+1<=_ by omega);have g5:=PL (A:=A) (v:=v) (ty:=37) (m:=88) (c:=(f.sh 0 (.ofNat n)).c) (show 0<5 by decide) rfl rfl (by simp only [maxLen];omega);obtain⟨v',ih⟩:=tf n hl H r (k+1) (v+1) (A++[(f.sh 0 (.ofNat n)).c]) d3 (by simp [hA]);rw [LI,show (A++[(f.sh 0 (.ofNat n)).c]).length=A.length+1 by simp,show A.length+1+r.length=A.length+(f::r).length by simp;omega,List.append_assoc] at ih;exact⟨v',n7 [(13,.G),(14,.i f.c),(19,.r (FR.ok (f.sh 0 (.ofNat n))).p),(25,.ok),(26,.ok)] sf e (KA d1 Fm.c_len) (H f (List.mem_of_getElem? d1)) g5 g3 (rF A (f.sh 0 (.ofNat n)).c) ih⟩
theorem af (hs:List Fm) (n:Nat) (hl:hs.length<=qA) (H:∀ f∈hs,A 238 [f.p,num 0,num n] (FR.ok (f.sh 0 (.ofNat n))).p):A 155 [fA hs,num n] (fA (lA n hs)):=by
 cases hs with
 | nil=>exact f0 []
 | cons f r =>
  have e:kA (.ofNat 0) (.ofNat ((f::r).map Fm.c).length)=true:=aA (by simp);obtain⟨v,h⟩:=tf n hl H r 1 1 [(f.sh 0 (.ofNat n)).c] rfl rfl;have em:(f.sh 0 (.ofNat n)).c::r.map (λ f=>(f.sh 0 (.ofNat n)).c)=(lA n (f::r)).map Fm.c:=by simp [Function.comp_def]
  have h2:=LoopIs.fz (by simp) h 2 (ver:=v) (sz:=5) (ty:=37) (ps:=(f.sh 0 (.ofNat n)).c::r.map (λ f=>(f.sh 0 (.ofNat n)).c)) rfl (by kernel_rfl);simp (decide:=true) only [uE,CD,rC,pD,and_self,↓reduceIte,List.take_of_length_le (show ((f.sh 0 (.ofNat n)).c::r.map (λ f=>(f.sh 0 (.ofNat n)).c)).length<=[(f.sh 0 (.ofNat n)).c].length+r.length by simp;omega)] at h2;rw [em] at h2;have h3:Lp 155 0 0 (st (mf (f::r) n 0 (.pv .nils)) [] 0 []) (.exit 0) (st [(5,.pv (fA (lA n (f::r))))] [] 3 []) :=
   n6 [(13,.G),(14,.i f.c),(19,.r (FR.ok (f.sh 0 (.ofNat n))).p),(26,.ok)] sf e (KA (g:=f::r) (k:=0) rfl Fm.c_len) (H f (by simp)) (eA (show 0+1<=_ by omega)) (rF [] (f.sh 0 (.ofNat n)).c) h2
  exact f1 [(100003,.l ⟨[1,5,10,11,12],[],0,[]⟩ (.exit 0) (st [(5,.pv (fA (lA n (f::r))))] [] 3 []))] h3
theorem vQ {n:Nat} {hs:List Fm} (hl:hs.length<=qA) (h:∀ f∈hs,FK n f) (hn:n<=EA:=by omega):A 155 [fA hs,num 1] (fA (lA 1 hs)):=af hs 1 hl λ f hf=>yp (h f hf) hn
theorem Pq {n:Nat} {hs:List Fm} (hl:hs.length<=qA) (h:∀ f∈hs,FK n f) (hn:n<=EA:=by omega):A 155 [fA hs,num 2] (fA (lA 2 hs)):=af hs 2 hl λ f hf=>bp (h f hf) hn
theorem DT {n:Nat} {f g:Fm} {t:Tm} (h:FK (n+1) f) (ht:TK n t) (hn:n+1<=EA) (e:f.pt t = .ok g):A 156 [f.p,t.p] g.p:=by
 have g1:=vp h ht hn;rw [e] at g1;exact f1 [(10,.r (FR.ok g).p)] g1
theorem ET:∀ (f:Fm) (n:Nat),FK n f->n+f.cnt<=EA->∀ g,VB f=some g->A 241 [f.p] g.p
 | .eq a b,n,h,hn,g,e=>by
  simp only [Fm.cnt] at hn;have g1:=(UL h.eq1).1;have g2:=(UL h.eq2).1;unfold VB at e;split at e
  ·rename_i x j e1;split at e
   ·rename_i y l e2;cases e;rw [e1] at g1;rw [e2] at g2;exact f2 [(23,.r (NF.ok x j).p),(23,.r (NF.ok y l).p)] g1 g2
   ·cases e
  ·cases e
 | .bin k a b,n,h,hn,g,e=>by
  simp only [Fm.cnt] at hn;unfold VB at e;split at e
  ·rename_i x e1;split at e
   ·rename_i y e2;cases e;have g1:=ET a n h.bin1 (by omega) x e1;have g2:=ET b n h.bin2 (by omega) y e2;cases k<;>exact f2 [(44,.r x.p),(44,.r y.p)] g1 g2
   ·cases e
  ·cases e
 | .q k s a,n,h,hn,g,e=>by
  simp only [Fm.cnt] at hn;unfold VB at e;split at e
  ·rename_i x e1;cases e;have g1:=ET a (n+1) h.qf (by omega) x e1;cases k<;>exact f1 [(44,.r x.p)] g1
  ·cases e
theorem cf {n:Nat} {f g:Fm} (h:FK (n+1) f) (hg:FK n g) (hn:n+1<=90000) (e:VC f=some g):A 157 [f.p] g.p:=by
 have hl:EA=100000:=rfl;have c:=h.cnt;have g1:=Ae h;unfold VC at e;split at e
 ·rename_i h0;cases e;rw [if_pos h0] at g1;exact f1 [(9,.r (FR.ok f.low).p)] g1
 ·rename_i h0;rw [if_neg h0] at g1;split at e
  ·rename_i y e1;split at e
   ·rename_i h1;cases e;obtain⟨k1,k2,k3⟩:=xN f (n+1) h (by omega) y e1;have hy:FK (n+1) y:=⟨by have:=hg.cnt;rwa [JX h1] at this,k2,k1⟩;have g2:=ET f (n+1) h (by omega) y e1;have g3:=Ae hy;rw [if_pos h1] at g3;exact f3 [(9,.r (FR.er 5).p),(17,.r y.p),(18,.r (FR.ok y.low).p)] g1 g2 g3
   ·cases e
  ·cases e
abbrev MA (p:Pf) (f:Fm) (hs:List Fm) (pts:List (List PV)):PV:=.ptr [num p.kd,num p.ix,num p.tk,.slice p.te,.slice p.ts,.slice p.fs,.slice p.es,num f.kd,num f.tk,.slice f.te,.slice f.ts,.slice f.es,fA hs,.bool f.has,.slice pts]
abbrev Jt.pf (a:Jt) (hs:List Fm) (F:Fm):PV:=MA a.p F hs (a.pts hs)
abbrev gD (f:Fm):Prop:=A 38 [f.p] (.tuple [.bool f.has,num 0])
abbrev cC (ls hs:List Fm) (a:Jt) (F:Fm):Prop:=A 36 [fA ls,fA hs,a.p.p] (a.pf hs F)
theorem Qq {ls hs:List Fm} {a:Jt} {f y:Fm} (ha:cC ls hs a (.bin .and f y)) (hc:gD f):A 36 [fA ls,fA hs,(Pf.p1 .andL a.p).p] (MA (Pf.p1 .andL a.p) f hs [[a.pf hs (.bin .and f y)]]):=by
 exact f3 [(17,.n [(53,.n [(23,.r (a.pf hs (.bin .and f y)))])]),(26,.U [.bool f.has,num 0]),(300003,.f 7 [[a.pf hs (.bin .and f y)]]),(300004,.fb 1 none)] ha hc (rfl:vA [[a.pf hs (.bin .and f y)]]=vA [[a.pf hs (.bin .and f y)]])
theorem Rq {ls hs:List Fm} {a:Jt} {f y:Fm} (ha:cC ls hs a (.bin .and y f)) (hc:gD f):A 36 [fA ls,fA hs,(Pf.p1 .andR a.p).p] (MA (Pf.p1 .andR a.p) f hs [[a.pf hs (.bin .and y f)]]):=by
 exact f3 [(17,.n [(62,.n [(23,.r (a.pf hs (.bin .and y f)))])]),(26,.U [.bool f.has,num 0]),(300003,.f 7 [[a.pf hs (.bin .and y f)]]),(300004,.fb 1 none)] ha hc (rfl:vA [[a.pf hs (.bin .and y f)]]=vA [[a.pf hs (.bin .and y f)]])
theorem Sq {ls hs:List Fm} {a b:Jt} {x y:Fm} (ha:cC ls hs a x) (hb:cC ls hs b y) (hc:gD (Fm.bin .and x y)):A 36 [fA ls,fA hs,(Pf.p2 .andI a.p b.p).p] (MA (Pf.p2 .andI a.p b.p) (Fm.bin .and x y) hs [[a.pf hs x],[b.pf hs y]]):=by
 exact f4 [(17,.n [(40,.n [(23,.r (a.pf hs x))]),(45,.n [(23,.r (b.pf hs y))])]),(26,.U [.bool (Fm.bin .and x y).has,num 0]),(300003,.f 7 [[a.pf hs x],[b.pf hs y]]),(300004,.fb 1 none)] ha hb hc (rfl:vA [[a.pf hs x],[b.pf hs y]]=vA [[a.pf hs x],[b.pf hs y]])
theorem Tq {ls hs:List Fm} {a b:Jt} {x y f:Fm} (ha:cC ls hs a (.bin .imp x f)) (hb:cC ls hs b y) (hc:gD f):A 36 [fA ls,fA hs,(Pf.p2 .impE a.p b.p).p] (MA (Pf.p2 .impE a.p b.p) f hs [[a.pf hs (.bin .imp x f)],[b.pf hs y]]):=by
 exact f4 [(17,.n [(88,.n [(23,.r (a.pf hs (.bin .imp x f)))]),(92,.n [(23,.r (b.pf hs y))])]),(26,.U [.bool f.has,num 0]),(300003,.f 7 [[a.pf hs (.bin .imp x f)],[b.pf hs y]]),(300004,.fb 1 none)] ha hb hc (rfl:vA [[a.pf hs (.bin .imp x f)],[b.pf hs y]]=vA [[a.pf hs (.bin .imp x f)],[b.pf hs y]])
theorem Uq {ls hs:List Fm} {a:Jt} {x y:Fm} (hw:A 154 [fA hs,x.p] (fA (hs++[x]))) (ha:cC ls (hs++[x]) a y) (hc:gD (Fm.bin .imp x y)):A 36 [fA ls,fA hs,(Pf.impI x a.p).p] (MA (Pf.impI x a.p) (Fm.bin .imp x y) hs [[a.pf (hs++[x]) y]]):=by
 exact f4 [(17,.n [(79,.r (fA (hs++[x]))),(80,.n [(23,.r (a.pf (hs++[x]) y))])]),(26,.U [.bool (Fm.bin .imp x y).has,num 0]),(300003,.f 7 [[a.pf (hs++[x]) y]]),(300004,.fb 1 none)] hw ha hc (rfl:vA [[a.pf (hs++[x]) y]]=vA [[a.pf (hs++[x]) y]])
theorem Vq {ls hs:List Fm} {s:Ty} {a:Jt} {y:Fm} (hw:A 155 [fA hs,num 1] (fA (lA 1 hs))) (ha:cC ls (lA 1 hs) a y) (hc:gD (Fm.q .all s y)):A 36 [fA ls,fA hs,(Pf.all false s a.p).p] (MA (Pf.all false s a.p) (Fm.q .all s y) hs [[a.pf (lA 1 hs) y]]):=by
 exact f4 [(17,.n [(104,.r (fA (lA 1 hs))),(105,.n [(23,.r (a.pf (lA 1 hs) y))])]),(26,.U [.bool (Fm.q .all s y).has,num 0]),(300003,.f 7 [[a.pf (lA 1 hs) y]]),(300004,.fb 1 none)] hw ha hc (rfl:vA [[a.pf (lA 1 hs) y]]=vA [[a.pf (lA 1 hs) y]])
theorem Wq {ls hs:List Fm} {s:Ty} {a:Jt} {y:Fm} (hw:A 155 [fA hs,num 1] (fA (lA 1 hs))) (ha:cC ls (lA 1 hs) a y) (hc:gD (Fm.q .allU s y)):A 36 [fA ls,fA hs,(Pf.all true s a.p).p] (MA (Pf.all true s a.p) (Fm.q .allU s y) hs [[a.pf (lA 1 hs) y]]):=by
 exact f4 [(17,.n [(115,.r (fA (lA 1 hs))),(116,.n [(23,.r (a.pf (lA 1 hs) y))])]),(26,.U [.bool (Fm.q .allU s y).has,num 0]),(300003,.f 7 [[a.pf (lA 1 hs) y]]),(300004,.fb 1 none)] hw ha hc (rfl:vA [[a.pf (lA 1 hs) y]]=vA [[a.pf (lA 1 hs) y]])
theorem Xq {ls hs:List Fm} {t:Tm} {s:Ty} {a:Jt} {x f:Fm} (ha:cC ls hs a (.q .all s x)) (hp:A 156 [x.p,t.p] f.p) (hc:gD f):A 36 [fA ls,fA hs,(Pf.ins false t a.p).p] (MA (Pf.ins false t a.p) f hs [[a.pf hs (.q .all s x)]]):=by
 exact f4 [(17,.n [(125,.n [(23,.r (a.pf hs (.q .all s x)))]),(133,.r f.p)]),(26,.U [.bool f.has,num 0]),(300003,.f 7 [[a.pf hs (.q .all s x)]]),(300004,.fb 1 none)] ha hp hc (rfl:vA [[a.pf hs (.q .all s x)]]=vA [[a.pf hs (.q .all s x)]])
theorem Yq {ls hs:List Fm} {t:Tm} {s:Ty} {a:Jt} {x f:Fm} (ha:cC ls hs a (.q .allU s x)) (hp:A 156 [x.p,t.p] f.p) (hc:gD f):A 36 [fA ls,fA hs,(Pf.ins true t a.p).p] (MA (Pf.ins true t a.p) f hs [[a.pf hs (.q .allU s x)]]):=by
 exact f4 [(17,.n [(125,.n [(23,.r (a.pf hs (.q .allU s x)))]),(133,.r f.p)]),(26,.U [.bool f.has,num 0]),(300003,.f 7 [[a.pf hs (.q .allU s x)]]),(300004,.fb 1 none)] ha hp hc (rfl:vA [[a.pf hs (.q .allU s x)]]=vA [[a.pf hs (.q .allU s x)]])
theorem Zq {ls hs:List Fm} {u:Bool} {t:Tm} {a:Jt} {x y:Fm} (ha:cC ls hs a y) (hc:gD x):A 36 [fA ls,fA hs,(Pf.ex u x t a.p).p] (MA (Pf.ex u x t a.p) x hs [[a.pf hs y]]):=by
 cases u<;>exact f3 [(17,.n [(140,.n [(23,.r (a.pf hs y))])]),(26,.U [.bool x.has,num 0]),(300003,.f 7 [[a.pf hs y]]),(300004,.fb 1 none)] ha hc (rfl:vA [[a.pf hs y]]=vA [[a.pf hs y]])
theorem zr {ls hs:List Fm} {s:Ty} {a b:Jt} {x y f:Fm} (ha:cC ls hs a (.q .ex s x)) (hw:A 155 [fA hs,num 1] (fA (lA 1 hs))) (hw2:A 154 [fA (lA 1 hs),x.p] (fA (lA 1 hs++[x]))) (hb:cC ls (lA 1 hs++[x]) b y) (hl:A 157 [y.p] f.p) (hc:gD f):A 36 [fA ls,fA hs,(Pf.p2 .exE a.p b.p).p] (MA (Pf.p2 .exE a.p b.p) f hs [[a.pf hs (.q .ex s x)],[b.pf (lA 1 hs++[x]) y]]):=by
 exact f7 [(17,.n [(151,.n [(23,.r (a.pf hs (.q .ex s x)))]),(155,.r (fA (lA 1 hs))),(160,.r (fA (lA 1 hs++[x]))),(161,.n [(23,.r (b.pf (lA 1 hs++[x]) y))]),(162,.r f.p)]),(26,.U [.bool f.has,num 0]),(300003,.f 7 [[a.pf hs (.q .ex s x)],[b.pf (lA 1 hs++[x]) y]]),(300004,.fb 1 none)] ha hw hw2 hb hl hc (rfl:vA [[a.pf hs (.q .ex s x)],[b.pf (lA 1 hs++[x]) y]]=vA [[a.pf hs (.q .ex s x)],[b.pf (lA 1 hs++[x]) y]])
theorem jr {ls hs:List Fm} {s:Ty} {a b:Jt} {x y f:Fm} (ha:cC ls hs a (.q .exU s x)) (hw:A 155 [fA hs,num 1] (fA (lA 1 hs))) (hw2:A 154 [fA (lA 1 hs),x.p] (fA (lA 1 hs++[x]))) (hb:cC ls (lA 1 hs++[x]) b y) (hl:A 157 [y.p] f.p) (hc:gD f):A 36 [fA ls,fA hs,(Pf.p2 .exUE a.p b.p).p] (MA (Pf.p2 .exUE a.p b.p) f hs [[a.pf hs (.q .exU s x)],[b.pf (lA 1 hs++[x]) y]]):=by
 exact f7 [(17,.n [(151,.n [(23,.r (a.pf hs (.q .exU s x)))]),(155,.r (fA (lA 1 hs))),(160,.r (fA (lA 1 hs++[x]))),(161,.n [(23,.r (b.pf (lA 1 hs++[x]) y))]),(162,.r f.p)]),(26,.U [.bool f.has,num 0]),(300003,.f 7 [[a.pf hs (.q .exU s x)],[b.pf (lA 1 hs++[x]) y]]),(300004,.fb 1 none)] ha hw hw2 hb hl hc (rfl:vA [[a.pf hs (.q .exU s x)],[b.pf (lA 1 hs++[x]) y]]=vA [[a.pf hs (.q .exU s x)],[b.pf (lA 1 hs++[x]) y]])
theorem vr {ls hs:List Fm} {t:Tm} {a b:Jt} {x y z f:Fm} (ha:cC ls hs a y) (hw:A 155 [fA hs,num 1] (fA (lA 1 hs))) (hw2:A 154 [fA (lA 1 hs),x.p] (fA (lA 1 hs++[x]))) (hb:cC ls (lA 1 hs++[x]) b z) (hp:A 156 [x.p,t.p] f.p) (hc:gD f):A 36 [fA ls,fA hs,(Pf.ind false x t a.p b.p).p] (MA (Pf.ind false x t a.p b.p) f hs [[a.pf hs y],[b.pf (lA 1 hs++[x]) z]]):=by
 exact f7 [(17,.n [(164,.n [(23,.n [(23,.r (a.pf hs y))]),(27,.r (fA (lA 1 hs))),(32,.r (fA (lA 1 hs++[x]))),(33,.n [(23,.r (b.pf (lA 1 hs++[x]) z))]),(42,.r f.p)])]),(26,.U [.bool f.has,num 0]),(300003,.f 10 [[a.pf hs y],[b.pf (lA 1 hs++[x]) z]]),(300004,.fb 1 none)] ha hw hw2 hb hp hc (rfl:vA [[a.pf hs y],[b.pf (lA 1 hs++[x]) z]]=vA [[a.pf hs y],[b.pf (lA 1 hs++[x]) z]])
theorem kr {ls hs:List Fm} {t:Tm} {a b:Jt} {x y z f:Fm} (ha:cC ls hs a y) (hx:A 238 [x.p,num 1,num 1] (FR.ok (x.sh 1 (.ofNat 1))).p) (hw:A 155 [fA hs,num 2] (fA (lA 2 hs))) (hw2:A 154 [fA (lA 2 hs),(x.sh 1 (.ofNat 1)).p] (fA (lA 2 hs++[(x.sh 1 (.ofNat 1))]))) (hb:cC ls (lA 2 hs++[(x.sh 1 (.ofNat 1))]) b z) (hp:A 156 [x.p,t.p] f.p) (hc:gD f):A 36 [fA ls,fA hs,(Pf.ind true x t a.p b.p).p] (MA (Pf.ind true x t a.p b.p) f hs [[a.pf hs y],[b.pf (lA 2 hs++[(x.sh 1 (.ofNat 1))]) z]]):=by
 exact f8 [(17,.n [(164,.n [(48,.n [(23,.r (a.pf hs y))]),(54,.r (FR.ok (x.sh 1 (.ofNat 1))).p),(60,.r (fA (lA 2 hs))),(62,.r (fA (lA 2 hs++[(x.sh 1 (.ofNat 1))]))),(63,.n [(23,.r (b.pf (lA 2 hs++[(x.sh 1 (.ofNat 1))]) z))]),(72,.r f.p)])]),(26,.U [.bool f.has,num 0]),(300003,.f 10 [[a.pf hs y],[b.pf (lA 2 hs++[(x.sh 1 (.ofNat 1))]) z]]),(300004,.fb 1 none)] ha hx hw hw2 hb hp hc (rfl:vA [[a.pf hs y],[b.pf (lA 2 hs++[(x.sh 1 (.ofNat 1))]) z]]=vA [[a.pf hs y],[b.pf (lA 2 hs++[(x.sh 1 (.ofNat 1))]) z]])
theorem yr {ls hs:List Fm} {t:Tm}  (hc:gD (Fm.eq t t)):A 36 [fA ls,fA hs,(Pf.refl t).p] (MA (Pf.refl t) (Fm.eq t t) hs []):=by
 exact f1 [(17,.n [(164,.n [])]),(26,.U [.bool (Fm.eq t t).has,num 0]),(300004,.fb 1 none)] hc
theorem ur {ls hs:List Fm} {a b:Jt} {t u:Tm} {x y f:Fm} (ha:cC ls hs a (.eq t u)) (hb:cC ls hs b y) (hp:A 156 [x.p,u.p] f.p) (hc:gD f):A 36 [fA ls,fA hs,(Pf.subst x a.p b.p).p] (MA (Pf.subst x a.p b.p) f hs [[a.pf hs (.eq t u)],[b.pf hs y]]):=by
 exact f5 [(17,.n [(164,.n [(90,.n [(23,.r (a.pf hs (.eq t u)))]),(94,.n [(23,.r (b.pf hs y))]),(103,.r f.p)])]),(26,.U [.bool f.has,num 0]),(300003,.f 10 [[a.pf hs (.eq t u)],[b.pf hs y]]),(300004,.fb 1 none)] ha hb hp hc (rfl:vA [[a.pf hs (.eq t u)],[b.pf hs y]]=vA [[a.pf hs (.eq t u)],[b.pf hs y]])
theorem br {ls hs:List Fm} {a:Jt} {s u:Ty} {x y:Fm} (ha:cC ls hs a (.q .all s (.q .ex u x))) (hx:A 238 [x.p,num 2,num 1] (FR.ok (x.sh 2 (.ofNat 1))).p) (hp:A 156 [(x.sh 2 (.ofNat 1)).p,vapp.p] y.p) (hc:gD (Fm.q .ex (.two true s u) (.q .all s y))):A 36 [fA ls,fA hs,(Pf.p1 .choice a.p).p] (MA (Pf.p1 .choice a.p) (Fm.q .ex (.two true s u) (.q .all s y)) hs [[a.pf hs (.q .all s (.q .ex u x))]]):=by
 exact f5 [(17,.n [(164,.n [(107,.n [(23,.r (a.pf hs (.q .all s (.q .ex u x))))]),(125,.r (FR.ok (x.sh 2 (.ofNat 1))).p),(133,.r y.p)])]),(26,.U [.bool (Fm.q .ex (.two true s u) (.q .all s y)).has,num 0]),(300003,.f 10 [[a.pf hs (.q .all s (.q .ex u x))]]),(300004,.fb 1 none)] ha hx hp hc (rfl:vA [[a.pf hs (.q .all s (.q .ex u x))]]=vA [[a.pf hs (.q .all s (.q .ex u x))]])
open Go.Lg
theorem dr {ls hs:List Fm} {i:Nat} {f:Fm} (hl:hs.length<=qA) (hi:i<hs.length) (e:hs[hs.length-1-i]? = some f) (hc:gD f):A 36 [fA ls,fA hs,(Pf.leaf false i).p] (MA (Pf.leaf false i) f hs []):=by
 have hm:=jA;have hb:=uA;have h1:=nB (a:=(hs.map Fm.c).length) (by simp;omega) (by simp;omega);have h2:rA (Int.ofNat ((hs.map Fm.c).length-1) - .ofNat i)=true/\Int.ofNat ((hs.map Fm.c).length-1) - .ofNat i = .ofNat (hs.length-1-i):=by
  have e:Int.ofNat ((hs.map Fm.c).length-1) - .ofNat i = .ofNat (hs.length-1-i):=by simp;omega
  exact⟨by rw [e];exact eA,e⟩
 exact f4 [(17,.n [(21,.z ((hs.map Fm.c).length-1)),(24,.z (hs.length-1-i)),(25,.i f.c)]),(26,.U [.bool f.has,num 0]),(300004,.fb 1 none)] h1 h2 (KA e Fm.c_len) hc
theorem lr {ls hs:List Fm} {i:Nat} {f:Fm} (e:ls[i]? = some f) (hc:gD f):A 36 [fA ls,fA hs,(Pf.leaf true i).p] (MA (Pf.leaf true i) f hs []):=by
 exact f2 [(17,.n [(33,.i f.c)]),(26,.U [.bool f.has,num 0]),(300004,.fb 1 none)] (KA e Fm.c_len) hc
theorem DN (p:Pf):1<=p.cnt:=by cases p<;>simp [Pf.cnt]<;>omega
theorem Jt.FKj {ls:List Fm} : ∀ {j:Jt} {n:Nat} {hs:List Fm},j.OK ls n hs->FK n j.f
 | .leaf _ _ _,_,_,h=>h.1
 | .refl _,_,_,h=>h.2
 | .p1 _ _ _,_,_,h=>h.1
 | .p2 _ _ _ _,_,_,h=>h.1
 | .impI _ _,_,_,h=>h.2.1
 | .all _ _ _,_,_,h=>h.2.1
 | .ins _ _ _ _,_,_,h=>h.1
 | .ex _ _ _ _,_,_,h=>h.1
 | .ind _ _ _ _ _ _,_,_,h=>h.1
 | .subst _ _ _ _,_,_,h=>h.1
theorem wQ {n k:Nat} {hs:List Fm} (h:∀ f∈hs,FK n f):∀ f∈lA k hs,FK (n+k) f:=by
 intro f hf;obtain⟨g,hg,rfl⟩:=List.mem_map.1 hf;exact (h g hg).sh 0 k
theorem kQ {n:Nat} {hs:List Fm} {x:Fm} (h:∀ f∈hs,FK n f) (hx:FK n x):∀ f∈hs++[x],FK n f:=by
 intro f hf;rcases List.mem_append.1 hf with hf|hf
 ·exact h f hf
 ·simp at hf;subst hf;exact hx
theorem mr (n:Nat):TK (n+2) vapp:=⟨by decide,rfl,by show 1<n+2/\0<n+2;omega⟩
theorem HD {ls:List Fm} : ∀ (j:Jt) (n:Nat) (hs:List Fm),(∀ f∈hs,FK n f)->hs.length+j.p.cnt<=qA->n+j.p.cnt<=90000->j.OK ls n hs->Oq ls hs j
 | .leaf u i f,n,hs,hh,hl,hn,h=>by
  have hlm:EA=100000:=rfl;simp only [Jt.p,Pf.cnt] at hl hn;obtain⟨h0,h⟩:=h;cases u
  ·exact dr (by omega) h.1 h.2 (h0.a70 (by omega))
  ·exact lr h (h0.a70 (by omega))
 | .refl t,n,hs,hh,hl,hn,h=>yr (h.2.a70 (by have hlm:EA=100000:=rfl;omega))
 | .p1 k a f,n,hs,hh,hl,hn,⟨h0,h1,h2⟩=>by
  have hlm:EA=100000:=rfl;simp only [Jt.p,Pf.cnt] at hl hn;have ih:=HD a n hs hh (by omega) (by omega) h1;have hc:=h0.a70 (by omega);cases k
  ·obtain⟨y,e⟩:=h2;have g:=Qq (a:=a) (f:=f) (y:=y) (by rw [<- e];exact ih) hc;rw [<- e] at g;exact g
  ·obtain⟨y,e⟩:=h2;have g:=Rq (a:=a) (f:=f) (y:=y) (by rw [<- e];exact ih) hc;rw [<- e] at g;exact g
  ·obtain⟨s,u,x,e,y,e1,e2⟩:=h2;subst e2;have hx:FK (n+2) x:=by
    have:=Jt.FKj h1;rw [e] at this;exact this.qf.qf
   have g:=br (a:=a) (s:=s) (u:=u) (x:=x) (y:=y) (by rw [<- e];exact ih) (lp hx) (DT (n:=n+2) (hx.sh 2 1) (mr n) (by omega) e1) hc;rw [<- e] at g;exact g
 | .p2 k a b f,n,hs,hh,hl,hn,⟨h0,h1,h2⟩=>by
  have hlm:EA=100000:=rfl;simp only [Jt.p,Pf.cnt] at hl hn;have ca:=DN a.p;have ih:=HD a n hs hh (by omega) (by omega) h1;have hc:=h0.a70 (by omega);cases k
  ·obtain⟨h3,e⟩:=h2;subst e;exact Sq ih (HD b n hs hh (by omega) (by omega) h3) hc
  ·obtain⟨h3,x,e⟩:=h2;have g:=Tq (a:=a) (b:=b) (x:=x) (f:=f) (by rw [<- e];exact ih) (HD b n hs hh (by omega) (by omega) h3) hc;rw [<- e] at g;exact g
  ·obtain⟨h3,⟨s,e⟩,e1⟩:=h2;generalize hx:a.f.bd=x at *
   have hF:FK (n+1) x:=by
    have:=Jt.FKj h1;rw [e] at this;exact this.qf
   have hl2:(lA 1 hs).length=hs.length:=by simp
   have g:=zr (a:=a) (b:=b) (s:=s) (x:=x) (y:=b.f) (f:=f) (by rw [<- e];exact ih) (vQ (n:=n) (by omega) hh) (jQ _ _) (HD b (n+1) _ (kQ (wQ hh) hF) (by simp;omega) (by omega) h3) (cf (Jt.FKj h3) h0 (by omega) e1) hc;rw [<- e,<- hx] at g;exact g
  ·obtain⟨h3,⟨s,e⟩,e1⟩:=h2;generalize hx:a.f.bd=x at *
   have hF:FK (n+1) x:=by
    have:=Jt.FKj h1;rw [e] at this;exact this.qf
   have hl2:(lA 1 hs).length=hs.length:=by simp
   have g:=jr (a:=a) (b:=b) (s:=s) (x:=x) (y:=b.f) (f:=f) (by rw [<- e];exact ih) (vQ (n:=n) (by omega) hh) (jQ _ _) (HD b (n+1) _ (kQ (wQ hh) hF) (by simp;omega) (by omega) h3) (cf (Jt.FKj h3) h0 (by omega) e1) hc;rw [<- e,<- hx] at g;exact g
 | .impI x a,n,hs,hh,hl,hn,⟨h0,h1,h2⟩=>by
  have hlm:EA=100000:=rfl;simp only [Jt.p,Pf.cnt] at hl hn;exact Uq (jQ _ _) (HD a n _ (kQ hh h0) (by simp;omega) (by omega) h2) (h1.a70 (by omega))
 | .all u s a,n,hs,hh,hl,hn,⟨h0,h1,h2⟩=>by
  have hlm:EA=100000:=rfl;simp only [Jt.p,Pf.cnt] at hl hn;have ih:=HD a (n+1) _ (wQ hh) (by simp;omega) (by omega) h2;cases u
  ·exact Vq (vQ (n:=n) (by omega) hh) ih (h1.a70 (by omega))
  ·exact Wq (vQ (n:=n) (by omega) hh) ih (h1.a70 (by omega))
 | .ins u t a f,n,hs,hh,hl,hn,⟨h0,h1,h2,s,x,e,e1⟩=>by
  have hlm:EA=100000:=rfl;simp only [Jt.p,Pf.cnt] at hl hn;have ih:=HD a n hs hh (by omega) (by omega) h2;have hF:FK (n+1) x:=by
   have:=Jt.FKj h2;rw [e] at this;exact this.qf
  have hp:=DT hF h1 (by omega) e1;cases u
  ·have g:=Xq (t:=t) (a:=a) (s:=s) (x:=x) (f:=f) (by rw [show Fm.q .all s x=a.f from e.symm];exact ih) hp (h0.a70 (by omega));rw [show Fm.q .all s x=a.f from e.symm] at g;exact g
  ·have g:=Yq (t:=t) (a:=a) (s:=s) (x:=x) (f:=f) (by rw [show Fm.q .allU s x=a.f from e.symm];exact ih) hp (h0.a70 (by omega));rw [show Fm.q .allU s x=a.f from e.symm] at g;exact g
 | .ex u x t a,n,hs,hh,hl,hn,⟨h0,h1,h2,_,_⟩=>by
  have hlm:EA=100000:=rfl;simp only [Jt.p,Pf.cnt] at hl hn;exact Zq (HD a n hs hh (by omega) (by omega) h2) (h0.a70 (by omega))
 | .ind l x t a b f,n,hs,hh,hl,hn,⟨h0,h1,h2,h3,e,_,h4⟩=>by
  have hlm:EA=100000:=rfl;simp only [Jt.p,Pf.cnt] at hl hn;have ca:=DN a.p;have ct:=pE t;have ih:=HD a n hs hh (by omega) (by omega) h3;have hp:=DT h1 h2 (by omega) e;have hl2:(lA 1 hs).length=hs.length:=by simp
  have hl3:(lA 2 hs).length=hs.length:=by simp
  cases l
  ·exact vr ih (vQ (n:=n) (by omega) hh) (jQ _ _) (HD b (n+1) _ (kQ (wQ hh) h1) (by simp;omega) (by omega) h4) hp (h0.a70 (by omega))
  ·exact kr ih (fp h1) (Pq (n:=n) (by omega) hh) (jQ _ _) (HD b (n+2) _ (kQ (wQ hh) (h1.sh 1 1)) (by simp;omega) (by omega) h4) hp (h0.a70 (by omega))
 | .subst x a b f,n,hs,hh,hl,hn,⟨h0,h1,h2,h3,_,t,u,e,e1⟩=>by
  have hlm:EA=100000:=rfl;simp only [Jt.p,Pf.cnt] at hl hn;have ih:=HD a n hs hh (by omega) (by omega) h2;have hT:TK n u:=by
   have:=Jt.FKj h2;rw [e] at this;exact this.eq2
  have g:=ur (a:=a) (b:=b) (t:=t) (u:=u) (x:=x) (f:=f) (by rw [<- e];exact ih) (HD b n hs hh (by omega) (by omega) h3) (DT h1 hT (by omega) e1) (h0.a70 (by omega));rw [<- e] at g;exact g
inductive Hy where
 | bare (pl:Nat)
 | hy (t:Tm) (d pl:Nat)
def Hy.k:Hy->Nat
 | .bare _=>0 | .hy t _ _=>t.kd
def Hy.i:Hy->Nat
 | .bare _=>0 | .hy t _ _=>t.ix
def Hy.tk:Hy->Nat
 | .bare _=>0 | .hy t _ _=>t.tk
def Hy.te:Hy->List (List PV)
 | .bare _=>[] | .hy t _ _=>t.te
def Hy.es:Hy->List (List PV)
 | .bare _=>[] | .hy t _ _=>t.es
def Hy.d:Hy->Nat
 | .bare _=>0 | .hy _ d _=>d
def Hy.has:Hy->Bool
 | .bare _=>false | .hy _ _ _=>true
def Hy.pl:Hy->Nat
 | .bare p=>p | .hy _ _ p=>p
abbrev Hy.c (h:Hy):List PV:=[num h.k,num h.i,num h.tk,.slice h.te,.slice h.es,num h.d,.bool h.has,num h.pl]
abbrev ec (e:Tm × Nat):List PV:=[num e.1.kd,num e.1.ix,num e.1.tk,.slice e.1.te,.slice e.1.es,num e.2]
theorem xf (e:Tm × Nat):(ec e).length=6:=rfl
theorem Hy.c_len (h:Hy):h.c.length=8:=rfl
structure Sc where
 dep:Nat
 hyps:Nat
 vs:List (Tm × Nat)
 ks:List Hy
abbrev Sc.p (s:Sc):PV:=.agg [num s.dep,num s.hyps,.slice (s.vs.map ec),.slice (s.ks.map Hy.c)]
def ent (vs:List (Tm × Nat)) (v:Nat):Option (Tm × Nat):=if v<vs.length then vs[vs.length-1-v]? else none
def Tm.ps (vs:List (Tm × Nat)) (d:Nat):Tm->Nat->Tm
 | .v i,b=>if i<b then .v i else match ent vs (i-b) with
  | some e=>e.1.sh 0 (.ofNat (d-e.2+b))
  | none => .v i
 | .lam s t,b => .lam s (t.ps vs d (b+1))
 | .n0 k,_ => .n0 k
 | .n1 k a,b => .n1 k (a.ps vs d b)
 | .n2 k x y,b => .n2 k (x.ps vs d b) (y.ps vs d b)
 | .n3 k s x y z,b => .n3 k s (x.ps vs d b) (y.ps vs d b) (z.ps vs d b)
theorem yQ {vs:List (Tm × Nat)} {v:Nat} (h:v<vs.length:=by omega):∃ e,ent vs v=some e/\e∈vs:=by
 unfold ent;rw [if_pos h];obtain⟨e,he⟩:∃ e,vs[vs.length-1-v]? = some e:=⟨_,List.getElem?_eq_getElem (by omega)⟩;exact⟨e,he,List.mem_of_getElem? he⟩
theorem Af {vs:List (Tm × Nat)} {v:Nat} {e:Tm × Nat} (h:ent vs v=some e):e∈vs:=by
 unfold ent at h;split at h
 ·exact List.mem_of_getElem? h
 ·cases h
theorem nr (vs:List (Tm × Nat)) (e:Tm × Nat):ent (vs++[e]) 0=some e:=by
 unfold ent;rw [if_pos (by simp)];simp
theorem pr (vs:List (Tm × Nat)) (e:Tm × Nat) (v:Nat):ent (vs++[e]) (v+1)=ent vs v:=by
 unfold ent;by_cases h:v<vs.length
 ·rw [if_pos h,if_pos (by simp;omega)];rw [List.getElem?_append_left (by simp;omega)];congr 1;simp;omega
 ·rw [if_neg h,if_neg (by simp;omega)]
def aK (d:Nat) (vs:List (Tm × Nat)):Prop:=∀ e∈vs,e.2<=d/\TK e.2 e.1
theorem cK {vs:List (Tm × Nat)} {d:Nat} (hv:aK d vs):∀ (t:Tm) (b:Nat),(t.ps vs d b).cnt<=4096 * t.cnt
 | .v i,b=>by
  unfold Tm.ps;split
  ·simp [Tm.cnt]
  ·split
   ·rename_i e he;rw [wC];have:=(hv e (Af he)).2.cnt;simp only [Tm.cnt];omega
   ·simp [Tm.cnt]
 | .lam s t,b=>by have:=cK hv t (b+1);simp only [Tm.ps,Tm.cnt];omega
 | .n0 _,b=>by simp only [Tm.ps,Tm.cnt];omega
 | .n1 _ a,b=>by have:=cK hv a b;simp only [Tm.ps,Tm.cnt];omega
 | .n2 _ x y,b=>by have:=cK hv x b;have:=cK hv y b;simp only [Tm.ps,Tm.cnt];omega
 | .n3 _ _ x y z,b=>by have:=cK hv x b;have:=cK hv y b;have:=cK hv z b;simp only [Tm.ps,Tm.cnt];omega
theorem eK {vs:List (Tm × Nat)} {d:Nat} (hv:aK d vs):∀ (t:Tm) (b:Nat),t.shp=true->(t.ps vs d b).shp=true
 | .v i,b,h=>by
  unfold Tm.ps;split
  ·rfl
  ·split
   ·rename_i e he;rw [XG];exact (hv e (Af he)).2.shp
   ·rfl
 | .lam s t,b,h=>by
  obtain⟨h1,h2⟩:=DA h;show (_ && _)=true;rw [h1,eK hv t (b+1) h2];rfl
 | .n0 _,b,h=>rfl
 | .n1 _ a,b,h=>eK hv a b h
 | .n2 _ x y,b,h=>by
  obtain⟨h1,h2⟩:=DA h;show (_ && _)=true;rw [eK hv x b h1,eK hv y b h2];rfl
 | .n3 _ _ x y z,b,h=>by
  obtain⟨h1,h2⟩:=DA h;obtain⟨h2,h3⟩:=DA h2;obtain⟨h3,h4⟩:=DA h3;show (_ && (_ && (_ && _)))=true;rw [h1,eK hv x b h2,eK hv y b h3,eK hv z b h4];rfl
theorem iK {vs:List (Tm × Nat)} {d:Nat} (hv:aK d vs):∀ (t:Tm) (b:Nat),t.sc (vs.length+b)->(t.ps vs d b).sc (d+b)
 | .v i,b,h=>by
  have h:i<vs.length+b:=h;unfold Tm.ps;split
  ·show i<d+b;omega
  ·obtain⟨e,he,hm⟩:=yQ (vs:=vs) (v:=i-b);rw [he];simp only;obtain⟨h1,h2⟩:=hv e hm;have:=uG (d-e.2+b) e.1 0 e.2 h2.sc;rwa [show e.2+(d-e.2+b)=d+b by omega] at this
 | .lam s t,b,h=>iK hv t (b+1) h
 | .n0 _,b,h=>trivial
 | .n1 _ a,b,h=>iK hv a b h
 | .n2 _ x y,b,h=>⟨iK hv x b h.1,iK hv y b h.2⟩
 | .n3 _ _ x y z,b,h=>⟨iK hv x b h.1,iK hv y b h.2.1,iK hv z b h.2.2⟩
open Go.Lg
theorem YG (k:Nat) (hs:List Fm):(lA k hs).map Fm.has=hs.map Fm.has:=by
 simp only [lA,List.map_map];exact List.map_congr_left λ f _=>BB (QG _ f 0)
structure ScOK (n:Nat) (bs:List Bool) (s:Sc):Prop where
 vl:s.vs.length=n
 kl:s.ks.length=bs.length
 ve:aK s.dep s.vs
 ke:∀ h∈s.ks,∀ t d p,h=Hy.hy t d p->d<=s.dep/\TK d t
 kh:∀ i:Nat,bs[i]? = some true->∃ t d p,s.ks[i]? = some (Hy.hy t d p)
def Sc.bind (s:Sc):Sc:=⟨s.dep+1,s.hyps,s.vs,s.ks⟩
def Sc.var (s:Sc) (t:Tm):Sc:=⟨s.dep,s.hyps,s.vs++[(t,s.dep)],s.ks⟩
def Sc.hyp (s:Sc) (t:Tm):Sc:=⟨s.dep,s.hyps+1,s.vs,s.ks++[.hy t s.dep s.hyps]⟩
def Sc.bare (s:Sc):Sc:=⟨s.dep,s.hyps+1,s.vs,s.ks++[.bare s.hyps]⟩
theorem ScOK.bind {n:Nat} {bs:List Bool} {s:Sc} (h:ScOK n bs s):ScOK n bs s.bind :=
 ⟨h.vl,h.kl,λ e he=>⟨Nat.le_succ_of_le (h.ve e he).1,(h.ve e he).2⟩,λ x hx t d p e=>⟨Nat.le_succ_of_le (h.ke x hx t d p e).1,(h.ke x hx t d p e).2⟩,h.kh⟩
theorem ScOK.var {n:Nat} {bs:List Bool} {s:Sc} {t:Tm} (h:ScOK n bs s) (ht:TK s.dep t):ScOK (n+1) bs (s.var t) :=
 ⟨by simp [Sc.var,h.vl],h.kl,λ e he=>by
  rcases List.mem_append.1 he with he|he
  ·exact h.ve e he
  ·simp at he;subst he;exact⟨Nat.le_refl _,ht⟩,h.ke,h.kh⟩
theorem Bf {bs:List Bool} {ks:List Hy} {x:Hy} {b:Bool} (hl:ks.length=bs.length) (h:∀ i:Nat,bs[i]? = some true->∃ t d p,ks[i]? = some (Hy.hy t d p)) (hx:b=true->∃ t d p,x=Hy.hy t d p) (i:Nat) (hi:(bs++[b])[i]? = some true):∃ t d p,(ks++[x])[i]? = some (Hy.hy t d p):=by
 by_cases hlt:i<bs.length
 ·rw [List.getElem?_append_left hlt] at hi;rw [List.getElem?_append_left (by omega)];exact h i hi
 ·rw [List.getElem?_append_right (by omega)] at hi;rw [List.getElem?_append_right (by omega),hl];by_cases e:i-bs.length=0
  ·rw [e] at hi ⊢;simp at hi;obtain⟨t,d,p,e⟩:=hx hi;exact⟨t,d,p,by simp [e]⟩
  ·have : [b][i-bs.length]? = none:=by simp;omega
   rw [this] at hi;cases hi
theorem ScOK.hyp {n:Nat} {bs:List Bool} {s:Sc} {t:Tm} (h:ScOK n bs s) (ht:TK s.dep t) (b:Bool):ScOK n (bs++[b]) (s.hyp t) :=
 ⟨h.vl,by simp [Sc.hyp,h.kl],h.ve,(λ x hx t' d p e=>by
  rcases List.mem_append.1 hx with hx|hx
  ·exact h.ke x hx t' d p e
  ·simp at hx;subst hx;cases e;exact⟨Nat.le_refl _,ht⟩),Bf h.kl h.kh λ _=>⟨_,_,_,rfl⟩⟩
theorem ScOK.bare {n:Nat} {bs:List Bool} {s:Sc} (h:ScOK n bs s):ScOK n (bs++[false]) s.bare :=
 ⟨h.vl,by simp [Sc.bare,h.kl],h.ve,(λ x hx t' d p e=>by
  rcases List.mem_append.1 hx with hx|hx
  ·exact h.ke x hx t' d p e
  ·simp at hx;subst hx;cases e),Bf h.kl h.kh nofun⟩
theorem WD {n i:Nat} (h:i<n:=by omega):TK n (.v i):=⟨by simp [Tm.cnt],rfl,h⟩
theorem FT {n:Nat} {k:K1} {a:Tm} (h:TK n a) (hc:a.cnt<4096):TK n (.n1 k a):=⟨by simp only [Tm.cnt];omega,h.shp,h.sc⟩
theorem rr {n m:Nat} {t:Tm} (h:TK n t) (hm:n<=m):TK m t:=⟨h.cnt,h.shp,iX t hm h.sc⟩
theorem TK.sh {n:Nat} {t:Tm} (h:TK n t) (k:Nat):TK (n+k) (t.sh 0 (.ofNat k)):=⟨by rw [wC];exact h.cnt,by rw [XG];exact h.shp,uG k t 0 n h.sc⟩
inductive XR where
 | er (x:Sx) (n:Nat)
 | ok (t:Tm)
def XR.k:XR->Nat
 | .er x _=>x.k | .ok t=>t.kd
def XR.i:XR->Nat
 | .er x _=>x.i | .ok t=>t.ix
def XR.tk:XR->Nat
 | .er x _=>x.tk | .ok t=>t.tk
def XR.te:XR->List (List PV)
 | .er x _=>x.te | .ok t=>t.te
def XR.es:XR->List (List PV)
 | .er x _=>x.es | .ok t=>t.es
def XR.e:XR->Nat
 | .er _ n=>n+1 | .ok _=>0
def XR.p (r:XR):PV:=.tuple [.agg [num r.k,num r.i,num r.tk,.slice r.te,.slice r.es],num r.e]
open Go.Lg
theorem GB (i:Nat):A 42 [num i] (Tm.v i).p:=f0 []
theorem QH (s:Sc) (h:s.dep<=qA:=by omega):A 95 [s.p] s.bind.p:=by
 have hm:=jA;have hbg:=uA;exact f1 [(5,.z (s.dep+1))] (AA (a:=s.dep) (b:=1))
theorem RH (s:Sc) (t:Tm) (h:s.vs.length<=qA):A 165 [s.p,t.p] (s.var t).p:=by
 have hm:=jA;have g1:=CE (s.vs.map ec).length;have g2:=mE 6 80 xf (by decide) s.vs (t,s.dep) (by omega) (by simp only [maxLen];omega);rw [show (s.var t).p = .agg [num s.dep,num s.hyps,.slice (s.vs.map ec++[ec (t,s.dep)]),.slice (s.ks.map Hy.c)] by simp [Sc.var]];exact f2 [(13,.ok),(19,.ok)] g1 g2
theorem uQ (s:Sc) (t:Tm) (h:s.ks.length<=qA) (h':s.hyps<=qA):A 41 [s.p,t.p] (s.hyp t).p:=by
 have hm:=jA;have hbg:=uA;have g1:=CE (s.ks.map Hy.c).length;have g2:=mE 8 96 Hy.c_len (by decide) s.ks (.hy t s.dep s.hyps) (by omega) (by simp only [maxLen];omega);rw [show (s.hyp t).p = .agg [num s.dep,num (s.hyps+1),.slice (s.vs.map ec),.slice (s.ks.map Hy.c++[(Hy.hy t s.dep s.hyps).c])] by simp [Sc.hyp]];exact f3 [(13,.ok),(22,.ok),(26,.z (s.hyps+1))] g1 g2 (AA (a:=s.hyps) (b:=1))
theorem RX (s:Sc) (h:s.ks.length<=qA:=by omega) (h':s.hyps<=qA:=by omega):A 40 [s.p] s.bare.p:=by
 have hm:=jA;have hbg:=uA;have g1:=CE (s.ks.map Hy.c).length;have g2:=mE 8 96 Hy.c_len (by decide) s.ks (.bare s.hyps) (by omega) (by simp only [maxLen];omega);rw [show s.bare.p = .agg [num s.dep,num (s.hyps+1),.slice (s.vs.map ec),.slice (s.ks.map Hy.c++[(Hy.bare s.hyps).c])] by simp [Sc.bare]];exact f3 [(11,.ok),(16,.ok),(20,.z (s.hyps+1))] g1 g2 (AA (a:=s.hyps) (b:=1))
theorem oK (k:Nat) (hk:k+1<=qA+qA):∀ (t:Tm) (c:Nat),t.mx<=qA * qA->c+t.cnt<=qA->A 159 [t.p,num c,num (k+1)] (t.sh c (.ofNat (k+1))).p
 | .v i,c,h3,h4=>by
  have hm:=jA;have hbg:=uA;have h3:i<=qA * qA:=h3;rw [hm] at h3;by_cases h:c<=i
  ·have e:(Tm.v i).sh c (.ofNat (k+1)) = .v (i+(k+1)):=by simp only [Tm.sh,if_pos h];rfl
   rw [e];exact f2 [(19,.G),(23,.z (i+(k+1)))] (iH h) (AA (a:=i) (b:=k+1))
  ·have e:(Tm.v i).sh c (.ofNat (k+1)) = .v i:=by simp only [Tm.sh,if_neg h]
   rw [e];exact f1 [(19,.H)] (lF (show i<c by omega))
 | .lam s b,c,h3,h4=>by
  have h4:c+(1+b.cnt)<=qA:=h4;have hm:=jA;exact f2 [(30,.ok),(45,.r (b.sh (c+1) (.ofNat (k+1))).p)] (eA (show c+1<=_ by omega)) (oK k hk b (c+1) h3 (by omega))
 | .n0 q,c,_,_=>by cases q<;>exact f0 []
 | .n1 q a,c,h3,h4=>by
  have h4:c+(1+a.cnt)<=qA:=h4;have h5:=oK k hk a c h3 (by omega);cases q<;>exact f1 [(45,.r (a.sh c (.ofNat (k+1))).p)] h5
 | .n2 q a b,c,h3,h4=>by
  simp only [Tm.mx,Tm.cnt] at h3 h4;have h5:=oK k hk a c (by omega) (by omega);have h6:=oK k hk b c (by omega) (by omega);cases q<;>exact f2 [(45,.r (a.sh c (.ofNat (k+1))).p),(45,.r (b.sh c (.ofNat (k+1))).p)] h5 h6
 | .n3 q s a b d,c,h3,h4=>by
  simp only [Tm.mx,Tm.cnt] at h3 h4;have h5:=oK k hk a c (by omega) (by omega);have h6:=oK k hk b c (by omega) (by omega);have h7:=oK k hk d c (by omega) (by omega);cases q<;>exact f3 [(45,.r (a.sh c (.ofNat (k+1))).p),(45,.r (b.sh c (.ofNat (k+1))).p),(45,.r (d.sh c (.ofNat (k+1))).p)] h5 h6 h7
theorem Cf (t:Tm) (c k:Nat) (hk:k<=qA+qA) (h:t.mx<=qA * qA) (h':c+t.cnt<=qA):A 159 [t.p,num c,num k] (t.sh c (.ofNat k)).p:=by
 cases k with
 | zero =>
  rw [tF];exact f0 []
 | succ k=>exact oK k hk t c h h'
theorem gG:∀ t:Tm,t.cnt<=dA->A 160 [t.p] (num t.cnt)
 | .v i,h=>f0 []
 | .lam s b,h=>by
  have hb:=uA;simp only [Tm.cnt] at h;exact f2 [(15,.N b.cnt),(16,.z (1+b.cnt))] (gG b (by omega)) (AA (a:=1))
 | .n0 k,h=>by cases k<;>exact f0 []
 | .n1 k a,h=>by
  have hb:=uA;simp only [Tm.cnt] at h;have g1:=gG a (by omega);have g2:=AA (a:=1) (b:=a.cnt);cases k<;>exact f2 [(15,.N a.cnt),(16,.z (1+a.cnt))] g1 g2
 | .n2 k a b,h=>by
  have hb:=uA;simp only [Tm.cnt] at h;have g1:=gG a (by omega);have g2:=AA (a:=1) (b:=a.cnt);have g3:=gG b (by omega);have g4:=AA (a:=1+a.cnt) (b:=b.cnt);cases k<;>exact f4 [(15,.N a.cnt),(16,.z (1+a.cnt)),(15,.N b.cnt),(16,.z (1+a.cnt+b.cnt))] g1 g2 g3 g4
 | .n3 k s a b d,h=>by
  have hb:=uA;simp only [Tm.cnt] at h;have g1:=gG a (by omega);have g2:=AA (a:=1) (b:=a.cnt);have g3:=gG b (by omega);have g4:=AA (a:=1+a.cnt) (b:=b.cnt);have g5:=gG d (by omega);have g6:=AA (a:=1+a.cnt+b.cnt) (b:=d.cnt);cases k<;>exact f6 [(15,.N a.cnt),(16,.z (1+a.cnt)),(15,.N b.cnt),(16,.z (1+a.cnt+b.cnt)),(15,.N d.cnt),(16,.z (1+a.cnt+b.cnt+d.cnt))] g1 g2 g3 g4 g5 g6
theorem xK (s:Sc) (hv:aK s.dep s.vs) (hd:s.dep<=EA) (hl:s.vs.length<=EA):∀ (t:Tm) (b:Nat),t.sc (s.vs.length+b)->b+t.cnt<=qA->A 292 [s.p,t.p,num b] (t.ps s.vs s.dep b).p
 | .v i,b,h,h4=>by
  have hm:=jA;have hbg:=uA;have hlm:EA=100000:=rfl;simp only [Tm.cnt] at h4;have h:i<s.vs.length+b:=h;by_cases hb:i<b
  ·have e:(Tm.v i).ps s.vs s.dep b = .v i:=by simp only [Tm.ps,if_pos hb]
   rw [e];have g1:rA (Int.ofNat i - .ofNat b)=true/\Int.ofNat i - .ofNat b=Int.ofNat i - .ofNat b:=sN;have g2:kA (Int.ofNat i - .ofNat b) (.ofNat 0)=true:=by rw [KB];simp;omega
   exact f2 [(18,.y (Int.ofNat i - .ofNat b)),(20,.G)] g1 g2
  ·have g1:rA (Int.ofNat i - .ofNat b)=true/\Int.ofNat i - .ofNat b = .ofNat (i-b):=by
    have e:Int.ofNat i - .ofNat b = .ofNat (i-b):=by simp;omega
    exact⟨by rw [e];exact eA,e⟩
   obtain⟨e,he,hme⟩:=yQ (vs:=s.vs) (v:=i-b);have he':s.vs[s.vs.length-1-(i-b)]? = some e:=by
    unfold ent at he;rwa [if_pos (by omega)] at he
   have ee:(Tm.v i).ps s.vs s.dep b=e.1.sh 0 (.ofNat (s.dep-e.2+b)):=by simp only [Tm.ps,if_neg hb,he]
   rw [ee];obtain⟨q1,q2⟩:=hv e hme;have g2:kA (.ofNat (i-b)) (.ofNat 0)=false:=CA (Nat.zero_le _);have g3:(!kA (.ofNat (i-b)) (.ofNat (s.vs.map ec).length))=false:=lF (by simp;omega);have g4:=nB (a:=(s.vs.map ec).length) (by simp;omega) (by simp;omega);have g5:rA (Int.ofNat ((s.vs.map ec).length-1) - .ofNat (i-b))=true/\Int.ofNat ((s.vs.map ec).length-1) - .ofNat (i-b) = .ofNat (s.vs.length-1-(i-b)):=by
    have e:Int.ofNat ((s.vs.map ec).length-1) - .ofNat (i-b) = .ofNat (s.vs.length-1-(i-b)):=by simp;omega
    exact⟨by rw [e];exact eA,e⟩
   have g6:=KA he' xf;have g7:rA (Int.ofNat s.dep - .ofNat e.2)=true/\Int.ofNat s.dep - .ofNat e.2 = .ofNat (s.dep-e.2):=by
    have e:Int.ofNat s.dep - .ofNat e.2 = .ofNat (s.dep-e.2):=by simp;omega
    exact⟨by rw [e];exact eA,e⟩
   have g8:=AA (a:=s.dep-e.2) (b:=b);have g9:=Cf e.1 0 (s.dep-e.2+b) (by omega) (by have:=q2.mx (by omega);rw [hm];omega) (by have:=q2.cnt;omega);exact f9 [(18,.z (i-b)),(20,.H),(26,.H),(34,.z ((s.vs.map ec).length-1)),(36,.z (s.vs.length-1-(i-b))),(37,.i (ec e)),(45,.z (s.dep-e.2)),(47,.z (s.dep-e.2+b)),(48,.r (e.1.sh 0 (.ofNat (s.dep-e.2+b))).p)] g1 g2 g3 g4 g5 g6 g7 g8 g9
 | .lam u t,b,h,h4=>by
  have h4:b+(1+t.cnt)<=qA:=h4;have hm:=jA;exact f2 [(53,.ok),(68,.r (t.ps s.vs s.dep (b+1)).p)] (eA (show b+1<=_ by omega)) (xK s hv hd hl t (b+1) h (by omega))
 | .n0 q,b,_,_=>by cases q<;>exact f0 []
 | .n1 q x,b,h,h4=>by
  have h4:b+(1+x.cnt)<=qA:=h4;have h5:=xK s hv hd hl x b h (by omega);cases q<;>exact f1 [(68,.r (x.ps s.vs s.dep b).p)] h5
 | .n2 q x y,b,h,h4=>by
  simp only [Tm.cnt] at h4;have h5:=xK s hv hd hl x b h.1 (by omega);have h6:=xK s hv hd hl y b h.2 (by omega);cases q<;>exact f2 [(68,.r (x.ps s.vs s.dep b).p),(68,.r (y.ps s.vs s.dep b).p)] h5 h6
 | .n3 q u x y z,b,h,h4=>by
  simp only [Tm.cnt] at h4;have h5:=xK s hv hd hl x b h.1 (by omega);have h6:=xK s hv hd hl y b h.2.1 (by omega);have h7:=xK s hv hd hl z b h.2.2 (by omega);cases q<;>exact f3 [(68,.r (x.ps s.vs s.dep b).p),(68,.r (y.ps s.vs s.dep b).p),(68,.r (z.ps s.vs s.dep b).p)] h5 h6 h7
def XR.fit (t:Tm):XR:=if t.cnt<=4096 then .ok t else .er .z 3
theorem sr (s:Sc) (t:Tm) (b:Nat) (n:Nat) (hn:n=s.vs.length) (hv:aK s.dep s.vs) (hd:s.dep<=EA) (hl:s.vs.length<=EA) (ht:TK n t):A 242 [s.p,t.p,num 0] (XR.fit (t.ps s.vs s.dep 0)).p:=by
 have hm:=jA;have hb:=uA;have c1:=ht.cnt;have g1:=xK s hv hd hl t 0 (hn ▸ ht.sc) (by omega);have c2:=cK hv t 0;have g2:=gG (t.ps s.vs s.dep 0) (by omega);unfold XR.fit;split
 ·rename_i h;exact f3 [(12,.r (t.ps s.vs s.dep 0).p),(14,.N (t.ps s.vs s.dep 0).cnt),(15,.H)] g1 g2 (CA h)
 ·rename_i h;exact f3 [(12,.r (t.ps s.vs s.dep 0).p),(14,.N (t.ps s.vs s.dep 0).cnt),(15,.G)] g1 g2 (aA (a:=4096) (Nat.lt_of_not_le h))
theorem GT (s:Sc) (t:Tm) (n:Nat) (hn:n=s.vs.length) (hv:aK s.dep s.vs) (hd:s.dep<=EA) (hl:s.vs.length<=EA) (ht:TK n t):A 164 [s.p,t.p] (XR.fit (t.ps s.vs s.dep 0)).p :=
 f1 [(8,.r (XR.fit (t.ps s.vs s.dep 0)).p)] (sr s t 0 n hn hv hd hl ht)
abbrev Df:PV:=.agg [num 0,.slice []]
theorem ar (s:Ty) (b:Tm) (h:b.cnt<=qA):A 94 [num 2,s.p,row [b]] (XR.fit (.lam s b)).p:=by
 have hm:=jA;have hb:=uA;have g:=gG (.lam s b) (by simp only [Tm.cnt];omega);unfold XR.fit;split
 ·rename_i h;exact f2 [(14,.N (Tm.lam s b).cnt),(15,.H)] g (CA h)
 ·rename_i h;exact f2 [(14,.N (Tm.lam s b).cnt),(15,.G)] g (aA (a:=4096) (Nat.lt_of_not_le h))
theorem Ef (k:K1) (b:Tm) (h:b.cnt<=qA:=by omega):A 94 [num k.n,Df,row [b]] (XR.fit (.n1 k b)).p:=by
 have hm:=jA;have hb:=uA;have g:=gG (.n1 k b) (by simp only [Tm.cnt];omega);unfold XR.fit;split
 ·rename_i h;cases k<;>exact f2 [(14,.N (1+b.cnt)),(15,.H)] g (CA h)
 ·rename_i h;cases k<;>exact f2 [(14,.N (1+b.cnt)),(15,.G)] g (aA (a:=4096) (Nat.lt_of_not_le h))
theorem AK (k:K2) (a b:Tm) (h:a.cnt+b.cnt<=qA:=by omega):A 94 [num k.n,Df,row [a,b]] (XR.fit (.n2 k a b)).p:=by
 have hm:=jA;have hb:=uA;have g:=gG (.n2 k a b) (by simp only [Tm.cnt];omega);unfold XR.fit;split
 ·rename_i h;cases k<;>exact f2 [(14,.N (1+a.cnt+b.cnt)),(15,.H)] g (CA h)
 ·rename_i h;cases k<;>exact f2 [(14,.N (1+a.cnt+b.cnt)),(15,.G)] g (aA (a:=4096) (Nat.lt_of_not_le h))
theorem Ff (k:K3) (s:Ty) (a b d:Tm) (h:a.cnt+b.cnt+d.cnt<=qA:=by omega):A 94 [num k.n,s.p,row [a,b,d]] (XR.fit (.n3 k s a b d)).p:=by
 have hm:=jA;have hb:=uA;have g:=gG (.n3 k s a b d) (by simp only [Tm.cnt];omega);unfold XR.fit;split
 ·rename_i h;cases k<;>exact f2 [(14,.N (1+a.cnt+b.cnt+d.cnt)),(15,.H)] g (CA h)
 ·rename_i h;cases k<;>exact f2 [(14,.N (1+a.cnt+b.cnt+d.cnt)),(15,.G)] g (aA (a:=4096) (Nat.lt_of_not_le h))
theorem cr (s:Sc) (i:Nat) (t:Tm) (d p:Nat) (h:s.ks[i]? = some (.hy t d p)) (hd:d<=s.dep) (hs:s.dep<=EA) (ht:TK d t):A 91 [s.p,num i] (.tuple [(t.sh 0 (.ofNat (s.dep-d))).p,.bool true]):=by
 have hm:=jA;have hlm:EA=100000:=rfl;have g2:rA (Int.ofNat s.dep - .ofNat d)=true/\Int.ofNat s.dep - .ofNat d = .ofNat (s.dep-d):=by
  have e:Int.ofNat s.dep - .ofNat d = .ofNat (s.dep-d):=by simp;omega
  exact⟨by rw [e];exact eA,e⟩
 exact f3 [(10,.i (Hy.hy t d p).c),(20,.z (s.dep-d)),(21,.r (t.sh 0 (.ofNat (s.dep-d))).p)] (KA h Hy.c_len) g2 (Cf t 0 (s.dep-d) (by omega) (by have:=ht.mx (by omega);rw [hm];omega) (by have:=ht.cnt;omega))
theorem SX:∀ t:Ty,t.size<=dA->A 319 [t.p] (num t.size)
 | .nat,_=>f0 []
 | .list,_=>f0 []
 | .unit,_=>f0 []
 | .two k a b,h=>by
  have hb:=uA;simp only [Ty.size] at h;have g1:=SX a (by omega);have g2:=AA (a:=1) (b:=a.size);have g3:=SX b (by omega);have g4:=AA (a:=1+a.size) (b:=b.size);cases k<;>exact f4 [(15,.N a.size),(16,.z (1+a.size)),(15,.N b.size),(16,.z (1+a.size+b.size))] g1 g2 g3 g4
theorem Gf (k:Bool) (s u:Ty) (h:s.size+u.size<=qA):A 293 [num (bn k 3 4),s.p,u.p] (TR.fit (.two k s u)).p:=by
 have hm:=jA;have hb:=uA;have g:=SX (.two k s u) (by simp only [Ty.size];omega);unfold TR.fit;split
 ·rename_i h;cases k<;>exact f2 [(15,.N (1+s.size+u.size)),(16,.H)] g (CA h)
 ·rename_i h;cases k<;>exact f2 [(15,.N (1+s.size+u.size)),(16,.G)] g (aA (a:=64) (Nat.lt_of_not_le h))
theorem Hf (s u:Ty) (h:s.size+u.size<=qA:=by omega):A 243 [s.p,u.p] (TR.fit (.two false s u)).p:=f1 [(8,.r (TR.fit (.two false s u)).p)] (Gf false s u h)
theorem xr (s u:Ty) (h:s.size+u.size<=qA):A 249 [s.p,u.p] (TR.fit (.two true s u)).p:=f1 [(8,.r (TR.fit (.two true s u)).p)] (Gf true s u h)
theorem Ar:A 246 [] (Tm.n0 .unit).p:=f0 []
theorem EN:A 247 [] Ty.nat.p:=f0 []
theorem If:A 248 [] Ty.list.p:=f0 []
def Ty.ini:Ty->Tm
 | .nat => .n0 .zero
 | .list => .n0 .nil
 | .unit => .n0 .unit
 | .two k a b=>match k with
  | false => .n2 .pair a.ini b.ini
  | true => .lam a b.ini
theorem BK:∀ t:Ty,A 167 [t.p] t.ini.p
 | .nat=>f0 []
 | .list=>f0 []
 | .unit=>f1 [(38,.r (Tm.n0 .unit).p)] Ar
 | .two false a b=>f2 [(17,.r a.ini.p),(22,.r b.ini.p)] (BK a) (BK b)
 | .two true a b=>f1 [(35,.r b.ini.p)] (BK b)
theorem FN {s:Ty} (h:s.size<=64:=by omega):Nat.beq s.chk 0=true:=by rw [OI,ckE_0.2 h];rfl
theorem IT:∀ t:Ty,t.ini.cnt<=t.size
 | .nat=>Nat.le_refl _
 | .list=>Nat.le_refl _
 | .unit=>Nat.le_refl _
 | .two false a b=>by have:=IT a;have:=IT b;simp only [Ty.ini,Tm.cnt,Ty.size];omega
 | .two true a b=>by have:=IT b;simp only [Ty.ini,Tm.cnt,Ty.size];omega
theorem JT:∀ t:Ty,t.size<=64->t.ini.shp=true
 | .nat,_=>rfl
 | .list,_=>rfl
 | .unit,_=>rfl
 | .two false a b,h=>by
  simp only [Ty.size] at h;show (_ && _)=true;rw [JT a (by omega),JT b (by omega)];rfl
 | .two true a b,h=>by
  simp only [Ty.size] at h;show (_ && _)=true;rw [FN (s:=a),JT b (by omega)];rfl
theorem MT:∀ (t:Ty) (n:Nat),t.ini.sc n
 | .nat,_=>trivial
 | .list,_=>trivial
 | .unit,_=>trivial
 | .two false a b,n=>⟨MT a n,MT b n⟩
 | .two true a b,n=>MT b (n+1)
theorem GN (t:Ty) (h:t.size<=64) (n:Nat):TK n t.ini:=⟨by have:=IT t;omega,JT t h,MT t n⟩
theorem YI {n:Nat} {f:Fm} (h:FK n f) (hn:n<=EA:=by omega):∃ r:TR,A 93 [f.p] (.tuple [.agg [num r.k,.slice r.l],.bool f.has,num r.n])/\r.sz<=64/\(∀ n,r = .er n->n=3) /\ ∀ t,r = .ok t->f.has=true->t=f.cty:=by
 obtain⟨r,g,q,q1,q2⟩:=h.a34;exact⟨r,f2 [(10,.U [.bool f.has,num 0]),(19,.r r.p)] (h.a70 hn) g,q,q2,q1⟩
theorem YL {t:Ty} {n:Nat} (h:TR.fit t = .er n):n=3:=by
 unfold TR.fit at h;split at h<;>cases h;rfl
def XR.lam (s:Ty):XR->XR
 | .er _ n => .er .z n
 | .ok t => .fit (.lam s t)
def XR.two (k:K2):XR->XR->XR
 | .er _ n,_ => .er .z n
 | .ok _,.er _ n => .er .z n
 | .ok a,.ok b => .fit (.n2 k a b)
def XR.cn:XR->Nat
 | .er _ _=>0
 | .ok t=>t.cnt
abbrev XR.b (r:XR):PV:=.agg [num r.k,num r.i,num r.tk,.slice r.te,.slice r.es]
theorem SH (s:Ty) (r:XR) (h:r.cn<=4096):A 96 [s.p,r.b,num r.e] (r.lam s).p:=by
 cases r with
 | er x n=>exact f0 []
 | ok t =>
  have hm:=jA;exact f1 [(15,.r (XR.fit (.lam s t)).p)] (ar s t (by have h:t.cnt<=4096:=h;omega))
theorem Br (t:Tm):(XR.fit t).cn<=4096:=by
 unfold XR.fit;split
 ·assumption
 ·exact Nat.zero_le _
theorem CK (s:Ty) (r:XR):(r.lam s).cn<=4096:=by
 cases r with
 | er x n=>exact Nat.zero_le _
 | ok t=>exact Br _
def XR.one (k:K1):XR->XR
 | .er x n => .er x n
 | .ok t => .fit (.n1 k t)
def XR.Gd (d:Nat) (x:Tm):XR->Prop
 | .er _ n=>n=3
 | .ok t=>TK d t/\t=x
theorem XR.Gd.cn {d:Nat} {x:Tm} {r:XR} (h:r.Gd d x):r.cn<=4096:=by
 cases r with
 | er x n=>exact Nat.zero_le _
 | ok t=>exact h.1.cnt
theorem ZL {d:Nat} {t x:Tm} (h1:t.shp=true) (h2:t.sc d) (h3:t=x):(XR.fit t).Gd d x:=by
 unfold XR.fit;split
 ·rename_i h;exact⟨⟨h,h1,h2⟩,h3⟩
 ·rfl
theorem TH {d:Nat} {x:Tm} {s:Ty} {r:XR} (hs:s.size<=64) (h:r.Gd (d+1) x):(r.lam s).Gd d (.lam s x):=by
 cases r with
 | er x n=>exact h
 | ok t =>
  obtain⟨h1,rfl⟩:=h;refine ZL ?_ h1.sc rfl;show (_ && _)=true;rw [FN hs,h1.shp];rfl
theorem qM {d:Nat} {x y:Tm} {k:K2} {a b:XR} (ha:a.Gd d x) (hb:b.Gd d y):(XR.two k a b).Gd d (.n2 k x y):=by
 cases a with
 | er x n=>exact ha
 | ok x=>cases b with
  | er z n=>exact hb
  | ok y =>
   obtain⟨h1,rfl⟩:=ha;obtain⟨h2,rfl⟩:=hb;refine ZL ?_ ⟨h1.sc,h2.sc⟩ rfl;show (_ && _)=true;rw [h1.shp,h2.shp];rfl
theorem Jf {d:Nat} {x:Tm} {k:K1} {a:XR} (ha:a.Gd d x):(XR.one k a).Gd d (.n1 k x):=by
 cases a with
 | er x n=>exact ha
 | ok x =>
  obtain⟨h1,rfl⟩:=ha;exact ZL h1.shp h1.sc rfl
end Go.Proofs.YtmkajedkflhbgaaGreatDoor
