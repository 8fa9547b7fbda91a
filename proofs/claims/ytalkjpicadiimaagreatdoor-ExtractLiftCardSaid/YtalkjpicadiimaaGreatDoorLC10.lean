/- Contracts of functions; no conditions. -/
import Derived.Test.YtalkjpicadiimaaGreatDoorLC9
set_option linter.all false
set_option maxHeartbeats 4000000
namespace Go.Proofs.YtalkjpicadiimaaGreatDoor
open Go.Lg
set_option maxRecDepth 100000
theorem qK5 {ls:List Fm} : ∀ (j:Jt) (n:Nat) (hs:List Fm),j.OK ls n hs→j.p.mx≤n+4096+2 * j.p.cnt
 | .leaf u i f,n,hs,_=>Nat.zero_le _
 | .refl t,n,hs,⟨h,_⟩=>by
  have:=qXq t n h.sc;have:=h.cnt
  simp only [Jt.p,Pf.mx,Pf.cnt];omega
 | .p1 k a f,n,hs,⟨_,h,_⟩=>by
  have:=qK5 a n hs h
  simp only [Jt.p,Pf.mx,Pf.cnt];omega
 | .p2 k a b f,n,hs,⟨_,h,h'⟩=>by
  have h1:=qK5 a n hs h
  have h2:b.p.mx≤n+1+4096+2 * b.p.cnt:=by
   cases k
   ·have:=qK5 b n hs h'.1;omega
   ·have:=qK5 b n hs h'.1;omega
   ·exact qK5 b (n+1) _ h'.1
   ·exact qK5 b (n+1) _ h'.1
  simp only [Jt.p,Pf.mx,Pf.cnt];omega
 | .impI x a,n,hs,⟨h,_,h'⟩=>by
  have:=qK5 a n _ h'
  have:=qXe x n h.sc;have:=h.cnt
  simp only [Jt.p,Pf.mx,Pf.cnt];omega
 | .all u s a,n,hs,⟨_,_,h'⟩=>by
  have:=qK5 a (n+1) _ h'
  simp only [Jt.p,Pf.mx,Pf.cnt];omega
 | .ins u t a f,n,hs,⟨_,h,h',_⟩=>by
  have:=qK5 a n _ h'
  have:=qXq t n h.sc;have:=h.cnt
  simp only [Jt.p,Pf.mx,Pf.cnt];omega
 | .ex u x t a,n,hs,⟨h0,h,h',_⟩=>by
  have:=qK5 a n _ h'
  have:=qXq t n h.sc;have:=h.cnt
  have:=qXe x n h0.sc;have:=h0.cnt
  simp only [Jt.p,Pf.mx,Pf.cnt];omega
 | .ind l x t a b f,n,hs,⟨_,h0,h,h',_,_,h3⟩=>by
  have:=qK5 a n _ h'
  have:=qXq t n h.sc;have:=h.cnt
  have:=qXe x (n+1) h0.sc;have:=h0.cnt
  have h2:b.p.mx≤n+2+4096+2 * b.p.cnt:=by
   cases l
   ·have:=qK5 b (n+1) _ h3;omega
   ·exact qK5 b (n+2) _ h3
  simp only [Jt.p,Pf.mx,Pf.cnt];omega
 | .subst x a b f,n,hs,⟨_,h0,h,h',_⟩=>by
  have:=qK5 a n _ h
  have:=qK5 b n _ h'
  have:=qXe x (n+1) h0.sc;have:=h0.cnt
  simp only [Jt.p,Pf.mx,Pf.cnt];omega
theorem zEb {t:Tm} (h:t.chk=0):t.tsz≤mid→A 81 [t.p] (.bool true):=fun k=>by
 have hm:=qQd
 have hb:=qQh
 have q:=a86 t (by omega)
 rwa [(Tm.chk0 h).2] at q
theorem zEc {t:Fm} (h:t.chk=0):t.tsz≤mid→A 129 [t.p] (.bool true):=fun k=>by
 have q:=zQu t k
 rwa [(Fm.chk0 h).2] at q
theorem zLs {s:Ty} (h:s.size≤64):A 127 [s.p] (num 0):=by
 have hb:=qQh
 have q:=a84 s (by omega)
 have e:s.chk=0:=by
  rcases qZc s with e|e
  ·exact e
  ·exfalso;unfold Ty.chk at e;rw [qZ7 h] at e;cases e
 rwa [e] at q
theorem qAz:∀ p:Pf,p.ck→p.tsz≤mid→A 76 [p.p] (.bool true)
 | .leaf u i,_,_=>by cases u<;>exact f1 [(73,.T)] qQz
 | .refl t,h,k=>f2 [(73,.T),(85,.T)] qQz (zEb h k)
 | .p1 q a,h,k=>by cases q<;>exact f2 [(73,.T),(107,.T)] qQz (qAz a h k)
 | .p2 q a b,h,k=>by
  have k:max a.tsz b.tsz≤mid:=k
  cases q<;>exact f3 [(73,.T),(107,.T),(107,.T)] qQz (qAz a h.1 (by omega)) (qAz b h.2 (by omega))
 | .impI f a,h,k=>by
  have k:max f.tsz a.tsz≤mid:=k
  exact f3 [(73,.T),(96,.T),(107,.T)] qQz (zEc h.1 (by omega)) (qAz a h.2 (by omega))
 | .all u s a,h,k=>by
  have k:max a.tsz s.size≤mid:=k
  cases u<;>exact f2 [(63,.N 0),(107,.T)] (zLs h.1) (qAz a h.2 (by omega))
 | .ins u t a,h,k=>by
  have k:max t.tsz a.tsz≤mid:=k
  cases u<;>exact f3 [(73,.T),(85,.T),(107,.T)] qQz (zEb h.1 (by omega)) (qAz a h.2 (by omega))
 | .ex u f t a,h,k=>by
  have k:max (max t.tsz f.tsz) a.tsz≤mid:=k
  cases u<;>exact f4 [(73,.T),(85,.T),(96,.T),(107,.T)] qQz (zEb h.1 (by omega)) (zEc h.2.1 (by omega)) (qAz a h.2.2 (by omega))
 | .ind l f t a b,h,k=>by
  have k:max (max (max t.tsz f.tsz) a.tsz) b.tsz≤mid:=k
  cases l<;>exact f5 [(73,.T),(85,.T),(96,.T),(107,.T),(107,.T)] qQz (zEb h.1 (by omega)) (zEc h.2.1 (by omega)) (qAz a h.2.2.1 (by omega)) (qAz b h.2.2.2 (by omega))
 | .subst f a b,h,k=>by
  have k:max (max f.tsz a.tsz) b.tsz≤mid:=k
  exact f4 [(73,.T),(96,.T),(107,.T),(107,.T)] qQz (zEc h.1 (by omega)) (qAz a h.2.1 (by omega)) (qAz b h.2.2 (by omega))
theorem tsm {t:Tm} (h:t.chk=0):A 82 [t.p] (num t.cnt)∧ltI (.ofNat 4096) (.ofNat t.cnt)=false:=by
 have hb:=qQh
 have k:=(Tm.chk0 h).1
 exact⟨a87 t (by omega),qZ7 k⟩
theorem fsm {t:Fm} (h:t.chk=0):A 161 [t.p] (num t.cnt)∧ltI (.ofNat 4096) (.ofNat t.cnt)=false:=by
 have hb:=qQh
 have k:=(Fm.chk0 h).1
 exact⟨qIj t (by omega),qZ7 k⟩
theorem qA0:∀ p:Pf,p.ck→A 130 [p.p] (.bool true)
 | .leaf u i,_=>f0 []
 | .refl t,h=>f2 [(17,.N t.cnt),(18,.H)] (tsm h).1 (tsm h).2
 | .p1 q a,h=>f1 [(39,.T)] (qA0 a h)
 | .p2 q a b,h=>f2 [(39,.T),(39,.T)] (qA0 a h.1) (qA0 b h.2)
 | .impI f a,h=>f3 [(28,.N f.cnt),(29,.H),(39,.T)] (fsm h.1).1 (fsm h.1).2 (qA0 a h.2)
 | .all u s a,h=>f1 [(39,.T)] (qA0 a h.2)
 | .ins u t a,h=>f3 [(17,.N t.cnt),(18,.H),(39,.T)] (tsm h.1).1 (tsm h.1).2 (qA0 a h.2)
 | .ex u f t a,h=>f5 [(17,.N t.cnt),(18,.H),(28,.N f.cnt),(29,.H),(39,.T)] (tsm h.1).1 (tsm h.1).2 (fsm h.2.1).1 (fsm h.2.1).2 (qA0 a h.2.2)
 | .ind l f t a b,h=>f6 [(17,.N t.cnt),(18,.H),(28,.N f.cnt),(29,.H),(39,.T),(39,.T)] (tsm h.1).1 (tsm h.1).2 (fsm h.2.1).1 (fsm h.2.1).2 (qA0 a h.2.2.1) (qA0 b h.2.2.2)
 | .subst f a b,h=>f4 [(28,.N f.cnt),(29,.H),(39,.T),(39,.T)] (fsm h.1).1 (fsm h.1).2 (qA0 a h.2.1) (qA0 b h.2.2)
theorem zLt (p:Pf) (h:p.cnt≤16384) (h':p.tsz≤mid) (hc:p.ck):A 30 [p.p] (num 0):=by
 have hb:=qQh
 have e:(!ltI (.ofNat 16384) (.ofNat p.cnt))=true:=by rw [qZ7 h];rfl
 have g:A 77 [p.p] (.bool true):=f3 [(4,.T),(7,.N p.cnt),(8,.G)] (qA0 p hc) (qLr p (by omega)) e
 exact f2 [(4,.T),(7,.T)] (qAz p hc h') g
abbrev qDj:Nat:=536870912
theorem lsT:∀ t:Tm,t.mx≤qDj→A 35 [t.p,num qDj] (.bool true)
 | .v i,h=>f1 [(10,.H)] (qZ7 (a:=qDj) (b:=i) h)
 | .lam s b,h=>f1 [(20,.T)] (lsT b h)
 | .n0 k,_=>f0 []
 | .n1 k a,h=>f1 [(20,.T)] (lsT a h)
 | .n2 k a b,h=>by
  have h:max a.mx b.mx≤qDj:=h
  exact f2 [(20,.T),(20,.T)] (lsT a (by omega)) (lsT b (by omega))
 | .n3 k s a b c,h=>by
  have h:max a.mx (max b.mx c.mx)≤qDj:=h
  exact f3 [(20,.T),(20,.T),(20,.T)] (lsT a (by omega)) (lsT b (by omega)) (lsT c (by omega))
theorem lsF:∀ f:Fm,f.mx≤qDj→A 78 [f.p,num qDj] (.bool true)
 | .eq a b,h=>by
  have h:max a.mx b.mx≤qDj:=h
  exact f2 [(18,.T),(18,.T)] (lsT a (by omega)) (lsT b (by omega))
 | .bin k f g,h=>by
  have h:max f.mx g.mx≤qDj:=h
  exact f2 [(30,.T),(30,.T)] (lsF f (by omega)) (lsF g (by omega))
 | .q k s f,h=>f1 [(30,.T)] (lsF f h)
theorem lsP:∀ p:Pf,p.mx≤qDj→A 31 [p.p,num qDj] (.bool true)
 | .leaf u i,_=>f0 []
 | .refl t,h=>f1 [(20,.T)] (lsT t h)
 | .p1 q a,h=>f1 [(44,.T)] (lsP a h)
 | .p2 q a b,h=>by
  have h:max a.mx b.mx≤qDj:=h
  exact f2 [(44,.T),(44,.T)] (lsP a (by omega)) (lsP b (by omega))
 | .impI f a,h=>by
  have h:max f.mx a.mx≤qDj:=h
  exact f2 [(32,.T),(44,.T)] (lsF f (by omega)) (lsP a (by omega))
 | .all u s a,h=>f1 [(44,.T)] (lsP a h)
 | .ins u t a,h=>by
  have h:max t.mx a.mx≤qDj:=h
  exact f2 [(20,.T),(44,.T)] (lsT t (by omega)) (lsP a (by omega))
 | .ex u f t a,h=>by
  have h:max (max t.mx f.mx) a.mx≤qDj:=h
  exact f3 [(20,.T),(32,.T),(44,.T)] (lsT t (by omega)) (lsF f (by omega)) (lsP a (by omega))
 | .ind l f t a b,h=>by
  have h:max (max (max t.mx f.mx) a.mx) b.mx≤qDj:=h
  exact f4 [(20,.T),(32,.T),(44,.T),(44,.T)] (lsT t (by omega)) (lsF f (by omega)) (lsP a (by omega)) (lsP b (by omega))
 | .subst f a b,h=>by
  have h:max (max f.mx a.mx) b.mx≤qDj:=h
  exact f3 [(32,.T),(44,.T),(44,.T)] (lsF f (by omega)) (lsP a (by omega)) (lsP b (by omega))
theorem upP (k:Nat) (hk:k≤mid):∀ (p:Pf) (c:Nat),p.mx≤mid * mid→c+2 * p.cnt≤mid→A 33 [p.p,num c,num k] (p.lf k c).p
 | .leaf u i,c,_,_=>f0 []
 | .refl t,c,h,h'=>by
  have h':c+2 * (1+t.cnt)≤mid:=h'
  have hm:=qQd
  exact f1 [(33,.r (t.sh c (.ofNat k)).p)] (qHp t c (.ofNat k) (by simp;omega) (by simp;omega) h (by omega))
 | .p1 q a,c,h,h'=>by
  have h':c+2 * (1+a.cnt)≤mid:=h'
  have hm:=qQd
  have g0:=inN (show c≤_ by omega)
  cases q<;>exact f2 [(75,.ok),(77,.r (a.lf k c).p)] g0 (upP k hk a c h (by omega))
 | .p2 q a b,c,h,h'=>by
  have h:max a.mx b.mx≤mid * mid:=h
  have h':c+2 * (1+a.cnt+b.cnt)≤mid:=h'
  have hm:=qQd
  have g0:=inN (show c≤_ by omega)
  have g1:=inN (show c+1≤_ by omega)
  have ga:=upP k hk a c (by omega) (by omega)
  have gb:=upP k hk b c (by omega) (by omega)
  have gc:=upP k hk b (c+1) (by omega) (by omega)
  cases q
  ·exact f4 [(75,.ok),(77,.r (a.lf k c).p),(75,.ok),(77,.r (b.lf k c).p)] g0 ga g0 gb
  ·exact f4 [(75,.ok),(77,.r (a.lf k c).p),(75,.ok),(77,.r (b.lf k c).p)] g0 ga g0 gb
  ·exact f4 [(75,.ok),(77,.r (a.lf k c).p),(75,.ok),(77,.r (b.lf k (c+1)).p)] g0 ga g1 gc
  ·exact f4 [(75,.ok),(77,.r (a.lf k c).p),(75,.ok),(77,.r (b.lf k (c+1)).p)] g0 ga g1 gc
 | .impI f a,c,h,h'=>by
  have h:max f.mx a.mx≤mid * mid:=h
  have h':c+2 * (1+f.cnt+a.cnt)≤mid:=h'
  have hm:=qQd
  have g0:=inN (show c≤_ by omega)
  exact f4 [(52,.ok),(54,.r (f.sh c (.ofNat k)).p),(75,.ok),(77,.r (a.lf k c).p)] g0 (a53 f c (.ofNat k) (by simp;omega) (by simp;omega) (by omega) (by omega)) g0 (upP k hk a c (by omega) (by omega))
 | .all u s a,c,h,h'=>by
  have h':c+2 * (1+a.cnt)≤mid:=h'
  have hm:=qQd
  have g1:=inN (show c+1≤_ by omega)
  cases u<;>exact f2 [(75,.ok),(77,.r (a.lf k (c+1)).p)] g1 (upP k hk a (c+1) h (by omega))
 | .ins u t a,c,h,h'=>by
  have h:max t.mx a.mx≤mid * mid:=h
  have h':c+2 * (1+t.cnt+a.cnt)≤mid:=h'
  have hm:=qQd
  have g0:=inN (show c≤_ by omega)
  cases u<;>exact f3 [(33,.r (t.sh c (.ofNat k)).p),(75,.ok),(77,.r (a.lf k c).p)] (qHp t c (.ofNat k) (by simp;omega) (by simp;omega) (by omega) (by omega)) g0 (upP k hk a c (by omega) (by omega))
 | .ex u f t a,c,h,h'=>by
  have h:max (max t.mx f.mx) a.mx≤mid * mid:=h
  have h':c+2 * (1+t.cnt+f.cnt+a.cnt)≤mid:=h'
  have hm:=qQd
  have g0:=inN (show c≤_ by omega)
  cases u<;>exact f5 [(33,.r (t.sh c (.ofNat k)).p),(52,.ok),(54,.r (f.sh c (.ofNat k)).p),(75,.ok),(77,.r (a.lf k c).p)] (qHp t c (.ofNat k) (by simp;omega) (by simp;omega) (by omega) (by omega)) g0 (a53 f c (.ofNat k) (by simp;omega) (by simp;omega) (by omega) (by omega)) g0 (upP k hk a c (by omega) (by omega))
 | .ind l f t a b,c,h,h'=>by
  have h:max (max (max t.mx f.mx) a.mx) b.mx≤mid * mid:=h
  have h':c+2 * (1+t.cnt+f.cnt+a.cnt+b.cnt)≤mid:=h'
  have hm:=qQd
  have hf:=qBe t
  have g0:=inN (show c≤_ by omega)
  have g1:=inN (show c+1≤_ by omega)
  have g2:=inN (show c+2≤_ by omega)
  have gt:=qHp t c (.ofNat k) (by simp;omega) (by simp;omega) (by omega) (by omega)
  have gf:=a53 f (c+1) (.ofNat k) (by simp;omega) (by simp;omega) (by omega) (by omega)
  have ga:=upP k hk a c (by omega) (by omega)
  cases l
  ·exact f7 [(33,.r (t.sh c (.ofNat k)).p),(52,.ok),(54,.r (f.sh (c+1) (.ofNat k)).p),(75,.ok),(77,.r (a.lf k c).p),(75,.ok),(77,.r (b.lf k (c+1)).p)] gt g1 gf g0 ga g1 (upP k hk b (c+1) (by omega) (by omega))
  ·exact f7 [(33,.r (t.sh c (.ofNat k)).p),(52,.ok),(54,.r (f.sh (c+1) (.ofNat k)).p),(75,.ok),(77,.r (a.lf k c).p),(75,.ok),(77,.r (b.lf k (c+2)).p)] gt g1 gf g0 ga g2 (upP k hk b (c+2) (by omega) (by omega))
 | .subst f a b,c,h,h'=>by
  have h:max (max f.mx a.mx) b.mx≤mid * mid:=h
  have h':c+2 * (1+f.cnt+a.cnt+b.cnt)≤mid:=h'
  have hm:=qQd
  have g0:=inN (show c≤_ by omega)
  have g1:=inN (show c+1≤_ by omega)
  exact f6 [(52,.ok),(54,.r (f.sh (c+1) (.ofNat k)).p),(75,.ok),(77,.r (a.lf k c).p),(75,.ok),(77,.r (b.lf k c).p)] g1 (a53 f (c+1) (.ofNat k) (by simp;omega) (by simp;omega) (by omega) (by omega)) g0 (upP k hk a c (by omega) (by omega)) g0 (upP k hk b c (by omega) (by omega))
theorem zFr {p:Pf} (hc:p.ck) (h1:p.cnt≤16384) (h2:p.tsz≤mid) (h3:p.mx≤qDj):A 11 [p.p,num 0,num 1] (.tuple [(p.lf 1 0).p,num 0]):=by
 have hm:=qQd
 have e2:mid * mid=1125899906842624:=rfl
 have e3:qDj=536870912:=rfl
 exact f4 [(10,.N 0),(31,.T),(38,.r (p.lf 1 0).p),(39,.r (p.lf 1 0).p)] (zLt p h1 h2 hc) (lsP p h3) (upP 1 (by omega) p 0 (by omega) (by omega)) (qIk (p.lf 1 0))
theorem zFs {n:Nat} {t:Tm} (h:TK n t) (hn:n≤lim):A 13 [t.p,num 0,num 1] (.tuple [(t.sh 0 (.ofNat 1)).p,num 0]):=by
 have hm:=qQd
 have hb:=qQh
 have hl:lim=100000:=rfl
 have c:=h.cnt
 have c2:=qZ2 t h.shp
 have c3:=h.mx hn
 have e2:mid * mid=1125899906842624:=rfl
 have e3:qDj=536870912:=rfl
 have g1:=a31 t (by omega) (by omega)
 rw [h.chk] at g1
 exact f4 [(10,.N 0),(31,.T),(38,.r (t.sh 0 (.ofNat 1)).p),(39,.r (t.sh 0 (.ofNat 1)).p)] g1 (lsT t (by omega)) (qHp t 0 (.ofNat 1) (by decide) (by decide) (by omega) (by omega)) (a65 (t.sh 0 (.ofNat 1)))
theorem a16 {L:List Int} (hL:Dk L) {a:Nat} (ha:a≤L.length):∃ (g:List Ty) (b:Nat),g.length≤3∧(∀ s∈g,s.size≤3)∧b≤L.length∧O 7 [.loc 0 0] [(0,dk L a)] (.pv (tys g)) [(0,dk L b)]:=by
 have hm:=qQd
 obtain⟨x,b,hx,hb1,g1⟩:=nx hL ha (n:=4) (by omega) (by omega)
 obtain⟨t,c,z1,hc,g2⟩:=a37 hL 1 (by omega) hb1
 obtain⟨u,d,z2,hd,g3⟩:=a37 hL 1 (by omega) hc
 obtain⟨v,e,z3,he,g4⟩:=a37 hL 1 (by omega) hd
 have hs:∀ s:Ty,s.size≤tsM 1→s.size≤3:=fun s h=>h
 rcases x with _|_|_|_|x
 ·exact⟨[],b,by simp,by simp,hb1,o1 1 [(6,.D L b (.pv (num 0)))] g1⟩
 ·exact⟨[t],c,by simp,by simpa using hs t z1,hc,o2 1 [(6,.D L b (.pv (num 1))),(13,.D L c (.pv t.p))] g1 g2⟩
 ·exact⟨[t,u],d,by simp,by simp;exact⟨hs t z1,hs u z2⟩,hd,o3 1 [(6,.D L b (.pv (num 2))),(13,.D L c (.pv t.p)),(13,.D L d (.pv u.p))] g1 g2 g3⟩
 ·exact⟨[t,u,v],e,by simp,by simp;exact⟨hs t z1,hs u z2,hs v z3⟩,he,o4 1 [(6,.D L b (.pv (num 3))),(13,.D L c (.pv t.p)),(13,.D L d (.pv u.p)),(13,.D L e (.pv v.p))] g1 g2 g3 g4⟩
 ·omega
open Go.Lg
set_option maxRecDepth 100000
theorem zFt:shR 0 1=(· + 1):=by
 funext i
 simp [shR]
theorem zFu {g:List Ty} (hg:g.length≤3) (hgs:∀ s∈g,s.size≤3) {more:Ty} (hm:more.size≤3) {j:Jt} (hD:j.D [] g []) (hc:j.p.ck) (hp:j.p.cnt≤16384) (hd:j.p.dp≤5) :
  ∃ r1 r2 r3:XR,A 9 [fms [],row [],qJy g [],j.p.p] r1.p∧A 9 [fms [],row [],qJy (more::g) [],j.p.p] r2.p∧A 9 [fms [],row [],qJy (g++[more]) [],(j.p.lf 1 0).p] r3.p ∧
   ((r1 = .er .z 39∧r2 = .er .z 39∧r3 = .er .z 39) ∨ ∃ t,r1.Gd g.length t∧r2.Gd (g.length+1) t∧r3.Gd (g.length+1) (t.sh 0 (.ofNat 1))):=by
 have hgs':∀ s∈g,s.size≤64:=fun s h=>by have:=hgs s h;omega
 have hf1:∀ s∈more::g,s.size≤64:=fun s h=>by
  rcases List.mem_cons.1 h with rfl|h
  ·omega
  ·exact hgs' s h
 have hb1:∀ s∈g++[more],s.size≤64:=fun s h=>by
  rcases List.mem_append.1 h with h|h
  ·exact hgs' s h
  ·simp at h;subst h;omega
 have e1:(more::g).length=g.length+1:=rfl
 have e2:(g++[more]).length=g.length+1:=by simp
 have hd:j.dp≤5:=by rw [← qA1];exact hd
 have hR:=qT1 g more
 rw [← zFt] at hR
 have e3:=qW0 1 j 0
 have e4:=qJs j
 cases hf:j.f.has
 ·have k2:=qT3 (by omega) hf1 (qNr g more) (by omega) hD hc hp hf
  have k3:=qT3 (by omega) hb1 hR (by omega) hD hc hp hf
  rw [e4] at k2
  rw [e3] at k3
  exact⟨_,_,_,zWm g (by omega) hgs' j hD hc hp hf,k2,k3,.inl ⟨rfl,rfl,rfl⟩⟩
 ·obtain⟨r1,k1,q1⟩:=a10 g (by omega) hgs' j hD hc hp hf
  obtain⟨r2,k2,q2⟩:=qT2 (by omega) hgs' (by omega) hf1 (qNr g more) (fun i h=>by omega) (by omega) hD hc hp hf
  obtain⟨r3,k3,q3⟩:=qT2 (by omega) hgs' (by omega) hb1 hR (fun i h=>by show (if 0≤i then i+1 else i)<_;rw [if_pos (Nat.zero_le _)];omega) (by omega) hD hc hp hf
  rw [e4] at k2
  rw [e3] at k3
  rw [qEn,e1] at q2
  rw [e2] at q3
  exact⟨r1,r2,r3,k1,k2,k3,.inr ⟨_,q1,q2,by rw [qC4];exact q3⟩⟩
theorem zBk (X Y:List Ty) (h:X.length+Y.length≤mid) {v:Nat} : (Nat.beq v v && Nat.ble (pvE (X.map Ty.c)).length (pvE (X.map Ty.c)).length && Nat.beq 30 30 && Nat.beq 2 2 && Nat.blt 0 2 && qAx 2 (pvE (Y.map Ty.c)) && qJq (pvE (Y.map Ty.c)) && Nat.ble ((pvE (X.map Ty.c)).length+(pvE (Y.map Ty.c)).length) maxLen && Nat.ble (((pvE (X.map Ty.c)).length+(pvE (Y.map Ty.c)).length) * 32) 140737488355328)=true:=by
 have hm:=qQd
 obtain⟨s1,s2⟩:=qWp (c:=Ty.c) (n:=2) Ty.c_len (fun _=>rfl) Y
 exact qOt rfl (by decide) s1 s2 (by rw [pvE_len,pvE_len];simp only [List.length_map,maxLen];omega) (by rw [pvE_len,pvE_len];simp only [List.length_map];omega)
abbrev ct (X Y:List Ty):PV:=.slice (List.take ((pvE (X.map Ty.c)).length+(pvE (Y.map Ty.c)).length) (X.map Ty.c++Y.map Ty.c))
theorem zIg (X Y:List Ty):tys (X++Y)=ct X Y:=by
 show PV.slice _=_
 rw [List.map_append,← qNj]
abbrev tpH (L:List Int) (b1 b2 b3:Nat) (g:List Ty) (p:Pf) (r:PR) (more:Ty) (r1 r2 r3:XR) (tl:Di):Di:=(20,.T)::(24,.T)::(31,.D L b1 (.pv (tys g)))::(36,.D L b2 (.pv (.tuple [p.p,r.v])))::(43,.r r1.p)::(47,.D L b3 (.pv more.p))::(49,.ok)::(51,.ok)::(300008,.f 5 (more.c::g.map Ty.c))::(56,.r r2.p)::(61,.U [(p.lf 1 0).p,num 0])::(65,.ok)::(68,.ok)::(300011,.f 8 (g.map Ty.c++[more.c]))::(73,.r r3.p)::tl
theorem zQm (H:MF) (hA:A 4 [] (.bool true)) {L:List Int} (hr:∀ z∈L,-9223372036854775808≤z∧z≤9223372036854775807):A 3 [.slice (L.map zc1)] (.bool true):=by
 have hm:=qQd
 have hbg:=qQh
 have gf:=a5 L
 by_cases hlen:L.length≤500
 rotate_left
 ·rw [decide_eq_false hlen] at gf
  exact f3 [(20,.T),(24,.F),(27,.T)] hA gf hA
 rw [decide_eq_true hlen] at gf
 have hL:Dk L:=⟨hlen,hr⟩
 obtain⟨g,b1,hg,hgs,hb1,g1⟩:=a16 hL (a:=0) (Nat.zero_le _)
 have hS:S19 M20 [] g []:=⟨by simp,by simp,by omega,hgs,by simp,by simp,Nat.le_refl _⟩
 obtain⟨p,r,b2,hr3,qp,qr,hb2,g2⟩:=a9 H hL hS hb1
 obtain⟨more,b3,hmo,hb3,g3⟩:=a37 hL 1 (by omega) hb2
 have hmo:more.size≤3:=hmo
 have key:∃ j:Jt,j.p=p∧j.D [] g []∧j.p.ck∧j.p.cnt≤16384:=by
  rcases hr3 with ⟨f,u,rfl⟩|⟨y,rfl,hy⟩
  ·obtain⟨-,hc,hp,⟨j,rfl,-,hD,-⟩,-⟩:=qr f u rfl
   exact⟨j,rfl,hD,hc,hp⟩
  ·refine⟨.refl (qJt y),rfl,?_⟩
   rcases y with _|_|_|_|y
   ·exact⟨⟨rfl,rfl,rfl⟩,rfl,by decide⟩
   ·exact⟨⟨rfl,rfl,rfl⟩,rfl,by decide⟩
   ·exact⟨⟨rfl,rfl,rfl⟩,rfl,by decide⟩
   ·exact⟨⟨rfl,rfl,rfl⟩,rfl,by decide⟩
   ·omega
 obtain⟨j,rfl,hD,hc,hp⟩:=key
 obtain⟨r1,r2,r3,k1,k2,k3,hq⟩:=zFu hg hgs hmo hD hc hp qp.dp
 have hO:=(qH1 (ls:=[]) (fun f h=>nomatch h) j g [] hD (fun s h=>by have:=hgs s h;omega) (by omega) (fun f h=>nomatch h) hc).1
 have hx:=qK5 j g.length [] hO
 have kl:=zFr hc hp qp.tsz (by have e3:qDj=536870912:=rfl;omega)
 have k2:A 9 [fms [],row [],.agg [ct [more] g,fms []],j.p.p] r2.p:=by rw [← zIg];exact k2
 have k3:A 9 [fms [],row [],.agg [ct g [more],fms []],(j.p.lf 1 0).p] r3.p:=by rw [← zIg];exact k3
 have c8:=zBk [more] g (v:=0) (by simp;omega)
 have c11:=zBk g [more] (v:=1) (by simp;omega)
 have c65:=zG8 (c:=Ty.c) (n:=2) (m:=32) Ty.c_len (fun _=>rfl) (by decide) g (by omega) (by simp only [maxLen];omega)
 have e8:=qGb ([more].map Ty.c) (g.map Ty.c)
 have e11:=qGb (g.map Ty.c) ([more].map Ty.c)
 have tt:true=true:=rfl
 rcases hq with ⟨rfl,rfl,rfl⟩|⟨t,q1,q2,q3⟩
 ·exact f15 (tpH L b1 b2 b3 g j.p r more (.er .z 39) (.er .z 39) (.er .z 39) []) hA gf g1 g2 k1 g3 tt c8 e8 k2 kl c65 c11 e11 k3
 cases r1 with
 | er x n =>
  have q1:n=3:=q1
  subst q1
  exact f15 (tpH L b1 b2 b3 g j.p r more (.er x 3) r2 r3 []) hA gf g1 g2 k1 g3 tt c8 e8 k2 kl c65 c11 e11 k3
 | ok t1=>cases r2 with
  | er x n =>
   have q2:n=3:=q2
   subst q2
   exact f15 (tpH L b1 b2 b3 g j.p r more (.ok t1) (.er x 3) r3 []) hA gf g1 g2 k1 g3 tt c8 e8 k2 kl c65 c11 e11 k3
  | ok t2=>cases r3 with
   | er x n =>
    have q3:n=3:=q3
    subst q3
    exact f15 (tpH L b1 b2 b3 g j.p r more (.ok t1) (.ok t2) (.er x 3) []) hA gf g1 g2 k1 g3 tt c8 e8 k2 kl c65 c11 e11 k3
   | ok t3 =>
    obtain⟨h1,rfl⟩:=q1
    obtain⟨_,rfl⟩:=q2
    obtain⟨_,rfl⟩:=q3
    obtain⟨w,s1,z1⟩:=qSg t2 t2
    rw [z1.2 rfl] at s1
    obtain⟨w,s2,z2⟩:=qSg (t2.sh 0 (.ofNat 1)) (t2.sh 0 (.ofNat 1))
    rw [z2.2 rfl] at s2
    exact f18 (tpH L b1 b2 b3 g j.p r more (.ok t2) (.ok t2) (.ok (t2.sh 0 (.ofNat 1))) [(120,.U [(t2.sh 0 (.ofNat 1)).p,num 0]),(128,.T),(133,.T)]) hA gf g1 g2 k1 g3 tt c8 e8 k2 kl c65 c11 e11 k3 (zFs h1 (by have hl:lim=100000:=rfl;omega)) s1 s2
end Go.Proofs.YtalkjpicadiimaaGreatDoor
