/- Contracts of functions; no conditions. -/
import Derived.Test.YtmkajedkflhbgaaGreatDoorIC4
set_option linter.all false
set_option maxHeartbeats 4000000
namespace Go.Proofs.YtmkajedkflhbgaaGreatDoor
open Go.Lg
set_option maxRecDepth 100000
theorem uT (a b:Nat):true=true/\(bif kA (.ofNat a) (.ofNat b) then Int.ofNat b else .ofNat a) = .ofNat (max a b):=by
 refine⟨rfl,?_⟩;by_cases h:a<b
 ·rw [aA h];show Int.ofNat b=_;rw [Nat.max_eq_right (by omega)]
 ·rw [CA];show Int.ofNat a=_;rw [Nat.max_eq_left (by omega)]
theorem OP (b:Nat):true=true/\(bif kA (.ofNat 0) (.ofNat b) then Int.ofNat b else .ofNat 0) = .ofNat b:=by
 have:=uT 0 b;rwa [Nat.zero_max] at this
theorem Oo (b:Nat):true=true/\(bif kA 0 (.ofNat b-1) then Int.ofNat b-1 else 0) = .ofNat (b-1):=by
 refine⟨rfl,?_⟩
 cases b with
 | zero=>rfl
 | succ n =>
  have e:(Int.ofNat (n+1)-1) = .ofNat n:=by simp
  rw [e];exact (OP n).2
theorem Po (b:Nat) (h:b<=dA):rA (Int.ofNat b-1)=true/\Int.ofNat b-1=Int.ofNat b-1:=by
 have hb:=uA;exact⟨qN (by simp;omega) (by simp;omega),rfl⟩
theorem bT (n:Nat) (h:1+n<=dA:=by omega):rA (1+Int.ofNat n)=true/\1+Int.ofNat n=Int.ofNat (1+n):=AA (a:=1) (b:=n) h
theorem oX (i:Nat) (h:i+1<=dA:=by omega):A 332 [num 1,num i,zt,.slice []] (Tm.v i).nd' :=
 f1 [(53,.z (i+1)),(300013,.fb 1 (some true))] (AA (a:=i) (b:=1) h)
theorem Qo (k:K0):A 332 [num k.n,num 0,zt,.slice []] (Tm.n0 k).nd':=by
 cases k<;>exact f0 [(300013,.fb 1 (some true))]
theorem be (s:Ty) (b:Tm) (h:1+b.cnt<=dA) (h':b.fr<=dA):A 332 [num 2,num 0,s.p,.slice [[b.nd']]] (Tm.lam s b).nd' :=
 f4 [(32,.z (1+b.cnt)),(44,.z b.fr),(63,.y (Int.ofNat b.fr-1)),(64,.z (b.fr-1)),(300013,.fb 1 (some b.nf))] (bT b.cnt h) (OP b.fr) (Po b.fr h') (Oo b.fr)
theorem de (k:K1) (a:Tm) (h:1+a.cnt<=dA):A 332 [num k.n,num 0,zt,.slice [[a.nd']]] (Tm.n1 k a).nd':=by
 have g1:=bT a.cnt h;have g2:=OP a.fr
 cases k with
 | succ=>exact f2 [(32,.z (1+a.cnt)),(44,.z a.fr),(300013,.fb 1 (some (Tm.n1 .succ a).nf))] g1 g2
 | fst=>exact f2 [(32,.z (1+a.cnt)),(44,.z a.fr),(300013,.fb 1 (some (Tm.n1 .fst a).nf))] g1 g2
 | snd=>exact f2 [(32,.z (1+a.cnt)),(44,.z a.fr),(300013,.fb 1 (some (Tm.n1 .snd a).nf))] g1 g2
theorem QP (k:K2) (a b:Tm) (h:1+a.cnt+b.cnt<=dA:=by omega):A 332 [num k.n,num 0,zt,.slice [[a.nd'],[b.nd']]] (Tm.n2 k a b).nd':=by
 have g1:=bT a.cnt;have g2:=OP a.fr;have g3:=AA (a:=1+a.cnt) (b:=b.cnt) h;have g4:=uT a.fr b.fr
 cases k with
 | app=>exact f4 [(32,.z (1+a.cnt)),(44,.z a.fr),(32,.z (1+a.cnt+b.cnt)),(44,.z (max a.fr b.fr)),(300013,.fb 1 (some (Tm.n2 .app a b).nf))] g1 g2 g3 g4
 | cons=>exact f4 [(32,.z (1+a.cnt)),(44,.z a.fr),(32,.z (1+a.cnt+b.cnt)),(44,.z (max a.fr b.fr)),(300013,.fb 1 (some (Tm.n2 .cons a b).nf))] g1 g2 g3 g4
 | pair=>exact f4 [(32,.z (1+a.cnt)),(44,.z a.fr),(32,.z (1+a.cnt+b.cnt)),(44,.z (max a.fr b.fr)),(300013,.fb 1 (some (Tm.n2 .pair a b).nf))] g1 g2 g3 g4
theorem fe (k:K3) (s:Ty) (a b c:Tm) (h:1+a.cnt+b.cnt+c.cnt<=dA):A 332 [num k.n,num 0,s.p,.slice [[a.nd'],[b.nd'],[c.nd']]] (Tm.n3 k s a b c).nd':=by
 have g1:=bT a.cnt;have g2:=OP a.fr;have g3:=AA (a:=1+a.cnt) (b:=b.cnt);have g4:=uT a.fr b.fr;have g5:=AA (a:=1+a.cnt+b.cnt) (b:=c.cnt) h;have g6:=uT (max a.fr b.fr) c.fr
 cases k with
 | re=>exact f6 [(32,.z (1+a.cnt)),(44,.z a.fr),(32,.z (1+a.cnt+b.cnt)),(44,.z (max a.fr b.fr)),(32,.z (1+a.cnt+b.cnt+c.cnt)),(44,.z (max (max a.fr b.fr) c.fr)),(300013,.fb 1 (some (Tm.n3 .re s a b c).nf))] g1 g2 g3 g4 g5 g6
 | fo=>exact f6 [(32,.z (1+a.cnt)),(44,.z a.fr),(32,.z (1+a.cnt+b.cnt)),(44,.z (max a.fr b.fr)),(32,.z (1+a.cnt+b.cnt+c.cnt)),(44,.z (max (max a.fr b.fr) c.fr)),(300013,.fb 1 (some (Tm.n3 .fo s a b c).nf))] g1 g2 g3 g4 g5 g6
theorem xX (s:Ty) (b x:Tm) (h:1+x.cnt<=dA) (h':x.fr<=dA):A 348 [(Tm.lam s b).nd',.slice [[x.nd']]] (Tm.lam s x).nd':=f1 [(18,.r (Tm.lam s x).nd')] (be s x h h')
theorem AX (k:K1) (b x:Tm) (h:1+x.cnt<=dA:=by omega):A 348 [(Tm.n1 k b).nd',.slice [[x.nd']]] (Tm.n1 k x).nd':=f1 [(18,.r (Tm.n1 k x).nd')] (de k x h)
theorem dT (k:K2) (a b x y:Tm) (h:1+x.cnt+y.cnt<=dA:=by omega):A 348 [(Tm.n2 k a b).nd',.slice [[x.nd'],[y.nd']]] (Tm.n2 k x y).nd':=f1 [(18,.r (Tm.n2 k x y).nd')] (QP k x y h)
theorem RL (k:K3) (s:Ty) (a b c x y z:Tm) (h:1+x.cnt+y.cnt+z.cnt<=dA:=by omega):A 348 [(Tm.n3 k s a b c).nd',.slice [[x.nd'],[y.nd'],[z.nd']]] (Tm.n3 k s x y z).nd':=f1 [(18,.r (Tm.n3 k s x y z).nd')] (fe k s x y z h)
theorem BX (f a:Tm) (h:1+f.cnt+a.cnt<=dA:=by omega):A 353 [f.nd',.slice [[a.nd']]] (Tm.n2 .app f a).nd':=f1 [(17,.r (Tm.n2 .app f a).nd')] (QP .app f a h)
theorem Ro (f a b:Tm) (h:1+(1+f.cnt+a.cnt)+b.cnt<=dA:=by omega):A 353 [f.nd',.slice [[a.nd'],[b.nd']]] (Tm.n2 .app (.n2 .app f a) b).nd' :=
 f2 [(17,.r (Tm.n2 .app f a).nd'),(17,.r (Tm.n2 .app (.n2 .app f a) b).nd')] (QP .app f a) (QP .app (.n2 .app f a) b h)
theorem So (t:Tm) {n:Nat} (h:t.mx+1<=n):t.fr<=n:=Nat.le_trans (VG t) h
theorem uK:∀ t:Tm,t.cnt<=dA->t.mx+1<=dA->A 311 [t.p] t.nd'
 | .v i,h,h'=>f1 [(26,.r (Tm.v i).nd')] (oX i h')
 | .lam s b,h,h'=>by
  have h:1+b.cnt<=dA:=h;exact f3 [(15,.r b.nd'),(300003,.ok),(300003,.f 2 [[b.nd']]),(26,.r (Tm.lam s b).nd')] (uK b (by omega) h') (rfl:vA [[b.nd']]=vA [[b.nd']]) (be s b h (So b h'))
 | .n0 k,h,h'=>f1 [(26,.r (Tm.n0 k).nd')] (Qo k)
 | .n1 k a,h,h'=>by
  have h:1+a.cnt<=dA:=h;exact f3 [(15,.r a.nd'),(300003,.ok),(300003,.f 2 [[a.nd']]),(26,.r (Tm.n1 k a).nd')] (uK a (by omega) h') (rfl:vA [[a.nd']]=vA [[a.nd']]) (de k a h)
 | .n2 k a b,h,h'=>by
  have h:1+a.cnt+b.cnt<=dA:=h;have h':max a.mx b.mx+1<=dA:=h';exact f4 [(15,.r a.nd'),(15,.r b.nd'),(300003,.ok),(300003,.ok),(300003,.f 2 [[a.nd'],[b.nd']]),(26,.r (Tm.n2 k a b).nd')] (uK a (by omega) (by omega)) (uK b (by omega) (by omega)) (rfl:vA [[a.nd'],[b.nd']]=vA [[a.nd'],[b.nd']]) (QP k a b h)
 | .n3 k s a b c,h,h'=>by
  have h:1+a.cnt+b.cnt+c.cnt<=dA:=h;have h':max a.mx (max b.mx c.mx)+1<=dA:=h';exact f5 [(15,.r a.nd'),(15,.r b.nd'),(15,.r c.nd'),(300003,.ok),(300003,.ok),(300003,.ok),(300003,.f 2 [[a.nd'],[b.nd'],[c.nd']]),(26,.r (Tm.n3 k s a b c).nd')] (uK a (by omega) (by omega)) (uK b (by omega) (by omega)) (uK c (by omega) (by omega)) (rfl:vA [[a.nd'],[b.nd'],[c.nd']]=vA [[a.nd'],[b.nd'],[c.nd']]) (fe k s a b c h)
theorem SI:∀ t:Tm,A 313 [t.nd'] t.p
 | .v i=>f1 [(18,.r zt)] CC
 | .lam s b=>f2 [(18,.r s.p),(32,.r b.p)] (sE s) (SI b)
 | .n0 k=>f1 [(18,.r zt)] CC
 | .n1 k b=>f2 [(18,.r zt),(32,.r b.p)] CC (SI b)
 | .n2 k b c=>f3 [(18,.r zt),(32,.r b.p),(32,.r c.p)] CC (SI b) (SI c)
 | .n3 k s b c d=>f4 [(18,.r s.p),(32,.r b.p),(32,.r c.p),(32,.r d.p)] (sE s) (SI b) (SI c) (SI d)
theorem OE (t:Tm):A 335 [t.nd'] (.bool t.red.isSome):=by
 cases t with
 | v i=>exact f0 []
 | lam s b=>exact f0 []
 | n0 k=>cases k<;>exact f0 []
 | n1 k a=>cases k with
  | succ=>exact f0 []
  | _=>cases a with
   | v i=>exact f0 []
   | lam s b=>exact f0 []
   | n0 l=>cases l<;>exact f0 []
   | n1 l a=>cases l<;>exact f0 []
   | n2 l a b=>cases l<;>exact f0 []
   | n3 l s a b c=>cases l<;>exact f0 []
 | n2 k f b=>cases k with
  | app=>cases f with
   | v i=>exact f0 []
   | lam s b=>exact f0 []
   | n0 l=>cases l<;>exact f0 []
   | n1 l a=>cases l<;>exact f0 []
   | n2 l a b=>cases l<;>exact f0 []
   | n3 l s a b c=>cases l<;>exact f0 []
  | _=>exact f0 []
 | n3 k s a b d=>cases k<;>cases d with
   | v i=>exact f0 []
   | lam s b=>exact f0 []
   | n0 l=>cases l<;>exact f0 []
   | n1 l a=>cases l<;>exact f0 []
   | n2 l a b=>cases l<;>exact f0 []
   | n3 l s a b c=>cases l<;>exact f0 []
theorem cN {t:Tm} {c z:Nat} (H:(!kA (.ofNat c) (.ofNat t.fr))=false->lB (.ofNat z) (.ofNat 0)=false->c<t.fr->A 355 [t.nd',num c,num z] (t.sh c (.ofNat z)).nd'):A 355 [t.nd',num c,num z] (t.sh c (.ofNat z)).nd':=by
 by_cases h:t.fr<=c
 ·rw [wK _ t c h];exact f1 [(15,.G)] (iH (a:=c) (b:=t.fr) h)
 ·by_cases h1:z=0
  ·subst h1;rw [tF];exact f2 [(15,.H),(18,.G)] (lF (a:=c) (b:=t.fr)) (xI 0)
  ·exact H (lF) (YF h1) (by omega)
theorem To {t:Tm} {c z:Nat} (hz:z<=2 * qA) (h:t.mx<=qA * qA):(t.sh c (.ofNat z)).fr<=dA:=by
 have h1:=VG (t.sh c (.ofNat z));have h2:=nE (.ofNat z) t c;have hm:=jA;have hb:=uA;rw [hm] at h hz;have e:(Int.ofNat z).toNat=z:=rfl;rw [e] at h2;omega
theorem bK (z:Nat) (hz:z<=2 * qA):∀ (t:Tm) (c:Nat),c+t.cnt<=qA->t.mx<=qA * qA->A 355 [t.nd',num c,num z] (t.sh c (.ofNat z)).nd'
 | .v i,c,h,h'=>cN λ g1 g2 hc=>by
  have hm:=jA;have hb:=uA;have h':i<=qA * qA:=h';rw [hm] at h';have hc:c<i+1:=hc;have e:(Tm.v i).sh c (.ofNat z) = .v (i+z):=by simp only [Tm.sh,if_pos (show c<=i by omega)];rfl
  rw [e];exact f4 [(15,.H),(18,.H),(35,.z (i+z)),(40,.r (Tm.v (i+z)).nd')] g1 g2 (AA (a:=i) (b:=z)) (oX (i+z))
 | .lam s b,c,h,h'=>cN λ g1 g2 hc=>by
  have hm:=jA;have hb:=uA;have h:c+(1+b.cnt)<=qA:=h;have g3:=AA (a:=c) (b:=1);have g4:=bK z hz b (c+1) (by omega) h';have e:=wC (.ofNat z) b (c+1);have g5:=xX s b (b.sh (c+1) (.ofNat z)) (by omega) (To hz h');exact f6 [(15,.H),(18,.H),(55,.z (c+1)),(57,.r (b.sh (c+1) (.ofNat z)).nd'),(300007,.ok),(300007,.f 0 [[(b.sh (c+1) (.ofNat z)).nd']]),(63,.r (Tm.lam s (b.sh (c+1) (.ofNat z))).nd')] g1 g2 g3 g4 (rfl:vA [[(b.sh (c+1) (.ofNat z)).nd']]=vA [[(b.sh (c+1) (.ofNat z)).nd']]) g5
 | .n0 k,c,h,h'=>cN λ g1 g2 hc=>absurd hc (Nat.not_lt_zero _)
 | .n1 k b,c,h,h'=>cN λ g1 g2 hc=>by
  have hm:=jA;have hb:=uA;have h:c+(1+b.cnt)<=qA:=h;have g3:=AA (a:=c) (b:=0);have g4:=bK z hz b c (by omega) h';have e:=wC (.ofNat z) b c;have g5:=AX k b (b.sh c (.ofNat z))
  cases k with
  | succ=>exact f6 [(15,.H),(18,.H),(55,.z c),(57,.r (b.sh c (.ofNat z)).nd'),(300007,.ok),(300007,.f 0 [[(b.sh c (.ofNat z)).nd']]),(63,.r (Tm.n1 .succ (b.sh c (.ofNat z))).nd')] g1 g2 g3 g4 (rfl:vA [[(b.sh c (.ofNat z)).nd']]=vA [[(b.sh c (.ofNat z)).nd']]) g5
  | fst=>exact f6 [(15,.H),(18,.H),(55,.z c),(57,.r (b.sh c (.ofNat z)).nd'),(300007,.ok),(300007,.f 0 [[(b.sh c (.ofNat z)).nd']]),(63,.r (Tm.n1 .fst (b.sh c (.ofNat z))).nd')] g1 g2 g3 g4 (rfl:vA [[(b.sh c (.ofNat z)).nd']]=vA [[(b.sh c (.ofNat z)).nd']]) g5
  | snd=>exact f6 [(15,.H),(18,.H),(55,.z c),(57,.r (b.sh c (.ofNat z)).nd'),(300007,.ok),(300007,.f 0 [[(b.sh c (.ofNat z)).nd']]),(63,.r (Tm.n1 .snd (b.sh c (.ofNat z))).nd')] g1 g2 g3 g4 (rfl:vA [[(b.sh c (.ofNat z)).nd']]=vA [[(b.sh c (.ofNat z)).nd']]) g5
 | .n2 k b d,c,h,h'=>cN λ g1 g2 hc=>by
  have hm:=jA;have hb:=uA;have h:c+(1+b.cnt+d.cnt)<=qA:=h;have h':max b.mx d.mx<=qA * qA:=h';have g3:=AA (a:=c) (b:=0);have g4:=bK z hz b c (by omega) (by omega);have g4':=bK z hz d c (by omega) (by omega);have e:=wC (.ofNat z) b c;have e':=wC (.ofNat z) d c;have g5:=dT k b d (b.sh c (.ofNat z)) (d.sh c (.ofNat z))
  cases k with
  | app=>exact f8 [(15,.H),(18,.H),(55,.z c),(57,.r (b.sh c (.ofNat z)).nd'),(300007,.ok),(55,.z c),(57,.r (d.sh c (.ofNat z)).nd'),(300007,.ok),(300007,.f 0 [[(b.sh c (.ofNat z)).nd'],[(d.sh c (.ofNat z)).nd']]),(63,.r (Tm.n2 .app (b.sh c (.ofNat z)) (d.sh c (.ofNat z))).nd')] g1 g2 g3 g4 g3 g4' (rfl:vA [[(b.sh c (.ofNat z)).nd'],[(d.sh c (.ofNat z)).nd']]=vA [[(b.sh c (.ofNat z)).nd'],[(d.sh c (.ofNat z)).nd']]) g5
  | cons=>exact f8 [(15,.H),(18,.H),(55,.z c),(57,.r (b.sh c (.ofNat z)).nd'),(300007,.ok),(55,.z c),(57,.r (d.sh c (.ofNat z)).nd'),(300007,.ok),(300007,.f 0 [[(b.sh c (.ofNat z)).nd'],[(d.sh c (.ofNat z)).nd']]),(63,.r (Tm.n2 .cons (b.sh c (.ofNat z)) (d.sh c (.ofNat z))).nd')] g1 g2 g3 g4 g3 g4' (rfl:vA [[(b.sh c (.ofNat z)).nd'],[(d.sh c (.ofNat z)).nd']]=vA [[(b.sh c (.ofNat z)).nd'],[(d.sh c (.ofNat z)).nd']]) g5
  | pair=>exact f8 [(15,.H),(18,.H),(55,.z c),(57,.r (b.sh c (.ofNat z)).nd'),(300007,.ok),(55,.z c),(57,.r (d.sh c (.ofNat z)).nd'),(300007,.ok),(300007,.f 0 [[(b.sh c (.ofNat z)).nd'],[(d.sh c (.ofNat z)).nd']]),(63,.r (Tm.n2 .pair (b.sh c (.ofNat z)) (d.sh c (.ofNat z))).nd')] g1 g2 g3 g4 g3 g4' (rfl:vA [[(b.sh c (.ofNat z)).nd'],[(d.sh c (.ofNat z)).nd']]=vA [[(b.sh c (.ofNat z)).nd'],[(d.sh c (.ofNat z)).nd']]) g5
 | .n3 k s b d w,c,h,h'=>cN λ g1 g2 hc=>by
  have hm:=jA;have hb:=uA;have h:c+(1+b.cnt+d.cnt+w.cnt)<=qA:=h;have h':max b.mx (max d.mx w.mx)<=qA * qA:=h';have g3:=AA (a:=c) (b:=0);have g4:=bK z hz b c (by omega) (by omega);have g4':=bK z hz d c (by omega) (by omega);have g4'':=bK z hz w c (by omega) (by omega);have e:=wC (.ofNat z) b c;have e':=wC (.ofNat z) d c;have e'':=wC (.ofNat z) w c;have g5:=RL k s b d w (b.sh c (.ofNat z)) (d.sh c (.ofNat z)) (w.sh c (.ofNat z))
  cases k with
  | re=>exact f10 [(15,.H),(18,.H),(55,.z c),(57,.r (b.sh c (.ofNat z)).nd'),(300007,.ok),(55,.z c),(57,.r (d.sh c (.ofNat z)).nd'),(300007,.ok),(55,.z c),(57,.r (w.sh c (.ofNat z)).nd'),(300007,.ok),(300007,.f 0 [[(b.sh c (.ofNat z)).nd'],[(d.sh c (.ofNat z)).nd'],[(w.sh c (.ofNat z)).nd']]),(63,.r (Tm.n3 .re s (b.sh c (.ofNat z)) (d.sh c (.ofNat z)) (w.sh c (.ofNat z))).nd')] g1 g2 g3 g4 g3 g4' g3 g4'' (rfl:vA [[(b.sh c (.ofNat z)).nd'],[(d.sh c (.ofNat z)).nd'],[(w.sh c (.ofNat z)).nd']]=vA [[(b.sh c (.ofNat z)).nd'],[(d.sh c (.ofNat z)).nd'],[(w.sh c (.ofNat z)).nd']]) g5
  | fo=>exact f10 [(15,.H),(18,.H),(55,.z c),(57,.r (b.sh c (.ofNat z)).nd'),(300007,.ok),(55,.z c),(57,.r (d.sh c (.ofNat z)).nd'),(300007,.ok),(55,.z c),(57,.r (w.sh c (.ofNat z)).nd'),(300007,.ok),(300007,.f 0 [[(b.sh c (.ofNat z)).nd'],[(d.sh c (.ofNat z)).nd'],[(w.sh c (.ofNat z)).nd']]),(63,.r (Tm.n3 .fo s (b.sh c (.ofNat z)) (d.sh c (.ofNat z)) (w.sh c (.ofNat z))).nd')] g1 g2 g3 g4 g3 g4' g3 g4'' (rfl:vA [[(b.sh c (.ofNat z)).nd'],[(d.sh c (.ofNat z)).nd'],[(w.sh c (.ofNat z)).nd']]=vA [[(b.sh c (.ofNat z)).nd'],[(d.sh c (.ofNat z)).nd'],[(w.sh c (.ofNat z)).nd']]) g5
open Go.Lg
theorem dK (c:Nat) {S t:Tm} (d:Nat) (h:t.cnt<=qA:=by omega) (h':S.cnt<=qA:=by omega):(t.put c S d).cnt<=qA+qA * qA:=by
 have h1:=zG c S t d;have h2:=cB t (c+d);have h3:t.occ (c+d) * S.cnt<=qA * qA:=Nat.mul_le_mul (by omega) h';omega
theorem Uo {c:Nat} {S t:Tm} {d:Nat} (h:t.mx<=qA * qA) (h':S.mx<=qA * qA) (h1:c+d+t.cnt<=qA:=by omega):(t.put c S d).fr<=dA:=by
 have h2:=VG (t.put c S d);have h3:=LG c S t d;have hm:=jA;have hb:=uA;rw [hm] at h h' h1;omega
theorem eN {t S:Tm} {c:Nat} (H:(!kA (.ofNat c) (.ofNat t.fr))=false->c<t.fr->A 352 [t.nd',num c,S.nd'] (t.put c S 0).nd'):A 352 [t.nd',num c,S.nd'] (t.put c S 0).nd':=by
 by_cases h:t.fr<=c
 ·rw [kK c S t 0 h];exact f1 [(15,.G)] (iH (a:=c) (b:=t.fr) h)
 ·exact H (lF) (by omega)
theorem fK (S:Tm) (hc:S.cnt<=qA) (hx:S.mx<=qA * qA):∀ (t:Tm) (c:Nat),c+t.cnt<=qA->t.mx<=qA * qA->A 352 [t.nd',num c,S.nd'] (t.put c S 0).nd'
 | .v i,c,h,h'=>eN λ g1 hi=>by
  have hm:=jA;have hb:=uA;have h:c+1<=qA:=h;have h':i<=qA * qA:=h';rw [hm] at h';have hi:c<i+1:=hi;by_cases e:i=c
  ·have e1:(Tm.v i).put c S 0=S.sh 0 (.ofNat c):=by simp only [Tm.put,Nat.add_zero,if_pos e]
   rw [e1];exact f3 [(15,.H),(27,.G),(30,.r (S.sh 0 (.ofNat c)).nd')] g1 (US (x:=.ofNat i) (a:=c) (by simp [e])) (bK c (by omega) S 0 (by omega) hx)
  ·have e1:(Tm.v i).put c S 0 = .v (i-1):=by simp only [Tm.put,Nat.add_zero,if_neg e,if_pos (show c<i by omega)]
   rw [e1];exact f4 [(15,.H),(27,.H),(39,.z (i-1)),(44,.r (Tm.v (i-1)).nd')] g1 (YF e) (nB (a:=i)) (oX (i-1))
 | .lam s b,c,h,h'=>eN λ g1 hi=>by
  have hm:=jA;have hb:=uA;have h:c+(1+b.cnt)<=qA:=h;have g3:=AA (a:=c) (b:=1);have g4:=fK S hc hx b (c+1) (by omega) h';have e:=dK (c+1) (S:=S) (t:=b) 0 (by omega) hc;have g5:=xX s b (b.put (c+1) S 0) (by simp only [hm] at e;omega) (Uo h' hx);have e1:(Tm.lam s b).put c S 0 = .lam s (b.put (c+1) S 0):=by simp only [Tm.put,JH S b]
  rw [e1];exact f5 [(15,.H),(59,.z (c+1)),(61,.r (b.put (c+1) S 0).nd'),(300009,.ok),(300009,.f 0 [[(b.put (c+1) S 0).nd']]),(67,.r (Tm.lam s (b.put (c+1) S 0)).nd')] g1 g3 g4 (rfl:vA [[(b.put (c+1) S 0).nd']]=vA [[(b.put (c+1) S 0).nd']]) g5
 | .n0 k,c,h,h'=>eN λ g1 hi=>absurd hi (Nat.not_lt_zero _)
 | .n1 k b,c,h,h'=>eN λ g1 hi=>by
  have hm:=jA;have hb:=uA;have h:c+(1+b.cnt)<=qA:=h;have h':b.mx<=qA * qA:=h';have g3:=AA (a:=c) (b:=0);have g4b:=fK S hc hx b c (by omega) (by omega);have eb:=dK c (S:=S) (t:=b) 0 (by omega) hc;simp only [hm] at eb;have g5:=AX k b (b.put c S 0)
  cases k with
  | succ=>exact f5 [(15,.H),(59,.z c),(61,.r (b.put c S 0).nd'),(300009,.ok),(300009,.f 0 [[(b.put c S 0).nd']]),(67,.r (Tm.n1 .succ (b.put c S 0)).nd')] g1 g3 g4b (rfl:vA [[(b.put c S 0).nd']]=vA [[(b.put c S 0).nd']]) g5
  | fst=>exact f5 [(15,.H),(59,.z c),(61,.r (b.put c S 0).nd'),(300009,.ok),(300009,.f 0 [[(b.put c S 0).nd']]),(67,.r (Tm.n1 .fst (b.put c S 0)).nd')] g1 g3 g4b (rfl:vA [[(b.put c S 0).nd']]=vA [[(b.put c S 0).nd']]) g5
  | snd=>exact f5 [(15,.H),(59,.z c),(61,.r (b.put c S 0).nd'),(300009,.ok),(300009,.f 0 [[(b.put c S 0).nd']]),(67,.r (Tm.n1 .snd (b.put c S 0)).nd')] g1 g3 g4b (rfl:vA [[(b.put c S 0).nd']]=vA [[(b.put c S 0).nd']]) g5
 | .n2 k b d,c,h,h'=>eN λ g1 hi=>by
  have hm:=jA;have hb:=uA;have h:c+(1+b.cnt+d.cnt)<=qA:=h;have h':max b.mx d.mx<=qA * qA:=h';have g3:=AA (a:=c) (b:=0);have g4b:=fK S hc hx b c (by omega) (by omega);have eb:=dK c (S:=S) (t:=b) 0 (by omega) hc;have g4d:=fK S hc hx d c (by omega) (by omega);have ed:=dK c (S:=S) (t:=d) 0 (by omega) hc;simp only [hm] at eb ed;have g5:=dT k b d (b.put c S 0) (d.put c S 0)
  cases k with
  | app=>exact f7 [(15,.H),(59,.z c),(61,.r (b.put c S 0).nd'),(300009,.ok),(59,.z c),(61,.r (d.put c S 0).nd'),(300009,.ok),(300009,.f 0 [[(b.put c S 0).nd'],[(d.put c S 0).nd']]),(67,.r (Tm.n2 .app (b.put c S 0) (d.put c S 0)).nd')] g1 g3 g4b g3 g4d (rfl:vA [[(b.put c S 0).nd'],[(d.put c S 0).nd']]=vA [[(b.put c S 0).nd'],[(d.put c S 0).nd']]) g5
  | cons=>exact f7 [(15,.H),(59,.z c),(61,.r (b.put c S 0).nd'),(300009,.ok),(59,.z c),(61,.r (d.put c S 0).nd'),(300009,.ok),(300009,.f 0 [[(b.put c S 0).nd'],[(d.put c S 0).nd']]),(67,.r (Tm.n2 .cons (b.put c S 0) (d.put c S 0)).nd')] g1 g3 g4b g3 g4d (rfl:vA [[(b.put c S 0).nd'],[(d.put c S 0).nd']]=vA [[(b.put c S 0).nd'],[(d.put c S 0).nd']]) g5
  | pair=>exact f7 [(15,.H),(59,.z c),(61,.r (b.put c S 0).nd'),(300009,.ok),(59,.z c),(61,.r (d.put c S 0).nd'),(300009,.ok),(300009,.f 0 [[(b.put c S 0).nd'],[(d.put c S 0).nd']]),(67,.r (Tm.n2 .pair (b.put c S 0) (d.put c S 0)).nd')] g1 g3 g4b g3 g4d (rfl:vA [[(b.put c S 0).nd'],[(d.put c S 0).nd']]=vA [[(b.put c S 0).nd'],[(d.put c S 0).nd']]) g5
 | .n3 k s b d w,c,h,h'=>eN λ g1 hi=>by
  have hm:=jA;have hb:=uA;have h:c+(1+b.cnt+d.cnt+w.cnt)<=qA:=h;have h':max b.mx (max d.mx w.mx)<=qA * qA:=h';have g3:=AA (a:=c) (b:=0);have g4b:=fK S hc hx b c (by omega) (by omega);have eb:=dK c (S:=S) (t:=b) 0 (by omega) hc;have g4d:=fK S hc hx d c (by omega) (by omega);have ed:=dK c (S:=S) (t:=d) 0 (by omega) hc;have g4w:=fK S hc hx w c (by omega) (by omega);have ew:=dK c (S:=S) (t:=w) 0 (by omega) hc;simp only [hm] at eb ed ew;have g5:=RL k s b d w (b.put c S 0) (d.put c S 0) (w.put c S 0)
  cases k with
  | re=>exact f9 [(15,.H),(59,.z c),(61,.r (b.put c S 0).nd'),(300009,.ok),(59,.z c),(61,.r (d.put c S 0).nd'),(300009,.ok),(59,.z c),(61,.r (w.put c S 0).nd'),(300009,.ok),(300009,.f 0 [[(b.put c S 0).nd'],[(d.put c S 0).nd'],[(w.put c S 0).nd']]),(67,.r (Tm.n3 .re s (b.put c S 0) (d.put c S 0) (w.put c S 0)).nd')] g1 g3 g4b g3 g4d g3 g4w (rfl:vA [[(b.put c S 0).nd'],[(d.put c S 0).nd'],[(w.put c S 0).nd']]=vA [[(b.put c S 0).nd'],[(d.put c S 0).nd'],[(w.put c S 0).nd']]) g5
  | fo=>exact f9 [(15,.H),(59,.z c),(61,.r (b.put c S 0).nd'),(300009,.ok),(59,.z c),(61,.r (d.put c S 0).nd'),(300009,.ok),(59,.z c),(61,.r (w.put c S 0).nd'),(300009,.ok),(300009,.f 0 [[(b.put c S 0).nd'],[(d.put c S 0).nd'],[(w.put c S 0).nd']]),(67,.r (Tm.n3 .fo s (b.put c S 0) (d.put c S 0) (w.put c S 0)).nd')] g1 g3 g4b g3 g4d g3 g4w (rfl:vA [[(b.put c S 0).nd'],[(d.put c S 0).nd'],[(w.put c S 0).nd']]=vA [[(b.put c S 0).nd'],[(d.put c S 0).nd'],[(w.put c S 0).nd']]) g5
theorem iN {t:Tm} {c:Nat} (H:(!kA (.ofNat c) (.ofNat t.fr))=false->c<t.fr->A 351 [t.nd',num c] (num (t.occ c))):A 351 [t.nd',num c] (num (t.occ c)):=by
 by_cases h:t.fr<=c
 ·rw [QI t c h];exact f1 [(13,.G)] (iH (a:=c) (b:=t.fr) h)
 ·exact H (lF) (by omega)
theorem gK:∀ (t:Tm) (c:Nat),c+t.cnt<=qA->A 351 [t.nd',num c] (num (t.occ c))
 | .v i,c,h=>iN λ g1 hi=>by
  by_cases e:i=c
  ·have e1:(Tm.v i).occ c=1:=by simp only [Tm.occ,if_pos e]
   rw [e1];exact f2 [(13,.H),(24,.G)] g1 (US (x:=.ofNat i) (a:=c) (by simp [e]))
  ·have e1:(Tm.v i).occ c=0:=by simp only [Tm.occ,if_neg e]
   rw [e1];exact f2 [(13,.H),(24,.H)] g1 (YF e)
 | .lam s b,c,h=>iN λ g1 hi=>by
  have hm:=jA;have hb:=uA;have h:c+(1+b.cnt)<=qA:=h;have h2:=cB b (c+1);exact f4 [(13,.H),(39,.z (c+1)),(40,.N (b.occ (c+1))),(41,.z (b.occ (c+1)))] g1 (AA (a:=c) (b:=1)) (gK b (c+1) (by omega)) (ML (n:=b.occ (c+1)))
 | .n0 k,c,h=>iN λ g1 hi=>absurd hi (Nat.not_lt_zero _)
 | .n1 k b,c,h=>iN λ g1 hi=>by
  have hm:=jA;have hb:=uA;have h:c+(1+b.cnt)<=qA:=h;have g3:=AA (a:=c) (b:=0);have hb:=cB b c;have g4b:=gK b c (by omega);have g5b:=ML (n:=b.occ c);cases k<;>exact f4 [(13,.H),(39,.z c),(40,.N (b.occ c)),(41,.z (b.occ c))] g1 g3 g4b g5b
 | .n2 k b d,c,h=>iN λ g1 hi=>by
  have hm:=jA;have hb:=uA;have h:c+(1+b.cnt+d.cnt)<=qA:=h;have g3:=AA (a:=c) (b:=0);have hb:=cB b c;have g4b:=gK b c (by omega);have hd:=cB d c;have g4d:=gK d c (by omega);have g5b:=ML (n:=b.occ c);have g5d:=AA (a:=b.occ c) (b:=d.occ c);cases k<;>exact f7 [(13,.H),(39,.z c),(40,.N (b.occ c)),(41,.z (b.occ c)),(39,.z c),(40,.N (d.occ c)),(41,.z (b.occ c+d.occ c))] g1 g3 g4b g5b g3 g4d g5d
 | .n3 k s b d w,c,h=>iN λ g1 hi=>by
  have hm:=jA;have hb:=uA;have h:c+(1+b.cnt+d.cnt+w.cnt)<=qA:=h;have g3:=AA (a:=c) (b:=0);have hb:=cB b c;have g4b:=gK b c (by omega);have hd:=cB d c;have g4d:=gK d c (by omega);have hw:=cB w c;have g4w:=gK w c (by omega);have g5b:=ML (n:=b.occ c);have g5d:=AA (a:=b.occ c) (b:=d.occ c);have g5w:=AA (a:=b.occ c+d.occ c) (b:=w.occ c);cases k<;>exact f10 [(13,.H),(39,.z c),(40,.N (b.occ c)),(41,.z (b.occ c)),(39,.z c),(40,.N (d.occ c)),(41,.z (b.occ c+d.occ c)),(39,.z c),(40,.N (w.occ c)),(41,.z (b.occ c+d.occ c+w.occ c))] g1 g3 g4b g5b g3 g4d g5d g3 g4w g5w
theorem CX:∀ {t r:Tm},t.red=some r->t.mx<=qA * qA->t.cnt<=qA->A 347 [t.nd'] r.nd':=by
 have hm:=jA;have hb:=uA;refine @RJ (λ t r=>t.mx<=qA * qA->t.cnt<=qA->A 347 [t.nd'] r.nd') ?_ ?_ ?_ ?_ ?_ ?_ ?_
 ·intro a b _ _;exact f0 []
 ·intro a b _ _;exact f0 []
 ·intro s b a h h';have h:max b.mx a.mx<=qA * qA:=h;have h':1+(1+b.cnt)+a.cnt<=qA:=h';exact f1 [(30,.r (b.put 0 a 0).nd')] (fK a (by omega) (by omega) b 0 (by omega) (by omega))
 ·intro s b f _ _;exact f0 []
 ·intro s b f n h h';have h':1+b.cnt+f.cnt+(1+n.cnt)<=qA:=h';have g1:=RL .re s b f (.n1 .succ n) b f n;have g2:=BX f n;have g3:=BX (.n2 .app f n) (.n3 .re s b f n) (by simp only [Tm.cnt];omega);exact f3 [(98,.r (Tm.n3 .re s b f n).nd'),(104,.r (Tm.n2 .app f n).nd'),(107,.r (Tm.n2 .app (.n2 .app f n) (.n3 .re s b f n)).nd')] g1 g2 g3
 ·intro s b f _ _;exact f0 []
 ·intro s b f x l h h';have h':1+b.cnt+f.cnt+(1+x.cnt+l.cnt)<=qA:=h';have g1:=RL .fo s b f (.n2 .cons x l) b f l;have g2:=Ro f x l;have g3:=BX (.n2 .app (.n2 .app f x) l) (.n3 .fo s b f l) (by simp only [Tm.cnt];omega);exact f3 [(98,.r (Tm.n3 .fo s b f l).nd'),(104,.r (Tm.n2 .app (.n2 .app f x) l).nd'),(107,.r (Tm.n2 .app (.n2 .app (.n2 .app f x) l) (.n3 .fo s b f l)).nd')] g1 g2 g3
theorem RP {a b c:Nat} (h:a * b<=dA) (e:a * b=c):rA (Int.ofNat a * .ofNat b)=true/\Int.ofNat a * .ofNat b = .ofNat c:=⟨YA (n:=a * b) h,by rw [<- e];rfl⟩
theorem PE {a b c:Nat} (h:a+b<=dA:=by omega) (e:a+b=c:=by omega):rA (Int.ofNat a + .ofNat b)=true/\Int.ofNat a + .ofNat b = .ofNat c:=by rw [<- e];exact AA h
theorem Vo:∀ {t r:Tm},t.red=some r->t.mx<=qA * qA->t.cnt<=qA->A 346 [t.nd'] (num r.cnt):=by
 have hm:=jA;have hb:=uA;refine @RJ (λ t r=>t.mx<=qA * qA->t.cnt<=qA->A 346 [t.nd'] (num r.cnt)) ?_ ?_ ?_ ?_ ?_ ?_ ?_
 ·intro a b h h';exact f1 [(183,.r a.nd')] (CX (t:=.n1 .fst (.n2 .pair a b)) rfl h h')
 ·intro a b h h';exact f1 [(183,.r b.nd')] (CX (t:=.n1 .snd (.n2 .pair a b)) rfl h h')
 ·intro s b a h h';have h':1+(1+b.cnt)+a.cnt<=qA:=h';have e1:=zG 0 a b 0;have e2:=cB b 0;have ca:=pE a;simp only [Nat.add_zero] at e1;have e3:b.occ 0 * (a.cnt-1)<=qA * qA:=Nat.mul_le_mul (by omega) (by omega);have e4:b.occ 0 * (a.cnt-1)+b.occ 0=b.occ 0 * a.cnt:=by
   obtain⟨k,hk⟩:∃ k,a.cnt=k+1:=⟨a.cnt-1,by omega⟩;rw [hk,Nat.add_sub_cancel,Nat.mul_succ]
  rw [hm] at e3;exact f4 [(27,.N (b.occ 0)),(37,.z (a.cnt-1)),(38,.z (b.occ 0 * (a.cnt-1))),(39,.z (b.put 0 a 0).cnt)] (gK b 0 (by omega)) (nB (a:=a.cnt) ca) (RP (a:=b.occ 0) (b:=a.cnt-1) (by omega) rfl) (PE (a:=b.cnt) (b:=b.occ 0 * (a.cnt-1)) (c:=(b.put 0 a 0).cnt))
 ·intro s b f _ _;exact f0 []
 ·intro s b f n h h';have h':1+b.cnt+f.cnt+(1+n.cnt)<=qA:=h';have g1:=PE (a:=2) (b:=f.cnt) (by omega) rfl;have g2:=RP (a:=2) (b:=n.cnt) (by omega) rfl;have g3:=PE (a:=2+f.cnt) (b:=2 * n.cnt) (by omega) rfl;have g4:=PE (a:=2+f.cnt+2 * n.cnt) (b:=1) (by omega) rfl;have g5:=PE (a:=2+f.cnt+2 * n.cnt+1) (b:=b.cnt) (by omega) rfl;have g6:=PE (a:=2+f.cnt+2 * n.cnt+1+b.cnt) (b:=f.cnt) (c:=(Tm.n2 .app (.n2 .app f n) (.n3 .re s b f n)).cnt) (by omega) (by simp only [Tm.cnt];omega);exact f6 [(61,.z (2+f.cnt)),(76,.z (2 * n.cnt)),(77,.z (2+f.cnt+2 * n.cnt)),(78,.z (2+f.cnt+2 * n.cnt+1)),(88,.z (2+f.cnt+2 * n.cnt+1+b.cnt)),(98,.z (Tm.n2 .app (.n2 .app f n) (.n3 .re s b f n)).cnt)] g1 g2 g3 g4 g5 g6
 ·intro s b f _ _;exact f0 []
 ·intro s b f x l h h';have h':1+b.cnt+f.cnt+(1+x.cnt+l.cnt)<=qA:=h';have g1:=PE (a:=3) (b:=f.cnt) (by omega) rfl;have g2:=PE (a:=3+f.cnt) (b:=x.cnt) (by omega) rfl;have g2':=RP (a:=2) (b:=l.cnt) (by omega) rfl;have g3:=PE (a:=3+f.cnt+x.cnt) (b:=2 * l.cnt) (by omega) rfl;have g4:=PE (a:=3+f.cnt+x.cnt+2 * l.cnt) (b:=1) (by omega) rfl;have g5:=PE (a:=3+f.cnt+x.cnt+2 * l.cnt+1) (b:=b.cnt) (by omega) rfl;have g6:=PE (a:=3+f.cnt+x.cnt+2 * l.cnt+1+b.cnt) (b:=f.cnt) (c:=(Tm.n2 .app (.n2 .app (.n2 .app f x) l) (.n3 .fo s b f l)).cnt) (by omega) (by simp only [Tm.cnt];omega);exact f7 [(130,.z (3+f.cnt)),(140,.z (3+f.cnt+x.cnt)),(150,.z (2 * l.cnt)),(151,.z (3+f.cnt+x.cnt+2 * l.cnt)),(152,.z (3+f.cnt+x.cnt+2 * l.cnt+1)),(162,.z (3+f.cnt+x.cnt+2 * l.cnt+1+b.cnt)),(172,.z (Tm.n2 .app (.n2 .app (.n2 .app f x) l) (.n3 .fo s b f l)).cnt)] g1 g2 g2' g3 g4 g5 g6
abbrev W2 (y x:PV):Prop:=some ({ x:=.pv y,ch:=[],nw:=[],nx:=0 } : aB)=some { x:=.pv x,ch:=[],nw:=[],nx:=0 }
theorem W2.of {y x:PV} (h:y=x):W2 y x:=by rw [h]
section
variable {f:Nat} {args:List PV} {x:PV} (tp:Di) (ko:Kp)
theorem SL {B:Prop} (h:B) (e:B=kW ev Tryz.prog 100 6 f args tp ko x:=by kernel_rfl):A f args x:=Hl tH (Eq.mp e h)
variable (y z:PV) {b:Bool} (hb:b=true->y=x) {H1 H2 H3 H4 H5 H6 H7 H8:Prop} (h1:H1) (h2:H2) (h3:H3) (h4:H4) (h5:H5) (h6:H6) (h7:H7) (h8:H8) (hz:z=x)
def w0:=@SL f args x tp ko _ (⟨λ h => .of (hb h),.of hz⟩:(b=true->W2 y x)/\W2 z x)
def w1:=@SL f args x tp ko _ (⟨λ h => .of (hb h),h1,.of hz⟩:(b=true->W2 y x)/\H1/\W2 z x)
def w2:=@SL f args x tp ko _ (⟨λ h => .of (hb h),h1,h2,.of hz⟩:(b=true->W2 y x)/\H1/\H2/\W2 z x)
def w3:=@SL f args x tp ko _ (⟨λ h => .of (hb h),h1,h2,h3,.of hz⟩:(b=true->W2 y x)/\H1/\H2/\H3/\W2 z x)
def w4:=@SL f args x tp ko _ (⟨λ h => .of (hb h),h1,h2,h3,h4,.of hz⟩:(b=true->W2 y x)/\H1/\H2/\H3/\H4/\W2 z x)
def w5:=@SL f args x tp ko _ (⟨λ h => .of (hb h),h1,h2,h3,h4,h5,.of hz⟩:(b=true->W2 y x)/\H1/\H2/\H3/\H4/\H5/\W2 z x)
def w6:=@SL f args x tp ko _ (⟨λ h => .of (hb h),h1,h2,h3,h4,h5,h6,.of hz⟩:(b=true->W2 y x)/\H1/\H2/\H3/\H4/\H5/\H6/\W2 z x)
end
theorem Wo:∀ {t r:Tm},t.red=some r->t.cnt<=qA->r.cnt<=4 * qA+qA * qA:=by
 refine @RJ (λ t r=>t.cnt<=qA->r.cnt<=4 * qA+qA * qA) ?_ ?_ ?_ ?_ ?_ ?_ ?_
 ·intro a b h;simp only [Tm.cnt] at h;omega
 ·intro a b h;simp only [Tm.cnt] at h;omega
 ·intro s b a h;simp only [Tm.cnt] at h;have:=dK 0 (S:=a) (t:=b) 0;omega
 ·intro s b f h;simp only [Tm.cnt] at h;omega
 ·intro s b f n h;simp only [Tm.cnt] at h ⊢;omega
 ·intro s b f h;simp only [Tm.cnt] at h;omega
 ·intro s b f h l h;simp only [Tm.cnt] at h ⊢;omega
def SR.q:SR->PV
 | .er => .tuple [.nil,num 4]
 | .no => .tuple [.nil,num 0]
 | .ok x => .tuple [x.nd',num 0]
theorem fT {f:Tm->Tm} {r q:SR} : SR.or f r q = .no↔q = .no/\r = .no:=by
 cases q<;>simp [SR.or]
theorem DX {z:Int} {t r:Tm} : rt z t r ≠ .no:=by
 unfold rt;cases kA z ((r.cnt:Int)-t.cnt)<;>simp
theorem QE (z:Int):∀ t:Tm,t.nf=true↔t.st z = .no
 | .v _=>⟨λ _=>rfl,λ _=>rfl⟩
 | .n0 _=>⟨λ _=>rfl,λ _=>rfl⟩
 | .lam s b=>by
  show b.nf=true↔SR.or (.lam s) .no (b.st z) = .no;rw [fT,QE z b];simp
 | .n1 k a=>by
  cases hr:(Tm.n1 k a).red with
  | some r=>simp [Tm.nf,Tm.st,hr,DX]
  | none=>simp [Tm.nf,Tm.st,hr,fT,QE z a]
 | .n2 k a b=>by
  cases hr:(Tm.n2 k a b).red with
  | some r=>simp [Tm.nf,Tm.st,hr,DX]
  | none=>simp [Tm.nf,Tm.st,hr,fT,QE z a,QE z b]
 | .n3 k s a b c=>by
  cases hr:(Tm.n3 k s a b c).red with
  | some r=>simp [Tm.nf,Tm.st,hr,DX]
  | none=>simp [Tm.nf,Tm.st,hr,fT,QE z a,QE z b,QE z c]
theorem XA {z:Int} {t:Tm} {r:SR} (h:t.st z=r):t.nf=true->PV.tuple [.nil,num 0]=r.q:=λ e=>by rw [<- h,(QE z t).1 e];rfl
theorem Xo (z:Int) (t:Tm):∀ {x:Tm} {n:Nat},t.st z = .ok x->t.sc n->t.shp=true->x.sc n/\x.shp=true:=by
 have root:∀ {t r x:Tm} {n:Nat},t.red=some r->rt z t r = .ok x->t.sc n->t.shp=true->x.sc n/\x.shp=true:=by
  intro t r x n h e h1 h2;unfold rt at e;cases e1:kA z ((r.cnt:Int)-t.cnt)<;>rw [e1] at e<;>cases e;exact No n h h1 h2
 induction t with
 | v i=>intro x n h;cases h
 | n0 k=>intro x n h;cases h
 | lam s b ih =>
  intro x n h h1 h2;rcases LC h with ⟨y,e,rfl⟩|⟨_,h⟩
  ·obtain⟨k1,k2⟩:=DA h2;obtain⟨k3,k4⟩:=ih e h1 k2;exact⟨k3,by show (_ && _)=true;rw [k1,k4];rfl⟩
  ·cases h
 | n1 k a ih =>
  intro x n h h1 h2
  cases hr:(Tm.n1 k a).red with
  | some r=>rw [jG hr] at h;exact root hr h h1 h2
  | none =>
   simp only [Tm.st,hr] at h;rcases LC h with ⟨y,e,rfl⟩|⟨_,h⟩
   ·exact (ih (x:=y) e h1 h2:y.sc n/\y.shp=true)
   ·cases h
 | n2 k a b ih1 ih2 =>
  intro x n h h1 h2
  cases hr:(Tm.n2 k a b).red with
  | some r=>rw [jG hr] at h;exact root hr h h1 h2
  | none =>
   simp only [Tm.st,hr] at h;obtain⟨k1,k2⟩:=DA h2;rcases LC h with ⟨y,e,rfl⟩|⟨_,h⟩
   ·obtain⟨k3,k4⟩:=ih1 e h1.1 k1;exact⟨⟨k3,h1.2⟩,by show (_ && _)=true;rw [k4,k2];rfl⟩
   rcases LC h with ⟨y,e,rfl⟩|⟨_,h⟩
   ·obtain⟨k3,k4⟩:=ih2 e h1.2 k2;exact⟨⟨h1.1,k3⟩,by show (_ && _)=true;rw [k1,k4];rfl⟩
   ·cases h
 | n3 k s a b c ih1 ih2 ih3 =>
  intro x n h h1 h2
  cases hr:(Tm.n3 k s a b c).red with
  | some r=>rw [jG hr] at h;exact root hr h h1 h2
  | none =>
   simp only [Tm.st,hr] at h;obtain⟨k0,k1⟩:=DA h2;obtain⟨k1,k2⟩:=DA k1;obtain⟨k2,k3⟩:=DA k2;rcases LC h with ⟨y,e,rfl⟩|⟨_,h⟩
   ·obtain⟨k4,k5⟩:=ih1 e h1.1 k1;exact⟨⟨k4,h1.2⟩,by show (_ && (_ && (_ && _)))=true;rw [k0,k5,k2,k3];rfl⟩
   rcases LC h with ⟨y,e,rfl⟩|⟨_,h⟩
   ·obtain⟨k4,k5⟩:=ih2 e h1.2.1 k2;exact⟨⟨h1.1,k4,h1.2.2⟩,by show (_ && (_ && (_ && _)))=true;rw [k0,k1,k5,k3];rfl⟩
   rcases LC h with ⟨y,e,rfl⟩|⟨_,h⟩
   ·obtain⟨k4,k5⟩:=ih3 e h1.2.2 k3;exact⟨⟨h1.1,h1.2.1,k4⟩,by show (_ && (_ && (_ && _)))=true;rw [k0,k1,k2,k5];rfl⟩
   ·cases h
theorem EX {t r:Tm} (h:t.red=some r) (z:Int) (h1:t.mx<=qA * qA) (h2:t.cnt<=qA):A 333 [t.nd',.int z] (t.st z).q:=by
 have hm:=jA;have hb:=uA;have g1:=OE t;rw [h] at g1;have g2:=Vo h h1 h2;have g3:=CX h h1 h2;have c:=Wo h h2;have g4:=sN (i:=r.cnt) (d:=t.cnt) (by rw [hm] at c;omega);cases e:kA z (Int.ofNat r.cnt - .ofNat t.cnt)
 ·have hT:t.st z = .ok r:=by rw [jG h,rt];rw [show kA z ((r.cnt:Int)-t.cnt)=false from e];rfl
  rw [hT];exact w5 [(16,.T),(18,.N r.cnt),(23,.y (Int.ofNat r.cnt - .ofNat t.cnt)),(25,.H),(27,.r r.nd')] (kp [4,5]) (.tuple [.nil,num 0]) (.tuple [r.nd',num 0]) (XA hT) g1 g2 g4 e g3 rfl
 ·have hT:t.st z = .er:=by rw [jG h,rt];rw [show kA z ((r.cnt:Int)-t.cnt)=true from e];rfl
  rw [hT];exact w4 [(16,.T),(18,.N r.cnt),(23,.y (Int.ofNat r.cnt - .ofNat t.cnt)),(25,.G)] (kp [4,5]) (.tuple [.nil,num 0]) (.tuple [.nil,num 4]) (XA hT) g1 g2 g4 e rfl
theorem lK (z:Int) (hz:z<=qA):∀ (t:Tm),t.mx<=qA * qA->t.cnt<=qA->A 333 [t.nd',.int z] (t.st z).q
 | .v i,h,h'=>w2 [(16,.F),(99999,.s)] (kp [4,5]) (.tuple [.nil,num 0]) (.tuple [.nil,num 0]) (b:=true) (λ _=>rfl) (OE (.v i)) (rfl:true=true) rfl
 | .n0 k,h,h'=>by have g:=OE (.n0 k);cases k<;>exact w2 [(16,.F),(99999,.s)] (kp [4,5]) (.tuple [.nil,num 0]) (.tuple [.nil,num 0]) (b:=true) (λ _=>rfl) g (rfl:true=true) rfl
 | .lam s b,h,h'=>by
  have hm:=jA;have hb:=uA;have h:b.mx<=qA * qA:=h;have h':1+b.cnt<=qA:=h';have g0:=OE (Tm.lam s b);have gb:=lK z hz b (by omega) (by omega)
  cases eb:b.st z with
  | er =>
   rw [eb] at gb;have hT:(Tm.lam s b).st z = .er:=by simp only [Tm.st,eb,SR.or]
   rw [hT];exact w2 [(16,.F),(41,.r SR.er.q)] (kp [4,5]) (.tuple [.nil,num 0]) (.tuple [.nil,num 4]) (XA hT) g0 gb rfl
  | ok x =>
   rw [eb] at gb;have hT:(Tm.lam s b).st z = .ok (Tm.lam s x):=by simp only [Tm.st,eb,SR.or]
   rw [hT];obtain⟨sx1,sx2,_⟩:=EI z b eb;have g5:=xX s b x (by omega) (by have:=VG x;rw [hm] at h;omega);exact w4 [(16,.F),(41,.r (SR.ok x).q),(300015,.f 0 [[x.nd']]),(60,.r (Tm.lam s x).nd')] (kp [4,5]) (.tuple [.nil,num 0]) (.tuple [(Tm.lam s x).nd',num 0]) (XA hT) g0 gb (rfl:vA [[x.nd']]=vA [[x.nd']]) g5 rfl
  | no =>
  rw [eb] at gb;have hT:(Tm.lam s b).st z = .no:=by simp only [Tm.st,eb,SR.or]
  have hn:(Tm.lam s b).nf=true:=(QE z _).2 hT;rw [hT];exact w3 [(16,.F),(41,.r SR.no.q),(99999,.s)] (kp [4,5]) (.tuple [.nil,num 0]) (.tuple [.nil,num 0]) (XA hT) g0 gb hn rfl
 | .n1 k b,h,h'=>by
  have hm:=jA;have hb:=uA;have h:b.mx<=qA * qA:=h;have h':1+b.cnt<=qA:=h'
  cases hr:(Tm.n1 k b).red with
  | some r=>exact EX hr z h h'
  | none =>
  have g0:=OE (Tm.n1 k b);rw [hr] at g0;have gb:=lK z hz b (by omega) (by omega)
  cases eb:b.st z with
  | er =>
   rw [eb] at gb;have hT:(Tm.n1 k b).st z = .er:=by simp only [Tm.st,hr,eb,SR.or]
   rw [hT]
   cases k with
   | succ=>exact w2 [(16,.F),(41,.r SR.er.q)] (kp [4,5]) (.tuple [.nil,num 0]) (.tuple [.nil,num 4]) (XA hT) g0 gb rfl
   | fst=>exact w2 [(16,.F),(41,.r SR.er.q)] (kp [4,5]) (.tuple [.nil,num 0]) (.tuple [.nil,num 4]) (XA hT) g0 gb rfl
   | snd=>exact w2 [(16,.F),(41,.r SR.er.q)] (kp [4,5]) (.tuple [.nil,num 0]) (.tuple [.nil,num 4]) (XA hT) g0 gb rfl
  | ok x =>
   rw [eb] at gb;have hT:(Tm.n1 k b).st z = .ok (Tm.n1 k x):=by simp only [Tm.st,hr,eb,SR.or]
   rw [hT];obtain⟨sx1,sx2,_⟩:=EI z b eb;have g5:=AX k b x
   cases k with
   | succ=>exact w4 [(16,.F),(41,.r (SR.ok x).q),(300015,.f 0 [[x.nd']]),(60,.r (Tm.n1 .succ x).nd')] (kp [4,5]) (.tuple [.nil,num 0]) (.tuple [(Tm.n1 .succ x).nd',num 0]) (XA hT) g0 gb (rfl:vA [[x.nd']]=vA [[x.nd']]) g5 rfl
   | fst=>exact w4 [(16,.F),(41,.r (SR.ok x).q),(300015,.f 0 [[x.nd']]),(60,.r (Tm.n1 .fst x).nd')] (kp [4,5]) (.tuple [.nil,num 0]) (.tuple [(Tm.n1 .fst x).nd',num 0]) (XA hT) g0 gb (rfl:vA [[x.nd']]=vA [[x.nd']]) g5 rfl
   | snd=>exact w4 [(16,.F),(41,.r (SR.ok x).q),(300015,.f 0 [[x.nd']]),(60,.r (Tm.n1 .snd x).nd')] (kp [4,5]) (.tuple [.nil,num 0]) (.tuple [(Tm.n1 .snd x).nd',num 0]) (XA hT) g0 gb (rfl:vA [[x.nd']]=vA [[x.nd']]) g5 rfl
  | no =>
  rw [eb] at gb;have hT:(Tm.n1 k b).st z = .no:=by simp only [Tm.st,hr,eb,SR.or]
  have hn:(Tm.n1 k b).nf=true:=(QE z _).2 hT;rw [hT]
  cases k with
  | succ=>exact w3 [(16,.F),(41,.r SR.no.q),(99999,.s)] (kp [4,5]) (.tuple [.nil,num 0]) (.tuple [.nil,num 0]) (XA hT) g0 gb hn rfl
  | fst=>exact w3 [(16,.F),(41,.r SR.no.q),(99999,.s)] (kp [4,5]) (.tuple [.nil,num 0]) (.tuple [.nil,num 0]) (XA hT) g0 gb hn rfl
  | snd=>exact w3 [(16,.F),(41,.r SR.no.q),(99999,.s)] (kp [4,5]) (.tuple [.nil,num 0]) (.tuple [.nil,num 0]) (XA hT) g0 gb hn rfl
 | .n2 k b d,h,h'=>by
  have hm:=jA;have hb:=uA;have h:max b.mx d.mx<=qA * qA:=h;have h':1+b.cnt+d.cnt<=qA:=h'
  cases hr:(Tm.n2 k b d).red with
  | some r=>exact EX hr z h h'
  | none =>
  have g0:=OE (Tm.n2 k b d);rw [hr] at g0;have gb:=lK z hz b (by omega) (by omega)
  cases eb:b.st z with
  | er =>
   rw [eb] at gb;have hT:(Tm.n2 k b d).st z = .er:=by simp only [Tm.st,hr,eb,SR.or]
   rw [hT]
   cases k with
   | app=>exact w2 [(16,.F),(41,.r SR.er.q)] (kp [4,5]) (.tuple [.nil,num 0]) (.tuple [.nil,num 4]) (XA hT) g0 gb rfl
   | cons=>exact w2 [(16,.F),(41,.r SR.er.q)] (kp [4,5]) (.tuple [.nil,num 0]) (.tuple [.nil,num 4]) (XA hT) g0 gb rfl
   | pair=>exact w2 [(16,.F),(41,.r SR.er.q)] (kp [4,5]) (.tuple [.nil,num 0]) (.tuple [.nil,num 4]) (XA hT) g0 gb rfl
  | ok x =>
   rw [eb] at gb;have hT:(Tm.n2 k b d).st z = .ok (Tm.n2 k x d):=by simp only [Tm.st,hr,eb,SR.or]
   rw [hT];obtain⟨sx1,sx2,_⟩:=EI z b eb;have g5:=dT k b d x d
   cases k with
   | app=>exact w4 [(16,.F),(41,.r (SR.ok x).q),(300015,.f 0 [[x.nd'],[d.nd']]),(60,.r (Tm.n2 .app x d).nd')] (kp [4,5]) (.tuple [.nil,num 0]) (.tuple [(Tm.n2 .app x d).nd',num 0]) (XA hT) g0 gb (rfl:vA [[x.nd'],[d.nd']]=vA [[x.nd'],[d.nd']]) g5 rfl
   | cons=>exact w4 [(16,.F),(41,.r (SR.ok x).q),(300015,.f 0 [[x.nd'],[d.nd']]),(60,.r (Tm.n2 .cons x d).nd')] (kp [4,5]) (.tuple [.nil,num 0]) (.tuple [(Tm.n2 .cons x d).nd',num 0]) (XA hT) g0 gb (rfl:vA [[x.nd'],[d.nd']]=vA [[x.nd'],[d.nd']]) g5 rfl
   | pair=>exact w4 [(16,.F),(41,.r (SR.ok x).q),(300015,.f 0 [[x.nd'],[d.nd']]),(60,.r (Tm.n2 .pair x d).nd')] (kp [4,5]) (.tuple [.nil,num 0]) (.tuple [(Tm.n2 .pair x d).nd',num 0]) (XA hT) g0 gb (rfl:vA [[x.nd'],[d.nd']]=vA [[x.nd'],[d.nd']]) g5 rfl
  | no =>
  rw [eb] at gb;have gd:=lK z hz d (by omega) (by omega)
  cases ed:d.st z with
  | er =>
   rw [ed] at gd;have hT:(Tm.n2 k b d).st z = .er:=by simp only [Tm.st,hr,eb,ed,SR.or]
   rw [hT]
   cases k with
   | app=>exact w3 [(16,.F),(41,.r SR.no.q),(41,.r SR.er.q)] (kp [4,5]) (.tuple [.nil,num 0]) (.tuple [.nil,num 4]) (XA hT) g0 gb gd rfl
   | cons=>exact w3 [(16,.F),(41,.r SR.no.q),(41,.r SR.er.q)] (kp [4,5]) (.tuple [.nil,num 0]) (.tuple [.nil,num 4]) (XA hT) g0 gb gd rfl
   | pair=>exact w3 [(16,.F),(41,.r SR.no.q),(41,.r SR.er.q)] (kp [4,5]) (.tuple [.nil,num 0]) (.tuple [.nil,num 4]) (XA hT) g0 gb gd rfl
  | ok x =>
   rw [ed] at gd;have hT:(Tm.n2 k b d).st z = .ok (Tm.n2 k b x):=by simp only [Tm.st,hr,eb,ed,SR.or]
   rw [hT];obtain⟨sx1,sx2,_⟩:=EI z d ed;have g5:=dT k b d b x
   cases k with
   | app=>exact w5 [(16,.F),(41,.r SR.no.q),(41,.r (SR.ok x).q),(300015,.f 0 [[b.nd'],[x.nd']]),(60,.r (Tm.n2 .app b x).nd')] (kp [4,5]) (.tuple [.nil,num 0]) (.tuple [(Tm.n2 .app b x).nd',num 0]) (XA hT) g0 gb gd (rfl:vA [[b.nd'],[x.nd']]=vA [[b.nd'],[x.nd']]) g5 rfl
   | cons=>exact w5 [(16,.F),(41,.r SR.no.q),(41,.r (SR.ok x).q),(300015,.f 0 [[b.nd'],[x.nd']]),(60,.r (Tm.n2 .cons b x).nd')] (kp [4,5]) (.tuple [.nil,num 0]) (.tuple [(Tm.n2 .cons b x).nd',num 0]) (XA hT) g0 gb gd (rfl:vA [[b.nd'],[x.nd']]=vA [[b.nd'],[x.nd']]) g5 rfl
   | pair=>exact w5 [(16,.F),(41,.r SR.no.q),(41,.r (SR.ok x).q),(300015,.f 0 [[b.nd'],[x.nd']]),(60,.r (Tm.n2 .pair b x).nd')] (kp [4,5]) (.tuple [.nil,num 0]) (.tuple [(Tm.n2 .pair b x).nd',num 0]) (XA hT) g0 gb gd (rfl:vA [[b.nd'],[x.nd']]=vA [[b.nd'],[x.nd']]) g5 rfl
  | no =>
  rw [ed] at gd;have hT:(Tm.n2 k b d).st z = .no:=by simp only [Tm.st,hr,eb,ed,SR.or]
  have hn:(Tm.n2 k b d).nf=true:=(QE z _).2 hT;rw [hT]
  cases k with
  | app=>exact w4 [(16,.F),(41,.r SR.no.q),(41,.r SR.no.q),(99999,.s)] (kp [4,5]) (.tuple [.nil,num 0]) (.tuple [.nil,num 0]) (XA hT) g0 gb gd hn rfl
  | cons=>exact w4 [(16,.F),(41,.r SR.no.q),(41,.r SR.no.q),(99999,.s)] (kp [4,5]) (.tuple [.nil,num 0]) (.tuple [.nil,num 0]) (XA hT) g0 gb gd hn rfl
  | pair=>exact w4 [(16,.F),(41,.r SR.no.q),(41,.r SR.no.q),(99999,.s)] (kp [4,5]) (.tuple [.nil,num 0]) (.tuple [.nil,num 0]) (XA hT) g0 gb gd hn rfl
 | .n3 k s b d w,h,h'=>by
  have hm:=jA;have hb:=uA;have h:max b.mx (max d.mx w.mx)<=qA * qA:=h;have h':1+b.cnt+d.cnt+w.cnt<=qA:=h'
  cases hr:(Tm.n3 k s b d w).red with
  | some r=>exact EX hr z h h'
  | none =>
  have g0:=OE (Tm.n3 k s b d w);rw [hr] at g0;have gb:=lK z hz b (by omega) (by omega)
  cases eb:b.st z with
  | er =>
   rw [eb] at gb;have hT:(Tm.n3 k s b d w).st z = .er:=by simp only [Tm.st,hr,eb,SR.or]
   rw [hT]
   cases k with
   | re=>exact w2 [(16,.F),(41,.r SR.er.q)] (kp [4,5]) (.tuple [.nil,num 0]) (.tuple [.nil,num 4]) (XA hT) g0 gb rfl
   | fo=>exact w2 [(16,.F),(41,.r SR.er.q)] (kp [4,5]) (.tuple [.nil,num 0]) (.tuple [.nil,num 4]) (XA hT) g0 gb rfl
  | ok x =>
   rw [eb] at gb;have hT:(Tm.n3 k s b d w).st z = .ok (Tm.n3 k s x d w):=by simp only [Tm.st,hr,eb,SR.or]
   rw [hT];obtain⟨sx1,sx2,_⟩:=EI z b eb;have g5:=RL k s b d w x d w
   cases k with
   | re=>exact w4 [(16,.F),(41,.r (SR.ok x).q),(300015,.f 0 [[x.nd'],[d.nd'],[w.nd']]),(60,.r (Tm.n3 .re s x d w).nd')] (kp [4,5]) (.tuple [.nil,num 0]) (.tuple [(Tm.n3 .re s x d w).nd',num 0]) (XA hT) g0 gb (rfl:vA [[x.nd'],[d.nd'],[w.nd']]=vA [[x.nd'],[d.nd'],[w.nd']]) g5 rfl
   | fo=>exact w4 [(16,.F),(41,.r (SR.ok x).q),(300015,.f 0 [[x.nd'],[d.nd'],[w.nd']]),(60,.r (Tm.n3 .fo s x d w).nd')] (kp [4,5]) (.tuple [.nil,num 0]) (.tuple [(Tm.n3 .fo s x d w).nd',num 0]) (XA hT) g0 gb (rfl:vA [[x.nd'],[d.nd'],[w.nd']]=vA [[x.nd'],[d.nd'],[w.nd']]) g5 rfl
  | no =>
  rw [eb] at gb;have gd:=lK z hz d (by omega) (by omega)
  cases ed:d.st z with
  | er =>
   rw [ed] at gd;have hT:(Tm.n3 k s b d w).st z = .er:=by simp only [Tm.st,hr,eb,ed,SR.or]
   rw [hT]
   cases k with
   | re=>exact w3 [(16,.F),(41,.r SR.no.q),(41,.r SR.er.q)] (kp [4,5]) (.tuple [.nil,num 0]) (.tuple [.nil,num 4]) (XA hT) g0 gb gd rfl
   | fo=>exact w3 [(16,.F),(41,.r SR.no.q),(41,.r SR.er.q)] (kp [4,5]) (.tuple [.nil,num 0]) (.tuple [.nil,num 4]) (XA hT) g0 gb gd rfl
  | ok x =>
   rw [ed] at gd;have hT:(Tm.n3 k s b d w).st z = .ok (Tm.n3 k s b x w):=by simp only [Tm.st,hr,eb,ed,SR.or]
   rw [hT];obtain⟨sx1,sx2,_⟩:=EI z d ed;have g5:=RL k s b d w b x w
   cases k with
   | re=>exact w5 [(16,.F),(41,.r SR.no.q),(41,.r (SR.ok x).q),(300015,.f 0 [[b.nd'],[x.nd'],[w.nd']]),(60,.r (Tm.n3 .re s b x w).nd')] (kp [4,5]) (.tuple [.nil,num 0]) (.tuple [(Tm.n3 .re s b x w).nd',num 0]) (XA hT) g0 gb gd (rfl:vA [[b.nd'],[x.nd'],[w.nd']]=vA [[b.nd'],[x.nd'],[w.nd']]) g5 rfl
   | fo=>exact w5 [(16,.F),(41,.r SR.no.q),(41,.r (SR.ok x).q),(300015,.f 0 [[b.nd'],[x.nd'],[w.nd']]),(60,.r (Tm.n3 .fo s b x w).nd')] (kp [4,5]) (.tuple [.nil,num 0]) (.tuple [(Tm.n3 .fo s b x w).nd',num 0]) (XA hT) g0 gb gd (rfl:vA [[b.nd'],[x.nd'],[w.nd']]=vA [[b.nd'],[x.nd'],[w.nd']]) g5 rfl
  | no =>
  rw [ed] at gd;have gw:=lK z hz w (by omega) (by omega)
  cases ew:w.st z with
  | er =>
   rw [ew] at gw;have hT:(Tm.n3 k s b d w).st z = .er:=by simp only [Tm.st,hr,eb,ed,ew,SR.or]
   rw [hT]
   cases k with
   | re=>exact w4 [(16,.F),(41,.r SR.no.q),(41,.r SR.no.q),(41,.r SR.er.q)] (kp [4,5]) (.tuple [.nil,num 0]) (.tuple [.nil,num 4]) (XA hT) g0 gb gd gw rfl
   | fo=>exact w4 [(16,.F),(41,.r SR.no.q),(41,.r SR.no.q),(41,.r SR.er.q)] (kp [4,5]) (.tuple [.nil,num 0]) (.tuple [.nil,num 4]) (XA hT) g0 gb gd gw rfl
  | ok x =>
   rw [ew] at gw;have hT:(Tm.n3 k s b d w).st z = .ok (Tm.n3 k s b d x):=by simp only [Tm.st,hr,eb,ed,ew,SR.or]
   rw [hT];obtain⟨sx1,sx2,_⟩:=EI z w ew;have g5:=RL k s b d w b d x
   cases k with
   | re=>exact w6 [(16,.F),(41,.r SR.no.q),(41,.r SR.no.q),(41,.r (SR.ok x).q),(300015,.f 0 [[b.nd'],[d.nd'],[x.nd']]),(60,.r (Tm.n3 .re s b d x).nd')] (kp [4,5]) (.tuple [.nil,num 0]) (.tuple [(Tm.n3 .re s b d x).nd',num 0]) (XA hT) g0 gb gd gw (rfl:vA [[b.nd'],[d.nd'],[x.nd']]=vA [[b.nd'],[d.nd'],[x.nd']]) g5 rfl
   | fo=>exact w6 [(16,.F),(41,.r SR.no.q),(41,.r SR.no.q),(41,.r (SR.ok x).q),(300015,.f 0 [[b.nd'],[d.nd'],[x.nd']]),(60,.r (Tm.n3 .fo s b d x).nd')] (kp [4,5]) (.tuple [.nil,num 0]) (.tuple [(Tm.n3 .fo s b d x).nd',num 0]) (XA hT) g0 gb gd gw (rfl:vA [[b.nd'],[d.nd'],[x.nd']]=vA [[b.nd'],[d.nd'],[x.nd']]) g5 rfl
  | no =>
  rw [ew] at gw;have hT:(Tm.n3 k s b d w).st z = .no:=by simp only [Tm.st,hr,eb,ed,ew,SR.or]
  have hn:(Tm.n3 k s b d w).nf=true:=(QE z _).2 hT;rw [hT]
  cases k with
  | re=>exact w5 [(16,.F),(41,.r SR.no.q),(41,.r SR.no.q),(41,.r SR.no.q),(99999,.s)] (kp [4,5]) (.tuple [.nil,num 0]) (.tuple [.nil,num 0]) (XA hT) g0 gb gd gw hn rfl
  | fo=>exact w5 [(16,.F),(41,.r SR.no.q),(41,.r SR.no.q),(41,.r SR.no.q),(99999,.s)] (kp [4,5]) (.tuple [.nil,num 0]) (.tuple [.nil,num 0]) (XA hT) g0 gb gd gw hn rfl
open Go.Lg
theorem FX {t r:Tm} (h:t.red=some r) (hn:t.nf=false):A 314 [t.nd'] (.bool t.nf):=by
 have g:=OE t;rw [h] at g;exact w1 [(10,.T)] (kp [2]) (.bool true) (.bool false) (b:=t.nf) (λ h=>by rw [h]) g (by rw [hn])
theorem mK:∀ t:Tm,A 314 [t.nd'] (.bool t.nf)
 | .v i=>w2 [(10,.F),(99999,.s)] (kp [2]) (.bool true) (.bool true) (b:=true) (λ _=>rfl) (OE (.v i)) (rfl:true=true) rfl
 | .n0 k=>by
  have g:=OE (.n0 k);cases k<;>exact w2 [(10,.F),(99999,.s)] (kp [2]) (.bool true) (.bool true) (b:=true) (λ _=>rfl) g (rfl:true=true) rfl
 | .lam s b=>by
  have g:=OE (.lam s b);have g1:=mK b;cases e:b.nf<;>rw [e] at g1
  ·have hn:(Tm.lam s b).nf=false:=e;exact w2 [(10,.F),(21,.F)] (kp [2]) (.bool true) (.bool false) (b:=(Tm.lam s b).nf) (λ h=>by rw [h]) g g1 (by rw [hn])
  ·have hn:(Tm.lam s b).nf=true:=e;exact w3 [(10,.F),(21,.T),(99999,.s)] (kp [2]) (.bool true) (.bool true) (b:=(Tm.lam s b).nf) (λ h=>by rw [h]) g g1 hn (by rw [hn])
 | .n1 k b=>by
  cases hr:(Tm.n1 k b).red with
  | some r=>exact FX hr (by simp only [Tm.nf,hr];rfl)
  | none =>
   have g:=OE (.n1 k b);have hbf:(Tm.n1 k b).nf=true->PV.bool true = .bool (Tm.n1 k b).nf:=λ h=>by rw [h]
   rw [hr] at g;have g1:=mK b;cases e:b.nf<;>rw [e] at g1
   ·have hn:(Tm.n1 k b).nf=false:=by simp only [Tm.nf,hr,e];rfl
    cases k<;>exact w2 [(10,.F),(21,.F)] (kp [2]) (.bool true) (.bool false) hbf g g1 (by rw [hn])
   ·have hn:(Tm.n1 k b).nf=true:=by simp only [Tm.nf,hr,e];rfl
    cases k<;>exact w3 [(10,.F),(21,.T),(99999,.s)] (kp [2]) (.bool true) (.bool true) hbf g g1 hn (by rw [hn])
 | .n2 k b d=>by
  cases hr:(Tm.n2 k b d).red with
  | some r=>exact FX hr (by simp only [Tm.nf,hr];rfl)
  | none =>
   have g:=OE (.n2 k b d);have hbf:(Tm.n2 k b d).nf=true->PV.bool true = .bool (Tm.n2 k b d).nf:=λ h=>by rw [h]
   rw [hr] at g;have g1:=mK b;have g2:=mK d;cases e:b.nf<;>rw [e] at g1
   ·have hn:(Tm.n2 k b d).nf=false:=by simp only [Tm.nf,hr,e];rfl
    cases k<;>exact w2 [(10,.F),(21,.F)] (kp [2]) (.bool true) (.bool false) hbf g g1 (by rw [hn])
   ·cases e':d.nf<;>rw [e'] at g2
    ·have hn:(Tm.n2 k b d).nf=false:=by simp only [Tm.nf,hr,e,e'];rfl
     cases k<;>exact w3 [(10,.F),(21,.T),(21,.F)] (kp [2]) (.bool true) (.bool false) hbf g g1 g2 (by rw [hn])
    ·have hn:(Tm.n2 k b d).nf=true:=by simp only [Tm.nf,hr,e,e'];rfl
     cases k<;>exact w4 [(10,.F),(21,.T),(21,.T),(99999,.s)] (kp [2]) (.bool true) (.bool true) hbf g g1 g2 hn (by rw [hn])
 | .n3 k s b d w=>by
  cases hr:(Tm.n3 k s b d w).red with
  | some r=>exact FX hr (by simp only [Tm.nf,hr];rfl)
  | none =>
   have g:=OE (.n3 k s b d w);have hbf:(Tm.n3 k s b d w).nf=true->PV.bool true = .bool (Tm.n3 k s b d w).nf:=λ h=>by rw [h]
   rw [hr] at g;have g1:=mK b;have g2:=mK d;have g3:=mK w;cases e:b.nf<;>rw [e] at g1
   ·have hn:(Tm.n3 k s b d w).nf=false:=by simp only [Tm.nf,hr,e];rfl
    cases k<;>exact w2 [(10,.F),(21,.F)] (kp [2]) (.bool true) (.bool false) hbf g g1 (by rw [hn])
   ·cases e':d.nf<;>rw [e'] at g2
    ·have hn:(Tm.n3 k s b d w).nf=false:=by simp only [Tm.nf,hr,e,e'];rfl
     cases k<;>exact w3 [(10,.F),(21,.T),(21,.F)] (kp [2]) (.bool true) (.bool false) hbf g g1 g2 (by rw [hn])
    ·cases e'':w.nf<;>rw [e''] at g3
     ·have hn:(Tm.n3 k s b d w).nf=false:=by simp only [Tm.nf,hr,e,e',e''];rfl
      cases k<;>exact w4 [(10,.F),(21,.T),(21,.T),(21,.F)] (kp [2]) (.bool true) (.bool false) hbf g g1 g2 g3 (by rw [hn])
     ·have hn:(Tm.n3 k s b d w).nf=true:=by simp only [Tm.nf,hr,e,e',e''];rfl
      cases k<;>exact w5 [(10,.F),(21,.T),(21,.T),(21,.T),(99999,.s)] (kp [2]) (.bool true) (.bool true) hbf g g1 g2 g3 hn (by rw [hn])
structure TK (n:Nat) (t:Tm):Prop where
 cnt:t.cnt<=4096
 shp:t.shp=true
 sc:t.sc n
def SR.t (r:SR):PV:=match r with
 | .er => .tuple [.bool false,num 4]
 | .no => .tuple [.bool false,num 0]
 | .ok _ => .tuple [.bool true,num 0]
def SR.o (r:SR) (t:Tm) (k:Nat):Ob:=match r with
 | .ok x=>bx [x.nd',num (k+1)]
 | _=>bx [t.nd',num k]
abbrev EA:Nat:=100000
theorem TK.mx {n:Nat} {t:Tm} (h:TK n t) (hn:n<=EA):t.mx<=104096:=by
 have:=WG t n h.sc;have:=h.cnt;have hl:EA=100000:=rfl;omega
theorem TK.chk {n:Nat} {t:Tm} (h:TK n t):t.chk=0:=by
 unfold Tm.chk;rw [h.shp];simp only;rw [CA h.cnt]
theorem Yo {n:Nat} {t:Tm} (h:TK n t) (hn:n<=EA) (k:Nat) (hk:k<=1000:=by omega):O 312 [.loc 2 0] [(2,bx [t.nd',num k])] (.pv (t.st (4096-t.cnt)).t) [(2,(t.st (4096-t.cnt)).o t k)] /\ ∀ x,t.st (4096-t.cnt) = .ok x->TK n x:=by
 have hm:=jA;have hb:=uA;have hc:=h.cnt;have hx:=h.mx hn;have g0:=sN (i:=4096) (d:=t.cnt);have g1:A 333 [t.nd',.int (4096 - .ofNat t.cnt)] (t.st (4096-t.cnt)).q:=lK (4096 - .ofNat t.cnt) (by simp;omega) t (by rw [hm];omega) (by omega)
 cases e:t.st (4096-t.cnt) with
 | er=>rw [e] at g1;exact⟨o2 3 [(16,.y (4096-Int.ofNat t.cnt)),(17,.r SR.er.q)] g0 g1,λ x e=>nomatch e⟩
 | no=>rw [e] at g1;exact⟨o2 3 [(16,.y (4096-Int.ofNat t.cnt)),(17,.r SR.no.q)] g0 g1,λ x e=>nomatch e⟩
 | ok x =>
  rw [e] at g1;obtain⟨s1,s2,_⟩:=EI _ t e;obtain⟨s4,s5⟩:=Xo _ t e h.sc h.shp;refine⟨o3 3 [(16,.y (4096-Int.ofNat t.cnt)),(17,.r (SR.ok x).q),(35,.z (k+1))] g0 g1 (AA (a:=k) (b:=1)),?_⟩;intro y e;cases e;exact⟨by omega,s5,s4⟩
abbrev TL:Kp:=⟨[1,4,8],[1,2],3,[]⟩
abbrev me:Kp:=⟨[4,5,6],[1],3,[]⟩
abbrev Zo:Kp:=⟨[4,8],[1,2],3,[]⟩
abbrev GX (k:Nat) (t:Tm):IS:=st [(1,.pv (num 1000)),(4,.loc 1 0),(8,.loc 2 0)] [(1,bx kz),(2,bx [t.nd',num k])] 3 []
abbrev gT (n e:Nat) (l:List PV):IS:=st [(4,.loc 1 0),(5,.pv (num n)),(6,.pv (num e))] [(1,bx l)] 3 []
abbrev IX (t:Tm):IS:=st [(4,.loc 1 0),(8,.loc 2 0)] [(1,bx kz),(2,bx [t.nd',num 1000])] 3 []
theorem zp {n:Nat} (hn:n<=EA):∀ (r k:Nat),k+r=1000->∀ t:Tm,TK n t ->
  (∃ x j,Lp 283 0 0 (GX k t) .ret (gT j 0 (Tm.c x))/\TK n x/\rD r k t = .ok x j)\/(∃ e,Lp 283 0 0 (GX k t) .ret (gT 0 (e+1) kz)/\rD r k t = .er e) \/ ∃ x,Lp 283 0 0 (GX k t) (.exit 0) (IX x)/\TK n x/\rD r k t=rD 0 1000 x:=by
 intro r
 induction r with
 | zero =>
  intro k hk t ht;obtain rfl:k=1000:=by omega
  exact .inr (.inr ⟨t,x0 [] Zo,ht,rfl⟩)
 | succ r ih =>
  intro k hk t ht;have hlt:kA (.ofNat k) (.ofNat 1000)=true:=aA;obtain⟨g1,q1⟩:=Yo ht hn k;rw [rD]
  cases e1:t.st (4096-t.cnt) with
  | er=>rw [e1] at g1;exact .inr (.inl ⟨3,x2 [(38,.G),(41,.d 2 (bx [t.nd',num k]) (.pv SR.er.t))] me hlt g1,rfl⟩)
  | no=>rw [e1] at g1;exact .inl ⟨t,k,x3 [(38,.G),(41,.d 2 (bx [t.nd',num k]) (.pv SR.no.t)),(54,.r t.p)] me hlt g1 (SI t),ht,rfl⟩
  | ok x =>
   rw [e1] at g1;have hx:=q1 x e1;rcases ih (k+1) (by omega) x hx with ⟨y,j,h4,h5⟩|⟨e,h4,h5⟩|⟨y,h4,h5⟩
   ·exact .inl ⟨y,j,n3 [(38,.G),(41,.d 2 (bx [x.nd',num (k+1)]) (.pv (SR.ok x).t))] TL hlt g1 h4,h5⟩
   ·exact .inr (.inl ⟨e,n3 [(38,.G),(41,.d 2 (bx [x.nd',num (k+1)]) (.pv (SR.ok x).t))] TL hlt g1 h4,h5⟩)
   ·exact .inr (.inr ⟨y,n3 [(38,.G),(41,.d 2 (bx [x.nd',num (k+1)]) (.pv (SR.ok x).t))] TL hlt g1 h4,h5⟩)
theorem UL {n:Nat} {t:Tm} (h:TK n t) (hn:n<=EA:=by omega):A 283 [t.p,num 1000] (FI t).p /\ ∀ x k,FI t = .ok x k->TK n x:=by
 have hm:=jA;have hb:=uA;have hc:=h.cnt;have hx:=h.mx hn;have ht:=NE t h.shp;have g1:=a92 t;rw [h.chk] at g1;have g2:=a298 t;have hf:JE=536870912:=rfl;rw [UG t (by omega)] at g2;have g3:=uK t (by omega) (by omega);unfold FI;rcases zp hn 1000 0 rfl t h with ⟨x,k,h4,h5,h6⟩|⟨e,h4,h6⟩|⟨x,h4,h5,h6⟩<;>rw [h6]
 ·exact⟨f4 [(12,.N 0),(25,.T),(30,.r t.nd'),(100007,.l TL .ret (gT k 0 x.c))] g1 g2 g3 h4,λ y j e=>by cases e;exact h5⟩
 ·exact⟨f4 [(12,.N 0),(25,.T),(30,.r t.nd'),(100007,.l TL .ret (gT 0 (e+1) kz))] g1 g2 g3 h4,λ y j e=>by cases e⟩
 ·have g4:=mK x;cases e:x.nf<;>rw [e] at g4
  ·have h7:rD 0 1000 x = .er 4:=by
    rw [rD]
    cases e2:x.st (4096-x.cnt) with
    | no=>rw [(QE _ x).2 e2] at e;cases e
    | er=>rfl
    | ok y=>rfl
   rw [h7];exact⟨f5 [(12,.N 0),(25,.T),(30,.r t.nd'),(100007,.l TL (.exit 0) (IX x)),(63,.F)] g1 g2 g3 h4 g4,λ y j e=>by cases e⟩
  ·have h7:rD 0 1000 x = .ok x 1000:=by rw [rD,(QE _ x).1 e]
   rw [h7];exact⟨f6 [(12,.N 0),(25,.T),(30,.r t.nd'),(100007,.l TL (.exit 0) (IX x)),(63,.T),(70,.r x.p)] g1 g2 g3 h4 g4 (SI x),λ y j e=>by cases e;exact h5⟩
theorem FK.eq1 {n:Nat} {a b:Tm} (h:FK n (.eq a b)):TK n a:=⟨by have:=h.cnt;simp only [Fm.cnt] at this;omega,(DA h.shp).1,h.sc.1⟩
theorem FK.eq2 {n:Nat} {a b:Tm} (h:FK n (.eq a b)):TK n b:=⟨by have:=h.cnt;simp only [Fm.cnt] at this;omega,(DA h.shp).2,h.sc.2⟩
theorem FK.bin1 {n:Nat} {k:FB} {a b:Fm} (h:FK n (.bin k a b)):FK n a:=⟨by have:=h.cnt;simp only [Fm.cnt] at this;omega,(DA h.shp).1,h.sc.1⟩
theorem FK.bin2 {n:Nat} {k:FB} {a b:Fm} (h:FK n (.bin k a b)):FK n b:=⟨by have:=h.cnt;simp only [Fm.cnt] at this;omega,(DA h.shp).2,h.sc.2⟩
theorem FK.qf {n:Nat} {k:FQ} {s:Ty} {a:Fm} (h:FK n (.q k s a)):FK (n+1) a:=⟨by have:=h.cnt;simp only [Fm.cnt] at this;omega,(DA h.shp).2,h.sc⟩
theorem FK.qs {n:Nat} {k:FQ} {s:Ty} {a:Fm} (h:FK n (.q k s a)):s.size<=64:=IE (DA h.shp).1
theorem FK.chk {n:Nat} {f:Fm} (h:FK n f):f.chk=0:=by
 unfold Fm.chk;rw [h.shp];simp only;rw [CA h.cnt]
theorem FK.mx {n:Nat} {f:Fm} (h:FK n f) (hn:n<=EA):f.mx<=104096:=by
 have:=QL f n h.sc;have:=h.cnt;have hl:EA=100000:=rfl;omega
theorem FK.up {n m:Nat} {f:Fm} (h:FK n f) (hn:n<=m):FK m f:=⟨h.cnt,h.shp,vT f hn h.sc⟩
theorem FK.a89 {n:Nat} {f:Fm} (h:FK n f):A 46 [f.p] (num 0):=by
 have hb:=uA;have g:=Go.Proofs.YtmkajedkflhbgaaGreatDoor.a89 f (by have:=yK f h.shp;omega) (by have:=h.cnt;omega);rwa [h.chk] at g
theorem FK.a296 {n:Nat} {f:Fm} (h:FK n f):A 289 [f.p] (.tuple [num f.cnt,num 0]):=by
 have hb:=uA;have g:=Go.Proofs.YtmkajedkflhbgaaGreatDoor.a296 f (by have:=yK f h.shp;omega) (by have:=h.cnt;omega);rwa [Fm.ckn0 h.chk,h.chk] at g
theorem FK.a295 {n:Nat} {f:Fm} (h:FK n f) (hn:n<=EA):A 288 [f.p] (.bool true):=by
 have hm:=jA;have hf:JE=536870912:=rfl;have g:=Go.Proofs.YtmkajedkflhbgaaGreatDoor.a295 f (by have:=h.cnt;omega);rwa [ZS f (by have:=h.mx hn;omega)] at g
theorem TK.a92 {n:Nat} {t:Tm} (h:TK n t):A 49 [t.p] (num 0):=by
 have hb:=uA;have g:=Go.Proofs.YtmkajedkflhbgaaGreatDoor.a92 t (by have:=NE t h.shp;omega) (by have:=h.cnt;omega);rwa [h.chk] at g
theorem TK.a297 {n:Nat} {t:Tm} (h:TK n t):A 290 [t.p] (.tuple [num t.cnt,num 0]):=by
 have hb:=uA;have g:=Go.Proofs.YtmkajedkflhbgaaGreatDoor.a297 t (by have:=NE t h.shp;omega) (by have:=h.cnt;omega);rwa [Tm.ckn0 h.chk,h.chk] at g
theorem TK.a298 {n:Nat} {t:Tm} (h:TK n t) (hn:n<=EA):A 291 [t.p] (.bool true):=by
 have hm:=jA;have hf:JE=536870912:=rfl;have g:=Go.Proofs.YtmkajedkflhbgaaGreatDoor.a298 t (by have:=h.cnt;omega);rwa [UG t (by have:=h.mx hn;omega)] at g
theorem ce {n:Nat} {a b:Tm} (ha:TK n a) (hb:TK n b) (hn:n<=EA) (h:a.mt b):A 305 [a.p,b.p,num 1000] (num 0):=by
 obtain⟨r,g3,q3⟩:=Ld a b;cases r
 ·rcases h with h|⟨x,j,l,e1,e2⟩
  ·exact absurd (q3.2 h) (by simp)
  ·have g4:=(UL ha hn).1;have g5:=(UL hb hn).1;rw [e1] at g4;rw [e2] at g5;obtain⟨r,g6,q6⟩:=Ld x x;rw [q6.2 rfl] at g6;exact f6 [(15,.N 0),(20,.N 0),(26,.F),(30,.r (NF.ok x j).p),(40,.r (NF.ok x l).p),(49,.T)] ha.a92 hb.a92 g3 g4 g5 g6
 ·exact f3 [(15,.N 0),(20,.N 0),(26,.T)] ha.a92 hb.a92 g3
theorem mT:∀ (a b:Fm) (n:Nat),FK n a->FK n b->n+a.cnt<=EA->a.mt b->A 277 [a.p,b.p] (num 0)
 | .eq a c,.eq b d,n,h1,h2,hn,h=>f3 [(21,.T),(38,.N 0),(38,.N 0)] yG (ce h1.eq1 h2.eq1 (by omega) h.1) (ce h1.eq2 h2.eq2 (by omega) h.2)
 | .bin k f g,.bin l f' g',n,h1,h2,hn,h=>by
  obtain⟨rfl,h3,h4⟩:=h;simp only [Fm.cnt] at hn;exact f4 [(15,.H),(21,.T),(57,.N 0),(57,.N 0)] (tB k.n) yG (mT f f' n h1.bin1 h2.bin1 (by omega) h3) (mT g g' n h1.bin2 h2.bin2 (by omega) h4)
 | .q k s f,.q l u g,n,h1,h2,hn,h=>by
  obtain⟨rfl,rfl,h3⟩:=h;simp only [Fm.cnt] at hn;have g0:=fN s s;rw [(uD s s).2 rfl] at g0;exact f3 [(15,.H),(21,.T),(57,.N 0)] (tB k.n) g0 (mT f g (n+1) h1.qf h2.qf (by omega) h3)
 | .eq _ _,.bin _ _ _,_,_,_,_,h=>h.elim
 | .eq _ _,.q _ _ _,_,_,_,_,h=>h.elim
 | .bin _ _ _,.eq _ _,_,_,_,_,h=>h.elim
 | .bin _ _ _,.q _ _ _,_,_,_,_,h=>h.elim
 | .q _ _ _,.eq _ _,_,_,_,_,h=>h.elim
 | .q _ _ _,.bin _ _ _,_,_,_,_,h=>h.elim
theorem oe {n:Nat} {a b:Fm} (h1:FK n a) (h2:FK n b) (hn:n<=90000) (h:a.mt b):A 217 [a.p,b.p] (num 0) :=
 f3 [(8,.N 0),(13,.N 0),(19,.N 0)] h1.a89 h2.a89 (mT a b n h1 h2 (by have:=h1.cnt;have hl:EA=100000:=rfl;omega) h)
open Go.Lg
theorem TK.Lf {n:Nat} {t:Tm} (h:TK n t) (hn:n<=EA):Lf t.x t:=by
 have hm:=jA;have h1:=h.cnt;have h2:=h.mx hn;exact .of t (by omega) (by rw [hm];omega) λ z hz=>aX t 0 z (by omega) hz (by omega) (by rw [hm];omega)
theorem jp {f:Fm} {t:Tm} (h:f.cnt+f.occ 0 * (t.cnt-1)<=4096):(f.put 0 t 0).cnt=f.cnt+f.occ 0 * (t.cnt-1):=by
 have e1:=LL 0 t f 0;have ca:=pE t;simp only [Nat.add_zero] at e1;have e4:f.occ 0 * (t.cnt-1)+f.occ 0=f.occ 0 * t.cnt:=by
  obtain⟨k,hk⟩:∃ k,t.cnt=k+1:=⟨t.cnt-1,by omega⟩;rw [hk,Nat.add_sub_cancel,Nat.mul_succ]
 omega
theorem FK.pt {n:Nat} {f:Fm} {t:Tm} (h:FK (n+1) f) (ht:TK n t) {g:Fm} (e:f.pt t = .ok g):g=f.put 0 t 0/\FK n g:=by
 unfold Fm.pt at e;split at e
 ·rename_i hl;cases e;refine⟨rfl,?_,?_,?_⟩
  ·rw [jp hl];exact hl
  ·exact aN 0 t f 0 (.inl ht.shp) h.shp
  ·exact tN t n f 0 h.sc (.inl ht.sc)
 ·cases e
theorem xe {a b:Nat} (h:a<=4096:=by omega) (h':b<=4096:=by omega):a * b<=16777216:=Nat.mul_le_mul h h'
theorem oN {n:Nat} {f:Fm} {t:Tm} (h:FK (n+1) f) (ht:TK n t) (hn:n+1<=EA:=by omega):A 223 [f.p,t.p] (f.pt t).p:=by
 have hm:=jA;have hb:=uA;have c1:=h.cnt;have c2:=ht.cnt;have c3:=pE t;have hx:=h.mx hn;have ho:=CH f 0;have hm1:=xe (a:=f.occ 0) (b:=t.cnt-1);have g1:=SS f (by have:=yK f h.shp;omega);rw [Fm.ckn0 h.chk,h.chk] at g1;have g2:=PS t (by have:=NE t ht.shp;omega);rw [Tm.ckn0 ht.chk,ht.chk] at g2;have g3:=MP f 0 (by omega) (by rw [hm];omega);have g4:=nB (a:=t.cnt) c3;have g5:=RP (a:=f.occ 0) (b:=t.cnt-1) (by omega) rfl;have g6:=PE (a:=f.cnt) (b:=f.occ 0 * (t.cnt-1)) (by omega) rfl;unfold Fm.pt;split
 ·rename_i hl;have g7:=LP f 0 t.x t (.inl (ht.Lf (by omega))) (by omega) (by rw [hm];omega);exact f8 [(12,.U [num f.cnt,num 0]),(17,.U [num t.cnt,num 0]),(22,.N (f.occ 0)),(24,.z (t.cnt-1)),(25,.z (f.occ 0 * (t.cnt-1))),(26,.z (f.cnt+f.occ 0 * (t.cnt-1))),(27,.H),(31,.r (f.put 0 t 0).p)] g1 g2 g3 g4 g5 g6 (CA (a:=4096) hl) g7
 ·rename_i hl;exact f7 [(12,.U [num f.cnt,num 0]),(17,.U [num t.cnt,num 0]),(22,.N (f.occ 0)),(24,.z (t.cnt-1)),(25,.z (f.occ 0 * (t.cnt-1))),(26,.z (f.cnt+f.occ 0 * (t.cnt-1))),(27,.G)] g1 g2 g3 g4 g5 g6 (aA (a:=4096) (b:=f.cnt+f.occ 0 * (t.cnt-1)))
theorem vp {n:Nat} {f:Fm} {t:Tm} (h:FK (n+1) f) (ht:TK n t) (hn:n+1<=EA):A 239 [f.p,num 0,t.p] (f.pt t).p:=by
 have hm:=jA;have hb:=uA;have c1:=h.cnt;have c2:=ht.cnt;have c3:=pE t;have hx:=h.mx hn;have ho:=CH f 0;have hm1:=xe (a:=f.occ 0) (b:=t.cnt-1);have g1:=h.a296;have g2:=ht.a297;have g3:=MP f 0 (by omega) (by rw [hm];omega);have g4:=nB (a:=t.cnt) c3;have g5:=RP (a:=f.occ 0) (b:=t.cnt-1) (by omega) rfl;have g6:=PE (a:=f.cnt) (b:=f.occ 0 * (t.cnt-1)) (by omega) rfl;unfold Fm.pt;split
 ·rename_i hl;have g7:=LP f 0 t.x t (.inl (ht.Lf (by omega))) (by omega) (by rw [hm];omega);exact f10 [(13,.U [num f.cnt,num 0]),(26,.U [num t.cnt,num 0]),(34,.T),(38,.T),(45,.N (f.occ 0)),(47,.z (t.cnt-1)),(48,.z (f.occ 0 * (t.cnt-1))),(49,.z (f.cnt+f.occ 0 * (t.cnt-1))),(50,.H),(55,.r (f.put 0 t 0).p)] g1 g2 (h.a295 hn) (ht.a298 (by omega)) g3 g4 g5 g6 (CA (a:=4096) hl) g7
 ·rename_i hl;exact f9 [(13,.U [num f.cnt,num 0]),(26,.U [num t.cnt,num 0]),(34,.T),(38,.T),(45,.N (f.occ 0)),(47,.z (t.cnt-1)),(48,.z (f.occ 0 * (t.cnt-1))),(49,.z (f.cnt+f.occ 0 * (t.cnt-1))),(50,.G)] g1 g2 (h.a295 hn) (ht.a298 (by omega)) g3 g4 g5 g6 (aA (a:=4096) (b:=f.cnt+f.occ 0 * (t.cnt-1)))
theorem yp {n:Nat} {f:Fm} (h:FK n f) (hn:n<=EA):A 238 [f.p,num 0,num 1] (FR.ok (f.sh 0 (.ofNat 1))).p:=by
 have hm:=jA;exact f3 [(10,.N 0),(25,.T),(32,.r (f.sh 0 (.ofNat 1)).p)] h.a89 (h.a295 hn) (IH f 0 1 (by omega) (by have:=h.cnt;omega) (by have:=h.mx hn;rw [hm];omega))
theorem bp {n:Nat} {f:Fm} (h:FK n f) (hn:n<=EA):A 238 [f.p,num 0,num 2] (FR.ok (f.sh 0 (.ofNat 2))).p:=by
 have hm:=jA;exact f3 [(10,.N 0),(25,.T),(32,.r (f.sh 0 (.ofNat 2)).p)] h.a89 (h.a295 hn) (IH f 0 2 (by omega) (by have:=h.cnt;omega) (by have:=h.mx hn;rw [hm];omega))
theorem fp {n:Nat} {f:Fm} (h:FK n f) (hn:n<=EA:=by omega):A 238 [f.p,num 1,num 1] (FR.ok (f.sh 1 (.ofNat 1))).p:=by
 have hm:=jA;exact f3 [(10,.N 0),(25,.T),(32,.r (f.sh 1 (.ofNat 1)).p)] h.a89 (h.a295 hn) (IH f 1 1 (by omega) (by have:=h.cnt;omega) (by have:=h.mx hn;rw [hm];omega))
theorem lp {n:Nat} {f:Fm} (h:FK n f) (hn:n<=EA:=by omega):A 238 [f.p,num 2,num 1] (FR.ok (f.sh 2 (.ofNat 1))).p:=by
 have hm:=jA;exact f3 [(10,.N 0),(25,.T),(32,.r (f.sh 2 (.ofNat 1)).p)] h.a89 (h.a295 hn) (IH f 2 1 (by omega) (by have:=h.cnt;omega) (by have:=h.mx hn;rw [hm];omega))
theorem JX {f:Fm} (h0:f.occ 0=0):f.low.cnt=f.cnt:=by
 have e1:f.low.cnt+f.occ 0=f.cnt+f.occ 0 * (Tm.v 0).cnt:=LL 0 (.v 0) f 0;rw [h0,Nat.zero_mul] at e1;exact e1
theorem FK.low {n:Nat} {f:Fm} (h:FK (n+1) f) (h0:f.occ 0=0):FK n f.low:=by
 refine⟨?_,aN 0 _ f 0 (.inr h0) h.shp,tN _ n f 0 h.sc (.inr h0)⟩;rw [JX h0];exact h.cnt
theorem Ae {n:Nat} {f:Fm} (h:FK n f) (hn:n<=EA:=by omega):A 240 [f.p,num 0] (if f.occ 0=0 then FR.ok f.low else .er 5).p:=by
 have hm:=jA;have c1:=h.cnt;have hx:=h.mx hn;have g3:=MP f 0 (by omega) (by rw [hm];omega);split
 ·rename_i h0;rw [h0] at g3;exact f3 [(8,.N 0),(19,.N 0),(25,.r f.low.p)] h.a89 g3 (LP f 0 .z (.v 0) (.inr h0) (by omega) (by rw [hm];omega))
 ·rename_i h0;exact f3 [(8,.N 0),(19,.N (f.occ 0)),(20,.G)] h.a89 g3 (aA (a:=0) (b:=f.occ 0))
theorem xN:∀ (f:Fm) (n:Nat),FK n f->n+f.cnt<=EA->∀ g,VB f=some g->g.sc n/\g.shp=true/\g.cnt<=4096 * f.cnt
 | .eq a b,n,h,hn,g,e=>by
  have ca:=pE a;have cb:=pE b;simp only [Fm.cnt] at hn;have q1:=(UL h.eq1).2;have q2:=(UL h.eq2).2;unfold VB at e;split at e
  ·rename_i x j e1;split at e
   ·rename_i y l e2;cases e;have h1:=q1 x j e1;have h2:=q2 y l e2;have:=h1.cnt;have:=h2.cnt;exact⟨⟨h1.sc,h2.sc⟩,by show (_ && _)=true;rw [h1.shp,h2.shp];rfl,by simp only [Fm.cnt];omega⟩
   ·cases e
  ·cases e
 | .bin k a b,n,h,hn,g,e=>by
  simp only [Fm.cnt] at hn;unfold VB at e;split at e
  ·rename_i x e1;split at e
   ·rename_i y e2;cases e;obtain⟨h1,h2,h3⟩:=xN a n h.bin1 (by omega) x e1;obtain⟨k1,k2,k3⟩:=xN b n h.bin2 (by omega) y e2;exact⟨⟨h1,k1⟩,by show (_ && _)=true;rw [h2,k2];rfl,by simp only [Fm.cnt];omega⟩
   ·cases e
  ·cases e
 | .q k s a,n,h,hn,g,e=>by
  simp only [Fm.cnt] at hn;unfold VB at e;split at e
  ·rename_i x e1;cases e;obtain⟨h1,h2,h3⟩:=xN a (n+1) h.qf (by omega) x e1;exact⟨h1,by show (_ && _)=true;rw [(DA h.shp).1,h2];rfl,by simp only [Fm.cnt];omega⟩
  ·cases e
structure Sy where
 k:Nat
 tk:Nat
 te:List (List PV)
 ts:List (List PV)
 es:List (List PV)
abbrev Sy.c (s:Sy):List PV:=[num s.k,num s.tk,.slice s.te,.slice s.ts,.slice s.es]
abbrev Fm.y (f:Fm):Sy:=⟨f.kd,f.tk,f.te,f.ts,f.es⟩
abbrev NH (e:Nat):List (Nat × Ob):=[(2,bx [num e])]
theorem Be {n:Nat} {t y:Tm} {k:Nat} (h:TK n t) (hn:n<=EA) (d:Nat) (e:FI t = .ok y k):O 282 [.pv t.p,.pv (num d),.loc 2 0] (NH 0) (.pv (.agg y.x.c)) (NH 0):=by
 have g1:=(UL h hn).1;rw [e] at g1;exact o1 3 [(14,.r (NF.ok y k).p)] g1
theorem nT:∀ (f g:Fm) (n d:Nat),FK n f->n+f.cnt<=EA->d+f.cnt<=qA->VB f=some g->O 149 [.pv f.p,.pv (num d),.fn 282 [.loc 2 0]] (NH 0) (.pv (.agg g.y.c)) (NH 0)
 | .eq a b,g,n,d,h,hn,hd,e=>by
  simp only [Fm.cnt] at hn;unfold VB at e;split at e
  ·rename_i x j e1;split at e
   ·rename_i y l e2;cases e;exact o3 3 [(16,.r zt),(30,.o [] (NH 0) (.pv (.agg x.x.c))),(30,.o [] (NH 0) (.pv (.agg y.x.c)))] CC (Be h.eq1 (by omega) d e1) (Be h.eq2 (by omega) d e2)
   ·cases e
  ·cases e
 | .bin k a b,g,n,d,h,hn,hd,e=>by
  simp only [Fm.cnt] at hn hd;unfold VB at e;split at e
  ·rename_i x e1;split at e
   ·rename_i y e2;cases e;have g1:=nT a x n d h.bin1 (by omega) (by omega) e1;have g2:=nT b y n d h.bin2 (by omega) (by omega) e2;cases k<;>exact o3 3 [(16,.r zt),(52,.o [] (NH 0) (.pv (.agg x.y.c))),(52,.o [] (NH 0) (.pv (.agg y.y.c)))] CC g1 g2
   ·cases e
  ·cases e
 | .q k s a,g,n,d,h,hn,hd,e=>by
  have hm:=jA;have hb:=uA;simp only [Fm.cnt] at hn hd;unfold VB at e;split at e
  ·rename_i x e1;cases e;have g1:=nT a x (n+1) (d+1) h.qf (by omega) (by omega) e1;have g:=AA (a:=d) (b:=1);cases k<;>exact o3 3 [(16,.r s.p),(39,.z (d+1)),(52,.o [] (NH 0) (.pv (.agg x.y.c)))] (sE s) g g1
  ·cases e
theorem np {n:Nat} {f g:Fm} (h:FK (n+1) f) (hn:n+1<=90000) (e:VC f=some g):A 226 [f.p] (FR.ok g).p:=by
 have hm:=jA;have hl:EA=100000:=rfl;have c1:=h.cnt;have hx:=h.mx (by omega);have g1:=MP f 0 (by omega) (by rw [hm];omega);unfold VC at e;split at e
 ·rename_i h0;cases e;rw [h0] at g1;exact f2 [(7,.N 0),(11,.r f.low.p)] g1 (LP f 0 .z (.v 0) (.inr h0) (by omega) (by rw [hm];omega))
 ·rename_i h0;split at e
  ·rename_i y r1;split at e
   ·rename_i h1;cases e;have g2:=nT f y (n+1) 0 h (by omega) (by omega) r1;have g0:lB (.ofNat (f.occ 0)) (.ofNat 0)=false:=YF h0;obtain⟨k1,k2,k3⟩:=xN f (n+1) h (by omega) y r1;have k4:=QL y (n+1) k1;have g3:=MP y 0 (by omega) (by rw [hm];omega);rw [h1] at g3;exact f5 [(7,.N (f.occ 0)),(8,.H),(14,.o [] (NH 0) (.pv (.agg y.y.c))),(22,.N 0),(27,.r y.low.p)] g1 g0 g2 g3 (LP y 0 .z (.v 0) (.inr h1) (by omega) (by rw [hm];omega))
   ·cases e
  ·cases e
open Go.Lg
theorem UI:A 233 [] Ty.nat.p:=f0 []
theorem OH (i:Nat):A 236 [num i] (Tm.v i).p:=f0 []
theorem pT (k:K0):A 284 [num k.n,row []] (Tm.n0 k).p:=f0 []
theorem Ce (k:K1) (a:Tm):A 284 [num k.n,row [a]] (Tm.n1 k a).p:=f0 []
theorem rT (k:K2) (a b:Tm):A 284 [num k.n,row [a,b]] (Tm.n2 k a b).p:=f0 []
theorem pp (t:Tm) (s:Ty):A 349 [t.p,cA [s]] (Tm.lam s t).p:=f0 []
theorem Ee (t:Tm) (s u:Ty):A 349 [t.p,cA [s,u]] (Tm.lam s (.lam u t)).p:=f0 []
theorem ap (k:K3) (s:Ty) (a b c:Tm):A 350 [num k.n,s.p,a.p,b.p,c.p] (Tm.n3 k s a b c).p:=f0 []
theorem Fe (a b c:Tm):A 338 [a.p,b.p,c.p] (Tm.n3 .re .nat a (.lam .nat (.lam .nat b)) c).p :=
 f5 [(7,.Y),(10,.Y),(11,.Y),(13,.r (Tm.lam .nat (.lam .nat b)).p),(15,.r (Tm.n3 .re .nat a (.lam .nat (.lam .nat b)) c).p)] UI UI UI (Ee b .nat .nat) (ap .re .nat a (.lam .nat (.lam .nat b)) c)
theorem ip (t:Tm):A 337 [t.p] (Tm.lam .nat (.lam .nat t)).p:=f3 [(4,.Y),(5,.Y),(7,.r (Tm.lam .nat (.lam .nat t)).p)] UI UI (Ee t .nat .nat)
theorem xp:A 339 [] predT.p :=
 f6 [(1,.r (Tm.n0 .zero).p),(2,.r (Tm.v 1).p),(3,.r (Tm.v 0).p),(4,.r (Tm.n3 .re .nat (.n0 .zero) (.lam .nat (.lam .nat (.v 1))) (.v 0)).p),(5,.Y),(7,.r predT.p)] (pT .zero) (OH 1) (OH 0) (Fe (.n0 .zero) (.v 1) (.v 0)) UI (pp (.n3 .re .nat (.n0 .zero) (.lam .nat (.lam .nat (.v 1))) (.v 0)) .nat)
theorem Ge (f a:Tm):A 235 [f.p,row [a]] (Tm.n2 .app f a).p:=f1 [(16,.r (Tm.n2 .app f a).p)] (rT .app f a)
theorem Ap (f a b:Tm):A 235 [f.p,row [a,b]] (Tm.n2 .app (.n2 .app f a) b).p:=f2 [(16,.r (Tm.n2 .app f a).p),(16,.r (Tm.n2 .app (.n2 .app f a) b).p)] (rT .app f a) (rT .app (.n2 .app f a) b)
theorem Bp:A 322 [] subT.p:=by
 let x1:=Tm.n2 .app predT (.v 0);let x4:=Tm.n3 .re .nat (.v 1) (.lam .nat (.lam .nat x1)) (.v 0);exact f7 [(1,.r (Tm.v 1).p),(2,.r predT.p),(3,.r (Tm.v 0).p),(5,.r x1.p),(6,.r (Tm.v 0).p),(7,.r x4.p),(8,.r subT.p)] (OH 1) xp (OH 0) (Ge predT (.v 0)) (OH 0) (Fe (.v 1) x1 (.v 0)) (ip x4)
theorem He (a b:Tm):A 232 [a.p,b.p] (Fm.eq a b).p:=f0 []
def SP (x y:Tm):Fm:=.eq (.n2 .app (.n2 .app subT (.n1 .succ x)) y) (.n0 .zero)
theorem Cp (x y:Tm):A 297 [x.p,y.p] (SP x y).p :=
 f5 [(5,.r subT.p),(8,.r (Tm.n1 .succ x).p),(11,.r (Tm.n2 .app (.n2 .app subT (.n1 .succ x)) y).p),(12,.r (Tm.n0 .zero).p),(13,.r (SP x y).p)] Bp (Ce .succ x) (Ap subT (.n1 .succ x) y) (pT .zero) (He (.n2 .app (.n2 .app subT (.n1 .succ x)) y) (.n0 .zero))
theorem Dp (a b c d:Tm):∃ r,A 296 [(Fm.eq a b).p,(Fm.eq c d).p] (.bool r):=by
 obtain⟨r,g1,_⟩:=GH a c;obtain⟨q,g2,_⟩:=GH b d;cases r
 ·exact⟨false,f2 [(19,.T),(54,.F)] yG g1⟩
 ·cases q
  ·exact⟨false,f3 [(19,.T),(54,.T),(54,.F)] yG g1 g2⟩
  ·exact⟨true,f3 [(19,.T),(54,.T),(54,.T)] yG g1 g2⟩
abbrev zF:List PV:=[num 0,num 0,.slice [],.slice [],.slice []]
abbrev TP:PV:=.tuple [.bool false,(.agg Sx.z.c),.agg zF,.bool false]
abbrev Bd (k:FQ) (s:Ty) (f:Fm):Prop:=A 251 [(Fm.q k s f).p] TP \/ ∃ b t l a body,f = .bin l a body/\A 251 [(Fm.q k s f).p] (.tuple [.bool b,Tm.p t,Fm.p body,.bool true])
theorem Ie (k:FQ) (l:FB) (hk:k = .all/\l = .imp\/k = .ex/\l = .and) (t u:Tm) (body:Fm) (h:t.cnt<=4096:=by omega) (hx:t.mx<=qA * qA:=by omega):Bd k .nat (.bin l (.eq t u) body):=by
 have no:t.kd≠3->Bd k .nat (.bin l (.eq t u) body):=λ h => .inl (by
  rcases hk with ⟨rfl,rfl⟩|⟨rfl,rfl⟩<;>exact f1 [(64,.G)] (BC (m:=t.kd) (n:=3) h))
 cases t with
 | n2 j x y =>
  cases j with
  | app =>
   have hm:=jA;have h:1+x.cnt+y.cnt<=4096:=h;have hx:max x.mx y.mx<=qA * qA:=hx;have g1:=Zd y 0;by_cases h0:y.occ 0=0
   ·rw [h0] at g1;have g2:=Cp (.v 0) y;obtain⟨r,g3⟩:=Dp (.n2 .app x y) u (.n2 .app (.n2 .app subT (.n1 .succ (.v 0))) y) (.n0 .zero);cases r
    ·refine .inl ?_;rcases hk with ⟨rfl,rfl⟩|⟨rfl,rfl⟩<;>exact f3 [(70,.N 0),(80,.r (SP (.v 0) y).p),(81,.F)] g1 g2 g3
    ·rcases hk with ⟨rfl,rfl⟩|⟨rfl,rfl⟩
     ·exact .inr ⟨true,y,_,_,body,rfl,f3 [(70,.N 0),(80,.r (SP (.v 0) y).p),(81,.T)] g1 g2 g3⟩
     ·exact .inr ⟨false,y,_,_,body,rfl,f3 [(70,.N 0),(80,.r (SP (.v 0) y).p),(81,.T)] g1 g2 g3⟩
   ·have g2:kA (.ofNat 0) (.ofNat (y.occ 0))=true:=aA;refine .inl ?_;rcases hk with ⟨rfl,rfl⟩|⟨rfl,rfl⟩<;>exact f2 [(70,.N (y.occ 0)),(71,.G)] g1 g2
  | _=>exact no (nofun)
 | v i=>exact no (nofun)
 | lam s b=>exact no (nofun)
 | n0 j=>exact no (by cases j<;>exact nofun)
 | n1 j a=>exact no (by cases j<;>exact nofun)
 | n3 j s a b d=>exact no (by cases j<;>exact nofun)
theorem Ep (k:FQ) (s:Ty) (f:Fm) (h:f.cnt<=4096) (hx:f.mx<=qA * qA):Bd k s f:=by
 cases k with
 | allU=>exact .inl (f0 [])
 | exU=>exact .inl (f0 [])
 | all=>cases s with
  | nat=>cases f with
   | eq a b=>exact .inl (f0 [])
   | q j s f=>exact .inl (by cases j<;>exact f0 [])
   | bin j a b=>cases j with
    | and=>exact .inl (f0 [])
    | imp=>cases a with
     | bin j a b=>exact .inl (by cases j<;>exact f0 [])
     | q j s f=>exact .inl (by cases j<;>exact f0 [])
     | eq t u =>
      simp only [Fm.cnt,Fm.mx] at h hx;exact Ie .all .imp (.inl ⟨rfl,rfl⟩) t u b
  | two j s u=>exact .inl (by cases j<;>exact f0 [])
  | _=>exact .inl (f0 [])
 | ex=>cases s with
  | nat=>cases f with
   | eq a b=>exact .inl (f0 [])
   | q j s f=>exact .inl (by cases j<;>exact f0 [])
   | bin j a b=>cases j with
    | imp=>exact .inl (f0 [])
    | and=>cases a with
     | bin j a b=>exact .inl (by cases j<;>exact f0 [])
     | q j s f=>exact .inl (by cases j<;>exact f0 [])
     | eq t u =>
      simp only [Fm.cnt,Fm.mx] at h hx;exact Ie .ex .and (.inr ⟨rfl,rfl⟩) t u b
  | two j s u=>exact .inl (by cases j<;>exact f0 [])
  | _=>exact .inl (f0 [])
theorem VI:∀ v,v<8->∀ w,w<8->HA .and .u8 (.ofNat v) (.ofNat w) = .ofNat (v &&& w)/\v &&& w<8:=by decide +kernel
theorem PH:∀ v,v<8->∀ w,w<8->HA .or .u8 (.ofNat v) (.ofNat w) = .ofNat (v ||| w)/\v ||| w<8:=by decide +kernel
theorem WI {v w:Nat} (h:v<8) (h':w<8):(bif GF .u8 .u8 then rA (HA .and .u8 (.ofNat v) (.ofNat w)) else false)=true/\PV.num .u8 (HA .and .u8 (.ofNat v) (.ofNat w)) = .num .u8 (.ofNat (v &&& w)):=by
 have hb:=uA;rw [(VI v h w h').1];exact⟨YA (n:=v &&& w) (by have:=(VI v h w h').2;omega),rfl⟩
theorem nK {v w:Nat} (h:v<8) (h':w<8):(bif GF .u8 .u8 then rA (HA .or .u8 (.ofNat v) (.ofNat w)) else false)=true/\PV.num .u8 (HA .or .u8 (.ofNat v) (.ofNat w)) = .num .u8 (.ofNat (v ||| w)):=by
 have hb:=uA;rw [(PH v h w h').1];exact⟨YA (n:=v ||| w) (by have:=(PH v h w h').2;omega),rfl⟩
theorem Fp:∀ v,v<8->∀ w,w<8->(v &&& w &&& 6 ||| (w ||| v) &&& 1) % 2=max (v % 2) (w % 2):=by decide +kernel
theorem Gp:∀ v,v<8->∀ w,w<8->(v &&& w &&& 6 ||| w &&& 1) % 2=w % 2:=by decide +kernel
theorem Je:∀ v,v<8->(v &&& 1) % 2=v % 2/\((v ||| 1) &&& 1) % 2=1:=by decide +kernel
theorem tT:∀ v,v<8->∀ w,w<8->(v ||| w &&& 4) % 2=v % 2:=by decide +kernel
abbrev u8 (n:Nat):PV:=.num .u8 (.ofNat n)
def aT:Bool->Nat
 | true=>1
 | false=>0
theorem Ip (a b:Bool):max (aT a) (aT b)=aT (a || b):=by cases a<;>cases b<;>rfl
theorem UP:∀ (n:Nat) (f:Fm),f.cnt<=n->f.cnt<=4096->f.mx<=qA * qA->∃ v,v<8/\A 171 [f.p] (u8 v)/\v % 2=aT f.has
 | 0,f,hn,h,hx=>by
  have:1<=f.cnt:=by cases f<;>simp only [Fm.cnt]<;>omega
  omega
 | n+1,.eq a b,hn,h,hx=>⟨6,by decide,f0 [],rfl⟩
 | n+1,.bin k f g,hn,h,hx=>by
  simp only [Fm.cnt,Fm.mx] at hn h hx;obtain⟨v,l1,g1,q1⟩:=UP n f (by omega) (by omega) (by omega);obtain⟨w,l2,g2,q2⟩:=UP n g (by omega) (by omega) (by omega);have k1:=(VI v l1 w l2).2;have k2:=(VI _ k1 6 (by decide)).2
  cases k with
  | and =>
   have k3:=(PH w l2 v l1).2;have k4:=(VI _ k3 1 (by decide)).2;refine⟨v &&& w &&& 6 ||| (w ||| v) &&& 1,(PH _ k2 _ k4).2,?_,?_⟩
   ·exact f7 [(22,.r (u8 w)),(32,.r (u8 v)),(35,.v (u8 (v &&& w))),(36,.v (u8 (v &&& w &&& 6))),(42,.v (u8 (w ||| v))),(45,.v (u8 ((w ||| v) &&& 1))),(46,.v (u8 (v &&& w &&& 6 ||| (w ||| v) &&& 1)))] g2 g1 (WI l1 l2) (WI k1 (w:=6) (by decide)) (nK l2 l1) (WI k3 (w:=1) (by decide)) (nK k2 k4)
   ·rw [Fp v l1 w l2,q1,q2,Ip];rfl
  | imp =>
   have k4:=(VI w l2 1 (by decide)).2;refine⟨v &&& w &&& 6 ||| w &&& 1,(PH _ k2 _ k4).2,?_,?_⟩
   ·exact f6 [(22,.r (u8 w)),(32,.r (u8 v)),(35,.v (u8 (v &&& w))),(36,.v (u8 (v &&& w &&& 6))),(45,.v (u8 (w &&& 1))),(46,.v (u8 (v &&& w &&& 6 ||| w &&& 1)))] g2 g1 (WI l1 l2) (WI k1 (w:=6) (by decide)) (WI l2 (w:=1) (by decide)) (nK k2 k4)
   ·rw [Gp v l1 w l2,q2];rfl
 | n+1,.q k s f,hn,h,hx=>by
  simp only [Fm.cnt,Fm.mx] at hn h hx;obtain⟨v,l1,g1,q1⟩:=UP n f (by omega) (by omega) (by omega);have k1:=(VI v l1 1 (by decide)).2;have k2:=(PH v l1 1 (by decide)).2;have k3:=(VI _ k2 1 (by decide)).2;have z1:=WI l1 (w:=1) (by decide);have z2:=nK l1 (w:=1) (by decide);have z3:=WI k2 (w:=1) (by decide);have p1:=(Je v l1).1;have p2:=(Je v l1).2;rcases Ep k s f (by omega) hx with g2|⟨b,t,l,a,body,rfl,g2⟩
  ·cases k with
   | ex=>exact⟨(v ||| 1) &&& 1,k3,f4 [(22,.r (u8 v)),(50,.v (u8 (v ||| 1))),(52,.v (u8 ((v ||| 1) &&& 1))),(55,.r TP)] g1 z2 z3 g2,p2⟩
   | all=>exact⟨v &&& 1,k1,f3 [(22,.r (u8 v)),(52,.v (u8 (v &&& 1))),(55,.r TP)] g1 z1 g2,p1.trans q1⟩
   | allU=>exact⟨v &&& 1,k1,f3 [(22,.r (u8 v)),(52,.v (u8 (v &&& 1))),(55,.r TP)] g1 z1 g2,p1.trans q1⟩
   | exU=>exact⟨v &&& 1,k1,f3 [(22,.r (u8 v)),(52,.v (u8 (v &&& 1))),(55,.r TP)] g1 z1 g2,p1.trans q1⟩
  ·simp only [Fm.cnt,Fm.mx] at hn h hx;obtain⟨w,l2,g3,q2⟩:=UP n body (by omega) (by omega) (by omega);have y1:=(VI w l2 4 (by decide)).2;have y2:=WI l2 (w:=4) (by decide)
   cases k with
   | ex=>exact⟨(v ||| 1) &&& 1 ||| w &&& 4,(PH _ k3 _ y1).2,f7 [(22,.r (u8 v)),(50,.v (u8 (v ||| 1))),(52,.v (u8 ((v ||| 1) &&& 1))),(55,.U [.bool b,Tm.p t,Fm.p body,.bool true]),(63,.r (u8 w)),(64,.v (u8 (w &&& 4))),(65,.v (u8 ((v ||| 1) &&& 1 ||| w &&& 4)))] g1 z2 z3 g2 g3 y2 (nK k3 y1),(tT _ k3 w l2).trans p2⟩
   | all=>exact⟨v &&& 1 ||| w &&& 4,(PH _ k1 _ y1).2,f6 [(22,.r (u8 v)),(52,.v (u8 (v &&& 1))),(55,.U [.bool b,Tm.p t,Fm.p body,.bool true]),(63,.r (u8 w)),(64,.v (u8 (w &&& 4))),(65,.v (u8 (v &&& 1 ||| w &&& 4)))] g1 z1 g2 g3 y2 (nK k1 y1),(tT _ k1 w l2).trans (p1.trans q1)⟩
   | allU=>exact⟨v &&& 1 ||| w &&& 4,(PH _ k1 _ y1).2,f6 [(22,.r (u8 v)),(52,.v (u8 (v &&& 1))),(55,.U [.bool b,Tm.p t,Fm.p body,.bool true]),(63,.r (u8 w)),(64,.v (u8 (w &&& 4))),(65,.v (u8 (v &&& 1 ||| w &&& 4)))] g1 z1 g2 g3 y2 (nK k1 y1),(tT _ k1 w l2).trans (p1.trans q1)⟩
   | exU=>exact⟨v &&& 1 ||| w &&& 4,(PH _ k1 _ y1).2,f6 [(22,.r (u8 v)),(52,.v (u8 (v &&& 1))),(55,.U [.bool b,Tm.p t,Fm.p body,.bool true]),(63,.r (u8 w)),(64,.v (u8 (w &&& 4))),(65,.v (u8 (v &&& 1 ||| w &&& 4)))] g1 z1 g2 g3 y2 (nK k1 y1),(tT _ k1 w l2).trans (p1.trans q1)⟩
theorem Jp:∀ v,v<8->∀ {f:Fm},A 46 [f.p] (num 0)->A 171 [f.p] (u8 v)->A 98 [f.p,u8 1] (.tuple [.bool (Nat.beq (v % 2) 1),num 0])
 | 0,_,_,g,g1=>f2 [(8,.N 0),(13,.r (u8 0))] g g1
 | 1,_,_,g,g1=>f2 [(8,.N 0),(13,.r (u8 1))] g g1
 | 2,_,_,g,g1=>f2 [(8,.N 0),(13,.r (u8 2))] g g1
 | 3,_,_,g,g1=>f2 [(8,.N 0),(13,.r (u8 3))] g g1
 | 4,_,_,g,g1=>f2 [(8,.N 0),(13,.r (u8 4))] g g1
 | 5,_,_,g,g1=>f2 [(8,.N 0),(13,.r (u8 5))] g g1
 | 6,_,_,g,g1=>f2 [(8,.N 0),(13,.r (u8 6))] g g1
 | 7,_,_,g,g1=>f2 [(8,.N 0),(13,.r (u8 7))] g g1
 | n+8,h,_,_,_=>absurd h (by omega)
theorem FK.a70 {n:Nat} {f:Fm} (h:FK n f) (hn:n<=EA):A 38 [f.p] (.tuple [.bool f.has,num 0]):=by
 have hm:=jA;have hx:=h.mx hn;obtain⟨v,l,g,q⟩:=UP 4096 f h.cnt h.cnt (by rw [hm];omega);have g1:=Jp v l h.a89 g;rw [q] at g1;cases e:f.has<;>rw [e] at g1
 ·exact f1 [(5,.U [.bool false,num 0])] g1
 ·exact f1 [(5,.U [.bool true,num 0])] g1
inductive CR where
 | no
 | ok (s:Ty)
 | er (n:Nat)
 | ers (s:Ty) (n:Nat)
def CR.k:CR->Nat
 | .ok s=>s.kd
 | .ers s _=>s.kd
 | _=>0
def CR.l:CR->List (List PV)
 | .ok s=>s.es
 | .ers s _=>s.es
 | _=>[]
def CR.h:CR->Bool
 | .ok _=>true
 | .ers _ _=>true
 | _=>false
def CR.e:CR->Nat
 | .er n=>n+1
 | .ers _ n=>n+1
 | _=>0
def CR.q (r:CR):PV:=.tuple [.agg [num r.k,.slice r.l],.bool r.h,num r.e]
def CR.Good (b:Bool) (t:Ty):CR->Prop
 | .no=>b=false
 | .ok s=>b=true/\s.size<=64/\s=t
 | .er n=>n=3
 | .ers _ n=>n=3
def Fm.cty:Fm->Ty
 | .eq _ _ => .unit
 | .bin k f g=>match k with
  | .and=>match f.has,g.has with
   | true,true => .two false f.cty g.cty
   | true,false=>f.cty
   | false,_=>g.cty
  | .imp=>bif f.has then .two true f.cty g.cty else g.cty
 | .q k s f=>match k with
  | .ex=>bif f.has then .two false s f.cty else s
  | .all => .two true s f.cty
  | _=>f.cty
theorem cT (k:Bool) (s u:Ty) (h1:s.size<=64) (h2:u.size<=64):∃ r:CR,A 104 [num (bn k 3 4),s.p,u.p] r.q/\r.Good true (.two k s u):=by
 have hb:=uA;have g:A 105 [(Ty.two k s u).p] (num (HE (1+s.size+u.size) 64)):=lX (.two k s u) (by simp only [Ty.size];omega);rcases Kd (1+s.size+u.size) 64 with ⟨h,_,e⟩|⟨h,_,e⟩<;>rw [e] at g
 ·exact⟨.ok (.two k s u),by cases k<;>exact f1 [(17,.N 0)] g,rfl,h,rfl⟩
 ·exact⟨.er 3,by cases k<;>exact f1 [(17,.N 4)] g,rfl⟩
theorem VP:∀ (f:Fm),f.shp=true->∃ r:CR,A 47 [f.p] r.q/\r.Good f.has f.cty
 | .eq a b,h=>⟨.no,f0 [],rfl⟩
 | .bin k f g,h=>by
  obtain⟨h1,h2⟩:=DA h;obtain⟨r2,g2,q2⟩:=VP g h2;obtain⟨r1,g1,q1⟩:=VP f h1
  cases r2 with
  | er n=>exact⟨.er n,by cases k<;>exact f1 [(27,.r (CR.er n).q)] g2,q2⟩
  | ers s n=>exact⟨.er n,by cases k<;>exact f1 [(27,.r (CR.ers s n).q)] g2,q2⟩
  | no =>
   have q2:g.has=false:=q2
   cases k with
   | imp=>exact⟨.no,f1 [(27,.r CR.no.q)] g2,by show g.has=false;exact q2⟩
   | and=>cases r1 with
    | er n=>exact⟨.er n,f2 [(27,.r CR.no.q),(44,.r (CR.er n).q)] g2 g1,q1⟩
    | ers s n=>exact⟨.er n,f2 [(27,.r CR.no.q),(44,.r (CR.ers s n).q)] g2 g1,q1⟩
    | no=>exact⟨.no,f2 [(27,.r CR.no.q),(44,.r CR.no.q)] g2 g1,by show (f.has || g.has)=false;rw [q2,show f.has=false from q1];rfl⟩
    | ok s=>exact⟨.ok s,f2 [(27,.r CR.no.q),(44,.r (CR.ok s).q)] g2 g1,by show (f.has || g.has)=true;rw [show f.has=true from q1.1];rfl,q1.2.1,by have h1:f.has=true:=q1.1;show s=(match f.has,g.has with|true,true=>Ty.two false f.cty g.cty|true,false=>f.cty|false,_=>g.cty);rw [h1,q2];exact q1.2.2⟩
  | ok u =>
   have q3:g.has=true:=q2.1
   cases k with
   | imp =>
    have e:(Fm.bin .imp f g).has=true:=q3;rw [e];have et:(Fm.bin .imp f g).cty=bif f.has then .two true f.cty g.cty else g.cty:=rfl;rw [et]
    cases r1 with
    | er n=>exact⟨.ers u n,f2 [(27,.r (CR.ok u).q),(91,.r (CR.er n).q)] g2 g1,q1⟩
    | ers s n=>exact⟨.ers u n,f2 [(27,.r (CR.ok u).q),(91,.r (CR.ers s n).q)] g2 g1,q1⟩
    | no=>exact⟨.ok u,f2 [(27,.r (CR.ok u).q),(91,.r CR.no.q)] g2 g1,rfl,q2.2.1,by rw [show f.has=false from q1];exact q2.2.2⟩
    | ok s =>
     obtain⟨r,g3,q⟩:=cT true s u q1.2.1 q2.2.1;rw [q1.2.2,q2.2.2] at q;rw [show f.has=true from q1.1];exact⟨r,f3 [(27,.r (CR.ok u).q),(91,.r (CR.ok s).q),(105,.r r.q)] g2 g1 g3,q⟩
   | and =>
    have e:(Fm.bin .and f g).has=true:=by show (f.has || g.has)=true;rw [q3];cases f.has<;>rfl
    rw [e];have et:(Fm.bin .and f g).cty=(match f.has,g.has with|true,true=>Ty.two false f.cty g.cty|true,false=>f.cty|false,_=>g.cty):=rfl;rw [et,q3]
    cases r1 with
    | er n=>exact⟨.ers u n,f2 [(27,.r (CR.ok u).q),(44,.r (CR.er n).q)] g2 g1,q1⟩
    | ers s n=>exact⟨.ers u n,f2 [(27,.r (CR.ok u).q),(44,.r (CR.ers s n).q)] g2 g1,q1⟩
    | no=>exact⟨.ok u,f2 [(27,.r (CR.ok u).q),(44,.r CR.no.q)] g2 g1,rfl,q2.2.1,by rw [show f.has=false from q1];exact q2.2.2⟩
    | ok s =>
     obtain⟨r,g3,q⟩:=cT false s u q1.2.1 q2.2.1;rw [q1.2.2,q2.2.2] at q;rw [show f.has=true from q1.1];exact⟨r,f3 [(27,.r (CR.ok u).q),(44,.r (CR.ok s).q),(62,.r r.q)] g2 g1 g3,q⟩
 | .q k s f,h=>by
  obtain⟨h1,h2⟩:=DA h;have hs:=IE h1;obtain⟨r,g,q⟩:=VP f h2
  cases r with
  | er n=>exact⟨.er n,by cases k<;>exact f1 [(27,.r (CR.er n).q)] g,q⟩
  | ers u n=>exact⟨.er n,by cases k<;>exact f1 [(27,.r (CR.ers u n).q)] g,q⟩
  | no =>
   have q:f.has=false:=q
   cases k with
   | ex=>exact⟨.ok s,f1 [(27,.r CR.no.q)] g,rfl,hs,by show s=bif f.has then _ else s;rw [q];rfl⟩
   | all=>exact⟨.no,f1 [(27,.r CR.no.q)] g,q⟩
   | allU=>exact⟨.no,f1 [(27,.r CR.no.q)] g,q⟩
   | exU=>exact⟨.no,f1 [(27,.r CR.no.q)] g,q⟩
  | ok u =>
   have q3:f.has=true:=q.1
   cases k with
   | ex =>
    obtain⟨r,g3,q'⟩:=cT false s u hs q.2.1;exact⟨r,f2 [(27,.r (CR.ok u).q),(75,.r r.q)] g g3,by show r.Good true (bif f.has then .two false s f.cty else s);rw [q3,<- q.2.2];exact q'⟩
   | all =>
    obtain⟨r,g3,q'⟩:=cT true s u hs q.2.1;exact⟨r,f2 [(27,.r (CR.ok u).q),(114,.r r.q)] g g3,by show r.Good f.has (.two true s f.cty);rw [q3,<- q.2.2];exact q'⟩
   | allU=>exact⟨.ok u,f1 [(27,.r (CR.ok u).q)] g,q3,q.2⟩
   | exU=>exact⟨.ok u,f1 [(27,.r (CR.ok u).q)] g,q3,q.2⟩
theorem FK.a34 {n:Nat} {f:Fm} (h:FK n f):∃ r:TR,A 25 [f.p] r.p/\r.sz<=64/\(∀ t,r = .ok t->f.has=true->t=f.cty) /\ ∀ n,r = .er n->n=3:=by
 obtain⟨r,g,q⟩:=VP f h.shp
 cases r with
 | er n=>exact⟨.er n,f2 [(9,.N 0),(16,.r (CR.er n).q)] h.a89 g,Nat.zero_le _,(λ _ h=>nomatch h),λ m e=>by cases e;exact q⟩
 | ers s n=>exact⟨.er n,f2 [(9,.N 0),(16,.r (CR.ers s n).q)] h.a89 g,Nat.zero_le _,(λ _ h=>nomatch h),λ m e=>by cases e;exact q⟩
 | no=>exact⟨.ok .unit,f2 [(9,.N 0),(16,.r CR.no.q)] h.a89 g,by decide,(λ _ _ e=>by rw [show f.has=false from q] at e;cases e),λ _ h=>nomatch h⟩
 | ok s=>exact⟨.ok s,f2 [(9,.N 0),(16,.r (CR.ok s).q)] h.a89 g,q.2.1,(λ _ e _=>by cases e;exact q.2.2),λ _ h=>nomatch h⟩
open Go.Lg
abbrev nC (n:Nat):List (Nat × Ob):=[(1,bx [num n,.bool false])]
theorem pK (k n:Nat) (h:n+k<=dA:=by omega):O 276 [.loc 1 0,.pv (num k),.pv (num 0)] (nC n) (.pv (.bool true)) (nC (n+k)) :=
 o1 2 [(12,.z (n+k))] (AA (a:=n) (b:=k) h)
theorem iT {t:Tm} (h:t.chk=0):A 106 [t.p] (.tuple [num t.cnt,num 0]):=by
 have hb:=uA;obtain⟨c1,c2⟩:=Tm.chk0 h;have g:=PS t (by have:=NE t c2;omega);rwa [Tm.ckn0 h,h] at g
theorem oT {f:Fm} (h:f.chk=0):A 103 [f.p] (.tuple [num f.cnt,num 0]):=by
 have hb:=uA;obtain⟨c1,c2⟩:=Fm.chk0 h;have g:=SS f (by have:=yK f c2;omega);rwa [Fm.ckn0 h,h] at g
theorem dG:∀ (p:Pf) (n:Nat),n+p.cnt<=dA->p.ck->O 212 [.loc 1 0,.pv p.p] (nC n) (.pv (.bool true)) (nC (n+p.cnt))
 | .leaf u i,n,hn,_=>by
  have hn:n+1<=dA:=hn;cases u<;>cases i<;>exact o2 2 [(66,.z (n+1)),(81,.T)] (AA (a:=n) (b:=1)) SG
 | .refl t,n,hn,h=>by
  have hn:n+(1+t.cnt)<=dA:=hn;rw [show n+(Pf.refl t).cnt=n+1+t.cnt by simp only [Pf.cnt];omega];exact o4 2 [(66,.z (n+1)),(81,.T),(92,.U [num t.cnt,num 0]),(95,.o [] (nC (n+1+t.cnt)) (.pv (.bool true)))] (AA (a:=n) (b:=1)) SG (iT h) (pK t.cnt (n+1))
 | .p1 k a,n,hn,h=>by
  have hn:n+(1+a.cnt)<=dA:=hn;rw [show n+(Pf.p1 k a).cnt=n+1+a.cnt by simp only [Pf.cnt];omega];have ga:=dG a (n+1) (by omega) h;have h0:=AA (a:=n) (b:=1);cases k<;>exact o3 2 [(66,.z (n+1)),(81,.T),(122,.o [] (nC (n+1+a.cnt)) (.pv (.bool true)))] h0 SG ga
 | .p2 k a b,n,hn,h=>by
  have hn:n+(1+a.cnt+b.cnt)<=dA:=hn;rw [show n+(Pf.p2 k a b).cnt=n+1+a.cnt+b.cnt by simp only [Pf.cnt];omega];have ga:=dG a (n+1) (by omega) h.1;have gb:=dG b (n+1+a.cnt) (by omega) h.2;have h0:=AA (a:=n) (b:=1);cases k<;>exact o4 2 [(66,.z (n+1)),(81,.T),(122,.o [] (nC (n+1+a.cnt)) (.pv (.bool true))),(122,.o [] (nC (n+1+a.cnt+b.cnt)) (.pv (.bool true)))] h0 SG ga gb
 | .impI f a,n,hn,h=>by
  have hn:n+(1+f.cnt+a.cnt)<=dA:=hn;rw [show n+(Pf.impI f a).cnt=n+1+f.cnt+a.cnt by simp only [Pf.cnt];omega];exact o5 2 [(66,.z (n+1)),(81,.T),(107,.U [num f.cnt,num 0]),(110,.o [] (nC (n+1+f.cnt)) (.pv (.bool true))),(122,.o [] (nC (n+1+f.cnt+a.cnt)) (.pv (.bool true)))] (AA (a:=n) (b:=1)) SG (oT h.1) (pK f.cnt (n+1)) (dG a (n+1+f.cnt) (by omega) h.2)
 | .all u s a,n,hn,h=>by
  have hb:=uA;have hn:n+(1+a.cnt)<=dA:=hn;rw [show n+(Pf.all u s a).cnt=n+1+a.cnt by simp only [Pf.cnt];omega];have g1:=gN s (by have:=h.1;omega);rw [(OL h.1).1,(OL h.1).2] at g1;have ga:=dG a (n+1) (by omega) h.2;have h0:=AA (a:=n) (b:=1);cases u<;>exact o3 2 [(66,.z (n+1)),(74,.U [num s.size,num 0]),(122,.o [] (nC (n+1+a.cnt)) (.pv (.bool true)))] h0 g1 ga
 | .ins u t a,n,hn,h=>by
  have hn:n+(1+t.cnt+a.cnt)<=dA:=hn;rw [show n+(Pf.ins u t a).cnt=n+1+t.cnt+a.cnt by simp only [Pf.cnt];omega];have ga:=dG a (n+1+t.cnt) (by omega) h.2;have h0:=AA (a:=n) (b:=1);have gt:=iT h.1;have ut:=pK t.cnt (n+1);cases u<;>exact o5 2 [(66,.z (n+1)),(81,.T),(92,.U [num t.cnt,num 0]),(95,.o [] (nC (n+1+t.cnt)) (.pv (.bool true))),(122,.o [] (nC (n+1+t.cnt+a.cnt)) (.pv (.bool true)))] h0 SG gt ut ga
 | .ex u f t a,n,hn,h=>by
  have hn:n+(1+t.cnt+f.cnt+a.cnt)<=dA:=hn;rw [show n+(Pf.ex u f t a).cnt=n+1+t.cnt+f.cnt+a.cnt by simp only [Pf.cnt];omega];have ga:=dG a (n+1+t.cnt+f.cnt) (by omega) h.2.2;have h0:=AA (a:=n) (b:=1);have gt:=iT h.1;have ut:=pK t.cnt (n+1);have gf:=oT h.2.1;have uf:=pK f.cnt (n+1+t.cnt);cases u<;>exact o7 2 [(66,.z (n+1)),(81,.T),(92,.U [num t.cnt,num 0]),(95,.o [] (nC (n+1+t.cnt)) (.pv (.bool true))),(107,.U [num f.cnt,num 0]),(110,.o [] (nC (n+1+t.cnt+f.cnt)) (.pv (.bool true))),(122,.o [] (nC (n+1+t.cnt+f.cnt+a.cnt)) (.pv (.bool true)))] h0 SG gt ut gf uf ga
 | .ind l f t a b,n,hn,h=>by
  have hn:n+(1+t.cnt+f.cnt+a.cnt+b.cnt)<=dA:=hn;rw [show n+(Pf.ind l f t a b).cnt=n+1+t.cnt+f.cnt+a.cnt+b.cnt by simp only [Pf.cnt];omega];have ga:=dG a (n+1+t.cnt+f.cnt) (by omega) h.2.2.1;have gb:=dG b (n+1+t.cnt+f.cnt+a.cnt) (by omega) h.2.2.2;have h0:=AA (a:=n) (b:=1);have gt:=iT h.1;have ut:=pK t.cnt (n+1);have gf:=oT h.2.1;have uf:=pK f.cnt (n+1+t.cnt);cases l<;>exact o8 2 [(66,.z (n+1)),(81,.T),(92,.U [num t.cnt,num 0]),(95,.o [] (nC (n+1+t.cnt)) (.pv (.bool true))),(107,.U [num f.cnt,num 0]),(110,.o [] (nC (n+1+t.cnt+f.cnt)) (.pv (.bool true))),(122,.o [] (nC (n+1+t.cnt+f.cnt+a.cnt)) (.pv (.bool true))),(122,.o [] (nC (n+1+t.cnt+f.cnt+a.cnt+b.cnt)) (.pv (.bool true)))] h0 SG gt ut gf uf ga gb
 | .subst f a b,n,hn,h=>by
  have hn:n+(1+f.cnt+a.cnt+b.cnt)<=dA:=hn;rw [show n+(Pf.subst f a b).cnt=n+1+f.cnt+a.cnt+b.cnt by simp only [Pf.cnt];omega];exact o6 2 [(66,.z (n+1)),(81,.T),(107,.U [num f.cnt,num 0]),(110,.o [] (nC (n+1+f.cnt)) (.pv (.bool true))),(122,.o [] (nC (n+1+f.cnt+a.cnt)) (.pv (.bool true))),(122,.o [] (nC (n+1+f.cnt+a.cnt+b.cnt)) (.pv (.bool true)))] (AA (a:=n) (b:=1)) SG (oT h.1) (pK f.cnt (n+1)) (dG a (n+1+f.cnt) (by omega) h.2.1) (dG b (n+1+f.cnt+a.cnt) (by omega) h.2.2)
theorem Mp (p:Pf) (h:p.cnt<=16384) (hc:p.ck):A 82 [p.p] (num 0):=by
 have hb:=uA;have g:=dG p 0 (by omega) hc;rw [Nat.zero_add] at g;have g1:A 133 [p.p] (.tuple [num p.cnt,num 0]):=f2 [(10,.o [] (nC p.cnt) (.pv (.bool true))),(22,.H)] g (CA h);exact f1 [(7,.U [num p.cnt,num 0])] g1
abbrev u32 (z:Int):PV:=.num .u32 z
theorem KX (z:Int):0<=IntKind.u32.wrap z/\IntKind.u32.wrap z<4294967296:=by
 have:IntKind.u32.wrap z=z % 4294967296:=by simp [IntKind.wrap,IntKind.signed,IntKind.bits]
 rw [this];exact⟨Int.emod_nonneg _ (by decide),Int.emod_lt_of_pos _ (by decide)⟩
theorem WP {z:Int} (h:0<=z/\z<4294967296):rA z=true:=qN (by omega) (by omega)
theorem Ke (op:BinOp) (a b:Int):0<=HA op .u32 a b/\HA op .u32 a b<4294967296:=by
 unfold HA;cases op<;>first|exact KX _|(show (0:Int)<=0/\(0:Int)<4294967296;exact⟨by decide,by decide⟩)
theorem aF (a b:Int):(bif GF .u32 .u32 then rA (HA .or .u32 a b) else false)=true/\u32 (HA .or .u32 a b)=u32 (HA .or .u32 a b):=⟨(show rA (HA .or .u32 a b)=true from WP (Ke .or a b)),rfl⟩
theorem LX (a b:Int):(bif GF .u32 .u32 then rA (HA .and .u32 a b) else false)=true/\u32 (HA .and .u32 a b)=u32 (HA .and .u32 a b):=⟨(show rA (HA .and .u32 a b)=true from WP (Ke .and a b)),rfl⟩
def VL (a:Int) (n:Nat):Int:=IntKind.u32.wrap (a * 2 ^ (min (Int.ofNat n).toNat IntKind.u32.bits))
theorem Np (a:Int) (n:Nat):(bif kA (.ofNat n) 0 then false else rA (IntKind.u32.wrap (a * 2 ^ (min (Int.ofNat n).toNat IntKind.u32.bits))))=true/\u32 (IntKind.u32.wrap (a * 2 ^ (min (Int.ofNat n).toNat IntKind.u32.bits)))=u32 (VL a n):=by
 refine⟨?_,rfl⟩;have h:=z0 n;show (bif kA (.ofNat n) (.ofNat 0) then false else _)=true;rw [h];exact WP (KX _)
abbrev Le (z:Int):List (Nat × Ob):=cX 3 4 (.fn 279 [.loc 1 0]) [(1,bx [u32 z])]
abbrev rK (z:Int):List (Nat × Ob):=[(1,bx [u32 z])]
abbrev Me (z:Int):Prop:=0<=z/\z<4294967296
def BS (P:Nat->Prop) (z:Int):Prop:=∃ m:Nat,z = .ofNat m/\m<4294967296 /\ ∀ v,m.testBit v=true->P v
theorem BS.u {P:Nat->Prop} {z:Int} (h:BS P z):Me z:=by
 obtain⟨m,rfl,h,_⟩:=h;exact⟨by simp,by simp;omega⟩
theorem BS.mono {P Q:Nat->Prop} {z:Int} (h:BS P z) (hq:∀ v,P v->Q v):BS Q z:=by
 obtain⟨m,e,h,k⟩:=h;exact⟨m,e,h,λ v hv=>hq v (k v hv)⟩
theorem sK (P:Nat->Prop):BS P 0:=⟨0,rfl,by decide,λ v hv=>by simp at hv⟩
theorem Oe {n:Nat} (h:n<4294967296:=by omega):IntKind.u32.wrap (n:Int)=(n:Int):=by
 have:IntKind.u32.wrap (n:Int)=(n:Int) % 4294967296:=by simp [IntKind.wrap,IntKind.signed,IntKind.bits]
 rw [this];omega
theorem Pp {m k:Nat} (hm:m<4294967296) (hk:k<4294967296):HA .or .u32 (.ofNat m) (.ofNat k) = .ofNat (m ||| k):=by
 have h:m ||| k<2 ^ 32:=Nat.or_lt_two_pow (by omega) (by omega);have e:(BitVec.ofInt IntKind.u32.bits (Int.ofNat m) ||| BitVec.ofInt IntKind.u32.bits (Int.ofNat k)).toNat=m ||| k:=by
  show (BitVec.ofInt 32 (m:Int) ||| BitVec.ofInt 32 (k:Int)).toNat=m ||| k;rw [BitVec.toNat_or,BitVec.ofInt_natCast,BitVec.ofInt_natCast,BitVec.toNat_ofNat,BitVec.toNat_ofNat,Nat.mod_eq_of_lt (by omega),Nat.mod_eq_of_lt (by omega)]
 unfold HA;simp only [e];exact Oe
theorem BS.or {P Q:Nat->Prop} {a b:Int} (ha:BS P a) (hb:BS Q b):BS (λ v=>P v\/Q v) (HA .or .u32 a b):=by
 obtain⟨m,rfl,h1,h2⟩:=ha;obtain⟨k,rfl,h3,h4⟩:=hb;refine⟨m ||| k,Pp h1 h3,by have:m ||| k<2 ^ 32:=Nat.or_lt_two_pow (by omega) (by omega);omega,λ v hv => ?_⟩;rw [Nat.testBit_or] at hv;rcases Bool.or_eq_true_iff.1 hv with h|h
 ·exact .inl (h2 v h)
 ·exact .inr (h4 v h)
theorem Rp (n:Nat):BS (· = n) (VL 1 n):=by
 unfold VL;show BS (· = n) (IntKind.u32.wrap (1 * 2 ^ (min n 32)));by_cases h:n<32
 ·rw [Nat.min_eq_left (by omega)];have h2:2 ^ n<2 ^ 32:=Nat.pow_lt_pow_right (by decide) h;refine⟨2 ^ n,?_,by omega,λ v hv => ?_⟩
  ·rw [Int.one_mul,show (2:Int) ^ n=((2 ^ n:Nat):Int) by simp];exact Oe
  ·rw [Nat.testBit_two_pow] at hv;simp at hv;exact hv.symm
 ·rw [Nat.min_eq_right (by omega)];exact sK _
theorem BS.shr {P:Nat->Prop} {z:Int} (h:BS P z) (k:Nat):BS (λ v=>P (v+min k 32)) (z.fdiv (2 ^ (min (Int.ofNat k).toNat IntKind.u32.bits))):=by
 obtain⟨m,rfl,h1,h2⟩:=h;show BS _ (Int.fdiv (.ofNat m) (2 ^ (min k 32)));refine⟨m / 2 ^ (min k 32),?_,Nat.lt_of_le_of_lt (Nat.div_le_self _ _) h1,λ v hv=>h2 _ ?_⟩
 ·rw [show (2:Int) ^ (min k 32)=((2 ^ (min k 32):Nat):Int) by simp,Int.fdiv_eq_ediv_of_nonneg _ (Int.natCast_nonneg _)];rfl
 ·rw [Nat.testBit_div_two_pow] at hv;exact hv
theorem BS.and1 {P:Nat->Prop} {z:Int} (h:BS P z) (h0:¬P 0):HA .and .u32 z 1=0:=by
 obtain⟨m,rfl,h1,h2⟩:=h;have e:(BitVec.ofInt IntKind.u32.bits (Int.ofNat m) &&& BitVec.ofInt IntKind.u32.bits 1).toNat=m &&& 1:=by
  show (BitVec.ofInt 32 (m:Int) &&& BitVec.ofInt 32 ((1:Nat):Int)).toNat=m &&& 1;rw [BitVec.toNat_and,BitVec.ofInt_natCast,BitVec.ofInt_natCast,BitVec.toNat_ofNat,BitVec.toNat_ofNat,Nat.mod_eq_of_lt (by omega)]
 unfold HA;simp only [e];have:m.testBit 0=false:=by
  cases e:m.testBit 0 with
  | false=>rfl
  | true=>exact absurd (h2 0 e) h0
 rw [Nat.testBit_zero] at this;rw [Nat.and_one_is_mod,show m % 2=0 by simp at this;omega];rfl
theorem tK:∀ (t:Tm) (d:Nat) (z:Int),d+t.cnt<=qA->t.mx<=qA * qA->∀ {P:Nat->Prop},BS P z->∃ z',BS (λ v=>P v\/t.occ (v+d)≠0) z'/\O 306 [.pv t.p,.pv (num d),.loc 3 0,.loc 4 0] (Le z) (.pv ut) (Le z')
 | .v i,d,z,hd,hm,P,hz=>by
  have hmm:=jA;have hi:i<=qA * qA:=hm;have hd:d+1<=qA:=hd;rw [hmm] at hi;have hb:=uA;by_cases h:d<=i
  ·have g1:=iH (a:=i) (b:=d) h;have g2:rA (Int.ofNat i - .ofNat d)=true/\Int.ofNat i - .ofNat d = .ofNat (i-d):=by
    have e:Int.ofNat i - .ofNat d = .ofNat (i-d):=by simp;omega
    rw [e];exact⟨YA (n:=i-d),rfl⟩
   exact⟨HA .or .u32 z (VL 1 (i-d)),(hz.or (Rp (i-d))).mono (λ v hv=>hv.imp id λ e=>by subst e;simp [Tm.occ];omega),o4 5 [(15,.n [(7,.G),(11,.z (i-d)),(12,.v (u32 (VL 1 (i-d)))),(13,.v (u32 (HA .or .u32 z (VL 1 (i-d)))))])] g1 g2 (Np 1 (i-d)) (aF z (VL 1 (i-d)))⟩
  ·have g1:=lF (a:=i) (b:=d);exact⟨z,hz.mono λ _ h => .inl h,o1 5 [(15,.n [(7,.H)])] g1⟩
 | .lam s a,d,z,hd,hx,P,hz=>by
  have hd:d+(1+a.cnt)<=qA:=hd;have hm:=jA;have hb:=uA;obtain⟨z1,v1,g⟩:=tK a (d+1) z (by omega) hx hz;exact⟨z1,v1,o2 5 [(20,.z (d+1)),(31,.o [3,4] (rK z1) (.pv ut))] (AA (a:=d) (b:=1)) g⟩
 | .n0 k,d,z,hd,_,P,hz=>⟨z,hz.mono λ _ h => .inl h,by cases k<;>exact o0 5 []⟩
 | .n1 k a,d,z,hd,hx,P,hz=>by
  have hd:d+(1+a.cnt)<=qA:=hd;obtain⟨z1,v1,g⟩:=tK a d z (by omega) hx hz;exact⟨z1,v1,by cases k<;>exact o1 5 [(31,.o [3,4] (rK z1) (.pv ut))] g⟩
 | .n2 k a c,d,z,hd,hx,P,hz=>by
  have hd:d+(1+a.cnt+c.cnt)<=qA:=hd;have hx:max a.mx c.mx<=qA * qA:=hx;obtain⟨z1,v1,g⟩:=tK a d z (by omega) (by omega) hz;obtain⟨z2,v2,g'⟩:=tK c d z1 (by omega) (by omega) v1;exact⟨z2,v2.mono (λ v h=>by
   show P v\/a.occ (v+d)+c.occ (v+d)≠0;rcases h with (h|h)|h
   ·exact .inl h
   all_goals (right;omega)),by cases k<;>exact o2 5 [(31,.o [3,4] (rK z1) (.pv ut)),(31,.o [3,4] (rK z2) (.pv ut))] g g'⟩
 | .n3 k s a c e,d,z,hd,hx,P,hz=>by
  have hd:d+(1+a.cnt+c.cnt+e.cnt)<=qA:=hd;have hx:max a.mx (max c.mx e.mx)<=qA * qA:=hx;obtain⟨z1,v1,g⟩:=tK a d z (by omega) (by omega) hz;obtain⟨z2,v2,g'⟩:=tK c d z1 (by omega) (by omega) v1;obtain⟨z3,v3,g''⟩:=tK e d z2 (by omega) (by omega) v2;exact⟨z3,v3.mono (λ v h=>by
   show P v\/a.occ (v+d)+c.occ (v+d)+e.occ (v+d)≠0;rcases h with ((h|h)|h)|h
   ·exact .inl h
   all_goals (right;omega)),by cases k<;>exact o3 5 [(31,.o [3,4] (rK z1) (.pv ut)),(31,.o [3,4] (rK z2) (.pv ut)),(31,.o [3,4] (rK z3) (.pv ut))] g g' g''⟩
theorem TK.a240 {n:Nat} {t:Tm} (h:TK n t) (hn:n<=EA):∃ z,BS (λ v=>t.occ v≠0) z/\A 221 [t.p] (u32 z):=by
 have hm:=jA;obtain⟨z,v,g⟩:=tK t 0 0 (by have:=h.cnt;omega) (by have:=h.mx hn;rw [hm];omega) (sK λ _=>False);exact⟨z,v.mono λ _ h=>h.elim False.elim id,f1 [(6,.n [(8,.o [3,4] (rK z) (.pv ut))])] g⟩
theorem xT (z:Int) (k:Nat) (hk:k<=32) {P:Nat->Prop} (hz:BS P z):∃ z',BS (λ v=>P (v+k)) z'/\A 220 [u32 z,num k] (u32 z'):=by
 have h0:=hz.shr k;have h:=h0.u;rw [Nat.min_eq_left hk] at h0;have g:(bif kA (.ofNat k) 0 then false else rA (z.fdiv (2 ^ (min (Int.ofNat k).toNat IntKind.u32.bits))))=true/\u32 (z.fdiv (2 ^ (min (Int.ofNat k).toNat IntKind.u32.bits)))=u32 (z.fdiv (2 ^ (min (Int.ofNat k).toNat IntKind.u32.bits))):=by
  refine⟨?_,rfl⟩;have h':=z0 k;show (bif kA (.ofNat k) (.ofNat 0) then false else _)=true;rw [h'];exact WP h
 exact⟨_,h0,f1 [(7,.v (u32 (z.fdiv (2 ^ (min (Int.ofNat k).toNat IntKind.u32.bits)))))] g⟩
abbrev NB (h:Fm × Nat):List PV:=[num h.1.kd,num h.1.tk,.slice h.1.te,.slice h.1.ts,.slice h.1.es,num h.2]
theorem Pe (h:Fm × Nat):(NB h).length=6:=rfl
abbrev eB (g:List Ty) (H:List (Fm × Nat)):PV:=.agg [num g.length,num (H.map NB).length,ZA g,.slice (H.map NB)]
theorem XP (v h a b:Nat) (h1:v+a<=16) (h2:h+b<=16):A 216 [.agg [num v,num h],num a,num b] (num 0):=by
 have hb:=uA;exact f4 [(10,.z (v+a)),(11,.H),(16,.z (h+b)),(17,.H)] (AA (a:=v) (b:=a)) (CA (a:=16) (b:=v+a) h1) (AA (a:=h) (b:=b)) (CA (a:=16) (b:=h+b) h2)
theorem MX (g:List Ty) (H:List (Fm × Nat)) (s:Ty) (hg:g.length<=qA:=by omega) (h:s.size<=dA:=by omega):A 218 [eB g H,cA [s]] (eB (g++[s]) H):=by
 have hm:=jA;have hb:=uA;rw [show eB (g++[s]) H = .agg [num (g.length+1),num (H.map NB).length,ZA (g++[s]),.slice (H.map NB)] by simp [eB]];exact f2 [(8,.r (ZA (g++[s]))),(15,.z (g.length+1))] (KP g s hg h) (AA (a:=g.length) (b:=1))
theorem Sp (g:List Ty) (H:List (Fm × Nat)) (s u:Ty) (hg:g.length<=qA) (h:s.size<=dA) (h':u.size<=dA):A 218 [eB g H,cA [s,u]] (eB (g++[s,u]) H):=by
 have hm:=jA;have hb:=uA;rw [show eB (g++[s,u]) H = .agg [num (g.length+2),num (H.map NB).length,ZA (g++[s,u]),.slice (H.map NB)] by simp [eB]];exact f2 [(8,.r (ZA (g++[s,u]))),(15,.z (g.length+2))] (Do g s u hg h h') (AA (a:=g.length) (b:=2))
theorem AT (g:List Ty) (H:List (Fm × Nat)) (f:Fm) (hH:H.length<=qA:=by omega):A 148 [eB g H,f.p] (eB g (H++[(f,g.length)])):=by
 have hm:=jA;have hb:=uA;have g1:=CE (H.map NB).length;have g2:=mE 6 96 Pe (by decide) H (f,g.length) (by omega) (by simp only [maxLen];omega);have g3:=AA (a:=(H.map NB).length) (b:=1) (by simp;omega);rw [show eB g (H++[(f,g.length)]) = .agg [num g.length,num ((H.map NB).length+1),ZA g,.slice (H.map NB++[NB (f,g.length)])] by simp [eB]];exact f3 [(13,.ok),(20,.ok),(25,.z ((H.map NB).length+1))] g1 g2 g3
abbrev vw (n:Nat) (H:List (Fm × Nat)):List Fm:=H.map λ h=>h.1.sh 0 (.ofNat (n-h.2))
structure PlOK (g:List Ty) (H:List (Fm × Nat)):Prop where
 gl:g.length<=16
 gs:∀ s∈g,s.size<=64
 hl:H.length<=16
 hs:∀ h∈H,FK h.2 h.1/\h.2<=g.length
theorem YP (n:Nat) (H:List (Fm × Nat)):(vw n H).length=H.length:=by simp
theorem FK.sh {n:Nat} {f:Fm} (h:FK n f) (c z:Nat):FK (n+z) (f.sh c (.ofNat z)):=⟨by rw [GD];exact h.cnt,by rw [yT];exact h.shp,wT z f c n h.sc⟩
theorem Tp (g:List Ty) (H:List (Fm × Nat)) (hp:PlOK g H) (i:Nat):(H.length<=i/\A 213 [eB g H,num i] (.tuple [.agg zF,.bool false])) \/ ∃ f,i<H.length/\(vw g.length H)[H.length-1-i]? = some f/\FK g.length f/\A 213 [eB g H,num i] (.tuple [f.p,.bool true]):=by
 have hm:=jA;have hb:=uA;have hl:=hp.hl;have hg:=hp.gl;have hl':EA=100000:=rfl;by_cases h:i<H.length
 ·right;obtain⟨⟨f,v⟩,hj⟩:∃ x,H[H.length-1-i]? = some x:=⟨_,List.getElem?_eq_getElem (by omega)⟩;obtain⟨k1,k2⟩:=hp.hs _ (List.mem_of_getElem? hj);simp only at k1 k2;refine⟨f.sh 0 (.ofNat (g.length-v)),h,by simp [vw,hj],?_,?_⟩
  ·have:=k1.sh 0 (g.length-v);rwa [show v+(g.length-v)=g.length by omega] at this
  ·have g0:=lF (a:=i) (b:=(H.map NB).length) (by simpa using h);have g1:=nB (a:=(H.map NB).length) (by simp;omega) (by simp;omega);have g2:rA (Int.ofNat ((H.map NB).length-1) - .ofNat i)=true/\Int.ofNat ((H.map NB).length-1) - .ofNat i = .ofNat (H.length-1-i):=by
    have e:Int.ofNat ((H.map NB).length-1) - .ofNat i = .ofNat (H.length-1-i):=by simp;omega
    rw [e];exact⟨YA (n:=H.length-1-i),rfl⟩
   have g3:QB (H.map NB) (H.length-1-i)=some (NB (f,v))/\LB 6 (H.map NB)=true:=KA hj Pe;have g4:rA (Int.ofNat g.length - .ofNat v)=true/\Int.ofNat g.length - .ofNat v = .ofNat (g.length-v):=by
    have e:Int.ofNat g.length - .ofNat v = .ofNat (g.length-v):=by simp;omega
    rw [e];exact⟨YA (n:=g.length-v),rfl⟩
   have g5:=IH f 0 (g.length-v) (by omega) (by have:=k1.cnt;omega) (by have:=k1.mx (by omega);rw [hm];omega);exact f6 [(11,.H),(18,.z ((H.map NB).length-1)),(20,.z (H.length-1-i)),(21,.i (NB (f,v))),(30,.z (g.length-v)),(31,.r (f.sh 0 (.ofNat (g.length-v))).p)] g0 g1 g2 g3 g4 g5
 ·left;refine⟨by omega,?_⟩;exact f1 [(11,.G)] (iH (a:=i) (b:=(H.map NB).length) (by simp;omega))
open Go.Lg
def Jt.OK (ls:List Fm):Nat->List Fm->Jt->Prop
 | n,hs,.leaf u i f=>FK n f/\match u with
  | false=>i<hs.length/\hs[hs.length-1-i]? = some f
  | true=>ls[i]? = some f
 | n,_,.refl t=>TK n t/\FK n (.eq t t)
 | n,hs,.p1 k a f=>FK n f/\a.OK ls n hs/\match k with
  | .andL => ∃ y,a.f = .bin .and f y
  | .andR => ∃ x,a.f = .bin .and x f
  | .choice => ∃ s u x,a.f = .q .all s (.q .ex u x) /\ ∃ y,(x.sh 2 (.ofNat 1)).pt vapp = .ok y/\f = .q .ex (.two true s u) (.q .all s y)
 | n,hs,.p2 k a b f=>FK n f/\a.OK ls n hs/\match k with
  | .andI=>b.OK ls n hs/\f = .bin .and a.f b.f
  | .impE=>b.OK ls n hs /\ ∃ x,a.f = .bin .imp x f
  | .exE=>b.OK ls (n+1) (lA 1 hs++[a.f.bd])/\(∃ s,a.f = .q .ex s a.f.bd)/\VC b.f=some f
  | .exUE=>b.OK ls (n+1) (lA 1 hs++[a.f.bd])/\(∃ s,a.f = .q .exU s a.f.bd)/\VC b.f=some f
 | n,hs,.impI x a=>FK n x/\FK n (.bin .imp x a.f)/\a.OK ls n (hs++[x])
 | n,hs,.all u s a=>s.size<=64/\FK n (.q (aq u) s a.f)/\a.OK ls (n+1) (lA 1 hs)
 | n,hs,.ins u t a f=>FK n f/\TK n t/\a.OK ls n hs /\ ∃ s x,a.f = .q (aq u) s x/\x.pt t = .ok f
 | n,hs,.ex u x t a=>FK n x/\TK n t/\a.OK ls n hs/\(∃ s,x = .q (MI u) s x.bd)/\a.f.er=x.bd.er
 | n,hs,.ind l x t a b f=>FK n f/\FK (n+1) x/\TK n t/\a.OK ls n hs/\x.pt t = .ok f/\(a.f.er=x.er/\b.f.er=x.er)/\match l with
  | false=>b.OK ls (n+1) (lA 1 hs++[x])
  | true=>b.OK ls (n+2) (lA 2 hs++[x.sh 1 (.ofNat 1)])
 | n,hs,.subst x a b f=>FK n f/\FK (n+1) x/\a.OK ls n hs/\b.OK ls n hs/\b.f.er=x.er /\ ∃ t u,a.f = .eq t u/\x.pt u = .ok f
def Up:Ob:=.smap false [(.int 1,.fn 134 []),(.int 2,.fn 135 []),(.int 3,.fn 136 []),(.int 4,.fn 137 []),(.int 5,.fn 137 []),(.int 6,.fn 138 []),(.int 7,.fn 139 []),(.int 8,.fn 140 []),(.int 12,.fn 140 []),(.int 9,.fn 141 []),(.int 13,.fn 141 []),(.int 10,.fn 142 []),(.int 14,.fn 142 []),(.int 11,.fn 143 []),(.int 15,.fn 143 []),(.int 16,.fn 144 []),(.int 17,.fn 144 []),(.int 18,.fn 145 []),(.int 19,.fn 146 []),(.int 20,.fn 147 [])]
abbrev fG (ls:List Fm):List (Nat × Ob):=[(3,Up),(4,.box [.pv (fA ls),.map 3])]
abbrev sB (y:Sy) (z:Int) (e:Nat):PV:=.tuple [.agg [num y.k,num y.tk,.slice y.te,.slice y.ts,.slice y.es,u32 z],num e]
def Jt.u0:Jt->Nat->Prop
 | .leaf _ _ _,_=>False
 | .refl _,_=>False
 | .p1 _ a _,v=>a.us v
 | .p2 k a b _,v=>a.us v\/match k with
  | .andI=>b.us v
  | .impE=>b.us v
  | _=>b.us (v+1)
 | .impI _ a,v=>a.us v
 | .all _ _ a,v=>a.us (v+1)
 | .ins u t a _,v=>a.us v\/u=false/\t.occ v≠0
 | .ex u _ t a,v=>a.us v\/u=false/\t.occ v≠0
 | .ind l _ t a b _,v=>t.occ v≠0\/a.us v\/b.us (v+lN l)
 | .subst _ _ b _,v=>b.us v
theorem Vp {j:Jt} {v:Nat} (h:j.f.has=true) (k:j.u0 v):j.us v:=by
 cases j<;>first|exact k.elim|exact⟨h,k⟩
def KI (ls:List Fm) (j:Jt):Prop:=∀ g H,PlOK g H->j.D ls g (vw g.length H)->j.p.ck->FK g.length j.f /\ ∃ z,BS j.us z/\O 84 [.loc 4 0,.pv j.p.p,.pv (eB g H)] (fG ls) (.pv (sB j.f.y z 0)) (fG ls)
def Pf.kf:Pf->Nat
 | .leaf false _=>134
 | .leaf true _=>135
 | .p2 .andI _ _=>136
 | .p1 .choice _=>147
 | .p1 _ _=>137
 | .impI _ _=>138
 | .p2 .impE _ _=>139
 | .p2 _ _ _=>143
 | .all _ _ _=>140
 | .ins _ _ _=>141
 | .ex _ _ _ _=>142
 | .ind _ _ _ _ _=>144
 | .refl _=>145
 | .subst _ _ _=>146
def KR (ls:List Fm) (j:Jt):Prop:=∀ g H,PlOK g H->j.D ls g (vw g.length H)->j.p.ck->j.f.sc g.length /\ ∃ z,BS j.u0 z/\O j.p.kf [.loc 4 0,.pv j.p.p,.pv (eB g H)] (fG ls) (.pv (sB j.f.y z 0)) (fG ls)
theorem NX {ls:List Fm} {g:List Ty} {hs:List Fm} {j:Jt} (h:j.D ls g hs):j.f.chk=0:=by
 cases j<;>first|exact h.1|exact h.1.1
theorem ki {ls:List Fm} (j:Jt) (h:KR ls j):KI ls j:=by
 intro g H hp hD hc;obtain⟨k1,z,hz,g1⟩:=h g H hp hD hc;have hk:=NX hD;have hf:FK g.length j.f:=⟨(Fm.chk0 hk).1,(Fm.chk0 hk).2,k1⟩;have g2:=hf.a89;have g3:=hf.a70 (by have:=hp.gl;have hl:EA=100000:=rfl;omega);refine⟨hf,?_⟩;generalize j.p=p at g1;cases e1:j.f.has<;>rw [e1] at g3
 ·refine⟨0,sK _,?_⟩;cases p<;>(try cases ‹Bool›)<;>(try cases ‹P1›)<;>(try cases ‹P2›)<;>exact o3 5 [(23,.o [3,4] [] (.pv (sB j.f.y z 0))),(32,.N 0),(38,.U [.bool false,num 0])] g1 g2 g3
 ·refine⟨z,hz.mono λ v hv=>Vp e1 hv,?_⟩;cases p<;>(try cases ‹Bool›)<;>(try cases ‹P1›)<;>(try cases ‹P2›)<;>exact o3 5 [(23,.o [3,4] [] (.pv (sB j.f.y z 0))),(32,.N 0),(38,.U [.bool true,num 0])] g1 g2 g3
end Go.Proofs.YtmkajedkflhbgaaGreatDoor
