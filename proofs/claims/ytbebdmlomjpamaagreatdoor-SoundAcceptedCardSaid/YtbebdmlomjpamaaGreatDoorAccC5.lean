/- Contracts of functions; no conditions. -/
import Derived.Test.YtbebdmlomjpamaaGreatDoorAccC4
set_option linter.all false
set_option maxHeartbeats 4000000
namespace Go.Proofs.YtbebdmlomjpamaaGreatDoor
open Go.Lg
set_option maxRecDepth 100000
def oQ{t:Tm}{c z:Nat}(H:(!dA (.ofNat c) (.ofNat t.fr))=false->sB (.ofNat z) (.ofNat 0)=false->c<t.fr->A 432 [t.nd',num c,num z] (t.sh c (.ofNat z)).nd'):A 432 [t.nd',num c,num z] (t.sh c (.ofNat z)).nd':=by
 by_cases h:t.fr<=c
 ·rw[nM _ t c h];exact f1 [15] (dJ (a:=c) (b:=t.fr) h)
 by_cases a:z=0
 ·subst a;rw[VE];exact f2 [15,18] (jH (a:=c) (b:=t.fr) a6) (eI 0)
 grind[jH,GF]
def U2{t:Tm}{c z:Nat}(a:z<=2*qA)(h:t.mx<=qA*qA):(t.sh c (.ofNat z)).fr<=bA:=by
 have:=wX (t.sh c (.ofNat z));have:=vG (.ofNat z) t c;have b:=zA;have:=yA;rw[b]at h a;have e:(Int.ofNat z).toNat=z:=rfl;omega
def tM(z:Nat)(o:z<=2*qA):∀(t:Tm)(c:Nat),c+t.cnt<=qA->t.mx<=qA*qA->A 432 [t.nd',num c,num z] (t.sh c (.ofNat z)).nd'
 |.v i,c,h,f=>oQ λg j p=>by
  have u:=zA;have v:=yA;have f:i<=qA*qA:=f;rw[u]at f;have p:c<i+1:=p;have e:(Tm.v i).sh c (.ofNat z)=.v (i+z):=by simp only[Tm.sh,gm (show c<=i by omega)];rfl
  rw[e];exact f4 [15,18,35,40] g j (lA (a:=i) (b:=z)) (Sd (i+z))
 |.lam s b,c,h,f=>oQ λg j p=>by
  have u:=zA;have v:=yA;have h:c+(1+b.cnt)<=qA:=h;have a:=lA (a:=c) (b:=1);have m:=tM z o b (c+1) a6 f;have e:=LC (.ofNat z) b (c+1);have n:=Td s b (b.sh (c+1) (.ofNat z)) a6 (U2 o f);exact f6 [(15,.H),(18,.H),(55,.z (c+1)),(57,.r (b.sh (c+1) (.ofNat z)).nd'),(300007,.ok),(300007,.f 0 [[(b.sh (c+1) (.ofNat z)).nd']]),(63,.r (Tm.lam s (b.sh (c+1) (.ofNat z))).nd')] g j a m (rfl:vA [[(b.sh (c+1) (.ofNat z)).nd']]=vA [[(b.sh (c+1) (.ofNat z)).nd']]) n
 |.n0 k,c,h,f=>oQ λg j p=>absurd p (lh _)|.n1 k b,c,h,f=>oQ λg j p=>by
  have u:=zA;have v:=yA;have h:c+(1+b.cnt)<=qA:=h;have a:=lA (a:=c) (b:=0);have m:=tM z o b c a6 f;have e:=LC (.ofNat z) b c;have n:=Ud k b (b.sh c (.ofNat z))
  cases k with|succ=>exact f6 [(15,.H),(18,.H),(55,.z c),(57,.r (b.sh c (.ofNat z)).nd'),(300007,.ok),(300007,.f 0 [[(b.sh c (.ofNat z)).nd']]),(63,.r (Tm.n1 .succ (b.sh c (.ofNat z))).nd')] g j a m (rfl:vA [[(b.sh c (.ofNat z)).nd']]=vA [[(b.sh c (.ofNat z)).nd']]) n|fst=>exact f6 [(15,.H),(18,.H),(55,.z c),(57,.r (b.sh c (.ofNat z)).nd'),(300007,.ok),(300007,.f 0 [[(b.sh c (.ofNat z)).nd']]),(63,.r (Tm.n1 .fst (b.sh c (.ofNat z))).nd')] g j a m (rfl:vA [[(b.sh c (.ofNat z)).nd']]=vA [[(b.sh c (.ofNat z)).nd']]) n|snd=>exact f6 [(15,.H),(18,.H),(55,.z c),(57,.r (b.sh c (.ofNat z)).nd'),(300007,.ok),(300007,.f 0 [[(b.sh c (.ofNat z)).nd']]),(63,.r (Tm.n1 .snd (b.sh c (.ofNat z))).nd')] g j a m (rfl:vA [[(b.sh c (.ofNat z)).nd']]=vA [[(b.sh c (.ofNat z)).nd']]) n
 |.n2 k b d,c,h,f=>oQ λg j p=>by
  have u:=zA;have v:=yA;have h:c+(1+b.cnt+d.cnt)<=qA:=h;have f:max b.mx d.mx<=qA*qA:=f;have a:=lA (a:=c) (b:=0);have m:=tM z o b c a6 a6;have l:=tM z o d c a6 a6;have e:=LC (.ofNat z) b c;have x:=LC (.ofNat z) d c;have n:=dX k b d (b.sh c (.ofNat z)) (d.sh c (.ofNat z))
  cases k with|app=>exact f8 [(15,.H),(18,.H),(55,.z c),(57,.r (b.sh c (.ofNat z)).nd'),(300007,.ok),(55,.z c),(57,.r (d.sh c (.ofNat z)).nd'),(300007,.ok),(300007,.f 0 [[(b.sh c (.ofNat z)).nd'],[(d.sh c (.ofNat z)).nd']]),(63,.r (Tm.n2 .app (b.sh c (.ofNat z)) (d.sh c (.ofNat z))).nd')] g j a m a l (rfl:vA [[(b.sh c (.ofNat z)).nd'],[(d.sh c (.ofNat z)).nd']]=vA [[(b.sh c (.ofNat z)).nd'],[(d.sh c (.ofNat z)).nd']]) n|cons=>exact f8 [(15,.H),(18,.H),(55,.z c),(57,.r (b.sh c (.ofNat z)).nd'),(300007,.ok),(55,.z c),(57,.r (d.sh c (.ofNat z)).nd'),(300007,.ok),(300007,.f 0 [[(b.sh c (.ofNat z)).nd'],[(d.sh c (.ofNat z)).nd']]),(63,.r (Tm.n2 .cons (b.sh c (.ofNat z)) (d.sh c (.ofNat z))).nd')] g j a m a l (rfl:vA [[(b.sh c (.ofNat z)).nd'],[(d.sh c (.ofNat z)).nd']]=vA [[(b.sh c (.ofNat z)).nd'],[(d.sh c (.ofNat z)).nd']]) n|pair=>exact f8 [(15,.H),(18,.H),(55,.z c),(57,.r (b.sh c (.ofNat z)).nd'),(300007,.ok),(55,.z c),(57,.r (d.sh c (.ofNat z)).nd'),(300007,.ok),(300007,.f 0 [[(b.sh c (.ofNat z)).nd'],[(d.sh c (.ofNat z)).nd']]),(63,.r (Tm.n2 .pair (b.sh c (.ofNat z)) (d.sh c (.ofNat z))).nd')] g j a m a l (rfl:vA [[(b.sh c (.ofNat z)).nd'],[(d.sh c (.ofNat z)).nd']]=vA [[(b.sh c (.ofNat z)).nd'],[(d.sh c (.ofNat z)).nd']]) n
 |.n3 k s b d w,c,h,f=>oQ λg j p=>by
  have u:=zA;have v:=yA;have h:c+(1+b.cnt+d.cnt+w.cnt)<=qA:=h;have f:max b.mx (max d.mx w.mx)<=qA*qA:=f;have a:=lA (a:=c) (b:=0);have m:=tM z o b c a6 a6;have l:=tM z o d c a6 a6;have r:=tM z o w c a6 a6;have e:=LC (.ofNat z) b c;have x:=LC (.ofNat z) d c;have:=LC (.ofNat z) w c;have n:=xO k s b d w (b.sh c (.ofNat z)) (d.sh c (.ofNat z)) (w.sh c (.ofNat z))
  cases k with|re=>exact bJ [(15,.H),(18,.H),(55,.z c),(57,.r (b.sh c (.ofNat z)).nd'),(300007,.ok),(55,.z c),(57,.r (d.sh c (.ofNat z)).nd'),(300007,.ok),(55,.z c),(57,.r (w.sh c (.ofNat z)).nd'),(300007,.ok),(300007,.f 0 [[(b.sh c (.ofNat z)).nd'],[(d.sh c (.ofNat z)).nd'],[(w.sh c (.ofNat z)).nd']]),(63,.r (Tm.n3 .re s (b.sh c (.ofNat z)) (d.sh c (.ofNat z)) (w.sh c (.ofNat z))).nd')] g j a m a l a r (rfl:vA [[(b.sh c (.ofNat z)).nd'],[(d.sh c (.ofNat z)).nd'],[(w.sh c (.ofNat z)).nd']]=vA [[(b.sh c (.ofNat z)).nd'],[(d.sh c (.ofNat z)).nd'],[(w.sh c (.ofNat z)).nd']]) n|fo=>exact bJ [(15,.H),(18,.H),(55,.z c),(57,.r (b.sh c (.ofNat z)).nd'),(300007,.ok),(55,.z c),(57,.r (d.sh c (.ofNat z)).nd'),(300007,.ok),(55,.z c),(57,.r (w.sh c (.ofNat z)).nd'),(300007,.ok),(300007,.f 0 [[(b.sh c (.ofNat z)).nd'],[(d.sh c (.ofNat z)).nd'],[(w.sh c (.ofNat z)).nd']]),(63,.r (Tm.n3 .fo s (b.sh c (.ofNat z)) (d.sh c (.ofNat z)) (w.sh c (.ofNat z))).nd')] g j a m a l a r (rfl:vA [[(b.sh c (.ofNat z)).nd'],[(d.sh c (.ofNat z)).nd'],[(w.sh c (.ofNat z)).nd']]=vA [[(b.sh c (.ofNat z)).nd'],[(d.sh c (.ofNat z)).nd'],[(w.sh c (.ofNat z)).nd']]) n
theorem aM(c:Nat){S t:Tm}(d:Nat)(h:t.cnt<=qA)(a:S.cnt<=qA):(t.put c S d).cnt<=qA+qA*qA:=by
 have:=RS c S t d;have:=IB t (c+d);have:t.occ (c+d)*S.cnt<=qA*qA:=aaV a6 a;omega
def V2{c:Nat}{S t:Tm}{d:Nat}(h:t.mx<=qA*qA)(a:S.mx<=qA*qA)(b:c+d+t.cnt<=qA:=by omega):(t.put c S d).fr<=bA:=by
 have:=wX (t.put c S d);have:=cW c S t d;have e:=zA;have:=yA;rw[e]at h a b;omega
def xQ{t S:Tm}{c:Nat}(H:(!dA (.ofNat c) (.ofNat t.fr))=false->c<t.fr->A 429 [t.nd',num c,S.nd'] (t.put c S 0).nd'):A 429 [t.nd',num c,S.nd'] (t.put c S 0).nd':=by
 by_cases h:t.fr<=c
 ·rw[pM c S t 0 h];exact f1 [15] (dJ (a:=c) (b:=t.fr) h)
 grind[jH]
def cM(S:Tm)(l:S.cnt<=qA)(o:S.mx<=qA*qA):∀(t:Tm)(c:Nat),c+t.cnt<=qA->t.mx<=qA*qA->A 429 [t.nd',num c,S.nd'] (t.put c S 0).nd'
 |.v i,c,h,g=>xQ λj p=>by
  have r:=zA;have y:=yA;have h:c+1<=qA:=h;have g:i<=qA*qA:=g;rw[r]at g;have p:c<i+1:=p;by_cases e:i=c
  ·have u:(Tm.v i).put c S 0=S.sh 0 (.ofNat c):=by simp only[Tm.put,ir,gm e]
   rw[u];exact f3 [15,27,30] j (XW (x:=.ofNat i) (a:=c) (by simp[e])) (tM c a6 S 0 a6 o)
  have u:(Tm.v i).put c S 0=.v (i-1):=by simp only[Tm.put,ir,e9 e,gm (show c<i by omega)]
  rw[u];exact f4 [15,27,39,44] j (GF e) (lC (a:=i)) (Sd (i-1))
 |.lam s b,c,h,g=>xQ λj p=>by
  have r:=zA;have y:=yA;have h:c+(1+b.cnt)<=qA:=h;have f:=lA (a:=c) (b:=1);have B:=cM S l o b (c+1) a6 g;have e:=aM (c+1) (S:=S) (t:=b) 0 a6 l;have n:=Td s b (b.put (c+1) S 0) c5 (V2 g o);have u:(Tm.lam s b).put c S 0=.lam s (b.put (c+1) S 0):=by simp[Tm.put,eQ]
  rw[u];exact f5 [(15,.H),(59,.z (c+1)),(61,.r (b.put (c+1) S 0).nd'),(300009,.ok),(300009,.f 0 [[(b.put (c+1) S 0).nd']]),(67,.r (Tm.lam s (b.put (c+1) S 0)).nd')] j f B (rfl:vA [[(b.put (c+1) S 0).nd']]=vA [[(b.put (c+1) S 0).nd']]) n
 |.n0 k,c,h,g=>xQ λj p=>absurd p (lh _)|.n1 k b,c,h,g=>xQ λj p=>by
  have r:=zA;have y:=yA;have h:c+(1+b.cnt)<=qA:=h;have g:b.mx<=qA*qA:=g;have f:=lA (a:=c) (b:=0);have a:=cM S l o b c a6 a6;have v:=aM c (S:=S) (t:=b) 0 a6 l;simp only[r]at v;have n:=Ud k b (b.put c S 0)
  cases k with|succ=>exact f5 [(15,.H),(59,.z c),(61,.r (b.put c S 0).nd'),(300009,.ok),(300009,.f 0 [[(b.put c S 0).nd']]),(67,.r (Tm.n1 .succ (b.put c S 0)).nd')] j f a (rfl:vA [[(b.put c S 0).nd']]=vA [[(b.put c S 0).nd']]) n|fst=>exact f5 [(15,.H),(59,.z c),(61,.r (b.put c S 0).nd'),(300009,.ok),(300009,.f 0 [[(b.put c S 0).nd']]),(67,.r (Tm.n1 .fst (b.put c S 0)).nd')] j f a (rfl:vA [[(b.put c S 0).nd']]=vA [[(b.put c S 0).nd']]) n|snd=>exact f5 [(15,.H),(59,.z c),(61,.r (b.put c S 0).nd'),(300009,.ok),(300009,.f 0 [[(b.put c S 0).nd']]),(67,.r (Tm.n1 .snd (b.put c S 0)).nd')] j f a (rfl:vA [[(b.put c S 0).nd']]=vA [[(b.put c S 0).nd']]) n
 |.n2 k b d,c,h,g=>xQ λj p=>by
  have r:=zA;have y:=yA;have h:c+(1+b.cnt+d.cnt)<=qA:=h;have g:max b.mx d.mx<=qA*qA:=g;have f:=lA (a:=c) (b:=0);have a:=cM S l o b c a6 a6;have v:=aM c (S:=S) (t:=b) 0 a6 l;have m:=cM S l o d c a6 a6;have z:=aM c (S:=S) (t:=d) 0 a6 l;simp only[r]at v z;have n:=dX k b d (b.put c S 0) (d.put c S 0)
  cases k with|app=>exact f7 [(15,.H),(59,.z c),(61,.r (b.put c S 0).nd'),(300009,.ok),(59,.z c),(61,.r (d.put c S 0).nd'),(300009,.ok),(300009,.f 0 [[(b.put c S 0).nd'],[(d.put c S 0).nd']]),(67,.r (Tm.n2 .app (b.put c S 0) (d.put c S 0)).nd')] j f a f m (rfl:vA [[(b.put c S 0).nd'],[(d.put c S 0).nd']]=vA [[(b.put c S 0).nd'],[(d.put c S 0).nd']]) n|cons=>exact f7 [(15,.H),(59,.z c),(61,.r (b.put c S 0).nd'),(300009,.ok),(59,.z c),(61,.r (d.put c S 0).nd'),(300009,.ok),(300009,.f 0 [[(b.put c S 0).nd'],[(d.put c S 0).nd']]),(67,.r (Tm.n2 .cons (b.put c S 0) (d.put c S 0)).nd')] j f a f m (rfl:vA [[(b.put c S 0).nd'],[(d.put c S 0).nd']]=vA [[(b.put c S 0).nd'],[(d.put c S 0).nd']]) n|pair=>exact f7 [(15,.H),(59,.z c),(61,.r (b.put c S 0).nd'),(300009,.ok),(59,.z c),(61,.r (d.put c S 0).nd'),(300009,.ok),(300009,.f 0 [[(b.put c S 0).nd'],[(d.put c S 0).nd']]),(67,.r (Tm.n2 .pair (b.put c S 0) (d.put c S 0)).nd')] j f a f m (rfl:vA [[(b.put c S 0).nd'],[(d.put c S 0).nd']]=vA [[(b.put c S 0).nd'],[(d.put c S 0).nd']]) n
 |.n3 k s b d w,c,h,g=>xQ λj p=>by
  have r:=zA;have y:=yA;have h:c+(1+b.cnt+d.cnt+w.cnt)<=qA:=h;have g:max b.mx (max d.mx w.mx)<=qA*qA:=g;have f:=lA (a:=c) (b:=0);have a:=cM S l o b c a6 a6;have v:=aM c (S:=S) (t:=b) 0 a6 l;have m:=cM S l o d c a6 a6;have z:=aM c (S:=S) (t:=d) 0 a6 l;have x:=cM S l o w c a6 a6;have C:=aM c (S:=S) (t:=w) 0 a6 l;simp only[r]at v z C;have n:=xO k s b d w (b.put c S 0) (d.put c S 0) (w.put c S 0)
  cases k with|re=>exact f9 [(15,.H),(59,.z c),(61,.r (b.put c S 0).nd'),(300009,.ok),(59,.z c),(61,.r (d.put c S 0).nd'),(300009,.ok),(59,.z c),(61,.r (w.put c S 0).nd'),(300009,.ok),(300009,.f 0 [[(b.put c S 0).nd'],[(d.put c S 0).nd'],[(w.put c S 0).nd']]),(67,.r (Tm.n3 .re s (b.put c S 0) (d.put c S 0) (w.put c S 0)).nd')] j f a f m f x (rfl:vA [[(b.put c S 0).nd'],[(d.put c S 0).nd'],[(w.put c S 0).nd']]=vA [[(b.put c S 0).nd'],[(d.put c S 0).nd'],[(w.put c S 0).nd']]) n|fo=>exact f9 [(15,.H),(59,.z c),(61,.r (b.put c S 0).nd'),(300009,.ok),(59,.z c),(61,.r (d.put c S 0).nd'),(300009,.ok),(59,.z c),(61,.r (w.put c S 0).nd'),(300009,.ok),(300009,.f 0 [[(b.put c S 0).nd'],[(d.put c S 0).nd'],[(w.put c S 0).nd']]),(67,.r (Tm.n3 .fo s (b.put c S 0) (d.put c S 0) (w.put c S 0)).nd')] j f a f m f x (rfl:vA [[(b.put c S 0).nd'],[(d.put c S 0).nd'],[(w.put c S 0).nd']]=vA [[(b.put c S 0).nd'],[(d.put c S 0).nd'],[(w.put c S 0).nd']]) n
def AQ{t:Tm}{c:Nat}(H:(!dA (.ofNat c) (.ofNat t.fr))=false->c<t.fr->A 428 [t.nd',num c] (num (t.occ c))):A 428 [t.nd',num c] (num (t.occ c)):=by
 by_cases h:t.fr<=c
 ·rw[CK t c h];exact f1 [13] (dJ (a:=c) (b:=t.fr) h)
 grind[jH]
def eM:∀(t:Tm)(c:Nat),c+t.cnt<=qA->A 428 [t.nd',num c] (num (t.occ c))
 |.v i,c,h=>AQ λa n=>by
  by_cases e:i=c
  ·have p:(Tm.v i).occ c=1:=by simp only[Tm.occ,gm e]
   rw[p];exact f2 [13,24] a (XW (x:=.ofNat i) (a:=c) (by simp[e]))
  have p:(Tm.v i).occ c=0:=by simp only[Tm.occ,e9 e]
  rw[p];exact f2 [13,24] a (GF e)
 |.lam s b,c,h=>AQ λa n=>by
  have r:=zA;have o:=yA;have h:c+(1+b.cnt)<=qA:=h;have:=IB b (c+1);exact f4 [13,39,40,41] a (lA (a:=c) (b:=1)) (eM b (c+1) a6) (uH (n:=b.occ (c+1)))
 |.n0 k,c,h=>AQ λa n=>absurd n (lh _)|.n1 k b,c,h=>AQ λa n=>by
  have r:=zA;have o:=yA;have h:c+(1+b.cnt)<=qA:=h;have j:=lA (a:=c) (b:=0);have o:=IB b c;have f:=eM b c a6;have g:=uH (n:=b.occ c);cases k<;>exact f4 [13,39,40,41] a j f g
 |.n2 k b d,c,h=>AQ λa n=>by
  have r:=zA;have o:=yA;have h:c+(1+b.cnt+d.cnt)<=qA:=h;have j:=lA (a:=c) (b:=0);have o:=IB b c;have f:=eM b c a6;have x:=IB d c;have l:=eM d c a6;have g:=uH (n:=b.occ c);have m:=lA (a:=b.occ c) (b:=d.occ c);cases k<;>exact f7 [13,39,40,41,39,40,41] a j f g j l m
 |.n3 k s b d w,c,h=>AQ λa n=>by
  have r:=zA;have o:=yA;have h:c+(1+b.cnt+d.cnt+w.cnt)<=qA:=h;have j:=lA (a:=c) (b:=0);have o:=IB b c;have f:=eM b c a6;have x:=IB d c;have l:=eM d c a6;have:=IB w c;have u:=eM w c a6;have g:=uH (n:=b.occ c);have m:=lA (a:=b.occ c) (b:=d.occ c);have v:=lA (a:=b.occ c+d.occ c) (b:=w.occ c);cases k<;>exact bJ [13,39,40,41,39,40,41,39,40,41] a j f g j l m j u v
def Wd:∀{t r:Tm},t.red=some r->t.mx<=qA*qA->t.cnt<=qA->A 424 [t.nd'] r.nd':=by
 have:=zA;have:=yA;refine@pK (λt r=>t.mx<=qA*qA->t.cnt<=qA->A 424 [t.nd'] r.nd') ?_ ?_ ?_ ?_ ?_ ?_ ?_
 ·intro a b _ _;exact f0 []
 ·intro a b _ _;exact f0 []
 ·intro s b a h c;have h:max b.mx a.mx<=qA*qA:=h;have c:1+(1+b.cnt)+a.cnt<=qA:=c;exact f1 [30] (cM a a6 a6 b 0 a6 a6)
 ·intro s b f _ _;exact f0 []
 ·intro s b f n h c;have c:1+b.cnt+f.cnt+(1+n.cnt)<=qA:=c;have d:=xO .re s b f (.n1 .succ n) b f n;have e:=Vd f n;have g:=Vd (.n2 .app f n) (.n3 .re s b f n) (by grind[Tm.cnt]);exact f3 [98,104,107] d e g
 ·intro s b f _ _;exact f0 []
 intro s b f x l h c;have c:1+b.cnt+f.cnt+(1+x.cnt+l.cnt)<=qA:=c;have d:=xO .fo s b f (.n2 .cons x l) b f l;have e:=R2 f x l;have g:=Vd (.n2 .app (.n2 .app f x) l) (.n3 .fo s b f l) (by grind[Tm.cnt]);exact f3 [98,104,107] d e g
def AO{a b c:Nat}(h:a*b<=bA)(e:a*b=c):xA (Int.ofNat a*.ofNat b)=true/\Int.ofNat a*.ofNat b=.ofNat c:=⟨cB (n:=a*b) h,by rw[<-e];rfl⟩
def tG{a b c:Nat}(h:a+b<=bA:=by omega)(e:a+b=c:=by omega):xA (Int.ofNat a+.ofNat b)=true/\Int.ofNat a+.ofNat b=.ofNat c:=by rw[<-e];exact lA h
def X2:∀{t r:Tm},t.red=some r->t.mx<=qA*qA->t.cnt<=qA->A 423 [t.nd'] (num r.cnt):=by
 have p:=zA;have:=yA;refine@pK (λt r=>t.mx<=qA*qA->t.cnt<=qA->A 423 [t.nd'] (num r.cnt)) ?_ ?_ ?_ ?_ ?_ ?_ ?_
 ·intro a b h c;exact f1 [183] (Wd (t:=.n1 .fst (.n2 .pair a b)) rfl h c)
 ·intro a b h c;exact f1 [183] (Wd (t:=.n1 .snd (.n2 .pair a b)) rfl h c)
 ·intro s b a h c;have c:1+(1+b.cnt)+a.cnt<=qA:=c;have u:=RS 0 a b 0;have:=IB b 0;have v:=UE a;simp only[ir]at u;have w:b.occ 0*(a.cnt-1)<=qA*qA:=aaV a6 a6;have:b.occ 0*(a.cnt-1)+b.occ 0=b.occ 0*a.cnt:=by
   obtain⟨k,y⟩:∃k,a.cnt=k+1:=⟨a.cnt-1,a6⟩;rw[y,Nat.add_sub_cancel,abk]
  rw[p]at w;exact f4 [27,37,38,39] (eM b 0 a6) (lC (a:=a.cnt) v) (AO (a:=b.occ 0) (b:=a.cnt-1) a6 rfl) (tG (a:=b.cnt) (b:=b.occ 0*(a.cnt-1)) (c:=(b.put 0 a 0).cnt))
 ·intro s b f _ _;exact f0 []
 ·intro s b f n h c;have c:1+b.cnt+f.cnt+(1+n.cnt)<=qA:=c;have d:=tG (a:=2) (b:=f.cnt) a6 rfl;have e:=AO (a:=2) (b:=n.cnt) a6 rfl;have g:=tG (a:=2+f.cnt) (b:=2*n.cnt) a6 rfl;have i:=tG (a:=2+f.cnt+2*n.cnt) (b:=1) a6 rfl;have j:=tG (a:=2+f.cnt+2*n.cnt+1) (b:=b.cnt) a6 rfl;have m:=tG (a:=2+f.cnt+2*n.cnt+1+b.cnt) (b:=f.cnt) (c:=(Tm.n2 .app (.n2 .app f n) (.n3 .re s b f n)).cnt) a6 (by grind[Tm.cnt]);exact f6 [61,76,77,78,88,98] d e g i j m
 ·intro s b f _ _;exact f0 []
 intro s b f x l h c;have c:1+b.cnt+f.cnt+(1+x.cnt+l.cnt)<=qA:=c;have d:=tG (a:=3) (b:=f.cnt) a6 rfl;have e:=tG (a:=3+f.cnt) (b:=x.cnt) a6 rfl;have o:=AO (a:=2) (b:=l.cnt) a6 rfl;have g:=tG (a:=3+f.cnt+x.cnt) (b:=2*l.cnt) a6 rfl;have i:=tG (a:=3+f.cnt+x.cnt+2*l.cnt) (b:=1) a6 rfl;have j:=tG (a:=3+f.cnt+x.cnt+2*l.cnt+1) (b:=b.cnt) a6 rfl;have m:=tG (a:=3+f.cnt+x.cnt+2*l.cnt+1+b.cnt) (b:=f.cnt) (c:=(Tm.n2 .app (.n2 .app (.n2 .app f x) l) (.n3 .fo s b f l)).cnt) a6 (by grind[Tm.cnt]);exact f7 [130,140,150,151,152,162,172] d e o g i j m
open Go.Lg
abbrev W2(y x:PV):Prop:=some ({x:=.pv y,ch:=[],nw:=[],nx:=0}:OB)=some {x:=.pv x,ch:=[],nw:=[],nx:=0}
theorem W2.of{y x:PV}(h:y=x):W2 y x:=by rw[h]
section
variable{f:Nat}{args:List PV}{x:PV}(tp:Di)(ko:Kp)
def BO{B:Prop}(h:B)(e:B=Ka ev Tryz.prog 100 6 f args tp ko x:=by kernel_rfl):A f args x:=Ov evOK (Eq.mp e h)
variable(y z:PV){b:Bool}(hb:b=true->y=x){H1 H2 H3 H4 H5 H6 H7 H8:Prop}(h1:H1)(h2:H2)(h3:H3)(h4:H4)(h5:H5)(h6:H6)(h7:H7)(h8:H8)(hz:z=x)
def w0:=@BO f args x tp ko _ (⟨λh=>.of (hb h),.of hz⟩:(b=true->W2 y x)/\W2 z x)
def w1:=@BO f args x tp ko _ (⟨λh=>.of (hb h),h1,.of hz⟩:(b=true->W2 y x)/\H1/\W2 z x)
def w2:=@BO f args x tp ko _ (⟨λh=>.of (hb h),h1,h2,.of hz⟩:(b=true->W2 y x)/\H1/\H2/\W2 z x)
def w3:=@BO f args x tp ko _ (⟨λh=>.of (hb h),h1,h2,h3,.of hz⟩:(b=true->W2 y x)/\H1/\H2/\H3/\W2 z x)
def w4:=@BO f args x tp ko _ (⟨λh=>.of (hb h),h1,h2,h3,h4,.of hz⟩:(b=true->W2 y x)/\H1/\H2/\H3/\H4/\W2 z x)
def w5:=@BO f args x tp ko _ (⟨λh=>.of (hb h),h1,h2,h3,h4,h5,.of hz⟩:(b=true->W2 y x)/\H1/\H2/\H3/\H4/\H5/\W2 z x)
def w6:=@BO f args x tp ko _ (⟨λh=>.of (hb h),h1,h2,h3,h4,h5,h6,.of hz⟩:(b=true->W2 y x)/\H1/\H2/\H3/\H4/\H5/\H6/\W2 z x)
end
def Y2:∀{t r:Tm},t.red=some r->t.cnt<=qA->r.cnt<=4*qA+qA*qA:=by
 refine@pK (λt r=>t.cnt<=qA->r.cnt<=4*qA+qA*qA) ?_ ?_ ?_ ?_ ?_ ?_ ?_
 ·grind[Tm.cnt]
 ·grind[Tm.cnt]
 ·grind[Tm.cnt,aM]
 ·grind[Tm.cnt]
 ·grind[Tm.cnt]
 ·grind[Tm.cnt]
 grind[Tm.cnt]
def SR.q:SR->PV|.er=>.tuple [.nil,num 4]|.no=>.tuple [.nil,num 0]|.ok x=>.tuple [x.nd',num 0]
def or_nn{f:Tm->Tm}{r q:SR}:SR.or f r q=.no↔q=.no/\r=.no:=by
 cases q<;>simp[SR.or]
def Xd{z:Int}{t r:Tm}:rt z t r≠.no:=by
 unfold rt;cases dA z ((r.cnt:Int)-t.cnt)<;>simp
def aG(z:Int):∀t:Tm,t.nf=true↔t.st z=.no
 |.v _=>⟨λ_=>rfl,λ_=>rfl⟩|.n0 _=>⟨λ_=>rfl,λ_=>rfl⟩|.lam s b=>by
  show b.nf=true↔SR.or (.lam s) .no (b.st z)=.no;rw[or_nn,aG z b];simp
 |.n1 k a=>by
  cases d:(Tm.n1 k a).red with|some r=>simp[Tm.nf,Tm.st,d,Xd]|none=>simp[Tm.nf,Tm.st,d,or_nn,aG z a]
 |.n2 k a b=>by
  cases d:(Tm.n2 k a b).red with|some r=>simp[Tm.nf,Tm.st,d,Xd]|none=>simp[Tm.nf,Tm.st,d,or_nn,aG z a,aG z b]
 |.n3 k s a b c=>by
  cases d:(Tm.n3 k s a b c).red with|some r=>simp[Tm.nf,Tm.st,d,Xd]|none=>simp[Tm.nf,Tm.st,d,or_nn,aG z a,aG z b,aG z c]
def yB{z:Int}{t:Tm}{r:SR}(h:t.st z=r):t.nf=true->PV.tuple [.nil,num 0]=r.q:=λe=>by rw[<-h,(aG z t).1 e];rfl
def Z2(z:Int)(t:Tm):∀{x:Tm}{n:Nat},t.st z=.ok x->t.sc n->t.shp=true->x.sc n/\x.shp=true:=by
 have root:∀{t r x:Tm}{n:Nat},t.red=some r->rt z t r=.ok x->t.sc n->t.shp=true->x.sc n/\x.shp=true:=by
  grind[rt,dA,M2]
 induction t with
 |v i=>intro x n h;cases h
 |n0 k=>intro x n h;cases h
 |lam s b A=>
  intro x n h d o;rcases mC h with ⟨y,e,rfl⟩|⟨_,h⟩
  ·have⟨g,j⟩:=JA o;have⟨l,f⟩:=A e d j;exact⟨l,by show(_&&_)=true;rw[g,f];rfl⟩
  cases h
 |n1 k a A=>
  intro x n h d o
  cases m:(Tm.n1 k a).red with
  |some r=>rw[CD m]at h;grind|none=>
   simp only[Tm.st,m]at h;rcases mC h with ⟨y,e,rfl⟩|⟨_,h⟩
   ·exact(A (x:=y) e d o:y.sc n/\y.shp=true)
   cases h
 |n2 k a b p u=>
  intro x n h d o
  cases m:(Tm.n2 k a b).red with
  |some r=>rw[CD m]at h;grind|none=>
   simp only[Tm.st,m]at h;have⟨g,j⟩:=JA o;rcases mC h with ⟨y,e,rfl⟩|⟨_,h⟩
   ·have⟨l,f⟩:=p e d.1 g;exact⟨⟨l,d.2⟩,by show(_&&_)=true;rw[f,j];rfl⟩
   rcases mC h with ⟨y,e,rfl⟩|⟨_,h⟩
   ·have⟨l,f⟩:=u e d.2 j;exact⟨⟨d.1,l⟩,by show(_&&_)=true;rw[g,f];rfl⟩
   cases h
 |n3 k s a b c p u B=>
  intro x n h d o
  cases m:(Tm.n3 k s a b c).red with
  |some r=>rw[CD m]at h;grind|none=>
   simp only[Tm.st,m]at h;have⟨C,g⟩:=JA o;have⟨g,j⟩:=JA g;have⟨j,l⟩:=JA j;rcases mC h with ⟨y,e,rfl⟩|⟨_,h⟩
   ·have⟨f,w⟩:=p e d.1 g;exact⟨⟨f,d.2⟩,by show(_&&(_&&(_&&_)))=true;rw[C,w,j,l];rfl⟩
   rcases mC h with ⟨y,e,rfl⟩|⟨_,h⟩
   ·have⟨f,w⟩:=u e d.2.1 j;exact⟨⟨d.1,f,d.2.2⟩,by show(_&&(_&&(_&&_)))=true;rw[C,g,w,l];rfl⟩
   rcases mC h with ⟨y,e,rfl⟩|⟨_,h⟩
   ·have⟨f,w⟩:=B e d.2.2 l;exact⟨⟨d.1,d.2.1,f⟩,by show(_&&(_&&(_&&_)))=true;rw[C,g,j,w];rfl⟩
   cases h
theorem Yd{t r:Tm}(h:t.red=some r)(z:Int)(f:t.mx<=qA*qA)(b:t.cnt<=qA):A 416 [t.nd',.int z] (t.st z).q:=by
 have j:=zA;have:=yA;have d:=sG t;rw[h]at d;have g:=X2 h f b;have k:=Wd h f b;have c:=Y2 h b;have i:=cQ (i:=r.cnt) (d:=t.cnt) (by rw[j]at c;omega);cases e:dA z (Int.ofNat r.cnt-.ofNat t.cnt)
 ·have a:t.st z=.ok r:=by rw[CD h,rt];rw[show dA z ((r.cnt:Int)-t.cnt)=false from e];rfl
  rw[a];exact w5 [(16,.T),(18,.N r.cnt),(23,.y (Int.ofNat r.cnt-.ofNat t.cnt)),(25,.H),(27,.r r.nd')] (kp [4,5]) (.tuple [.nil,num 0]) (.tuple [r.nd',num 0]) (yB a) d g i e k rfl
 have a:t.st z=.er:=by rw[CD h,rt];rw[show dA z ((r.cnt:Int)-t.cnt)=true from e];rfl
 rw[a];exact w4 [(16,.T),(18,.N r.cnt),(23,.y (Int.ofNat r.cnt-.ofNat t.cnt)),(25,.G)] (kp [4,5]) (.tuple [.nil,num 0]) (.tuple [.nil,num 4]) (yB a) d g i e rfl
def iM(z:Int)(y:z<=qA):∀(t:Tm),t.mx<=qA*qA->t.cnt<=qA->A 416 [t.nd',.int z] (t.st z).q
 |.v i,h,n=>w2 [(16,.F),(99999,.s)] (kp [4,5]) (.tuple [.nil,num 0]) (.tuple [.nil,num 0]) (b:=true) (λ_=>rfl) (sG (.v i)) (rfl:true=true) rfl|.n0 k,h,n=>by have g:=sG (.n0 k);cases k<;>exact w2 [(16,.F),(99999,.s)] (kp [4,5]) (.tuple [.nil,num 0]) (.tuple [.nil,num 0]) (b:=true) (λ_=>rfl) g (rfl:true=true) rfl
 |.lam s b,h,n=>by
  have C:=zA;have D:=yA;have h:b.mx<=qA*qA:=h;have n:1+b.cnt<=qA:=n;have e:=sG (Tm.lam s b);have c:=iM z y b a6 a6
  cases f:b.st z with
  |er=>
   rw[f]at c;have a:(Tm.lam s b).st z=.er:=by grind[Tm.st,SR.or]
   rw[a];exact w2 [(16,.F),(41,.r SR.er.q)] (kp [4,5]) (.tuple [.nil,num 0]) (.tuple [.nil,num 4]) (yB a) e c rfl
  |ok x=>
   rw[f]at c;have a:(Tm.lam s b).st z=.ok (Tm.lam s x):=by grind[Tm.st,SR.or]
   rw[a];have⟨o,p,_⟩:=sK z b f;have j:=Td s b x a6 (by have:=wX x;rw[C]at h;omega);exact w4 [(16,.F),(41,.r (SR.ok x).q),(300015,.f 0 [[x.nd']]),(60,.r (Tm.lam s x).nd')] (kp [4,5]) (.tuple [.nil,num 0]) (.tuple [(Tm.lam s x).nd',num 0]) (yB a) e c (rfl:vA [[x.nd']]=vA [[x.nd']]) j rfl
  |no=>
  rw[f]at c;have a:(Tm.lam s b).st z=.no:=by grind[Tm.st,SR.or]
  have u:(Tm.lam s b).nf=true:=(aG z _).2 a;rw[a];exact w3 [(16,.F),(41,.r SR.no.q),(99999,.s)] (kp [4,5]) (.tuple [.nil,num 0]) (.tuple [.nil,num 0]) (yB a) e c u rfl
 |.n1 k b,h,n=>by
  have C:=zA;have D:=yA;have h:b.mx<=qA*qA:=h;have n:1+b.cnt<=qA:=n
  cases m:(Tm.n1 k b).red with|some r=>grind[Yd]|none=>
  have e:=sG (Tm.n1 k b);rw[m]at e;have c:=iM z y b a6 a6
  cases f:b.st z with
  |er=>
   rw[f]at c;have a:(Tm.n1 k b).st z=.er:=by grind[Tm.st,SR.or]
   rw[a]
   cases k with|succ=>exact w2 [(16,.F),(41,.r SR.er.q)] (kp [4,5]) (.tuple [.nil,num 0]) (.tuple [.nil,num 4]) (yB a) e c rfl|fst=>exact w2 [(16,.F),(41,.r SR.er.q)] (kp [4,5]) (.tuple [.nil,num 0]) (.tuple [.nil,num 4]) (yB a) e c rfl|snd=>exact w2 [(16,.F),(41,.r SR.er.q)] (kp [4,5]) (.tuple [.nil,num 0]) (.tuple [.nil,num 4]) (yB a) e c rfl
  |ok x=>
   rw[f]at c;have a:(Tm.n1 k b).st z=.ok (Tm.n1 k x):=by grind[Tm.st,SR.or]
   rw[a];have⟨o,p,_⟩:=sK z b f;have j:=Ud k b x
   cases k with|succ=>exact w4 [(16,.F),(41,.r (SR.ok x).q),(300015,.f 0 [[x.nd']]),(60,.r (Tm.n1 .succ x).nd')] (kp [4,5]) (.tuple [.nil,num 0]) (.tuple [(Tm.n1 .succ x).nd',num 0]) (yB a) e c (rfl:vA [[x.nd']]=vA [[x.nd']]) j rfl|fst=>exact w4 [(16,.F),(41,.r (SR.ok x).q),(300015,.f 0 [[x.nd']]),(60,.r (Tm.n1 .fst x).nd')] (kp [4,5]) (.tuple [.nil,num 0]) (.tuple [(Tm.n1 .fst x).nd',num 0]) (yB a) e c (rfl:vA [[x.nd']]=vA [[x.nd']]) j rfl|snd=>exact w4 [(16,.F),(41,.r (SR.ok x).q),(300015,.f 0 [[x.nd']]),(60,.r (Tm.n1 .snd x).nd')] (kp [4,5]) (.tuple [.nil,num 0]) (.tuple [(Tm.n1 .snd x).nd',num 0]) (yB a) e c (rfl:vA [[x.nd']]=vA [[x.nd']]) j rfl
  |no=>
  rw[f]at c;have a:(Tm.n1 k b).st z=.no:=by grind[Tm.st,SR.or]
  have u:(Tm.n1 k b).nf=true:=(aG z _).2 a;rw[a]
  cases k with|succ=>exact w3 [(16,.F),(41,.r SR.no.q),(99999,.s)] (kp [4,5]) (.tuple [.nil,num 0]) (.tuple [.nil,num 0]) (yB a) e c u rfl|fst=>exact w3 [(16,.F),(41,.r SR.no.q),(99999,.s)] (kp [4,5]) (.tuple [.nil,num 0]) (.tuple [.nil,num 0]) (yB a) e c u rfl|snd=>exact w3 [(16,.F),(41,.r SR.no.q),(99999,.s)] (kp [4,5]) (.tuple [.nil,num 0]) (.tuple [.nil,num 0]) (yB a) e c u rfl
 |.n2 k b d,h,n=>by
  have C:=zA;have D:=yA;have h:max b.mx d.mx<=qA*qA:=h;have n:1+b.cnt+d.cnt<=qA:=n
  cases m:(Tm.n2 k b d).red with|some r=>grind[Yd]|none=>
  have e:=sG (Tm.n2 k b d);rw[m]at e;have c:=iM z y b a6 a6
  cases f:b.st z with
  |er=>
   rw[f]at c;have a:(Tm.n2 k b d).st z=.er:=by grind[Tm.st,SR.or]
   rw[a]
   cases k with|app=>exact w2 [(16,.F),(41,.r SR.er.q)] (kp [4,5]) (.tuple [.nil,num 0]) (.tuple [.nil,num 4]) (yB a) e c rfl|cons=>exact w2 [(16,.F),(41,.r SR.er.q)] (kp [4,5]) (.tuple [.nil,num 0]) (.tuple [.nil,num 4]) (yB a) e c rfl|pair=>exact w2 [(16,.F),(41,.r SR.er.q)] (kp [4,5]) (.tuple [.nil,num 0]) (.tuple [.nil,num 4]) (yB a) e c rfl
  |ok x=>
   rw[f]at c;have a:(Tm.n2 k b d).st z=.ok (Tm.n2 k x d):=by grind[Tm.st,SR.or]
   rw[a];have⟨o,p,_⟩:=sK z b f;have j:=dX k b d x d
   cases k with|app=>exact w4 [(16,.F),(41,.r (SR.ok x).q),(300015,.f 0 [[x.nd'],[d.nd']]),(60,.r (Tm.n2 .app x d).nd')] (kp [4,5]) (.tuple [.nil,num 0]) (.tuple [(Tm.n2 .app x d).nd',num 0]) (yB a) e c (rfl:vA [[x.nd'],[d.nd']]=vA [[x.nd'],[d.nd']]) j rfl|cons=>exact w4 [(16,.F),(41,.r (SR.ok x).q),(300015,.f 0 [[x.nd'],[d.nd']]),(60,.r (Tm.n2 .cons x d).nd')] (kp [4,5]) (.tuple [.nil,num 0]) (.tuple [(Tm.n2 .cons x d).nd',num 0]) (yB a) e c (rfl:vA [[x.nd'],[d.nd']]=vA [[x.nd'],[d.nd']]) j rfl|pair=>exact w4 [(16,.F),(41,.r (SR.ok x).q),(300015,.f 0 [[x.nd'],[d.nd']]),(60,.r (Tm.n2 .pair x d).nd')] (kp [4,5]) (.tuple [.nil,num 0]) (.tuple [(Tm.n2 .pair x d).nd',num 0]) (yB a) e c (rfl:vA [[x.nd'],[d.nd']]=vA [[x.nd'],[d.nd']]) j rfl
  |no=>
  rw[f]at c;have gd:=iM z y d a6 a6
  cases l:d.st z with
  |er=>
   rw[l]at gd;have a:(Tm.n2 k b d).st z=.er:=by simp only[Tm.st,m,f,l,SR.or]
   rw[a]
   cases k with|app=>exact w3 [(16,.F),(41,.r SR.no.q),(41,.r SR.er.q)] (kp [4,5]) (.tuple [.nil,num 0]) (.tuple [.nil,num 4]) (yB a) e c gd rfl|cons=>exact w3 [(16,.F),(41,.r SR.no.q),(41,.r SR.er.q)] (kp [4,5]) (.tuple [.nil,num 0]) (.tuple [.nil,num 4]) (yB a) e c gd rfl|pair=>exact w3 [(16,.F),(41,.r SR.no.q),(41,.r SR.er.q)] (kp [4,5]) (.tuple [.nil,num 0]) (.tuple [.nil,num 4]) (yB a) e c gd rfl
  |ok x=>
   rw[l]at gd;have a:(Tm.n2 k b d).st z=.ok (Tm.n2 k b x):=by simp only[Tm.st,m,f,l,SR.or]
   rw[a];have⟨o,p,_⟩:=sK z d l;have j:=dX k b d b x
   cases k with|app=>exact w5 [(16,.F),(41,.r SR.no.q),(41,.r (SR.ok x).q),(300015,.f 0 [[b.nd'],[x.nd']]),(60,.r (Tm.n2 .app b x).nd')] (kp [4,5]) (.tuple [.nil,num 0]) (.tuple [(Tm.n2 .app b x).nd',num 0]) (yB a) e c gd (rfl:vA [[b.nd'],[x.nd']]=vA [[b.nd'],[x.nd']]) j rfl|cons=>exact w5 [(16,.F),(41,.r SR.no.q),(41,.r (SR.ok x).q),(300015,.f 0 [[b.nd'],[x.nd']]),(60,.r (Tm.n2 .cons b x).nd')] (kp [4,5]) (.tuple [.nil,num 0]) (.tuple [(Tm.n2 .cons b x).nd',num 0]) (yB a) e c gd (rfl:vA [[b.nd'],[x.nd']]=vA [[b.nd'],[x.nd']]) j rfl|pair=>exact w5 [(16,.F),(41,.r SR.no.q),(41,.r (SR.ok x).q),(300015,.f 0 [[b.nd'],[x.nd']]),(60,.r (Tm.n2 .pair b x).nd')] (kp [4,5]) (.tuple [.nil,num 0]) (.tuple [(Tm.n2 .pair b x).nd',num 0]) (yB a) e c gd (rfl:vA [[b.nd'],[x.nd']]=vA [[b.nd'],[x.nd']]) j rfl
  |no=>
  rw[l]at gd;have a:(Tm.n2 k b d).st z=.no:=by simp only[Tm.st,m,f,l,SR.or]
  have u:(Tm.n2 k b d).nf=true:=(aG z _).2 a;rw[a]
  cases k with|app=>exact w4 [(16,.F),(41,.r SR.no.q),(41,.r SR.no.q),(99999,.s)] (kp [4,5]) (.tuple [.nil,num 0]) (.tuple [.nil,num 0]) (yB a) e c gd u rfl|cons=>exact w4 [(16,.F),(41,.r SR.no.q),(41,.r SR.no.q),(99999,.s)] (kp [4,5]) (.tuple [.nil,num 0]) (.tuple [.nil,num 0]) (yB a) e c gd u rfl|pair=>exact w4 [(16,.F),(41,.r SR.no.q),(41,.r SR.no.q),(99999,.s)] (kp [4,5]) (.tuple [.nil,num 0]) (.tuple [.nil,num 0]) (yB a) e c gd u rfl
 |.n3 k s b d w,h,n=>by
  have C:=zA;have D:=yA;have h:max b.mx (max d.mx w.mx)<=qA*qA:=h;have n:1+b.cnt+d.cnt+w.cnt<=qA:=n
  cases m:(Tm.n3 k s b d w).red with|some r=>exact Yd m z h n|none=>
  have e:=sG (Tm.n3 k s b d w);rw[m]at e;have c:=iM z y b a6 a6
  cases f:b.st z with
  |er=>
   rw[f]at c;have a:(Tm.n3 k s b d w).st z=.er:=by simp only[Tm.st,m,f,SR.or]
   rw[a]
   cases k with|re=>exact w2 [(16,.F),(41,.r SR.er.q)] (kp [4,5]) (.tuple [.nil,num 0]) (.tuple [.nil,num 4]) (yB a) e c rfl|fo=>exact w2 [(16,.F),(41,.r SR.er.q)] (kp [4,5]) (.tuple [.nil,num 0]) (.tuple [.nil,num 4]) (yB a) e c rfl
  |ok x=>
   rw[f]at c;have a:(Tm.n3 k s b d w).st z=.ok (Tm.n3 k s x d w):=by simp only[Tm.st,m,f,SR.or]
   rw[a];have⟨o,p,_⟩:=sK z b f;have j:=xO k s b d w x d w
   cases k with|re=>exact w4 [(16,.F),(41,.r (SR.ok x).q),(300015,.f 0 [[x.nd'],[d.nd'],[w.nd']]),(60,.r (Tm.n3 .re s x d w).nd')] (kp [4,5]) (.tuple [.nil,num 0]) (.tuple [(Tm.n3 .re s x d w).nd',num 0]) (yB a) e c (rfl:vA [[x.nd'],[d.nd'],[w.nd']]=vA [[x.nd'],[d.nd'],[w.nd']]) j rfl|fo=>exact w4 [(16,.F),(41,.r (SR.ok x).q),(300015,.f 0 [[x.nd'],[d.nd'],[w.nd']]),(60,.r (Tm.n3 .fo s x d w).nd')] (kp [4,5]) (.tuple [.nil,num 0]) (.tuple [(Tm.n3 .fo s x d w).nd',num 0]) (yB a) e c (rfl:vA [[x.nd'],[d.nd'],[w.nd']]=vA [[x.nd'],[d.nd'],[w.nd']]) j rfl
  |no=>
  rw[f]at c;have gd:=iM z y d a6 a6
  cases l:d.st z with
  |er=>
   rw[l]at gd;have a:(Tm.n3 k s b d w).st z=.er:=by simp only[Tm.st,m,f,l,SR.or]
   rw[a]
   cases k with|re=>exact w3 [(16,.F),(41,.r SR.no.q),(41,.r SR.er.q)] (kp [4,5]) (.tuple [.nil,num 0]) (.tuple [.nil,num 4]) (yB a) e c gd rfl|fo=>exact w3 [(16,.F),(41,.r SR.no.q),(41,.r SR.er.q)] (kp [4,5]) (.tuple [.nil,num 0]) (.tuple [.nil,num 4]) (yB a) e c gd rfl
  |ok x=>
   rw[l]at gd;have a:(Tm.n3 k s b d w).st z=.ok (Tm.n3 k s b x w):=by simp only[Tm.st,m,f,l,SR.or]
   rw[a];have⟨o,p,_⟩:=sK z d l;have j:=xO k s b d w b x w
   cases k with|re=>exact w5 [(16,.F),(41,.r SR.no.q),(41,.r (SR.ok x).q),(300015,.f 0 [[b.nd'],[x.nd'],[w.nd']]),(60,.r (Tm.n3 .re s b x w).nd')] (kp [4,5]) (.tuple [.nil,num 0]) (.tuple [(Tm.n3 .re s b x w).nd',num 0]) (yB a) e c gd (rfl:vA [[b.nd'],[x.nd'],[w.nd']]=vA [[b.nd'],[x.nd'],[w.nd']]) j rfl|fo=>exact w5 [(16,.F),(41,.r SR.no.q),(41,.r (SR.ok x).q),(300015,.f 0 [[b.nd'],[x.nd'],[w.nd']]),(60,.r (Tm.n3 .fo s b x w).nd')] (kp [4,5]) (.tuple [.nil,num 0]) (.tuple [(Tm.n3 .fo s b x w).nd',num 0]) (yB a) e c gd (rfl:vA [[b.nd'],[x.nd'],[w.nd']]=vA [[b.nd'],[x.nd'],[w.nd']]) j rfl
  |no=>
  rw[l]at gd;have v:=iM z y w a6 a6
  cases B:w.st z with
  |er=>
   rw[B]at v;have a:(Tm.n3 k s b d w).st z=.er:=by simp only[Tm.st,m,f,l,B,SR.or]
   rw[a]
   cases k with|re=>exact w4 [(16,.F),(41,.r SR.no.q),(41,.r SR.no.q),(41,.r SR.er.q)] (kp [4,5]) (.tuple [.nil,num 0]) (.tuple [.nil,num 4]) (yB a) e c gd v rfl|fo=>exact w4 [(16,.F),(41,.r SR.no.q),(41,.r SR.no.q),(41,.r SR.er.q)] (kp [4,5]) (.tuple [.nil,num 0]) (.tuple [.nil,num 4]) (yB a) e c gd v rfl
  |ok x=>
   rw[B]at v;have a:(Tm.n3 k s b d w).st z=.ok (Tm.n3 k s b d x):=by simp only[Tm.st,m,f,l,B,SR.or]
   rw[a];have⟨o,p,_⟩:=sK z w B;have j:=xO k s b d w b d x
   cases k with|re=>exact w6 [(16,.F),(41,.r SR.no.q),(41,.r SR.no.q),(41,.r (SR.ok x).q),(300015,.f 0 [[b.nd'],[d.nd'],[x.nd']]),(60,.r (Tm.n3 .re s b d x).nd')] (kp [4,5]) (.tuple [.nil,num 0]) (.tuple [(Tm.n3 .re s b d x).nd',num 0]) (yB a) e c gd v (rfl:vA [[b.nd'],[d.nd'],[x.nd']]=vA [[b.nd'],[d.nd'],[x.nd']]) j rfl|fo=>exact w6 [(16,.F),(41,.r SR.no.q),(41,.r SR.no.q),(41,.r (SR.ok x).q),(300015,.f 0 [[b.nd'],[d.nd'],[x.nd']]),(60,.r (Tm.n3 .fo s b d x).nd')] (kp [4,5]) (.tuple [.nil,num 0]) (.tuple [(Tm.n3 .fo s b d x).nd',num 0]) (yB a) e c gd v (rfl:vA [[b.nd'],[d.nd'],[x.nd']]=vA [[b.nd'],[d.nd'],[x.nd']]) j rfl
  |no=>
  rw[B]at v;have a:(Tm.n3 k s b d w).st z=.no:=by simp only[Tm.st,m,f,l,B,SR.or]
  have u:(Tm.n3 k s b d w).nf=true:=(aG z _).2 a;rw[a]
  cases k with|re=>exact w5 [(16,.F),(41,.r SR.no.q),(41,.r SR.no.q),(41,.r SR.no.q),(99999,.s)] (kp [4,5]) (.tuple [.nil,num 0]) (.tuple [.nil,num 0]) (yB a) e c gd v u rfl|fo=>exact w5 [(16,.F),(41,.r SR.no.q),(41,.r SR.no.q),(41,.r SR.no.q),(99999,.s)] (kp [4,5]) (.tuple [.nil,num 0]) (.tuple [.nil,num 0]) (yB a) e c gd v u rfl
def Zd{t r:Tm}(h:t.red=some r)(a:t.nf=false):A 408 [t.nd'] (.bool t.nf):=by
 have g:=sG t;rw[h]at g;exact w1 [(10,.T)] (kp [2]) (.bool true) (.bool false) (b:=t.nf) (λh=>by rw[h]) g (by rw[a])
def xM:∀t:Tm,A 408 [t.nd'] (.bool t.nf)
 |.v i=>w2 [(10,.F),(99999,.s)] (kp [2]) (.bool true) (.bool true) (b:=true) (λ_=>rfl) (sG (.v i)) (rfl:true=true) rfl|.n0 k=>by
  have g:=sG (.n0 k);cases k<;>exact w2 [(10,.F),(99999,.s)] (kp [2]) (.bool true) (.bool true) (b:=true) (λ_=>rfl) g (rfl:true=true) rfl
 |.lam s b=>by
  have g:=sG (.lam s b);have j:=xM b;cases e:b.nf<;>rw[e]at j
  ·have a:(Tm.lam s b).nf=false:=e;exact w2 [(10,.F),(21,.F)] (kp [2]) (.bool true) (.bool false) (b:=(Tm.lam s b).nf) (λh=>by rw[h]) g j (by rw[a])
  have a:(Tm.lam s b).nf=true:=e;exact w3 [(10,.F),(21,.T),(99999,.s)] (kp [2]) (.bool true) (.bool true) (b:=(Tm.lam s b).nf) (λh=>by rw[h]) g j a (by rw[a])
 |.n1 k b=>by
  cases f:(Tm.n1 k b).red with
  |some r=>exact Zd f (by simp only[Tm.nf,f];rfl)|none=>
   have g:=sG (.n1 k b);have c:(Tm.n1 k b).nf=true->PV.bool true=.bool (Tm.n1 k b).nf:=λh=>by rw[h]
   rw[f]at g;have j:=xM b;cases e:b.nf<;>rw[e]at j
   ·have a:(Tm.n1 k b).nf=false:=by simp only[Tm.nf,f,e];rfl
    cases k<;>exact w2 [(10,.F),(21,.F)] (kp [2]) (.bool true) (.bool false) c g j (by rw[a])
   have a:(Tm.n1 k b).nf=true:=by simp only[Tm.nf,f,e];rfl
   cases k<;>exact w3 [(10,.F),(21,.T),(99999,.s)] (kp [2]) (.bool true) (.bool true) c g j a (by rw[a])
 |.n2 k b d=>by
  cases f:(Tm.n2 k b d).red with
  |some r=>exact Zd f (by simp only[Tm.nf,f];rfl)|none=>
   have g:=sG (.n2 k b d);have c:(Tm.n2 k b d).nf=true->PV.bool true=.bool (Tm.n2 k b d).nf:=λh=>by rw[h]
   rw[f]at g;have j:=xM b;have l:=xM d;cases e:b.nf<;>rw[e]at j
   ·have a:(Tm.n2 k b d).nf=false:=by simp only[Tm.nf,f,e];rfl
    cases k<;>exact w2 [(10,.F),(21,.F)] (kp [2]) (.bool true) (.bool false) c g j (by rw[a])
   cases m:d.nf<;>rw[m]at l
   ·have a:(Tm.n2 k b d).nf=false:=by simp only[Tm.nf,f,e,m];rfl
    cases k<;>exact w3 [(10,.F),(21,.T),(21,.F)] (kp [2]) (.bool true) (.bool false) c g j l (by rw[a])
   have a:(Tm.n2 k b d).nf=true:=by simp only[Tm.nf,f,e,m];rfl
   cases k<;>exact w4 [(10,.F),(21,.T),(21,.T),(99999,.s)] (kp [2]) (.bool true) (.bool true) c g j l a (by rw[a])
 |.n3 k s b d w=>by
  cases f:(Tm.n3 k s b d w).red with
  |some r=>exact Zd f (by simp only[Tm.nf,f];rfl)|none=>
   have g:=sG (.n3 k s b d w);have c:(Tm.n3 k s b d w).nf=true->PV.bool true=.bool (Tm.n3 k s b d w).nf:=λh=>by rw[h]
   rw[f]at g;have j:=xM b;have l:=xM d;have o:=xM w;cases e:b.nf<;>rw[e]at j
   ·have a:(Tm.n3 k s b d w).nf=false:=by simp only[Tm.nf,f,e];rfl
    cases k<;>exact w2 [(10,.F),(21,.F)] (kp [2]) (.bool true) (.bool false) c g j (by rw[a])
   cases m:d.nf<;>rw[m]at l
   ·have a:(Tm.n3 k s b d w).nf=false:=by simp only[Tm.nf,f,e,m];rfl
    cases k<;>exact w3 [(10,.F),(21,.T),(21,.F)] (kp [2]) (.bool true) (.bool false) c g j l (by rw[a])
   cases n:w.nf<;>rw[n]at o
   ·have a:(Tm.n3 k s b d w).nf=false:=by simp only[Tm.nf,f,e,m,n];rfl
    cases k<;>exact w4 [(10,.F),(21,.T),(21,.T),(21,.F)] (kp [2]) (.bool true) (.bool false) c g j l o (by rw[a])
   have a:(Tm.n3 k s b d w).nf=true:=by simp only[Tm.nf,f,e,m,n];rfl
   cases k<;>exact w5 [(10,.F),(21,.T),(21,.T),(21,.T),(99999,.s)] (kp [2]) (.bool true) (.bool true) c g j l o a (by rw[a])
structure TK(n:Nat)(t:Tm):Prop where
 cnt:t.cnt<=4096
 shp:t.shp=true
 sc:t.sc n
def SR.t(r:SR):PV:=match r with|.er=>.tuple [.bool false,num 4]|.no=>.tuple [.bool false,num 0]|.ok _=>.tuple [.bool true,num 0]
def SR.o(r:SR)(t:Tm)(k:Nat):Ob:=match r with|.ok x=>bx [x.nd',num (k+1)]|_=>bx [t.nd',num k]
abbrev nA:Nat:=100000
theorem TK.mx{n:Nat}{t:Tm}(h:TK n t)(a:n<=nA):t.mx<=104096:=by
 have:=kX t n h.sc;have:=h.cnt;have:nA=100000:=rfl;omega
theorem TK.chk{n:Nat}{t:Tm}(h:TK n t):t.chk=0:=by
 unfold Tm.chk;rw[h.shp];rw[iA h.cnt]
def y3{n:Nat}{t:Tm}(h:TK n t)(c:n<=nA)(k:Nat)(i:k<=1000:=by omega):O 406 [.loc 2 0] [(2,bx [t.nd',num k])] (.pv (t.st (4096-t.cnt)).t) [(2,(t.st (4096-t.cnt)).o t k)]/\∀x,t.st (4096-t.cnt)=.ok x->TK n x:=by
 have d:=zA;have:=yA;have:=h.cnt;have:=h.mx c;have b:=cQ (i:=4096) (d:=t.cnt);have a:A 416 [t.nd',.int (4096-.ofNat t.cnt)] (t.st (4096-t.cnt)).q:=iM (4096-.ofNat t.cnt) a9 t (by rw[d];omega) a6
 cases e:t.st (4096-t.cnt)with
 |er=>rw[e]at a;exact⟨o2 3 [(16,.y (4096-Int.ofNat t.cnt)),17] b a,λx e=>nomatch e⟩|no=>rw[e]at a;exact⟨o2 3 [(16,.y (4096-Int.ofNat t.cnt)),17] b a,λx e=>nomatch e⟩|ok x=>
  rw[e]at a;have⟨o,p,_⟩:=sK _ t e;have⟨f,g⟩:=Z2 _ t e h.sc h.shp;refine⟨o3 3 [(16,.y (4096-Int.ofNat t.cnt)),17,35] b a (lA (a:=k) (b:=1)),?_⟩;intro y e;cases e;exact⟨a6,g,f⟩
abbrev CO:Kp:=⟨[1,4,8],[1,2],3,[]⟩
abbrev Cm:Kp:=⟨[4,5,6],[1],3,[]⟩
abbrev A3:Kp:=⟨[4,8],[1,2],3,[]⟩
abbrev je(k:Nat)(t:Tm):IS:=st [(1,.pv (num 1000)),(4,.loc 1 0),(8,.loc 2 0)] [(1,bx kz),(2,bx [t.nd',num k])] 3 []
abbrev fX(n e:Nat)(l:List PV):IS:=st [(4,.loc 1 0),(5,.pv (num n)),(6,.pv (num e))] [(1,bx l)] 3 []
abbrev we(t:Tm):IS:=st [(4,.loc 1 0),(8,.loc 2 0)] [(1,bx kz),(2,bx [t.nd',num 1000])] 3 []
def B3{n:Nat}(h:n<=nA):∀(r k:Nat),k+r=1000->∀t:Tm,TK n t->
  (∃x j,Lp 388 0 0 (je k t) .ret (fX j 0 (Tm.c x))/\TK n x/\MC r k t=.ok x j)\/(∃e,Lp 388 0 0 (je k t) .ret (fX 0 (e+1) kz)/\MC r k t=.er e)\/∃x,Lp 388 0 0 (je k t) (.exit 0) (we x)/\TK n x/\MC r k t=MC 0 1000 x:=by
 intro r
 induction r with
 |zero=>
  intro k i t f;obtain rfl:k=1000:=a6
  exact .inr (.inr ⟨t,x0 [] A3,f,rfl⟩)
 |succ r l=>
  intro k i t f;have a:dA (.ofNat k) (.ofNat 1000)=true:=KA a6;have⟨b,m⟩:=y3 f h k;rw[MC]
  cases g:t.st (4096-t.cnt)with
  |er=>rw[g]at b;exact .inr (.inl ⟨3,x2 [38,41] Cm a b,rfl⟩)|no=>rw[g]at b;exact .inl ⟨t,k,x3 [38,41,54] Cm a b (DK t),f,rfl⟩|ok x=>
   rw[g]at b;have o:=m x g;rcases l (k+1) a6 x o with ⟨y,j,c,d⟩|⟨e,c,d⟩|⟨y,c,d⟩
   ·exact .inl ⟨y,j,n3 [38,41] CO a b c,d⟩
   ·exact .inr (.inl ⟨e,n3 [38,41] CO a b c,d⟩)
   exact .inr (.inr ⟨y,n3 [38,41] CO a b c,d⟩)
def DO{n:Nat}{t:Tm}(h:TK n t)(l:n<=nA:=by omega):A 388 [t.p,num 1000] (lE t).p/\∀x k,lE t=.ok x k->TK n x:=by
 have:=zA;have:=yA;have:=h.cnt;have:=h.mx l;have:=zD t h.shp;have b:=a92 t;rw[h.chk]at b;have c:=a298 t;have:mG=536870912:=rfl;rw[iJ t a6]at c;have d:=sM t a6 a6;unfold lE;rcases B3 l 1000 0 rfl t h with ⟨x,k,a,m,f⟩|⟨e,a,f⟩|⟨x,a,m,f⟩<;>rw[f]
 ·exact⟨f4 [12,25,30,(100007,.l CO .ret (fX k 0 x.c))] b c d a,λy j e=>by simp_all⟩
 ·exact⟨f4 [12,25,30,(100007,.l CO .ret (fX 0 (e+1) kz))] b c d a,λy j e=>by cases e⟩
 have g:=xM x;cases e:x.nf<;>rw[e]at g
 ·have i:MC 0 1000 x=.er 4:=by
   rw[MC]
   cases o:x.st (4096-x.cnt)with
   |no=>rw[(aG _ x).2 o]at e;cases e
   |er=>rfl|ok y=>rfl
  rw[i];exact⟨f5 [12,25,30,(100007,.l CO (.exit 0) (we x)),63] b c d a g,λy j e=>by cases e⟩
 have i:MC 0 1000 x=.ok x 1000:=by rw[MC,(aG _ x).1 e]
 rw[i];exact⟨f6 [12,25,30,(100007,.l CO (.exit 0) (we x)),63,70] b c d a g (DK x),λy j e=>by simp_all⟩
open Go.Lg
def FK.eq1{n:Nat}{a b:Tm}(h:FK n (.eq a b)):TK n a:=⟨by have:=h.cnt;grind[Fm.cnt],(JA h.shp).1,h.sc.1⟩
def FK.eq2{n:Nat}{a b:Tm}(h:FK n (.eq a b)):TK n b:=⟨by have:=h.cnt;grind[Fm.cnt],(JA h.shp).2,h.sc.2⟩
def FK.bin1{n:Nat}{k:FB}{a b:Fm}(h:FK n (.bin k a b)):FK n a:=⟨by have:=h.cnt;grind[Fm.cnt],(JA h.shp).1,h.sc.1⟩
def FK.bin2{n:Nat}{k:FB}{a b:Fm}(h:FK n (.bin k a b)):FK n b:=⟨by have:=h.cnt;grind[Fm.cnt],(JA h.shp).2,h.sc.2⟩
def FK.qf{n:Nat}{k:FQ}{s:Ty}{a:Fm}(h:FK n (.q k s a)):FK (n+1) a:=⟨by have:=h.cnt;grind[Fm.cnt],(JA h.shp).2,h.sc⟩
def FK.qs{n:Nat}{k:FQ}{s:Ty}{a:Fm}(h:FK n (.q k s a)):s.size<=64:=lD (JA h.shp).1
theorem FK.chk{n:Nat}{f:Fm}(h:FK n f):f.chk=0:=by
 unfold Fm.chk;rw[h.shp];rw[iA h.cnt]
theorem FK.mx{n:Nat}{f:Fm}(h:FK n f)(a:n<=nA):f.mx<=104096:=by
 have:=iQ f n h.sc;have:=h.cnt;have:nA=100000:=rfl;omega
def FK.up{n m:Nat}{f:Fm}(h:FK n f)(a:n<=m):FK m f:=⟨h.cnt,h.shp,yX f a h.sc⟩
def FK.a89{n:Nat}{f:Fm}(h:FK n f):A 115 [f.p] (num 0):=by
 have:=yA;have g:=Go.Proofs.YtbebdmlomjpamaaGreatDoor.a89 f (by have:=FD f h.shp;omega) (by have:=h.cnt;omega);rwa[h.chk]at g
def FK.a296{n:Nat}{f:Fm}(h:FK n f):A 390 [f.p] (.tuple [num f.cnt,num 0]):=by
 have:=yA;have g:=Go.Proofs.YtbebdmlomjpamaaGreatDoor.a296 f (by have:=FD f h.shp;omega) (by have:=h.cnt;omega);rwa[Fm.ckn0 h.chk,h.chk]at g
def FK.a295{n:Nat}{f:Fm}(h:FK n f)(a:n<=nA):A 161 [f.p] (.bool true):=by
 have:=zA;have:mG=536870912:=rfl;have g:=Go.Proofs.YtbebdmlomjpamaaGreatDoor.a295 f (by have:=h.cnt;omega);rwa[zX f (by have:=h.mx a;omega)]at g
def TK.a92{n:Nat}{t:Tm}(h:TK n t):A 116 [t.p] (num 0):=by
 have:=yA;have g:=Go.Proofs.YtbebdmlomjpamaaGreatDoor.a92 t (by have:=zD t h.shp;omega) (by have:=h.cnt;omega);rwa[h.chk]at g
def TK.a297{n:Nat}{t:Tm}(h:TK n t):A 391 [t.p] (.tuple [num t.cnt,num 0]):=by
 have:=yA;have g:=Go.Proofs.YtbebdmlomjpamaaGreatDoor.a297 t (by have:=zD t h.shp;omega) (by have:=h.cnt;omega);rwa[Tm.ckn0 h.chk,h.chk]at g
def TK.a298{n:Nat}{t:Tm}(h:TK n t)(a:n<=nA):A 240 [t.p] (.bool true):=by
 have:=zA;have:mG=536870912:=rfl;have g:=Go.Proofs.YtbebdmlomjpamaaGreatDoor.a298 t (by have:=h.cnt;omega);rwa[iJ t (by have:=h.mx a;omega)]at g
def Dm{n:Nat}{a b:Tm}(c:TK n a)(d:TK n b)(e:n<=nA)(h:a.mt b):A 401 [a.p,b.p,num 1000] (num 0):=by
 have⟨r,f,s⟩:=Vl a b;cases r
 ·rcases h with h|⟨x,j,l,m,o⟩
  ·simp_all
  have g:=(DO c e).1;have i:=(DO d e).1;rw[m]at g;rw[o]at i;have⟨r,k,p⟩:=Vl x x;rw[p.2 rfl]at k;exact f6 [15,20,26,30,40,49] c.a92 d.a92 f g i k
 exact f3 [15,20,26] c.a92 d.a92 f
def gX:∀(a b:Fm)(n:Nat),FK n a->FK n b->n+a.cnt<=nA->a.mt b->A 383 [a.p,b.p] (num 0)
 |.eq a c,.eq b d,n,e,i,j,h=>f3 [21,38,38] SH (Dm e.eq1 i.eq1 a6 h.1) (Dm e.eq2 i.eq2 a6 h.2)|.bin k f g,.bin l p r,n,e,i,j,h=>by
  obtain⟨rfl,m,t⟩:=h;simp only[Fm.cnt]at j;exact f4 [15,21,57,57] (MB k.n) SH (gX f p n e.bin1 i.bin1 a6 m) (gX g r n e.bin2 i.bin2 a6 t)
 |.q k s f,.q l u g,n,e,i,j,h=>by
  obtain⟨rfl,rfl,m⟩:=h;simp only[Fm.cnt]at j;have o:=pQ s s;rw[(BD s s).2 rfl]at o;exact f3 [15,21,57] (MB k.n) o (gX f g (n+1) e.qf i.qf a6 m)
 |.eq _ _,.bin _ _ _,_,_,_,_,h=>h.elim|.eq _ _,.q _ _ _,_,_,_,_,h=>h.elim|.bin _ _ _,.eq _ _,_,_,_,_,h=>h.elim|.bin _ _ _,.q _ _ _,_,_,_,_,h=>h.elim|.q _ _ _,.eq _ _,_,_,_,_,h=>h.elim|.q _ _ _,.bin _ _ _,_,_,_,_,h=>h.elim
def Em{n:Nat}{a b:Fm}(c:FK n a)(d:FK n b)(e:n<=90000)(h:a.mt b):A 346 [a.p,b.p] (num 0):=
 f3 [8,13,19] c.a89 d.a89 (gX a b n c d (by have:=c.cnt;have:nA=100000:=rfl;omega) h)
def TK.Lf{n:Nat}{t:Tm}(h:TK n t)(b:n<=nA):Lf t.x t:=by
 have a:=zA;have:=h.cnt;have:=h.mx b;exact .of t a6 (by rw[a];omega) λz b=>Ld t 0 z a6 b a6 (by rw[a];omega)
def C3{f:Fm}{t:Tm}(h:f.cnt+f.occ 0*(t.cnt-1)<=4096):(f.put 0 t 0).cnt=f.cnt+f.occ 0*(t.cnt-1):=by
 have a:=aK 0 t f 0;have:=UE t;simp only[ir]at a;have:f.occ 0*(t.cnt-1)+f.occ 0=f.occ 0*t.cnt:=by
  obtain⟨k,b⟩:∃k,t.cnt=k+1:=⟨t.cnt-1,a6⟩;rw[b,Nat.add_sub_cancel,abk]
 omega
theorem FK.pt{n:Nat}{f:Fm}{t:Tm}(h:FK (n+1) f)(a:TK n t){g:Fm}(e:f.pt t=.ok g):g=f.put 0 t 0/\FK n g:=by
 unfold Fm.pt at e;split at e
 ·rename_i b;cases e;refine⟨rfl,?_,?_,?_⟩
  ·rw[C3 b];exact b
  ·exact xK 0 t f 0 (.inl a.shp) h.shp
  exact rM t n f 0 h.sc (.inl a.sc)
 cases e
def Gm{a b:Nat}(h:a<=4096:=by omega)(c:b<=4096:=by omega):a*b<=16777216:=aaV h c
def BQ{n:Nat}{f:Fm}{t:Tm}(h:FK (n+1) f)(a:TK n t)(k:n+1<=nA:=by omega):A 352 [f.p,t.p] (f.pt t).p:=by
 have d:=zA;have r:=yA;have s:=h.cnt;have u:=a.cnt;have l:=UE t;have v:=h.mx k;have w:=MH f 0;have m:=Gm (a:=f.occ 0) (b:=t.cnt-1);have b:=dT f (by have:=FD f h.shp;omega) a6;rw[Fm.ckn0 h.chk,h.chk]at b;have c:=bT t (by have:=zD t a.shp;omega) a6;rw[Tm.ckn0 a.chk,a.chk]at c;have e:=mT f 0 a6 (by rw[d];omega);have g:=lC (a:=t.cnt) l;have i:=AO (a:=f.occ 0) (b:=t.cnt-1) a6 rfl;have j:=tG (a:=f.cnt) (b:=f.occ 0*(t.cnt-1)) a6 rfl;unfold Fm.pt;split
 ·rename_i o;have p:=gT f 0 t.x t (.inl (a.Lf a6)) a6 (by rw[d];omega);exact f8 [12,17,22,24,25,26,27,31] b c e g i j (iA (a:=4096) o) p
 exact f7 [12,17,22,24,25,26,27] b c e g i j (KA (a:=4096) (b:=f.cnt+f.occ 0*(t.cnt-1)) a6)
def D3{n:Nat}{f:Fm}{t:Tm}(h:FK (n+1) f)(a:TK n t)(b:n+1<=nA):A 364 [f.p,num 0,t.p] (f.pt t).p:=by
 have c:=zA;have r:=yA;have s:=h.cnt;have u:=a.cnt;have l:=UE t;have v:=h.mx b;have w:=MH f 0;have m:=Gm (a:=f.occ 0) (b:=t.cnt-1);have d:=h.a296;have e:=a.a297;have g:=mT f 0 a6 (by rw[c];omega);have i:=lC (a:=t.cnt) l;have j:=AO (a:=f.occ 0) (b:=t.cnt-1) a6 rfl;have k:=tG (a:=f.cnt) (b:=f.occ 0*(t.cnt-1)) a6 rfl;unfold Fm.pt;split
 ·rename_i o;have p:=gT f 0 t.x t (.inl (a.Lf a6)) a6 (by rw[c];omega);exact bJ [13,26,34,38,45,47,48,49,50,55] d e (h.a295 b) (a.a298 a6) g i j k (iA (a:=4096) o) p
 exact f9 [13,26,34,38,45,47,48,49,50] d e (h.a295 b) (a.a298 a6) g i j k (KA (a:=4096) (b:=f.cnt+f.occ 0*(t.cnt-1)) a6)
def F3{n:Nat}{f:Fm}(h:FK n f)(a:n<=nA):A 93 [f.p,num 0,num 1] (FR.ok (f.sh 0 (.ofNat 1))).p:=by
 have b:=zA;exact f3 [10,25,32] h.a89 (h.a295 a) (BI f 0 1 a6 (by have:=h.cnt;omega) (by have:=h.mx a;rw[b];omega))
def G3{n:Nat}{f:Fm}(h:FK n f)(a:n<=nA):A 93 [f.p,num 0,num 2] (FR.ok (f.sh 0 (.ofNat 2))).p:=by
 have b:=zA;exact f3 [10,25,32] h.a89 (h.a295 a) (BI f 0 2 a6 (by have:=h.cnt;omega) (by have:=h.mx a;rw[b];omega))
def I3{n:Nat}{f:Fm}(h:FK n f)(a:n<=nA:=by omega):A 93 [f.p,num 1,num 1] (FR.ok (f.sh 1 (.ofNat 1))).p:=by
 have b:=zA;exact f3 [10,25,32] h.a89 (h.a295 a) (BI f 1 1 a6 (by have:=h.cnt;omega) (by have:=h.mx a;rw[b];omega))
def J3{n:Nat}{f:Fm}(h:FK n f)(a:n<=nA:=by omega):A 93 [f.p,num 2,num 1] (FR.ok (f.sh 2 (.ofNat 1))).p:=by
 have b:=zA;exact f3 [10,25,32] h.a89 (h.a295 a) (BI f 2 1 a6 (by have:=h.cnt;omega) (by have:=h.mx a;rw[b];omega))
def ye{f:Fm}(b:f.occ 0=0):f.low.cnt=f.cnt:=by
 have a:f.low.cnt+f.occ 0=f.cnt+f.occ 0*(Tm.v 0).cnt:=aK 0 (.v 0) f 0;rw[b,Nat.zero_mul]at a;exact a
def FK.low{n:Nat}{f:Fm}(h:FK (n+1) f)(a:f.occ 0=0):FK n f.low:=by
 refine⟨?_,xK 0 _ f 0 (.inr a) h.shp,rM _ n f 0 h.sc (.inr a)⟩;rw[ye a];exact h.cnt
def Hm{n:Nat}{f:Fm}(h:FK n f)(d:n<=nA:=by omega):A 365 [f.p,num 0] (if f.occ 0=0 then FR.ok f.low else .er 5).p:=by
 have b:=zA;have e:=h.cnt;have g:=h.mx d;have a:=mT f 0 a6 (by rw[b];omega);split
 ·rename_i c;rw[c]at a;exact f3 [8,19,25] h.a89 a (gT f 0 .z (.v 0) (.inr c) a6 (by rw[b];omega))
 exact f3 [8,19,20] h.a89 a (KA (a:=0) (b:=f.occ 0) a6)
open Go.Lg
def CQ:∀(f:Fm)(n:Nat),FK n f->n+f.cnt<=nA->∀g,zB f=some g->g.sc n/\g.shp=true/\g.cnt<=4096*f.cnt
 |.eq a b,n,h,m,g,e=>by
  have w:=UE a;have z:=UE b;have p:=(DO h.eq1).2;have r:=(DO h.eq2).2;unfold zB at e;split at e
  ·rename_i x j i;split at e
   ·rename_i y l o;cases e;have c:=p x j i;have d:=r y l o;have:=c.cnt;have:=d.cnt;exact⟨⟨c.sc,d.sc⟩,by show(_&&_)=true;rw[c.shp,d.shp];rfl,by grind[Fm.cnt]⟩
   cases e
  cases e
 |.bin k a b,n,h,m,g,e=>by
  simp only[Fm.cnt]at m;unfold zB at e;split at e
  ·rename_i x i;split at e
   ·rename_i y o;cases e;have⟨c,d,t⟩:=CQ a n h.bin1 a6 x i;have⟨u,v,A⟩:=CQ b n h.bin2 a6 y o;exact⟨⟨c,u⟩,by show(_&&_)=true;rw[d,v];rfl,by grind[Fm.cnt]⟩
   cases e
  cases e
 |.q k s a,n,h,m,g,e=>by
  simp only[Fm.cnt]at m;unfold zB at e;split at e
  ·rename_i x i;cases e;have⟨c,d,t⟩:=CQ a (n+1) h.qf a6 x i;exact⟨c,by show(_&&_)=true;rw[(JA h.shp).1,d];rfl,by grind[Fm.cnt]⟩
  cases e
structure Sy where
 k:Nat
 tk:Nat
 te:List (List PV)
 ts:List (List PV)
 es:List (List PV)
abbrev Sy.c(s:Sy):List PV:=[num s.k,num s.tk,.slice s.te,.slice s.ts,.slice s.es]
abbrev Fm.y(f:Fm):Sy:=⟨f.kd,f.tk,f.te,f.ts,f.es⟩
abbrev AJ(e:Nat):List (Nat×Ob):=[(2,bx [num e])]
def Im{n:Nat}{t y:Tm}{k:Nat}(h:TK n t)(b:n<=nA)(d:Nat)(e:lE t=.ok y k):O 387 [.pv t.p,.pv (num d),.loc 2 0] (AJ 0) (.pv (.agg y.x.c)) (AJ 0):=by
 have a:=(DO h b).1;rw[e]at a;exact o1 3 [14] a
def lX:∀(f g:Fm)(n d:Nat),FK n f->n+f.cnt<=nA->d+f.cnt<=qA->zB f=some g->O 241 [.pv f.p,.pv (num d),.fn 387 [.loc 2 0]] (AJ 0) (.pv (.agg g.y.c)) (AJ 0)
 |.eq a b,g,n,d,h,c,m,e=>by
  simp only[Fm.cnt]at c;unfold zB at e;split at e
  ·rename_i x j i;split at e
   ·rename_i y l o;cases e;exact o3 3 [16,(30,.o [] (AJ 0) (.pv (.agg x.x.c))),(30,.o [] (AJ 0) (.pv (.agg y.x.c)))] ED (Im h.eq1 a6 d i) (Im h.eq2 a6 d o)
   cases e
  cases e
 |.bin k a b,g,n,d,h,c,m,e=>by
  simp only[Fm.cnt]at c m;unfold zB at e;split at e
  ·rename_i x i;split at e
   ·rename_i y o;cases e;have p:=lX a x n d h.bin1 a6 a6 i;have r:=lX b y n d h.bin2 a6 a6 o;cases k<;>exact o3 3 [16,(52,.o [] (AJ 0) (.pv (.agg x.y.c))),(52,.o [] (AJ 0) (.pv (.agg y.y.c)))] ED p r
   cases e
  cases e
 |.q k s a,g,n,d,h,c,m,e=>by
  have t:=zA;have u:=yA;simp only[Fm.cnt]at c m;unfold zB at e;split at e
  ·rename_i x i;cases e;have p:=lX a x (n+1) (d+1) h.qf a6 a6 i;have g:=lA (a:=d) (b:=1);cases k<;>exact o3 3 [16,39,(52,.o [] (AJ 0) (.pv (.agg x.y.c)))] (JF s) g p
  cases e
def L3{n:Nat}{f g:Fm}(h:FK (n+1) f)(o:n+1<=90000)(e:NC f=some g):A 355 [f.p] (FR.ok g).p:=by
 have a:=zA;have p:nA=100000:=rfl;have r:=h.cnt;have s:=h.mx a6;have c:=mT f 0 a6 (by rw[a];omega);unfold NC at e;split at e
 ·rename_i b;cases e;rw[b]at c;exact f2 [7,11] c (gT f 0 .z (.v 0) (.inr b) a6 (by rw[a];omega))
 rename_i b;split at e
 ·rename_i y d;split at e
  ·rename_i i;cases e;have k:=lX f y (n+1) 0 h a6 a6 d;have l:sB (.ofNat (f.occ 0)) (.ofNat 0)=false:=GF b;have⟨m,t,u⟩:=CQ f (n+1) h a6 y d;have v:=iQ y (n+1) m;have j:=mT y 0 a6 (by rw[a];omega);rw[i]at j;exact f5 [7,8,(14,.o [] (AJ 0) (.pv (.agg y.y.c))),22,27] c l k j (gT y 0 .z (.v 0) (.inr i) a6 (by rw[a];omega))
  cases e
 cases e
def EK:A 361 [] Ty.nat.p:=f0 []
def BJ(i:Nat):A 312 [num i] (Tm.v i).p:=f0 []
def mX(k:K0):A 389 [num k.n,row []] (Tm.n0 k).p:=f0 []
def Jm(k:K1)(a:Tm):A 389 [num k.n,row [a]] (Tm.n1 k a).p:=f0 []
def nX(k:K2)(a b:Tm):A 389 [num k.n,row [a,b]] (Tm.n2 k a b).p:=f0 []
def M3(t:Tm)(s:Ty):A 426 [t.p,rA [s]] (Tm.lam s t).p:=f0 []
def Km(t:Tm)(s u:Ty):A 426 [t.p,rA [s,u]] (Tm.lam s (.lam u t)).p:=f0 []
def N3(k:K3)(s:Ty)(a b c:Tm):A 427 [num k.n,s.p,a.p,b.p,c.p] (Tm.n3 k s a b c).p:=f0 []
def Mm(a b c:Tm):A 420 [a.p,b.p,c.p] (Tm.n3 .re .nat a (.lam .nat (.lam .nat b)) c).p:=
 f5 [7,10,11,13,15] EK EK EK (Km b .nat .nat) (N3 .re .nat a (.lam .nat (.lam .nat b)) c)
def O3(t:Tm):A 419 [t.p] (Tm.lam .nat (.lam .nat t)).p:=f3 [4,5,7] EK EK (Km t .nat .nat)
def P3:A 421 [] predT.p:=
 f6 [1,2,3,4,5,7] (mX .zero) (BJ 1) (BJ 0) (Mm (.n0 .zero) (.v 1) (.v 0)) EK (M3 (.n3 .re .nat (.n0 .zero) (.lam .nat (.lam .nat (.v 1))) (.v 0)) .nat)
def Nm(f a:Tm):A 363 [f.p,row [a]] (Tm.n2 .app f a).p:=f1 [16] (nX .app f a)
def Q3(f a b:Tm):A 363 [f.p,row [a,b]] (Tm.n2 .app (.n2 .app f a) b).p:=f2 [16,16] (nX .app f a) (nX .app (.n2 .app f a) b)
def R3:A 411 [] subT.p:=by
 let x1:=Tm.n2 .app predT (.v 0);let x4:=Tm.n3 .re .nat (.v 1) (.lam .nat (.lam .nat x1)) (.v 0);exact f7 [1,2,3,5,6,7,8] (BJ 1) P3 (BJ 0) (Nm predT (.v 0)) (BJ 0) (Mm (.v 1) x1 (.v 0)) (O3 x4)
def Om(a b:Tm):A 360 [a.p,b.p] (Fm.eq a b).p:=f0 []
def S3(x y:Tm):Fm:=.eq (.n2 .app (.n2 .app subT (.n1 .succ x)) y) (.n0 .zero)
def T3(x y:Tm):A 395 [x.p,y.p] (S3 x y).p:=
 f5 [5,8,11,12,13] R3 (Jm .succ x) (Q3 subT (.n1 .succ x) y) (mX .zero) (Om (.n2 .app (.n2 .app subT (.n1 .succ x)) y) (.n0 .zero))
def U3(a b c d:Tm):∃r,A 394 [(Fm.eq a b).p,(Fm.eq c d).p] (.bool r):=by
 have⟨r,e,_⟩:=cJ a c;have⟨q,f,_⟩:=cJ b d;cases r
 ·exact⟨false,f2 [19,54] SH e⟩
 cases q
 ·exact⟨false,f3 [19,54,54] SH e f⟩
 exact⟨true,f3 [19,54,54] SH e f⟩
abbrev zF:List PV:=[num 0,num 0,.slice [],.slice [],.slice []]
abbrev V3:PV:=.tuple [.bool false,(.agg Sx.z.c),.agg zF,.bool false]
abbrev Bd(k:FQ)(s:Ty)(f:Fm):Prop:=A 367 [(Fm.q k s f).p] V3\/∃b t l a body,f=.bin l a body/\A 367 [(Fm.q k s f).p] (.tuple [.bool b,Tm.p t,Fm.p body,.bool true])
def Pm(k:FQ)(l:FB)(g:k=.all/\l=.imp\/k=.ex/\l=.and)(t u:Tm)(c:Fm)(h:t.cnt<=4096:=by omega)(n:t.mx<=qA*qA:=by omega):Bd k .nat (.bin l (.eq t u) c):=by
 have no:t.kd≠3->Bd k .nat (.bin l (.eq t u) c):=λh=>.inl (by
  rcases g with ⟨rfl,rfl⟩|⟨rfl,rfl⟩<;>exact f1 [64] (AD (m:=t.kd) (n:=3) h))
 cases t with
 |n2 j x y=>
  cases j with
  |app=>
   have:=zA;have h:1+x.cnt+y.cnt<=4096:=h;have n:max x.mx y.mx<=qA*qA:=n;have e:=dm y 0;by_cases o:y.occ 0=0
   ·rw[o]at e;have f:=T3 (.v 0) y;have⟨r,m⟩:=U3 (.n2 .app x y) u (.n2 .app (.n2 .app subT (.n1 .succ (.v 0))) y) (.n0 .zero);cases r
    ·refine .inl ?_;rcases g with ⟨rfl,rfl⟩|⟨rfl,rfl⟩<;>exact f3 [70,80,81] e f m
    rcases g with ⟨rfl,rfl⟩|⟨rfl,rfl⟩
    ·exact .inr ⟨true,y,_,_,c,rfl,f3 [70,80,81] e f m⟩
    exact .inr ⟨false,y,_,_,c,rfl,f3 [70,80,81] e f m⟩
   have f:dA (.ofNat 0) (.ofNat (y.occ 0))=true:=KA a6;refine .inl ?_;rcases g with ⟨rfl,rfl⟩|⟨rfl,rfl⟩<;>exact f2 [70,71] e f
  |_=>exact no (nofun)
 |v i=>exact no (nofun)|lam s b=>exact no (nofun)|n0 j=>exact no (by cases j<;>exact nofun)|n1 j a=>exact no (by cases j<;>exact nofun)|n3 j s a b d=>exact no (by cases j<;>exact nofun)
def X3(k:FQ)(s:Ty)(f:Fm)(h:f.cnt<=4096)(c:f.mx<=qA*qA):Bd k s f:=by
 cases k with
 |allU=>exact .inl (f0 [])|exU=>exact .inl (f0 [])|all=>cases s with
  |nat=>cases f with
   |eq a b=>exact .inl (f0 [])|q j s f=>exact .inl (by cases j<;>exact f0 [])|bin j a b=>cases j with
    |and=>exact .inl (f0 [])|imp=>cases a with
     |bin j a b=>exact .inl (by cases j<;>exact f0 [])|q j s f=>exact .inl (by cases j<;>exact f0 [])|eq t u=>
      simp only[Fm.cnt,Fm.mx]at h c;exact Pm .all .imp (.inl ⟨rfl,rfl⟩) t u b
  |two j s u=>exact .inl (by cases j<;>exact f0 [])|_=>exact .inl (f0 [])
 |ex=>cases s with
  |nat=>cases f with
   |eq a b=>exact .inl (f0 [])|q j s f=>exact .inl (by cases j<;>exact f0 [])|bin j a b=>cases j with
    |imp=>exact .inl (f0 [])|and=>cases a with
     |bin j a b=>exact .inl (by cases j<;>exact f0 [])|q j s f=>exact .inl (by cases j<;>exact f0 [])|eq t u=>
      simp only[Fm.cnt,Fm.mx]at h c;exact Pm .ex .and (.inr ⟨rfl,rfl⟩) t u b
  |two j s u=>exact .inl (by cases j<;>exact f0 [])|_=>exact .inl (f0 [])
def GK:∀v,v<8->∀w,w<8->RA .and .u8 (.ofNat v) (.ofNat w)=.ofNat (v&&&w)/\v&&&w<8:=by decide+kernel
def CJ:∀v,v<8->∀w,w<8->RA .or .u8 (.ofNat v) (.ofNat w)=.ofNat (v|||w)/\v|||w<8:=by decide+kernel
def HK{v w:Nat}(h:v<8)(a:w<8):(bif xH .u8 .u8 then xA (RA .and .u8 (.ofNat v) (.ofNat w))else false)=true/\PV.num .u8 (RA .and .u8 (.ofNat v) (.ofNat w))=.num .u8 (.ofNat (v&&&w)):=by
 have:=yA;rw[(GK v h w a).1];exact⟨cB (n:=v&&&w) (by have:=(GK v h w a).2;omega),rfl⟩
def AM{v w:Nat}(h:v<8)(a:w<8):(bif xH .u8 .u8 then xA (RA .or .u8 (.ofNat v) (.ofNat w))else false)=true/\PV.num .u8 (RA .or .u8 (.ofNat v) (.ofNat w))=.num .u8 (.ofNat (v|||w)):=by
 have:=yA;rw[(CJ v h w a).1];exact⟨cB (n:=v|||w) (by have:=(CJ v h w a).2;omega),rfl⟩
def Y3:∀v,v<8->∀w,w<8->(v&&&w&&&6|||(w|||v)&&&1)%2=max (v%2) (w%2):=by decide+kernel
def Z3:∀v,v<8->∀w,w<8->(v&&&w&&&6|||w&&&1)%2=w%2:=by decide+kernel
def Qm:∀v,v<8->(v&&&1)%2=v%2/\((v|||1)&&&1)%2=1:=by decide+kernel
def pX:∀v,v<8->∀w,w<8->(v|||w&&&4)%2=v%2:=by decide+kernel
abbrev u8(n:Nat):PV:=.num .u8 (.ofNat n)
def IC:Bool->Nat|true=>1|false=>0
def y4(a b:Bool):max (IC a) (IC b)=IC (a||b):=by cases a<;>cases b<;>rfl
def rT:∀(n:Nat)(f:Fm),f.cnt<=n->f.cnt<=4096->f.mx<=qA*qA->∃v,v<8/\A 306 [f.p] (u8 v)/\v%2=IC f.has
 |0,f,r,h,m=>by
  have:1<=f.cnt:=by cases f<;>simp only[Fm.cnt]<;>omega
  omega
 |n+1,.eq a b,r,h,m=>⟨6,bb,f0 [],rfl⟩|n+1,.bin k f g,r,h,m=>by
  simp only[Fm.cnt,Fm.mx]at r h m;have⟨v,l1,i,j⟩:=rT n f a6 a6 a6;have⟨w,c,e,B⟩:=rT n g a6 a6 a6;have d:=(GK v l1 w c).2;have o:=(GK _ d 6 bb).2
  cases k with
  |and=>
   have p:=(CJ w c v l1).2;have x:=(GK _ p 1 bb).2;refine⟨v&&&w&&&6|||(w|||v)&&&1,(CJ _ o _ x).2,?_,?_⟩
   ·exact f7 [22,32,(35,.v (u8 (v&&&w))),(36,.v (u8 (v&&&w&&&6))),(42,.v (u8 (w|||v))),(45,.v (u8 ((w|||v)&&&1))),(46,.v (u8 (v&&&w&&&6|||(w|||v)&&&1)))] e i (HK l1 c) (HK d (w:=6) bb) (AM c l1) (HK p (w:=1) bb) (AM o x)
   rw[Y3 v l1 w c,j,B,y4];rfl
  |imp=>
   have x:=(GK w c 1 bb).2;refine⟨v&&&w&&&6|||w&&&1,(CJ _ o _ x).2,?_,?_⟩
   ·exact f6 [22,32,(35,.v (u8 (v&&&w))),(36,.v (u8 (v&&&w&&&6))),(45,.v (u8 (w&&&1))),(46,.v (u8 (v&&&w&&&6|||w&&&1)))] e i (HK l1 c) (HK d (w:=6) bb) (HK c (w:=1) bb) (AM o x)
   rw[Z3 v l1 w c,B];rfl
 |n+1,.q k s f,r,h,m=>by
  simp only[Fm.cnt,Fm.mx]at r h m;have⟨v,l1,i,j⟩:=rT n f a6 a6 a6;have d:=(GK v l1 1 bb).2;have o:=(CJ v l1 1 bb).2;have p:=(GK _ o 1 bb).2;have u:=HK l1 (w:=1) bb;have C:=AM l1 (w:=1) bb;have D:=HK o (w:=1) bb;have p1:=(Qm v l1).1;have p2:=(Qm v l1).2;rcases X3 k s f a6 m with e|⟨b,t,l,a,y,rfl,e⟩
  ·cases k with|ex=>exact⟨(v|||1)&&&1,p,f4 [22,(50,.v (u8 (v|||1))),(52,.v (u8 ((v|||1)&&&1))),55] i C D e,p2⟩|all=>exact⟨v&&&1,d,f3 [22,(52,.v (u8 (v&&&1))),55] i u e,p1.trans j⟩|allU=>exact⟨v&&&1,d,f3 [22,(52,.v (u8 (v&&&1))),55] i u e,p1.trans j⟩|exU=>exact⟨v&&&1,d,f3 [22,(52,.v (u8 (v&&&1))),55] i u e,p1.trans j⟩
  simp only[Fm.cnt,Fm.mx]at r h m;have⟨w,c,z,B⟩:=rT n y a6 a6 a6;have y1:=(GK w c 4 bb).2;have y2:=HK c (w:=4) bb
  cases k with|ex=>exact⟨(v|||1)&&&1|||w&&&4,(CJ _ p _ y1).2,f7 [22,(50,.v (u8 (v|||1))),(52,.v (u8 ((v|||1)&&&1))),55,63,(64,.v (u8 (w&&&4))),(65,.v (u8 ((v|||1)&&&1|||w&&&4)))] i C D e z y2 (AM p y1),(pX _ p w c).trans p2⟩|all=>exact⟨v&&&1|||w&&&4,(CJ _ d _ y1).2,f6 [22,(52,.v (u8 (v&&&1))),55,63,(64,.v (u8 (w&&&4))),(65,.v (u8 (v&&&1|||w&&&4)))] i u e z y2 (AM d y1),(pX _ d w c).trans (p1.trans j)⟩|allU=>exact⟨v&&&1|||w&&&4,(CJ _ d _ y1).2,f6 [22,(52,.v (u8 (v&&&1))),55,63,(64,.v (u8 (w&&&4))),(65,.v (u8 (v&&&1|||w&&&4)))] i u e z y2 (AM d y1),(pX _ d w c).trans (p1.trans j)⟩|exU=>exact⟨v&&&1|||w&&&4,(CJ _ d _ y1).2,f6 [22,(52,.v (u8 (v&&&1))),55,63,(64,.v (u8 (w&&&4))),(65,.v (u8 (v&&&1|||w&&&4)))] i u e z y2 (AM d y1),(pX _ d w c).trans (p1.trans j)⟩
def d4:∀v,v<8->∀{f:Fm},A 115 [f.p] (num 0)->A 306 [f.p] (u8 v)->A 236 [f.p,u8 1] (.tuple [.bool (Nat.beq (v%2) 1),num 0])|0,_,_,g,a=>f2 [8,13] g a|1,_,_,g,a=>f2 [8,13] g a|2,_,_,g,a=>f2 [8,13] g a|3,_,_,g,a=>f2 [8,13] g a|4,_,_,g,a=>f2 [8,13] g a|5,_,_,g,a=>f2 [8,13] g a|6,_,_,g,a=>f2 [8,13] g a|7,_,_,g,a=>f2 [8,13] g a|n+8,h,_,_,_=>absurd h a6
def FK.a70{n:Nat}{f:Fm}(h:FK n f)(b:n<=nA):A 152 [f.p] (.tuple [.bool f.has,num 0]):=by
 have c:=zA;have:=h.mx b;have⟨v,l,g,q⟩:=rT 4096 f h.cnt h.cnt (by rw[c];omega);have a:=d4 v l h.a89 g;rw[q]at a;cases e:f.has<;>rw[e]at a
 ·exact f1 [5] a
 exact f1 [5] a
open Go.Lg
inductive CR where|no|ok (s:Ty)|er (n:Nat)|ers (s:Ty) (n:Nat)
def CR.k:CR->Nat|.ok s=>s.kd|.ers s _=>s.kd|_=>0
def CR.l:CR->List (List PV)|.ok s=>s.es|.ers s _=>s.es|_=>[]
def CR.h:CR->Bool|.ok _=>true|.ers _ _=>true|_=>false
def CR.e:CR->Nat|.er n=>n+1|.ers _ n=>n+1|_=>0
def CR.q(r:CR):PV:=.tuple [.agg [num r.k,.slice r.l],.bool r.h,num r.e]
def CR.Good(b:Bool)(t:Ty):CR->Prop|.no=>b=false|.ok s=>b=true/\s.size<=64/\s=t|.er n=>n=3|.ers _ n=>n=3
def Fm.cty:Fm->Ty
 |.eq _ _=>.unit|.bin k f g=>match k with
  |.and=>match f.has,g.has with|true,true=>.two false f.cty g.cty|true,false=>f.cty|false,_=>g.cty
  |.imp=>bif f.has then .two true f.cty g.cty else g.cty
 |.q k s f=>match k with|.ex=>bif f.has then .two false s f.cty else s|.all=>.two true s f.cty|_=>f.cty
def rX(k:Bool)(s u:Ty)(a:s.size<=64)(b:u.size<=64):∃r:CR,A 251 [num (bn k 3 4),s.p,u.p] r.q/\r.Good true (.two k s u):=by
 have g:A 252 [(Ty.two k s u).p] (num (QH (1+s.size+u.size) 64)):=Ad (.two k s u) (by grind[Ty.size]);rcases Ul (1+s.size+u.size) 64 with ⟨h,_,e⟩|⟨h,_,e⟩<;>rw[e]at g
 ·exact⟨.ok (.two k s u),by cases k<;>exact f1 [17] g,rfl,h,rfl⟩
 exact⟨.er 3,by cases k<;>exact f1 [17] g,rfl⟩
def DQ:∀(f:Fm),f.shp=true->∃r:CR,A 177 [f.p] r.q/\r.Good f.has f.cty
 |.eq a b,h=>⟨.no,f0 [],rfl⟩|.bin k f g,h=>by
  have⟨o,p⟩:=JA h;have⟨y,i,d⟩:=DQ g p;have⟨t,j,c⟩:=DQ f o
  cases y with
  |er n=>exact⟨.er n,by cases k<;>exact f1 [27] i,d⟩|ers s n=>exact⟨.er n,by cases k<;>exact f1 [27] i,d⟩|no=>
   have d:g.has=false:=d
   cases k with
   |imp=>exact⟨.no,f1 [27] i,by show g.has=false;exact d⟩|and=>cases t with|er n=>exact⟨.er n,f2 [27,44] i j,c⟩|ers s n=>exact⟨.er n,f2 [27,44] i j,c⟩|no=>exact⟨.no,f2 [27,44] i j,by show(f.has||g.has)=false;rw[d,show f.has=false from c];rfl⟩|ok s=>exact⟨.ok s,f2 [27,44] i j,by show(f.has||g.has)=true;rw[show f.has=true from c.1];rfl,c.2.1,by have o:f.has=true:=c.1;show s=(match f.has,g.has with|true,true=>Ty.two false f.cty g.cty|true,false=>f.cty|false,_=>g.cty);rw[o,d];exact c.2.2⟩
  |ok u=>
   have l:g.has=true:=d.1
   cases k with
   |imp=>
    have e:(Fm.bin .imp f g).has=true:=l;rw[e];have v:(Fm.bin .imp f g).cty=bif f.has then .two true f.cty g.cty else g.cty:=rfl;rw[v]
    cases t with
    |er n=>exact⟨.ers u n,f2 [27,91] i j,c⟩|ers s n=>exact⟨.ers u n,f2 [27,91] i j,c⟩|no=>exact⟨.ok u,f2 [27,91] i j,rfl,d.2.1,by rw[show f.has=false from c];exact d.2.2⟩|ok s=>
     have⟨r,m,q⟩:=rX true s u c.2.1 d.2.1;rw[c.2.2,d.2.2]at q;rw[show f.has=true from c.1];exact⟨r,f3 [27,91,105] i j m,q⟩
   |and=>
    have e:(Fm.bin .and f g).has=true:=by show(f.has||g.has)=true;rw[l];cases f.has<;>rfl
    rw[e];have v:(Fm.bin .and f g).cty=(match f.has,g.has with|true,true=>Ty.two false f.cty g.cty|true,false=>f.cty|false,_=>g.cty):=rfl;rw[v,l]
    cases t with
    |er n=>exact⟨.ers u n,f2 [27,44] i j,c⟩|ers s n=>exact⟨.ers u n,f2 [27,44] i j,c⟩|no=>exact⟨.ok u,f2 [27,44] i j,rfl,d.2.1,by rw[show f.has=false from c];exact d.2.2⟩|ok s=>
     have⟨r,m,q⟩:=rX false s u c.2.1 d.2.1;rw[c.2.2,d.2.2]at q;rw[show f.has=true from c.1];exact⟨r,f3 [27,44,62] i j m,q⟩
 |.q k s f,h=>by
  have⟨o,p⟩:=JA h;have w:=lD o;have⟨r,g,q⟩:=DQ f p
  cases r with
  |er n=>exact⟨.er n,by cases k<;>exact f1 [27] g,q⟩|ers u n=>exact⟨.er n,by cases k<;>exact f1 [27] g,q⟩|no=>
   have q:f.has=false:=q
   cases k with|ex=>exact⟨.ok s,f1 [27] g,rfl,w,by show s=bif f.has then _ else s;rw[q];rfl⟩|all=>exact⟨.no,f1 [27] g,q⟩|allU=>exact⟨.no,f1 [27] g,q⟩|exU=>exact⟨.no,f1 [27] g,q⟩
  |ok u=>
   have l:f.has=true:=q.1
   cases k with
   |ex=>
    have⟨r,m,x⟩:=rX false s u w q.2.1;exact⟨r,f2 [27,75] g m,by show r.Good true (bif f.has then .two false s f.cty else s);rw[l,<-q.2.2];exact x⟩
   |all=>
    have⟨r,m,x⟩:=rX true s u w q.2.1;exact⟨r,f2 [27,114] g m,by show r.Good f.has (.two true s f.cty);rw[l,<-q.2.2];exact x⟩
   |allU=>exact⟨.ok u,f1 [27] g,l,q.2⟩|exU=>exact⟨.ok u,f1 [27] g,l,q.2⟩
def FK.a34{n:Nat}{f:Fm}(h:FK n f):∃r:TR,A 112 [f.p] r.p/\r.sz<=64/\(∀t,r=.ok t->f.has=true->t=f.cty)/\∀n,r=.er n->n=3:=by
 have⟨r,g,q⟩:=DQ f h.shp
 cases r with|er n=>exact⟨.er n,f2 [9,16] h.a89 g,c6 _,(λ_ h=>nomatch h),λm e=>by cases e;exact q⟩|ers s n=>exact⟨.er n,f2 [9,16] h.a89 g,c6 _,(λ_ h=>nomatch h),λm e=>by cases e;exact q⟩|no=>exact⟨.ok .unit,f2 [9,16] h.a89 g,bb,(λ_ _ e=>by rw[show f.has=false from q]at e;cases e),λ_ h=>nomatch h⟩|ok s=>exact⟨.ok s,f2 [9,16] h.a89 g,q.2.1,(λ_ e _=>by cases e;exact q.2.2),λ_ h=>nomatch h⟩
abbrev jD(n:Nat):List (Nat×Ob):=[(1,bx [num n,.bool false])]
def BM(k n:Nat)(h:n+k<=bA:=by omega):O 250 [.loc 1 0,.pv (num k),.pv (num 0)] (jD n) (.pv (.bool true)) (jD (n+k)):=
 o1 2 [12] (lA (a:=n) (b:=k) h)
def Tm.chk_3(t:Tm):t.chk=0\/t.chk=2\/t.chk=4:=by
 grind[Tm.chk]
def Fm.chk_3(t:Fm):t.chk=0\/t.chk=2\/t.chk=4:=by
 grind[Fm.chk]
def sX{t:Tm}(h:t.chk=0):A 184 [t.p] (.tuple [num t.cnt,num 0]):=by
 grind[Tm.chk0,bT,zD,Tm.ckn0]
def tX{f:Fm}(h:f.chk=0):A 183 [f.p] (.tuple [num f.cnt,num 0]):=by
 grind[Fm.chk0,dT,FD,Fm.ckn0]
def TH:∀(p:Pf)(n:Nat),n+p.cnt<=bA->p.ck->O 176 [.loc 1 0,.pv p.p] (jD n) (.pv (.bool true)) (jD (n+p.cnt))
 |.leaf u i,n,c,_=>by
  have c:n+1<=bA:=c;cases u<;>cases i<;>exact o2 2 [66,81] (lA (a:=n) (b:=1)) XD
 |.refl t,n,c,h=>by
  have c:n+(1+t.cnt)<=bA:=c;rw[show n+(Pf.refl t).cnt=n+1+t.cnt by grind[Pf.cnt]];exact o4 2 [66,81,92,(95,.o [] (jD (n+1+t.cnt)) (.pv (.bool true)))] (lA (a:=n) (b:=1)) XD (sX h) (BM t.cnt (n+1))
 |.p1 k a,n,c,h=>by
  have c:n+(1+a.cnt)<=bA:=c;rw[show n+(Pf.p1 k a).cnt=n+1+a.cnt by grind[Pf.cnt]];have ga:=TH a (n+1) a6 h;have d:=lA (a:=n) (b:=1);cases k<;>exact o3 2 [66,81,(122,.o [] (jD (n+1+a.cnt)) (.pv (.bool true)))] d XD ga
 |.p2 k a b,n,c,h=>by
  have c:n+(1+a.cnt+b.cnt)<=bA:=c;rw[show n+(Pf.p2 k a b).cnt=n+1+a.cnt+b.cnt by grind[Pf.cnt]];have ga:=TH a (n+1) a6 h.1;have e:=TH b (n+1+a.cnt) a6 h.2;have d:=lA (a:=n) (b:=1);cases k<;>exact o4 2 [66,81,(122,.o [] (jD (n+1+a.cnt)) (.pv (.bool true))),(122,.o [] (jD (n+1+a.cnt+b.cnt)) (.pv (.bool true)))] d XD ga e
 |.impI f a,n,c,h=>by
  have c:n+(1+f.cnt+a.cnt)<=bA:=c;rw[show n+(Pf.impI f a).cnt=n+1+f.cnt+a.cnt by grind[Pf.cnt]];exact o5 2 [66,81,107,(110,.o [] (jD (n+1+f.cnt)) (.pv (.bool true))),(122,.o [] (jD (n+1+f.cnt+a.cnt)) (.pv (.bool true)))] (lA (a:=n) (b:=1)) XD (tX h.1) (BM f.cnt (n+1)) (TH a (n+1+f.cnt) a6 h.2)
 |.all u s a,n,c,h=>by
  have:=yA;have c:n+(1+a.cnt)<=bA:=c;rw[show n+(Pf.all u s a).cnt=n+1+a.cnt by grind[Pf.cnt]];have m:=oO s (by have:=h.1;omega);rw[(AK h.1).1,(AK h.1).2]at m;have ga:=TH a (n+1) a6 h.2;have d:=lA (a:=n) (b:=1);cases u<;>exact o3 2 [66,74,(122,.o [] (jD (n+1+a.cnt)) (.pv (.bool true)))] d m ga
 |.ins u t a,n,c,h=>by
  have c:n+(1+t.cnt+a.cnt)<=bA:=c;rw[show n+(Pf.ins u t a).cnt=n+1+t.cnt+a.cnt by grind[Pf.cnt]];have ga:=TH a (n+1+t.cnt) a6 h.2;have d:=lA (a:=n) (b:=1);have gt:=sX h.1;have ut:=BM t.cnt (n+1);cases u<;>exact o5 2 [66,81,92,(95,.o [] (jD (n+1+t.cnt)) (.pv (.bool true))),(122,.o [] (jD (n+1+t.cnt+a.cnt)) (.pv (.bool true)))] d XD gt ut ga
 |.ex u f t a,n,c,h=>by
  have c:n+(1+t.cnt+f.cnt+a.cnt)<=bA:=c;rw[show n+(Pf.ex u f t a).cnt=n+1+t.cnt+f.cnt+a.cnt by grind[Pf.cnt]];have ga:=TH a (n+1+t.cnt+f.cnt) a6 h.2.2;have d:=lA (a:=n) (b:=1);have gt:=sX h.1;have ut:=BM t.cnt (n+1);have g:=tX h.2.1;have j:=BM f.cnt (n+1+t.cnt);cases u<;>exact o7 2 [66,81,92,(95,.o [] (jD (n+1+t.cnt)) (.pv (.bool true))),107,(110,.o [] (jD (n+1+t.cnt+f.cnt)) (.pv (.bool true))),(122,.o [] (jD (n+1+t.cnt+f.cnt+a.cnt)) (.pv (.bool true)))] d XD gt ut g j ga
 |.ind l f t a b,n,c,h=>by
  have c:n+(1+t.cnt+f.cnt+a.cnt+b.cnt)<=bA:=c;rw[show n+(Pf.ind l f t a b).cnt=n+1+t.cnt+f.cnt+a.cnt+b.cnt by grind[Pf.cnt]];have ga:=TH a (n+1+t.cnt+f.cnt) a6 h.2.2.1;have e:=TH b (n+1+t.cnt+f.cnt+a.cnt) a6 h.2.2.2;have d:=lA (a:=n) (b:=1);have gt:=sX h.1;have ut:=BM t.cnt (n+1);have g:=tX h.2.1;have j:=BM f.cnt (n+1+t.cnt);cases l<;>exact o8 2 [66,81,92,(95,.o [] (jD (n+1+t.cnt)) (.pv (.bool true))),107,(110,.o [] (jD (n+1+t.cnt+f.cnt)) (.pv (.bool true))),(122,.o [] (jD (n+1+t.cnt+f.cnt+a.cnt)) (.pv (.bool true))),(122,.o [] (jD (n+1+t.cnt+f.cnt+a.cnt+b.cnt)) (.pv (.bool true)))] d XD gt ut g j ga e
 |.subst f a b,n,c,h=>by
  have c:n+(1+f.cnt+a.cnt+b.cnt)<=bA:=c;rw[show n+(Pf.subst f a b).cnt=n+1+f.cnt+a.cnt+b.cnt by grind[Pf.cnt]];exact o6 2 [66,81,107,(110,.o [] (jD (n+1+f.cnt)) (.pv (.bool true))),(122,.o [] (jD (n+1+f.cnt+a.cnt)) (.pv (.bool true))),(122,.o [] (jD (n+1+f.cnt+a.cnt+b.cnt)) (.pv (.bool true)))] (lA (a:=n) (b:=1)) XD (tX h.1) (BM f.cnt (n+1)) (TH a (n+1+f.cnt) a6 h.2.1) (TH b (n+1+f.cnt+a.cnt) a6 h.2.2)
theorem aX(p:Pf)(h:p.cnt<=16384)(a:p.ck):A 33 [p.p] (num 0):=by
 have:=yA;have g:=TH p 0 a6 a;rw[ia]at g;have a:A 111 [p.p] (.tuple [num p.cnt,num 0]):=f2 [(10,.o [] (jD p.cnt) (.pv (.bool true))),22] g (iA h);exact f1 [7] a
open Go.Lg
abbrev u32(z:Int):PV:=.num .u32 z
theorem ue(z:Int):0<=IntKind.u32.wrap z/\IntKind.u32.wrap z<4294967296:=by
 have:IntKind.u32.wrap z=z%4294967296:=by rfl
 omega
theorem sT{z:Int}(h:0<=z/\z<4294967296):xA z=true:=bQ a6 a6
def Rm(op:BinOp)(a b:Int):0<=RA op .u32 a b/\RA op .u32 a b<4294967296:=by
 cases op<;>first|exact ue _|(show(0:Int)<=0/\(0:Int)<4294967296;exact⟨bb,bb⟩)
def fH(a b:Int):(bif xH .u32 .u32 then xA (RA .or .u32 a b)else false)=true/\u32 (RA .or .u32 a b)=u32 (RA .or .u32 a b):=⟨(show xA (RA .or .u32 a b)=true from sT (Rm .or a b)),rfl⟩
def be(a b:Int):(bif xH .u32 .u32 then xA (RA .and .u32 a b)else false)=true/\u32 (RA .and .u32 a b)=u32 (RA .and .u32 a b):=⟨(show xA (RA .and .u32 a b)=true from sT (Rm .and a b)),rfl⟩
def EQ(a:Int)(n:Nat):Int:=IntKind.u32.wrap (a*2^(min (Int.ofNat n).toNat IntKind.u32.bits))
def m4(a:Int)(n:Nat):(bif dA (.ofNat n) 0 then false else xA (IntKind.u32.wrap (a*2^(min (Int.ofNat n).toNat IntKind.u32.bits))))=true/\u32 (IntKind.u32.wrap (a*2^(min (Int.ofNat n).toNat IntKind.u32.bits)))=u32 (EQ a n):=by
 refine⟨?_,rfl⟩;have h:=z0 n
 grind[dA,sT,ue]
abbrev Sm(z:Int):List (Nat×Ob):=Md 3 4 (.fn 384 [.loc 1 0]) [(1,bx [u32 z])]
abbrev CM(z:Int):List (Nat×Ob):=[(1,bx [u32 z])]
abbrev Um(z:Int):Prop:=0<=z/\z<4294967296
def BS(P:Nat->Prop)(z:Int):Prop:=∃m:Nat,z=.ofNat m/\m<4294967296/\∀v,m.testBit v=true->P v
def BS.u{P:Nat->Prop}{z:Int}(h:BS P z):Um z:=by
 obtain⟨m,rfl,h,_⟩:=h
 grind
def BS.mono{P Q:Nat->Prop}{z:Int}(h:BS P z)(hq:∀v,P v->Q v):BS Q z:=by
 have⟨m,e,h,k⟩:=h;exact⟨m,e,h,λv a=>hq v (k v a)⟩
def DM(P:Nat->Prop):BS P 0:=⟨0,rfl,bb,λv a=>by simp at a⟩
theorem Vm{n:Nat}(h:n<4294967296):IntKind.u32.wrap (n:Int)=(n:Int):=by
 have:IntKind.u32.wrap (n:Int)=(n:Int)%4294967296:=by rfl
 omega
def A4{m k:Nat}(a:m<4294967296)(a:k<4294967296):RA .or .u32 (.ofNat m) (.ofNat k)=.ofNat (m|||k):=by
 have h:m|||k<2^32:=Nat.or_lt_two_pow a6 a6;have e:(BitVec.ofInt IntKind.u32.bits (Int.ofNat m)|||BitVec.ofInt IntKind.u32.bits (Int.ofNat k)).toNat=m|||k:=by
  show(BitVec.ofInt 32 (m:Int)|||BitVec.ofInt 32 (k:Int)).toNat=m|||k;rw[BitVec.toNat_or,BitVec.ofInt_natCast,BitVec.ofInt_natCast,BitVec.toNat_ofNat,BitVec.toNat_ofNat,aaX a6,aaX a6]
 grind[RA,Vm]
theorem BS.or{P Q:Nat->Prop}{a b:Int}(c:BS P a)(d:BS Q b):BS (λv=>P v\/Q v) (RA .or .u32 a b):=by
 obtain⟨m,rfl,e,g⟩:=c;obtain⟨k,rfl,f,h⟩:=d;refine⟨m|||k,A4 e f,by have:m|||k<2^32:=Nat.or_lt_two_pow a6 a6;omega,λv i=>?_⟩
 grind
def B4(n:Nat):BS (· =n) (EQ 1 n):=by
 show BS (· =n) (IntKind.u32.wrap (1*2^(min n 32)));by_cases h:n<32
 ·have:2^n<2^32:=Nat.pow_lt_pow_right bb h;refine⟨2^n,?_,a6,λv a=>?_⟩
  ·grind[Vm]
  grind
 rw[Nat.min_eq_right a6];exact DM _
def BS.shr{P:Nat->Prop}{z:Int}(h:BS P z)(k:Nat):BS (λv=>P (v+min k 32)) (z.fdiv (2^(min (Int.ofNat k).toNat IntKind.u32.bits))):=by
 obtain⟨m,rfl,a,b⟩:=h;show BS _ (Int.fdiv (.ofNat m) (2^(min k 32)));refine⟨m / 2^(min k 32),?_,Nat.lt_of_le_of_lt (Nat.div_le_self _ _) a,λv c=>b _ ?_⟩
 ·rw[show(2:Int)^(min k 32)=((2^(min k 32):Nat):Int) by simp,Int.fdiv_eq_ediv_of_nonneg _ (Int.natCast_nonneg _)];rfl
 grind
def BS.and1{P:Nat->Prop}{z:Int}(h:BS P z)(a:¬P 0):RA .and .u32 z 1=0:=by
 obtain⟨m,rfl,b,c⟩:=h;have e:(BitVec.ofInt IntKind.u32.bits (Int.ofNat m)&&&BitVec.ofInt IntKind.u32.bits 1).toNat=m&&&1:=by
  show(BitVec.ofInt 32 (m:Int)&&&BitVec.ofInt 32 ((1:Nat):Int)).toNat=m&&&1;rw[BitVec.toNat_and,BitVec.ofInt_natCast,BitVec.ofInt_natCast,BitVec.toNat_ofNat,BitVec.toNat_ofNat,aaX a6]
 unfold RA;simp only[e];have:m.testBit 0=false:=by
  grind
 rw[Nat.and_one_is_mod,show m%2=0 by simp_all];rfl
def EM:∀(t:Tm)(d:Nat)(z:Int),d+t.cnt<=qA->t.mx<=qA*qA->∀{P:Nat->Prop},BS P z->∃w,BS (λv=>P v\/t.occ (v+d)≠0) w/\O 368 [.pv t.p,.pv (num d),.loc 3 0,.loc 4 0] (Sm z) (.pv ut) (Sm w)
 |.v i,d,z,b,x,P,f=>by
  have n:=zA;have A:i<=qA*qA:=x;have b:d+1<=qA:=b;rw[n]at A;have B:=yA;by_cases h:d<=i
  ·have o:=dJ (a:=i) (b:=d) h;have C:xA (Int.ofNat i-.ofNat d)=true/\Int.ofNat i-.ofNat d=.ofNat (i-d):=by
    have e:Int.ofNat i-.ofNat d=.ofNat (i-d):=a9
    rw[e];exact⟨cB (n:=i-d) a6,rfl⟩
   exact⟨RA .or .u32 z (EQ 1 (i-d)),(f.or (B4 (i-d))).mono (λv D=>D.imp id λe=>by grind[Tm.occ]),o4 5 [(15,.n [(7,.G),(11,.z (i-d)),(12,.v (u32 (EQ 1 (i-d)))),(13,.v (u32 (RA .or .u32 z (EQ 1 (i-d)))))])] o C (m4 1 (i-d)) (fH z (EQ 1 (i-d)))⟩
  have o:=jH (a:=i) (b:=d) a6;exact⟨z,f.mono λ_ h=>.inl h,o1 5 [(15,.n [(7,.H)])] o⟩
 |.lam s a,d,z,b,l,P,f=>by
  have b:d+(1+a.cnt)<=qA:=b;have x:=zA;have B:=yA;have⟨j,v1,g⟩:=EM a (d+1) z a6 l f;exact⟨j,v1,o2 5 [20,(31,.o [3,4] (CM j) (.pv ut))] (lA (a:=d) (b:=1)) g⟩
 |.n0 k,d,z,b,_,P,f=>⟨z,f.mono λ_ h=>.inl h,by cases k<;>exact o0 5 []⟩|.n1 k a,d,z,b,l,P,f=>by
  have b:d+(1+a.cnt)<=qA:=b;have⟨j,v1,g⟩:=EM a d z a6 l f;exact⟨j,v1,by cases k<;>exact o1 5 [(31,.o [3,4] (CM j) (.pv ut))] g⟩
 |.n2 k a c,d,z,b,l,P,f=>by
  have b:d+(1+a.cnt+c.cnt)<=qA:=b;have l:max a.mx c.mx<=qA*qA:=l;have⟨j,v1,g⟩:=EM a d z a6 a6 f;have⟨m,p,r⟩:=EM c d j a6 a6 v1;exact⟨m,p.mono (λv h=>by
   show P v\/a.occ (v+d)+c.occ (v+d)≠0
   grind),by cases k<;>exact o2 5 [(31,.o [3,4] (CM j) (.pv ut)),(31,.o [3,4] (CM m) (.pv ut))] g r⟩
 |.n3 k s a c e,d,z,b,l,P,f=>by
  have b:d+(1+a.cnt+c.cnt+e.cnt)<=qA:=b;have l:max a.mx (max c.mx e.mx)<=qA*qA:=l;have⟨j,v1,g⟩:=EM a d z a6 a6 f;have⟨m,p,r⟩:=EM c d j a6 a6 v1;have⟨y,E,u⟩:=EM e d m a6 a6 p;exact⟨y,E.mono (λv h=>by
   show P v\/a.occ (v+d)+c.occ (v+d)+e.occ (v+d)≠0
   grind),by cases k<;>exact o3 5 [(31,.o [3,4] (CM j) (.pv ut)),(31,.o [3,4] (CM m) (.pv ut)),(31,.o [3,4] (CM y) (.pv ut))] g r u⟩
def TK.a240{n:Nat}{t:Tm}(h:TK n t)(a:n<=nA):∃z,BS (λv=>t.occ v≠0) z/\A 350 [t.p] (u32 z):=by
 have b:=zA;have⟨z,v,g⟩:=EM t 0 0 (by have:=h.cnt;omega) (by have:=h.mx a;rw[b];omega) (DM λ_=>False);exact⟨z,v.mono λ_ h=>h.elim False.elim id,f1 [(6,.n [(8,.o [3,4] (CM z) (.pv ut))])] g⟩
def cX(z:Int)(k:Nat)(b:k<=32){P:Nat->Prop}(c:BS P z):∃a,BS (λv=>P (v+k)) a/\A 349 [u32 z,num k] (u32 a):=by
 have a:=c.shr k;have h:=a.u;rw[Nat.min_eq_left b]at a;have g:(bif dA (.ofNat k) 0 then false else xA (z.fdiv (2^(min (Int.ofNat k).toNat IntKind.u32.bits))))=true/\u32 (z.fdiv (2^(min (Int.ofNat k).toNat IntKind.u32.bits)))=u32 (z.fdiv (2^(min (Int.ofNat k).toNat IntKind.u32.bits))):=by
  have:=z0 k
  grind[dA,sT]
 exact⟨_,a,f1 [(7,.v (u32 (z.fdiv (2^(min (Int.ofNat k).toNat IntKind.u32.bits)))))] g⟩
abbrev dC(h:Fm×Nat):List PV:=[num h.1.kd,num h.1.tk,.slice h.1.te,.slice h.1.ts,.slice h.1.es,num h.2]
def Wm(h:Fm×Nat):(dC h).length=6:=rfl
abbrev mD(g:List Ty)(H:List (Fm×Nat)):PV:=.agg [num g.length,num (H.map dC).length,CB g,.slice (H.map dC)]
def tT(v h a b:Nat)(c:v+a<=16)(d:h+b<=16):A 345 [.agg [num v,num h],num a,num b] (num 0):=by
 have:=yA;exact f4 [10,11,16,17] (lA (a:=v) (b:=a)) (iA (a:=16) (b:=v+a) c) (lA (a:=h) (b:=b)) (iA (a:=16) (b:=h+b) d)
def de(g:List Ty)(H:List (Fm×Nat))(s:Ty)(a:g.length<=qA:=by omega)(h:s.size<=bA:=by omega):A 347 [mD g H,rA [s]] (mD (g++[s]) H):=by
 have:=zA;have:=yA;rw[show mD (g++[s]) H=.agg [num (g.length+1),num (H.map dC).length,CB (g++[s]),.slice (H.map dC)] by simp[mD]];exact f2 [8,15] (fT g s a h) (lA (a:=g.length) (b:=1))
def C4(g:List Ty)(H:List (Fm×Nat))(s u:Ty)(a:g.length<=qA)(h:s.size<=bA)(b:u.size<=bA):A 347 [mD g H,rA [s,u]] (mD (g++[s,u]) H):=by
 have:=zA;have:=yA;rw[show mD (g++[s,u]) H=.agg [num (g.length+2),num (H.map dC).length,CB (g++[s,u]),.slice (H.map dC)] by simp[mD]];exact f2 [8,15] (Z1 g s u a h b) (lA (a:=g.length) (b:=2))
def GQ(g:List Ty)(H:List (Fm×Nat))(f:Fm)(a:H.length<=qA:=by omega):A 296 [mD g H,f.p] (mD g (H++[(f,g.length)])):=by
 have:=zA;have:=yA;have a:=qH (H.map dC).length;have b:=jG 6 96 Wm bb H (f,g.length) a6 (by simp only[maxLen];omega);have c:=lA (a:=(H.map dC).length) (b:=1) a9;rw[show mD g (H++[(f,g.length)])=.agg [num g.length,num ((H.map dC).length+1),CB g,.slice (H.map dC++[dC (f,g.length)])] by simp[mD]];exact f3 [(13,.ok),(20,.ok),25] a b c
abbrev vw(n:Nat)(H:List (Fm×Nat)):List Fm:=H.map λh=>h.1.sh 0 (.ofNat (n-h.2))
structure PlOK(g:List Ty)(H:List (Fm×Nat)):Prop where
 gl:g.length<=16
 gs:∀s∈g,s.size<=64
 hl:H.length<=16
 hs:∀h∈H,FK h.2 h.1/\h.2<=g.length
def aT(n:Nat)(H:List (Fm×Nat)):(vw n H).length=H.length:=a8
theorem FK.sh{n:Nat}{f:Fm}(h:FK n f)(c z:Nat):FK (n+z) (f.sh c (.ofNat z)):=⟨by rw[MD];exact h.cnt,by rw[gQ];exact h.shp,xJ z f c n h.sc⟩
def D4(g:List Ty)(H:List (Fm×Nat))(b:PlOK g H)(i:Nat):(H.length<=i/\A 342 [mD g H,num i] (.tuple [.agg zF,.bool false]))\/∃f,i<H.length/\(vw g.length H)[H.length-1-i]? =some f/\FK g.length f/\A 342 [mD g H,num i] (.tuple [f.p,.bool true]):=by
 have d:=zA;have s:=yA;have t:=b.hl;have u:=b.gl;have j:nA=100000:=rfl;by_cases h:i<H.length
 ·right;obtain⟨⟨f,v⟩,c⟩:∃x,H[H.length-1-i]? =some x:=⟨_,e7 a6⟩;have⟨a,k⟩:=b.hs _ (gg c);simp only at a k;refine⟨f.sh 0 (.ofNat (g.length-v)),h,bS,?_,?_⟩
  ·have:=a.sh 0 (g.length-v);rwa[show v+(g.length-v)=g.length by omega]at this
  have l:=jH (a:=i) (b:=(H.map dC).length) bS;have m:=lC (a:=(H.map dC).length) a9 a9;have n:xA (Int.ofNat ((H.map dC).length-1)-.ofNat i)=true/\Int.ofNat ((H.map dC).length-1)-.ofNat i=.ofNat (H.length-1-i):=by
   have e:Int.ofNat ((H.map dC).length-1)-.ofNat i=.ofNat (H.length-1-i):=a9
   rw[e];exact⟨cB (n:=H.length-1-i) a6,rfl⟩
  have o:nB (H.map dC) (H.length-1-i)=some (dC (f,v))/\tB 6 (H.map dC)=true:=EA c Wm;have p:xA (Int.ofNat g.length-.ofNat v)=true/\Int.ofNat g.length-.ofNat v=.ofNat (g.length-v):=by
   have e:Int.ofNat g.length-.ofNat v=.ofNat (g.length-v):=a9
   rw[e];exact⟨cB (n:=g.length-v) a6,rfl⟩
  have r:=BI f 0 (g.length-v) a6 (by have:=a.cnt;omega) (by have:=a.mx a6;rw[d];omega);exact f6 [11,18,20,(21,.i (dC (f,v))),30,31] l m n o p r
 left;refine⟨a6,?_⟩;exact f1 [11] (dJ (a:=i) (b:=(H.map dC).length) a9)
def Jt.OK(d:List Fm):Nat->List Fm->Jt->Prop
 |n,c,.leaf u i f=>FK n f/\match u with
  |false=>i<c.length/\c[c.length-1-i]? =some f|true=>d[i]? =some f
 |n,_,.refl t=>TK n t/\FK n (.eq t t)|n,c,.p1 k a f=>FK n f/\a.OK d n c/\match k with
  |.andL=>∃y,a.f=.bin .and f y|.andR=>∃x,a.f=.bin .and x f|.choice=>∃s u x,a.f=.q .all s (.q .ex u x)/\∃y,(x.sh 2 (.ofNat 1)).pt vapp=.ok y/\f=.q .ex (.two true s u) (.q .all s y)
 |n,c,.p2 k a b f=>FK n f/\a.OK d n c/\match k with
  |.andI=>b.OK d n c/\f=.bin .and a.f b.f|.impE=>b.OK d n c/\∃x,a.f=.bin .imp x f|.exE=>b.OK d (n+1) (fA 1 c++[a.f.bd])/\(∃s,a.f=.q .ex s a.f.bd)/\NC b.f=some f|.exUE=>b.OK d (n+1) (fA 1 c++[a.f.bd])/\(∃s,a.f=.q .exU s a.f.bd)/\NC b.f=some f
 |n,c,.impI x a=>FK n x/\FK n (.bin .imp x a.f)/\a.OK d n (c++[x])|n,c,.all u s a=>s.size<=64/\FK n (.q (aq u) s a.f)/\a.OK d (n+1) (fA 1 c)|n,c,.ins u t a f=>FK n f/\TK n t/\a.OK d n c/\∃s x,a.f=.q (aq u) s x/\x.pt t=.ok f|n,c,.ex u x t a=>FK n x/\TK n t/\a.OK d n c/\(∃s,x=.q (xI u) s x.bd)/\a.f.er=x.bd.er|n,c,.ind l x t a b f=>FK n f/\FK (n+1) x/\TK n t/\a.OK d n c/\x.pt t=.ok f/\(a.f.er=x.er/\b.f.er=x.er)/\match l with
  |false=>b.OK d (n+1) (fA 1 c++[x])|true=>b.OK d (n+2) (fA 2 c++[x.sh 1 (.ofNat 1)])
 |n,c,.subst x a b f=>FK n f/\FK (n+1) x/\a.OK d n c/\b.OK d n c/\b.f.er=x.er/\∃t u,a.f=.eq t u/\x.pt u=.ok f
def F4:Ob:=.smap false [(.int 1,.fn 282 []),(.int 2,.fn 283 []),(.int 3,.fn 284 []),(.int 4,.fn 285 []),(.int 5,.fn 285 []),(.int 6,.fn 286 []),(.int 7,.fn 287 []),(.int 8,.fn 288 []),(.int 12,.fn 288 []),(.int 9,.fn 289 []),(.int 13,.fn 289 []),(.int 10,.fn 290 []),(.int 14,.fn 290 []),(.int 11,.fn 291 []),(.int 15,.fn 291 []),(.int 16,.fn 292 []),(.int 17,.fn 292 []),(.int 18,.fn 293 []),(.int 19,.fn 294 []),(.int 20,.fn 295 [])]
abbrev UH(ls:List Fm):List (Nat×Ob):=[(3,F4),(4,.box [.pv (uA ls),.map 3])]
abbrev GB(y:Sy)(z:Int)(e:Nat):PV:=.tuple [.agg [num y.k,num y.tk,.slice y.te,.slice y.ts,.slice y.es,u32 z],num e]
def Jt.u0:Jt->Nat->Prop
 |.leaf _ _ _,_=>False|.refl _,_=>False|.p1 _ a _,v=>a.us v|.p2 k a b _,v=>a.us v\/match k with
  |.andI=>b.us v|.impE=>b.us v|_=>b.us (v+1)
 |.impI _ a,v=>a.us v|.all _ _ a,v=>a.us (v+1)|.ins u t a _,v=>a.us v\/u=false/\t.occ v≠0|.ex u _ t a,v=>a.us v\/u=false/\t.occ v≠0|.ind l _ t a b _,v=>t.occ v≠0\/a.us v\/b.us (v+lN l)|.subst _ _ b _,v=>b.us v
def G4{j:Jt}{v:Nat}(h:j.f.has=true)(k:j.u0 v):j.us v:=by
 cases j<;>first|exact k.elim|exact⟨h,k⟩
def KI(a:List Fm)(j:Jt):Prop:=∀g H,PlOK g H->j.D a g (vw g.length H)->j.p.ck->FK g.length j.f/\∃z,BS j.us z/\O 231 [.loc 4 0,.pv j.p.p,.pv (mD g H)] (UH a) (.pv (GB j.f.y z 0)) (UH a)
def Pf.kf:Pf->Nat|.leaf false _=>282|.leaf true _=>283|.p2 .andI _ _=>284|.p1 .choice _=>295|.p1 _ _=>285|.impI _ _=>286|.p2 .impE _ _=>287|.p2 _ _ _=>291|.all _ _ _=>288|.ins _ _ _=>289|.ex _ _ _ _=>290|.ind _ _ _ _ _=>292|.refl _=>293|.subst _ _ _=>294
def KR(a:List Fm)(j:Jt):Prop:=∀g H,PlOK g H->j.D a g (vw g.length H)->j.p.ck->j.f.sc g.length/\∃z,BS j.u0 z/\O j.p.kf [.loc 4 0,.pv j.p.p,.pv (mD g H)] (UH a) (.pv (GB j.f.y z 0)) (UH a)
def ki{d:List Fm}(j:Jt)(h:KR d j):KI d j:=by
 intro g H e f m;have⟨n,z,o,a⟩:=h g H e f m;have i:=AI f;have b:FK g.length j.f:=⟨(Fm.chk0 i).1,(Fm.chk0 i).2,n⟩;have k:=b.a89;have c:=b.a70 (by have:=e.gl;have:nA=100000:=rfl;omega);refine⟨b,?_⟩;generalize j.p=p at a;cases l:j.f.has<;>rw[l]at c
 ·refine⟨0,DM _,?_⟩;cases p<;>(try cases ‹Bool›)<;>(try cases ‹P1›)<;>(try cases ‹P2›)<;>exact o3 5 [(23,.o [3,4] [] (.pv (GB j.f.y z 0))),32,38] a k c
 refine⟨z,o.mono λv r=>G4 l r,?_⟩;cases p<;>(try cases ‹Bool›)<;>(try cases ‹P1›)<;>(try cases ‹P2›)<;>exact o3 5 [(23,.o [3,4] [] (.pv (GB j.f.y z 0))),32,38] a k c
open Go.Lg
def FK.cn{n:Nat}{f:Fm}(h:FK n f):f.cnt<=qA:=by
 have:=zA;have:=h.cnt;omega
def EO{a:List Fm}{j:Jt}(h:KI a j){g:List Ty}{H:List (Fm×Nat)}(b:PlOK g H)(c:j.D a g (vw g.length H))(d:j.p.ck){k:Nat}(e:j.f.kd=k):FK g.length j.f/\∃z,BS j.us z/\O 344 [.loc 4 0,.pv j.p.p,.pv (mD g H),.pv (num k)] (UH a) (.pv (GB j.f.y z 0)) (UH a):=by
 have⟨f,z,i,l⟩:=h g H b c d;exact⟨f,z,i,o2 5 [(16,.o [3,4] [] (.pv (GB j.f.y z 0))),26] l (nC e)⟩
def IQ{a:List Fm}{j:Jt}(h:KI a j){g:List Ty}{H:List (Fm×Nat)}(b:PlOK g H)(k:j.D a g (vw g.length H))(l:j.p.ck){f w:Fm}{t:Tm}(c:FK (g.length+1) f)(d:TK g.length t)(e:f.pt t=.ok w)(m:w.mt j.f):∃z,BS j.us z/\O 354 [.loc 4 0,.pv j.p.p,.pv (mD g H),.pv f.p,.pv t.p] (UH a) (.pv (GB j.f.y z 0)) (UH a):=by
 have:nA=100000:=rfl;have:=b.gl;have⟨n,z,o,p⟩:=h g H b k l;have i:=BQ c d;rw[e]at i;exact⟨z,o,o3 5 [(19,.o [3,4] [] (.pv (GB j.f.y z 0))),29,40] p i (Em (c.pt d e).2 n a6 m)⟩
def I4{c:List Fm}{i:Nat}{f:Fm}:KR c (.leaf false i f):=by
 intro g H d e m;have⟨_,j,a⟩:=e;rw[aT]at j a;rcases D4 g H d i with ⟨h,_⟩|⟨n,_,b,k,l⟩
 ·omega
 rw[a]at b;cases b;exact⟨k.sc,0,DM _,o1 5 [14] l⟩
def J4{a:List Fm}{i:Nat}{f:Fm}(c:∀f∈a,FK 0 f):KR a (.leaf true i f):=by
 intro g H e d j;have⟨_,b⟩:=d;have h:=(gf.1 b).1;exact⟨((c f (gg b)).up (c6 g.length)).sc,0,DM _,o2 5 [15,(23,.i f.c)] (jH (a:=i) (b:=(a.map Fm.c).length) bS) (EA b Fm.c_len)⟩
def K4{c:List Fm}{a b:Jt}{f:Fm}(j:KI c a)(k:KI c b):KR c (.p2 .andI a b f):=by
 intro g H h l i;obtain⟨_,m,n,rfl⟩:=l;have⟨o,z,p,r⟩:=j g H h m i.1;have⟨fb,d,e,s⟩:=k g H h n i.2;exact⟨⟨o.sc,fb.sc⟩,_,p.or e,o3 5 [(18,.o [3,4] [] (.pv (GB a.f.y z 0))),(32,.o [3,4] [] (.pv (GB b.f.y d 0))),(49,.v (u32 (RA .or .u32 z d)))] r s (fH z d)⟩
def L4{b:List Fm}{a:Jt}{f:Fm}(h:KI b a):KR b (.p1 .andL a f):=by
 intro g H i j k;have⟨_,l,y,e⟩:=j;have⟨c,z,m,d⟩:=EO h i l k (k:=2) (by rw[e];rfl);rw[e]at d c;exact⟨c.bin1.sc,z,m,o1 5 [(18,.o [3,4] [] (.pv (GB (Fm.bin .and f y).y z 0)))] d⟩
def M4{b:List Fm}{a:Jt}{f:Fm}(h:KI b a):KR b (.p1 .andR a f):=by
 intro g H i j k;have⟨_,l,y,e⟩:=j;have⟨c,z,m,d⟩:=EO h i l k (k:=2) (by rw[e];rfl);rw[e]at d c;exact⟨c.bin2.sc,z,m,o1 5 [(18,.o [3,4] [] (.pv (GB (Fm.bin .and y f).y z 0)))] d⟩
def PlOK.with{g:List Ty}{H:List (Fm×Nat)}(h:PlOK g H){f:Fm}(b:FK g.length f)(d:H.length+1<=16):PlOK g (H++[(f,g.length)]):=by
 refine⟨h.gl,h.gs,bS,λx a=>?_⟩;rcases eh.1 a with a|a
 ·exact h.hs x a
 simp_all
def aaY:=@Nat.sub_self
def eX(n:Nat)(H:List (Fm×Nat))(f:Fm):vw n (H++[(f,n)])=vw n H++[f]:=by
 simp only[vw,gn,gF,i2,aaY,Qd]
def N4{h:List Fm}{f:Fm}{a:Jt}(k:KI h a):KR h (.impI f a):=by
 intro g H c l m;have⟨_,⟨b,n⟩,i,o⟩:=l;have:=zA;have:=c.gl;rw[aT]at i;have⟨e,p,r,s⟩:=bM f g c.gs (Fm.chk0 b).2 (by have:=(Fm.chk0 b).1;omega);obtain rfl:=s n;have j:FK g.length f:=⟨(Fm.chk0 b).1,(Fm.chk0 b).2,r rfl⟩;have d:=c.with j i;have⟨t,z,u,v⟩:=k g _ d (by rw[eX];exact o) m.2;exact⟨⟨j.sc,t.sc⟩,z,u,o4 5 [20,27,40,(41,.o [3,4] [] (.pv (GB a.f.y z 0)))] p (tT g.length (H.map dC).length 0 1 a6 bS) (GQ g H f) v⟩
def O4{c:List Fm}{a b:Jt}{f:Fm}(m:KI c a)(n:KI c b):KR c (.p2 .impE a b f):=by
 intro g H d o k;have:=d.gl;have⟨_,p,r,x,e,s⟩:=o;have⟨h,z,t,l⟩:=EO m d p k.1 (k:=3) (by rw[e];rfl);rw[e]at l h;have⟨fb,i,j,u⟩:=n g H d r k.2;exact⟨h.bin2.sc,_,t.or j,o4 5 [(19,.o [3,4] [] (.pv (GB (Fm.bin .imp x f).y z 0))),(33,.o [3,4] [] (.pv (GB b.f.y i 0))),47,(61,.v (u32 (RA .or .u32 z i)))] l u (Em h.bin1 fb a6 s) (fH z i)⟩
def PlOK.below1{g:List Ty}{H:List (Fm×Nat)}(h:PlOK g H){s:Ty}(b:s.size<=64)(c:g.length+1<=16):PlOK (g++[s]) H:=by
 refine⟨bS,λx a=>?_,h.hl,λx a=>?_⟩
 ·rcases eh.1 a with a|a
  ·exact h.gs x a
  simp_all
 have:=h.hs x a
 grind
def PlOK.below2{g:List Ty}{H:List (Fm×Nat)}(h:PlOK g H){s u:Ty}(b:s.size<=64)(c:u.size<=64)(d:g.length+2<=16):PlOK (g++[s,u]) H:=by
 refine⟨bS,λx a=>?_,h.hl,λx a=>?_⟩
 ·rcases eh.1 a with a|a
  ·exact h.gs x a
  grind
 have:=h.hs x a
 grind
def eT(k n:Nat):∀(H:List (Fm×Nat)),(∀h∈H,h.2<=n)->vw (n+k) H=fA k (vw n H)
 |[],_=>rfl|(f,v)::H,h=>by
  have a:=eT k n H (λx b=>h x (by simp[b]));have:v<=n:=h (f,v) a8;simp only[vw,fA,gF]at a⊢;rw[a,am,show n-v+k=n+k-v by omega]
def P4{b:List Fm}{u:Bool}{s:Ty}{a:Jt}(r:KI b a){g:List Ty}{H:List (Fm×Nat)}(c:PlOK g H)(h:(Pf.all u s a.p).ck)(i:g.length+1<=16)(t:a.D b (g++[s]) (fA 1 (vw g.length H)))(v:u=true->¬a.us 0):(Jt.all u s a).f.sc g.length/\∃z,BS (Jt.all u s a).u0 z/\O 288 [.loc 4 0,.pv (Pf.all u s a.p).p,.pv (mD g H)] (UH b) (.pv (GB (Jt.all u s a).f.y z 0)) (UH b):=by
 have w:s.size<=64:=h.1;have:=zA;have:=yA;have D:=c.hl;have j:=tT g.length (H.map dC).length 1 0 i bS;have d:=c.below1 w i;have k:=de g H s;have l:(g++[s]).length=g.length+1:=a8
 have⟨m,z,n,o⟩:=r _ H d (by rw[l,eT 1 g.length H λx y=>(c.hs x y).2];exact t) h.2;rw[l]at m;have⟨A,f,p⟩:=cX z 1 bb n;refine⟨m.sc,A,f,?_⟩;cases u
 ·exact o4 5 [14,29,(30,.o [3,4] [] (.pv (GB a.f.y z 0))),53] j k o p
 have e:(!sB (RA .and .u32 z 1) 0)=false:=by rw[n.and1 (v rfl)];rfl
 exact o6 5 [14,29,(30,.o [3,4] [] (.pv (GB a.f.y z 0))),(42,.v (u32 (RA .and .u32 z 1))),43,53] j k o (be z 1) e p
def Q4{b:List Fm}{u:Bool}{s:Ty}{a:Jt}(c:KI b a):KR b (.all u s a):=λ_ _ d b e=>P4 c d e b.2.1 b.2.2.1 b.2.2.2
def Xm(s:Ty)(h:s.size<=64):A 351 [.agg (vB s),s.p] (.bool true):=by
 have:=yA;have⟨r,g,e⟩:=Cd s s;rw[(BD s s).2 rfl]at e;subst e;exact f2 [7,8] (sE s) g
def IK{g:List Ty}{t:Tm}{s:Ty}(c:∀s∈g,s.size<=64)(i:g.length<=16)(h:t.chk=0)(e:t.tyR g=.ok s):A 180 [CB g,t.p] (TR.ok s).q/\TK g.length t:=by
 have:=zA;have⟨d,a⟩:=Tm.chk0 h;have⟨r,f,_,q,b⟩:=eJ t g c a a6;rw[e]at b;subst b;exact⟨f,d,a,q s rfl⟩
def R4{n:List Fm}{u:Bool}{t:Tm}{a:Jt}{f:Fm}(A:KI n a):KR n (.ins u t a f):=by
 intro g H d B C;have⟨_,D,E,s,x,i,e,b⟩:=B;have F:=d.gl;have:nA=100000:=rfl;have⟨o,j⟩:=IK d.gs F D i;have⟨p,k,r⟩:=j.a240 a6;have⟨c,z,w,l⟩:=EO A d E C.2 (k:=(aq u).n) (by rw[e];rfl);rw[e]at l c;have y:=Xm s c.qs;have m:=BQ c.qf j;rw[b]at m;refine⟨(c.qf.pt j b).2.sc,?_⟩;cases u
 ·exact⟨_,(w.or k).mono λv h=>h.imp id λh=>⟨rfl,h⟩,o6 5 [23,31,(43,.o [3,4] [] (.pv (GB (Fm.q .all s x).y z 0))),54,64,(71,.v (u32 (RA .or .u32 z p)))] o r l y m (fH z p)⟩
 exact⟨_,(w.or (DM λ_=>False)).mono λv h=>h.imp id False.elim,o6 5 [23,31,(43,.o [3,4] [] (.pv (GB (Fm.q .allU s x).y z 0))),54,64,(71,.v (u32 (RA .or .u32 z 0)))] o r l y m (fH z 0)⟩
def S4{n:List Fm}{u:Bool}{f:Fm}{t:Tm}{a:Jt}(D:KI n a):KR n (.ex u f t a):=by
 intro g H b E F;obtain⟨⟨c,d⟩,G,I,s,x,w,i,rfl,j,k⟩:=E;have:=zA;have J:=b.gl;have:nA=100000:=rfl;have⟨e,o,L,M⟩:=bM (.q (xI u) s x) g b.gs (Fm.chk0 c).2 (by have:=(Fm.chk0 c).1;omega);obtain rfl:=M d;have l:FK g.length (.q (xI u) s x):=⟨(Fm.chk0 c).1,(Fm.chk0 c).2,L rfl⟩;have⟨p,r⟩:=IK b.gs J G i;have y:=Xm s l.qs;have⟨z,A,B⟩:=IQ D b I F.2.2 l.qf r j k;refine⟨l.sc,?_⟩;cases u
 ·have⟨C,m,N⟩:=r.a240 a6;exact⟨_,(A.or m).mono λv h=>h.imp id λh=>⟨rfl,h⟩,o6 5 [30,44,54,(69,.o [3,4] [] (.pv (GB a.f.y z 0))),81,(82,.v (u32 (RA .or .u32 z C)))] o p y B N (fH z C)⟩
 exact⟨_,(A.or (DM λ_=>False)).mono λv h=>h.imp id False.elim,o5 5 [30,44,54,(69,.o [3,4] [] (.pv (GB a.f.y z 0))),(82,.v (u32 (RA .or .u32 z 0)))] o p y B (fH z 0)⟩
open Go.Lg
def me{n:Nat}{f g:Fm}(h:FK (n+1) f)(j:n+1<=90000)(e:NC f=some g):g.sc n/\g.shp=true/\g.cnt<=16777216:=by
 have k:nA=100000:=rfl;have c:=h.cnt;unfold NC at e;split at e
 ·rename_i a;cases e;have:=h.low a;exact⟨this.sc,this.shp,by have:=this.cnt;omega⟩
 split at e
 ·rename_i y b;split at e
  ·rename_i a;cases e;have⟨d,i,l⟩:=CQ f (n+1) h a6 y b;refine⟨rM _ n y 0 d (.inr a),xK 0 _ y 0 (.inr a) i,?_⟩;rw[ye a];omega
  cases e
 cases e
def T4{d:List Fm}{t:Tm}:KR d (.refl t):=by
 intro g H c f l;have⟨_,h,a⟩:=f;have:=zA;have i:=c.gl;have⟨_,b⟩:=IK c.gs i h a;have⟨e,j,_,k⟩:=Fd g t c.gs b.shp (by have:=b.cnt;omega);obtain rfl:=k a;exact⟨⟨b.sc,b.sc⟩,0,DM _,o2 5 [17,24] j (Om t t)⟩
def ce{g:List Ty}{f:Fm}{s:Ty}(j:∀s∈g,s.size<=64)(k:g.length<=16)(l:s.size<=64)(h:f.chk=0)(a:f.ty (g++[s])):A 341 [CB (g++[s]),f.p] (num 0)/\FK (g.length+1) f:=by
 have m:=zA;have b:(g++[s]).length=g.length+1:=a8
 have⟨e,c,d,i⟩:=bM f (g++[s]) (λx n=>by
  grind) (Fm.chk0 h).2 (by have:=(Fm.chk0 h).1;omega)
 obtain rfl:=i a;exact⟨c,(Fm.chk0 h).1,(Fm.chk0 h).2,by have:=d rfl;rwa[b]at this⟩
def U4{i:List Fm}{f r:Fm}{a b:Jt}(x:KI i a)(y:KI i b):KR i (.subst f a b r):=by
 intro g H d A o;have⟨_,⟨B,j⟩,C,D,t,u,w,e,k,l,c⟩:=A;have:=zA;have E:=d.gl;have:nA=100000:=rfl;have G:=fT g .nat a6 bb;have⟨I,m⟩:=ce d.gs E (s:=.nat) bb B j;have⟨h,z,_,p⟩:=EO x d C o.2.1 (k:=1) (by rw[e];rfl);rw[e]at p h;have⟨s,n,J⟩:=IQ y d D o.2.2 m h.eq1 k l;have v:=BQ m h.eq2;rw[c]at v;exact⟨(m.pt h.eq2 c).2.sc,s,n,o6 5 [20,22,24,(36,.o [3,4] [] (.pv (GB (Fm.eq t u).y z 0))),(56,.o [3,4] [] (.pv (GB b.f.y s 0))),70] EK G I p J v⟩
def V4(s u:Ty):A 362 [u.p,rA [s]] (Ty.two true s u).p:=f0 []
def oe(n:Nat):TK (n+2) vapp:=⟨bb,rfl,⟨by show 1<n+2;omega,by show 0<n+2;omega⟩⟩
def X4{h:List Fm}{a:Jt}{f:Fm}(o:KI h a):KR h (.p1 .choice a f):=by
 intro g H i p r;obtain⟨_,t,s,u,x,e,c,y,b,rfl⟩:=p;have v:=zA;have:=yA;have:=i.gl;have:nA=100000:=rfl;have⟨j,z,A,k⟩:=EO o i t r (k:=4) (by rw[e];rfl);rw[e]at k j;have B:=j.qf;have d:=B.qf;have C:=BI x 2 1 a6 (by have:=d.cnt;omega) (by have:=d.mx a6;rw[v];omega);have l:=d.sh 2 1;have m:=BQ (n:=g.length+2) (f:=x.sh 2 (.ofNat 1)) (t:=vapp) l (oe g.length);rw[b]at m;have D:=(FK.pt (n:=g.length+2) l (oe g.length) b).2;have n:=Ad (.two true s u);rw[(AK c).2]at n;exact⟨D.sc,z,A,o8 5 [(21,.o [3,4] [] (.pv (GB (Fm.q .all s (.q .ex u x)).y z 0))),43,49,50,51,53,54,61] k (V4 s u) C (BJ 1) (BJ 0) (Nm (.v 1) (.v 0)) m n⟩
def Ym{d:List Fm}(u:Bool){a b:Jt}{f:Fm}(G:KI d a)(I:KI d b)(g:List Ty)(H:List (Fm×Nat))(i:PlOK g H)(l:a.p.ck)(m:b.p.ck)(s:Ty)(J:a.D d g (vw g.length H))(e:a.f=.q (xI u) s a.f.bd)(K:b.D d (g++[s]) (fA 1 (vw g.length H)++[a.f.bd]))(n1:g.length+1<=16)(n2:(vw g.length H).length+1<=16)(w:NC b.f=some f)(L:u=true->¬b.us 0):
  f.sc g.length/\∃z,BS (λv=>a.us v\/b.us (v+1)) z/\O 291 [.loc 4 0,.pv (Pf.p2 (ek u) a.p b.p).p,.pv (mD g H)] (UH d) (.pv (GB f.y z 0)) (UH d):=by
 have:=zA;have:=yA;have:=i.gl;have T:=i.hl;have:nA=100000:=rfl;rw[aT]at n2;generalize y:a.f.bd=x at *
 have⟨n,z,N,o⟩:=EO G i J l (k:=(xI u).n) (by rw[e];cases u<;>rfl);rw[e]at o n;have P:=n.qs;have A:=tT g.length (H.map dC).length 1 1 n1 bS;have p:(g++[s]).length=g.length+1:=a8
 have r:FK (g++[s]).length x:=by rw[p];exact n.qf
 have t:=(i.below1 P n1).with r n2;have B:=de g H s;have C:=GQ (g++[s]) H x;have⟨fb,h,j,D⟩:=I _ _ t (by rw[eX,p,eT 1 g.length H λx y=>(i.hs x y).2];exact K) m;rw[p]at fb;have E:=L3 fb a6 w;have⟨w1,_⟩:=me fb a6 w;have⟨c,k,F⟩:=cX h 1 bb j;refine⟨w1,_,N.or k,?_⟩;cases u
 ·exact o8 5 [(27,.o [3,4] [] (.pv (GB (Fm.q .ex s x).y z 0))),36,52,58,(59,.o [3,4] [] (.pv (GB b.f.y h 0))),69,89,(90,.v (u32 (RA .or .u32 z c)))] o A B C D E F (fH z c)
 have e:(!sB (RA .and .u32 h 1) 0)=false:=by rw[j.and1 (L rfl)];rfl
 exact GC 5 [(27,.o [3,4] [] (.pv (GB (Fm.q .exU s x).y z 0))),36,52,58,(59,.o [3,4] [] (.pv (GB b.f.y h 0))),69,(80,.v (u32 (RA .and .u32 h 1))),81,89,(90,.v (u32 (RA .or .u32 z c)))] o A B C D E (be h 1) e F (fH z c)
def Y4{c:List Fm}{a b:Jt}{f:Fm}(i:KI c a)(j:KI c b):KR c (.p2 .exE a b f):=by
 intro g H k l d;have⟨_,m,⟨s,e,n⟩,⟨n1,n2⟩,o⟩:=l;exact Ym false i j g H k d.1 d.2 s m e n n1 n2 o (λh=>nomatch h)
def Z4{c:List Fm}{a b:Jt}{f:Fm}(h:KI c a)(i:KI c b):KR c (.p2 .exUE a b f):=by
 intro g H j k d;have⟨_,l,⟨s,e,m⟩,⟨n1,n2⟩,n,o⟩:=k;exact Ym true h i g H j d.1 d.2 s l e m n1 n2 n (λ_=>o)
end Go.Proofs.YtbebdmlomjpamaaGreatDoor
