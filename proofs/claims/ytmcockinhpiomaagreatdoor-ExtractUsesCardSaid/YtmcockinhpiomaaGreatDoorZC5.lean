/- Contracts of functions; no conditions. -/
import Derived.Test.YtmcockinhpiomaaGreatDoorZC4
set_option linter.all false
set_option maxHeartbeats 4000000
namespace Go.Proofs.YtmcockinhpiomaaGreatDoor
open Go.Lg
set_option maxRecDepth 100000
theorem qWw (c:Nat) {S t:Tm} (d:Nat) (h:t.cnt≤mid) (h':S.cnt≤mid):(t.put c S d).cnt≤mid+mid * mid:=by
 have h1:=qJn c S t d
 have h2:=qQz t (c+d)
 have h3:t.occ (c+d) * S.cnt≤mid * mid:=Nat.mul_le_mul (by omega) h'
 omega
theorem zW2 {c:Nat} {S t:Tm} {d:Nat} (h:t.mx≤mid * mid) (h':S.mx≤mid * mid) (h1:c+d+t.cnt≤mid):(t.put c S d).fr≤big:=by
 have h2:=qBw (t.put c S d)
 have h3:=qWq c S t d
 have hm:=qQc
 have hb:=qQh
 rw [hm] at h h' h1
 omega
theorem zXs {t S:Tm} {c:Nat} (H:(!ltI (.ofNat c) (.ofNat t.fr))=false→c<t.fr→A 352 [t.nd',num c,S.nd'] (t.put c S 0).nd'):A 352 [t.nd',num c,S.nd'] (t.put c S 0).nd':=by
 by_cases h:t.fr≤c
 ·rw [qYk c S t 0 h]
  exact f1 [(15,.G)] (qP7 (a:=c) (b:=t.fr) h)
 ·exact H (qNk (by omega)) (by omega)
theorem zJk (S:Tm) (hc:S.cnt≤mid) (hx:S.mx≤mid * mid):∀ (t:Tm) (c:Nat),c+t.cnt≤mid→t.mx≤mid * mid→A 352 [t.nd',num c,S.nd'] (t.put c S 0).nd'
 | .v i,c,h,h'=>zXs fun g1 hi=>by
  have hm:=qQc
  have hb:=qQh
  have h:c+1≤mid:=h
  have h':i≤mid * mid:=h'
  rw [hm] at h'
  have hi:c<i+1:=hi
  by_cases e:i=c
  ·have e1:(Tm.v i).put c S 0=S.sh 0 (.ofNat c):=by simp only [Tm.put,Nat.add_zero,if_pos e]
   rw [e1]
   exact f3 [(15,.H),(27,.G),(30,.r (S.sh 0 (.ofNat c)).nd')] g1 (qUn (x:=.ofNat i) (a:=c) (by simp [e])) (zJj c (by omega) S 0 (by omega) hx)
  ·have e1:(Tm.v i).put c S 0 = .v (i-1):=by simp only [Tm.put,Nat.add_zero,if_neg e,if_pos (show c<i by omega)]
   rw [e1]
   exact f4 [(15,.H),(27,.H),(39,.z (i-1)),(44,.r (Tm.v (i-1)).nd')] g1 (qNh e) (qVm (a:=i) (by omega) (by omega)) (qRe (i-1) (by omega))
 | .lam s b,c,h,h'=>zXs fun g1 hi=>by
  have hm:=qQc
  have hb:=qQh
  have h:c+(1+b.cnt)≤mid:=h
  have g3:=qQ9 (a:=c) (b:=1) (by omega)
  have g4:=zJk S hc hx b (c+1) (by omega) h'
  have e:=qWw (c+1) (S:=S) (t:=b) 0 (by omega) hc
  have g5:=qRf s b (b.put (c+1) S 0) (by simp only [hm] at e;omega) (zW2 h' hx (by omega))
  have e1:(Tm.lam s b).put c S 0 = .lam s (b.put (c+1) S 0):=by simp only [Tm.put,qVi S b]
  rw [e1]
  exact f5 [(15,.H),(59,.z (c+1)),(61,.r (b.put (c+1) S 0).nd'),(300009,.ok),(300009,.f 0 [[(b.put (c+1) S 0).nd']]),(67,.r (Tm.lam s (b.put (c+1) S 0)).nd')] g1 g3 g4 (rfl:pvE [[(b.put (c+1) S 0).nd']]=pvE [[(b.put (c+1) S 0).nd']]) g5
 | .n0 k,c,h,h'=>zXs fun g1 hi=>absurd hi (Nat.not_lt_zero _)
 | .n1 k b,c,h,h'=>zXs fun g1 hi=>by
  have hm:=qQc
  have hb:=qQh
  have h:c+(1+b.cnt)≤mid:=h
  have h':b.mx≤mid * mid:=h'
  have g3:=qQ9 (a:=c) (b:=0) (by omega)
  have g4b:=zJk S hc hx b c (by omega) (by omega)
  have eb:=qWw c (S:=S) (t:=b) 0 (by omega) hc
  simp only [hm] at eb
  have g5:=qRg k b (b.put c S 0) (by omega)
  cases k with
  | succ=>exact f5 [(15,.H),(59,.z c),(61,.r (b.put c S 0).nd'),(300009,.ok),(300009,.f 0 [[(b.put c S 0).nd']]),(67,.r (Tm.n1 .succ (b.put c S 0)).nd')] g1 g3 g4b (rfl:pvE [[(b.put c S 0).nd']]=pvE [[(b.put c S 0).nd']]) g5
  | fst=>exact f5 [(15,.H),(59,.z c),(61,.r (b.put c S 0).nd'),(300009,.ok),(300009,.f 0 [[(b.put c S 0).nd']]),(67,.r (Tm.n1 .fst (b.put c S 0)).nd')] g1 g3 g4b (rfl:pvE [[(b.put c S 0).nd']]=pvE [[(b.put c S 0).nd']]) g5
  | snd=>exact f5 [(15,.H),(59,.z c),(61,.r (b.put c S 0).nd'),(300009,.ok),(300009,.f 0 [[(b.put c S 0).nd']]),(67,.r (Tm.n1 .snd (b.put c S 0)).nd')] g1 g3 g4b (rfl:pvE [[(b.put c S 0).nd']]=pvE [[(b.put c S 0).nd']]) g5
 | .n2 k b d,c,h,h'=>zXs fun g1 hi=>by
  have hm:=qQc
  have hb:=qQh
  have h:c+(1+b.cnt+d.cnt)≤mid:=h
  have h':max b.mx d.mx≤mid * mid:=h'
  have g3:=qQ9 (a:=c) (b:=0) (by omega)
  have g4b:=zJk S hc hx b c (by omega) (by omega)
  have eb:=qWw c (S:=S) (t:=b) 0 (by omega) hc
  have g4d:=zJk S hc hx d c (by omega) (by omega)
  have ed:=qWw c (S:=S) (t:=d) 0 (by omega) hc
  simp only [hm] at eb ed
  have g5:=qL2 k b d (b.put c S 0) (d.put c S 0) (by omega)
  cases k with
  | app=>exact f7 [(15,.H),(59,.z c),(61,.r (b.put c S 0).nd'),(300009,.ok),(59,.z c),(61,.r (d.put c S 0).nd'),(300009,.ok),(300009,.f 0 [[(b.put c S 0).nd'],[(d.put c S 0).nd']]),(67,.r (Tm.n2 .app (b.put c S 0) (d.put c S 0)).nd')] g1 g3 g4b g3 g4d (rfl:pvE [[(b.put c S 0).nd'],[(d.put c S 0).nd']]=pvE [[(b.put c S 0).nd'],[(d.put c S 0).nd']]) g5
  | cons=>exact f7 [(15,.H),(59,.z c),(61,.r (b.put c S 0).nd'),(300009,.ok),(59,.z c),(61,.r (d.put c S 0).nd'),(300009,.ok),(300009,.f 0 [[(b.put c S 0).nd'],[(d.put c S 0).nd']]),(67,.r (Tm.n2 .cons (b.put c S 0) (d.put c S 0)).nd')] g1 g3 g4b g3 g4d (rfl:pvE [[(b.put c S 0).nd'],[(d.put c S 0).nd']]=pvE [[(b.put c S 0).nd'],[(d.put c S 0).nd']]) g5
  | pair=>exact f7 [(15,.H),(59,.z c),(61,.r (b.put c S 0).nd'),(300009,.ok),(59,.z c),(61,.r (d.put c S 0).nd'),(300009,.ok),(300009,.f 0 [[(b.put c S 0).nd'],[(d.put c S 0).nd']]),(67,.r (Tm.n2 .pair (b.put c S 0) (d.put c S 0)).nd')] g1 g3 g4b g3 g4d (rfl:pvE [[(b.put c S 0).nd'],[(d.put c S 0).nd']]=pvE [[(b.put c S 0).nd'],[(d.put c S 0).nd']]) g5
 | .n3 k s b d w,c,h,h'=>zXs fun g1 hi=>by
  have hm:=qQc
  have hb:=qQh
  have h:c+(1+b.cnt+d.cnt+w.cnt)≤mid:=h
  have h':max b.mx (max d.mx w.mx)≤mid * mid:=h'
  have g3:=qQ9 (a:=c) (b:=0) (by omega)
  have g4b:=zJk S hc hx b c (by omega) (by omega)
  have eb:=qWw c (S:=S) (t:=b) 0 (by omega) hc
  have g4d:=zJk S hc hx d c (by omega) (by omega)
  have ed:=qWw c (S:=S) (t:=d) 0 (by omega) hc
  have g4w:=zJk S hc hx w c (by omega) (by omega)
  have ew:=qWw c (S:=S) (t:=w) 0 (by omega) hc
  simp only [hm] at eb ed ew
  have g5:=qBy k s b d w (b.put c S 0) (d.put c S 0) (w.put c S 0) (by omega)
  cases k with
  | re=>exact f9 [(15,.H),(59,.z c),(61,.r (b.put c S 0).nd'),(300009,.ok),(59,.z c),(61,.r (d.put c S 0).nd'),(300009,.ok),(59,.z c),(61,.r (w.put c S 0).nd'),(300009,.ok),(300009,.f 0 [[(b.put c S 0).nd'],[(d.put c S 0).nd'],[(w.put c S 0).nd']]),(67,.r (Tm.n3 .re s (b.put c S 0) (d.put c S 0) (w.put c S 0)).nd')] g1 g3 g4b g3 g4d g3 g4w (rfl:pvE [[(b.put c S 0).nd'],[(d.put c S 0).nd'],[(w.put c S 0).nd']]=pvE [[(b.put c S 0).nd'],[(d.put c S 0).nd'],[(w.put c S 0).nd']]) g5
  | fo=>exact f9 [(15,.H),(59,.z c),(61,.r (b.put c S 0).nd'),(300009,.ok),(59,.z c),(61,.r (d.put c S 0).nd'),(300009,.ok),(59,.z c),(61,.r (w.put c S 0).nd'),(300009,.ok),(300009,.f 0 [[(b.put c S 0).nd'],[(d.put c S 0).nd'],[(w.put c S 0).nd']]),(67,.r (Tm.n3 .fo s (b.put c S 0) (d.put c S 0) (w.put c S 0)).nd')] g1 g3 g4b g3 g4d g3 g4w (rfl:pvE [[(b.put c S 0).nd'],[(d.put c S 0).nd'],[(w.put c S 0).nd']]=pvE [[(b.put c S 0).nd'],[(d.put c S 0).nd'],[(w.put c S 0).nd']]) g5
theorem zXt {t:Tm} {c:Nat} (H:(!ltI (.ofNat c) (.ofNat t.fr))=false→c<t.fr→A 351 [t.nd',num c] (num (t.occ c))):A 351 [t.nd',num c] (num (t.occ c)):=by
 by_cases h:t.fr≤c
 ·rw [qWu t c h]
  exact f1 [(13,.G)] (qP7 (a:=c) (b:=t.fr) h)
 ·exact H (qNk (by omega)) (by omega)
theorem zJl:∀ (t:Tm) (c:Nat),c+t.cnt≤mid→A 351 [t.nd',num c] (num (t.occ c))
 | .v i,c,h=>zXt fun g1 hi=>by
  by_cases e:i=c
  ·have e1:(Tm.v i).occ c=1:=by simp only [Tm.occ,if_pos e]
   rw [e1]
   exact f2 [(13,.H),(24,.G)] g1 (qUn (x:=.ofNat i) (a:=c) (by simp [e]))
  ·have e1:(Tm.v i).occ c=0:=by simp only [Tm.occ,if_neg e]
   rw [e1]
   exact f2 [(13,.H),(24,.H)] g1 (qNh e)
 | .lam s b,c,h=>zXt fun g1 hi=>by
  have hm:=qQc
  have hb:=qQh
  have h:c+(1+b.cnt)≤mid:=h
  have h2:=qQz b (c+1)
  exact f4 [(13,.H),(39,.z (c+1)),(40,.N (b.occ (c+1))),(41,.z (b.occ (c+1)))] g1 (qQ9 (a:=c) (b:=1) (by omega)) (zJl b (c+1) (by omega)) (zWx (n:=b.occ (c+1)) (by omega))
 | .n0 k,c,h=>zXt fun g1 hi=>absurd hi (Nat.not_lt_zero _)
 | .n1 k b,c,h=>zXt fun g1 hi=>by
  have hm:=qQc
  have hb:=qQh
  have h:c+(1+b.cnt)≤mid:=h
  have g3:=qQ9 (a:=c) (b:=0) (by omega)
  have hb:=qQz b c
  have g4b:=zJl b c (by omega)
  have g5b:=zWx (n:=b.occ c) (by omega)
  cases k<;>exact f4 [(13,.H),(39,.z c),(40,.N (b.occ c)),(41,.z (b.occ c))] g1 g3 g4b g5b
 | .n2 k b d,c,h=>zXt fun g1 hi=>by
  have hm:=qQc
  have hb:=qQh
  have h:c+(1+b.cnt+d.cnt)≤mid:=h
  have g3:=qQ9 (a:=c) (b:=0) (by omega)
  have hb:=qQz b c
  have g4b:=zJl b c (by omega)
  have hd:=qQz d c
  have g4d:=zJl d c (by omega)
  have g5b:=zWx (n:=b.occ c) (by omega)
  have g5d:=qQ9 (a:=b.occ c) (b:=d.occ c) (by omega)
  cases k<;>exact f7 [(13,.H),(39,.z c),(40,.N (b.occ c)),(41,.z (b.occ c)),(39,.z c),(40,.N (d.occ c)),(41,.z (b.occ c+d.occ c))] g1 g3 g4b g5b g3 g4d g5d
 | .n3 k s b d w,c,h=>zXt fun g1 hi=>by
  have hm:=qQc
  have hb:=qQh
  have h:c+(1+b.cnt+d.cnt+w.cnt)≤mid:=h
  have g3:=qQ9 (a:=c) (b:=0) (by omega)
  have hb:=qQz b c
  have g4b:=zJl b c (by omega)
  have hd:=qQz d c
  have g4d:=zJl d c (by omega)
  have hw:=qQz w c
  have g4w:=zJl w c (by omega)
  have g5b:=zWx (n:=b.occ c) (by omega)
  have g5d:=qQ9 (a:=b.occ c) (b:=d.occ c) (by omega)
  have g5w:=qQ9 (a:=b.occ c+d.occ c) (b:=w.occ c) (by omega)
  cases k<;>exact f10 [(13,.H),(39,.z c),(40,.N (b.occ c)),(41,.z (b.occ c)),(39,.z c),(40,.N (d.occ c)),(41,.z (b.occ c+d.occ c)),(39,.z c),(40,.N (w.occ c)),(41,.z (b.occ c+d.occ c+w.occ c))] g1 g3 g4b g5b g3 g4d g5d g3 g4w g5w
theorem zEq:∀ {t r:Tm},t.red=some r→t.mx≤mid * mid→t.cnt≤mid→A 347 [t.nd'] r.nd':=by
 have hm:=qQc
 have hb:=qQh
 refine @qJ3 (fun t r=>t.mx≤mid * mid→t.cnt≤mid→A 347 [t.nd'] r.nd') ?_ ?_ ?_ ?_ ?_ ?_ ?_
 ·intro a b _ _
  exact f0 []
 ·intro a b _ _
  exact f0 []
 ·intro s b a h h'
  have h:max b.mx a.mx≤mid * mid:=h
  have h':1+(1+b.cnt)+a.cnt≤mid:=h'
  exact f1 [(30,.r (b.put 0 a 0).nd')] (zJk a (by omega) (by omega) b 0 (by omega) (by omega))
 ·intro s b f _ _
  exact f0 []
 ·intro s b f n h h'
  have h':1+b.cnt+f.cnt+(1+n.cnt)≤mid:=h'
  have g1:=qBy .re s b f (.n1 .succ n) b f n (by omega)
  have g2:=qRh f n (by omega)
  have g3:=qRh (.n2 .app f n) (.n3 .re s b f n) (by simp only [Tm.cnt];omega)
  exact f3 [(98,.r (Tm.n3 .re s b f n).nd'),(104,.r (Tm.n2 .app f n).nd'),(107,.r (Tm.n2 .app (.n2 .app f n) (.n3 .re s b f n)).nd')] g1 g2 g3
 ·intro s b f _ _
  exact f0 []
 ·intro s b f x l h h'
  have h':1+b.cnt+f.cnt+(1+x.cnt+l.cnt)≤mid:=h'
  have g1:=qBy .fo s b f (.n2 .cons x l) b f l (by omega)
  have g2:=zAn f x l (by omega)
  have g3:=qRh (.n2 .app (.n2 .app f x) l) (.n3 .fo s b f l) (by simp only [Tm.cnt];omega)
  exact f3 [(98,.r (Tm.n3 .fo s b f l).nd'),(104,.r (Tm.n2 .app (.n2 .app f x) l).nd'),(107,.r (Tm.n2 .app (.n2 .app (.n2 .app f x) l) (.n3 .fo s b f l)).nd')] g1 g2 g3
theorem zAo {a b c:Nat} (h:a * b≤big) (e:a * b=c):inB (Int.ofNat a * .ofNat b)=true∧Int.ofNat a * .ofNat b = .ofNat c:=⟨inb (n:=a * b) h,by rw [← e];rfl⟩
theorem qL4 {a b c:Nat} (h:a+b≤big) (e:a+b=c):inB (Int.ofNat a + .ofNat b)=true∧Int.ofNat a + .ofNat b = .ofNat c:=by rw [← e];exact qQ9 h
theorem zIj:∀ {t r:Tm},t.red=some r→t.mx≤mid * mid→t.cnt≤mid→A 346 [t.nd'] (num r.cnt):=by
 have hm:=qQc
 have hb:=qQh
 refine @qJ3 (fun t r=>t.mx≤mid * mid→t.cnt≤mid→A 346 [t.nd'] (num r.cnt)) ?_ ?_ ?_ ?_ ?_ ?_ ?_
 ·intro a b h h'
  exact f1 [(183,.r a.nd')] (zEq (t:=.n1 .fst (.n2 .pair a b)) rfl h h')
 ·intro a b h h'
  exact f1 [(183,.r b.nd')] (zEq (t:=.n1 .snd (.n2 .pair a b)) rfl h h')
 ·intro s b a h h'
  have h':1+(1+b.cnt)+a.cnt≤mid:=h'
  have e1:=qJn 0 a b 0
  have e2:=qQz b 0
  have ca:=qB8 a
  simp only [Nat.add_zero] at e1
  have e3:b.occ 0 * (a.cnt-1)≤mid * mid:=Nat.mul_le_mul (by omega) (by omega)
  have e4:b.occ 0 * (a.cnt-1)+b.occ 0=b.occ 0 * a.cnt:=by
   obtain⟨k,hk⟩:∃ k,a.cnt=k+1:=⟨a.cnt-1,by omega⟩
   rw [hk,Nat.add_sub_cancel,Nat.mul_succ]
  rw [hm] at e3
  exact f4 [(27,.N (b.occ 0)),(37,.z (a.cnt-1)),(38,.z (b.occ 0 * (a.cnt-1))),(39,.z (b.put 0 a 0).cnt)] (zJl b 0 (by omega)) (qVm (a:=a.cnt) ca (by omega)) (zAo (a:=b.occ 0) (b:=a.cnt-1) (by omega) rfl) (qL4 (a:=b.cnt) (b:=b.occ 0 * (a.cnt-1)) (c:=(b.put 0 a 0).cnt) (by omega) (by omega))
 ·intro s b f _ _
  exact f0 []
 ·intro s b f n h h'
  have h':1+b.cnt+f.cnt+(1+n.cnt)≤mid:=h'
  have g1:=qL4 (a:=2) (b:=f.cnt) (by omega) rfl
  have g2:=zAo (a:=2) (b:=n.cnt) (by omega) rfl
  have g3:=qL4 (a:=2+f.cnt) (b:=2 * n.cnt) (by omega) rfl
  have g4:=qL4 (a:=2+f.cnt+2 * n.cnt) (b:=1) (by omega) rfl
  have g5:=qL4 (a:=2+f.cnt+2 * n.cnt+1) (b:=b.cnt) (by omega) rfl
  have g6:=qL4 (a:=2+f.cnt+2 * n.cnt+1+b.cnt) (b:=f.cnt) (c:=(Tm.n2 .app (.n2 .app f n) (.n3 .re s b f n)).cnt) (by omega) (by simp only [Tm.cnt];omega)
  exact f6 [(61,.z (2+f.cnt)),(76,.z (2 * n.cnt)),(77,.z (2+f.cnt+2 * n.cnt)),(78,.z (2+f.cnt+2 * n.cnt+1)),(88,.z (2+f.cnt+2 * n.cnt+1+b.cnt)),(98,.z (Tm.n2 .app (.n2 .app f n) (.n3 .re s b f n)).cnt)] g1 g2 g3 g4 g5 g6
 ·intro s b f _ _
  exact f0 []
 ·intro s b f x l h h'
  have h':1+b.cnt+f.cnt+(1+x.cnt+l.cnt)≤mid:=h'
  have g1:=qL4 (a:=3) (b:=f.cnt) (by omega) rfl
  have g2:=qL4 (a:=3+f.cnt) (b:=x.cnt) (by omega) rfl
  have g2':=zAo (a:=2) (b:=l.cnt) (by omega) rfl
  have g3:=qL4 (a:=3+f.cnt+x.cnt) (b:=2 * l.cnt) (by omega) rfl
  have g4:=qL4 (a:=3+f.cnt+x.cnt+2 * l.cnt) (b:=1) (by omega) rfl
  have g5:=qL4 (a:=3+f.cnt+x.cnt+2 * l.cnt+1) (b:=b.cnt) (by omega) rfl
  have g6:=qL4 (a:=3+f.cnt+x.cnt+2 * l.cnt+1+b.cnt) (b:=f.cnt) (c:=(Tm.n2 .app (.n2 .app (.n2 .app f x) l) (.n3 .fo s b f l)).cnt) (by omega) (by simp only [Tm.cnt];omega)
  exact f7 [(130,.z (3+f.cnt)),(140,.z (3+f.cnt+x.cnt)),(150,.z (2 * l.cnt)),(151,.z (3+f.cnt+x.cnt+2 * l.cnt)),(152,.z (3+f.cnt+x.cnt+2 * l.cnt+1)),(162,.z (3+f.cnt+x.cnt+2 * l.cnt+1+b.cnt)),(172,.z (Tm.n2 .app (.n2 .app (.n2 .app f x) l) (.n3 .fo s b f l)).cnt)] g1 g2 g2' g3 g4 g5 g6
abbrev W2 (y x:PV):Prop:=some ({ x:=.pv y,ch:=[],nw:=[],nx:=0 } : Res)=some { x:=.pv x,ch:=[],nw:=[],nx:=0 }
theorem W2.of {y x:PV} (h:y=x):W2 y x:=by rw [h]
section
variable {f:Nat} {args:List PV} {x:PV}
theorem w0 (tp:Di) (ko:Kp) (y z:PV) {b:Bool} (hb:b=true→y=x)  (hz:z=x) (e:((b=true→W2 y x)∧W2 z x)=qT0 ev Tryz.prog 100 6 f args tp ko x:=by kernel_rfl):A f args x:=qKx qDg (Eq.mp e ⟨fun h => .of (hb h),.of hz⟩)
theorem w1 (tp:Di) (ko:Kp) (y z:PV) {b:Bool} {H1:Prop} (hb:b=true→y=x) (h1:H1) (hz:z=x) (e:((b=true→W2 y x)∧H1∧W2 z x)=qT0 ev Tryz.prog 100 6 f args tp ko x:=by kernel_rfl):A f args x:=qKx qDg (Eq.mp e ⟨fun h => .of (hb h),h1,.of hz⟩)
theorem w2 (tp:Di) (ko:Kp) (y z:PV) {b:Bool} {H1 H2:Prop} (hb:b=true→y=x) (h1:H1) (h2:H2) (hz:z=x) (e:((b=true→W2 y x)∧H1∧H2∧W2 z x)=qT0 ev Tryz.prog 100 6 f args tp ko x:=by kernel_rfl):A f args x:=qKx qDg (Eq.mp e ⟨fun h => .of (hb h),h1,h2,.of hz⟩)
theorem w3 (tp:Di) (ko:Kp) (y z:PV) {b:Bool} {H1 H2 H3:Prop} (hb:b=true→y=x) (h1:H1) (h2:H2) (h3:H3) (hz:z=x) (e:((b=true→W2 y x)∧H1∧H2∧H3∧W2 z x)=qT0 ev Tryz.prog 100 6 f args tp ko x:=by kernel_rfl):A f args x:=qKx qDg (Eq.mp e ⟨fun h => .of (hb h),h1,h2,h3,.of hz⟩)
theorem w4 (tp:Di) (ko:Kp) (y z:PV) {b:Bool} {H1 H2 H3 H4:Prop} (hb:b=true→y=x) (h1:H1) (h2:H2) (h3:H3) (h4:H4) (hz:z=x) (e:((b=true→W2 y x)∧H1∧H2∧H3∧H4∧W2 z x)=qT0 ev Tryz.prog 100 6 f args tp ko x:=by kernel_rfl):A f args x:=qKx qDg (Eq.mp e ⟨fun h => .of (hb h),h1,h2,h3,h4,.of hz⟩)
theorem w5 (tp:Di) (ko:Kp) (y z:PV) {b:Bool} {H1 H2 H3 H4 H5:Prop} (hb:b=true→y=x) (h1:H1) (h2:H2) (h3:H3) (h4:H4) (h5:H5) (hz:z=x) (e:((b=true→W2 y x)∧H1∧H2∧H3∧H4∧H5∧W2 z x)=qT0 ev Tryz.prog 100 6 f args tp ko x:=by kernel_rfl):A f args x:=qKx qDg (Eq.mp e ⟨fun h => .of (hb h),h1,h2,h3,h4,h5,.of hz⟩)
theorem w6 (tp:Di) (ko:Kp) (y z:PV) {b:Bool} {H1 H2 H3 H4 H5 H6:Prop} (hb:b=true→y=x) (h1:H1) (h2:H2) (h3:H3) (h4:H4) (h5:H5) (h6:H6) (hz:z=x) (e:((b=true→W2 y x)∧H1∧H2∧H3∧H4∧H5∧H6∧W2 z x)=qT0 ev Tryz.prog 100 6 f args tp ko x:=by kernel_rfl):A f args x:=qKx qDg (Eq.mp e ⟨fun h => .of (hb h),h1,h2,h3,h4,h5,h6,.of hz⟩)
end
theorem zW3:∀ {t r:Tm},t.red=some r→t.cnt≤mid→r.cnt≤4 * mid+mid * mid:=by
 refine @qJ3 (fun t r=>t.cnt≤mid→r.cnt≤4 * mid+mid * mid) ?_ ?_ ?_ ?_ ?_ ?_ ?_
 ·intro a b h
  simp only [Tm.cnt] at h;omega
 ·intro a b h
  simp only [Tm.cnt] at h;omega
 ·intro s b a h
  simp only [Tm.cnt] at h
  have:=qWw 0 (S:=a) (t:=b) 0 (by omega) (by omega)
  omega
 ·intro s b f h
  simp only [Tm.cnt] at h;omega
 ·intro s b f n h
  simp only [Tm.cnt] at h ⊢;omega
 ·intro s b f h
  simp only [Tm.cnt] at h;omega
 ·intro s b f h l h
  simp only [Tm.cnt] at h ⊢;omega
inductive SR where
 | er|no|ok (x:Tm)
def SR.q:SR→PV
 | .er => .tuple [.nil,num 4]
 | .no => .tuple [.nil,num 0]
 | .ok x => .tuple [x.nd',num 0]
def SR.Good (t:Tm) (z:Int) (r:SR):Prop:=(t.nf=true↔r = .no)∧match r with
 | .ok x=>(x.cnt:Int)≤t.cnt+z∧x.mx≤t.mx+t.cnt ∧ ∀ n,t.sc n→t.shp=true→x.sc n∧x.shp=true
 | _=>True
theorem SR.Good.hb {t:Tm} {z:Int} {r:SR} (h:r.Good t z):t.nf=true→PV.tuple [.nil,num 0]=r.q:=fun e=>by rw [h.1.1 e];rfl
theorem zEr {t r:Tm} (h:t.red=some r) (hn:t.nf=false) (z:Int) (h1:t.mx≤mid * mid) (h2:t.cnt≤mid):∃ r:SR,A 339 [t.nd',.int z] r.q∧r.Good t z:=by
 have hm:=qQc
 have hb:=qQh
 have g1:=qL3 t
 rw [h] at g1
 have g2:=zIj h h1 h2
 have g3:=zEq h h1 h2
 have c:=zW3 h h2
 have g4:=zXq (i:=r.cnt) (d:=t.cnt) (by rw [hm] at c;omega) (by omega)
 cases e:ltI z (Int.ofNat r.cnt - .ofNat t.cnt)
 ·have hg:(SR.ok r).Good t z:=by
   rw [qQs] at e
   simp at e
   refine⟨⟨fun h=>absurd (hn.symm.trans h) (by decide),fun h=>(by cases h)⟩,by omega,(zZ6 h).1,fun n h3 h4=>zAk n h h3 h4⟩
  refine⟨.ok r,?_,hg⟩
  exact w5 [(16,.T),(18,.N r.cnt),(23,.y (Int.ofNat r.cnt - .ofNat t.cnt)),(25,.H),(27,.r r.nd')] (kp [4,5]) (.tuple [.nil,num 0]) (.tuple [r.nd',num 0]) hg.hb g1 g2 g4 e g3 rfl
 ·have hg:SR.er.Good t z:=⟨⟨fun h=>absurd (hn.symm.trans h) (by decide),fun h=>(by cases h)⟩,trivial⟩
  refine⟨.er,?_,hg⟩
  exact w4 [(16,.T),(18,.N r.cnt),(23,.y (Int.ofNat r.cnt - .ofNat t.cnt)),(25,.G)] (kp [4,5]) (.tuple [.nil,num 0]) (.tuple [.nil,num 4]) hg.hb g1 g2 g4 e rfl
theorem zJm (z:Int) (hz:z≤mid):∀ (t:Tm),t.mx≤mid * mid→t.cnt≤mid→∃ r:SR,A 339 [t.nd',.int z] r.q∧r.Good t z
 | .v i,h,h'=>⟨.no,w2 [(16,.F),(99999,.s)] (kp [4,5]) (.tuple [.nil,num 0]) (.tuple [.nil,num 0]) (b:=true) (fun _=>rfl) (qL3 (.v i)) (rfl:true=true) rfl,⟨fun _=>rfl,fun _=>rfl⟩,trivial⟩
 | .n0 k,h,h'=>⟨.no,by have g:=qL3 (.n0 k);cases k<;>exact w2 [(16,.F),(99999,.s)] (kp [4,5]) (.tuple [.nil,num 0]) (.tuple [.nil,num 0]) (b:=true) (fun _=>rfl) g (rfl:true=true) rfl,⟨fun _=>rfl,fun _=>rfl⟩,trivial⟩
 | .lam s b,h,h'=>by
  have hm:=qQc
  have hb:=qQh
  have h:b.mx≤mid * mid:=h
  have h':1+b.cnt≤mid:=h'
  have g0:=qL3 (Tm.lam s b)
  obtain⟨rb,gb,qb,sb⟩:=zJm z hz b (by omega) (by omega)
  cases rb with
  | er =>
   have hg:SR.er.Good (Tm.lam s b) z:=⟨⟨fun e=>(by have:=qb.1 (e);cases this),fun e=>(by cases e)⟩,trivial⟩
   exact⟨.er,w2 [(16,.F),(41,.r SR.er.q)] (kp [4,5]) (.tuple [.nil,num 0]) (.tuple [.nil,num 4]) hg.hb g0 gb rfl,hg⟩
  | ok x =>
   obtain⟨sx1,sx2,sx3⟩:=sb
   have hg:(SR.ok (Tm.lam s x)).Good (Tm.lam s b) z:=by
    refine⟨⟨fun e=>(by have:=qb.1 (e);cases this),fun e=>(by cases e)⟩,?_,?_,?_⟩
    ·simp only [Tm.cnt];omega
    ·simp only [Tm.cnt,Tm.mx];omega
    ·intro n h3 h4
     obtain⟨h5,h6⟩:=qQ3 h4
     obtain⟨h7,h8⟩:=sx3 (n+1) h3 h6
     exact⟨h7,by show (_ && _)=true;rw [h5,h8];rfl⟩
   have g5:=qRf s b x (by omega) (by have:=qBw x;rw [hm] at h;omega)
   exact⟨.ok (Tm.lam s x),w4 [(16,.F),(41,.r (SR.ok x).q),(300015,.f 0 [[x.nd']]),(60,.r (Tm.lam s x).nd')] (kp [4,5]) (.tuple [.nil,num 0]) (.tuple [(Tm.lam s x).nd',num 0]) hg.hb g0 gb (rfl:pvE [[x.nd']]=pvE [[x.nd']]) g5 rfl,hg⟩
  | no =>
  have hn:(Tm.lam s b).nf=true:=by
   simp only [Tm.nf,qb.2 rfl];try rfl
  have hg:SR.no.Good (Tm.lam s b) z:=⟨⟨fun _=>rfl,fun _=>hn⟩,trivial⟩
  exact⟨.no,w3 [(16,.F),(41,.r SR.no.q),(99999,.s)] (kp [4,5]) (.tuple [.nil,num 0]) (.tuple [.nil,num 0]) hg.hb g0 gb hn rfl,hg⟩
 | .n1 k b,h,h'=>by
  have hm:=qQc
  have hb:=qQh
  have h:b.mx≤mid * mid:=h
  have h':1+b.cnt≤mid:=h'
  cases hr:(Tm.n1 k b).red with
  | some r=>exact zEr hr (by simp only [Tm.nf,hr];rfl) z h h'
  | none =>
  have g0:=qL3 (Tm.n1 k b)
  rw [hr] at g0
  obtain⟨rb,gb,qb,sb⟩:=zJm z hz b (by omega) (by omega)
  cases rb with
  | er =>
   have hg:SR.er.Good (Tm.n1 k b) z:=⟨⟨fun e=>(by have:=qb.1 ((qQ3 e).2);cases this),fun e=>(by cases e)⟩,trivial⟩
   cases k with
   | succ=>exact⟨.er,w2 [(16,.F),(41,.r SR.er.q)] (kp [4,5]) (.tuple [.nil,num 0]) (.tuple [.nil,num 4]) hg.hb g0 gb rfl,hg⟩
   | fst=>exact⟨.er,w2 [(16,.F),(41,.r SR.er.q)] (kp [4,5]) (.tuple [.nil,num 0]) (.tuple [.nil,num 4]) hg.hb g0 gb rfl,hg⟩
   | snd=>exact⟨.er,w2 [(16,.F),(41,.r SR.er.q)] (kp [4,5]) (.tuple [.nil,num 0]) (.tuple [.nil,num 4]) hg.hb g0 gb rfl,hg⟩
  | ok x =>
   obtain⟨sx1,sx2,sx3⟩:=sb
   have hg:(SR.ok (Tm.n1 k x)).Good (Tm.n1 k b) z:=by
    refine⟨⟨fun e=>(by have:=qb.1 ((qQ3 e).2);cases this),fun e=>(by cases e)⟩,?_,?_,?_⟩
    ·simp only [Tm.cnt];omega
    ·simp only [Tm.cnt,Tm.mx];omega
    ·intro n h3 h4
     exact sx3 n h3 h4
   have g5:=qRg k b x (by omega)
   cases k with
   | succ=>exact⟨.ok (Tm.n1 .succ x),w4 [(16,.F),(41,.r (SR.ok x).q),(300015,.f 0 [[x.nd']]),(60,.r (Tm.n1 .succ x).nd')] (kp [4,5]) (.tuple [.nil,num 0]) (.tuple [(Tm.n1 .succ x).nd',num 0]) hg.hb g0 gb (rfl:pvE [[x.nd']]=pvE [[x.nd']]) g5 rfl,hg⟩
   | fst=>exact⟨.ok (Tm.n1 .fst x),w4 [(16,.F),(41,.r (SR.ok x).q),(300015,.f 0 [[x.nd']]),(60,.r (Tm.n1 .fst x).nd')] (kp [4,5]) (.tuple [.nil,num 0]) (.tuple [(Tm.n1 .fst x).nd',num 0]) hg.hb g0 gb (rfl:pvE [[x.nd']]=pvE [[x.nd']]) g5 rfl,hg⟩
   | snd=>exact⟨.ok (Tm.n1 .snd x),w4 [(16,.F),(41,.r (SR.ok x).q),(300015,.f 0 [[x.nd']]),(60,.r (Tm.n1 .snd x).nd')] (kp [4,5]) (.tuple [.nil,num 0]) (.tuple [(Tm.n1 .snd x).nd',num 0]) hg.hb g0 gb (rfl:pvE [[x.nd']]=pvE [[x.nd']]) g5 rfl,hg⟩
  | no =>
  have hn:(Tm.n1 k b).nf=true:=by
   simp only [Tm.nf,hr,qb.2 rfl];try rfl
  have hg:SR.no.Good (Tm.n1 k b) z:=⟨⟨fun _=>rfl,fun _=>hn⟩,trivial⟩
  cases k with
  | succ=>exact⟨.no,w3 [(16,.F),(41,.r SR.no.q),(99999,.s)] (kp [4,5]) (.tuple [.nil,num 0]) (.tuple [.nil,num 0]) hg.hb g0 gb hn rfl,hg⟩
  | fst=>exact⟨.no,w3 [(16,.F),(41,.r SR.no.q),(99999,.s)] (kp [4,5]) (.tuple [.nil,num 0]) (.tuple [.nil,num 0]) hg.hb g0 gb hn rfl,hg⟩
  | snd=>exact⟨.no,w3 [(16,.F),(41,.r SR.no.q),(99999,.s)] (kp [4,5]) (.tuple [.nil,num 0]) (.tuple [.nil,num 0]) hg.hb g0 gb hn rfl,hg⟩
 | .n2 k b d,h,h'=>by
  have hm:=qQc
  have hb:=qQh
  have h:max b.mx d.mx≤mid * mid:=h
  have h':1+b.cnt+d.cnt≤mid:=h'
  cases hr:(Tm.n2 k b d).red with
  | some r=>exact zEr hr (by simp only [Tm.nf,hr];rfl) z h h'
  | none =>
  have g0:=qL3 (Tm.n2 k b d)
  rw [hr] at g0
  obtain⟨rb,gb,qb,sb⟩:=zJm z hz b (by omega) (by omega)
  cases rb with
  | er =>
   have hg:SR.er.Good (Tm.n2 k b d) z:=⟨⟨fun e=>(by have:=qb.1 ((qQ3 (qQ3 e).2).1);cases this),fun e=>(by cases e)⟩,trivial⟩
   cases k with
   | app=>exact⟨.er,w2 [(16,.F),(41,.r SR.er.q)] (kp [4,5]) (.tuple [.nil,num 0]) (.tuple [.nil,num 4]) hg.hb g0 gb rfl,hg⟩
   | cons=>exact⟨.er,w2 [(16,.F),(41,.r SR.er.q)] (kp [4,5]) (.tuple [.nil,num 0]) (.tuple [.nil,num 4]) hg.hb g0 gb rfl,hg⟩
   | pair=>exact⟨.er,w2 [(16,.F),(41,.r SR.er.q)] (kp [4,5]) (.tuple [.nil,num 0]) (.tuple [.nil,num 4]) hg.hb g0 gb rfl,hg⟩
  | ok x =>
   obtain⟨sx1,sx2,sx3⟩:=sb
   have cd:=qB8 d
   have hg:(SR.ok (Tm.n2 k x d)).Good (Tm.n2 k b d) z:=by
    refine⟨⟨fun e=>(by have:=qb.1 ((qQ3 (qQ3 e).2).1);cases this),fun e=>(by cases e)⟩,?_,?_,?_⟩
    ·simp only [Tm.cnt];omega
    ·simp only [Tm.cnt,Tm.mx];omega
    ·intro n h3 h4
     obtain⟨h5,h6⟩:=qQ3 h4
     obtain⟨h7,h8⟩:=sx3 n h3.1 h5
     exact⟨⟨h7,h3.2⟩,by show (_ && _)=true;rw [h6,h8];rfl⟩
   have g5:=qL2 k b d x d (by omega)
   cases k with
   | app=>exact⟨.ok (Tm.n2 .app x d),w4 [(16,.F),(41,.r (SR.ok x).q),(300015,.f 0 [[x.nd'],[d.nd']]),(60,.r (Tm.n2 .app x d).nd')] (kp [4,5]) (.tuple [.nil,num 0]) (.tuple [(Tm.n2 .app x d).nd',num 0]) hg.hb g0 gb (rfl:pvE [[x.nd'],[d.nd']]=pvE [[x.nd'],[d.nd']]) g5 rfl,hg⟩
   | cons=>exact⟨.ok (Tm.n2 .cons x d),w4 [(16,.F),(41,.r (SR.ok x).q),(300015,.f 0 [[x.nd'],[d.nd']]),(60,.r (Tm.n2 .cons x d).nd')] (kp [4,5]) (.tuple [.nil,num 0]) (.tuple [(Tm.n2 .cons x d).nd',num 0]) hg.hb g0 gb (rfl:pvE [[x.nd'],[d.nd']]=pvE [[x.nd'],[d.nd']]) g5 rfl,hg⟩
   | pair=>exact⟨.ok (Tm.n2 .pair x d),w4 [(16,.F),(41,.r (SR.ok x).q),(300015,.f 0 [[x.nd'],[d.nd']]),(60,.r (Tm.n2 .pair x d).nd')] (kp [4,5]) (.tuple [.nil,num 0]) (.tuple [(Tm.n2 .pair x d).nd',num 0]) hg.hb g0 gb (rfl:pvE [[x.nd'],[d.nd']]=pvE [[x.nd'],[d.nd']]) g5 rfl,hg⟩
  | no =>
  obtain⟨rd,gd,qd,sd⟩:=zJm z hz d (by omega) (by omega)
  cases rd with
  | er =>
   have hg:SR.er.Good (Tm.n2 k b d) z:=⟨⟨fun e=>(by have:=qd.1 ((qQ3 (qQ3 e).2).2);cases this),fun e=>(by cases e)⟩,trivial⟩
   cases k with
   | app=>exact⟨.er,w3 [(16,.F),(41,.r SR.no.q),(41,.r SR.er.q)] (kp [4,5]) (.tuple [.nil,num 0]) (.tuple [.nil,num 4]) hg.hb g0 gb gd rfl,hg⟩
   | cons=>exact⟨.er,w3 [(16,.F),(41,.r SR.no.q),(41,.r SR.er.q)] (kp [4,5]) (.tuple [.nil,num 0]) (.tuple [.nil,num 4]) hg.hb g0 gb gd rfl,hg⟩
   | pair=>exact⟨.er,w3 [(16,.F),(41,.r SR.no.q),(41,.r SR.er.q)] (kp [4,5]) (.tuple [.nil,num 0]) (.tuple [.nil,num 4]) hg.hb g0 gb gd rfl,hg⟩
  | ok x =>
   obtain⟨sx1,sx2,sx3⟩:=sd
   have cb:=qB8 b
   have hg:(SR.ok (Tm.n2 k b x)).Good (Tm.n2 k b d) z:=by
    refine⟨⟨fun e=>(by have:=qd.1 ((qQ3 (qQ3 e).2).2);cases this),fun e=>(by cases e)⟩,?_,?_,?_⟩
    ·simp only [Tm.cnt];omega
    ·simp only [Tm.cnt,Tm.mx];omega
    ·intro n h3 h4
     obtain⟨h5,h6⟩:=qQ3 h4
     obtain⟨h7,h8⟩:=sx3 n h3.2 h6
     exact⟨⟨h3.1,h7⟩,by show (_ && _)=true;rw [h5,h8];rfl⟩
   have g5:=qL2 k b d b x (by omega)
   cases k with
   | app=>exact⟨.ok (Tm.n2 .app b x),w5 [(16,.F),(41,.r SR.no.q),(41,.r (SR.ok x).q),(300015,.f 0 [[b.nd'],[x.nd']]),(60,.r (Tm.n2 .app b x).nd')] (kp [4,5]) (.tuple [.nil,num 0]) (.tuple [(Tm.n2 .app b x).nd',num 0]) hg.hb g0 gb gd (rfl:pvE [[b.nd'],[x.nd']]=pvE [[b.nd'],[x.nd']]) g5 rfl,hg⟩
   | cons=>exact⟨.ok (Tm.n2 .cons b x),w5 [(16,.F),(41,.r SR.no.q),(41,.r (SR.ok x).q),(300015,.f 0 [[b.nd'],[x.nd']]),(60,.r (Tm.n2 .cons b x).nd')] (kp [4,5]) (.tuple [.nil,num 0]) (.tuple [(Tm.n2 .cons b x).nd',num 0]) hg.hb g0 gb gd (rfl:pvE [[b.nd'],[x.nd']]=pvE [[b.nd'],[x.nd']]) g5 rfl,hg⟩
   | pair=>exact⟨.ok (Tm.n2 .pair b x),w5 [(16,.F),(41,.r SR.no.q),(41,.r (SR.ok x).q),(300015,.f 0 [[b.nd'],[x.nd']]),(60,.r (Tm.n2 .pair b x).nd')] (kp [4,5]) (.tuple [.nil,num 0]) (.tuple [(Tm.n2 .pair b x).nd',num 0]) hg.hb g0 gb gd (rfl:pvE [[b.nd'],[x.nd']]=pvE [[b.nd'],[x.nd']]) g5 rfl,hg⟩
  | no =>
  have hn:(Tm.n2 k b d).nf=true:=by
   simp only [Tm.nf,hr,qb.2 rfl,qd.2 rfl];try rfl
  have hg:SR.no.Good (Tm.n2 k b d) z:=⟨⟨fun _=>rfl,fun _=>hn⟩,trivial⟩
  cases k with
  | app=>exact⟨.no,w4 [(16,.F),(41,.r SR.no.q),(41,.r SR.no.q),(99999,.s)] (kp [4,5]) (.tuple [.nil,num 0]) (.tuple [.nil,num 0]) hg.hb g0 gb gd hn rfl,hg⟩
  | cons=>exact⟨.no,w4 [(16,.F),(41,.r SR.no.q),(41,.r SR.no.q),(99999,.s)] (kp [4,5]) (.tuple [.nil,num 0]) (.tuple [.nil,num 0]) hg.hb g0 gb gd hn rfl,hg⟩
  | pair=>exact⟨.no,w4 [(16,.F),(41,.r SR.no.q),(41,.r SR.no.q),(99999,.s)] (kp [4,5]) (.tuple [.nil,num 0]) (.tuple [.nil,num 0]) hg.hb g0 gb gd hn rfl,hg⟩
 | .n3 k s b d w,h,h'=>by
  have hm:=qQc
  have hb:=qQh
  have h:max b.mx (max d.mx w.mx)≤mid * mid:=h
  have h':1+b.cnt+d.cnt+w.cnt≤mid:=h'
  cases hr:(Tm.n3 k s b d w).red with
  | some r=>exact zEr hr (by simp only [Tm.nf,hr];rfl) z h h'
  | none =>
  have g0:=qL3 (Tm.n3 k s b d w)
  rw [hr] at g0
  obtain⟨rb,gb,qb,sb⟩:=zJm z hz b (by omega) (by omega)
  cases rb with
  | er =>
   have hg:SR.er.Good (Tm.n3 k s b d w) z:=⟨⟨fun e=>(by have:=qb.1 ((qQ3 (qQ3 e).2).1);cases this),fun e=>(by cases e)⟩,trivial⟩
   cases k with
   | re=>exact⟨.er,w2 [(16,.F),(41,.r SR.er.q)] (kp [4,5]) (.tuple [.nil,num 0]) (.tuple [.nil,num 4]) hg.hb g0 gb rfl,hg⟩
   | fo=>exact⟨.er,w2 [(16,.F),(41,.r SR.er.q)] (kp [4,5]) (.tuple [.nil,num 0]) (.tuple [.nil,num 4]) hg.hb g0 gb rfl,hg⟩
  | ok x =>
   obtain⟨sx1,sx2,sx3⟩:=sb
   have cd:=qB8 d
   have cw:=qB8 w
   have hg:(SR.ok (Tm.n3 k s x d w)).Good (Tm.n3 k s b d w) z:=by
    refine⟨⟨fun e=>(by have:=qb.1 ((qQ3 (qQ3 e).2).1);cases this),fun e=>(by cases e)⟩,?_,?_,?_⟩
    ·simp only [Tm.cnt];omega
    ·simp only [Tm.cnt,Tm.mx];omega
    ·intro n h3 h4
     obtain⟨k1,k2⟩:=qQ3 h4
     obtain⟨k2,k3⟩:=qQ3 k2
     obtain⟨k3,k4⟩:=qQ3 k3
     obtain⟨h7,h8⟩:=sx3 n h3.1 k2
     exact⟨⟨h7,h3.2.1,h3.2.2⟩,by show (_ && (_ && (_ && _)))=true;rw [k1,h8,k3,k4];rfl⟩
   have g5:=qBy k s b d w x d w (by omega)
   cases k with
   | re=>exact⟨.ok (Tm.n3 .re s x d w),w4 [(16,.F),(41,.r (SR.ok x).q),(300015,.f 0 [[x.nd'],[d.nd'],[w.nd']]),(60,.r (Tm.n3 .re s x d w).nd')] (kp [4,5]) (.tuple [.nil,num 0]) (.tuple [(Tm.n3 .re s x d w).nd',num 0]) hg.hb g0 gb (rfl:pvE [[x.nd'],[d.nd'],[w.nd']]=pvE [[x.nd'],[d.nd'],[w.nd']]) g5 rfl,hg⟩
   | fo=>exact⟨.ok (Tm.n3 .fo s x d w),w4 [(16,.F),(41,.r (SR.ok x).q),(300015,.f 0 [[x.nd'],[d.nd'],[w.nd']]),(60,.r (Tm.n3 .fo s x d w).nd')] (kp [4,5]) (.tuple [.nil,num 0]) (.tuple [(Tm.n3 .fo s x d w).nd',num 0]) hg.hb g0 gb (rfl:pvE [[x.nd'],[d.nd'],[w.nd']]=pvE [[x.nd'],[d.nd'],[w.nd']]) g5 rfl,hg⟩
  | no =>
  obtain⟨rd,gd,qd,sd⟩:=zJm z hz d (by omega) (by omega)
  cases rd with
  | er =>
   have hg:SR.er.Good (Tm.n3 k s b d w) z:=⟨⟨fun e=>(by have:=qd.1 ((qQ3 (qQ3 (qQ3 e).2).2).1);cases this),fun e=>(by cases e)⟩,trivial⟩
   cases k with
   | re=>exact⟨.er,w3 [(16,.F),(41,.r SR.no.q),(41,.r SR.er.q)] (kp [4,5]) (.tuple [.nil,num 0]) (.tuple [.nil,num 4]) hg.hb g0 gb gd rfl,hg⟩
   | fo=>exact⟨.er,w3 [(16,.F),(41,.r SR.no.q),(41,.r SR.er.q)] (kp [4,5]) (.tuple [.nil,num 0]) (.tuple [.nil,num 4]) hg.hb g0 gb gd rfl,hg⟩
  | ok x =>
   obtain⟨sx1,sx2,sx3⟩:=sd
   have cb:=qB8 b
   have cw:=qB8 w
   have hg:(SR.ok (Tm.n3 k s b x w)).Good (Tm.n3 k s b d w) z:=by
    refine⟨⟨fun e=>(by have:=qd.1 ((qQ3 (qQ3 (qQ3 e).2).2).1);cases this),fun e=>(by cases e)⟩,?_,?_,?_⟩
    ·simp only [Tm.cnt];omega
    ·simp only [Tm.cnt,Tm.mx];omega
    ·intro n h3 h4
     obtain⟨k1,k2⟩:=qQ3 h4
     obtain⟨k2,k3⟩:=qQ3 k2
     obtain⟨k3,k4⟩:=qQ3 k3
     obtain⟨h7,h8⟩:=sx3 n h3.2.1 k3
     exact⟨⟨h3.1,h7,h3.2.2⟩,by show (_ && (_ && (_ && _)))=true;rw [k1,k2,h8,k4];rfl⟩
   have g5:=qBy k s b d w b x w (by omega)
   cases k with
   | re=>exact⟨.ok (Tm.n3 .re s b x w),w5 [(16,.F),(41,.r SR.no.q),(41,.r (SR.ok x).q),(300015,.f 0 [[b.nd'],[x.nd'],[w.nd']]),(60,.r (Tm.n3 .re s b x w).nd')] (kp [4,5]) (.tuple [.nil,num 0]) (.tuple [(Tm.n3 .re s b x w).nd',num 0]) hg.hb g0 gb gd (rfl:pvE [[b.nd'],[x.nd'],[w.nd']]=pvE [[b.nd'],[x.nd'],[w.nd']]) g5 rfl,hg⟩
   | fo=>exact⟨.ok (Tm.n3 .fo s b x w),w5 [(16,.F),(41,.r SR.no.q),(41,.r (SR.ok x).q),(300015,.f 0 [[b.nd'],[x.nd'],[w.nd']]),(60,.r (Tm.n3 .fo s b x w).nd')] (kp [4,5]) (.tuple [.nil,num 0]) (.tuple [(Tm.n3 .fo s b x w).nd',num 0]) hg.hb g0 gb gd (rfl:pvE [[b.nd'],[x.nd'],[w.nd']]=pvE [[b.nd'],[x.nd'],[w.nd']]) g5 rfl,hg⟩
  | no =>
  obtain⟨rw,gw,qw,sw⟩:=zJm z hz w (by omega) (by omega)
  cases rw with
  | er =>
   have hg:SR.er.Good (Tm.n3 k s b d w) z:=⟨⟨fun e=>(by have:=qw.1 ((qQ3 (qQ3 (qQ3 e).2).2).2);cases this),fun e=>(by cases e)⟩,trivial⟩
   cases k with
   | re=>exact⟨.er,w4 [(16,.F),(41,.r SR.no.q),(41,.r SR.no.q),(41,.r SR.er.q)] (kp [4,5]) (.tuple [.nil,num 0]) (.tuple [.nil,num 4]) hg.hb g0 gb gd gw rfl,hg⟩
   | fo=>exact⟨.er,w4 [(16,.F),(41,.r SR.no.q),(41,.r SR.no.q),(41,.r SR.er.q)] (kp [4,5]) (.tuple [.nil,num 0]) (.tuple [.nil,num 4]) hg.hb g0 gb gd gw rfl,hg⟩
  | ok x =>
   obtain⟨sx1,sx2,sx3⟩:=sw
   have cb:=qB8 b
   have cd:=qB8 d
   have hg:(SR.ok (Tm.n3 k s b d x)).Good (Tm.n3 k s b d w) z:=by
    refine⟨⟨fun e=>(by have:=qw.1 ((qQ3 (qQ3 (qQ3 e).2).2).2);cases this),fun e=>(by cases e)⟩,?_,?_,?_⟩
    ·simp only [Tm.cnt];omega
    ·simp only [Tm.cnt,Tm.mx];omega
    ·intro n h3 h4
     obtain⟨k1,k2⟩:=qQ3 h4
     obtain⟨k2,k3⟩:=qQ3 k2
     obtain⟨k3,k4⟩:=qQ3 k3
     obtain⟨h7,h8⟩:=sx3 n h3.2.2 k4
     exact⟨⟨h3.1,h3.2.1,h7⟩,by show (_ && (_ && (_ && _)))=true;rw [k1,k2,k3,h8];rfl⟩
   have g5:=qBy k s b d w b d x (by omega)
   cases k with
   | re=>exact⟨.ok (Tm.n3 .re s b d x),w6 [(16,.F),(41,.r SR.no.q),(41,.r SR.no.q),(41,.r (SR.ok x).q),(300015,.f 0 [[b.nd'],[d.nd'],[x.nd']]),(60,.r (Tm.n3 .re s b d x).nd')] (kp [4,5]) (.tuple [.nil,num 0]) (.tuple [(Tm.n3 .re s b d x).nd',num 0]) hg.hb g0 gb gd gw (rfl:pvE [[b.nd'],[d.nd'],[x.nd']]=pvE [[b.nd'],[d.nd'],[x.nd']]) g5 rfl,hg⟩
   | fo=>exact⟨.ok (Tm.n3 .fo s b d x),w6 [(16,.F),(41,.r SR.no.q),(41,.r SR.no.q),(41,.r (SR.ok x).q),(300015,.f 0 [[b.nd'],[d.nd'],[x.nd']]),(60,.r (Tm.n3 .fo s b d x).nd')] (kp [4,5]) (.tuple [.nil,num 0]) (.tuple [(Tm.n3 .fo s b d x).nd',num 0]) hg.hb g0 gb gd gw (rfl:pvE [[b.nd'],[d.nd'],[x.nd']]=pvE [[b.nd'],[d.nd'],[x.nd']]) g5 rfl,hg⟩
  | no =>
  have hn:(Tm.n3 k s b d w).nf=true:=by
   simp only [Tm.nf,hr,qb.2 rfl,qd.2 rfl,qw.2 rfl];try rfl
  have hg:SR.no.Good (Tm.n3 k s b d w) z:=⟨⟨fun _=>rfl,fun _=>hn⟩,trivial⟩
  cases k with
  | re=>exact⟨.no,w5 [(16,.F),(41,.r SR.no.q),(41,.r SR.no.q),(41,.r SR.no.q),(99999,.s)] (kp [4,5]) (.tuple [.nil,num 0]) (.tuple [.nil,num 0]) hg.hb g0 gb gd gw hn rfl,hg⟩
  | fo=>exact⟨.no,w5 [(16,.F),(41,.r SR.no.q),(41,.r SR.no.q),(41,.r SR.no.q),(99999,.s)] (kp [4,5]) (.tuple [.nil,num 0]) (.tuple [.nil,num 0]) hg.hb g0 gb gd gw hn rfl,hg⟩
open Go.Lg
set_option maxRecDepth 100000
theorem zEs {t r:Tm} (h:t.red=some r) (hn:t.nf=false):A 321 [t.nd'] (.bool t.nf):=by
 have g:=qL3 t
 rw [h] at g
 exact w1 [(10,.T)] (kp [2]) (.bool true) (.bool false) (b:=t.nf) (fun h=>by rw [h]) g (by rw [hn])
theorem zJn:∀ t:Tm,A 321 [t.nd'] (.bool t.nf)
 | .v i=>w2 [(10,.F),(99999,.s)] (kp [2]) (.bool true) (.bool true) (b:=true) (fun _=>rfl) (qL3 (.v i)) (rfl:true=true) rfl
 | .n0 k=>by
  have g:=qL3 (.n0 k)
  cases k<;>exact w2 [(10,.F),(99999,.s)] (kp [2]) (.bool true) (.bool true) (b:=true) (fun _=>rfl) g (rfl:true=true) rfl
 | .lam s b=>by
  have g:=qL3 (.lam s b)
  have g1:=zJn b
  cases e:b.nf<;>rw [e] at g1
  ·have hn:(Tm.lam s b).nf=false:=e
   exact w2 [(10,.F),(21,.F)] (kp [2]) (.bool true) (.bool false) (b:=(Tm.lam s b).nf) (fun h=>by rw [h]) g g1 (by rw [hn])
  ·have hn:(Tm.lam s b).nf=true:=e
   exact w3 [(10,.F),(21,.T),(99999,.s)] (kp [2]) (.bool true) (.bool true) (b:=(Tm.lam s b).nf) (fun h=>by rw [h]) g g1 hn (by rw [hn])
 | .n1 k b=>by
  cases hr:(Tm.n1 k b).red with
  | some r=>exact zEs hr (by simp only [Tm.nf,hr];rfl)
  | none =>
   have g:=qL3 (.n1 k b)
   have hbf:(Tm.n1 k b).nf=true→PV.bool true = .bool (Tm.n1 k b).nf:=fun h=>by rw [h]
   rw [hr] at g
   have g1:=zJn b
   cases e:b.nf<;>rw [e] at g1
   ·have hn:(Tm.n1 k b).nf=false:=by simp only [Tm.nf,hr,e];rfl
    cases k<;>exact w2 [(10,.F),(21,.F)] (kp [2]) (.bool true) (.bool false) hbf g g1 (by rw [hn])
   ·have hn:(Tm.n1 k b).nf=true:=by simp only [Tm.nf,hr,e];rfl
    cases k<;>exact w3 [(10,.F),(21,.T),(99999,.s)] (kp [2]) (.bool true) (.bool true) hbf g g1 hn (by rw [hn])
 | .n2 k b d=>by
  cases hr:(Tm.n2 k b d).red with
  | some r=>exact zEs hr (by simp only [Tm.nf,hr];rfl)
  | none =>
   have g:=qL3 (.n2 k b d)
   have hbf:(Tm.n2 k b d).nf=true→PV.bool true = .bool (Tm.n2 k b d).nf:=fun h=>by rw [h]
   rw [hr] at g
   have g1:=zJn b
   have g2:=zJn d
   cases e:b.nf<;>rw [e] at g1
   ·have hn:(Tm.n2 k b d).nf=false:=by simp only [Tm.nf,hr,e];rfl
    cases k<;>exact w2 [(10,.F),(21,.F)] (kp [2]) (.bool true) (.bool false) hbf g g1 (by rw [hn])
   ·cases e':d.nf<;>rw [e'] at g2
    ·have hn:(Tm.n2 k b d).nf=false:=by simp only [Tm.nf,hr,e,e'];rfl
     cases k<;>exact w3 [(10,.F),(21,.T),(21,.F)] (kp [2]) (.bool true) (.bool false) hbf g g1 g2 (by rw [hn])
    ·have hn:(Tm.n2 k b d).nf=true:=by simp only [Tm.nf,hr,e,e'];rfl
     cases k<;>exact w4 [(10,.F),(21,.T),(21,.T),(99999,.s)] (kp [2]) (.bool true) (.bool true) hbf g g1 g2 hn (by rw [hn])
 | .n3 k s b d w=>by
  cases hr:(Tm.n3 k s b d w).red with
  | some r=>exact zEs hr (by simp only [Tm.nf,hr];rfl)
  | none =>
   have g:=qL3 (.n3 k s b d w)
   have hbf:(Tm.n3 k s b d w).nf=true→PV.bool true = .bool (Tm.n3 k s b d w).nf:=fun h=>by rw [h]
   rw [hr] at g
   have g1:=zJn b
   have g2:=zJn d
   have g3:=zJn w
   cases e:b.nf<;>rw [e] at g1
   ·have hn:(Tm.n3 k s b d w).nf=false:=by simp only [Tm.nf,hr,e];rfl
    cases k<;>exact w2 [(10,.F),(21,.F)] (kp [2]) (.bool true) (.bool false) hbf g g1 (by rw [hn])
   ·cases e':d.nf<;>rw [e'] at g2
    ·have hn:(Tm.n3 k s b d w).nf=false:=by simp only [Tm.nf,hr,e,e'];rfl
     cases k<;>exact w3 [(10,.F),(21,.T),(21,.F)] (kp [2]) (.bool true) (.bool false) hbf g g1 g2 (by rw [hn])
    ·cases e'':w.nf<;>rw [e''] at g3
     ·have hn:(Tm.n3 k s b d w).nf=false:=by simp only [Tm.nf,hr,e,e',e''];rfl
      cases k<;>exact w4 [(10,.F),(21,.T),(21,.T),(21,.F)] (kp [2]) (.bool true) (.bool false) hbf g g1 g2 g3 (by rw [hn])
     ·have hn:(Tm.n3 k s b d w).nf=true:=by simp only [Tm.nf,hr,e,e',e''];rfl
      cases k<;>exact w5 [(10,.F),(21,.T),(21,.T),(21,.T),(99999,.s)] (kp [2]) (.bool true) (.bool true) hbf g g1 g2 g3 hn (by rw [hn])
structure TK (n:Nat) (t:Tm):Prop where
 cnt:t.cnt≤4096
 shp:t.shp=true
 sc:t.sc n
def SR.t (r:SR):PV:=match r with
 | .er => .tuple [.bool false,num 4]
 | .no => .tuple [.bool false,num 0]
 | .ok _ => .tuple [.bool true,num 0]
def SR.o (r:SR) (t:Tm) (k:Nat):Ob:=match r with
 | .ok x=>bx [x.nd',num (k+1)]
 | _=>bx [t.nd',num k]
abbrev lim:Nat:=100000
theorem TK.mx {n:Nat} {t:Tm} (h:TK n t) (hn:n≤lim):t.mx≤104096:=by
 have:=qBx t n h.sc
 have:=h.cnt
 have hl:lim=100000:=rfl
 omega
theorem TK.chk {n:Nat} {t:Tm} (h:TK n t):t.chk=0:=by
 unfold Tm.chk
 rw [h.shp]
 simp only
 rw [qZv h.cnt]
theorem zIk {n:Nat} {t:Tm} (h:TK n t) (hn:n≤lim) (k:Nat) (hk:k≤1000):∃ r:SR,O 319 [.loc 2 0] [(2,bx [t.nd',num k])] (.pv r.t) [(2,r.o t k)] ∧ ∀ x,r = .ok x→TK n x:=by
 have hm:=qQc
 have hb:=qQh
 have hc:=h.cnt
 have hx:=h.mx hn
 have g0:=zXq (i:=4096) (d:=t.cnt) (by omega) (by omega)
 obtain⟨r,g1,q1,q2⟩:=zJm (4096 - .ofNat t.cnt) (by simp;omega) t (by rw [hm];omega) (by omega)
 cases r with
 | er=>exact⟨.er,o2 3 [(16,.y (4096-Int.ofNat t.cnt)),(17,.r SR.er.q)] g0 g1,fun x e=>by cases e⟩
 | no=>exact⟨.no,o2 3 [(16,.y (4096-Int.ofNat t.cnt)),(17,.r SR.no.q)] g0 g1,fun x e=>by cases e⟩
 | ok x =>
  obtain⟨s1,s2,s3⟩:=q2
  obtain⟨s4,s5⟩:=s3 n h.sc h.shp
  refine⟨.ok x,o3 3 [(16,.y (4096-Int.ofNat t.cnt)),(17,.r (SR.ok x).q),(35,.z (k+1))] g0 g1 (qQ9 (a:=k) (b:=1) (by omega)),?_⟩
  intro y e
  cases e
  exact⟨by simp at s1;omega,s5,s4⟩
abbrev qIm:Kp:=⟨[1,4,8],[1,2],3,[]⟩
abbrev zAp:Kp:=⟨[4,5,6],[1],3,[]⟩
abbrev zEt:Kp:=⟨[4,8],[1,2],3,[]⟩
abbrev zEu (k:Nat) (t:Tm):IS:=st [(1,.pv (num 1000)),(4,.loc 1 0),(8,.loc 2 0)] [(1,bx kz),(2,bx [t.nd',num k])] 3 []
abbrev zCw (n e:Nat) (l:List PV):IS:=st [(4,.loc 1 0),(5,.pv (num n)),(6,.pv (num e))] [(1,bx l)] 3 []
abbrev zEv (t:Tm):IS:=st [(4,.loc 1 0),(8,.loc 2 0)] [(1,bx kz),(2,bx [t.nd',num 1000])] 3 []
theorem zW4 {n:Nat} (hn:n≤lim):∀ (r k:Nat),k+r=1000→∀ t:Tm,TK n t →
  (∃ x j,Lp 290 0 0 (zEu k t) .ret (zCw j 0 (Tm.c x))∧TK n x)∨(∃ e,Lp 290 0 0 (zEu k t) .ret (zCw 0 (e+1) kz)) ∨ ∃ x,Lp 290 0 0 (zEu k t) (.exit 0) (zEv x)∧TK n x:=by
 intro r
 induction r with
 | zero =>
  intro k hk t ht
  obtain rfl:k=1000:=by omega
  exact .inr (.inr ⟨t,x0 [] zEt,ht⟩)
 | succ r ih =>
  intro k hk t ht
  have hlt:ltI (.ofNat k) (.ofNat 1000)=true:=qQy (by omega)
  obtain⟨r,g1,q1⟩:=zIk ht hn k (by omega)
  cases r with
  | er=>exact .inr (.inl ⟨3,x2 [(38,.G),(41,.d 2 (bx [t.nd',num k]) (.pv SR.er.t))] zAp hlt g1⟩)
  | no=>exact .inl ⟨t,k,x3 [(38,.G),(41,.d 2 (bx [t.nd',num k]) (.pv SR.no.t)),(54,.r t.p)] zAp hlt g1 (qUw t),ht⟩
  | ok x =>
   have hx:=q1 x rfl
   rcases ih (k+1) (by omega) x hx with ⟨y,j,h4,h5⟩|⟨e,h4⟩|⟨y,h4,h5⟩
   ·exact .inl ⟨y,j,n3 [(38,.G),(41,.d 2 (bx [x.nd',num (k+1)]) (.pv (SR.ok x).t))] qIm hlt g1 h4,h5⟩
   ·exact .inr (.inl ⟨e,n3 [(38,.G),(41,.d 2 (bx [x.nd',num (k+1)]) (.pv (SR.ok x).t))] qIm hlt g1 h4⟩)
   ·exact .inr (.inr ⟨y,n3 [(38,.G),(41,.d 2 (bx [x.nd',num (k+1)]) (.pv (SR.ok x).t))] qIm hlt g1 h4,h5⟩)
theorem zIl {n:Nat} {t:Tm} (h:TK n t) (hn:n≤lim):∃ r:NF,A 290 [t.p,num 1000] r.p ∧ ∀ x k,r = .ok x k→TK n x:=by
 have hm:=qQc
 have hb:=qQh
 have hc:=h.cnt
 have hx:=h.mx hn
 have ht:=qZ2 t h.shp
 have g1:=a92 t (by omega) (by omega)
 rw [h.chk] at g1
 have g2:=a298 t (by omega)
 have hf:far=536870912:=rfl
 rw [qWt t (by omega)] at g2
 have g3:=zJi t (by omega) (by omega)
 rcases zW4 hn 1000 0 rfl t h with ⟨x,k,h4,h5⟩|⟨e,h4⟩|⟨x,h4,h5⟩
 ·exact⟨.ok x k,f4 [(12,.N 0),(25,.T),(30,.r t.nd'),(100007,.l qIm .ret (zCw k 0 x.c))] g1 g2 g3 h4,fun y j e=>by cases e;exact h5⟩
 ·exact⟨.er e,f4 [(12,.N 0),(25,.T),(30,.r t.nd'),(100007,.l qIm .ret (zCw 0 (e+1) kz))] g1 g2 g3 h4,fun y j e=>by cases e⟩
 ·have g4:=zJn x
  cases e:x.nf<;>rw [e] at g4
  ·exact⟨.er 4,f5 [(12,.N 0),(25,.T),(30,.r t.nd'),(100007,.l qIm (.exit 0) (zEv x)),(63,.F)] g1 g2 g3 h4 g4,fun y j e=>by cases e⟩
  ·exact⟨.ok x 1000,f6 [(12,.N 0),(25,.T),(30,.r t.nd'),(100007,.l qIm (.exit 0) (zEv x)),(63,.T),(70,.r x.p)] g1 g2 g3 h4 g4 (qUw x),fun y j e=>by cases e;exact h5⟩
theorem zEw (t:Tm):t.sc t.fr:=(qXo t _).2 (Nat.le_refl _)
open Classical in
noncomputable def nrm (t:Tm):NF:=if h:∃ r:NF,A 290 [t.p,num 1000] r.p ∧ ∀ x k,r = .ok x k→TK t.fr x then h.choose else .er 0
theorem qIn {n:Nat} {t:Tm} (h:TK n t) (hn:n≤lim):A 290 [t.p,num 1000] (nrm t).p ∧ ∀ x k,nrm t = .ok x k→TK n x:=by
 have hf:t.fr≤n:=(qXo t n).1 h.sc
 have he:=zIl (n:=t.fr) (t:=t) ⟨h.cnt,h.shp,zEw t⟩ (Nat.le_trans hf hn)
 have:nrm t=he.choose:=by unfold nrm;rw [dif_pos he]
 rw [this]
 refine⟨he.choose_spec.1,fun x k e => ?_⟩
 have h1:=he.choose_spec.2 x k e
 exact⟨h1.cnt,h1.shp,qUu x hf h1.sc⟩
theorem FK.eq1 {n:Nat} {a b:Tm} (h:FK n (.eq a b)):TK n a:=⟨by have:=h.cnt;simp only [Fm.cnt] at this;omega,(qQ3 h.shp).1,h.sc.1⟩
theorem FK.eq2 {n:Nat} {a b:Tm} (h:FK n (.eq a b)):TK n b:=⟨by have:=h.cnt;simp only [Fm.cnt] at this;omega,(qQ3 h.shp).2,h.sc.2⟩
theorem FK.bin1 {n:Nat} {k:FB} {a b:Fm} (h:FK n (.bin k a b)):FK n a:=⟨by have:=h.cnt;simp only [Fm.cnt] at this;omega,(qQ3 h.shp).1,h.sc.1⟩
theorem FK.bin2 {n:Nat} {k:FB} {a b:Fm} (h:FK n (.bin k a b)):FK n b:=⟨by have:=h.cnt;simp only [Fm.cnt] at this;omega,(qQ3 h.shp).2,h.sc.2⟩
theorem FK.qf {n:Nat} {k:FQ} {s:Ty} {a:Fm} (h:FK n (.q k s a)):FK (n+1) a:=⟨by have:=h.cnt;simp only [Fm.cnt] at this;omega,(qQ3 h.shp).2,h.sc⟩
theorem FK.qs {n:Nat} {k:FQ} {s:Ty} {a:Fm} (h:FK n (.q k s a)):s.size≤64:=qNm (qQ3 h.shp).1
theorem FK.chk {n:Nat} {f:Fm} (h:FK n f):f.chk=0:=by
 unfold Fm.chk
 rw [h.shp]
 simp only
 rw [qZv h.cnt]
theorem FK.mx {n:Nat} {f:Fm} (h:FK n f) (hn:n≤lim):f.mx≤104096:=by
 have:=qDh f n h.sc
 have:=h.cnt
 have hl:lim=100000:=rfl
 omega
theorem FK.up {n m:Nat} {f:Fm} (h:FK n f) (hn:n≤m):FK m f:=⟨h.cnt,h.shp,qLz f hn h.sc⟩
theorem FK.a89 {n:Nat} {f:Fm} (h:FK n f):A 89 [f.p] (num 0):=by
 have hb:=qQh
 have g:=Go.Proofs.YtmcockinhpiomaaGreatDoor.a89 f (by have:=qJi f h.shp;omega) (by have:=h.cnt;omega)
 rwa [h.chk] at g
theorem FK.a296 {n:Nat} {f:Fm} (h:FK n f):A 296 [f.p] (.tuple [num f.cnt,num 0]):=by
 have hb:=qQh
 have g:=Go.Proofs.YtmcockinhpiomaaGreatDoor.a296 f (by have:=qJi f h.shp;omega) (by have:=h.cnt;omega)
 rwa [Fm.ckn0 h.chk,h.chk] at g
theorem FK.a295 {n:Nat} {f:Fm} (h:FK n f) (hn:n≤lim):A 295 [f.p] (.bool true):=by
 have hm:=qQc
 have hf:far=536870912:=rfl
 have g:=Go.Proofs.YtmcockinhpiomaaGreatDoor.a295 f (by have:=h.cnt;omega)
 rwa [qEx f (by have:=h.mx hn;omega)] at g
theorem TK.a92 {n:Nat} {t:Tm} (h:TK n t):A 92 [t.p] (num 0):=by
 have hb:=qQh
 have g:=Go.Proofs.YtmcockinhpiomaaGreatDoor.a92 t (by have:=qZ2 t h.shp;omega) (by have:=h.cnt;omega)
 rwa [h.chk] at g
theorem TK.a297 {n:Nat} {t:Tm} (h:TK n t):A 297 [t.p] (.tuple [num t.cnt,num 0]):=by
 have hb:=qQh
 have g:=Go.Proofs.YtmcockinhpiomaaGreatDoor.a297 t (by have:=qZ2 t h.shp;omega) (by have:=h.cnt;omega)
 rwa [Tm.ckn0 h.chk,h.chk] at g
theorem TK.a298 {n:Nat} {t:Tm} (h:TK n t) (hn:n≤lim):A 298 [t.p] (.bool true):=by
 have hm:=qQc
 have hf:far=536870912:=rfl
 have g:=Go.Proofs.YtmcockinhpiomaaGreatDoor.a298 t (by have:=h.cnt;omega)
 rwa [qWt t (by have:=h.mx hn;omega)] at g
theorem zGv {n:Nat} {a b:Tm} (ha:TK n a) (hb:TK n b) (hn:n≤lim):∃ e,A 312 [a.p,b.p,num 1000] (num e):=by
 have g1:=ha.a92
 have g2:=hb.a92
 obtain⟨r,g3⟩:=zGl a b
 obtain⟨g4,q4⟩:=qIn ha hn
 obtain⟨g5,q5⟩:=qIn hb hn
 cases r
 ·cases e1:nrm a with
  | er e =>
   rw [e1] at g4
   exact⟨e+1,f4 [(15,.N 0),(20,.N 0),(26,.F),(30,.r (NF.er e).p)] g1 g2 g3 g4⟩
  | ok x j =>
   rw [e1] at g4
   cases e2:nrm b with
   | er e =>
    rw [e2] at g5
    exact⟨e+1,f5 [(15,.N 0),(20,.N 0),(26,.F),(30,.r (NF.ok x j).p),(40,.r (NF.er e).p)] g1 g2 g3 g4 g5⟩
   | ok y l =>
    rw [e2] at g5
    obtain⟨r,g6⟩:=zGl x y
    cases r
    ·exact⟨11,f6 [(15,.N 0),(20,.N 0),(26,.F),(30,.r (NF.ok x j).p),(40,.r (NF.ok y l).p),(49,.F)] g1 g2 g3 g4 g5 g6⟩
    ·exact⟨0,f6 [(15,.N 0),(20,.N 0),(26,.F),(30,.r (NF.ok x j).p),(40,.r (NF.ok y l).p),(49,.T)] g1 g2 g3 g4 g5 g6⟩
 ·exact⟨0,f3 [(15,.N 0),(20,.N 0),(26,.T)] g1 g2 g3⟩
theorem zJo {a b:Fm} (h:a.kd≠b.kd):∃ e,A 284 [a.p,b.p] (num e)∧(e=0→a.sp=b.sp):=⟨11,f1 [(15,.G)] (qX4 h),nofun⟩
theorem zCx:∀ (a b:Fm) (n:Nat),FK n a→FK n b→n+a.cnt≤lim→∃ e,A 284 [a.p,b.p] (num e)∧(e=0→a.sp=b.sp)
 | .eq a c,.eq b d,n,h1,h2,hn=>by
  obtain⟨e,g1⟩:=zGv h1.eq1 h2.eq1 (by omega)
  obtain⟨e',g2⟩:=zGv h1.eq2 h2.eq2 (by omega)
  cases e with
  | succ n=>exact⟨n+1,f2 [(21,.T),(38,.N (n+1))] qHb g1,nofun⟩
  | zero=>cases e' with
   | succ n=>exact⟨n+1,f3 [(21,.T),(38,.N 0),(38,.N (n+1))] qHb g1 g2,nofun⟩
   | zero=>exact⟨0,f3 [(21,.T),(38,.N 0),(38,.N 0)] qHb g1 g2,fun _=>rfl⟩
 | .bin k f g,.bin l f' g',n,h1,h2,hn=>by
  by_cases h:k=l
  ·subst h
   simp only [Fm.cnt] at hn
   obtain⟨e,g1,q1⟩:=zCx f f' n h1.bin1 h2.bin1 (by omega)
   obtain⟨e',g2,q2⟩:=zCx g g' n h1.bin2 h2.bin2 (by omega)
   cases e with
   | succ n=>exact⟨n+1,f3 [(15,.H),(21,.T),(57,.N (n+1))] (qWb k.n) qHb g1,nofun⟩
   | zero=>cases e' with
    | succ n=>exact⟨n+1,f4 [(15,.H),(21,.T),(57,.N 0),(57,.N (n+1))] (qWb k.n) qHb g1 g2,nofun⟩
    | zero=>exact⟨0,f4 [(15,.H),(21,.T),(57,.N 0),(57,.N 0)] (qWb k.n) qHb g1 g2,fun _=>by simp only [Fm.sp,q1 rfl,q2 rfl]⟩
  ·exact zJo fun e=>h (FB.inj e)
 | .q k s f,.q l u g,n,h1,h2,hn=>by
  by_cases h:k=l
  ·subst h
   simp only [Fm.cnt] at hn
   have g0:=a96 s u
   cases e:s.same u<;>rw [e] at g0
   ·exact⟨11,f2 [(15,.H),(21,.F)] (qWb k.n) g0,nofun⟩
   obtain⟨e,g1,q1⟩:=zCx f g (n+1) h1.qf h2.qf (by omega)
   cases e with
   | succ n=>exact⟨n+1,f3 [(15,.H),(21,.T),(57,.N (n+1))] (qWb k.n) g0 g1,nofun⟩
   | zero=>exact⟨0,f3 [(15,.H),(21,.T),(57,.N 0)] (qWb k.n) g0 g1,fun _=>by simp only [Fm.sp,q1 rfl]⟩
  ·exact zJo fun e=>h (FQ.inj e)
 | .eq _ _,.bin l _ _,_,_,_,_=>zJo (by cases l<;>exact nofun)
 | .eq _ _,.q l _ _,_,_,_,_=>zJo (by cases l<;>exact nofun)
 | .bin l _ _,.eq _ _,_,_,_,_=>zJo (by cases l<;>exact nofun)
 | .bin k _ _,.q l _ _,_,_,_,_=>zJo (by cases k<;>cases l<;>exact nofun)
 | .q l _ _,.eq _ _,_,_,_,_=>zJo (by cases l<;>exact nofun)
 | .q k _ _,.bin l _ _,_,_,_,_=>zJo (by cases k<;>cases l<;>exact nofun)
theorem zGw {n:Nat} {a b:Fm} (h1:FK n a) (h2:FK n b) (hn:n≤90000):∃ e,A 236 [a.p,b.p] (num e)∧(e=0→a.sp=b.sp):=by
 obtain⟨e,g,q⟩:=zCx a b n h1 h2 (by have:=h1.cnt;have hl:lim=100000:=rfl;omega)
 exact⟨e,f3 [(8,.N 0),(13,.N 0),(19,.N e)] h1.a89 h2.a89 g,q⟩
open Go.Lg
set_option maxRecDepth 100000
theorem TK.Lf {n:Nat} {t:Tm} (h:TK n t) (hn:n≤lim):Lf t.x t:=by
 have hm:=qQc
 have h1:=h.cnt
 have h2:=h.mx hn
 exact .of t (by omega) (by rw [hm];omega) fun z hz=>zEm t 0 z (by omega) hz (by omega) (by rw [hm];omega)
theorem zAq {f:Fm} {t:Tm} (h:f.cnt+f.occ 0 * (t.cnt-1)≤4096):(f.put 0 t 0).cnt=f.cnt+f.occ 0 * (t.cnt-1):=by
 have e1:=qKc 0 t f 0
 have ca:=qB8 t
 simp only [Nat.add_zero] at e1
 have e4:f.occ 0 * (t.cnt-1)+f.occ 0=f.occ 0 * t.cnt:=by
  obtain⟨k,hk⟩:∃ k,t.cnt=k+1:=⟨t.cnt-1,by omega⟩
  rw [hk,Nat.add_sub_cancel,Nat.mul_succ]
 omega
def Fm.pt (f:Fm) (t:Tm):FR:=if f.cnt+f.occ 0 * (t.cnt-1)≤4096 then .ok (f.put 0 t 0) else .er 3
theorem FK.pt {n:Nat} {f:Fm} {t:Tm} (h:FK (n+1) f) (ht:TK n t) {g:Fm} (e:f.pt t = .ok g):g=f.put 0 t 0∧FK n g:=by
 unfold Fm.pt at e
 split at e
 ·rename_i hl
  cases e
  refine⟨rfl,?_,?_,?_⟩
  ·rw [zAq hl];exact hl
  ·exact qKe 0 t f 0 (.inl ht.shp) h.shp
  ·exact qX5 t n f 0 h.sc (.inl ht.sc)
 ·cases e
theorem zAr {a b:Nat} (h:a≤4096) (h':b≤4096):a * b≤16777216:=Nat.mul_le_mul h h'
theorem zXu {n:Nat} {f:Fm} {t:Tm} (h:FK (n+1) f) (ht:TK n t) (hn:n+1≤lim):A 242 [f.p,t.p] (f.pt t).p:=by
 have hm:=qQc
 have hb:=qQh
 have c1:=h.cnt
 have c2:=ht.cnt
 have c3:=qB8 t
 have hx:=h.mx hn
 have ho:=qVh f 0
 have hm1:=zAr (a:=f.occ 0) (b:=t.cnt-1) (by omega) (by omega)
 have g1:=zCu f (by have:=qJi f h.shp;omega) (by omega)
 rw [Fm.ckn0 h.chk,h.chk] at g1
 have g2:=zCs t (by have:=qZ2 t ht.shp;omega) (by omega)
 rw [Tm.ckn0 ht.chk,ht.chk] at g2
 have g3:=zAj f 0 (by omega) (by rw [hm];omega)
 have g4:=qVm (a:=t.cnt) c3 (by omega)
 have g5:=zAo (a:=f.occ 0) (b:=t.cnt-1) (by omega) rfl
 have g6:=qL4 (a:=f.cnt) (b:=f.occ 0 * (t.cnt-1)) (by omega) rfl
 unfold Fm.pt
 split
 ·rename_i hl
  have g7:=zAi f 0 t.x t (.inl (ht.Lf (by omega))) (by omega) (by rw [hm];omega)
  exact f8 [(12,.U [num f.cnt,num 0]),(17,.U [num t.cnt,num 0]),(22,.N (f.occ 0)),(24,.z (t.cnt-1)),(25,.z (f.occ 0 * (t.cnt-1))),(26,.z (f.cnt+f.occ 0 * (t.cnt-1))),(27,.H),(31,.r (f.put 0 t 0).p)] g1 g2 g3 g4 g5 g6 (qZv (a:=4096) hl) g7
 ·rename_i hl
  exact f7 [(12,.U [num f.cnt,num 0]),(17,.U [num t.cnt,num 0]),(22,.N (f.occ 0)),(24,.z (t.cnt-1)),(25,.z (f.occ 0 * (t.cnt-1))),(26,.z (f.cnt+f.occ 0 * (t.cnt-1))),(27,.G)] g1 g2 g3 g4 g5 g6 (qQy (a:=4096) (b:=f.cnt+f.occ 0 * (t.cnt-1)) (by omega))
theorem zIm {n:Nat} {f:Fm} {t:Tm} (h:FK (n+1) f) (ht:TK n t) (hn:n+1≤lim):A 258 [f.p,num 0,t.p] (f.pt t).p:=by
 have hm:=qQc
 have hb:=qQh
 have c1:=h.cnt
 have c2:=ht.cnt
 have c3:=qB8 t
 have hx:=h.mx hn
 have ho:=qVh f 0
 have hm1:=zAr (a:=f.occ 0) (b:=t.cnt-1) (by omega) (by omega)
 have g1:=h.a296
 have g2:=ht.a297
 have g3:=zAj f 0 (by omega) (by rw [hm];omega)
 have g4:=qVm (a:=t.cnt) c3 (by omega)
 have g5:=zAo (a:=f.occ 0) (b:=t.cnt-1) (by omega) rfl
 have g6:=qL4 (a:=f.cnt) (b:=f.occ 0 * (t.cnt-1)) (by omega) rfl
 unfold Fm.pt
 split
 ·rename_i hl
  have g7:=zAi f 0 t.x t (.inl (ht.Lf (by omega))) (by omega) (by rw [hm];omega)
  exact f10 [(13,.U [num f.cnt,num 0]),(26,.U [num t.cnt,num 0]),(34,.T),(38,.T),(45,.N (f.occ 0)),(47,.z (t.cnt-1)),(48,.z (f.occ 0 * (t.cnt-1))),(49,.z (f.cnt+f.occ 0 * (t.cnt-1))),(50,.H),(55,.r (f.put 0 t 0).p)] g1 g2 (h.a295 hn) (ht.a298 (by omega)) g3 g4 g5 g6 (qZv (a:=4096) hl) g7
 ·rename_i hl
  exact f9 [(13,.U [num f.cnt,num 0]),(26,.U [num t.cnt,num 0]),(34,.T),(38,.T),(45,.N (f.occ 0)),(47,.z (t.cnt-1)),(48,.z (f.occ 0 * (t.cnt-1))),(49,.z (f.cnt+f.occ 0 * (t.cnt-1))),(50,.G)] g1 g2 (h.a295 hn) (ht.a298 (by omega)) g3 g4 g5 g6 (qQy (a:=4096) (b:=f.cnt+f.occ 0 * (t.cnt-1)) (by omega))
theorem zW5 {n:Nat} {f:Fm} (h:FK n f) (hn:n≤lim):A 257 [f.p,num 0,num 1] (FR.ok (f.sh 0 (.ofNat 1))).p:=by
 have hm:=qQc
 exact f3 [(10,.N 0),(25,.T),(32,.r (f.sh 0 (.ofNat 1)).p)] h.a89 (h.a295 hn) (qS1 f 0 1 (by omega) (by have:=h.cnt;omega) (by have:=h.mx hn;rw [hm];omega))
theorem zW6 {n:Nat} {f:Fm} (h:FK n f) (hn:n≤lim):A 257 [f.p,num 0,num 2] (FR.ok (f.sh 0 (.ofNat 2))).p:=by
 have hm:=qQc
 exact f3 [(10,.N 0),(25,.T),(32,.r (f.sh 0 (.ofNat 2)).p)] h.a89 (h.a295 hn) (qS1 f 0 2 (by omega) (by have:=h.cnt;omega) (by have:=h.mx hn;rw [hm];omega))
theorem zW7 {n:Nat} {f:Fm} (h:FK n f) (hn:n≤lim):A 257 [f.p,num 1,num 1] (FR.ok (f.sh 1 (.ofNat 1))).p:=by
 have hm:=qQc
 exact f3 [(10,.N 0),(25,.T),(32,.r (f.sh 1 (.ofNat 1)).p)] h.a89 (h.a295 hn) (qS1 f 1 1 (by omega) (by have:=h.cnt;omega) (by have:=h.mx hn;rw [hm];omega))
theorem zW8 {n:Nat} {f:Fm} (h:FK n f) (hn:n≤lim):A 257 [f.p,num 2,num 1] (FR.ok (f.sh 2 (.ofNat 1))).p:=by
 have hm:=qQc
 exact f3 [(10,.N 0),(25,.T),(32,.r (f.sh 2 (.ofNat 1)).p)] h.a89 (h.a295 hn) (qS1 f 2 1 (by omega) (by have:=h.cnt;omega) (by have:=h.mx hn;rw [hm];omega))
abbrev Fm.low (f:Fm):Fm:=f.put 0 (.v 0) 0
theorem qIo {f:Fm} (h0:f.occ 0=0):f.low.cnt=f.cnt:=by
 have e1:f.low.cnt+f.occ 0=f.cnt+f.occ 0 * (Tm.v 0).cnt:=qKc 0 (.v 0) f 0
 rw [h0,Nat.zero_mul] at e1
 exact e1
theorem FK.low {n:Nat} {f:Fm} (h:FK (n+1) f) (h0:f.occ 0=0):FK n f.low:=by
 refine⟨?_,qKe 0 _ f 0 (.inr h0) h.shp,qX5 _ n f 0 h.sc (.inr h0)⟩
 rw [qIo h0]
 exact h.cnt
theorem zGx {n:Nat} {f:Fm} (h:FK n f) (hn:n≤lim):A 259 [f.p,num 0] (if f.occ 0=0 then FR.ok f.low else .er 5).p:=by
 have hm:=qQc
 have hb:=qQh
 have c1:=h.cnt
 have hx:=h.mx hn
 have g3:=zAj f 0 (by omega) (by rw [hm];omega)
 split
 ·rename_i h0
  rw [h0] at g3
  exact f3 [(8,.N 0),(19,.N 0),(25,.r f.low.p)] h.a89 g3 (zAi f 0 .z (.v 0) (.inr h0) (by omega) (by rw [hm];omega))
 ·rename_i h0
  exact f3 [(8,.N 0),(19,.N (f.occ 0)),(20,.G)] h.a89 g3 (qQy (a:=0) (b:=f.occ 0) (by omega))
noncomputable def nmF:Fm→Option Fm
 | .eq a b=>match nrm a with
  | .ok x _=>match nrm b with
   | .ok y _=>some (.eq x y)
   | .er _=>none
  | .er _=>none
 | .bin k f g=>match nmF f with
  | some x=>match nmF g with
   | some y=>some (.bin k x y)
   | none=>none
  | none=>none
 | .q k s f=>match nmF f with
  | some x=>some (.q k s x)
  | none=>none
theorem qNp:∀ (f:Fm) (n:Nat),FK n f→n+f.cnt≤lim→∀ g,nmF f=some g→g.sc n∧g.shp=true∧g.cnt≤4096 * f.cnt∧g.sp=f.sp
 | .eq a b,n,h,hn,g,e=>by
  have ca:=qB8 a
  have cb:=qB8 b
  simp only [Fm.cnt] at hn
  have q1:=(qIn h.eq1 (by omega)).2
  have q2:=(qIn h.eq2 (by omega)).2
  unfold nmF at e
  split at e
  ·rename_i x j e1
   split at e
   ·rename_i y l e2
    cases e
    have h1:=q1 x j e1
    have h2:=q2 y l e2
    have:=h1.cnt
    have:=h2.cnt
    exact⟨⟨h1.sc,h2.sc⟩,by show (_ && _)=true;rw [h1.shp,h2.shp];rfl,by simp only [Fm.cnt];omega,rfl⟩
   ·cases e
  ·cases e
 | .bin k a b,n,h,hn,g,e=>by
  simp only [Fm.cnt] at hn
  unfold nmF at e
  split at e
  ·rename_i x e1
   split at e
   ·rename_i y e2
    cases e
    obtain⟨h1,h2,h3,h4⟩:=qNp a n h.bin1 (by omega) x e1
    obtain⟨k1,k2,k3,k4⟩:=qNp b n h.bin2 (by omega) y e2
    exact⟨⟨h1,k1⟩,by show (_ && _)=true;rw [h2,k2];rfl,by simp only [Fm.cnt];omega,by simp only [Fm.sp,h4,k4]⟩
   ·cases e
  ·cases e
 | .q k s a,n,h,hn,g,e=>by
  simp only [Fm.cnt] at hn
  unfold nmF at e
  split at e
  ·rename_i x e1
   cases e
   obtain⟨h1,h2,h3,h4⟩:=qNp a (n+1) h.qf (by omega) x e1
   exact⟨h1,by show (_ && _)=true;rw [(qQ3 h.shp).1,h2];rfl,by simp only [Fm.cnt];omega,by simp only [Fm.sp,h4]⟩
  ·cases e
structure Sy where
 k:Nat
 tk:Nat
 te:List (List PV)
 ts:List (List PV)
 es:List (List PV)
abbrev Sy.c (s:Sy):List PV:=[num s.k,num s.tk,.slice s.te,.slice s.ts,.slice s.es]
abbrev Fm.y (f:Fm):Sy:=⟨f.kd,f.tk,f.te,f.ts,f.es⟩
def NF.x (r:NF):Sx:=⟨r.k,r.i,r.tk,r.te,r.es⟩
abbrev chW (e:Nat):List (Nat × Ob):=[(2,bx [num e])]
theorem zGy {n:Nat} {t:Tm} (h:TK n t) (hn:n≤lim) (d e:Nat):∃ (x:Sx) (e':Nat),O 289 [.pv t.p,.pv (num d),.loc 2 0] (chW e) (.pv (.agg x.c)) (chW e')∧(e'=0→e=0 ∧ ∃ y k,nrm t = .ok y k∧x=y.x):=by
 cases e with
 | succ e=>exact⟨t.x,e+1,o0 3 [],nofun⟩
 | zero =>
  obtain⟨g1,q⟩:=qIn h hn
  cases e1:nrm t with
  | er e=>rw [e1] at g1;exact⟨(NF.er e).x,e+1,o1 3 [(14,.r (NF.er e).p)] g1,nofun⟩
  | ok y k=>rw [e1] at g1;exact⟨y.x,0,o1 3 [(14,.r (NF.ok y k).p)] g1,fun _=>⟨rfl,y,k,rfl,rfl⟩⟩
theorem qUx:∀ (f:Fm) (n d e:Nat),FK n f→n+f.cnt≤lim→d+f.cnt≤mid→∃ (x:Sy) (e':Nat),O 186 [.pv f.p,.pv (num d),.fn 289 [.loc 2 0]] (chW e) (.pv (.agg x.c)) (chW e')∧(e'=0→e=0 ∧ ∃ g,nmF f=some g∧x=g.y)
 | .eq a b,n,d,e,h,hn,hd=>by
  have h1:=h.eq1
  have h2:=h.eq2
  simp only [Fm.cnt] at hn
  obtain⟨x1,e1,g1,q1⟩:=zGy h1 (by omega) d e
  obtain⟨x2,e2,g2,q2⟩:=zGy h2 (by omega) d e1
  refine⟨⟨1,0,[],[x1.c,x2.c],[]⟩,e2,o3 3 [(16,.r zt),(30,.o [] (chW e1) (.pv (.agg x1.c))),(30,.o [] (chW e2) (.pv (.agg x2.c)))] qB9 g1 g2,?_⟩
  intro e0
  obtain⟨rfl,y,k,r1,rfl⟩:=q2 e0
  obtain⟨rfl,y',k',r2,rfl⟩:=q1 rfl
  exact⟨rfl,.eq y' y,by simp only [nmF,r1,r2],rfl⟩
 | .bin k a b,n,d,e,h,hn,hd=>by
  simp only [Fm.cnt] at hn hd
  obtain⟨x1,e1,g1,q1⟩:=qUx a n d e h.bin1 (by omega) (by omega)
  obtain⟨x2,e2,g2,q2⟩:=qUx b n d e1 h.bin2 (by omega) (by omega)
  refine⟨⟨k.n,0,[],[],[x1.c,x2.c]⟩,e2,?_,?_⟩
  ·cases k<;>exact o3 3 [(16,.r zt),(52,.o [] (chW e1) (.pv (.agg x1.c))),(52,.o [] (chW e2) (.pv (.agg x2.c)))] qB9 g1 g2
  ·intro e0
   obtain⟨rfl,y,r1,rfl⟩:=q2 e0
   obtain⟨rfl,y',r2,rfl⟩:=q1 rfl
   exact⟨rfl,.bin k y' y,by simp only [nmF,r1,r2],by cases k<;>rfl⟩
 | .q k s a,n,d,e,h,hn,hd=>by
  have hm:=qQc
  have hb:=qQh
  simp only [Fm.cnt] at hn hd
  obtain⟨x1,e1,g1,q1⟩:=qUx a (n+1) (d+1) e h.qf (by omega) (by omega)
  have g:=qQ9 (a:=d) (b:=1) (by omega)
  refine⟨⟨k.n,s.kd,s.es,[],[x1.c]⟩,e1,?_,?_⟩
  ·cases k<;>exact o3 3 [(16,.r s.p),(39,.z (d+1)),(52,.o [] (chW e1) (.pv (.agg x1.c)))] (a95 s) g g1
  ·intro e0
   obtain⟨rfl,y,r1,rfl⟩:=q1 e0
   exact⟨rfl,.q k s y,by simp only [nmF,r1],by cases k<;>rfl⟩
noncomputable def wtF (f:Fm):Option Fm:=if f.occ 0=0 then some f.low else match nmF f with
 | some g=>if g.occ 0=0 then some g.low else none
 | none=>none
theorem zIn {n:Nat} {f:Fm} (h:FK (n+1) f) (hn:n+1≤90000):∃ r:FR,A 245 [f.p] r.p ∧ ∀ g,r = .ok g→wtF f=some g:=by
 have hm:=qQc
 have hb:=qQh
 have hl:lim=100000:=rfl
 have c1:=h.cnt
 have hx:=h.mx (by omega)
 have g1:=zAj f 0 (by omega) (by rw [hm];omega)
 by_cases h0:f.occ 0=0
 ·rw [h0] at g1
  exact⟨.ok f.low,f2 [(7,.N 0),(11,.r f.low.p)] g1 (zAi f 0 .z (.v 0) (.inr h0) (by omega) (by rw [hm];omega)),fun g e=>by cases e;unfold wtF;rw [if_pos h0]⟩
 ·obtain⟨x,e',g2,q⟩:=qUx f (n+1) 0 0 h (by omega) (by omega)
  have g0:eqI (.ofNat (f.occ 0)) (.ofNat 0)=false:=qNh h0
  cases e' with
  | succ e=>exact⟨.er e,f3 [(7,.N (f.occ 0)),(8,.H),(14,.o [] (chW (e+1)) (.pv (.agg x.c)))] g1 g0 g2,fun g e=>by cases e⟩
  | zero =>
   obtain⟨_,y,r1,rfl⟩:=q rfl
   obtain⟨k1,k2,k3,_⟩:=qNp f (n+1) h (by omega) y r1
   have k4:=qDh y (n+1) k1
   have g3:=zAj y 0 (by omega) (by rw [hm];omega)
   by_cases h1:y.occ 0=0
   ·rw [h1] at g3
    exact⟨.ok y.low,f5 [(7,.N (f.occ 0)),(8,.H),(14,.o [] (chW 0) (.pv (.agg y.y.c))),(22,.N 0),(27,.r y.low.p)] g1 g0 g2 g3 (zAi y 0 .z (.v 0) (.inr h1) (by omega) (by rw [hm];omega)),fun g e=>by cases e;unfold wtF;rw [if_neg h0,r1];simp only [if_pos h1]⟩
   ·have g4:ltI (.ofNat 0) (.ofNat (y.occ 0))=true:=qQy (by omega)
    exact⟨.er 5,f5 [(7,.N (f.occ 0)),(8,.H),(14,.o [] (chW 0) (.pv (.agg y.y.c))),(22,.N (y.occ 0)),(23,.G)] g1 g0 g2 g3 g4,fun g e=>by cases e⟩
open Go.Lg
set_option maxRecDepth 100000
theorem qNq:A 252 [] Ty.nat.p:=f0 []
theorem qL5 (i:Nat):A 255 [num i] (Tm.v i).p:=f0 []
theorem qL6 (k:K0):A 291 [num k.n,row []] (Tm.n0 k).p:=f0 []
theorem zJp (k:K1) (a:Tm):A 291 [num k.n,row [a]] (Tm.n1 k a).p:=f0 []
theorem qL7 (k:K2) (a b:Tm):A 291 [num k.n,row [a,b]] (Tm.n2 k a b).p:=f0 []
theorem zAs (t:Tm) (s:Ty):A 349 [t.p,tys [s]] (Tm.lam s t).p:=f0 []
theorem zJq (t:Tm) (s u:Ty):A 349 [t.p,tys [s,u]] (Tm.lam s (.lam u t)).p:=f0 []
theorem zIo (k:K3) (s:Ty) (a b c:Tm):A 350 [num k.n,s.p,a.p,b.p,c.p] (Tm.n3 k s a b c).p:=f0 []
theorem zGz (a b c:Tm):A 344 [a.p,b.p,c.p] (Tm.n3 .re .nat a (.lam .nat (.lam .nat b)) c).p :=
 f5 [(7,.Y),(10,.Y),(11,.Y),(13,.r (Tm.lam .nat (.lam .nat b)).p),(15,.r (Tm.n3 .re .nat a (.lam .nat (.lam .nat b)) c).p)] qNq qNq qNq (zJq b .nat .nat) (zIo .re .nat a (.lam .nat (.lam .nat b)) c)
theorem zIp (t:Tm):A 343 [t.p] (Tm.lam .nat (.lam .nat t)).p:=f3 [(4,.Y),(5,.Y),(7,.r (Tm.lam .nat (.lam .nat t)).p)] qNq qNq (zJq t .nat .nat)
theorem zIq:A 345 [] predT.p :=
 f6 [(1,.r (Tm.n0 .zero).p),(2,.r (Tm.v 1).p),(3,.r (Tm.v 0).p),(4,.r (Tm.n3 .re .nat (.n0 .zero) (.lam .nat (.lam .nat (.v 1))) (.v 0)).p),(5,.Y),(7,.r predT.p)] (qL6 .zero) (qL5 1) (qL5 0) (zGz (.n0 .zero) (.v 1) (.v 0)) qNq (zAs (.n3 .re .nat (.n0 .zero) (.lam .nat (.lam .nat (.v 1))) (.v 0)) .nat)
theorem zJr (f a:Tm):A 254 [f.p,row [a]] (Tm.n2 .app f a).p:=f1 [(16,.r (Tm.n2 .app f a).p)] (qL7 .app f a)
theorem zAt (f a b:Tm):A 254 [f.p,row [a,b]] (Tm.n2 .app (.n2 .app f a) b).p:=f2 [(16,.r (Tm.n2 .app f a).p),(16,.r (Tm.n2 .app (.n2 .app f a) b).p)] (qL7 .app f a) (qL7 .app (.n2 .app f a) b)
theorem zIr:A 329 [] subT.p:=by
 let x1:=Tm.n2 .app predT (.v 0)
 let x4:=Tm.n3 .re .nat (.v 1) (.lam .nat (.lam .nat x1)) (.v 0)
 exact f7 [(1,.r (Tm.v 1).p),(2,.r predT.p),(3,.r (Tm.v 0).p),(5,.r x1.p),(6,.r (Tm.v 0).p),(7,.r x4.p),(8,.r subT.p)] (qL5 1) zIq (qL5 0) (zJr predT (.v 0)) (qL5 0) (zGz (.v 1) x1 (.v 0)) (zIp x4)
theorem zG0 (a b:Tm):A 251 [a.p,b.p] (Fm.eq a b).p:=f0 []
def qRi (x y:Tm):Fm:=.eq (.n2 .app (.n2 .app subT (.n1 .succ x)) y) (.n0 .zero)
theorem zIs (x y:Tm):A 304 [x.p,y.p] (qRi x y).p :=
 f5 [(5,.r subT.p),(8,.r (Tm.n1 .succ x).p),(11,.r (Tm.n2 .app (.n2 .app subT (.n1 .succ x)) y).p),(12,.r (Tm.n0 .zero).p),(13,.r (qRi x y).p)] zIr (zJp .succ x) (zAt subT (.n1 .succ x) y) (qL6 .zero) (zG0 (.n2 .app (.n2 .app subT (.n1 .succ x)) y) (.n0 .zero))
theorem zIt (a b c d:Tm):∃ r,A 303 [(Fm.eq a b).p,(Fm.eq c d).p] (.bool r):=by
 obtain⟨r,g1⟩:=qS0 a c
 obtain⟨q,g2⟩:=qS0 b d
 cases r
 ·exact⟨false,f2 [(19,.T),(54,.F)] qHb g1⟩
 ·cases q
  ·exact⟨false,f3 [(19,.T),(54,.T),(54,.F)] qHb g1 g2⟩
  ·exact⟨true,f3 [(19,.T),(54,.T),(54,.T)] qHb g1 g2⟩
abbrev zF:List PV:=[num 0,num 0,.slice [],.slice [],.slice []]
abbrev qRj:PV:=.tuple [.bool false,(.agg Sx.z.c),.agg zF,.bool false]
abbrev Bd (k:FQ) (s:Ty) (f:Fm):Prop:=A 270 [(Fm.q k s f).p] qRj ∨ ∃ b t l a body,f = .bin l a body∧A 270 [(Fm.q k s f).p] (.tuple [.bool b,Tm.p t,Fm.p body,.bool true])
theorem zG1 (k:FQ) (l:FB) (hk:k = .all∧l = .imp∨k = .ex∧l = .and) (t u:Tm) (body:Fm) (h:t.cnt≤4096) (hx:t.mx≤mid * mid):Bd k .nat (.bin l (.eq t u) body):=by
 have no:t.kd≠3→Bd k .nat (.bin l (.eq t u) body):=fun h => .inl (by
  rcases hk with ⟨rfl,rfl⟩|⟨rfl,rfl⟩<;>exact f1 [(64,.G)] (qX4 (m:=t.kd) (n:=3) h))
 cases t with
 | n2 j x y =>
  cases j with
  | app =>
   have hm:=qQc
   have h:1+x.cnt+y.cnt≤4096:=h
   have hx:max x.mx y.mx≤mid * mid:=hx
   have g1:=zGs y 0 (by omega) (by omega) (by omega)
   by_cases h0:y.occ 0=0
   ·rw [h0] at g1
    have g2:=zIs (.v 0) y
    obtain⟨r,g3⟩:=zIt (.n2 .app x y) u (.n2 .app (.n2 .app subT (.n1 .succ (.v 0))) y) (.n0 .zero)
    cases r
    ·refine .inl ?_
     rcases hk with ⟨rfl,rfl⟩|⟨rfl,rfl⟩<;>exact f3 [(70,.N 0),(80,.r (qRi (.v 0) y).p),(81,.F)] g1 g2 g3
    ·rcases hk with ⟨rfl,rfl⟩|⟨rfl,rfl⟩
     ·exact .inr ⟨true,y,_,_,body,rfl,f3 [(70,.N 0),(80,.r (qRi (.v 0) y).p),(81,.T)] g1 g2 g3⟩
     ·exact .inr ⟨false,y,_,_,body,rfl,f3 [(70,.N 0),(80,.r (qRi (.v 0) y).p),(81,.T)] g1 g2 g3⟩
   ·have g2:ltI (.ofNat 0) (.ofNat (y.occ 0))=true:=qQy (by omega)
    refine .inl ?_
    rcases hk with ⟨rfl,rfl⟩|⟨rfl,rfl⟩<;>exact f2 [(70,.N (y.occ 0)),(71,.G)] g1 g2
  | _=>exact no (nofun)
 | v i=>exact no (nofun)
 | lam s b=>exact no (nofun)
 | n0 j=>exact no (by cases j<;>exact nofun)
 | n1 j a=>exact no (by cases j<;>exact nofun)
 | n3 j s a b d=>exact no (by cases j<;>exact nofun)
theorem zIu (k:FQ) (s:Ty) (f:Fm) (h:f.cnt≤4096) (hx:f.mx≤mid * mid):Bd k s f:=by
 cases k with
 | allU=>exact .inl (f0 [])
 | exU=>exact .inl (f0 [])
 | all=>cases s with
  | nat=>cases f with
   | eq a b=>exact .inl (f0 [])
   | q j s f=>exact .inl (by cases j<;>exact f0 [])
   | bin j a b=>cases j with
    | and=>exact .inl (f0 [])
    | imp=>cases a with
     | bin j a b=>exact .inl (by cases j<;>exact f0 [])
     | q j s f=>exact .inl (by cases j<;>exact f0 [])
     | eq t u =>
      simp only [Fm.cnt,Fm.mx] at h hx
      exact zG1 .all .imp (.inl ⟨rfl,rfl⟩) t u b (by omega) (by omega)
  | two j s u=>exact .inl (by cases j<;>exact f0 [])
  | _=>exact .inl (f0 [])
 | ex=>cases s with
  | nat=>cases f with
   | eq a b=>exact .inl (f0 [])
   | q j s f=>exact .inl (by cases j<;>exact f0 [])
   | bin j a b=>cases j with
    | imp=>exact .inl (f0 [])
    | and=>cases a with
     | bin j a b=>exact .inl (by cases j<;>exact f0 [])
     | q j s f=>exact .inl (by cases j<;>exact f0 [])
     | eq t u =>
      simp only [Fm.cnt,Fm.mx] at h hx
      exact zG1 .ex .and (.inr ⟨rfl,rfl⟩) t u b (by omega) (by omega)
  | two j s u=>exact .inl (by cases j<;>exact f0 [])
  | _=>exact .inl (f0 [])
theorem qE0:∀ v,v<8→∀ w,w<8→qQm .and .u8 (.ofNat v) (.ofNat w) = .ofNat (v &&& w)∧v &&& w<8:=by decide +kernel
theorem qS3:∀ v,v<8→∀ w,w<8→qQm .or .u8 (.ofNat v) (.ofNat w) = .ofNat (v ||| w)∧v ||| w<8:=by decide +kernel
theorem qUy {v w:Nat} (h:v<8) (h':w<8):(bif qY2 .u8 .u8 then inB (qQm .and .u8 (.ofNat v) (.ofNat w)) else false)=true∧PV.num .u8 (qQm .and .u8 (.ofNat v) (.ofNat w)) = .num .u8 (.ofNat (v &&& w)):=by
 have hb:=qQh
 rw [(qE0 v h w h').1]
 exact⟨inb (n:=v &&& w) (by have:=(qE0 v h w h').2;omega),rfl⟩
theorem or8 {v w:Nat} (h:v<8) (h':w<8):(bif qY2 .u8 .u8 then inB (qQm .or .u8 (.ofNat v) (.ofNat w)) else false)=true∧PV.num .u8 (qQm .or .u8 (.ofNat v) (.ofNat w)) = .num .u8 (.ofNat (v ||| w)):=by
 have hb:=qQh
 rw [(qS3 v h w h').1]
 exact⟨inb (n:=v ||| w) (by have:=(qS3 v h w h').2;omega),rfl⟩
theorem zAu:∀ v,v<8→∀ w,w<8→(v &&& w &&& 6 ||| (w ||| v) &&& 1) % 2=max (v % 2) (w % 2):=by decide +kernel
theorem zAv:∀ v,v<8→∀ w,w<8→(v &&& w &&& 6 ||| w &&& 1) % 2=w % 2:=by decide +kernel
theorem zG2:∀ v,v<8→(v &&& 1) % 2=v % 2∧((v ||| 1) &&& 1) % 2=1:=by decide +kernel
theorem zCy:∀ v,v<8→∀ w,w<8→(v ||| w &&& 4) % 2=v % 2:=by decide +kernel
abbrev u8 (n:Nat):PV:=.num .u8 (.ofNat n)
def qE1:Bool→Nat
 | true=>1
 | false=>0
theorem zW9 (a b:Bool):max (qE1 a) (qE1 b)=qE1 (a || b):=by cases a<;>cases b<;>rfl
theorem zAw:∀ (n:Nat) (f:Fm),f.cnt≤n→f.cnt≤4096→f.mx≤mid * mid→∃ v,v<8∧A 208 [f.p] (u8 v)∧v % 2=qE1 f.has
 | 0,f,hn,h,hx=>by
  have:1≤f.cnt:=by cases f<;>simp only [Fm.cnt]<;>omega
  omega
 | n+1,.eq a b,hn,h,hx=>⟨6,by decide,f0 [],rfl⟩
 | n+1,.bin k f g,hn,h,hx=>by
  simp only [Fm.cnt,Fm.mx] at hn h hx
  obtain⟨v,l1,g1,q1⟩:=zAw n f (by omega) (by omega) (by omega)
  obtain⟨w,l2,g2,q2⟩:=zAw n g (by omega) (by omega) (by omega)
  have k1:=(qE0 v l1 w l2).2
  have k2:=(qE0 _ k1 6 (by decide)).2
  cases k with
  | and =>
   have k3:=(qS3 w l2 v l1).2
   have k4:=(qE0 _ k3 1 (by decide)).2
   refine⟨v &&& w &&& 6 ||| (w ||| v) &&& 1,(qS3 _ k2 _ k4).2,?_,?_⟩
   ·exact f7 [(22,.r (u8 w)),(32,.r (u8 v)),(35,.v (u8 (v &&& w))),(36,.v (u8 (v &&& w &&& 6))),(42,.v (u8 (w ||| v))),(45,.v (u8 ((w ||| v) &&& 1))),(46,.v (u8 (v &&& w &&& 6 ||| (w ||| v) &&& 1)))] g2 g1 (qUy l1 l2) (qUy k1 (w:=6) (by decide)) (or8 l2 l1) (qUy k3 (w:=1) (by decide)) (or8 k2 k4)
   ·rw [zAu v l1 w l2,q1,q2,zW9];rfl
  | imp =>
   have k4:=(qE0 w l2 1 (by decide)).2
   refine⟨v &&& w &&& 6 ||| w &&& 1,(qS3 _ k2 _ k4).2,?_,?_⟩
   ·exact f6 [(22,.r (u8 w)),(32,.r (u8 v)),(35,.v (u8 (v &&& w))),(36,.v (u8 (v &&& w &&& 6))),(45,.v (u8 (w &&& 1))),(46,.v (u8 (v &&& w &&& 6 ||| w &&& 1)))] g2 g1 (qUy l1 l2) (qUy k1 (w:=6) (by decide)) (qUy l2 (w:=1) (by decide)) (or8 k2 k4)
   ·rw [zAv v l1 w l2,q2];rfl
 | n+1,.q k s f,hn,h,hx=>by
  simp only [Fm.cnt,Fm.mx] at hn h hx
  obtain⟨v,l1,g1,q1⟩:=zAw n f (by omega) (by omega) (by omega)
  have k1:=(qE0 v l1 1 (by decide)).2
  have k2:=(qS3 v l1 1 (by decide)).2
  have k3:=(qE0 _ k2 1 (by decide)).2
  have z1:=qUy l1 (w:=1) (by decide)
  have z2:=or8 l1 (w:=1) (by decide)
  have z3:=qUy k2 (w:=1) (by decide)
  have p1:=(zG2 v l1).1
  have p2:=(zG2 v l1).2
  rcases zIu k s f (by omega) hx with g2|⟨b,t,l,a,body,rfl,g2⟩
  ·cases k with
   | ex=>exact⟨(v ||| 1) &&& 1,k3,f4 [(22,.r (u8 v)),(50,.v (u8 (v ||| 1))),(52,.v (u8 ((v ||| 1) &&& 1))),(55,.r qRj)] g1 z2 z3 g2,p2⟩
   | all=>exact⟨v &&& 1,k1,f3 [(22,.r (u8 v)),(52,.v (u8 (v &&& 1))),(55,.r qRj)] g1 z1 g2,p1.trans q1⟩
   | allU=>exact⟨v &&& 1,k1,f3 [(22,.r (u8 v)),(52,.v (u8 (v &&& 1))),(55,.r qRj)] g1 z1 g2,p1.trans q1⟩
   | exU=>exact⟨v &&& 1,k1,f3 [(22,.r (u8 v)),(52,.v (u8 (v &&& 1))),(55,.r qRj)] g1 z1 g2,p1.trans q1⟩
  ·simp only [Fm.cnt,Fm.mx] at hn h hx
   obtain⟨w,l2,g3,q2⟩:=zAw n body (by omega) (by omega) (by omega)
   have y1:=(qE0 w l2 4 (by decide)).2
   have y2:=qUy l2 (w:=4) (by decide)
   cases k with
   | ex=>exact⟨(v ||| 1) &&& 1 ||| w &&& 4,(qS3 _ k3 _ y1).2,f7 [(22,.r (u8 v)),(50,.v (u8 (v ||| 1))),(52,.v (u8 ((v ||| 1) &&& 1))),(55,.U [.bool b,Tm.p t,Fm.p body,.bool true]),(63,.r (u8 w)),(64,.v (u8 (w &&& 4))),(65,.v (u8 ((v ||| 1) &&& 1 ||| w &&& 4)))] g1 z2 z3 g2 g3 y2 (or8 k3 y1),(zCy _ k3 w l2).trans p2⟩
   | all=>exact⟨v &&& 1 ||| w &&& 4,(qS3 _ k1 _ y1).2,f6 [(22,.r (u8 v)),(52,.v (u8 (v &&& 1))),(55,.U [.bool b,Tm.p t,Fm.p body,.bool true]),(63,.r (u8 w)),(64,.v (u8 (w &&& 4))),(65,.v (u8 (v &&& 1 ||| w &&& 4)))] g1 z1 g2 g3 y2 (or8 k1 y1),(zCy _ k1 w l2).trans (p1.trans q1)⟩
   | allU=>exact⟨v &&& 1 ||| w &&& 4,(qS3 _ k1 _ y1).2,f6 [(22,.r (u8 v)),(52,.v (u8 (v &&& 1))),(55,.U [.bool b,Tm.p t,Fm.p body,.bool true]),(63,.r (u8 w)),(64,.v (u8 (w &&& 4))),(65,.v (u8 (v &&& 1 ||| w &&& 4)))] g1 z1 g2 g3 y2 (or8 k1 y1),(zCy _ k1 w l2).trans (p1.trans q1)⟩
   | exU=>exact⟨v &&& 1 ||| w &&& 4,(qS3 _ k1 _ y1).2,f6 [(22,.r (u8 v)),(52,.v (u8 (v &&& 1))),(55,.U [.bool b,Tm.p t,Fm.p body,.bool true]),(63,.r (u8 w)),(64,.v (u8 (w &&& 4))),(65,.v (u8 (v &&& 1 ||| w &&& 4)))] g1 z1 g2 g3 y2 (or8 k1 y1),(zCy _ k1 w l2).trans (p1.trans q1)⟩
theorem zIv:∀ v,v<8→∀ {f:Fm},A 89 [f.p] (num 0)→A 208 [f.p] (u8 v)→A 127 [f.p,u8 1] (.tuple [.bool (Nat.beq (v % 2) 1),num 0])
 | 0,_,_,g,g1=>f2 [(8,.N 0),(13,.r (u8 0))] g g1
 | 1,_,_,g,g1=>f2 [(8,.N 0),(13,.r (u8 1))] g g1
 | 2,_,_,g,g1=>f2 [(8,.N 0),(13,.r (u8 2))] g g1
 | 3,_,_,g,g1=>f2 [(8,.N 0),(13,.r (u8 3))] g g1
 | 4,_,_,g,g1=>f2 [(8,.N 0),(13,.r (u8 4))] g g1
 | 5,_,_,g,g1=>f2 [(8,.N 0),(13,.r (u8 5))] g g1
 | 6,_,_,g,g1=>f2 [(8,.N 0),(13,.r (u8 6))] g g1
 | 7,_,_,g,g1=>f2 [(8,.N 0),(13,.r (u8 7))] g g1
 | n+8,h,_,_,_=>absurd h (by omega)
theorem FK.a70 {n:Nat} {f:Fm} (h:FK n f) (hn:n≤lim):A 70 [f.p] (.tuple [.bool f.has,num 0]):=by
 have hm:=qQc
 have hx:=h.mx hn
 obtain⟨v,l,g,q⟩:=zAw 4096 f h.cnt h.cnt (by rw [hm];omega)
 have g1:=zIv v l h.a89 g
 rw [q] at g1
 cases e:f.has<;>rw [e] at g1
 ·exact f1 [(5,.U [.bool false,num 0])] g1
 ·exact f1 [(5,.U [.bool true,num 0])] g1
inductive CR where
 | no
 | ok (s:Ty)
 | er (n:Nat)
 | ers (s:Ty) (n:Nat)
def CR.k:CR→Nat
 | .ok s=>s.kd
 | .ers s _=>s.kd
 | _=>0
def CR.l:CR→List (List PV)
 | .ok s=>s.es
 | .ers s _=>s.es
 | _=>[]
def CR.h:CR→Bool
 | .ok _=>true
 | .ers _ _=>true
 | _=>false
def CR.e:CR→Nat
 | .er n=>n+1
 | .ers _ n=>n+1
 | _=>0
def CR.q (r:CR):PV:=.tuple [.agg [num r.k,.slice r.l],.bool r.h,num r.e]
def CR.Good (b:Bool):CR→Prop
 | .no=>b=false
 | .ok s=>b=true∧s.size≤64
 | _=>True
theorem zCz (k:Bool) (s u:Ty) (h1:s.size≤64) (h2:u.size≤64):∃ r:CR,A 142 [num (bn k 3 4),s.p,u.p] r.q∧r.Good true:=by
 have hb:=qQh
 have g:A 143 [(Ty.two k s u).p] (num (ckE (1+s.size+u.size) 64)):=zEa (.two k s u) (by simp only [Ty.size];omega)
 rcases qAk (1+s.size+u.size) 64 with ⟨h,_,e⟩|⟨h,_,e⟩<;>rw [e] at g
 ·exact⟨.ok (.two k s u),by cases k<;>exact f1 [(17,.N 0)] g,rfl,h⟩
 ·exact⟨.er 3,by cases k<;>exact f1 [(17,.N 4)] g,trivial⟩
theorem a90:∀ (f:Fm),f.shp=true→∃ r:CR,A 90 [f.p] r.q∧r.Good f.has
 | .eq a b,h=>⟨.no,f0 [],rfl⟩
 | .bin k f g,h=>by
  obtain⟨h1,h2⟩:=qQ3 h
  obtain⟨r2,g2,q2⟩:=a90 g h2
  obtain⟨r1,g1,q1⟩:=a90 f h1
  cases r2 with
  | er n=>exact⟨.er n,by cases k<;>exact f1 [(27,.r (CR.er n).q)] g2,trivial⟩
  | ers s n=>exact⟨.er n,by cases k<;>exact f1 [(27,.r (CR.ers s n).q)] g2,trivial⟩
  | no =>
   have q2:g.has=false:=q2
   cases k with
   | imp=>exact⟨.no,f1 [(27,.r CR.no.q)] g2,by show g.has=false;exact q2⟩
   | and=>cases r1 with
    | er n=>exact⟨.er n,f2 [(27,.r CR.no.q),(44,.r (CR.er n).q)] g2 g1,trivial⟩
    | ers s n=>exact⟨.er n,f2 [(27,.r CR.no.q),(44,.r (CR.ers s n).q)] g2 g1,trivial⟩
    | no=>exact⟨.no,f2 [(27,.r CR.no.q),(44,.r CR.no.q)] g2 g1,by show (f.has || g.has)=false;rw [q2,show f.has=false from q1];rfl⟩
    | ok s=>exact⟨.ok s,f2 [(27,.r CR.no.q),(44,.r (CR.ok s).q)] g2 g1,by show (f.has || g.has)=true;rw [show f.has=true from q1.1];rfl,q1.2⟩
  | ok u =>
   have q3:g.has=true:=q2.1
   cases k with
   | imp =>
    have e:(Fm.bin .imp f g).has=true:=q3
    rw [e]
    cases r1 with
    | er n=>exact⟨.ers u n,f2 [(27,.r (CR.ok u).q),(91,.r (CR.er n).q)] g2 g1,trivial⟩
    | ers s n=>exact⟨.ers u n,f2 [(27,.r (CR.ok u).q),(91,.r (CR.ers s n).q)] g2 g1,trivial⟩
    | no=>exact⟨.ok u,f2 [(27,.r (CR.ok u).q),(91,.r CR.no.q)] g2 g1,rfl,q2.2⟩
    | ok s =>
     obtain⟨r,g3,q⟩:=zCz true s u q1.2 q2.2
     exact⟨r,f3 [(27,.r (CR.ok u).q),(91,.r (CR.ok s).q),(105,.r r.q)] g2 g1 g3,q⟩
   | and =>
    have e:(Fm.bin .and f g).has=true:=by show (f.has || g.has)=true;rw [q3];cases f.has<;>rfl
    rw [e]
    cases r1 with
    | er n=>exact⟨.ers u n,f2 [(27,.r (CR.ok u).q),(44,.r (CR.er n).q)] g2 g1,trivial⟩
    | ers s n=>exact⟨.ers u n,f2 [(27,.r (CR.ok u).q),(44,.r (CR.ers s n).q)] g2 g1,trivial⟩
    | no=>exact⟨.ok u,f2 [(27,.r (CR.ok u).q),(44,.r CR.no.q)] g2 g1,rfl,q2.2⟩
    | ok s =>
     obtain⟨r,g3,q⟩:=zCz false s u q1.2 q2.2
     exact⟨r,f3 [(27,.r (CR.ok u).q),(44,.r (CR.ok s).q),(62,.r r.q)] g2 g1 g3,q⟩
 | .q k s f,h=>by
  obtain⟨h1,h2⟩:=qQ3 h
  have hs:=qNm h1
  obtain⟨r,g,q⟩:=a90 f h2
  cases r with
  | er n=>exact⟨.er n,by cases k<;>exact f1 [(27,.r (CR.er n).q)] g,trivial⟩
  | ers u n=>exact⟨.er n,by cases k<;>exact f1 [(27,.r (CR.ers u n).q)] g,trivial⟩
  | no =>
   have q:f.has=false:=q
   cases k with
   | ex=>exact⟨.ok s,f1 [(27,.r CR.no.q)] g,rfl,hs⟩
   | all=>exact⟨.no,f1 [(27,.r CR.no.q)] g,q⟩
   | allU=>exact⟨.no,f1 [(27,.r CR.no.q)] g,q⟩
   | exU=>exact⟨.no,f1 [(27,.r CR.no.q)] g,q⟩
  | ok u =>
   have q3:f.has=true:=q.1
   cases k with
   | ex =>
    obtain⟨r,g3,q'⟩:=zCz false s u hs q.2
    exact⟨r,f2 [(27,.r (CR.ok u).q),(75,.r r.q)] g g3,q'⟩
   | all =>
    obtain⟨r,g3,q'⟩:=zCz true s u hs q.2
    exact⟨r,f2 [(27,.r (CR.ok u).q),(114,.r r.q)] g g3,by show r.Good f.has;rw [q3];exact q'⟩
   | allU=>exact⟨.ok u,f1 [(27,.r (CR.ok u).q)] g,q3,q.2⟩
   | exU=>exact⟨.ok u,f1 [(27,.r (CR.ok u).q)] g,q3,q.2⟩
theorem FK.a34 {n:Nat} {f:Fm} (h:FK n f):∃ r:TR,A 34 [f.p] r.p∧r.sz≤64:=by
 obtain⟨r,g,q⟩:=a90 f h.shp
 cases r with
 | er n=>exact⟨.er n,f2 [(9,.N 0),(16,.r (CR.er n).q)] h.a89 g,Nat.zero_le _⟩
 | ers s n=>exact⟨.er n,f2 [(9,.N 0),(16,.r (CR.ers s n).q)] h.a89 g,Nat.zero_le _⟩
 | no=>exact⟨.ok .unit,f2 [(9,.N 0),(16,.r CR.no.q)] h.a89 g,by decide⟩
 | ok s=>exact⟨.ok s,f2 [(9,.N 0),(16,.r (CR.ok s).q)] h.a89 g,q.2⟩
open Go.Lg
set_option maxRecDepth 100000
def Pf.ck:Pf→Prop
 | .leaf _ _=>True
 | .refl t=>t.chk=0
 | .p1 _ a=>a.ck
 | .p2 _ a b=>a.ck∧b.ck
 | .impI f a=>f.chk=0∧a.ck
 | .all _ s a=>s.size≤64∧a.ck
 | .ins _ t a=>t.chk=0∧a.ck
 | .ex _ f t a=>t.chk=0∧f.chk=0∧a.ck
 | .ind _ f t a b=>t.chk=0∧f.chk=0∧a.ck∧b.ck
 | .subst f a b=>f.chk=0∧a.ck∧b.ck
abbrev tly (n:Nat) (l:Bool):List (Nat × Ob):=[(1,bx [num n,.bool l])]
theorem zG3 (k e n:Nat) (l:Bool) (he:e=0∨e=2∨e=4) (h:n+k≤big):∃ r l',O 283 [.loc 1 0,.pv (num k),.pv (num e)] (tly n l) (.pv (.bool r)) (tly (n+k) l')∧(r=true→l'=false→l=false∧e=0):=by
 have g:=qQ9 (a:=n) (b:=k) h
 rcases he with rfl|rfl|rfl
 ·exact⟨true,l,by cases l<;>exact o1 2 [(12,.z (n+k))] g,fun _ h=>⟨h,rfl⟩⟩
 ·exact⟨false,l,by cases l<;>exact o1 2 [(12,.z (n+k))] g,nofun⟩
 ·exact⟨true,true,by cases l<;>exact o1 2 [(12,.z (n+k))] g,fun _ h=>by cases h⟩
theorem Tm.chk_3 (t:Tm):t.chk=0∨t.chk=2∨t.chk=4:=by
 unfold Tm.chk
 split
 ·exact .inr (.inl rfl)
 ·split
  ·exact .inr (.inr rfl)
  ·exact .inl rfl
theorem Fm.chk_3 (t:Fm):t.chk=0∨t.chk=2∨t.chk=4:=by
 unfold Fm.chk
 split
 ·exact .inr (.inl rfl)
 ·split
  ·exact .inr (.inr rfl)
  ·exact .inl rfl
theorem Tm.ckn_le (t:Tm):t.ckn≤t.cnt:=by unfold Tm.ckn;split<;>omega
theorem Fm.ckn_le (t:Fm):t.ckn≤t.cnt:=by unfold Fm.ckn;split<;>omega
theorem zC0 (t:Tm) (n:Nat) (l:Bool) (h:n+t.cnt≤big) (ht:t.tsz≤big):∃ k r l',A 144 [t.p] (.tuple [num k,num t.chk])∧O 283 [.loc 1 0,.pv (num k),.pv (num t.chk)] (tly n l) (.pv (.bool r)) (tly (n+k) l')∧k≤t.cnt∧(r=true→l'=false→l=false∧t.chk=0):=by
 have h1:=t.ckn_le
 obtain⟨r,l',g,q⟩:=zG3 t.ckn t.chk n l t.chk_3 (by omega)
 exact⟨t.ckn,r,l',zCs t ht (by omega),g,h1,q⟩
theorem zC1 (t:Fm) (n:Nat) (l:Bool) (h:n+t.cnt≤big) (ht:t.tsz≤big):∃ k r l',A 141 [t.p] (.tuple [num k,num t.chk])∧O 283 [.loc 1 0,.pv (num k),.pv (num t.chk)] (tly n l) (.pv (.bool r)) (tly (n+k) l')∧k≤t.cnt∧(r=true→l'=false→l=false∧t.chk=0):=by
 have h1:=t.ckn_le
 obtain⟨r,l',g,q⟩:=zG3 t.ckn t.chk n l t.chk_3 (by omega)
 exact⟨t.ckn,r,l',zCu t ht (by omega),g,h1,q⟩
abbrev zIw (p:Pf) (n:Nat) (l:Bool):Prop:=∃ r n' l',O 231 [.loc 1 0,.pv p.p] (tly n l) (.pv (.bool r)) (tly n' l')∧n'≤n+p.cnt∧(r=true→l'=false→l=false∧p.ck)
theorem qN1:∀ (p:Pf) (n:Nat) (l:Bool),n+p.cnt≤big→p.tsz≤big→zIw p n l
 | .leaf u i,n,l,hn,ht=>by
  have hn:n+(1)≤big:=hn
  have ht:0≤big:=ht
  have h0:=qQ9 (a:=n) (b:=1) (by omega)
  have hq:true=true→l=false→l=false∧(Pf.leaf u i).ck:=fun _ h=>⟨h,trivial⟩
  cases u<;>cases i<;>exact⟨true,n+1,l,o2 2 [(66,.z (n+1)),(81,.T)] h0 qZ8,by simp only [Pf.cnt];omega,hq⟩
 | .refl t,n,l,hn,ht=>by
  have hn:n+(1+t.cnt)≤big:=hn
  have ht:t.tsz≤big:=ht
  have h0:=qQ9 (a:=n) (b:=1) (by omega)
  obtain⟨kt,rt,lt,gt,ut,bt,qt⟩:=zC0 t (n+1) l (by omega) (by omega)
  cases rt
  ·exact⟨false,n+1+kt,lt,o4 2 [(66,.z (n+1)),(81,.T),(92,.U [num kt,num t.chk]),(95,.o [] (tly (n+1+kt) lt) (.pv (.bool false)))] h0 qZ8 gt ut,by simp only [Pf.cnt];omega,nofun⟩
  have hq:true=true→lt=false→l=false∧(Pf.refl t).ck:=fun _ hl=>by
   obtain⟨zt,wt⟩:=qt rfl hl
   exact⟨zt,wt⟩
  exact⟨true,n+1+kt,lt,o4 2 [(66,.z (n+1)),(81,.T),(92,.U [num kt,num t.chk]),(95,.o [] (tly (n+1+kt) lt) (.pv (.bool true)))] h0 qZ8 gt ut,by simp only [Pf.cnt];omega,hq⟩
 | .p1 k a,n,l,hn,ht=>by
  have hn:n+(1+a.cnt)≤big:=hn
  have ht:a.tsz≤big:=ht
  have h0:=qQ9 (a:=n) (b:=1) (by omega)
  obtain⟨ra,na,la,ua,ba,qa⟩:=qN1 a (n+1) l (by omega) (by omega)
  cases ra
  ·cases k<;>exact⟨false,na,la,o3 2 [(66,.z (n+1)),(81,.T),(122,.o [] (tly na la) (.pv (.bool false)))] h0 qZ8 ua,by simp only [Pf.cnt];omega,nofun⟩
  have hq:true=true→la=false→l=false∧(Pf.p1 k a).ck:=fun _ hl=>by
   obtain⟨za,wa⟩:=qa rfl hl
   exact⟨za,wa⟩
  cases k<;>exact⟨true,na,la,o3 2 [(66,.z (n+1)),(81,.T),(122,.o [] (tly na la) (.pv (.bool true)))] h0 qZ8 ua,by simp only [Pf.cnt];omega,hq⟩
 | .p2 k a b,n,l,hn,ht=>by
  have hn:n+(1+a.cnt+b.cnt)≤big:=hn
  have ht:max a.tsz b.tsz≤big:=ht
  have h0:=qQ9 (a:=n) (b:=1) (by omega)
  obtain⟨ra,na,la,ua,ba,qa⟩:=qN1 a (n+1) l (by omega) (by omega)
  cases ra
  ·cases k<;>exact⟨false,na,la,o3 2 [(66,.z (n+1)),(81,.T),(122,.o [] (tly na la) (.pv (.bool false)))] h0 qZ8 ua,by simp only [Pf.cnt];omega,nofun⟩
  obtain⟨rb,nb,lb,ub,bb,qb⟩:=qN1 b (na) la (by omega) (by omega)
  cases rb
  ·cases k<;>exact⟨false,nb,lb,o4 2 [(66,.z (n+1)),(81,.T),(122,.o [] (tly na la) (.pv (.bool true))),(122,.o [] (tly nb lb) (.pv (.bool false)))] h0 qZ8 ua ub,by simp only [Pf.cnt];omega,nofun⟩
  have hq:true=true→lb=false→l=false∧(Pf.p2 k a b).ck:=fun _ hl=>by
   obtain⟨zb,wb⟩:=qb rfl hl
   obtain⟨za,wa⟩:=qa rfl zb
   exact⟨za,⟨wa,wb⟩⟩
  cases k<;>exact⟨true,nb,lb,o4 2 [(66,.z (n+1)),(81,.T),(122,.o [] (tly na la) (.pv (.bool true))),(122,.o [] (tly nb lb) (.pv (.bool true)))] h0 qZ8 ua ub,by simp only [Pf.cnt];omega,hq⟩
 | .impI f a,n,l,hn,ht=>by
  have hn:n+(1+f.cnt+a.cnt)≤big:=hn
  have ht:max f.tsz a.tsz≤big:=ht
  have h0:=qQ9 (a:=n) (b:=1) (by omega)
  obtain⟨kf,rf,lf,gf,uf,bf,qf⟩:=zC1 f (n+1) l (by omega) (by omega)
  cases rf
  ·exact⟨false,n+1+kf,lf,o4 2 [(66,.z (n+1)),(81,.T),(107,.U [num kf,num f.chk]),(110,.o [] (tly (n+1+kf) lf) (.pv (.bool false)))] h0 qZ8 gf uf,by simp only [Pf.cnt];omega,nofun⟩
  obtain⟨ra,na,la,ua,ba,qa⟩:=qN1 a (n+1+kf) lf (by omega) (by omega)
  cases ra
  ·exact⟨false,na,la,o5 2 [(66,.z (n+1)),(81,.T),(107,.U [num kf,num f.chk]),(110,.o [] (tly (n+1+kf) lf) (.pv (.bool true))),(122,.o [] (tly na la) (.pv (.bool false)))] h0 qZ8 gf uf ua,by simp only [Pf.cnt];omega,nofun⟩
  have hq:true=true→la=false→l=false∧(Pf.impI f a).ck:=fun _ hl=>by
   obtain⟨za,wa⟩:=qa rfl hl
   obtain⟨zf,wf⟩:=qf rfl za
   exact⟨zf,⟨wf,wa⟩⟩
  exact⟨true,na,la,o5 2 [(66,.z (n+1)),(81,.T),(107,.U [num kf,num f.chk]),(110,.o [] (tly (n+1+kf) lf) (.pv (.bool true))),(122,.o [] (tly na la) (.pv (.bool true)))] h0 qZ8 gf uf ua,by simp only [Pf.cnt];omega,hq⟩
 | .all u s a,n,l,hn,ht=>by
  have hn:n+(1+a.cnt)≤big:=hn
  have ht:max a.tsz s.size≤big:=ht
  have h0:=qQ9 (a:=n) (b:=1) (by omega)
  have g1:=zXo s (by omega)
  rcases qAk s.size 64 with ⟨hz,e1,e2⟩|⟨hz,e1,e2⟩<;>rw [e1,e2] at g1
  rotate_left
  ·cases u<;>exact⟨false,n+1,l,o2 2 [(66,.z (n+1)),(74,.U [num 0,num 4])] h0 g1,by simp only [Pf.cnt];omega,nofun⟩
  obtain⟨ra,na,la,ua,ba,qa⟩:=qN1 a (n+1) l (by omega) (by omega)
  cases ra
  ·cases u<;>exact⟨false,na,la,o3 2 [(66,.z (n+1)),(74,.U [num s.size,num 0]),(122,.o [] (tly na la) (.pv (.bool false)))] h0 g1 ua,by simp only [Pf.cnt];omega,nofun⟩
  have hq:true=true→la=false→l=false∧(Pf.all u s a).ck:=fun _ hl=>by
   obtain⟨za,wa⟩:=qa rfl hl
   exact⟨za,⟨hz,wa⟩⟩
  cases u<;>exact⟨true,na,la,o3 2 [(66,.z (n+1)),(74,.U [num s.size,num 0]),(122,.o [] (tly na la) (.pv (.bool true)))] h0 g1 ua,by simp only [Pf.cnt];omega,hq⟩
 | .ins u t a,n,l,hn,ht=>by
  have hn:n+(1+t.cnt+a.cnt)≤big:=hn
  have ht:max t.tsz a.tsz≤big:=ht
  have h0:=qQ9 (a:=n) (b:=1) (by omega)
  obtain⟨kt,rt,lt,gt,ut,bt,qt⟩:=zC0 t (n+1) l (by omega) (by omega)
  cases rt
  ·cases u<;>exact⟨false,n+1+kt,lt,o4 2 [(66,.z (n+1)),(81,.T),(92,.U [num kt,num t.chk]),(95,.o [] (tly (n+1+kt) lt) (.pv (.bool false)))] h0 qZ8 gt ut,by simp only [Pf.cnt];omega,nofun⟩
  obtain⟨ra,na,la,ua,ba,qa⟩:=qN1 a (n+1+kt) lt (by omega) (by omega)
  cases ra
  ·cases u<;>exact⟨false,na,la,o5 2 [(66,.z (n+1)),(81,.T),(92,.U [num kt,num t.chk]),(95,.o [] (tly (n+1+kt) lt) (.pv (.bool true))),(122,.o [] (tly na la) (.pv (.bool false)))] h0 qZ8 gt ut ua,by simp only [Pf.cnt];omega,nofun⟩
  have hq:true=true→la=false→l=false∧(Pf.ins u t a).ck:=fun _ hl=>by
   obtain⟨za,wa⟩:=qa rfl hl
   obtain⟨zt,wt⟩:=qt rfl za
   exact⟨zt,⟨wt,wa⟩⟩
  cases u<;>exact⟨true,na,la,o5 2 [(66,.z (n+1)),(81,.T),(92,.U [num kt,num t.chk]),(95,.o [] (tly (n+1+kt) lt) (.pv (.bool true))),(122,.o [] (tly na la) (.pv (.bool true)))] h0 qZ8 gt ut ua,by simp only [Pf.cnt];omega,hq⟩
 | .ex u f t a,n,l,hn,ht=>by
  have hn:n+(1+t.cnt+f.cnt+a.cnt)≤big:=hn
  have ht:max (max t.tsz f.tsz) a.tsz≤big:=ht
  have h0:=qQ9 (a:=n) (b:=1) (by omega)
  obtain⟨kt,rt,lt,gt,ut,bt,qt⟩:=zC0 t (n+1) l (by omega) (by omega)
  cases rt
  ·cases u<;>exact⟨false,n+1+kt,lt,o4 2 [(66,.z (n+1)),(81,.T),(92,.U [num kt,num t.chk]),(95,.o [] (tly (n+1+kt) lt) (.pv (.bool false)))] h0 qZ8 gt ut,by simp only [Pf.cnt];omega,nofun⟩
  obtain⟨kf,rf,lf,gf,uf,bf,qf⟩:=zC1 f (n+1+kt) lt (by omega) (by omega)
  cases rf
  ·cases u<;>exact⟨false,n+1+kt+kf,lf,o6 2 [(66,.z (n+1)),(81,.T),(92,.U [num kt,num t.chk]),(95,.o [] (tly (n+1+kt) lt) (.pv (.bool true))),(107,.U [num kf,num f.chk]),(110,.o [] (tly (n+1+kt+kf) lf) (.pv (.bool false)))] h0 qZ8 gt ut gf uf,by simp only [Pf.cnt];omega,nofun⟩
  obtain⟨ra,na,la,ua,ba,qa⟩:=qN1 a (n+1+kt+kf) lf (by omega) (by omega)
  cases ra
  ·cases u<;>exact⟨false,na,la,o7 2 [(66,.z (n+1)),(81,.T),(92,.U [num kt,num t.chk]),(95,.o [] (tly (n+1+kt) lt) (.pv (.bool true))),(107,.U [num kf,num f.chk]),(110,.o [] (tly (n+1+kt+kf) lf) (.pv (.bool true))),(122,.o [] (tly na la) (.pv (.bool false)))] h0 qZ8 gt ut gf uf ua,by simp only [Pf.cnt];omega,nofun⟩
  have hq:true=true→la=false→l=false∧(Pf.ex u f t a).ck:=fun _ hl=>by
   obtain⟨za,wa⟩:=qa rfl hl
   obtain⟨zf,wf⟩:=qf rfl za
   obtain⟨zt,wt⟩:=qt rfl zf
   exact⟨zt,⟨wt,wf,wa⟩⟩
  cases u<;>exact⟨true,na,la,o7 2 [(66,.z (n+1)),(81,.T),(92,.U [num kt,num t.chk]),(95,.o [] (tly (n+1+kt) lt) (.pv (.bool true))),(107,.U [num kf,num f.chk]),(110,.o [] (tly (n+1+kt+kf) lf) (.pv (.bool true))),(122,.o [] (tly na la) (.pv (.bool true)))] h0 qZ8 gt ut gf uf ua,by simp only [Pf.cnt];omega,hq⟩
 | .ind j f t a b,n,l,hn,ht=>by
  have hn:n+(1+t.cnt+f.cnt+a.cnt+b.cnt)≤big:=hn
  have ht:max (max (max t.tsz f.tsz) a.tsz) b.tsz≤big:=ht
  have h0:=qQ9 (a:=n) (b:=1) (by omega)
  obtain⟨kt,rt,lt,gt,ut,bt,qt⟩:=zC0 t (n+1) l (by omega) (by omega)
  cases rt
  ·cases j<;>exact⟨false,n+1+kt,lt,o4 2 [(66,.z (n+1)),(81,.T),(92,.U [num kt,num t.chk]),(95,.o [] (tly (n+1+kt) lt) (.pv (.bool false)))] h0 qZ8 gt ut,by simp only [Pf.cnt];omega,nofun⟩
  obtain⟨kf,rf,lf,gf,uf,bf,qf⟩:=zC1 f (n+1+kt) lt (by omega) (by omega)
  cases rf
  ·cases j<;>exact⟨false,n+1+kt+kf,lf,o6 2 [(66,.z (n+1)),(81,.T),(92,.U [num kt,num t.chk]),(95,.o [] (tly (n+1+kt) lt) (.pv (.bool true))),(107,.U [num kf,num f.chk]),(110,.o [] (tly (n+1+kt+kf) lf) (.pv (.bool false)))] h0 qZ8 gt ut gf uf,by simp only [Pf.cnt];omega,nofun⟩
  obtain⟨ra,na,la,ua,ba,qa⟩:=qN1 a (n+1+kt+kf) lf (by omega) (by omega)
  cases ra
  ·cases j<;>exact⟨false,na,la,o7 2 [(66,.z (n+1)),(81,.T),(92,.U [num kt,num t.chk]),(95,.o [] (tly (n+1+kt) lt) (.pv (.bool true))),(107,.U [num kf,num f.chk]),(110,.o [] (tly (n+1+kt+kf) lf) (.pv (.bool true))),(122,.o [] (tly na la) (.pv (.bool false)))] h0 qZ8 gt ut gf uf ua,by simp only [Pf.cnt];omega,nofun⟩
  obtain⟨rb,nb,lb,ub,bb,qb⟩:=qN1 b (na) la (by omega) (by omega)
  cases rb
  ·cases j<;>exact⟨false,nb,lb,o8 2 [(66,.z (n+1)),(81,.T),(92,.U [num kt,num t.chk]),(95,.o [] (tly (n+1+kt) lt) (.pv (.bool true))),(107,.U [num kf,num f.chk]),(110,.o [] (tly (n+1+kt+kf) lf) (.pv (.bool true))),(122,.o [] (tly na la) (.pv (.bool true))),(122,.o [] (tly nb lb) (.pv (.bool false)))] h0 qZ8 gt ut gf uf ua ub,by simp only [Pf.cnt];omega,nofun⟩
  have hq:true=true→lb=false→l=false∧(Pf.ind j f t a b).ck:=fun _ hl=>by
   obtain⟨zb,wb⟩:=qb rfl hl
   obtain⟨za,wa⟩:=qa rfl zb
   obtain⟨zf,wf⟩:=qf rfl za
   obtain⟨zt,wt⟩:=qt rfl zf
   exact⟨zt,⟨wt,wf,wa,wb⟩⟩
  cases j<;>exact⟨true,nb,lb,o8 2 [(66,.z (n+1)),(81,.T),(92,.U [num kt,num t.chk]),(95,.o [] (tly (n+1+kt) lt) (.pv (.bool true))),(107,.U [num kf,num f.chk]),(110,.o [] (tly (n+1+kt+kf) lf) (.pv (.bool true))),(122,.o [] (tly na la) (.pv (.bool true))),(122,.o [] (tly nb lb) (.pv (.bool true)))] h0 qZ8 gt ut gf uf ua ub,by simp only [Pf.cnt];omega,hq⟩
 | .subst f a b,n,l,hn,ht=>by
  have hn:n+(1+f.cnt+a.cnt+b.cnt)≤big:=hn
  have ht:max (max f.tsz a.tsz) b.tsz≤big:=ht
  have h0:=qQ9 (a:=n) (b:=1) (by omega)
  obtain⟨kf,rf,lf,gf,uf,bf,qf⟩:=zC1 f (n+1) l (by omega) (by omega)
  cases rf
  ·exact⟨false,n+1+kf,lf,o4 2 [(66,.z (n+1)),(81,.T),(107,.U [num kf,num f.chk]),(110,.o [] (tly (n+1+kf) lf) (.pv (.bool false)))] h0 qZ8 gf uf,by simp only [Pf.cnt];omega,nofun⟩
  obtain⟨ra,na,la,ua,ba,qa⟩:=qN1 a (n+1+kf) lf (by omega) (by omega)
  cases ra
  ·exact⟨false,na,la,o5 2 [(66,.z (n+1)),(81,.T),(107,.U [num kf,num f.chk]),(110,.o [] (tly (n+1+kf) lf) (.pv (.bool true))),(122,.o [] (tly na la) (.pv (.bool false)))] h0 qZ8 gf uf ua,by simp only [Pf.cnt];omega,nofun⟩
  obtain⟨rb,nb,lb,ub,bb,qb⟩:=qN1 b (na) la (by omega) (by omega)
  cases rb
  ·exact⟨false,nb,lb,o6 2 [(66,.z (n+1)),(81,.T),(107,.U [num kf,num f.chk]),(110,.o [] (tly (n+1+kf) lf) (.pv (.bool true))),(122,.o [] (tly na la) (.pv (.bool true))),(122,.o [] (tly nb lb) (.pv (.bool false)))] h0 qZ8 gf uf ua ub,by simp only [Pf.cnt];omega,nofun⟩
  have hq:true=true→lb=false→l=false∧(Pf.subst f a b).ck:=fun _ hl=>by
   obtain⟨zb,wb⟩:=qb rfl hl
   obtain⟨za,wa⟩:=qa rfl zb
   obtain⟨zf,wf⟩:=qf rfl za
   exact⟨zf,⟨wf,wa,wb⟩⟩
  exact⟨true,nb,lb,o6 2 [(66,.z (n+1)),(81,.T),(107,.U [num kf,num f.chk]),(110,.o [] (tly (n+1+kf) lf) (.pv (.bool true))),(122,.o [] (tly na la) (.pv (.bool true))),(122,.o [] (tly nb lb) (.pv (.bool true)))] h0 qZ8 gf uf ua ub,by simp only [Pf.cnt];omega,hq⟩
theorem zIx (p:Pf) (h:p.cnt≤big) (ht:p.tsz≤big):∃ e,A 111 [p.p] (num e)∧(e=0→p.ck):=by
 obtain⟨r,n,l,g,b,q⟩:=qN1 p 0 false (by omega) ht
 cases r
 ·have g1:A 170 [p.p] (.tuple [num 0,num 2]):=f1 [(10,.o [] (tly n l) (.pv (.bool false)))] g
  exact⟨2,f1 [(7,.U [num 0,num 2])] g1,nofun⟩
 ·cases l
  ·cases e:ltI (.ofNat 16384) (.ofNat n)
   ·have g1:A 170 [p.p] (.tuple [num n,num 0]):=f2 [(10,.o [] (tly n false) (.pv (.bool true))),(22,.H)] g e
    exact⟨0,f1 [(7,.U [num n,num 0])] g1,fun _=>(q rfl rfl).2⟩
   ·have g1:A 170 [p.p] (.tuple [num 0,num 4]):=f2 [(10,.o [] (tly n false) (.pv (.bool true))),(22,.G)] g e
    exact⟨4,f1 [(7,.U [num 0,num 4])] g1,nofun⟩
  ·have g1:A 170 [p.p] (.tuple [num 0,num 4]):=f1 [(10,.o [] (tly n true) (.pv (.bool true)))] g
   exact⟨4,f1 [(7,.U [num 0,num 4])] g1,nofun⟩
abbrev u32 (z:Int):PV:=.num .u32 z
theorem qRk (z:Int):0≤IntKind.u32.wrap z∧IntKind.u32.wrap z<4294967296:=by
 have:IntKind.u32.wrap z=z % 4294967296:=by simp [IntKind.wrap,IntKind.signed,IntKind.bits]
 rw [this]
 exact⟨Int.emod_nonneg _ (by decide),Int.emod_lt_of_pos _ (by decide)⟩
theorem inS {z:Int} (h:0≤z∧z<4294967296):inB z=true:=zXl (by omega) (by omega)
theorem qVa (op:BinOp) (a b:Int):0≤qQm op .u32 a b∧qQm op .u32 a b<4294967296:=by
 unfold qQm
 cases op<;>first|exact qRk _|(show (0:Int)≤0∧(0:Int)<4294967296;exact⟨by decide,by decide⟩)
theorem qIp (a b:Int):(bif qY2 .u32 .u32 then inB (qQm .or .u32 a b) else false)=true∧u32 (qQm .or .u32 a b)=u32 (qQm .or .u32 a b):=⟨(show inB (qQm .or .u32 a b)=true from inS (qVa .or a b)),rfl⟩
theorem qRl (a b:Int):(bif qY2 .u32 .u32 then inB (qQm .and .u32 a b) else false)=true∧u32 (qQm .and .u32 a b)=u32 (qQm .and .u32 a b):=⟨(show inB (qQm .and .u32 a b)=true from inS (qVa .and a b)),rfl⟩
def qRm (a:Int) (n:Nat):Int:=IntKind.u32.wrap (a * 2 ^ (min (Int.ofNat n).toNat IntKind.u32.bits))
theorem qUz (a:Int) (n:Nat):(bif ltI (.ofNat n) 0 then false else inB (IntKind.u32.wrap (a * 2 ^ (min (Int.ofNat n).toNat IntKind.u32.bits))))=true∧u32 (IntKind.u32.wrap (a * 2 ^ (min (Int.ofNat n).toNat IntKind.u32.bits)))=u32 (qRm a n):=by
 refine⟨?_,rfl⟩
 have h:=z0 n
 show (bif ltI (.ofNat n) (.ofNat 0) then false else _)=true
 rw [h]
 exact inS (qRk _)
abbrev obU (z:Int):List (Nat × Ob):=obE 3 4 (.fn 286 [.loc 1 0]) [(1,bx [u32 z])]
abbrev chU (z:Int):List (Nat × Ob):=[(1,bx [u32 z])]
abbrev U32 (z:Int):Prop:=0≤z∧z<4294967296
theorem qGw:∀ (t:Tm) (d:Nat) (z:Int),d+t.cnt≤mid→t.mx≤mid * mid→U32 z→∃ z',U32 z'∧O 313 [.pv t.p,.pv (num d),.loc 3 0,.loc 4 0] (obU z) (.pv ut) (obU z')
 | .v i,d,z,hd,hm,hz=>by
  have hmm:=qQc
  have hi:i≤mid * mid:=hm
  have hd:d+1≤mid:=hd
  rw [hmm] at hi
  have hb:=qQh
  by_cases h:d≤i
  ·have g1:=qP7 (a:=i) (b:=d) h
   have g2:inB (Int.ofNat i - .ofNat d)=true∧Int.ofNat i - .ofNat d = .ofNat (i-d):=by
    have e:Int.ofNat i - .ofNat d = .ofNat (i-d):=by simp;omega
    rw [e]
    exact⟨inb (n:=i-d) (by omega),rfl⟩
   exact⟨qQm .or .u32 z (qRm 1 (i-d)),qVa _ _ _,o4 5 [(15,.n [(7,.G),(11,.z (i-d)),(12,.v (u32 (qRm 1 (i-d)))),(13,.v (u32 (qQm .or .u32 z (qRm 1 (i-d)))))])] g1 g2 (qUz 1 (i-d)) (qIp z (qRm 1 (i-d)))⟩
  ·have g1:=qNk (a:=i) (b:=d) (by omega)
   exact⟨z,hz,o1 5 [(15,.n [(7,.H)])] g1⟩
 | .lam s a,d,z,hd,hx,hz=>by
  have hd:d+(1+a.cnt)≤mid:=hd
  have hm:=qQc
  have hb:=qQh
  obtain⟨z1,v1,g⟩:=qGw a (d+1) z (by omega) hx hz
  exact⟨z1,v1,o2 5 [(20,.z (d+1)),(31,.o [3,4] (chU z1) (.pv ut))] (qQ9 (a:=d) (b:=1) (by omega)) g⟩
 | .n0 k,d,z,hd,_,hz=>⟨z,hz,by cases k<;>exact o0 5 []⟩
 | .n1 k a,d,z,hd,hx,hz=>by
  have hd:d+(1+a.cnt)≤mid:=hd
  obtain⟨z1,v1,g⟩:=qGw a d z (by omega) hx hz
  exact⟨z1,v1,by cases k<;>exact o1 5 [(31,.o [3,4] (chU z1) (.pv ut))] g⟩
 | .n2 k a c,d,z,hd,hx,hz=>by
  have hd:d+(1+a.cnt+c.cnt)≤mid:=hd
  have hx:max a.mx c.mx≤mid * mid:=hx
  obtain⟨z1,v1,g⟩:=qGw a d z (by omega) (by omega) hz
  obtain⟨z2,v2,g'⟩:=qGw c d z1 (by omega) (by omega) v1
  exact⟨z2,v2,by cases k<;>exact o2 5 [(31,.o [3,4] (chU z1) (.pv ut)),(31,.o [3,4] (chU z2) (.pv ut))] g g'⟩
 | .n3 k s a c e,d,z,hd,hx,hz=>by
  have hd:d+(1+a.cnt+c.cnt+e.cnt)≤mid:=hd
  have hx:max a.mx (max c.mx e.mx)≤mid * mid:=hx
  obtain⟨z1,v1,g⟩:=qGw a d z (by omega) (by omega) hz
  obtain⟨z2,v2,g'⟩:=qGw c d z1 (by omega) (by omega) v1
  obtain⟨z3,v3,g''⟩:=qGw e d z2 (by omega) (by omega) v2
  exact⟨z3,v3,by cases k<;>exact o3 5 [(31,.o [3,4] (chU z1) (.pv ut)),(31,.o [3,4] (chU z2) (.pv ut)),(31,.o [3,4] (chU z3) (.pv ut))] g g' g''⟩
theorem TK.a240 {n:Nat} {t:Tm} (h:TK n t) (hn:n≤lim):∃ z,U32 z∧A 240 [t.p] (u32 z):=by
 have hm:=qQc
 obtain⟨z,v,g⟩:=qGw t 0 0 (by have:=h.cnt;omega) (by have:=h.mx hn;rw [hm];omega) ⟨by decide,by decide⟩
 exact⟨z,v,f1 [(6,.n [(8,.o [3,4] (chU z) (.pv ut))])] g⟩
theorem zC2 (z:Int) (k:Nat) (hz:U32 z):∃ z',U32 z'∧A 239 [u32 z,num k] (u32 z'):=by
 have h:U32 (z.fdiv (2 ^ (min (Int.ofNat k).toNat IntKind.u32.bits))):=by
  have h1:(0:Int)<2 ^ (min (Int.ofNat k).toNat IntKind.u32.bits):=Int.pow_pos (by decide)
  refine⟨Int.fdiv_nonneg hz.1 (Int.le_of_lt h1),?_⟩
  rw [Int.fdiv_eq_ediv_of_nonneg _ (Int.le_of_lt h1)]
  exact Int.lt_of_le_of_lt (Int.ediv_le_self _ hz.1) hz.2
 have g:(bif ltI (.ofNat k) 0 then false else inB (z.fdiv (2 ^ (min (Int.ofNat k).toNat IntKind.u32.bits))))=true∧u32 (z.fdiv (2 ^ (min (Int.ofNat k).toNat IntKind.u32.bits)))=u32 (z.fdiv (2 ^ (min (Int.ofNat k).toNat IntKind.u32.bits))):=by
  refine⟨?_,rfl⟩
  have h':=z0 k
  show (bif ltI (.ofNat k) (.ofNat 0) then false else _)=true
  rw [h']
  exact inS h
 exact⟨_,h,f1 [(7,.v (u32 (z.fdiv (2 ^ (min (Int.ofNat k).toNat IntKind.u32.bits)))))] g⟩
abbrev hyc (h:Fm × Nat):List PV:=[num h.1.kd,num h.1.tk,.slice h.1.te,.slice h.1.ts,.slice h.1.es,num h.2]
theorem qRn (h:Fm × Nat):(hyc h).length=6:=rfl
abbrev plc (g:List Ty) (H:List (Fm × Nat)):PV:=.agg [num g.length,num (H.map hyc).length,tzs g,.slice (H.map hyc)]
theorem zAx (v h a b:Nat) (h1:v+a≤mid) (h2:h+b≤mid):∃ e,A 235 [.agg [num v,num h],num a,num b] (num e)∧(e=0→v+a≤16∧h+b≤16):=by
 have hm:=qQc
 have hb:=qQh
 have g1:=qQ9 (a:=v) (b:=a) (by omega)
 have g2:=qQ9 (a:=h) (b:=b) (by omega)
 by_cases c1:v+a≤16
 ·by_cases c2:h+b≤16
  ·exact⟨0,f4 [(10,.z (v+a)),(11,.H),(16,.z (h+b)),(17,.H)] g1 (qZv (a:=16) (b:=v+a) c1) g2 (qZv (a:=16) (b:=h+b) c2),fun _=>⟨c1,c2⟩⟩
  ·exact⟨3,f4 [(10,.z (v+a)),(11,.H),(16,.z (h+b)),(17,.G)] g1 (qZv (a:=16) (b:=v+a) c1) g2 (qQy (a:=16) (b:=h+b) (by omega)),nofun⟩
 ·exact⟨3,f2 [(10,.z (v+a)),(11,.G)] g1 (qQy (a:=16) (b:=v+a) (by omega)),nofun⟩
theorem qRo (g:List Ty) (H:List (Fm × Nat)) (s:Ty) (hg:g.length≤mid) (h:s.size≤big):A 237 [plc g H,tys [s]] (plc (g++[s]) H):=by
 have hm:=qQc
 have hb:=qQh
 rw [show plc (g++[s]) H = .agg [num (g.length+1),num (H.map hyc).length,tzs (g++[s]),.slice (H.map hyc)] by simp [plc]]
 exact f2 [(8,.r (tzs (g++[s]))),(15,.z (g.length+1))] (qGo g s hg h) (qQ9 (a:=g.length) (b:=1) (by omega))
theorem zAy (g:List Ty) (H:List (Fm × Nat)) (s u:Ty) (hg:g.length≤mid) (h:s.size≤big) (h':u.size≤big):A 237 [plc g H,tys [s,u]] (plc (g++[s,u]) H):=by
 have hm:=qQc
 have hb:=qQh
 rw [show plc (g++[s,u]) H = .agg [num (g.length+2),num (H.map hyc).length,tzs (g++[s,u]),.slice (H.map hyc)] by simp [plc]]
 exact f2 [(8,.r (tzs (g++[s,u]))),(15,.z (g.length+2))] (zAg g s u hg h h') (qQ9 (a:=g.length) (b:=2) (by omega))
theorem zXv (g:List Ty) (H:List (Fm × Nat)) (f:Fm) (hH:H.length≤mid):A 185 [plc g H,f.p] (plc g (H++[(f,g.length)])):=by
 have hm:=qQc
 have hb:=qQh
 have g1:=qVw (H.map hyc).length
 have g2:=qXl 6 96 qRn (by decide) H (f,g.length) (by omega) (by simp only [maxLen];omega)
 have g3:=qQ9 (a:=(H.map hyc).length) (b:=1) (by simp;omega)
 rw [show plc g (H++[(f,g.length)]) = .agg [num g.length,num ((H.map hyc).length+1),tzs g,.slice (H.map hyc++[hyc (f,g.length)])] by simp [plc]]
 exact f3 [(13,.ok),(20,.ok),(25,.z ((H.map hyc).length+1))] g1 g2 g3
abbrev vw (n:Nat) (H:List (Fm × Nat)):List Fm:=H.map fun h=>h.1.sh 0 (.ofNat (n-h.2))
structure PlOK (g:List Ty) (H:List (Fm × Nat)):Prop where
 gl:g.length≤64
 gs:∀ s∈g,s.size≤64
 hl:H.length≤64
 hs:∀ h∈H,FK h.2 h.1∧h.2≤g.length
theorem zJs (n:Nat) (H:List (Fm × Nat)):(vw n H).length=H.length:=by simp
theorem FK.sh {n:Nat} {f:Fm} (h:FK n f) (c z:Nat):FK (n+z) (f.sh c (.ofNat z)):=⟨by rw [qQt];exact h.cnt,by rw [qEz];exact h.shp,qL0 z f c n h.sc⟩
theorem zIy (g:List Ty) (H:List (Fm × Nat)) (hp:PlOK g H) (i:Nat):(H.length≤i∧A 232 [plc g H,num i] (.tuple [.agg zF,.bool false])) ∨ ∃ f,i<H.length∧(vw g.length H)[H.length-1-i]? = some f∧FK g.length f∧A 232 [plc g H,num i] (.tuple [f.p,.bool true]):=by
 have hm:=qQc
 have hb:=qQh
 have hl:=hp.hl
 have hg:=hp.gl
 have hl':lim=100000:=rfl
 by_cases h:i<H.length
 ·right
  obtain⟨⟨f,v⟩,hj⟩:∃ x,H[H.length-1-i]? = some x:=⟨_,List.getElem?_eq_getElem (by omega)⟩
  obtain⟨k1,k2⟩:=hp.hs _ (List.mem_of_getElem? hj)
  simp only at k1 k2
  refine⟨f.sh 0 (.ofNat (g.length-v)),h,by simp [vw,hj],?_,?_⟩
  ·have:=k1.sh 0 (g.length-v)
   rwa [show v+(g.length-v)=g.length by omega] at this
  ·have g0:=qNk (a:=i) (b:=(H.map hyc).length) (by simpa using h)
   have g1:=qVm (a:=(H.map hyc).length) (by simp;omega) (by simp;omega)
   have g2:inB (Int.ofNat ((H.map hyc).length-1) - .ofNat i)=true∧Int.ofNat ((H.map hyc).length-1) - .ofNat i = .ofNat (H.length-1-i):=by
    have e:Int.ofNat ((H.map hyc).length-1) - .ofNat i = .ofNat (H.length-1-i):=by simp;omega
    rw [e]
    exact⟨inb (n:=H.length-1-i) (by omega),rfl⟩
   have g3:qXf (H.map hyc) (H.length-1-i)=some (hyc (f,v))∧qYf 6 (H.map hyc)=true:=qQi hj qRn
   have g4:inB (Int.ofNat g.length - .ofNat v)=true∧Int.ofNat g.length - .ofNat v = .ofNat (g.length-v):=by
    have e:Int.ofNat g.length - .ofNat v = .ofNat (g.length-v):=by simp;omega
    rw [e]
    exact⟨inb (n:=g.length-v) (by omega),rfl⟩
   have g5:=qS1 f 0 (g.length-v) (by omega) (by have:=k1.cnt;omega) (by have:=k1.mx (by omega);rw [hm];omega)
   exact f6 [(11,.H),(18,.z ((H.map hyc).length-1)),(20,.z (H.length-1-i)),(21,.i (hyc (f,v))),(30,.z (g.length-v)),(31,.r (f.sh 0 (.ofNat (g.length-v))).p)] g0 g1 g2 g3 g4 g5
 ·left
  refine⟨by omega,?_⟩
  exact f1 [(11,.G)] (qP7 (a:=i) (b:=(H.map hyc).length) (by simp;omega))
open Go.Lg
set_option maxRecDepth 100000
inductive Jt where
 | leaf (u:Bool) (i:Nat) (f:Fm)
 | refl (t:Tm)
 | p1 (k:P1) (a:Jt) (f:Fm)
 | p2 (k:P2) (a b:Jt) (f:Fm)
 | impI (x:Fm) (a:Jt)
 | all (u:Bool) (s:Ty) (a:Jt)
 | ins (u:Bool) (t:Tm) (a:Jt) (f:Fm)
 | ex (u:Bool) (x:Fm) (t:Tm) (a:Jt)
 | ind (l:Bool) (x:Fm) (t:Tm) (a b:Jt) (f:Fm)
 | subst (x:Fm) (a b:Jt) (f:Fm)
def Jt.p:Jt→Pf
 | .leaf u i _ => .leaf u i
 | .refl t => .refl t
 | .p1 k a _ => .p1 k a.p
 | .p2 k a b _ => .p2 k a.p b.p
 | .impI x a => .impI x a.p
 | .all u s a => .all u s a.p
 | .ins u t a _ => .ins u t a.p
 | .ex u x t a => .ex u x t a.p
 | .ind l x t a b _ => .ind l x t a.p b.p
 | .subst x a b _ => .subst x a.p b.p
def Jt.f:Jt→Fm
 | .leaf _ _ f=>f
 | .refl t => .eq t t
 | .p1 _ _ f=>f
 | .p2 _ _ _ f=>f
 | .impI x a => .bin .imp x a.f
 | .all u s a => .q (aq u) s a.f
 | .ins _ _ _ f=>f
 | .ex _ x _ _=>x
 | .ind _ _ _ _ _ f=>f
 | .subst _ _ _ f=>f
def Fm.bd:Fm→Fm
 | .q _ _ f=>f
 | f=>f
abbrev upH (k:Nat) (hs:List Fm):List Fm:=hs.map (Fm.sh 0 (.ofNat k))
def eqq:Bool→FQ
 | false => .ex
 | true => .exU
abbrev vapp:Tm:=.n2 .app (.v 1) (.v 0)
def Jt.OK (ls:List Fm):Nat→List Fm→Jt→Prop
 | n,hs,.leaf u i f=>FK n f∧match u with
  | false=>i<hs.length∧hs[hs.length-1-i]? = some f
  | true=>ls[i]? = some f
 | n,_,.refl t=>TK n t∧FK n (.eq t t)
 | n,hs,.p1 k a f=>FK n f∧a.OK ls n hs∧match k with
  | .andL => ∃ y,a.f = .bin .and f y
  | .andR => ∃ x,a.f = .bin .and x f
  | .choice => ∃ s u x,a.f = .q .all s (.q .ex u x) ∧ ∃ y,(x.sh 2 (.ofNat 1)).pt vapp = .ok y∧f = .q .ex (.two true s u) (.q .all s y)
 | n,hs,.p2 k a b f=>FK n f∧a.OK ls n hs∧match k with
  | .andI=>b.OK ls n hs∧f = .bin .and a.f b.f
  | .impE=>b.OK ls n hs ∧ ∃ x,a.f = .bin .imp x f
  | .exE=>b.OK ls (n+1) (upH 1 hs++[a.f.bd])∧(∃ s,a.f = .q .ex s a.f.bd)∧wtF b.f=some f
  | .exUE=>b.OK ls (n+1) (upH 1 hs++[a.f.bd])∧(∃ s,a.f = .q .exU s a.f.bd)∧wtF b.f=some f
 | n,hs,.impI x a=>FK n x∧FK n (.bin .imp x a.f)∧a.OK ls n (hs++[x])
 | n,hs,.all u s a=>s.size≤64∧FK n (.q (aq u) s a.f)∧a.OK ls (n+1) (upH 1 hs)
 | n,hs,.ins u t a f=>FK n f∧TK n t∧a.OK ls n hs ∧ ∃ s x,a.f = .q (aq u) s x∧x.pt t = .ok f
 | n,hs,.ex u x t a=>FK n x∧TK n t∧a.OK ls n hs∧(∃ s,x = .q (eqq u) s x.bd)∧a.f.sp=x.bd.sp
 | n,hs,.ind l x t a b f=>FK n f∧FK (n+1) x∧TK n t∧a.OK ls n hs∧x.pt t = .ok f∧(a.f.sp=x.sp∧b.f.sp=x.sp)∧match l with
  | false=>b.OK ls (n+1) (upH 1 hs++[x])
  | true=>b.OK ls (n+2) (upH 2 hs++[x.sh 1 (.ofNat 1)])
 | n,hs,.subst x a b f=>FK n f∧FK (n+1) x∧a.OK ls n hs∧b.OK ls n hs∧b.f.sp=x.sp ∧ ∃ t u,a.f = .eq t u∧x.pt u = .ok f
def zIz:Ob:=.smap false [(.int 1,.fn 171 []),(.int 2,.fn 172 []),(.int 3,.fn 173 []),(.int 4,.fn 174 []),(.int 5,.fn 174 []),(.int 6,.fn 175 []),(.int 7,.fn 176 []),(.int 8,.fn 177 []),(.int 12,.fn 177 []),(.int 9,.fn 178 []),(.int 13,.fn 178 []),(.int 10,.fn 179 []),(.int 14,.fn 179 []),(.int 11,.fn 180 []),(.int 15,.fn 180 []),(.int 16,.fn 181 []),(.int 17,.fn 181 []),(.int 18,.fn 182 []),(.int 19,.fn 183 []),(.int 20,.fn 184 [])]
abbrev ckO (ls:List Fm):List (Nat × Ob):=[(3,zIz),(4,.box [.pv (fms ls),.map 3])]
abbrev qQ4 (y:Sy) (z:Int) (e:Nat):PV:=.tuple [.agg [num y.k,num y.tk,.slice y.te,.slice y.ts,.slice y.es,u32 z],num e]
abbrev Sy.z:Sy:=⟨0,0,[],[],[]⟩
def KI (ls:List Fm) (p:Pf):Prop:=∀ g H,PlOK g H→∃ (y:Sy) (z:Int) (e:Nat),U32 z∧O 113 [.loc 4 0,.pv p.p,.pv (plc g H)] (ckO ls) (.pv (qQ4 y z e)) (ckO ls)∧(e=0→∃ j:Jt,j.p=p∧y=j.f.y∧FK g.length j.f∧j.OK ls g.length (vw g.length H))
def KR (ls:List Fm) (F:Nat) (p:Pf):Prop:=∀ g H,PlOK g H→∃ (y:Sy) (z:Int) (e:Nat),U32 z∧O F [.loc 4 0,.pv p.p,.pv (plc g H)] (ckO ls) (.pv (qQ4 y z e)) (ckO ls)∧(e=0→∃ j:Jt,j.p=p∧y=j.f.y∧j.f.sc g.length∧j.f.cnt≤mid∧j.f.tsz≤mid∧(FK g.length j.f→j.OK ls g.length (vw g.length H)))
theorem qJj:U32 0:=⟨by decide,by decide⟩
def Pf.kf:Pf→Nat
 | .leaf false _=>171
 | .leaf true _=>172
 | .p2 .andI _ _=>173
 | .p1 .choice _=>184
 | .p1 _ _=>174
 | .impI _ _=>175
 | .p2 .impE _ _=>176
 | .p2 _ _ _=>180
 | .all _ _ _=>177
 | .ins _ _ _=>178
 | .ex _ _ _ _=>179
 | .ind _ _ _ _ _=>181
 | .refl _=>182
 | .subst _ _ _=>183
theorem ki {ls:List Fm} (p:Pf) (h:KR ls p.kf p):KI ls p:=by
 intro g H hp
 obtain⟨y,z,e,hz,g1,q⟩:=h g H hp
 cases e with
 | succ e =>
  refine⟨.z,0,e+1,qJj,?_,nofun⟩
  cases p<;>(try cases ‹Bool›)<;>(try cases ‹P1›)<;>(try cases ‹P2›)<;>exact o1 5 [(23,.o [3,4] [] (.pv (qQ4 y z (e+1))))] g1
 | zero =>
  obtain⟨j,k1,rfl,k2,k3,k4,k5⟩:=q rfl
  have hm:=qQc
  have hb:=qQh
  have g2:=a89 j.f (by omega) (by omega)
  rcases j.f.chk_3 with e|e|e
  ·have hf:FK g.length j.f:=⟨(Fm.chk0 e).1,(Fm.chk0 e).2,k2⟩
   have g3:=hf.a70 (by have:=hp.gl;have hl:lim=100000:=rfl;omega)
   rw [e] at g2
   have E:∀ z',(U32 z'∧O 113 [.loc 4 0,.pv p.p,.pv (plc g H)] (ckO ls) (.pv (qQ4 j.f.y z' 0)) (ckO ls))→∃ (y:Sy) (z:Int) (e:Nat),U32 z∧O 113 [.loc 4 0,.pv p.p,.pv (plc g H)] (ckO ls) (.pv (qQ4 y z e)) (ckO ls)∧(e=0→∃ j:Jt,j.p=p∧y=j.f.y∧FK g.length j.f∧j.OK ls g.length (vw g.length H)):=fun z' k=>⟨j.f.y,z',0,k.1,k.2,fun _=>⟨j,k1,rfl,hf,k5 hf⟩⟩
   cases e1:j.f.has<;>rw [e1] at g3
   ·refine E 0 ⟨qJj,?_⟩
    cases p<;>(try cases ‹Bool›)<;>(try cases ‹P1›)<;>(try cases ‹P2›)<;>exact o3 5 [(23,.o [3,4] [] (.pv (qQ4 j.f.y z 0))),(32,.N 0),(38,.U [.bool false,num 0])] g1 g2 g3
   ·refine E z ⟨hz,?_⟩
    cases p<;>(try cases ‹Bool›)<;>(try cases ‹P1›)<;>(try cases ‹P2›)<;>exact o3 5 [(23,.o [3,4] [] (.pv (qQ4 j.f.y z 0))),(32,.N 0),(38,.U [.bool true,num 0])] g1 g2 g3
  all_goals
   rw [e] at g2
   refine⟨.z,0,4,qJj,?_,nofun⟩
  ·cases p<;>(try cases ‹Bool›)<;>(try cases ‹P1›)<;>(try cases ‹P2›)<;>exact o2 5 [(23,.o [3,4] [] (.pv (qQ4 j.f.y z 0))),(32,.N 2)] g1 g2
  ·cases p<;>(try cases ‹Bool›)<;>(try cases ‹P1›)<;>(try cases ‹P2›)<;>exact o2 5 [(23,.o [3,4] [] (.pv (qQ4 j.f.y z 0))),(32,.N 4)] g1 g2
end Go.Proofs.YtmcockinhpiomaaGreatDoor
