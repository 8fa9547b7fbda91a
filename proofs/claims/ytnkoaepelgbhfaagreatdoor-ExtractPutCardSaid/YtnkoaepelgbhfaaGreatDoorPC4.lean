/- Contracts of functions; no conditions. -/
import Derived.Test.YtnkoaepelgbhfaaGreatDoorPC3
set_option linter.all false
set_option maxHeartbeats 4000000
namespace Go.Proofs.YtnkoaepelgbhfaaGreatDoor
open Go.Lg
set_option maxRecDepth 100000
theorem Em {s:Ty} (h:s.kd=2):s = .list:=by
 cases s with
 | list=>rfl
 | two k a b=>cases k<;>cases h
 | _=>cases h
theorem Gm (H:MF) (f:Fm) (t:Tm) {a b:Pf} (Ha:lD a) (Hb:lD b):SE 162 (.ind false f t a b):=by
 intro ls g hs M hp;have hm:=zA;have hbb:=kA;have hk:nA=8388608:=rfl;have hcx:nB=qA * qA-1001 * 4096:=rfl;have hgl:=hp.gl;have hhl:=hp.hl;have hmb:M+nA * (1+t.cnt+f.cnt+a.cnt+b.cnt)<=nB:=hp.mb;have htz:max (max (max t.tsz f.tsz) a.tsz) b.tsz<=qA:=hp.tsz;have hmx:max (max (max t.mx f.mx) a.mx) b.mx<=M:=hp.mx;have hcn:1+t.cnt+f.cnt+a.cnt+b.cnt<=65536:=hp.cnt;have hK:nA * (1+t.cnt+f.cnt+a.cnt+b.cnt)=nA+nA * t.cnt+nA * f.cnt+nA * a.cnt+nA * b.cnt:=by rw [Nat.mul_add,Nat.mul_add,Nat.mul_add,Nat.mul_add,Nat.mul_one]
 rw [hK] at hmb;rw [hm] at hcx;have hct:=TB t;have c1:=gP g;have c2:=OE 2 32 Ty.c_len (by decide) g .nat (by omega) (by simp only [maxLen];omega);obtain⟨e,g1,q0⟩:=mS (g++[.nat]) f (iS hp.g1 (by decide)) (by omega) (by simp;omega);rw [BW] at g1
 cases e with
 | succ n=>exact⟨.er n,f3 [(32,.ok),(35,.ok),(37,.N (n+1))] c1 c2 g1,RR.good_er (Nat.succ_ne_zero n)⟩
 | zero =>
 have hfc:=Fm.chk0 (q0 rfl).1;obtain⟨e,g2,q1⟩:=AW ls g hs t 1 hp.g1 (by omega) (by omega)
 cases e with
 | succ n=>exact⟨.er n,f4 [(32,.ok),(35,.ok),(37,.N 0),(44,.N (n+1))] c1 c2 g1 g2,RR.good_er (Nat.succ_ne_zero n)⟩
 | zero =>
 obtain⟨hchk,hty⟩:t.chk=0/\t.tyR g = .ok (lT false):=by
  obtain⟨k1,s,k2,k3⟩:=q1 rfl;exact⟨k1,by rw [k2,gS k3];rfl⟩
 clear q1;have hpa:Pre ls g hs M a:=hp.sub (by show a.cnt<=1+t.cnt+f.cnt+a.cnt+b.cnt;omega) (by show a.tsz<=max (max (max t.tsz f.tsz) a.tsz) b.tsz;omega) (by show a.mx<=max (max (max t.mx f.mx) a.mx) b.mx;omega);have g3:=QM 4;obtain⟨w,e,g4,q2,b1,b2⟩:=zN Ha ls g hs M hpa f (.n0 .zero) (by omega) (by rw [hm];omega) (by omega) (by decide) (by decide) (by decide) (by simp only [Tm.mx];omega);by_cases he:e=0;rotate_left
 ·obtain⟨n,rfl⟩:=Nat.exists_eq_succ_of_ne_zero he;exact⟨.er n,f6 [(32,.ok),(35,.ok),(37,.N 0),(44,.N 0),(56,.r (Tm.n0 .zero).p),(57,.U [dA w,num (n+1)])] c1 c2 g1 g2 g3 g4,RR.good_er (Nat.succ_ne_zero n)⟩
 subst he;obtain⟨fa,⟨_,⟨ja,j1,j2,j3,j4⟩,_,_,_⟩,wa,hwa,hma⟩:=q2 rfl;obtain⟨e,g5,q4⟩:=lP ls g hs 1 1 (by omega) (by omega)
 cases e with
 | succ n=>exact⟨.er n,f7 [(32,.ok),(35,.ok),(37,.N 0),(44,.N 0),(56,.r (Tm.n0 .zero).p),(57,.U [dA w,num 0]),(65,.N (n+1))] c1 c2 g1 g2 g3 g4 g5,RR.good_er (Nat.succ_ne_zero n)⟩
 | zero =>
 have hroom:=q4 rfl;have g6:=tW ls g .nat hs (by omega) (by omega) (λ f hf=>(hp.h1 f hf).hyp (by omega));have hf1:FO (M+1) f:=⟨hfc.1,by omega,by omega⟩;have g7:=rS ls (g++[.nat]) (hs.map (Fm.sh 0 1)) f (by simp;omega);have g8:=gD f 1 1 (by omega) (by omega) (by rw [hm];omega) (by omega);have g9:=RM 5 (.v 0);have hpb:Pre ls (g++[.nat]) (hs.map (Fm.sh 0 1)++[f]) (M+1) b:=hp.to (by omega) (by
  intro x hx;rcases List.mem_append.1 hx with h|h
  ·exact eS hp.h1 1 x h
  ·simp at h;subst h;exact hf1) (by
  intro x hx;rcases List.mem_append.1 hx with h|h
  ·exact hp.g1 x h
  ·simp at h;subst h;decide) (by simp;omega) (by simp;omega) (by show b.cnt<=1+t.cnt+f.cnt+a.cnt+b.cnt;omega) (by show b.tsz<=max (max (max t.tsz f.tsz) a.tsz) b.tsz;omega) (by show b.mx<=max (max (max t.mx f.mx) a.mx) b.mx;omega) (by omega)
 have hup:(f.sh 1 1).mx<=f.mx+1:=QE 1 f 1;have hupc:(f.sh 1 1).cnt=f.cnt:=DB 1 f 1;have hupt:(f.sh 1 1).tsz=f.tsz:=MB 1 f 1;obtain⟨w',e,g10,q5,b3,b4⟩:=zN Hb ls (g++[.nat]) (hs.map (Fm.sh 0 1)++[f]) (M+1) hpb (f.sh 1 1) (Tm.n1 .succ (.v 0)) (by omega) (by rw [hm];omega) (by omega) (by decide) (by decide) (by decide) (by simp only [Tm.mx];omega);by_cases he:e=0;rotate_left
 ·obtain⟨n,rfl⟩:=Nat.exists_eq_succ_of_ne_zero he;exact⟨.er n,fk [(32,.ok),(35,.ok),(37,.N 0),(44,.N 0),(56,.r (Tm.n0 .zero).p),(57,.U [dA w,num 0]),(65,.N 0),(74,.r (KA ls (g++[.nat]) (hs.map (Fm.sh 0 1)))),(76,.r (KA ls (g++[.nat]) (hs.map (Fm.sh 0 1)++[f]))),(82,.r (f.sh 1 1).p),(85,.r (Tm.n1 .succ (.v 0)).p),(86,.U [dA w',num (n+1)])] (And.intro c1 (And.intro c2 (And.intro g1 (And.intro g2 (And.intro g3 (And.intro g4 (And.intro g5 (And.intro g6 (And.intro g7 (And.intro g8 (And.intro g9 (And.intro g10 (Eq.refl ((RR.er n).p)))))))))))))),RR.good_er (Nat.succ_ne_zero n)⟩
 subst he;obtain⟨fb,⟨_,⟨jb,k1,k2,k3,k4⟩,_,_,_⟩,wb,hw2,hm2⟩:=q5 rfl;have hM2:t.mx<=qA * qA:=by rw [hm];omega
 obtain⟨u1,g12,p1,p2,p3,_⟩:=aS H t (by omega) (by omega) hM2;obtain⟨u2,g13,p4,p5,p6,_⟩:=H.union u1 w (by omega) (λ z hz=>by have:=p2 z hz;omega) (λ z hz=>by have:=b1 z hz;omega);have hwb:∀ z∈w',z<=bA:=λ z hz=>by have:=b3 z hz;omega
 have g14:=sS 1 w' (by omega) hwb;have hol:=nP 1 w';have hob:∀ z∈LA 1 w',z<=M+1+nA * b.cnt:=mP (λ z hz=>b3 z hz);have hu2:∀ z∈u2,z<=M+nA * a.cnt:=λ z hz=>by
  rcases p5 z hz with h|h
  ·have:=p2 z h;omega
  ·exact b1 z h
 obtain⟨u3,g15,s1,s2,s3,sA⟩:=H.union u2 (LA 1 w') (by omega) (λ z hz=>by have:=hu2 z hz;omega) (λ z hz=>by have:=hob z hz;omega);obtain⟨r,g11,q8⟩:=qN f t (by omega) (by rw [hm];omega) (by omega) (by omega) hM2 (by omega);rcases q8 with ⟨n,rfl⟩|⟨rfl,q9⟩
 ·exact⟨⟨0,0,[],[],[],u3,n+1⟩,fk [(32,.ok),(35,.ok),(37,.N 0),(44,.N 0),(56,.r (Tm.n0 .zero).p),(57,.U [dA w,num 0]),(65,.N 0),(74,.r (KA ls (g++[.nat]) (hs.map (Fm.sh 0 1)))),(76,.r (KA ls (g++[.nat]) (hs.map (Fm.sh 0 1)++[f]))),(82,.r (f.sh 1 1).p),(85,.r (Tm.n1 .succ (.v 0)).p),(86,.U [dA w',num 0]),(96,.r (FR.er n).p),(101,.r (dA u1)),(103,.r (dA u2)),(105,.r (dA (LA 1 w'))),(106,.r (dA u3))] (And.intro c1 (And.intro c2 (And.intro g1 (And.intro g2 (And.intro g3 (And.intro g4 (And.intro g5 (And.intro g6 (And.intro g7 (And.intro g8 (And.intro g9 (And.intro g10 (And.intro g11 (And.intro g12 (And.intro g13 (And.intro g14 (And.intro g15 (Eq.refl (RR.p (⟨0,0,[],[],[],u3,n+1⟩)))))))))))))))))))),RR.good_er (Nat.succ_ne_zero n)⟩
 ·have h1:=eI 0 t f 0;have h2:=cI 0 t f 0;refine⟨.of (f.put 0 t 0) u3 0,fk [(32,.ok),(35,.ok),(37,.N 0),(44,.N 0),(56,.r (Tm.n0 .zero).p),(57,.U [dA w,num 0]),(65,.N 0),(74,.r (KA ls (g++[.nat]) (hs.map (Fm.sh 0 1)))),(76,.r (KA ls (g++[.nat]) (hs.map (Fm.sh 0 1)++[f]))),(82,.r (f.sh 1 1).p),(85,.r (Tm.n1 .succ (.v 0)).p),(86,.U [dA w',num 0]),(96,.r (FR.ok (f.put 0 t 0)).p),(101,.r (dA u1)),(103,.r (dA u2)),(105,.r (dA (LA 1 w'))),(106,.r (dA u3))] (And.intro c1 (And.intro c2 (And.intro g1 (And.intro g2 (And.intro g3 (And.intro g4 (And.intro g5 (And.intro g6 (And.intro g7 (And.intro g8 (And.intro g9 (And.intro g10 (And.intro g11 (And.intro g12 (And.intro g13 (And.intro g14 (And.intro g15 (Eq.refl ((RR.of (f.put 0 t 0) u3 0).p))))))))))))))))))),λ _=>⟨_,rfl,⟨by show (f.put 0 t 0).cnt<=qA;omega,by show (f.put 0 t 0).mx<=M+nA * (1+t.cnt+f.cnt+a.cnt+b.cnt);rw [hK];omega,by show (f.put 0 t 0).tsz<=qA;omega,⟨.ind false f t ja jb _,by rw [<- j1,<- k1];rfl,rfl,λ hc=>⟨hc,q0 rfl,⟨hchk,hty⟩,⟨j3,wa,hwa,by rw [j2];exact hma⟩,hroom,⟨k3,wb,hw2,by rw [k2];exact hm2⟩,ZM q9⟩,λ z hz => ?_⟩,sA,λ z hz => ?_,by show u3.length<=1+t.cnt+f.cnt+a.cnt+b.cnt;omega⟩⟩⟩
  ·rcases hz.2 with h|h|h
   ·exact s1 z (.inl (p4 z (.inl (p1 hchk z h))))
   ·exact s1 z (.inl (p4 z (.inr (j4 z h))))
   ·exact s1 z (.inr (WM (k4 _ h)))
  ·show z<=M+nA * (1+t.cnt+f.cnt+a.cnt+b.cnt);rw [hK];rcases s2 z hz with h|h
   ·have:=hu2 z h;omega
   ·have:=hob z h;omega
theorem Hm (H:MF) (f:Fm) (t:Tm) {a b:Pf} (Ha:lD a) (Hb:lD b):SE 163 (.ind true f t a b):=by
 intro ls g hs M hp;have hm:=zA;have hbb:=kA;have hk:nA=8388608:=rfl;have hcx:nB=qA * qA-1001 * 4096:=rfl;have hgl:=hp.gl;have hhl:=hp.hl;have hmb:M+nA * (1+t.cnt+f.cnt+a.cnt+b.cnt)<=nB:=hp.mb;have htz:max (max (max t.tsz f.tsz) a.tsz) b.tsz<=qA:=hp.tsz;have hmx:max (max (max t.mx f.mx) a.mx) b.mx<=M:=hp.mx;have hcn:1+t.cnt+f.cnt+a.cnt+b.cnt<=65536:=hp.cnt;have hK:nA * (1+t.cnt+f.cnt+a.cnt+b.cnt)=nA+nA * t.cnt+nA * f.cnt+nA * a.cnt+nA * b.cnt:=by rw [Nat.mul_add,Nat.mul_add,Nat.mul_add,Nat.mul_add,Nat.mul_one]
 rw [hK] at hmb;rw [hm] at hcx;have hct:=TB t;have c1:=gP g;have c2:=OE 2 32 Ty.c_len (by decide) g .list (by omega) (by simp only [maxLen];omega);obtain⟨e,g1,q0⟩:=mS (g++[.list]) f (iS hp.g1 (by decide)) (by omega) (by simp;omega);rw [BW] at g1
 cases e with
 | succ n=>exact⟨.er n,f3 [(32,.ok),(35,.ok),(37,.N (n+1))] c1 c2 g1,RR.good_er (Nat.succ_ne_zero n)⟩
 | zero =>
 have hfc:=Fm.chk0 (q0 rfl).1;obtain⟨e,g2,q1⟩:=AW ls g hs t 2 hp.g1 (by omega) (by omega)
 cases e with
 | succ n=>exact⟨.er n,f4 [(32,.ok),(35,.ok),(37,.N 0),(44,.N (n+1))] c1 c2 g1 g2,RR.good_er (Nat.succ_ne_zero n)⟩
 | zero =>
 obtain⟨hchk,hty⟩:t.chk=0/\t.tyR g = .ok (lT true):=by
  obtain⟨k1,s,k2,k3⟩:=q1 rfl;exact⟨k1,by rw [k2,Em k3];rfl⟩
 clear q1;have hpa:Pre ls g hs M a:=hp.sub (by show a.cnt<=1+t.cnt+f.cnt+a.cnt+b.cnt;omega) (by show a.tsz<=max (max (max t.tsz f.tsz) a.tsz) b.tsz;omega) (by show a.mx<=max (max (max t.mx f.mx) a.mx) b.mx;omega);have g3:=QM 7;obtain⟨w,e,g4,q2,b1,b2⟩:=zN Ha ls g hs M hpa f (.n0 .nil) (by omega) (by rw [hm];omega) (by omega) (by decide) (by decide) (by decide) (by simp only [Tm.mx];omega);by_cases he:e=0;rotate_left
 ·obtain⟨n,rfl⟩:=Nat.exists_eq_succ_of_ne_zero he;exact⟨.er n,f6 [(32,.ok),(35,.ok),(37,.N 0),(44,.N 0),(56,.r (Tm.n0 .nil).p),(57,.U [dA w,num (n+1)])] c1 c2 g1 g2 g3 g4,RR.good_er (Nat.succ_ne_zero n)⟩
 subst he;obtain⟨fa,⟨_,⟨ja,j1,j2,j3,j4⟩,_,_,_⟩,wa,hwa,hma⟩:=q2 rfl;obtain⟨e,g5,q4⟩:=lP ls g hs 2 1 (by omega) (by omega)
 cases e with
 | succ n=>exact⟨.er n,f7 [(32,.ok),(35,.ok),(37,.N 0),(44,.N 0),(56,.r (Tm.n0 .nil).p),(57,.U [dA w,num 0]),(65,.N (n+1))] c1 c2 g1 g2 g3 g4 g5,RR.good_er (Nat.succ_ne_zero n)⟩
 | zero =>
 have hroom:=q4 rfl;have g6:=im ls g .nat .list hs (by omega) (by omega) (λ f hf=>(hp.h1 f hf).hyp (by omega));have hf1:FO (M+2) (f.sh 1 1):=by have h:=QE 1 f 1;simp at h;exact⟨by rw [DB];exact hfc.1,by omega,by rw [MB];omega⟩
 have gh:=gD f 1 1 (by omega) (by omega) (by rw [hm];omega) (by omega);have g7:=rS ls (g++[.nat,.list]) (hs.map (Fm.sh 0 2)) (f.sh 1 1) (by simp;omega);have g8:=gD f 1 2 (by omega) (by omega) (by rw [hm];omega) (by omega);have g9:=cF 8 (.v 1) (.v 0);have hpb:Pre ls (g++[.nat,.list]) (hs.map (Fm.sh 0 2)++[(f.sh 1 1)]) (M+2) b:=hp.to (by omega) (by
  intro x hx;rcases List.mem_append.1 hx with h|h
  ·exact eS hp.h1 2 x h
  ·simp at h;subst h;exact hf1) (by
  intro x hx;rcases List.mem_append.1 hx with h|h
  ·exact hp.g1 x h
  ·simp at h;rcases h with rfl|rfl<;>decide) (by simp;omega) (by simp;omega) (by show b.cnt<=1+t.cnt+f.cnt+a.cnt+b.cnt;omega) (by show b.tsz<=max (max (max t.tsz f.tsz) a.tsz) b.tsz;omega) (by show b.mx<=max (max (max t.mx f.mx) a.mx) b.mx;omega) (by omega)
 have hup:(f.sh 1 2).mx<=f.mx+2:=QE 2 f 1;have hupc:(f.sh 1 2).cnt=f.cnt:=DB 2 f 1;have hupt:(f.sh 1 2).tsz=f.tsz:=MB 2 f 1;obtain⟨w',e,g10,q5,b3,b4⟩:=zN Hb ls (g++[.nat,.list]) (hs.map (Fm.sh 0 2)++[(f.sh 1 1)]) (M+2) hpb (f.sh 1 2) (Tm.n2 .cons (.v 1) (.v 0)) (by omega) (by rw [hm];omega) (by omega) (by decide) (by decide) (by decide) (by simp only [Tm.mx];omega);by_cases he:e=0;rotate_left
 ·obtain⟨n,rfl⟩:=Nat.exists_eq_succ_of_ne_zero he;exact⟨.er n,fk [(32,.ok),(35,.ok),(37,.N 0),(44,.N 0),(56,.r (Tm.n0 .nil).p),(57,.U [dA w,num 0]),(65,.N 0),(75,.r (KA ls (g++[.nat,.list]) (hs.map (Fm.sh 0 2)))),(77,.r (f.sh 1 1).p),(78,.r (KA ls (g++[.nat,.list]) (hs.map (Fm.sh 0 2)++[(f.sh 1 1)]))),(84,.r (f.sh 1 2).p),(88,.r (Tm.n2 .cons (.v 1) (.v 0)).p),(89,.U [dA w',num (n+1)])] (And.intro c1 (And.intro c2 (And.intro g1 (And.intro g2 (And.intro g3 (And.intro g4 (And.intro g5 (And.intro g6 (And.intro gh (And.intro g7 (And.intro g8 (And.intro g9 (And.intro g10 (Eq.refl ((RR.er n).p))))))))))))))),RR.good_er (Nat.succ_ne_zero n)⟩
 subst he;obtain⟨fb,⟨_,⟨jb,k1,k2,k3,k4⟩,_,_,_⟩,wb,hw2,hm2⟩:=q5 rfl;have hM2:t.mx<=qA * qA:=by rw [hm];omega
 obtain⟨u1,g12,p1,p2,p3,_⟩:=aS H t (by omega) (by omega) hM2;obtain⟨u2,g13,p4,p5,p6,_⟩:=H.union u1 w (by omega) (λ z hz=>by have:=p2 z hz;omega) (λ z hz=>by have:=b1 z hz;omega);have hwb:∀ z∈w',z<=bA:=λ z hz=>by have:=b3 z hz;omega
 have g14:=sS 2 w' (by omega) hwb;have hol:=nP 2 w';have hob:∀ z∈LA 2 w',z<=M+2+nA * b.cnt:=mP (λ z hz=>b3 z hz);have hu2:∀ z∈u2,z<=M+nA * a.cnt:=λ z hz=>by
  rcases p5 z hz with h|h
  ·have:=p2 z h;omega
  ·exact b1 z h
 obtain⟨u3,g15,s1,s2,s3,sA⟩:=H.union u2 (LA 2 w') (by omega) (λ z hz=>by have:=hu2 z hz;omega) (λ z hz=>by have:=hob z hz;omega);obtain⟨r,g11,q8⟩:=qN f t (by omega) (by rw [hm];omega) (by omega) (by omega) hM2 (by omega);rcases q8 with ⟨n,rfl⟩|⟨rfl,q9⟩
 ·exact⟨⟨0,0,[],[],[],u3,n+1⟩,fk [(32,.ok),(35,.ok),(37,.N 0),(44,.N 0),(56,.r (Tm.n0 .nil).p),(57,.U [dA w,num 0]),(65,.N 0),(75,.r (KA ls (g++[.nat,.list]) (hs.map (Fm.sh 0 2)))),(77,.r (f.sh 1 1).p),(78,.r (KA ls (g++[.nat,.list]) (hs.map (Fm.sh 0 2)++[(f.sh 1 1)]))),(84,.r (f.sh 1 2).p),(88,.r (Tm.n2 .cons (.v 1) (.v 0)).p),(89,.U [dA w',num 0]),(99,.r (FR.er n).p),(104,.r (dA u1)),(106,.r (dA u2)),(108,.r (dA (LA 2 w'))),(109,.r (dA u3))] (And.intro c1 (And.intro c2 (And.intro g1 (And.intro g2 (And.intro g3 (And.intro g4 (And.intro g5 (And.intro g6 (And.intro gh (And.intro g7 (And.intro g8 (And.intro g9 (And.intro g10 (And.intro g11 (And.intro g12 (And.intro g13 (And.intro g14 (And.intro g15 (Eq.refl (RR.p (⟨0,0,[],[],[],u3,n+1⟩))))))))))))))))))))),RR.good_er (Nat.succ_ne_zero n)⟩
 ·have h1:=eI 0 t f 0;have h2:=cI 0 t f 0;refine⟨.of (f.put 0 t 0) u3 0,fk [(32,.ok),(35,.ok),(37,.N 0),(44,.N 0),(56,.r (Tm.n0 .nil).p),(57,.U [dA w,num 0]),(65,.N 0),(75,.r (KA ls (g++[.nat,.list]) (hs.map (Fm.sh 0 2)))),(77,.r (f.sh 1 1).p),(78,.r (KA ls (g++[.nat,.list]) (hs.map (Fm.sh 0 2)++[(f.sh 1 1)]))),(84,.r (f.sh 1 2).p),(88,.r (Tm.n2 .cons (.v 1) (.v 0)).p),(89,.U [dA w',num 0]),(99,.r (FR.ok (f.put 0 t 0)).p),(104,.r (dA u1)),(106,.r (dA u2)),(108,.r (dA (LA 2 w'))),(109,.r (dA u3))] (And.intro c1 (And.intro c2 (And.intro g1 (And.intro g2 (And.intro g3 (And.intro g4 (And.intro g5 (And.intro g6 (And.intro gh (And.intro g7 (And.intro g8 (And.intro g9 (And.intro g10 (And.intro g11 (And.intro g12 (And.intro g13 (And.intro g14 (And.intro g15 (Eq.refl ((RR.of (f.put 0 t 0) u3 0).p)))))))))))))))))))),λ _=>⟨_,rfl,⟨by show (f.put 0 t 0).cnt<=qA;omega,by show (f.put 0 t 0).mx<=M+nA * (1+t.cnt+f.cnt+a.cnt+b.cnt);rw [hK];omega,by show (f.put 0 t 0).tsz<=qA;omega,⟨.ind true f t ja jb _,by rw [<- j1,<- k1];rfl,rfl,λ hc=>⟨hc,q0 rfl,⟨hchk,hty⟩,⟨j3,wa,hwa,by rw [j2];exact hma⟩,hroom,⟨k3,wb,hw2,by rw [k2];exact hm2⟩,ZM q9⟩,λ z hz => ?_⟩,sA,λ z hz => ?_,by show u3.length<=1+t.cnt+f.cnt+a.cnt+b.cnt;omega⟩⟩⟩
  ·rcases hz.2 with h|h|h
   ·exact s1 z (.inl (p4 z (.inl (p1 hchk z h))))
   ·exact s1 z (.inl (p4 z (.inr (j4 z h))))
   ·exact s1 z (.inr (WM (k4 _ h)))
  ·show z<=M+nA * (1+t.cnt+f.cnt+a.cnt+b.cnt);rw [hK];rcases s2 z hz with h|h
   ·have:=hu2 z h;omega
   ·have:=hob z h;omega
abbrev RC:List PV:=[num 0,num 0,.slice [],.slice [],.slice []]
theorem CW:A 74 [.agg RC] (.agg RC):=f1 [(12,.r zt)] aF
theorem pc (k:FB) (f:Fm):A 110 [num k.n,f.p,.agg RC] (.agg [num k.n,num 0,.slice [],.slice [],.slice [f.c,RC]]):=f2 [(9,.r f.p),(11,.r (.agg RC))] (aD f) CW
abbrev qz (k:FQ) (s:Ty) (x:List PV):List PV:=[num k.n,num s.kd,.slice s.es,.slice [],.slice [x]]
theorem Im (k:FQ) (s:Ty):A 61 [num k.n,s.p,.agg RC] (.agg (qz k s RC)):=f2 [(9,.r s.p),(11,.r (.agg RC))] (FC s) CW
theorem Jm (k:FQ) (s:Ty):A 74 [.agg (qz k s RC)] (.agg (qz k s RC)):=f2 [(12,.r s.p),(39,.r (.agg RC))] (FC s) CW
theorem Km (k l:FQ) (s u:Ty):A 61 [num k.n,s.p,.agg (qz l u RC)] (.agg (qz k s (qz l u RC))):=f2 [(9,.r s.p),(11,.r (.agg (qz l u RC)))] (FC s) (Jm l u)
theorem Mm {a:Pf} (Ha:lD a):SE 166 (.p1 .choice a):=by
 intro ls g hs M hp;have hm:=zA;have hbb:=kA;have hk:nA=8388608:=rfl;have hcx:nB=qA * qA-1001 * 4096:=rfl;have hmb:M+nA * (1+a.cnt)<=nB:=hp.mb;have hcn:1+a.cnt<=65536:=hp.cnt;have hK:nA * (1+a.cnt)=nA+nA * a.cnt:=by rw [Nat.mul_add,Nat.mul_one]
 rw [hK] at hmb;rw [hm] at hcx;have hpa:Pre ls g hs M a:=hp.sub (by show a.cnt<=1+a.cnt;omega) (Nat.le_refl _) (Nat.le_refl _);obtain⟨r,g1,q⟩:=Ha _ _ _ _ hpa
 cases r with
 | er n=>exact⟨.er n,f1 [(19,.r (PR.er n).p)] g1,RR.good_er (Nat.succ_ne_zero n)⟩
 | ok fa w =>
 obtain⟨q1,⟨ja,j1,j2,j3,j4⟩,p2,p3,p4⟩:=q;have bad:fa.kd≠4->∃ c:RR,A 166 [KA ls g hs,(Pf.p1 .choice a).p] c.p/\c.Good ls g hs M (.p1 .choice a):=λ hne=>⟨.er 9,f2 [(19,.r (PR.ok fa w).p),(29,.G)] g1 (GC hne),RR.good_er (Nat.succ_ne_zero 9)⟩
 cases fa with
 | eq x y=>exact bad (nofun)
 | bin k x y=>exact bad (by cases k<;>exact nofun)
 | q k s x =>
 cases k with
 | ex=>exact bad (nofun)
 | allU=>exact bad (nofun)
 | exU=>exact bad (nofun)
 | all =>
 have bad2:x.kd≠5->∃ c:RR,A 166 [KA ls g hs,(Pf.p1 .choice a).p] c.p/\c.Good ls g hs M (.p1 .choice a):=λ hne=>⟨.er 9,f2 [(19,.r (PR.ok (.q .all s x) w).p),(37,.G)] g1 (GC hne),RR.good_er (Nat.succ_ne_zero 9)⟩
 cases x with
 | eq x y=>exact bad2 (nofun)
 | bin k x y=>exact bad2 (by cases k<;>exact nofun)
 | q k u y =>
 cases k with
 | all=>exact bad2 (nofun)
 | allU=>exact bad2 (nofun)
 | exU=>exact bad2 (nofun)
 | ex =>
 have e1:1+(1+y.cnt)<=4096:=q1.1;have e2:y.mx<=M+nA * a.cnt:=q1.2.1;have e3:max s.size (max u.size y.tsz)<=qA:=q1.2.2;have g2:=xL s u;have g3:=PJ (.two true s u) (by show 1+s.size+u.size<=bA;omega);rcases rG (.two true s u) with e|e<;>rw [e] at g3;rotate_left
 ·exact⟨.er 3,f3 [(19,.r (PR.ok (.q .all s (.q .ex u y)) w).p),(51,.r (Ty.two true s u).p),(53,.N 4)] g1 g2 g3,RR.good_er (Nat.succ_ne_zero 3)⟩
 have hsz:=chk0 e;have hup:(y.sh 2 1).mx<=y.mx+1:=QE 1 y 2;have g4:=gD y 2 1 (by omega) (by omega) (by rw [hm];omega) (by omega);have g5:=cF 3 (.v 1) (.v 0);obtain⟨r,g6,q3⟩:=qN (y.sh 2 1) (.n2 .app (.v 1) (.v 0)) (by rw [DB];omega) (by rw [hm];omega) (by rw [MB];omega) (by decide) (by decide) (by decide);rcases q3 with ⟨n,rfl⟩|⟨rfl,q4⟩
 ·exact⟨⟨5,4,(Ty.two true s u).es,[],[qz .all s RC],w,n+1⟩,f8 [(19,.r (PR.ok (.q .all s (.q .ex u y)) w).p),(51,.r (Ty.two true s u).p),(53,.N 0),(65,.r (y.sh 2 1).p),(69,.r (Tm.n2 .app (.v 1) (.v 0)).p),(70,.r (FR.er n).p),(76,.r (.agg (qz .all s RC))),(77,.r (.agg (qz .ex (.two true s u) (qz .all s RC))))] g1 g2 g3 g4 g5 g6 (Im .all s) (Km .ex .all (.two true s u) s),RR.good_er (Nat.succ_ne_zero n)⟩
 ·have h1:=eI 0 (.n2 .app (.v 1) (.v 0)) (y.sh 2 1) 0;have h2:=cI 0 (.n2 .app (.v 1) (.v 0)) (y.sh 2 1) 0;have h3:(y.sh 2 1).cnt=y.cnt:=DB 1 y 2;have h4:(y.sh 2 1).tsz=y.tsz:=MB 1 y 2;have h5:(Tm.n2 .app (.v 1) (.v 0)).mx=1:=rfl;have h6:(Tm.n2 .app (.v 1) (.v 0)).tsz=0:=rfl;have h7:=ZM q4;generalize hz:(y.sh 2 1).put 0 (.n2 .app (.v 1) (.v 0)) 0=z at *
  refine⟨.of (.q .ex (.two true s u) (.q .all s z)) w 0,f8 [(19,.r (PR.ok (.q .all s (.q .ex u y)) w).p),(51,.r (Ty.two true s u).p),(53,.N 0),(65,.r (y.sh 2 1).p),(69,.r (Tm.n2 .app (.v 1) (.v 0)).p),(70,.r (FR.ok z).p),(76,.r (Fm.q .all s z).p),(77,.r (Fm.q .ex (.two true s u) (.q .all s z)).p)] g1 g2 g3 g4 g5 g6 (cD .all s z) (cD .ex (.two true s u) (.q .all s z)),λ _=>⟨_,rfl,⟨?_,?_,?_,⟨.p1 .choice ja _,by rw [<- j1];rfl,rfl,λ hc=>⟨hc,j3,s,u,y,j2,hsz,z,h7,rfl⟩,λ v hv=>j4 v hv.2⟩,p2,λ v hv => ?_,by show w.length<=1+a.cnt;omega⟩⟩⟩
  ·show 1+(1+z.cnt)<=qA;omega
  ·show z.mx<=M+nA * (1+a.cnt);rw [hK];omega
  ·show max (Ty.two true s u).size (max s.size z.tsz)<=qA;omega
  ·have:=p3 v hv;show v<=M+nA * (1+a.cnt);rw [hK];omega
open Go.Lg
theorem Om (u:Bool) (i:Nat):SE 115 (.leaf u i):=by
 intro ls g hs M hp;have hm:=zA;have hhl:=hp.hl;have hll:=hp.ll;cases u
 ·by_cases h:i<hs.length
  ·obtain⟨f,hx⟩:∃ f,hs[hs.length-1-i]? = some f:=⟨_,List.getElem?_eq_getElem (by omega)⟩;have h1:(!uA (.ofNat i) (.ofNat (hs.map Fm.c).length))=false:=by rw [cA (by simpa using h)];rfl
   have h2:aA (Int.ofNat (hs.map Fm.c).length-1)=true/\Int.ofNat (hs.map Fm.c).length-1 = .ofNat (hs.length-1):=by
    have e:Int.ofNat (hs.map Fm.c).length-1 = .ofNat (hs.length-1):=by simp;omega
    exact⟨by rw [e];exact rA (by omega),e⟩
   have h3:aA (Int.ofNat (hs.length-1) - .ofNat i)=true/\Int.ofNat (hs.length-1) - .ofNat i = .ofNat (hs.length-1-i):=by
    have e:Int.ofNat (hs.length-1) - .ofNat i = .ofNat (hs.length-1-i):=by simp;omega
    exact⟨by rw [e];exact rA (by omega),e⟩
   have hF:=hp.h1 f (List.mem_of_getElem? hx);exact⟨.of f [] 0,f4 [(30,.H),(37,.z (hs.length-1)),(40,.z (hs.length-1-i)),(41,.i f.c)] h1 h2 h3 (kB hx Fm.c_len),λ _=>⟨f,rfl,⟨by have:=hF.1;omega,by have:=hF.2.1;omega,hF.2.2,⟨.leaf false i f,rfl,rfl,λ hc=>⟨hc,h,hx⟩,λ v hv=>hv.elim⟩,List.Pairwise.nil,(λ x hx=>by cases hx),Nat.zero_le _⟩⟩⟩
  ·have h1:(!uA (.ofNat i) (.ofNat (hs.map Fm.c).length))=true:=by rw [JA (by simp;omega)];rfl
   exact⟨.er 7,f1 [(30,.G)] h1,RR.good_er (Nat.succ_ne_zero 7)⟩
 ·by_cases h:i<ls.length
  ·obtain⟨f,hx⟩:∃ f,ls[i]? = some f:=⟨_,List.getElem?_eq_getElem h⟩;have h1:(!uA (.ofNat i) (.ofNat (ls.map Fm.c).length))=false:=by rw [cA (by simpa using h)];rfl
   have hF:=hp.l1 f (List.mem_of_getElem? hx);exact⟨.of f [] 0,f2 [(50,.H),(56,.i f.c)] h1 (kB hx Fm.c_len),λ _=>⟨f,rfl,⟨by have:=hF.1;omega,by have:=hF.2.1;omega,hF.2.2,⟨.leaf true i f,rfl,rfl,λ hc=>⟨hc,hx⟩,λ v hv=>hv.elim⟩,List.Pairwise.nil,(λ x hx=>by cases hx),Nat.zero_le _⟩⟩⟩
  ·have h1:(!uA (.ofNat i) (.ofNat (ls.map Fm.c).length))=true:=by rw [JA (by simp;omega)];rfl
   exact⟨.er 8,f1 [(50,.G)] h1,RR.good_er (Nat.succ_ne_zero 8)⟩
theorem Pm (t:Tm):SE 115 (.refl t):=by
 intro ls g hs M hp;have hm:=zA;have hgl:=hp.gl;have hcn:1+t.cnt<=65536:=hp.cnt;have hmx:t.mx<=M:=hp.mx;have htz:t.tsz<=qA:=hp.tsz;obtain⟨e,g1,q⟩:=AW ls g hs t 1 hp.g1 htz (by omega);refine⟨.of (.eq t t) [] e,f2 [(280,.r (Fm.eq t t).p),(286,.N e)] (PE t t) g1,λ he => ?_⟩;have he:e=0:=he;subst he;obtain⟨k1,s,k2,k3⟩:=q rfl;clear q;exact⟨_,rfl,⟨by show 1+t.cnt+t.cnt<=qA;omega,by show max t.mx t.mx<=M+_;omega,by show max t.tsz t.tsz<=qA;omega,⟨.refl t,rfl,rfl,λ hc=>⟨hc,k1,by rw [k2,gS k3]⟩,λ v hv=>hv.elim⟩,List.Pairwise.nil,(λ x hx=>by cases hx),Nat.zero_le _⟩⟩
theorem Qm (k:P1) {a:Pf} (Ha:lD a):SE 115 (.p1 k a):=by
 intro ls g hs M hp;have hm:=zA;have hk:nA=8388608:=rfl;have hK:nA * (1+a.cnt)=nA+nA * a.cnt:=by rw [Nat.mul_add,Nat.mul_one]
 have hpa:Pre ls g hs M a:=hp.sub (by show a.cnt<=1+a.cnt;omega) (Nat.le_refl _) (Nat.le_refl _)
 cases k with
 | choice =>
  obtain⟨c,g1,g2⟩:=Mm Ha ls g hs M hp;exact⟨c,f1 [(297,.r c.p)] g1,g2⟩
 | andL =>
  obtain⟨r,g1,q⟩:=Ha _ _ _ _ hpa
  cases r with
  | er n=>exact⟨.er n,f1 [(102,.r (PR.er n).p)] g1,RR.good_er (Nat.succ_ne_zero n)⟩
  | ok fa w =>
  obtain⟨q1,⟨ja,j1,j2,j3,j4⟩,p2,p3,p4⟩:=q;have bad:fa.kd≠2->∃ c:RR,A 115 [KA ls g hs,(Pf.p1 .andL a).p] c.p/\c.Good ls g hs M (.p1 .andL a):=λ hne=>⟨.er 9,f2 [(102,.r (PR.ok fa w).p),(112,.G)] g1 (GC hne),RR.good_er (Nat.succ_ne_zero 9)⟩
  cases fa with
  | eq x y=>exact bad (nofun)
  | q k s x=>exact bad (by cases k<;>exact nofun)
  | bin k x y =>
   cases k with
   | imp=>exact bad (nofun)
   | and =>
    have e1:1+x.cnt+y.cnt<=4096:=q1.1;have e2:max x.mx y.mx<=M+nA * a.cnt:=q1.2.1;have e3:max x.tsz y.tsz<=qA:=q1.2.2;exact⟨.of x w 0,f1 [(102,.r (PR.ok (.bin .and x y) w).p)] g1,λ _=>⟨_,rfl,⟨by omega,by show x.mx<=M+nA * (1+a.cnt);rw [hK];omega,by omega,⟨.p1 .andL ja x,by rw [<- j1];rfl,rfl,λ hc=>⟨hc,j3,y,j2⟩,λ v hv=>j4 v hv.2⟩,p2,λ v hv=>by have:=p3 v hv;show v<=M+nA * (1+a.cnt);rw [hK];omega,by show w.length<=1+a.cnt;omega⟩⟩⟩
 | andR =>
  obtain⟨r,g1,q⟩:=Ha _ _ _ _ hpa
  cases r with
  | er n=>exact⟨.er n,f1 [(102,.r (PR.er n).p)] g1,RR.good_er (Nat.succ_ne_zero n)⟩
  | ok fa w =>
  obtain⟨q1,⟨ja,j1,j2,j3,j4⟩,p2,p3,p4⟩:=q;have bad:fa.kd≠2->∃ c:RR,A 115 [KA ls g hs,(Pf.p1 .andR a).p] c.p/\c.Good ls g hs M (.p1 .andR a):=λ hne=>⟨.er 9,f2 [(102,.r (PR.ok fa w).p),(112,.G)] g1 (GC hne),RR.good_er (Nat.succ_ne_zero 9)⟩
  cases fa with
  | eq x y=>exact bad (nofun)
  | q k s x=>exact bad (by cases k<;>exact nofun)
  | bin k x y =>
   cases k with
   | imp=>exact bad (nofun)
   | and =>
    have e1:1+x.cnt+y.cnt<=4096:=q1.1;have e2:max x.mx y.mx<=M+nA * a.cnt:=q1.2.1;have e3:max x.tsz y.tsz<=qA:=q1.2.2;exact⟨.of y w 0,f1 [(102,.r (PR.ok (.bin .and x y) w).p)] g1,λ _=>⟨_,rfl,⟨by omega,by show y.mx<=M+nA * (1+a.cnt);rw [hK];omega,by omega,⟨.p1 .andR ja y,by rw [<- j1];rfl,rfl,λ hc=>⟨hc,j3,x,j2⟩,λ v hv=>j4 v hv.2⟩,p2,λ v hv=>by have:=p3 v hv;show v<=M+nA * (1+a.cnt);rw [hK];omega,by show w.length<=1+a.cnt;omega⟩⟩⟩
theorem Rm (f:Fm) {a:Pf} (Ha:lD a):SE 115 (.impI f a):=by
 intro ls g hs M hp;have hm:=zA;have hk:nA=8388608:=rfl;have hgl:=hp.gl;have hhl:=hp.hl;have hmb:M+nA * (1+f.cnt+a.cnt)<=nB:=hp.mb;have htz:max f.tsz a.tsz<=qA:=hp.tsz;have hmx:max f.mx a.mx<=M:=hp.mx;have hcn:1+f.cnt+a.cnt<=65536:=hp.cnt;have hK:nA * (1+f.cnt+a.cnt)=nA+nA * f.cnt+nA * a.cnt:=by rw [Nat.mul_add,Nat.mul_add,Nat.mul_one]
 rw [hK] at hmb;obtain⟨e,g1,q0⟩:=nS g f hp.g1 (by omega) (by omega)
 cases e with
 | succ n=>exact⟨.er n,f1 [(132,.N (n+1))] g1,RR.good_er (Nat.succ_ne_zero n)⟩
 | zero =>
 have hfc:=Fm.chk0 (q0 rfl).1;obtain⟨e,g2,q1⟩:=lP ls g hs 0 1 (by omega) (by omega)
 cases e with
 | succ n=>exact⟨.er n,f2 [(132,.N 0),(138,.N (n+1))] g1 g2,RR.good_er (Nat.succ_ne_zero n)⟩
 | zero =>
 have hroom:=q1 rfl;have g3:=rS ls g hs f (by omega);have hpa:Pre ls g (hs++[f]) M a:=hp.to (Nat.le_refl _) (by
  intro x hx;rcases List.mem_append.1 hx with h|h
  ·exact hp.h1 x h
  ·simp at h;subst h;exact⟨hfc.1,by omega,by omega⟩) hp.g1 hp.gl (by simp;omega) (by show a.cnt<=1+f.cnt+a.cnt;omega) (by show a.tsz<=max f.tsz a.tsz;omega) (by show a.mx<=max f.mx a.mx;omega) (by omega)
 obtain⟨r,g4,q⟩:=Ha _ _ _ _ hpa
 cases r with
 | er n=>exact⟨⟨3,0,[],[],[f.c,RC],[],n+1⟩,f5 [(132,.N 0),(138,.N 0),(149,.r (KA ls g (hs++[f]))),(154,.r (PR.er n).p),(163,.r (.agg [num 3,num 0,.slice [],.slice [],.slice [f.c,RC]]))] g1 g2 g3 g4 (pc .imp f),RR.good_er (Nat.succ_ne_zero n)⟩
 | ok fa w =>
  obtain⟨q1,⟨ja,j1,j2,j3,j4⟩,p2,p3,p4⟩:=q;have e1:=q1.1;have e2:=q1.2.1;have e3:=q1.2.2;exact⟨.of (.bin .imp f fa) w 0,f5 [(132,.N 0),(138,.N 0),(149,.r (KA ls g (hs++[f]))),(154,.r (PR.ok fa w).p),(163,.r (Fm.bin .imp f fa).p)] g1 g2 g3 g4 (kP .imp f fa),λ _=>⟨_,rfl,⟨by show 1+f.cnt+fa.cnt<=qA;omega,by show max f.mx fa.mx<=M+nA * (1+f.cnt+a.cnt);rw [hK];omega,by show max f.tsz fa.tsz<=qA;omega,⟨.impI f ja,by rw [<- j1];rfl,by rw [<- j2];rfl,λ hc=>⟨by rw [j2];exact hc,q0 rfl,hroom.2,j3⟩,λ v hv=>j4 v hv.2⟩,p2,λ v hv=>by have:=p3 v hv;show v<=M+nA * (1+f.cnt+a.cnt);rw [hK];omega,by show w.length<=1+f.cnt+a.cnt;omega⟩⟩⟩
theorem Sm (H:MF) (k:P2) {a b:Pf} (Ha:lD a) (Hb:lD b):SE 115 (.p2 k a b):=by
 intro ls g hs M hp;have hm:=zA;have hbb:=kA;have hk:nA=8388608:=rfl;have hcx:nB=qA * qA-1001 * 4096:=rfl;have hmb:M+nA * (1+a.cnt+b.cnt)<=nB:=hp.mb;have hcn:1+a.cnt+b.cnt<=65536:=hp.cnt;have hK:nA * (1+a.cnt+b.cnt)=nA+nA * a.cnt+nA * b.cnt:=by rw [Nat.mul_add,Nat.mul_add,Nat.mul_one]
 rw [hK] at hmb;rw [hm] at hcx;have hpa:Pre ls g hs M a:=hp.sub (by show a.cnt<=1+a.cnt+b.cnt;omega) (by show a.tsz<=max a.tsz b.tsz;omega) (by show a.mx<=max a.mx b.mx;omega);have hpb:Pre ls g hs M b:=hp.sub (by show b.cnt<=1+a.cnt+b.cnt;omega) (by show b.tsz<=max a.tsz b.tsz;omega) (by show b.mx<=max a.mx b.mx;omega)
 cases k with
 | exE =>
  obtain⟨c,g1,g2⟩:=nc H false Ha Hb ls g hs M hp;exact⟨c,f1 [(250,.r c.p)] g1,g2⟩
 | exUE =>
  obtain⟨c,g1,g2⟩:=nc H true Ha Hb ls g hs M hp;exact⟨c,f1 [(250,.r c.p)] g1,g2⟩
 | andI =>
  obtain⟨r,g1,q⟩:=Ha _ _ _ _ hpa
  cases r with
  | er n=>exact⟨.er n,f1 [(66,.r (PR.er n).p)] g1,RR.good_er (Nat.succ_ne_zero n)⟩
  | ok fa w =>
  obtain⟨q1,⟨ja,j1,j2,j3,j4⟩,p2,p3,p4⟩:=q;obtain⟨r,g2,q⟩:=Hb _ _ _ _ hpb
  cases r with
  | er n =>
   obtain⟨w2,g3,_⟩:=H.union w [] (by simp;omega) (λ z hz=>by have:=p3 z hz;omega) (λ z hz=>by cases hz);exact⟨⟨2,0,[],[],[fa.c,RC],w2,n+1⟩,f4 [(66,.r (PR.ok fa w).p),(79,.r (PR.er n).p),(86,.r (.agg [num 2,num 0,.slice [],.slice [],.slice [fa.c,RC]])),(91,.r (dA w2))] g1 g2 (pc .and fa) g3,RR.good_er (Nat.succ_ne_zero n)⟩
  | ok fb v =>
   obtain⟨r1,⟨jb,k1,k2,k3,k4⟩,s2,s3,s4⟩:=q;obtain⟨w2,g3,t1,t2,t3,tA⟩:=H.union w v (by omega) (λ z hz=>by have:=p3 z hz;omega) (λ z hz=>by have:=s3 z hz;omega);have e1:=q1.1;have e2:=q1.2.1;have e3:=q1.2.2;have d1:=r1.1;have d2:=r1.2.1;have d3:=r1.2.2;refine⟨.of (.bin .and fa fb) w2 0,f4 [(66,.r (PR.ok fa w).p),(79,.r (PR.ok fb v).p),(86,.r (Fm.bin .and fa fb).p),(91,.r (dA w2))] g1 g2 (kP .and fa fb) g3,λ _=>⟨_,rfl,⟨by show 1+fa.cnt+fb.cnt<=qA;omega,by show max fa.mx fb.mx<=M+nA * (1+a.cnt+b.cnt);rw [hK];omega,by show max fa.tsz fb.tsz<=qA;omega,⟨.p2 .andI ja jb (.bin .and fa fb),by rw [<- j1,<- k1];rfl,rfl,λ hc=>⟨hc,j3,k3,by rw [j2,k2]⟩,λ z hz => ?_⟩,tA,λ z hz => ?_,by show w2.length<=1+a.cnt+b.cnt;omega⟩⟩⟩
   ·rcases hz.2 with h|h
    ·exact t1 z (.inl (j4 z h))
    ·exact t1 z (.inr (k4 z h))
   ·show z<=M+nA * (1+a.cnt+b.cnt);rw [hK];rcases t2 z hz with h|h
    ·have:=p3 z h;omega
    ·have:=s3 z h;omega
 | impE =>
  obtain⟨r,g1,q⟩:=Ha _ _ _ _ hpa
  cases r with
  | er n=>exact⟨.er n,f1 [(175,.r (PR.er n).p)] g1,RR.good_er (Nat.succ_ne_zero n)⟩
  | ok fa w =>
  obtain⟨q1,⟨ja,j1,j2,j3,j4⟩,p2,p3,p4⟩:=q;have bad:fa.kd≠3->∃ c:RR,A 115 [KA ls g hs,(Pf.p2 .impE a b).p] c.p/\c.Good ls g hs M (.p2 .impE a b):=λ hne=>⟨.er 9,f2 [(175,.r (PR.ok fa w).p),(185,.G)] g1 (GC hne),RR.good_er (Nat.succ_ne_zero 9)⟩
  cases fa with
  | eq x y=>exact bad (nofun)
  | q k s x=>exact bad (by cases k<;>exact nofun)
  | bin k x y =>
  cases k with
  | and=>exact bad (nofun)
  | imp =>
  have e1:1+x.cnt+y.cnt<=4096:=q1.1;have e2:max x.mx y.mx<=M+nA * a.cnt:=q1.2.1;have e3:max x.tsz y.tsz<=qA:=q1.2.2;obtain⟨r,g2,q⟩:=Hb _ _ _ _ hpb
  cases r with
  | er n=>exact⟨.er n,f2 [(175,.r (PR.ok (.bin .imp x y) w).p),(193,.r (PR.er n).p)] g1 g2,RR.good_er (Nat.succ_ne_zero n)⟩
  | ok fb v =>
   obtain⟨r1,⟨jb,k1,k2,k3,k4⟩,s2,s3,s4⟩:=q;have d1:=r1.1;have d2:=r1.2.1;have d3:=r1.2.2;obtain⟨w2,g3,t1,t2,t3,tA⟩:=H.union w v (by omega) (λ z hz=>by have:=p3 z hz;omega) (λ z hz=>by have:=s3 z hz;omega);obtain⟨e,g4,g5⟩:=kc x fb (by omega) (by omega) (by omega) (by omega) (by omega) d3;refine⟨.of y w2 e,f4 [(175,.r (PR.ok (.bin .imp x y) w).p),(193,.r (PR.ok fb v).p),(209,.r (dA w2)),(217,.N e)] g1 g2 g3 g4,λ he => ?_⟩;have he:e=0:=he;subst he;refine⟨_,rfl,⟨by omega,by show y.mx<=M+nA * (1+a.cnt+b.cnt);rw [hK];omega,by omega,⟨.p2 .impE ja jb y,by rw [<- j1,<- k1];rfl,rfl,λ hc=>⟨hc,j3,k3,x,j2,by rw [k2];exact g5 rfl⟩,λ z hz => ?_⟩,tA,λ z hz => ?_,by show w2.length<=1+a.cnt+b.cnt;omega⟩⟩
   ·rcases hz.2 with h|h
    ·exact t1 z (.inl (j4 z h))
    ·exact t1 z (.inr (k4 z h))
   ·show z<=M+nA * (1+a.cnt+b.cnt);rw [hK];rcases t2 z hz with h|h
    ·have:=p3 z h;omega
    ·have:=s3 z h;omega
theorem TE (H:MF):∀ p:Pf,lD p
 | .leaf u i=>HH (Om u i)
 | .refl t=>HH (Pm t)
 | .p1 k a=>HH (Qm k (TE H a))
 | .p2 k a b=>HH (Sm H k (TE H a) (TE H b))
 | .impI f a=>HH (Rm f (TE H a))
 | .all u s a=>HH λ ls g hs M hp=>by
  obtain⟨c,g1,g2⟩:=Am u s (TE H a) ls g hs M hp;cases u<;>exact⟨c,f1 [(223,.r c.p)] g1,g2⟩
 | .ins u t a=>HH λ ls g hs M hp=>by
  obtain⟨c,g1,g2⟩:=Bm H u t (TE H a) ls g hs M hp;cases u<;>exact⟨c,f1 [(232,.r c.p)] g1,g2⟩
 | .ex u f t a=>HH λ ls g hs M hp=>by
  obtain⟨c,g1,g2⟩:=Cm H u f t (TE H a) ls g hs M hp;cases u<;>exact⟨c,f1 [(241,.r c.p)] g1,g2⟩
 | .ind l f t a b=>HH λ ls g hs M hp=>by
  cases l
  ·obtain⟨c,g1,g2⟩:=Gm H f t (TE H a) (TE H b) ls g hs M hp;exact⟨c,f1 [(258,.r c.p)] g1,g2⟩
  ·obtain⟨c,g1,g2⟩:=Hm H f t (TE H a) (TE H b) ls g hs M hp;exact⟨c,f1 [(266,.r c.p)] g1,g2⟩
 | .subst f a b=>HH λ ls g hs M hp=>by
  obtain⟨c,g1,g2⟩:=Dm f (TE H a) (TE H b) ls g hs M hp;exact⟨c,f1 [(291,.r c.p)] g1,g2⟩
theorem UE:∀ t:Ty,A 108 [t.p] t.p
 | .nat=>f0 []
 | .list=>f0 []
 | .unit=>f0 []
 | .two k a b=>f2 [(19,.r a.p),(19,.r b.p)] (UE a) (UE b)
theorem KC:A 108 [zt] zt:=f0 []
theorem rP (a b:Ty):A 109 [a.p,b.p] (.bool (a.same b)):=by
 induction a generalizing b with
 | two k a b h1 h2=>cases b with
  | two l c d =>
   have h1:=h1 c;have h2:=h2 d;show A 109 [(Ty.two k a b).p,(Ty.two l c d).p] (.bool ((k == l) && (a.same c && b.same d)));generalize a.same c=p at *
   generalize b.same d=q at *
   by_cases e:k=l
   ·subst e;cases p
    ·cases k<;>exact f1 [(35,.F)] h1
    ·cases q
     ·cases k<;>exact f2 [(35,.T),(35,.F)] h1 h2
     ·cases k<;>exact f2 [(35,.T),(35,.T)] h1 h2
   ·cases k<;>cases l<;>first|exact absurd rfl e|exact f0 []
  | _=>cases k<;>exact f0 []
 | _=>cases b with
  | two l c d=>cases l<;>exact f0 []
  | _=>exact f0 []
theorem oS:∀ t:Ty,t.size<=bA->A 273 [t.p] (.tuple [num t.size,.bool true])
 | .nat,_=>f0 []
 | .list,_=>f0 []
 | .unit,_=>f0 []
 | .two k a b,h=>by
  have h:1+a.size+b.size<=bA:=h;have h1:=oS a (by omega);have h2:=oS b (by omega);have h3:aA (.ofNat (1+a.size))=true:=fB (by omega);cases k<;>exact f4 [(33,.U [num a.size,.bool true]),(40,.ok),(33,.U [num b.size,.bool true]),(40,.ok)] h1 h3 h2 (fB h)
def vC (n m:Nat):Nat:=match uA (.ofNat m) (.ofNat n) with
 | true=>0
 | false=>n
def VE (n m:Nat):Nat:=match uA (.ofNat m) (.ofNat n) with
 | true=>4
 | false=>0
theorem jN {n m:Nat} (h:n<=m):vC n m=n/\VE n m=0:=by
 have e:uA (.ofNat m) (.ofNat n)=false:=JA h;unfold vC VE;rw [e];exact⟨rfl,rfl⟩
theorem Um {n m:Nat} (h:m<n):vC n m=0/\VE n m=4:=by
 have e:uA (.ofNat m) (.ofNat n)=true:=cA h;unfold vC VE;rw [e];exact⟨rfl,rfl⟩
theorem DW (n m:Nat):(n<=m/\vC n m=n/\VE n m=0)\/(m<n/\vC n m=0/\VE n m=4):=by
 by_cases h:n<=m
 ·exact .inl ⟨h,jN h⟩
 ·exact .inr ⟨by omega,Um (by omega)⟩
theorem ckE_0 {n m:Nat} : VE n m=0↔n<=m:=by
 rcases DW n m with ⟨h,_,e⟩|⟨h,_,e⟩<;>rw [e]<;>simp<;>omega
theorem wN (t:Ty) (h:t.size<=bA):A 211 [t.p] (.tuple [num (vC t.size 64),num (VE t.size 64)]):=by
 unfold vC VE;cases e:uA (.ofNat 64) (.ofNat t.size)
 ·exact f2 [(8,.U [num t.size,.bool true]),(16,.H)] (oS t h) e
 ·exact f2 [(8,.U [num t.size,.bool true]),(16,.G)] (oS t h) e
theorem EW (t:Ty) (h:t.size<=bA):A 144 [t.p] (num (VE t.size 64)):=f1 [(7,.U [num (vC t.size 64),num (VE t.size 64)])] (wN t h)
theorem jH:A 276 [zt] (.bool true):=f0 []
open Go.Lg
def Tm.nd (t:Tm):Nat:=match t.shp with
 | true=>t.cnt
 | false=>0
theorem vH (s:Ty):s.chk=VE s.size 64:=rfl
theorem IH:∀ t:Tm,t.tsz<=bA->t.cnt<=bA->A 212 [t.p] (.tuple [num t.nd,.bool t.shp])
 | .v i,_,_=>by cases i<;>exact f0 []
 | .n0 k,_,_=>by cases k<;>exact f0 []
 | .lam s b,h,hc=>by
  have h:max s.size b.tsz<=bA:=h;have hc:1+b.cnt<=bA:=hc;have h1:=wN s (by omega);have h2:=IH b (by omega) (by omega);unfold Tm.nd at *
  unfold Tm.shp;rcases rG s with e|e<;>rw [vH] at e<;>rw [e] at h1<;>rw [vH,e]
  ·cases e2:b.shp<;>rw [e2] at h2
   ·exact f2 [(49,.U [num (vC s.size 64),num 0]),(67,.U [num 0,.bool false])] h1 h2
   ·exact f3 [(49,.U [num (vC s.size 64),num 0]),(67,.U [num b.cnt,.bool true]),(74,.ok)] h1 h2 (fB hc)
  ·exact f1 [(49,.U [num (vC s.size 64),num 4])] h1
 | .n1 k a,h,hc=>by
  have hc:1+a.cnt<=bA:=hc;have h2:=IH a h (by omega);unfold Tm.nd at *
  show A 212 [(Tm.n1 k a).p] (.tuple [num (match a.shp with|true=>1+a.cnt|false=>0),.bool a.shp]);cases e2:a.shp<;>rw [e2] at h2
  ·cases k<;>exact f1 [(67,.U [num 0,.bool false])] h2
  ·cases k<;>exact f2 [(67,.U [num a.cnt,.bool true]),(74,.ok)] h2 (fB hc)
 | .n2 k a b,h,hc=>by
  have h:max a.tsz b.tsz<=bA:=h;have hc:1+a.cnt+b.cnt<=bA:=hc;have h1:=IH a (by omega) (by omega);have h2:=IH b (by omega) (by omega);have hc1:aA (.ofNat (1+a.cnt))=true:=fB (by omega);unfold Tm.nd at *
  show A 212 [(Tm.n2 k a b).p] (.tuple [num (match a.shp && b.shp with|true=>1+a.cnt+b.cnt|false=>0),.bool (a.shp && b.shp)]);cases e1:a.shp<;>rw [e1] at h1
  ·cases k<;>exact f1 [(67,.U [num 0,.bool false])] h1
  ·cases e2:b.shp<;>rw [e2] at h2
   ·cases k<;>exact f3 [(67,.U [num a.cnt,.bool true]),(74,.ok),(67,.U [num 0,.bool false])] h1 hc1 h2
   ·cases k<;>exact f4 [(67,.U [num a.cnt,.bool true]),(74,.ok),(67,.U [num b.cnt,.bool true]),(74,.ok)] h1 hc1 h2 (fB hc)
 | .n3 k s a b c,h,hc=>by
  have h:max (max s.size a.tsz) (max b.tsz c.tsz)<=bA:=h;have hc:1+a.cnt+b.cnt+c.cnt<=bA:=hc;have h0:=wN s (by omega);have h1:=IH a (by omega) (by omega);have h2:=IH b (by omega) (by omega);have h3:=IH c (by omega) (by omega);have hc1:aA (.ofNat (1+a.cnt))=true:=fB (by omega);have hc2:aA (.ofNat (1+a.cnt+b.cnt))=true:=fB (by omega);unfold Tm.nd at *
  unfold Tm.shp;rcases rG s with e|e<;>rw [vH] at e<;>rw [e] at h0<;>rw [vH,e]
  ·cases e1:a.shp<;>rw [e1] at h1
   ·cases k<;>exact f2 [(49,.U [num (vC s.size 64),num 0]),(67,.U [num 0,.bool false])] h0 h1
   ·cases e2:b.shp<;>rw [e2] at h2
    ·cases k<;>exact f4 [(49,.U [num (vC s.size 64),num 0]),(67,.U [num a.cnt,.bool true]),(74,.ok),(67,.U [num 0,.bool false])] h0 h1 hc1 h2
    ·cases e3:c.shp<;>rw [e3] at h3
     ·cases k<;>exact f6 [(49,.U [num (vC s.size 64),num 0]),(67,.U [num a.cnt,.bool true]),(74,.ok),(67,.U [num b.cnt,.bool true]),(74,.ok),(67,.U [num 0,.bool false])] h0 h1 hc1 h2 hc2 h3
     ·cases k<;>exact f7 [(49,.U [num (vC s.size 64),num 0]),(67,.U [num a.cnt,.bool true]),(74,.ok),(67,.U [num b.cnt,.bool true]),(74,.ok),(67,.U [num c.cnt,.bool true]),(74,.ok)] h0 h1 hc1 h2 hc2 h3 (fB hc)
  ·cases k<;>exact f1 [(49,.U [num (vC s.size 64),num 4])] h0
def Tm.ckn (t:Tm):Nat:=match t.chk with
 | 0=>t.cnt
 | _=>0
theorem xS (t:Tm) (h1:t.tsz<=bA) (h2:t.cnt<=bA):A 145 [t.p] (.tuple [num t.ckn,num t.chk]):=by
 have h3:=IH t h1 h2;unfold Tm.nd at h3;unfold Tm.ckn Tm.chk;cases e:t.shp<;>rw [e] at h3
 ·exact f1 [(8,.U [num 0,.bool false])] h3
 ·cases e2:uA (.ofNat 4096) (.ofNat t.cnt)
  ·exact f2 [(8,.U [num t.cnt,.bool true]),(16,.H)] h3 e2
  ·exact f2 [(8,.U [num t.cnt,.bool true]),(16,.G)] h3 e2
theorem a297 (t:Tm) (h1:t.tsz<=bA) (h2:t.cnt<=bA):A 299 [t.p] (.tuple [num t.ckn,num t.chk]):=f1 [(5,.U [num t.ckn,num t.chk])] (xS t h1 h2)
theorem a92 (t:Tm) (h1:t.tsz<=bA) (h2:t.cnt<=bA):A 105 [t.p] (num t.chk):=f1 [(7,.U [num t.ckn,num t.chk])] (xS t h1 h2)
theorem Tm.chk0 {t:Tm} (h:t.chk=0):t.cnt<=4096/\t.shp=true:=by
 unfold Tm.chk at h
 cases e1:t.shp with
 | false=>rw [e1] at h;cases h
 | true =>
  rw [e1] at h
  cases e2:uA (.ofNat 4096) (.ofNat t.cnt) with
  | true=>rw [e2] at h;cases h
  | false =>
   rw [KB] at e2;simp at e2;exact⟨by omega,rfl⟩
theorem Tm.ckn0 {t:Tm} (h:t.chk=0):t.ckn=t.cnt:=by unfold Tm.ckn;split<;>simp_all
theorem zE:A 109 [.agg [num 0,.slice []],.agg [num 0,.slice []]] (.bool true):=f0 []
theorem kN {a:Tm} (H:∀ b:Tm,a.kd=b.kd->∃ r,A 327 [a.p,b.p] (.bool r)/\(r=true↔a=b)) (b:Tm):∃ r,A 327 [a.p,b.p] (.bool r)/\(r=true↔a=b):=by
 by_cases h:a.kd=b.kd
 ·exact H b h
 ·exact⟨false,f1 [(11,.G)] (GC h),ff λ e=>h (by rw [e])⟩
theorem JH:∀ a b:Tm,∃ r,A 327 [a.p,b.p] (.bool r)/\(r=true↔a=b)
 | .v i=>kN λ b h=>by
  cases b with
  | v j =>
   by_cases e:i=j
   ·subst e;exact⟨true,f2 [(17,.H),(24,.T)] (rB i) zE,by simp_all⟩
   ·exact⟨false,f1 [(17,.G)] (GC e),by simp_all⟩
  | _=>have:=congrArg eF h;rw [nC,nC] at this;cases this
 | .n0 k=>kN λ b h=>by
  cases b with
  | n0 l=>cases K0.inj h;exact⟨true,f2 [(11,.H),(24,.T)] (rB k.n) zE,by simp_all⟩
  | _=>have:=congrArg eF h;rw [nC,nC] at this;cases this
 | .lam s a=>kN λ b h=>by
  cases b with
  | lam u b =>
   have h1:=rP s u;have e1:=HD s u;cases e:s.same u<;>rw [e] at h1 e1
   ·exact⟨false,f1 [(24,.F)] h1,by simp_all⟩
   ·obtain⟨r,h3,q3⟩:=JH a b;cases r
    ·exact⟨false,f2 [(24,.T),(50,.F)] h1 h3,by simp_all⟩
    ·exact⟨true,f2 [(24,.T),(50,.T)] h1 h3,by simp_all⟩
  | _=>have:=congrArg eF h;rw [nC,nC] at this;cases this
 | .n1 k a=>kN λ b h=>by
  cases b with
  | n1 l b =>
   cases K1.inj h;obtain⟨r,h3,q3⟩:=JH a b;cases r
   ·exact⟨false,f3 [(11,.H),(24,.T),(50,.F)] (rB k.n) zE h3,by simp_all⟩
   ·exact⟨true,f3 [(11,.H),(24,.T),(50,.T)] (rB k.n) zE h3,by simp_all⟩
  | _=>have:=congrArg eF h;rw [nC,nC] at this;cases this
 | .n2 k a c=>kN λ b h=>by
  cases b with
  | n2 l b d =>
   cases K2.inj h;obtain⟨r,h3,q3⟩:=JH a b;obtain⟨q,h4,q4⟩:=JH c d;cases r
   ·exact⟨false,f3 [(11,.H),(24,.T),(50,.F)] (rB k.n) zE h3,by simp_all⟩
   ·cases q
    ·exact⟨false,f4 [(11,.H),(24,.T),(50,.T),(50,.F)] (rB k.n) zE h3 h4,by simp_all⟩
    ·exact⟨true,f4 [(11,.H),(24,.T),(50,.T),(50,.T)] (rB k.n) zE h3 h4,by simp_all⟩
  | _=>have:=congrArg eF h;rw [nC,nC] at this;cases this
 | .n3 k s a c e=>kN λ b h=>by
  cases b with
  | n3 l u b d f =>
   cases K3.inj h;have h2:=rP s u;have e1:=HD s u;obtain⟨r,h3,q3⟩:=JH a b;obtain⟨q,h4,q4⟩:=JH c d;obtain⟨p,h5,q5⟩:=JH e f;cases e2:s.same u<;>rw [e2] at h2 e1
   ·exact⟨false,f2 [(11,.H),(24,.F)] (rB k.n) h2,by simp_all⟩
   cases r
   ·exact⟨false,f3 [(11,.H),(24,.T),(50,.F)] (rB k.n) h2 h3,by simp_all⟩
   cases q
   ·exact⟨false,f4 [(11,.H),(24,.T),(50,.T),(50,.F)] (rB k.n) h2 h3 h4,by simp_all⟩
   cases p
   ·exact⟨false,f5 [(11,.H),(24,.T),(50,.T),(50,.T),(50,.F)] (rB k.n) h2 h3 h4 h5,by simp_all⟩
   ·exact⟨true,f5 [(11,.H),(24,.T),(50,.T),(50,.T),(50,.T)] (rB k.n) h2 h3 h4 h5,by simp_all⟩
  | _=>have:=congrArg eF h;rw [nC,nC] at this;cases this
theorem rc (a b:Tm):∃ r,A 333 [a.p,b.p] (.bool r)/\(r=true↔a=b):=by
 obtain⟨r,h,q⟩:=JH a b;exact⟨r,f1 [(7,.r (.bool r))] h,q⟩
abbrev CA (s:Ty):List PV:=[num s.kd,.slice s.es,num (vC s.size 64)]
abbrev VA (g:List Ty):PV:=.slice (g.map CA)
theorem AS (s:Ty):(CA s).length=3:=rfl
def TR.nn:TR->Nat
 | .er _=>0
 | .ok s=>vC s.size 64
def TR.q (r:TR):PV:=.tuple [.agg [num r.k,.slice r.l,num r.nn],num r.n]
theorem mD (s:Ty) (h:s.size<=bA):A 146 [s.p] (.agg (CA s)):=f1 [(7,.U [num (vC s.size 64),num (VE s.size 64)])] (wN s h)
theorem FW (s u:Ty):∃ r,A 216 [.agg (CA s),.agg (CA u)] (.bool r)/\r=s.same u:=by
 cases e:tB (.ofNat (vC s.size 64)) (.ofNat (vC u.size 64))
 ·refine⟨false,f1 [(9,.H)] e,?_⟩
  cases h:s.same u with
  | false=>rfl
  | true=>rw [(HD s u).1 h,mI] at e;cases e
 ·exact⟨s.same u,f2 [(9,.G),(15,.r (.bool (s.same u)))] e (rP s u),rfl⟩
theorem xc (k:Bool) (s u:Ty) (h1:s.size<=64) (h2:u.size<=64):∃ r:TR,A 147 [num (bn k 3 4),.agg (CA s),.agg (CA u)] r.q/\r.sz<=64/\r = .fit (.two k s u):=by
 have e1:=(jN h1).1;have e2:=(jN h2).1;unfold CA;rw [e1,e2];have hb:=kA;have g1:aA (.ofNat (1+s.size))=true:=fB (by omega);have g2:aA (.ofNat (1+s.size+u.size))=true:=fB (by omega);by_cases h:1+s.size+u.size<=64
 ·have e:uA (.ofNat 64) (.ofNat (1+s.size+u.size))=false:=JA h;have e3:vC (1+s.size+u.size) 64=1+s.size+u.size:=(jN h).1;have e4:(TR.ok (.two k s u)).q = .tuple [.agg [num (bn k 3 4),.slice [s.c,u.c],num (1+s.size+u.size)],num 0]:=by
   show PV.tuple [.agg [num (Ty.two k s u).kd,.slice [s.c,u.c],num (vC (1+s.size+u.size) 64)],num 0]=_;rw [e3];cases k<;>rfl
  refine⟨.ok (.two k s u),?_,h,by unfold TR.fit;rw [if_pos (show (Ty.two k s u).size<=64 from h)]⟩;rw [e4];exact f3 [(11,.ok),(14,.ok),(16,.H)] g1 g2 e
 ·have e:uA (.ofNat 64) (.ofNat (1+s.size+u.size))=true:=cA (by omega);exact⟨.er 3,f3 [(11,.ok),(14,.ok),(16,.G)] g1 g2 e,Nat.zero_le _,by unfold TR.fit;rw [if_neg (show ¬(Ty.two k s u).size<=64 from h)]⟩
abbrev yN:List PV:=[num 0,.slice [],num 0]
theorem Vm (k:K0):∃ r:TR,A 148 [(Tm.n0 k).p,.agg (yN++yN++yN)] r.q/\r.sz<=64/\r=(Tm.n0 k).tyR []:=by
 cases k
 ·exact⟨.ok .nat,f1 [(37,.r (.agg (CA .nat)))] (mD .nat (by decide)),by decide,rfl⟩
 ·exact⟨.ok .list,f1 [(37,.r (.agg (CA .list)))] (mD .list (by decide)),by decide,rfl⟩
 ·exact⟨.ok .unit,f1 [(37,.r (.agg (CA .unit)))] (mD .unit (by decide)),by decide,rfl⟩
theorem Wm (k:K1) (a:Tm) (s:Ty) (h:s.size<=64):∃ r:TR,A 148 [(Tm.n1 k a).p,.agg (CA s++yN++yN)] r.q/\r.sz<=64/\r=pC k (.ok s):=by
 have hb:=kA;cases k
 ·cases s with
  | nat=>exact⟨.ok .nat,f1 [(37,.r (.agg (CA .nat)))] (mD .nat (by decide)),by decide,rfl⟩
  | two k s u=>cases k<;>exact⟨.er 6,f0 [],Nat.zero_le _,rfl⟩
  | _=>exact⟨.er 6,f0 [],Nat.zero_le _,rfl⟩
 ·cases s with
  | two k s u =>
   have h:1+s.size+u.size<=64:=h;cases k
   ·exact⟨.ok s,f1 [(110,.n [(11,.r (.agg (CA s)))])] (mD s (by omega)),by show s.size<=64;omega,rfl⟩
   ·exact⟨.er 6,f0 [],Nat.zero_le _,rfl⟩
  | _=>exact⟨.er 6,f0 [],Nat.zero_le _,rfl⟩
 ·cases s with
  | two k s u =>
   have h:1+s.size+u.size<=64:=h;cases k
   ·exact⟨.ok u,f1 [(113,.n [(11,.r (.agg (CA u)))])] (mD u (by omega)),by show u.size<=64;omega,rfl⟩
   ·exact⟨.er 6,f0 [],Nat.zero_le _,rfl⟩
  | _=>exact⟨.er 6,f0 [],Nat.zero_le _,rfl⟩
theorem Xm (k:K2) (a b:Tm) (s v:Ty) (h:s.size<=64) (h':v.size<=64):∃ r:TR,A 148 [(Tm.n2 k a b).p,.agg (CA s++CA v++yN)] r.q/\r.sz<=64/\r=uC k (.ok s) (.ok v):=by
 have hb:=kA;cases k
 ·cases s with
  | two k s u =>
   have h:1+s.size+u.size<=64:=h;cases k
   ·exact⟨.er 6,f0 [],Nat.zero_le _,rfl⟩
   ·obtain⟨b,g,hb'⟩:=FW s v;cases b
    ·exact⟨.er 6,f2 [(49,.n [(11,.r (.agg (CA s)))]),(52,.F)] (mD s (by omega)) g,Nat.zero_le _,by show _=bif s.same v then _ else _;rw [<- hb'];rfl⟩
    ·exact⟨.ok u,f3 [(49,.n [(11,.r (.agg (CA s)))]),(52,.T),(58,.n [(11,.r (.agg (CA u)))])] (mD s (by omega)) g (mD u (by omega)),by show u.size<=64;omega,by show _=bif s.same v then _ else _;rw [<- hb'];rfl⟩
  | _=>exact⟨.er 6,f0 [],Nat.zero_le _,rfl⟩
 ·cases s with
  | nat=>cases v with
   | list=>exact⟨.ok .list,f1 [(37,.r (.agg (CA .list)))] (mD .list (by decide)),by decide,rfl⟩
   | two k s u=>cases k<;>exact⟨.er 6,f0 [],Nat.zero_le _,rfl⟩
   | _=>exact⟨.er 6,f0 [],Nat.zero_le _,rfl⟩
  | two k s u=>cases k<;>exact⟨.er 6,f0 [],Nat.zero_le _,rfl⟩
  | _=>exact⟨.er 6,f0 [],Nat.zero_le _,rfl⟩
 ·obtain⟨r,g,g',g2⟩:=xc false s v h h'
  cases r with
  | er n=>exact⟨.er n,f1 [(97,.r (TR.er n).q)] g,g',g2⟩
  | ok w=>exact⟨.ok w,f1 [(97,.r (TR.ok w).q)] g,g',g2⟩
def VB:K3->Ty->Ty
 | .re,s => .two true .nat (.two true s s)
 | .fo,s => .two true .nat (.two true .list (.two true s s))
theorem Ym (k:K3) (s:Ty) (a b c:Tm):A 217 [(Tm.n3 k s a b c).p] (VB k s).p:=by
 cases k<;>exact f0 []
theorem Zm (k:K3) (z:Ty) (a b c:Tm) (s v w:Ty) (h:z.size<=64):∃ r:TR,A 148 [(Tm.n3 k z a b c).p,.agg (CA s++CA v++CA w)] r.q/\r.sz<=64/\r=bB k z (.ok s) (.ok v) (.ok w):=by
 have hb:=kA;have g1:=mD z (by omega);obtain⟨b1,g2,hs⟩:=FW s z;have g3:=Ym k z a b c;have g4:=rP v (VB k z);cases b1
 ·cases k<;>exact⟨.er 6,f2 [(64,.r (.agg (CA z))),(71,.F)] g1 g2,Nat.zero_le _,by simp only [bB,<- hs,cond_false]⟩
 cases e:v.same (VB k z)<;>rw [e] at g4
 ·cases k
  ·exact⟨.er 6,f4 [(64,.r (.agg (CA z))),(71,.T),(78,.r (VB .re z).p),(79,.F)] g1 g2 g3 g4,Nat.zero_le _,by simp only [VB] at e;simp only [bB,<- hs,e,cond_false,cond_true]⟩
  ·exact⟨.er 6,f4 [(64,.r (.agg (CA z))),(71,.T),(78,.r (VB .fo z).p),(79,.F)] g1 g2 g3 g4,Nat.zero_le _,by simp only [VB] at e;simp only [bB,<- hs,e,cond_false,cond_true]⟩
 ·have key:(∃ r:TR,A 148 [(Tm.n3 k z a b c).p,.agg (CA s++CA v++CA w)] r.q/\r.sz<=64/\r=bB k z (.ok s) (.ok v) (.ok w)):=by
   cases w with
   | two l w1 w2 =>
    cases l<;>cases k
    ·exact⟨.er 6,f4 [(64,.r (.agg (CA z))),(71,.T),(78,.r (VB .re z).p),(79,.T)] g1 g2 g3 g4,Nat.zero_le _,by simp only [VB] at e;simp only [bB,<- hs,e,cond_true];rfl⟩
    ·exact⟨.er 6,f4 [(64,.r (.agg (CA z))),(71,.T),(78,.r (VB .fo z).p),(79,.T)] g1 g2 g3 g4,Nat.zero_le _,by simp only [VB] at e;simp only [bB,<- hs,e,cond_true];rfl⟩
    ·exact⟨.er 6,f4 [(64,.r (.agg (CA z))),(71,.T),(78,.r (VB .re z).p),(79,.T)] g1 g2 g3 g4,Nat.zero_le _,by simp only [VB] at e;simp only [bB,<- hs,e,cond_true];rfl⟩
    ·exact⟨.er 6,f4 [(64,.r (.agg (CA z))),(71,.T),(78,.r (VB .fo z).p),(79,.T)] g1 g2 g3 g4,Nat.zero_le _,by simp only [VB] at e;simp only [bB,<- hs,e,cond_true];rfl⟩
   | nat =>
     cases k
     ·exact⟨.ok z,f4 [(64,.r (.agg (CA z))),(71,.T),(78,.r (VB .re z).p),(79,.T)] g1 g2 g3 g4,h,by simp only [VB] at e;simp only [bB,<- hs,e,cond_true];rfl⟩
     ·exact⟨.er 6,f4 [(64,.r (.agg (CA z))),(71,.T),(78,.r (VB .fo z).p),(79,.T)] g1 g2 g3 g4,Nat.zero_le _,by simp only [VB] at e;simp only [bB,<- hs,e,cond_true];rfl⟩
   | list =>
     cases k
     ·exact⟨.er 6,f4 [(64,.r (.agg (CA z))),(71,.T),(78,.r (VB .re z).p),(79,.T)] g1 g2 g3 g4,Nat.zero_le _,by simp only [VB] at e;simp only [bB,<- hs,e,cond_true];rfl⟩
     ·exact⟨.ok z,f4 [(64,.r (.agg (CA z))),(71,.T),(78,.r (VB .fo z).p),(79,.T)] g1 g2 g3 g4,h,by simp only [VB] at e;simp only [bB,<- hs,e,cond_true];rfl⟩
   | unit =>
    cases k
    ·exact⟨.er 6,f4 [(64,.r (.agg (CA z))),(71,.T),(78,.r (VB .re z).p),(79,.T)] g1 g2 g3 g4,Nat.zero_le _,by simp only [VB] at e;simp only [bB,<- hs,e,cond_true];rfl⟩
    ·exact⟨.er 6,f4 [(64,.r (.agg (CA z))),(71,.T),(78,.r (VB .fo z).p),(79,.T)] g1 g2 g3 g4,Nat.zero_le _,by simp only [VB] at e;simp only [bB,<- hs,e,cond_true];rfl⟩
  exact key
open Go.Lg
def Tm.sc:Nat->Tm->Prop
 | n,.v i=>i<n
 | n,.lam _ b=>b.sc (n+1)
 | _,.n0 _=>True
 | n,.n1 _ a=>a.sc n
 | n,.n2 _ a b=>a.sc n/\b.sc n
 | n,.n3 _ _ a b d=>a.sc n/\b.sc n/\d.sc n
theorem HA {a b:Bool} (h:(a && b)=true):a=true/\b=true:=by simpa using h
theorem EF {s:Ty} (h:Nat.beq s.chk 0=true):s.size<=64:=ckE_0.1 (Nat.eq_of_beq_eq_true h)
abbrev GW (g:List Ty) (t:Tm) (r:TR):Prop:=A 107 [VA g,t.p] r.q/\r.sz<=64/\(∀ s,r = .ok s->t.sc g.length)/\r=t.tyR g
theorem WJ {g:List Ty} {t:Tm} {n:Nat} (h:A 107 [VA g,t.p] (TR.er n).q) (e:TR.er n=t.tyR g):∃ r:TR,GW g t r:=⟨.er n,h,Nat.zero_le _,(λ _ h=>nomatch h),e⟩
theorem uN {g:List Ty} {t:Tm} {r:TR} (h:t.sc g.length) (h1:A 107 [VA g,t.p] r.q) (h2:r.sz<=64) (e:r=t.tyR g):∃ r:TR,GW g t r:=⟨r,h1,h2,λ _ _=>h,e⟩
theorem BI:∀ (t:Tm) (g:List Ty),(∀ s∈g,s.size<=64)->t.shp=true->g.length+t.cnt<=qA->∃ r:TR,GW g t r
 | .v i,g,hg,_,hl=>by
  have hm:=zA;by_cases h:i<g.length
  ·obtain⟨s,hx⟩:∃ s,g[g.length-1-i]? = some s:=⟨_,List.getElem?_eq_getElem (by omega)⟩;have h1:(!uA (.ofNat i) (.ofNat (g.map CA).length))=false:=by rw [cA (by simpa using h)];rfl
   have h2:aA (Int.ofNat (g.map CA).length-1)=true/\Int.ofNat (g.map CA).length-1 = .ofNat (g.length-1):=by
    have e:Int.ofNat (g.map CA).length-1 = .ofNat (g.length-1):=by simp;omega
    exact⟨by rw [e];exact rA (by omega),e⟩
   have h3:aA (Int.ofNat (g.length-1) - .ofNat i)=true/\Int.ofNat (g.length-1) - .ofNat i = .ofNat (g.length-1-i):=by
    have e:Int.ofNat (g.length-1) - .ofNat i = .ofNat (g.length-1-i):=by simp;omega
    exact⟨by rw [e];exact rA (by omega),e⟩
   exact uN (r:=.ok s) h (f4 [(21,.H),(26,.z (g.length-1)),(29,.z (g.length-1-i)),(30,.i (CA s))] h1 h2 h3 (kB hx AS)) (hg s (List.mem_of_getElem? hx)) (by show _=cB g i;unfold cB;rw [if_pos h,hx])
  ·have h1:(!uA (.ofNat i) (.ofNat (g.map CA).length))=true:=by rw [JA (by simpa using h)];rfl
   exact WJ (n:=5) (f1 [(21,.G)] h1) (by show _=cB g i;unfold cB;rw [if_neg h])
 | .lam s b,g,hg,hs,hl=>by
  have hm:=zA;have hb:=kA;have hl:g.length+(1+b.cnt)<=qA:=hl;obtain⟨hs1,hs2⟩:=HA hs;have hz:=EF hs1;have g1:=oF (g.map CA).length;have g2:=OE 3 40 AS (by decide) g s (by omega) (by simp only [maxLen];omega);obtain⟨r,q1,q2,q3,q0⟩:=BI b (g++[s]) (λ u hu=>by rcases List.mem_append.1 hu with h|h;exact hg u h;simp at h;subst h;exact hz) hs2 (by simp;omega);rw [show VA (g++[s]) = .slice (g.map CA++[CA s]) by simp [VA]] at q1
  cases r with
  | er n=>exact WJ (n:=n) (f4 [(37,.r (.agg (CA s))),(44,.ok),(47,.ok),(52,.r (TR.er n).q)] (mD s (by omega)) g1 g2 q1) (by show _=vP s (b.tyR (g++[s]));rw [<- q0];rfl)
  | ok u =>
   have hsc:(Tm.lam s b).sc g.length:=by have:=q3 u rfl;simpa [Tm.sc] using this
   obtain⟨r,q4,q5,q6⟩:=xc true s u hz q2;exact uN hsc (f5 [(37,.r (.agg (CA s))),(44,.ok),(47,.ok),(52,.r (TR.ok u).q),(61,.r r.q)] (mD s (by omega)) g1 g2 q1 q4) q5 (by show _=vP s (b.tyR (g++[s]));rw [<- q0];exact q6)
 | .n0 k,g,hg,hs,hl=>by
  obtain⟨r,q4,q5,q6⟩:=Vm k;cases k<;>exact uN trivial (f1 [(88,.r r.q)] q4) q5 q6
 | .n1 k a,g,hg,hs,hl=>by
  have hl:g.length+(1+a.cnt)<=qA:=hl;obtain⟨r,q1,q2,q3,q0⟩:=BI a g hg hs (by omega)
  cases r with
  | er n=>cases k<;>exact WJ (n:=n) (f1 [(75,.r (TR.er n).q)] q1) (by show _=pC _ (a.tyR g);rw [<- q0];rfl)
  | ok u =>
   have hsc:(Tm.n1 k a).sc g.length:=q3 u rfl;obtain⟨r,q4,q5,q6⟩:=Wm k a u q2;cases k<;>exact uN hsc (f2 [(75,.r (TR.ok u).q),(88,.r r.q)] q1 q4) q5 (by show _=pC _ (a.tyR g);rw [<- q0];exact q6)
 | .n2 k a b,g,hg,hs,hl=>by
  have hl:g.length+(1+a.cnt+b.cnt)<=qA:=hl;obtain⟨hs1,hs2⟩:=HA hs;obtain⟨r,q1,q2,q3,q0⟩:=BI a g hg hs1 (by omega)
  cases r with
  | er n=>cases k<;>exact WJ (n:=n) (f1 [(75,.r (TR.er n).q)] q1) (by show _=uC _ (a.tyR g) (b.tyR g);rw [<- q0];rfl)
  | ok u =>
   obtain⟨r,p1,p2,p3,p0⟩:=BI b g hg hs2 (by omega)
   cases r with
   | er n=>cases k<;>exact WJ (n:=n) (f2 [(75,.r (TR.ok u).q),(75,.r (TR.er n).q)] q1 p1) (by show _=uC _ (a.tyR g) (b.tyR g);rw [<- q0,<- p0];rfl)
   | ok v =>
    have hsc:(Tm.n2 k a b).sc g.length:=⟨q3 u rfl,p3 v rfl⟩;obtain⟨r,q4,q5,q6⟩:=Xm k a b u v q2 p2;cases k<;>exact uN hsc (f3 [(75,.r (TR.ok u).q),(75,.r (TR.ok v).q),(88,.r r.q)] q1 p1 q4) q5 (by show _=uC _ (a.tyR g) (b.tyR g);rw [<- q0,<- p0];exact q6)
 | .n3 k s a b c,g,hg,hs,hl=>by
  have hl:g.length+(1+a.cnt+b.cnt+c.cnt)<=qA:=hl;obtain⟨hs0,hs⟩:=HA hs;obtain⟨hs1,hs⟩:=HA hs;obtain⟨hs2,hs3⟩:=HA hs;obtain⟨r,q1,q2,q3,q0⟩:=BI a g hg hs1 (by omega)
  cases r with
  | er n=>cases k<;>exact WJ (n:=n) (f1 [(75,.r (TR.er n).q)] q1) (by show _=bB _ s (a.tyR g) (b.tyR g) (c.tyR g);rw [<- q0];rfl)
  | ok u =>
   obtain⟨r,p1,p2,p3,p0⟩:=BI b g hg hs2 (by omega)
   cases r with
   | er n=>cases k<;>exact WJ (n:=n) (f2 [(75,.r (TR.ok u).q),(75,.r (TR.er n).q)] q1 p1) (by show _=bB _ s (a.tyR g) (b.tyR g) (c.tyR g);rw [<- q0,<- p0];rfl)
   | ok v =>
    obtain⟨r,o1,o2,o3,o0⟩:=BI c g hg hs3 (by omega)
    cases r with
    | er n=>cases k<;>exact WJ (n:=n) (f3 [(75,.r (TR.ok u).q),(75,.r (TR.ok v).q),(75,.r (TR.er n).q)] q1 p1 o1) (by show _=bB _ s (a.tyR g) (b.tyR g) (c.tyR g);rw [<- q0,<- p0,<- o0];rfl)
    | ok w =>
     have hsc:(Tm.n3 k s a b c).sc g.length:=⟨q3 u rfl,p3 v rfl,o3 w rfl⟩;obtain⟨r,q4,q5,q6⟩:=Zm k s a b c u v w (EF hs0);cases k<;>exact uN hsc (f4 [(75,.r (TR.ok u).q),(75,.r (TR.ok v).q),(75,.r (TR.ok w).q),(88,.r r.q)] q1 p1 o1 q4) q5 (by show _=bB _ s (a.tyR g) (b.tyR g) (c.tyR g);rw [<- q0,<- p0,<- o0];exact q6)
theorem HW (g:List Ty) (t:Tm) (n:Nat) (hg:∀ s∈g,s.size<=64) (h1:t.shp=true) (h2:g.length+t.cnt<=qA):∃ e,A 249 [VA g,t.p,num n] (num e)/\(e=0->t.sc g.length)/\(∀ s,t.tyR g = .ok s->s.kd=n->e=0):=by
 obtain⟨r,q1,q2,q3,q4⟩:=BI t g hg h1 h2
 cases r with
 | er e=>exact⟨e+1,f1 [(12,.r (TR.er e).q)] q1,(λ h=>nomatch h),λ s h=>by rw [<- q4] at h;cases h⟩
 | ok s =>
  by_cases c:s.kd=n
  ·exact⟨0,f2 [(12,.r (TR.ok s).q),(20,.n [(9,.G)])] q1 (show tB (.ofNat s.kd) (.ofNat n)=true by rw [c];exact mI n),(λ _=>q3 s rfl),λ _ _ _=>rfl⟩
  ·exact⟨7,f2 [(12,.r (TR.ok s).q),(20,.n [(9,.H)])] q1 (sG c),(λ h=>nomatch h),λ u h hk=>by rw [<- q4] at h;cases h;exact absurd hk c⟩
theorem IW (g:List Ty) (t:Tm) (hg:∀ s∈g,s.size<=64) (h1:t.shp=true) (h2:g.length+t.cnt<=qA):∃ e,A 251 [VA g,t.p] (num e)/\(e=0->t.sc g.length)/\(t.tyR g = .ok .nat->e=0):=by
 obtain⟨e,q1,q2,q3⟩:=HW g t 1 hg h1 h2;exact⟨e,f1 [(7,.N e)] q1,q2,λ h=>q3 _ h rfl⟩
def Fm.frm:Fm->Bool
 | .q _ s _=>Nat.beq s.chk 0
 | _=>true
theorem JW (f:Fm) (h:f.tsz<=bA):A 272 [f.p] (.bool f.frm):=by
 cases f with
 | eq a b=>exact f1 [(31,.T)] jH
 | bin k f g=>cases k<;>exact f1 [(31,.T)] jH
 | q k s f =>
  have h:max s.size f.tsz<=bA:=h;have h1:=wN s (by omega);show A 272 [(Fm.q k s f).p] (.bool (Nat.beq s.chk 0));rcases rG s with e|e<;>rw [vH] at e<;>rw [e] at h1<;>rw [vH,e]
  ·cases k<;>exact f1 [(24,.U [num (vC s.size 64),num 0])] h1
  ·cases k<;>exact f1 [(24,.U [num (vC s.size 64),num 4])] h1
def Fm.nd (f:Fm):Nat:=match f.shp with
 | true=>f.cnt
 | false=>0
theorem CS:∀ f:Fm,f.tsz<=bA->f.cnt<=bA->A 210 [f.p] (.tuple [num f.nd,.bool f.shp])
 | .eq a b,h,hc=>by
  have h:max a.tsz b.tsz<=bA:=h;have hc:1+a.cnt+b.cnt<=bA:=hc;have h1:=IH a (by omega) (by omega);have h2:=IH b (by omega) (by omega);have hc1:aA (.ofNat (1+a.cnt))=true:=fB (by omega);have h0:=JW (.eq a b) h;unfold Fm.nd Tm.nd at *
  show A 210 [(Fm.eq a b).p] (.tuple [num (match a.shp && b.shp with|true=>1+a.cnt+b.cnt|false=>0),.bool (a.shp && b.shp)]);cases e1:a.shp<;>rw [e1] at h1
  ·exact f2 [(14,.T),(25,.U [num 0,.bool false])] h0 h1
  ·cases e2:b.shp<;>rw [e2] at h2
   ·exact f4 [(14,.T),(25,.U [num a.cnt,.bool true]),(32,.ok),(25,.U [num 0,.bool false])] h0 h1 hc1 h2
   ·exact f5 [(14,.T),(25,.U [num a.cnt,.bool true]),(32,.ok),(25,.U [num b.cnt,.bool true]),(32,.ok)] h0 h1 hc1 h2 (fB hc)
 | .bin k a b,h,hc=>by
  have h:max a.tsz b.tsz<=bA:=h;have hc:1+a.cnt+b.cnt<=bA:=hc;have h1:=CS a (by omega) (by omega);have h2:=CS b (by omega) (by omega);have hc1:aA (.ofNat (1+a.cnt))=true:=fB (by omega);have h0:=JW (.bin k a b) h;unfold Fm.nd at *
  show A 210 [(Fm.bin k a b).p] (.tuple [num (match a.shp && b.shp with|true=>1+a.cnt+b.cnt|false=>0),.bool (a.shp && b.shp)]);cases e1:a.shp<;>rw [e1] at h1
  ·cases k<;>exact f2 [(14,.T),(43,.U [num 0,.bool false])] h0 h1
  ·cases e2:b.shp<;>rw [e2] at h2
   ·cases k<;>exact f4 [(14,.T),(43,.U [num a.cnt,.bool true]),(50,.ok),(43,.U [num 0,.bool false])] h0 h1 hc1 h2
   ·cases k<;>exact f5 [(14,.T),(43,.U [num a.cnt,.bool true]),(50,.ok),(43,.U [num b.cnt,.bool true]),(50,.ok)] h0 h1 hc1 h2 (fB hc)
 | .q k s a,h,hc=>by
  have h0:A 272 [(Fm.q k s a).p] (.bool (Nat.beq s.chk 0)):=JW (.q k s a) h;have h:max s.size a.tsz<=bA:=h;have hc:1+a.cnt<=bA:=hc;have h1:=CS a (by omega) (by omega);unfold Fm.nd at *
  show A 210 [(Fm.q k s a).p] (.tuple [num (match Nat.beq s.chk 0 && a.shp with|true=>1+a.cnt|false=>0),.bool (Nat.beq s.chk 0 && a.shp)]);cases e0:Nat.beq s.chk 0<;>rw [e0] at h0
  ·cases k<;>exact f1 [(14,.F)] h0
  ·cases e1:a.shp<;>rw [e1] at h1
   ·cases k<;>exact f2 [(14,.T),(43,.U [num 0,.bool false])] h0 h1
   ·cases k<;>exact f3 [(14,.T),(43,.U [num a.cnt,.bool true]),(50,.ok)] h0 h1 (fB hc)
def Fm.ckn (f:Fm):Nat:=match f.chk with
 | 0=>f.cnt
 | _=>0
theorem DS (f:Fm) (h1:f.tsz<=bA) (h2:f.cnt<=bA):A 142 [f.p] (.tuple [num f.ckn,num f.chk]):=by
 have h3:=CS f h1 h2;unfold Fm.nd at h3;unfold Fm.ckn Fm.chk;cases e:f.shp<;>rw [e] at h3
 ·exact f1 [(8,.U [num 0,.bool false])] h3
 ·cases e2:uA (.ofNat 4096) (.ofNat f.cnt)
  ·exact f2 [(8,.U [num f.cnt,.bool true]),(16,.H)] h3 e2
  ·exact f2 [(8,.U [num f.cnt,.bool true]),(16,.G)] h3 e2
theorem Fm.ckn0 {f:Fm} (h:f.chk=0):f.ckn=f.cnt:=by unfold Fm.ckn;split<;>simp_all
theorem a89 (f:Fm) (h1:f.tsz<=bA) (h2:f.cnt<=bA):A 102 [f.p] (num f.chk):=f1 [(7,.U [num f.ckn,num f.chk])] (DS f h1 h2)
theorem a296 (f:Fm) (h1:f.tsz<=bA) (h2:f.cnt<=bA):A 298 [f.p] (.tuple [num f.ckn,num f.chk]):=f1 [(5,.U [num f.ckn,num f.chk])] (DS f h1 h2)
open Go.Lg
def Fm.sc:Nat->Fm->Prop
 | n,.eq a b=>a.sc n/\b.sc n
 | n,.bin _ f g=>f.sc n/\g.sc n
 | n,.q _ _ f=>f.sc (n+1)
theorem zn:A 106 [AA []] (VA []):=f0 []
theorem jn (s:Ty) (h:s.size<=bA):A 106 [AA [s]] (VA [s]):=f1 [(14,.r (.agg (CA s)))] (mD s h)
theorem vn (s u:Ty) (h:s.size<=bA) (h':u.size<=bA):A 106 [AA [s,u]] (VA [s,u]):=f2 [(14,.r (.agg (CA s))),(14,.r (.agg (CA u)))] (mD s h) (mD u h')
theorem tP (g:List Ty) (s:Ty) (hg:g.length<=qA) (h:s.size<=bA):A 248 [VA g,AA [s]] (VA (g++[s])):=by
 have hm:=zA;have g1:=oF (g.map CA).length;have g2:=OE 3 40 AS (by decide) g s (by omega) (by simp only [maxLen];omega);rw [show VA (g++[s]) = .slice (g.map CA++[CA s]) by simp [VA]];exact f3 [(10,.ok),(12,.r (VA [s])),(13,.ok)] g1 (jn s h) g2
theorem yn (g:List Ty) (s u:Ty) (hg:g.length<=qA) (h:s.size<=bA) (h':u.size<=bA):A 248 [VA g,AA [s,u]] (VA (g++[s,u])):=by
 have hm:=zA;have g1:=oF (g.map CA).length;have g2:=fc 3 40 AS (by decide) g s u (by omega) (by simp only [maxLen];omega);rw [show VA (g++[s,u]) = .slice (g.map CA++[CA s,CA u]) by simp [VA]];exact f3 [(10,.ok),(12,.r (VA [s,u])),(13,.ok)] g1 (vn s u h h') g2
theorem FL:∀ (f:Fm) (g:List Ty),(∀ s∈g,s.size<=64)->f.shp=true->g.length+f.cnt<=qA->∃ e,A 231 [VA g,f.p] (num e)/\(e=0->f.sc g.length)/\(f.ty g->e=0)
 | .eq a b,g,hg,hs,hl=>by
  have hl:g.length+(1+a.cnt+b.cnt)<=qA:=hl;obtain⟨hs1,hs2⟩:=HA hs;obtain⟨e,q1,q2,q3⟩:=IW g a hg hs1 (by omega)
  cases e with
  | succ n=>exact⟨n+1,f1 [(50,.N (n+1))] q1,(λ h=>nomatch h),λ h=>absurd (q3 h.1.2) (Nat.succ_ne_zero _)⟩
  | zero =>
   obtain⟨e,p1,p2,p3⟩:=IW g b hg hs2 (by omega)
   cases e with
   | succ n=>exact⟨n+1,f2 [(50,.N 0),(50,.N (n+1))] q1 p1,(λ h=>nomatch h),λ h=>absurd (p3 h.2.2) (Nat.succ_ne_zero _)⟩
   | zero=>exact⟨0,f2 [(50,.N 0),(50,.N 0)] q1 p1,(λ _=>⟨q2 rfl,p2 rfl⟩),λ _=>rfl⟩
 | .bin k a b,g,hg,hs,hl=>by
  have hl:g.length+(1+a.cnt+b.cnt)<=qA:=hl;obtain⟨hs1,hs2⟩:=HA hs;obtain⟨e,q1,q2,q3⟩:=FL a g hg hs1 (by omega)
  cases e with
  | succ n=>cases k<;>exact⟨n+1,f1 [(36,.N (n+1))] q1,(λ h=>nomatch h),λ h=>absurd (q3 h.1) (Nat.succ_ne_zero _)⟩
  | zero =>
   obtain⟨e,p1,p2,p3⟩:=FL b g hg hs2 (by omega)
   cases e with
   | succ n=>cases k<;>exact⟨n+1,f2 [(36,.N 0),(36,.N (n+1))] q1 p1,(λ h=>nomatch h),λ h=>absurd (p3 h.2) (Nat.succ_ne_zero _)⟩
   | zero=>cases k<;>exact⟨0,f2 [(36,.N 0),(36,.N 0)] q1 p1,(λ _=>⟨q2 rfl,p2 rfl⟩),λ _=>rfl⟩
 | .q k s a,g,hg,hs,hl=>by
  have hm:=zA;have hb:=kA;have hl:g.length+(1+a.cnt)<=qA:=hl;obtain⟨hs1,hs2⟩:=HA hs;have hz:=EF hs1;have g1:=tP g s (by omega) (by omega);obtain⟨e,q1,q2,q3⟩:=FL a (g++[s]) (λ u hu=>by rcases List.mem_append.1 hu with h|h;exact hg u h;simp at h;subst h;exact hz) hs2 (by simp;omega)
  cases e with
  | succ n=>cases k<;>exact⟨n+1,f2 [(26,.r (VA (g++[s]))),(36,.N (n+1))] g1 q1,(λ h=>nomatch h),λ h=>absurd (q3 h) (Nat.succ_ne_zero _)⟩
  | zero=>cases k<;>exact⟨0,f2 [(26,.r (VA (g++[s]))),(36,.N 0)] g1 q1,(λ _=>by have:=q2 rfl;simpa [Fm.sc] using this),λ _=>rfl⟩
theorem Ac {g:List Ty} (hl:g.length<=16):∀ (r:List Ty) (k:Nat),g.drop k=r->(∀ t∈r,t.size<=bA) ->
  (pG r=0/\Lp 104 0 0 (st [(9,.pv (AA g)),(10,.pv (num (g.map Ty.c).length)),(11,.pv (num k))] [] 0 []) (.exit 0) (st [] [] 0 []))\/pG r=4/\Lp 104 0 0 (st [(9,.pv (AA g)),(10,.pv (num (g.map Ty.c).length)),(11,.pv (num k))] [] 0 []) .ret (st [(2,.pv (num 4))] [] 0 [])
 | [],k,h,_ => .inl ⟨rfl,x1 [(12,.H)] (kp []) (show uA (.ofNat k) (.ofNat (g.map Ty.c).length)=false from JA (by simpa using nG h))⟩
 | t::r,k,h,hb=>by
  obtain⟨h1,h2,h3⟩:=mG h;have hc:=EW t (hb t (by simp));have hlt:uA (.ofNat k) (.ofNat (g.map Ty.c).length)=true:=cA (by simpa using h2);unfold pG;rcases rG t with e|e<;>rw [vH] at e<;>rw [e] at hc<;>rw [vH,e]
  ·rcases Ac hl r (k+1) h3 (λ t ht=>hb t (by simp [ht])) with ⟨e1,ih⟩|⟨e1,ih⟩
   ·exact .inl ⟨e1,n5 [(12,.G),(13,.i t.c),(16,.N 0),(20,.ok)] (kp [9,10,11]) hlt (kB h1 Ty.c_len) hc (rA (show k+1<=_ by omega)) ih⟩
   ·exact .inr ⟨e1,n5 [(12,.G),(13,.i t.c),(16,.N 0),(20,.ok)] (kp [9,10,11]) hlt (kB h1 Ty.c_len) hc (rA (show k+1<=_ by omega)) ih⟩
  ·exact .inr ⟨rfl,x3 [(12,.G),(13,.i t.c),(16,.N 4)] (kp [2]) hlt (kB h1 Ty.c_len) hc⟩
theorem dn (g:List Ty) (hb:∀ t∈g,t.size<=bA):A 104 [AA g] (num (XG g)):=by
 unfold XG;cases e:uA (.ofNat 16) (.ofNat (g.map Ty.c).length)
 ·have hl:g.length<=16:=by
   rw [KB] at e;simp at e;omega
  rcases Ac hl g 0 rfl hb with ⟨h1,h2⟩|⟨h1,h2⟩<;>rw [h1]
  ·exact f2 [(8,.H),(100004,.l (kp [9,10,11]) (.exit 0) (st [] [] 0 []))] e h2
  ·exact f2 [(8,.H),(100004,.l (kp [9,10,11]) .ret (st [(2,.pv (num 4))] [] 0 []))] e h2
 ·exact f1 [(8,.G)] e
theorem Bc:∀ {g:List Ty},pG g=0->∀ s∈g,s.size<=64
 | [],_,s,h=>by cases h
 | t::r,e,s,h=>by
  unfold pG at e;split at e
  ·rename_i e1;rcases List.mem_cons.1 h with rfl|h
   ·exact Go.Proofs.YtnkoaepelgbhfaaGreatDoor.chk0 e1
   ·exact Bc e s h
  ·cases e
theorem ln {g:List Ty} (e:XG g=0):g.length<=16 /\ ∀ s∈g,s.size<=64:=by
 unfold XG at e;split at e
 ·cases e
 ·rename_i e1;rw [KB] at e1;simp at e1;exact⟨by omega,Bc e⟩
theorem GL {A:List (List PV)} {v sz ty m:Nat} {c:List PV} (h0:0<sz) (h1:gC sz [xA c]=true) (h2:lC [xA c]=true) (h3:A.length+1<=maxLen) (h4:(A.length+1) * m<=140737488355328) :
  (Nat.beq v v && Nat.ble A.length (vA A).length && Nat.beq ty ty && Nat.beq sz sz && Nat.blt 0 sz && gC sz [xA c] && lC [xA c] && Nat.ble (A.length+[xA c].length) maxLen && Nat.ble ((A.length+[xA c].length) * m) 140737488355328)=true :=
 dP (pvE_len A) h0 h1 h2 h3 h4
abbrev Cc (g:List Ty) (k:Nat) (x:V):List (Nat × V):=[(3,x),(6,.pv (AA g)),(7,.pv (num (g.map Ty.c).length)),(8,.pv (num k))]
abbrev Dc:Kp:=⟨[3,6,7,8],[1],2,[]⟩
theorem Ec {g:List Ty} (hl:g.length<=qA):∀ (r:List Ty) (k v:Nat) (A:List (List PV)),g.drop k=r->(∀ t∈r,t.size<=bA)->A.length=k ->
  ∃ v',Lp 106 0 0 (st (Cc g k (.arr 1 v A.length)) [(1,.arr v 3 146 (vA A))] 2 []) (.exit 0) (st [(3,.arr 1 v' (A.length+r.length))] [(1,.arr v' 3 146 (vA (A++r.map CA)))] 2 [])
 | [],k,v,A,h,hb,hA=>by
  have e:uA (.ofNat k) (.ofNat (g.map Ty.c).length)=false:=JA (by simpa using nG h);simp only [List.map_nil,List.append_nil,List.length_nil,Nat.add_zero];exact⟨v,y1 [(9,.H)] ⟨[3],[1],2,[]⟩ e (QC A)⟩
 | t::r,k,v,A,h,hb,hA=>by
  have hm:=zA;obtain⟨d1,d2,d3⟩:=mG h;have e:uA (.ofNat k) (.ofNat (g.map Ty.c).length)=true:=cA (by simpa using d2);have g3:=rA (show k+1<=_ by omega);have g5:=GL (A:=A) (v:=v) (ty:=146) (m:=40) (c:=CA t) (show 0<3 by decide) rfl rfl (by simp only [maxLen];omega) (by omega);obtain⟨v',ih⟩:=Ec hl r (k+1) (v+1) (A++[CA t]) d3 (λ u hu=>hb u (by simp [hu])) (by simp [hA]);rw [xI,show (A++[CA t]).length=A.length+1 by simp,show A.length+1+r.length=A.length+(t::r).length by simp;omega,List.append_assoc] at ih;exact⟨v',n7 [(9,.G),(10,.i t.c),(14,.r (.agg (CA t))),(16,.ok),(17,.ok)] Dc e (kB d1 Ty.c_len) (mD t (hb t (by simp))) g5 g3 (DF A (CA t)) ih⟩
theorem mn (g:List Ty) (hl:g.length<=qA) (hb:∀ t∈g,t.size<=bA):A 106 [AA g] (VA g):=by
 cases g with
 | nil=>exact zn
 | cons t r =>
  have e:uA (.ofNat 0) (.ofNat ((t::r).map Ty.c).length)=true:=cA (by simp);obtain⟨v,h⟩:=Ec hl r 1 1 [CA t] rfl (λ u hu=>hb u (by simp [hu])) rfl;have h2:=LoopIs.fz (by simp) h 1 (ver:=v) (sz:=3) (ty:=146) (ps:=(t::r).map CA) rfl (by kernel_rfl);simp (decide:=true) only [rE,FD,cC,ZB,BC,List.map,tD,and_self,↓reduceIte,List.take_of_length_le (show (CA t::r.map CA).length<=[CA t].length+r.length by simp;omega)] at h2;have h3:Lp 106 0 0 (st (Cc (t::r) 0 (.pv .nils)) [] 0 []) (.exit 0) (st [(3,.pv (VA (t::r)))] [] 2 []) :=
   n6 [(9,.G),(10,.i t.c),(14,.r (.agg (CA t))),(17,.ok)] Dc e (kB (g:=t::r) (k:=0) rfl Ty.c_len) (mD t (hb t (by simp))) (rA (show 0+1<=_ by omega)) (DF [] (CA t)) h2
  exact f1 [(100003,.l ⟨[3,6,7,8],[],0,[]⟩ (.exit 0) (st [(3,.pv (VA (t::r)))] [] 2 []))] h3
open Go.Lg
theorem rn {x:Int} {a:Nat} (h:(a:Int)<=x):(!uA x (.ofNat a))=true:=by rw [KB];simp;exact h
theorem tn {x:Int} {a:Nat} (h:x<(a:Int)):(!uA x (.ofNat a))=false:=by rw [KB];simp;exact h
theorem ES {x:Int} {a:Nat} (h:x=(a:Int)):tB x (.ofNat a)=true:=by rw [cH];simp;exact h
theorem Fc {x:Int} {a:Nat} (h:x≠(a:Int)):tB x (.ofNat a)=false:=by rw [cH];simp;exact h
theorem xn {x:Int} {a:Nat} (h:(a:Int)<x):uA (.ofNat a) x=true:=by rw [KB];simp;exact h
theorem An {x:Int} {a:Nat} (h:x<=(a:Int)):uA (.ofNat a) x=false:=by rw [KB];simp;exact h
theorem bN {i d:Nat} (h:i<=bA) (h':d<=bA):aA (Int.ofNat i - .ofNat d)=true/\Int.ofNat i - .ofNat d=Int.ofNat i - .ofNat d:=⟨(qH h h' rfl).1,rfl⟩
theorem iA {a b:Nat} (h:a+b<=bA):aA (Int.ofNat a + .ofNat b)=true/\Int.ofNat a + .ofNat b = .ofNat (a+b):=⟨fB (n:=a+b) h,rfl⟩
abbrev Gc (c:V) (own:List (Nat × Ob)):List (Nat × Ob):=(5,.box [c])::(7,.box [.fn 339 [.loc 5 0,.loc 7 0]])::own
abbrev Hc (a b:Nat):List (Nat × Ob):=Gc (.fn 322 [.loc 1 0,.loc 2 0]) [(1,bx [num a]),(2,bx [num b])]
theorem XJ (a z:Nat) (ha:a<=qA) (hz:z<=2 * qA):∀ (t:Tm) (d:Nat),d+t.cnt<=qA->t.mx<=qA * qA->O 339 [.pv t.p,.pv (num d),.loc 5 0,.loc 7 0] (Hc a z) (.pv (t.sh (a+d) (.ofNat z)).p) (Hc a z)
 | .v i,d,hd,hm=>by
  have hmm:=zA;have hi:i<=qA * qA:=hm;have hd:d+1<=qA:=hd;rw [hmm] at hi;have hb:=kA;have g1:=bN (i:=i) (d:=d) (by omega) (by omega);by_cases h:a+d<=i
  ·have e:(Tm.v i).sh (a+d) (.ofNat z) = .v (i+z):=by simp only [Tm.sh,if_pos h];rfl
   rw [e];have g2:(!uA (Int.ofNat i - .ofNat d) (.ofNat a))=true:=rn (by simp;omega);have g3:=iA (a:=i) (b:=z) (by omega);exact o3 8 [(17,.n [(9,.y (Int.ofNat i - .ofNat d)),(11,.G),(14,.z (i+z))])] g1 g2 g3
  ·have e:(Tm.v i).sh (a+d) (.ofNat z) = .v i:=by simp only [Tm.sh,if_neg h]
   rw [e];have g2:(!uA (Int.ofNat i - .ofNat d) (.ofNat a))=false:=tn (by simp;omega);exact o2 8 [(17,.n [(9,.y (Int.ofNat i - .ofNat d)),(11,.H)])] g1 g2
 | .lam s b,d,hd,hm=>by
  have hd:d+(1+b.cnt)<=qA:=hd;have hmm:=zA;have hb:=kA;have g:=XJ a z ha hz b (d+1) (by omega) hm;exact o3 8 [(24,.r s.p),(30,.z (d+1)),(43,.o [5,7,1,2] [] (.pv (b.sh (a+(d+1)) (.ofNat z)).p))] (UE s) (iA (a:=d) (b:=1) (by omega)) g
 | .n0 k,d,_,_=>by cases k<;>exact o1 8 [(24,.r zt)] KC
 | .n1 k b,d,hd,hm=>by
  have hd:d+(1+b.cnt)<=qA:=hd;have g:=XJ a z ha hz b d (by omega) hm;cases k<;>exact o2 8 [(24,.r zt),(43,.o [5,7,1,2] [] (.pv (b.sh (a+d) (.ofNat z)).p))] KC g
 | .n2 k b c,d,hd,hm=>by
  have hd:d+(1+b.cnt+c.cnt)<=qA:=hd;have hm:max b.mx c.mx<=qA * qA:=hm;have g:=XJ a z ha hz b d (by omega) (by omega);have g':=XJ a z ha hz c d (by omega) (by omega);cases k<;>exact o3 8 [(24,.r zt),(43,.o [5,7,1,2] [] (.pv (b.sh (a+d) (.ofNat z)).p)),(43,.o [5,7,1,2] [] (.pv (c.sh (a+d) (.ofNat z)).p))] KC g g'
 | .n3 k s b c e,d,hd,hm=>by
  have hd:d+(1+b.cnt+c.cnt+e.cnt)<=qA:=hd;have hm:max b.mx (max c.mx e.mx)<=qA * qA:=hm;have g:=XJ a z ha hz b d (by omega) (by omega);have g':=XJ a z ha hz c d (by omega) (by omega);have g'':=XJ a z ha hz e d (by omega) (by omega);cases k<;>exact o4 8 [(24,.r s.p),(43,.o [5,7,1,2] [] (.pv (b.sh (a+d) (.ofNat z)).p)),(43,.o [5,7,1,2] [] (.pv (c.sh (a+d) (.ofNat z)).p)),(43,.o [5,7,1,2] [] (.pv (e.sh (a+d) (.ofNat z)).p))] (UE s) g g' g''
theorem KW (t:Tm) (a z:Nat) (ha:a<=qA) (hz:z<=2 * qA) (h1:t.cnt<=qA) (h2:t.mx<=qA * qA):A 295 [t.p,num a,num z] (t.sh a (.ofNat z)).p :=
 f1 [(9,.n [(9,.o [5,7,1,2] [] (.pv (t.sh a (.ofNat z)).p))])] (XJ a z ha hz t 0 (by omega) h2)
structure Sx where
 k:Nat
 i:Nat
 tk:Nat
 te:List (List PV)
 es:List (List PV)
abbrev Sx.c (s:Sx):List PV:=[num s.k,num s.i,num s.tk,.slice s.te,.slice s.es]
abbrev Tm.x (t:Tm):Sx:=⟨t.kd,t.ix,t.tk,t.te,t.es⟩
abbrev Sx.z:Sx:=⟨0,0,0,[],[]⟩
abbrev Ic (a:Nat) (s:Sx):List (Nat × Ob):=Gc (.fn 334 [.loc 1 0,.loc 2 0]) [(1,bx [num a]),(2,bx s.c)]
def Lf (s:Sx) (S:Tm):Prop:=∀ n,n<=2 * qA->A 295 [.agg s.c,num 0,num n] (S.sh 0 (.ofNat n)).p
theorem YJ (a:Nat) (s:Sx) (S:Tm) (ha:a<=qA):∀ (t:Tm) (d:Nat),(Lf s S\/t.occ (a+d)=0)->d+t.cnt<=qA->t.mx<=qA * qA->O 339 [.pv t.p,.pv (num d),.loc 5 0,.loc 7 0] (Ic a s) (.pv (t.put a S d).p) (Ic a s)
 | .v i,d,hS,hd,hm=>by
  have hmm:=zA;have hi:i<=qA * qA:=hm;have hd:d+1<=qA:=hd;rw [hmm] at hi;have hb:=kA;have g1:=bN (i:=i) (d:=d) (by omega) (by omega);by_cases h:i=a+d
  ·have e:(Tm.v i).put a S d=S.sh 0 (.ofNat (a+d)):=by simp only [Tm.put,if_pos h]
   rw [e];have g2:tB (Int.ofNat i - .ofNat d) (.ofNat a)=true:=ES (by simp;omega);have g3:=iA (a:=a) (b:=d) (by omega);rcases hS with hS|hS
   ·exact o4 8 [(17,.n [(10,.y (Int.ofNat i - .ofNat d)),(14,.G),(18,.z (a+d)),(19,.r (S.sh 0 (.ofNat (a+d))).p)])] g1 g2 g3 (hS (a+d) (by omega))
   ·simp [Tm.occ,h] at hS
  ·have g2:tB (Int.ofNat i - .ofNat d) (.ofNat a)=false:=Fc (by simp;omega);by_cases h':a+d<i
   ·have e:(Tm.v i).put a S d = .v (i-1):=by simp only [Tm.put,if_neg h,if_pos h']
    rw [e];have g3:uA (.ofNat a) (Int.ofNat i - .ofNat d)=true:=xn (by simp;omega);have g4:=uB (a:=i) (by omega) (by omega);exact o4 8 [(17,.n [(10,.y (Int.ofNat i - .ofNat d)),(14,.H),(23,.G),(25,.z (i-1))])] g1 g2 g3 g4
   ·have e:(Tm.v i).put a S d = .v i:=by simp only [Tm.put,if_neg h,if_neg h']
    rw [e];have g3:uA (.ofNat a) (Int.ofNat i - .ofNat d)=false:=An (by simp;omega);exact o3 8 [(17,.n [(10,.y (Int.ofNat i - .ofNat d)),(14,.H),(23,.H)])] g1 g2 g3
 | .lam s b,d,hS,hd,hm=>by
  have hd:d+(1+b.cnt)<=qA:=hd;have hmm:=zA;have hb:=kA;have g:=YJ a _ S ha b (d+1) hS (by omega) hm;exact o3 8 [(24,.r s.p),(30,.z (d+1)),(43,.o [5,7,1,2] [] (.pv (b.put a S (d+1)).p))] (UE s) (iA (a:=d) (b:=1) (by omega)) g
 | .n0 k,d,_,_,_=>by cases k<;>exact o1 8 [(24,.r zt)] KC
 | .n1 k b,d,hS,hd,hm=>by
  have hd:d+(1+b.cnt)<=qA:=hd;have g:=YJ a s S ha b d hS (by omega) hm;cases k<;>exact o2 8 [(24,.r zt),(43,.o [5,7,1,2] [] (.pv (b.put a S d).p))] KC g
 | .n2 k b c,d,hS,hd,hm=>by
  have hd:d+(1+b.cnt+c.cnt)<=qA:=hd;have hm:max b.mx c.mx<=qA * qA:=hm;have hS:Lf s S\/b.occ (a+d)+c.occ (a+d)=0:=hS;have g:=YJ a s S ha b d (hS.imp id (by omega)) (by omega) (by omega);have g':=YJ a s S ha c d (hS.imp id (by omega)) (by omega) (by omega);cases k<;>exact o3 8 [(24,.r zt),(43,.o [5,7,1,2] [] (.pv (b.put a S d).p)),(43,.o [5,7,1,2] [] (.pv (c.put a S d).p))] KC g g'
 | .n3 k u b c e,d,hS,hd,hm=>by
  have hd:d+(1+b.cnt+c.cnt+e.cnt)<=qA:=hd;have hm:max b.mx (max c.mx e.mx)<=qA * qA:=hm;have hS:Lf s S\/b.occ (a+d)+c.occ (a+d)+e.occ (a+d)=0:=hS;have g:=YJ a s S ha b d (hS.imp id (by omega)) (by omega) (by omega);have g':=YJ a s S ha c d (hS.imp id (by omega)) (by omega) (by omega);have g'':=YJ a s S ha e d (hS.imp id (by omega)) (by omega) (by omega);cases k<;>exact o4 8 [(24,.r u.p),(43,.o [5,7,1,2] [] (.pv (b.put a S d).p)),(43,.o [5,7,1,2] [] (.pv (c.put a S d).p)),(43,.o [5,7,1,2] [] (.pv (e.put a S d).p))] (UE u) g g' g''
theorem Jc (t:Tm) (a:Nat) (s:Sx) (S:Tm) (hS:Lf s S\/t.occ a=0) (ha:a<=qA) (h1:t.cnt<=qA) (h2:t.mx<=qA * qA):A 316 [t.p,num a,.agg s.c] (t.put a S 0).p :=
 f1 [(9,.n [(9,.o [5,7,1,2] [] (.pv (t.put a S 0).p))])] (YJ a s S ha t 0 hS (by omega) h2)
theorem Lf.of (S:Tm) (h1:S.cnt<=qA) (h2:S.mx<=qA * qA) (B:∀ n,n<=2 * qA->A 295 [S.p,num 0,num n] (S.sh 0 (.ofNat n)).p):Lf S.x S:=B
theorem CI:∀ t:Tm,A 189 [t.p] t.p
 | .v i=>f1 [(12,.r zt)] KC
 | .lam s b=>f2 [(12,.r s.p),(24,.r b.p)] (UE s) (CI b)
 | .n0 k=>by cases k<;>exact f1 [(12,.r zt)] KC
 | .n1 k b=>by have g:=CI b;cases k<;>exact f2 [(12,.r zt),(24,.r b.p)] KC g
 | .n2 k b c=>by have g:=CI b;have g':=CI c;cases k<;>exact f3 [(12,.r zt),(24,.r b.p),(24,.r c.p)] KC g g'
 | .n3 k s b c d=>by have g:=CI b;have g':=CI c;have g'':=CI d;cases k<;>exact f4 [(12,.r s.p),(24,.r b.p),(24,.r c.p),(24,.r d.p)] (UE s) g g' g''
open Go.Lg
abbrev WE:Nat:=536870912
def EB:Bool->Tm->Bool
 | b,.v i=>match b with
  | true => !uA (.ofNat WE) (.ofNat i)
  | false=>false
 | b,.lam _ t=>EB b t
 | b,.n0 _=>b
 | b,.n1 _ t=>EB b t
 | b,.n2 _ t u=>EB (EB b t) u
 | b,.n3 _ _ t u w=>EB (EB (EB b t) u) w
theorem wH:∀ (t:Tm),t.mx<=WE->EB true t=true
 | .v i,h=>by
  have h:i<=WE:=h;show (!uA (.ofNat WE) (.ofNat i))=true;rw [JA h];rfl
 | .lam _ t,h=>wH t h
 | .n0 _,_=>rfl
 | .n1 _ t,h=>wH t h
 | .n2 _ t u,h=>by
  have h:max t.mx u.mx<=WE:=h;simp only [EB,wH t (by omega),wH u (by omega)]
 | .n3 _ _ t u w,h=>by
  have h:max t.mx (max u.mx w.mx)<=WE:=h;simp only [EB,wH t (by omega),wH u (by omega),wH w (by omega)]
abbrev ut:PV:=.tuple []
abbrev LW (i j:Nat) (c:V) (own:List (Nat × Ob)):List (Nat × Ob):=(i,.box [c])::(j,.box [.fn 312 [.loc i 0,.loc j 0]])::own
abbrev MW (b:Bool):List (Nat × Ob):=LW 3 4 (.fn 324 [.loc 1 0]) [(1,bx [.bool b])]
abbrev oD (b:Bool):List (Nat × Ob):=[(1,bx [.bool b])]
theorem ZJ:∀ (t:Tm) (b:Bool) (d:Nat),d+t.cnt<=qA->O 312 [.pv t.p,.pv (num d),.loc 3 0,.loc 4 0] (MW b) (.pv ut) (MW (EB b t))
 | .v i,b,d,hd=>by
  cases b
  ·exact o0 5 []
  ·show O 312 _ _ _ (MW (!uA (.ofNat WE) (.ofNat i)));cases e : !uA (.ofNat WE) (.ofNat i)
   ·exact o1 5 [(15,.n [(8,.H)])] e
   ·exact o1 5 [(15,.n [(8,.G)])] e
 | .lam s a,b,d,hd=>by
  have hd:d+(1+a.cnt)<=qA:=hd;have hm:=zA;have hb:=kA;exact o2 5 [(20,.z (d+1)),(31,.o [3,4] (oD (EB b a)) (.pv ut))] (iA (a:=d) (b:=1) (by omega)) (ZJ a b (d+1) (by omega))
 | .n0 k,b,d,hd=>by cases k<;>exact o0 5 []
 | .n1 k a,b,d,hd=>by
  have hd:d+(1+a.cnt)<=qA:=hd;have g:=ZJ a b d (by omega);cases k<;>exact o1 5 [(31,.o [3,4] (oD (EB b a)) (.pv ut))] g
 | .n2 k a c,b,d,hd=>by
  have hd:d+(1+a.cnt+c.cnt)<=qA:=hd;have g:=ZJ a b d (by omega);have g':=ZJ c (EB b a) d (by omega);cases k<;>exact o2 5 [(31,.o [3,4] (oD (EB b a)) (.pv ut)),(31,.o [3,4] (oD (EB (EB b a) c)) (.pv ut))] g g'
 | .n3 k s a c e,b,d,hd=>by
  have hd:d+(1+a.cnt+c.cnt+e.cnt)<=qA:=hd;have g:=ZJ a b d (by omega);have g':=ZJ c (EB b a) d (by omega);have g'':=ZJ e (EB (EB b a) c) d (by omega);cases k<;>exact o3 5 [(31,.o [3,4] (oD (EB b a)) (.pv ut)),(31,.o [3,4] (oD (EB (EB b a) c)) (.pv ut)),(31,.o [3,4] (oD (EB (EB (EB b a) c) e)) (.pv ut))] g g' g''
theorem a298 (t:Tm) (h:t.cnt<=qA):A 300 [t.p] (.bool (EB true t)) :=
 f1 [(6,.n [(8,.o [3,4] (oD (EB true t)) (.pv ut))])] (ZJ t true 0 (by omega))
abbrev Kc (a n:Nat):List (Nat × Ob):=LW 4 5 (.fn 326 [.loc 1 0,.loc 2 0]) [(1,bx [num a]),(2,bx [num n])]
abbrev XE (n:Nat):List (Nat × Ob):=[(2,bx [num n])]
theorem qK (a:Nat) (ha:a<=qA):∀ (t:Tm) (n d:Nat),d+t.cnt<=qA->t.mx<=qA * qA->n+t.cnt<=bA->O 312 [.pv t.p,.pv (num d),.loc 4 0,.loc 5 0] (Kc a n) (.pv ut) (Kc a (n+t.occ (a+d)))
 | .v i,n,d,hd,hm,hn=>by
  have hmm:=zA;have hi:i<=qA * qA:=hm;have hd:d+1<=qA:=hd;have hn:n+1<=bA:=hn;rw [hmm] at hi;have hb:=kA;have g1:=bN (i:=i) (d:=d) (by omega) (by omega);by_cases h:i=a+d
  ·have g2:tB (Int.ofNat i - .ofNat d) (.ofNat a)=true:=ES (by simp;omega);have e:(Tm.v i).occ (a+d)=1:=by simp only [Tm.occ,if_pos h]
   rw [e];exact o3 6 [(15,.n [(8,.y (Int.ofNat i - .ofNat d)),(10,.G),(12,.z (n+1))])] g1 g2 (iA (a:=n) (b:=1) (by omega))
  ·have g2:tB (Int.ofNat i - .ofNat d) (.ofNat a)=false:=Fc (by simp;omega);have e:(Tm.v i).occ (a+d)=0:=by simp only [Tm.occ,if_neg h]
   rw [e];exact o2 6 [(15,.n [(8,.y (Int.ofNat i - .ofNat d)),(10,.H)])] g1 g2
 | .lam s b,n,d,hd,hm,hn=>by
  have hd:d+(1+b.cnt)<=qA:=hd;have hn:n+(1+b.cnt)<=bA:=hn;have hmm:=zA;have hb:=kA;exact o2 6 [(20,.z (d+1)),(31,.o [4,5,1] (XE (n+b.occ (a+(d+1)))) (.pv ut))] (iA (a:=d) (b:=1) (by omega)) (qK a ha b n (d+1) (by omega) hm (by omega))
 | .n0 k,n,d,_,_,_=>by cases k<;>exact o0 6 []
 | .n1 k b,n,d,hd,hm,hn=>by
  have hd:d+(1+b.cnt)<=qA:=hd;have hn:n+(1+b.cnt)<=bA:=hn;have g:=qK a ha b n d (by omega) hm (by omega);cases k<;>exact o1 6 [(31,.o [4,5,1] (XE (n+b.occ (a+d))) (.pv ut))] g
 | .n2 k b c,n,d,hd,hm,hn=>by
  have hd:d+(1+b.cnt+c.cnt)<=qA:=hd;have hn:n+(1+b.cnt+c.cnt)<=bA:=hn;have hm:max b.mx c.mx<=qA * qA:=hm;have:=yB b (a+d);have g:=qK a ha b n d (by omega) (by omega) (by omega);have g':=qK a ha c (n+b.occ (a+d)) d (by omega) (by omega) (by omega);have e:n+(Tm.n2 k b c).occ (a+d)=n+b.occ (a+d)+c.occ (a+d):=(Nat.add_assoc _ _ _).symm;rw [e];cases k<;>exact o2 6 [(31,.o [4,5,1] (XE (n+b.occ (a+d))) (.pv ut)),(31,.o [4,5,1] (XE (n+b.occ (a+d)+c.occ (a+d))) (.pv ut))] g g'
 | .n3 k s b c f,n,d,hd,hm,hn=>by
  have hd:d+(1+b.cnt+c.cnt+f.cnt)<=qA:=hd;have hn:n+(1+b.cnt+c.cnt+f.cnt)<=bA:=hn;have hm:max b.mx (max c.mx f.mx)<=qA * qA:=hm;have:=yB b (a+d);have:=yB c (a+d);have g:=qK a ha b n d (by omega) (by omega) (by omega);have g':=qK a ha c (n+b.occ (a+d)) d (by omega) (by omega) (by omega);have g'':=qK a ha f (n+b.occ (a+d)+c.occ (a+d)) d (by omega) (by omega) (by omega);have e:n+(Tm.n3 k s b c f).occ (a+d)=n+b.occ (a+d)+c.occ (a+d)+f.occ (a+d):=by simp only [Tm.occ];omega
  rw [e];cases k<;>exact o3 6 [(31,.o [4,5,1] (XE (n+b.occ (a+d))) (.pv ut)),(31,.o [4,5,1] (XE (n+b.occ (a+d)+c.occ (a+d))) (.pv ut)),(31,.o [4,5,1] (XE (n+b.occ (a+d)+c.occ (a+d)+f.occ (a+d))) (.pv ut))] g g' g''
theorem Lc (t:Tm) (a:Nat) (ha:a<=qA) (h:t.cnt<=qA) (hm:t.mx<=qA * qA):A 304 [t.p,num a] (num (t.occ a)):=by
 have hmm:=zA;have hb:=kA;have g:=qK a ha t 0 0 (by omega) hm (by omega);rw [Nat.zero_add] at g;exact f1 [(8,.n [(8,.o [4,5,1] (XE (t.occ a)) (.pv ut))])] g
abbrev Mc (a z:Nat):List (Nat × Ob):=[(1,bx [num a]),(2,bx [num z])]
theorem FS (a z:Nat) (ha:a<=qA) (hz:z<=2 * qA):∀ (f:Fm) (d:Nat),a+d+f.cnt<=qA->f.mx<=qA * qA->O 187 [.pv f.p,.pv (num d),.fn 294 [.loc 1 0,.loc 2 0]] (Mc a z) (.pv (f.sh (a+d) (.ofNat z)).p) (Mc a z)
 | .eq t u,d,hd,hm=>by
  have hmm:=zA;have hb:=kA;have hd:a+d+(1+t.cnt+u.cnt)<=qA:=hd;have hm:max t.mx u.mx<=qA * qA:=hm;have g:=iA (a:=a) (b:=d) (by omega);have g1:=KW t (a+d) z (by omega) hz (by omega) (by omega);have g2:=KW u (a+d) z (by omega) hz (by omega) (by omega);exact o5 3 [(16,.r zt),(30,.n [(10,.z (a+d)),(12,.r (t.sh (a+d) (.ofNat z)).p)]),(30,.n [(10,.z (a+d)),(12,.r (u.sh (a+d) (.ofNat z)).p)])] KC g g1 g g2
 | .bin k f g,d,hd,hm=>by
  have hd:a+d+(1+f.cnt+g.cnt)<=qA:=hd;have hm:max f.mx g.mx<=qA * qA:=hm;have g1:=FS a z ha hz f d (by omega) (by omega);have g2:=FS a z ha hz g d (by omega) (by omega);cases k<;>exact o3 3 [(16,.r zt),(52,.o [1,2] [] (.pv (f.sh (a+d) (.ofNat z)).p)),(52,.o [1,2] [] (.pv (g.sh (a+d) (.ofNat z)).p))] KC g1 g2
 | .q k s f,d,hd,hm=>by
  have hmm:=zA;have hb:=kA;have hd:a+d+(1+f.cnt)<=qA:=hd;have g:=iA (a:=d) (b:=1) (by omega);have g1:=FS a z ha hz f (d+1) (by omega) hm;cases k<;>exact o3 3 [(16,.r s.p),(39,.z (d+1)),(52,.o [1,2] [] (.pv (f.sh (a+(d+1)) (.ofNat z)).p))] (UE s) g g1
theorem KH (f:Fm) (a z:Nat) (hz:z<=2 * qA) (h1:a+f.cnt<=qA) (h2:f.mx<=qA * qA):A 250 [f.p,num a,num z] (f.sh a (.ofNat z)).p :=
 f1 [(9,.o [1,2] [] (.pv (f.sh a (.ofNat z)).p))] (FS a z (by omega) hz f 0 (by omega) h2)
theorem LH (S:Tm):∀ (t:Tm) (c d:Nat),t.put (c+1) S d=t.put c S (d+1)
 | .v i,c,d=>by simp only [Tm.put,show c+1+d=c+(d+1) by omega]
 | .lam s b,c,d=>by simp only [Tm.put,LH S b]
 | .n0 k,c,d=>rfl
 | .n1 k a,c,d=>by simp only [Tm.put,LH S a]
 | .n2 k a b,c,d=>by simp only [Tm.put,LH S a,LH S b]
 | .n3 k s a b e,c,d=>by simp only [Tm.put,LH S a,LH S b,LH S e]
theorem GS (S:Tm):∀ (f:Fm) (c d:Nat),f.put (c+1) S d=f.put c S (d+1)
 | .eq a b,c,d=>by simp only [Fm.put,LH S a,LH S b]
 | .bin k f g,c,d=>by simp only [Fm.put,GS S f,GS S g]
 | .q k s f,c,d=>by simp only [Fm.put,GS S f]
abbrev Nc (a:Nat) (s:Sx):List (Nat × Ob):=[(1,bx [num a]),(2,bx s.c)]
theorem HS (a:Nat) (s:Sx) (S:Tm) (ha:a<=qA):∀ (f:Fm) (d:Nat),(Lf s S\/f.occ (a+d)=0)->a+d+f.cnt<=qA->f.mx<=qA * qA->O 187 [.pv f.p,.pv (num d),.fn 315 [.loc 1 0,.loc 2 0]] (Nc a s) (.pv (f.put (a+d) S 0).p) (Nc a s)
 | .eq t u,d,hS,hd,hm=>by
  have hmm:=zA;have hb:=kA;have hd:a+d+(1+t.cnt+u.cnt)<=qA:=hd;have hm:max t.mx u.mx<=qA * qA:=hm;have hS:Lf s S\/t.occ (a+d)+u.occ (a+d)=0:=hS;have g:=iA (a:=a) (b:=d) (by omega);have g1:=Jc t (a+d) s S (hS.imp id (by omega)) (by omega) (by omega) (by omega);have g2:=Jc u (a+d) s S (hS.imp id (by omega)) (by omega) (by omega) (by omega);exact o5 3 [(16,.r zt),(30,.n [(10,.z (a+d)),(12,.r (t.put (a+d) S 0).p)]),(30,.n [(10,.z (a+d)),(12,.r (u.put (a+d) S 0).p)])] KC g g1 g g2
 | .bin k f g,d,hS,hd,hm=>by
  have hd:a+d+(1+f.cnt+g.cnt)<=qA:=hd;have hm:max f.mx g.mx<=qA * qA:=hm;have hS:Lf s S\/f.occ (a+d)+g.occ (a+d)=0:=hS;have g1:=HS a s S ha f d (hS.imp id (by omega)) (by omega) (by omega);have g2:=HS a s S ha g d (hS.imp id (by omega)) (by omega) (by omega);cases k<;>exact o3 3 [(16,.r zt),(52,.o [1,2] [] (.pv (f.put (a+d) S 0).p)),(52,.o [1,2] [] (.pv (g.put (a+d) S 0).p))] KC g1 g2
 | .q k u f,d,hS,hd,hm=>by
  have hmm:=zA;have hb:=kA;have hd:a+d+(1+f.cnt)<=qA:=hd;have g:=iA (a:=d) (b:=1) (by omega);have g1:=HS a s S ha f (d+1) hS (by omega) hm;have e:f.put (a+(d+1)) S 0=f.put (a+d) S (0+1):=GS S f (a+d) 0;rw [e] at g1;cases k<;>exact o3 3 [(16,.r u.p),(39,.z (d+1)),(52,.o [1,2] [] (.pv (f.put (a+d) S (0+1)).p))] (UE u) g g1
theorem aP (f:Fm) (a:Nat) (s:Sx) (S:Tm) (hS:Lf s S\/f.occ a=0) (h1:a+f.cnt<=qA) (h2:f.mx<=qA * qA):A 290 [f.p,num a,.agg s.c] (f.put a S 0).p :=
 f1 [(9,.o [1,2] [] (.pv (f.put a S 0).p))] (HS a s S (by omega) f 0 hS (by omega) h2)
theorem JS:∀ (f:Fm) (d:Nat),d+f.cnt<=qA->O 187 [.pv f.p,.pv (num d),.fn 188 []] [] (.pv f.p) []
 | .eq t u,d,hd=>o3 0 [(16,.r zt),(30,.n [(6,.r t.p)]),(30,.n [(6,.r u.p)])] KC (CI t) (CI u)
 | .bin k f g,d,hd=>by
  have hd:d+(1+f.cnt+g.cnt)<=qA:=hd;have g1:=JS f d (by omega);have g2:=JS g d (by omega);cases k<;>exact o3 0 [(16,.r zt),(52,.o [] [] (.pv f.p)),(52,.o [] [] (.pv g.p))] KC g1 g2
 | .q k s f,d,hd=>by
  have hmm:=zA;have hb:=kA;have hd:d+(1+f.cnt)<=qA:=hd;have g:=iA (a:=d) (b:=1) (by omega);have g1:=JS f (d+1) (by omega);cases k<;>exact o3 0 [(16,.r s.p),(39,.z (d+1)),(52,.o [] [] (.pv f.p))] (UE s) g g1
theorem Bn (f:Fm) (h:f.cnt<=qA):A 129 [f.p] f.p:=f1 [(4,.o [] [] (.pv f.p))] (JS f 0 (by omega))
def zK (b:Bool) (t:Tm):Bool:=match b with
 | true=>EB true t
 | false=>false
def YE:Bool->Fm->Bool
 | b,.eq t u=>zK (zK b t) u
 | b,.bin _ f g=>YE (YE b f) g
 | b,.q _ _ f=>YE b f
theorem KS:∀ (f:Fm),f.mx<=WE->YE true f=true
 | .eq t u,h=>by
  have h:max t.mx u.mx<=WE:=h;simp only [YE,zK,wH t (by omega),wH u (by omega)]
 | .bin _ f g,h=>by
  have h:max f.mx g.mx<=WE:=h;simp only [YE,KS f (by omega),KS g (by omega)]
 | .q _ _ f,h=>KS f h
theorem Oc (t:Tm) (b:Bool) (d:Nat) (h:t.cnt<=qA):O 323 [.pv t.p,.pv (num d),.loc 1 0] (oD b) (.pv ut) (oD (zK b t)):=by
 cases b
 ·exact o0 2 []
 ·exact o1 2 [(8,.r (.bool (EB true t)))] (a298 t h)
theorem LS:∀ (f:Fm) (b:Bool) (d:Nat),d+f.cnt<=qA->O 313 [.pv f.p,.pv (num d),.fn 323 [.loc 1 0]] (oD b) (.pv ut) (oD (YE b f))
 | .eq t u,b,d,hd=>by
  have hd:d+(1+t.cnt+u.cnt)<=qA:=hd;exact o2 2 [(20,.o [] (oD (zK b t)) (.pv ut)),(20,.o [] (oD (zK (zK b t) u)) (.pv ut))] (Oc t b d (by omega)) (Oc u (zK b t) d (by omega))
 | .bin k f g,b,d,hd=>by
  have hd:d+(1+f.cnt+g.cnt)<=qA:=hd;have g1:=LS f b d (by omega);have g2:=LS g (YE b f) d (by omega);cases k<;>exact o2 2 [(37,.o [] (oD (YE b f)) (.pv ut)),(37,.o [] (oD (YE (YE b f) g)) (.pv ut))] g1 g2
 | .q k s f,b,d,hd=>by
  have hmm:=zA;have hb:=kA;have hd:d+(1+f.cnt)<=qA:=hd;have g:=iA (a:=d) (b:=1) (by omega);have g1:=LS f b (d+1) (by omega);cases k<;>exact o2 2 [(26,.z (d+1)),(37,.o [] (oD (YE b f)) (.pv ut))] g g1
theorem a295 (f:Fm) (h:f.cnt<=qA):A 297 [f.p] (.bool (YE true f)) :=
 f1 [(6,.o [] (oD (YE true f)) (.pv ut))] (LS f true 0 (by omega))
theorem Pc (t:Tm) (a n d:Nat) (ha:a+d<=qA) (h:t.cnt<=qA) (hm:t.mx<=qA * qA) (hn:n+t.cnt<=bA):O 314 [.pv t.p,.pv (num d),.loc 2 0,.loc 1 0] [(1,bx [num a]),(2,bx [num n])] (.pv ut) [(1,bx [num a]),(2,bx [num (n+t.occ (a+d))])]:=by
 have hmm:=zA;have hb:=kA;have:=yB t (a+d);have g:=iA (a:=a) (b:=d) (by omega);have g':=iA (a:=n) (b:=t.occ (a+d)) (by omega);exact o3 3 [(10,.z (a+d)),(11,.N (t.occ (a+d))),(12,.z (n+t.occ (a+d)))] g (Lc t (a+d) ha h hm) g'
theorem MS (a:Nat):∀ (f:Fm) (n d:Nat),a+d+f.cnt<=qA->f.mx<=qA * qA->n+f.cnt<=bA->O 313 [.pv f.p,.pv (num d),.fn 314 [.loc 2 0,.loc 1 0]] [(1,bx [num a]),(2,bx [num n])] (.pv ut) [(1,bx [num a]),(2,bx [num (n+f.occ (a+d))])]
 | .eq t u,n,d,hd,hm,hn=>by
  have hd:a+d+(1+t.cnt+u.cnt)<=qA:=hd;have hm:max t.mx u.mx<=qA * qA:=hm;have hn:n+(1+t.cnt+u.cnt)<=bA:=hn;have:=yB t (a+d);have g1:=Pc t a n d (by omega) (by omega) (by omega) (by omega);have g2:=Pc u a (n+t.occ (a+d)) d (by omega) (by omega) (by omega) (by omega);have e:n+(Fm.eq t u).occ (a+d)=n+t.occ (a+d)+u.occ (a+d):=(Nat.add_assoc _ _ _).symm;rw [e];exact o2 3 [(20,.o [1] (XE (n+t.occ (a+d))) (.pv ut)),(20,.o [1] (XE (n+t.occ (a+d)+u.occ (a+d))) (.pv ut))] g1 g2
 | .bin k f g,n,d,hd,hm,hn=>by
  have hd:a+d+(1+f.cnt+g.cnt)<=qA:=hd;have hm:max f.mx g.mx<=qA * qA:=hm;have hn:n+(1+f.cnt+g.cnt)<=bA:=hn;have:=YC f (a+d);have g1:=MS a f n d (by omega) (by omega) (by omega);have g2:=MS a g (n+f.occ (a+d)) d (by omega) (by omega) (by omega);have e:n+(Fm.bin k f g).occ (a+d)=n+f.occ (a+d)+g.occ (a+d):=(Nat.add_assoc _ _ _).symm;rw [e];cases k<;>exact o2 3 [(37,.o [1] (XE (n+f.occ (a+d))) (.pv ut)),(37,.o [1] (XE (n+f.occ (a+d)+g.occ (a+d))) (.pv ut))] g1 g2
 | .q k s f,n,d,hd,hm,hn=>by
  have hmm:=zA;have hb:=kA;have hd:a+d+(1+f.cnt)<=qA:=hd;have hn:n+(1+f.cnt)<=bA:=hn;have g:=iA (a:=d) (b:=1) (by omega);have g1:=MS a f n (d+1) (by omega) hm (by omega);cases k<;>exact o2 3 [(26,.z (d+1)),(37,.o [1] (XE (n+f.occ (a+(d+1)))) (.pv ut))] g g1
theorem cP (f:Fm) (a:Nat) (h:a+f.cnt<=qA) (hm:f.mx<=qA * qA):A 289 [f.p,num a] (num (f.occ a)):=by
 have hmm:=zA;have hb:=kA;have g:=MS a f 0 0 (by omega) hm (by omega);rw [Nat.zero_add] at g;exact f1 [(8,.o [1] (XE (f.occ a)) (.pv ut))] g
open Go.Lg
def Tm.fr:Tm->Nat
 | .v i=>i+1
 | .lam _ b=>b.fr-1
 | .n0 _=>0
 | .n1 _ a=>a.fr
 | .n2 _ a b=>max a.fr b.fr
 | .n3 _ _ a b c=>max (max a.fr b.fr) c.fr
def Tm.nf:Tm->Bool
 | .v _=>true
 | .lam _ b=>b.nf
 | .n0 _=>true
 | .n1 k a=>(Tm.n1 k a).red.isNone && a.nf
 | .n2 k a b=>(Tm.n2 k a b).red.isNone && (a.nf && b.nf)
 | .n3 k s a b c=>(Tm.n3 k s a b c).red.isNone && (a.nf && (b.nf && c.nf))
def Tm.nas:Tm->List (List PV)
 | .lam _ b=>[[.nptr [num b.kd,num b.ix,num b.tk,.slice b.te,.slice b.nas,num b.cnt,num b.fr,.flg b.nf]]]
 | .n1 _ a=>[[.nptr [num a.kd,num a.ix,num a.tk,.slice a.te,.slice a.nas,num a.cnt,num a.fr,.flg a.nf]]]
 | .n2 _ a b=>[[.nptr [num a.kd,num a.ix,num a.tk,.slice a.te,.slice a.nas,num a.cnt,num a.fr,.flg a.nf]],[.nptr [num b.kd,num b.ix,num b.tk,.slice b.te,.slice b.nas,num b.cnt,num b.fr,.flg b.nf]]]
 | .n3 _ _ a b c=>[[.nptr [num a.kd,num a.ix,num a.tk,.slice a.te,.slice a.nas,num a.cnt,num a.fr,.flg a.nf]],[.nptr [num b.kd,num b.ix,num b.tk,.slice b.te,.slice b.nas,num b.cnt,num b.fr,.flg b.nf]],[.nptr [num c.kd,num c.ix,num c.tk,.slice c.te,.slice c.nas,num c.cnt,num c.fr,.flg c.nf]]]
 | _=>[]
abbrev Tm.nd' (t:Tm):PV:=.nptr [num t.kd,num t.ix,num t.tk,.slice t.te,.slice t.nas,num t.cnt,num t.fr,.flg t.nf]
theorem MH:∀ (t:Tm) (n:Nat),t.sc n↔t.fr<=n
 | .v i,n=>by simp only [Tm.sc,Tm.fr];omega
 | .lam s b,n=>by have:=MH b (n+1);simp only [Tm.sc,Tm.fr,this];omega
 | .n0 k,n=>by simp [Tm.sc,Tm.fr]
 | .n1 k a,n=>by simpa only [Tm.sc,Tm.fr] using MH a n
 | .n2 k a b,n=>by simp only [Tm.sc,Tm.fr,MH a n,MH b n];omega
 | .n3 k s a b d,n=>by simp only [Tm.sc,Tm.fr,MH a n,MH b n,MH d n];omega
theorem jK (z:Int):∀ (t:Tm) (c:Nat),t.fr<=c->t.sh c z=t
 | .v i,c,h=>by simp only [Tm.fr] at h;simp only [Tm.sh,if_neg (show ¬ c<=i by omega)]
 | .lam s b,c,h=>by simp only [Tm.fr] at h;simp only [Tm.sh,jK z b (c+1) (by omega)]
 | .n0 k,c,h=>rfl
 | .n1 k a,c,h=>by simp only [Tm.fr] at h;simp only [Tm.sh,jK z a c h]
 | .n2 k a b,c,h=>by simp only [Tm.fr] at h;simp only [Tm.sh,jK z a c (by omega),jK z b c (by omega)]
 | .n3 k s a b d,c,h=>by simp only [Tm.fr] at h;simp only [Tm.sh,jK z a c (by omega),jK z b c (by omega),jK z d c (by omega)]
theorem ZE:∀ (t:Tm) (c:Nat),t.sh c (.ofNat 0)=t
 | .v i,c=>by simp only [Tm.sh];split<;>simp
 | .lam s b,c=>by simp only [Tm.sh,ZE b]
 | .n0 k,c=>rfl
 | .n1 k a,c=>by simp only [Tm.sh,ZE a]
 | .n2 k a b,c=>by simp only [Tm.sh,ZE a,ZE b]
 | .n3 k s a b d,c=>by simp only [Tm.sh,ZE a,ZE b,ZE d]
theorem vK (c:Nat) (S:Tm):∀ (t:Tm) (d:Nat),t.fr<=c+d->t.put c S d=t
 | .v i,d,h=>by simp only [Tm.fr] at h;simp only [Tm.put,if_neg (show ¬ i=c+d by omega),if_neg (show ¬ c+d<i by omega)]
 | .lam s b,d,h=>by simp only [Tm.fr] at h;simp only [Tm.put,vK c S b (d+1) (by omega)]
 | .n0 k,d,h=>rfl
 | .n1 k a,d,h=>by simp only [Tm.fr] at h;simp only [Tm.put,vK c S a d h]
 | .n2 k a b,d,h=>by simp only [Tm.fr] at h;simp only [Tm.put,vK c S a d (by omega),vK c S b d (by omega)]
 | .n3 k s a b e,d,h=>by simp only [Tm.fr] at h;simp only [Tm.put,vK c S a d (by omega),vK c S b d (by omega),vK c S e d (by omega)]
theorem DI:∀ (t:Tm) (c:Nat),t.fr<=c->t.occ c=0
 | .v i,c,h=>by simp only [Tm.fr] at h;simp only [Tm.occ,if_neg (show ¬ i=c by omega)]
 | .lam s b,c,h=>by simp only [Tm.fr] at h;simp only [Tm.occ,DI b (c+1) (by omega)]
 | .n0 k,c,h=>rfl
 | .n1 k a,c,h=>by simp only [Tm.fr] at h;simp only [Tm.occ,DI a c h]
 | .n2 k a b,c,h=>by simp only [Tm.fr] at h;simp only [Tm.occ,DI a c (by omega),DI b c (by omega)]
 | .n3 k s a b d,c,h=>by simp only [Tm.fr] at h;simp only [Tm.occ,DI a c (by omega),DI b c (by omega),DI d c (by omega)]
theorem kH:∀ t:Tm,t.fr<=t.mx+1
 | .v i=>by simp [Tm.fr,Tm.mx]
 | .lam s b=>by have:=kH b;simp only [Tm.fr,Tm.mx];omega
 | .n0 k=>by simp [Tm.fr]
 | .n1 k a=>kH a
 | .n2 k a b=>by have:=kH a;have:=kH b;simp only [Tm.fr,Tm.mx];omega
 | .n3 k s a b d=>by have:=kH a;have:=kH b;have:=kH d;simp only [Tm.fr,Tm.mx];omega
theorem xE:∀ (t:Tm) (n:Nat),t.sc n->t.mx<=n+t.cnt
 | .v i,n,h=>by simp only [Tm.sc] at h;simp only [Tm.mx];omega
 | .lam s b,n,h=>by have:=xE b (n+1) h;simp only [Tm.mx,Tm.cnt];omega
 | .n0 k,n,h=>by simp [Tm.mx]
 | .n1 k a,n,h=>by have:=xE a n h;simp only [Tm.mx,Tm.cnt];omega
 | .n2 k a b,n,h=>by have:=xE a n h.1;have:=xE b n h.2;simp only [Tm.mx,Tm.cnt];omega
 | .n3 k s a b d,n,h=>by have:=xE a n h.1;have:=xE b n h.2.1;have:=xE d n h.2.2;simp only [Tm.mx,Tm.cnt];omega
theorem NW:∀ (t:Tm) {n m:Nat},n<=m->t.sc n->t.sc m:=λ t n m h h'=>(MH t m).2 (Nat.le_trans ((MH t n).1 h') h)
theorem FF (z:Nat):∀ (t:Tm) (c n:Nat),t.sc n->(t.sh c (.ofNat z)).sc (n+z)
 | .v i,c,n,h=>by
  have h:i<n:=h;simp only [Tm.sh];split
  ·show ((Int.ofNat i + .ofNat z).toNat)<n+z;have:(Int.ofNat i + .ofNat z).toNat=i+z:=rfl;omega
  ·show i<n+z;omega
 | .lam s b,c,n,h=>by
  have:=FF z b (c+1) (n+1) h;rw [show n+1+z=n+z+1 by omega] at this;exact this
 | .n0 k,c,n,h=>trivial
 | .n1 k a,c,n,h=>FF z a c n h
 | .n2 k a b,c,n,h=>⟨FF z a c n h.1,FF z b c n h.2⟩
 | .n3 k s a b d,c,n,h=>⟨FF z a c n h.1,FF z b c n h.2.1,FF z d c n h.2.2⟩
theorem NH (S:Tm) (n:Nat):∀ (t:Tm) (d:Nat),t.sc (n+d+1)->(S.sc n\/t.occ d=0)->(t.put 0 S d).sc (n+d)
 | .v i,d,h,hS=>by
  have h:i<n+d+1:=h;simp only [Tm.put,Nat.zero_add];split
  ·rename_i e;rcases hS with hS|hS
   ·exact FF d S 0 n hS
   ·simp [Tm.occ,e] at hS
  ·split
   ·show i-1<n+d;omega
   ·show i<n+d;omega
 | .lam s b,d,h,hS=>by
  have h:b.sc (n+d+1+1):=h;have:=NH S n b (d+1) (by rw [show n+(d+1)+1=n+d+1+1 by omega];exact h) hS;exact this
 | .n0 k,d,h,hS=>trivial
 | .n1 k a,d,h,hS=>NH S n a d h hS
 | .n2 k a b,d,h,hS=>by
  simp only [Tm.occ] at hS;exact⟨NH S n a d h.1 (hS.imp id (by omega)),NH S n b d h.2 (hS.imp id (by omega))⟩
 | .n3 k s a b e,d,h,hS=>by
  simp only [Tm.occ] at hS;exact⟨NH S n a d h.1 (hS.imp id (by omega)),NH S n b d h.2.1 (hS.imp id (by omega)),NH S n e d h.2.2 (hS.imp id (by omega))⟩
theorem EI (z w:Nat):∀ (t:Tm) (c:Nat),(t.sh c (.ofNat z)).sh c (.ofNat w)=t.sh c (.ofNat (z+w))
 | .v i,c=>by
  simp only [Tm.sh];split
  ·have e:(Int.ofNat i + .ofNat z).toNat=i+z:=rfl;simp only [Tm.sh,e,if_pos (show c<=i+z by omega)];have e1:(Int.ofNat (i+z) + .ofNat w).toNat=i+z+w:=rfl;have e2:(Int.ofNat i + .ofNat (z+w)).toNat=i+(z+w):=rfl;rw [e1,e2,Nat.add_assoc]
  ·rename_i h;simp only [Tm.sh,if_neg h]
 | .lam s b,c=>by simp only [Tm.sh,EI z w b]
 | .n0 k,c=>rfl
 | .n1 k a,c=>by simp only [Tm.sh,EI z w a]
 | .n2 k a b,c=>by simp only [Tm.sh,EI z w a,EI z w b]
 | .n3 k s a b d,c=>by simp only [Tm.sh,EI z w a,EI z w b,EI z w d]
theorem yH (z:Int):∀ (t:Tm) (c:Nat),(t.sh c z).shp=t.shp
 | .v i,c=>by simp only [Tm.sh];split<;>rfl
 | .lam s b,c=>by simp only [Tm.sh,Tm.shp,yH z b]
 | .n0 k,c=>rfl
 | .n1 k a,c=>by simp only [Tm.sh,Tm.shp,yH z a]
 | .n2 k a b,c=>by simp only [Tm.sh,Tm.shp,yH z a,yH z b]
 | .n3 k s a b d,c=>by simp only [Tm.sh,Tm.shp,yH z a,yH z b,yH z d]
theorem qF (c:Nat) (S:Tm):∀ (t:Tm) (d:Nat),(S.shp=true\/t.occ (c+d)=0)->t.shp=true->(t.put c S d).shp=true
 | .v i,d,hS,h=>by
  simp only [Tm.put];split
  ·rename_i e;rcases hS with hS|hS
   ·rw [yH];exact hS
   ·simp [Tm.occ,e] at hS
  ·split<;>rfl
 | .lam s b,d,hS,h=>by
  obtain⟨h1,h2⟩:=HA h;show (_ && _)=true;rw [h1,qF c S b (d+1) hS h2];rfl
 | .n0 k,d,hS,h=>rfl
 | .n1 k a,d,hS,h=>qF c S a d hS h
 | .n2 k a b,d,hS,h=>by
  obtain⟨h1,h2⟩:=HA h;simp only [Tm.occ] at hS;show (_ && _)=true;rw [qF c S a d (hS.imp id (by omega)) h1,qF c S b d (hS.imp id (by omega)) h2];rfl
 | .n3 k s a b e,d,hS,h=>by
  obtain⟨h1,h2⟩:=HA h;obtain⟨h2,h3⟩:=HA h2;obtain⟨h3,h4⟩:=HA h3;simp only [Tm.occ] at hS;show (_ && (_ && (_ && _)))=true;rw [h1,qF c S a d (hS.imp id (by omega)) h2,qF c S b d (hS.imp id (by omega)) h3,qF c S e d (hS.imp id (by omega)) h4];rfl
theorem Cn (n:Nat):∀ {t r:Tm},t.red=some r->t.sc n->t.shp=true->r.sc n/\r.shp=true:=by
 refine @RJ (λ t r=>t.sc n->t.shp=true->r.sc n/\r.shp=true) ?_ ?_ ?_ ?_ ?_ ?_ ?_
 ·intro a b h hs;exact⟨h.1,(HA hs).1⟩
 ·intro a b h hs;exact⟨h.2,(HA hs).2⟩
 ·intro s b a h hs;obtain⟨h1,h2⟩:=HA hs;obtain⟨_,h3⟩:=HA h1;exact⟨NH a n b 0 h.1 (.inl h.2),qF 0 a b 0 (.inl h2) h3⟩
 ·intro s b f h hs;obtain⟨_,h2⟩:=HA hs;exact⟨h.1,(HA h2).1⟩
 ·intro s b f m h hs;obtain⟨h1,h2⟩:=HA hs;obtain⟨h2,h3⟩:=HA h2;obtain⟨h3,h4⟩:=HA h3;have h4:m.shp=true:=h4;refine⟨⟨⟨h.2.1,h.2.2⟩,h.1,h.2.1,h.2.2⟩,?_⟩;show ((_ && _) && (_ && (_ && (_ && _))))=true;rw [h1,h2,h3,h4];rfl
 ·intro s b f h hs;obtain⟨_,h2⟩:=HA hs;exact⟨h.1,(HA h2).1⟩
 ·intro s b f x l h hs;obtain⟨h1,h2⟩:=HA hs;obtain⟨h2,h3⟩:=HA h2;obtain⟨h3,h4⟩:=HA h3;obtain⟨h4,h5⟩:=HA h4;have h':=h.2.2;refine⟨⟨⟨⟨h.2.1,h'.1⟩,h'.2⟩,h.1,h.2.1,h'.2⟩,?_⟩;show (((_ && _) && _) && (_ && (_ && (_ && _))))=true;rw [h1,h2,h3,h4,h5];rfl
open Go.Lg
theorem OH:∀ (f:Fm) (n:Nat),f.sc n->f.mx<=n+f.cnt
 | .eq a b,n,h=>by have:=xE a n h.1;have:=xE b n h.2;simp only [Fm.mx,Fm.cnt];omega
 | .bin k a b,n,h=>by have:=OH a n h.1;have:=OH b n h.2;simp only [Fm.mx,Fm.cnt];omega
 | .q k s a,n,h=>by have:=OH a (n+1) h;simp only [Fm.mx,Fm.cnt];omega
theorem NS:∀ (f:Fm) {n m:Nat},n<=m->f.sc n->f.sc m
 | .eq a b,n,m,h,h'=>⟨NW a h h'.1,NW b h h'.2⟩
 | .bin k a b,n,m,h,h'=>⟨NS a h h'.1,NS b h h'.2⟩
 | .q k s a,n,m,h,h'=>NS a (Nat.succ_le_succ h) h'
theorem OS (z:Nat):∀ (f:Fm) (c n:Nat),f.sc n->(f.sh c (.ofNat z)).sc (n+z)
 | .eq a b,c,n,h=>⟨FF z a c n h.1,FF z b c n h.2⟩
 | .bin k a b,c,n,h=>⟨OS z a c n h.1,OS z b c n h.2⟩
 | .q k s a,c,n,h=>by
  have:=OS z a (c+1) (n+1) h;rw [show n+1+z=n+z+1 by omega] at this;exact this
theorem dN (S:Tm) (n:Nat):∀ (f:Fm) (d:Nat),f.sc (n+d+1)->(S.sc n\/f.occ d=0)->(f.put 0 S d).sc (n+d)
 | .eq a b,d,h,hS=>by
  simp only [Fm.occ] at hS;exact⟨NH S n a d h.1 (hS.imp id (by omega)),NH S n b d h.2 (hS.imp id (by omega))⟩
 | .bin k a b,d,h,hS=>by
  simp only [Fm.occ] at hS;exact⟨dN S n a d h.1 (hS.imp id (by omega)),dN S n b d h.2 (hS.imp id (by omega))⟩
 | .q k s a,d,h,hS=>by
  have h:a.sc (n+d+1+1):=h;exact dN S n a (d+1) (by rw [show n+(d+1)+1=n+d+1+1 by omega];exact h) hS
theorem PS (z w:Nat):∀ (f:Fm) (c:Nat),(f.sh c (.ofNat z)).sh c (.ofNat w)=f.sh c (.ofNat (z+w))
 | .eq a b,c=>by simp only [Fm.sh,EI z w a,EI z w b]
 | .bin k a b,c=>by simp only [Fm.sh,PS z w a,PS z w b]
 | .q k s a,c=>by simp only [Fm.sh,PS z w a]
theorem eP:∀ (f:Fm) (c:Nat),f.sh c (.ofNat 0)=f
 | .eq a b,c=>by simp only [Fm.sh,ZE]
 | .bin k a b,c=>by simp only [Fm.sh,eP a,eP b]
 | .q k s a,c=>by simp only [Fm.sh,eP a]
theorem QS (z:Int):∀ (f:Fm) (c:Nat),(f.sh c z).shp=f.shp
 | .eq a b,c=>by simp only [Fm.sh,Fm.shp,yH]
 | .bin k a b,c=>by simp only [Fm.sh,Fm.shp,QS z a,QS z b]
 | .q k s a,c=>by simp only [Fm.sh,Fm.shp,QS z a]
theorem PH (c:Nat) (S:Tm):∀ (f:Fm) (d:Nat),(S.shp=true\/f.occ (c+d)=0)->f.shp=true->(f.put c S d).shp=true
 | .eq a b,d,hS,h=>by
  obtain⟨h1,h2⟩:=HA h;simp only [Fm.occ] at hS;show (_ && _)=true;rw [qF c S a d (hS.imp id (by omega)) h1,qF c S b d (hS.imp id (by omega)) h2];rfl
 | .bin k a b,d,hS,h=>by
  obtain⟨h1,h2⟩:=HA h;simp only [Fm.occ] at hS;show (_ && _)=true;rw [PH c S a d (hS.imp id (by omega)) h1,PH c S b d (hS.imp id (by omega)) h2];rfl
 | .q k s a,d,hS,h=>by
  obtain⟨h1,h2⟩:=HA h;show (_ && _)=true;rw [h1,PH c S a (d+1) hS h2];rfl
structure FK (n:Nat) (f:Fm):Prop where
 cnt:f.cnt<=4096
 shp:f.shp=true
 sc:f.sc n
theorem BE:∀ t:Tm,t.shp=true->t.tsz<=64
 | .v i,h=>Nat.zero_le _
 | .lam s b,h=>by
  obtain⟨h1,h2⟩:=HA h;have:=EF h1;have:=BE b h2;simp only [Tm.tsz];omega
 | .n0 k,h=>Nat.zero_le _
 | .n1 k a,h=>BE a h
 | .n2 k a b,h=>by
  obtain⟨h1,h2⟩:=HA h;have:=BE a h1;have:=BE b h2;simp only [Tm.tsz];omega
 | .n3 k s a b d,h=>by
  obtain⟨h1,h2⟩:=HA h;obtain⟨h2,h3⟩:=HA h2;obtain⟨h3,h4⟩:=HA h3;have:=EF h1;have:=BE a h2;have:=BE b h3;have:=BE d h4;simp only [Tm.tsz];omega
theorem wK:∀ f:Fm,f.shp=true->f.tsz<=64
 | .eq a b,h=>by
  obtain⟨h1,h2⟩:=HA h;have:=BE a h1;have:=BE b h2;simp only [Fm.tsz];omega
 | .bin k a b,h=>by
  obtain⟨h1,h2⟩:=HA h;have:=wK a h1;have:=wK b h2;simp only [Fm.tsz];omega
 | .q k s a,h=>by
  obtain⟨h1,h2⟩:=HA h;have:=EF h1;have:=wK a h2;simp only [Fm.tsz];omega
end Go.Proofs.YtnkoaepelgbhfaaGreatDoor
