/- Contracts of functions; no conditions. -/
import Derived.Test.YtmkajedkflhbgaaGreatDoorIC3
set_option linter.all false
set_option maxHeartbeats 4000000
namespace Go.Proofs.YtmkajedkflhbgaaGreatDoor
open Go.Lg
set_option maxRecDepth 100000
theorem Vn {s:Ty} (h:s.kd=2):s = .list:=by
 cases s with
 | list=>rfl
 | two k a b=>cases k<;>cases h
 | _=>cases h
theorem Wn (H:MF) (f:Fm) (t:Tm) {a b:Pf} (Ha:dD a) (Hb:dD b):FE 205 (.ind false f t a b):=by
 intro ls g hs M hp;have hm:=jA;have hbb:=uA;have hk:mA=8388608:=rfl;have hcx:fB=qA * qA-1001 * 4096:=rfl;have hgl:=hp.gl;have hhl:=hp.hl;have hmb:M+mA * (1+t.cnt+f.cnt+a.cnt+b.cnt)<=fB:=hp.mb;have htz:max (max (max t.tsz f.tsz) a.tsz) b.tsz<=qA:=hp.tsz;have hmx:max (max (max t.mx f.mx) a.mx) b.mx<=M:=hp.mx;have hcn:1+t.cnt+f.cnt+a.cnt+b.cnt<=65536:=hp.cnt;have hK:mA * (1+t.cnt+f.cnt+a.cnt+b.cnt)=mA+mA * t.cnt+mA * f.cnt+mA * a.cnt+mA * b.cnt:=by rw [Nat.mul_add,Nat.mul_add,Nat.mul_add,Nat.mul_add,Nat.mul_one]
 rw [hK] at hmb;rw [hm] at hcx;have hct:=pE t;have c1:=EP g;have c2:=mE 2 32 Ty.c_len (by decide) g .nat (by omega) (by simp only [maxLen];omega);obtain⟨e,g1,q0⟩:=DS (g++[.nat]) f (NS hp.g1 (by decide)) (by omega) (by simp;omega);rw [fX] at g1
 cases e with
 | succ n=>exact⟨.er n,f3 [(32,.ok),(35,.ok),(37,.N (n+1))] c1 c2 g1,RR.good_er (Nat.succ_ne_zero n)⟩
 | zero =>
 have hfc:=Fm.chk0 (q0 rfl).1;obtain⟨e,g2,q1⟩:=dX ls g hs t 1 hp.g1
 cases e with
 | succ n=>exact⟨.er n,f4 [(32,.ok),(35,.ok),(37,.N 0),(44,.N (n+1))] c1 c2 g1 g2,RR.good_er (Nat.succ_ne_zero n)⟩
 | zero =>
 obtain⟨hchk,hty⟩:t.chk=0/\t.tyR g = .ok (lT false):=by
  obtain⟨k1,s,k2,k3⟩:=q1 rfl;exact⟨k1,by rw [k2,AS k3];rfl⟩
 clear q1;have hpa:Pre ls g hs M a:=hp.sub (by show a.cnt<=1+t.cnt+f.cnt+a.cnt+b.cnt;omega) (by show a.tsz<=max (max (max t.tsz f.tsz) a.tsz) b.tsz;omega) (by show a.mx<=max (max (max t.mx f.mx) a.mx) b.mx;omega);have g3:=cP 4;obtain⟨w,e,g4,q2,b1,b2⟩:=dN Ha ls g hs M hpa f (.n0 .zero) (by omega) (by rw [hm];omega) (by omega) (by decide) (by decide) (by decide) (by simp only [Tm.mx];omega);by_cases he:e=0;rotate_left
 ·obtain⟨n,rfl⟩:=Nat.exists_eq_succ_of_ne_zero he;exact⟨.er n,f6 [(32,.ok),(35,.ok),(37,.N 0),(44,.N 0),(56,.r (Tm.n0 .zero).p),(57,.U [bA w,num (n+1)])] c1 c2 g1 g2 g3 g4,RR.good_er (Nat.succ_ne_zero n)⟩
 subst he;obtain⟨fa,⟨_,⟨ja,j1,j2,j3,j4⟩,_,_,_⟩,wa,hwa,hma⟩:=q2 rfl;obtain⟨e,g5,q4⟩:=FP ls g hs 1 1
 cases e with
 | succ n=>exact⟨.er n,f7 [(32,.ok),(35,.ok),(37,.N 0),(44,.N 0),(56,.r (Tm.n0 .zero).p),(57,.U [bA w,num 0]),(65,.N (n+1))] c1 c2 g1 g2 g3 g4 g5,RR.good_er (Nat.succ_ne_zero n)⟩
 | zero =>
 have hroom:=q4 rfl;have g6:=zX ls g .nat hs (by omega) (by omega) (λ f hf=>(hp.h1 f hf).hyp (by omega));have hf1:FO (M+1) f:=⟨hfc.1,by omega,by omega⟩;have g7:=GS ls (g++[.nat]) (hs.map (Fm.sh 0 1)) f (by simp;omega);have g8:=bD f 1 1 (by omega) (by omega) (by rw [hm];omega) (by omega);have g9:=eP 5 (.v 0);have hpb:Pre ls (g++[.nat]) (hs.map (Fm.sh 0 1)++[f]) (M+1) b:=hp.to (by omega) (by
  intro x hx;rcases List.mem_append.1 hx with h|h
  ·exact MS hp.h1 1 x h
  ·simp at h;subst h;exact hf1) (by
  intro x hx;rcases List.mem_append.1 hx with h|h
  ·exact hp.g1 x h
  ·simp at h;subst h;decide) (by simp;omega) (by simp;omega) (by show b.cnt<=1+t.cnt+f.cnt+a.cnt+b.cnt;omega) (by show b.tsz<=max (max (max t.tsz f.tsz) a.tsz) b.tsz;omega) (by show b.mx<=max (max (max t.mx f.mx) a.mx) b.mx;omega) (by omega)
 have hup:(f.sh 1 1).mx<=f.mx+1:=DE 1 f 1;have hupc:(f.sh 1 1).cnt=f.cnt:=GD 1 f 1;have hupt:(f.sh 1 1).tsz=f.tsz:=VD 1 f 1;obtain⟨w',e,g10,q5,b3,b4⟩:=dN Hb ls (g++[.nat]) (hs.map (Fm.sh 0 1)++[f]) (M+1) hpb (f.sh 1 1) (Tm.n1 .succ (.v 0)) (by omega) (by rw [hm];omega) (by omega) (by decide) (by decide) (by decide) (by simp only [Tm.mx];omega);by_cases he:e=0;rotate_left
 ·obtain⟨n,rfl⟩:=Nat.exists_eq_succ_of_ne_zero he;exact⟨.er n,fk [(32,.ok),(35,.ok),(37,.N 0),(44,.N 0),(56,.r (Tm.n0 .zero).p),(57,.U [bA w,num 0]),(65,.N 0),(74,.r (IA ls (g++[.nat]) (hs.map (Fm.sh 0 1)))),(76,.r (IA ls (g++[.nat]) (hs.map (Fm.sh 0 1)++[f]))),(82,.r (f.sh 1 1).p),(85,.r (Tm.n1 .succ (.v 0)).p),(86,.U [bA w',num (n+1)])] (And.intro c1 (And.intro c2 (And.intro g1 (And.intro g2 (And.intro g3 (And.intro g4 (And.intro g5 (And.intro g6 (And.intro g7 (And.intro g8 (And.intro g9 (And.intro g10 (Eq.refl ((RR.er n).p)))))))))))))),RR.good_er (Nat.succ_ne_zero n)⟩
 subst he;obtain⟨fb,⟨_,⟨jb,k1,k2,k3,k4⟩,_,_,_⟩,wb,hw2,hm2⟩:=q5 rfl;have hM2:t.mx<=qA * qA:=by rw [hm];omega
 obtain⟨u1,g12,p1,p2,p3,_⟩:=KS H t (by omega) (by omega) hM2;obtain⟨u2,g13,p4,p5,p6,_⟩:=H.union u1 w (by omega) (λ z hz=>by have:=p2 z hz;omega) (λ z hz=>by have:=b1 z hz;omega);have hwb:∀ z∈w',z<=dA:=λ z hz=>by have:=b3 z hz;omega
 have g14:=HS 1 w' (by omega) hwb;have hol:=HP 1 w';have hob:∀ z∈LA 1 w',z<=M+1+mA * b.cnt:=GP (λ z hz=>b3 z hz);have hu2:∀ z∈u2,z<=M+mA * a.cnt:=λ z hz=>by
  rcases p5 z hz with h|h
  ·have:=p2 z h;omega
  ·exact b1 z h
 obtain⟨u3,g15,s1,s2,s3,sA⟩:=H.union u2 (LA 1 w') (by omega) (λ z hz=>by have:=hu2 z hz;omega) (λ z hz=>by have:=hob z hz;omega);obtain⟨r,g11,q8⟩:=bN f t (by omega) (by rw [hm];omega) (by omega) (by omega) hM2;rcases q8 with ⟨n,rfl⟩|⟨rfl,q9⟩
 ·exact⟨⟨0,0,[],[],[],u3,n+1⟩,fk [(32,.ok),(35,.ok),(37,.N 0),(44,.N 0),(56,.r (Tm.n0 .zero).p),(57,.U [bA w,num 0]),(65,.N 0),(74,.r (IA ls (g++[.nat]) (hs.map (Fm.sh 0 1)))),(76,.r (IA ls (g++[.nat]) (hs.map (Fm.sh 0 1)++[f]))),(82,.r (f.sh 1 1).p),(85,.r (Tm.n1 .succ (.v 0)).p),(86,.U [bA w',num 0]),(96,.r (FR.er n).p),(101,.r (bA u1)),(103,.r (bA u2)),(105,.r (bA (LA 1 w'))),(106,.r (bA u3))] (And.intro c1 (And.intro c2 (And.intro g1 (And.intro g2 (And.intro g3 (And.intro g4 (And.intro g5 (And.intro g6 (And.intro g7 (And.intro g8 (And.intro g9 (And.intro g10 (And.intro g11 (And.intro g12 (And.intro g13 (And.intro g14 (And.intro g15 (Eq.refl (RR.p (⟨0,0,[],[],[],u3,n+1⟩)))))))))))))))))))),RR.good_er (Nat.succ_ne_zero n)⟩
 ·have h1:=II 0 t f 0;have h2:=HI 0 t f 0;refine⟨.of (f.put 0 t 0) u3 0,fk [(32,.ok),(35,.ok),(37,.N 0),(44,.N 0),(56,.r (Tm.n0 .zero).p),(57,.U [bA w,num 0]),(65,.N 0),(74,.r (IA ls (g++[.nat]) (hs.map (Fm.sh 0 1)))),(76,.r (IA ls (g++[.nat]) (hs.map (Fm.sh 0 1)++[f]))),(82,.r (f.sh 1 1).p),(85,.r (Tm.n1 .succ (.v 0)).p),(86,.U [bA w',num 0]),(96,.r (FR.ok (f.put 0 t 0)).p),(101,.r (bA u1)),(103,.r (bA u2)),(105,.r (bA (LA 1 w'))),(106,.r (bA u3))] (And.intro c1 (And.intro c2 (And.intro g1 (And.intro g2 (And.intro g3 (And.intro g4 (And.intro g5 (And.intro g6 (And.intro g7 (And.intro g8 (And.intro g9 (And.intro g10 (And.intro g11 (And.intro g12 (And.intro g13 (And.intro g14 (And.intro g15 (Eq.refl ((RR.of (f.put 0 t 0) u3 0).p))))))))))))))))))),λ _=>⟨_,rfl,⟨by show (f.put 0 t 0).cnt<=qA;omega,by show (f.put 0 t 0).mx<=M+mA * (1+t.cnt+f.cnt+a.cnt+b.cnt);rw [hK];omega,by show (f.put 0 t 0).tsz<=qA;omega,⟨.ind false f t ja jb _,by rw [<- j1,<- k1];rfl,rfl,λ hc=>⟨hc,q0 rfl,⟨hchk,hty⟩,⟨j3,wa,hwa,by rw [j2];exact hma⟩,hroom,⟨k3,wb,hw2,by rw [k2];exact hm2⟩,uN q9⟩,λ z hz => ?_⟩,sA,λ z hz => ?_,by show u3.length<=1+t.cnt+f.cnt+a.cnt+b.cnt;omega⟩⟩⟩
  ·rcases hz.2 with h|h|h
   ·exact s1 z (.inl (p4 z (.inl (p1 hchk z h))))
   ·exact s1 z (.inl (p4 z (.inr (j4 z h))))
   ·exact s1 z (.inr (kN (k4 _ h)))
  ·show z<=M+mA * (1+t.cnt+f.cnt+a.cnt+b.cnt);rw [hK];rcases s2 z hz with h|h
   ·have:=hu2 z h;omega
   ·have:=hob z h;omega
theorem Xn (H:MF) (f:Fm) (t:Tm) {a b:Pf} (Ha:dD a) (Hb:dD b):FE 206 (.ind true f t a b):=by
 intro ls g hs M hp;have hm:=jA;have hbb:=uA;have hk:mA=8388608:=rfl;have hcx:fB=qA * qA-1001 * 4096:=rfl;have hgl:=hp.gl;have hhl:=hp.hl;have hmb:M+mA * (1+t.cnt+f.cnt+a.cnt+b.cnt)<=fB:=hp.mb;have htz:max (max (max t.tsz f.tsz) a.tsz) b.tsz<=qA:=hp.tsz;have hmx:max (max (max t.mx f.mx) a.mx) b.mx<=M:=hp.mx;have hcn:1+t.cnt+f.cnt+a.cnt+b.cnt<=65536:=hp.cnt;have hK:mA * (1+t.cnt+f.cnt+a.cnt+b.cnt)=mA+mA * t.cnt+mA * f.cnt+mA * a.cnt+mA * b.cnt:=by rw [Nat.mul_add,Nat.mul_add,Nat.mul_add,Nat.mul_add,Nat.mul_one]
 rw [hK] at hmb;rw [hm] at hcx;have hct:=pE t;have c1:=EP g;have c2:=mE 2 32 Ty.c_len (by decide) g .list (by omega) (by simp only [maxLen];omega);obtain⟨e,g1,q0⟩:=DS (g++[.list]) f (NS hp.g1 (by decide)) (by omega) (by simp;omega);rw [fX] at g1
 cases e with
 | succ n=>exact⟨.er n,f3 [(32,.ok),(35,.ok),(37,.N (n+1))] c1 c2 g1,RR.good_er (Nat.succ_ne_zero n)⟩
 | zero =>
 have hfc:=Fm.chk0 (q0 rfl).1;obtain⟨e,g2,q1⟩:=dX ls g hs t 2 hp.g1
 cases e with
 | succ n=>exact⟨.er n,f4 [(32,.ok),(35,.ok),(37,.N 0),(44,.N (n+1))] c1 c2 g1 g2,RR.good_er (Nat.succ_ne_zero n)⟩
 | zero =>
 obtain⟨hchk,hty⟩:t.chk=0/\t.tyR g = .ok (lT true):=by
  obtain⟨k1,s,k2,k3⟩:=q1 rfl;exact⟨k1,by rw [k2,Vn k3];rfl⟩
 clear q1;have hpa:Pre ls g hs M a:=hp.sub (by show a.cnt<=1+t.cnt+f.cnt+a.cnt+b.cnt;omega) (by show a.tsz<=max (max (max t.tsz f.tsz) a.tsz) b.tsz;omega) (by show a.mx<=max (max (max t.mx f.mx) a.mx) b.mx;omega);have g3:=cP 7;obtain⟨w,e,g4,q2,b1,b2⟩:=dN Ha ls g hs M hpa f (.n0 .nil) (by omega) (by rw [hm];omega) (by omega) (by decide) (by decide) (by decide) (by simp only [Tm.mx];omega);by_cases he:e=0;rotate_left
 ·obtain⟨n,rfl⟩:=Nat.exists_eq_succ_of_ne_zero he;exact⟨.er n,f6 [(32,.ok),(35,.ok),(37,.N 0),(44,.N 0),(56,.r (Tm.n0 .nil).p),(57,.U [bA w,num (n+1)])] c1 c2 g1 g2 g3 g4,RR.good_er (Nat.succ_ne_zero n)⟩
 subst he;obtain⟨fa,⟨_,⟨ja,j1,j2,j3,j4⟩,_,_,_⟩,wa,hwa,hma⟩:=q2 rfl;obtain⟨e,g5,q4⟩:=FP ls g hs 2 1
 cases e with
 | succ n=>exact⟨.er n,f7 [(32,.ok),(35,.ok),(37,.N 0),(44,.N 0),(56,.r (Tm.n0 .nil).p),(57,.U [bA w,num 0]),(65,.N (n+1))] c1 c2 g1 g2 g3 g4 g5,RR.good_er (Nat.succ_ne_zero n)⟩
 | zero =>
 have hroom:=q4 rfl;have g6:=Pn ls g .nat .list hs (by omega) (by omega) (λ f hf=>(hp.h1 f hf).hyp (by omega));have hf1:FO (M+2) (f.sh 1 1):=by have h:=DE 1 f 1;simp at h;exact⟨by rw [GD];exact hfc.1,by omega,by rw [VD];omega⟩
 have gh:=bD f 1 1 (by omega) (by omega) (by rw [hm];omega) (by omega);have g7:=GS ls (g++[.nat,.list]) (hs.map (Fm.sh 0 2)) (f.sh 1 1) (by simp;omega);have g8:=bD f 1 2 (by omega) (by omega) (by rw [hm];omega) (by omega);have g9:=bF 8 (.v 1) (.v 0);have hpb:Pre ls (g++[.nat,.list]) (hs.map (Fm.sh 0 2)++[(f.sh 1 1)]) (M+2) b:=hp.to (by omega) (by
  intro x hx;rcases List.mem_append.1 hx with h|h
  ·exact MS hp.h1 2 x h
  ·simp at h;subst h;exact hf1) (by
  intro x hx;rcases List.mem_append.1 hx with h|h
  ·exact hp.g1 x h
  ·simp at h;rcases h with rfl|rfl<;>decide) (by simp;omega) (by simp;omega) (by show b.cnt<=1+t.cnt+f.cnt+a.cnt+b.cnt;omega) (by show b.tsz<=max (max (max t.tsz f.tsz) a.tsz) b.tsz;omega) (by show b.mx<=max (max (max t.mx f.mx) a.mx) b.mx;omega) (by omega)
 have hup:(f.sh 1 2).mx<=f.mx+2:=DE 2 f 1;have hupc:(f.sh 1 2).cnt=f.cnt:=GD 2 f 1;have hupt:(f.sh 1 2).tsz=f.tsz:=VD 2 f 1;obtain⟨w',e,g10,q5,b3,b4⟩:=dN Hb ls (g++[.nat,.list]) (hs.map (Fm.sh 0 2)++[(f.sh 1 1)]) (M+2) hpb (f.sh 1 2) (Tm.n2 .cons (.v 1) (.v 0)) (by omega) (by rw [hm];omega) (by omega) (by decide) (by decide) (by decide) (by simp only [Tm.mx];omega);by_cases he:e=0;rotate_left
 ·obtain⟨n,rfl⟩:=Nat.exists_eq_succ_of_ne_zero he;exact⟨.er n,fk [(32,.ok),(35,.ok),(37,.N 0),(44,.N 0),(56,.r (Tm.n0 .nil).p),(57,.U [bA w,num 0]),(65,.N 0),(75,.r (IA ls (g++[.nat,.list]) (hs.map (Fm.sh 0 2)))),(77,.r (f.sh 1 1).p),(78,.r (IA ls (g++[.nat,.list]) (hs.map (Fm.sh 0 2)++[(f.sh 1 1)]))),(84,.r (f.sh 1 2).p),(88,.r (Tm.n2 .cons (.v 1) (.v 0)).p),(89,.U [bA w',num (n+1)])] (And.intro c1 (And.intro c2 (And.intro g1 (And.intro g2 (And.intro g3 (And.intro g4 (And.intro g5 (And.intro g6 (And.intro gh (And.intro g7 (And.intro g8 (And.intro g9 (And.intro g10 (Eq.refl ((RR.er n).p))))))))))))))),RR.good_er (Nat.succ_ne_zero n)⟩
 subst he;obtain⟨fb,⟨_,⟨jb,k1,k2,k3,k4⟩,_,_,_⟩,wb,hw2,hm2⟩:=q5 rfl;have hM2:t.mx<=qA * qA:=by rw [hm];omega
 obtain⟨u1,g12,p1,p2,p3,_⟩:=KS H t (by omega) (by omega) hM2;obtain⟨u2,g13,p4,p5,p6,_⟩:=H.union u1 w (by omega) (λ z hz=>by have:=p2 z hz;omega) (λ z hz=>by have:=b1 z hz;omega);have hwb:∀ z∈w',z<=dA:=λ z hz=>by have:=b3 z hz;omega
 have g14:=HS 2 w' (by omega) hwb;have hol:=HP 2 w';have hob:∀ z∈LA 2 w',z<=M+2+mA * b.cnt:=GP (λ z hz=>b3 z hz);have hu2:∀ z∈u2,z<=M+mA * a.cnt:=λ z hz=>by
  rcases p5 z hz with h|h
  ·have:=p2 z h;omega
  ·exact b1 z h
 obtain⟨u3,g15,s1,s2,s3,sA⟩:=H.union u2 (LA 2 w') (by omega) (λ z hz=>by have:=hu2 z hz;omega) (λ z hz=>by have:=hob z hz;omega);obtain⟨r,g11,q8⟩:=bN f t (by omega) (by rw [hm];omega) (by omega) (by omega) hM2;rcases q8 with ⟨n,rfl⟩|⟨rfl,q9⟩
 ·exact⟨⟨0,0,[],[],[],u3,n+1⟩,fk [(32,.ok),(35,.ok),(37,.N 0),(44,.N 0),(56,.r (Tm.n0 .nil).p),(57,.U [bA w,num 0]),(65,.N 0),(75,.r (IA ls (g++[.nat,.list]) (hs.map (Fm.sh 0 2)))),(77,.r (f.sh 1 1).p),(78,.r (IA ls (g++[.nat,.list]) (hs.map (Fm.sh 0 2)++[(f.sh 1 1)]))),(84,.r (f.sh 1 2).p),(88,.r (Tm.n2 .cons (.v 1) (.v 0)).p),(89,.U [bA w',num 0]),(99,.r (FR.er n).p),(104,.r (bA u1)),(106,.r (bA u2)),(108,.r (bA (LA 2 w'))),(109,.r (bA u3))] (And.intro c1 (And.intro c2 (And.intro g1 (And.intro g2 (And.intro g3 (And.intro g4 (And.intro g5 (And.intro g6 (And.intro gh (And.intro g7 (And.intro g8 (And.intro g9 (And.intro g10 (And.intro g11 (And.intro g12 (And.intro g13 (And.intro g14 (And.intro g15 (Eq.refl (RR.p (⟨0,0,[],[],[],u3,n+1⟩))))))))))))))))))))),RR.good_er (Nat.succ_ne_zero n)⟩
 ·have h1:=II 0 t f 0;have h2:=HI 0 t f 0;refine⟨.of (f.put 0 t 0) u3 0,fk [(32,.ok),(35,.ok),(37,.N 0),(44,.N 0),(56,.r (Tm.n0 .nil).p),(57,.U [bA w,num 0]),(65,.N 0),(75,.r (IA ls (g++[.nat,.list]) (hs.map (Fm.sh 0 2)))),(77,.r (f.sh 1 1).p),(78,.r (IA ls (g++[.nat,.list]) (hs.map (Fm.sh 0 2)++[(f.sh 1 1)]))),(84,.r (f.sh 1 2).p),(88,.r (Tm.n2 .cons (.v 1) (.v 0)).p),(89,.U [bA w',num 0]),(99,.r (FR.ok (f.put 0 t 0)).p),(104,.r (bA u1)),(106,.r (bA u2)),(108,.r (bA (LA 2 w'))),(109,.r (bA u3))] (And.intro c1 (And.intro c2 (And.intro g1 (And.intro g2 (And.intro g3 (And.intro g4 (And.intro g5 (And.intro g6 (And.intro gh (And.intro g7 (And.intro g8 (And.intro g9 (And.intro g10 (And.intro g11 (And.intro g12 (And.intro g13 (And.intro g14 (And.intro g15 (Eq.refl ((RR.of (f.put 0 t 0) u3 0).p)))))))))))))))))))),λ _=>⟨_,rfl,⟨by show (f.put 0 t 0).cnt<=qA;omega,by show (f.put 0 t 0).mx<=M+mA * (1+t.cnt+f.cnt+a.cnt+b.cnt);rw [hK];omega,by show (f.put 0 t 0).tsz<=qA;omega,⟨.ind true f t ja jb _,by rw [<- j1,<- k1];rfl,rfl,λ hc=>⟨hc,q0 rfl,⟨hchk,hty⟩,⟨j3,wa,hwa,by rw [j2];exact hma⟩,hroom,⟨k3,wb,hw2,by rw [k2];exact hm2⟩,uN q9⟩,λ z hz => ?_⟩,sA,λ z hz => ?_,by show u3.length<=1+t.cnt+f.cnt+a.cnt+b.cnt;omega⟩⟩⟩
  ·rcases hz.2 with h|h|h
   ·exact s1 z (.inl (p4 z (.inl (p1 hchk z h))))
   ·exact s1 z (.inl (p4 z (.inr (j4 z h))))
   ·exact s1 z (.inr (kN (k4 _ h)))
  ·show z<=M+mA * (1+t.cnt+f.cnt+a.cnt+b.cnt);rw [hK];rcases s2 z hz with h|h
   ·have:=hu2 z h;omega
   ·have:=hob z h;omega
abbrev OC:List PV:=[num 0,num 0,.slice [],.slice [],.slice []]
theorem gX:A 16 [.agg OC] (.agg OC):=f1 [(12,.r zt)] uF
theorem Jd (k:FB) (f:Fm):A 110 [num k.n,f.p,.agg OC] (.agg [num k.n,num 0,.slice [],.slice [],.slice [f.c,OC]]):=f2 [(9,.r f.p),(11,.r (.agg OC))] (MB f) gX
abbrev qz (k:FQ) (s:Ty) (x:List PV):List PV:=[num k.n,num s.kd,.slice s.es,.slice [],.slice [x]]
theorem Yn (k:FQ) (s:Ty):A 64 [num k.n,s.p,.agg OC] (.agg (qz k s OC)):=f2 [(9,.r s.p),(11,.r (.agg OC))] (xC s) gX
theorem Zn (k:FQ) (s:Ty):A 16 [.agg (qz k s OC)] (.agg (qz k s OC)):=f2 [(12,.r s.p),(39,.r (.agg OC))] (xC s) gX
theorem qo (k l:FQ) (s u:Ty):A 64 [num k.n,s.p,.agg (qz l u OC)] (.agg (qz k s (qz l u OC))):=f2 [(9,.r s.p),(11,.r (.agg (qz l u OC)))] (xC s) (Zn l u)
theorem zo {a:Pf} (Ha:dD a):FE 209 (.p1 .choice a):=by
 intro ls g hs M hp;have hm:=jA;have hbb:=uA;have hk:mA=8388608:=rfl;have hcx:fB=qA * qA-1001 * 4096:=rfl;have hmb:M+mA * (1+a.cnt)<=fB:=hp.mb;have hcn:1+a.cnt<=65536:=hp.cnt;have hK:mA * (1+a.cnt)=mA+mA * a.cnt:=by rw [Nat.mul_add,Nat.mul_one]
 rw [hK] at hmb;rw [hm] at hcx;have hpa:Pre ls g hs M a:=hp.sub (by show a.cnt<=1+a.cnt;omega) (Nat.le_refl _) (Nat.le_refl _);obtain⟨r,g1,q⟩:=Ha _ _ _ _ hpa
 cases r with
 | er n=>exact⟨.er n,f1 [(19,.r (PR.er n).p)] g1,RR.good_er (Nat.succ_ne_zero n)⟩
 | ok fa w =>
 obtain⟨q1,⟨ja,j1,j2,j3,j4⟩,p2,p3,p4⟩:=q;have bad:fa.kd≠4->∃ c:RR,A 209 [IA ls g hs,(Pf.p1 .choice a).p] c.p/\c.Good ls g hs M (.p1 .choice a):=λ hne=>⟨.er 9,f2 [(19,.r (PR.ok fa w).p),(29,.G)] g1 (BC hne),RR.good_er (Nat.succ_ne_zero 9)⟩
 cases fa with
 | eq x y=>exact bad (nofun)
 | bin k x y=>exact bad (by cases k<;>exact nofun)
 | q k s x =>
 cases k with
 | ex=>exact bad (nofun)
 | allU=>exact bad (nofun)
 | exU=>exact bad (nofun)
 | all =>
 have bad2:x.kd≠5->∃ c:RR,A 209 [IA ls g hs,(Pf.p1 .choice a).p] c.p/\c.Good ls g hs M (.p1 .choice a):=λ hne=>⟨.er 9,f2 [(19,.r (PR.ok (.q .all s x) w).p),(37,.G)] g1 (BC hne),RR.good_er (Nat.succ_ne_zero 9)⟩
 cases x with
 | eq x y=>exact bad2 (nofun)
 | bin k x y=>exact bad2 (by cases k<;>exact nofun)
 | q k u y =>
 cases k with
 | all=>exact bad2 (nofun)
 | allU=>exact bad2 (nofun)
 | exU=>exact bad2 (nofun)
 | ex =>
 have e1:1+(1+y.cnt)<=4096:=q1.1;have e2:y.mx<=M+mA * a.cnt:=q1.2.1;have e3:max s.size (max u.size y.tsz)<=qA:=q1.2.2;have g2:=IL s u;have g3:=QJ (.two true s u) (by show 1+s.size+u.size<=dA;omega);rcases XF (.two true s u) with e|e<;>rw [e] at g3;rotate_left
 ·exact⟨.er 3,f3 [(19,.r (PR.ok (.q .all s (.q .ex u y)) w).p),(51,.r (Ty.two true s u).p),(53,.N 4)] g1 g2 g3,RR.good_er (Nat.succ_ne_zero 3)⟩
 have hsz:=chk0 e;have hup:(y.sh 2 1).mx<=y.mx+1:=DE 1 y 2;have g4:=bD y 2 1 (by omega) (by omega) (by rw [hm];omega) (by omega);have g5:=bF 3 (.v 1) (.v 0);obtain⟨r,g6,q3⟩:=bN (y.sh 2 1) (.n2 .app (.v 1) (.v 0)) (by rw [GD];omega) (by rw [hm];omega) (by rw [VD];omega) (by decide) (by decide) (by decide);rcases q3 with ⟨n,rfl⟩|⟨rfl,q4⟩
 ·exact⟨⟨5,4,(Ty.two true s u).es,[],[qz .all s OC],w,n+1⟩,f8 [(19,.r (PR.ok (.q .all s (.q .ex u y)) w).p),(51,.r (Ty.two true s u).p),(53,.N 0),(65,.r (y.sh 2 1).p),(69,.r (Tm.n2 .app (.v 1) (.v 0)).p),(70,.r (FR.er n).p),(76,.r (.agg (qz .all s OC))),(77,.r (.agg (qz .ex (.two true s u) (qz .all s OC))))] g1 g2 g3 g4 g5 g6 (Yn .all s) (qo .ex .all (.two true s u) s),RR.good_er (Nat.succ_ne_zero n)⟩
 ·have h1:=II 0 (.n2 .app (.v 1) (.v 0)) (y.sh 2 1) 0;have h2:=HI 0 (.n2 .app (.v 1) (.v 0)) (y.sh 2 1) 0;have h3:(y.sh 2 1).cnt=y.cnt:=GD 1 y 2;have h4:(y.sh 2 1).tsz=y.tsz:=VD 1 y 2;have h5:(Tm.n2 .app (.v 1) (.v 0)).mx=1:=rfl;have h6:(Tm.n2 .app (.v 1) (.v 0)).tsz=0:=rfl;have h7:=uN q4;generalize hz:(y.sh 2 1).put 0 (.n2 .app (.v 1) (.v 0)) 0=z at *
  refine⟨.of (.q .ex (.two true s u) (.q .all s z)) w 0,f8 [(19,.r (PR.ok (.q .all s (.q .ex u y)) w).p),(51,.r (Ty.two true s u).p),(53,.N 0),(65,.r (y.sh 2 1).p),(69,.r (Tm.n2 .app (.v 1) (.v 0)).p),(70,.r (FR.ok z).p),(76,.r (Fm.q .all s z).p),(77,.r (Fm.q .ex (.two true s u) (.q .all s z)).p)] g1 g2 g3 g4 g5 g6 (sD .all s z) (sD .ex (.two true s u) (.q .all s z)),λ _=>⟨_,rfl,⟨?_,?_,?_,⟨.p1 .choice ja _,by rw [<- j1];rfl,rfl,λ hc=>⟨hc,j3,s,u,y,j2,hsz,z,h7,rfl⟩,λ v hv=>j4 v hv.2⟩,p2,λ v hv => ?_,by show w.length<=1+a.cnt;omega⟩⟩⟩
  ·show 1+(1+z.cnt)<=qA;omega
  ·show z.mx<=M+mA * (1+a.cnt);rw [hK];omega
  ·show max (Ty.two true s u).size (max s.size z.tsz)<=qA;omega
  ·have:=p3 v hv;show v<=M+mA * (1+a.cnt);rw [hK];omega
open Go.Lg
theorem jo (u:Bool) (i:Nat):FE 128 (.leaf u i):=by
 intro ls g hs M hp;have hm:=jA;have hhl:=hp.hl;cases u
 ·by_cases h:i<hs.length
  ·obtain⟨f,hx⟩:∃ f,hs[hs.length-1-i]? = some f:=⟨_,List.getElem?_eq_getElem (by omega)⟩;have h1:(!kA (.ofNat i) (.ofNat (hs.map Fm.c).length))=false:=by rw [aA (by simpa using h)];rfl
   have h2:rA (Int.ofNat (hs.map Fm.c).length-1)=true/\Int.ofNat (hs.map Fm.c).length-1 = .ofNat (hs.length-1):=by
    have e:Int.ofNat (hs.map Fm.c).length-1 = .ofNat (hs.length-1):=by simp;omega
    exact⟨by rw [e];exact eA,e⟩
   have h3:rA (Int.ofNat (hs.length-1) - .ofNat i)=true/\Int.ofNat (hs.length-1) - .ofNat i = .ofNat (hs.length-1-i):=by
    have e:Int.ofNat (hs.length-1) - .ofNat i = .ofNat (hs.length-1-i):=by simp;omega
    exact⟨by rw [e];exact eA,e⟩
   have hF:=hp.h1 f (List.mem_of_getElem? hx);exact⟨.of f [] 0,f4 [(30,.H),(37,.z (hs.length-1)),(40,.z (hs.length-1-i)),(41,.i f.c)] h1 h2 h3 (KA hx Fm.c_len),λ _=>⟨f,rfl,⟨by have:=hF.1;omega,by have:=hF.2.1;omega,hF.2.2,⟨.leaf false i f,rfl,rfl,λ hc=>⟨hc,h,hx⟩,λ v hv=>hv.elim⟩,List.Pairwise.nil,(λ x hx=>by cases hx),Nat.zero_le _⟩⟩⟩
  ·have h1:(!kA (.ofNat i) (.ofNat (hs.map Fm.c).length))=true:=by rw [CA (by simp;omega)];rfl
   exact⟨.er 7,f1 [(30,.G)] h1,RR.good_er (Nat.succ_ne_zero 7)⟩
 ·by_cases h:i<ls.length
  ·obtain⟨f,hx⟩:∃ f,ls[i]? = some f:=⟨_,List.getElem?_eq_getElem h⟩;have h1:(!kA (.ofNat i) (.ofNat (ls.map Fm.c).length))=false:=by rw [aA (by simpa using h)];rfl
   have hF:=hp.l1 f (List.mem_of_getElem? hx);exact⟨.of f [] 0,f2 [(50,.H),(56,.i f.c)] h1 (KA hx Fm.c_len),λ _=>⟨f,rfl,⟨by have:=hF.1;omega,by have:=hF.2.1;omega,hF.2.2,⟨.leaf true i f,rfl,rfl,λ hc=>⟨hc,hx⟩,λ v hv=>hv.elim⟩,List.Pairwise.nil,(λ x hx=>by cases hx),Nat.zero_le _⟩⟩⟩
  ·have h1:(!kA (.ofNat i) (.ofNat (ls.map Fm.c).length))=true:=by rw [CA (by simp;omega)];rfl
   exact⟨.er 8,f1 [(50,.G)] h1,RR.good_er (Nat.succ_ne_zero 8)⟩
theorem vo (t:Tm):FE 128 (.refl t):=by
 intro ls g hs M hp;have hm:=jA;have hgl:=hp.gl;have hcn:1+t.cnt<=65536:=hp.cnt;have hmx:t.mx<=M:=hp.mx;have htz:t.tsz<=qA:=hp.tsz;obtain⟨e,g1,q⟩:=dX ls g hs t 1 hp.g1 htz;refine⟨.of (.eq t t) [] e,f2 [(280,.r (Fm.eq t t).p),(286,.N e)] (rE t t) g1,λ he => ?_⟩;have he:e=0:=he;subst he;obtain⟨k1,s,k2,k3⟩:=q rfl;clear q;exact⟨_,rfl,⟨by show 1+t.cnt+t.cnt<=qA;omega,by show max t.mx t.mx<=M+_;omega,by show max t.tsz t.tsz<=qA;omega,⟨.refl t,rfl,rfl,λ hc=>⟨hc,k1,by rw [k2,AS k3]⟩,λ v hv=>hv.elim⟩,List.Pairwise.nil,(λ x hx=>by cases hx),Nat.zero_le _⟩⟩
theorem wo (k:P1) {a:Pf} (Ha:dD a):FE 128 (.p1 k a):=by
 intro ls g hs M hp;have hm:=jA;have hk:mA=8388608:=rfl;have hK:mA * (1+a.cnt)=mA+mA * a.cnt:=by rw [Nat.mul_add,Nat.mul_one]
 have hpa:Pre ls g hs M a:=hp.sub (by show a.cnt<=1+a.cnt;omega) (Nat.le_refl _) (Nat.le_refl _)
 cases k with
 | choice =>
  obtain⟨c,g1,g2⟩:=zo Ha ls g hs M hp;exact⟨c,f1 [(297,.r c.p)] g1,g2⟩
 | andL =>
  obtain⟨r,g1,q⟩:=Ha _ _ _ _ hpa
  cases r with
  | er n=>exact⟨.er n,f1 [(102,.r (PR.er n).p)] g1,RR.good_er (Nat.succ_ne_zero n)⟩
  | ok fa w =>
  obtain⟨q1,⟨ja,j1,j2,j3,j4⟩,p2,p3,p4⟩:=q;have bad:fa.kd≠2->∃ c:RR,A 128 [IA ls g hs,(Pf.p1 .andL a).p] c.p/\c.Good ls g hs M (.p1 .andL a):=λ hne=>⟨.er 9,f2 [(102,.r (PR.ok fa w).p),(112,.G)] g1 (BC hne),RR.good_er (Nat.succ_ne_zero 9)⟩
  cases fa with
  | eq x y=>exact bad (nofun)
  | q k s x=>exact bad (by cases k<;>exact nofun)
  | bin k x y =>
   cases k with
   | imp=>exact bad (nofun)
   | and =>
    have e1:1+x.cnt+y.cnt<=4096:=q1.1;have e2:max x.mx y.mx<=M+mA * a.cnt:=q1.2.1;have e3:max x.tsz y.tsz<=qA:=q1.2.2;exact⟨.of x w 0,f1 [(102,.r (PR.ok (.bin .and x y) w).p)] g1,λ _=>⟨_,rfl,⟨by omega,by show x.mx<=M+mA * (1+a.cnt);rw [hK];omega,by omega,⟨.p1 .andL ja x,by rw [<- j1];rfl,rfl,λ hc=>⟨hc,j3,y,j2⟩,λ v hv=>j4 v hv.2⟩,p2,λ v hv=>by have:=p3 v hv;show v<=M+mA * (1+a.cnt);rw [hK];omega,by show w.length<=1+a.cnt;omega⟩⟩⟩
 | andR =>
  obtain⟨r,g1,q⟩:=Ha _ _ _ _ hpa
  cases r with
  | er n=>exact⟨.er n,f1 [(102,.r (PR.er n).p)] g1,RR.good_er (Nat.succ_ne_zero n)⟩
  | ok fa w =>
  obtain⟨q1,⟨ja,j1,j2,j3,j4⟩,p2,p3,p4⟩:=q;have bad:fa.kd≠2->∃ c:RR,A 128 [IA ls g hs,(Pf.p1 .andR a).p] c.p/\c.Good ls g hs M (.p1 .andR a):=λ hne=>⟨.er 9,f2 [(102,.r (PR.ok fa w).p),(112,.G)] g1 (BC hne),RR.good_er (Nat.succ_ne_zero 9)⟩
  cases fa with
  | eq x y=>exact bad (nofun)
  | q k s x=>exact bad (by cases k<;>exact nofun)
  | bin k x y =>
   cases k with
   | imp=>exact bad (nofun)
   | and =>
    have e1:1+x.cnt+y.cnt<=4096:=q1.1;have e2:max x.mx y.mx<=M+mA * a.cnt:=q1.2.1;have e3:max x.tsz y.tsz<=qA:=q1.2.2;exact⟨.of y w 0,f1 [(102,.r (PR.ok (.bin .and x y) w).p)] g1,λ _=>⟨_,rfl,⟨by omega,by show y.mx<=M+mA * (1+a.cnt);rw [hK];omega,by omega,⟨.p1 .andR ja y,by rw [<- j1];rfl,rfl,λ hc=>⟨hc,j3,x,j2⟩,λ v hv=>j4 v hv.2⟩,p2,λ v hv=>by have:=p3 v hv;show v<=M+mA * (1+a.cnt);rw [hK];omega,by show w.length<=1+a.cnt;omega⟩⟩⟩
theorem uo (f:Fm) {a:Pf} (Ha:dD a):FE 128 (.impI f a):=by
 intro ls g hs M hp;have hm:=jA;have hk:mA=8388608:=rfl;have hgl:=hp.gl;have hhl:=hp.hl;have hmb:M+mA * (1+f.cnt+a.cnt)<=fB:=hp.mb;have htz:max f.tsz a.tsz<=qA:=hp.tsz;have hmx:max f.mx a.mx<=M:=hp.mx;have hcn:1+f.cnt+a.cnt<=65536:=hp.cnt;have hK:mA * (1+f.cnt+a.cnt)=mA+mA * f.cnt+mA * a.cnt:=by rw [Nat.mul_add,Nat.mul_add,Nat.mul_one]
 rw [hK] at hmb;obtain⟨e,g1,q0⟩:=ES g f hp.g1
 cases e with
 | succ n=>exact⟨.er n,f1 [(132,.N (n+1))] g1,RR.good_er (Nat.succ_ne_zero n)⟩
 | zero =>
 have hfc:=Fm.chk0 (q0 rfl).1;obtain⟨e,g2,q1⟩:=FP ls g hs 0 1
 cases e with
 | succ n=>exact⟨.er n,f2 [(132,.N 0),(138,.N (n+1))] g1 g2,RR.good_er (Nat.succ_ne_zero n)⟩
 | zero =>
 have hroom:=q1 rfl;have g3:=GS ls g hs f;have hpa:Pre ls g (hs++[f]) M a:=hp.to (Nat.le_refl _) (by
  intro x hx;rcases List.mem_append.1 hx with h|h
  ·exact hp.h1 x h
  ·simp at h;subst h;exact⟨hfc.1,by omega,by omega⟩) hp.g1 hp.gl (by simp;omega) (by show a.cnt<=1+f.cnt+a.cnt;omega) (by show a.tsz<=max f.tsz a.tsz;omega) (by show a.mx<=max f.mx a.mx;omega) (by omega)
 obtain⟨r,g4,q⟩:=Ha _ _ _ _ hpa
 cases r with
 | er n=>exact⟨⟨3,0,[],[],[f.c,OC],[],n+1⟩,f5 [(132,.N 0),(138,.N 0),(149,.r (IA ls g (hs++[f]))),(154,.r (PR.er n).p),(163,.r (.agg [num 3,num 0,.slice [],.slice [],.slice [f.c,OC]]))] g1 g2 g3 g4 (Jd .imp f),RR.good_er (Nat.succ_ne_zero n)⟩
 | ok fa w =>
  obtain⟨q1,⟨ja,j1,j2,j3,j4⟩,p2,p3,p4⟩:=q;have e1:=q1.1;have e2:=q1.2.1;have e3:=q1.2.2;exact⟨.of (.bin .imp f fa) w 0,f5 [(132,.N 0),(138,.N 0),(149,.r (IA ls g (hs++[f]))),(154,.r (PR.ok fa w).p),(163,.r (Fm.bin .imp f fa).p)] g1 g2 g3 g4 (oP .imp f fa),λ _=>⟨_,rfl,⟨by show 1+f.cnt+fa.cnt<=qA;omega,by show max f.mx fa.mx<=M+mA * (1+f.cnt+a.cnt);rw [hK];omega,by show max f.tsz fa.tsz<=qA;omega,⟨.impI f ja,by rw [<- j1];rfl,by rw [<- j2];rfl,λ hc=>⟨by rw [j2];exact hc,q0 rfl,hroom.2,j3⟩,λ v hv=>j4 v hv.2⟩,p2,λ v hv=>by have:=p3 v hv;show v<=M+mA * (1+f.cnt+a.cnt);rw [hK];omega,by show w.length<=1+f.cnt+a.cnt;omega⟩⟩⟩
theorem bo (H:MF) (k:P2) {a b:Pf} (Ha:dD a) (Hb:dD b):FE 128 (.p2 k a b):=by
 intro ls g hs M hp;have hm:=jA;have hbb:=uA;have hk:mA=8388608:=rfl;have hcx:fB=qA * qA-1001 * 4096:=rfl;have hmb:M+mA * (1+a.cnt+b.cnt)<=fB:=hp.mb;have hcn:1+a.cnt+b.cnt<=65536:=hp.cnt;have hK:mA * (1+a.cnt+b.cnt)=mA+mA * a.cnt+mA * b.cnt:=by rw [Nat.mul_add,Nat.mul_add,Nat.mul_one]
 rw [hK] at hmb;rw [hm] at hcx;have hpa:Pre ls g hs M a:=hp.sub (by show a.cnt<=1+a.cnt+b.cnt;omega) (by show a.tsz<=max a.tsz b.tsz;omega) (by show a.mx<=max a.mx b.mx;omega);have hpb:Pre ls g hs M b:=hp.sub (by show b.cnt<=1+a.cnt+b.cnt;omega) (by show b.tsz<=max a.tsz b.tsz;omega) (by show b.mx<=max a.mx b.mx;omega)
 cases k with
 | exE =>
  obtain⟨c,g1,g2⟩:=Hd H false Ha Hb ls g hs M hp;exact⟨c,f1 [(250,.r c.p)] g1,g2⟩
 | exUE =>
  obtain⟨c,g1,g2⟩:=Hd H true Ha Hb ls g hs M hp;exact⟨c,f1 [(250,.r c.p)] g1,g2⟩
 | andI =>
  obtain⟨r,g1,q⟩:=Ha _ _ _ _ hpa
  cases r with
  | er n=>exact⟨.er n,f1 [(66,.r (PR.er n).p)] g1,RR.good_er (Nat.succ_ne_zero n)⟩
  | ok fa w =>
  obtain⟨q1,⟨ja,j1,j2,j3,j4⟩,p2,p3,p4⟩:=q;obtain⟨r,g2,q⟩:=Hb _ _ _ _ hpb
  cases r with
  | er n =>
   obtain⟨w2,g3,_⟩:=H.union w [] (by simp;omega) (λ z hz=>by have:=p3 z hz;omega) (λ z hz=>by cases hz);exact⟨⟨2,0,[],[],[fa.c,OC],w2,n+1⟩,f4 [(66,.r (PR.ok fa w).p),(79,.r (PR.er n).p),(86,.r (.agg [num 2,num 0,.slice [],.slice [],.slice [fa.c,OC]])),(91,.r (bA w2))] g1 g2 (Jd .and fa) g3,RR.good_er (Nat.succ_ne_zero n)⟩
  | ok fb v =>
   obtain⟨r1,⟨jb,k1,k2,k3,k4⟩,s2,s3,s4⟩:=q;obtain⟨w2,g3,t1,t2,t3,tA⟩:=H.union w v (by omega) (λ z hz=>by have:=p3 z hz;omega) (λ z hz=>by have:=s3 z hz;omega);have e1:=q1.1;have e2:=q1.2.1;have e3:=q1.2.2;have d1:=r1.1;have d2:=r1.2.1;have d3:=r1.2.2;refine⟨.of (.bin .and fa fb) w2 0,f4 [(66,.r (PR.ok fa w).p),(79,.r (PR.ok fb v).p),(86,.r (Fm.bin .and fa fb).p),(91,.r (bA w2))] g1 g2 (oP .and fa fb) g3,λ _=>⟨_,rfl,⟨by show 1+fa.cnt+fb.cnt<=qA;omega,by show max fa.mx fb.mx<=M+mA * (1+a.cnt+b.cnt);rw [hK];omega,by show max fa.tsz fb.tsz<=qA;omega,⟨.p2 .andI ja jb (.bin .and fa fb),by rw [<- j1,<- k1];rfl,rfl,λ hc=>⟨hc,j3,k3,by rw [j2,k2]⟩,λ z hz => ?_⟩,tA,λ z hz => ?_,by show w2.length<=1+a.cnt+b.cnt;omega⟩⟩⟩
   ·rcases hz.2 with h|h
    ·exact t1 z (.inl (j4 z h))
    ·exact t1 z (.inr (k4 z h))
   ·show z<=M+mA * (1+a.cnt+b.cnt);rw [hK];rcases t2 z hz with h|h
    ·have:=p3 z h;omega
    ·have:=s3 z h;omega
 | impE =>
  obtain⟨r,g1,q⟩:=Ha _ _ _ _ hpa
  cases r with
  | er n=>exact⟨.er n,f1 [(175,.r (PR.er n).p)] g1,RR.good_er (Nat.succ_ne_zero n)⟩
  | ok fa w =>
  obtain⟨q1,⟨ja,j1,j2,j3,j4⟩,p2,p3,p4⟩:=q;have bad:fa.kd≠3->∃ c:RR,A 128 [IA ls g hs,(Pf.p2 .impE a b).p] c.p/\c.Good ls g hs M (.p2 .impE a b):=λ hne=>⟨.er 9,f2 [(175,.r (PR.ok fa w).p),(185,.G)] g1 (BC hne),RR.good_er (Nat.succ_ne_zero 9)⟩
  cases fa with
  | eq x y=>exact bad (nofun)
  | q k s x=>exact bad (by cases k<;>exact nofun)
  | bin k x y =>
  cases k with
  | and=>exact bad (nofun)
  | imp =>
  have e1:1+x.cnt+y.cnt<=4096:=q1.1;have e2:max x.mx y.mx<=M+mA * a.cnt:=q1.2.1;have e3:max x.tsz y.tsz<=qA:=q1.2.2;obtain⟨r,g2,q⟩:=Hb _ _ _ _ hpb
  cases r with
  | er n=>exact⟨.er n,f2 [(175,.r (PR.ok (.bin .imp x y) w).p),(193,.r (PR.er n).p)] g1 g2,RR.good_er (Nat.succ_ne_zero n)⟩
  | ok fb v =>
   obtain⟨r1,⟨jb,k1,k2,k3,k4⟩,s2,s3,s4⟩:=q;have d1:=r1.1;have d2:=r1.2.1;have d3:=r1.2.2;obtain⟨w2,g3,t1,t2,t3,tA⟩:=H.union w v (by omega) (λ z hz=>by have:=p3 z hz;omega) (λ z hz=>by have:=s3 z hz;omega);obtain⟨e,g4,g5⟩:=td x fb (by omega) (by omega) (by omega) (by omega) (by omega) d3;refine⟨.of y w2 e,f4 [(175,.r (PR.ok (.bin .imp x y) w).p),(193,.r (PR.ok fb v).p),(209,.r (bA w2)),(217,.N e)] g1 g2 g3 g4,λ he => ?_⟩;have he:e=0:=he;subst he;refine⟨_,rfl,⟨by omega,by show y.mx<=M+mA * (1+a.cnt+b.cnt);rw [hK];omega,by omega,⟨.p2 .impE ja jb y,by rw [<- j1,<- k1];rfl,rfl,λ hc=>⟨hc,j3,k3,x,j2,by rw [k2];exact g5 rfl⟩,λ z hz => ?_⟩,tA,λ z hz => ?_,by show w2.length<=1+a.cnt+b.cnt;omega⟩⟩
   ·rcases hz.2 with h|h
    ·exact t1 z (.inl (j4 z h))
    ·exact t1 z (.inr (k4 z h))
   ·show z<=M+mA * (1+a.cnt+b.cnt);rw [hK];rcases t2 z hz with h|h
    ·have:=p3 z h;omega
    ·have:=s3 z h;omega
theorem GE (H:MF):∀ p:Pf,dD p
 | .leaf u i=>EH (jo u i)
 | .refl t=>EH (vo t)
 | .p1 k a=>EH (wo k (GE H a))
 | .p2 k a b=>EH (bo H k (GE H a) (GE H b))
 | .impI f a=>EH (uo f (GE H a))
 | .all u s a=>EH λ ls g hs M hp=>by
  obtain⟨c,g1,g2⟩:=Rn u s (GE H a) ls g hs M hp;cases u<;>exact⟨c,f1 [(223,.r c.p)] g1,g2⟩
 | .ins u t a=>EH λ ls g hs M hp=>by
  obtain⟨c,g1,g2⟩:=Sn H u t (GE H a) ls g hs M hp;cases u<;>exact⟨c,f1 [(232,.r c.p)] g1,g2⟩
 | .ex u f t a=>EH λ ls g hs M hp=>by
  obtain⟨c,g1,g2⟩:=Tn H u f t (GE H a) ls g hs M hp;cases u<;>exact⟨c,f1 [(241,.r c.p)] g1,g2⟩
 | .ind l f t a b=>EH λ ls g hs M hp=>by
  cases l
  ·obtain⟨c,g1,g2⟩:=Wn H f t (GE H a) (GE H b) ls g hs M hp;exact⟨c,f1 [(258,.r c.p)] g1,g2⟩
  ·obtain⟨c,g1,g2⟩:=Xn H f t (GE H a) (GE H b) ls g hs M hp;exact⟨c,f1 [(266,.r c.p)] g1,g2⟩
 | .subst f a b=>EH λ ls g hs M hp=>by
  obtain⟨c,g1,g2⟩:=Un f (GE H a) (GE H b) ls g hs M hp;exact⟨c,f1 [(291,.r c.p)] g1,g2⟩
theorem sE:∀ t:Ty,A 52 [t.p] t.p
 | .nat=>f0 []
 | .list=>f0 []
 | .unit=>f0 []
 | .two k a b=>f2 [(19,.r a.p),(19,.r b.p)] (sE a) (sE b)
theorem CC:A 52 [zt] zt:=f0 []
theorem fN (a b:Ty):A 53 [a.p,b.p] (.bool (a.same b)):=by
 induction a generalizing b with
 | two k a b h1 h2=>cases b with
  | two l c d =>
   have h1:=h1 c;have h2:=h2 d;show A 53 [(Ty.two k a b).p,(Ty.two l c d).p] (.bool ((k == l) && (a.same c && b.same d)));generalize a.same c=p at *
   generalize b.same d=q at *
   by_cases e:k=l
   ·subst e;cases p
    ·cases k<;>exact f1 [(35,.F)] h1
    ·cases q
     ·cases k<;>exact f2 [(35,.T),(35,.F)] h1 h2
     ·cases k<;>exact f2 [(35,.T),(35,.T)] h1 h2
   ·cases k<;>cases l<;>first|exact absurd rfl e|exact f0 []
  | _=>cases k<;>exact f0 []
 | _=>cases b with
  | two l c d=>cases l<;>exact f0 []
  | _=>exact f0 []
theorem OS:∀ t:Ty,t.size<=dA->A 254 [t.p] (.tuple [num t.size,.bool true])
 | .nat,_=>f0 []
 | .list,_=>f0 []
 | .unit,_=>f0 []
 | .two k a b,h=>by
  have h:1+a.size+b.size<=dA:=h;have h1:=OS a (by omega);have h2:=OS b (by omega);have h3:rA (.ofNat (1+a.size))=true:=YA;cases k<;>exact f4 [(33,.U [num a.size,.bool true]),(40,.ok),(33,.U [num b.size,.bool true]),(40,.ok)] h1 h3 h2 (YA h)
def yC (n m:Nat):Nat:=match kA (.ofNat m) (.ofNat n) with
 | true=>0
 | false=>n
def HE (n m:Nat):Nat:=match kA (.ofNat m) (.ofNat n) with
 | true=>4
 | false=>0
theorem OL {n m:Nat} (h:n<=m):yC n m=n/\HE n m=0:=by
 have e:kA (.ofNat m) (.ofNat n)=false:=CA h;unfold yC HE;rw [e];exact⟨rfl,rfl⟩
theorem po {n m:Nat} (h:m<n:=by omega):yC n m=0/\HE n m=4:=by
 have e:kA (.ofNat m) (.ofNat n)=true:=aA h;unfold yC HE;rw [e];exact⟨rfl,rfl⟩
theorem Kd (n m:Nat):(n<=m/\yC n m=n/\HE n m=0)\/(m<n/\yC n m=0/\HE n m=4):=by
 by_cases h:n<=m
 ·exact .inl ⟨h,OL h⟩
 ·exact .inr ⟨by omega,po⟩
theorem ckE_0 {n m:Nat} : HE n m=0↔n<=m:=by
 rcases Kd n m with ⟨h,_,e⟩|⟨h,_,e⟩<;>rw [e]<;>simp<;>omega
theorem gN (t:Ty) (h:t.size<=dA:=by omega):A 175 [t.p] (.tuple [num (yC t.size 64),num (HE t.size 64)]):=by
 unfold yC HE;cases e:kA (.ofNat 64) (.ofNat t.size)
 ·exact f2 [(8,.U [num t.size,.bool true]),(16,.H)] (OS t h) e
 ·exact f2 [(8,.U [num t.size,.bool true]),(16,.G)] (OS t h) e
theorem lX (t:Ty) (h:t.size<=dA:=by omega):A 105 [t.p] (num (HE t.size 64)):=f1 [(7,.U [num (yC t.size 64),num (HE t.size 64)])] (gN t h)
theorem SG:A 257 [zt] (.bool true):=f0 []
open Go.Lg
def Tm.nd (t:Tm):Nat:=match t.shp with
 | true=>t.cnt
 | false=>0
theorem OI (s:Ty):s.chk=HE s.size 64:=rfl
theorem FH:∀ t:Tm,t.tsz<=dA->t.cnt<=dA->A 176 [t.p] (.tuple [num t.nd,.bool t.shp])
 | .v i,_,_=>by cases i<;>exact f0 []
 | .n0 k,_,_=>by cases k<;>exact f0 []
 | .lam s b,h,hc=>by
  have h:max s.size b.tsz<=dA:=h;have hc:1+b.cnt<=dA:=hc;have h1:=gN s;have h2:=FH b (by omega) (by omega);unfold Tm.nd at *
  unfold Tm.shp;rcases XF s with e|e<;>rw [OI] at e<;>rw [e] at h1<;>rw [OI,e]
  ·cases e2:b.shp<;>rw [e2] at h2
   ·exact f2 [(49,.U [num (yC s.size 64),num 0]),(67,.U [num 0,.bool false])] h1 h2
   ·exact f3 [(49,.U [num (yC s.size 64),num 0]),(67,.U [num b.cnt,.bool true]),(74,.ok)] h1 h2 (YA hc)
  ·exact f1 [(49,.U [num (yC s.size 64),num 4])] h1
 | .n1 k a,h,hc=>by
  have hc:1+a.cnt<=dA:=hc;have h2:=FH a h (by omega);unfold Tm.nd at *
  show A 176 [(Tm.n1 k a).p] (.tuple [num (match a.shp with|true=>1+a.cnt|false=>0),.bool a.shp]);cases e2:a.shp<;>rw [e2] at h2
  ·cases k<;>exact f1 [(67,.U [num 0,.bool false])] h2
  ·cases k<;>exact f2 [(67,.U [num a.cnt,.bool true]),(74,.ok)] h2 (YA hc)
 | .n2 k a b,h,hc=>by
  have h:max a.tsz b.tsz<=dA:=h;have hc:1+a.cnt+b.cnt<=dA:=hc;have h1:=FH a (by omega) (by omega);have h2:=FH b (by omega) (by omega);have hc1:rA (.ofNat (1+a.cnt))=true:=YA;unfold Tm.nd at *
  show A 176 [(Tm.n2 k a b).p] (.tuple [num (match a.shp && b.shp with|true=>1+a.cnt+b.cnt|false=>0),.bool (a.shp && b.shp)]);cases e1:a.shp<;>rw [e1] at h1
  ·cases k<;>exact f1 [(67,.U [num 0,.bool false])] h1
  ·cases e2:b.shp<;>rw [e2] at h2
   ·cases k<;>exact f3 [(67,.U [num a.cnt,.bool true]),(74,.ok),(67,.U [num 0,.bool false])] h1 hc1 h2
   ·cases k<;>exact f4 [(67,.U [num a.cnt,.bool true]),(74,.ok),(67,.U [num b.cnt,.bool true]),(74,.ok)] h1 hc1 h2 (YA hc)
 | .n3 k s a b c,h,hc=>by
  have h:max (max s.size a.tsz) (max b.tsz c.tsz)<=dA:=h;have hc:1+a.cnt+b.cnt+c.cnt<=dA:=hc;have h0:=gN s;have h1:=FH a (by omega) (by omega);have h2:=FH b (by omega) (by omega);have h3:=FH c (by omega) (by omega);have hc1:rA (.ofNat (1+a.cnt))=true:=YA;have hc2:rA (.ofNat (1+a.cnt+b.cnt))=true:=YA;unfold Tm.nd at *
  unfold Tm.shp;rcases XF s with e|e<;>rw [OI] at e<;>rw [e] at h0<;>rw [OI,e]
  ·cases e1:a.shp<;>rw [e1] at h1
   ·cases k<;>exact f2 [(49,.U [num (yC s.size 64),num 0]),(67,.U [num 0,.bool false])] h0 h1
   ·cases e2:b.shp<;>rw [e2] at h2
    ·cases k<;>exact f4 [(49,.U [num (yC s.size 64),num 0]),(67,.U [num a.cnt,.bool true]),(74,.ok),(67,.U [num 0,.bool false])] h0 h1 hc1 h2
    ·cases e3:c.shp<;>rw [e3] at h3
     ·cases k<;>exact f6 [(49,.U [num (yC s.size 64),num 0]),(67,.U [num a.cnt,.bool true]),(74,.ok),(67,.U [num b.cnt,.bool true]),(74,.ok),(67,.U [num 0,.bool false])] h0 h1 hc1 h2 hc2 h3
     ·cases k<;>exact f7 [(49,.U [num (yC s.size 64),num 0]),(67,.U [num a.cnt,.bool true]),(74,.ok),(67,.U [num b.cnt,.bool true]),(74,.ok),(67,.U [num c.cnt,.bool true]),(74,.ok)] h0 h1 hc1 h2 hc2 h3 (YA hc)
  ·cases k<;>exact f1 [(49,.U [num (yC s.size 64),num 4])] h0
def Tm.ckn (t:Tm):Nat:=match t.chk with
 | 0=>t.cnt
 | _=>0
theorem PS (t:Tm) (h1:t.tsz<=dA) (h2:t.cnt<=dA:=by omega):A 106 [t.p] (.tuple [num t.ckn,num t.chk]):=by
 have h3:=FH t h1 h2;unfold Tm.nd at h3;unfold Tm.ckn Tm.chk;cases e:t.shp<;>rw [e] at h3
 ·exact f1 [(8,.U [num 0,.bool false])] h3
 ·cases e2:kA (.ofNat 4096) (.ofNat t.cnt)
  ·exact f2 [(8,.U [num t.cnt,.bool true]),(16,.H)] h3 e2
  ·exact f2 [(8,.U [num t.cnt,.bool true]),(16,.G)] h3 e2
theorem a297 (t:Tm) (h1:t.tsz<=dA) (h2:t.cnt<=dA):A 290 [t.p] (.tuple [num t.ckn,num t.chk]):=f1 [(5,.U [num t.ckn,num t.chk])] (PS t h1 h2)
theorem a92 (t:Tm) (h1:t.tsz<=dA:=by omega) (h2:t.cnt<=dA:=by omega):A 49 [t.p] (num t.chk):=f1 [(7,.U [num t.ckn,num t.chk])] (PS t h1 h2)
theorem Tm.chk0 {t:Tm} (h:t.chk=0):t.cnt<=4096/\t.shp=true:=by
 unfold Tm.chk at h
 cases e1:t.shp with
 | false=>rw [e1] at h;cases h
 | true =>
  rw [e1] at h
  cases e2:kA (.ofNat 4096) (.ofNat t.cnt) with
  | true=>rw [e2] at h;cases h
  | false =>
   rw [KB] at e2;simp at e2;exact⟨by omega,rfl⟩
theorem Tm.ckn0 {t:Tm} (h:t.chk=0):t.ckn=t.cnt:=by unfold Tm.ckn;split<;>simp_all
theorem yG:A 53 [.agg [num 0,.slice []],.agg [num 0,.slice []]] (.bool true):=f0 []
theorem mN {a:Tm} (H:∀ b:Tm,a.kd=b.kd->∃ r,A 321 [a.p,b.p] (.bool r)/\(r=true↔a=b)) (b:Tm):∃ r,A 321 [a.p,b.p] (.bool r)/\(r=true↔a=b):=by
 by_cases h:a.kd=b.kd
 ·exact H b h
 ·exact⟨false,f1 [(11,.G)] (BC h),ff λ e=>h (by rw [e])⟩
theorem GH:∀ a b:Tm,∃ r,A 321 [a.p,b.p] (.bool r)/\(r=true↔a=b)
 | .v i=>mN λ b h=>by
  cases b with
  | v j =>
   by_cases e:i=j
   ·subst e;exact⟨true,f2 [(17,.H),(24,.T)] (tB i) yG,by simp_all⟩
   ·exact⟨false,f1 [(17,.G)] (BC e),by simp_all⟩
  | _=>have:=congrArg dF h;rw [lC,lC] at this;cases this
 | .n0 k=>mN λ b h=>by
  cases b with
  | n0 l=>cases K0.inj h;exact⟨true,f2 [(11,.H),(24,.T)] (tB k.n) yG,by simp_all⟩
  | _=>have:=congrArg dF h;rw [lC,lC] at this;cases this
 | .lam s a=>mN λ b h=>by
  cases b with
  | lam u b =>
   have h1:=fN s u;have e1:=uD s u;cases e:s.same u<;>rw [e] at h1 e1
   ·exact⟨false,f1 [(24,.F)] h1,by simp_all⟩
   ·obtain⟨r,h3,q3⟩:=GH a b;cases r
    ·exact⟨false,f2 [(24,.T),(50,.F)] h1 h3,by simp_all⟩
    ·exact⟨true,f2 [(24,.T),(50,.T)] h1 h3,by simp_all⟩
  | _=>have:=congrArg dF h;rw [lC,lC] at this;cases this
 | .n1 k a=>mN λ b h=>by
  cases b with
  | n1 l b =>
   cases K1.inj h;obtain⟨r,h3,q3⟩:=GH a b;cases r
   ·exact⟨false,f3 [(11,.H),(24,.T),(50,.F)] (tB k.n) yG h3,by simp_all⟩
   ·exact⟨true,f3 [(11,.H),(24,.T),(50,.T)] (tB k.n) yG h3,by simp_all⟩
  | _=>have:=congrArg dF h;rw [lC,lC] at this;cases this
 | .n2 k a c=>mN λ b h=>by
  cases b with
  | n2 l b d =>
   cases K2.inj h;obtain⟨r,h3,q3⟩:=GH a b;obtain⟨q,h4,q4⟩:=GH c d;cases r
   ·exact⟨false,f3 [(11,.H),(24,.T),(50,.F)] (tB k.n) yG h3,by simp_all⟩
   ·cases q
    ·exact⟨false,f4 [(11,.H),(24,.T),(50,.T),(50,.F)] (tB k.n) yG h3 h4,by simp_all⟩
    ·exact⟨true,f4 [(11,.H),(24,.T),(50,.T),(50,.T)] (tB k.n) yG h3 h4,by simp_all⟩
  | _=>have:=congrArg dF h;rw [lC,lC] at this;cases this
 | .n3 k s a c e=>mN λ b h=>by
  cases b with
  | n3 l u b d f =>
   cases K3.inj h;have h2:=fN s u;have e1:=uD s u;obtain⟨r,h3,q3⟩:=GH a b;obtain⟨q,h4,q4⟩:=GH c d;obtain⟨p,h5,q5⟩:=GH e f;cases e2:s.same u<;>rw [e2] at h2 e1
   ·exact⟨false,f2 [(11,.H),(24,.F)] (tB k.n) h2,by simp_all⟩
   cases r
   ·exact⟨false,f3 [(11,.H),(24,.T),(50,.F)] (tB k.n) h2 h3,by simp_all⟩
   cases q
   ·exact⟨false,f4 [(11,.H),(24,.T),(50,.T),(50,.F)] (tB k.n) h2 h3 h4,by simp_all⟩
   cases p
   ·exact⟨false,f5 [(11,.H),(24,.T),(50,.T),(50,.T),(50,.F)] (tB k.n) h2 h3 h4 h5,by simp_all⟩
   ·exact⟨true,f5 [(11,.H),(24,.T),(50,.T),(50,.T),(50,.T)] (tB k.n) h2 h3 h4 h5,by simp_all⟩
  | _=>have:=congrArg dF h;rw [lC,lC] at this;cases this
theorem Ld (a b:Tm):∃ r,A 330 [a.p,b.p] (.bool r)/\(r=true↔a=b):=by
 obtain⟨r,h,q⟩:=GH a b;exact⟨r,f1 [(7,.r (.bool r))] h,q⟩
abbrev BA (s:Ty):List PV:=[num s.kd,.slice s.es,num (yC s.size 64)]
abbrev ZA (g:List Ty):PV:=.slice (g.map BA)
theorem QS (s:Ty):(BA s).length=3:=rfl
def TR.nn:TR->Nat
 | .er _=>0
 | .ok s=>yC s.size 64
def TR.q (r:TR):PV:=.tuple [.agg [num r.k,.slice r.l,num r.nn],num r.n]
theorem fD (s:Ty) (h:s.size<=dA:=by omega):A 107 [s.p] (.agg (BA s)):=f1 [(7,.U [num (yC s.size 64),num (HE s.size 64)])] (gN s h)
theorem mX (s u:Ty):∃ r,A 180 [.agg (BA s),.agg (BA u)] (.bool r)/\r=s.same u:=by
 cases e:lB (.ofNat (yC s.size 64)) (.ofNat (yC u.size 64))
 ·refine⟨false,f1 [(9,.H)] e,?_⟩
  cases h:s.same u with
  | false=>rfl
  | true=>rw [(uD s u).1 h,xI] at e;cases e
 ·exact⟨s.same u,f2 [(9,.G),(15,.r (.bool (s.same u)))] e (fN s u),rfl⟩
theorem Md (k:Bool) (s u:Ty) (h1:s.size<=64) (h2:u.size<=64):∃ r:TR,A 108 [num (bn k 3 4),.agg (BA s),.agg (BA u)] r.q/\r.sz<=64/\r = .fit (.two k s u):=by
 have e1:=(OL h1).1;have e2:=(OL h2).1;unfold BA;rw [e1,e2];have hb:=uA;have g1:rA (.ofNat (1+s.size))=true:=YA;have g2:rA (.ofNat (1+s.size+u.size))=true:=YA;by_cases h:1+s.size+u.size<=64
 ·have e:kA (.ofNat 64) (.ofNat (1+s.size+u.size))=false:=CA h;have e3:yC (1+s.size+u.size) 64=1+s.size+u.size:=(OL h).1;have e4:(TR.ok (.two k s u)).q = .tuple [.agg [num (bn k 3 4),.slice [s.c,u.c],num (1+s.size+u.size)],num 0]:=by
   show PV.tuple [.agg [num (Ty.two k s u).kd,.slice [s.c,u.c],num (yC (1+s.size+u.size) 64)],num 0]=_;rw [e3];cases k<;>rfl
  refine⟨.ok (.two k s u),?_,h,by unfold TR.fit;rw [if_pos (show (Ty.two k s u).size<=64 from h)]⟩;rw [e4];exact f3 [(11,.ok),(14,.ok),(16,.H)] g1 g2 e
 ·have e:kA (.ofNat 64) (.ofNat (1+s.size+u.size))=true:=aA;exact⟨.er 3,f3 [(11,.ok),(14,.ok),(16,.G)] g1 g2 e,Nat.zero_le _,by unfold TR.fit;rw [if_neg (show ¬(Ty.two k s u).size<=64 from h)]⟩
abbrev pN:List PV:=[num 0,.slice [],num 0]
theorem so (k:K0):∃ r:TR,A 109 [(Tm.n0 k).p,.agg (pN++pN++pN)] r.q/\r.sz<=64/\r=(Tm.n0 k).tyR []:=by
 cases k
 ·exact⟨.ok .nat,f1 [(37,.r (.agg (BA .nat)))] (fD .nat (by decide)),by decide,rfl⟩
 ·exact⟨.ok .list,f1 [(37,.r (.agg (BA .list)))] (fD .list (by decide)),by decide,rfl⟩
 ·exact⟨.ok .unit,f1 [(37,.r (.agg (BA .unit)))] (fD .unit (by decide)),by decide,rfl⟩
theorem ao (k:K1) (a:Tm) (s:Ty) (h:s.size<=64):∃ r:TR,A 109 [(Tm.n1 k a).p,.agg (BA s++pN++pN)] r.q/\r.sz<=64/\r=SD k (.ok s):=by
 have hb:=uA;cases k
 ·cases s with
  | nat=>exact⟨.ok .nat,f1 [(37,.r (.agg (BA .nat)))] (fD .nat (by decide)),by decide,rfl⟩
  | two k s u=>cases k<;>exact⟨.er 6,f0 [],Nat.zero_le _,rfl⟩
  | _=>exact⟨.er 6,f0 [],Nat.zero_le _,rfl⟩
 ·cases s with
  | two k s u =>
   have h:1+s.size+u.size<=64:=h;cases k
   ·exact⟨.ok s,f1 [(110,.n [(11,.r (.agg (BA s)))])] (fD s),by show s.size<=64;omega,rfl⟩
   ·exact⟨.er 6,f0 [],Nat.zero_le _,rfl⟩
  | _=>exact⟨.er 6,f0 [],Nat.zero_le _,rfl⟩
 ·cases s with
  | two k s u =>
   have h:1+s.size+u.size<=64:=h;cases k
   ·exact⟨.ok u,f1 [(113,.n [(11,.r (.agg (BA u)))])] (fD u),by show u.size<=64;omega,rfl⟩
   ·exact⟨.er 6,f0 [],Nat.zero_le _,rfl⟩
  | _=>exact⟨.er 6,f0 [],Nat.zero_le _,rfl⟩
theorem co (k:K2) (a b:Tm) (s v:Ty) (h:s.size<=64) (h':v.size<=64):∃ r:TR,A 109 [(Tm.n2 k a b).p,.agg (BA s++BA v++pN)] r.q/\r.sz<=64/\r=mC k (.ok s) (.ok v):=by
 have hb:=uA;cases k
 ·cases s with
  | two k s u =>
   have h:1+s.size+u.size<=64:=h;cases k
   ·exact⟨.er 6,f0 [],Nat.zero_le _,rfl⟩
   ·obtain⟨b,g,hb'⟩:=mX s v;cases b
    ·exact⟨.er 6,f2 [(49,.n [(11,.r (.agg (BA s)))]),(52,.F)] (fD s) g,Nat.zero_le _,by show _=bif s.same v then _ else _;rw [<- hb'];rfl⟩
    ·exact⟨.ok u,f3 [(49,.n [(11,.r (.agg (BA s)))]),(52,.T),(58,.n [(11,.r (.agg (BA u)))])] (fD s) g (fD u),by show u.size<=64;omega,by show _=bif s.same v then _ else _;rw [<- hb'];rfl⟩
  | _=>exact⟨.er 6,f0 [],Nat.zero_le _,rfl⟩
 ·cases s with
  | nat=>cases v with
   | list=>exact⟨.ok .list,f1 [(37,.r (.agg (BA .list)))] (fD .list (by decide)),by decide,rfl⟩
   | two k s u=>cases k<;>exact⟨.er 6,f0 [],Nat.zero_le _,rfl⟩
   | _=>exact⟨.er 6,f0 [],Nat.zero_le _,rfl⟩
  | two k s u=>cases k<;>exact⟨.er 6,f0 [],Nat.zero_le _,rfl⟩
  | _=>exact⟨.er 6,f0 [],Nat.zero_le _,rfl⟩
 ·obtain⟨r,g,g',g2⟩:=Md false s v h h'
  cases r with
  | er n=>exact⟨.er n,f1 [(97,.r (TR.er n).q)] g,g',g2⟩
  | ok w=>exact⟨.ok w,f1 [(97,.r (TR.ok w).q)] g,g',g2⟩
def XB:K3->Ty->Ty
 | .re,s => .two true .nat (.two true s s)
 | .fo,s => .two true .nat (.two true .list (.two true s s))
theorem oo (k:K3) (s:Ty) (a b c:Tm):A 181 [(Tm.n3 k s a b c).p] (XB k s).p:=by
 cases k<;>exact f0 []
theorem Ao (k:K3) (z:Ty) (a b c:Tm) (s v w:Ty) (h:z.size<=64):∃ r:TR,A 109 [(Tm.n3 k z a b c).p,.agg (BA s++BA v++BA w)] r.q/\r.sz<=64/\r=bB k z (.ok s) (.ok v) (.ok w):=by
 have hb:=uA;have g1:=fD z;obtain⟨b1,g2,hs⟩:=mX s z;have g3:=oo k z a b c;have g4:=fN v (XB k z);cases b1
 ·cases k<;>exact⟨.er 6,f2 [(64,.r (.agg (BA z))),(71,.F)] g1 g2,Nat.zero_le _,by simp only [bB,<- hs,cond_false]⟩
 cases e:v.same (XB k z)<;>rw [e] at g4
 ·cases k
  ·exact⟨.er 6,f4 [(64,.r (.agg (BA z))),(71,.T),(78,.r (XB .re z).p),(79,.F)] g1 g2 g3 g4,Nat.zero_le _,by simp only [XB] at e;simp only [bB,<- hs,e,cond_false,cond_true]⟩
  ·exact⟨.er 6,f4 [(64,.r (.agg (BA z))),(71,.T),(78,.r (XB .fo z).p),(79,.F)] g1 g2 g3 g4,Nat.zero_le _,by simp only [XB] at e;simp only [bB,<- hs,e,cond_false,cond_true]⟩
 ·have key:(∃ r:TR,A 109 [(Tm.n3 k z a b c).p,.agg (BA s++BA v++BA w)] r.q/\r.sz<=64/\r=bB k z (.ok s) (.ok v) (.ok w)):=by
   cases w with
   | two l w1 w2 =>
    cases l<;>cases k
    ·exact⟨.er 6,f4 [(64,.r (.agg (BA z))),(71,.T),(78,.r (XB .re z).p),(79,.T)] g1 g2 g3 g4,Nat.zero_le _,by simp only [XB] at e;simp only [bB,<- hs,e,cond_true];rfl⟩
    ·exact⟨.er 6,f4 [(64,.r (.agg (BA z))),(71,.T),(78,.r (XB .fo z).p),(79,.T)] g1 g2 g3 g4,Nat.zero_le _,by simp only [XB] at e;simp only [bB,<- hs,e,cond_true];rfl⟩
    ·exact⟨.er 6,f4 [(64,.r (.agg (BA z))),(71,.T),(78,.r (XB .re z).p),(79,.T)] g1 g2 g3 g4,Nat.zero_le _,by simp only [XB] at e;simp only [bB,<- hs,e,cond_true];rfl⟩
    ·exact⟨.er 6,f4 [(64,.r (.agg (BA z))),(71,.T),(78,.r (XB .fo z).p),(79,.T)] g1 g2 g3 g4,Nat.zero_le _,by simp only [XB] at e;simp only [bB,<- hs,e,cond_true];rfl⟩
   | nat =>
     cases k
     ·exact⟨.ok z,f4 [(64,.r (.agg (BA z))),(71,.T),(78,.r (XB .re z).p),(79,.T)] g1 g2 g3 g4,h,by simp only [XB] at e;simp only [bB,<- hs,e,cond_true];rfl⟩
     ·exact⟨.er 6,f4 [(64,.r (.agg (BA z))),(71,.T),(78,.r (XB .fo z).p),(79,.T)] g1 g2 g3 g4,Nat.zero_le _,by simp only [XB] at e;simp only [bB,<- hs,e,cond_true];rfl⟩
   | list =>
     cases k
     ·exact⟨.er 6,f4 [(64,.r (.agg (BA z))),(71,.T),(78,.r (XB .re z).p),(79,.T)] g1 g2 g3 g4,Nat.zero_le _,by simp only [XB] at e;simp only [bB,<- hs,e,cond_true];rfl⟩
     ·exact⟨.ok z,f4 [(64,.r (.agg (BA z))),(71,.T),(78,.r (XB .fo z).p),(79,.T)] g1 g2 g3 g4,h,by simp only [XB] at e;simp only [bB,<- hs,e,cond_true];rfl⟩
   | unit =>
    cases k
    ·exact⟨.er 6,f4 [(64,.r (.agg (BA z))),(71,.T),(78,.r (XB .re z).p),(79,.T)] g1 g2 g3 g4,Nat.zero_le _,by simp only [XB] at e;simp only [bB,<- hs,e,cond_true];rfl⟩
    ·exact⟨.er 6,f4 [(64,.r (.agg (BA z))),(71,.T),(78,.r (XB .fo z).p),(79,.T)] g1 g2 g3 g4,Nat.zero_le _,by simp only [XB] at e;simp only [bB,<- hs,e,cond_true];rfl⟩
  exact key
open Go.Lg
def Tm.sc:Nat->Tm->Prop
 | n,.v i=>i<n
 | n,.lam _ b=>b.sc (n+1)
 | _,.n0 _=>True
 | n,.n1 _ a=>a.sc n
 | n,.n2 _ a b=>a.sc n/\b.sc n
 | n,.n3 _ _ a b d=>a.sc n/\b.sc n/\d.sc n
theorem DA {a b:Bool} (h:(a && b)=true):a=true/\b=true:=by simpa using h
theorem IE {s:Ty} (h:Nat.beq s.chk 0=true):s.size<=64:=ckE_0.1 (Nat.eq_of_beq_eq_true h)
abbrev nX (g:List Ty) (t:Tm) (r:TR):Prop:=A 51 [ZA g,t.p] r.q/\r.sz<=64/\(∀ s,r = .ok s->t.sc g.length)/\r=t.tyR g
theorem XJ {g:List Ty} {t:Tm} {n:Nat} (h:A 51 [ZA g,t.p] (TR.er n).q) (e:TR.er n=t.tyR g):∃ r:TR,nX g t r:=⟨.er n,h,Nat.zero_le _,(λ _ h=>nomatch h),e⟩
theorem rN {g:List Ty} {t:Tm} {r:TR} (h:t.sc g.length) (h1:A 51 [ZA g,t.p] r.q) (h2:r.sz<=64) (e:r=t.tyR g):∃ r:TR,nX g t r:=⟨r,h1,h2,λ _ _=>h,e⟩
theorem HH:∀ (t:Tm) (g:List Ty),(∀ s∈g,s.size<=64)->t.shp=true->g.length+t.cnt<=qA->∃ r:TR,nX g t r
 | .v i,g,hg,_,hl=>by
  have hm:=jA;by_cases h:i<g.length
  ·obtain⟨s,hx⟩:∃ s,g[g.length-1-i]? = some s:=⟨_,List.getElem?_eq_getElem (by omega)⟩;have h1:(!kA (.ofNat i) (.ofNat (g.map BA).length))=false:=by rw [aA (by simpa using h)];rfl
   have h2:rA (Int.ofNat (g.map BA).length-1)=true/\Int.ofNat (g.map BA).length-1 = .ofNat (g.length-1):=by
    have e:Int.ofNat (g.map BA).length-1 = .ofNat (g.length-1):=by simp;omega
    exact⟨by rw [e];exact eA,e⟩
   have h3:rA (Int.ofNat (g.length-1) - .ofNat i)=true/\Int.ofNat (g.length-1) - .ofNat i = .ofNat (g.length-1-i):=by
    have e:Int.ofNat (g.length-1) - .ofNat i = .ofNat (g.length-1-i):=by simp;omega
    exact⟨by rw [e];exact eA,e⟩
   exact rN (r:=.ok s) h (f4 [(21,.H),(26,.z (g.length-1)),(29,.z (g.length-1-i)),(30,.i (BA s))] h1 h2 h3 (KA hx QS)) (hg s (List.mem_of_getElem? hx)) (by show _=vB g i;unfold vB;rw [if_pos h,hx])
  ·have h1:(!kA (.ofNat i) (.ofNat (g.map BA).length))=true:=by rw [CA (by simpa using h)];rfl
   exact XJ (n:=5) (f1 [(21,.G)] h1) (by show _=vB g i;unfold vB;rw [if_neg h])
 | .lam s b,g,hg,hs,hl=>by
  have hm:=jA;have hb:=uA;have hl:g.length+(1+b.cnt)<=qA:=hl;obtain⟨hs1,hs2⟩:=DA hs;have hz:=IE hs1;have g1:=CE (g.map BA).length;have g2:=mE 3 40 QS (by decide) g s (by omega) (by simp only [maxLen];omega);obtain⟨r,q1,q2,q3,q0⟩:=HH b (g++[s]) (λ u hu=>by rcases List.mem_append.1 hu with h|h;exact hg u h;simp at h;subst h;exact hz) hs2 (by simp;omega);rw [show ZA (g++[s]) = .slice (g.map BA++[BA s]) by simp [ZA]] at q1
  cases r with
  | er n=>exact XJ (n:=n) (f4 [(37,.r (.agg (BA s))),(44,.ok),(47,.ok),(52,.r (TR.er n).q)] (fD s) g1 g2 q1) (by show _=ZF s (b.tyR (g++[s]));rw [<- q0];rfl)
  | ok u =>
   have hsc:(Tm.lam s b).sc g.length:=by have:=q3 u rfl;simpa [Tm.sc] using this
   obtain⟨r,q4,q5,q6⟩:=Md true s u hz q2;exact rN hsc (f5 [(37,.r (.agg (BA s))),(44,.ok),(47,.ok),(52,.r (TR.ok u).q),(61,.r r.q)] (fD s) g1 g2 q1 q4) q5 (by show _=ZF s (b.tyR (g++[s]));rw [<- q0];exact q6)
 | .n0 k,g,hg,hs,hl=>by
  obtain⟨r,q4,q5,q6⟩:=so k;cases k<;>exact rN trivial (f1 [(88,.r r.q)] q4) q5 q6
 | .n1 k a,g,hg,hs,hl=>by
  have hl:g.length+(1+a.cnt)<=qA:=hl;obtain⟨r,q1,q2,q3,q0⟩:=HH a g hg hs (by omega)
  cases r with
  | er n=>cases k<;>exact XJ (n:=n) (f1 [(75,.r (TR.er n).q)] q1) (by show _=SD _ (a.tyR g);rw [<- q0];rfl)
  | ok u =>
   have hsc:(Tm.n1 k a).sc g.length:=q3 u rfl;obtain⟨r,q4,q5,q6⟩:=ao k a u q2;cases k<;>exact rN hsc (f2 [(75,.r (TR.ok u).q),(88,.r r.q)] q1 q4) q5 (by show _=SD _ (a.tyR g);rw [<- q0];exact q6)
 | .n2 k a b,g,hg,hs,hl=>by
  have hl:g.length+(1+a.cnt+b.cnt)<=qA:=hl;obtain⟨hs1,hs2⟩:=DA hs;obtain⟨r,q1,q2,q3,q0⟩:=HH a g hg hs1 (by omega)
  cases r with
  | er n=>cases k<;>exact XJ (n:=n) (f1 [(75,.r (TR.er n).q)] q1) (by show _=mC _ (a.tyR g) (b.tyR g);rw [<- q0];rfl)
  | ok u =>
   obtain⟨r,p1,p2,p3,p0⟩:=HH b g hg hs2 (by omega)
   cases r with
   | er n=>cases k<;>exact XJ (n:=n) (f2 [(75,.r (TR.ok u).q),(75,.r (TR.er n).q)] q1 p1) (by show _=mC _ (a.tyR g) (b.tyR g);rw [<- q0,<- p0];rfl)
   | ok v =>
    have hsc:(Tm.n2 k a b).sc g.length:=⟨q3 u rfl,p3 v rfl⟩;obtain⟨r,q4,q5,q6⟩:=co k a b u v q2 p2;cases k<;>exact rN hsc (f3 [(75,.r (TR.ok u).q),(75,.r (TR.ok v).q),(88,.r r.q)] q1 p1 q4) q5 (by show _=mC _ (a.tyR g) (b.tyR g);rw [<- q0,<- p0];exact q6)
 | .n3 k s a b c,g,hg,hs,hl=>by
  have hl:g.length+(1+a.cnt+b.cnt+c.cnt)<=qA:=hl;obtain⟨hs0,hs⟩:=DA hs;obtain⟨hs1,hs⟩:=DA hs;obtain⟨hs2,hs3⟩:=DA hs;obtain⟨r,q1,q2,q3,q0⟩:=HH a g hg hs1 (by omega)
  cases r with
  | er n=>cases k<;>exact XJ (n:=n) (f1 [(75,.r (TR.er n).q)] q1) (by show _=bB _ s (a.tyR g) (b.tyR g) (c.tyR g);rw [<- q0];rfl)
  | ok u =>
   obtain⟨r,p1,p2,p3,p0⟩:=HH b g hg hs2 (by omega)
   cases r with
   | er n=>cases k<;>exact XJ (n:=n) (f2 [(75,.r (TR.ok u).q),(75,.r (TR.er n).q)] q1 p1) (by show _=bB _ s (a.tyR g) (b.tyR g) (c.tyR g);rw [<- q0,<- p0];rfl)
   | ok v =>
    obtain⟨r,o1,o2,o3,o0⟩:=HH c g hg hs3 (by omega)
    cases r with
    | er n=>cases k<;>exact XJ (n:=n) (f3 [(75,.r (TR.ok u).q),(75,.r (TR.ok v).q),(75,.r (TR.er n).q)] q1 p1 o1) (by show _=bB _ s (a.tyR g) (b.tyR g) (c.tyR g);rw [<- q0,<- p0,<- o0];rfl)
    | ok w =>
     have hsc:(Tm.n3 k s a b c).sc g.length:=⟨q3 u rfl,p3 v rfl,o3 w rfl⟩;obtain⟨r,q4,q5,q6⟩:=Ao k s a b c u v w (IE hs0);cases k<;>exact rN hsc (f4 [(75,.r (TR.ok u).q),(75,.r (TR.ok v).q),(75,.r (TR.ok w).q),(88,.r r.q)] q1 p1 o1 q4) q5 (by show _=bB _ s (a.tyR g) (b.tyR g) (c.tyR g);rw [<- q0,<- p0,<- o0];exact q6)
theorem pX (g:List Ty) (t:Tm) (n:Nat) (hg:∀ s∈g,s.size<=64) (h1:t.shp=true) (h2:g.length+t.cnt<=qA):∃ e,A 229 [ZA g,t.p,num n] (num e)/\(e=0->t.sc g.length)/\(∀ s,t.tyR g = .ok s->s.kd=n->e=0):=by
 obtain⟨r,q1,q2,q3,q4⟩:=HH t g hg h1 h2
 cases r with
 | er e=>exact⟨e+1,f1 [(12,.r (TR.er e).q)] q1,(λ h=>nomatch h),λ s h=>by rw [<- q4] at h;cases h⟩
 | ok s =>
  by_cases c:s.kd=n
  ·exact⟨0,f2 [(12,.r (TR.ok s).q),(20,.n [(9,.G)])] q1 (show lB (.ofNat s.kd) (.ofNat n)=true by rw [c];exact xI n),(λ _=>q3 s rfl),λ _ _ _=>rfl⟩
  ·exact⟨7,f2 [(12,.r (TR.ok s).q),(20,.n [(9,.H)])] q1 (YF c),(λ h=>nomatch h),λ u h hk=>by rw [<- q4] at h;cases h;exact absurd hk c⟩
theorem rX (g:List Ty) (t:Tm) (hg:∀ s∈g,s.size<=64) (h1:t.shp=true) (h2:g.length+t.cnt<=qA:=by omega):∃ e,A 231 [ZA g,t.p] (num e)/\(e=0->t.sc g.length)/\(t.tyR g = .ok .nat->e=0):=by
 obtain⟨e,q1,q2,q3⟩:=pX g t 1 hg h1 h2;exact⟨e,f1 [(7,.N e)] q1,q2,λ h=>q3 _ h rfl⟩
def Fm.frm:Fm->Bool
 | .q _ s _=>Nat.beq s.chk 0
 | _=>true
theorem sX (f:Fm) (h:f.tsz<=dA):A 253 [f.p] (.bool f.frm):=by
 cases f with
 | eq a b=>exact f1 [(31,.T)] SG
 | bin k f g=>cases k<;>exact f1 [(31,.T)] SG
 | q k s f =>
  have h:max s.size f.tsz<=dA:=h;have h1:=gN s;show A 253 [(Fm.q k s f).p] (.bool (Nat.beq s.chk 0));rcases XF s with e|e<;>rw [OI] at e<;>rw [e] at h1<;>rw [OI,e]
  ·cases k<;>exact f1 [(24,.U [num (yC s.size 64),num 0])] h1
  ·cases k<;>exact f1 [(24,.U [num (yC s.size 64),num 4])] h1
def Fm.nd (f:Fm):Nat:=match f.shp with
 | true=>f.cnt
 | false=>0
theorem RS:∀ f:Fm,f.tsz<=dA->f.cnt<=dA->A 174 [f.p] (.tuple [num f.nd,.bool f.shp])
 | .eq a b,h,hc=>by
  have h:max a.tsz b.tsz<=dA:=h;have hc:1+a.cnt+b.cnt<=dA:=hc;have h1:=FH a (by omega) (by omega);have h2:=FH b (by omega) (by omega);have hc1:rA (.ofNat (1+a.cnt))=true:=YA;have h0:=sX (.eq a b) h;unfold Fm.nd Tm.nd at *
  show A 174 [(Fm.eq a b).p] (.tuple [num (match a.shp && b.shp with|true=>1+a.cnt+b.cnt|false=>0),.bool (a.shp && b.shp)]);cases e1:a.shp<;>rw [e1] at h1
  ·exact f2 [(14,.T),(25,.U [num 0,.bool false])] h0 h1
  ·cases e2:b.shp<;>rw [e2] at h2
   ·exact f4 [(14,.T),(25,.U [num a.cnt,.bool true]),(32,.ok),(25,.U [num 0,.bool false])] h0 h1 hc1 h2
   ·exact f5 [(14,.T),(25,.U [num a.cnt,.bool true]),(32,.ok),(25,.U [num b.cnt,.bool true]),(32,.ok)] h0 h1 hc1 h2 (YA hc)
 | .bin k a b,h,hc=>by
  have h:max a.tsz b.tsz<=dA:=h;have hc:1+a.cnt+b.cnt<=dA:=hc;have h1:=RS a (by omega) (by omega);have h2:=RS b (by omega) (by omega);have hc1:rA (.ofNat (1+a.cnt))=true:=YA;have h0:=sX (.bin k a b) h;unfold Fm.nd at *
  show A 174 [(Fm.bin k a b).p] (.tuple [num (match a.shp && b.shp with|true=>1+a.cnt+b.cnt|false=>0),.bool (a.shp && b.shp)]);cases e1:a.shp<;>rw [e1] at h1
  ·cases k<;>exact f2 [(14,.T),(43,.U [num 0,.bool false])] h0 h1
  ·cases e2:b.shp<;>rw [e2] at h2
   ·cases k<;>exact f4 [(14,.T),(43,.U [num a.cnt,.bool true]),(50,.ok),(43,.U [num 0,.bool false])] h0 h1 hc1 h2
   ·cases k<;>exact f5 [(14,.T),(43,.U [num a.cnt,.bool true]),(50,.ok),(43,.U [num b.cnt,.bool true]),(50,.ok)] h0 h1 hc1 h2 (YA hc)
 | .q k s a,h,hc=>by
  have h0:A 253 [(Fm.q k s a).p] (.bool (Nat.beq s.chk 0)):=sX (.q k s a) h;have h:max s.size a.tsz<=dA:=h;have hc:1+a.cnt<=dA:=hc;have h1:=RS a (by omega) (by omega);unfold Fm.nd at *
  show A 174 [(Fm.q k s a).p] (.tuple [num (match Nat.beq s.chk 0 && a.shp with|true=>1+a.cnt|false=>0),.bool (Nat.beq s.chk 0 && a.shp)]);cases e0:Nat.beq s.chk 0<;>rw [e0] at h0
  ·cases k<;>exact f1 [(14,.F)] h0
  ·cases e1:a.shp<;>rw [e1] at h1
   ·cases k<;>exact f2 [(14,.T),(43,.U [num 0,.bool false])] h0 h1
   ·cases k<;>exact f3 [(14,.T),(43,.U [num a.cnt,.bool true]),(50,.ok)] h0 h1 (YA hc)
def Fm.ckn (f:Fm):Nat:=match f.chk with
 | 0=>f.cnt
 | _=>0
theorem SS (f:Fm) (h1:f.tsz<=dA) (h2:f.cnt<=dA:=by omega):A 103 [f.p] (.tuple [num f.ckn,num f.chk]):=by
 have h3:=RS f h1 h2;unfold Fm.nd at h3;unfold Fm.ckn Fm.chk;cases e:f.shp<;>rw [e] at h3
 ·exact f1 [(8,.U [num 0,.bool false])] h3
 ·cases e2:kA (.ofNat 4096) (.ofNat f.cnt)
  ·exact f2 [(8,.U [num f.cnt,.bool true]),(16,.H)] h3 e2
  ·exact f2 [(8,.U [num f.cnt,.bool true]),(16,.G)] h3 e2
theorem Fm.ckn0 {f:Fm} (h:f.chk=0):f.ckn=f.cnt:=by unfold Fm.ckn;split<;>simp_all
theorem a89 (f:Fm) (h1:f.tsz<=dA) (h2:f.cnt<=dA):A 46 [f.p] (num f.chk):=f1 [(7,.U [num f.ckn,num f.chk])] (SS f h1 h2)
theorem a296 (f:Fm) (h1:f.tsz<=dA) (h2:f.cnt<=dA):A 289 [f.p] (.tuple [num f.ckn,num f.chk]):=f1 [(5,.U [num f.ckn,num f.chk])] (SS f h1 h2)
open Go.Lg
def Fm.sc:Nat->Fm->Prop
 | n,.eq a b=>a.sc n/\b.sc n
 | n,.bin _ f g=>f.sc n/\g.sc n
 | n,.q _ _ f=>f.sc (n+1)
theorem TS:A 50 [cA []] (ZA []):=f0 []
theorem Bo (s:Ty) (h:s.size<=dA):A 50 [cA [s]] (ZA [s]):=f1 [(14,.r (.agg (BA s)))] (fD s h)
theorem Co (s u:Ty) (h:s.size<=dA) (h':u.size<=dA):A 50 [cA [s,u]] (ZA [s,u]):=f2 [(14,.r (.agg (BA s))),(14,.r (.agg (BA u)))] (fD s h) (fD u h')
theorem KP (g:List Ty) (s:Ty) (hg:g.length<=qA:=by omega) (h:s.size<=dA:=by omega):A 228 [ZA g,cA [s]] (ZA (g++[s])):=by
 have hm:=jA;have g1:=CE (g.map BA).length;have g2:=mE 3 40 QS (by decide) g s (by omega) (by simp only [maxLen];omega);rw [show ZA (g++[s]) = .slice (g.map BA++[BA s]) by simp [ZA]];exact f3 [(10,.ok),(12,.r (ZA [s])),(13,.ok)] g1 (Bo s h) g2
theorem Do (g:List Ty) (s u:Ty) (hg:g.length<=qA) (h:s.size<=dA) (h':u.size<=dA):A 228 [ZA g,cA [s,u]] (ZA (g++[s,u])):=by
 have hm:=jA;have g1:=CE (g.map BA).length;have g2:=Dd 3 40 QS (by decide) g s u (by omega) (by simp only [maxLen];omega);rw [show ZA (g++[s,u]) = .slice (g.map BA++[BA s,BA u]) by simp [ZA]];exact f3 [(10,.ok),(12,.r (ZA [s,u])),(13,.ok)] g1 (Co s u h h') g2
theorem YJ:∀ (f:Fm) (g:List Ty),(∀ s∈g,s.size<=64)->f.shp=true->g.length+f.cnt<=qA->∃ e,A 211 [ZA g,f.p] (num e)/\(e=0->f.sc g.length)/\(f.ty g->e=0)
 | .eq a b,g,hg,hs,hl=>by
  have hl:g.length+(1+a.cnt+b.cnt)<=qA:=hl;obtain⟨hs1,hs2⟩:=DA hs;obtain⟨e,q1,q2,q3⟩:=rX g a hg hs1
  cases e with
  | succ n=>exact⟨n+1,f1 [(50,.N (n+1))] q1,(λ h=>nomatch h),λ h=>absurd (q3 h.1.2) (Nat.succ_ne_zero _)⟩
  | zero =>
   obtain⟨e,p1,p2,p3⟩:=rX g b hg hs2
   cases e with
   | succ n=>exact⟨n+1,f2 [(50,.N 0),(50,.N (n+1))] q1 p1,(λ h=>nomatch h),λ h=>absurd (p3 h.2.2) (Nat.succ_ne_zero _)⟩
   | zero=>exact⟨0,f2 [(50,.N 0),(50,.N 0)] q1 p1,(λ _=>⟨q2 rfl,p2 rfl⟩),λ _=>rfl⟩
 | .bin k a b,g,hg,hs,hl=>by
  have hl:g.length+(1+a.cnt+b.cnt)<=qA:=hl;obtain⟨hs1,hs2⟩:=DA hs;obtain⟨e,q1,q2,q3⟩:=YJ a g hg hs1 (by omega)
  cases e with
  | succ n=>cases k<;>exact⟨n+1,f1 [(36,.N (n+1))] q1,(λ h=>nomatch h),λ h=>absurd (q3 h.1) (Nat.succ_ne_zero _)⟩
  | zero =>
   obtain⟨e,p1,p2,p3⟩:=YJ b g hg hs2 (by omega)
   cases e with
   | succ n=>cases k<;>exact⟨n+1,f2 [(36,.N 0),(36,.N (n+1))] q1 p1,(λ h=>nomatch h),λ h=>absurd (p3 h.2) (Nat.succ_ne_zero _)⟩
   | zero=>cases k<;>exact⟨0,f2 [(36,.N 0),(36,.N 0)] q1 p1,(λ _=>⟨q2 rfl,p2 rfl⟩),λ _=>rfl⟩
 | .q k s a,g,hg,hs,hl=>by
  have hm:=jA;have hb:=uA;have hl:g.length+(1+a.cnt)<=qA:=hl;obtain⟨hs1,hs2⟩:=DA hs;have hz:=IE hs1;have g1:=KP g s;obtain⟨e,q1,q2,q3⟩:=YJ a (g++[s]) (λ u hu=>by rcases List.mem_append.1 hu with h|h;exact hg u h;simp at h;subst h;exact hz) hs2 (by simp;omega)
  cases e with
  | succ n=>cases k<;>exact⟨n+1,f2 [(26,.r (ZA (g++[s]))),(36,.N (n+1))] g1 q1,(λ h=>nomatch h),λ h=>absurd (q3 h) (Nat.succ_ne_zero _)⟩
  | zero=>cases k<;>exact⟨0,f2 [(26,.r (ZA (g++[s]))),(36,.N 0)] g1 q1,(λ _=>by have:=q2 rfl;simpa [Fm.sc] using this),λ _=>rfl⟩
theorem Nd {g:List Ty} (hl:g.length<=16):∀ (r:List Ty) (k:Nat),g.drop k=r->(∀ t∈r,t.size<=dA) ->
  (aH r=0/\Lp 48 0 0 (st [(9,.pv (cA g)),(10,.pv (num (g.map Ty.c).length)),(11,.pv (num k))] [] 0 []) (.exit 0) (st [] [] 0 []))\/aH r=4/\Lp 48 0 0 (st [(9,.pv (cA g)),(10,.pv (num (g.map Ty.c).length)),(11,.pv (num k))] [] 0 []) .ret (st [(2,.pv (num 4))] [] 0 [])
 | [],k,h,_ => .inl ⟨rfl,x1 [(12,.H)] (kp []) (show kA (.ofNat k) (.ofNat (g.map Ty.c).length)=false from CA (by simpa using TC h))⟩
 | t::r,k,h,hb=>by
  obtain⟨h1,h2,h3⟩:=SC h;have hc:=lX t (hb t (by simp));have hlt:kA (.ofNat k) (.ofNat (g.map Ty.c).length)=true:=aA (by simpa using h2);unfold aH;rcases XF t with e|e<;>rw [OI] at e<;>rw [e] at hc<;>rw [OI,e]
  ·rcases Nd hl r (k+1) h3 (λ t ht=>hb t (by simp [ht])) with ⟨e1,ih⟩|⟨e1,ih⟩
   ·exact .inl ⟨e1,n5 [(12,.G),(13,.i t.c),(16,.N 0),(20,.ok)] (kp [9,10,11]) hlt (KA h1 Ty.c_len) hc (eA (show k+1<=_ by omega)) ih⟩
   ·exact .inr ⟨e1,n5 [(12,.G),(13,.i t.c),(16,.N 0),(20,.ok)] (kp [9,10,11]) hlt (KA h1 Ty.c_len) hc (eA (show k+1<=_ by omega)) ih⟩
  ·exact .inr ⟨rfl,x3 [(12,.G),(13,.i t.c),(16,.N 4)] (kp [2]) hlt (KA h1 Ty.c_len) hc⟩
theorem tX (g:List Ty) (hb:∀ t∈g,t.size<=dA):A 48 [cA g] (num (oI g)):=by
 unfold oI;cases e:kA (.ofNat 16) (.ofNat (g.map Ty.c).length)
 ·have hl:g.length<=16:=by
   rw [KB] at e;simp at e;omega
  rcases Nd hl g 0 rfl hb with ⟨h1,h2⟩|⟨h1,h2⟩<;>rw [h1]
  ·exact f2 [(8,.H),(100004,.l (kp [9,10,11]) (.exit 0) (st [] [] 0 []))] e h2
  ·exact f2 [(8,.H),(100004,.l (kp [9,10,11]) .ret (st [(2,.pv (num 4))] [] 0 []))] e h2
 ·exact f1 [(8,.G)] e
theorem Od:∀ {g:List Ty},aH g=0->∀ s∈g,s.size<=64
 | [],_,s,h=>by cases h
 | t::r,e,s,h=>by
  unfold aH at e;split at e
  ·rename_i e1;rcases List.mem_cons.1 h with rfl|h
   ·exact Go.Proofs.YtmkajedkflhbgaaGreatDoor.chk0 e1
   ·exact Od e s h
  ·cases e
theorem Eo {g:List Ty} (e:oI g=0):g.length<=16 /\ ∀ s∈g,s.size<=64:=by
 unfold oI at e;split at e
 ·cases e
 ·rename_i e1;rw [KB] at e1;simp at e1;exact⟨by omega,Od e⟩
theorem PL {A:List (List PV)} {v sz ty m:Nat} {c:List PV} (h0:0<sz) (h1:bC sz [oA c]=true) (h2:SB [oA c]=true) (h3:A.length+1<=maxLen) (h4:(A.length+1) * m<=140737488355328:=by omega) :
  (Nat.beq v v && Nat.ble A.length (vA A).length && Nat.beq ty ty && Nat.beq sz sz && Nat.blt 0 sz && bC sz [oA c] && SB [oA c] && Nat.ble (A.length+[oA c].length) maxLen && Nat.ble ((A.length+[oA c].length) * m) 140737488355328)=true :=
 CP (pvE_len A) h0 h1 h2 h3 h4
abbrev Pd (g:List Ty) (k:Nat) (x:V):List (Nat × V):=[(3,x),(6,.pv (cA g)),(7,.pv (num (g.map Ty.c).length)),(8,.pv (num k))]
abbrev Qd:Kp:=⟨[3,6,7,8],[1],2,[]⟩
theorem Sd {g:List Ty} (hl:g.length<=qA):∀ (r:List Ty) (k v:Nat) (A:List (List PV)),g.drop k=r->(∀ t∈r,t.size<=dA)->A.length=k ->
  ∃ v',Lp 50 0 0 (st (Pd g k (.arr 1 v A.length)) [(1,.arr v 3 117 (vA A))] 2 []) (.exit 0) (st [(3,.arr 1 v' (A.length+r.length))] [(1,.arr v' 3 117 (vA (A++r.map BA)))] 2 [])
 | [],k,v,A,h,hb,hA=>by
  have e:kA (.ofNat k) (.ofNat (g.map Ty.c).length)=false:=CA (by simpa using TC h);simp only [List.map_nil,List.append_nil,List.length_nil,Nat.add_zero];exact⟨v,y1 [(9,.H)] ⟨[3],[1],2,[]⟩ e (MC A)⟩
 | t::r,k,v,A,h,hb,hA=>by
  have hm:=jA;obtain⟨d1,d2,d3⟩:=SC h;have e:kA (.ofNat k) (.ofNat (g.map Ty.c).length)=true:=aA (by simpa using d2);have g3:=eA (show k+1<=_ by omega);have g5:=PL (A:=A) (v:=v) (ty:=117) (m:=40) (c:=BA t) (show 0<3 by decide) rfl rfl (by simp only [maxLen];omega);obtain⟨v',ih⟩:=Sd hl r (k+1) (v+1) (A++[BA t]) d3 (λ u hu=>hb u (by simp [hu])) (by simp [hA]);rw [LI,show (A++[BA t]).length=A.length+1 by simp,show A.length+1+r.length=A.length+(t::r).length by simp;omega,List.append_assoc] at ih;exact⟨v',n7 [(9,.G),(10,.i t.c),(14,.r (.agg (BA t))),(16,.ok),(17,.ok)] Qd e (KA d1 Ty.c_len) (fD t (hb t (by simp))) g5 g3 (rF A (BA t)) ih⟩
theorem Fo (g:List Ty) (hl:g.length<=qA) (hb:∀ t∈g,t.size<=dA):A 50 [cA g] (ZA g):=by
 cases g with
 | nil=>exact TS
 | cons t r =>
  have e:kA (.ofNat 0) (.ofNat ((t::r).map Ty.c).length)=true:=aA (by simp);obtain⟨v,h⟩:=Sd hl r 1 1 [BA t] rfl (λ u hu=>hb u (by simp [hu])) rfl;have h2:=LoopIs.fz (by simp) h 1 (ver:=v) (sz:=3) (ty:=117) (ps:=(t::r).map BA) rfl (by kernel_rfl);simp (decide:=true) only [uE,CD,rC,List.map,pD,and_self,↓reduceIte,List.take_of_length_le (show (BA t::r.map BA).length<=[BA t].length+r.length by simp;omega)] at h2;have h3:Lp 50 0 0 (st (Pd (t::r) 0 (.pv .nils)) [] 0 []) (.exit 0) (st [(3,.pv (ZA (t::r)))] [] 2 []) :=
   n6 [(9,.G),(10,.i t.c),(14,.r (.agg (BA t))),(17,.ok)] Qd e (KA (g:=t::r) (k:=0) rfl Ty.c_len) (fD t (hb t (by simp))) (eA (show 0+1<=_ by omega)) (rF [] (BA t)) h2
  exact f1 [(100003,.l ⟨[3,6,7,8],[],0,[]⟩ (.exit 0) (st [(3,.pv (ZA (t::r)))] [] 2 []))] h3
open Go.Lg
theorem Io {x:Int} {a:Nat} (h:(a:Int)<=x):(!kA x (.ofNat a))=true:=by rw [KB];simp;exact h
theorem Jo {x:Int} {a:Nat} (h:x<(a:Int)):(!kA x (.ofNat a))=false:=by rw [KB];simp;exact h
theorem US {x:Int} {a:Nat} (h:x=(a:Int)):lB x (.ofNat a)=true:=by rw [fH];simp;exact h
theorem Td {x:Int} {a:Nat} (h:x≠(a:Int)):lB x (.ofNat a)=false:=by rw [fH];simp;exact h
theorem Ko {x:Int} {a:Nat} (h:(a:Int)<x):kA (.ofNat a) x=true:=by rw [KB];simp;exact h
theorem Lo {x:Int} {a:Nat} (h:x<=(a:Int)):kA (.ofNat a) x=false:=by rw [KB];simp;exact h
theorem sN {i d:Nat} (h:i<=dA:=by omega) (h':d<=dA:=by omega):rA (Int.ofNat i - .ofNat d)=true/\Int.ofNat i - .ofNat d=Int.ofNat i - .ofNat d:=⟨(MG h h' rfl).1,rfl⟩
theorem AA {a b:Nat} (h:a+b<=dA:=by omega):rA (Int.ofNat a + .ofNat b)=true/\Int.ofNat a + .ofNat b = .ofNat (a+b):=⟨YA (n:=a+b) h,rfl⟩
abbrev Ud (c:V) (own:List (Nat × Ob)):List (Nat × Ob):=(5,.box [c])::(7,.box [.fn 336 [.loc 5 0,.loc 7 0]])::own
abbrev Vd (a b:Nat):List (Nat × Ob):=Ud (.fn 316 [.loc 1 0,.loc 2 0]) [(1,bx [num a]),(2,bx [num b])]
theorem ZJ (a z:Nat) (ha:a<=qA) (hz:z<=2 * qA):∀ (t:Tm) (d:Nat),d+t.cnt<=qA->t.mx<=qA * qA->O 336 [.pv t.p,.pv (num d),.loc 5 0,.loc 7 0] (Vd a z) (.pv (t.sh (a+d) (.ofNat z)).p) (Vd a z)
 | .v i,d,hd,hm=>by
  have hmm:=jA;have hi:i<=qA * qA:=hm;have hd:d+1<=qA:=hd;rw [hmm] at hi;have hb:=uA;have g1:=sN (i:=i) (d:=d);by_cases h:a+d<=i
  ·have e:(Tm.v i).sh (a+d) (.ofNat z) = .v (i+z):=by simp only [Tm.sh,if_pos h];rfl
   rw [e];have g2:(!kA (Int.ofNat i - .ofNat d) (.ofNat a))=true:=Io (by simp;omega);have g3:=AA (a:=i) (b:=z);exact o3 8 [(17,.n [(9,.y (Int.ofNat i - .ofNat d)),(11,.G),(14,.z (i+z))])] g1 g2 g3
  ·have e:(Tm.v i).sh (a+d) (.ofNat z) = .v i:=by simp only [Tm.sh,if_neg h]
   rw [e];have g2:(!kA (Int.ofNat i - .ofNat d) (.ofNat a))=false:=Jo (by simp;omega);exact o2 8 [(17,.n [(9,.y (Int.ofNat i - .ofNat d)),(11,.H)])] g1 g2
 | .lam s b,d,hd,hm=>by
  have hd:d+(1+b.cnt)<=qA:=hd;have hmm:=jA;have hb:=uA;have g:=ZJ a z ha hz b (d+1) (by omega) hm;exact o3 8 [(24,.r s.p),(30,.z (d+1)),(43,.o [5,7,1,2] [] (.pv (b.sh (a+(d+1)) (.ofNat z)).p))] (sE s) (AA (a:=d) (b:=1)) g
 | .n0 k,d,_,_=>by cases k<;>exact o1 8 [(24,.r zt)] CC
 | .n1 k b,d,hd,hm=>by
  have hd:d+(1+b.cnt)<=qA:=hd;have g:=ZJ a z ha hz b d (by omega) hm;cases k<;>exact o2 8 [(24,.r zt),(43,.o [5,7,1,2] [] (.pv (b.sh (a+d) (.ofNat z)).p))] CC g
 | .n2 k b c,d,hd,hm=>by
  have hd:d+(1+b.cnt+c.cnt)<=qA:=hd;have hm:max b.mx c.mx<=qA * qA:=hm;have g:=ZJ a z ha hz b d (by omega) (by omega);have g':=ZJ a z ha hz c d (by omega) (by omega);cases k<;>exact o3 8 [(24,.r zt),(43,.o [5,7,1,2] [] (.pv (b.sh (a+d) (.ofNat z)).p)),(43,.o [5,7,1,2] [] (.pv (c.sh (a+d) (.ofNat z)).p))] CC g g'
 | .n3 k s b c e,d,hd,hm=>by
  have hd:d+(1+b.cnt+c.cnt+e.cnt)<=qA:=hd;have hm:max b.mx (max c.mx e.mx)<=qA * qA:=hm;have g:=ZJ a z ha hz b d (by omega) (by omega);have g':=ZJ a z ha hz c d (by omega) (by omega);have g'':=ZJ a z ha hz e d (by omega) (by omega);cases k<;>exact o4 8 [(24,.r s.p),(43,.o [5,7,1,2] [] (.pv (b.sh (a+d) (.ofNat z)).p)),(43,.o [5,7,1,2] [] (.pv (c.sh (a+d) (.ofNat z)).p)),(43,.o [5,7,1,2] [] (.pv (e.sh (a+d) (.ofNat z)).p))] (sE s) g g' g''
theorem aX (t:Tm) (a z:Nat) (ha:a<=qA) (hz:z<=2 * qA) (h1:t.cnt<=qA:=by omega) (h2:t.mx<=qA * qA:=by omega):A 286 [t.p,num a,num z] (t.sh a (.ofNat z)).p :=
 f1 [(9,.n [(9,.o [5,7,1,2] [] (.pv (t.sh a (.ofNat z)).p))])] (ZJ a z ha hz t 0 (by omega) h2)
structure Sx where
 k:Nat
 i:Nat
 tk:Nat
 te:List (List PV)
 es:List (List PV)
abbrev Sx.c (s:Sx):List PV:=[num s.k,num s.i,num s.tk,.slice s.te,.slice s.es]
abbrev Tm.x (t:Tm):Sx:=⟨t.kd,t.ix,t.tk,t.te,t.es⟩
abbrev Sx.z:Sx:=⟨0,0,0,[],[]⟩
abbrev Wd (a:Nat) (s:Sx):List (Nat × Ob):=Ud (.fn 331 [.loc 1 0,.loc 2 0]) [(1,bx [num a]),(2,bx s.c)]
def Lf (s:Sx) (S:Tm):Prop:=∀ n,n<=2 * qA->A 286 [.agg s.c,num 0,num n] (S.sh 0 (.ofNat n)).p
theorem qK (a:Nat) (s:Sx) (S:Tm) (ha:a<=qA):∀ (t:Tm) (d:Nat),(Lf s S\/t.occ (a+d)=0)->d+t.cnt<=qA->t.mx<=qA * qA->O 336 [.pv t.p,.pv (num d),.loc 5 0,.loc 7 0] (Wd a s) (.pv (t.put a S d).p) (Wd a s)
 | .v i,d,hS,hd,hm=>by
  have hmm:=jA;have hi:i<=qA * qA:=hm;have hd:d+1<=qA:=hd;rw [hmm] at hi;have hb:=uA;have g1:=sN (i:=i) (d:=d);by_cases h:i=a+d
  ·have e:(Tm.v i).put a S d=S.sh 0 (.ofNat (a+d)):=by simp only [Tm.put,if_pos h]
   rw [e];have g2:lB (Int.ofNat i - .ofNat d) (.ofNat a)=true:=US (by simp;omega);have g3:=AA (a:=a) (b:=d);rcases hS with hS|hS
   ·exact o4 8 [(17,.n [(10,.y (Int.ofNat i - .ofNat d)),(14,.G),(18,.z (a+d)),(19,.r (S.sh 0 (.ofNat (a+d))).p)])] g1 g2 g3 (hS (a+d) (by omega))
   ·simp [Tm.occ,h] at hS
  ·have g2:lB (Int.ofNat i - .ofNat d) (.ofNat a)=false:=Td (by simp;omega);by_cases h':a+d<i
   ·have e:(Tm.v i).put a S d = .v (i-1):=by simp only [Tm.put,if_neg h,if_pos h']
    rw [e];have g3:kA (.ofNat a) (Int.ofNat i - .ofNat d)=true:=Ko (by simp;omega);have g4:=nB (a:=i);exact o4 8 [(17,.n [(10,.y (Int.ofNat i - .ofNat d)),(14,.H),(23,.G),(25,.z (i-1))])] g1 g2 g3 g4
   ·have e:(Tm.v i).put a S d = .v i:=by simp only [Tm.put,if_neg h,if_neg h']
    rw [e];have g3:kA (.ofNat a) (Int.ofNat i - .ofNat d)=false:=Lo (by simp;omega);exact o3 8 [(17,.n [(10,.y (Int.ofNat i - .ofNat d)),(14,.H),(23,.H)])] g1 g2 g3
 | .lam s b,d,hS,hd,hm=>by
  have hd:d+(1+b.cnt)<=qA:=hd;have hmm:=jA;have hb:=uA;have g:=qK a _ S ha b (d+1) hS (by omega) hm;exact o3 8 [(24,.r s.p),(30,.z (d+1)),(43,.o [5,7,1,2] [] (.pv (b.put a S (d+1)).p))] (sE s) (AA (a:=d) (b:=1)) g
 | .n0 k,d,_,_,_=>by cases k<;>exact o1 8 [(24,.r zt)] CC
 | .n1 k b,d,hS,hd,hm=>by
  have hd:d+(1+b.cnt)<=qA:=hd;have g:=qK a s S ha b d hS (by omega) hm;cases k<;>exact o2 8 [(24,.r zt),(43,.o [5,7,1,2] [] (.pv (b.put a S d).p))] CC g
 | .n2 k b c,d,hS,hd,hm=>by
  have hd:d+(1+b.cnt+c.cnt)<=qA:=hd;have hm:max b.mx c.mx<=qA * qA:=hm;have hS:Lf s S\/b.occ (a+d)+c.occ (a+d)=0:=hS;have g:=qK a s S ha b d (hS.imp id (by omega)) (by omega) (by omega);have g':=qK a s S ha c d (hS.imp id (by omega)) (by omega) (by omega);cases k<;>exact o3 8 [(24,.r zt),(43,.o [5,7,1,2] [] (.pv (b.put a S d).p)),(43,.o [5,7,1,2] [] (.pv (c.put a S d).p))] CC g g'
 | .n3 k u b c e,d,hS,hd,hm=>by
  have hd:d+(1+b.cnt+c.cnt+e.cnt)<=qA:=hd;have hm:max b.mx (max c.mx e.mx)<=qA * qA:=hm;have hS:Lf s S\/b.occ (a+d)+c.occ (a+d)+e.occ (a+d)=0:=hS;have g:=qK a s S ha b d (hS.imp id (by omega)) (by omega) (by omega);have g':=qK a s S ha c d (hS.imp id (by omega)) (by omega) (by omega);have g'':=qK a s S ha e d (hS.imp id (by omega)) (by omega) (by omega);cases k<;>exact o4 8 [(24,.r u.p),(43,.o [5,7,1,2] [] (.pv (b.put a S d).p)),(43,.o [5,7,1,2] [] (.pv (c.put a S d).p)),(43,.o [5,7,1,2] [] (.pv (e.put a S d).p))] (sE u) g g' g''
theorem Xd (t:Tm) (a:Nat) (s:Sx) (S:Tm) (hS:Lf s S\/t.occ a=0) (ha:a<=qA:=by omega) (h1:t.cnt<=qA:=by omega) (h2:t.mx<=qA * qA:=by omega):A 310 [t.p,num a,.agg s.c] (t.put a S 0).p :=
 f1 [(9,.n [(9,.o [5,7,1,2] [] (.pv (t.put a S 0).p))])] (qK a s S ha t 0 hS (by omega) h2)
theorem Lf.of (S:Tm) (h1:S.cnt<=qA) (h2:S.mx<=qA * qA) (B:∀ n,n<=2 * qA->A 286 [S.p,num 0,num n] (S.sh 0 (.ofNat n)).p):Lf S.x S:=B
theorem PI:∀ t:Tm,A 151 [t.p] t.p
 | .v i=>f1 [(12,.r zt)] CC
 | .lam s b=>f2 [(12,.r s.p),(24,.r b.p)] (sE s) (PI b)
 | .n0 k=>by cases k<;>exact f1 [(12,.r zt)] CC
 | .n1 k b=>by have g:=PI b;cases k<;>exact f2 [(12,.r zt),(24,.r b.p)] CC g
 | .n2 k b c=>by have g:=PI b;have g':=PI c;cases k<;>exact f3 [(12,.r zt),(24,.r b.p),(24,.r c.p)] CC g g'
 | .n3 k s b c d=>by have g:=PI b;have g':=PI c;have g'':=PI d;cases k<;>exact f4 [(12,.r s.p),(24,.r b.p),(24,.r c.p),(24,.r d.p)] (sE s) g g' g''
open Go.Lg
abbrev JE:Nat:=536870912
def EB:Bool->Tm->Bool
 | b,.v i=>match b with
  | true => !kA (.ofNat JE) (.ofNat i)
  | false=>false
 | b,.lam _ t=>EB b t
 | b,.n0 _=>b
 | b,.n1 _ t=>EB b t
 | b,.n2 _ t u=>EB (EB b t) u
 | b,.n3 _ _ t u w=>EB (EB (EB b t) u) w
theorem UG:∀ (t:Tm),t.mx<=JE->EB true t=true
 | .v i,h=>by
  have h:i<=JE:=h;show (!kA (.ofNat JE) (.ofNat i))=true;rw [CA h];rfl
 | .lam _ t,h=>UG t h
 | .n0 _,_=>rfl
 | .n1 _ t,h=>UG t h
 | .n2 _ t u,h=>by
  have h:max t.mx u.mx<=JE:=h;simp only [EB,UG t (by omega),UG u (by omega)]
 | .n3 _ _ t u w,h=>by
  have h:max t.mx (max u.mx w.mx)<=JE:=h;simp only [EB,UG t (by omega),UG u (by omega),UG w (by omega)]
abbrev ut:PV:=.tuple []
abbrev cX (i j:Nat) (c:V) (own:List (Nat × Ob)):List (Nat × Ob):=(i,.box [c])::(j,.box [.fn 306 [.loc i 0,.loc j 0]])::own
abbrev eX (b:Bool):List (Nat × Ob):=cX 3 4 (.fn 318 [.loc 1 0]) [(1,bx [.bool b])]
abbrev tD (b:Bool):List (Nat × Ob):=[(1,bx [.bool b])]
theorem zK:∀ (t:Tm) (b:Bool) (d:Nat),d+t.cnt<=qA->O 306 [.pv t.p,.pv (num d),.loc 3 0,.loc 4 0] (eX b) (.pv ut) (eX (EB b t))
 | .v i,b,d,hd=>by
  cases b
  ·exact o0 5 []
  ·show O 306 _ _ _ (eX (!kA (.ofNat JE) (.ofNat i)));cases e : !kA (.ofNat JE) (.ofNat i)
   ·exact o1 5 [(15,.n [(8,.H)])] e
   ·exact o1 5 [(15,.n [(8,.G)])] e
 | .lam s a,b,d,hd=>by
  have hd:d+(1+a.cnt)<=qA:=hd;have hm:=jA;have hb:=uA;exact o2 5 [(20,.z (d+1)),(31,.o [3,4] (tD (EB b a)) (.pv ut))] (AA (a:=d) (b:=1)) (zK a b (d+1) (by omega))
 | .n0 k,b,d,hd=>by cases k<;>exact o0 5 []
 | .n1 k a,b,d,hd=>by
  have hd:d+(1+a.cnt)<=qA:=hd;have g:=zK a b d (by omega);cases k<;>exact o1 5 [(31,.o [3,4] (tD (EB b a)) (.pv ut))] g
 | .n2 k a c,b,d,hd=>by
  have hd:d+(1+a.cnt+c.cnt)<=qA:=hd;have g:=zK a b d (by omega);have g':=zK c (EB b a) d (by omega);cases k<;>exact o2 5 [(31,.o [3,4] (tD (EB b a)) (.pv ut)),(31,.o [3,4] (tD (EB (EB b a) c)) (.pv ut))] g g'
 | .n3 k s a c e,b,d,hd=>by
  have hd:d+(1+a.cnt+c.cnt+e.cnt)<=qA:=hd;have g:=zK a b d (by omega);have g':=zK c (EB b a) d (by omega);have g'':=zK e (EB (EB b a) c) d (by omega);cases k<;>exact o3 5 [(31,.o [3,4] (tD (EB b a)) (.pv ut)),(31,.o [3,4] (tD (EB (EB b a) c)) (.pv ut)),(31,.o [3,4] (tD (EB (EB (EB b a) c) e)) (.pv ut))] g g' g''
theorem a298 (t:Tm) (h:t.cnt<=qA:=by omega):A 291 [t.p] (.bool (EB true t)) :=
 f1 [(6,.n [(8,.o [3,4] (tD (EB true t)) (.pv ut))])] (zK t true 0 (by omega))
abbrev Yd (a n:Nat):List (Nat × Ob):=cX 4 5 (.fn 320 [.loc 1 0,.loc 2 0]) [(1,bx [num a]),(2,bx [num n])]
abbrev KE (n:Nat):List (Nat × Ob):=[(2,bx [num n])]
theorem jK (a:Nat) (ha:a<=qA):∀ (t:Tm) (n d:Nat),d+t.cnt<=qA->t.mx<=qA * qA->n+t.cnt<=dA->O 306 [.pv t.p,.pv (num d),.loc 4 0,.loc 5 0] (Yd a n) (.pv ut) (Yd a (n+t.occ (a+d)))
 | .v i,n,d,hd,hm,hn=>by
  have hmm:=jA;have hi:i<=qA * qA:=hm;have hd:d+1<=qA:=hd;have hn:n+1<=dA:=hn;rw [hmm] at hi;have hb:=uA;have g1:=sN (i:=i) (d:=d);by_cases h:i=a+d
  ·have g2:lB (Int.ofNat i - .ofNat d) (.ofNat a)=true:=US (by simp;omega);have e:(Tm.v i).occ (a+d)=1:=by simp only [Tm.occ,if_pos h]
   rw [e];exact o3 6 [(15,.n [(8,.y (Int.ofNat i - .ofNat d)),(10,.G),(12,.z (n+1))])] g1 g2 (AA (a:=n) (b:=1))
  ·have g2:lB (Int.ofNat i - .ofNat d) (.ofNat a)=false:=Td (by simp;omega);have e:(Tm.v i).occ (a+d)=0:=by simp only [Tm.occ,if_neg h]
   rw [e];exact o2 6 [(15,.n [(8,.y (Int.ofNat i - .ofNat d)),(10,.H)])] g1 g2
 | .lam s b,n,d,hd,hm,hn=>by
  have hd:d+(1+b.cnt)<=qA:=hd;have hn:n+(1+b.cnt)<=dA:=hn;have hmm:=jA;have hb:=uA;exact o2 6 [(20,.z (d+1)),(31,.o [4,5,1] (KE (n+b.occ (a+(d+1)))) (.pv ut))] (AA (a:=d) (b:=1)) (jK a ha b n (d+1) (by omega) hm (by omega))
 | .n0 k,n,d,_,_,_=>by cases k<;>exact o0 6 []
 | .n1 k b,n,d,hd,hm,hn=>by
  have hd:d+(1+b.cnt)<=qA:=hd;have hn:n+(1+b.cnt)<=dA:=hn;have g:=jK a ha b n d (by omega) hm (by omega);cases k<;>exact o1 6 [(31,.o [4,5,1] (KE (n+b.occ (a+d))) (.pv ut))] g
 | .n2 k b c,n,d,hd,hm,hn=>by
  have hd:d+(1+b.cnt+c.cnt)<=qA:=hd;have hn:n+(1+b.cnt+c.cnt)<=dA:=hn;have hm:max b.mx c.mx<=qA * qA:=hm;have:=cB b (a+d);have g:=jK a ha b n d (by omega) (by omega) (by omega);have g':=jK a ha c (n+b.occ (a+d)) d (by omega) (by omega) (by omega);have e:n+(Tm.n2 k b c).occ (a+d)=n+b.occ (a+d)+c.occ (a+d):=(Nat.add_assoc _ _ _).symm;rw [e];cases k<;>exact o2 6 [(31,.o [4,5,1] (KE (n+b.occ (a+d))) (.pv ut)),(31,.o [4,5,1] (KE (n+b.occ (a+d)+c.occ (a+d))) (.pv ut))] g g'
 | .n3 k s b c f,n,d,hd,hm,hn=>by
  have hd:d+(1+b.cnt+c.cnt+f.cnt)<=qA:=hd;have hn:n+(1+b.cnt+c.cnt+f.cnt)<=dA:=hn;have hm:max b.mx (max c.mx f.mx)<=qA * qA:=hm;have:=cB b (a+d);have:=cB c (a+d);have g:=jK a ha b n d (by omega) (by omega) (by omega);have g':=jK a ha c (n+b.occ (a+d)) d (by omega) (by omega) (by omega);have g'':=jK a ha f (n+b.occ (a+d)+c.occ (a+d)) d (by omega) (by omega) (by omega);have e:n+(Tm.n3 k s b c f).occ (a+d)=n+b.occ (a+d)+c.occ (a+d)+f.occ (a+d):=by simp only [Tm.occ];omega
  rw [e];cases k<;>exact o3 6 [(31,.o [4,5,1] (KE (n+b.occ (a+d))) (.pv ut)),(31,.o [4,5,1] (KE (n+b.occ (a+d)+c.occ (a+d))) (.pv ut)),(31,.o [4,5,1] (KE (n+b.occ (a+d)+c.occ (a+d)+f.occ (a+d))) (.pv ut))] g g' g''
theorem Zd (t:Tm) (a:Nat) (ha:a<=qA:=by omega) (h:t.cnt<=qA:=by omega) (hm:t.mx<=qA * qA:=by omega):A 295 [t.p,num a] (num (t.occ a)):=by
 have hmm:=jA;have hb:=uA;have g:=jK a ha t 0 0 (by omega) hm (by omega);rw [Nat.zero_add] at g;exact f1 [(8,.n [(8,.o [4,5,1] (KE (t.occ a)) (.pv ut))])] g
abbrev je (a z:Nat):List (Nat × Ob):=[(1,bx [num a]),(2,bx [num z])]
theorem VS (a z:Nat) (ha:a<=qA) (hz:z<=2 * qA):∀ (f:Fm) (d:Nat),a+d+f.cnt<=qA->f.mx<=qA * qA->O 149 [.pv f.p,.pv (num d),.fn 285 [.loc 1 0,.loc 2 0]] (je a z) (.pv (f.sh (a+d) (.ofNat z)).p) (je a z)
 | .eq t u,d,hd,hm=>by
  have hmm:=jA;have hb:=uA;have hd:a+d+(1+t.cnt+u.cnt)<=qA:=hd;have hm:max t.mx u.mx<=qA * qA:=hm;have g:=AA (a:=a) (b:=d);have g1:=aX t (a+d) z (by omega) hz;have g2:=aX u (a+d) z (by omega) hz;exact o5 3 [(16,.r zt),(30,.n [(10,.z (a+d)),(12,.r (t.sh (a+d) (.ofNat z)).p)]),(30,.n [(10,.z (a+d)),(12,.r (u.sh (a+d) (.ofNat z)).p)])] CC g g1 g g2
 | .bin k f g,d,hd,hm=>by
  have hd:a+d+(1+f.cnt+g.cnt)<=qA:=hd;have hm:max f.mx g.mx<=qA * qA:=hm;have g1:=VS a z ha hz f d (by omega) (by omega);have g2:=VS a z ha hz g d (by omega) (by omega);cases k<;>exact o3 3 [(16,.r zt),(52,.o [1,2] [] (.pv (f.sh (a+d) (.ofNat z)).p)),(52,.o [1,2] [] (.pv (g.sh (a+d) (.ofNat z)).p))] CC g1 g2
 | .q k s f,d,hd,hm=>by
  have hmm:=jA;have hb:=uA;have hd:a+d+(1+f.cnt)<=qA:=hd;have g:=AA (a:=d) (b:=1);have g1:=VS a z ha hz f (d+1) (by omega) hm;cases k<;>exact o3 3 [(16,.r s.p),(39,.z (d+1)),(52,.o [1,2] [] (.pv (f.sh (a+(d+1)) (.ofNat z)).p))] (sE s) g g1
theorem IH (f:Fm) (a z:Nat) (hz:z<=2 * qA) (h1:a+f.cnt<=qA) (h2:f.mx<=qA * qA):A 230 [f.p,num a,num z] (f.sh a (.ofNat z)).p :=
 f1 [(9,.o [1,2] [] (.pv (f.sh a (.ofNat z)).p))] (VS a z (by omega) hz f 0 (by omega) h2)
theorem JH (S:Tm):∀ (t:Tm) (c d:Nat),t.put (c+1) S d=t.put c S (d+1)
 | .v i,c,d=>by simp only [Tm.put,show c+1+d=c+(d+1) by omega]
 | .lam s b,c,d=>by simp only [Tm.put,JH S b]
 | .n0 k,c,d=>rfl
 | .n1 k a,c,d=>by simp only [Tm.put,JH S a]
 | .n2 k a b,c,d=>by simp only [Tm.put,JH S a,JH S b]
 | .n3 k s a b e,c,d=>by simp only [Tm.put,JH S a,JH S b,JH S e]
theorem WS (S:Tm):∀ (f:Fm) (c d:Nat),f.put (c+1) S d=f.put c S (d+1)
 | .eq a b,c,d=>by simp only [Fm.put,JH S a,JH S b]
 | .bin k f g,c,d=>by simp only [Fm.put,WS S f,WS S g]
 | .q k s f,c,d=>by simp only [Fm.put,WS S f]
abbrev we (a:Nat) (s:Sx):List (Nat × Ob):=[(1,bx [num a]),(2,bx s.c)]
theorem XS (a:Nat) (s:Sx) (S:Tm) (ha:a<=qA):∀ (f:Fm) (d:Nat),(Lf s S\/f.occ (a+d)=0)->a+d+f.cnt<=qA->f.mx<=qA * qA->O 149 [.pv f.p,.pv (num d),.fn 309 [.loc 1 0,.loc 2 0]] (we a s) (.pv (f.put (a+d) S 0).p) (we a s)
 | .eq t u,d,hS,hd,hm=>by
  have hmm:=jA;have hb:=uA;have hd:a+d+(1+t.cnt+u.cnt)<=qA:=hd;have hm:max t.mx u.mx<=qA * qA:=hm;have hS:Lf s S\/t.occ (a+d)+u.occ (a+d)=0:=hS;have g:=AA (a:=a) (b:=d);have g1:=Xd t (a+d) s S (hS.imp id (by omega));have g2:=Xd u (a+d) s S (hS.imp id (by omega));exact o5 3 [(16,.r zt),(30,.n [(10,.z (a+d)),(12,.r (t.put (a+d) S 0).p)]),(30,.n [(10,.z (a+d)),(12,.r (u.put (a+d) S 0).p)])] CC g g1 g g2
 | .bin k f g,d,hS,hd,hm=>by
  have hd:a+d+(1+f.cnt+g.cnt)<=qA:=hd;have hm:max f.mx g.mx<=qA * qA:=hm;have hS:Lf s S\/f.occ (a+d)+g.occ (a+d)=0:=hS;have g1:=XS a s S ha f d (hS.imp id (by omega)) (by omega) (by omega);have g2:=XS a s S ha g d (hS.imp id (by omega)) (by omega) (by omega);cases k<;>exact o3 3 [(16,.r zt),(52,.o [1,2] [] (.pv (f.put (a+d) S 0).p)),(52,.o [1,2] [] (.pv (g.put (a+d) S 0).p))] CC g1 g2
 | .q k u f,d,hS,hd,hm=>by
  have hmm:=jA;have hb:=uA;have hd:a+d+(1+f.cnt)<=qA:=hd;have g:=AA (a:=d) (b:=1);have g1:=XS a s S ha f (d+1) hS (by omega) hm;have e:f.put (a+(d+1)) S 0=f.put (a+d) S (0+1):=WS S f (a+d) 0;rw [e] at g1;cases k<;>exact o3 3 [(16,.r u.p),(39,.z (d+1)),(52,.o [1,2] [] (.pv (f.put (a+d) S (0+1)).p))] (sE u) g g1
theorem LP (f:Fm) (a:Nat) (s:Sx) (S:Tm) (hS:Lf s S\/f.occ a=0) (h1:a+f.cnt<=qA) (h2:f.mx<=qA * qA):A 281 [f.p,num a,.agg s.c] (f.put a S 0).p :=
 f1 [(9,.o [1,2] [] (.pv (f.put a S 0).p))] (XS a s S (by omega) f 0 hS (by omega) h2)
theorem YS:∀ (f:Fm) (d:Nat),d+f.cnt<=qA->O 149 [.pv f.p,.pv (num d),.fn 150 []] [] (.pv f.p) []
 | .eq t u,d,hd=>o3 0 [(16,.r zt),(30,.n [(6,.r t.p)]),(30,.n [(6,.r u.p)])] CC (PI t) (PI u)
 | .bin k f g,d,hd=>by
  have hd:d+(1+f.cnt+g.cnt)<=qA:=hd;have g1:=YS f d (by omega);have g2:=YS g d (by omega);cases k<;>exact o3 0 [(16,.r zt),(52,.o [] [] (.pv f.p)),(52,.o [] [] (.pv g.p))] CC g1 g2
 | .q k s f,d,hd=>by
  have hmm:=jA;have hb:=uA;have hd:d+(1+f.cnt)<=qA:=hd;have g:=AA (a:=d) (b:=1);have g1:=YS f (d+1) (by omega);cases k<;>exact o3 0 [(16,.r s.p),(39,.z (d+1)),(52,.o [] [] (.pv f.p))] (sE s) g g1
theorem Mo (f:Fm) (h:f.cnt<=qA):A 86 [f.p] f.p:=f1 [(4,.o [] [] (.pv f.p))] (YS f 0 (by omega))
def vK (b:Bool) (t:Tm):Bool:=match b with
 | true=>EB true t
 | false=>false
def ME:Bool->Fm->Bool
 | b,.eq t u=>vK (vK b t) u
 | b,.bin _ f g=>ME (ME b f) g
 | b,.q _ _ f=>ME b f
theorem ZS:∀ (f:Fm),f.mx<=JE->ME true f=true
 | .eq t u,h=>by
  have h:max t.mx u.mx<=JE:=h;simp only [ME,vK,UG t (by omega),UG u (by omega)]
 | .bin _ f g,h=>by
  have h:max f.mx g.mx<=JE:=h;simp only [ME,ZS f (by omega),ZS g (by omega)]
 | .q _ _ f,h=>ZS f h
theorem ye (t:Tm) (b:Bool) (d:Nat) (h:t.cnt<=qA:=by omega):O 317 [.pv t.p,.pv (num d),.loc 1 0] (tD b) (.pv ut) (tD (vK b t)):=by
 cases b
 ·exact o0 2 []
 ·exact o1 2 [(8,.r (.bool (EB true t)))] (a298 t h)
theorem zT:∀ (f:Fm) (b:Bool) (d:Nat),d+f.cnt<=qA->O 307 [.pv f.p,.pv (num d),.fn 317 [.loc 1 0]] (tD b) (.pv ut) (tD (ME b f))
 | .eq t u,b,d,hd=>by
  have hd:d+(1+t.cnt+u.cnt)<=qA:=hd;exact o2 2 [(20,.o [] (tD (vK b t)) (.pv ut)),(20,.o [] (tD (vK (vK b t) u)) (.pv ut))] (ye t b d) (ye u (vK b t) d)
 | .bin k f g,b,d,hd=>by
  have hd:d+(1+f.cnt+g.cnt)<=qA:=hd;have g1:=zT f b d (by omega);have g2:=zT g (ME b f) d (by omega);cases k<;>exact o2 2 [(37,.o [] (tD (ME b f)) (.pv ut)),(37,.o [] (tD (ME (ME b f) g)) (.pv ut))] g1 g2
 | .q k s f,b,d,hd=>by
  have hmm:=jA;have hb:=uA;have hd:d+(1+f.cnt)<=qA:=hd;have g:=AA (a:=d) (b:=1);have g1:=zT f b (d+1) (by omega);cases k<;>exact o2 2 [(26,.z (d+1)),(37,.o [] (tD (ME b f)) (.pv ut))] g g1
theorem a295 (f:Fm) (h:f.cnt<=qA):A 288 [f.p] (.bool (ME true f)) :=
 f1 [(6,.o [] (tD (ME true f)) (.pv ut))] (zT f true 0 (by omega))
theorem ue (t:Tm) (a n d:Nat) (ha:a+d<=qA:=by omega) (h:t.cnt<=qA:=by omega) (hm:t.mx<=qA * qA:=by omega) (hn:n+t.cnt<=dA:=by omega):O 308 [.pv t.p,.pv (num d),.loc 2 0,.loc 1 0] [(1,bx [num a]),(2,bx [num n])] (.pv ut) [(1,bx [num a]),(2,bx [num (n+t.occ (a+d))])]:=by
 have hmm:=jA;have hb:=uA;have:=cB t (a+d);have g:=AA (a:=a) (b:=d);have g':=AA (a:=n) (b:=t.occ (a+d));exact o3 3 [(10,.z (a+d)),(11,.N (t.occ (a+d))),(12,.z (n+t.occ (a+d)))] g (Zd t (a+d) ha h hm) g'
theorem jT (a:Nat):∀ (f:Fm) (n d:Nat),a+d+f.cnt<=qA->f.mx<=qA * qA->n+f.cnt<=dA->O 307 [.pv f.p,.pv (num d),.fn 308 [.loc 2 0,.loc 1 0]] [(1,bx [num a]),(2,bx [num n])] (.pv ut) [(1,bx [num a]),(2,bx [num (n+f.occ (a+d))])]
 | .eq t u,n,d,hd,hm,hn=>by
  have hd:a+d+(1+t.cnt+u.cnt)<=qA:=hd;have hm:max t.mx u.mx<=qA * qA:=hm;have hn:n+(1+t.cnt+u.cnt)<=dA:=hn;have:=cB t (a+d);have g1:=ue t a n d;have g2:=ue u a (n+t.occ (a+d)) d;have e:n+(Fm.eq t u).occ (a+d)=n+t.occ (a+d)+u.occ (a+d):=(Nat.add_assoc _ _ _).symm;rw [e];exact o2 3 [(20,.o [1] (KE (n+t.occ (a+d))) (.pv ut)),(20,.o [1] (KE (n+t.occ (a+d)+u.occ (a+d))) (.pv ut))] g1 g2
 | .bin k f g,n,d,hd,hm,hn=>by
  have hd:a+d+(1+f.cnt+g.cnt)<=qA:=hd;have hm:max f.mx g.mx<=qA * qA:=hm;have hn:n+(1+f.cnt+g.cnt)<=dA:=hn;have:=CH f (a+d);have g1:=jT a f n d (by omega) (by omega) (by omega);have g2:=jT a g (n+f.occ (a+d)) d (by omega) (by omega) (by omega);have e:n+(Fm.bin k f g).occ (a+d)=n+f.occ (a+d)+g.occ (a+d):=(Nat.add_assoc _ _ _).symm;rw [e];cases k<;>exact o2 3 [(37,.o [1] (KE (n+f.occ (a+d))) (.pv ut)),(37,.o [1] (KE (n+f.occ (a+d)+g.occ (a+d))) (.pv ut))] g1 g2
 | .q k s f,n,d,hd,hm,hn=>by
  have hmm:=jA;have hb:=uA;have hd:a+d+(1+f.cnt)<=qA:=hd;have hn:n+(1+f.cnt)<=dA:=hn;have g:=AA (a:=d) (b:=1);have g1:=jT a f n (d+1) (by omega) hm (by omega);cases k<;>exact o2 3 [(26,.z (d+1)),(37,.o [1] (KE (n+f.occ (a+(d+1)))) (.pv ut))] g g1
theorem MP (f:Fm) (a:Nat) (h:a+f.cnt<=qA) (hm:f.mx<=qA * qA):A 280 [f.p,num a] (num (f.occ a)):=by
 have hmm:=jA;have hb:=uA;have g:=jT a f 0 0 (by omega) hm (by omega);rw [Nat.zero_add] at g;exact f1 [(8,.o [1] (KE (f.occ a)) (.pv ut))] g
open Go.Lg
def Tm.fr:Tm->Nat
 | .v i=>i+1
 | .lam _ b=>b.fr-1
 | .n0 _=>0
 | .n1 _ a=>a.fr
 | .n2 _ a b=>max a.fr b.fr
 | .n3 _ _ a b c=>max (max a.fr b.fr) c.fr
def Tm.nf:Tm->Bool
 | .v _=>true
 | .lam _ b=>b.nf
 | .n0 _=>true
 | .n1 k a=>(Tm.n1 k a).red.isNone && a.nf
 | .n2 k a b=>(Tm.n2 k a b).red.isNone && (a.nf && b.nf)
 | .n3 k s a b c=>(Tm.n3 k s a b c).red.isNone && (a.nf && (b.nf && c.nf))
def Tm.nas:Tm->List (List PV)
 | .lam _ b=>[[.nptr [num b.kd,num b.ix,num b.tk,.slice b.te,.slice b.nas,num b.cnt,num b.fr,.flg b.nf]]]
 | .n1 _ a=>[[.nptr [num a.kd,num a.ix,num a.tk,.slice a.te,.slice a.nas,num a.cnt,num a.fr,.flg a.nf]]]
 | .n2 _ a b=>[[.nptr [num a.kd,num a.ix,num a.tk,.slice a.te,.slice a.nas,num a.cnt,num a.fr,.flg a.nf]],[.nptr [num b.kd,num b.ix,num b.tk,.slice b.te,.slice b.nas,num b.cnt,num b.fr,.flg b.nf]]]
 | .n3 _ _ a b c=>[[.nptr [num a.kd,num a.ix,num a.tk,.slice a.te,.slice a.nas,num a.cnt,num a.fr,.flg a.nf]],[.nptr [num b.kd,num b.ix,num b.tk,.slice b.te,.slice b.nas,num b.cnt,num b.fr,.flg b.nf]],[.nptr [num c.kd,num c.ix,num c.tk,.slice c.te,.slice c.nas,num c.cnt,num c.fr,.flg c.nf]]]
 | _=>[]
abbrev Tm.nd' (t:Tm):PV:=.nptr [num t.kd,num t.ix,num t.tk,.slice t.te,.slice t.nas,num t.cnt,num t.fr,.flg t.nf]
theorem KH:∀ (t:Tm) (n:Nat),t.sc n↔t.fr<=n
 | .v i,n=>by simp only [Tm.sc,Tm.fr];omega
 | .lam s b,n=>by have:=KH b (n+1);simp only [Tm.sc,Tm.fr,this];omega
 | .n0 k,n=>by simp [Tm.sc,Tm.fr]
 | .n1 k a,n=>by simpa only [Tm.sc,Tm.fr] using KH a n
 | .n2 k a b,n=>by simp only [Tm.sc,Tm.fr,KH a n,KH b n];omega
 | .n3 k s a b d,n=>by simp only [Tm.sc,Tm.fr,KH a n,KH b n,KH d n];omega
theorem wK (z:Int):∀ (t:Tm) (c:Nat),t.fr<=c->t.sh c z=t
 | .v i,c,h=>by simp only [Tm.fr] at h;simp only [Tm.sh,if_neg (show ¬ c<=i by omega)]
 | .lam s b,c,h=>by simp only [Tm.fr] at h;simp only [Tm.sh,wK z b (c+1) (by omega)]
 | .n0 k,c,h=>rfl
 | .n1 k a,c,h=>by simp only [Tm.fr] at h;simp only [Tm.sh,wK z a c h]
 | .n2 k a b,c,h=>by simp only [Tm.fr] at h;simp only [Tm.sh,wK z a c (by omega),wK z b c (by omega)]
 | .n3 k s a b d,c,h=>by simp only [Tm.fr] at h;simp only [Tm.sh,wK z a c (by omega),wK z b c (by omega),wK z d c (by omega)]
theorem tF:∀ (t:Tm) (c:Nat),t.sh c (.ofNat 0)=t
 | .v i,c=>by simp only [Tm.sh];split<;>simp
 | .lam s b,c=>by simp only [Tm.sh,tF b]
 | .n0 k,c=>rfl
 | .n1 k a,c=>by simp only [Tm.sh,tF a]
 | .n2 k a b,c=>by simp only [Tm.sh,tF a,tF b]
 | .n3 k s a b d,c=>by simp only [Tm.sh,tF a,tF b,tF d]
theorem kK (c:Nat) (S:Tm):∀ (t:Tm) (d:Nat),t.fr<=c+d->t.put c S d=t
 | .v i,d,h=>by simp only [Tm.fr] at h;simp only [Tm.put,if_neg (show ¬ i=c+d by omega),if_neg (show ¬ c+d<i by omega)]
 | .lam s b,d,h=>by simp only [Tm.fr] at h;simp only [Tm.put,kK c S b (d+1) (by omega)]
 | .n0 k,d,h=>rfl
 | .n1 k a,d,h=>by simp only [Tm.fr] at h;simp only [Tm.put,kK c S a d h]
 | .n2 k a b,d,h=>by simp only [Tm.fr] at h;simp only [Tm.put,kK c S a d (by omega),kK c S b d (by omega)]
 | .n3 k s a b e,d,h=>by simp only [Tm.fr] at h;simp only [Tm.put,kK c S a d (by omega),kK c S b d (by omega),kK c S e d (by omega)]
theorem QI:∀ (t:Tm) (c:Nat),t.fr<=c->t.occ c=0
 | .v i,c,h=>by simp only [Tm.fr] at h;simp only [Tm.occ,if_neg (show ¬ i=c by omega)]
 | .lam s b,c,h=>by simp only [Tm.fr] at h;simp only [Tm.occ,QI b (c+1) (by omega)]
 | .n0 k,c,h=>rfl
 | .n1 k a,c,h=>by simp only [Tm.fr] at h;simp only [Tm.occ,QI a c h]
 | .n2 k a b,c,h=>by simp only [Tm.fr] at h;simp only [Tm.occ,QI a c (by omega),QI b c (by omega)]
 | .n3 k s a b d,c,h=>by simp only [Tm.fr] at h;simp only [Tm.occ,QI a c (by omega),QI b c (by omega),QI d c (by omega)]
theorem VG:∀ t:Tm,t.fr<=t.mx+1
 | .v i=>by simp [Tm.fr,Tm.mx]
 | .lam s b=>by have:=VG b;simp only [Tm.fr,Tm.mx];omega
 | .n0 k=>by simp [Tm.fr]
 | .n1 k a=>VG a
 | .n2 k a b=>by have:=VG a;have:=VG b;simp only [Tm.fr,Tm.mx];omega
 | .n3 k s a b d=>by have:=VG a;have:=VG b;have:=VG d;simp only [Tm.fr,Tm.mx];omega
theorem WG:∀ (t:Tm) (n:Nat),t.sc n->t.mx<=n+t.cnt
 | .v i,n,h=>by simp only [Tm.sc] at h;simp only [Tm.mx];omega
 | .lam s b,n,h=>by have:=WG b (n+1) h;simp only [Tm.mx,Tm.cnt];omega
 | .n0 k,n,h=>by simp [Tm.mx]
 | .n1 k a,n,h=>by have:=WG a n h;simp only [Tm.mx,Tm.cnt];omega
 | .n2 k a b,n,h=>by have:=WG a n h.1;have:=WG b n h.2;simp only [Tm.mx,Tm.cnt];omega
 | .n3 k s a b d,n,h=>by have:=WG a n h.1;have:=WG b n h.2.1;have:=WG d n h.2.2;simp only [Tm.mx,Tm.cnt];omega
theorem iX:∀ (t:Tm) {n m:Nat},n<=m->t.sc n->t.sc m:=λ t n m h h'=>(KH t m).2 (Nat.le_trans ((KH t n).1 h') h)
theorem uG (z:Nat):∀ (t:Tm) (c n:Nat),t.sc n->(t.sh c (.ofNat z)).sc (n+z)
 | .v i,c,n,h=>by
  have h:i<n:=h;simp only [Tm.sh];split
  ·show ((Int.ofNat i + .ofNat z).toNat)<n+z;have:(Int.ofNat i + .ofNat z).toNat=i+z:=rfl;omega
  ·show i<n+z;omega
 | .lam s b,c,n,h=>by
  have:=uG z b (c+1) (n+1) h;rw [show n+1+z=n+z+1 by omega] at this;exact this
 | .n0 k,c,n,h=>trivial
 | .n1 k a,c,n,h=>uG z a c n h
 | .n2 k a b,c,n,h=>⟨uG z a c n h.1,uG z b c n h.2⟩
 | .n3 k s a b d,c,n,h=>⟨uG z a c n h.1,uG z b c n h.2.1,uG z d c n h.2.2⟩
theorem LH (S:Tm) (n:Nat):∀ (t:Tm) (d:Nat),t.sc (n+d+1)->(S.sc n\/t.occ d=0)->(t.put 0 S d).sc (n+d)
 | .v i,d,h,hS=>by
  have h:i<n+d+1:=h;simp only [Tm.put,Nat.zero_add];split
  ·rename_i e;rcases hS with hS|hS
   ·exact uG d S 0 n hS
   ·simp [Tm.occ,e] at hS
  ·split
   ·show i-1<n+d;omega
   ·show i<n+d;omega
 | .lam s b,d,h,hS=>by
  have h:b.sc (n+d+1+1):=h;have:=LH S n b (d+1) (by rw [show n+(d+1)+1=n+d+1+1 by omega];exact h) hS;exact this
 | .n0 k,d,h,hS=>trivial
 | .n1 k a,d,h,hS=>LH S n a d h hS
 | .n2 k a b,d,h,hS=>by
  simp only [Tm.occ] at hS;exact⟨LH S n a d h.1 (hS.imp id (by omega)),LH S n b d h.2 (hS.imp id (by omega))⟩
 | .n3 k s a b e,d,h,hS=>by
  simp only [Tm.occ] at hS;exact⟨LH S n a d h.1 (hS.imp id (by omega)),LH S n b d h.2.1 (hS.imp id (by omega)),LH S n e d h.2.2 (hS.imp id (by omega))⟩
theorem RI (z w:Nat):∀ (t:Tm) (c:Nat),(t.sh c (.ofNat z)).sh c (.ofNat w)=t.sh c (.ofNat (z+w))
 | .v i,c=>by
  simp only [Tm.sh];split
  ·have e:(Int.ofNat i + .ofNat z).toNat=i+z:=rfl;simp only [Tm.sh,e,if_pos (show c<=i+z by omega)];have e1:(Int.ofNat (i+z) + .ofNat w).toNat=i+z+w:=rfl;have e2:(Int.ofNat i + .ofNat (z+w)).toNat=i+(z+w):=rfl;rw [e1,e2,Nat.add_assoc]
  ·rename_i h;simp only [Tm.sh,if_neg h]
 | .lam s b,c=>by simp only [Tm.sh,RI z w b]
 | .n0 k,c=>rfl
 | .n1 k a,c=>by simp only [Tm.sh,RI z w a]
 | .n2 k a b,c=>by simp only [Tm.sh,RI z w a,RI z w b]
 | .n3 k s a b d,c=>by simp only [Tm.sh,RI z w a,RI z w b,RI z w d]
theorem XG (z:Int):∀ (t:Tm) (c:Nat),(t.sh c z).shp=t.shp
 | .v i,c=>by simp only [Tm.sh];split<;>rfl
 | .lam s b,c=>by simp only [Tm.sh,Tm.shp,XG z b]
 | .n0 k,c=>rfl
 | .n1 k a,c=>by simp only [Tm.sh,Tm.shp,XG z a]
 | .n2 k a b,c=>by simp only [Tm.sh,Tm.shp,XG z a,XG z b]
 | .n3 k s a b d,c=>by simp only [Tm.sh,Tm.shp,XG z a,XG z b,XG z d]
theorem MH (c:Nat) (S:Tm):∀ (t:Tm) (d:Nat),(S.shp=true\/t.occ (c+d)=0)->t.shp=true->(t.put c S d).shp=true
 | .v i,d,hS,h=>by
  simp only [Tm.put];split
  ·rename_i e;rcases hS with hS|hS
   ·rw [XG];exact hS
   ·simp [Tm.occ,e] at hS
  ·split<;>rfl
 | .lam s b,d,hS,h=>by
  obtain⟨h1,h2⟩:=DA h;show (_ && _)=true;rw [h1,MH c S b (d+1) hS h2];rfl
 | .n0 k,d,hS,h=>rfl
 | .n1 k a,d,hS,h=>MH c S a d hS h
 | .n2 k a b,d,hS,h=>by
  obtain⟨h1,h2⟩:=DA h;simp only [Tm.occ] at hS;show (_ && _)=true;rw [MH c S a d (hS.imp id (by omega)) h1,MH c S b d (hS.imp id (by omega)) h2];rfl
 | .n3 k s a b e,d,hS,h=>by
  obtain⟨h1,h2⟩:=DA h;obtain⟨h2,h3⟩:=DA h2;obtain⟨h3,h4⟩:=DA h3;simp only [Tm.occ] at hS;show (_ && (_ && (_ && _)))=true;rw [h1,MH c S a d (hS.imp id (by omega)) h2,MH c S b d (hS.imp id (by omega)) h3,MH c S e d (hS.imp id (by omega)) h4];rfl
theorem No (n:Nat):∀ {t r:Tm},t.red=some r->t.sc n->t.shp=true->r.sc n/\r.shp=true:=by
 refine @RJ (λ t r=>t.sc n->t.shp=true->r.sc n/\r.shp=true) ?_ ?_ ?_ ?_ ?_ ?_ ?_
 ·intro a b h hs;exact⟨h.1,(DA hs).1⟩
 ·intro a b h hs;exact⟨h.2,(DA hs).2⟩
 ·intro s b a h hs;obtain⟨h1,h2⟩:=DA hs;obtain⟨_,h3⟩:=DA h1;exact⟨LH a n b 0 h.1 (.inl h.2),MH 0 a b 0 (.inl h2) h3⟩
 ·intro s b f h hs;obtain⟨_,h2⟩:=DA hs;exact⟨h.1,(DA h2).1⟩
 ·intro s b f m h hs;obtain⟨h1,h2⟩:=DA hs;obtain⟨h2,h3⟩:=DA h2;obtain⟨h3,h4⟩:=DA h3;have h4:m.shp=true:=h4;refine⟨⟨⟨h.2.1,h.2.2⟩,h.1,h.2.1,h.2.2⟩,?_⟩;show ((_ && _) && (_ && (_ && (_ && _))))=true;rw [h1,h2,h3,h4];rfl
 ·intro s b f h hs;obtain⟨_,h2⟩:=DA hs;exact⟨h.1,(DA h2).1⟩
 ·intro s b f x l h hs;obtain⟨h1,h2⟩:=DA hs;obtain⟨h2,h3⟩:=DA h2;obtain⟨h3,h4⟩:=DA h3;obtain⟨h4,h5⟩:=DA h4;have h':=h.2.2;refine⟨⟨⟨⟨h.2.1,h'.1⟩,h'.2⟩,h.1,h.2.1,h'.2⟩,?_⟩;show (((_ && _) && _) && (_ && (_ && (_ && _))))=true;rw [h1,h2,h3,h4,h5];rfl
open Go.Lg
theorem QL:∀ (f:Fm) (n:Nat),f.sc n->f.mx<=n+f.cnt
 | .eq a b,n,h=>by have:=WG a n h.1;have:=WG b n h.2;simp only [Fm.mx,Fm.cnt];omega
 | .bin k a b,n,h=>by have:=QL a n h.1;have:=QL b n h.2;simp only [Fm.mx,Fm.cnt];omega
 | .q k s a,n,h=>by have:=QL a (n+1) h;simp only [Fm.mx,Fm.cnt];omega
theorem vT:∀ (f:Fm) {n m:Nat},n<=m->f.sc n->f.sc m
 | .eq a b,n,m,h,h'=>⟨iX a h h'.1,iX b h h'.2⟩
 | .bin k a b,n,m,h,h'=>⟨vT a h h'.1,vT b h h'.2⟩
 | .q k s a,n,m,h,h'=>vT a (Nat.succ_le_succ h) h'
theorem wT (z:Nat):∀ (f:Fm) (c n:Nat),f.sc n->(f.sh c (.ofNat z)).sc (n+z)
 | .eq a b,c,n,h=>⟨uG z a c n h.1,uG z b c n h.2⟩
 | .bin k a b,c,n,h=>⟨wT z a c n h.1,wT z b c n h.2⟩
 | .q k s a,c,n,h=>by
  have:=wT z a (c+1) (n+1) h;rw [show n+1+z=n+z+1 by omega] at this;exact this
theorem tN (S:Tm) (n:Nat):∀ (f:Fm) (d:Nat),f.sc (n+d+1)->(S.sc n\/f.occ d=0)->(f.put 0 S d).sc (n+d)
 | .eq a b,d,h,hS=>by
  simp only [Fm.occ] at hS;exact⟨LH S n a d h.1 (hS.imp id (by omega)),LH S n b d h.2 (hS.imp id (by omega))⟩
 | .bin k a b,d,h,hS=>by
  simp only [Fm.occ] at hS;exact⟨tN S n a d h.1 (hS.imp id (by omega)),tN S n b d h.2 (hS.imp id (by omega))⟩
 | .q k s a,d,h,hS=>by
  have h:a.sc (n+d+1+1):=h;exact tN S n a (d+1) (by rw [show n+(d+1)+1=n+d+1+1 by omega];exact h) hS
theorem kT (z w:Nat):∀ (f:Fm) (c:Nat),(f.sh c (.ofNat z)).sh c (.ofNat w)=f.sh c (.ofNat (z+w))
 | .eq a b,c=>by simp only [Fm.sh,RI z w a,RI z w b]
 | .bin k a b,c=>by simp only [Fm.sh,kT z w a,kT z w b]
 | .q k s a,c=>by simp only [Fm.sh,kT z w a]
theorem NP:∀ (f:Fm) (c:Nat),f.sh c (.ofNat 0)=f
 | .eq a b,c=>by simp only [Fm.sh,tF]
 | .bin k a b,c=>by simp only [Fm.sh,NP a,NP b]
 | .q k s a,c=>by simp only [Fm.sh,NP a]
theorem yT (z:Int):∀ (f:Fm) (c:Nat),(f.sh c z).shp=f.shp
 | .eq a b,c=>by simp only [Fm.sh,Fm.shp,XG]
 | .bin k a b,c=>by simp only [Fm.sh,Fm.shp,yT z a,yT z b]
 | .q k s a,c=>by simp only [Fm.sh,Fm.shp,yT z a]
theorem aN (c:Nat) (S:Tm):∀ (f:Fm) (d:Nat),(S.shp=true\/f.occ (c+d)=0)->f.shp=true->(f.put c S d).shp=true
 | .eq a b,d,hS,h=>by
  obtain⟨h1,h2⟩:=DA h;simp only [Fm.occ] at hS;show (_ && _)=true;rw [MH c S a d (hS.imp id (by omega)) h1,MH c S b d (hS.imp id (by omega)) h2];rfl
 | .bin k a b,d,hS,h=>by
  obtain⟨h1,h2⟩:=DA h;simp only [Fm.occ] at hS;show (_ && _)=true;rw [aN c S a d (hS.imp id (by omega)) h1,aN c S b d (hS.imp id (by omega)) h2];rfl
 | .q k s a,d,hS,h=>by
  obtain⟨h1,h2⟩:=DA h;show (_ && _)=true;rw [h1,aN c S a (d+1) hS h2];rfl
structure FK (n:Nat) (f:Fm):Prop where
 cnt:f.cnt<=4096
 shp:f.shp=true
 sc:f.sc n
theorem NE:∀ t:Tm,t.shp=true->t.tsz<=64
 | .v i,h=>Nat.zero_le _
 | .lam s b,h=>by
  obtain⟨h1,h2⟩:=DA h;have:=IE h1;have:=NE b h2;simp only [Tm.tsz];omega
 | .n0 k,h=>Nat.zero_le _
 | .n1 k a,h=>NE a h
 | .n2 k a b,h=>by
  obtain⟨h1,h2⟩:=DA h;have:=NE a h1;have:=NE b h2;simp only [Tm.tsz];omega
 | .n3 k s a b d,h=>by
  obtain⟨h1,h2⟩:=DA h;obtain⟨h2,h3⟩:=DA h2;obtain⟨h3,h4⟩:=DA h3;have:=IE h1;have:=NE a h2;have:=NE b h3;have:=NE d h4;simp only [Tm.tsz];omega
theorem yK:∀ f:Fm,f.shp=true->f.tsz<=64
 | .eq a b,h=>by
  obtain⟨h1,h2⟩:=DA h;have:=NE a h1;have:=NE b h2;simp only [Fm.tsz];omega
 | .bin k a b,h=>by
  obtain⟨h1,h2⟩:=DA h;have:=yK a h1;have:=yK b h2;simp only [Fm.tsz];omega
 | .q k s a,h=>by
  obtain⟨h1,h2⟩:=DA h;have:=IE h1;have:=yK a h2;simp only [Fm.tsz];omega
end Go.Proofs.YtmkajedkflhbgaaGreatDoor
