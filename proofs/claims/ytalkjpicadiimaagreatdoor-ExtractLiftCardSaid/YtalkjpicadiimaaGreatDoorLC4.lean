/- Contracts of functions; no conditions. -/
import Derived.Test.YtalkjpicadiimaaGreatDoorLC3
set_option linter.all false
set_option maxHeartbeats 4000000
namespace Go.Proofs.YtalkjpicadiimaaGreatDoor
open Go.Lg
set_option maxRecDepth 100000
theorem kd2 {s:Ty} (h:s.kd=2):s = .list:=by
 cases s with
 | list=>rfl
 | two k a b=>cases k<;>cases h
 | _=>cases h
theorem zL7 (H:MF) (f:Fm) (t:Tm) {a b:Pf} (Ha:Inf a) (Hb:Inf b):Rul 156 (.ind false f t a b):=by
 intro ls g hs M hp
 have hm:=qQd
 have hbb:=qQh
 have hk:qQf=8388608:=rfl
 have hcx:cmx=mid * mid-1001 * 4096:=rfl
 have hgl:=hp.gl
 have hhl:=hp.hl
 have hmb:M+qQf * (1+t.cnt+f.cnt+a.cnt+b.cnt)≤cmx:=hp.mb
 have htz:max (max (max t.tsz f.tsz) a.tsz) b.tsz≤mid:=hp.tsz
 have hmx:max (max (max t.mx f.mx) a.mx) b.mx≤M:=hp.mx
 have hcn:1+t.cnt+f.cnt+a.cnt+b.cnt≤65536:=hp.cnt
 have hK:qQf * (1+t.cnt+f.cnt+a.cnt+b.cnt)=qQf+qQf * t.cnt+qQf * f.cnt+qQf * a.cnt+qQf * b.cnt:=by rw [Nat.mul_add,Nat.mul_add,Nat.mul_add,Nat.mul_add,Nat.mul_one]
 rw [hK] at hmb
 rw [hm] at hcx
 have hct:=qBe t
 have c1:=qHq g
 have c2:=qYb 2 32 Ty.c_len (by decide) g .nat (by omega) (by simp only [maxLen];omega)
 obtain⟨e,g1,q0⟩:=zEk (g++[.nat]) f (qBg hp.g1 (by decide)) (by omega) (by simp;omega)
 rw [qFv] at g1
 cases e with
 | succ n=>exact⟨.er n,f3 [(32,.ok),(35,.ok),(37,.N (n+1))] c1 c2 g1,RR.good_er (Nat.succ_ne_zero n)⟩
 | zero =>
 have hfc:=Fm.chk0 (q0 rfl).1
 obtain⟨e,g2,q1⟩:=zF2 ls g hs t 1 hp.g1 (by omega) (by omega)
 cases e with
 | succ n=>exact⟨.er n,f4 [(32,.ok),(35,.ok),(37,.N 0),(44,.N (n+1))] c1 c2 g1 g2,RR.good_er (Nat.succ_ne_zero n)⟩
 | zero =>
 obtain⟨hchk,hty⟩:t.chk=0∧t.tyR g = .ok (lT false):=by
  obtain⟨k1,s,k2,k3⟩:=q1 rfl
  exact⟨k1,by rw [k2,kd1 k3];rfl⟩
 clear q1
 have hpa:Pre ls g hs M a:=hp.sub (by show a.cnt≤1+t.cnt+f.cnt+a.cnt+b.cnt;omega) (by show a.tsz≤max (max (max t.tsz f.tsz) a.tsz) b.tsz;omega) (by show a.mx≤max (max (max t.mx f.mx) a.mx) b.mx;omega)
 have g3:=qSe 4
 obtain⟨w,e,g4,q2,b1,b2⟩:=zAc Ha ls g hs M hpa f (.n0 .zero) (by omega) (by rw [hm];omega) (by omega) (by decide) (by decide) (by decide) (by simp only [Tm.mx];omega)
 by_cases he:e=0
 rotate_left
 ·obtain⟨n,rfl⟩:=Nat.exists_eq_succ_of_ne_zero he
  exact⟨.er n,f6 [(32,.ok),(35,.ok),(37,.N 0),(44,.N 0),(56,.r (Tm.n0 .zero).p),(57,.U [qQk w,num (n+1)])] c1 c2 g1 g2 g3 g4,RR.good_er (Nat.succ_ne_zero n)⟩
 subst he
 obtain⟨fa,⟨_,⟨ja,j1,j2,j3,j4⟩,_,_,_⟩,wa,hwa,hma⟩:=q2 rfl
 obtain⟨e,g5,q4⟩:=zBr ls g hs 1 1 (by omega) (by omega)
 cases e with
 | succ n=>exact⟨.er n,f7 [(32,.ok),(35,.ok),(37,.N 0),(44,.N 0),(56,.r (Tm.n0 .zero).p),(57,.U [qQk w,num 0]),(65,.N (n+1))] c1 c2 g1 g2 g3 g4 g5,RR.good_er (Nat.succ_ne_zero n)⟩
 | zero =>
 have hroom:=q4 rfl
 have g6:=qSl ls g .nat hs (by omega) (by omega) (fun f hf=>(hp.h1 f hf).hyp (by omega))
 have hf1:FO (M+1) f:=⟨hfc.1,by omega,by omega⟩
 have g7:=zEn ls (g++[.nat]) (hs.map (Fm.sh 0 1)) f (by simp;omega)
 have g8:=a53 f 1 1 (by omega) (by omega) (by rw [hm];omega) (by omega)
 have g9:=qSf 5 (.v 0)
 have hpb:Pre ls (g++[.nat]) (hs.map (Fm.sh 0 1)++[f]) (M+1) b:=hp.to (by omega) (by
  intro x hx
  rcases List.mem_append.1 hx with h|h
  ·exact qBf hp.h1 1 x h
  ·simp at h;subst h;exact hf1) (by
  intro x hx
  rcases List.mem_append.1 hx with h|h
  ·exact hp.g1 x h
  ·simp at h;subst h;decide) (by simp;omega) (by simp;omega) (by show b.cnt≤1+t.cnt+f.cnt+a.cnt+b.cnt;omega) (by show b.tsz≤max (max (max t.tsz f.tsz) a.tsz) b.tsz;omega) (by show b.mx≤max (max (max t.mx f.mx) a.mx) b.mx;omega) (by omega)
 have hup:(f.sh 1 1).mx≤f.mx+1:=qVl 1 f 1
 have hupc:(f.sh 1 1).cnt=f.cnt:=qQq 1 f 1
 have hupt:(f.sh 1 1).tsz=f.tsz:=qQt 1 f 1
 obtain⟨w',e,g10,q5,b3,b4⟩:=zAc Hb ls (g++[.nat]) (hs.map (Fm.sh 0 1)++[f]) (M+1) hpb (f.sh 1 1) (Tm.n1 .succ (.v 0)) (by omega) (by rw [hm];omega) (by omega) (by decide) (by decide) (by decide) (by simp only [Tm.mx];omega)
 by_cases he:e=0
 rotate_left
 ·obtain⟨n,rfl⟩:=Nat.exists_eq_succ_of_ne_zero he
  exact⟨.er n,fk [(32,.ok),(35,.ok),(37,.N 0),(44,.N 0),(56,.r (Tm.n0 .zero).p),(57,.U [qQk w,num 0]),(65,.N 0),(74,.r (ckp ls (g++[.nat]) (hs.map (Fm.sh 0 1)))),(76,.r (ckp ls (g++[.nat]) (hs.map (Fm.sh 0 1)++[f]))),(82,.r (f.sh 1 1).p),(85,.r (Tm.n1 .succ (.v 0)).p),(86,.U [qQk w',num (n+1)])] (And.intro c1 (And.intro c2 (And.intro g1 (And.intro g2 (And.intro g3 (And.intro g4 (And.intro g5 (And.intro g6 (And.intro g7 (And.intro g8 (And.intro g9 (And.intro g10 (Eq.refl ((RR.er n).p)))))))))))))),RR.good_er (Nat.succ_ne_zero n)⟩
 subst he
 obtain⟨fb,⟨_,⟨jb,k1,k2,k3,k4⟩,_,_,_⟩,wb,hw2,hm2⟩:=q5 rfl
 have hM2:t.mx≤mid * mid:=by rw [hm];omega
 obtain⟨u1,g12,p1,p2,p3,_⟩:=zEp H t (by omega) (by omega) hM2
 obtain⟨u2,g13,p4,p5,p6,_⟩:=H.union u1 w (by omega) (fun z hz=>by have:=p2 z hz;omega) (fun z hz=>by have:=b1 z hz;omega)
 have hwb:∀ z∈w',z≤big:=fun z hz=>by have:=b3 z hz;omega
 have g14:=zEo 1 w' (by omega) hwb
 have hol:=qYd 1 w'
 have hob:∀ z∈qZ5 1 w',z≤M+1+qQf * b.cnt:=qCv (fun z hz=>b3 z hz)
 have hu2:∀ z∈u2,z≤M+qQf * a.cnt:=fun z hz=>by
  rcases p5 z hz with h|h
  ·have:=p2 z h;omega
  ·exact b1 z h
 obtain⟨u3,g15,s1,s2,s3,sA⟩:=H.union u2 (qZ5 1 w') (by omega) (fun z hz=>by have:=hu2 z hz;omega) (fun z hz=>by have:=hob z hz;omega)
 obtain⟨r,g11,q8⟩:=zAb f t (by omega) (by rw [hm];omega) (by omega) (by omega) hM2 (by omega)
 rcases q8 with ⟨n,rfl⟩|⟨rfl,q9⟩
 ·exact⟨⟨0,0,[],[],[],u3,n+1⟩,fk [(32,.ok),(35,.ok),(37,.N 0),(44,.N 0),(56,.r (Tm.n0 .zero).p),(57,.U [qQk w,num 0]),(65,.N 0),(74,.r (ckp ls (g++[.nat]) (hs.map (Fm.sh 0 1)))),(76,.r (ckp ls (g++[.nat]) (hs.map (Fm.sh 0 1)++[f]))),(82,.r (f.sh 1 1).p),(85,.r (Tm.n1 .succ (.v 0)).p),(86,.U [qQk w',num 0]),(96,.r (FR.er n).p),(101,.r (qQk u1)),(103,.r (qQk u2)),(105,.r (qQk (qZ5 1 w'))),(106,.r (qQk u3))] (And.intro c1 (And.intro c2 (And.intro g1 (And.intro g2 (And.intro g3 (And.intro g4 (And.intro g5 (And.intro g6 (And.intro g7 (And.intro g8 (And.intro g9 (And.intro g10 (And.intro g11 (And.intro g12 (And.intro g13 (And.intro g14 (And.intro g15 (Eq.refl (RR.p (⟨0,0,[],[],[],u3,n+1⟩)))))))))))))))))))),RR.good_er (Nat.succ_ne_zero n)⟩
 ·have h1:=qWl 0 t f 0
  have h2:=qJv 0 t f 0
  refine⟨.of (f.put 0 t 0) u3 0,fk [(32,.ok),(35,.ok),(37,.N 0),(44,.N 0),(56,.r (Tm.n0 .zero).p),(57,.U [qQk w,num 0]),(65,.N 0),(74,.r (ckp ls (g++[.nat]) (hs.map (Fm.sh 0 1)))),(76,.r (ckp ls (g++[.nat]) (hs.map (Fm.sh 0 1)++[f]))),(82,.r (f.sh 1 1).p),(85,.r (Tm.n1 .succ (.v 0)).p),(86,.U [qQk w',num 0]),(96,.r (FR.ok (f.put 0 t 0)).p),(101,.r (qQk u1)),(103,.r (qQk u2)),(105,.r (qQk (qZ5 1 w'))),(106,.r (qQk u3))] (And.intro c1 (And.intro c2 (And.intro g1 (And.intro g2 (And.intro g3 (And.intro g4 (And.intro g5 (And.intro g6 (And.intro g7 (And.intro g8 (And.intro g9 (And.intro g10 (And.intro g11 (And.intro g12 (And.intro g13 (And.intro g14 (And.intro g15 (Eq.refl ((RR.of (f.put 0 t 0) u3 0).p))))))))))))))))))),fun _=>⟨_,rfl,⟨by show (f.put 0 t 0).cnt≤mid;omega,by show (f.put 0 t 0).mx≤M+qQf * (1+t.cnt+f.cnt+a.cnt+b.cnt);rw [hK];omega,by show (f.put 0 t 0).tsz≤mid;omega,⟨.ind false f t ja jb _,by rw [← j1,← k1];rfl,rfl,fun hc=>⟨hc,q0 rfl,⟨hchk,hty⟩,⟨j3,wa,hwa,by rw [j2];exact hma⟩,hroom,⟨k3,wb,hw2,by rw [k2];exact hm2⟩,qOu q9⟩,fun z hz => ?_⟩,sA,fun z hz => ?_,by show u3.length≤1+t.cnt+f.cnt+a.cnt+b.cnt;omega⟩⟩⟩
  ·rcases hz.2 with h|h|h
   ·exact s1 z (.inl (p4 z (.inl (p1 hchk z h))))
   ·exact s1 z (.inl (p4 z (.inr (j4 z h))))
   ·exact s1 z (.inr (qK2 (k4 _ h)))
  ·show z≤M+qQf * (1+t.cnt+f.cnt+a.cnt+b.cnt)
   rw [hK]
   rcases s2 z hz with h|h
   ·have:=hu2 z h;omega
   ·have:=hob z h;omega
theorem zL8 (H:MF) (f:Fm) (t:Tm) {a b:Pf} (Ha:Inf a) (Hb:Inf b):Rul 157 (.ind true f t a b):=by
 intro ls g hs M hp
 have hm:=qQd
 have hbb:=qQh
 have hk:qQf=8388608:=rfl
 have hcx:cmx=mid * mid-1001 * 4096:=rfl
 have hgl:=hp.gl
 have hhl:=hp.hl
 have hmb:M+qQf * (1+t.cnt+f.cnt+a.cnt+b.cnt)≤cmx:=hp.mb
 have htz:max (max (max t.tsz f.tsz) a.tsz) b.tsz≤mid:=hp.tsz
 have hmx:max (max (max t.mx f.mx) a.mx) b.mx≤M:=hp.mx
 have hcn:1+t.cnt+f.cnt+a.cnt+b.cnt≤65536:=hp.cnt
 have hK:qQf * (1+t.cnt+f.cnt+a.cnt+b.cnt)=qQf+qQf * t.cnt+qQf * f.cnt+qQf * a.cnt+qQf * b.cnt:=by rw [Nat.mul_add,Nat.mul_add,Nat.mul_add,Nat.mul_add,Nat.mul_one]
 rw [hK] at hmb
 rw [hm] at hcx
 have hct:=qBe t
 have c1:=qHq g
 have c2:=qYb 2 32 Ty.c_len (by decide) g .list (by omega) (by simp only [maxLen];omega)
 obtain⟨e,g1,q0⟩:=zEk (g++[.list]) f (qBg hp.g1 (by decide)) (by omega) (by simp;omega)
 rw [qFv] at g1
 cases e with
 | succ n=>exact⟨.er n,f3 [(32,.ok),(35,.ok),(37,.N (n+1))] c1 c2 g1,RR.good_er (Nat.succ_ne_zero n)⟩
 | zero =>
 have hfc:=Fm.chk0 (q0 rfl).1
 obtain⟨e,g2,q1⟩:=zF2 ls g hs t 2 hp.g1 (by omega) (by omega)
 cases e with
 | succ n=>exact⟨.er n,f4 [(32,.ok),(35,.ok),(37,.N 0),(44,.N (n+1))] c1 c2 g1 g2,RR.good_er (Nat.succ_ne_zero n)⟩
 | zero =>
 obtain⟨hchk,hty⟩:t.chk=0∧t.tyR g = .ok (lT true):=by
  obtain⟨k1,s,k2,k3⟩:=q1 rfl
  exact⟨k1,by rw [k2,kd2 k3];rfl⟩
 clear q1
 have hpa:Pre ls g hs M a:=hp.sub (by show a.cnt≤1+t.cnt+f.cnt+a.cnt+b.cnt;omega) (by show a.tsz≤max (max (max t.tsz f.tsz) a.tsz) b.tsz;omega) (by show a.mx≤max (max (max t.mx f.mx) a.mx) b.mx;omega)
 have g3:=qSe 7
 obtain⟨w,e,g4,q2,b1,b2⟩:=zAc Ha ls g hs M hpa f (.n0 .nil) (by omega) (by rw [hm];omega) (by omega) (by decide) (by decide) (by decide) (by simp only [Tm.mx];omega)
 by_cases he:e=0
 rotate_left
 ·obtain⟨n,rfl⟩:=Nat.exists_eq_succ_of_ne_zero he
  exact⟨.er n,f6 [(32,.ok),(35,.ok),(37,.N 0),(44,.N 0),(56,.r (Tm.n0 .nil).p),(57,.U [qQk w,num (n+1)])] c1 c2 g1 g2 g3 g4,RR.good_er (Nat.succ_ne_zero n)⟩
 subst he
 obtain⟨fa,⟨_,⟨ja,j1,j2,j3,j4⟩,_,_,_⟩,wa,hwa,hma⟩:=q2 rfl
 obtain⟨e,g5,q4⟩:=zBr ls g hs 2 1 (by omega) (by omega)
 cases e with
 | succ n=>exact⟨.er n,f7 [(32,.ok),(35,.ok),(37,.N 0),(44,.N 0),(56,.r (Tm.n0 .nil).p),(57,.U [qQk w,num 0]),(65,.N (n+1))] c1 c2 g1 g2 g3 g4 g5,RR.good_er (Nat.succ_ne_zero n)⟩
 | zero =>
 have hroom:=q4 rfl
 have g6:=zBq ls g .nat .list hs (by omega) (by omega) (fun f hf=>(hp.h1 f hf).hyp (by omega))
 have hf1:FO (M+2) (f.sh 1 1):=by have h:=qVl 1 f 1;simp at h;exact⟨by rw [qQq];exact hfc.1,by omega,by rw [qQt];omega⟩
 have gh:=a53 f 1 1 (by omega) (by omega) (by rw [hm];omega) (by omega)
 have g7:=zEn ls (g++[.nat,.list]) (hs.map (Fm.sh 0 2)) (f.sh 1 1) (by simp;omega)
 have g8:=a53 f 1 2 (by omega) (by omega) (by rw [hm];omega) (by omega)
 have g9:=qYx 8 (.v 1) (.v 0)
 have hpb:Pre ls (g++[.nat,.list]) (hs.map (Fm.sh 0 2)++[(f.sh 1 1)]) (M+2) b:=hp.to (by omega) (by
  intro x hx
  rcases List.mem_append.1 hx with h|h
  ·exact qBf hp.h1 2 x h
  ·simp at h;subst h;exact hf1) (by
  intro x hx
  rcases List.mem_append.1 hx with h|h
  ·exact hp.g1 x h
  ·simp at h;rcases h with rfl|rfl<;>decide) (by simp;omega) (by simp;omega) (by show b.cnt≤1+t.cnt+f.cnt+a.cnt+b.cnt;omega) (by show b.tsz≤max (max (max t.tsz f.tsz) a.tsz) b.tsz;omega) (by show b.mx≤max (max (max t.mx f.mx) a.mx) b.mx;omega) (by omega)
 have hup:(f.sh 1 2).mx≤f.mx+2:=qVl 2 f 1
 have hupc:(f.sh 1 2).cnt=f.cnt:=qQq 2 f 1
 have hupt:(f.sh 1 2).tsz=f.tsz:=qQt 2 f 1
 obtain⟨w',e,g10,q5,b3,b4⟩:=zAc Hb ls (g++[.nat,.list]) (hs.map (Fm.sh 0 2)++[(f.sh 1 1)]) (M+2) hpb (f.sh 1 2) (Tm.n2 .cons (.v 1) (.v 0)) (by omega) (by rw [hm];omega) (by omega) (by decide) (by decide) (by decide) (by simp only [Tm.mx];omega)
 by_cases he:e=0
 rotate_left
 ·obtain⟨n,rfl⟩:=Nat.exists_eq_succ_of_ne_zero he
  exact⟨.er n,fk [(32,.ok),(35,.ok),(37,.N 0),(44,.N 0),(56,.r (Tm.n0 .nil).p),(57,.U [qQk w,num 0]),(65,.N 0),(75,.r (ckp ls (g++[.nat,.list]) (hs.map (Fm.sh 0 2)))),(77,.r (f.sh 1 1).p),(78,.r (ckp ls (g++[.nat,.list]) (hs.map (Fm.sh 0 2)++[(f.sh 1 1)]))),(84,.r (f.sh 1 2).p),(88,.r (Tm.n2 .cons (.v 1) (.v 0)).p),(89,.U [qQk w',num (n+1)])] (And.intro c1 (And.intro c2 (And.intro g1 (And.intro g2 (And.intro g3 (And.intro g4 (And.intro g5 (And.intro g6 (And.intro gh (And.intro g7 (And.intro g8 (And.intro g9 (And.intro g10 (Eq.refl ((RR.er n).p))))))))))))))),RR.good_er (Nat.succ_ne_zero n)⟩
 subst he
 obtain⟨fb,⟨_,⟨jb,k1,k2,k3,k4⟩,_,_,_⟩,wb,hw2,hm2⟩:=q5 rfl
 have hM2:t.mx≤mid * mid:=by rw [hm];omega
 obtain⟨u1,g12,p1,p2,p3,_⟩:=zEp H t (by omega) (by omega) hM2
 obtain⟨u2,g13,p4,p5,p6,_⟩:=H.union u1 w (by omega) (fun z hz=>by have:=p2 z hz;omega) (fun z hz=>by have:=b1 z hz;omega)
 have hwb:∀ z∈w',z≤big:=fun z hz=>by have:=b3 z hz;omega
 have g14:=zEo 2 w' (by omega) hwb
 have hol:=qYd 2 w'
 have hob:∀ z∈qZ5 2 w',z≤M+2+qQf * b.cnt:=qCv (fun z hz=>b3 z hz)
 have hu2:∀ z∈u2,z≤M+qQf * a.cnt:=fun z hz=>by
  rcases p5 z hz with h|h
  ·have:=p2 z h;omega
  ·exact b1 z h
 obtain⟨u3,g15,s1,s2,s3,sA⟩:=H.union u2 (qZ5 2 w') (by omega) (fun z hz=>by have:=hu2 z hz;omega) (fun z hz=>by have:=hob z hz;omega)
 obtain⟨r,g11,q8⟩:=zAb f t (by omega) (by rw [hm];omega) (by omega) (by omega) hM2 (by omega)
 rcases q8 with ⟨n,rfl⟩|⟨rfl,q9⟩
 ·exact⟨⟨0,0,[],[],[],u3,n+1⟩,fk [(32,.ok),(35,.ok),(37,.N 0),(44,.N 0),(56,.r (Tm.n0 .nil).p),(57,.U [qQk w,num 0]),(65,.N 0),(75,.r (ckp ls (g++[.nat,.list]) (hs.map (Fm.sh 0 2)))),(77,.r (f.sh 1 1).p),(78,.r (ckp ls (g++[.nat,.list]) (hs.map (Fm.sh 0 2)++[(f.sh 1 1)]))),(84,.r (f.sh 1 2).p),(88,.r (Tm.n2 .cons (.v 1) (.v 0)).p),(89,.U [qQk w',num 0]),(99,.r (FR.er n).p),(104,.r (qQk u1)),(106,.r (qQk u2)),(108,.r (qQk (qZ5 2 w'))),(109,.r (qQk u3))] (And.intro c1 (And.intro c2 (And.intro g1 (And.intro g2 (And.intro g3 (And.intro g4 (And.intro g5 (And.intro g6 (And.intro gh (And.intro g7 (And.intro g8 (And.intro g9 (And.intro g10 (And.intro g11 (And.intro g12 (And.intro g13 (And.intro g14 (And.intro g15 (Eq.refl (RR.p (⟨0,0,[],[],[],u3,n+1⟩))))))))))))))))))))),RR.good_er (Nat.succ_ne_zero n)⟩
 ·have h1:=qWl 0 t f 0
  have h2:=qJv 0 t f 0
  refine⟨.of (f.put 0 t 0) u3 0,fk [(32,.ok),(35,.ok),(37,.N 0),(44,.N 0),(56,.r (Tm.n0 .nil).p),(57,.U [qQk w,num 0]),(65,.N 0),(75,.r (ckp ls (g++[.nat,.list]) (hs.map (Fm.sh 0 2)))),(77,.r (f.sh 1 1).p),(78,.r (ckp ls (g++[.nat,.list]) (hs.map (Fm.sh 0 2)++[(f.sh 1 1)]))),(84,.r (f.sh 1 2).p),(88,.r (Tm.n2 .cons (.v 1) (.v 0)).p),(89,.U [qQk w',num 0]),(99,.r (FR.ok (f.put 0 t 0)).p),(104,.r (qQk u1)),(106,.r (qQk u2)),(108,.r (qQk (qZ5 2 w'))),(109,.r (qQk u3))] (And.intro c1 (And.intro c2 (And.intro g1 (And.intro g2 (And.intro g3 (And.intro g4 (And.intro g5 (And.intro g6 (And.intro gh (And.intro g7 (And.intro g8 (And.intro g9 (And.intro g10 (And.intro g11 (And.intro g12 (And.intro g13 (And.intro g14 (And.intro g15 (Eq.refl ((RR.of (f.put 0 t 0) u3 0).p)))))))))))))))))))),fun _=>⟨_,rfl,⟨by show (f.put 0 t 0).cnt≤mid;omega,by show (f.put 0 t 0).mx≤M+qQf * (1+t.cnt+f.cnt+a.cnt+b.cnt);rw [hK];omega,by show (f.put 0 t 0).tsz≤mid;omega,⟨.ind true f t ja jb _,by rw [← j1,← k1];rfl,rfl,fun hc=>⟨hc,q0 rfl,⟨hchk,hty⟩,⟨j3,wa,hwa,by rw [j2];exact hma⟩,hroom,⟨k3,wb,hw2,by rw [k2];exact hm2⟩,qOu q9⟩,fun z hz => ?_⟩,sA,fun z hz => ?_,by show u3.length≤1+t.cnt+f.cnt+a.cnt+b.cnt;omega⟩⟩⟩
  ·rcases hz.2 with h|h|h
   ·exact s1 z (.inl (p4 z (.inl (p1 hchk z h))))
   ·exact s1 z (.inl (p4 z (.inr (j4 z h))))
   ·exact s1 z (.inr (qK2 (k4 _ h)))
  ·show z≤M+qQf * (1+t.cnt+f.cnt+a.cnt+b.cnt)
   rw [hK]
   rcases s2 z hz with h|h
   ·have:=hu2 z h;omega
   ·have:=hob z h;omega
abbrev zfc:List PV:=[num 0,num 0,.slice [],.slice [],.slice []]
theorem zF3:A 65 [.agg zfc] (.agg zfc):=f1 [(12,.r zt)] qYw
theorem zIn (k:FB) (f:Fm):A 92 [num k.n,f.p,.agg zfc] (.agg [num k.n,num 0,.slice [],.slice [],.slice [f.c,zfc]]):=f2 [(9,.r f.p),(11,.r (.agg zfc))] (a64 f) zF3
abbrev qz (k:FQ) (s:Ty) (x:List PV):List PV:=[num k.n,num s.kd,.slice s.es,.slice [],.slice [x]]
theorem zL9 (k:FQ) (s:Ty):A 51 [num k.n,s.p,.agg zfc] (.agg (qz k s zfc)):=f2 [(9,.r s.p),(11,.r (.agg zfc))] (qC7 s) zF3
theorem zMa (k:FQ) (s:Ty):A 65 [.agg (qz k s zfc)] (.agg (qz k s zfc)):=f2 [(12,.r s.p),(39,.r (.agg zfc))] (qC7 s) zF3
theorem zMb (k l:FQ) (s u:Ty):A 51 [num k.n,s.p,.agg (qz l u zfc)] (.agg (qz k s (qz l u zfc))):=f2 [(9,.r s.p),(11,.r (.agg (qz l u zfc)))] (qC7 s) (zMa l u)
theorem zMc {a:Pf} (Ha:Inf a):Rul 160 (.p1 .choice a):=by
 intro ls g hs M hp
 have hm:=qQd
 have hbb:=qQh
 have hk:qQf=8388608:=rfl
 have hcx:cmx=mid * mid-1001 * 4096:=rfl
 have hmb:M+qQf * (1+a.cnt)≤cmx:=hp.mb
 have hcn:1+a.cnt≤65536:=hp.cnt
 have hK:qQf * (1+a.cnt)=qQf+qQf * a.cnt:=by rw [Nat.mul_add,Nat.mul_one]
 rw [hK] at hmb
 rw [hm] at hcx
 have hpa:Pre ls g hs M a:=hp.sub (by show a.cnt≤1+a.cnt;omega) (Nat.le_refl _) (Nat.le_refl _)
 obtain⟨r,g1,q⟩:=Ha _ _ _ _ hpa
 cases r with
 | er n=>exact⟨.er n,f1 [(19,.r (PR.er n).p)] g1,RR.good_er (Nat.succ_ne_zero n)⟩
 | ok fa w =>
 obtain⟨q1,⟨ja,j1,j2,j3,j4⟩,p2,p3,p4⟩:=q
 have bad:fa.kd≠4→∃ c:RR,A 160 [ckp ls g hs,(Pf.p1 .choice a).p] c.p∧c.Good ls g hs M (.p1 .choice a):=fun hne=>⟨.er 9,f2 [(19,.r (PR.ok fa w).p),(29,.G)] g1 (qC8 hne),RR.good_er (Nat.succ_ne_zero 9)⟩
 cases fa with
 | eq x y=>exact bad (nofun)
 | bin k x y=>exact bad (by cases k<;>exact nofun)
 | q k s x =>
 cases k with
 | ex=>exact bad (nofun)
 | allU=>exact bad (nofun)
 | exU=>exact bad (nofun)
 | all =>
 have bad2:x.kd≠5→∃ c:RR,A 160 [ckp ls g hs,(Pf.p1 .choice a).p] c.p∧c.Good ls g hs M (.p1 .choice a):=fun hne=>⟨.er 9,f2 [(19,.r (PR.ok (.q .all s x) w).p),(37,.G)] g1 (qC8 hne),RR.good_er (Nat.succ_ne_zero 9)⟩
 cases x with
 | eq x y=>exact bad2 (nofun)
 | bin k x y=>exact bad2 (by cases k<;>exact nofun)
 | q k u y =>
 cases k with
 | all=>exact bad2 (nofun)
 | allU=>exact bad2 (nofun)
 | exU=>exact bad2 (nofun)
 | ex =>
 have e1:1+(1+y.cnt)≤4096:=q1.1
 have e2:y.mx≤M+qQf * a.cnt:=q1.2.1
 have e3:max s.size (max u.size y.tsz)≤mid:=q1.2.2
 have g2:=a99 s u
 have g3:=a84 (.two true s u) (by show 1+s.size+u.size≤big;omega)
 rcases qZc (.two true s u) with e|e<;>rw [e] at g3
 rotate_left
 ·exact⟨.er 3,f3 [(19,.r (PR.ok (.q .all s (.q .ex u y)) w).p),(51,.r (Ty.two true s u).p),(53,.N 4)] g1 g2 g3,RR.good_er (Nat.succ_ne_zero 3)⟩
 have hsz:=chk0 e
 have hup:(y.sh 2 1).mx≤y.mx+1:=qVl 1 y 2
 have g4:=a53 y 2 1 (by omega) (by omega) (by rw [hm];omega) (by omega)
 have g5:=qYx 3 (.v 1) (.v 0)
 obtain⟨r,g6,q3⟩:=zAb (y.sh 2 1) (.n2 .app (.v 1) (.v 0)) (by rw [qQq];omega) (by rw [hm];omega) (by rw [qQt];omega) (by decide) (by decide) (by decide)
 rcases q3 with ⟨n,rfl⟩|⟨rfl,q4⟩
 ·exact⟨⟨5,4,(Ty.two true s u).es,[],[qz .all s zfc],w,n+1⟩,f8 [(19,.r (PR.ok (.q .all s (.q .ex u y)) w).p),(51,.r (Ty.two true s u).p),(53,.N 0),(65,.r (y.sh 2 1).p),(69,.r (Tm.n2 .app (.v 1) (.v 0)).p),(70,.r (FR.er n).p),(76,.r (.agg (qz .all s zfc))),(77,.r (.agg (qz .ex (.two true s u) (qz .all s zfc))))] g1 g2 g3 g4 g5 g6 (zL9 .all s) (zMb .ex .all (.two true s u) s),RR.good_er (Nat.succ_ne_zero n)⟩
 ·have h1:=qWl 0 (.n2 .app (.v 1) (.v 0)) (y.sh 2 1) 0
  have h2:=qJv 0 (.n2 .app (.v 1) (.v 0)) (y.sh 2 1) 0
  have h3:(y.sh 2 1).cnt=y.cnt:=qQq 1 y 2
  have h4:(y.sh 2 1).tsz=y.tsz:=qQt 1 y 2
  have h5:(Tm.n2 .app (.v 1) (.v 0)).mx=1:=rfl
  have h6:(Tm.n2 .app (.v 1) (.v 0)).tsz=0:=rfl
  have h7:=qOu q4
  generalize hz:(y.sh 2 1).put 0 (.n2 .app (.v 1) (.v 0)) 0=z at *
  refine⟨.of (.q .ex (.two true s u) (.q .all s z)) w 0,f8 [(19,.r (PR.ok (.q .all s (.q .ex u y)) w).p),(51,.r (Ty.two true s u).p),(53,.N 0),(65,.r (y.sh 2 1).p),(69,.r (Tm.n2 .app (.v 1) (.v 0)).p),(70,.r (FR.ok z).p),(76,.r (Fm.q .all s z).p),(77,.r (Fm.q .ex (.two true s u) (.q .all s z)).p)] g1 g2 g3 g4 g5 g6 (a40 .all s z) (a40 .ex (.two true s u) (.q .all s z)),fun _=>⟨_,rfl,⟨?_,?_,?_,⟨.p1 .choice ja _,by rw [← j1];rfl,rfl,fun hc=>⟨hc,j3,s,u,y,j2,hsz,z,h7,rfl⟩,fun v hv=>j4 v hv.2⟩,p2,fun v hv => ?_,by show w.length≤1+a.cnt;omega⟩⟩⟩
  ·show 1+(1+z.cnt)≤mid
   omega
  ·show z.mx≤M+qQf * (1+a.cnt)
   rw [hK];omega
  ·show max (Ty.two true s u).size (max s.size z.tsz)≤mid
   omega
  ·have:=p3 v hv
   show v≤M+qQf * (1+a.cnt)
   rw [hK];omega
open Go.Lg
set_option maxRecDepth 100000
theorem zQw (u:Bool) (i:Nat):Rul 104 (.leaf u i):=by
 intro ls g hs M hp
 have hm:=qQd
 have hhl:=hp.hl
 have hll:=hp.ll
 cases u
 ·by_cases h:i<hs.length
  ·obtain⟨f,hx⟩:∃ f,hs[hs.length-1-i]? = some f:=⟨_,List.getElem?_eq_getElem (by omega)⟩
   have h1:(!ltI (.ofNat i) (.ofNat (hs.map Fm.c).length))=false:=by rw [qQ7 (by simpa using h)];rfl
   have h2:inB (Int.ofNat (hs.map Fm.c).length-1)=true∧Int.ofNat (hs.map Fm.c).length-1 = .ofNat (hs.length-1):=by
    have e:Int.ofNat (hs.map Fm.c).length-1 = .ofNat (hs.length-1):=by simp;omega
    exact⟨by rw [e];exact inN (by omega),e⟩
   have h3:inB (Int.ofNat (hs.length-1) - .ofNat i)=true∧Int.ofNat (hs.length-1) - .ofNat i = .ofNat (hs.length-1-i):=by
    have e:Int.ofNat (hs.length-1) - .ofNat i = .ofNat (hs.length-1-i):=by simp;omega
    exact⟨by rw [e];exact inN (by omega),e⟩
   have hF:=hp.h1 f (List.mem_of_getElem? hx)
   exact⟨.of f [] 0,f4 [(30,.H),(37,.z (hs.length-1)),(40,.z (hs.length-1-i)),(41,.i f.c)] h1 h2 h3 (qQn hx Fm.c_len),fun _=>⟨f,rfl,⟨by have:=hF.1;omega,by have:=hF.2.1;omega,hF.2.2,⟨.leaf false i f,rfl,rfl,fun hc=>⟨hc,h,hx⟩,fun v hv=>hv.elim⟩,List.Pairwise.nil,(fun x hx=>by cases hx),Nat.zero_le _⟩⟩⟩
  ·have h1:(!ltI (.ofNat i) (.ofNat (hs.map Fm.c).length))=true:=by rw [qZ7 (by simp;omega)];rfl
   exact⟨.er 7,f1 [(30,.G)] h1,RR.good_er (Nat.succ_ne_zero 7)⟩
 ·by_cases h:i<ls.length
  ·obtain⟨f,hx⟩:∃ f,ls[i]? = some f:=⟨_,List.getElem?_eq_getElem h⟩
   have h1:(!ltI (.ofNat i) (.ofNat (ls.map Fm.c).length))=false:=by rw [qQ7 (by simpa using h)];rfl
   have hF:=hp.l1 f (List.mem_of_getElem? hx)
   exact⟨.of f [] 0,f2 [(50,.H),(56,.i f.c)] h1 (qQn hx Fm.c_len),fun _=>⟨f,rfl,⟨by have:=hF.1;omega,by have:=hF.2.1;omega,hF.2.2,⟨.leaf true i f,rfl,rfl,fun hc=>⟨hc,hx⟩,fun v hv=>hv.elim⟩,List.Pairwise.nil,(fun x hx=>by cases hx),Nat.zero_le _⟩⟩⟩
  ·have h1:(!ltI (.ofNat i) (.ofNat (ls.map Fm.c).length))=true:=by rw [qZ7 (by simp;omega)];rfl
   exact⟨.er 8,f1 [(50,.G)] h1,RR.good_er (Nat.succ_ne_zero 8)⟩
theorem zQx (t:Tm):Rul 104 (.refl t):=by
 intro ls g hs M hp
 have hm:=qQd
 have hgl:=hp.gl
 have hcn:1+t.cnt≤65536:=hp.cnt
 have hmx:t.mx≤M:=hp.mx
 have htz:t.tsz≤mid:=hp.tsz
 obtain⟨e,g1,q⟩:=zF2 ls g hs t 1 hp.g1 htz (by omega)
 refine⟨.of (.eq t t) [] e,f2 [(280,.r (Fm.eq t t).p),(286,.N e)] (a43 t t) g1,fun he => ?_⟩
 have he:e=0:=he
 subst he
 obtain⟨k1,s,k2,k3⟩:=q rfl
 clear q
 exact⟨_,rfl,⟨by show 1+t.cnt+t.cnt≤mid;omega,by show max t.mx t.mx≤M+_;omega,by show max t.tsz t.tsz≤mid;omega,⟨.refl t,rfl,rfl,fun hc=>⟨hc,k1,by rw [k2,kd1 k3]⟩,fun v hv=>hv.elim⟩,List.Pairwise.nil,(fun x hx=>by cases hx),Nat.zero_le _⟩⟩
theorem zBv (k:P1) {a:Pf} (Ha:Inf a):Rul 104 (.p1 k a):=by
 intro ls g hs M hp
 have hm:=qQd
 have hk:qQf=8388608:=rfl
 have hK:qQf * (1+a.cnt)=qQf+qQf * a.cnt:=by rw [Nat.mul_add,Nat.mul_one]
 have hpa:Pre ls g hs M a:=hp.sub (by show a.cnt≤1+a.cnt;omega) (Nat.le_refl _) (Nat.le_refl _)
 cases k with
 | choice =>
  obtain⟨c,g1,g2⟩:=zMc Ha ls g hs M hp
  exact⟨c,f1 [(297,.r c.p)] g1,g2⟩
 | andL =>
  obtain⟨r,g1,q⟩:=Ha _ _ _ _ hpa
  cases r with
  | er n=>exact⟨.er n,f1 [(102,.r (PR.er n).p)] g1,RR.good_er (Nat.succ_ne_zero n)⟩
  | ok fa w =>
  obtain⟨q1,⟨ja,j1,j2,j3,j4⟩,p2,p3,p4⟩:=q
  have bad:fa.kd≠2→∃ c:RR,A 104 [ckp ls g hs,(Pf.p1 .andL a).p] c.p∧c.Good ls g hs M (.p1 .andL a):=fun hne=>⟨.er 9,f2 [(102,.r (PR.ok fa w).p),(112,.G)] g1 (qC8 hne),RR.good_er (Nat.succ_ne_zero 9)⟩
  cases fa with
  | eq x y=>exact bad (nofun)
  | q k s x=>exact bad (by cases k<;>exact nofun)
  | bin k x y =>
   cases k with
   | imp=>exact bad (nofun)
   | and =>
    have e1:1+x.cnt+y.cnt≤4096:=q1.1
    have e2:max x.mx y.mx≤M+qQf * a.cnt:=q1.2.1
    have e3:max x.tsz y.tsz≤mid:=q1.2.2
    exact⟨.of x w 0,f1 [(102,.r (PR.ok (.bin .and x y) w).p)] g1,fun _=>⟨_,rfl,⟨by omega,by show x.mx≤M+qQf * (1+a.cnt);rw [hK];omega,by omega,⟨.p1 .andL ja x,by rw [← j1];rfl,rfl,fun hc=>⟨hc,j3,y,j2⟩,fun v hv=>j4 v hv.2⟩,p2,fun v hv=>by have:=p3 v hv;show v≤M+qQf * (1+a.cnt);rw [hK];omega,by show w.length≤1+a.cnt;omega⟩⟩⟩
 | andR =>
  obtain⟨r,g1,q⟩:=Ha _ _ _ _ hpa
  cases r with
  | er n=>exact⟨.er n,f1 [(102,.r (PR.er n).p)] g1,RR.good_er (Nat.succ_ne_zero n)⟩
  | ok fa w =>
  obtain⟨q1,⟨ja,j1,j2,j3,j4⟩,p2,p3,p4⟩:=q
  have bad:fa.kd≠2→∃ c:RR,A 104 [ckp ls g hs,(Pf.p1 .andR a).p] c.p∧c.Good ls g hs M (.p1 .andR a):=fun hne=>⟨.er 9,f2 [(102,.r (PR.ok fa w).p),(112,.G)] g1 (qC8 hne),RR.good_er (Nat.succ_ne_zero 9)⟩
  cases fa with
  | eq x y=>exact bad (nofun)
  | q k s x=>exact bad (by cases k<;>exact nofun)
  | bin k x y =>
   cases k with
   | imp=>exact bad (nofun)
   | and =>
    have e1:1+x.cnt+y.cnt≤4096:=q1.1
    have e2:max x.mx y.mx≤M+qQf * a.cnt:=q1.2.1
    have e3:max x.tsz y.tsz≤mid:=q1.2.2
    exact⟨.of y w 0,f1 [(102,.r (PR.ok (.bin .and x y) w).p)] g1,fun _=>⟨_,rfl,⟨by omega,by show y.mx≤M+qQf * (1+a.cnt);rw [hK];omega,by omega,⟨.p1 .andR ja y,by rw [← j1];rfl,rfl,fun hc=>⟨hc,j3,x,j2⟩,fun v hv=>j4 v hv.2⟩,p2,fun v hv=>by have:=p3 v hv;show v≤M+qQf * (1+a.cnt);rw [hK];omega,by show w.length≤1+a.cnt;omega⟩⟩⟩
theorem zQy (f:Fm) {a:Pf} (Ha:Inf a):Rul 104 (.impI f a):=by
 intro ls g hs M hp
 have hm:=qQd
 have hk:qQf=8388608:=rfl
 have hgl:=hp.gl
 have hhl:=hp.hl
 have hmb:M+qQf * (1+f.cnt+a.cnt)≤cmx:=hp.mb
 have htz:max f.tsz a.tsz≤mid:=hp.tsz
 have hmx:max f.mx a.mx≤M:=hp.mx
 have hcn:1+f.cnt+a.cnt≤65536:=hp.cnt
 have hK:qQf * (1+f.cnt+a.cnt)=qQf+qQf * f.cnt+qQf * a.cnt:=by rw [Nat.mul_add,Nat.mul_add,Nat.mul_one]
 rw [hK] at hmb
 obtain⟨e,g1,q0⟩:=zEl g f hp.g1 (by omega) (by omega)
 cases e with
 | succ n=>exact⟨.er n,f1 [(132,.N (n+1))] g1,RR.good_er (Nat.succ_ne_zero n)⟩
 | zero =>
 have hfc:=Fm.chk0 (q0 rfl).1
 obtain⟨e,g2,q1⟩:=zBr ls g hs 0 1 (by omega) (by omega)
 cases e with
 | succ n=>exact⟨.er n,f2 [(132,.N 0),(138,.N (n+1))] g1 g2,RR.good_er (Nat.succ_ne_zero n)⟩
 | zero =>
 have hroom:=q1 rfl
 have g3:=zEn ls g hs f (by omega)
 have hpa:Pre ls g (hs++[f]) M a:=hp.to (Nat.le_refl _) (by
  intro x hx
  rcases List.mem_append.1 hx with h|h
  ·exact hp.h1 x h
  ·simp at h;subst h;exact⟨hfc.1,by omega,by omega⟩) hp.g1 hp.gl (by simp;omega) (by show a.cnt≤1+f.cnt+a.cnt;omega) (by show a.tsz≤max f.tsz a.tsz;omega) (by show a.mx≤max f.mx a.mx;omega) (by omega)
 obtain⟨r,g4,q⟩:=Ha _ _ _ _ hpa
 cases r with
 | er n=>exact⟨⟨3,0,[],[],[f.c,zfc],[],n+1⟩,f5 [(132,.N 0),(138,.N 0),(149,.r (ckp ls g (hs++[f]))),(154,.r (PR.er n).p),(163,.r (.agg [num 3,num 0,.slice [],.slice [],.slice [f.c,zfc]]))] g1 g2 g3 g4 (zIn .imp f),RR.good_er (Nat.succ_ne_zero n)⟩
 | ok fa w =>
  obtain⟨q1,⟨ja,j1,j2,j3,j4⟩,p2,p3,p4⟩:=q
  have e1:=q1.1
  have e2:=q1.2.1
  have e3:=q1.2.2
  exact⟨.of (.bin .imp f fa) w 0,f5 [(132,.N 0),(138,.N 0),(149,.r (ckp ls g (hs++[f]))),(154,.r (PR.ok fa w).p),(163,.r (Fm.bin .imp f fa).p)] g1 g2 g3 g4 (a39 .imp f fa),fun _=>⟨_,rfl,⟨by show 1+f.cnt+fa.cnt≤mid;omega,by show max f.mx fa.mx≤M+qQf * (1+f.cnt+a.cnt);rw [hK];omega,by show max f.tsz fa.tsz≤mid;omega,⟨.impI f ja,by rw [← j1];rfl,by rw [← j2];rfl,fun hc=>⟨by rw [j2];exact hc,q0 rfl,hroom.2,j3⟩,fun v hv=>j4 v hv.2⟩,p2,fun v hv=>by have:=p3 v hv;show v≤M+qQf * (1+f.cnt+a.cnt);rw [hK];omega,by show w.length≤1+f.cnt+a.cnt;omega⟩⟩⟩
theorem zBw (H:MF) (k:P2) {a b:Pf} (Ha:Inf a) (Hb:Inf b):Rul 104 (.p2 k a b):=by
 intro ls g hs M hp
 have hm:=qQd
 have hbb:=qQh
 have hk:qQf=8388608:=rfl
 have hcx:cmx=mid * mid-1001 * 4096:=rfl
 have hmb:M+qQf * (1+a.cnt+b.cnt)≤cmx:=hp.mb
 have hcn:1+a.cnt+b.cnt≤65536:=hp.cnt
 have hK:qQf * (1+a.cnt+b.cnt)=qQf+qQf * a.cnt+qQf * b.cnt:=by rw [Nat.mul_add,Nat.mul_add,Nat.mul_one]
 rw [hK] at hmb
 rw [hm] at hcx
 have hpa:Pre ls g hs M a:=hp.sub (by show a.cnt≤1+a.cnt+b.cnt;omega) (by show a.tsz≤max a.tsz b.tsz;omega) (by show a.mx≤max a.mx b.mx;omega)
 have hpb:Pre ls g hs M b:=hp.sub (by show b.cnt≤1+a.cnt+b.cnt;omega) (by show b.tsz≤max a.tsz b.tsz;omega) (by show b.mx≤max a.mx b.mx;omega)
 cases k with
 | exE =>
  obtain⟨c,g1,g2⟩:=zIm H false Ha Hb ls g hs M hp
  exact⟨c,f1 [(250,.r c.p)] g1,g2⟩
 | exUE =>
  obtain⟨c,g1,g2⟩:=zIm H true Ha Hb ls g hs M hp
  exact⟨c,f1 [(250,.r c.p)] g1,g2⟩
 | andI =>
  obtain⟨r,g1,q⟩:=Ha _ _ _ _ hpa
  cases r with
  | er n=>exact⟨.er n,f1 [(66,.r (PR.er n).p)] g1,RR.good_er (Nat.succ_ne_zero n)⟩
  | ok fa w =>
  obtain⟨q1,⟨ja,j1,j2,j3,j4⟩,p2,p3,p4⟩:=q
  obtain⟨r,g2,q⟩:=Hb _ _ _ _ hpb
  cases r with
  | er n =>
   obtain⟨w2,g3,_⟩:=H.union w [] (by simp;omega) (fun z hz=>by have:=p3 z hz;omega) (fun z hz=>by cases hz)
   exact⟨⟨2,0,[],[],[fa.c,zfc],w2,n+1⟩,f4 [(66,.r (PR.ok fa w).p),(79,.r (PR.er n).p),(86,.r (.agg [num 2,num 0,.slice [],.slice [],.slice [fa.c,zfc]])),(91,.r (qQk w2))] g1 g2 (zIn .and fa) g3,RR.good_er (Nat.succ_ne_zero n)⟩
  | ok fb v =>
   obtain⟨r1,⟨jb,k1,k2,k3,k4⟩,s2,s3,s4⟩:=q
   obtain⟨w2,g3,t1,t2,t3,tA⟩:=H.union w v (by omega) (fun z hz=>by have:=p3 z hz;omega) (fun z hz=>by have:=s3 z hz;omega)
   have e1:=q1.1
   have e2:=q1.2.1
   have e3:=q1.2.2
   have d1:=r1.1
   have d2:=r1.2.1
   have d3:=r1.2.2
   refine⟨.of (.bin .and fa fb) w2 0,f4 [(66,.r (PR.ok fa w).p),(79,.r (PR.ok fb v).p),(86,.r (Fm.bin .and fa fb).p),(91,.r (qQk w2))] g1 g2 (a39 .and fa fb) g3,fun _=>⟨_,rfl,⟨by show 1+fa.cnt+fb.cnt≤mid;omega,by show max fa.mx fb.mx≤M+qQf * (1+a.cnt+b.cnt);rw [hK];omega,by show max fa.tsz fb.tsz≤mid;omega,⟨.p2 .andI ja jb (.bin .and fa fb),by rw [← j1,← k1];rfl,rfl,fun hc=>⟨hc,j3,k3,by rw [j2,k2]⟩,fun z hz => ?_⟩,tA,fun z hz => ?_,by show w2.length≤1+a.cnt+b.cnt;omega⟩⟩⟩
   ·rcases hz.2 with h|h
    ·exact t1 z (.inl (j4 z h))
    ·exact t1 z (.inr (k4 z h))
   ·show z≤M+qQf * (1+a.cnt+b.cnt)
    rw [hK]
    rcases t2 z hz with h|h
    ·have:=p3 z h;omega
    ·have:=s3 z h;omega
 | impE =>
  obtain⟨r,g1,q⟩:=Ha _ _ _ _ hpa
  cases r with
  | er n=>exact⟨.er n,f1 [(175,.r (PR.er n).p)] g1,RR.good_er (Nat.succ_ne_zero n)⟩
  | ok fa w =>
  obtain⟨q1,⟨ja,j1,j2,j3,j4⟩,p2,p3,p4⟩:=q
  have bad:fa.kd≠3→∃ c:RR,A 104 [ckp ls g hs,(Pf.p2 .impE a b).p] c.p∧c.Good ls g hs M (.p2 .impE a b):=fun hne=>⟨.er 9,f2 [(175,.r (PR.ok fa w).p),(185,.G)] g1 (qC8 hne),RR.good_er (Nat.succ_ne_zero 9)⟩
  cases fa with
  | eq x y=>exact bad (nofun)
  | q k s x=>exact bad (by cases k<;>exact nofun)
  | bin k x y =>
  cases k with
  | and=>exact bad (nofun)
  | imp =>
  have e1:1+x.cnt+y.cnt≤4096:=q1.1
  have e2:max x.mx y.mx≤M+qQf * a.cnt:=q1.2.1
  have e3:max x.tsz y.tsz≤mid:=q1.2.2
  obtain⟨r,g2,q⟩:=Hb _ _ _ _ hpb
  cases r with
  | er n=>exact⟨.er n,f2 [(175,.r (PR.ok (.bin .imp x y) w).p),(193,.r (PR.er n).p)] g1 g2,RR.good_er (Nat.succ_ne_zero n)⟩
  | ok fb v =>
   obtain⟨r1,⟨jb,k1,k2,k3,k4⟩,s2,s3,s4⟩:=q
   have d1:=r1.1
   have d2:=r1.2.1
   have d3:=r1.2.2
   obtain⟨w2,g3,t1,t2,t3,tA⟩:=H.union w v (by omega) (fun z hz=>by have:=p3 z hz;omega) (fun z hz=>by have:=s3 z hz;omega)
   obtain⟨e,g4,g5⟩:=zIl x fb (by omega) (by omega) (by omega) (by omega) (by omega) d3
   refine⟨.of y w2 e,f4 [(175,.r (PR.ok (.bin .imp x y) w).p),(193,.r (PR.ok fb v).p),(209,.r (qQk w2)),(217,.N e)] g1 g2 g3 g4,fun he => ?_⟩
   have he:e=0:=he
   subst he
   refine⟨_,rfl,⟨by omega,by show y.mx≤M+qQf * (1+a.cnt+b.cnt);rw [hK];omega,by omega,⟨.p2 .impE ja jb y,by rw [← j1,← k1];rfl,rfl,fun hc=>⟨hc,j3,k3,x,j2,by rw [k2];exact g5 rfl⟩,fun z hz => ?_⟩,tA,fun z hz => ?_,by show w2.length≤1+a.cnt+b.cnt;omega⟩⟩
   ·rcases hz.2 with h|h
    ·exact t1 z (.inl (j4 z h))
    ·exact t1 z (.inr (k4 z h))
   ·show z≤M+qQf * (1+a.cnt+b.cnt)
    rw [hK]
    rcases t2 z hz with h|h
    ·have:=p3 z h;omega
    ·have:=s3 z h;omega
theorem qJa (H:MF):∀ p:Pf,Inf p
 | .leaf u i=>qXb (zQw u i)
 | .refl t=>qXb (zQx t)
 | .p1 k a=>qXb (zBv k (qJa H a))
 | .p2 k a b=>qXb (zBw H k (qJa H a) (qJa H b))
 | .impI f a=>qXb (zQy f (qJa H a))
 | .all u s a=>qXb fun ls g hs M hp=>by
  obtain⟨c,g1,g2⟩:=zL3 u s (qJa H a) ls g hs M hp
  cases u<;>exact⟨c,f1 [(223,.r c.p)] g1,g2⟩
 | .ins u t a=>qXb fun ls g hs M hp=>by
  obtain⟨c,g1,g2⟩:=zL4 H u t (qJa H a) ls g hs M hp
  cases u<;>exact⟨c,f1 [(232,.r c.p)] g1,g2⟩
 | .ex u f t a=>qXb fun ls g hs M hp=>by
  obtain⟨c,g1,g2⟩:=zL5 H u f t (qJa H a) ls g hs M hp
  cases u<;>exact⟨c,f1 [(241,.r c.p)] g1,g2⟩
 | .ind l f t a b=>qXb fun ls g hs M hp=>by
  cases l
  ·obtain⟨c,g1,g2⟩:=zL7 H f t (qJa H a) (qJa H b) ls g hs M hp
   exact⟨c,f1 [(258,.r c.p)] g1,g2⟩
  ·obtain⟨c,g1,g2⟩:=zL8 H f t (qJa H a) (qJa H b) ls g hs M hp
   exact⟨c,f1 [(266,.r c.p)] g1,g2⟩
 | .subst f a b=>qXb fun ls g hs M hp=>by
  obtain⟨c,g1,g2⟩:=zL6 f (qJa H a) (qJa H b) ls g hs M hp
  exact⟨c,f1 [(291,.r c.p)] g1,g2⟩
theorem a95:∀ t:Ty,A 90 [t.p] t.p
 | .nat=>f0 []
 | .list=>f0 []
 | .unit=>f0 []
 | .two k a b=>f2 [(19,.r a.p),(19,.r b.p)] (a95 a) (a95 b)
theorem qC9:A 90 [zt] zt:=f0 []
theorem a96 (a b:Ty):A 91 [a.p,b.p] (.bool (a.same b)):=by
 induction a generalizing b with
 | two k a b h1 h2=>cases b with
  | two l c d =>
   have h1:=h1 c
   have h2:=h2 d
   show A 91 [(Ty.two k a b).p,(Ty.two l c d).p] (.bool ((k == l) && (a.same c && b.same d)))
   generalize a.same c=p at *
   generalize b.same d=q at *
   by_cases e:k=l
   ·subst e
    cases p
    ·cases k<;>exact f1 [(35,.F)] h1
    ·cases q
     ·cases k<;>exact f2 [(35,.T),(35,.F)] h1 h2
     ·cases k<;>exact f2 [(35,.T),(35,.T)] h1 h2
   ·cases k<;>cases l<;>first|exact absurd rfl e|exact f0 []
  | _=>cases k<;>exact f0 []
 | _=>cases b with
  | two l c d=>cases l<;>exact f0 []
  | _=>exact f0 []
theorem zEr:∀ t:Ty,t.size≤big→A 268 [t.p] (.tuple [num t.size,.bool true])
 | .nat,_=>f0 []
 | .list,_=>f0 []
 | .unit,_=>f0 []
 | .two k a b,h=>by
  have h:1+a.size+b.size≤big:=h
  have h1:=zEr a (by omega)
  have h2:=zEr b (by omega)
  have h3:inB (.ofNat (1+a.size))=true:=inb (by omega)
  cases k<;>exact f4 [(33,.U [num a.size,.bool true]),(40,.ok),(33,.U [num b.size,.bool true]),(40,.ok)] h1 h3 h2 (inb h)
def ckN (n m:Nat):Nat:=match ltI (.ofNat m) (.ofNat n) with
 | true=>0
 | false=>n
def ckE (n m:Nat):Nat:=match ltI (.ofNat m) (.ofNat n) with
 | true=>4
 | false=>0
theorem qLt {n m:Nat} (h:n≤m):ckN n m=n∧ckE n m=0:=by
 have e:ltI (.ofNat m) (.ofNat n)=false:=qZ7 h
 unfold ckN ckE
 rw [e]
 exact⟨rfl,rfl⟩
theorem zF4 {n m:Nat} (h:m<n):ckN n m=0∧ckE n m=4:=by
 have e:ltI (.ofNat m) (.ofNat n)=true:=qQ7 h
 unfold ckN ckE
 rw [e]
 exact⟨rfl,rfl⟩
theorem qM3 (n m:Nat):(n≤m∧ckN n m=n∧ckE n m=0)∨(m<n∧ckN n m=0∧ckE n m=4):=by
 by_cases h:n≤m
 ·exact .inl ⟨h,qLt h⟩
 ·exact .inr ⟨by omega,zF4 (by omega)⟩
theorem ckE_0 {n m:Nat} : ckE n m=0↔n≤m:=by
 rcases qM3 n m with ⟨h,_,e⟩|⟨h,_,e⟩<;>rw [e]<;>simp<;>omega
theorem zAd (t:Ty) (h:t.size≤big):A 206 [t.p] (.tuple [num (ckN t.size 64),num (ckE t.size 64)]):=by
 unfold ckN ckE
 cases e:ltI (.ofNat 64) (.ofNat t.size)
 ·exact f2 [(8,.U [num t.size,.bool true]),(16,.H)] (zEr t h) e
 ·exact f2 [(8,.U [num t.size,.bool true]),(16,.G)] (zEr t h) e
theorem zF5 (t:Ty) (h:t.size≤big):A 135 [t.p] (num (ckE t.size 64)):=f1 [(7,.U [num (ckN t.size 64),num (ckE t.size 64)])] (zAd t h)
theorem qCx:A 271 [zt] (.bool true):=f0 []
open Go.Lg
set_option maxRecDepth 100000
def Tm.nd (t:Tm):Nat:=match t.shp with
 | true=>t.cnt
 | false=>0
theorem qXc (s:Ty):s.chk=ckE s.size 64:=rfl
theorem qUg:∀ t:Tm,t.tsz≤big→t.cnt≤big→A 207 [t.p] (.tuple [num t.nd,.bool t.shp])
 | .v i,_,_=>by cases i<;>exact f0 []
 | .n0 k,_,_=>by cases k<;>exact f0 []
 | .lam s b,h,hc=>by
  have h:max s.size b.tsz≤big:=h
  have hc:1+b.cnt≤big:=hc
  have h1:=zAd s (by omega)
  have h2:=qUg b (by omega) (by omega)
  unfold Tm.nd at *
  unfold Tm.shp
  rcases qZc s with e|e<;>rw [qXc] at e<;>rw [e] at h1<;>rw [qXc,e]
  ·cases e2:b.shp<;>rw [e2] at h2
   ·exact f2 [(49,.U [num (ckN s.size 64),num 0]),(67,.U [num 0,.bool false])] h1 h2
   ·exact f3 [(49,.U [num (ckN s.size 64),num 0]),(67,.U [num b.cnt,.bool true]),(74,.ok)] h1 h2 (inb hc)
  ·exact f1 [(49,.U [num (ckN s.size 64),num 4])] h1
 | .n1 k a,h,hc=>by
  have hc:1+a.cnt≤big:=hc
  have h2:=qUg a h (by omega)
  unfold Tm.nd at *
  show A 207 [(Tm.n1 k a).p] (.tuple [num (match a.shp with|true=>1+a.cnt|false=>0),.bool a.shp])
  cases e2:a.shp<;>rw [e2] at h2
  ·cases k<;>exact f1 [(67,.U [num 0,.bool false])] h2
  ·cases k<;>exact f2 [(67,.U [num a.cnt,.bool true]),(74,.ok)] h2 (inb hc)
 | .n2 k a b,h,hc=>by
  have h:max a.tsz b.tsz≤big:=h
  have hc:1+a.cnt+b.cnt≤big:=hc
  have h1:=qUg a (by omega) (by omega)
  have h2:=qUg b (by omega) (by omega)
  have hc1:inB (.ofNat (1+a.cnt))=true:=inb (by omega)
  unfold Tm.nd at *
  show A 207 [(Tm.n2 k a b).p] (.tuple [num (match a.shp && b.shp with|true=>1+a.cnt+b.cnt|false=>0),.bool (a.shp && b.shp)])
  cases e1:a.shp<;>rw [e1] at h1
  ·cases k<;>exact f1 [(67,.U [num 0,.bool false])] h1
  ·cases e2:b.shp<;>rw [e2] at h2
   ·cases k<;>exact f3 [(67,.U [num a.cnt,.bool true]),(74,.ok),(67,.U [num 0,.bool false])] h1 hc1 h2
   ·cases k<;>exact f4 [(67,.U [num a.cnt,.bool true]),(74,.ok),(67,.U [num b.cnt,.bool true]),(74,.ok)] h1 hc1 h2 (inb hc)
 | .n3 k s a b c,h,hc=>by
  have h:max (max s.size a.tsz) (max b.tsz c.tsz)≤big:=h
  have hc:1+a.cnt+b.cnt+c.cnt≤big:=hc
  have h0:=zAd s (by omega)
  have h1:=qUg a (by omega) (by omega)
  have h2:=qUg b (by omega) (by omega)
  have h3:=qUg c (by omega) (by omega)
  have hc1:inB (.ofNat (1+a.cnt))=true:=inb (by omega)
  have hc2:inB (.ofNat (1+a.cnt+b.cnt))=true:=inb (by omega)
  unfold Tm.nd at *
  unfold Tm.shp
  rcases qZc s with e|e<;>rw [qXc] at e<;>rw [e] at h0<;>rw [qXc,e]
  ·cases e1:a.shp<;>rw [e1] at h1
   ·cases k<;>exact f2 [(49,.U [num (ckN s.size 64),num 0]),(67,.U [num 0,.bool false])] h0 h1
   ·cases e2:b.shp<;>rw [e2] at h2
    ·cases k<;>exact f4 [(49,.U [num (ckN s.size 64),num 0]),(67,.U [num a.cnt,.bool true]),(74,.ok),(67,.U [num 0,.bool false])] h0 h1 hc1 h2
    ·cases e3:c.shp<;>rw [e3] at h3
     ·cases k<;>exact f6 [(49,.U [num (ckN s.size 64),num 0]),(67,.U [num a.cnt,.bool true]),(74,.ok),(67,.U [num b.cnt,.bool true]),(74,.ok),(67,.U [num 0,.bool false])] h0 h1 hc1 h2 hc2 h3
     ·cases k<;>exact f7 [(49,.U [num (ckN s.size 64),num 0]),(67,.U [num a.cnt,.bool true]),(74,.ok),(67,.U [num b.cnt,.bool true]),(74,.ok),(67,.U [num c.cnt,.bool true]),(74,.ok)] h0 h1 hc1 h2 hc2 h3 (inb hc)
  ·cases k<;>exact f1 [(49,.U [num (ckN s.size 64),num 4])] h0
def Tm.ckn (t:Tm):Nat:=match t.chk with
 | 0=>t.cnt
 | _=>0
theorem zEs (t:Tm) (h1:t.tsz≤big) (h2:t.cnt≤big):A 136 [t.p] (.tuple [num t.ckn,num t.chk]):=by
 have h3:=qUg t h1 h2
 unfold Tm.nd at h3
 unfold Tm.ckn Tm.chk
 cases e:t.shp<;>rw [e] at h3
 ·exact f1 [(8,.U [num 0,.bool false])] h3
 ·cases e2:ltI (.ofNat 4096) (.ofNat t.cnt)
  ·exact f2 [(8,.U [num t.cnt,.bool true]),(16,.H)] h3 e2
  ·exact f2 [(8,.U [num t.cnt,.bool true]),(16,.G)] h3 e2
theorem a297 (t:Tm) (h1:t.tsz≤big) (h2:t.cnt≤big):A 294 [t.p] (.tuple [num t.ckn,num t.chk]):=f1 [(5,.U [num t.ckn,num t.chk])] (zEs t h1 h2)
theorem a92 (t:Tm) (h1:t.tsz≤big) (h2:t.cnt≤big):A 87 [t.p] (num t.chk):=f1 [(7,.U [num t.ckn,num t.chk])] (zEs t h1 h2)
theorem Tm.chk0 {t:Tm} (h:t.chk=0):t.cnt≤4096∧t.shp=true:=by
 unfold Tm.chk at h
 cases e1:t.shp with
 | false=>rw [e1] at h;cases h
 | true =>
  rw [e1] at h
  cases e2:ltI (.ofNat 4096) (.ofNat t.cnt) with
  | true=>rw [e2] at h;cases h
  | false =>
   rw [qQr] at e2
   simp at e2
   exact⟨by omega,rfl⟩
theorem Tm.ckn0 {t:Tm} (h:t.chk=0):t.ckn=t.cnt:=by unfold Tm.ckn;split<;>simp_all
theorem qPc:A 91 [.agg [num 0,.slice []],.agg [num 0,.slice []]] (.bool true):=f0 []
theorem zAe {a:Tm} (H:∀ b:Tm,a.kd=b.kd→∃ r,A 323 [a.p,b.p] (.bool r)∧(r=true↔a=b)) (b:Tm):∃ r,A 323 [a.p,b.p] (.bool r)∧(r=true↔a=b):=by
 by_cases h:a.kd=b.kd
 ·exact H b h
 ·exact⟨false,f1 [(11,.G)] (qC8 h),ff fun e=>h (by rw [e])⟩
theorem qUh:∀ a b:Tm,∃ r,A 323 [a.p,b.p] (.bool r)∧(r=true↔a=b)
 | .v i=>zAe fun b h=>by
  cases b with
  | v j =>
   by_cases e:i=j
   ·subst e;exact⟨true,f2 [(17,.H),(24,.T)] (qK1 i) qPc,by simp_all⟩
   ·exact⟨false,f1 [(17,.G)] (qC8 e),by simp_all⟩
  | _=>have:=congrArg qOp h;rw [qQ0,qQ0] at this;cases this
 | .n0 k=>zAe fun b h=>by
  cases b with
  | n0 l=>cases K0.inj h;exact⟨true,f2 [(11,.H),(24,.T)] (qK1 k.n) qPc,by simp_all⟩
  | _=>have:=congrArg qOp h;rw [qQ0,qQ0] at this;cases this
 | .lam s a=>zAe fun b h=>by
  cases b with
  | lam u b =>
   have h1:=a96 s u
   have e1:=qJf s u
   cases e:s.same u<;>rw [e] at h1 e1
   ·exact⟨false,f1 [(24,.F)] h1,by simp_all⟩
   ·obtain⟨r,h3,q3⟩:=qUh a b
    cases r
    ·exact⟨false,f2 [(24,.T),(50,.F)] h1 h3,by simp_all⟩
    ·exact⟨true,f2 [(24,.T),(50,.T)] h1 h3,by simp_all⟩
  | _=>have:=congrArg qOp h;rw [qQ0,qQ0] at this;cases this
 | .n1 k a=>zAe fun b h=>by
  cases b with
  | n1 l b =>
   cases K1.inj h
   obtain⟨r,h3,q3⟩:=qUh a b
   cases r
   ·exact⟨false,f3 [(11,.H),(24,.T),(50,.F)] (qK1 k.n) qPc h3,by simp_all⟩
   ·exact⟨true,f3 [(11,.H),(24,.T),(50,.T)] (qK1 k.n) qPc h3,by simp_all⟩
  | _=>have:=congrArg qOp h;rw [qQ0,qQ0] at this;cases this
 | .n2 k a c=>zAe fun b h=>by
  cases b with
  | n2 l b d =>
   cases K2.inj h
   obtain⟨r,h3,q3⟩:=qUh a b
   obtain⟨q,h4,q4⟩:=qUh c d
   cases r
   ·exact⟨false,f3 [(11,.H),(24,.T),(50,.F)] (qK1 k.n) qPc h3,by simp_all⟩
   ·cases q
    ·exact⟨false,f4 [(11,.H),(24,.T),(50,.T),(50,.F)] (qK1 k.n) qPc h3 h4,by simp_all⟩
    ·exact⟨true,f4 [(11,.H),(24,.T),(50,.T),(50,.T)] (qK1 k.n) qPc h3 h4,by simp_all⟩
  | _=>have:=congrArg qOp h;rw [qQ0,qQ0] at this;cases this
 | .n3 k s a c e=>zAe fun b h=>by
  cases b with
  | n3 l u b d f =>
   cases K3.inj h
   have h2:=a96 s u
   have e1:=qJf s u
   obtain⟨r,h3,q3⟩:=qUh a b
   obtain⟨q,h4,q4⟩:=qUh c d
   obtain⟨p,h5,q5⟩:=qUh e f
   cases e2:s.same u<;>rw [e2] at h2 e1
   ·exact⟨false,f2 [(11,.H),(24,.F)] (qK1 k.n) h2,by simp_all⟩
   cases r
   ·exact⟨false,f3 [(11,.H),(24,.T),(50,.F)] (qK1 k.n) h2 h3,by simp_all⟩
   cases q
   ·exact⟨false,f4 [(11,.H),(24,.T),(50,.T),(50,.F)] (qK1 k.n) h2 h3 h4,by simp_all⟩
   cases p
   ·exact⟨false,f5 [(11,.H),(24,.T),(50,.T),(50,.T),(50,.F)] (qK1 k.n) h2 h3 h4 h5,by simp_all⟩
   ·exact⟨true,f5 [(11,.H),(24,.T),(50,.T),(50,.T),(50,.T)] (qK1 k.n) h2 h3 h4 h5,by simp_all⟩
  | _=>have:=congrArg qOp h;rw [qQ0,qQ0] at this;cases this
theorem zIo (a b:Tm):∃ r,A 331 [a.p,b.p] (.bool r)∧(r=true↔a=b):=by
 obtain⟨r,h,q⟩:=qUh a b
 exact⟨r,f1 [(7,.r (.bool r))] h,q⟩
abbrev szc (s:Ty):List PV:=[num s.kd,.slice s.es,num (ckN s.size 64)]
abbrev tzs (g:List Ty):PV:=.slice (g.map szc)
theorem qFw (s:Ty):(szc s).length=3:=rfl
def TR.nn:TR→Nat
 | .er _=>0
 | .ok s=>ckN s.size 64
def TR.q (r:TR):PV:=.tuple [.agg [num r.k,.slice r.l,num r.nn],num r.n]
theorem qFx (s:Ty) (h:s.size≤big):A 137 [s.p] (.agg (szc s)):=f1 [(7,.U [num (ckN s.size 64),num (ckE s.size 64)])] (zAd s h)
theorem zF6 (s u:Ty):∃ r,A 211 [.agg (szc s),.agg (szc u)] (.bool r)∧r=s.same u:=by
 cases e:eqI (.ofNat (ckN s.size 64)) (.ofNat (ckN u.size 64))
 ·refine⟨false,f1 [(9,.H)] e,?_⟩
  cases h:s.same u with
  | false=>rfl
  | true=>rw [(qJf s u).1 h,zQp] at e;cases e
 ·exact⟨s.same u,f2 [(9,.G),(15,.r (.bool (s.same u)))] e (a96 s u),rfl⟩
theorem zIp (k:Bool) (s u:Ty) (h1:s.size≤64) (h2:u.size≤64):∃ r:TR,A 138 [num (bn k 3 4),.agg (szc s),.agg (szc u)] r.q∧r.sz≤64∧r = .fit (.two k s u):=by
 have e1:=(qLt h1).1
 have e2:=(qLt h2).1
 unfold szc
 rw [e1,e2]
 have hb:=qQh
 have g1:inB (.ofNat (1+s.size))=true:=inb (by omega)
 have g2:inB (.ofNat (1+s.size+u.size))=true:=inb (by omega)
 by_cases h:1+s.size+u.size≤64
 ·have e:ltI (.ofNat 64) (.ofNat (1+s.size+u.size))=false:=qZ7 h
  have e3:ckN (1+s.size+u.size) 64=1+s.size+u.size:=(qLt h).1
  have e4:(TR.ok (.two k s u)).q = .tuple [.agg [num (bn k 3 4),.slice [s.c,u.c],num (1+s.size+u.size)],num 0]:=by
   show PV.tuple [.agg [num (Ty.two k s u).kd,.slice [s.c,u.c],num (ckN (1+s.size+u.size) 64)],num 0]=_
   rw [e3]
   cases k<;>rfl
  refine⟨.ok (.two k s u),?_,h,by unfold TR.fit;rw [if_pos (show (Ty.two k s u).size≤64 from h)]⟩
  rw [e4]
  exact f3 [(11,.ok),(14,.ok),(16,.H)] g1 g2 e
 ·have e:ltI (.ofNat 64) (.ofNat (1+s.size+u.size))=true:=qQ7 (by omega)
  exact⟨.er 3,f3 [(11,.ok),(14,.ok),(16,.G)] g1 g2 e,Nat.zero_le _,by unfold TR.fit;rw [if_neg (show ¬(Ty.two k s u).size≤64 from h)]⟩
abbrev zs3:List PV:=[num 0,.slice [],num 0]
theorem zBx (k:K0):∃ r:TR,A 139 [(Tm.n0 k).p,.agg (zs3++zs3++zs3)] r.q∧r.sz≤64∧r=(Tm.n0 k).tyR []:=by
 cases k
 ·exact⟨.ok .nat,f1 [(37,.r (.agg (szc .nat)))] (qFx .nat (by decide)),by decide,rfl⟩
 ·exact⟨.ok .list,f1 [(37,.r (.agg (szc .list)))] (qFx .list (by decide)),by decide,rfl⟩
 ·exact⟨.ok .unit,f1 [(37,.r (.agg (szc .unit)))] (qFx .unit (by decide)),by decide,rfl⟩
theorem zBy (k:K1) (a:Tm) (s:Ty) (h:s.size≤64):∃ r:TR,A 139 [(Tm.n1 k a).p,.agg (szc s++zs3++zs3)] r.q∧r.sz≤64∧r=ty1 k (.ok s):=by
 have hb:=qQh
 cases k
 ·cases s with
  | nat=>exact⟨.ok .nat,f1 [(37,.r (.agg (szc .nat)))] (qFx .nat (by decide)),by decide,rfl⟩
  | two k s u=>cases k<;>exact⟨.er 6,f0 [],Nat.zero_le _,rfl⟩
  | _=>exact⟨.er 6,f0 [],Nat.zero_le _,rfl⟩
 ·cases s with
  | two k s u =>
   have h:1+s.size+u.size≤64:=h
   cases k
   ·exact⟨.ok s,f1 [(110,.n [(11,.r (.agg (szc s)))])] (qFx s (by omega)),by show s.size≤64;omega,rfl⟩
   ·exact⟨.er 6,f0 [],Nat.zero_le _,rfl⟩
  | _=>exact⟨.er 6,f0 [],Nat.zero_le _,rfl⟩
 ·cases s with
  | two k s u =>
   have h:1+s.size+u.size≤64:=h
   cases k
   ·exact⟨.ok u,f1 [(113,.n [(11,.r (.agg (szc u)))])] (qFx u (by omega)),by show u.size≤64;omega,rfl⟩
   ·exact⟨.er 6,f0 [],Nat.zero_le _,rfl⟩
  | _=>exact⟨.er 6,f0 [],Nat.zero_le _,rfl⟩
theorem zBz (k:K2) (a b:Tm) (s v:Ty) (h:s.size≤64) (h':v.size≤64):∃ r:TR,A 139 [(Tm.n2 k a b).p,.agg (szc s++szc v++zs3)] r.q∧r.sz≤64∧r=ty2 k (.ok s) (.ok v):=by
 have hb:=qQh
 cases k
 ·cases s with
  | two k s u =>
   have h:1+s.size+u.size≤64:=h
   cases k
   ·exact⟨.er 6,f0 [],Nat.zero_le _,rfl⟩
   ·obtain⟨b,g,hb'⟩:=zF6 s v
    cases b
    ·exact⟨.er 6,f2 [(49,.n [(11,.r (.agg (szc s)))]),(52,.F)] (qFx s (by omega)) g,Nat.zero_le _,by show _=bif s.same v then _ else _;rw [← hb'];rfl⟩
    ·exact⟨.ok u,f3 [(49,.n [(11,.r (.agg (szc s)))]),(52,.T),(58,.n [(11,.r (.agg (szc u)))])] (qFx s (by omega)) g (qFx u (by omega)),by show u.size≤64;omega,by show _=bif s.same v then _ else _;rw [← hb'];rfl⟩
  | _=>exact⟨.er 6,f0 [],Nat.zero_le _,rfl⟩
 ·cases s with
  | nat=>cases v with
   | list=>exact⟨.ok .list,f1 [(37,.r (.agg (szc .list)))] (qFx .list (by decide)),by decide,rfl⟩
   | two k s u=>cases k<;>exact⟨.er 6,f0 [],Nat.zero_le _,rfl⟩
   | _=>exact⟨.er 6,f0 [],Nat.zero_le _,rfl⟩
  | two k s u=>cases k<;>exact⟨.er 6,f0 [],Nat.zero_le _,rfl⟩
  | _=>exact⟨.er 6,f0 [],Nat.zero_le _,rfl⟩
 ·obtain⟨r,g,g',g2⟩:=zIp false s v h h'
  cases r with
  | er n=>exact⟨.er n,f1 [(97,.r (TR.er n).q)] g,g',g2⟩
  | ok w=>exact⟨.ok w,f1 [(97,.r (TR.ok w).q)] g,g',g2⟩
def qY0:K3→Ty→Ty
 | .re,s => .two true .nat (.two true s s)
 | .fo,s => .two true .nat (.two true .list (.two true s s))
theorem zMd (k:K3) (s:Ty) (a b c:Tm):A 212 [(Tm.n3 k s a b c).p] (qY0 k s).p:=by
 cases k<;>exact f0 []
theorem zB0 (k:K3) (z:Ty) (a b c:Tm) (s v w:Ty) (h:z.size≤64):∃ r:TR,A 139 [(Tm.n3 k z a b c).p,.agg (szc s++szc v++szc w)] r.q∧r.sz≤64∧r=ty3 k z (.ok s) (.ok v) (.ok w):=by
 have hb:=qQh
 have g1:=qFx z (by omega)
 obtain⟨b1,g2,hs⟩:=zF6 s z
 have g3:=zMd k z a b c
 have g4:=a96 v (qY0 k z)
 cases b1
 ·cases k<;>exact⟨.er 6,f2 [(64,.r (.agg (szc z))),(71,.F)] g1 g2,Nat.zero_le _,by simp only [ty3,← hs,cond_false]⟩
 cases e:v.same (qY0 k z)<;>rw [e] at g4
 ·cases k
  ·exact⟨.er 6,f4 [(64,.r (.agg (szc z))),(71,.T),(78,.r (qY0 .re z).p),(79,.F)] g1 g2 g3 g4,Nat.zero_le _,by simp only [qY0] at e;simp only [ty3,← hs,e,cond_false,cond_true]⟩
  ·exact⟨.er 6,f4 [(64,.r (.agg (szc z))),(71,.T),(78,.r (qY0 .fo z).p),(79,.F)] g1 g2 g3 g4,Nat.zero_le _,by simp only [qY0] at e;simp only [ty3,← hs,e,cond_false,cond_true]⟩
 ·have key:(∃ r:TR,A 139 [(Tm.n3 k z a b c).p,.agg (szc s++szc v++szc w)] r.q∧r.sz≤64∧r=ty3 k z (.ok s) (.ok v) (.ok w)):=by
   cases w with
   | two l w1 w2 =>
    cases l<;>cases k
    ·exact⟨.er 6,f4 [(64,.r (.agg (szc z))),(71,.T),(78,.r (qY0 .re z).p),(79,.T)] g1 g2 g3 g4,Nat.zero_le _,by simp only [qY0] at e;simp only [ty3,← hs,e,cond_true];rfl⟩
    ·exact⟨.er 6,f4 [(64,.r (.agg (szc z))),(71,.T),(78,.r (qY0 .fo z).p),(79,.T)] g1 g2 g3 g4,Nat.zero_le _,by simp only [qY0] at e;simp only [ty3,← hs,e,cond_true];rfl⟩
    ·exact⟨.er 6,f4 [(64,.r (.agg (szc z))),(71,.T),(78,.r (qY0 .re z).p),(79,.T)] g1 g2 g3 g4,Nat.zero_le _,by simp only [qY0] at e;simp only [ty3,← hs,e,cond_true];rfl⟩
    ·exact⟨.er 6,f4 [(64,.r (.agg (szc z))),(71,.T),(78,.r (qY0 .fo z).p),(79,.T)] g1 g2 g3 g4,Nat.zero_le _,by simp only [qY0] at e;simp only [ty3,← hs,e,cond_true];rfl⟩
   | nat =>
     cases k
     ·exact⟨.ok z,f4 [(64,.r (.agg (szc z))),(71,.T),(78,.r (qY0 .re z).p),(79,.T)] g1 g2 g3 g4,h,by simp only [qY0] at e;simp only [ty3,← hs,e,cond_true];rfl⟩
     ·exact⟨.er 6,f4 [(64,.r (.agg (szc z))),(71,.T),(78,.r (qY0 .fo z).p),(79,.T)] g1 g2 g3 g4,Nat.zero_le _,by simp only [qY0] at e;simp only [ty3,← hs,e,cond_true];rfl⟩
   | list =>
     cases k
     ·exact⟨.er 6,f4 [(64,.r (.agg (szc z))),(71,.T),(78,.r (qY0 .re z).p),(79,.T)] g1 g2 g3 g4,Nat.zero_le _,by simp only [qY0] at e;simp only [ty3,← hs,e,cond_true];rfl⟩
     ·exact⟨.ok z,f4 [(64,.r (.agg (szc z))),(71,.T),(78,.r (qY0 .fo z).p),(79,.T)] g1 g2 g3 g4,h,by simp only [qY0] at e;simp only [ty3,← hs,e,cond_true];rfl⟩
   | unit =>
    cases k
    ·exact⟨.er 6,f4 [(64,.r (.agg (szc z))),(71,.T),(78,.r (qY0 .re z).p),(79,.T)] g1 g2 g3 g4,Nat.zero_le _,by simp only [qY0] at e;simp only [ty3,← hs,e,cond_true];rfl⟩
    ·exact⟨.er 6,f4 [(64,.r (.agg (szc z))),(71,.T),(78,.r (qY0 .fo z).p),(79,.T)] g1 g2 g3 g4,Nat.zero_le _,by simp only [qY0] at e;simp only [ty3,← hs,e,cond_true];rfl⟩
  exact key
open Go.Lg
set_option maxRecDepth 100000
def Tm.sc:Nat→Tm→Prop
 | n,.v i=>i<n
 | n,.lam _ b=>b.sc (n+1)
 | _,.n0 _=>True
 | n,.n1 _ a=>a.sc n
 | n,.n2 _ a b=>a.sc n∧b.sc n
 | n,.n3 _ _ a b d=>a.sc n∧b.sc n∧d.sc n
theorem qZ1 {a b:Bool} (h:(a && b)=true):a=true∧b=true:=by simpa using h
theorem qOv {s:Ty} (h:Nat.beq s.chk 0=true):s.size≤64:=ckE_0.1 (Nat.eq_of_beq_eq_true h)
abbrev T94 (g:List Ty) (t:Tm) (r:TR):Prop:=A 89 [tzs g,t.p] r.q∧r.sz≤64∧(∀ s,r = .ok s→t.sc g.length)∧r=t.tyR g
theorem zVe {g:List Ty} {t:Tm} {n:Nat} (h:A 89 [tzs g,t.p] (TR.er n).q) (e:TR.er n=t.tyR g):∃ r:TR,T94 g t r:=⟨.er n,h,Nat.zero_le _,(fun _ h=>nomatch h),e⟩
theorem qOw {g:List Ty} {t:Tm} {r:TR} (h:t.sc g.length) (h1:A 89 [tzs g,t.p] r.q) (h2:r.sz≤64) (e:r=t.tyR g):∃ r:TR,T94 g t r:=⟨r,h1,h2,fun _ _=>h,e⟩
theorem a94:∀ (t:Tm) (g:List Ty),(∀ s∈g,s.size≤64)→t.shp=true→g.length+t.cnt≤mid→∃ r:TR,T94 g t r
 | .v i,g,hg,_,hl=>by
  have hm:=qQd
  by_cases h:i<g.length
  ·obtain⟨s,hx⟩:∃ s,g[g.length-1-i]? = some s:=⟨_,List.getElem?_eq_getElem (by omega)⟩
   have h1:(!ltI (.ofNat i) (.ofNat (g.map szc).length))=false:=by rw [qQ7 (by simpa using h)];rfl
   have h2:inB (Int.ofNat (g.map szc).length-1)=true∧Int.ofNat (g.map szc).length-1 = .ofNat (g.length-1):=by
    have e:Int.ofNat (g.map szc).length-1 = .ofNat (g.length-1):=by simp;omega
    exact⟨by rw [e];exact inN (by omega),e⟩
   have h3:inB (Int.ofNat (g.length-1) - .ofNat i)=true∧Int.ofNat (g.length-1) - .ofNat i = .ofNat (g.length-1-i):=by
    have e:Int.ofNat (g.length-1) - .ofNat i = .ofNat (g.length-1-i):=by simp;omega
    exact⟨by rw [e];exact inN (by omega),e⟩
   exact qOw (r:=.ok s) h (f4 [(21,.H),(26,.z (g.length-1)),(29,.z (g.length-1-i)),(30,.i (szc s))] h1 h2 h3 (qQn hx qFw)) (hg s (List.mem_of_getElem? hx)) (by show _=tyV g i;unfold tyV;rw [if_pos h,hx])
  ·have h1:(!ltI (.ofNat i) (.ofNat (g.map szc).length))=true:=by rw [qZ7 (by simpa using h)];rfl
   exact zVe (n:=5) (f1 [(21,.G)] h1) (by show _=tyV g i;unfold tyV;rw [if_neg h])
 | .lam s b,g,hg,hs,hl=>by
  have hm:=qQd
  have hb:=qQh
  have hl:g.length+(1+b.cnt)≤mid:=hl
  obtain⟨hs1,hs2⟩:=qZ1 hs
  have hz:=qOv hs1
  have g1:=qV6 (g.map szc).length
  have g2:=qYb 3 40 qFw (by decide) g s (by omega) (by simp only [maxLen];omega)
  obtain⟨r,q1,q2,q3,q0⟩:=a94 b (g++[s]) (fun u hu=>by rcases List.mem_append.1 hu with h|h;exact hg u h;simp at h;subst h;exact hz) hs2 (by simp;omega)
  rw [show tzs (g++[s]) = .slice (g.map szc++[szc s]) by simp [tzs]] at q1
  cases r with
  | er n=>exact zVe (n:=n) (f4 [(37,.r (.agg (szc s))),(44,.ok),(47,.ok),(52,.r (TR.er n).q)] (qFx s (by omega)) g1 g2 q1) (by show _=tyL s (b.tyR (g++[s]));rw [← q0];rfl)
  | ok u =>
   have hsc:(Tm.lam s b).sc g.length:=by have:=q3 u rfl;simpa [Tm.sc] using this
   obtain⟨r,q4,q5,q6⟩:=zIp true s u hz q2
   exact qOw hsc (f5 [(37,.r (.agg (szc s))),(44,.ok),(47,.ok),(52,.r (TR.ok u).q),(61,.r r.q)] (qFx s (by omega)) g1 g2 q1 q4) q5 (by show _=tyL s (b.tyR (g++[s]));rw [← q0];exact q6)
 | .n0 k,g,hg,hs,hl=>by
  obtain⟨r,q4,q5,q6⟩:=zBx k
  cases k<;>exact qOw trivial (f1 [(88,.r r.q)] q4) q5 q6
 | .n1 k a,g,hg,hs,hl=>by
  have hl:g.length+(1+a.cnt)≤mid:=hl
  obtain⟨r,q1,q2,q3,q0⟩:=a94 a g hg hs (by omega)
  cases r with
  | er n=>cases k<;>exact zVe (n:=n) (f1 [(75,.r (TR.er n).q)] q1) (by show _=ty1 _ (a.tyR g);rw [← q0];rfl)
  | ok u =>
   have hsc:(Tm.n1 k a).sc g.length:=q3 u rfl
   obtain⟨r,q4,q5,q6⟩:=zBy k a u q2
   cases k<;>exact qOw hsc (f2 [(75,.r (TR.ok u).q),(88,.r r.q)] q1 q4) q5 (by show _=ty1 _ (a.tyR g);rw [← q0];exact q6)
 | .n2 k a b,g,hg,hs,hl=>by
  have hl:g.length+(1+a.cnt+b.cnt)≤mid:=hl
  obtain⟨hs1,hs2⟩:=qZ1 hs
  obtain⟨r,q1,q2,q3,q0⟩:=a94 a g hg hs1 (by omega)
  cases r with
  | er n=>cases k<;>exact zVe (n:=n) (f1 [(75,.r (TR.er n).q)] q1) (by show _=ty2 _ (a.tyR g) (b.tyR g);rw [← q0];rfl)
  | ok u =>
   obtain⟨r,p1,p2,p3,p0⟩:=a94 b g hg hs2 (by omega)
   cases r with
   | er n=>cases k<;>exact zVe (n:=n) (f2 [(75,.r (TR.ok u).q),(75,.r (TR.er n).q)] q1 p1) (by show _=ty2 _ (a.tyR g) (b.tyR g);rw [← q0,← p0];rfl)
   | ok v =>
    have hsc:(Tm.n2 k a b).sc g.length:=⟨q3 u rfl,p3 v rfl⟩
    obtain⟨r,q4,q5,q6⟩:=zBz k a b u v q2 p2
    cases k<;>exact qOw hsc (f3 [(75,.r (TR.ok u).q),(75,.r (TR.ok v).q),(88,.r r.q)] q1 p1 q4) q5 (by show _=ty2 _ (a.tyR g) (b.tyR g);rw [← q0,← p0];exact q6)
 | .n3 k s a b c,g,hg,hs,hl=>by
  have hl:g.length+(1+a.cnt+b.cnt+c.cnt)≤mid:=hl
  obtain⟨hs0,hs⟩:=qZ1 hs
  obtain⟨hs1,hs⟩:=qZ1 hs
  obtain⟨hs2,hs3⟩:=qZ1 hs
  obtain⟨r,q1,q2,q3,q0⟩:=a94 a g hg hs1 (by omega)
  cases r with
  | er n=>cases k<;>exact zVe (n:=n) (f1 [(75,.r (TR.er n).q)] q1) (by show _=ty3 _ s (a.tyR g) (b.tyR g) (c.tyR g);rw [← q0];rfl)
  | ok u =>
   obtain⟨r,p1,p2,p3,p0⟩:=a94 b g hg hs2 (by omega)
   cases r with
   | er n=>cases k<;>exact zVe (n:=n) (f2 [(75,.r (TR.ok u).q),(75,.r (TR.er n).q)] q1 p1) (by show _=ty3 _ s (a.tyR g) (b.tyR g) (c.tyR g);rw [← q0,← p0];rfl)
   | ok v =>
    obtain⟨r,o1,o2,o3,o0⟩:=a94 c g hg hs3 (by omega)
    cases r with
    | er n=>cases k<;>exact zVe (n:=n) (f3 [(75,.r (TR.ok u).q),(75,.r (TR.ok v).q),(75,.r (TR.er n).q)] q1 p1 o1) (by show _=ty3 _ s (a.tyR g) (b.tyR g) (c.tyR g);rw [← q0,← p0,← o0];rfl)
    | ok w =>
     have hsc:(Tm.n3 k s a b c).sc g.length:=⟨q3 u rfl,p3 v rfl,o3 w rfl⟩
     obtain⟨r,q4,q5,q6⟩:=zB0 k s a b c u v w (qOv hs0)
     cases k<;>exact qOw hsc (f4 [(75,.r (TR.ok u).q),(75,.r (TR.ok v).q),(75,.r (TR.ok w).q),(88,.r r.q)] q1 p1 o1 q4) q5 (by show _=ty3 _ s (a.tyR g) (b.tyR g) (c.tyR g);rw [← q0,← p0,← o0];exact q6)
theorem zF7 (g:List Ty) (t:Tm) (n:Nat) (hg:∀ s∈g,s.size≤64) (h1:t.shp=true) (h2:g.length+t.cnt≤mid):∃ e,A 244 [tzs g,t.p,num n] (num e)∧(e=0→t.sc g.length)∧(∀ s,t.tyR g = .ok s→s.kd=n→e=0):=by
 obtain⟨r,q1,q2,q3,q4⟩:=a94 t g hg h1 h2
 cases r with
 | er e=>exact⟨e+1,f1 [(12,.r (TR.er e).q)] q1,(fun h=>nomatch h),fun s h=>by rw [← q4] at h;cases h⟩
 | ok s =>
  by_cases c:s.kd=n
  ·exact⟨0,f2 [(12,.r (TR.ok s).q),(20,.n [(9,.G)])] q1 (show eqI (.ofNat s.kd) (.ofNat n)=true by rw [c];exact zQp n),(fun _=>q3 s rfl),fun _ _ _=>rfl⟩
  ·exact⟨7,f2 [(12,.r (TR.ok s).q),(20,.n [(9,.H)])] q1 (qO9 c),(fun h=>nomatch h),fun u h hk=>by rw [← q4] at h;cases h;exact absurd hk c⟩
theorem zF8 (g:List Ty) (t:Tm) (hg:∀ s∈g,s.size≤64) (h1:t.shp=true) (h2:g.length+t.cnt≤mid):∃ e,A 246 [tzs g,t.p] (num e)∧(e=0→t.sc g.length)∧(t.tyR g = .ok .nat→e=0):=by
 obtain⟨e,q1,q2,q3⟩:=zF7 g t 1 hg h1 h2
 exact⟨e,f1 [(7,.N e)] q1,q2,fun h=>q3 _ h rfl⟩
def Fm.frm:Fm→Bool
 | .q _ s _=>Nat.beq s.chk 0
 | _=>true
theorem zF9 (f:Fm) (h:f.tsz≤big):A 267 [f.p] (.bool f.frm):=by
 cases f with
 | eq a b=>exact f1 [(31,.T)] qCx
 | bin k f g=>cases k<;>exact f1 [(31,.T)] qCx
 | q k s f =>
  have h:max s.size f.tsz≤big:=h
  have h1:=zAd s (by omega)
  show A 267 [(Fm.q k s f).p] (.bool (Nat.beq s.chk 0))
  rcases qZc s with e|e<;>rw [qXc] at e<;>rw [e] at h1<;>rw [qXc,e]
  ·cases k<;>exact f1 [(24,.U [num (ckN s.size 64),num 0])] h1
  ·cases k<;>exact f1 [(24,.U [num (ckN s.size 64),num 4])] h1
def Fm.nd (f:Fm):Nat:=match f.shp with
 | true=>f.cnt
 | false=>0
theorem zEt:∀ f:Fm,f.tsz≤big→f.cnt≤big→A 205 [f.p] (.tuple [num f.nd,.bool f.shp])
 | .eq a b,h,hc=>by
  have h:max a.tsz b.tsz≤big:=h
  have hc:1+a.cnt+b.cnt≤big:=hc
  have h1:=qUg a (by omega) (by omega)
  have h2:=qUg b (by omega) (by omega)
  have hc1:inB (.ofNat (1+a.cnt))=true:=inb (by omega)
  have h0:=zF9 (.eq a b) h
  unfold Fm.nd Tm.nd at *
  show A 205 [(Fm.eq a b).p] (.tuple [num (match a.shp && b.shp with|true=>1+a.cnt+b.cnt|false=>0),.bool (a.shp && b.shp)])
  cases e1:a.shp<;>rw [e1] at h1
  ·exact f2 [(14,.T),(25,.U [num 0,.bool false])] h0 h1
  ·cases e2:b.shp<;>rw [e2] at h2
   ·exact f4 [(14,.T),(25,.U [num a.cnt,.bool true]),(32,.ok),(25,.U [num 0,.bool false])] h0 h1 hc1 h2
   ·exact f5 [(14,.T),(25,.U [num a.cnt,.bool true]),(32,.ok),(25,.U [num b.cnt,.bool true]),(32,.ok)] h0 h1 hc1 h2 (inb hc)
 | .bin k a b,h,hc=>by
  have h:max a.tsz b.tsz≤big:=h
  have hc:1+a.cnt+b.cnt≤big:=hc
  have h1:=zEt a (by omega) (by omega)
  have h2:=zEt b (by omega) (by omega)
  have hc1:inB (.ofNat (1+a.cnt))=true:=inb (by omega)
  have h0:=zF9 (.bin k a b) h
  unfold Fm.nd at *
  show A 205 [(Fm.bin k a b).p] (.tuple [num (match a.shp && b.shp with|true=>1+a.cnt+b.cnt|false=>0),.bool (a.shp && b.shp)])
  cases e1:a.shp<;>rw [e1] at h1
  ·cases k<;>exact f2 [(14,.T),(43,.U [num 0,.bool false])] h0 h1
  ·cases e2:b.shp<;>rw [e2] at h2
   ·cases k<;>exact f4 [(14,.T),(43,.U [num a.cnt,.bool true]),(50,.ok),(43,.U [num 0,.bool false])] h0 h1 hc1 h2
   ·cases k<;>exact f5 [(14,.T),(43,.U [num a.cnt,.bool true]),(50,.ok),(43,.U [num b.cnt,.bool true]),(50,.ok)] h0 h1 hc1 h2 (inb hc)
 | .q k s a,h,hc=>by
  have h0:A 267 [(Fm.q k s a).p] (.bool (Nat.beq s.chk 0)):=zF9 (.q k s a) h
  have h:max s.size a.tsz≤big:=h
  have hc:1+a.cnt≤big:=hc
  have h1:=zEt a (by omega) (by omega)
  unfold Fm.nd at *
  show A 205 [(Fm.q k s a).p] (.tuple [num (match Nat.beq s.chk 0 && a.shp with|true=>1+a.cnt|false=>0),.bool (Nat.beq s.chk 0 && a.shp)])
  cases e0:Nat.beq s.chk 0<;>rw [e0] at h0
  ·cases k<;>exact f1 [(14,.F)] h0
  ·cases e1:a.shp<;>rw [e1] at h1
   ·cases k<;>exact f2 [(14,.T),(43,.U [num 0,.bool false])] h0 h1
   ·cases k<;>exact f3 [(14,.T),(43,.U [num a.cnt,.bool true]),(50,.ok)] h0 h1 (inb hc)
def Fm.ckn (f:Fm):Nat:=match f.chk with
 | 0=>f.cnt
 | _=>0
theorem zEu (f:Fm) (h1:f.tsz≤big) (h2:f.cnt≤big):A 133 [f.p] (.tuple [num f.ckn,num f.chk]):=by
 have h3:=zEt f h1 h2
 unfold Fm.nd at h3
 unfold Fm.ckn Fm.chk
 cases e:f.shp<;>rw [e] at h3
 ·exact f1 [(8,.U [num 0,.bool false])] h3
 ·cases e2:ltI (.ofNat 4096) (.ofNat f.cnt)
  ·exact f2 [(8,.U [num f.cnt,.bool true]),(16,.H)] h3 e2
  ·exact f2 [(8,.U [num f.cnt,.bool true]),(16,.G)] h3 e2
theorem Fm.ckn0 {f:Fm} (h:f.chk=0):f.ckn=f.cnt:=by unfold Fm.ckn;split<;>simp_all
theorem a89 (f:Fm) (h1:f.tsz≤big) (h2:f.cnt≤big):A 84 [f.p] (num f.chk):=f1 [(7,.U [num f.ckn,num f.chk])] (zEu f h1 h2)
theorem a296 (f:Fm) (h1:f.tsz≤big) (h2:f.cnt≤big):A 293 [f.p] (.tuple [num f.ckn,num f.chk]):=f1 [(5,.U [num f.ckn,num f.chk])] (zEu f h1 h2)
open Go.Lg
set_option maxRecDepth 100000
def Fm.sc:Nat→Fm→Prop
 | n,.eq a b=>a.sc n∧b.sc n
 | n,.bin _ f g=>f.sc n∧g.sc n
 | n,.q _ _ f=>f.sc (n+1)
theorem zGa:A 88 [tys []] (tzs []):=f0 []
theorem zGb (s:Ty) (h:s.size≤big):A 88 [tys [s]] (tzs [s]):=f1 [(14,.r (.agg (szc s)))] (qFx s h)
theorem zGc (s u:Ty) (h:s.size≤big) (h':u.size≤big):A 88 [tys [s,u]] (tzs [s,u]):=f2 [(14,.r (.agg (szc s))),(14,.r (.agg (szc u)))] (qFx s h) (qFx u h')
theorem qHs (g:List Ty) (s:Ty) (hg:g.length≤mid) (h:s.size≤big):A 243 [tzs g,tys [s]] (tzs (g++[s])):=by
 have hm:=qQd
 have g1:=qV6 (g.map szc).length
 have g2:=qYb 3 40 qFw (by decide) g s (by omega) (by simp only [maxLen];omega)
 rw [show tzs (g++[s]) = .slice (g.map szc++[szc s]) by simp [tzs]]
 exact f3 [(10,.ok),(12,.r (tzs [s])),(13,.ok)] g1 (zGb s h) g2
theorem zB1 (g:List Ty) (s u:Ty) (hg:g.length≤mid) (h:s.size≤big) (h':u.size≤big):A 243 [tzs g,tys [s,u]] (tzs (g++[s,u])):=by
 have hm:=qQd
 have g1:=qV6 (g.map szc).length
 have g2:=zVd 3 40 qFw (by decide) g s u (by omega) (by simp only [maxLen];omega)
 rw [show tzs (g++[s,u]) = .slice (g.map szc++[szc s,szc u]) by simp [tzs]]
 exact f3 [(10,.ok),(12,.r (tzs [s,u])),(13,.ok)] g1 (zGc s u h h') g2
theorem zK8:∀ (f:Fm) (g:List Ty),(∀ s∈g,s.size≤64)→f.shp=true→g.length+f.cnt≤mid→∃ e,A 226 [tzs g,f.p] (num e)∧(e=0→f.sc g.length)∧(f.ty g→e=0)
 | .eq a b,g,hg,hs,hl=>by
  have hl:g.length+(1+a.cnt+b.cnt)≤mid:=hl
  obtain⟨hs1,hs2⟩:=qZ1 hs
  obtain⟨e,q1,q2,q3⟩:=zF8 g a hg hs1 (by omega)
  cases e with
  | succ n=>exact⟨n+1,f1 [(50,.N (n+1))] q1,(fun h=>nomatch h),fun h=>absurd (q3 h.1.2) (Nat.succ_ne_zero _)⟩
  | zero =>
   obtain⟨e,p1,p2,p3⟩:=zF8 g b hg hs2 (by omega)
   cases e with
   | succ n=>exact⟨n+1,f2 [(50,.N 0),(50,.N (n+1))] q1 p1,(fun h=>nomatch h),fun h=>absurd (p3 h.2.2) (Nat.succ_ne_zero _)⟩
   | zero=>exact⟨0,f2 [(50,.N 0),(50,.N 0)] q1 p1,(fun _=>⟨q2 rfl,p2 rfl⟩),fun _=>rfl⟩
 | .bin k a b,g,hg,hs,hl=>by
  have hl:g.length+(1+a.cnt+b.cnt)≤mid:=hl
  obtain⟨hs1,hs2⟩:=qZ1 hs
  obtain⟨e,q1,q2,q3⟩:=zK8 a g hg hs1 (by omega)
  cases e with
  | succ n=>cases k<;>exact⟨n+1,f1 [(36,.N (n+1))] q1,(fun h=>nomatch h),fun h=>absurd (q3 h.1) (Nat.succ_ne_zero _)⟩
  | zero =>
   obtain⟨e,p1,p2,p3⟩:=zK8 b g hg hs2 (by omega)
   cases e with
   | succ n=>cases k<;>exact⟨n+1,f2 [(36,.N 0),(36,.N (n+1))] q1 p1,(fun h=>nomatch h),fun h=>absurd (p3 h.2) (Nat.succ_ne_zero _)⟩
   | zero=>cases k<;>exact⟨0,f2 [(36,.N 0),(36,.N 0)] q1 p1,(fun _=>⟨q2 rfl,p2 rfl⟩),fun _=>rfl⟩
 | .q k s a,g,hg,hs,hl=>by
  have hm:=qQd
  have hb:=qQh
  have hl:g.length+(1+a.cnt)≤mid:=hl
  obtain⟨hs1,hs2⟩:=qZ1 hs
  have hz:=qOv hs1
  have g1:=qHs g s (by omega) (by omega)
  obtain⟨e,q1,q2,q3⟩:=zK8 a (g++[s]) (fun u hu=>by rcases List.mem_append.1 hu with h|h;exact hg u h;simp at h;subst h;exact hz) hs2 (by simp;omega)
  cases e with
  | succ n=>cases k<;>exact⟨n+1,f2 [(26,.r (tzs (g++[s]))),(36,.N (n+1))] g1 q1,(fun h=>nomatch h),fun h=>absurd (q3 h) (Nat.succ_ne_zero _)⟩
  | zero=>cases k<;>exact⟨0,f2 [(26,.r (tzs (g++[s]))),(36,.N 0)] g1 q1,(fun _=>by have:=q2 rfl;simpa [Fm.sc] using this),fun _=>rfl⟩
theorem zVf {g:List Ty} (hl:g.length≤16):∀ (r:List Ty) (k:Nat),g.drop k=r→(∀ t∈r,t.size≤big) →
  (qO8 r=0∧Lp 86 0 0 (st [(9,.pv (tys g)),(10,.pv (num (g.map Ty.c).length)),(11,.pv (num k))] [] 0 []) (.exit 0) (st [] [] 0 []))∨qO8 r=4∧Lp 86 0 0 (st [(9,.pv (tys g)),(10,.pv (num (g.map Ty.c).length)),(11,.pv (num k))] [] 0 []) .ret (st [(2,.pv (num 4))] [] 0 [])
 | [],k,h,_ => .inl ⟨rfl,x1 [(12,.H)] (kp []) (show ltI (.ofNat k) (.ofNat (g.map Ty.c).length)=false from qZ7 (by simpa using qWx h))⟩
 | t::r,k,h,hb=>by
  obtain⟨h1,h2,h3⟩:=qWw h
  have hc:=zF5 t (hb t (by simp))
  have hlt:ltI (.ofNat k) (.ofNat (g.map Ty.c).length)=true:=qQ7 (by simpa using h2)
  unfold qO8
  rcases qZc t with e|e<;>rw [qXc] at e<;>rw [e] at hc<;>rw [qXc,e]
  ·rcases zVf hl r (k+1) h3 (fun t ht=>hb t (by simp [ht])) with ⟨e1,ih⟩|⟨e1,ih⟩
   ·exact .inl ⟨e1,n5 [(12,.G),(13,.i t.c),(16,.N 0),(20,.ok)] (kp [9,10,11]) hlt (qQn h1 Ty.c_len) hc (inN (show k+1≤_ by omega)) ih⟩
   ·exact .inr ⟨e1,n5 [(12,.G),(13,.i t.c),(16,.N 0),(20,.ok)] (kp [9,10,11]) hlt (qQn h1 Ty.c_len) hc (inN (show k+1≤_ by omega)) ih⟩
  ·exact .inr ⟨rfl,x3 [(12,.G),(13,.i t.c),(16,.N 4)] (kp [2]) hlt (qQn h1 Ty.c_len) hc⟩
theorem a91 (g:List Ty) (hb:∀ t∈g,t.size≤big):A 86 [tys g] (num (qSd g)):=by
 unfold qSd
 cases e:ltI (.ofNat 16) (.ofNat (g.map Ty.c).length)
 ·have hl:g.length≤16:=by
   rw [qQr] at e
   simp at e
   omega
  rcases zVf hl g 0 rfl hb with ⟨h1,h2⟩|⟨h1,h2⟩<;>rw [h1]
  ·exact f2 [(8,.H),(100004,.l (kp [9,10,11]) (.exit 0) (st [] [] 0 []))] e h2
  ·exact f2 [(8,.H),(100004,.l (kp [9,10,11]) .ret (st [(2,.pv (num 4))] [] 0 []))] e h2
 ·exact f1 [(8,.G)] e
theorem zVg:∀ {g:List Ty},qO8 g=0→∀ s∈g,s.size≤64
 | [],_,s,h=>by cases h
 | t::r,e,s,h=>by
  unfold qO8 at e
  split at e
  ·rename_i e1
   rcases List.mem_cons.1 h with rfl|h
   ·exact Go.Proofs.YtalkjpicadiimaaGreatDoor.chk0 e1
   ·exact zVg e s h
  ·cases e
theorem zB2 {g:List Ty} (e:qSd g=0):g.length≤16 ∧ ∀ s∈g,s.size≤64:=by
 unfold qSd at e
 split at e
 ·cases e
 ·rename_i e1
  rw [qQr] at e1
  simp at e1
  exact⟨by omega,zVg e⟩
theorem qLu {A:List (List PV)} {v sz ty m:Nat} {c:List PV} (h0:0<sz) (h1:qAx sz [pvL c]=true) (h2:qJq [pvL c]=true) (h3:A.length+1≤maxLen) (h4:(A.length+1) * m≤140737488355328) :
  (Nat.beq v v && Nat.ble A.length (pvE A).length && Nat.beq ty ty && Nat.beq sz sz && Nat.blt 0 sz && qAx sz [pvL c] && qJq [pvL c] && Nat.ble (A.length+[pvL c].length) maxLen && Nat.ble ((A.length+[pvL c].length) * m) 140737488355328)=true :=
 qOt (pvE_len A) h0 h1 h2 h3 h4
abbrev zIq (g:List Ty) (k:Nat) (x:V):List (Nat × V):=[(3,x),(6,.pv (tys g)),(7,.pv (num (g.map Ty.c).length)),(8,.pv (num k))]
abbrev k93:Kp:=⟨[3,6,7,8],[1],2,[]⟩
theorem zVh {g:List Ty} (hl:g.length≤mid):∀ (r:List Ty) (k v:Nat) (A:List (List PV)),g.drop k=r→(∀ t∈r,t.size≤big)→A.length=k →
  ∃ v',Lp 88 0 0 (st (zIq g k (.arr 1 v A.length)) [(1,.arr v 3 134 (pvE A))] 2 []) (.exit 0) (st [(3,.arr 1 v' (A.length+r.length))] [(1,.arr v' 3 134 (pvE (A++r.map szc)))] 2 [])
 | [],k,v,A,h,hb,hA=>by
  have e:ltI (.ofNat k) (.ofNat (g.map Ty.c).length)=false:=qZ7 (by simpa using qWx h)
  simp only [List.map_nil,List.append_nil,List.length_nil,Nat.add_zero]
  exact⟨v,y1 [(9,.H)] ⟨[3],[1],2,[]⟩ e (qQo A)⟩
 | t::r,k,v,A,h,hb,hA=>by
  have hm:=qQd
  obtain⟨d1,d2,d3⟩:=qWw h
  have e:ltI (.ofNat k) (.ofNat (g.map Ty.c).length)=true:=qQ7 (by simpa using d2)
  have g3:=inN (show k+1≤_ by omega)
  have g5:=qLu (A:=A) (v:=v) (ty:=134) (m:=40) (c:=szc t) (show 0<3 by decide) rfl rfl (by simp only [maxLen];omega) (by omega)
  obtain⟨v',ih⟩:=zVh hl r (k+1) (v+1) (A++[szc t]) d3 (fun u hu=>hb u (by simp [hu])) (by simp [hA])
  rw [qJw,show (A++[szc t]).length=A.length+1 by simp,show A.length+1+r.length=A.length+(t::r).length by simp;omega,List.append_assoc] at ih
  exact⟨v',n7 [(9,.G),(10,.i t.c),(14,.r (.agg (szc t))),(16,.ok),(17,.ok)] k93 e (qQn d1 Ty.c_len) (qFx t (hb t (by simp))) g5 g3 (qQ2 A (szc t)) ih⟩
theorem a93 (g:List Ty) (hl:g.length≤mid) (hb:∀ t∈g,t.size≤big):A 88 [tys g] (tzs g):=by
 cases g with
 | nil=>exact zGa
 | cons t r =>
  have e:ltI (.ofNat 0) (.ofNat ((t::r).map Ty.c).length)=true:=qQ7 (by simp)
  obtain⟨v,h⟩:=zVh hl r 1 1 [szc t] rfl (fun u hu=>hb u (by simp [hu])) rfl
  have h2:=LoopIs.fz (by simp) h 1 (ver:=v) (sz:=3) (ty:=134) (ps:=(t::r).map szc) rfl (by kernel_rfl)
  simp (decide:=true) only [fzS,fzO,qB8,qJo,qC5,List.map,qGn,and_self,↓reduceIte,List.take_of_length_le (show (szc t::r.map szc).length≤[szc t].length+r.length by simp;omega)] at h2
  have h3:Lp 88 0 0 (st (zIq (t::r) 0 (.pv .nils)) [] 0 []) (.exit 0) (st [(3,.pv (tzs (t::r)))] [] 2 []) :=
   n6 [(9,.G),(10,.i t.c),(14,.r (.agg (szc t))),(17,.ok)] k93 e (qQn (g:=t::r) (k:=0) rfl Ty.c_len) (qFx t (hb t (by simp))) (inN (show 0+1≤_ by omega)) (qQ2 [] (szc t)) h2
  exact f1 [(100003,.l ⟨[3,6,7,8],[],0,[]⟩ (.exit 0) (st [(3,.pv (tzs (t::r)))] [] 2 []))] h3
open Go.Lg
set_option maxRecDepth 100000
theorem zGd {x:Int} {a:Nat} (h:(a:Int)≤x):(!ltI x (.ofNat a))=true:=by rw [qQr];simp;exact h
theorem zGe {x:Int} {a:Nat} (h:x<(a:Int)):(!ltI x (.ofNat a))=false:=by rw [qQr];simp;exact h
theorem zQz {x:Int} {a:Nat} (h:x=(a:Int)):eqI x (.ofNat a)=true:=by rw [qVp];simp;exact h
theorem zB3 {x:Int} {a:Nat} (h:x≠(a:Int)):eqI x (.ofNat a)=false:=by rw [qVp];simp;exact h
theorem zGf {x:Int} {a:Nat} (h:(a:Int)<x):ltI (.ofNat a) x=true:=by rw [qQr];simp;exact h
theorem zGg {x:Int} {a:Nat} (h:x≤(a:Int)):ltI (.ofNat a) x=false:=by rw [qQr];simp;exact h
theorem zAf {i d:Nat} (h:i≤big) (h':d≤big):inB (Int.ofNat i - .ofNat d)=true∧Int.ofNat i - .ofNat d=Int.ofNat i - .ofNat d:=⟨(qCt h h' rfl).1,rfl⟩
theorem qZd {a b:Nat} (h:a+b≤big):inB (Int.ofNat a + .ofNat b)=true∧Int.ofNat a + .ofNat b = .ofNat (a+b):=⟨inb (n:=a+b) h,rfl⟩
abbrev obF (c:V) (own:List (Nat × Ob)):List (Nat × Ob):=(5,.box [c])::(7,.box [.fn 337 [.loc 5 0,.loc 7 0]])::own
abbrev zIr (a b:Nat):List (Nat × Ob):=obF (.fn 318 [.loc 1 0,.loc 2 0]) [(1,bx [num a]),(2,bx [num b])]
theorem qHt (a z:Nat) (ha:a≤mid) (hz:z≤2 * mid):∀ (t:Tm) (d:Nat),d+t.cnt≤mid→t.mx≤mid * mid→O 337 [.pv t.p,.pv (num d),.loc 5 0,.loc 7 0] (zIr a z) (.pv (t.sh (a+d) (.ofNat z)).p) (zIr a z)
 | .v i,d,hd,hm=>by
  have hmm:=qQd
  have hi:i≤mid * mid:=hm
  have hd:d+1≤mid:=hd
  rw [hmm] at hi
  have hb:=qQh
  have g1:=zAf (i:=i) (d:=d) (by omega) (by omega)
  by_cases h:a+d≤i
  ·have e:(Tm.v i).sh (a+d) (.ofNat z) = .v (i+z):=by simp only [Tm.sh,if_pos h];rfl
   rw [e]
   have g2:(!ltI (Int.ofNat i - .ofNat d) (.ofNat a))=true:=zGd (by simp;omega)
   have g3:=qZd (a:=i) (b:=z) (by omega)
   exact o3 8 [(17,.n [(9,.y (Int.ofNat i - .ofNat d)),(11,.G),(14,.z (i+z))])] g1 g2 g3
  ·have e:(Tm.v i).sh (a+d) (.ofNat z) = .v i:=by simp only [Tm.sh,if_neg h]
   rw [e]
   have g2:(!ltI (Int.ofNat i - .ofNat d) (.ofNat a))=false:=zGe (by simp;omega)
   exact o2 8 [(17,.n [(9,.y (Int.ofNat i - .ofNat d)),(11,.H)])] g1 g2
 | .lam s b,d,hd,hm=>by
  have hd:d+(1+b.cnt)≤mid:=hd
  have hmm:=qQd
  have hb:=qQh
  have g:=qHt a z ha hz b (d+1) (by omega) hm
  exact o3 8 [(24,.r s.p),(30,.z (d+1)),(43,.o [5,7,1,2] [] (.pv (b.sh (a+(d+1)) (.ofNat z)).p))] (a95 s) (qZd (a:=d) (b:=1) (by omega)) g
 | .n0 k,d,_,_=>by cases k<;>exact o1 8 [(24,.r zt)] qC9
 | .n1 k b,d,hd,hm=>by
  have hd:d+(1+b.cnt)≤mid:=hd
  have g:=qHt a z ha hz b d (by omega) hm
  cases k<;>exact o2 8 [(24,.r zt),(43,.o [5,7,1,2] [] (.pv (b.sh (a+d) (.ofNat z)).p))] qC9 g
 | .n2 k b c,d,hd,hm=>by
  have hd:d+(1+b.cnt+c.cnt)≤mid:=hd
  have hm:max b.mx c.mx≤mid * mid:=hm
  have g:=qHt a z ha hz b d (by omega) (by omega)
  have g':=qHt a z ha hz c d (by omega) (by omega)
  cases k<;>exact o3 8 [(24,.r zt),(43,.o [5,7,1,2] [] (.pv (b.sh (a+d) (.ofNat z)).p)),(43,.o [5,7,1,2] [] (.pv (c.sh (a+d) (.ofNat z)).p))] qC9 g g'
 | .n3 k s b c e,d,hd,hm=>by
  have hd:d+(1+b.cnt+c.cnt+e.cnt)≤mid:=hd
  have hm:max b.mx (max c.mx e.mx)≤mid * mid:=hm
  have g:=qHt a z ha hz b d (by omega) (by omega)
  have g':=qHt a z ha hz c d (by omega) (by omega)
  have g'':=qHt a z ha hz e d (by omega) (by omega)
  cases k<;>exact o4 8 [(24,.r s.p),(43,.o [5,7,1,2] [] (.pv (b.sh (a+d) (.ofNat z)).p)),(43,.o [5,7,1,2] [] (.pv (c.sh (a+d) (.ofNat z)).p)),(43,.o [5,7,1,2] [] (.pv (e.sh (a+d) (.ofNat z)).p))] (a95 s) g g' g''
theorem zGh (t:Tm) (a z:Nat) (ha:a≤mid) (hz:z≤2 * mid) (h1:t.cnt≤mid) (h2:t.mx≤mid * mid):A 290 [t.p,num a,num z] (t.sh a (.ofNat z)).p :=
 f1 [(9,.n [(9,.o [5,7,1,2] [] (.pv (t.sh a (.ofNat z)).p))])] (qHt a z ha hz t 0 (by omega) h2)
structure Sx where
 k:Nat
 i:Nat
 tk:Nat
 te:List (List PV)
 es:List (List PV)
abbrev Sx.c (s:Sx):List PV:=[num s.k,num s.i,num s.tk,.slice s.te,.slice s.es]
abbrev Tm.x (t:Tm):Sx:=⟨t.kd,t.ix,t.tk,t.te,t.es⟩
abbrev Sx.z:Sx:=⟨0,0,0,[],[]⟩
abbrev zIs (a:Nat) (s:Sx):List (Nat × Ob):=obF (.fn 332 [.loc 1 0,.loc 2 0]) [(1,bx [num a]),(2,bx s.c)]
def Lf (s:Sx) (S:Tm):Prop:=∀ n,n≤2 * mid→A 290 [.agg s.c,num 0,num n] (S.sh 0 (.ofNat n)).p
theorem qHu (a:Nat) (s:Sx) (S:Tm) (ha:a≤mid):∀ (t:Tm) (d:Nat),(Lf s S∨t.occ (a+d)=0)→d+t.cnt≤mid→t.mx≤mid * mid→O 337 [.pv t.p,.pv (num d),.loc 5 0,.loc 7 0] (zIs a s) (.pv (t.put a S d).p) (zIs a s)
 | .v i,d,hS,hd,hm=>by
  have hmm:=qQd
  have hi:i≤mid * mid:=hm
  have hd:d+1≤mid:=hd
  rw [hmm] at hi
  have hb:=qQh
  have g1:=zAf (i:=i) (d:=d) (by omega) (by omega)
  by_cases h:i=a+d
  ·have e:(Tm.v i).put a S d=S.sh 0 (.ofNat (a+d)):=by simp only [Tm.put,if_pos h]
   rw [e]
   have g2:eqI (Int.ofNat i - .ofNat d) (.ofNat a)=true:=zQz (by simp;omega)
   have g3:=qZd (a:=a) (b:=d) (by omega)
   rcases hS with hS|hS
   ·exact o4 8 [(17,.n [(10,.y (Int.ofNat i - .ofNat d)),(14,.G),(18,.z (a+d)),(19,.r (S.sh 0 (.ofNat (a+d))).p)])] g1 g2 g3 (hS (a+d) (by omega))
   ·simp [Tm.occ,h] at hS
  ·have g2:eqI (Int.ofNat i - .ofNat d) (.ofNat a)=false:=zB3 (by simp;omega)
   by_cases h':a+d<i
   ·have e:(Tm.v i).put a S d = .v (i-1):=by simp only [Tm.put,if_neg h,if_pos h']
    rw [e]
    have g3:ltI (.ofNat a) (Int.ofNat i - .ofNat d)=true:=zGf (by simp;omega)
    have g4:=qV7 (a:=i) (by omega) (by omega)
    exact o4 8 [(17,.n [(10,.y (Int.ofNat i - .ofNat d)),(14,.H),(23,.G),(25,.z (i-1))])] g1 g2 g3 g4
   ·have e:(Tm.v i).put a S d = .v i:=by simp only [Tm.put,if_neg h,if_neg h']
    rw [e]
    have g3:ltI (.ofNat a) (Int.ofNat i - .ofNat d)=false:=zGg (by simp;omega)
    exact o3 8 [(17,.n [(10,.y (Int.ofNat i - .ofNat d)),(14,.H),(23,.H)])] g1 g2 g3
 | .lam s b,d,hS,hd,hm=>by
  have hd:d+(1+b.cnt)≤mid:=hd
  have hmm:=qQd
  have hb:=qQh
  have g:=qHu a _ S ha b (d+1) hS (by omega) hm
  exact o3 8 [(24,.r s.p),(30,.z (d+1)),(43,.o [5,7,1,2] [] (.pv (b.put a S (d+1)).p))] (a95 s) (qZd (a:=d) (b:=1) (by omega)) g
 | .n0 k,d,_,_,_=>by cases k<;>exact o1 8 [(24,.r zt)] qC9
 | .n1 k b,d,hS,hd,hm=>by
  have hd:d+(1+b.cnt)≤mid:=hd
  have g:=qHu a s S ha b d hS (by omega) hm
  cases k<;>exact o2 8 [(24,.r zt),(43,.o [5,7,1,2] [] (.pv (b.put a S d).p))] qC9 g
 | .n2 k b c,d,hS,hd,hm=>by
  have hd:d+(1+b.cnt+c.cnt)≤mid:=hd
  have hm:max b.mx c.mx≤mid * mid:=hm
  have hS:Lf s S∨b.occ (a+d)+c.occ (a+d)=0:=hS
  have g:=qHu a s S ha b d (hS.imp id (by omega)) (by omega) (by omega)
  have g':=qHu a s S ha c d (hS.imp id (by omega)) (by omega) (by omega)
  cases k<;>exact o3 8 [(24,.r zt),(43,.o [5,7,1,2] [] (.pv (b.put a S d).p)),(43,.o [5,7,1,2] [] (.pv (c.put a S d).p))] qC9 g g'
 | .n3 k u b c e,d,hS,hd,hm=>by
  have hd:d+(1+b.cnt+c.cnt+e.cnt)≤mid:=hd
  have hm:max b.mx (max c.mx e.mx)≤mid * mid:=hm
  have hS:Lf s S∨b.occ (a+d)+c.occ (a+d)+e.occ (a+d)=0:=hS
  have g:=qHu a s S ha b d (hS.imp id (by omega)) (by omega) (by omega)
  have g':=qHu a s S ha c d (hS.imp id (by omega)) (by omega) (by omega)
  have g'':=qHu a s S ha e d (hS.imp id (by omega)) (by omega) (by omega)
  cases k<;>exact o4 8 [(24,.r u.p),(43,.o [5,7,1,2] [] (.pv (b.put a S d).p)),(43,.o [5,7,1,2] [] (.pv (c.put a S d).p)),(43,.o [5,7,1,2] [] (.pv (e.put a S d).p))] (a95 u) g g' g''
theorem zIt (t:Tm) (a:Nat) (s:Sx) (S:Tm) (hS:Lf s S∨t.occ a=0) (ha:a≤mid) (h1:t.cnt≤mid) (h2:t.mx≤mid * mid):A 312 [t.p,num a,.agg s.c] (t.put a S 0).p :=
 f1 [(9,.n [(9,.o [5,7,1,2] [] (.pv (t.put a S 0).p))])] (qHu a s S ha t 0 hS (by omega) h2)
theorem Lf.of (S:Tm) (h1:S.cnt≤mid) (h2:S.mx≤mid * mid) (B:∀ n,n≤2 * mid→A 290 [S.p,num 0,num n] (S.sh 0 (.ofNat n)).p):Lf S.x S:=B
theorem zQ0:∀ t:Tm,A 182 [t.p] t.p
 | .v i=>f1 [(12,.r zt)] qC9
 | .lam s b=>f2 [(12,.r s.p),(24,.r b.p)] (a95 s) (zQ0 b)
 | .n0 k=>by cases k<;>exact f1 [(12,.r zt)] qC9
 | .n1 k b=>by have g:=zQ0 b;cases k<;>exact f2 [(12,.r zt),(24,.r b.p)] qC9 g
 | .n2 k b c=>by have g:=zQ0 b;have g':=zQ0 c;cases k<;>exact f3 [(12,.r zt),(24,.r b.p),(24,.r c.p)] qC9 g g'
 | .n3 k s b c d=>by have g:=zQ0 b;have g':=zQ0 c;have g'':=zQ0 d;cases k<;>exact f4 [(12,.r s.p),(24,.r b.p),(24,.r c.p),(24,.r d.p)] (a95 s) g g' g''
open Go.Lg
set_option maxRecDepth 100000
abbrev far:Nat:=536870912
def nrF:Bool→Tm→Bool
 | b,.v i=>match b with
  | true => !ltI (.ofNat far) (.ofNat i)
  | false=>false
 | b,.lam _ t=>nrF b t
 | b,.n0 _=>b
 | b,.n1 _ t=>nrF b t
 | b,.n2 _ t u=>nrF (nrF b t) u
 | b,.n3 _ _ t u w=>nrF (nrF (nrF b t) u) w
theorem qKi:∀ (t:Tm),t.mx≤far→nrF true t=true
 | .v i,h=>by
  have h:i≤far:=h
  show (!ltI (.ofNat far) (.ofNat i))=true
  rw [qZ7 h];rfl
 | .lam _ t,h=>qKi t h
 | .n0 _,_=>rfl
 | .n1 _ t,h=>qKi t h
 | .n2 _ t u,h=>by
  have h:max t.mx u.mx≤far:=h
  simp only [nrF,qKi t (by omega),qKi u (by omega)]
 | .n3 _ _ t u w,h=>by
  have h:max t.mx (max u.mx w.mx)≤far:=h
  simp only [nrF,qKi t (by omega),qKi u (by omega),qKi w (by omega)]
abbrev ut:PV:=.tuple []
abbrev obE (i j:Nat) (c:V) (own:List (Nat × Ob)):List (Nat × Ob):=(i,.box [c])::(j,.box [.fn 308 [.loc i 0,.loc j 0]])::own
abbrev obN (b:Bool):List (Nat × Ob):=obE 3 4 (.fn 320 [.loc 1 0]) [(1,bx [.bool b])]
abbrev chN (b:Bool):List (Nat × Ob):=[(1,bx [.bool b])]
theorem qHv:∀ (t:Tm) (b:Bool) (d:Nat),d+t.cnt≤mid→O 308 [.pv t.p,.pv (num d),.loc 3 0,.loc 4 0] (obN b) (.pv ut) (obN (nrF b t))
 | .v i,b,d,hd=>by
  cases b
  ·exact o0 5 []
  ·show O 308 _ _ _ (obN (!ltI (.ofNat far) (.ofNat i)))
   cases e : !ltI (.ofNat far) (.ofNat i)
   ·exact o1 5 [(15,.n [(8,.H)])] e
   ·exact o1 5 [(15,.n [(8,.G)])] e
 | .lam s a,b,d,hd=>by
  have hd:d+(1+a.cnt)≤mid:=hd
  have hm:=qQd
  have hb:=qQh
  exact o2 5 [(20,.z (d+1)),(31,.o [3,4] (chN (nrF b a)) (.pv ut))] (qZd (a:=d) (b:=1) (by omega)) (qHv a b (d+1) (by omega))
 | .n0 k,b,d,hd=>by cases k<;>exact o0 5 []
 | .n1 k a,b,d,hd=>by
  have hd:d+(1+a.cnt)≤mid:=hd
  have g:=qHv a b d (by omega)
  cases k<;>exact o1 5 [(31,.o [3,4] (chN (nrF b a)) (.pv ut))] g
 | .n2 k a c,b,d,hd=>by
  have hd:d+(1+a.cnt+c.cnt)≤mid:=hd
  have g:=qHv a b d (by omega)
  have g':=qHv c (nrF b a) d (by omega)
  cases k<;>exact o2 5 [(31,.o [3,4] (chN (nrF b a)) (.pv ut)),(31,.o [3,4] (chN (nrF (nrF b a) c)) (.pv ut))] g g'
 | .n3 k s a c e,b,d,hd=>by
  have hd:d+(1+a.cnt+c.cnt+e.cnt)≤mid:=hd
  have g:=qHv a b d (by omega)
  have g':=qHv c (nrF b a) d (by omega)
  have g'':=qHv e (nrF (nrF b a) c) d (by omega)
  cases k<;>exact o3 5 [(31,.o [3,4] (chN (nrF b a)) (.pv ut)),(31,.o [3,4] (chN (nrF (nrF b a) c)) (.pv ut)),(31,.o [3,4] (chN (nrF (nrF (nrF b a) c) e)) (.pv ut))] g g' g''
theorem a298 (t:Tm) (h:t.cnt≤mid):A 295 [t.p] (.bool (nrF true t)) :=
 f1 [(6,.n [(8,.o [3,4] (chN (nrF true t)) (.pv ut))])] (qHv t true 0 (by omega))
abbrev obC (a n:Nat):List (Nat × Ob):=obE 4 5 (.fn 322 [.loc 1 0,.loc 2 0]) [(1,bx [num a]),(2,bx [num n])]
abbrev chC (n:Nat):List (Nat × Ob):=[(2,bx [num n])]
theorem qHw (a:Nat) (ha:a≤mid):∀ (t:Tm) (n d:Nat),d+t.cnt≤mid→t.mx≤mid * mid→n+t.cnt≤big→O 308 [.pv t.p,.pv (num d),.loc 4 0,.loc 5 0] (obC a n) (.pv ut) (obC a (n+t.occ (a+d)))
 | .v i,n,d,hd,hm,hn=>by
  have hmm:=qQd
  have hi:i≤mid * mid:=hm
  have hd:d+1≤mid:=hd
  have hn:n+1≤big:=hn
  rw [hmm] at hi
  have hb:=qQh
  have g1:=zAf (i:=i) (d:=d) (by omega) (by omega)
  by_cases h:i=a+d
  ·have g2:eqI (Int.ofNat i - .ofNat d) (.ofNat a)=true:=zQz (by simp;omega)
   have e:(Tm.v i).occ (a+d)=1:=by simp only [Tm.occ,if_pos h]
   rw [e]
   exact o3 6 [(15,.n [(8,.y (Int.ofNat i - .ofNat d)),(10,.G),(12,.z (n+1))])] g1 g2 (qZd (a:=n) (b:=1) (by omega))
  ·have g2:eqI (Int.ofNat i - .ofNat d) (.ofNat a)=false:=zB3 (by simp;omega)
   have e:(Tm.v i).occ (a+d)=0:=by simp only [Tm.occ,if_neg h]
   rw [e]
   exact o2 6 [(15,.n [(8,.y (Int.ofNat i - .ofNat d)),(10,.H)])] g1 g2
 | .lam s b,n,d,hd,hm,hn=>by
  have hd:d+(1+b.cnt)≤mid:=hd
  have hn:n+(1+b.cnt)≤big:=hn
  have hmm:=qQd
  have hb:=qQh
  exact o2 6 [(20,.z (d+1)),(31,.o [4,5,1] (chC (n+b.occ (a+(d+1)))) (.pv ut))] (qZd (a:=d) (b:=1) (by omega)) (qHw a ha b n (d+1) (by omega) hm (by omega))
 | .n0 k,n,d,_,_,_=>by cases k<;>exact o0 6 []
 | .n1 k b,n,d,hd,hm,hn=>by
  have hd:d+(1+b.cnt)≤mid:=hd
  have hn:n+(1+b.cnt)≤big:=hn
  have g:=qHw a ha b n d (by omega) hm (by omega)
  cases k<;>exact o1 6 [(31,.o [4,5,1] (chC (n+b.occ (a+d))) (.pv ut))] g
 | .n2 k b c,n,d,hd,hm,hn=>by
  have hd:d+(1+b.cnt+c.cnt)≤mid:=hd
  have hn:n+(1+b.cnt+c.cnt)≤big:=hn
  have hm:max b.mx c.mx≤mid * mid:=hm
  have:=qQx b (a+d)
  have g:=qHw a ha b n d (by omega) (by omega) (by omega)
  have g':=qHw a ha c (n+b.occ (a+d)) d (by omega) (by omega) (by omega)
  have e:n+(Tm.n2 k b c).occ (a+d)=n+b.occ (a+d)+c.occ (a+d):=(Nat.add_assoc _ _ _).symm
  rw [e]
  cases k<;>exact o2 6 [(31,.o [4,5,1] (chC (n+b.occ (a+d))) (.pv ut)),(31,.o [4,5,1] (chC (n+b.occ (a+d)+c.occ (a+d))) (.pv ut))] g g'
 | .n3 k s b c f,n,d,hd,hm,hn=>by
  have hd:d+(1+b.cnt+c.cnt+f.cnt)≤mid:=hd
  have hn:n+(1+b.cnt+c.cnt+f.cnt)≤big:=hn
  have hm:max b.mx (max c.mx f.mx)≤mid * mid:=hm
  have:=qQx b (a+d)
  have:=qQx c (a+d)
  have g:=qHw a ha b n d (by omega) (by omega) (by omega)
  have g':=qHw a ha c (n+b.occ (a+d)) d (by omega) (by omega) (by omega)
  have g'':=qHw a ha f (n+b.occ (a+d)+c.occ (a+d)) d (by omega) (by omega) (by omega)
  have e:n+(Tm.n3 k s b c f).occ (a+d)=n+b.occ (a+d)+c.occ (a+d)+f.occ (a+d):=by simp only [Tm.occ];omega
  rw [e]
  cases k<;>exact o3 6 [(31,.o [4,5,1] (chC (n+b.occ (a+d))) (.pv ut)),(31,.o [4,5,1] (chC (n+b.occ (a+d)+c.occ (a+d))) (.pv ut)),(31,.o [4,5,1] (chC (n+b.occ (a+d)+c.occ (a+d)+f.occ (a+d))) (.pv ut))] g g' g''
theorem zIu (t:Tm) (a:Nat) (ha:a≤mid) (h:t.cnt≤mid) (hm:t.mx≤mid * mid):A 299 [t.p,num a] (num (t.occ a)):=by
 have hmm:=qQd
 have hb:=qQh
 have g:=qHw a ha t 0 0 (by omega) hm (by omega)
 rw [Nat.zero_add] at g
 exact f1 [(8,.n [(8,.o [4,5,1] (chC (t.occ a)) (.pv ut))])] g
abbrev oLf (a z:Nat):List (Nat × Ob):=[(1,bx [num a]),(2,bx [num z])]
theorem zQ1 (a z:Nat) (ha:a≤mid) (hz:z≤2 * mid):∀ (f:Fm) (d:Nat),a+d+f.cnt≤mid→f.mx≤mid * mid→O 180 [.pv f.p,.pv (num d),.fn 289 [.loc 1 0,.loc 2 0]] (oLf a z) (.pv (f.sh (a+d) (.ofNat z)).p) (oLf a z)
 | .eq t u,d,hd,hm=>by
  have hmm:=qQd
  have hb:=qQh
  have hd:a+d+(1+t.cnt+u.cnt)≤mid:=hd
  have hm:max t.mx u.mx≤mid * mid:=hm
  have g:=qZd (a:=a) (b:=d) (by omega)
  have g1:=zGh t (a+d) z (by omega) hz (by omega) (by omega)
  have g2:=zGh u (a+d) z (by omega) hz (by omega) (by omega)
  exact o5 3 [(16,.r zt),(30,.n [(10,.z (a+d)),(12,.r (t.sh (a+d) (.ofNat z)).p)]),(30,.n [(10,.z (a+d)),(12,.r (u.sh (a+d) (.ofNat z)).p)])] qC9 g g1 g g2
 | .bin k f g,d,hd,hm=>by
  have hd:a+d+(1+f.cnt+g.cnt)≤mid:=hd
  have hm:max f.mx g.mx≤mid * mid:=hm
  have g1:=zQ1 a z ha hz f d (by omega) (by omega)
  have g2:=zQ1 a z ha hz g d (by omega) (by omega)
  cases k<;>exact o3 3 [(16,.r zt),(52,.o [1,2] [] (.pv (f.sh (a+d) (.ofNat z)).p)),(52,.o [1,2] [] (.pv (g.sh (a+d) (.ofNat z)).p))] qC9 g1 g2
 | .q k s f,d,hd,hm=>by
  have hmm:=qQd
  have hb:=qQh
  have hd:a+d+(1+f.cnt)≤mid:=hd
  have g:=qZd (a:=d) (b:=1) (by omega)
  have g1:=zQ1 a z ha hz f (d+1) (by omega) hm
  cases k<;>exact o3 3 [(16,.r s.p),(39,.z (d+1)),(52,.o [1,2] [] (.pv (f.sh (a+(d+1)) (.ofNat z)).p))] (a95 s) g g1
theorem qUi (f:Fm) (a z:Nat) (hz:z≤2 * mid) (h1:a+f.cnt≤mid) (h2:f.mx≤mid * mid):A 245 [f.p,num a,num z] (f.sh a (.ofNat z)).p :=
 f1 [(9,.o [1,2] [] (.pv (f.sh a (.ofNat z)).p))] (zQ1 a z (by omega) hz f 0 (by omega) h2)
theorem qVu (S:Tm):∀ (t:Tm) (c d:Nat),t.put (c+1) S d=t.put c S (d+1)
 | .v i,c,d=>by simp only [Tm.put,show c+1+d=c+(d+1) by omega]
 | .lam s b,c,d=>by simp only [Tm.put,qVu S b]
 | .n0 k,c,d=>rfl
 | .n1 k a,c,d=>by simp only [Tm.put,qVu S a]
 | .n2 k a b,c,d=>by simp only [Tm.put,qVu S a,qVu S b]
 | .n3 k s a b e,c,d=>by simp only [Tm.put,qVu S a,qVu S b,qVu S e]
theorem qFy (S:Tm):∀ (f:Fm) (c d:Nat),f.put (c+1) S d=f.put c S (d+1)
 | .eq a b,c,d=>by simp only [Fm.put,qVu S a,qVu S b]
 | .bin k f g,c,d=>by simp only [Fm.put,qFy S f,qFy S g]
 | .q k s f,c,d=>by simp only [Fm.put,qFy S f]
abbrev oPf (a:Nat) (s:Sx):List (Nat × Ob):=[(1,bx [num a]),(2,bx s.c)]
theorem zQ2 (a:Nat) (s:Sx) (S:Tm) (ha:a≤mid):∀ (f:Fm) (d:Nat),(Lf s S∨f.occ (a+d)=0)→a+d+f.cnt≤mid→f.mx≤mid * mid→O 180 [.pv f.p,.pv (num d),.fn 311 [.loc 1 0,.loc 2 0]] (oPf a s) (.pv (f.put (a+d) S 0).p) (oPf a s)
 | .eq t u,d,hS,hd,hm=>by
  have hmm:=qQd
  have hb:=qQh
  have hd:a+d+(1+t.cnt+u.cnt)≤mid:=hd
  have hm:max t.mx u.mx≤mid * mid:=hm
  have hS:Lf s S∨t.occ (a+d)+u.occ (a+d)=0:=hS
  have g:=qZd (a:=a) (b:=d) (by omega)
  have g1:=zIt t (a+d) s S (hS.imp id (by omega)) (by omega) (by omega) (by omega)
  have g2:=zIt u (a+d) s S (hS.imp id (by omega)) (by omega) (by omega) (by omega)
  exact o5 3 [(16,.r zt),(30,.n [(10,.z (a+d)),(12,.r (t.put (a+d) S 0).p)]),(30,.n [(10,.z (a+d)),(12,.r (u.put (a+d) S 0).p)])] qC9 g g1 g g2
 | .bin k f g,d,hS,hd,hm=>by
  have hd:a+d+(1+f.cnt+g.cnt)≤mid:=hd
  have hm:max f.mx g.mx≤mid * mid:=hm
  have hS:Lf s S∨f.occ (a+d)+g.occ (a+d)=0:=hS
  have g1:=zQ2 a s S ha f d (hS.imp id (by omega)) (by omega) (by omega)
  have g2:=zQ2 a s S ha g d (hS.imp id (by omega)) (by omega) (by omega)
  cases k<;>exact o3 3 [(16,.r zt),(52,.o [1,2] [] (.pv (f.put (a+d) S 0).p)),(52,.o [1,2] [] (.pv (g.put (a+d) S 0).p))] qC9 g1 g2
 | .q k u f,d,hS,hd,hm=>by
  have hmm:=qQd
  have hb:=qQh
  have hd:a+d+(1+f.cnt)≤mid:=hd
  have g:=qZd (a:=d) (b:=1) (by omega)
  have g1:=zQ2 a s S ha f (d+1) hS (by omega) hm
  have e:f.put (a+(d+1)) S 0=f.put (a+d) S (0+1):=qFy S f (a+d) 0
  rw [e] at g1
  cases k<;>exact o3 3 [(16,.r u.p),(39,.z (d+1)),(52,.o [1,2] [] (.pv (f.put (a+d) S (0+1)).p))] (a95 u) g g1
theorem zB4 (f:Fm) (a:Nat) (s:Sx) (S:Tm) (hS:Lf s S∨f.occ a=0) (h1:a+f.cnt≤mid) (h2:f.mx≤mid * mid):A 285 [f.p,num a,.agg s.c] (f.put a S 0).p :=
 f1 [(9,.o [1,2] [] (.pv (f.put a S 0).p))] (zQ2 a s S (by omega) f 0 hS (by omega) h2)
theorem zQ3:∀ (f:Fm) (d:Nat),d+f.cnt≤mid→O 180 [.pv f.p,.pv (num d),.fn 181 []] [] (.pv f.p) []
 | .eq t u,d,hd=>o3 0 [(16,.r zt),(30,.n [(6,.r t.p)]),(30,.n [(6,.r u.p)])] qC9 (zQ0 t) (zQ0 u)
 | .bin k f g,d,hd=>by
  have hd:d+(1+f.cnt+g.cnt)≤mid:=hd
  have g1:=zQ3 f d (by omega)
  have g2:=zQ3 g d (by omega)
  cases k<;>exact o3 0 [(16,.r zt),(52,.o [] [] (.pv f.p)),(52,.o [] [] (.pv g.p))] qC9 g1 g2
 | .q k s f,d,hd=>by
  have hmm:=qQd
  have hb:=qQh
  have hd:d+(1+f.cnt)≤mid:=hd
  have g:=qZd (a:=d) (b:=1) (by omega)
  have g1:=zQ3 f (d+1) (by omega)
  cases k<;>exact o3 0 [(16,.r s.p),(39,.z (d+1)),(52,.o [] [] (.pv f.p))] (a95 s) g g1
theorem zMe (f:Fm) (h:f.cnt≤mid):A 113 [f.p] f.p:=f1 [(4,.o [] [] (.pv f.p))] (zQ3 f 0 (by omega))
def nr2 (b:Bool) (t:Tm):Bool:=match b with
 | true=>nrF true t
 | false=>false
def qM4:Bool→Fm→Bool
 | b,.eq t u=>nr2 (nr2 b t) u
 | b,.bin _ f g=>qM4 (qM4 b f) g
 | b,.q _ _ f=>qM4 b f
theorem qFz:∀ (f:Fm),f.mx≤far→qM4 true f=true
 | .eq t u,h=>by
  have h:max t.mx u.mx≤far:=h
  simp only [qM4,nr2,qKi t (by omega),qKi u (by omega)]
 | .bin _ f g,h=>by
  have h:max f.mx g.mx≤far:=h
  simp only [qM4,qFz f (by omega),qFz g (by omega)]
 | .q _ _ f,h=>qFz f h
theorem zIv (t:Tm) (b:Bool) (d:Nat) (h:t.cnt≤mid):O 319 [.pv t.p,.pv (num d),.loc 1 0] (chN b) (.pv ut) (chN (nr2 b t)):=by
 cases b
 ·exact o0 2 []
 ·exact o1 2 [(8,.r (.bool (nrF true t)))] (a298 t h)
theorem zQ4:∀ (f:Fm) (b:Bool) (d:Nat),d+f.cnt≤mid→O 309 [.pv f.p,.pv (num d),.fn 319 [.loc 1 0]] (chN b) (.pv ut) (chN (qM4 b f))
 | .eq t u,b,d,hd=>by
  have hd:d+(1+t.cnt+u.cnt)≤mid:=hd
  exact o2 2 [(20,.o [] (chN (nr2 b t)) (.pv ut)),(20,.o [] (chN (nr2 (nr2 b t) u)) (.pv ut))] (zIv t b d (by omega)) (zIv u (nr2 b t) d (by omega))
 | .bin k f g,b,d,hd=>by
  have hd:d+(1+f.cnt+g.cnt)≤mid:=hd
  have g1:=zQ4 f b d (by omega)
  have g2:=zQ4 g (qM4 b f) d (by omega)
  cases k<;>exact o2 2 [(37,.o [] (chN (qM4 b f)) (.pv ut)),(37,.o [] (chN (qM4 (qM4 b f) g)) (.pv ut))] g1 g2
 | .q k s f,b,d,hd=>by
  have hmm:=qQd
  have hb:=qQh
  have hd:d+(1+f.cnt)≤mid:=hd
  have g:=qZd (a:=d) (b:=1) (by omega)
  have g1:=zQ4 f b (d+1) (by omega)
  cases k<;>exact o2 2 [(26,.z (d+1)),(37,.o [] (chN (qM4 b f)) (.pv ut))] g g1
theorem a295 (f:Fm) (h:f.cnt≤mid):A 292 [f.p] (.bool (qM4 true f)) :=
 f1 [(6,.o [] (chN (qM4 true f)) (.pv ut))] (zQ4 f true 0 (by omega))
theorem zIw (t:Tm) (a n d:Nat) (ha:a+d≤mid) (h:t.cnt≤mid) (hm:t.mx≤mid * mid) (hn:n+t.cnt≤big):O 310 [.pv t.p,.pv (num d),.loc 2 0,.loc 1 0] [(1,bx [num a]),(2,bx [num n])] (.pv ut) [(1,bx [num a]),(2,bx [num (n+t.occ (a+d))])]:=by
 have hmm:=qQd
 have hb:=qQh
 have:=qQx t (a+d)
 have g:=qZd (a:=a) (b:=d) (by omega)
 have g':=qZd (a:=n) (b:=t.occ (a+d)) (by omega)
 exact o3 3 [(10,.z (a+d)),(11,.N (t.occ (a+d))),(12,.z (n+t.occ (a+d)))] g (zIu t (a+d) ha h hm) g'
theorem zQ5 (a:Nat):∀ (f:Fm) (n d:Nat),a+d+f.cnt≤mid→f.mx≤mid * mid→n+f.cnt≤big→O 309 [.pv f.p,.pv (num d),.fn 310 [.loc 2 0,.loc 1 0]] [(1,bx [num a]),(2,bx [num n])] (.pv ut) [(1,bx [num a]),(2,bx [num (n+f.occ (a+d))])]
 | .eq t u,n,d,hd,hm,hn=>by
  have hd:a+d+(1+t.cnt+u.cnt)≤mid:=hd
  have hm:max t.mx u.mx≤mid * mid:=hm
  have hn:n+(1+t.cnt+u.cnt)≤big:=hn
  have:=qQx t (a+d)
  have g1:=zIw t a n d (by omega) (by omega) (by omega) (by omega)
  have g2:=zIw u a (n+t.occ (a+d)) d (by omega) (by omega) (by omega) (by omega)
  have e:n+(Fm.eq t u).occ (a+d)=n+t.occ (a+d)+u.occ (a+d):=(Nat.add_assoc _ _ _).symm
  rw [e]
  exact o2 3 [(20,.o [1] (chC (n+t.occ (a+d))) (.pv ut)),(20,.o [1] (chC (n+t.occ (a+d)+u.occ (a+d))) (.pv ut))] g1 g2
 | .bin k f g,n,d,hd,hm,hn=>by
  have hd:a+d+(1+f.cnt+g.cnt)≤mid:=hd
  have hm:max f.mx g.mx≤mid * mid:=hm
  have hn:n+(1+f.cnt+g.cnt)≤big:=hn
  have:=qVt f (a+d)
  have g1:=zQ5 a f n d (by omega) (by omega) (by omega)
  have g2:=zQ5 a g (n+f.occ (a+d)) d (by omega) (by omega) (by omega)
  have e:n+(Fm.bin k f g).occ (a+d)=n+f.occ (a+d)+g.occ (a+d):=(Nat.add_assoc _ _ _).symm
  rw [e]
  cases k<;>exact o2 3 [(37,.o [1] (chC (n+f.occ (a+d))) (.pv ut)),(37,.o [1] (chC (n+f.occ (a+d)+g.occ (a+d))) (.pv ut))] g1 g2
 | .q k s f,n,d,hd,hm,hn=>by
  have hmm:=qQd
  have hb:=qQh
  have hd:a+d+(1+f.cnt)≤mid:=hd
  have hn:n+(1+f.cnt)≤big:=hn
  have g:=qZd (a:=d) (b:=1) (by omega)
  have g1:=zQ5 a f n (d+1) (by omega) hm (by omega)
  cases k<;>exact o2 3 [(26,.z (d+1)),(37,.o [1] (chC (n+f.occ (a+(d+1)))) (.pv ut))] g g1
theorem zB5 (f:Fm) (a:Nat) (h:a+f.cnt≤mid) (hm:f.mx≤mid * mid):A 284 [f.p,num a] (num (f.occ a)):=by
 have hmm:=qQd
 have hb:=qQh
 have g:=zQ5 a f 0 0 (by omega) hm (by omega)
 rw [Nat.zero_add] at g
 exact f1 [(8,.o [1] (chC (f.occ a)) (.pv ut))] g
open Go.Lg
set_option maxRecDepth 100000
def Tm.fr:Tm→Nat
 | .v i=>i+1
 | .lam _ b=>b.fr-1
 | .n0 _=>0
 | .n1 _ a=>a.fr
 | .n2 _ a b=>max a.fr b.fr
 | .n3 _ _ a b c=>max (max a.fr b.fr) c.fr
def Tm.nf:Tm→Bool
 | .v _=>true
 | .lam _ b=>b.nf
 | .n0 _=>true
 | .n1 k a=>(Tm.n1 k a).red.isNone && a.nf
 | .n2 k a b=>(Tm.n2 k a b).red.isNone && (a.nf && b.nf)
 | .n3 k s a b c=>(Tm.n3 k s a b c).red.isNone && (a.nf && (b.nf && c.nf))
def Tm.nas:Tm→List (List PV)
 | .lam _ b=>[[.nptr [num b.kd,num b.ix,num b.tk,.slice b.te,.slice b.nas,num b.cnt,num b.fr,.flg b.nf]]]
 | .n1 _ a=>[[.nptr [num a.kd,num a.ix,num a.tk,.slice a.te,.slice a.nas,num a.cnt,num a.fr,.flg a.nf]]]
 | .n2 _ a b=>[[.nptr [num a.kd,num a.ix,num a.tk,.slice a.te,.slice a.nas,num a.cnt,num a.fr,.flg a.nf]],[.nptr [num b.kd,num b.ix,num b.tk,.slice b.te,.slice b.nas,num b.cnt,num b.fr,.flg b.nf]]]
 | .n3 _ _ a b c=>[[.nptr [num a.kd,num a.ix,num a.tk,.slice a.te,.slice a.nas,num a.cnt,num a.fr,.flg a.nf]],[.nptr [num b.kd,num b.ix,num b.tk,.slice b.te,.slice b.nas,num b.cnt,num b.fr,.flg b.nf]],[.nptr [num c.kd,num c.ix,num c.tk,.slice c.te,.slice c.nas,num c.cnt,num c.fr,.flg c.nf]]]
 | _=>[]
abbrev Tm.nd' (t:Tm):PV:=.nptr [num t.kd,num t.ix,num t.tk,.slice t.te,.slice t.nas,num t.cnt,num t.fr,.flg t.nf]
theorem qDm:∀ (t:Tm) (n:Nat),t.sc n↔t.fr≤n
 | .v i,n=>by simp only [Tm.sc,Tm.fr];omega
 | .lam s b,n=>by have:=qDm b (n+1);simp only [Tm.sc,Tm.fr,this];omega
 | .n0 k,n=>by simp [Tm.sc,Tm.fr]
 | .n1 k a,n=>by simpa only [Tm.sc,Tm.fr] using qDm a n
 | .n2 k a b,n=>by simp only [Tm.sc,Tm.fr,qDm a n,qDm b n];omega
 | .n3 k s a b d,n=>by simp only [Tm.sc,Tm.fr,qDm a n,qDm b n,qDm d n];omega
theorem qHx (z:Int):∀ (t:Tm) (c:Nat),t.fr≤c→t.sh c z=t
 | .v i,c,h=>by simp only [Tm.fr] at h;simp only [Tm.sh,if_neg (show ¬ c≤i by omega)]
 | .lam s b,c,h=>by simp only [Tm.fr] at h;simp only [Tm.sh,qHx z b (c+1) (by omega)]
 | .n0 k,c,h=>rfl
 | .n1 k a,c,h=>by simp only [Tm.fr] at h;simp only [Tm.sh,qHx z a c h]
 | .n2 k a b,c,h=>by simp only [Tm.fr] at h;simp only [Tm.sh,qHx z a c (by omega),qHx z b c (by omega)]
 | .n3 k s a b d,c,h=>by simp only [Tm.fr] at h;simp only [Tm.sh,qHx z a c (by omega),qHx z b c (by omega),qHx z d c (by omega)]
theorem qM5:∀ (t:Tm) (c:Nat),t.sh c (.ofNat 0)=t
 | .v i,c=>by simp only [Tm.sh];split<;>simp
 | .lam s b,c=>by simp only [Tm.sh,qM5 b]
 | .n0 k,c=>rfl
 | .n1 k a,c=>by simp only [Tm.sh,qM5 a]
 | .n2 k a b,c=>by simp only [Tm.sh,qM5 a,qM5 b]
 | .n3 k s a b d,c=>by simp only [Tm.sh,qM5 a,qM5 b,qM5 d]
theorem qAh (c:Nat) (S:Tm):∀ (t:Tm) (d:Nat),t.fr≤c+d→t.put c S d=t
 | .v i,d,h=>by simp only [Tm.fr] at h;simp only [Tm.put,if_neg (show ¬ i=c+d by omega),if_neg (show ¬ c+d<i by omega)]
 | .lam s b,d,h=>by simp only [Tm.fr] at h;simp only [Tm.put,qAh c S b (d+1) (by omega)]
 | .n0 k,d,h=>rfl
 | .n1 k a,d,h=>by simp only [Tm.fr] at h;simp only [Tm.put,qAh c S a d h]
 | .n2 k a b,d,h=>by simp only [Tm.fr] at h;simp only [Tm.put,qAh c S a d (by omega),qAh c S b d (by omega)]
 | .n3 k s a b e,d,h=>by simp only [Tm.fr] at h;simp only [Tm.put,qAh c S a d (by omega),qAh c S b d (by omega),qAh c S e d (by omega)]
theorem qYe:∀ (t:Tm) (c:Nat),t.fr≤c→t.occ c=0
 | .v i,c,h=>by simp only [Tm.fr] at h;simp only [Tm.occ,if_neg (show ¬ i=c by omega)]
 | .lam s b,c,h=>by simp only [Tm.fr] at h;simp only [Tm.occ,qYe b (c+1) (by omega)]
 | .n0 k,c,h=>rfl
 | .n1 k a,c,h=>by simp only [Tm.fr] at h;simp only [Tm.occ,qYe a c h]
 | .n2 k a b,c,h=>by simp only [Tm.fr] at h;simp only [Tm.occ,qYe a c (by omega),qYe b c (by omega)]
 | .n3 k s a b d,c,h=>by simp only [Tm.fr] at h;simp only [Tm.occ,qYe a c (by omega),qYe b c (by omega),qYe d c (by omega)]
theorem qCy:∀ t:Tm,t.fr≤t.mx+1
 | .v i=>by simp [Tm.fr,Tm.mx]
 | .lam s b=>by have:=qCy b;simp only [Tm.fr,Tm.mx];omega
 | .n0 k=>by simp [Tm.fr]
 | .n1 k a=>qCy a
 | .n2 k a b=>by have:=qCy a;have:=qCy b;simp only [Tm.fr,Tm.mx];omega
 | .n3 k s a b d=>by have:=qCy a;have:=qCy b;have:=qCy d;simp only [Tm.fr,Tm.mx];omega
theorem qXq:∀ (t:Tm) (n:Nat),t.sc n→t.mx≤n+t.cnt
 | .v i,n,h=>by simp only [Tm.sc] at h;simp only [Tm.mx];omega
 | .lam s b,n,h=>by have:=qXq b (n+1) h;simp only [Tm.mx,Tm.cnt];omega
 | .n0 k,n,h=>by simp [Tm.mx]
 | .n1 k a,n,h=>by have:=qXq a n h;simp only [Tm.mx,Tm.cnt];omega
 | .n2 k a b,n,h=>by have:=qXq a n h.1;have:=qXq b n h.2;simp only [Tm.mx,Tm.cnt];omega
 | .n3 k s a b d,n,h=>by have:=qXq a n h.1;have:=qXq b n h.2.1;have:=qXq d n h.2.2;simp only [Tm.mx,Tm.cnt];omega
theorem zK9:∀ (t:Tm) {n m:Nat},n≤m→t.sc n→t.sc m:=fun t n m h h'=>(qDm t m).2 (Nat.le_trans ((qDm t n).1 h') h)
theorem qY1 (z:Nat):∀ (t:Tm) (c n:Nat),t.sc n→(t.sh c (.ofNat z)).sc (n+z)
 | .v i,c,n,h=>by
  have h:i<n:=h
  simp only [Tm.sh]
  split
  ·show ((Int.ofNat i + .ofNat z).toNat)<n+z
   have:(Int.ofNat i + .ofNat z).toNat=i+z:=rfl
   omega
  ·show i<n+z
   omega
 | .lam s b,c,n,h=>by
  have:=qY1 z b (c+1) (n+1) h
  rw [show n+1+z=n+z+1 by omega] at this
  exact this
 | .n0 k,c,n,h=>trivial
 | .n1 k a,c,n,h=>qY1 z a c n h
 | .n2 k a b,c,n,h=>⟨qY1 z a c n h.1,qY1 z b c n h.2⟩
 | .n3 k s a b d,c,n,h=>⟨qY1 z a c n h.1,qY1 z b c n h.2.1,qY1 z d c n h.2.2⟩
theorem qXd (S:Tm) (n:Nat):∀ (t:Tm) (d:Nat),t.sc (n+d+1)→(S.sc n∨t.occ d=0)→(t.put 0 S d).sc (n+d)
 | .v i,d,h,hS=>by
  have h:i<n+d+1:=h
  simp only [Tm.put,Nat.zero_add]
  split
  ·rename_i e
   rcases hS with hS|hS
   ·exact qY1 d S 0 n hS
   ·simp [Tm.occ,e] at hS
  ·split
   ·show i-1<n+d
    omega
   ·show i<n+d
    omega
 | .lam s b,d,h,hS=>by
  have h:b.sc (n+d+1+1):=h
  have:=qXd S n b (d+1) (by rw [show n+(d+1)+1=n+d+1+1 by omega];exact h) hS
  exact this
 | .n0 k,d,h,hS=>trivial
 | .n1 k a,d,h,hS=>qXd S n a d h hS
 | .n2 k a b,d,h,hS=>by
  simp only [Tm.occ] at hS
  exact⟨qXd S n a d h.1 (hS.imp id (by omega)),qXd S n b d h.2 (hS.imp id (by omega))⟩
 | .n3 k s a b e,d,h,hS=>by
  simp only [Tm.occ] at hS
  exact⟨qXd S n a d h.1 (hS.imp id (by omega)),qXd S n b d h.2.1 (hS.imp id (by omega)),qXd S n e d h.2.2 (hS.imp id (by omega))⟩
theorem qF0 (z w:Nat):∀ (t:Tm) (c:Nat),(t.sh c (.ofNat z)).sh c (.ofNat w)=t.sh c (.ofNat (z+w))
 | .v i,c=>by
  simp only [Tm.sh]
  split
  ·have e:(Int.ofNat i + .ofNat z).toNat=i+z:=rfl
   simp only [Tm.sh,e,if_pos (show c≤i+z by omega)]
   have e1:(Int.ofNat (i+z) + .ofNat w).toNat=i+z+w:=rfl
   have e2:(Int.ofNat i + .ofNat (z+w)).toNat=i+(z+w):=rfl
   rw [e1,e2,Nat.add_assoc]
  ·rename_i h
   simp only [Tm.sh,if_neg h]
 | .lam s b,c=>by simp only [Tm.sh,qF0 z w b]
 | .n0 k,c=>rfl
 | .n1 k a,c=>by simp only [Tm.sh,qF0 z w a]
 | .n2 k a b,c=>by simp only [Tm.sh,qF0 z w a,qF0 z w b]
 | .n3 k s a b d,c=>by simp only [Tm.sh,qF0 z w a,qF0 z w b,qF0 z w d]
theorem qKj (z:Int):∀ (t:Tm) (c:Nat),(t.sh c z).shp=t.shp
 | .v i,c=>by simp only [Tm.sh];split<;>rfl
 | .lam s b,c=>by simp only [Tm.sh,Tm.shp,qKj z b]
 | .n0 k,c=>rfl
 | .n1 k a,c=>by simp only [Tm.sh,Tm.shp,qKj z a]
 | .n2 k a b,c=>by simp only [Tm.sh,Tm.shp,qKj z a,qKj z b]
 | .n3 k s a b d,c=>by simp only [Tm.sh,Tm.shp,qKj z a,qKj z b,qKj z d]
theorem qVv (c:Nat) (S:Tm):∀ (t:Tm) (d:Nat),(S.shp=true∨t.occ (c+d)=0)→t.shp=true→(t.put c S d).shp=true
 | .v i,d,hS,h=>by
  simp only [Tm.put]
  split
  ·rename_i e
   rcases hS with hS|hS
   ·rw [qKj];exact hS
   ·simp [Tm.occ,e] at hS
  ·split<;>rfl
 | .lam s b,d,hS,h=>by
  obtain⟨h1,h2⟩:=qZ1 h
  show (_ && _)=true
  rw [h1,qVv c S b (d+1) hS h2];rfl
 | .n0 k,d,hS,h=>rfl
 | .n1 k a,d,hS,h=>qVv c S a d hS h
 | .n2 k a b,d,hS,h=>by
  obtain⟨h1,h2⟩:=qZ1 h
  simp only [Tm.occ] at hS
  show (_ && _)=true
  rw [qVv c S a d (hS.imp id (by omega)) h1,qVv c S b d (hS.imp id (by omega)) h2];rfl
 | .n3 k s a b e,d,hS,h=>by
  obtain⟨h1,h2⟩:=qZ1 h
  obtain⟨h2,h3⟩:=qZ1 h2
  obtain⟨h3,h4⟩:=qZ1 h3
  simp only [Tm.occ] at hS
  show (_ && (_ && (_ && _)))=true
  rw [h1,qVv c S a d (hS.imp id (by omega)) h2,qVv c S b d (hS.imp id (by omega)) h3,qVv c S e d (hS.imp id (by omega)) h4];rfl
theorem zB6 (n:Nat):∀ {t r:Tm},t.red=some r→t.sc n→t.shp=true→r.sc n∧r.shp=true:=by
 refine @qVa (fun t r=>t.sc n→t.shp=true→r.sc n∧r.shp=true) ?_ ?_ ?_ ?_ ?_ ?_ ?_
 ·intro a b h hs
  exact⟨h.1,(qZ1 hs).1⟩
 ·intro a b h hs
  exact⟨h.2,(qZ1 hs).2⟩
 ·intro s b a h hs
  obtain⟨h1,h2⟩:=qZ1 hs
  obtain⟨_,h3⟩:=qZ1 h1
  exact⟨qXd a n b 0 h.1 (.inl h.2),qVv 0 a b 0 (.inl h2) h3⟩
 ·intro s b f h hs
  obtain⟨_,h2⟩:=qZ1 hs
  exact⟨h.1,(qZ1 h2).1⟩
 ·intro s b f m h hs
  obtain⟨h1,h2⟩:=qZ1 hs
  obtain⟨h2,h3⟩:=qZ1 h2
  obtain⟨h3,h4⟩:=qZ1 h3
  have h4:m.shp=true:=h4
  refine⟨⟨⟨h.2.1,h.2.2⟩,h.1,h.2.1,h.2.2⟩,?_⟩
  show ((_ && _) && (_ && (_ && (_ && _))))=true
  rw [h1,h2,h3,h4];rfl
 ·intro s b f h hs
  obtain⟨_,h2⟩:=qZ1 hs
  exact⟨h.1,(qZ1 h2).1⟩
 ·intro s b f x l h hs
  obtain⟨h1,h2⟩:=qZ1 hs
  obtain⟨h2,h3⟩:=qZ1 h2
  obtain⟨h3,h4⟩:=qZ1 h3
  obtain⟨h4,h5⟩:=qZ1 h4
  have h':=h.2.2
  refine⟨⟨⟨⟨h.2.1,h'.1⟩,h'.2⟩,h.1,h.2.1,h'.2⟩,?_⟩
  show (((_ && _) && _) && (_ && (_ && (_ && _))))=true
  rw [h1,h2,h3,h4,h5];rfl
open Go.Lg
set_option maxRecDepth 100000
theorem qXe:∀ (f:Fm) (n:Nat),f.sc n→f.mx≤n+f.cnt
 | .eq a b,n,h=>by have:=qXq a n h.1;have:=qXq b n h.2;simp only [Fm.mx,Fm.cnt];omega
 | .bin k a b,n,h=>by have:=qXe a n h.1;have:=qXe b n h.2;simp only [Fm.mx,Fm.cnt];omega
 | .q k s a,n,h=>by have:=qXe a (n+1) h;simp only [Fm.mx,Fm.cnt];omega
theorem qM6:∀ (f:Fm) {n m:Nat},n≤m→f.sc n→f.sc m
 | .eq a b,n,m,h,h'=>⟨zK9 a h h'.1,zK9 b h h'.2⟩
 | .bin k a b,n,m,h,h'=>⟨qM6 a h h'.1,qM6 b h h'.2⟩
 | .q k s a,n,m,h,h'=>qM6 a (Nat.succ_le_succ h) h'
theorem qM7 (z:Nat):∀ (f:Fm) (c n:Nat),f.sc n→(f.sh c (.ofNat z)).sc (n+z)
 | .eq a b,c,n,h=>⟨qY1 z a c n h.1,qY1 z b c n h.2⟩
 | .bin k a b,c,n,h=>⟨qM7 z a c n h.1,qM7 z b c n h.2⟩
 | .q k s a,c,n,h=>by
  have:=qM7 z a (c+1) (n+1) h
  rw [show n+1+z=n+z+1 by omega] at this
  exact this
theorem qY2 (S:Tm) (n:Nat):∀ (f:Fm) (d:Nat),f.sc (n+d+1)→(S.sc n∨f.occ d=0)→(f.put 0 S d).sc (n+d)
 | .eq a b,d,h,hS=>by
  simp only [Fm.occ] at hS
  exact⟨qXd S n a d h.1 (hS.imp id (by omega)),qXd S n b d h.2 (hS.imp id (by omega))⟩
 | .bin k a b,d,h,hS=>by
  simp only [Fm.occ] at hS
  exact⟨qY2 S n a d h.1 (hS.imp id (by omega)),qY2 S n b d h.2 (hS.imp id (by omega))⟩
 | .q k s a,d,h,hS=>by
  have h:a.sc (n+d+1+1):=h
  exact qY2 S n a (d+1) (by rw [show n+(d+1)+1=n+d+1+1 by omega];exact h) hS
theorem qM8 (z w:Nat):∀ (f:Fm) (c:Nat),(f.sh c (.ofNat z)).sh c (.ofNat w)=f.sh c (.ofNat (z+w))
 | .eq a b,c=>by simp only [Fm.sh,qF0 z w a,qF0 z w b]
 | .bin k a b,c=>by simp only [Fm.sh,qM8 z w a,qM8 z w b]
 | .q k s a,c=>by simp only [Fm.sh,qM8 z w a]
theorem qSm:∀ (f:Fm) (c:Nat),f.sh c (.ofNat 0)=f
 | .eq a b,c=>by simp only [Fm.sh,qM5]
 | .bin k a b,c=>by simp only [Fm.sh,qSm a,qSm b]
 | .q k s a,c=>by simp only [Fm.sh,qSm a]
theorem qF1 (z:Int):∀ (f:Fm) (c:Nat),(f.sh c z).shp=f.shp
 | .eq a b,c=>by simp only [Fm.sh,Fm.shp,qKj]
 | .bin k a b,c=>by simp only [Fm.sh,Fm.shp,qF1 z a,qF1 z b]
 | .q k s a,c=>by simp only [Fm.sh,Fm.shp,qF1 z a]
theorem qK3 (c:Nat) (S:Tm):∀ (f:Fm) (d:Nat),(S.shp=true∨f.occ (c+d)=0)→f.shp=true→(f.put c S d).shp=true
 | .eq a b,d,hS,h=>by
  obtain⟨h1,h2⟩:=qZ1 h
  simp only [Fm.occ] at hS
  show (_ && _)=true
  rw [qVv c S a d (hS.imp id (by omega)) h1,qVv c S b d (hS.imp id (by omega)) h2];rfl
 | .bin k a b,d,hS,h=>by
  obtain⟨h1,h2⟩:=qZ1 h
  simp only [Fm.occ] at hS
  show (_ && _)=true
  rw [qK3 c S a d (hS.imp id (by omega)) h1,qK3 c S b d (hS.imp id (by omega)) h2];rfl
 | .q k s a,d,hS,h=>by
  obtain⟨h1,h2⟩:=qZ1 h
  show (_ && _)=true
  rw [h1,qK3 c S a (d+1) hS h2];rfl
structure FK (n:Nat) (f:Fm):Prop where
 cnt:f.cnt≤4096
 shp:f.shp=true
 sc:f.sc n
theorem qZ2:∀ t:Tm,t.shp=true→t.tsz≤64
 | .v i,h=>Nat.zero_le _
 | .lam s b,h=>by
  obtain⟨h1,h2⟩:=qZ1 h
  have:=qOv h1
  have:=qZ2 b h2
  simp only [Tm.tsz];omega
 | .n0 k,h=>Nat.zero_le _
 | .n1 k a,h=>qZ2 a h
 | .n2 k a b,h=>by
  obtain⟨h1,h2⟩:=qZ1 h
  have:=qZ2 a h1
  have:=qZ2 b h2
  simp only [Tm.tsz];omega
 | .n3 k s a b d,h=>by
  obtain⟨h1,h2⟩:=qZ1 h
  obtain⟨h2,h3⟩:=qZ1 h2
  obtain⟨h3,h4⟩:=qZ1 h3
  have:=qOv h1
  have:=qZ2 a h2
  have:=qZ2 b h3
  have:=qZ2 d h4
  simp only [Tm.tsz];omega
theorem qWm:∀ f:Fm,f.shp=true→f.tsz≤64
 | .eq a b,h=>by
  obtain⟨h1,h2⟩:=qZ1 h
  have:=qZ2 a h1
  have:=qZ2 b h2
  simp only [Fm.tsz];omega
 | .bin k a b,h=>by
  obtain⟨h1,h2⟩:=qZ1 h
  have:=qWm a h1
  have:=qWm b h2
  simp only [Fm.tsz];omega
 | .q k s a,h=>by
  obtain⟨h1,h2⟩:=qZ1 h
  have:=qOv h1
  have:=qWm a h2
  simp only [Fm.tsz];omega
end Go.Proofs.YtalkjpicadiimaaGreatDoor
