/- Contracts of functions; no conditions. -/
import Derived.Test.YtmihmecnjjmdgaaGreatDoorAgainC3
set_option linter.all false
set_option maxHeartbeats 4000000
namespace Go.Proofs.YtmihmecnjjmdgaaGreatDoor
open Go.Lg
set_option maxRecDepth 100000
def Wv{s:Ty}(h:s.kd=2):s=.list:=by
 cases s with
 |list=>rfl|two k a b=>cases k<;>cases h
 |_=>cases h
def TU[PB]{g:List Ty}{u:Ty}{f:Fm}(a:g.length<=1024)(a:f.chk=0/\f.ty (g++[u])):f.mx<=6000:=by
 have h:=PB.mx (ED _ _ a.2);rw[List.length_append]at h;have h:f.mx<=g.length+1+f.cnt:=h;have:=(Fm.chk0 a.1).1;omega
def ji[PB]{g:List Ty}{u:Ty}{f:Fm}(a:g.length<=1024)(b:f.chk=0/\f.ty (g++[u])):max f.mx (0+f.cnt)<=536870912:=by
 have:=TU a b;have:=(Fm.chk0 b.1).1;omega
def vi[PB]{g:List Ty}{u:Ty}{f:Fm}(a:g.length<=1024)(b:f.chk=0/\f.ty (g++[u])){z m:Nat}(c:z<=2)(c:m<=2):max (f.sh 1 (.ofNat z)).mx (m+(f.sh 1 (.ofNat z)).cnt)<=536870912:=by
 have:=TU a b;have:=(Fm.chk0 b.1).1;have h:(f.sh 1 (.ofNat z)).mx<=f.mx+z:=CG (.ofNat z) f 1;rw[sD];omega
def wi[PB]{g:List Ty}{t:Tm}{s:Ty}(a:g.length<=1024)(a:t.chk=0)(b:t.tyR g=.ok s)(h:t.cnt<=65536:=by omega):t.sm:=⟨a,by have:=PB.mt b;omega⟩
def Xv[PB](H:MF)(f:Fm)(t:Tm){a b:Pf}(Ha:TD a)(Hb:TD b):JF 165 (.ind false f t a b):=by
 intro d g i M j;have E:=vA;have:=uA;have:mA=8388608:=rfl;have W:sB=qA*qA-1001*4096:=rfl;have o:=j.gl;have:=j.hl;have X:M+mA*(1+t.cnt+f.cnt+a.cnt+b.cnt)<=sB:=j.mb;have:max (max (max t.tsz f.tsz) a.tsz) b.tsz<=qA:=j.tsz;have:max (max (max t.mx f.mx) a.mx) b.mx<=M:=j.mx;have:1+t.cnt+f.cnt+a.cnt+b.cnt<=65536:=j.cnt;have Y:mA*(1+t.cnt+f.cnt+a.cnt+b.cnt)=mA+mA*t.cnt+mA*f.cnt+mA*a.cnt+mA*b.cnt:=by rw[Nat.mul_add,Nat.mul_add,Nat.mul_add,Nat.mul_add,Nat.mul_one]
 rw[Y]at X;rw[E]at W;have:=DE t;have v:=rR g;have y:=EF 2 32 Ty.c_len (by decide) g .nat (by omega) (by simp only[maxLen];omega);obtain⟨e,p,u,p0⟩:=HU (g++[.nat]) f (SU j.g1 (by decide)) (by omega) (by simp;omega);rw[YZ]at p
 cases e with|succ n=>exact⟨.er n,f3 [(32,.ok),(35,.ok),37] v y p,RR.good_er (Nat.succ_ne_zero n) (λ_ _ ⟨⟨h,k⟩,_⟩=>(p0 h k).resolve_left (Nat.succ_ne_zero n))⟩|zero=>
 clear p0;have A:=Fm.chk0 (u rfl).1;obtain⟨e,F,q1,p1⟩:=XZ d g i t 1 j.g1
 cases e with|succ n=>exact⟨.er n,f4 [(32,.ok),(35,.ok),37,44] v y p F,RR.good_er (Nat.succ_ne_zero n) (λ_ _ ⟨_,⟨h,k⟩,_⟩=>(p1 _ h k rfl).resolve_left (Nat.succ_ne_zero n))⟩|zero=>
 obtain⟨l,G⟩:t.chk=0/\t.tyR g=.ok (lT false):=by
  obtain⟨Z,s,k2,k3⟩:=q1 rfl;exact⟨Z,by rw[k2,FU k3];rfl⟩
 clear q1 p1;have hpa:Pre d g i M a:=j.sub (by show a.cnt<=1+t.cnt+f.cnt+a.cnt+b.cnt;omega) (by show a.tsz<=max (max (max t.tsz f.tsz) a.tsz) b.tsz;omega) (by show a.mx<=max (max (max t.mx f.mx) a.mx) b.mx;omega);have I:=kR 4;obtain⟨w,e,J,q2,b1,b2,b5⟩:=pP Ha d g i M hpa f (.n0 .zero) (by omega) (by rw[E];omega) (by omega) (by decide) (by decide) (by decide) (by simp only[Tm.mx];omega);by_cases K:e=0;rotate_left
 ·obtain⟨n,rfl⟩:=Nat.exists_eq_succ_of_ne_zero K;exact⟨.er n,f6 [(32,.ok),(35,.ok),37,44,56,57] v y p F I J,RR.good_er (Nat.succ_ne_zero n) (λq _ ⟨_,_,w,_⟩=>(b5 (u rfl).1 rfl (ji o (u rfl)) q w).resolve_left (Nat.succ_ne_zero n))⟩
 subst K;clear b5;obtain⟨fa,⟨_,_,⟨ja,j1,j2,j3,j4⟩,_,_,_⟩,wa,hwa,hma⟩:=q2 rfl;obtain⟨e,U,q4⟩:=sR d g i 1 1
 cases e with|succ n=>exact⟨.er n,f7 [(32,.ok),(35,.ok),37,44,56,57,65] v y p F I J U,RR.good_er (Nat.succ_ne_zero n) (λ_ _ _=>eR q4.2)⟩|zero=>
 have B:=q4.1 rfl;clear q4;have g6:=QZ d g .nat i (by omega) (by omega) (λf hf=>(j.h1 f hf).hyp (by omega));have hf1:FO (M+1) f:=⟨A.1,by omega,by omega⟩;have g7:=KU d (g++[.nat]) (i.map (Fm.sh 0 1)) f (by simp;omega);have g8:=RD f 1 1 (by omega) (by omega) (by rw[E];omega) (by omega);have g9:=yR 5 (.v 0);have hpb:Pre d (g++[.nat]) (i.map (Fm.sh 0 1)++[f]) (M+1) b:=j.to (by omega) (by
  intro x hx;rcases List.mem_append.1 hx with h|h
  ·exact RU j.h1 1 x h
  ·simp at h;subst h;exact hf1) (by
  intro x hx;rcases List.mem_append.1 hx with h|h
  ·exact j.g1 x h
  simp at h;subst h;decide) (by simp;omega) (by simp;omega) (by show b.cnt<=1+t.cnt+f.cnt+a.cnt+b.cnt;omega) (by show b.tsz<=max (max (max t.tsz f.tsz) a.tsz) b.tsz;omega) (by show b.mx<=max (max (max t.mx f.mx) a.mx) b.mx;omega) (by omega)
 have:(f.sh 1 1).mx<=f.mx+1:=CG 1 f 1;have:(f.sh 1 1).cnt=f.cnt:=sD 1 f 1;have:(f.sh 1 1).tsz=f.tsz:=BG 1 f 1;obtain⟨m,e,C,q5,b3,b4,b6⟩:=pP Hb d (g++[.nat]) (i.map (Fm.sh 0 1)++[f]) (M+1) hpb (f.sh 1 1) (Tm.n1 .succ (.v 0)) (by omega) (by rw[E];omega) (by omega) (by decide) (by decide) (by decide) (by simp only[Tm.mx];omega);by_cases K:e=0;rotate_left
 ·obtain⟨n,rfl⟩:=Nat.exists_eq_succ_of_ne_zero K;exact⟨.er n,fk [(32,.ok),(35,.ok),(37,.N 0),(44,.N 0),(56,.r (Tm.n0 .zero).p),(57,.U [IA w,num 0]),(65,.N 0),(74,.r (fB d (g++[.nat]) (i.map (Fm.sh 0 1)))),(76,.r (fB d (g++[.nat]) (i.map (Fm.sh 0 1)++[f]))),(82,.r (f.sh 1 1).p),(85,.r (Tm.n1 .succ (.v 0)).p),(86,.U [IA m,num (n+1)])] (And.intro v (And.intro y (And.intro p (And.intro F (And.intro I (And.intro J (And.intro U (And.intro g6 (And.intro g7 (And.intro g8 (And.intro g9 (And.intro C (Eq.refl ((RR.er n).p)))))))))))))),RR.good_er (Nat.succ_ne_zero n) (λq _ ⟨_,_,_,w,_⟩=>(b6 (Fm.chk_i (by rw[lP];exact A.2) (by rw[sD];exact A.1)) rfl (vi o (u rfl) (by decide) (by decide)) ((q.up1 .nat).snoc (ED _ _ (u rfl).2)) w).resolve_left (Nat.succ_ne_zero n))⟩
 subst K;clear b6;obtain⟨fb,⟨_,_,⟨jb,Z,k2,k3,k4⟩,_,_,_⟩,wb,hw2,hm2⟩:=q5 rfl;have L:t.mx<=qA*qA:=by rw[E];omega
 obtain⟨u1,N,p1,p2,p3,_⟩:=PU H t (by omega) (by omega) L;obtain⟨V,O,p4,p5,p6,_⟩:=H.union u1 w (by omega) (λz c=>by have:=p2 z c;omega) (λz c=>by have:=b1 z c;omega);have hwb:∀z∈m,z<=yA:=λz c=>by have:=b3 z c;omega
 have P:=NU 1 m (by omega) hwb;have:=MU 1 m;have Q:∀z∈RA 1 m,z<=M+1+mA*b.cnt:=tR (λz c=>b3 z c);have R:∀z∈V,z<=M+mA*a.cnt:=λz c=>by
  rcases p5 z c with h|h
  ·have:=p2 z h;omega
  exact b1 z h
 obtain⟨D,S,s1,s2,s3,sA⟩:=H.union V (RA 1 m) (by omega) (λz c=>by have:=R z c;omega) (λz c=>by have:=Q z c;omega);obtain⟨r,T,q8⟩:=nP f t (by omega) (by rw[E];omega) (by omega) (by omega) L;rcases q8 with ⟨n,rfl,q8⟩|⟨rfl,q9⟩
 ·exact⟨⟨0,0,[],[],[],D,n+1⟩,fk [(32,.ok),(35,.ok),(37,.N 0),(44,.N 0),(56,.r (Tm.n0 .zero).p),(57,.U [IA w,num 0]),(65,.N 0),(74,.r (fB d (g++[.nat]) (i.map (Fm.sh 0 1)))),(76,.r (fB d (g++[.nat]) (i.map (Fm.sh 0 1)++[f]))),(82,.r (f.sh 1 1).p),(85,.r (Tm.n1 .succ (.v 0)).p),(86,.U [IA m,num 0]),(96,.r (FR.er n).p),(101,.r (IA u1)),(103,.r (IA V)),(105,.r (IA (RA 1 m))),(106,.r (IA D))] (And.intro v (And.intro y (And.intro p (And.intro F (And.intro I (And.intro J (And.intro U (And.intro g6 (And.intro g7 (And.intro g8 (And.intro g9 (And.intro C (And.intro T (And.intro N (And.intro O (And.intro P (And.intro S (Eq.refl (RR.p (⟨0,0,[],[],[],D,n+1⟩)))))))))))))))))))),RR.good_er (Nat.succ_ne_zero n) (λ_ _ _=>by rw[q8 ⟨(u rfl).1,Nat.le_trans (TU o (u rfl)) (by decide)⟩ (wi o l G)];exact(by decide:Lm (3+1)))⟩
 have h1:=FI 0 t f 0;have:=QJ 0 t f 0;refine⟨.of (f.put 0 t 0) D 0,fk [(32,.ok),(35,.ok),(37,.N 0),(44,.N 0),(56,.r (Tm.n0 .zero).p),(57,.U [IA w,num 0]),(65,.N 0),(74,.r (fB d (g++[.nat]) (i.map (Fm.sh 0 1)))),(76,.r (fB d (g++[.nat]) (i.map (Fm.sh 0 1)++[f]))),(82,.r (f.sh 1 1).p),(85,.r (Tm.n1 .succ (.v 0)).p),(86,.U [IA m,num 0]),(96,.r (FR.ok (f.put 0 t 0)).p),(101,.r (IA u1)),(103,.r (IA V)),(105,.r (IA (RA 1 m))),(106,.r (IA D))] (And.intro v (And.intro y (And.intro p (And.intro F (And.intro I (And.intro J (And.intro U (And.intro g6 (And.intro g7 (And.intro g8 (And.intro g9 (And.intro C (And.intro T (And.intro N (And.intro O (And.intro P (And.intro S (Eq.refl ((RR.of (f.put 0 t 0) D 0).p))))))))))))))))))),RR.ok λ_=>⟨_,rfl,⟨by show(f.put 0 t 0).cnt<=qA;omega,by show(f.put 0 t 0).mx<=M+mA*(1+t.cnt+f.cnt+a.cnt+b.cnt);rw[Y];omega,by show(f.put 0 t 0).tsz<=qA;omega,⟨.ind false f t ja jb _,by rw[<-j1,<-Z];rfl,rfl,λhc=>⟨hc,u rfl,⟨l,G⟩,⟨j3,wa,hwa,by rw[j2];exact hma⟩,B,⟨k3,wb,hw2,by rw[k2];exact hm2⟩,mP q9⟩,λz c=>?_⟩,sA,λz c=>?_,by show D.length<=1+t.cnt+f.cnt+a.cnt+b.cnt;omega⟩⟩⟩
 ·rcases c.2 with h|h|h
  ·exact s1 z (.inl (p4 z (.inl (p1 l z h))))
  ·exact s1 z (.inl (p4 z (.inr (j4 z h))))
  exact s1 z (.inr (LU (k4 _ h)))
 show z<=M+mA*(1+t.cnt+f.cnt+a.cnt+b.cnt);rw[Y];rcases s2 z c with h|h
 ·have:=R z h;omega
 have:=Q z h;omega
def Yv[PB](H:MF)(f:Fm)(t:Tm){a b:Pf}(Ha:TD a)(Hb:TD b):JF 166 (.ind true f t a b):=by
 intro d g i M j;have v:=vA;have:=uA;have:mA=8388608:=rfl;have W:sB=qA*qA-1001*4096:=rfl;have o:=j.gl;have:=j.hl;have X:M+mA*(1+t.cnt+f.cnt+a.cnt+b.cnt)<=sB:=j.mb;have:max (max (max t.tsz f.tsz) a.tsz) b.tsz<=qA:=j.tsz;have:max (max (max t.mx f.mx) a.mx) b.mx<=M:=j.mx;have:1+t.cnt+f.cnt+a.cnt+b.cnt<=65536:=j.cnt;have Y:mA*(1+t.cnt+f.cnt+a.cnt+b.cnt)=mA+mA*t.cnt+mA*f.cnt+mA*a.cnt+mA*b.cnt:=by rw[Nat.mul_add,Nat.mul_add,Nat.mul_add,Nat.mul_add,Nat.mul_one]
 rw[Y]at X;rw[v]at W;have:=DE t;have y:=rR g;have A:=EF 2 32 Ty.c_len (by decide) g .list (by omega) (by simp only[maxLen];omega);obtain⟨e,p,u,p0⟩:=HU (g++[.list]) f (SU j.g1 (by decide)) (by omega) (by simp;omega);rw[YZ]at p
 cases e with|succ n=>exact⟨.er n,f3 [(32,.ok),(35,.ok),37] y A p,RR.good_er (Nat.succ_ne_zero n) (λ_ _ ⟨⟨h,k⟩,_⟩=>(p0 h k).resolve_left (Nat.succ_ne_zero n))⟩|zero=>
 clear p0;have B:=Fm.chk0 (u rfl).1;obtain⟨e,F,q1,p1⟩:=XZ d g i t 2 j.g1
 cases e with|succ n=>exact⟨.er n,f4 [(32,.ok),(35,.ok),37,44] y A p F,RR.good_er (Nat.succ_ne_zero n) (λ_ _ ⟨_,⟨h,k⟩,_⟩=>(p1 _ h k rfl).resolve_left (Nat.succ_ne_zero n))⟩|zero=>
 obtain⟨l,G⟩:t.chk=0/\t.tyR g=.ok (lT true):=by
  obtain⟨Z,s,k2,k3⟩:=q1 rfl;exact⟨Z,by rw[k2,Wv k3];rfl⟩
 clear q1 p1;have hpa:Pre d g i M a:=j.sub (by show a.cnt<=1+t.cnt+f.cnt+a.cnt+b.cnt;omega) (by show a.tsz<=max (max (max t.tsz f.tsz) a.tsz) b.tsz;omega) (by show a.mx<=max (max (max t.mx f.mx) a.mx) b.mx;omega);have I:=kR 7;obtain⟨w,e,J,q2,b1,b2,b5⟩:=pP Ha d g i M hpa f (.n0 .nil) (by omega) (by rw[v];omega) (by omega) (by decide) (by decide) (by decide) (by simp only[Tm.mx];omega);by_cases K:e=0;rotate_left
 ·obtain⟨n,rfl⟩:=Nat.exists_eq_succ_of_ne_zero K;exact⟨.er n,f6 [(32,.ok),(35,.ok),37,44,56,57] y A p F I J,RR.good_er (Nat.succ_ne_zero n) (λq _ ⟨_,_,w,_⟩=>(b5 (u rfl).1 rfl (ji o (u rfl)) q w).resolve_left (Nat.succ_ne_zero n))⟩
 subst K;clear b5;obtain⟨fa,⟨_,_,⟨ja,j1,j2,j3,j4⟩,_,_,_⟩,wa,hwa,hma⟩:=q2 rfl;obtain⟨e,U,q4⟩:=sR d g i 2 1
 cases e with|succ n=>exact⟨.er n,f7 [(32,.ok),(35,.ok),37,44,56,57,65] y A p F I J U,RR.good_er (Nat.succ_ne_zero n) (λ_ _ _=>eR q4.2)⟩|zero=>
 have C:=q4.1 rfl;clear q4;have g6:=Ov d g .nat .list i (by omega) (by omega) (λf hf=>(j.h1 f hf).hyp (by omega));have hf1:FO (M+2) (f.sh 1 1):=by have h:=CG 1 f 1;simp at h;exact⟨by rw[sD];exact B.1,by omega,by rw[BG];omega⟩
 have gh:=RD f 1 1 (by omega) (by omega) (by rw[v];omega) (by omega);have g7:=KU d (g++[.nat,.list]) (i.map (Fm.sh 0 2)) (f.sh 1 1) (by simp;omega);have g8:=RD f 1 2 (by omega) (by omega) (by rw[v];omega) (by omega);have g9:=tG 8 (.v 1) (.v 0);have hpb:Pre d (g++[.nat,.list]) (i.map (Fm.sh 0 2)++[(f.sh 1 1)]) (M+2) b:=j.to (by omega) (by
  intro x hx;rcases List.mem_append.1 hx with h|h
  ·exact RU j.h1 2 x h
  ·simp at h;subst h;exact hf1) (by
  intro x hx;rcases List.mem_append.1 hx with h|h
  ·exact j.g1 x h
  simp at h;rcases h with rfl|rfl<;>decide) (by simp;omega) (by simp;omega) (by show b.cnt<=1+t.cnt+f.cnt+a.cnt+b.cnt;omega) (by show b.tsz<=max (max (max t.tsz f.tsz) a.tsz) b.tsz;omega) (by show b.mx<=max (max (max t.mx f.mx) a.mx) b.mx;omega) (by omega)
 have:(f.sh 1 2).mx<=f.mx+2:=CG 2 f 1;have:(f.sh 1 2).cnt=f.cnt:=sD 2 f 1;have:(f.sh 1 2).tsz=f.tsz:=BG 2 f 1;obtain⟨m,e,D,q5,b3,b4,b6⟩:=pP Hb d (g++[.nat,.list]) (i.map (Fm.sh 0 2)++[(f.sh 1 1)]) (M+2) hpb (f.sh 1 2) (Tm.n2 .cons (.v 1) (.v 0)) (by omega) (by rw[v];omega) (by omega) (by decide) (by decide) (by decide) (by simp only[Tm.mx];omega);by_cases K:e=0;rotate_left
 ·obtain⟨n,rfl⟩:=Nat.exists_eq_succ_of_ne_zero K;exact⟨.er n,fk [(32,.ok),(35,.ok),(37,.N 0),(44,.N 0),(56,.r (Tm.n0 .nil).p),(57,.U [IA w,num 0]),(65,.N 0),(75,.r (fB d (g++[.nat,.list]) (i.map (Fm.sh 0 2)))),(77,.r (f.sh 1 1).p),(78,.r (fB d (g++[.nat,.list]) (i.map (Fm.sh 0 2)++[(f.sh 1 1)]))),(84,.r (f.sh 1 2).p),(88,.r (Tm.n2 .cons (.v 1) (.v 0)).p),(89,.U [IA m,num (n+1)])] (And.intro y (And.intro A (And.intro p (And.intro F (And.intro I (And.intro J (And.intro U (And.intro g6 (And.intro gh (And.intro g7 (And.intro g8 (And.intro g9 (And.intro D (Eq.refl ((RR.er n).p))))))))))))))),RR.good_er (Nat.succ_ne_zero n) (λq _ ⟨_,_,_,w,_⟩=>(b6 (Fm.chk_i (by rw[lP];exact B.2) (by rw[sD];exact B.1)) rfl (vi o (u rfl) (by decide) (by decide)) ((q.up2 .nat .list).snoc (PB.si (ED _ _ (u rfl).2))) w).resolve_left (Nat.succ_ne_zero n))⟩
 subst K;clear b6;obtain⟨fb,⟨_,_,⟨jb,Z,k2,k3,k4⟩,_,_,_⟩,wb,hw2,hm2⟩:=q5 rfl;have L:t.mx<=qA*qA:=by rw[v];omega
 obtain⟨u1,N,p1,p2,p3,_⟩:=PU H t (by omega) (by omega) L;obtain⟨V,O,p4,p5,p6,_⟩:=H.union u1 w (by omega) (λz c=>by have:=p2 z c;omega) (λz c=>by have:=b1 z c;omega);have hwb:∀z∈m,z<=yA:=λz c=>by have:=b3 z c;omega
 have P:=NU 2 m (by omega) hwb;have:=MU 2 m;have Q:∀z∈RA 2 m,z<=M+2+mA*b.cnt:=tR (λz c=>b3 z c);have R:∀z∈V,z<=M+mA*a.cnt:=λz c=>by
  rcases p5 z c with h|h
  ·have:=p2 z h;omega
  exact b1 z h
 obtain⟨E,S,s1,s2,s3,sA⟩:=H.union V (RA 2 m) (by omega) (λz c=>by have:=R z c;omega) (λz c=>by have:=Q z c;omega);obtain⟨r,T,q8⟩:=nP f t (by omega) (by rw[v];omega) (by omega) (by omega) L;rcases q8 with ⟨n,rfl,q8⟩|⟨rfl,q9⟩
 ·exact⟨⟨0,0,[],[],[],E,n+1⟩,fk [(32,.ok),(35,.ok),(37,.N 0),(44,.N 0),(56,.r (Tm.n0 .nil).p),(57,.U [IA w,num 0]),(65,.N 0),(75,.r (fB d (g++[.nat,.list]) (i.map (Fm.sh 0 2)))),(77,.r (f.sh 1 1).p),(78,.r (fB d (g++[.nat,.list]) (i.map (Fm.sh 0 2)++[(f.sh 1 1)]))),(84,.r (f.sh 1 2).p),(88,.r (Tm.n2 .cons (.v 1) (.v 0)).p),(89,.U [IA m,num 0]),(99,.r (FR.er n).p),(104,.r (IA u1)),(106,.r (IA V)),(108,.r (IA (RA 2 m))),(109,.r (IA E))] (And.intro y (And.intro A (And.intro p (And.intro F (And.intro I (And.intro J (And.intro U (And.intro g6 (And.intro gh (And.intro g7 (And.intro g8 (And.intro g9 (And.intro D (And.intro T (And.intro N (And.intro O (And.intro P (And.intro S (Eq.refl (RR.p (⟨0,0,[],[],[],E,n+1⟩))))))))))))))))))))),RR.good_er (Nat.succ_ne_zero n) (λ_ _ _=>by rw[q8 ⟨(u rfl).1,Nat.le_trans (TU o (u rfl)) (by decide)⟩ (wi o l G)];exact(by decide:Lm (3+1)))⟩
 have h1:=FI 0 t f 0;have:=QJ 0 t f 0;refine⟨.of (f.put 0 t 0) E 0,fk [(32,.ok),(35,.ok),(37,.N 0),(44,.N 0),(56,.r (Tm.n0 .nil).p),(57,.U [IA w,num 0]),(65,.N 0),(75,.r (fB d (g++[.nat,.list]) (i.map (Fm.sh 0 2)))),(77,.r (f.sh 1 1).p),(78,.r (fB d (g++[.nat,.list]) (i.map (Fm.sh 0 2)++[(f.sh 1 1)]))),(84,.r (f.sh 1 2).p),(88,.r (Tm.n2 .cons (.v 1) (.v 0)).p),(89,.U [IA m,num 0]),(99,.r (FR.ok (f.put 0 t 0)).p),(104,.r (IA u1)),(106,.r (IA V)),(108,.r (IA (RA 2 m))),(109,.r (IA E))] (And.intro y (And.intro A (And.intro p (And.intro F (And.intro I (And.intro J (And.intro U (And.intro g6 (And.intro gh (And.intro g7 (And.intro g8 (And.intro g9 (And.intro D (And.intro T (And.intro N (And.intro O (And.intro P (And.intro S (Eq.refl ((RR.of (f.put 0 t 0) E 0).p)))))))))))))))))))),RR.ok λ_=>⟨_,rfl,⟨by show(f.put 0 t 0).cnt<=qA;omega,by show(f.put 0 t 0).mx<=M+mA*(1+t.cnt+f.cnt+a.cnt+b.cnt);rw[Y];omega,by show(f.put 0 t 0).tsz<=qA;omega,⟨.ind true f t ja jb _,by rw[<-j1,<-Z];rfl,rfl,λhc=>⟨hc,u rfl,⟨l,G⟩,⟨j3,wa,hwa,by rw[j2];exact hma⟩,C,⟨k3,wb,hw2,by rw[k2];exact hm2⟩,mP q9⟩,λz c=>?_⟩,sA,λz c=>?_,by show E.length<=1+t.cnt+f.cnt+a.cnt+b.cnt;omega⟩⟩⟩
 ·rcases c.2 with h|h|h
  ·exact s1 z (.inl (p4 z (.inl (p1 l z h))))
  ·exact s1 z (.inl (p4 z (.inr (j4 z h))))
  exact s1 z (.inr (LU (k4 _ h)))
 show z<=M+mA*(1+t.cnt+f.cnt+a.cnt+b.cnt);rw[Y];rcases s2 z c with h|h
 ·have:=R z h;omega
 have:=Q z h;omega
abbrev HG:List PV:=[num 0,num 0,.slice [],.slice [],.slice []]
def ZZ:A 29 [.agg HG] (.agg HG):=f1 [12] sG
def yi(k:FB)(f:Fm):A 111 [num k.n,f.p,.agg HG] (.agg [num k.n,num 0,.slice [],.slice [],.slice [f.c,HG]]):=f2 [9,11] (dE f) ZZ
abbrev qz(k:FQ)(s:Ty)(x:List PV):List PV:=[num k.n,num s.kd,.slice s.es,.slice [],.slice [x]]
def Zv(k:FQ)(s:Ty):A 50 [num k.n,s.p,.agg HG] (.agg (qz k s HG)):=f2 [9,11] (vD s) ZZ
def qw(k:FQ)(s:Ty):A 29 [.agg (qz k s HG)] (.agg (qz k s HG)):=f2 [12,39] (vD s) ZZ
def zw(k l:FQ)(s u:Ty):A 50 [num k.n,s.p,.agg (qz l u HG)] (.agg (qz k s (qz l u HG))):=f2 [9,11] (vD s) (qw l u)
def jw[PB]{a:List Fm}{g:List Ty}{b:List Fm}{c:Jt}{s u:Ty}{y:Fm}(d:g.length<=1024)(h:Hq a g b)(e:c.f=.q .all s (.q .ex u y))(d:c.D a g b):(y.sh 2 1).sm:=by
 have a:=PB.mx (PB.tq h d);have b:=rH d;rw[e]at a b;have c:=(Fm.chk0 b).1;have a:y.mx<=g.length+(1+(1+y.cnt)):=a;have c:1+(1+y.cnt)<=4096:=c;have:(y.sh 2 1).mx<=y.mx+1:=CG 1 y 2;have a:y.shp=true:=(tL (tL (Fm.chk0 b).2).2).2;exact⟨Fm.chk_i (by rw[lP];exact a) (by rw[sD];omega),by omega⟩
def ww[PB]{a:Pf}(R:TD a):JF 169 (.p1 .choice a):=by
 intro i g j M m;have p:=vA;have:=uA;have:mA=8388608:=rfl;have t:sB=qA*qA-1001*4096:=rfl;have B:M+mA*(1+a.cnt)<=sB:=m.mb;have:1+a.cnt<=65536:=m.cnt;have C:mA*(1+a.cnt)=mA+mA*a.cnt:=by rw[Nat.mul_add,Nat.mul_one]
 rw[C]at B;rw[p]at t;have D:Pre i g j M a:=m.sub (by show a.cnt<=1+a.cnt;omega) (Nat.le_refl _) (Nat.le_refl _);obtain⟨r,l,q⟩:=R _ _ _ _ D
 cases r with|er n=>exact⟨.er n,f1 [19] l,RR.good_er (Nat.succ_ne_zero n) (λh _ ⟨_,_,_,w,_⟩=>q h _ w)⟩|ok E w=>
 obtain⟨F,_,⟨U,N,G,H,V⟩,p2,W,p4⟩:=q;have un:∀{f'},a.W i g j f'->FCv E f':=λw=>G▸PB.un H (by rw[N];exact w)
 have d:E.kd≠4->∃c:RR,A 169 [fB i g j,(Pf.p1 .choice a).p] c.p/\c.Good i g j M (.p1 .choice a):=λf=>⟨.er 9,f2 [19,29] l (wD f),RR.good_er (Nat.succ_ne_zero 9) (λ_ _ ⟨_,_,_,w,_⟩=>absurd (un w).kd f)⟩
 cases E with|eq x y=>exact d (nofun)|bin k x y=>exact d (by cases k<;>exact nofun)|q k s x=>
 cases k with|ex=>exact d (nofun)|allU=>exact d (nofun)|exU=>exact d (nofun)|all=>
 have b:x.kd≠5->∃c:RR,A 169 [fB i g j,(Pf.p1 .choice a).p] c.p/\c.Good i g j M (.p1 .choice a):=λf=>⟨.er 9,f2 [19,37] l (wD f),RR.good_er (Nat.succ_ne_zero 9) (λ_ _ ⟨_,_,_,w,_⟩=>by
  cases un w with|q _ _ c=>exact absurd c.kd f)⟩
 cases x with|eq x y=>exact b (nofun)|bin k x y=>exact b (by cases k<;>exact nofun)|q k u y=>
 cases k with|all=>exact b (nofun)|allU=>exact b (nofun)|exU=>exact b (nofun)|ex=>
 have:1+(1+y.cnt)<=4096:=F.1;have:y.mx<=M+mA*a.cnt:=F.2.1;have:max s.size (max u.size y.tsz)<=qA:=F.2.2;have I:=cN s u;have o:=pL (.two true s u) (by show 1+s.size+u.size<=yA;omega);rcases fH (.two true s u)with e|e<;>rw[e]at o;rotate_left
 ·exact⟨.er 3,f3 [19,51,53] l I o,RR.good_er (Nat.succ_ne_zero 3) (λ_ _ _=>(by decide:Lm (3+1)))⟩
 have J:=chk0 e;have:(y.sh 2 1).mx<=y.mx+1:=CG 1 y 2;have O:=RD y 2 1 (by omega) (by omega) (by rw[p];omega) (by omega);have P:=tG 3 (.v 1) (.v 0);obtain⟨r,Q,K⟩:=nP (y.sh 2 1) (.n2 .app (.v 1) (.v 0)) (by rw[sD];omega) (by rw[p];omega) (by rw[BG];omega) (by decide) (by decide) (by decide);rcases K with ⟨n,rfl,K⟩|⟨rfl,Y⟩
 ·exact⟨⟨5,4,(Ty.two true s u).es,[],[qz .all s HG],w,n+1⟩,f8 [19,51,53,65,69,70,76,77] l I o O P Q (Zv .all s) (zw .ex .all (.two true s u) s),RR.good_er (Nat.succ_ne_zero n) (λh _ _=>by
   rw[K (jw m.gl h G H) ⟨rfl,by decide⟩];exact(by decide:Lm (3+1)))⟩
 have:=FI 0 (.n2 .app (.v 1) (.v 0)) (y.sh 2 1) 0;have:=QJ 0 (.n2 .app (.v 1) (.v 0)) (y.sh 2 1) 0;have:(y.sh 2 1).cnt=y.cnt:=sD 1 y 2;have:(y.sh 2 1).tsz=y.tsz:=BG 1 y 2;have:(Tm.n2 .app (.v 1) (.v 0)).mx=1:=rfl;have:(Tm.n2 .app (.v 1) (.v 0)).tsz=0:=rfl;have Z:=mP Y;generalize hz:(y.sh 2 1).put 0 (.n2 .app (.v 1) (.v 0)) 0=z at *
 refine⟨.of (.q .ex (.two true s u) (.q .all s z)) w 0,f8 [19,51,53,65,69,70,76,77] l I o O P Q (fE .all s z) (fE .ex (.two true s u) (.q .all s z)),RR.ok λ_=>⟨_,rfl,⟨?_,?_,?_,⟨.p1 .choice U _,by rw[<-N];rfl,rfl,λhc=>⟨hc,H,s,u,y,G,J,z,Z,rfl⟩,λv L=>V v L.2⟩,p2,λv L=>?_,by show w.length<=1+a.cnt;omega⟩⟩⟩
 ·show 1+(1+z.cnt)<=qA;omega
 ·show z.mx<=M+mA*(1+a.cnt);rw[C];omega
 ·show max (Ty.two true s u).size (max s.size z.tsz)<=qA;omega
 have:=W v L;show v<=M+mA*(1+a.cnt);rw[C];omega
open Go.Lg
def kw[PB](u:Bool)(i:Nat):JF 95 (.leaf u i):=by
 intro j g a M k;have:=vA;have:=k.hl;cases u
 ·by_cases h:i<a.length
  ·obtain⟨f,b⟩:∃f,a[a.length-1-i]? =some f:=⟨_,List.getElem?_eq_getElem (by omega)⟩;have c:(!fA (.ofNat i) (.ofNat (a.map Fm.c).length))=false:=by rw[NA (by simp_all)];rfl
   have o:eA (Int.ofNat (a.map Fm.c).length-1)=true/\Int.ofNat (a.map Fm.c).length-1=.ofNat (a.length-1):=by
    have e:Int.ofNat (a.map Fm.c).length-1=.ofNat (a.length-1):=by simp;omega
    grind[xA]
   have p:eA (Int.ofNat (a.length-1)-.ofNat i)=true/\Int.ofNat (a.length-1)-.ofNat i=.ofNat (a.length-1-i):=by
    have e:Int.ofNat (a.length-1)-.ofNat i=.ofNat (a.length-1-i):=by simp;omega
    grind[xA]
   have d:=k.h1 f (List.mem_of_getElem? b);exact⟨.of f [] 0,f4 [30,37,40,(41,.i f.c)] c o p (vB b Fm.c_len),RR.ok λ_=>⟨f,rfl,⟨by have:=d.1;omega,by have:=d.2.1;omega,d.2.2,⟨.leaf false i f,rfl,rfl,λl=>⟨l,h,b⟩,λv m=>m.elim⟩,List.Pairwise.nil,(λx b=>by cases b),Nat.zero_le _⟩⟩⟩
  have c:(!fA (.ofNat i) (.ofNat (a.map Fm.c).length))=true:=by rw[GA (by simp;omega)];rfl
  exact⟨.er 7,f1 [30] c,RR.good_er (Nat.succ_ne_zero 7) (λ_ _ w=>absurd w.1 h)⟩
 by_cases h:i<j.length
 ·obtain⟨f,b⟩:∃f,j[i]? =some f:=⟨_,List.getElem?_eq_getElem h⟩;have c:(!fA (.ofNat i) (.ofNat (j.map Fm.c).length))=false:=by rw[NA (by simp_all)];rfl
  have d:=k.l1 f (List.mem_of_getElem? b);exact⟨.of f [] 0,f2 [50,(56,.i f.c)] c (vB b Fm.c_len),RR.ok λ_=>⟨f,rfl,⟨by have:=d.1;omega,by have:=d.2.1;omega,d.2.2,⟨.leaf true i f,rfl,rfl,λl=>⟨l,b⟩,λv m=>m.elim⟩,List.Pairwise.nil,(λx b=>by cases b),Nat.zero_le _⟩⟩⟩
 have c:(!fA (.ofNat i) (.ofNat (j.map Fm.c).length))=true:=by rw[GA (by simp;omega)];rfl
 exact⟨.er 8,f1 [50] c,RR.good_er (Nat.succ_ne_zero 8) (λ_ _ ⟨_,w,_⟩=>absurd (List.getElem?_eq_some_iff.1 w).1 h)⟩
def yw[PB](t:Tm):JF 95 (.refl t):=by
 intro d g f M a;have:=vA;have:=a.gl;have:1+t.cnt<=65536:=a.cnt;have:t.mx<=M:=a.mx;have b:t.tsz<=qA:=a.tsz;obtain⟨e,k,q,p⟩:=XZ d g f t 1 a.g1 b;refine⟨.of (.eq t t) [] e,f2 [280,286] (GF t t) k,λc=>?_,λc _ _ w=>(p _ w.1 w.2.1 rfl).resolve_left c⟩;subst c;obtain⟨l,s,m,n⟩:=q rfl;exact⟨_,rfl,⟨by show 1+t.cnt+t.cnt<=qA;omega,by show max t.mx t.mx<=M+_;omega,by show max t.tsz t.tsz<=qA;omega,⟨.refl t,rfl,rfl,λo=>⟨o,l,by rw[m,FU n]⟩,λv r=>r.elim⟩,List.Pairwise.nil,(λx u=>by cases u),Nat.zero_le _⟩⟩
def uw[PB](k:P1){a:Pf}(z:TD a):JF 95 (.p1 k a):=by
 intro f g i M G;have:=vA;have:mA=8388608:=rfl;have B:mA*(1+a.cnt)=mA+mA*a.cnt:=by rw[Nat.mul_add,Nat.mul_one]
 have o:Pre f g i M a:=G.sub (by show a.cnt<=1+a.cnt;omega) (Nat.le_refl _) (Nat.le_refl _)
 cases k with
 |choice=>
  obtain⟨c,e,H⟩:=ww z f g i M G;exact⟨c,f1 [297] e,H⟩
 |andL=>
  obtain⟨r,e,q⟩:=z _ _ _ _ o
  cases r with|er n=>exact⟨.er n,f1 [102] e,RR.good_er (Nat.succ_ne_zero n) (λh _ ⟨_,w⟩=>q h _ w)⟩|ok j w=>
  obtain⟨l,_,⟨C,p,t,u,D⟩,p2,E,I⟩:=q;have un:∀{f'},a.W f g i f'->FCv j f':=λw=>t▸PB.un u (by rw[p];exact w)
  have b:j.kd≠2->∃c:RR,A 95 [fB f g i,(Pf.p1 .andL a).p] c.p/\c.Good f g i M (.p1 .andL a):=λd=>⟨.er 9,f2 [102,112] e (wD d),RR.good_er (Nat.succ_ne_zero 9) (λ_ _ ⟨_,w⟩=>absurd (un w).kd d)⟩
  cases j with
  |eq x y=>exact b (nofun)|q k s x=>exact b (by cases k<;>exact nofun)|bin k x y=>
   cases k with
   |imp=>exact b (nofun)|and=>
    have J:1+x.cnt+y.cnt<=4096:=l.1;have K:max x.mx y.mx<=M+mA*a.cnt:=l.2.1;have L:max x.tsz y.tsz<=qA:=l.2.2;exact⟨.of x w 0,f1 [102] e,RR.ok λ_=>⟨_,rfl,⟨by omega,by show x.mx<=M+mA*(1+a.cnt);rw[B];omega,by omega,⟨.p1 .andL C x,by rw[<-p];rfl,rfl,λF=>⟨F,u,y,t⟩,λv m=>D v m.2⟩,p2,λv m=>by have:=E v m;show v<=M+mA*(1+a.cnt);rw[B];omega,by show w.length<=1+a.cnt;omega⟩⟩⟩
 |andR=>
  obtain⟨r,e,q⟩:=z _ _ _ _ o
  cases r with|er n=>exact⟨.er n,f1 [102] e,RR.good_er (Nat.succ_ne_zero n) (λh _ ⟨_,w⟩=>q h _ w)⟩|ok j w=>
  obtain⟨l,_,⟨C,p,t,u,D⟩,p2,E,I⟩:=q;have un:∀{f'},a.W f g i f'->FCv j f':=λw=>t▸PB.un u (by rw[p];exact w)
  have b:j.kd≠2->∃c:RR,A 95 [fB f g i,(Pf.p1 .andR a).p] c.p/\c.Good f g i M (.p1 .andR a):=λd=>⟨.er 9,f2 [102,112] e (wD d),RR.good_er (Nat.succ_ne_zero 9) (λ_ _ ⟨_,w⟩=>absurd (un w).kd d)⟩
  cases j with
  |eq x y=>exact b (nofun)|q k s x=>exact b (by cases k<;>exact nofun)|bin k x y=>
   cases k with
   |imp=>exact b (nofun)|and=>
    have J:1+x.cnt+y.cnt<=4096:=l.1;have K:max x.mx y.mx<=M+mA*a.cnt:=l.2.1;have L:max x.tsz y.tsz<=qA:=l.2.2;exact⟨.of y w 0,f1 [102] e,RR.ok λ_=>⟨_,rfl,⟨by omega,by show y.mx<=M+mA*(1+a.cnt);rw[B];omega,by omega,⟨.p1 .andR C y,by rw[<-p];rfl,rfl,λF=>⟨F,u,x,t⟩,λv m=>D v m.2⟩,p2,λv m=>by have:=E v m;show v<=M+mA*(1+a.cnt);omega,by show w.length<=1+a.cnt;omega⟩⟩⟩
def bw[PB](f:Fm){a:Pf}(E:TD a):JF 95 (.impI f a):=by
 intro l g m M b;have:=vA;have:mA=8388608:=rfl;have:=b.gl;have:=b.hl;have o:M+mA*(1+f.cnt+a.cnt)<=sB:=b.mb;have:max f.tsz a.tsz<=qA:=b.tsz;have:max f.mx a.mx<=M:=b.mx;have:1+f.cnt+a.cnt<=65536:=b.cnt;have z:mA*(1+f.cnt+a.cnt)=mA+mA*f.cnt+mA*a.cnt:=by rw[Nat.mul_add,Nat.mul_add,Nat.mul_one]
 rw[z]at o;obtain⟨e,j,p,A⟩:=gR g f b.g1
 cases e with|succ n=>exact⟨.er n,f1 [132] j,RR.good_er (Nat.succ_ne_zero n) (λ_ _ ⟨⟨h,k⟩,_⟩=>(A h k).resolve_left (Nat.succ_ne_zero n))⟩|zero=>
 clear A;have s:=Fm.chk0 (p rfl).1;obtain⟨e,t,c⟩:=sR l g m 0 1
 cases e with|succ n=>exact⟨.er n,f2 [132,138] j t,RR.good_er (Nat.succ_ne_zero n) (λ_ _ _=>eR c.2)⟩|zero=>
 have d:=c.1 rfl;clear c;have B:=KU l g m f;have u:Pre l g (m++[f]) M a:=b.to (Nat.le_refl _) (by
  intro x K;rcases List.mem_append.1 K with h|h
  ·exact b.h1 x h
  simp at h;subst h;exact⟨s.1,by omega,by omega⟩) b.g1 b.gl (by simp;omega) (by show a.cnt<=1+f.cnt+a.cnt;omega) (by show a.tsz<=max f.tsz a.tsz;omega) (by show a.mx<=max f.mx a.mx;omega) (by omega)
 obtain⟨r,C,q⟩:=E _ _ _ _ u
 cases r with
 |er n=>exact⟨⟨3,0,[],[],[f.c,HG],[],n+1⟩,f5 [132,138,149,154,163] j t B C (yi .imp f),RR.good_er (Nat.succ_ne_zero n) (λh _ ⟨_,_,w,_⟩=>q (h.snoc (ED _ _ (p rfl).2)) _ w)⟩|ok i w=>
  obtain⟨c,_,⟨L,N,D,O,P⟩,p2,Q,U⟩:=q;have:=c.1;have:=c.2.1;have:=c.2.2;exact⟨.of (.bin .imp f i) w 0,f5 [132,138,149,154,163] j t B C (dR .imp f i),RR.ok λ_=>⟨_,rfl,⟨by show 1+f.cnt+i.cnt<=qA;omega,by show max f.mx i.mx<=M+mA*(1+f.cnt+a.cnt);rw[z];omega,by show max f.tsz i.tsz<=qA;omega,⟨.impI f L,by rw[<-N];rfl,by rw[<-D];rfl,λR=>⟨by rw[D];exact R,p rfl,d.2,O⟩,λv y=>P v y.2⟩,p2,λv y=>by have:=Q v y;show v<=M+mA*(1+f.cnt+a.cnt);omega,by show w.length<=1+f.cnt+a.cnt;omega⟩⟩⟩
def dw[PB]{a:List Fm}{g:List Ty}{b:List Fm}{c:Jt}{k:FB}{x y:Fm}(d:g.length<=1024)(h:Hq a g b)(e:c.f=.bin k x y)(d:c.D a g b):x.sm:=by
 have b:=PB.mx (PB.tq h d);have a:=rH d;rw[e]at b a;have:=(Fm.chk0 a).1;exact(AN ⟨a,by omega⟩).1
def fw[PB](H:MF)(k:P2){a b:Pf}(R:TD a)(S:TD b):JF 95 (.p2 k a b):=by
 intro l g m M o;have hm:=vA;have:=uA;have:mA=8388608:=rfl;have U:sB=qA*qA-1001*4096:=rfl;have V:M+mA*(1+a.cnt+b.cnt)<=sB:=o.mb;have:1+a.cnt+b.cnt<=65536:=o.cnt;have G:mA*(1+a.cnt+b.cnt)=mA+mA*a.cnt+mA*b.cnt:=by rw[Nat.mul_add,Nat.mul_add,Nat.mul_one]
 rw[G]at V;rw[hm]at U;have I:Pre l g m M a:=o.sub (by show a.cnt<=1+a.cnt+b.cnt;omega) (by show a.tsz<=max a.tsz b.tsz;omega) (by show a.mx<=max a.mx b.mx;omega);have J:Pre l g m M b:=o.sub (by show b.cnt<=1+a.cnt+b.cnt;omega) (by show b.tsz<=max a.tsz b.tsz;omega) (by show b.mx<=max a.mx b.mx;omega)
 cases k with
 |exE=>
  obtain⟨c,i,j⟩:=qi H false R S l g m M o;exact⟨c,f1 [250] i,j⟩
 |exUE=>
  obtain⟨c,i,j⟩:=qi H true R S l g m M o;exact⟨c,f1 [250] i,j⟩
 |andI=>
  obtain⟨r,i,q⟩:=R _ _ _ _ I
  cases r with|er n=>exact⟨.er n,f1 [66] i,RR.good_er (Nat.succ_ne_zero n) (λh _ ⟨_,_,w,_⟩=>q h _ w)⟩|ok f w=>
  obtain⟨p,_,⟨W,K,C,D,X⟩,p2,E,p4⟩:=q;have un:∀{f'},a.W l g m f'->FCv f f':=λw=>C▸PB.un D (by rw[K];exact w)
  obtain⟨r,j,q⟩:=S _ _ _ _ J
  cases r with
  |er n=>
   obtain⟨t,L,_⟩:=H.union w [] (by simp;omega) (λz d=>by have:=E z d;omega) (λz d=>by cases d);exact⟨⟨2,0,[],[],[f.c,HG],t,n+1⟩,f4 [66,79,86,91] i j (yi .and f) L,RR.good_er (Nat.succ_ne_zero n) (λh _ ⟨_,_,_,w,_⟩=>q h _ w)⟩
  |ok fb v=>
   obtain⟨u,_,⟨Y,T,N,F,Z⟩,s2,O,s4⟩:=q;obtain⟨t,L,t1,t2,t3,tA⟩:=H.union w v (by omega) (λz d=>by have:=E z d;omega) (λz d=>by have:=O z d;omega);have e1:=p.1;have e2:=p.2.1;have e3:=p.2.2;have d1:=u.1;have d2:=u.2.1;have d3:=u.2.2;refine⟨.of (.bin .and f fb) t 0,f4 [66,79,86,91] i j (dR .and f fb) L,RR.ok λ_=>⟨_,rfl,⟨by show 1+f.cnt+fb.cnt<=qA;omega,by show max f.mx fb.mx<=M+mA*(1+a.cnt+b.cnt);rw[G];omega,by show max f.tsz fb.tsz<=qA;omega,⟨.p2 .andI W Y (.bin .and f fb),by rw[<-K,<-T];rfl,rfl,λhc=>⟨hc,D,F,by rw[C,N]⟩,λz d=>?_⟩,tA,λz d=>?_,by show t.length<=1+a.cnt+b.cnt;omega⟩⟩⟩
   ·rcases d.2 with h|h
    ·exact t1 z (.inl (X z h))
    exact t1 z (.inr (Z z h))
   show z<=M+mA*(1+a.cnt+b.cnt);rw[G];rcases t2 z d with h|h
   ·have:=E z h;omega
   have:=O z h;omega
 |impE=>
  obtain⟨r,i,q⟩:=R _ _ _ _ I
  cases r with|er n=>exact⟨.er n,f1 [175] i,RR.good_er (Nat.succ_ne_zero n) (λh _ ⟨_,w,_⟩=>q h _ w)⟩|ok f w=>
  obtain⟨p,_,⟨W,K,C,D,X⟩,p2,E,p4⟩:=q;have un:∀{f'},a.W l g m f'->FCv f f':=λw=>C▸PB.un D (by rw[K];exact w)
  have B:f.kd≠3->∃c:RR,A 95 [fB l g m,(Pf.p2 .impE a b).p] c.p/\c.Good l g m M (.p2 .impE a b):=λP=>⟨.er 9,f2 [175,185] i (wD P),RR.good_er (Nat.succ_ne_zero 9) (λ_ _ ⟨_,w,_⟩=>absurd (un w).kd P)⟩
  cases f with|eq x y=>exact B (nofun)|q k s x=>exact B (by cases k<;>exact nofun)|bin k x y=>
  cases k with|and=>exact B (nofun)|imp=>
  have e1:1+x.cnt+y.cnt<=4096:=p.1;have e2:max x.mx y.mx<=M+mA*a.cnt:=p.2.1;have e3:max x.tsz y.tsz<=qA:=p.2.2;obtain⟨r,j,q⟩:=S _ _ _ _ J
  cases r with
  |er n=>exact⟨.er n,f2 [175,193] i j,RR.good_er (Nat.succ_ne_zero n) (λh _ ⟨_,_,w⟩=>q h _ w)⟩|ok fb v=>
   obtain⟨u,_,⟨Y,T,N,F,Z⟩,s2,O,s4⟩:=q;have d1:=u.1;have d2:=u.2.1;have d3:=u.2.2;obtain⟨t,L,t1,t2,t3,tA⟩:=H.union w v (by omega) (λz d=>by have:=E z d;omega) (λz d=>by have:=O z d;omega);have hgl:=o.gl;obtain⟨e,g4,g5,g6⟩:=IZ x fb (by omega) (by omega) (by omega) (by omega) (by omega) d3;refine⟨.of y t e,f4 [175,193,209,217] i j L g4,λQ=>?_,λQ h f' ⟨_,w,w'⟩=>?_⟩;rotate_left
   ·refine(g6 ?_ (dw hgl h C D) ?_).resolve_left Q
    ·cases un w with|bin _ c _=>exact PB.ft c (FCv.symm (N▸PB.un F (by rw[T];exact w')))
    have h1:=PB.mx (PB.tq h F);have h2:=rH F;rw[N]at h1 h2;exact⟨h2,by omega⟩
   have Q:e=0:=Q;subst Q;clear g6;refine⟨_,rfl,⟨by omega,by show y.mx<=M+mA*(1+a.cnt+b.cnt);rw[G];omega,by omega,⟨.p2 .impE W Y y,by rw[<-K,<-T];rfl,rfl,λhc=>⟨hc,D,F,x,C,by rw[N];exact g5 rfl⟩,λz d=>?_⟩,tA,λz d=>?_,by show t.length<=1+a.cnt+b.cnt;omega⟩⟩
   ·rcases d.2 with h|h
    ·exact t1 z (.inl (X z h))
    exact t1 z (.inr (Z z h))
   show z<=M+mA*(1+a.cnt+b.cnt);rw[G];rcases t2 z d with h|h
   ·have:=E z h;omega
   have:=O z h;omega
def KF[PB](H:MF):∀p:Pf,TD p
 |.leaf u i=>JI (kw u i)|.refl t=>JI (yw t)|.p1 k a=>JI (uw k (KF H a))|.p2 k a b=>JI (fw H k (KF H a) (KF H b))|.impI f a=>JI (bw f (KF H a))|.all u s a=>JI λh g j M m=>by
  obtain⟨c,d,e⟩:=Rv u s (KF H a) h g j M m;cases u<;>exact⟨c,f1 [223] d,e⟩
 |.ins u t a=>JI λh g j M m=>by
  obtain⟨c,d,e⟩:=Sv H u t (KF H a) h g j M m;cases u<;>exact⟨c,f1 [232] d,e⟩
 |.ex u f t a=>JI λh g j M m=>by
  obtain⟨c,d,e⟩:=Tv H u f t (KF H a) h g j M m;cases u<;>exact⟨c,f1 [241] d,e⟩
 |.ind l f t a b=>JI λh g j M m=>by
  cases l
  ·obtain⟨c,d,e⟩:=Xv H f t (KF H a) (KF H b) h g j M m;exact⟨c,f1 [258] d,e⟩
  obtain⟨c,d,e⟩:=Yv H f t (KF H a) (KF H b) h g j M m;exact⟨c,f1 [266] d,e⟩
 |.subst f a b=>JI λh g j M m=>by
  obtain⟨c,d,e⟩:=Vv f (KF H a) (KF H b) h g j M m;exact⟨c,f1 [291] d,e⟩
def LF:∀t:Ty,A 178 [t.p] t.p|.nat=>f0 []|.list=>f0 []|.unit=>f0 []|.two k a b=>f2 [19,19] (LF a) (LF b)
def uD:A 178 [zt] zt:=f0 []
def iR(a b:Ty):A 179 [a.p,b.p] (.bool (a.same b)):=by
 induction a generalizing b with
 |two k a b f g=>cases b with
  |two l c d=>
   have f:=f c;have g:=g d;show A 179 [(Ty.two k a b).p,(Ty.two l c d).p] (.bool ((k==l)&&(a.same c&&b.same d)));generalize a.same c=p at *
   generalize b.same d=q at *
   by_cases e:k=l
   ·subst e;cases p
    ·cases k<;>exact f1 [35] f
    cases q
    ·cases k<;>exact f2 [35,35] f g
    cases k<;>exact f2 [35,35] f g
   cases k<;>cases l<;>first|exact absurd rfl e|exact f0 []
  |_=>cases k<;>exact f0 []
 |_=>cases b with
  |two l c d=>cases l<;>exact f0 []
  |_=>exact f0 []
def UU:∀t:Ty,t.size<=yA->A 286 [t.p] (.tuple [num t.size,.bool true])
 |.nat,_=>f0 []|.list,_=>f0 []|.unit,_=>f0 []|.two k a b,h=>by
  have h:1+a.size+b.size<=yA:=h;have c:=UU a (by omega);have d:=UU b (by omega);have e:eA (.ofNat (1+a.size))=true:=rB (by omega);cases k<;>exact f4 [33,(40,.ok),33,(40,.ok)] c e d (rB h)
def OF(n m:Nat):Nat:=match fA (.ofNat m) (.ofNat n)with|true=>0|false=>n
def sH(n m:Nat):Nat:=match fA (.ofNat m) (.ofNat n)with|true=>4|false=>0
theorem VJ{n m:Nat}(h:n<=m):OF n m=n/\sH n m=0:=by
 have e:fA (.ofNat m) (.ofNat n)=false:=GA h
 grind[OF,sH]
theorem lw{n m:Nat}(h:m<n):OF n m=0/\sH n m=4:=by
 have e:fA (.ofNat m) (.ofNat n)=true:=NA h
 grind[OF,sH]
def ui(n m:Nat):(n<=m/\OF n m=n/\sH n m=0)\/(m<n/\OF n m=0/\sH n m=4):=by
 grind[VJ,lw]
def ckE_0{n m:Nat}:sH n m=0↔n<=m:=by
 rcases ui n m with ⟨h,_,e⟩|⟨h,_,e⟩<;>rw[e]<;>simp<;>omega
def CN(t:Ty)(h:t.size<=yA:=by omega):A 215 [t.p] (.tuple [num (OF t.size 64),num (sH t.size 64)]):=by
 unfold OF sH;cases e:fA (.ofNat 64) (.ofNat t.size)
 ·exact f2 [8,16] (UU t h) e
 exact f2 [8,16] (UU t h) e
def za(t:Ty)(h:t.size<=yA:=by omega):A 235 [t.p] (num (sH t.size 64)):=f1 [7] (CN t h)
def FD:A 216 [zt] (.bool true):=f0 []
open Go.Lg
def Tm.nd(t:Tm):Nat:=match t.shp with|true=>t.cnt|false=>0
def LI(s:Ty):s.chk=sH s.size 64:=rfl
def MI:∀t:Tm,t.tsz<=yA->t.cnt<=yA->A 240 [t.p] (.tuple [num t.nd,.bool t.shp])
 |.v i,_,_=>by cases i<;>exact f0 []
 |.n0 k,_,_=>by cases k<;>exact f0 []
 |.lam s b,h,f=>by
  have h:max s.size b.tsz<=yA:=h;have f:1+b.cnt<=yA:=f;have g:=CN s;have d:=MI b (by omega) (by omega);unfold Tm.nd at *
  unfold Tm.shp;rcases fH s with e|e<;>rw[LI]at e<;>rw[e]at g<;>rw[LI,e]
  ·cases l:b.shp<;>rw[l]at d
   ·exact f2 [49,67] g d
   exact f3 [49,67,(74,.ok)] g d (rB f)
  exact f1 [49] g
 |.n1 k a,h,f=>by
  have f:1+a.cnt<=yA:=f;have d:=MI a h (by omega);unfold Tm.nd at *
  show A 240 [(Tm.n1 k a).p] (.tuple [num (match a.shp with|true=>1+a.cnt|false=>0),.bool a.shp]);cases l:a.shp<;>rw[l]at d
  ·cases k<;>exact f1 [67] d
  cases k<;>exact f2 [67,(74,.ok)] d (rB f)
 |.n2 k a b,h,f=>by
  have h:max a.tsz b.tsz<=yA:=h;have f:1+a.cnt+b.cnt<=yA:=f;have g:=MI a (by omega) (by omega);have d:=MI b (by omega) (by omega);have j:eA (.ofNat (1+a.cnt))=true:=rB (by omega);unfold Tm.nd at *
  show A 240 [(Tm.n2 k a b).p] (.tuple [num (match a.shp&&b.shp with|true=>1+a.cnt+b.cnt|false=>0),.bool (a.shp&&b.shp)]);cases o:a.shp<;>rw[o]at g
  ·cases k<;>exact f1 [67] g
  cases l:b.shp<;>rw[l]at d
  ·cases k<;>exact f3 [67,(74,.ok),67] g j d
  cases k<;>exact f4 [67,(74,.ok),67,(74,.ok)] g j d (rB f)
 |.n3 k s a b c,h,f=>by
  have h:max (max s.size a.tsz) (max b.tsz c.tsz)<=yA:=h;have f:1+a.cnt+b.cnt+c.cnt<=yA:=f;have m:=CN s;have g:=MI a (by omega) (by omega);have d:=MI b (by omega) (by omega);have p:=MI c (by omega) (by omega);have j:eA (.ofNat (1+a.cnt))=true:=rB (by omega);have n:eA (.ofNat (1+a.cnt+b.cnt))=true:=rB (by omega);unfold Tm.nd at *
  unfold Tm.shp;rcases fH s with e|e<;>rw[LI]at e<;>rw[e]at m<;>rw[LI,e]
  ·cases o:a.shp<;>rw[o]at g
   ·cases k<;>exact f2 [49,67] m g
   cases l:b.shp<;>rw[l]at d
   ·cases k<;>exact f4 [49,67,(74,.ok),67] m g j d
   cases r:c.shp<;>rw[r]at p
   ·cases k<;>exact f6 [49,67,(74,.ok),67,(74,.ok),67] m g j d n p
   cases k<;>exact f7 [49,67,(74,.ok),67,(74,.ok),67,(74,.ok)] m g j d n p (rB f)
  cases k<;>exact f1 [49] m
def Tm.ckn(t:Tm):Nat:=match t.chk with|0=>t.cnt|_=>0
theorem oR(t:Tm)(c:t.tsz<=yA)(d:t.cnt<=yA):A 181 [t.p] (.tuple [num t.ckn,num t.chk]):=by
 have a:=MI t c d;unfold Tm.nd at a;unfold Tm.ckn Tm.chk;cases e:t.shp<;>rw[e]at a
 ·exact f1 [8] a
 cases b:fA (.ofNat 4096) (.ofNat t.cnt)
 ·exact f2 [8,16] a b
 exact f2 [8,16] a b
def a297(t:Tm)(a:t.tsz<=yA)(b:t.cnt<=yA):A 359 [t.p] (.tuple [num t.ckn,num t.chk]):=f1 [5] (oR t a b)
def a92(t:Tm)(a:t.tsz<=yA:=by omega)(b:t.cnt<=yA:=by omega):A 105 [t.p] (num t.chk):=f1 [7] (oR t a b)
theorem Tm.chk0{t:Tm}(h:t.chk=0):t.cnt<=4096/\t.shp=true:=by
 grind[Tm.chk,fA,WB]
theorem Tm.ckn0{t:Tm}(h:t.chk=0):t.ckn=t.cnt:=by unfold Tm.ckn;split<;>simp_all
def tH:A 179 [.agg [num 0,.slice []],.agg [num 0,.slice []]] (.bool true):=f0 []
def rP{a:Tm}(H:∀b:Tm,a.kd=b.kd->∃r,A 380 [a.p,b.p] (.bool r)/\(r=true↔a=b))(b:Tm):∃r,A 380 [a.p,b.p] (.bool r)/\(r=true↔a=b):=by
 by_cases h:a.kd=b.kd
 ·exact H b h
 exact⟨false,f1 [11] (wD h),ff λe=>h (by rw[e])⟩
def NI:∀a b:Tm,∃r,A 380 [a.p,b.p] (.bool r)/\(r=true↔a=b)
 |.v i=>rP λb h=>by
  cases b with
  |v j=>
   by_cases e:i=j
   ·subst e;exact⟨true,f2 [17,24] (IB i) tH,by simp_all⟩
   exact⟨false,f1 [17] (wD e),by simp_all⟩
  |_=>have:=congrArg aG h;rw[CC,CC]at this;cases this
 |.n0 k=>rP λb h=>by
  cases b with
  |n0 l=>cases K0.inj h;exact⟨true,f2 [11,24] (IB k.n) tH,by simp_all⟩
  |_=>have:=congrArg aG h;rw[CC,CC]at this;cases this
 |.lam s a=>rP λb h=>by
  cases b with
  |lam u b=>
   have o:=iR s u;have t:=CD s u;cases e:s.same u<;>rw[e]at o t
   ·exact⟨false,f1 [24] o,by simp_all⟩
   obtain⟨r,g,w⟩:=NI a b;cases r
   ·exact⟨false,f2 [24,50] o g,by simp_all⟩
   exact⟨true,f2 [24,50] o g,by simp_all⟩
  |_=>have:=congrArg aG h;rw[CC,CC]at this;cases this
 |.n1 k a=>rP λb h=>by
  cases b with
  |n1 l b=>
   cases K1.inj h;obtain⟨r,g,w⟩:=NI a b;cases r
   ·exact⟨false,f3 [11,24,50] (IB k.n) tH g,by simp_all⟩
   exact⟨true,f3 [11,24,50] (IB k.n) tH g,by simp_all⟩
  |_=>have:=congrArg aG h;rw[CC,CC]at this;cases this
 |.n2 k a c=>rP λb h=>by
  cases b with
  |n2 l b d=>
   cases K2.inj h;obtain⟨r,g,w⟩:=NI a b;obtain⟨q,m,y⟩:=NI c d;cases r
   ·exact⟨false,f3 [11,24,50] (IB k.n) tH g,by simp_all⟩
   cases q
   ·exact⟨false,f4 [11,24,50,50] (IB k.n) tH g m,by simp_all⟩
   exact⟨true,f4 [11,24,50,50] (IB k.n) tH g m,by simp_all⟩
  |_=>have:=congrArg aG h;rw[CC,CC]at this;cases this
 |.n3 k s a c e=>rP λb h=>by
  cases b with
  |n3 l u b d f=>
   cases K3.inj h;have n:=iR s u;have t:=CD s u;obtain⟨r,g,w⟩:=NI a b;obtain⟨q,m,y⟩:=NI c d;obtain⟨p,x,B⟩:=NI e f;cases z:s.same u<;>rw[z]at n t
   ·exact⟨false,f2 [11,24] (IB k.n) n,by simp_all⟩
   cases r
   ·exact⟨false,f3 [11,24,50] (IB k.n) n g,by simp_all⟩
   cases q
   ·exact⟨false,f4 [11,24,50,50] (IB k.n) n g m,by simp_all⟩
   cases p
   ·exact⟨false,f5 [11,24,50,50,50] (IB k.n) n g m x,by simp_all⟩
   exact⟨true,f5 [11,24,50,50,50] (IB k.n) n g m x,by simp_all⟩
  |_=>have:=congrArg aG h;rw[CC,CC]at this;cases this
def bi(a b:Tm):∃r,A 383 [a.p,b.p] (.bool r)/\(r=true↔a=b):=by
 obtain⟨r,h,q⟩:=NI a b;exact⟨r,f1 [7] h,q⟩
abbrev YA(s:Ty):List PV:=[num s.kd,.slice s.es,num (OF s.size 64)]
abbrev JB(g:List Ty):PV:=.slice (g.map YA)
def VU(s:Ty):(YA s).length=3:=rfl
def TR.nn:TR->Nat|.er _=>0|.ok s=>OF s.size 64
def TR.q(r:TR):PV:=.tuple [.agg [num r.k,.slice r.l,num r.nn],num r.n]
def UD(s:Ty)(h:s.size<=yA:=by omega):A 236 [s.p] (.agg (YA s)):=f1 [7] (CN s h)
def va(s u:Ty):∃r,A 296 [.agg (YA s),.agg (YA u)] (.bool r)/\r=s.same u:=by
 cases e:mB (.ofNat (OF s.size 64)) (.ofNat (OF u.size 64))
 ·refine⟨false,f1 [9] e,?_⟩
  cases h:s.same u with|false=>rfl|true=>rw[(CD s u).1 h,VH]at e;cases e
 exact⟨s.same u,f2 [9,15] e (iR s u),rfl⟩
def di(k:Bool)(s u:Ty)(c:s.size<=64)(d:u.size<=64):∃r:TR,A 237 [num (bn k 3 4),.agg (YA s),.agg (YA u)] r.q/\r.sz<=64/\r=.fit (.two k s u):=by
 have f:=(VJ c).1;have g:=(VJ d).1;unfold YA;rw[f,g];have:=uA;have a:eA (.ofNat (1+s.size))=true:=rB (by omega);have b:eA (.ofNat (1+s.size+u.size))=true:=rB (by omega);by_cases h:1+s.size+u.size<=64
 ·have e:fA (.ofNat 64) (.ofNat (1+s.size+u.size))=false:=GA h;have i:OF (1+s.size+u.size) 64=1+s.size+u.size:=(VJ h).1;have j:(TR.ok (.two k s u)).q=.tuple [.agg [num (bn k 3 4),.slice [s.c,u.c],num (1+s.size+u.size)],num 0]:=by
   show PV.tuple [.agg [num (Ty.two k s u).kd,.slice [s.c,u.c],num (OF (1+s.size+u.size) 64)],num 0]=_;rw[i];cases k<;>rfl
  refine⟨.ok (.two k s u),?_,h,by unfold TR.fit;rw[if_pos (show(Ty.two k s u).size<=64 from h)]⟩;rw[j];exact f3 [(11,.ok),(14,.ok),16] a b e
 have e:fA (.ofNat 64) (.ofNat (1+s.size+u.size))=true:=NA (by omega);exact⟨.er 3,f3 [(11,.ok),(14,.ok),16] a b e,Nat.zero_le _,by unfold TR.fit;rw[if_neg (show¬(Ty.two k s u).size<=64 from h)]⟩
abbrev sP:List PV:=[num 0,.slice [],num 0]
def mw(k:K0):∃r:TR,A 238 [(Tm.n0 k).p,.agg (sP++sP++sP)] r.q/\r.sz<=64/\r=(Tm.n0 k).tyR []:=by
 cases k
 ·exact⟨.ok .nat,f1 [37] (UD .nat (by decide)),by decide,rfl⟩
 ·exact⟨.ok .list,f1 [37] (UD .list (by decide)),by decide,rfl⟩
 exact⟨.ok .unit,f1 [37] (UD .unit (by decide)),by decide,rfl⟩
def pw(k:K1)(a:Tm)(s:Ty)(h:s.size<=64):∃r:TR,A 238 [(Tm.n1 k a).p,.agg (YA s++sP++sP)] r.q/\r.sz<=64/\r=eG k (.ok s):=by
 have:=uA;cases k
 ·cases s with
  |nat=>exact⟨.ok .nat,f1 [37] (UD .nat (by decide)),by decide,rfl⟩|two k s u=>cases k<;>exact⟨.er 6,f0 [],Nat.zero_le _,rfl⟩
  |_=>exact⟨.er 6,f0 [],Nat.zero_le _,rfl⟩
 ·cases s with
  |two k s u=>
   have h:1+s.size+u.size<=64:=h;cases k
   ·exact⟨.ok s,f1 [(110,.n [(11,.r (.agg (YA s)))])] (UD s),by show s.size<=64;omega,rfl⟩
   exact⟨.er 6,f0 [],Nat.zero_le _,rfl⟩
  |_=>exact⟨.er 6,f0 [],Nat.zero_le _,rfl⟩
 cases s with
 |two k s u=>
  have h:1+s.size+u.size<=64:=h;cases k
  ·exact⟨.ok u,f1 [(113,.n [(11,.r (.agg (YA u)))])] (UD u),by show u.size<=64;omega,rfl⟩
  exact⟨.er 6,f0 [],Nat.zero_le _,rfl⟩
 |_=>exact⟨.er 6,f0 [],Nat.zero_le _,rfl⟩
def tw(k:K2)(a b:Tm)(s v:Ty)(h:s.size<=64)(f:v.size<=64):∃r:TR,A 238 [(Tm.n2 k a b).p,.agg (YA s++YA v++sP)] r.q/\r.sz<=64/\r=DD k (.ok s) (.ok v):=by
 have:=uA;cases k
 ·cases s with
  |two k s u=>
   have h:1+s.size+u.size<=64:=h;cases k
   ·exact⟨.er 6,f0 [],Nat.zero_le _,rfl⟩
   obtain⟨b,g,c⟩:=va s v;cases b
   ·exact⟨.er 6,f2 [(49,.n [(11,.r (.agg (YA s)))]),52] (UD s) g,Nat.zero_le _,by show _=bif s.same v then _ else _;rw[<-c];rfl⟩
   exact⟨.ok u,f3 [(49,.n [(11,.r (.agg (YA s)))]),52,(58,.n [(11,.r (.agg (YA u)))])] (UD s) g (UD u),by show u.size<=64;omega,by show _=bif s.same v then _ else _;rw[<-c];rfl⟩
  |_=>exact⟨.er 6,f0 [],Nat.zero_le _,rfl⟩
 ·cases s with
  |nat=>cases v with
   |list=>exact⟨.ok .list,f1 [37] (UD .list (by decide)),by decide,rfl⟩|two k s u=>cases k<;>exact⟨.er 6,f0 [],Nat.zero_le _,rfl⟩
   |_=>exact⟨.er 6,f0 [],Nat.zero_le _,rfl⟩
  |two k s u=>cases k<;>exact⟨.er 6,f0 [],Nat.zero_le _,rfl⟩
  |_=>exact⟨.er 6,f0 [],Nat.zero_le _,rfl⟩
 obtain⟨r,g,d,e⟩:=di false s v h f
 cases r with|er n=>exact⟨.er n,f1 [97] g,d,e⟩|ok w=>exact⟨.ok w,f1 [97] g,d,e⟩
def mF:K3->Ty->Ty|.re,s=>.two true .nat (.two true s s)|.fo,s=>.two true .nat (.two true .list (.two true s s))
def aw(k:K3)(s:Ty)(a b c:Tm):A 297 [(Tm.n3 k s a b c).p] (mF k s).p:=by
 cases k<;>exact f0 []
def cw(k:K3)(z:Ty)(a b c:Tm)(s v w:Ty)(h:z.size<=64):∃r:TR,A 238 [(Tm.n3 k z a b c).p,.agg (YA s++YA v++YA w)] r.q/\r.sz<=64/\r=xB k z (.ok s) (.ok v) (.ok w):=by
 have:=uA;have d:=UD z;obtain⟨m,f,g⟩:=va s z;have j:=aw k z a b c;have i:=iR v (mF k z);cases m
 ·cases k<;>exact⟨.er 6,f2 [64,71] d f,Nat.zero_le _,by simp only[xB,<-g,cond_false]⟩
 cases e:v.same (mF k z)<;>rw[e]at i
 ·cases k
  ·exact⟨.er 6,f4 [64,71,78,79] d f j i,Nat.zero_le _,by simp only[mF]at e;simp only[xB,<-g,e,cond_false,cond_true]⟩
  exact⟨.er 6,f4 [64,71,78,79] d f j i,Nat.zero_le _,by simp only[mF]at e;simp only[xB,<-g,e,cond_false,cond_true]⟩
 have key:(∃r:TR,A 238 [(Tm.n3 k z a b c).p,.agg (YA s++YA v++YA w)] r.q/\r.sz<=64/\r=xB k z (.ok s) (.ok v) (.ok w)):=by
  cases w with
  |two l o p=>
   cases l<;>cases k
   ·exact⟨.er 6,f4 [64,71,78,79] d f j i,Nat.zero_le _,by simp only[mF]at e;simp only[xB,<-g,e,cond_true];rfl⟩
   ·exact⟨.er 6,f4 [64,71,78,79] d f j i,Nat.zero_le _,by simp only[mF]at e;simp only[xB,<-g,e,cond_true];rfl⟩
   ·exact⟨.er 6,f4 [64,71,78,79] d f j i,Nat.zero_le _,by simp only[mF]at e;simp only[xB,<-g,e,cond_true];rfl⟩
   exact⟨.er 6,f4 [64,71,78,79] d f j i,Nat.zero_le _,by simp only[mF]at e;simp only[xB,<-g,e,cond_true];rfl⟩
  |nat=>
    cases k
    ·exact⟨.ok z,f4 [64,71,78,79] d f j i,h,by simp only[mF]at e;simp only[xB,<-g,e,cond_true];rfl⟩
    exact⟨.er 6,f4 [64,71,78,79] d f j i,Nat.zero_le _,by simp only[mF]at e;simp only[xB,<-g,e,cond_true];rfl⟩
  |list=>
    cases k
    ·exact⟨.er 6,f4 [64,71,78,79] d f j i,Nat.zero_le _,by simp only[mF]at e;simp only[xB,<-g,e,cond_true];rfl⟩
    exact⟨.ok z,f4 [64,71,78,79] d f j i,h,by simp only[mF]at e;simp only[xB,<-g,e,cond_true];rfl⟩
  |unit=>
   cases k
   ·exact⟨.er 6,f4 [64,71,78,79] d f j i,Nat.zero_le _,by simp only[mF]at e;simp only[xB,<-g,e,cond_true];rfl⟩
   exact⟨.er 6,f4 [64,71,78,79] d f j i,Nat.zero_le _,by simp only[mF]at e;simp only[xB,<-g,e,cond_true];rfl⟩
 exact key
open Go.Lg
def Tm.sc:Nat->Tm->Prop|n,.v i=>i<n|n,.lam _ b=>b.sc (n+1)|_,.n0 _=>True|n,.n1 _ a=>a.sc n|n,.n2 _ a b=>a.sc n/\b.sc n|n,.n3 _ _ a b d=>a.sc n/\b.sc n/\d.sc n
def aD{s:Ty}(h:Nat.beq s.chk 0=true):s.size<=64:=ckE_0.1 (Nat.eq_of_beq_eq_true h)
abbrev ya(g:List Ty)(t:Tm)(r:TR):Prop:=A 177 [JB g,t.p] r.q/\r.sz<=64/\(∀s,r=.ok s->t.sc g.length)/\r=t.tyR g
def oL{g:List Ty}{t:Tm}{n:Nat}(h:A 177 [JB g,t.p] (TR.er n).q)(e:TR.er n=t.tyR g):∃r:TR,ya g t r:=⟨.er n,h,Nat.zero_le _,(λ_ h=>nomatch h),e⟩
def tP{g:List Ty}{t:Tm}{r:TR}(h:t.sc g.length)(a:A 177 [JB g,t.p] r.q)(b:r.sz<=64)(e:r=t.tyR g):∃r:TR,ya g t r:=⟨r,a,b,λ_ _=>h,e⟩
def WJ:∀(t:Tm)(g:List Ty),(∀s∈g,s.size<=64)->t.shp=true->g.length+t.cnt<=qA->∃r:TR,ya g t r
 |.v i,g,m,_,l=>by
  have L:=vA;by_cases h:i<g.length
  ·obtain⟨s,E⟩:∃s,g[g.length-1-i]? =some s:=⟨_,List.getElem?_eq_getElem (by omega)⟩;have F:(!fA (.ofNat i) (.ofNat (g.map YA).length))=false:=by rw[NA (by simp_all)];rfl
   have M:eA (Int.ofNat (g.map YA).length-1)=true/\Int.ofNat (g.map YA).length-1=.ofNat (g.length-1):=by
    have e:Int.ofNat (g.map YA).length-1=.ofNat (g.length-1):=by simp;omega
    grind[xA]
   have N:eA (Int.ofNat (g.length-1)-.ofNat i)=true/\Int.ofNat (g.length-1)-.ofNat i=.ofNat (g.length-1-i):=by
    have e:Int.ofNat (g.length-1)-.ofNat i=.ofNat (g.length-1-i):=by simp;omega
    grind[xA]
   exact tP (r:=.ok s) h (f4 [21,26,29,(30,.i (YA s))] F M N (vB E VU)) (m s (List.mem_of_getElem? E)) (by show _=cB g i;unfold cB;rw[if_pos h,E])
  have F:(!fA (.ofNat i) (.ofNat (g.map YA).length))=true:=by rw[GA (by simp_all)];rfl
  exact oL (n:=5) (f1 [21] F) (by show _=cB g i;unfold cB;rw[if_neg h])
 |.lam s b,g,m,o,l=>by
  have L:=vA;have:=uA;have l:g.length+(1+b.cnt)<=qA:=l;obtain⟨p,x⟩:=DA o;have O:=aD p;have J:=iG (g.map YA).length;have K:=EF 3 40 VU (by decide) g s (by omega) (by simp only[maxLen];omega);obtain⟨r,d,C,B,j⟩:=WJ b (g++[s]) (λu Q=>by grind) x (by simp;omega);rw[show JB (g++[s])=.slice (g.map YA++[YA s]) by simp[JB]]at d
  cases r with
  |er n=>exact oL (n:=n) (f4 [37,(44,.ok),(47,.ok),52] (UD s) J K d) (by show _=xI s (b.tyR (g++[s]));rw[<-j];rfl)|ok u=>
   have f:(Tm.lam s b).sc g.length:=by have:=B u rfl;grind[Tm.sc]
   obtain⟨r,y,z,A⟩:=di true s u O C;exact tP f (f5 [37,(44,.ok),(47,.ok),52,61] (UD s) J K d y) z (by show _=xI s (b.tyR (g++[s]));rw[<-j];exact A)
 |.n0 k,g,m,o,l=>by
  obtain⟨r,y,z,A⟩:=mw k;cases k<;>exact tP trivial (f1 [88] y) z A
 |.n1 k a,g,m,o,l=>by
  have l:g.length+(1+a.cnt)<=qA:=l;obtain⟨r,d,C,B,j⟩:=WJ a g m o (by omega)
  cases r with
  |er n=>cases k<;>exact oL (n:=n) (f1 [75] d) (by show _=eG _ (a.tyR g);rw[<-j];rfl)
  |ok u=>
   have f:(Tm.n1 k a).sc g.length:=B u rfl;obtain⟨r,y,z,A⟩:=pw k a u C;cases k<;>exact tP f (f2 [75,88] d y) z (by show _=eG _ (a.tyR g);rw[<-j];exact A)
 |.n2 k a b,g,m,o,l=>by
  have l:g.length+(1+a.cnt+b.cnt)<=qA:=l;obtain⟨p,x⟩:=DA o;obtain⟨r,d,C,B,j⟩:=WJ a g m p (by omega)
  cases r with
  |er n=>cases k<;>exact oL (n:=n) (f1 [75] d) (by show _=DD _ (a.tyR g) (b.tyR g);rw[<-j];rfl)
  |ok u=>
   obtain⟨r,p1,p2,G,D⟩:=WJ b g m x (by omega)
   cases r with
   |er n=>cases k<;>exact oL (n:=n) (f2 [75,75] d p1) (by show _=DD _ (a.tyR g) (b.tyR g);rw[<-j,<-D];rfl)
   |ok v=>
    have f:(Tm.n2 k a b).sc g.length:=⟨B u rfl,G v rfl⟩;obtain⟨r,y,z,A⟩:=tw k a b u v C p2;cases k<;>exact tP f (f3 [75,75,88] d p1 y) z (by show _=DD _ (a.tyR g) (b.tyR g);rw[<-j,<-D];exact A)
 |.n3 k s a b c,g,m,o,l=>by
  have l:g.length+(1+a.cnt+b.cnt+c.cnt)<=qA:=l;obtain⟨H,o⟩:=DA o;obtain⟨p,o⟩:=DA o;obtain⟨x,I⟩:=DA o;obtain⟨r,d,C,B,j⟩:=WJ a g m p (by omega)
  cases r with
  |er n=>cases k<;>exact oL (n:=n) (f1 [75] d) (by show _=xB _ s (a.tyR g) (b.tyR g) (c.tyR g);rw[<-j];rfl)
  |ok u=>
   obtain⟨r,p1,p2,G,D⟩:=WJ b g m x (by omega)
   cases r with
   |er n=>cases k<;>exact oL (n:=n) (f2 [75,75] d p1) (by show _=xB _ s (a.tyR g) (b.tyR g) (c.tyR g);rw[<-j,<-D];rfl)
   |ok v=>
    obtain⟨r,o1,o2,o3,o0⟩:=WJ c g m I (by omega)
    cases r with
    |er n=>cases k<;>exact oL (n:=n) (f3 [75,75,75] d p1 o1) (by show _=xB _ s (a.tyR g) (b.tyR g) (c.tyR g);rw[<-j,<-D,<-o0];rfl)
    |ok w=>
     have f:(Tm.n3 k s a b c).sc g.length:=⟨B u rfl,G v rfl,o3 w rfl⟩;obtain⟨r,y,z,A⟩:=cw k s a b c u v w (aD H);cases k<;>exact tP f (f4 [75,75,75,88] d p1 o1 y) z (by show _=xB _ s (a.tyR g) (b.tyR g) (c.tyR g);rw[<-j,<-D,<-o0];exact A)
def ua(g:List Ty)(t:Tm)(n:Nat)(b:∀s∈g,s.size<=64)(d:t.shp=true)(f:g.length+t.cnt<=qA):∃e,A 323 [JB g,t.p,num n] (num e)/\(e=0->t.sc g.length)/\(∀s,t.tyR g=.ok s->s.kd=n->e=0):=by
 obtain⟨r,a,k,i,j⟩:=WJ t g b d f
 cases r with
 |er e=>exact⟨e+1,f1 [12] a,(λh=>nomatch h),λs h=>by rw[<-j]at h;cases h⟩|ok s=>
  by_cases c:s.kd=n
  ·exact⟨0,f2 [12,(20,.n [(9,.G)])] a (show mB (.ofNat s.kd) (.ofNat n)=true by rw[c];exact VH n),(λ_=>i s rfl),λ_ _ _=>rfl⟩
  exact⟨7,f2 [12,(20,.n [(9,.H)])] a (dF c),(λh=>nomatch h),λu h l=>by grind⟩
def ba(g:List Ty)(t:Tm)(a:∀s∈g,s.size<=64)(b:t.shp=true)(c:g.length+t.cnt<=qA:=by omega):∃e,A 324 [JB g,t.p] (num e)/\(e=0->t.sc g.length)/\(t.tyR g=.ok .nat->e=0):=by
 obtain⟨e,d,f,i⟩:=ua g t 1 a b c;exact⟨e,f1 [7] d,f,λh=>i _ h rfl⟩
def Fm.frm:Fm->Bool|.q _ s _=>Nat.beq s.chk 0|_=>true
def da(f:Fm)(h:f.tsz<=yA):A 298 [f.p] (.bool f.frm):=by
 cases f with
 |eq a b=>exact f1 [31] FD|bin k f g=>cases k<;>exact f1 [31] FD
 |q k s f=>
  have h:max s.size f.tsz<=yA:=h;have c:=CN s;show A 298 [(Fm.q k s f).p] (.bool (Nat.beq s.chk 0));rcases fH s with e|e<;>rw[LI]at e<;>rw[e]at c<;>rw[LI,e]
  ·cases k<;>exact f1 [24] c
  cases k<;>exact f1 [24] c
def Fm.nd(f:Fm):Nat:=match f.shp with|true=>f.cnt|false=>0
def WU:∀f:Fm,f.tsz<=yA->f.cnt<=yA->A 239 [f.p] (.tuple [num f.nd,.bool f.shp])
 |.eq a b,h,e=>by
  have h:max a.tsz b.tsz<=yA:=h;have e:1+a.cnt+b.cnt<=yA:=e;have c:=MI a (by omega) (by omega);have i:=MI b (by omega) (by omega);have g:eA (.ofNat (1+a.cnt))=true:=rB (by omega);have d:=da (.eq a b) h;unfold Fm.nd Tm.nd at *
  show A 239 [(Fm.eq a b).p] (.tuple [num (match a.shp&&b.shp with|true=>1+a.cnt+b.cnt|false=>0),.bool (a.shp&&b.shp)]);cases j:a.shp<;>rw[j]at c
  ·exact f2 [14,25] d c
  cases l:b.shp<;>rw[l]at i
  ·exact f4 [14,25,(32,.ok),25] d c g i
  exact f5 [14,25,(32,.ok),25,(32,.ok)] d c g i (rB e)
 |.bin k a b,h,e=>by
  have h:max a.tsz b.tsz<=yA:=h;have e:1+a.cnt+b.cnt<=yA:=e;have c:=WU a (by omega) (by omega);have i:=WU b (by omega) (by omega);have g:eA (.ofNat (1+a.cnt))=true:=rB (by omega);have d:=da (.bin k a b) h;unfold Fm.nd at *
  show A 239 [(Fm.bin k a b).p] (.tuple [num (match a.shp&&b.shp with|true=>1+a.cnt+b.cnt|false=>0),.bool (a.shp&&b.shp)]);cases j:a.shp<;>rw[j]at c
  ·cases k<;>exact f2 [14,43] d c
  cases l:b.shp<;>rw[l]at i
  ·cases k<;>exact f4 [14,43,(50,.ok),43] d c g i
  cases k<;>exact f5 [14,43,(50,.ok),43,(50,.ok)] d c g i (rB e)
 |.q k s a,h,e=>by
  have d:A 298 [(Fm.q k s a).p] (.bool (Nat.beq s.chk 0)):=da (.q k s a) h;have h:max s.size a.tsz<=yA:=h;have e:1+a.cnt<=yA:=e;have c:=WU a (by omega) (by omega);unfold Fm.nd at *
  show A 239 [(Fm.q k s a).p] (.tuple [num (match Nat.beq s.chk 0&&a.shp with|true=>1+a.cnt|false=>0),.bool (Nat.beq s.chk 0&&a.shp)]);cases m:Nat.beq s.chk 0<;>rw[m]at d
  ·cases k<;>exact f1 [14] d
  cases j:a.shp<;>rw[j]at c
  ·cases k<;>exact f2 [14,43] d c
  cases k<;>exact f3 [14,43,(50,.ok)] d c (rB e)
def Fm.ckn(f:Fm):Nat:=match f.chk with|0=>f.cnt|_=>0
theorem xR(f:Fm)(c:f.tsz<=yA)(d:f.cnt<=yA):A 180 [f.p] (.tuple [num f.ckn,num f.chk]):=by
 have a:=WU f c d;unfold Fm.nd at a;unfold Fm.ckn Fm.chk;cases e:f.shp<;>rw[e]at a
 ·exact f1 [8] a
 cases b:fA (.ofNat 4096) (.ofNat f.cnt)
 ·exact f2 [8,16] a b
 exact f2 [8,16] a b
theorem Fm.ckn0{f:Fm}(h:f.chk=0):f.ckn=f.cnt:=by unfold Fm.ckn;split<;>simp_all
def a89(f:Fm)(a:f.tsz<=yA)(b:f.cnt<=yA):A 104 [f.p] (num f.chk):=f1 [7] (xR f a b)
def a296(f:Fm)(a:f.tsz<=yA)(b:f.cnt<=yA):A 358 [f.p] (.tuple [num f.ckn,num f.chk]):=f1 [5] (xR f a b)
open Go.Lg
def Fm.sc:Nat->Fm->Prop|n,.eq a b=>a.sc n/\b.sc n|n,.bin _ f g=>f.sc n/\g.sc n|n,.q _ _ f=>f.sc (n+1)
def iw:A 176 [JA []] (JB []):=f0 []
def ow(s:Ty)(h:s.size<=yA):A 176 [JA [s]] (JB [s]):=f1 [14] (UD s h)
def xw(s u:Ty)(h:s.size<=yA)(a:u.size<=yA):A 176 [JA [s,u]] (JB [s,u]):=f2 [14,14] (UD s h) (UD u a)
def AR(g:List Ty)(s:Ty)(a:g.length<=qA:=by omega)(h:s.size<=yA:=by omega):A 322 [JB g,JA [s]] (JB (g++[s])):=by
 have:=vA;have a:=iG (g.map YA).length;have b:=EF 3 40 VU (by decide) g s (by omega) (by simp only[maxLen];omega);rw[show JB (g++[s])=.slice (g.map YA++[YA s]) by simp[JB]];exact f3 [(10,.ok),12,(13,.ok)] a (ow s h) b
def Aw(g:List Ty)(s u:Ty)(a:g.length<=qA)(h:s.size<=yA)(a:u.size<=yA):A 322 [JB g,JA [s,u]] (JB (g++[s,u])):=by
 have:=vA;have b:=iG (g.map YA).length;have c:=Wh 3 40 VU (by decide) g s u (by omega) (by simp only[maxLen];omega);rw[show JB (g++[s,u])=.slice (g.map YA++[YA s,YA u]) by simp[JB]];exact f3 [(10,.ok),12,(13,.ok)] b (xw s u h a) c
def DN:∀(f:Fm)(g:List Ty),(∀s∈g,s.size<=64)->f.shp=true->g.length+f.cnt<=qA->∃e,A 306 [JB g,f.p] (num e)/\(e=0->f.sc g.length)/\(f.ty g->e=0)
 |.eq a b,g,l,m,j=>by
  have j:g.length+(1+a.cnt+b.cnt)<=qA:=j;obtain⟨c,d⟩:=DA m;obtain⟨e,i,o,p⟩:=ba g a l c
  cases e with
  |succ n=>exact⟨n+1,f1 [50] i,(λh=>nomatch h),λh=>absurd (p h.1.2) (Nat.succ_ne_zero _)⟩|zero=>
   obtain⟨e,p1,p2,r⟩:=ba g b l d
   cases e with|succ n=>exact⟨n+1,f2 [50,50] i p1,(λh=>nomatch h),λh=>absurd (r h.2.2) (Nat.succ_ne_zero _)⟩|zero=>exact⟨0,f2 [50,50] i p1,(λ_=>⟨o rfl,p2 rfl⟩),λ_=>rfl⟩
 |.bin k a b,g,l,m,j=>by
  have j:g.length+(1+a.cnt+b.cnt)<=qA:=j;obtain⟨c,d⟩:=DA m;obtain⟨e,i,o,p⟩:=DN a g l c (by omega)
  cases e with
  |succ n=>cases k<;>exact⟨n+1,f1 [36] i,(λh=>nomatch h),λh=>absurd (p h.1) (Nat.succ_ne_zero _)⟩
  |zero=>
   obtain⟨e,p1,p2,r⟩:=DN b g l d (by omega)
   cases e with
   |succ n=>cases k<;>exact⟨n+1,f2 [36,36] i p1,(λh=>nomatch h),λh=>absurd (r h.2) (Nat.succ_ne_zero _)⟩
   |zero=>cases k<;>exact⟨0,f2 [36,36] i p1,(λ_=>⟨o rfl,p2 rfl⟩),λ_=>rfl⟩
 |.q k s a,g,l,m,j=>by
  have v:=vA;have w:=uA;have j:g.length+(1+a.cnt)<=qA:=j;obtain⟨c,d⟩:=DA m;have x:=aD c;have t:=AR g s;obtain⟨e,i,o,p⟩:=DN a (g++[s]) (λu y=>by grind) d (by simp;omega)
  cases e with
  |succ n=>cases k<;>exact⟨n+1,f2 [26,36] t i,(λh=>nomatch h),λh=>absurd (p h) (Nat.succ_ne_zero _)⟩
  |zero=>cases k<;>exact⟨0,f2 [26,36] t i,(λ_=>by have:=o rfl;simpa[Fm.sc]using this),λ_=>rfl⟩
def fi{g:List Ty}(j:g.length<=16):∀(r:List Ty)(k:Nat),g.drop k=r->(∀t∈r,t.size<=yA)->
  (yF r=0/\Lp 175 0 0 (st [(9,.pv (JA g)),(10,.pv (num (g.map Ty.c).length)),(11,.pv (num k))] [] 0 []) (.exit 0) (st [] [] 0 []))\/yF r=4/\Lp 175 0 0 (st [(9,.pv (JA g)),(10,.pv (num (g.map Ty.c).length)),(11,.pv (num k))] [] 0 []) .ret (st [(2,.pv (num 4))] [] 0 [])
 |[],k,h,_=>.inl ⟨rfl,x1 [12] (kp []) (show fA (.ofNat k) (.ofNat (g.map Ty.c).length)=false from GA (by simp_all))⟩|t::r,k,h,i=>by
  obtain⟨c,n,l⟩:=dH h;have b:=za t (i t (by simp));have a:fA (.ofNat k) (.ofNat (g.map Ty.c).length)=true:=NA (by simp_all);unfold yF;rcases fH t with e|e<;>rw[LI]at e<;>rw[e]at b<;>rw[LI,e]
  ·rcases fi j r (k+1) l (λt m=>i t (by simp[m]))with ⟨d,f⟩|⟨d,f⟩
   ·exact .inl ⟨d,n5 [12,(13,.i t.c),16,(20,.ok)] (kp [9,10,11]) a (vB c Ty.c_len) b (xA (show k+1<=_ by omega)) f⟩
   exact .inr ⟨d,n5 [12,(13,.i t.c),16,(20,.ok)] (kp [9,10,11]) a (vB c Ty.c_len) b (xA (show k+1<=_ by omega)) f⟩
  exact .inr ⟨rfl,x3 [12,(13,.i t.c),16] (kp [2]) a (vB c Ty.c_len) b⟩
def li(g:List Ty)(c:∀t∈g,t.size<=yA):A 175 [JA g] (num (rG g)):=by
 unfold rG;cases e:fA (.ofNat 16) (.ofNat (g.map Ty.c).length)
 ·have d:g.length<=16:=by
   rw[WB]at e
   grind
  rcases fi d g 0 rfl c with ⟨b,a⟩|⟨b,a⟩<;>rw[b]
  ·exact f2 [8,(100004,.l (kp [9,10,11]) (.exit 0) (st [] [] 0 []))] e a
  exact f2 [8,(100004,.l (kp [9,10,11]) .ret (st [(2,.pv (num 4))] [] 0 []))] e a
 exact f1 [8] e
theorem mi:∀{g:List Ty},yF g=0->∀s∈g,s.size<=64
 |[],_,s,h=>by cases h
 |t::r,e,s,h=>by
  unfold yF at e;split at e
  ·rename_i a;rcases List.mem_cons.1 h with rfl|h
   ·exact Go.Proofs.YtmihmecnjjmdgaaGreatDoor.chk0 a
   exact mi e s h
  cases e
def Bw{g:List Ty}(e:rG g=0):g.length<=16/\∀s∈g,s.size<=64:=by
 grind[rG,WB,mi]
theorem EN{A:List (List PV)}{v sz ty m:Nat}{c:List PV}(a:0<sz)(b:oC sz [iA c]=true)(d:mC [iA c]=true)(e:A.length+1<=maxLen)(f:(A.length+1)*m<=140737488355328):
  (Nat.beq v v&&Nat.ble A.length (kA A).length&&Nat.beq ty ty&&Nat.beq sz sz&&Nat.blt 0 sz&&oC sz [iA c]&&mC [iA c]&&Nat.ble (A.length+[iA c].length) maxLen&&Nat.ble ((A.length+[iA c].length)*m) 140737488355328)=true:=
 nR (pvE_len A) a b d e f
abbrev ni(g:List Ty)(k:Nat)(x:V):List (Nat×V):=[(3,x),(6,.pv (JA g)),(7,.pv (num (g.map Ty.c).length)),(8,.pv (num k))]
abbrev pi:Kp:=⟨[3,6,7,8],[1],2,[]⟩
def ri{g:List Ty}(f:g.length<=qA):∀(r:List Ty)(k v:Nat)(A:List (List PV)),g.drop k=r->(∀t∈r,t.size<=yA)->A.length=k->
  ∃a,Lp 176 0 0 (st (ni g k (.arr 1 v A.length)) [(1,.arr v 3 199 (kA A))] 2 []) (.exit 0) (st [(3,.arr 1 a (A.length+r.length))] [(1,.arr a 3 199 (kA (A++r.map YA)))] 2 [])
 |[],k,v,A,h,b,c=>by
  have e:fA (.ofNat k) (.ofNat (g.map Ty.c).length)=false:=GA (by simp_all);simp only[List.map_nil,List.append_nil,List.length_nil,Nat.add_zero];exact⟨v,y1 [9] ⟨[3],[1],2,[]⟩ e (tD A)⟩
 |t::r,k,v,A,h,b,c=>by
  have:=vA;obtain⟨i,p,j⟩:=dH h;have e:fA (.ofNat k) (.ofNat (g.map Ty.c).length)=true:=NA (by simp_all);have l:=xA (show k+1<=_ by omega);have m:=EN (A:=A) (v:=v) (ty:=199) (m:=40) (c:=YA t) (show 0<3 by decide) rfl rfl (by simp only[maxLen];omega) (by omega);obtain⟨a,d⟩:=ri f r (k+1) (v+1) (A++[YA t]) j (λu n=>b u (by simp[n])) (by simp[c]);rw[SJ,show(A++[YA t]).length=A.length+1 by simp,show A.length+1+r.length=A.length+(t::r).length by simp;omega,List.append_assoc]at d;exact⟨a,n7 [9,(10,.i t.c),14,(16,.ok),(17,.ok)] pi e (vB i Ty.c_len) (UD t (b t (by simp))) m l (GG A (YA t)) d⟩
def Cw(g:List Ty)(c:g.length<=qA)(a:∀t∈g,t.size<=yA):A 176 [JA g] (JB g):=by
 cases g with
 |nil=>exact iw|cons t r=>
  have e:fA (.ofNat 0) (.ofNat ((t::r).map Ty.c).length)=true:=NA (by simp);obtain⟨v,h⟩:=ri c r 1 1 [YA t] rfl (λu d=>a u (by simp[d])) rfl;have b:=LoopIs.fz (by simp) h 1 (ver:=v) (sz:=3) (ty:=199) (ps:=(t::r).map YA) rfl (by kernel_rfl);simp (decide:=true) only[BF,QE,QC,List.map,yE,and_self,↓reduceIte,List.take_of_length_le (show(YA t::r.map YA).length<=[YA t].length+r.length by simp;omega)]at b;have f:Lp 176 0 0 (st (ni (t::r) 0 (.pv .nils)) [] 0 []) (.exit 0) (st [(3,.pv (JB (t::r)))] [] 2 []):=
   n6 [9,(10,.i t.c),14,(17,.ok)] pi e (vB (g:=t::r) (k:=0) rfl Ty.c_len) (UD t (a t (by simp))) (xA (show 0+1<=_ by omega)) (GG [] (YA t)) b
  exact f1 [(100003,.l ⟨[3,6,7,8],[],0,[]⟩ (.exit 0) (st [(3,.pv (JB (t::r)))] [] 2 []))] f
open Go.Lg
def Dw{x:Int}{a:Nat}(h:(a:Int)<=x):(!fA x (.ofNat a))=true:=by rw[WB];simp;exact h
def Ew{x:Int}{a:Nat}(h:x<(a:Int)):(!fA x (.ofNat a))=false:=by rw[WB];simp;exact h
def XU{x:Int}{a:Nat}(h:x=(a:Int)):mB x (.ofNat a)=true:=by rw[aI];simp;exact h
def ai{x:Int}{a:Nat}(h:x≠(a:Int)):mB x (.ofNat a)=false:=by rw[aI];simp;exact h
def Fw{x:Int}{a:Nat}(h:(a:Int)<x):fA (.ofNat a) x=true:=by rw[WB];simp;exact h
def Gw{x:Int}{a:Nat}(h:x<=(a:Int)):fA (.ofNat a) x=false:=by rw[WB];simp;exact h
def aP{i d:Nat}(h:i<=yA:=by omega)(a:d<=yA:=by omega):eA (Int.ofNat i-.ofNat d)=true/\Int.ofNat i-.ofNat d=Int.ofNat i-.ofNat d:=⟨(rD h a rfl).1,rfl⟩
def lA{a b:Nat}(h:a+b<=yA:=by omega):eA (Int.ofNat a+.ofNat b)=true/\Int.ofNat a+.ofNat b=.ofNat (a+b):=⟨rB (n:=a+b) h,rfl⟩
abbrev ci(c:V)(own:List (Nat×Ob)):List (Nat×Ob):=(5,.box [c])::(7,.box [.fn 334 [.loc 5 0,.loc 7 0]])::own
abbrev ii(a b:Nat):List (Nat×Ob):=ci (.fn 276 [.loc 1 0,.loc 2 0]) [(1,bx [num a]),(2,bx [num b])]
def xL(a z:Nat)(l:a<=qA)(m:z<=2*qA):∀(t:Tm)(d:Nat),d+t.cnt<=qA->t.mx<=qA*qA->O 334 [.pv t.p,.pv (num d),.loc 5 0,.loc 7 0] (ii a z) (.pv (t.sh (a+d) (.ofNat z)).p) (ii a z)
 |.v i,d,f,j=>by
  have n:=vA;have v:i<=qA*qA:=j;have f:d+1<=qA:=f;rw[n]at v;have w:=uA;have u:=aP (i:=i) (d:=d);by_cases h:a+d<=i
  ·have e:(Tm.v i).sh (a+d) (.ofNat z)=.v (i+z):=by simp only[Tm.sh,if_pos h];rfl
   rw[e];have o:(!fA (Int.ofNat i-.ofNat d) (.ofNat a))=true:=Dw (by simp;omega);have x:=lA (a:=i) (b:=z);exact o3 8 [(17,.n [(9,.y (Int.ofNat i-.ofNat d)),(11,.G),(14,.z (i+z))])] u o x
  have e:(Tm.v i).sh (a+d) (.ofNat z)=.v i:=by simp only[Tm.sh,if_neg h]
  rw[e];have o:(!fA (Int.ofNat i-.ofNat d) (.ofNat a))=false:=Ew (by simp;omega);exact o2 8 [(17,.n [(9,.y (Int.ofNat i-.ofNat d)),(11,.H)])] u o
 |.lam s b,d,f,j=>by
  have f:d+(1+b.cnt)<=qA:=f;have n:=vA;have w:=uA;have g:=xL a z l m b (d+1) (by omega) j;exact o3 8 [24,30,(43,.o [5,7,1,2] [] (.pv (b.sh (a+(d+1)) (.ofNat z)).p))] (LF s) (lA (a:=d) (b:=1)) g
 |.n0 k,d,_,_=>by cases k<;>exact o1 8 [24] uD
 |.n1 k b,d,f,j=>by
  have f:d+(1+b.cnt)<=qA:=f;have g:=xL a z l m b d (by omega) j;cases k<;>exact o2 8 [24,(43,.o [5,7,1,2] [] (.pv (b.sh (a+d) (.ofNat z)).p))] uD g
 |.n2 k b c,d,f,j=>by
  have f:d+(1+b.cnt+c.cnt)<=qA:=f;have j:max b.mx c.mx<=qA*qA:=j;have g:=xL a z l m b d (by omega) (by omega);have p:=xL a z l m c d (by omega) (by omega);cases k<;>exact o3 8 [24,(43,.o [5,7,1,2] [] (.pv (b.sh (a+d) (.ofNat z)).p)),(43,.o [5,7,1,2] [] (.pv (c.sh (a+d) (.ofNat z)).p))] uD g p
 |.n3 k s b c e,d,f,j=>by
  have f:d+(1+b.cnt+c.cnt+e.cnt)<=qA:=f;have j:max b.mx (max c.mx e.mx)<=qA*qA:=j;have g:=xL a z l m b d (by omega) (by omega);have p:=xL a z l m c d (by omega) (by omega);have r:=xL a z l m e d (by omega) (by omega);cases k<;>exact o4 8 [24,(43,.o [5,7,1,2] [] (.pv (b.sh (a+d) (.ofNat z)).p)),(43,.o [5,7,1,2] [] (.pv (c.sh (a+d) (.ofNat z)).p)),(43,.o [5,7,1,2] [] (.pv (e.sh (a+d) (.ofNat z)).p))] (LF s) g p r
def la(t:Tm)(a z:Nat)(b:a<=qA)(c:z<=2*qA)(d:t.cnt<=qA:=by omega)(d:t.mx<=qA*qA:=by omega):A 210 [t.p,num a,num z] (t.sh a (.ofNat z)).p:=
 f1 [(9,.n [(9,.o [5,7,1,2] [] (.pv (t.sh a (.ofNat z)).p))])] (xL a z b c t 0 (by omega) d)
structure Sx where
 k:Nat
 i:Nat
 tk:Nat
 te:List (List PV)
 es:List (List PV)
abbrev Sx.c(s:Sx):List PV:=[num s.k,num s.i,num s.tk,.slice s.te,.slice s.es]
abbrev Tm.x(t:Tm):Sx:=⟨t.kd,t.ix,t.tk,t.te,t.es⟩
abbrev Sx.z:Sx:=⟨0,0,0,[],[]⟩
abbrev xi(a:Nat)(s:Sx):List (Nat×Ob):=ci (.fn 384 [.loc 1 0,.loc 2 0]) [(1,bx [num a]),(2,bx s.c)]
def Lf(s:Sx)(S:Tm):Prop:=∀n,n<=2*qA->A 210 [.agg s.c,num 0,num n] (S.sh 0 (.ofNat n)).p
def AL(a:Nat)(s:Sx)(S:Tm)(m:a<=qA):∀(t:Tm)(d:Nat),(Lf s S\/t.occ (a+d)=0)->d+t.cnt<=qA->t.mx<=qA*qA->O 334 [.pv t.p,.pv (num d),.loc 5 0,.loc 7 0] (xi a s) (.pv (t.put a S d).p) (xi a s)
 |.v i,d,f,j,l=>by
  have n:=vA;have y:i<=qA*qA:=l;have j:d+1<=qA:=j;rw[n]at y;have z:=uA;have r:=aP (i:=i) (d:=d);by_cases h:i=a+d
  ·have e:(Tm.v i).put a S d=S.sh 0 (.ofNat (a+d)):=by simp only[Tm.put,if_pos h]
   rw[e];have p:mB (Int.ofNat i-.ofNat d) (.ofNat a)=true:=XU (by simp;omega);have o:=lA (a:=a) (b:=d);rcases f with f|f
   ·exact o4 8 [(17,.n [(10,.y (Int.ofNat i-.ofNat d)),(14,.G),(18,.z (a+d)),(19,.r (S.sh 0 (.ofNat (a+d))).p)])] r p o (f (a+d) (by omega))
   grind[Tm.occ]
  have p:mB (Int.ofNat i-.ofNat d) (.ofNat a)=false:=ai (by simp;omega);by_cases x:a+d<i
  ·have e:(Tm.v i).put a S d=.v (i-1):=by simp only[Tm.put,if_neg h,if_pos x]
   rw[e];have o:fA (.ofNat a) (Int.ofNat i-.ofNat d)=true:=Fw (by simp;omega);have A:=SC (a:=i);exact o4 8 [(17,.n [(10,.y (Int.ofNat i-.ofNat d)),(14,.H),(23,.G),(25,.z (i-1))])] r p o A
  have e:(Tm.v i).put a S d=.v i:=by simp only[Tm.put,if_neg h,if_neg x]
  rw[e];have o:fA (.ofNat a) (Int.ofNat i-.ofNat d)=false:=Gw (by simp;omega);exact o3 8 [(17,.n [(10,.y (Int.ofNat i-.ofNat d)),(14,.H),(23,.H)])] r p o
 |.lam s b,d,f,j,l=>by
  have j:d+(1+b.cnt)<=qA:=j;have n:=vA;have z:=uA;have g:=AL a _ S m b (d+1) f (by omega) l;exact o3 8 [24,30,(43,.o [5,7,1,2] [] (.pv (b.put a S (d+1)).p))] (LF s) (lA (a:=d) (b:=1)) g
 |.n0 k,d,_,_,_=>by cases k<;>exact o1 8 [24] uD
 |.n1 k b,d,f,j,l=>by
  have j:d+(1+b.cnt)<=qA:=j;have g:=AL a s S m b d f (by omega) l;cases k<;>exact o2 8 [24,(43,.o [5,7,1,2] [] (.pv (b.put a S d).p))] uD g
 |.n2 k b c,d,f,j,l=>by
  have j:d+(1+b.cnt+c.cnt)<=qA:=j;have l:max b.mx c.mx<=qA*qA:=l;have f:Lf s S\/b.occ (a+d)+c.occ (a+d)=0:=f;have g:=AL a s S m b d (f.imp id (by omega)) (by omega) (by omega);have v:=AL a s S m c d (f.imp id (by omega)) (by omega) (by omega);cases k<;>exact o3 8 [24,(43,.o [5,7,1,2] [] (.pv (b.put a S d).p)),(43,.o [5,7,1,2] [] (.pv (c.put a S d).p))] uD g v
 |.n3 k u b c e,d,f,j,l=>by
  have j:d+(1+b.cnt+c.cnt+e.cnt)<=qA:=j;have l:max b.mx (max c.mx e.mx)<=qA*qA:=l;have f:Lf s S\/b.occ (a+d)+c.occ (a+d)+e.occ (a+d)=0:=f;have g:=AL a s S m b d (f.imp id (by omega)) (by omega) (by omega);have v:=AL a s S m c d (f.imp id (by omega)) (by omega) (by omega);have w:=AL a s S m e d (f.imp id (by omega)) (by omega) (by omega);cases k<;>exact o4 8 [24,(43,.o [5,7,1,2] [] (.pv (b.put a S d).p)),(43,.o [5,7,1,2] [] (.pv (c.put a S d).p)),(43,.o [5,7,1,2] [] (.pv (e.put a S d).p))] (LF u) g v w
def Ai(t:Tm)(a:Nat)(s:Sx)(S:Tm)(b:Lf s S\/t.occ a=0)(c:a<=qA:=by omega)(d:t.cnt<=qA:=by omega)(d:t.mx<=qA*qA:=by omega):A 374 [t.p,num a,.agg s.c] (t.put a S 0).p:=
 f1 [(9,.n [(9,.o [5,7,1,2] [] (.pv (t.put a S 0).p))])] (AL a s S c t 0 b (by omega) d)
theorem Lf.of(S:Tm)(a:S.cnt<=qA)(a:S.mx<=qA*qA)(B:∀n,n<=2*qA->A 210 [S.p,num 0,num n] (S.sh 0 (.ofNat n)).p):Lf S.x S:=B
def XJ:∀t:Tm,A 263 [t.p] t.p
 |.v i=>f1 [12] uD|.lam s b=>f2 [12,24] (LF s) (XJ b)|.n0 k=>by cases k<;>exact f1 [12] uD
 |.n1 k b=>by have g:=XJ b;cases k<;>exact f2 [12,24] uD g
 |.n2 k b c=>by have g:=XJ b;have a:=XJ c;cases k<;>exact f3 [12,24,24] uD g a
 |.n3 k s b c d=>by have g:=XJ b;have a:=XJ c;have e:=XJ d;cases k<;>exact f4 [12,24,24,24] (LF s) g a e
open Go.Lg
abbrev PF:Nat:=536870912
def YB:Bool->Tm->Bool
 |b,.v i=>match b with|true=> !fA (.ofNat PF) (.ofNat i)|false=>false
 |b,.lam _ t=>YB b t|b,.n0 _=>b|b,.n1 _ t=>YB b t|b,.n2 _ t u=>YB (YB b t) u|b,.n3 _ _ t u w=>YB (YB (YB b t) u) w
theorem OI:∀(t:Tm),t.mx<=PF->YB true t=true
 |.v i,h=>by
  have h:i<=PF:=h;show(!fA (.ofNat PF) (.ofNat i))=true;rw[GA h];rfl
 |.lam _ t,h=>OI t h|.n0 _,_=>rfl|.n1 _ t,h=>OI t h|.n2 _ t u,h=>by
  have h:max t.mx u.mx<=PF:=h;simp only[YB,OI t (by omega),OI u (by omega)]
 |.n3 _ _ t u w,h=>by
  have h:max t.mx (max u.mx w.mx)<=PF:=h;simp only[YB,OI t (by omega),OI u (by omega),OI w (by omega)]
abbrev ut:PV:=.tuple []
abbrev ma(i j:Nat)(c:V)(own:List (Nat×Ob)):List (Nat×Ob):=(i,.box [c])::(j,.box [.fn 333 [.loc i 0,.loc j 0]])::own
abbrev na(b:Bool):List (Nat×Ob):=ma 3 4 (.fn 274 [.loc 1 0]) [(1,bx [.bool b])]
abbrev gE(b:Bool):List (Nat×Ob):=[(1,bx [.bool b])]
def BL:∀(t:Tm)(b:Bool)(d:Nat),d+t.cnt<=qA->O 333 [.pv t.p,.pv (num d),.loc 3 0,.loc 4 0] (na b) (.pv ut) (na (YB b t))
 |.v i,b,d,f=>by
  cases b
  ·exact o0 5 []
  show O 333 _ _ _ (na (!fA (.ofNat PF) (.ofNat i)));cases e: !fA (.ofNat PF) (.ofNat i)
  ·exact o1 5 [(15,.n [(8,.H)])] e
  exact o1 5 [(15,.n [(8,.G)])] e
 |.lam s a,b,d,f=>by
  have f:d+(1+a.cnt)<=qA:=f;have:=vA;have:=uA;exact o2 5 [20,(31,.o [3,4] (gE (YB b a)) (.pv ut))] (lA (a:=d) (b:=1)) (BL a b (d+1) (by omega))
 |.n0 k,b,d,f=>by cases k<;>exact o0 5 []
 |.n1 k a,b,d,f=>by
  have f:d+(1+a.cnt)<=qA:=f;have g:=BL a b d (by omega);cases k<;>exact o1 5 [(31,.o [3,4] (gE (YB b a)) (.pv ut))] g
 |.n2 k a c,b,d,f=>by
  have f:d+(1+a.cnt+c.cnt)<=qA:=f;have g:=BL a b d (by omega);have h:=BL c (YB b a) d (by omega);cases k<;>exact o2 5 [(31,.o [3,4] (gE (YB b a)) (.pv ut)),(31,.o [3,4] (gE (YB (YB b a) c)) (.pv ut))] g h
 |.n3 k s a c e,b,d,f=>by
  have f:d+(1+a.cnt+c.cnt+e.cnt)<=qA:=f;have g:=BL a b d (by omega);have h:=BL c (YB b a) d (by omega);have j:=BL e (YB (YB b a) c) d (by omega);cases k<;>exact o3 5 [(31,.o [3,4] (gE (YB b a)) (.pv ut)),(31,.o [3,4] (gE (YB (YB b a) c)) (.pv ut)),(31,.o [3,4] (gE (YB (YB (YB b a) c) e)) (.pv ut))] g h j
def a298(t:Tm)(h:t.cnt<=qA:=by omega):A 207 [t.p] (.bool (YB true t)):=
 f1 [(6,.n [(8,.o [3,4] (gE (YB true t)) (.pv ut))])] (BL t true 0 (by omega))
abbrev Bi(a n:Nat):List (Nat×Ob):=ma 4 5 (.fn 379 [.loc 1 0,.loc 2 0]) [(1,bx [num a]),(2,bx [num n])]
abbrev QF(n:Nat):List (Nat×Ob):=[(2,bx [num n])]
def CL(a:Nat)(o:a<=qA):∀(t:Tm)(n d:Nat),d+t.cnt<=qA->t.mx<=qA*qA->n+t.cnt<=yA->O 333 [.pv t.p,.pv (num d),.loc 4 0,.loc 5 0] (Bi a n) (.pv ut) (Bi a (n+t.occ (a+d)))
 |.v i,n,d,j,m,l=>by
  have p:=vA;have x:i<=qA*qA:=m;have j:d+1<=qA:=j;have l:n+1<=yA:=l;rw[p]at x;have y:=uA;have w:=aP (i:=i) (d:=d);by_cases h:i=a+d
  ·have r:mB (Int.ofNat i-.ofNat d) (.ofNat a)=true:=XU (by simp;omega);have e:(Tm.v i).occ (a+d)=1:=by simp only[Tm.occ,if_pos h]
   rw[e];exact o3 6 [(15,.n [(8,.y (Int.ofNat i-.ofNat d)),(10,.G),(12,.z (n+1))])] w r (lA (a:=n) (b:=1))
  have r:mB (Int.ofNat i-.ofNat d) (.ofNat a)=false:=ai (by simp;omega);have e:(Tm.v i).occ (a+d)=0:=by simp only[Tm.occ,if_neg h]
  rw[e];exact o2 6 [(15,.n [(8,.y (Int.ofNat i-.ofNat d)),(10,.H)])] w r
 |.lam s b,n,d,j,m,l=>by
  have j:d+(1+b.cnt)<=qA:=j;have l:n+(1+b.cnt)<=yA:=l;have p:=vA;have y:=uA;exact o2 6 [20,(31,.o [4,5,1] (QF (n+b.occ (a+(d+1)))) (.pv ut))] (lA (a:=d) (b:=1)) (CL a o b n (d+1) (by omega) m (by omega))
 |.n0 k,n,d,_,_,_=>by cases k<;>exact o0 6 []
 |.n1 k b,n,d,j,m,l=>by
  have j:d+(1+b.cnt)<=qA:=j;have l:n+(1+b.cnt)<=yA:=l;have g:=CL a o b n d (by omega) m (by omega);cases k<;>exact o1 6 [(31,.o [4,5,1] (QF (n+b.occ (a+d))) (.pv ut))] g
 |.n2 k b c,n,d,j,m,l=>by
  have j:d+(1+b.cnt+c.cnt)<=qA:=j;have l:n+(1+b.cnt+c.cnt)<=yA:=l;have m:max b.mx c.mx<=qA*qA:=m;have:=BB b (a+d);have g:=CL a o b n d (by omega) (by omega) (by omega);have u:=CL a o c (n+b.occ (a+d)) d (by omega) (by omega) (by omega);have e:n+(Tm.n2 k b c).occ (a+d)=n+b.occ (a+d)+c.occ (a+d):=(Nat.add_assoc _ _ _).symm;rw[e];cases k<;>exact o2 6 [(31,.o [4,5,1] (QF (n+b.occ (a+d))) (.pv ut)),(31,.o [4,5,1] (QF (n+b.occ (a+d)+c.occ (a+d))) (.pv ut))] g u
 |.n3 k s b c f,n,d,j,m,l=>by
  have j:d+(1+b.cnt+c.cnt+f.cnt)<=qA:=j;have l:n+(1+b.cnt+c.cnt+f.cnt)<=yA:=l;have m:max b.mx (max c.mx f.mx)<=qA*qA:=m;have:=BB b (a+d);have:=BB c (a+d);have g:=CL a o b n d (by omega) (by omega) (by omega);have u:=CL a o c (n+b.occ (a+d)) d (by omega) (by omega) (by omega);have v:=CL a o f (n+b.occ (a+d)+c.occ (a+d)) d (by omega) (by omega) (by omega);have e:n+(Tm.n3 k s b c f).occ (a+d)=n+b.occ (a+d)+c.occ (a+d)+f.occ (a+d):=by grind[Tm.occ]
  rw[e];cases k<;>exact o3 6 [(31,.o [4,5,1] (QF (n+b.occ (a+d))) (.pv ut)),(31,.o [4,5,1] (QF (n+b.occ (a+d)+c.occ (a+d))) (.pv ut)),(31,.o [4,5,1] (QF (n+b.occ (a+d)+c.occ (a+d)+f.occ (a+d))) (.pv ut))] g u v
def Ci(t:Tm)(a:Nat)(b:a<=qA:=by omega)(h:t.cnt<=qA:=by omega)(c:t.mx<=qA*qA:=by omega):A 361 [t.p,num a] (num (t.occ a)):=by
 have:=vA;have:=uA;have g:=CL a b t 0 0 (by omega) c (by omega);rw[Nat.zero_add]at g;exact f1 [(8,.n [(8,.o [4,5,1] (QF (t.occ a)) (.pv ut))])] g
abbrev Ei(a z:Nat):List (Nat×Ob):=[(1,bx [num a]),(2,bx [num z])]
def YU(a z:Nat)(i:a<=qA)(e:z<=2*qA):∀(f:Fm)(d:Nat),a+d+f.cnt<=qA->f.mx<=qA*qA->O 208 [.pv f.p,.pv (num d),.fn 209 [.loc 1 0,.loc 2 0]] (Ei a z) (.pv (f.sh (a+d) (.ofNat z)).p) (Ei a z)
 |.eq t u,d,b,c=>by
  have j:=vA;have m:=uA;have b:a+d+(1+t.cnt+u.cnt)<=qA:=b;have c:max t.mx u.mx<=qA*qA:=c;have g:=lA (a:=a) (b:=d);have h:=la t (a+d) z (by omega) e;have l:=la u (a+d) z (by omega) e;exact o5 3 [16,(30,.n [(10,.z (a+d)),(12,.r (t.sh (a+d) (.ofNat z)).p)]),(30,.n [(10,.z (a+d)),(12,.r (u.sh (a+d) (.ofNat z)).p)])] uD g h g l
 |.bin k f g,d,b,c=>by
  have b:a+d+(1+f.cnt+g.cnt)<=qA:=b;have c:max f.mx g.mx<=qA*qA:=c;have h:=YU a z i e f d (by omega) (by omega);have l:=YU a z i e g d (by omega) (by omega);cases k<;>exact o3 3 [16,(52,.o [1,2] [] (.pv (f.sh (a+d) (.ofNat z)).p)),(52,.o [1,2] [] (.pv (g.sh (a+d) (.ofNat z)).p))] uD h l
 |.q k s f,d,b,c=>by
  have j:=vA;have m:=uA;have b:a+d+(1+f.cnt)<=qA:=b;have g:=lA (a:=d) (b:=1);have h:=YU a z i e f (d+1) (by omega) c;cases k<;>exact o3 3 [16,39,(52,.o [1,2] [] (.pv (f.sh (a+(d+1)) (.ofNat z)).p))] (LF s) g h
def PI(f:Fm)(a z:Nat)(b:z<=2*qA)(c:a+f.cnt<=qA)(c:f.mx<=qA*qA):A 137 [f.p,num a,num z] (f.sh a (.ofNat z)).p:=
 f1 [(9,.o [1,2] [] (.pv (f.sh a (.ofNat z)).p))] (YU a z (by omega) b f 0 (by omega) c)
def cP(S:Tm):∀(t:Tm)(c d:Nat),t.put (c+1) S d=t.put c S (d+1)|.v i,c,d=>by grind[Tm.put]|.lam s b,c,d=>by simp[Tm.put,cP]|.n0 k,c,d=>rfl|.n1 k a,c,d=>by simp[Tm.put,cP]|.n2 k a b,c,d=>by simp[Tm.put,cP]|.n3 k s a b e,c,d=>by simp[Tm.put,cP]
def Hw(S:Tm):∀(f:Fm)(c d:Nat),f.put (c+1) S d=f.put c S (d+1)
 :=by intro x;induction x<;>simp_all[Fm.put,cP]
abbrev Fi(a:Nat)(s:Sx):List (Nat×Ob):=[(1,bx [num a]),(2,bx s.c)]
def ZU(a:Nat)(s:Sx)(S:Tm)(j:a<=qA):∀(f:Fm)(d:Nat),(Lf s S\/f.occ (a+d)=0)->a+d+f.cnt<=qA->f.mx<=qA*qA->O 208 [.pv f.p,.pv (num d),.fn 373 [.loc 1 0,.loc 2 0]] (Fi a s) (.pv (f.put (a+d) S 0).p) (Fi a s)
 |.eq t u,d,b,c,h=>by
  have l:=vA;have n:=uA;have c:a+d+(1+t.cnt+u.cnt)<=qA:=c;have h:max t.mx u.mx<=qA*qA:=h;have b:Lf s S\/t.occ (a+d)+u.occ (a+d)=0:=b;have g:=lA (a:=a) (b:=d);have i:=Ai t (a+d) s S (b.imp id (by omega));have m:=Ai u (a+d) s S (b.imp id (by omega));exact o5 3 [16,(30,.n [(10,.z (a+d)),(12,.r (t.put (a+d) S 0).p)]),(30,.n [(10,.z (a+d)),(12,.r (u.put (a+d) S 0).p)])] uD g i g m
 |.bin k f g,d,b,c,h=>by
  have c:a+d+(1+f.cnt+g.cnt)<=qA:=c;have h:max f.mx g.mx<=qA*qA:=h;have b:Lf s S\/f.occ (a+d)+g.occ (a+d)=0:=b;have i:=ZU a s S j f d (b.imp id (by omega)) (by omega) (by omega);have m:=ZU a s S j g d (b.imp id (by omega)) (by omega) (by omega);cases k<;>exact o3 3 [16,(52,.o [1,2] [] (.pv (f.put (a+d) S 0).p)),(52,.o [1,2] [] (.pv (g.put (a+d) S 0).p))] uD i m
 |.q k u f,d,b,c,h=>by
  have l:=vA;have n:=uA;have c:a+d+(1+f.cnt)<=qA:=c;have g:=lA (a:=d) (b:=1);have i:=ZU a s S j f (d+1) b (by omega) h;have e:f.put (a+(d+1)) S 0=f.put (a+d) S (0+1):=Hw S f (a+d) 0;rw[e]at i;cases k<;>exact o3 3 [16,39,(52,.o [1,2] [] (.pv (f.put (a+d) S (0+1)).p))] (LF u) g i
def BR(f:Fm)(a:Nat)(s:Sx)(S:Tm)(b:Lf s S\/f.occ a=0)(c:a+f.cnt<=qA)(c:f.mx<=qA*qA):A 354 [f.p,num a,.agg s.c] (f.put a S 0).p:=
 f1 [(9,.o [1,2] [] (.pv (f.put a S 0).p))] (ZU a s S (by omega) f 0 b (by omega) c)
def qV:∀(f:Fm)(d:Nat),d+f.cnt<=qA->O 208 [.pv f.p,.pv (num d),.fn 262 []] [] (.pv f.p) []
 |.eq t u,d,a=>o3 0 [16,(30,.n [(6,.r t.p)]),(30,.n [(6,.r u.p)])] uD (XJ t) (XJ u)|.bin k f g,d,a=>by
  have a:d+(1+f.cnt+g.cnt)<=qA:=a;have b:=qV f d (by omega);have c:=qV g d (by omega);cases k<;>exact o3 0 [16,(52,.o [] [] (.pv f.p)),(52,.o [] [] (.pv g.p))] uD b c
 |.q k s f,d,a=>by
  have:=vA;have:=uA;have a:d+(1+f.cnt)<=qA:=a;have g:=lA (a:=d) (b:=1);have b:=qV f (d+1) (by omega);cases k<;>exact o3 0 [16,39,(52,.o [] [] (.pv f.p))] (LF s) g b
def Iw(f:Fm)(h:f.cnt<=qA):A 200 [f.p] f.p:=f1 [(4,.o [] [] (.pv f.p))] (qV f 0 (by omega))
def DL(b:Bool)(t:Tm):Bool:=match b with|true=>YB true t|false=>false
def RF:Bool->Fm->Bool|b,.eq t u=>DL (DL b t) u|b,.bin _ f g=>RF (RF b f) g|b,.q _ _ f=>RF b f
def jV:∀(f:Fm),f.mx<=PF->RF true f=true
 |.eq t u,h=>by
  have h:max t.mx u.mx<=PF:=h
  grind[RF,DL,OI]
 |.bin _ f g,h=>by
  have h:max f.mx g.mx<=PF:=h;simp only[RF,jV f (by omega),jV g (by omega)]
 |.q _ _ f,h=>jV f h
def Gi(t:Tm)(b:Bool)(d:Nat)(h:t.cnt<=qA:=by omega):O 206 [.pv t.p,.pv (num d),.loc 1 0] (gE b) (.pv ut) (gE (DL b t)):=by
 cases b
 ·exact o0 2 []
 exact o1 2 [8] (a298 t h)
def vV:∀(f:Fm)(b:Bool)(d:Nat),d+f.cnt<=qA->O 205 [.pv f.p,.pv (num d),.fn 206 [.loc 1 0]] (gE b) (.pv ut) (gE (RF b f))
 |.eq t u,b,d,a=>by
  have a:d+(1+t.cnt+u.cnt)<=qA:=a;exact o2 2 [(20,.o [] (gE (DL b t)) (.pv ut)),(20,.o [] (gE (DL (DL b t) u)) (.pv ut))] (Gi t b d) (Gi u (DL b t) d)
 |.bin k f g,b,d,a=>by
  have a:d+(1+f.cnt+g.cnt)<=qA:=a;have c:=vV f b d (by omega);have e:=vV g (RF b f) d (by omega);cases k<;>exact o2 2 [(37,.o [] (gE (RF b f)) (.pv ut)),(37,.o [] (gE (RF (RF b f) g)) (.pv ut))] c e
 |.q k s f,b,d,a=>by
  have:=vA;have:=uA;have a:d+(1+f.cnt)<=qA:=a;have g:=lA (a:=d) (b:=1);have c:=vV f b (d+1) (by omega);cases k<;>exact o2 2 [26,(37,.o [] (gE (RF b f)) (.pv ut))] g c
def a295(f:Fm)(h:f.cnt<=qA):A 136 [f.p] (.bool (RF true f)):=
 f1 [(6,.o [] (gE (RF true f)) (.pv ut))] (vV f true 0 (by omega))
def Hi(t:Tm)(a n d:Nat)(b:a+d<=qA:=by omega)(h:t.cnt<=qA:=by omega)(c:t.mx<=qA*qA:=by omega)(e:n+t.cnt<=yA:=by omega):O 372 [.pv t.p,.pv (num d),.loc 2 0,.loc 1 0] [(1,bx [num a]),(2,bx [num n])] (.pv ut) [(1,bx [num a]),(2,bx [num (n+t.occ (a+d))])]:=by
 have:=vA;have:=uA;have:=BB t (a+d);have g:=lA (a:=a) (b:=d);have e:=lA (a:=n) (b:=t.occ (a+d));exact o3 3 [10,11,12] g (Ci t (a+d) b h c) e
def kV(a:Nat):∀(f:Fm)(n d:Nat),a+d+f.cnt<=qA->f.mx<=qA*qA->n+f.cnt<=yA->O 205 [.pv f.p,.pv (num d),.fn 372 [.loc 2 0,.loc 1 0]] [(1,bx [num a]),(2,bx [num n])] (.pv ut) [(1,bx [num a]),(2,bx [num (n+f.occ (a+d))])]
 |.eq t u,n,d,b,h,c=>by
  have b:a+d+(1+t.cnt+u.cnt)<=qA:=b;have h:max t.mx u.mx<=qA*qA:=h;have c:n+(1+t.cnt+u.cnt)<=yA:=c;have:=BB t (a+d);have i:=Hi t a n d;have j:=Hi u a (n+t.occ (a+d)) d;have e:n+(Fm.eq t u).occ (a+d)=n+t.occ (a+d)+u.occ (a+d):=(Nat.add_assoc _ _ _).symm;rw[e];exact o2 3 [(20,.o [1] (QF (n+t.occ (a+d))) (.pv ut)),(20,.o [1] (QF (n+t.occ (a+d)+u.occ (a+d))) (.pv ut))] i j
 |.bin k f g,n,d,b,h,c=>by
  have b:a+d+(1+f.cnt+g.cnt)<=qA:=b;have h:max f.mx g.mx<=qA*qA:=h;have c:n+(1+f.cnt+g.cnt)<=yA:=c;have:=lH f (a+d);have i:=kV a f n d (by omega) (by omega) (by omega);have j:=kV a g (n+f.occ (a+d)) d (by omega) (by omega) (by omega);have e:n+(Fm.bin k f g).occ (a+d)=n+f.occ (a+d)+g.occ (a+d):=(Nat.add_assoc _ _ _).symm;rw[e];cases k<;>exact o2 3 [(37,.o [1] (QF (n+f.occ (a+d))) (.pv ut)),(37,.o [1] (QF (n+f.occ (a+d)+g.occ (a+d))) (.pv ut))] i j
 |.q k s f,n,d,b,h,c=>by
  have:=vA;have:=uA;have b:a+d+(1+f.cnt)<=qA:=b;have c:n+(1+f.cnt)<=yA:=c;have g:=lA (a:=d) (b:=1);have i:=kV a f n (d+1) (by omega) h (by omega);cases k<;>exact o2 3 [26,(37,.o [1] (QF (n+f.occ (a+(d+1)))) (.pv ut))] g i
def DR(f:Fm)(a:Nat)(h:a+f.cnt<=qA)(b:f.mx<=qA*qA):A 353 [f.p,num a] (num (f.occ a)):=by
 have:=vA;have:=uA;have g:=kV a f 0 0 (by omega) b (by omega);rw[Nat.zero_add]at g;exact f1 [(8,.o [1] (QF (f.occ a)) (.pv ut))] g
open Go.Lg
def Tm.fr:Tm->Nat|.v i=>i+1|.lam _ b=>b.fr-1|.n0 _=>0|.n1 _ a=>a.fr|.n2 _ a b=>max a.fr b.fr|.n3 _ _ a b c=>max (max a.fr b.fr) c.fr
def Tm.nf:Tm->Bool|.v _=>true|.lam _ b=>b.nf|.n0 _=>true|.n1 k a=>(Tm.n1 k a).red.isNone&&a.nf|.n2 k a b=>(Tm.n2 k a b).red.isNone&&(a.nf&&b.nf)|.n3 k s a b c=>(Tm.n3 k s a b c).red.isNone&&(a.nf&&(b.nf&&c.nf))
def Tm.nas:Tm->List (List PV)|.lam _ b=>[[.nptr [num b.kd,num b.ix,num b.tk,.slice b.te,.slice b.nas,num b.cnt,num b.fr,.flg b.nf]]]|.n1 _ a=>[[.nptr [num a.kd,num a.ix,num a.tk,.slice a.te,.slice a.nas,num a.cnt,num a.fr,.flg a.nf]]]|.n2 _ a b=>[[.nptr [num a.kd,num a.ix,num a.tk,.slice a.te,.slice a.nas,num a.cnt,num a.fr,.flg a.nf]],[.nptr [num b.kd,num b.ix,num b.tk,.slice b.te,.slice b.nas,num b.cnt,num b.fr,.flg b.nf]]]|.n3 _ _ a b c=>[[.nptr [num a.kd,num a.ix,num a.tk,.slice a.te,.slice a.nas,num a.cnt,num a.fr,.flg a.nf]],[.nptr [num b.kd,num b.ix,num b.tk,.slice b.te,.slice b.nas,num b.cnt,num b.fr,.flg b.nf]],[.nptr [num c.kd,num c.ix,num c.tk,.slice c.te,.slice c.nas,num c.cnt,num c.fr,.flg c.nf]]]|_=>[]
abbrev Tm.nd'(t:Tm):PV:=.nptr [num t.kd,num t.ix,num t.tk,.slice t.te,.slice t.nas,num t.cnt,num t.fr,.flg t.nf]
def pa:∀(t:Tm)(n:Nat),t.sc n↔t.fr<=n
 :=by intro x;induction x<;>grind[Tm.sc,Tm.fr]
def EL(z:Int):∀(t:Tm)(c:Nat),t.fr<=c->t.sh c z=t|.v i,c,h=>by simp only[Tm.fr]at h;simp only[Tm.sh,if_neg (show¬c<=i by omega)]|.lam s b,c,h=>by simp only[Tm.fr]at h;simp only[Tm.sh,EL z b (c+1) (by omega)]|.n0 k,c,h=>rfl|.n1 k a,c,h=>by simp only[Tm.sh,EL z a c h]|.n2 k a b,c,h=>by simp only[Tm.fr]at h;simp only[Tm.sh,EL z a c (by omega),EL z b c (by omega)]|.n3 k s a b d,c,h=>by simp only[Tm.fr]at h;simp only[Tm.sh,EL z a c (by omega),EL z b c (by omega),EL z d c (by omega)]
theorem EE:∀(t:Tm)(c:Nat),t.sh c (.ofNat 0)=t|.v i,c=>by simp[Tm.sh]|.lam s b,c=>by simp only[Tm.sh,EE b]|.n0 k,c=>rfl|.n1 k a,c=>by simp only[Tm.sh,EE a]|.n2 k a b,c=>by simp only[Tm.sh,EE a,EE b]|.n3 k s a b d,c=>by simp only[Tm.sh,EE a,EE b,EE d]
def FL(c:Nat)(S:Tm):∀(t:Tm)(d:Nat),t.fr<=c+d->t.put c S d=t|.v i,d,h=>by simp only[Tm.fr]at h;simp only[Tm.put,if_neg (show¬i=c+d by omega),if_neg (show¬c+d<i by omega)]|.lam s b,d,h=>by simp only[Tm.fr]at h;simp only[Tm.put,FL c S b (d+1) (by omega)]|.n0 k,d,h=>rfl|.n1 k a,d,h=>by simp only[Tm.put,FL c S a d h]|.n2 k a b,d,h=>by simp only[Tm.fr]at h;simp only[Tm.put,FL c S a d (by omega),FL c S b d (by omega)]|.n3 k s a b e,d,h=>by simp only[Tm.fr]at h;simp only[Tm.put,FL c S a d (by omega),FL c S b d (by omega),FL c S e d (by omega)]
theorem YJ:∀(t:Tm)(c:Nat),t.fr<=c->t.occ c=0|.v i,c,h=>by simp only[Tm.fr]at h;simp only[Tm.occ,if_neg (show¬i=c by omega)]|.lam s b,c,h=>by simp only[Tm.fr]at h;simp only[Tm.occ,YJ b (c+1) (by omega)]|.n0 k,c,h=>rfl|.n1 k a,c,h=>by simp only[Tm.occ,YJ a c h]|.n2 k a b,c,h=>by simp only[Tm.fr]at h;simp only[Tm.occ,YJ a c (by omega),YJ b c (by omega)]|.n3 k s a b d,c,h=>by simp only[Tm.fr]at h;simp only[Tm.occ,YJ a c (by omega),YJ b c (by omega),YJ d c (by omega)]
def yV:∀t:Tm,t.fr<=t.mx+1
 :=by intro x;induction x<;>grind[Tm.fr,Tm.mx]
def uV:∀(t:Tm)(n:Nat),t.sc n->t.mx<=n+t.cnt
 :=by intro x;induction x<;>grind[Tm.sc,Tm.mx,Tm.cnt]
def sa:∀(t:Tm){n m:Nat},n<=m->t.sc n->t.sc m:=λt n m h a=>(pa t m).2 (Nat.le_trans ((pa t n).1 a) h)
def SF(z:Nat):∀(t:Tm)(c n:Nat),t.sc n->(t.sh c (.ofNat z)).sc (n+z)
 |.v i,c,n,h=>by
  have h:i<n:=h;simp only[Tm.sh];split
  ·show((Int.ofNat i+.ofNat z).toNat)<n+z;have:(Int.ofNat i+.ofNat z).toNat=i+z:=rfl;omega
  show i<n+z;omega
 |.lam s b,c,n,h=>by
  have:=SF z b (c+1) (n+1) h;rw[show n+1+z=n+z+1 by omega]at this;exact this
 |.n0 k,c,n,h=>trivial|.n1 k a,c,n,h=>SF z a c n h|.n2 k a b,c,n,h=>⟨SF z a c n h.1,SF z b c n h.2⟩|.n3 k s a b d,c,n,h=>⟨SF z a c n h.1,SF z b c n h.2.1,SF z d c n h.2.2⟩
def QI(S:Tm)(n:Nat):∀(t:Tm)(d:Nat),t.sc (n+d+1)->(S.sc n\/t.occ d=0)->(t.put 0 S d).sc (n+d)
 |.v i,d,h,c=>by
  have h:i<n+d+1:=h;simp only[Tm.put,Nat.zero_add];split
  ·rcases c with c|c
   ·exact SF d S 0 n c
   grind[Tm.occ]
  split
  ·show i-1<n+d;omega
  show i<n+d;omega
 |.lam s b,d,h,c=>by
  have:=QI S n b (d+1) (by exact h) c;exact this
 |.n0 k,d,h,c=>trivial|.n1 k a,d,h,c=>QI S n a d h c|.n2 k a b,d,h,c=>by
  simp only[Tm.occ]at c;exact⟨QI S n a d h.1 (c.imp id (by omega)),QI S n b d h.2 (c.imp id (by omega))⟩
 |.n3 k s a b e,d,h,c=>by
  simp only[Tm.occ]at c;exact⟨QI S n a d h.1 (c.imp id (by omega)),QI S n b d h.2.1 (c.imp id (by omega)),QI S n e d h.2.2 (c.imp id (by omega))⟩
theorem ZH(z w:Nat):∀(t:Tm)(c:Nat),(t.sh c (.ofNat z)).sh c (.ofNat w)=t.sh c (.ofNat (z+w))
 |.v i,c=>by
  simp only[Tm.sh];split
  ·have e:(Int.ofNat i+.ofNat z).toNat=i+z:=rfl;simp only[Tm.sh,e,if_pos (show c<=i+z by omega)];have f:(Int.ofNat (i+z)+.ofNat w).toNat=i+z+w:=rfl;have g:(Int.ofNat i+.ofNat (z+w)).toNat=i+(z+w):=rfl;rw[f,g,Nat.add_assoc]
  rename_i h;simp only[Tm.sh,if_neg h]
 |.lam s b,c=>by simp only[Tm.sh,ZH z w b]|.n0 k,c=>rfl|.n1 k a,c=>by simp only[Tm.sh,ZH z w a]|.n2 k a b,c=>by simp only[Tm.sh,ZH z w a,ZH z w b]|.n3 k s a b d,c=>by simp only[Tm.sh,ZH z w a,ZH z w b,ZH z w d]
theorem Jw(n:Nat):∀{t r:Tm},t.red=some r->t.sc n->t.shp=true->r.sc n/\r.shp=true:=by
 refine@LJ (λt r=>t.sc n->t.shp=true->r.sc n/\r.shp=true) ?_ ?_ ?_ ?_ ?_ ?_ ?_
 ·intro a b h c;exact⟨h.1,(DA c).1⟩
 ·intro a b h c;exact⟨h.2,(DA c).2⟩
 ·intro s b a h c;obtain⟨i,d⟩:=DA c;obtain⟨_,e⟩:=DA i;exact⟨QI a n b 0 h.1 (.inl h.2),II 0 a b 0 (.inl d) e⟩
 ·intro s b f h c;obtain⟨_,d⟩:=DA c;exact⟨h.1,(DA d).1⟩
 ·intro s b f m h c;obtain⟨i,d⟩:=DA c;obtain⟨d,e⟩:=DA d;obtain⟨e,g⟩:=DA e;have g:m.shp=true:=g;refine⟨⟨⟨h.2.1,h.2.2⟩,h.1,h.2.1,h.2.2⟩,?_⟩;show((_&&_)&&(_&&(_&&(_&&_))))=true;rw[i,d,e,g];rfl
 ·intro s b f h c;obtain⟨_,d⟩:=DA c;exact⟨h.1,(DA d).1⟩
 intro s b f x l h c;obtain⟨i,d⟩:=DA c;obtain⟨d,e⟩:=DA d;obtain⟨e,g⟩:=DA e;obtain⟨g,k⟩:=DA g;have j:=h.2.2;refine⟨⟨⟨⟨h.2.1,j.1⟩,j.2⟩,h.1,h.2.1,j.2⟩,?_⟩;show(((_&&_)&&_)&&(_&&(_&&(_&&_))))=true;rw[i,d,e,g,k];rfl
open Go.Lg
def eP:∀(f:Fm)(n:Nat),f.sc n->f.mx<=n+f.cnt|.eq a b,n,h=>by have:=uV a n h.1;have:=uV b n h.2;grind[Fm.mx,Fm.cnt]|.bin k a b,n,h=>by have:=eP a n h.1;have:=eP b n h.2;grind[Fm.mx,Fm.cnt]|.q k s a,n,h=>by have:=eP a (n+1) h;grind[Fm.mx,Fm.cnt]
def bV:∀(f:Fm){n m:Nat},n<=m->f.sc n->f.sc m|.eq a b,n,m,h,c=>⟨sa a h c.1,sa b h c.2⟩|.bin k a b,n,m,h,c=>⟨bV a h c.1,bV b h c.2⟩|.q k s a,n,m,h,c=>bV a (Nat.succ_le_succ h) c
def RI(z:Nat):∀(f:Fm)(c n:Nat),f.sc n->(f.sh c (.ofNat z)).sc (n+z)
 |.eq a b,c,n,h=>⟨SF z a c n h.1,SF z b c n h.2⟩|.bin k a b,c,n,h=>⟨RI z a c n h.1,RI z b c n h.2⟩|.q k s a,c,n,h=>by
  have:=RI z a (c+1) (n+1) h;rw[show n+1+z=n+z+1 by omega]at this;exact this
def FN(S:Tm)(n:Nat):∀(f:Fm)(d:Nat),f.sc (n+d+1)->(S.sc n\/f.occ d=0)->(f.put 0 S d).sc (n+d)
 |.eq a b,d,h,c=>by
  simp only[Fm.occ]at c;exact⟨QI S n a d h.1 (c.imp id (by omega)),QI S n b d h.2 (c.imp id (by omega))⟩
 |.bin k a b,d,h,c=>by
  simp only[Fm.occ]at c;exact⟨FN S n a d h.1 (c.imp id (by omega)),FN S n b d h.2 (c.imp id (by omega))⟩
 |.q k s a,d,h,c=>by
  exact FN S n a (d+1) (by exact h) c
def Ii(z w:Nat):∀(f:Fm)(c:Nat),(f.sh c (.ofNat z)).sh c (.ofNat w)=f.sh c (.ofNat (z+w))
 :=by intro x;induction x<;>grind[Fm.sh,ZH]
def Ji:∀(f:Fm)(c:Nat),f.sh c (.ofNat 0)=f
 :=by intro x;induction x<;>grind[Fm.sh,EE]
structure FK(n:Nat)(f:Fm):Prop where
 cnt:f.cnt<=4096
 shp:f.shp=true
 sc:f.sc n
theorem VD:∀t:Tm,t.shp=true->t.tsz<=64
 |.v i,h=>Nat.zero_le _|.lam s b,h=>by
  obtain⟨e,c⟩:=DA h;have:=aD e;have:=VD b c
  grind[Tm.tsz]
 |.n0 k,h=>Nat.zero_le _|.n1 k a,h=>VD a h|.n2 k a b,h=>by
  obtain⟨e,c⟩:=DA h;have:=VD a e;have:=VD b c
  grind[Tm.tsz]
 |.n3 k s a b d,h=>by
  obtain⟨e,c⟩:=DA h;obtain⟨c,f⟩:=DA c;obtain⟨f,g⟩:=DA f;have:=aD e;have:=VD a c;have:=VD b f;have:=VD d g
  grind[Tm.tsz]
theorem FE:∀f:Fm,f.shp=true->f.tsz<=64
 |.eq a b,h=>by
  obtain⟨c,d⟩:=DA h;have:=VD a c;have:=VD b d
  grind[Fm.tsz]
 |.bin k a b,h=>by
  obtain⟨c,d⟩:=DA h;have:=FE a c;have:=FE b d
  grind[Fm.tsz]
 |.q k s a,h=>by
  obtain⟨c,d⟩:=DA h;have:=aD c;have:=FE a d
  grind[Fm.tsz]
def dV(a b:Nat):true=true/\(bif fA (.ofNat a) (.ofNat b)then Int.ofNat b else .ofNat a)=.ofNat (max a b):=by
 grind[NA,Nat.max_eq_right,GA,Nat.max_eq_left]
theorem ER(b:Nat):true=true/\(bif fA (.ofNat 0) (.ofNat b)then Int.ofNat b else .ofNat 0)=.ofNat b:=by
 have:=dV 0 b;rwa[Nat.zero_max]at this
def Kw(b:Nat):true=true/\(bif fA 0 (.ofNat b-1)then Int.ofNat b-1 else 0)=.ofNat (b-1):=by
 refine⟨rfl,?_⟩
 cases b with
 |zero=>rfl|succ n=>
  grind[ER]
def Lw(b:Nat)(h:b<=yA):eA (Int.ofNat b-1)=true/\Int.ofNat b-1=Int.ofNat b-1:=by
 have:=uA;exact⟨bP (by simp;omega) (by simp;omega),rfl⟩
def fV(n:Nat)(h:1+n<=yA:=by omega):eA (1+Int.ofNat n)=true/\1+Int.ofNat n=Int.ofNat (1+n):=lA (a:=1) (b:=n) h
abbrev Q8(l:List Tm):PV:=.slice (l.map λt=>[t.nd'])
def ta(i:Nat)(h:i+1<=yA:=by omega):A 385 [num 1,num i,zt,.slice []] (Tm.v i).nd':=
 f1 [53,(300013,.fb 1 (some true))] (lA (a:=i) (b:=1) h)
def Mw(k:K0):A 385 [num k.n,num 0,zt,.slice []] (Tm.n0 k).nd':=by
 cases k<;>exact f0 [(300013,.fb 1 (some true))]
def Ki(s:Ty)(b:Tm)(h:1+b.cnt<=yA)(a:b.fr<=yA):A 385 [num 2,num 0,s.p,.slice [[b.nd']]] (Tm.lam s b).nd':=
 f4 [(32,.z (1+b.cnt)),(44,.z b.fr),(63,.y (Int.ofNat b.fr-1)),(64,.z (b.fr-1)),(300013,.fb 1 (some b.nf))] (fV b.cnt h) (ER b.fr) (Lw b.fr a) (Kw b.fr)
def Li(k:K1)(a:Tm)(h:1+a.cnt<=yA):A 385 [num k.n,num 0,zt,.slice [[a.nd']]] (Tm.n1 k a).nd':=by
 have b:=fV a.cnt h;have c:=ER a.fr
 cases k with|succ=>exact f2 [(32,.z (1+a.cnt)),(44,.z a.fr),(300013,.fb 1 (some (Tm.n1 .succ a).nf))] b c|fst=>exact f2 [(32,.z (1+a.cnt)),(44,.z a.fr),(300013,.fb 1 (some (Tm.n1 .fst a).nf))] b c|snd=>exact f2 [(32,.z (1+a.cnt)),(44,.z a.fr),(300013,.fb 1 (some (Tm.n1 .snd a).nf))] b c
def GR(k:K2)(a b:Tm)(h:1+a.cnt+b.cnt<=yA:=by omega):A 385 [num k.n,num 0,zt,.slice [[a.nd'],[b.nd']]] (Tm.n2 k a b).nd':=by
 have c:=fV a.cnt;have d:=ER a.fr;have e:=lA (a:=1+a.cnt) (b:=b.cnt) h;have f:=dV a.fr b.fr
 cases k with|app=>exact f4 [(32,.z (1+a.cnt)),(44,.z a.fr),(32,.z (1+a.cnt+b.cnt)),(44,.z (max a.fr b.fr)),(300013,.fb 1 (some (Tm.n2 .app a b).nf))] c d e f|cons=>exact f4 [(32,.z (1+a.cnt)),(44,.z a.fr),(32,.z (1+a.cnt+b.cnt)),(44,.z (max a.fr b.fr)),(300013,.fb 1 (some (Tm.n2 .cons a b).nf))] c d e f|pair=>exact f4 [(32,.z (1+a.cnt)),(44,.z a.fr),(32,.z (1+a.cnt+b.cnt)),(44,.z (max a.fr b.fr)),(300013,.fb 1 (some (Tm.n2 .pair a b).nf))] c d e f
def Mi(k:K3)(s:Ty)(a b c:Tm)(h:1+a.cnt+b.cnt+c.cnt<=yA):A 385 [num k.n,num 0,s.p,.slice [[a.nd'],[b.nd'],[c.nd']]] (Tm.n3 k s a b c).nd':=by
 have d:=fV a.cnt;have e:=ER a.fr;have f:=lA (a:=1+a.cnt) (b:=b.cnt);have g:=dV a.fr b.fr;have i:=lA (a:=1+a.cnt+b.cnt) (b:=c.cnt) h;have j:=dV (max a.fr b.fr) c.fr
 cases k with|re=>exact f6 [(32,.z (1+a.cnt)),(44,.z a.fr),(32,.z (1+a.cnt+b.cnt)),(44,.z (max a.fr b.fr)),(32,.z (1+a.cnt+b.cnt+c.cnt)),(44,.z (max (max a.fr b.fr) c.fr)),(300013,.fb 1 (some (Tm.n3 .re s a b c).nf))] d e f g i j|fo=>exact f6 [(32,.z (1+a.cnt)),(44,.z a.fr),(32,.z (1+a.cnt+b.cnt)),(44,.z (max a.fr b.fr)),(32,.z (1+a.cnt+b.cnt+c.cnt)),(44,.z (max (max a.fr b.fr) c.fr)),(300013,.fb 1 (some (Tm.n3 .fo s a b c).nf))] d e f g i j
def aa(s:Ty)(b x:Tm)(h:1+x.cnt<=yA)(a:x.fr<=yA):A 395 [(Tm.lam s b).nd',.slice [[x.nd']]] (Tm.lam s x).nd':=f1 [18] (Ki s x h a)
def xa(k:K1)(b x:Tm)(h:1+x.cnt<=yA:=by omega):A 395 [(Tm.n1 k b).nd',.slice [[x.nd']]] (Tm.n1 k x).nd':=f1 [18] (Li k x h)
def gV(k:K2)(a b x y:Tm)(h:1+x.cnt+y.cnt<=yA:=by omega):A 395 [(Tm.n2 k a b).nd',.slice [[x.nd'],[y.nd']]] (Tm.n2 k x y).nd':=f1 [18] (GR k x y h)
def GN(k:K3)(s:Ty)(a b c x y z:Tm)(h:1+x.cnt+y.cnt+z.cnt<=yA:=by omega):A 395 [(Tm.n3 k s a b c).nd',.slice [[x.nd'],[y.nd'],[z.nd']]] (Tm.n3 k s x y z).nd':=f1 [18] (Mi k s x y z h)
def Aa(f a:Tm)(h:1+f.cnt+a.cnt<=yA:=by omega):A 400 [f.nd',.slice [[a.nd']]] (Tm.n2 .app f a).nd':=f1 [17] (GR .app f a h)
def Nw(f a b:Tm)(h:1+(1+f.cnt+a.cnt)+b.cnt<=yA:=by omega):A 400 [f.nd',.slice [[a.nd'],[b.nd']]] (Tm.n2 .app (.n2 .app f a) b).nd':=
 f2 [17,17] (GR .app f a) (GR .app (.n2 .app f a) b h)
def Ow(t:Tm){n:Nat}(h:t.mx+1<=n):t.fr<=n:=Nat.le_trans (yV t) h
def GL:∀t:Tm,t.cnt<=yA->t.mx+1<=yA->A 375 [t.p] t.nd'
 |.v i,h,d=>f1 [26] (ta i d)|.lam s b,h,d=>by
  have h:1+b.cnt<=yA:=h;exact f3 [(15,.r b.nd'),(300003,.ok),(300003,.f 2 [[b.nd']]),(26,.r (Tm.lam s b).nd')] (GL b (by omega) d) (rfl:kA [[b.nd']]=kA [[b.nd']]) (Ki s b h (Ow b d))
 |.n0 k,h,d=>f1 [26] (Mw k)|.n1 k a,h,d=>by
  have h:1+a.cnt<=yA:=h;exact f3 [(15,.r a.nd'),(300003,.ok),(300003,.f 2 [[a.nd']]),(26,.r (Tm.n1 k a).nd')] (GL a (by omega) d) (rfl:kA [[a.nd']]=kA [[a.nd']]) (Li k a h)
 |.n2 k a b,h,d=>by
  have h:1+a.cnt+b.cnt<=yA:=h;have d:max a.mx b.mx+1<=yA:=d;exact f4 [(15,.r a.nd'),(15,.r b.nd'),(300003,.ok),(300003,.ok),(300003,.f 2 [[a.nd'],[b.nd']]),(26,.r (Tm.n2 k a b).nd')] (GL a (by omega) (by omega)) (GL b (by omega) (by omega)) (rfl:kA [[a.nd'],[b.nd']]=kA [[a.nd'],[b.nd']]) (GR k a b h)
 |.n3 k s a b c,h,d=>by
  have h:1+a.cnt+b.cnt+c.cnt<=yA:=h;have d:max a.mx (max b.mx c.mx)+1<=yA:=d;exact f5 [(15,.r a.nd'),(15,.r b.nd'),(15,.r c.nd'),(300003,.ok),(300003,.ok),(300003,.ok),(300003,.f 2 [[a.nd'],[b.nd'],[c.nd']]),(26,.r (Tm.n3 k s a b c).nd')] (GL a (by omega) (by omega)) (GL b (by omega) (by omega)) (GL c (by omega) (by omega)) (rfl:kA [[a.nd'],[b.nd'],[c.nd']]=kA [[a.nd'],[b.nd'],[c.nd']]) (Mi k s a b c h)
def ZJ:∀t:Tm,A 377 [t.nd'] t.p|.v i=>f1 [18] uD|.lam s b=>f2 [18,32] (LF s) (ZJ b)|.n0 k=>f1 [18] uD|.n1 k b=>f2 [18,32] uD (ZJ b)|.n2 k b c=>f3 [18,32,32] uD (ZJ b) (ZJ c)|.n3 k s b c d=>f4 [18,32,32,32] (LF s) (ZJ b) (ZJ c) (ZJ d)
def TF(t:Tm):A 388 [t.nd'] (.bool t.red.isSome):=by
 cases t with
 |v i=>exact f0 []|lam s b=>exact f0 []|n0 k=>cases k<;>exact f0 []
 |n1 k a=>cases k with
  |succ=>exact f0 []|_=>cases a with
   |v i=>exact f0 []|lam s b=>exact f0 []|n0 l=>cases l<;>exact f0 []
   |n1 l a=>cases l<;>exact f0 []
   |n2 l a b=>cases l<;>exact f0 []
   |n3 l s a b c=>cases l<;>exact f0 []
 |n2 k f b=>cases k with
  |app=>cases f with
   |v i=>exact f0 []|lam s b=>exact f0 []|n0 l=>cases l<;>exact f0 []
   |n1 l a=>cases l<;>exact f0 []
   |n2 l a b=>cases l<;>exact f0 []
   |n3 l s a b c=>cases l<;>exact f0 []
  |_=>exact f0 []
 |n3 k s a b d=>cases k<;>cases d with
   |v i=>exact f0 []|lam s b=>exact f0 []|n0 l=>cases l<;>exact f0 []
   |n1 l a=>cases l<;>exact f0 []
   |n2 l a b=>cases l<;>exact f0 []
   |n3 l s a b c=>cases l<;>exact f0 []
end Go.Proofs.YtmihmecnjjmdgaaGreatDoor
