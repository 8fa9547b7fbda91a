/- Contracts of functions; no conditions. -/
import Derived.Test.YtbebdmlomjpamaaGreatDoorAccC3
set_option linter.all false
set_option maxHeartbeats 4000000
namespace Go.Proofs.YtbebdmlomjpamaaGreatDoor
open Go.Lg
set_option maxRecDepth 100000
def Q0{s:Ty}(h:s.kd=2):s=.list:=by
 cases s with
 |list=>rfl|two k a b=>cases k<;>cases h
 |_=>cases h
def TW[PB]{g:List Ty}{u:Ty}{f:Fm}(a:g.length<=1024)(a:f.chk=0/\f.ty (g++[u])):f.mx<=6000:=by
 have h:=PB.mx (pC _ _ a.2);rw[gz]at h;have h:f.mx<=g.length+1+f.cnt:=h;have:=(Fm.chk0 a.1).1;omega
def Ql[PB]{g:List Ty}{u:Ty}{f:Fm}(a:g.length<=1024)(b:f.chk=0/\f.ty (g++[u])):max f.mx (0+f.cnt)<=536870912:=by
 have:=TW a b;have:=(Fm.chk0 b.1).1;omega
def Rl[PB]{g:List Ty}{u:Ty}{f:Fm}(a:g.length<=1024)(b:f.chk=0/\f.ty (g++[u])){z m:Nat}(c:z<=2)(c:m<=2):max (f.sh 1 (.ofNat z)).mx (m+(f.sh 1 (.ofNat z)).cnt)<=536870912:=by
 have:=TW a b;have:=(Fm.chk0 b.1).1;have h:(f.sh 1 (.ofNat z)).mx<=f.mx+z:=yH (.ofNat z) f 1;rw[MD];omega
def Sl[PB]{g:List Ty}{t:Tm}{s:Ty}(a:g.length<=1024)(a:t.chk=0)(b:t.tyR g=.ok s)(h:t.cnt<=65536:=by omega):t.sm:=⟨a,by have:=PB.mt b;omega⟩
def aae{p:Prop}(h:p:=by simp only[Tm.mx];omega):=h
def T0[PB](H:MF)(f:Fm)(t:Tm){a b:Pf}(Ha:rE a)(Hb:rE b):dG 223 (.ind false f t a b):=by
 intro d g i M j;have E:=zA;have:=yA;have:mA=8388608:=rfl;have W:eB=qA*qA-1001*4096:=rfl;have o:=j.gl;have:=j.hl;have X:M+mA*(1+t.cnt+f.cnt+a.cnt+b.cnt)<=eB:=j.mb;have:max (max (max t.tsz f.tsz) a.tsz) b.tsz<=qA:=j.tsz;have:max (max (max t.mx f.mx) a.mx) b.mx<=M:=j.mx;have:1+t.cnt+f.cnt+a.cnt+b.cnt<=65536:=j.cnt;have Y:mA*(1+t.cnt+f.cnt+a.cnt+b.cnt)=mA+mA*t.cnt+mA*f.cnt+mA*a.cnt+mA*b.cnt:=by rw[i4,i4,i4,i4,m0]
 rw[Y]at X;rw[E]at W;have:=UE t;have v:=jT g;have y:=jG 2 32 Ty.c_len bb g .nat a6 (by simp only[maxLen];omega);have⟨e,p,u,p0⟩:=GW (g++[.nat]) f (RW j.g1 bb) a6 a9;rw[od]at p
 cases e with|succ n=>exact⟨.er n,f3 [(32,.ok),(35,.ok),37] v y p,RR.good_er (ej n) (λ_ _ ⟨⟨h,k⟩,_⟩=>(p0 h k).resolve_left (ej n))⟩|zero=>
 clear p0;have A:=Fm.chk0 (u rfl).1;have⟨e,F,q1,p1⟩:=td d g i t 1 j.g1
 cases e with|succ n=>exact⟨.er n,f4 [(32,.ok),(35,.ok),37,44] v y p F,RR.good_er (ej n) (λ_ _ ⟨_,⟨h,k⟩,_⟩=>(p1 _ h k rfl).resolve_left (ej n))⟩|zero=>
 obtain⟨l,G⟩:t.chk=0/\t.tyR g=.ok (lT false):=by
  have⟨Z,s,k2,k3⟩:=q1 rfl;exact⟨Z,by rw[k2,EW k3];rfl⟩
 clear q1 p1;have hpa:Pre d g i M a:=j.sub (by show a.cnt<=1+t.cnt+f.cnt+a.cnt+b.cnt;omega) (by show a.tsz<=max (max (max t.tsz f.tsz) a.tsz) b.tsz;omega) (by show a.mx<=max (max (max t.mx f.mx) a.mx) b.mx;omega);have I:=PS 4;have⟨w,e,J,q2,b1,b2,b5⟩:=nQ Ha d g i M hpa f (.n0 .zero) a6 (by rw[E];omega) a6 bb bb bb aae;by_cases K:e=0;rotate_left
 ·obtain⟨n,rfl⟩:=aan K;exact⟨.er n,f6 [(32,.ok),(35,.ok),37,44,56,57] v y p F I J,RR.good_er (ej n) (λq _ ⟨_,_,w,_⟩=>(b5 (u rfl).1 rfl (Ql o (u rfl)) q w).resolve_left (ej n))⟩
 subst K;clear b5;have⟨fa,⟨_,_,⟨ja,j1,j2,j3,j4⟩,_,_,_⟩,wa,hwa,hma⟩:=q2 rfl;have⟨e,U,q4⟩:=vT d g i 1 1
 cases e with|succ n=>exact⟨.er n,f7 [(32,.ok),(35,.ok),37,44,56,57,65] v y p F I J U,RR.good_er (ej n) (λ_ _ _=>uT q4.2)⟩|zero=>
 have B:=q4.1 rfl;clear q4;have g6:=yd d g .nat i a6 a6 (λf hf=>(j.h1 f hf).hyp a6);have hf1:FO (M+1) f:=⟨A.1,a6,a6⟩;have g7:=JW d (g++[.nat]) (i.map (Fm.sh 0 1)) f a9;have g8:=WD f 1 1 a6 a6 (by rw[E];omega) a6;have g9:=QS 5 (.v 0);have hpb:Pre d (g++[.nat]) (i.map (Fm.sh 0 1)++[f]) (M+1) b:=j.to a6 (by
  intro x hx;rcases eh.1 hx with h|h
  ·exact QW j.h1 1 x h
  ·simp at h;subst h;exact hf1) (by
  intro x hx;rcases eh.1 hx with h|h
  ·exact j.g1 x h
  simp at h;subst h;decide) a9 a9 (by show b.cnt<=1+t.cnt+f.cnt+a.cnt+b.cnt;omega) (by show b.tsz<=max (max (max t.tsz f.tsz) a.tsz) b.tsz;omega) (by show b.mx<=max (max (max t.mx f.mx) a.mx) b.mx;omega) a6
 have:(f.sh 1 1).mx<=f.mx+1:=yH 1 f 1;have:(f.sh 1 1).cnt=f.cnt:=MD 1 f 1;have:(f.sh 1 1).tsz=f.tsz:=kH 1 f 1;have⟨m,e,C,q5,b3,b4,b6⟩:=nQ Hb d (g++[.nat]) (i.map (Fm.sh 0 1)++[f]) (M+1) hpb (f.sh 1 1) (Tm.n1 .succ (.v 0)) a6 (by rw[E];omega) a6 bb bb bb aae;by_cases K:e=0;rotate_left
 ·obtain⟨n,rfl⟩:=aan K;exact⟨.er n,fk [(32,.ok),(35,.ok),(37,.N 0),(44,.N 0),(56,.r (Tm.n0 .zero).p),(57,.U [NA w,num 0]),(65,.N 0),(74,.r (aB d (g++[.nat]) (i.map (Fm.sh 0 1)))),(76,.r (aB d (g++[.nat]) (i.map (Fm.sh 0 1)++[f]))),(82,.r (f.sh 1 1).p),(85,.r (Tm.n1 .succ (.v 0)).p),(86,.U [NA m,num (n+1)])] (And.intro v (And.intro y (And.intro p (And.intro F (And.intro I (And.intro J (And.intro U (And.intro g6 (And.intro g7 (And.intro g8 (And.intro g9 (And.intro C (Eq.refl ((RR.er n).p)))))))))))))),RR.good_er (ej n) (λq _ ⟨_,_,_,w,_⟩=>(b6 (Fm.chk_i (by rw[gQ];exact A.2) (by rw[MD];exact A.1)) rfl (Rl o (u rfl) bb bb) ((q.up1 .nat).snoc (pC _ _ (u rfl).2)) w).resolve_left (ej n))⟩
 subst K;clear b6;have⟨fb,⟨_,_,⟨jb,Z,k2,k3,k4⟩,_,_,_⟩,wb,hw2,hm2⟩:=q5 rfl;have L:t.mx<=qA*qA:=by rw[E];omega
 have⟨u1,N,p1,p2,p3,_⟩:=OW H t a6 a6 L;have⟨V,O,p4,p5,p6,_⟩:=H.union u1 w a6 (λz c=>by have:=p2 z c;omega) (λz c=>by have:=b1 z c;omega);have hwb:∀z∈m,z<=bA:=λz c=>by have:=b3 z c;omega
 have P:=MW 1 m a6 hwb;have:=LW 1 m;have Q:∀z∈WA 1 m,z<=M+1+mA*b.cnt:=wT (λz c=>b3 z c);have R:∀z∈V,z<=M+mA*a.cnt:=λz c=>by
  rcases p5 z c with h|h
  ·have:=p2 z h;omega
  exact b1 z h
 have⟨D,S,s1,s2,s3,sA⟩:=H.union V (WA 1 m) a6 (λz c=>by have:=R z c;omega) (λz c=>by have:=Q z c;omega);have⟨r,T,q8⟩:=mQ f t a6 (by rw[E];omega) a6 a6 L;rcases q8 with ⟨n,rfl,q8⟩|⟨rfl,q9⟩
 ·exact⟨⟨0,0,[],[],[],D,n+1⟩,fk [(32,.ok),(35,.ok),(37,.N 0),(44,.N 0),(56,.r (Tm.n0 .zero).p),(57,.U [NA w,num 0]),(65,.N 0),(74,.r (aB d (g++[.nat]) (i.map (Fm.sh 0 1)))),(76,.r (aB d (g++[.nat]) (i.map (Fm.sh 0 1)++[f]))),(82,.r (f.sh 1 1).p),(85,.r (Tm.n1 .succ (.v 0)).p),(86,.U [NA m,num 0]),(96,.r (FR.er n).p),(101,.r (NA u1)),(103,.r (NA V)),(105,.r (NA (WA 1 m))),(106,.r (NA D))] (And.intro v (And.intro y (And.intro p (And.intro F (And.intro I (And.intro J (And.intro U (And.intro g6 (And.intro g7 (And.intro g8 (And.intro g9 (And.intro C (And.intro T (And.intro N (And.intro O (And.intro P (And.intro S (Eq.refl (RR.p (⟨0,0,[],[],[],D,n+1⟩)))))))))))))))))))),RR.good_er (ej n) (λ_ _ _=>by rw[q8 ⟨(u rfl).1,hV (TW o (u rfl)) bb⟩ (Sl o l G)];exact(by decide:Lm (3+1)))⟩
 have h1:=nJ 0 t f 0;have:=cK 0 t f 0;refine⟨.of (f.put 0 t 0) D 0,fk [(32,.ok),(35,.ok),(37,.N 0),(44,.N 0),(56,.r (Tm.n0 .zero).p),(57,.U [NA w,num 0]),(65,.N 0),(74,.r (aB d (g++[.nat]) (i.map (Fm.sh 0 1)))),(76,.r (aB d (g++[.nat]) (i.map (Fm.sh 0 1)++[f]))),(82,.r (f.sh 1 1).p),(85,.r (Tm.n1 .succ (.v 0)).p),(86,.U [NA m,num 0]),(96,.r (FR.ok (f.put 0 t 0)).p),(101,.r (NA u1)),(103,.r (NA V)),(105,.r (NA (WA 1 m))),(106,.r (NA D))] (And.intro v (And.intro y (And.intro p (And.intro F (And.intro I (And.intro J (And.intro U (And.intro g6 (And.intro g7 (And.intro g8 (And.intro g9 (And.intro C (And.intro T (And.intro N (And.intro O (And.intro P (And.intro S (Eq.refl ((RR.of (f.put 0 t 0) D 0).p))))))))))))))))))),RR.ok λ_=>⟨_,rfl,⟨by show(f.put 0 t 0).cnt<=qA;omega,by show(f.put 0 t 0).mx<=M+mA*(1+t.cnt+f.cnt+a.cnt+b.cnt);rw[Y];omega,by show(f.put 0 t 0).tsz<=qA;omega,⟨.ind false f t ja jb _,by rw[<-j1,<-Z];rfl,rfl,λhc=>⟨hc,u rfl,⟨l,G⟩,⟨j3,wa,hwa,by rw[j2];exact hma⟩,B,⟨k3,wb,hw2,by rw[k2];exact hm2⟩,lQ q9⟩,λz c=>?_⟩,sA,λz c=>?_,by show D.length<=1+t.cnt+f.cnt+a.cnt+b.cnt;omega⟩⟩⟩
 ·rcases c.2 with h|h|h
  ·exact s1 z (.inl (p4 z (.inl (p1 l z h))))
  ·exact s1 z (.inl (p4 z (.inr (j4 z h))))
  exact s1 z (.inr (KW (k4 _ h)))
 show z<=M+mA*(1+t.cnt+f.cnt+a.cnt+b.cnt);rw[Y];rcases s2 z c with h|h
 ·have:=R z h;omega
 have:=Q z h;omega
def U0[PB](H:MF)(f:Fm)(t:Tm){a b:Pf}(Ha:rE a)(Hb:rE b):dG 224 (.ind true f t a b):=by
 intro d g i M j;have v:=zA;have:=yA;have:mA=8388608:=rfl;have W:eB=qA*qA-1001*4096:=rfl;have o:=j.gl;have:=j.hl;have X:M+mA*(1+t.cnt+f.cnt+a.cnt+b.cnt)<=eB:=j.mb;have:max (max (max t.tsz f.tsz) a.tsz) b.tsz<=qA:=j.tsz;have:max (max (max t.mx f.mx) a.mx) b.mx<=M:=j.mx;have:1+t.cnt+f.cnt+a.cnt+b.cnt<=65536:=j.cnt;have Y:mA*(1+t.cnt+f.cnt+a.cnt+b.cnt)=mA+mA*t.cnt+mA*f.cnt+mA*a.cnt+mA*b.cnt:=by rw[i4,i4,i4,i4,m0]
 rw[Y]at X;rw[v]at W;have:=UE t;have y:=jT g;have A:=jG 2 32 Ty.c_len bb g .list a6 (by simp only[maxLen];omega);have⟨e,p,u,p0⟩:=GW (g++[.list]) f (RW j.g1 bb) a6 a9;rw[od]at p
 cases e with|succ n=>exact⟨.er n,f3 [(32,.ok),(35,.ok),37] y A p,RR.good_er (ej n) (λ_ _ ⟨⟨h,k⟩,_⟩=>(p0 h k).resolve_left (ej n))⟩|zero=>
 clear p0;have B:=Fm.chk0 (u rfl).1;have⟨e,F,q1,p1⟩:=td d g i t 2 j.g1
 cases e with|succ n=>exact⟨.er n,f4 [(32,.ok),(35,.ok),37,44] y A p F,RR.good_er (ej n) (λ_ _ ⟨_,⟨h,k⟩,_⟩=>(p1 _ h k rfl).resolve_left (ej n))⟩|zero=>
 obtain⟨l,G⟩:t.chk=0/\t.tyR g=.ok (lT true):=by
  have⟨Z,s,k2,k3⟩:=q1 rfl;exact⟨Z,by rw[k2,Q0 k3];rfl⟩
 clear q1 p1;have hpa:Pre d g i M a:=j.sub (by show a.cnt<=1+t.cnt+f.cnt+a.cnt+b.cnt;omega) (by show a.tsz<=max (max (max t.tsz f.tsz) a.tsz) b.tsz;omega) (by show a.mx<=max (max (max t.mx f.mx) a.mx) b.mx;omega);have I:=PS 7;have⟨w,e,J,q2,b1,b2,b5⟩:=nQ Ha d g i M hpa f (.n0 .nil) a6 (by rw[v];omega) a6 bb bb bb aae;by_cases K:e=0;rotate_left
 ·obtain⟨n,rfl⟩:=aan K;exact⟨.er n,f6 [(32,.ok),(35,.ok),37,44,56,57] y A p F I J,RR.good_er (ej n) (λq _ ⟨_,_,w,_⟩=>(b5 (u rfl).1 rfl (Ql o (u rfl)) q w).resolve_left (ej n))⟩
 subst K;clear b5;have⟨fa,⟨_,_,⟨ja,j1,j2,j3,j4⟩,_,_,_⟩,wa,hwa,hma⟩:=q2 rfl;have⟨e,U,q4⟩:=vT d g i 2 1
 cases e with|succ n=>exact⟨.er n,f7 [(32,.ok),(35,.ok),37,44,56,57,65] y A p F I J U,RR.good_er (ej n) (λ_ _ _=>uT q4.2)⟩|zero=>
 have C:=q4.1 rfl;clear q4;have g6:=G0 d g .nat .list i a6 a6 (λf hf=>(j.h1 f hf).hyp a6);have hf1:FO (M+2) (f.sh 1 1):=by have h:=yH 1 f 1;simp at h;exact⟨by rw[MD];exact B.1,a6,by rw[kH];omega⟩
 have gh:=WD f 1 1 a6 a6 (by rw[v];omega) a6;have g7:=JW d (g++[.nat,.list]) (i.map (Fm.sh 0 2)) (f.sh 1 1) a9;have g8:=WD f 1 2 a6 a6 (by rw[v];omega) a6;have g9:=WG 8 (.v 1) (.v 0);have hpb:Pre d (g++[.nat,.list]) (i.map (Fm.sh 0 2)++[(f.sh 1 1)]) (M+2) b:=j.to a6 (by
  intro x hx;rcases eh.1 hx with h|h
  ·exact QW j.h1 2 x h
  ·simp at h;subst h;exact hf1) (by
  intro x hx;rcases eh.1 hx with h|h
  ·exact j.g1 x h
  simp at h;rcases h with rfl|rfl<;>decide) a9 a9 (by show b.cnt<=1+t.cnt+f.cnt+a.cnt+b.cnt;omega) (by show b.tsz<=max (max (max t.tsz f.tsz) a.tsz) b.tsz;omega) (by show b.mx<=max (max (max t.mx f.mx) a.mx) b.mx;omega) a6
 have:(f.sh 1 2).mx<=f.mx+2:=yH 2 f 1;have:(f.sh 1 2).cnt=f.cnt:=MD 2 f 1;have:(f.sh 1 2).tsz=f.tsz:=kH 2 f 1;have⟨m,e,D,q5,b3,b4,b6⟩:=nQ Hb d (g++[.nat,.list]) (i.map (Fm.sh 0 2)++[(f.sh 1 1)]) (M+2) hpb (f.sh 1 2) (Tm.n2 .cons (.v 1) (.v 0)) a6 (by rw[v];omega) a6 bb bb bb aae;by_cases K:e=0;rotate_left
 ·obtain⟨n,rfl⟩:=aan K;exact⟨.er n,fk [(32,.ok),(35,.ok),(37,.N 0),(44,.N 0),(56,.r (Tm.n0 .nil).p),(57,.U [NA w,num 0]),(65,.N 0),(75,.r (aB d (g++[.nat,.list]) (i.map (Fm.sh 0 2)))),(77,.r (f.sh 1 1).p),(78,.r (aB d (g++[.nat,.list]) (i.map (Fm.sh 0 2)++[(f.sh 1 1)]))),(84,.r (f.sh 1 2).p),(88,.r (Tm.n2 .cons (.v 1) (.v 0)).p),(89,.U [NA m,num (n+1)])] (And.intro y (And.intro A (And.intro p (And.intro F (And.intro I (And.intro J (And.intro U (And.intro g6 (And.intro gh (And.intro g7 (And.intro g8 (And.intro g9 (And.intro D (Eq.refl ((RR.er n).p))))))))))))))),RR.good_er (ej n) (λq _ ⟨_,_,_,w,_⟩=>(b6 (Fm.chk_i (by rw[gQ];exact B.2) (by rw[MD];exact B.1)) rfl (Rl o (u rfl) bb bb) ((q.up2 .nat .list).snoc (PB.si (pC _ _ (u rfl).2))) w).resolve_left (ej n))⟩
 subst K;clear b6;have⟨fb,⟨_,_,⟨jb,Z,k2,k3,k4⟩,_,_,_⟩,wb,hw2,hm2⟩:=q5 rfl;have L:t.mx<=qA*qA:=by rw[v];omega
 have⟨u1,N,p1,p2,p3,_⟩:=OW H t a6 a6 L;have⟨V,O,p4,p5,p6,_⟩:=H.union u1 w a6 (λz c=>by have:=p2 z c;omega) (λz c=>by have:=b1 z c;omega);have hwb:∀z∈m,z<=bA:=λz c=>by have:=b3 z c;omega
 have P:=MW 2 m a6 hwb;have:=LW 2 m;have Q:∀z∈WA 2 m,z<=M+2+mA*b.cnt:=wT (λz c=>b3 z c);have R:∀z∈V,z<=M+mA*a.cnt:=λz c=>by
  rcases p5 z c with h|h
  ·have:=p2 z h;omega
  exact b1 z h
 have⟨E,S,s1,s2,s3,sA⟩:=H.union V (WA 2 m) a6 (λz c=>by have:=R z c;omega) (λz c=>by have:=Q z c;omega);have⟨r,T,q8⟩:=mQ f t a6 (by rw[v];omega) a6 a6 L;rcases q8 with ⟨n,rfl,q8⟩|⟨rfl,q9⟩
 ·exact⟨⟨0,0,[],[],[],E,n+1⟩,fk [(32,.ok),(35,.ok),(37,.N 0),(44,.N 0),(56,.r (Tm.n0 .nil).p),(57,.U [NA w,num 0]),(65,.N 0),(75,.r (aB d (g++[.nat,.list]) (i.map (Fm.sh 0 2)))),(77,.r (f.sh 1 1).p),(78,.r (aB d (g++[.nat,.list]) (i.map (Fm.sh 0 2)++[(f.sh 1 1)]))),(84,.r (f.sh 1 2).p),(88,.r (Tm.n2 .cons (.v 1) (.v 0)).p),(89,.U [NA m,num 0]),(99,.r (FR.er n).p),(104,.r (NA u1)),(106,.r (NA V)),(108,.r (NA (WA 2 m))),(109,.r (NA E))] (And.intro y (And.intro A (And.intro p (And.intro F (And.intro I (And.intro J (And.intro U (And.intro g6 (And.intro gh (And.intro g7 (And.intro g8 (And.intro g9 (And.intro D (And.intro T (And.intro N (And.intro O (And.intro P (And.intro S (Eq.refl (RR.p (⟨0,0,[],[],[],E,n+1⟩))))))))))))))))))))),RR.good_er (ej n) (λ_ _ _=>by rw[q8 ⟨(u rfl).1,hV (TW o (u rfl)) bb⟩ (Sl o l G)];exact(by decide:Lm (3+1)))⟩
 have h1:=nJ 0 t f 0;have:=cK 0 t f 0;refine⟨.of (f.put 0 t 0) E 0,fk [(32,.ok),(35,.ok),(37,.N 0),(44,.N 0),(56,.r (Tm.n0 .nil).p),(57,.U [NA w,num 0]),(65,.N 0),(75,.r (aB d (g++[.nat,.list]) (i.map (Fm.sh 0 2)))),(77,.r (f.sh 1 1).p),(78,.r (aB d (g++[.nat,.list]) (i.map (Fm.sh 0 2)++[(f.sh 1 1)]))),(84,.r (f.sh 1 2).p),(88,.r (Tm.n2 .cons (.v 1) (.v 0)).p),(89,.U [NA m,num 0]),(99,.r (FR.ok (f.put 0 t 0)).p),(104,.r (NA u1)),(106,.r (NA V)),(108,.r (NA (WA 2 m))),(109,.r (NA E))] (And.intro y (And.intro A (And.intro p (And.intro F (And.intro I (And.intro J (And.intro U (And.intro g6 (And.intro gh (And.intro g7 (And.intro g8 (And.intro g9 (And.intro D (And.intro T (And.intro N (And.intro O (And.intro P (And.intro S (Eq.refl ((RR.of (f.put 0 t 0) E 0).p)))))))))))))))))))),RR.ok λ_=>⟨_,rfl,⟨by show(f.put 0 t 0).cnt<=qA;omega,by show(f.put 0 t 0).mx<=M+mA*(1+t.cnt+f.cnt+a.cnt+b.cnt);rw[Y];omega,by show(f.put 0 t 0).tsz<=qA;omega,⟨.ind true f t ja jb _,by rw[<-j1,<-Z];rfl,rfl,λhc=>⟨hc,u rfl,⟨l,G⟩,⟨j3,wa,hwa,by rw[j2];exact hma⟩,C,⟨k3,wb,hw2,by rw[k2];exact hm2⟩,lQ q9⟩,λz c=>?_⟩,sA,λz c=>?_,by show E.length<=1+t.cnt+f.cnt+a.cnt+b.cnt;omega⟩⟩⟩
 ·rcases c.2 with h|h|h
  ·exact s1 z (.inl (p4 z (.inl (p1 l z h))))
  ·exact s1 z (.inl (p4 z (.inr (j4 z h))))
  exact s1 z (.inr (KW (k4 _ h)))
 show z<=M+mA*(1+t.cnt+f.cnt+a.cnt+b.cnt);rw[Y];rcases s2 z c with h|h
 ·have:=R z h;omega
 have:=Q z h;omega
abbrev dH:List PV:=[num 0,num 0,.slice [],.slice [],.slice []]
def xd:A 82 [.agg dH] (.agg dH):=f1 [12] VG
def Tl(k:FB)(f:Fm):A 51 [num k.n,f.p,.agg dH] (.agg [num k.n,num 0,.slice [],.slice [],.slice [f.c,dH]]):=f2 [9,11] (mE f) xd
abbrev qz(k:FQ)(s:Ty)(x:List PV):List PV:=[num k.n,num s.kd,.slice s.es,.slice [],.slice [x]]
def V0(k:FQ)(s:Ty):A 52 [num k.n,s.p,.agg dH] (.agg (qz k s dH)):=f2 [9,11] (xD s) xd
def X0(k:FQ)(s:Ty):A 82 [.agg (qz k s dH)] (.agg (qz k s dH)):=f2 [12,39] (xD s) xd
def Y0(k l:FQ)(s u:Ty):A 52 [num k.n,s.p,.agg (qz l u dH)] (.agg (qz k s (qz l u dH))):=f2 [9,11] (xD s) (X0 l u)
def Z0[PB]{a:List Fm}{g:List Ty}{b:List Fm}{c:Jt}{s u:Ty}{y:Fm}(d:g.length<=1024)(h:Hq a g b)(e:c.f=.q .all s (.q .ex u y))(d:c.D a g b):(y.sh 2 1).sm:=by
 have a:=PB.mx (PB.tq h d);have b:=AI d;rw[e]at a b;have c:=(Fm.chk0 b).1;have a:y.mx<=g.length+(1+(1+y.cnt)):=a;have c:1+(1+y.cnt)<=4096:=c;have:(y.sh 2 1).mx<=y.mx+1:=yH 1 y 2;have a:y.shp=true:=(vM (vM (Fm.chk0 b).2).2).2;exact⟨Fm.chk_i (by rw[gQ];exact a) (by rw[MD];omega),a6⟩
def C1[PB]{a:Pf}(R:rE a):dG 227 (.p1 .choice a):=by
 intro i g j M m;have p:=zA;have:=yA;have:mA=8388608:=rfl;have t:eB=qA*qA-1001*4096:=rfl;have B:M+mA*(1+a.cnt)<=eB:=m.mb;have:1+a.cnt<=65536:=m.cnt;have C:mA*(1+a.cnt)=mA+mA*a.cnt:=by rw[i4,m0]
 rw[C]at B;rw[p]at t;have D:Pre i g j M a:=m.sub (by show a.cnt<=1+a.cnt;omega) (e6 _) (e6 _);have⟨r,l,q⟩:=R _ _ _ _ D
 cases r with|er n=>exact⟨.er n,f1 [19] l,RR.good_er (ej n) (λh _ ⟨_,_,_,w,_⟩=>q h _ w)⟩|ok E w=>
 have⟨F,_,⟨U,N,G,H,V⟩,p2,W,p4⟩:=q;have un:∀{f'},a.W i g j f'->FCv E f':=λw=>G▸PB.un H (by rw[N];exact w)
 have d:E.kd≠4->∃c:RR,A 227 [aB i g j,(Pf.p1 .choice a).p] c.p/\c.Good i g j M (.p1 .choice a):=λf=>⟨.er 9,f2 [19,29] l (AD f),RR.good_er (ej 9) (λ_ _ ⟨_,_,_,w,_⟩=>absurd (un w).kd f)⟩
 cases E with|eq x y=>exact d (nofun)|bin k x y=>exact d (by cases k<;>exact nofun)|q k s x=>
 cases k with|ex=>exact d (nofun)|allU=>exact d (nofun)|exU=>exact d (nofun)|all=>
 have b:x.kd≠5->∃c:RR,A 227 [aB i g j,(Pf.p1 .choice a).p] c.p/\c.Good i g j M (.p1 .choice a):=λf=>⟨.er 9,f2 [19,37] l (AD f),RR.good_er (ej 9) (λ_ _ ⟨_,_,_,w,_⟩=>by
  cases un w with|q _ _ c=>exact absurd c.kd f)⟩
 cases x with|eq x y=>exact b (nofun)|bin k x y=>exact b (by cases k<;>exact nofun)|q k u y=>
 cases k with|all=>exact b (nofun)|allU=>exact b (nofun)|exU=>exact b (nofun)|ex=>
 have:1+(1+y.cnt)<=4096:=F.1;have:y.mx<=M+mA*a.cnt:=F.2.1;have:max s.size (max u.size y.tsz)<=qA:=F.2.2;have I:=rO s u;have o:=gK (.two true s u) (by show 1+s.size+u.size<=bA;omega);rcases KH (.two true s u)with e|e<;>rw[e]at o;rotate_left
 ·exact⟨.er 3,f3 [19,51,53] l I o,RR.good_er (ej 3) (λ_ _ _=>(by decide:Lm (3+1)))⟩
 have J:=chk0 e;have:(y.sh 2 1).mx<=y.mx+1:=yH 1 y 2;have O:=WD y 2 1 a6 a6 (by rw[p];omega) a6;have P:=WG 3 (.v 1) (.v 0);have⟨r,Q,K⟩:=mQ (y.sh 2 1) (.n2 .app (.v 1) (.v 0)) (by rw[MD];omega) (by rw[p];omega) (by rw[kH];omega) bb bb bb;rcases K with ⟨n,rfl,K⟩|⟨rfl,Y⟩
 ·exact⟨⟨5,4,(Ty.two true s u).es,[],[qz .all s dH],w,n+1⟩,f8 [19,51,53,65,69,70,76,77] l I o O P Q (V0 .all s) (Y0 .ex .all (.two true s u) s),RR.good_er (ej n) (λh _ _=>by
   rw[K (Z0 m.gl h G H) ⟨rfl,bb⟩];exact(by decide:Lm (3+1)))⟩
 have:=nJ 0 (.n2 .app (.v 1) (.v 0)) (y.sh 2 1) 0;have:=cK 0 (.n2 .app (.v 1) (.v 0)) (y.sh 2 1) 0;have:(y.sh 2 1).cnt=y.cnt:=MD 1 y 2;have:(y.sh 2 1).tsz=y.tsz:=kH 1 y 2;have:(Tm.n2 .app (.v 1) (.v 0)).mx=1:=rfl;have:(Tm.n2 .app (.v 1) (.v 0)).tsz=0:=rfl;have Z:=lQ Y;generalize hz:(y.sh 2 1).put 0 (.n2 .app (.v 1) (.v 0)) 0=z at *
 refine⟨.of (.q .ex (.two true s u) (.q .all s z)) w 0,f8 [19,51,53,65,69,70,76,77] l I o O P Q (EE .all s z) (EE .ex (.two true s u) (.q .all s z)),RR.ok λ_=>⟨_,rfl,⟨?_,?_,?_,⟨.p1 .choice U _,by rw[<-N];rfl,rfl,λhc=>⟨hc,H,s,u,y,G,J,z,Z,rfl⟩,λv L=>V v L.2⟩,p2,λv L=>?_,by show w.length<=1+a.cnt;omega⟩⟩⟩
 ·show 1+(1+z.cnt)<=qA;omega
 ·show z.mx<=M+mA*(1+a.cnt);rw[C];omega
 ·show max (Ty.two true s u).size (max s.size z.tsz)<=qA;omega
 have:=W v L;show v<=M+mA*(1+a.cnt);rw[C];omega
open Go.Lg
def D1[PB](u:Bool)(i:Nat):dG 147 (.leaf u i):=by
 intro j g a M k;have:=zA;have:=k.hl;cases u
 ·by_cases h:i<a.length
  ·obtain⟨f,b⟩:∃f,a[a.length-1-i]? =some f:=⟨_,e7 a6⟩;have c:(!dA (.ofNat i) (.ofNat (a.map Fm.c).length))=false:=by rw[KA bS];rfl
   have o:xA (Int.ofNat (a.map Fm.c).length-1)=true/\Int.ofNat (a.map Fm.c).length-1=.ofNat (a.length-1):=by
    have e:Int.ofNat (a.map Fm.c).length-1=.ofNat (a.length-1):=a9
    grind[BA]
   have p:xA (Int.ofNat (a.length-1)-.ofNat i)=true/\Int.ofNat (a.length-1)-.ofNat i=.ofNat (a.length-1-i):=by
    have e:Int.ofNat (a.length-1)-.ofNat i=.ofNat (a.length-1-i):=a9
    grind[BA]
   have d:=k.h1 f (gg b);exact⟨.of f [] 0,f4 [30,37,40,(41,.i f.c)] c o p (EA b Fm.c_len),RR.ok λ_=>⟨f,rfl,⟨by have:=d.1;omega,by have:=d.2.1;omega,d.2.2,⟨.leaf false i f,rfl,rfl,λl=>⟨l,h,b⟩,λv m=>m.elim⟩,List.Pairwise.nil,(λx b=>by cases b),c6 _⟩⟩⟩
  have c:(!dA (.ofNat i) (.ofNat (a.map Fm.c).length))=true:=by rw[iA a9];rfl
  exact⟨.er 7,f1 [30] c,RR.good_er (ej 7) (λ_ _ w=>absurd w.1 h)⟩
 by_cases h:i<j.length
 ·obtain⟨f,b⟩:∃f,j[i]? =some f:=⟨_,e7 h⟩;have c:(!dA (.ofNat i) (.ofNat (j.map Fm.c).length))=false:=by rw[KA bS];rfl
  have d:=k.l1 f (gg b);exact⟨.of f [] 0,f2 [50,(56,.i f.c)] c (EA b Fm.c_len),RR.ok λ_=>⟨f,rfl,⟨by have:=d.1;omega,by have:=d.2.1;omega,d.2.2,⟨.leaf true i f,rfl,rfl,λl=>⟨l,b⟩,λv m=>m.elim⟩,List.Pairwise.nil,(λx b=>by cases b),c6 _⟩⟩⟩
 have c:(!dA (.ofNat i) (.ofNat (j.map Fm.c).length))=true:=by rw[iA a9];rfl
 exact⟨.er 8,f1 [50] c,RR.good_er (ej 8) (λ_ _ ⟨_,w,_⟩=>absurd (gf.1 w).1 h)⟩
def F1[PB](t:Tm):dG 147 (.refl t):=by
 intro d g f M a;have:=zA;have:=a.gl;have:1+t.cnt<=65536:=a.cnt;have:t.mx<=M:=a.mx;have b:t.tsz<=qA:=a.tsz;have⟨e,k,q,p⟩:=td d g f t 1 a.g1 b;refine⟨.of (.eq t t) [] e,f2 [280,286] (kG t t) k,λc=>?_,λc _ _ w=>(p _ w.1 w.2.1 rfl).resolve_left c⟩;subst c;have⟨l,s,m,n⟩:=q rfl;exact⟨_,rfl,⟨by show 1+t.cnt+t.cnt<=qA;omega,by show max t.mx t.mx<=M+_;omega,by show max t.tsz t.tsz<=qA;omega,⟨.refl t,rfl,rfl,λo=>⟨o,l,by rw[m,EW n]⟩,λv r=>r.elim⟩,List.Pairwise.nil,(λx u=>by cases u),c6 _⟩⟩
def G1[PB](k:P1){a:Pf}(z:rE a):dG 147 (.p1 k a):=by
 intro f g i M G;have:=zA;have:mA=8388608:=rfl;have B:mA*(1+a.cnt)=mA+mA*a.cnt:=by rw[i4,m0]
 have o:Pre f g i M a:=G.sub (by show a.cnt<=1+a.cnt;omega) (e6 _) (e6 _)
 cases k with
 |choice=>
  have⟨c,e,H⟩:=C1 z f g i M G;exact⟨c,f1 [297] e,H⟩
 |andL=>
  have⟨r,e,q⟩:=z _ _ _ _ o
  cases r with|er n=>exact⟨.er n,f1 [102] e,RR.good_er (ej n) (λh _ ⟨_,w⟩=>q h _ w)⟩|ok j w=>
  have⟨l,_,⟨C,p,t,u,D⟩,p2,E,I⟩:=q;have un:∀{f'},a.W f g i f'->FCv j f':=λw=>t▸PB.un u (by rw[p];exact w)
  have b:j.kd≠2->∃c:RR,A 147 [aB f g i,(Pf.p1 .andL a).p] c.p/\c.Good f g i M (.p1 .andL a):=λd=>⟨.er 9,f2 [102,112] e (AD d),RR.good_er (ej 9) (λ_ _ ⟨_,w⟩=>absurd (un w).kd d)⟩
  cases j with
  |eq x y=>exact b (nofun)|q k s x=>exact b (by cases k<;>exact nofun)|bin k x y=>
   cases k with
   |imp=>exact b (nofun)|and=>
    have J:1+x.cnt+y.cnt<=4096:=l.1;have K:max x.mx y.mx<=M+mA*a.cnt:=l.2.1;have L:max x.tsz y.tsz<=qA:=l.2.2;exact⟨.of x w 0,f1 [102] e,RR.ok λ_=>⟨_,rfl,⟨a6,by show x.mx<=M+mA*(1+a.cnt);rw[B];omega,a6,⟨.p1 .andL C x,by rw[<-p];rfl,rfl,λF=>⟨F,u,y,t⟩,λv m=>D v m.2⟩,p2,λv m=>by have:=E v m;show v<=M+mA*(1+a.cnt);rw[B];omega,by show w.length<=1+a.cnt;omega⟩⟩⟩
 |andR=>
  have⟨r,e,q⟩:=z _ _ _ _ o
  cases r with|er n=>exact⟨.er n,f1 [102] e,RR.good_er (ej n) (λh _ ⟨_,w⟩=>q h _ w)⟩|ok j w=>
  have⟨l,_,⟨C,p,t,u,D⟩,p2,E,I⟩:=q;have un:∀{f'},a.W f g i f'->FCv j f':=λw=>t▸PB.un u (by rw[p];exact w)
  have b:j.kd≠2->∃c:RR,A 147 [aB f g i,(Pf.p1 .andR a).p] c.p/\c.Good f g i M (.p1 .andR a):=λd=>⟨.er 9,f2 [102,112] e (AD d),RR.good_er (ej 9) (λ_ _ ⟨_,w⟩=>absurd (un w).kd d)⟩
  cases j with
  |eq x y=>exact b (nofun)|q k s x=>exact b (by cases k<;>exact nofun)|bin k x y=>
   cases k with
   |imp=>exact b (nofun)|and=>
    have J:1+x.cnt+y.cnt<=4096:=l.1;have K:max x.mx y.mx<=M+mA*a.cnt:=l.2.1;have L:max x.tsz y.tsz<=qA:=l.2.2;exact⟨.of y w 0,f1 [102] e,RR.ok λ_=>⟨_,rfl,⟨a6,by show y.mx<=M+mA*(1+a.cnt);rw[B];omega,a6,⟨.p1 .andR C y,by rw[<-p];rfl,rfl,λF=>⟨F,u,x,t⟩,λv m=>D v m.2⟩,p2,λv m=>by have:=E v m;show v<=M+mA*(1+a.cnt);omega,by show w.length<=1+a.cnt;omega⟩⟩⟩
def I1[PB](f:Fm){a:Pf}(E:rE a):dG 147 (.impI f a):=by
 intro l g m M b;have:=zA;have:mA=8388608:=rfl;have:=b.gl;have:=b.hl;have o:M+mA*(1+f.cnt+a.cnt)<=eB:=b.mb;have:max f.tsz a.tsz<=qA:=b.tsz;have:max f.mx a.mx<=M:=b.mx;have:1+f.cnt+a.cnt<=65536:=b.cnt;have z:mA*(1+f.cnt+a.cnt)=mA+mA*f.cnt+mA*a.cnt:=by rw[i4,i4,m0]
 rw[z]at o;have⟨e,j,p,A⟩:=WS g f b.g1
 cases e with|succ n=>exact⟨.er n,f1 [132] j,RR.good_er (ej n) (λ_ _ ⟨⟨h,k⟩,_⟩=>(A h k).resolve_left (ej n))⟩|zero=>
 clear A;have s:=Fm.chk0 (p rfl).1;have⟨e,t,c⟩:=vT l g m 0 1
 cases e with|succ n=>exact⟨.er n,f2 [132,138] j t,RR.good_er (ej n) (λ_ _ _=>uT c.2)⟩|zero=>
 have d:=c.1 rfl;clear c;have B:=JW l g m f;have u:Pre l g (m++[f]) M a:=b.to (e6 _) (by
  intro x K;rcases eh.1 K with h|h
  ·exact b.h1 x h
  simp at h;subst h;exact⟨s.1,a6,a6⟩) b.g1 b.gl a9 (by show a.cnt<=1+f.cnt+a.cnt;omega) (by show a.tsz<=max f.tsz a.tsz;omega) (by show a.mx<=max f.mx a.mx;omega) a6
 have⟨r,C,q⟩:=E _ _ _ _ u
 cases r with
 |er n=>exact⟨⟨3,0,[],[],[f.c,dH],[],n+1⟩,f5 [132,138,149,154,163] j t B C (Tl .imp f),RR.good_er (ej n) (λh _ ⟨_,_,w,_⟩=>q (h.snoc (pC _ _ (p rfl).2)) _ w)⟩|ok i w=>
  have⟨c,_,⟨L,N,D,O,P⟩,p2,Q,U⟩:=q;have:=c.1;have:=c.2.1;have:=c.2.2;exact⟨.of (.bin .imp f i) w 0,f5 [132,138,149,154,163] j t B C (TS .imp f i),RR.ok λ_=>⟨_,rfl,⟨by show 1+f.cnt+i.cnt<=qA;omega,by show max f.mx i.mx<=M+mA*(1+f.cnt+a.cnt);rw[z];omega,by show max f.tsz i.tsz<=qA;omega,⟨.impI f L,by rw[<-N];rfl,by rw[<-D];rfl,λR=>⟨by rw[D];exact R,p rfl,d.2,O⟩,λv y=>P v y.2⟩,p2,λv y=>by have:=Q v y;show v<=M+mA*(1+f.cnt+a.cnt);omega,by show w.length<=1+f.cnt+a.cnt;omega⟩⟩⟩
def J1[PB]{a:List Fm}{g:List Ty}{b:List Fm}{c:Jt}{k:FB}{x y:Fm}(d:g.length<=1024)(h:Hq a g b)(e:c.f=.bin k x y)(d:c.D a g b):x.sm:=by
 have b:=PB.mx (PB.tq h d);have a:=AI d;rw[e]at b a;have:=(Fm.chk0 a).1;exact(eO ⟨a,a6⟩).1
def L1[PB](H:MF)(k:P2){a b:Pf}(R:rE a)(S:rE b):dG 147 (.p2 k a b):=by
 intro l g m M o;have hm:=zA;have:=yA;have:mA=8388608:=rfl;have U:eB=qA*qA-1001*4096:=rfl;have V:M+mA*(1+a.cnt+b.cnt)<=eB:=o.mb;have:1+a.cnt+b.cnt<=65536:=o.cnt;have G:mA*(1+a.cnt+b.cnt)=mA+mA*a.cnt+mA*b.cnt:=by rw[i4,i4,m0]
 rw[G]at V;rw[hm]at U;have I:Pre l g m M a:=o.sub (by show a.cnt<=1+a.cnt+b.cnt;omega) (by show a.tsz<=max a.tsz b.tsz;omega) (by show a.mx<=max a.mx b.mx;omega);have J:Pre l g m M b:=o.sub (by show b.cnt<=1+a.cnt+b.cnt;omega) (by show b.tsz<=max a.tsz b.tsz;omega) (by show b.mx<=max a.mx b.mx;omega)
 cases k with
 |exE=>
  have⟨c,i,j⟩:=Pl H false R S l g m M o;exact⟨c,f1 [250] i,j⟩
 |exUE=>
  have⟨c,i,j⟩:=Pl H true R S l g m M o;exact⟨c,f1 [250] i,j⟩
 |andI=>
  have⟨r,i,q⟩:=R _ _ _ _ I
  cases r with|er n=>exact⟨.er n,f1 [66] i,RR.good_er (ej n) (λh _ ⟨_,_,w,_⟩=>q h _ w)⟩|ok f w=>
  have⟨p,_,⟨W,K,C,D,X⟩,p2,E,p4⟩:=q;have un:∀{f'},a.W l g m f'->FCv f f':=λw=>C▸PB.un D (by rw[K];exact w)
  have⟨r,j,q⟩:=S _ _ _ _ J
  cases r with
  |er n=>
   have⟨t,L,_⟩:=H.union w [] a9 (λz d=>by have:=E z d;omega) (λz d=>by cases d);exact⟨⟨2,0,[],[],[f.c,dH],t,n+1⟩,f4 [66,79,86,91] i j (Tl .and f) L,RR.good_er (ej n) (λh _ ⟨_,_,_,w,_⟩=>q h _ w)⟩
  |ok fb v=>
   have⟨u,_,⟨Y,T,N,F,Z⟩,s2,O,s4⟩:=q;have⟨t,L,t1,t2,t3,tA⟩:=H.union w v a6 (λz d=>by have:=E z d;omega) (λz d=>by have:=O z d;omega);have e1:=p.1;have e2:=p.2.1;have e3:=p.2.2;have d1:=u.1;have d2:=u.2.1;have d3:=u.2.2;refine⟨.of (.bin .and f fb) t 0,f4 [66,79,86,91] i j (TS .and f fb) L,RR.ok λ_=>⟨_,rfl,⟨by show 1+f.cnt+fb.cnt<=qA;omega,by show max f.mx fb.mx<=M+mA*(1+a.cnt+b.cnt);rw[G];omega,by show max f.tsz fb.tsz<=qA;omega,⟨.p2 .andI W Y (.bin .and f fb),by rw[<-K,<-T];rfl,rfl,λhc=>⟨hc,D,F,by rw[C,N]⟩,λz d=>?_⟩,tA,λz d=>?_,by show t.length<=1+a.cnt+b.cnt;omega⟩⟩⟩
   ·rcases d.2 with h|h
    ·exact t1 z (.inl (X z h))
    exact t1 z (.inr (Z z h))
   show z<=M+mA*(1+a.cnt+b.cnt);rw[G];rcases t2 z d with h|h
   ·have:=E z h;omega
   have:=O z h;omega
 |impE=>
  have⟨r,i,q⟩:=R _ _ _ _ I
  cases r with|er n=>exact⟨.er n,f1 [175] i,RR.good_er (ej n) (λh _ ⟨_,w,_⟩=>q h _ w)⟩|ok f w=>
  have⟨p,_,⟨W,K,C,D,X⟩,p2,E,p4⟩:=q;have un:∀{f'},a.W l g m f'->FCv f f':=λw=>C▸PB.un D (by rw[K];exact w)
  have B:f.kd≠3->∃c:RR,A 147 [aB l g m,(Pf.p2 .impE a b).p] c.p/\c.Good l g m M (.p2 .impE a b):=λP=>⟨.er 9,f2 [175,185] i (AD P),RR.good_er (ej 9) (λ_ _ ⟨_,w,_⟩=>absurd (un w).kd P)⟩
  cases f with|eq x y=>exact B (nofun)|q k s x=>exact B (by cases k<;>exact nofun)|bin k x y=>
  cases k with|and=>exact B (nofun)|imp=>
  have e1:1+x.cnt+y.cnt<=4096:=p.1;have e2:max x.mx y.mx<=M+mA*a.cnt:=p.2.1;have e3:max x.tsz y.tsz<=qA:=p.2.2;have⟨r,j,q⟩:=S _ _ _ _ J
  cases r with
  |er n=>exact⟨.er n,f2 [175,193] i j,RR.good_er (ej n) (λh _ ⟨_,_,w⟩=>q h _ w)⟩|ok fb v=>
   have⟨u,_,⟨Y,T,N,F,Z⟩,s2,O,s4⟩:=q;have d1:=u.1;have d2:=u.2.1;have d3:=u.2.2;have⟨t,L,t1,t2,t3,tA⟩:=H.union w v a6 (λz d=>by have:=E z d;omega) (λz d=>by have:=O z d;omega);have hgl:=o.gl;have⟨e,g4,g5,g6⟩:=Wc x fb a6 a6 a6 a6 a6 d3;refine⟨.of y t e,f4 [175,193,209,217] i j L g4,λQ=>?_,λQ h f' ⟨_,w,w'⟩=>?_⟩;rotate_left
   ·refine(g6 ?_ (J1 hgl h C D) ?_).resolve_left Q
    ·cases un w with|bin _ c _=>exact PB.ft c (FCv.symm (N▸PB.un F (by rw[T];exact w')))
    have h1:=PB.mx (PB.tq h F);have h2:=AI F;rw[N]at h1 h2;exact⟨h2,a6⟩
   have Q:e=0:=Q;subst Q;clear g6;refine⟨_,rfl,⟨a6,by show y.mx<=M+mA*(1+a.cnt+b.cnt);rw[G];omega,a6,⟨.p2 .impE W Y y,by rw[<-K,<-T];rfl,rfl,λhc=>⟨hc,D,F,x,C,by rw[N];exact g5 rfl⟩,λz d=>?_⟩,tA,λz d=>?_,by show t.length<=1+a.cnt+b.cnt;omega⟩⟩
   ·rcases d.2 with h|h
    ·exact t1 z (.inl (X z h))
    exact t1 z (.inr (Z z h))
   show z<=M+mA*(1+a.cnt+b.cnt);rw[G];rcases t2 z d with h|h
   ·have:=E z h;omega
   have:=O z h;omega
def fG[PB](H:MF):∀p:Pf,rE p
 |.leaf u i=>tJ (D1 u i)|.refl t=>tJ (F1 t)|.p1 k a=>tJ (G1 k (fG H a))|.p2 k a b=>tJ (L1 H k (fG H a) (fG H b))|.impI f a=>tJ (I1 f (fG H a))|.all u s a=>tJ λh g j M m=>by
  have⟨c,d,e⟩:=L0 u s (fG H a) h g j M m;cases u<;>exact⟨c,f1 [223] d,e⟩
 |.ins u t a=>tJ λh g j M m=>by
  have⟨c,d,e⟩:=M0 H u t (fG H a) h g j M m;cases u<;>exact⟨c,f1 [232] d,e⟩
 |.ex u f t a=>tJ λh g j M m=>by
  have⟨c,d,e⟩:=N0 H u f t (fG H a) h g j M m;cases u<;>exact⟨c,f1 [241] d,e⟩
 |.ind l f t a b=>tJ λh g j M m=>by
  cases l
  ·have⟨c,d,e⟩:=T0 H f t (fG H a) (fG H b) h g j M m;exact⟨c,f1 [258] d,e⟩
  have⟨c,d,e⟩:=U0 H f t (fG H a) (fG H b) h g j M m;exact⟨c,f1 [266] d,e⟩
 |.subst f a b=>tJ λh g j M m=>by
  have⟨c,d,e⟩:=P0 f (fG H a) (fG H b) h g j M m;exact⟨c,f1 [291] d,e⟩
def JF:∀t:Ty,A 181 [t.p] t.p|.nat=>f0 []|.list=>f0 []|.unit=>f0 []|.two k a b=>f2 [19,19] (JF a) (JF b)
def ED:A 181 [zt] zt:=f0 []
def pQ(a b:Ty):A 182 [a.p,b.p] (.bool (a.same b)):=by
 induction a generalizing b with
 |two k a b f g=>cases b with
  |two l c d=>
   have f:=f c;have g:=g d;show A 182 [(Ty.two k a b).p,(Ty.two l c d).p] (.bool ((k==l)&&(a.same c&&b.same d)));generalize a.same c=p at *
   generalize b.same d=q at *
   by_cases e:k=l
   ·subst e;cases p
    ·cases k<;>exact f1 [35] f
    cases q
    ·cases k<;>exact f2 [35,35] f g
    cases k<;>exact f2 [35,35] f g
   cases k<;>cases l<;>first|exact absurd rfl e|exact f0 []
  |_=>cases k<;>exact f0 []
 |_=>cases b with
  |two l c d=>cases l<;>exact f0 []
  |_=>exact f0 []
def UW:∀t:Ty,t.size<=bA->A 321 [t.p] (.tuple [num t.size,.bool true])
 |.nat,_=>f0 []|.list,_=>f0 []|.unit,_=>f0 []|.two k a b,h=>by
  have h:1+a.size+b.size<=bA:=h;have c:=UW a a6;have d:=UW b a6;have e:xA (.ofNat (1+a.size))=true:=cB a6;cases k<;>exact f4 [33,(40,.ok),33,(40,.ok)] c e d (cB h)
def gG(n m:Nat):Nat:=match dA (.ofNat m) (.ofNat n)with|true=>0|false=>n
def QH(n m:Nat):Nat:=match dA (.ofNat m) (.ofNat n)with|true=>4|false=>0
theorem AK{n m:Nat}(h:n<=m):gG n m=n/\QH n m=0:=by
 have e:dA (.ofNat m) (.ofNat n)=false:=iA h
 grind[gG,QH]
theorem M1{n m:Nat}(h:m<n):gG n m=0/\QH n m=4:=by
 have e:dA (.ofNat m) (.ofNat n)=true:=KA h
 grind[gG,QH]
def Ul(n m:Nat):(n<=m/\gG n m=n/\QH n m=0)\/(m<n/\gG n m=0/\QH n m=4):=by
 grind[AK,M1]
def ckE_0{n m:Nat}:QH n m=0↔n<=m:=by
 rcases Ul n m with ⟨h,_,e⟩|⟨h,_,e⟩<;>rw[e]<;>simp<;>omega
def oO(t:Ty)(h:t.size<=bA:=by omega):A 248 [t.p] (.tuple [num (gG t.size 64),num (QH t.size 64)]):=by
 unfold gG QH;cases e:dA (.ofNat 64) (.ofNat t.size)
 ·exact f2 [8,16] (UW t h) e
 exact f2 [8,16] (UW t h) e
def Ad(t:Ty)(h:t.size<=bA:=by omega):A 252 [t.p] (num (QH t.size 64)):=f1 [7] (oO t h)
def XD:A 249 [zt] (.bool true):=f0 []
open Go.Lg
def Tm.nd(t:Tm):Nat:=match t.shp with|true=>t.cnt|false=>0
def RH(s:Ty):s.chk=QH s.size 64:=rfl
def aJ:∀t:Tm,t.tsz<=bA->t.cnt<=bA->A 257 [t.p] (.tuple [num t.nd,.bool t.shp])
 |.v i,_,_=>by cases i<;>exact f0 []
 |.n0 k,_,_=>by cases k<;>exact f0 []
 |.lam s b,h,f=>by
  have h:max s.size b.tsz<=bA:=h;have f:1+b.cnt<=bA:=f;have g:=oO s;have d:=aJ b a6 a6;unfold Tm.nd at *
  unfold Tm.shp;rcases KH s with e|e<;>rw[RH]at e<;>rw[e]at g<;>rw[RH,e]
  ·cases l:b.shp<;>rw[l]at d
   ·exact f2 [49,67] g d
   exact f3 [49,67,(74,.ok)] g d (cB f)
  exact f1 [49] g
 |.n1 k a,h,f=>by
  have f:1+a.cnt<=bA:=f;have d:=aJ a h a6;unfold Tm.nd at *
  show A 257 [(Tm.n1 k a).p] (.tuple [num (match a.shp with|true=>1+a.cnt|false=>0),.bool a.shp]);cases l:a.shp<;>rw[l]at d
  ·cases k<;>exact f1 [67] d
  cases k<;>exact f2 [67,(74,.ok)] d (cB f)
 |.n2 k a b,h,f=>by
  have h:max a.tsz b.tsz<=bA:=h;have f:1+a.cnt+b.cnt<=bA:=f;have g:=aJ a a6 a6;have d:=aJ b a6 a6;have j:xA (.ofNat (1+a.cnt))=true:=cB a6;unfold Tm.nd at *
  show A 257 [(Tm.n2 k a b).p] (.tuple [num (match a.shp&&b.shp with|true=>1+a.cnt+b.cnt|false=>0),.bool (a.shp&&b.shp)]);cases o:a.shp<;>rw[o]at g
  ·cases k<;>exact f1 [67] g
  cases l:b.shp<;>rw[l]at d
  ·cases k<;>exact f3 [67,(74,.ok),67] g j d
  cases k<;>exact f4 [67,(74,.ok),67,(74,.ok)] g j d (cB f)
 |.n3 k s a b c,h,f=>by
  have h:max (max s.size a.tsz) (max b.tsz c.tsz)<=bA:=h;have f:1+a.cnt+b.cnt+c.cnt<=bA:=f;have m:=oO s;have g:=aJ a a6 a6;have d:=aJ b a6 a6;have p:=aJ c a6 a6;have j:xA (.ofNat (1+a.cnt))=true:=cB a6;have n:xA (.ofNat (1+a.cnt+b.cnt))=true:=cB a6;unfold Tm.nd at *
  unfold Tm.shp;rcases KH s with e|e<;>rw[RH]at e<;>rw[e]at m<;>rw[RH,e]
  ·cases o:a.shp<;>rw[o]at g
   ·cases k<;>exact f2 [49,67] m g
   cases l:b.shp<;>rw[l]at d
   ·cases k<;>exact f4 [49,67,(74,.ok),67] m g j d
   cases r:c.shp<;>rw[r]at p
   ·cases k<;>exact f6 [49,67,(74,.ok),67,(74,.ok),67] m g j d n p
   cases k<;>exact f7 [49,67,(74,.ok),67,(74,.ok),67,(74,.ok)] m g j d n p (cB f)
  cases k<;>exact f1 [49] m
def Tm.ckn(t:Tm):Nat:=match t.chk with|0=>t.cnt|_=>0
theorem bT(t:Tm)(c:t.tsz<=bA)(d:t.cnt<=bA):A 184 [t.p] (.tuple [num t.ckn,num t.chk]):=by
 have a:=aJ t c d;unfold Tm.nd at a;unfold Tm.ckn Tm.chk;cases e:t.shp<;>rw[e]at a
 ·exact f1 [8] a
 cases b:dA (.ofNat 4096) (.ofNat t.cnt)
 ·exact f2 [8,16] a b
 exact f2 [8,16] a b
def a297(t:Tm)(a:t.tsz<=bA)(b:t.cnt<=bA):A 391 [t.p] (.tuple [num t.ckn,num t.chk]):=f1 [5] (bT t a b)
def a92(t:Tm)(a:t.tsz<=bA:=by omega)(b:t.cnt<=bA:=by omega):A 116 [t.p] (num t.chk):=f1 [7] (bT t a b)
theorem Tm.chk0{t:Tm}(h:t.chk=0):t.cnt<=4096/\t.shp=true:=by
 grind[Tm.chk,dA,vC]
theorem Tm.ckn0{t:Tm}(h:t.chk=0):t.ckn=t.cnt:=by unfold Tm.ckn;split<;>simp_all
def SH:A 182 [.agg [num 0,.slice []],.agg [num 0,.slice []]] (.bool true):=f0 []
def rQ{a:Tm}(H:∀b:Tm,a.kd=b.kd->∃r,A 410 [a.p,b.p] (.bool r)/\(r=true↔a=b))(b:Tm):∃r,A 410 [a.p,b.p] (.bool r)/\(r=true↔a=b):=by
 by_cases h:a.kd=b.kd
 ·exact H b h
 exact⟨false,f1 [11] (AD h),ff λe=>h (by rw[e])⟩
def cJ:∀a b:Tm,∃r,A 410 [a.p,b.p] (.bool r)/\(r=true↔a=b)
 |.v i=>rQ λb h=>by
  cases b with
  |v j=>
   by_cases e:i=j
   ·subst e;exact⟨true,f2 [17,24] (MB i) SH,bS⟩
   exact⟨false,f1 [17] (AD e),bS⟩
  |_=>have:=k0 YG h;rw[YC,YC]at this;cases this
 |.n0 k=>rQ λb h=>by
  cases b with
  |n0 l=>cases K0.inj h;exact⟨true,f2 [11,24] (MB k.n) SH,bS⟩
  |_=>have:=k0 YG h;rw[YC,YC]at this;cases this
 |.lam s a=>rQ λb h=>by
  cases b with
  |lam u b=>
   have o:=pQ s u;have t:=BD s u;cases e:s.same u<;>rw[e]at o t
   ·exact⟨false,f1 [24] o,bS⟩
   have⟨r,g,w⟩:=cJ a b;cases r
   ·exact⟨false,f2 [24,50] o g,bS⟩
   exact⟨true,f2 [24,50] o g,bS⟩
  |_=>have:=k0 YG h;rw[YC,YC]at this;cases this
 |.n1 k a=>rQ λb h=>by
  cases b with
  |n1 l b=>
   cases K1.inj h;have⟨r,g,w⟩:=cJ a b;cases r
   ·exact⟨false,f3 [11,24,50] (MB k.n) SH g,bS⟩
   exact⟨true,f3 [11,24,50] (MB k.n) SH g,bS⟩
  |_=>have:=k0 YG h;rw[YC,YC]at this;cases this
 |.n2 k a c=>rQ λb h=>by
  cases b with
  |n2 l b d=>
   cases K2.inj h;have⟨r,g,w⟩:=cJ a b;have⟨q,m,y⟩:=cJ c d;cases r
   ·exact⟨false,f3 [11,24,50] (MB k.n) SH g,bS⟩
   cases q
   ·exact⟨false,f4 [11,24,50,50] (MB k.n) SH g m,bS⟩
   exact⟨true,f4 [11,24,50,50] (MB k.n) SH g m,bS⟩
  |_=>have:=k0 YG h;rw[YC,YC]at this;cases this
 |.n3 k s a c e=>rQ λb h=>by
  cases b with
  |n3 l u b d f=>
   cases K3.inj h;have n:=pQ s u;have t:=BD s u;have⟨r,g,w⟩:=cJ a b;have⟨q,m,y⟩:=cJ c d;have⟨p,x,B⟩:=cJ e f;cases z:s.same u<;>rw[z]at n t
   ·exact⟨false,f2 [11,24] (MB k.n) n,bS⟩
   cases r
   ·exact⟨false,f3 [11,24,50] (MB k.n) n g,bS⟩
   cases q
   ·exact⟨false,f4 [11,24,50,50] (MB k.n) n g m,bS⟩
   cases p
   ·exact⟨false,f5 [11,24,50,50,50] (MB k.n) n g m x,bS⟩
   exact⟨true,f5 [11,24,50,50,50] (MB k.n) n g m x,bS⟩
  |_=>have:=k0 YG h;rw[YC,YC]at this;cases this
def Vl(a b:Tm):∃r,A 413 [a.p,b.p] (.bool r)/\(r=true↔a=b):=by
 have⟨r,h,q⟩:=cJ a b;exact⟨r,f1 [7] h,q⟩
abbrev vB(s:Ty):List PV:=[num s.kd,.slice s.es,num (gG s.size 64)]
abbrev CB(g:List Ty):PV:=.slice (g.map vB)
def VW(s:Ty):(vB s).length=3:=rfl
def TR.nn:TR->Nat|.er _=>0|.ok s=>gG s.size 64
def TR.q(r:TR):PV:=.tuple [.agg [num r.k,.slice r.l,num r.nn],num r.n]
def sE(s:Ty)(h:s.size<=bA:=by omega):A 253 [s.p] (.agg (vB s)):=f1 [7] (oO s h)
def Cd(s u:Ty):∃r,A 325 [.agg (vB s),.agg (vB u)] (.bool r)/\r=s.same u:=by
 cases e:sB (.ofNat (gG s.size 64)) (.ofNat (gG u.size 64))
 ·refine⟨false,f1 [9] e,?_⟩
  cases h:s.same u with|false=>rfl|true=>rw[(BD s u).1 h,eI]at e;cases e
 exact⟨s.same u,f2 [9,15] e (pQ s u),rfl⟩
def Wl(k:Bool)(s u:Ty)(c:s.size<=64)(d:u.size<=64):∃r:TR,A 254 [num (bn k 3 4),.agg (vB s),.agg (vB u)] r.q/\r.sz<=64/\r=.fit (.two k s u):=by
 have f:=(AK c).1;have g:=(AK d).1;unfold vB;rw[f,g];have:=yA;have a:xA (.ofNat (1+s.size))=true:=cB a6;have b:xA (.ofNat (1+s.size+u.size))=true:=cB a6;by_cases h:1+s.size+u.size<=64
 ·have e:dA (.ofNat 64) (.ofNat (1+s.size+u.size))=false:=iA h;have i:gG (1+s.size+u.size) 64=1+s.size+u.size:=(AK h).1;have j:(TR.ok (.two k s u)).q=.tuple [.agg [num (bn k 3 4),.slice [s.c,u.c],num (1+s.size+u.size)],num 0]:=by
   show PV.tuple [.agg [num (Ty.two k s u).kd,.slice [s.c,u.c],num (gG (1+s.size+u.size) 64)],num 0]=_;rw[i];cases k<;>rfl
  refine⟨.ok (.two k s u),?_,h,by unfold TR.fit;rw[gm (show(Ty.two k s u).size<=64 from h)]⟩;rw[j];exact f3 [(11,.ok),(14,.ok),16] a b e
 have e:dA (.ofNat 64) (.ofNat (1+s.size+u.size))=true:=KA a6;exact⟨.er 3,f3 [(11,.ok),(14,.ok),16] a b e,c6 _,by unfold TR.fit;rw[e9 (show¬(Ty.two k s u).size<=64 from h)]⟩
abbrev sQ:List PV:=[num 0,.slice [],num 0]
def N1(k:K0):∃r:TR,A 255 [(Tm.n0 k).p,.agg (sQ++sQ++sQ)] r.q/\r.sz<=64/\r=(Tm.n0 k).tyR []:=by
 cases k
 ·exact⟨.ok .nat,f1 [37] (sE .nat bb),bb,rfl⟩
 ·exact⟨.ok .list,f1 [37] (sE .list bb),bb,rfl⟩
 exact⟨.ok .unit,f1 [37] (sE .unit bb),bb,rfl⟩
def O1(k:K1)(a:Tm)(s:Ty)(h:s.size<=64):∃r:TR,A 255 [(Tm.n1 k a).p,.agg (vB s++sQ++sQ)] r.q/\r.sz<=64/\r=mF k (.ok s):=by
 have:=yA;cases k
 ·cases s with
  |nat=>exact⟨.ok .nat,f1 [37] (sE .nat bb),bb,rfl⟩|two k s u=>cases k<;>exact⟨.er 6,f0 [],c6 _,rfl⟩
  |_=>exact⟨.er 6,f0 [],c6 _,rfl⟩
 ·cases s with
  |two k s u=>
   have h:1+s.size+u.size<=64:=h;cases k
   ·exact⟨.ok s,f1 [(110,.n [(11,.r (.agg (vB s)))])] (sE s),by show s.size<=64;omega,rfl⟩
   exact⟨.er 6,f0 [],c6 _,rfl⟩
  |_=>exact⟨.er 6,f0 [],c6 _,rfl⟩
 cases s with
 |two k s u=>
  have h:1+s.size+u.size<=64:=h;cases k
  ·exact⟨.ok u,f1 [(113,.n [(11,.r (.agg (vB u)))])] (sE u),by show u.size<=64;omega,rfl⟩
  exact⟨.er 6,f0 [],c6 _,rfl⟩
 |_=>exact⟨.er 6,f0 [],c6 _,rfl⟩
def Q1(k:K2)(a b:Tm)(s v:Ty)(h:s.size<=64)(f:v.size<=64):∃r:TR,A 255 [(Tm.n2 k a b).p,.agg (vB s++vB v++sQ)] r.q/\r.sz<=64/\r=ZC k (.ok s) (.ok v):=by
 have:=yA;cases k
 ·cases s with
  |two k s u=>
   have h:1+s.size+u.size<=64:=h;cases k
   ·exact⟨.er 6,f0 [],c6 _,rfl⟩
   have⟨b,g,c⟩:=Cd s v;cases b
   ·exact⟨.er 6,f2 [(49,.n [(11,.r (.agg (vB s)))]),52] (sE s) g,c6 _,by show _=bif s.same v then _ else _;rw[<-c];rfl⟩
   exact⟨.ok u,f3 [(49,.n [(11,.r (.agg (vB s)))]),52,(58,.n [(11,.r (.agg (vB u)))])] (sE s) g (sE u),by show u.size<=64;omega,by show _=bif s.same v then _ else _;rw[<-c];rfl⟩
  |_=>exact⟨.er 6,f0 [],c6 _,rfl⟩
 ·cases s with
  |nat=>cases v with
   |list=>exact⟨.ok .list,f1 [37] (sE .list bb),bb,rfl⟩|two k s u=>cases k<;>exact⟨.er 6,f0 [],c6 _,rfl⟩
   |_=>exact⟨.er 6,f0 [],c6 _,rfl⟩
  |two k s u=>cases k<;>exact⟨.er 6,f0 [],c6 _,rfl⟩
  |_=>exact⟨.er 6,f0 [],c6 _,rfl⟩
 have⟨r,g,d,e⟩:=Wl false s v h f
 cases r with|er n=>exact⟨.er n,f1 [97] g,d,e⟩|ok w=>exact⟨.ok w,f1 [97] g,d,e⟩
def KF:K3->Ty->Ty|.re,s=>.two true .nat (.two true s s)|.fo,s=>.two true .nat (.two true .list (.two true s s))
def U1(k:K3)(s:Ty)(a b c:Tm):A 326 [(Tm.n3 k s a b c).p] (KF k s).p:=by
 cases k<;>exact f0 []
def V1(k:K3)(z:Ty)(a b c:Tm)(s v w:Ty)(h:z.size<=64):∃r:TR,A 255 [(Tm.n3 k z a b c).p,.agg (vB s++vB v++vB w)] r.q/\r.sz<=64/\r=rB k z (.ok s) (.ok v) (.ok w):=by
 have:=yA;have d:=sE z;have⟨m,f,g⟩:=Cd s z;have j:=U1 k z a b c;have i:=pQ v (KF k z);cases m
 ·cases k<;>exact⟨.er 6,f2 [64,71] d f,c6 _,by simp only[rB,<-g,gp]⟩
 cases e:v.same (KF k z)<;>rw[e]at i
 ·cases k
  ·exact⟨.er 6,f4 [64,71,78,79] d f j i,c6 _,by simp only[KF]at e;simp only[rB,<-g,e,gp,gb]⟩
  exact⟨.er 6,f4 [64,71,78,79] d f j i,c6 _,by simp only[KF]at e;simp only[rB,<-g,e,gp,gb]⟩
 have key:(∃r:TR,A 255 [(Tm.n3 k z a b c).p,.agg (vB s++vB v++vB w)] r.q/\r.sz<=64/\r=rB k z (.ok s) (.ok v) (.ok w)):=by
  cases w with
  |two l o p=>
   cases l<;>cases k
   ·exact⟨.er 6,f4 [64,71,78,79] d f j i,c6 _,by simp only[KF]at e;simp only[rB,<-g,e,gb];rfl⟩
   ·exact⟨.er 6,f4 [64,71,78,79] d f j i,c6 _,by simp only[KF]at e;simp only[rB,<-g,e,gb];rfl⟩
   ·exact⟨.er 6,f4 [64,71,78,79] d f j i,c6 _,by simp only[KF]at e;simp only[rB,<-g,e,gb];rfl⟩
   exact⟨.er 6,f4 [64,71,78,79] d f j i,c6 _,by simp only[KF]at e;simp only[rB,<-g,e,gb];rfl⟩
  |nat=>
    cases k
    ·exact⟨.ok z,f4 [64,71,78,79] d f j i,h,by simp only[KF]at e;simp only[rB,<-g,e,gb];rfl⟩
    exact⟨.er 6,f4 [64,71,78,79] d f j i,c6 _,by simp only[KF]at e;simp only[rB,<-g,e,gb];rfl⟩
  |list=>
    cases k
    ·exact⟨.er 6,f4 [64,71,78,79] d f j i,c6 _,by simp only[KF]at e;simp only[rB,<-g,e,gb];rfl⟩
    exact⟨.ok z,f4 [64,71,78,79] d f j i,h,by simp only[KF]at e;simp only[rB,<-g,e,gb];rfl⟩
  |unit=>
   cases k
   ·exact⟨.er 6,f4 [64,71,78,79] d f j i,c6 _,by simp only[KF]at e;simp only[rB,<-g,e,gb];rfl⟩
   exact⟨.er 6,f4 [64,71,78,79] d f j i,c6 _,by simp only[KF]at e;simp only[rB,<-g,e,gb];rfl⟩
 exact key
open Go.Lg
def Tm.sc:Nat->Tm->Prop|n,.v i=>i<n|n,.lam _ b=>b.sc (n+1)|_,.n0 _=>True|n,.n1 _ a=>a.sc n|n,.n2 _ a b=>a.sc n/\b.sc n|n,.n3 _ _ a b d=>a.sc n/\b.sc n/\d.sc n
def lD{s:Ty}(h:Nat.beq s.chk 0=true):s.size<=64:=ckE_0.1 (gq h)
abbrev Dd(g:List Ty)(t:Tm)(r:TR):Prop:=A 180 [CB g,t.p] r.q/\r.sz<=64/\(∀s,r=.ok s->t.sc g.length)/\r=t.tyR g
def uM{g:List Ty}{t:Tm}{n:Nat}(h:A 180 [CB g,t.p] (TR.er n).q)(e:TR.er n=t.tyR g):∃r:TR,Dd g t r:=⟨.er n,h,c6 _,(λ_ h=>nomatch h),e⟩
def tQ{g:List Ty}{t:Tm}{r:TR}(h:t.sc g.length)(a:A 180 [CB g,t.p] r.q)(b:r.sz<=64)(e:r=t.tyR g):∃r:TR,Dd g t r:=⟨r,a,b,λ_ _=>h,e⟩
def eJ:∀(t:Tm)(g:List Ty),(∀s∈g,s.size<=64)->t.shp=true->g.length+t.cnt<=qA->∃r:TR,Dd g t r
 |.v i,g,m,_,l=>by
  have L:=zA;by_cases h:i<g.length
  ·obtain⟨s,E⟩:∃s,g[g.length-1-i]? =some s:=⟨_,e7 a6⟩;have F:(!dA (.ofNat i) (.ofNat (g.map vB).length))=false:=by rw[KA bS];rfl
   have M:xA (Int.ofNat (g.map vB).length-1)=true/\Int.ofNat (g.map vB).length-1=.ofNat (g.length-1):=by
    have e:Int.ofNat (g.map vB).length-1=.ofNat (g.length-1):=a9
    grind[BA]
   have N:xA (Int.ofNat (g.length-1)-.ofNat i)=true/\Int.ofNat (g.length-1)-.ofNat i=.ofNat (g.length-1-i):=by
    have e:Int.ofNat (g.length-1)-.ofNat i=.ofNat (g.length-1-i):=a9
    grind[BA]
   exact tQ (r:=.ok s) h (f4 [21,26,29,(30,.i (vB s))] F M N (EA E VW)) (m s (gg E)) (by show _=ZA g i;unfold ZA;rw[gm h,E])
  have F:(!dA (.ofNat i) (.ofNat (g.map vB).length))=true:=by rw[iA bS];rfl
  exact uM (n:=5) (f1 [21] F) (by show _=ZA g i;unfold ZA;rw[e9 h])
 |.lam s b,g,m,o,l=>by
  have L:=zA;have:=yA;have l:g.length+(1+b.cnt)<=qA:=l;have⟨p,x⟩:=JA o;have O:=lD p;have J:=qH (g.map vB).length;have K:=jG 3 40 VW bb g s a6 (by simp only[maxLen];omega);have⟨r,d,C,B,j⟩:=eJ b (g++[s]) (λu Q=>by grind) x a9;rw[show CB (g++[s])=.slice (g.map vB++[vB s]) by simp[CB]]at d
  cases r with
  |er n=>exact uM (n:=n) (f4 [37,(44,.ok),(47,.ok),52] (sE s) J K d) (by show _=iI s (b.tyR (g++[s]));rw[<-j];rfl)|ok u=>
   have f:(Tm.lam s b).sc g.length:=by have:=B u rfl;grind[Tm.sc]
   have⟨r,y,z,A⟩:=Wl true s u O C;exact tQ f (f5 [37,(44,.ok),(47,.ok),52,61] (sE s) J K d y) z (by show _=iI s (b.tyR (g++[s]));rw[<-j];exact A)
 |.n0 k,g,m,o,l=>by
  have⟨r,y,z,A⟩:=N1 k;cases k<;>exact tQ trivial (f1 [88] y) z A
 |.n1 k a,g,m,o,l=>by
  have l:g.length+(1+a.cnt)<=qA:=l;have⟨r,d,C,B,j⟩:=eJ a g m o a6
  cases r with
  |er n=>cases k<;>exact uM (n:=n) (f1 [75] d) (by show _=mF _ (a.tyR g);rw[<-j];rfl)
  |ok u=>
   have f:(Tm.n1 k a).sc g.length:=B u rfl;have⟨r,y,z,A⟩:=O1 k a u C;cases k<;>exact tQ f (f2 [75,88] d y) z (by show _=mF _ (a.tyR g);rw[<-j];exact A)
 |.n2 k a b,g,m,o,l=>by
  have l:g.length+(1+a.cnt+b.cnt)<=qA:=l;have⟨p,x⟩:=JA o;have⟨r,d,C,B,j⟩:=eJ a g m p a6
  cases r with
  |er n=>cases k<;>exact uM (n:=n) (f1 [75] d) (by show _=ZC _ (a.tyR g) (b.tyR g);rw[<-j];rfl)
  |ok u=>
   have⟨r,p1,p2,G,D⟩:=eJ b g m x a6
   cases r with
   |er n=>cases k<;>exact uM (n:=n) (f2 [75,75] d p1) (by show _=ZC _ (a.tyR g) (b.tyR g);rw[<-j,<-D];rfl)
   |ok v=>
    have f:(Tm.n2 k a b).sc g.length:=⟨B u rfl,G v rfl⟩;have⟨r,y,z,A⟩:=Q1 k a b u v C p2;cases k<;>exact tQ f (f3 [75,75,88] d p1 y) z (by show _=ZC _ (a.tyR g) (b.tyR g);rw[<-j,<-D];exact A)
 |.n3 k s a b c,g,m,o,l=>by
  have l:g.length+(1+a.cnt+b.cnt+c.cnt)<=qA:=l;have⟨H,o⟩:=JA o;have⟨p,o⟩:=JA o;have⟨x,I⟩:=JA o;have⟨r,d,C,B,j⟩:=eJ a g m p a6
  cases r with
  |er n=>cases k<;>exact uM (n:=n) (f1 [75] d) (by show _=rB _ s (a.tyR g) (b.tyR g) (c.tyR g);rw[<-j];rfl)
  |ok u=>
   have⟨r,p1,p2,G,D⟩:=eJ b g m x a6
   cases r with
   |er n=>cases k<;>exact uM (n:=n) (f2 [75,75] d p1) (by show _=rB _ s (a.tyR g) (b.tyR g) (c.tyR g);rw[<-j,<-D];rfl)
   |ok v=>
    have⟨r,o1,o2,o3,o0⟩:=eJ c g m I a6
    cases r with
    |er n=>cases k<;>exact uM (n:=n) (f3 [75,75,75] d p1 o1) (by show _=rB _ s (a.tyR g) (b.tyR g) (c.tyR g);rw[<-j,<-D,<-o0];rfl)
    |ok w=>
     have f:(Tm.n3 k s a b c).sc g.length:=⟨B u rfl,G v rfl,o3 w rfl⟩;have⟨r,y,z,A⟩:=V1 k s a b c u v w (lD H);cases k<;>exact tQ f (f4 [75,75,75,88] d p1 o1 y) z (by show _=rB _ s (a.tyR g) (b.tyR g) (c.tyR g);rw[<-j,<-D,<-o0];exact A)
def Ed(g:List Ty)(t:Tm)(n:Nat)(b:∀s∈g,s.size<=64)(d:t.shp=true)(f:g.length+t.cnt<=qA):∃e,A 358 [CB g,t.p,num n] (num e)/\(e=0->t.sc g.length)/\(∀s,t.tyR g=.ok s->s.kd=n->e=0):=by
 have⟨r,a,k,i,j⟩:=eJ t g b d f
 cases r with
 |er e=>exact⟨e+1,f1 [12] a,(λh=>nomatch h),λs h=>by rw[<-j]at h;cases h⟩|ok s=>
  by_cases c:s.kd=n
  ·exact⟨0,f2 [12,(20,.n [(9,.G)])] a (show sB (.ofNat s.kd) (.ofNat n)=true by rw[c];exact eI n),(λ_=>i s rfl),λ_ _ _=>rfl⟩
  exact⟨7,f2 [12,(20,.n [(9,.H)])] a (GF c),(λh=>nomatch h),λu h l=>by grind⟩
def Fd(g:List Ty)(t:Tm)(a:∀s∈g,s.size<=64)(b:t.shp=true)(c:g.length+t.cnt<=qA:=by omega):∃e,A 359 [CB g,t.p] (num e)/\(e=0->t.sc g.length)/\(t.tyR g=.ok .nat->e=0):=by
 have⟨e,d,f,i⟩:=Ed g t 1 a b c;exact⟨e,f1 [7] d,f,λh=>i _ h rfl⟩
def Fm.frm:Fm->Bool|.q _ s _=>Nat.beq s.chk 0|_=>true
def Hd(f:Fm)(h:f.tsz<=bA):A 327 [f.p] (.bool f.frm):=by
 cases f with
 |eq a b=>exact f1 [31] XD|bin k f g=>cases k<;>exact f1 [31] XD
 |q k s f=>
  have h:max s.size f.tsz<=bA:=h;have c:=oO s;show A 327 [(Fm.q k s f).p] (.bool (Nat.beq s.chk 0));rcases KH s with e|e<;>rw[RH]at e<;>rw[e]at c<;>rw[RH,e]
  ·cases k<;>exact f1 [24] c
  cases k<;>exact f1 [24] c
def Fm.nd(f:Fm):Nat:=match f.shp with|true=>f.cnt|false=>0
def WW:∀f:Fm,f.tsz<=bA->f.cnt<=bA->A 256 [f.p] (.tuple [num f.nd,.bool f.shp])
 |.eq a b,h,e=>by
  have h:max a.tsz b.tsz<=bA:=h;have e:1+a.cnt+b.cnt<=bA:=e;have c:=aJ a a6 a6;have i:=aJ b a6 a6;have g:xA (.ofNat (1+a.cnt))=true:=cB a6;have d:=Hd (.eq a b) h;unfold Fm.nd Tm.nd at *
  show A 256 [(Fm.eq a b).p] (.tuple [num (match a.shp&&b.shp with|true=>1+a.cnt+b.cnt|false=>0),.bool (a.shp&&b.shp)]);cases j:a.shp<;>rw[j]at c
  ·exact f2 [14,25] d c
  cases l:b.shp<;>rw[l]at i
  ·exact f4 [14,25,(32,.ok),25] d c g i
  exact f5 [14,25,(32,.ok),25,(32,.ok)] d c g i (cB e)
 |.bin k a b,h,e=>by
  have h:max a.tsz b.tsz<=bA:=h;have e:1+a.cnt+b.cnt<=bA:=e;have c:=WW a a6 a6;have i:=WW b a6 a6;have g:xA (.ofNat (1+a.cnt))=true:=cB a6;have d:=Hd (.bin k a b) h;unfold Fm.nd at *
  show A 256 [(Fm.bin k a b).p] (.tuple [num (match a.shp&&b.shp with|true=>1+a.cnt+b.cnt|false=>0),.bool (a.shp&&b.shp)]);cases j:a.shp<;>rw[j]at c
  ·cases k<;>exact f2 [14,43] d c
  cases l:b.shp<;>rw[l]at i
  ·cases k<;>exact f4 [14,43,(50,.ok),43] d c g i
  cases k<;>exact f5 [14,43,(50,.ok),43,(50,.ok)] d c g i (cB e)
 |.q k s a,h,e=>by
  have d:A 327 [(Fm.q k s a).p] (.bool (Nat.beq s.chk 0)):=Hd (.q k s a) h;have h:max s.size a.tsz<=bA:=h;have e:1+a.cnt<=bA:=e;have c:=WW a a6 a6;unfold Fm.nd at *
  show A 256 [(Fm.q k s a).p] (.tuple [num (match Nat.beq s.chk 0&&a.shp with|true=>1+a.cnt|false=>0),.bool (Nat.beq s.chk 0&&a.shp)]);cases m:Nat.beq s.chk 0<;>rw[m]at d
  ·cases k<;>exact f1 [14] d
  cases j:a.shp<;>rw[j]at c
  ·cases k<;>exact f2 [14,43] d c
  cases k<;>exact f3 [14,43,(50,.ok)] d c (cB e)
def Fm.ckn(f:Fm):Nat:=match f.chk with|0=>f.cnt|_=>0
theorem dT(f:Fm)(c:f.tsz<=bA)(d:f.cnt<=bA):A 183 [f.p] (.tuple [num f.ckn,num f.chk]):=by
 have a:=WW f c d;unfold Fm.nd at a;unfold Fm.ckn Fm.chk;cases e:f.shp<;>rw[e]at a
 ·exact f1 [8] a
 cases b:dA (.ofNat 4096) (.ofNat f.cnt)
 ·exact f2 [8,16] a b
 exact f2 [8,16] a b
theorem Fm.ckn0{f:Fm}(h:f.chk=0):f.ckn=f.cnt:=by unfold Fm.ckn;split<;>simp_all
def a89(f:Fm)(a:f.tsz<=bA)(b:f.cnt<=bA):A 115 [f.p] (num f.chk):=f1 [7] (dT f a b)
def a296(f:Fm)(a:f.tsz<=bA)(b:f.cnt<=bA):A 390 [f.p] (.tuple [num f.ckn,num f.chk]):=f1 [5] (dT f a b)
open Go.Lg
def Fm.sc:Nat->Fm->Prop|n,.eq a b=>a.sc n/\b.sc n|n,.bin _ f g=>f.sc n/\g.sc n|n,.q _ _ f=>f.sc (n+1)
def Jd:A 179 [rA []] (CB []):=f0 []
def X1(s:Ty)(h:s.size<=bA):A 179 [rA [s]] (CB [s]):=f1 [14] (sE s h)
def Y1(s u:Ty)(h:s.size<=bA)(a:u.size<=bA):A 179 [rA [s,u]] (CB [s,u]):=f2 [14,14] (sE s h) (sE u a)
def fT(g:List Ty)(s:Ty)(a:g.length<=qA:=by omega)(h:s.size<=bA:=by omega):A 357 [CB g,rA [s]] (CB (g++[s])):=by
 have:=zA;have a:=qH (g.map vB).length;have b:=jG 3 40 VW bb g s a6 (by simp only[maxLen];omega);rw[show CB (g++[s])=.slice (g.map vB++[vB s]) by simp[CB]];exact f3 [(10,.ok),12,(13,.ok)] a (X1 s h) b
def Z1(g:List Ty)(s u:Ty)(a:g.length<=qA)(h:s.size<=bA)(a:u.size<=bA):A 357 [CB g,rA [s,u]] (CB (g++[s,u])):=by
 have:=zA;have b:=qH (g.map vB).length;have c:=Ll 3 40 VW bb g s u a6 (by simp only[maxLen];omega);rw[show CB (g++[s,u])=.slice (g.map vB++[vB s,vB u]) by simp[CB]];exact f3 [(10,.ok),12,(13,.ok)] b (Y1 s u h a) c
def bM:∀(f:Fm)(g:List Ty),(∀s∈g,s.size<=64)->f.shp=true->g.length+f.cnt<=qA->∃e,A 341 [CB g,f.p] (num e)/\(e=0->f.sc g.length)/\(f.ty g->e=0)
 |.eq a b,g,l,m,j=>by
  have j:g.length+(1+a.cnt+b.cnt)<=qA:=j;have⟨c,d⟩:=JA m;have⟨e,i,o,p⟩:=Fd g a l c
  cases e with
  |succ n=>exact⟨n+1,f1 [50] i,(λh=>nomatch h),λh=>absurd (p h.1.2) (ej _)⟩|zero=>
   have⟨e,p1,p2,r⟩:=Fd g b l d
   cases e with|succ n=>exact⟨n+1,f2 [50,50] i p1,(λh=>nomatch h),λh=>absurd (r h.2.2) (ej _)⟩|zero=>exact⟨0,f2 [50,50] i p1,(λ_=>⟨o rfl,p2 rfl⟩),λ_=>rfl⟩
 |.bin k a b,g,l,m,j=>by
  have j:g.length+(1+a.cnt+b.cnt)<=qA:=j;have⟨c,d⟩:=JA m;have⟨e,i,o,p⟩:=bM a g l c a6
  cases e with
  |succ n=>cases k<;>exact⟨n+1,f1 [36] i,(λh=>nomatch h),λh=>absurd (p h.1) (ej _)⟩
  |zero=>
   have⟨e,p1,p2,r⟩:=bM b g l d a6
   cases e with
   |succ n=>cases k<;>exact⟨n+1,f2 [36,36] i p1,(λh=>nomatch h),λh=>absurd (r h.2) (ej _)⟩
   |zero=>cases k<;>exact⟨0,f2 [36,36] i p1,(λ_=>⟨o rfl,p2 rfl⟩),λ_=>rfl⟩
 |.q k s a,g,l,m,j=>by
  have v:=zA;have w:=yA;have j:g.length+(1+a.cnt)<=qA:=j;have⟨c,d⟩:=JA m;have x:=lD c;have t:=fT g s;have⟨e,i,o,p⟩:=bM a (g++[s]) (λu y=>by grind) d a9
  cases e with
  |succ n=>cases k<;>exact⟨n+1,f2 [26,36] t i,(λh=>nomatch h),λh=>absurd (p h) (ej _)⟩
  |zero=>cases k<;>exact⟨0,f2 [26,36] t i,(λ_=>by have:=o rfl;simpa[Fm.sc]using this),λ_=>rfl⟩
def Xl{g:List Ty}(j:g.length<=16):∀(r:List Ty)(k:Nat),g.drop k=r->(∀t∈r,t.size<=bA)->
  (DF r=0/\Lp 178 0 0 (st [(9,.pv (rA g)),(10,.pv (num (g.map Ty.c).length)),(11,.pv (num k))] [] 0 []) (.exit 0) (st [] [] 0 []))\/DF r=4/\Lp 178 0 0 (st [(9,.pv (rA g)),(10,.pv (num (g.map Ty.c).length)),(11,.pv (num k))] [] 0 []) .ret (st [(2,.pv (num 4))] [] 0 [])
 |[],k,h,_=>.inl ⟨rfl,x1 [12] (kp []) (show dA (.ofNat k) (.ofNat (g.map Ty.c).length)=false from iA bS)⟩|t::r,k,h,i=>by
  have⟨c,n,l⟩:=uC h;have b:=Ad t (i t a8);have a:dA (.ofNat k) (.ofNat (g.map Ty.c).length)=true:=KA bS;unfold DF;rcases KH t with e|e<;>rw[RH]at e<;>rw[e]at b<;>rw[RH,e]
  ·rcases Xl j r (k+1) l (λt m=>i t (by simp[m]))with ⟨d,f⟩|⟨d,f⟩
   ·exact .inl ⟨d,n5 [12,(13,.i t.c),16,(20,.ok)] (kp [9,10,11]) a (EA c Ty.c_len) b (BA (show k+1<=_ by omega)) f⟩
   exact .inr ⟨d,n5 [12,(13,.i t.c),16,(20,.ok)] (kp [9,10,11]) a (EA c Ty.c_len) b (BA (show k+1<=_ by omega)) f⟩
  exact .inr ⟨rfl,x3 [12,(13,.i t.c),16] (kp [2]) a (EA c Ty.c_len) b⟩
def aQ(g:List Ty)(c:∀t∈g,t.size<=bA):A 178 [rA g] (num (UG g)):=by
 unfold UG;cases e:dA (.ofNat 16) (.ofNat (g.map Ty.c).length)
 ·have d:g.length<=16:=by
   rw[vC]at e
   grind
  rcases Xl d g 0 rfl c with ⟨b,a⟩|⟨b,a⟩<;>rw[b]
  ·exact f2 [8,(100004,.l (kp [9,10,11]) (.exit 0) (st [] [] 0 []))] e a
  exact f2 [8,(100004,.l (kp [9,10,11]) .ret (st [(2,.pv (num 4))] [] 0 []))] e a
 exact f1 [8] e
theorem Yl:∀{g:List Ty},DF g=0->∀s∈g,s.size<=64
 |[],_,s,h=>by cases h
 |t::r,e,s,h=>by
  unfold DF at e;split at e
  ·rename_i a;rcases e8.1 h with rfl|h
   ·exact Go.Proofs.YtbebdmlomjpamaaGreatDoor.chk0 a
   exact Yl e s h
  cases e
def C2{g:List Ty}(e:UG g=0):g.length<=16/\∀s∈g,s.size<=64:=by
 grind[UG,vC,Yl]
theorem YD{A:List (List PV)}{v sz ty m:Nat}{c:List PV}(a:0<sz)(b:VC sz [CA c]=true)(d:CC [CA c]=true)(e:A.length+1<=maxLen)(f:(A.length+1)*m<=140737488355328):
  (Nat.beq v v&&Nat.ble A.length (vA A).length&&Nat.beq ty ty&&Nat.beq sz sz&&Nat.blt 0 sz&&VC sz [CA c]&&CC [CA c]&&Nat.ble (A.length+[CA c].length) maxLen&&Nat.ble ((A.length+[CA c].length)*m) 140737488355328)=true:=
 ZS (pvE_len A) a b d e f
abbrev Zl(g:List Ty)(k:Nat)(x:V):List (Nat×V):=[(3,x),(6,.pv (rA g)),(7,.pv (num (g.map Ty.c).length)),(8,.pv (num k))]
abbrev qm:Kp:=⟨[3,6,7,8],[1],2,[]⟩
def zm{g:List Ty}(f:g.length<=qA):∀(r:List Ty)(k v:Nat)(A:List (List PV)),g.drop k=r->(∀t∈r,t.size<=bA)->A.length=k->
  ∃a,Lp 179 0 0 (st (Zl g k (.arr 1 v A.length)) [(1,.arr v 3 194 (vA A))] 2 []) (.exit 0) (st [(3,.arr 1 a (A.length+r.length))] [(1,.arr a 3 194 (vA (A++r.map vB)))] 2 [])
 |[],k,v,A,h,b,c=>by
  have e:dA (.ofNat k) (.ofNat (g.map Ty.c).length)=false:=iA bS;simp only[i2,hI,iq,ir];exact⟨v,y1 [9] ⟨[3],[1],2,[]⟩ e (BB A)⟩
 |t::r,k,v,A,h,b,c=>by
  have:=zA;have⟨i,p,j⟩:=uC h;have e:dA (.ofNat k) (.ofNat (g.map Ty.c).length)=true:=KA bS;have l:=BA (show k+1<=_ by omega);have m:=YD (A:=A) (v:=v) (ty:=194) (m:=40) (c:=vB t) (show 0<3 by decide) rfl rfl (by simp only[maxLen];omega) a6;have⟨a,d⟩:=zm f r (k+1) (v+1) (A++[vB t]) j (λu n=>b u (by simp[n])) (by simp[c]);rw[gD,show(A++[vB t]).length=A.length+1 by simp,show A.length+1+r.length=A.length+(t::r).length by simp;omega,gy]at d;exact⟨a,n7 [9,(10,.i t.c),14,(16,.ok),(17,.ok)] qm e (EA i Ty.c_len) (sE t (b t a8)) m l (dB A (vB t)) d⟩
def Kd(g:List Ty)(c:g.length<=qA)(a:∀t∈g,t.size<=bA):A 179 [rA g] (CB g):=by
 cases g with
 |nil=>exact Jd|cons t r=>
  have e:dA (.ofNat 0) (.ofNat ((t::r).map Ty.c).length)=true:=KA a8;have⟨v,h⟩:=zm c r 1 1 [vB t] rfl (λu d=>a u (by simp[d])) rfl;have b:=LoopIs.fz a8 h 1 (ver:=v) (sz:=3) (ty:=194) (ps:=(t::r).map vB) rfl bG;simp (decide:=true) only[eD,XC,VB,List.map,BC,and_self,↓reduceIte,gu (show(vB t::r.map vB).length<=[vB t].length+r.length by simp;omega)]at b;have f:Lp 179 0 0 (st (Zl (t::r) 0 (.pv .nils)) [] 0 []) (.exit 0) (st [(3,.pv (CB (t::r)))] [] 2 []):=
   n6 [9,(10,.i t.c),14,(17,.ok)] qm e (EA (g:=t::r) (k:=0) rfl Ty.c_len) (sE t (a t a8)) (BA (show 0+1<=_ by omega)) (dB [] (vB t)) b
  exact f1 [(100003,.l ⟨[3,6,7,8],[],0,[]⟩ (.exit 0) (st [(3,.pv (CB (t::r)))] [] 2 []))] f
open Go.Lg
def D2{x:Int}{a:Nat}(h:(a:Int)<=x):(!dA x (.ofNat a))=true:=by rw[vC];simp;exact h
def G2{x:Int}{a:Nat}(h:x<(a:Int)):(!dA x (.ofNat a))=false:=by rw[vC];simp;exact h
def XW{x:Int}{a:Nat}(h:x=(a:Int)):sB x (.ofNat a)=true:=by rw[XI];simp;exact h
def jm{x:Int}{a:Nat}(h:x≠(a:Int)):sB x (.ofNat a)=false:=by rw[XI];simp;exact h
def I2{x:Int}{a:Nat}(h:(a:Int)<x):dA (.ofNat a) x=true:=by rw[vC];simp;exact h
def J2{x:Int}{a:Nat}(h:x<=(a:Int)):dA (.ofNat a) x=false:=by rw[vC];simp;exact h
def cQ{i d:Nat}(h:i<=bA:=by omega)(a:d<=bA:=by omega):xA (Int.ofNat i-.ofNat d)=true/\Int.ofNat i-.ofNat d=Int.ofNat i-.ofNat d:=⟨(gC h a rfl).1,rfl⟩
def lA{a b:Nat}(h:a+b<=bA:=by omega):xA (Int.ofNat a+.ofNat b)=true/\Int.ofNat a+.ofNat b=.ofNat (a+b):=⟨cB (n:=a+b) h,rfl⟩
abbrev vm(c:V)(own:List (Nat×Ob)):List (Nat×Ob):=(5,.box [c])::(7,.box [.fn 369 [.loc 5 0,.loc 7 0]])::own
abbrev wm(a b:Nat):List (Nat×Ob):=vm (.fn 311 [.loc 1 0,.loc 2 0]) [(1,bx [num a]),(2,bx [num b])]
def dM(a z:Nat)(l:a<=qA)(m:z<=2*qA):∀(t:Tm)(d:Nat),d+t.cnt<=qA->t.mx<=qA*qA->O 369 [.pv t.p,.pv (num d),.loc 5 0,.loc 7 0] (wm a z) (.pv (t.sh (a+d) (.ofNat z)).p) (wm a z)
 |.v i,d,f,j=>by
  have n:=zA;have v:i<=qA*qA:=j;have f:d+1<=qA:=f;rw[n]at v;have w:=yA;have u:=cQ (i:=i) (d:=d);by_cases h:a+d<=i
  ·have e:(Tm.v i).sh (a+d) (.ofNat z)=.v (i+z):=by simp only[Tm.sh,gm h];rfl
   rw[e];have o:(!dA (Int.ofNat i-.ofNat d) (.ofNat a))=true:=D2 a9;have x:=lA (a:=i) (b:=z);exact o3 8 [(17,.n [(9,.y (Int.ofNat i-.ofNat d)),(11,.G),(14,.z (i+z))])] u o x
  have e:(Tm.v i).sh (a+d) (.ofNat z)=.v i:=by simp only[Tm.sh,e9 h]
  rw[e];have o:(!dA (Int.ofNat i-.ofNat d) (.ofNat a))=false:=G2 a9;exact o2 8 [(17,.n [(9,.y (Int.ofNat i-.ofNat d)),(11,.H)])] u o
 |.lam s b,d,f,j=>by
  have f:d+(1+b.cnt)<=qA:=f;have n:=zA;have w:=yA;have g:=dM a z l m b (d+1) a6 j;exact o3 8 [24,30,(43,.o [5,7,1,2] [] (.pv (b.sh (a+(d+1)) (.ofNat z)).p))] (JF s) (lA (a:=d) (b:=1)) g
 |.n0 k,d,_,_=>by cases k<;>exact o1 8 [24] ED
 |.n1 k b,d,f,j=>by
  have f:d+(1+b.cnt)<=qA:=f;have g:=dM a z l m b d a6 j;cases k<;>exact o2 8 [24,(43,.o [5,7,1,2] [] (.pv (b.sh (a+d) (.ofNat z)).p))] ED g
 |.n2 k b c,d,f,j=>by
  have f:d+(1+b.cnt+c.cnt)<=qA:=f;have j:max b.mx c.mx<=qA*qA:=j;have g:=dM a z l m b d a6 a6;have p:=dM a z l m c d a6 a6;cases k<;>exact o3 8 [24,(43,.o [5,7,1,2] [] (.pv (b.sh (a+d) (.ofNat z)).p)),(43,.o [5,7,1,2] [] (.pv (c.sh (a+d) (.ofNat z)).p))] ED g p
 |.n3 k s b c e,d,f,j=>by
  have f:d+(1+b.cnt+c.cnt+e.cnt)<=qA:=f;have j:max b.mx (max c.mx e.mx)<=qA*qA:=j;have g:=dM a z l m b d a6 a6;have p:=dM a z l m c d a6 a6;have r:=dM a z l m e d a6 a6;cases k<;>exact o4 8 [24,(43,.o [5,7,1,2] [] (.pv (b.sh (a+d) (.ofNat z)).p)),(43,.o [5,7,1,2] [] (.pv (c.sh (a+d) (.ofNat z)).p)),(43,.o [5,7,1,2] [] (.pv (e.sh (a+d) (.ofNat z)).p))] (JF s) g p r
def Ld(t:Tm)(a z:Nat)(b:a<=qA)(c:z<=2*qA)(d:t.cnt<=qA:=by omega)(d:t.mx<=qA*qA:=by omega):A 243 [t.p,num a,num z] (t.sh a (.ofNat z)).p:=
 f1 [(9,.n [(9,.o [5,7,1,2] [] (.pv (t.sh a (.ofNat z)).p))])] (dM a z b c t 0 a6 d)
structure Sx where
 k:Nat
 i:Nat
 tk:Nat
 te:List (List PV)
 es:List (List PV)
abbrev Sx.c(s:Sx):List PV:=[num s.k,num s.i,num s.tk,.slice s.te,.slice s.es]
abbrev Tm.x(t:Tm):Sx:=⟨t.kd,t.ix,t.tk,t.te,t.es⟩
abbrev Sx.z:Sx:=⟨0,0,0,[],[]⟩
abbrev ym(a:Nat)(s:Sx):List (Nat×Ob):=vm (.fn 414 [.loc 1 0,.loc 2 0]) [(1,bx [num a]),(2,bx s.c)]
def Lf(s:Sx)(S:Tm):Prop:=∀n,n<=2*qA->A 243 [.agg s.c,num 0,num n] (S.sh 0 (.ofNat n)).p
def fM(a:Nat)(s:Sx)(S:Tm)(m:a<=qA):∀(t:Tm)(d:Nat),(Lf s S\/t.occ (a+d)=0)->d+t.cnt<=qA->t.mx<=qA*qA->O 369 [.pv t.p,.pv (num d),.loc 5 0,.loc 7 0] (ym a s) (.pv (t.put a S d).p) (ym a s)
 |.v i,d,f,j,l=>by
  have n:=zA;have y:i<=qA*qA:=l;have j:d+1<=qA:=j;rw[n]at y;have z:=yA;have r:=cQ (i:=i) (d:=d);by_cases h:i=a+d
  ·have e:(Tm.v i).put a S d=S.sh 0 (.ofNat (a+d)):=by simp only[Tm.put,gm h]
   rw[e];have p:sB (Int.ofNat i-.ofNat d) (.ofNat a)=true:=XW a9;have o:=lA (a:=a) (b:=d);rcases f with f|f
   ·exact o4 8 [(17,.n [(10,.y (Int.ofNat i-.ofNat d)),(14,.G),(18,.z (a+d)),(19,.r (S.sh 0 (.ofNat (a+d))).p)])] r p o (f (a+d) a6)
   grind[Tm.occ]
  have p:sB (Int.ofNat i-.ofNat d) (.ofNat a)=false:=jm a9;by_cases x:a+d<i
  ·have e:(Tm.v i).put a S d=.v (i-1):=by simp only[Tm.put,e9 h,gm x]
   rw[e];have o:dA (.ofNat a) (Int.ofNat i-.ofNat d)=true:=I2 a9;have A:=lC (a:=i);exact o4 8 [(17,.n [(10,.y (Int.ofNat i-.ofNat d)),(14,.H),(23,.G),(25,.z (i-1))])] r p o A
  have e:(Tm.v i).put a S d=.v i:=by simp only[Tm.put,e9 h,e9 x]
  rw[e];have o:dA (.ofNat a) (Int.ofNat i-.ofNat d)=false:=J2 a9;exact o3 8 [(17,.n [(10,.y (Int.ofNat i-.ofNat d)),(14,.H),(23,.H)])] r p o
 |.lam s b,d,f,j,l=>by
  have j:d+(1+b.cnt)<=qA:=j;have n:=zA;have z:=yA;have g:=fM a _ S m b (d+1) f a6 l;exact o3 8 [24,30,(43,.o [5,7,1,2] [] (.pv (b.put a S (d+1)).p))] (JF s) (lA (a:=d) (b:=1)) g
 |.n0 k,d,_,_,_=>by cases k<;>exact o1 8 [24] ED
 |.n1 k b,d,f,j,l=>by
  have j:d+(1+b.cnt)<=qA:=j;have g:=fM a s S m b d f a6 l;cases k<;>exact o2 8 [24,(43,.o [5,7,1,2] [] (.pv (b.put a S d).p))] ED g
 |.n2 k b c,d,f,j,l=>by
  have j:d+(1+b.cnt+c.cnt)<=qA:=j;have l:max b.mx c.mx<=qA*qA:=l;have f:Lf s S\/b.occ (a+d)+c.occ (a+d)=0:=f;have g:=fM a s S m b d (f.imp id a6) a6 a6;have v:=fM a s S m c d (f.imp id a6) a6 a6;cases k<;>exact o3 8 [24,(43,.o [5,7,1,2] [] (.pv (b.put a S d).p)),(43,.o [5,7,1,2] [] (.pv (c.put a S d).p))] ED g v
 |.n3 k u b c e,d,f,j,l=>by
  have j:d+(1+b.cnt+c.cnt+e.cnt)<=qA:=j;have l:max b.mx (max c.mx e.mx)<=qA*qA:=l;have f:Lf s S\/b.occ (a+d)+c.occ (a+d)+e.occ (a+d)=0:=f;have g:=fM a s S m b d (f.imp id a6) a6 a6;have v:=fM a s S m c d (f.imp id a6) a6 a6;have w:=fM a s S m e d (f.imp id a6) a6 a6;cases k<;>exact o4 8 [24,(43,.o [5,7,1,2] [] (.pv (b.put a S d).p)),(43,.o [5,7,1,2] [] (.pv (c.put a S d).p)),(43,.o [5,7,1,2] [] (.pv (e.put a S d).p))] (JF u) g v w
def um(t:Tm)(a:Nat)(s:Sx)(S:Tm)(b:Lf s S\/t.occ a=0)(c:a<=qA:=by omega)(d:t.cnt<=qA:=by omega)(d:t.mx<=qA*qA:=by omega):A 404 [t.p,num a,.agg s.c] (t.put a S 0).p:=
 f1 [(9,.n [(9,.o [5,7,1,2] [] (.pv (t.put a S 0).p))])] (fM a s S c t 0 b a6 d)
theorem Lf.of(S:Tm)(a:S.cnt<=qA)(a:S.mx<=qA*qA)(B:∀n,n<=2*qA->A 243 [S.p,num 0,num n] (S.sh 0 (.ofNat n)).p):Lf S.x S:=B
def BK:∀t:Tm,A 298 [t.p] t.p
 |.v i=>f1 [12] ED|.lam s b=>f2 [12,24] (JF s) (BK b)|.n0 k=>by cases k<;>exact f1 [12] ED
 |.n1 k b=>by have g:=BK b;cases k<;>exact f2 [12,24] ED g
 |.n2 k b c=>by have g:=BK b;have a:=BK c;cases k<;>exact f3 [12,24,24] ED g a
 |.n3 k s b c d=>by have g:=BK b;have a:=BK c;have e:=BK d;cases k<;>exact f4 [12,24,24,24] (JF s) g a e
open Go.Lg
abbrev mG:Nat:=536870912
def bC:Bool->Tm->Bool
 |b,.v i=>match b with|true=> !dA (.ofNat mG) (.ofNat i)|false=>false
 |b,.lam _ t=>bC b t|b,.n0 _=>b|b,.n1 _ t=>bC b t|b,.n2 _ t u=>bC (bC b t) u|b,.n3 _ _ t u w=>bC (bC (bC b t) u) w
theorem iJ:∀(t:Tm),t.mx<=mG->bC true t=true
 |.v i,h=>by
  have h:i<=mG:=h;show(!dA (.ofNat mG) (.ofNat i))=true;rw[iA h];rfl
 |.lam _ t,h=>iJ t h|.n0 _,_=>rfl|.n1 _ t,h=>iJ t h|.n2 _ t u,h=>by
  have h:max t.mx u.mx<=mG:=h;simp only[bC,iJ t a6,iJ u a6]
 |.n3 _ _ t u w,h=>by
  have h:max t.mx (max u.mx w.mx)<=mG:=h;simp only[bC,iJ t a6,iJ u a6,iJ w a6]
abbrev ut:PV:=.tuple []
abbrev Md(i j:Nat)(c:V)(own:List (Nat×Ob)):List (Nat×Ob):=(i,.box [c])::(j,.box [.fn 368 [.loc i 0,.loc j 0]])::own
abbrev Nd(b:Bool):List (Nat×Ob):=Md 3 4 (.fn 309 [.loc 1 0]) [(1,bx [.bool b])]
abbrev FE(b:Bool):List (Nat×Ob):=[(1,bx [.bool b])]
def gM:∀(t:Tm)(b:Bool)(d:Nat),d+t.cnt<=qA->O 368 [.pv t.p,.pv (num d),.loc 3 0,.loc 4 0] (Nd b) (.pv ut) (Nd (bC b t))
 |.v i,b,d,f=>by
  cases b
  ·exact o0 5 []
  show O 368 _ _ _ (Nd (!dA (.ofNat mG) (.ofNat i)));cases e: !dA (.ofNat mG) (.ofNat i)
  ·exact o1 5 [(15,.n [(8,.H)])] e
  exact o1 5 [(15,.n [(8,.G)])] e
 |.lam s a,b,d,f=>by
  have f:d+(1+a.cnt)<=qA:=f;have:=zA;have:=yA;exact o2 5 [20,(31,.o [3,4] (FE (bC b a)) (.pv ut))] (lA (a:=d) (b:=1)) (gM a b (d+1) a6)
 |.n0 k,b,d,f=>by cases k<;>exact o0 5 []
 |.n1 k a,b,d,f=>by
  have f:d+(1+a.cnt)<=qA:=f;have g:=gM a b d a6;cases k<;>exact o1 5 [(31,.o [3,4] (FE (bC b a)) (.pv ut))] g
 |.n2 k a c,b,d,f=>by
  have f:d+(1+a.cnt+c.cnt)<=qA:=f;have g:=gM a b d a6;have h:=gM c (bC b a) d a6;cases k<;>exact o2 5 [(31,.o [3,4] (FE (bC b a)) (.pv ut)),(31,.o [3,4] (FE (bC (bC b a) c)) (.pv ut))] g h
 |.n3 k s a c e,b,d,f=>by
  have f:d+(1+a.cnt+c.cnt+e.cnt)<=qA:=f;have g:=gM a b d a6;have h:=gM c (bC b a) d a6;have j:=gM e (bC (bC b a) c) d a6;cases k<;>exact o3 5 [(31,.o [3,4] (FE (bC b a)) (.pv ut)),(31,.o [3,4] (FE (bC (bC b a) c)) (.pv ut)),(31,.o [3,4] (FE (bC (bC (bC b a) c) e)) (.pv ut))] g h j
def a298(t:Tm)(h:t.cnt<=qA:=by omega):A 240 [t.p] (.bool (bC true t)):=
 f1 [(6,.n [(8,.o [3,4] (FE (bC true t)) (.pv ut))])] (gM t true 0 a6)
abbrev bm(a n:Nat):List (Nat×Ob):=Md 4 5 (.fn 409 [.loc 1 0,.loc 2 0]) [(1,bx [num a]),(2,bx [num n])]
abbrev nG(n:Nat):List (Nat×Ob):=[(2,bx [num n])]
def lM(a:Nat)(o:a<=qA):∀(t:Tm)(n d:Nat),d+t.cnt<=qA->t.mx<=qA*qA->n+t.cnt<=bA->O 368 [.pv t.p,.pv (num d),.loc 4 0,.loc 5 0] (bm a n) (.pv ut) (bm a (n+t.occ (a+d)))
 |.v i,n,d,j,m,l=>by
  have p:=zA;have x:i<=qA*qA:=m;have j:d+1<=qA:=j;have l:n+1<=bA:=l;rw[p]at x;have y:=yA;have w:=cQ (i:=i) (d:=d);by_cases h:i=a+d
  ·have r:sB (Int.ofNat i-.ofNat d) (.ofNat a)=true:=XW a9;have e:(Tm.v i).occ (a+d)=1:=by simp only[Tm.occ,gm h]
   rw[e];exact o3 6 [(15,.n [(8,.y (Int.ofNat i-.ofNat d)),(10,.G),(12,.z (n+1))])] w r (lA (a:=n) (b:=1))
  have r:sB (Int.ofNat i-.ofNat d) (.ofNat a)=false:=jm a9;have e:(Tm.v i).occ (a+d)=0:=by simp only[Tm.occ,e9 h]
  rw[e];exact o2 6 [(15,.n [(8,.y (Int.ofNat i-.ofNat d)),(10,.H)])] w r
 |.lam s b,n,d,j,m,l=>by
  have j:d+(1+b.cnt)<=qA:=j;have l:n+(1+b.cnt)<=bA:=l;have p:=zA;have y:=yA;exact o2 6 [20,(31,.o [4,5,1] (nG (n+b.occ (a+(d+1)))) (.pv ut))] (lA (a:=d) (b:=1)) (lM a o b n (d+1) a6 m a6)
 |.n0 k,n,d,_,_,_=>by cases k<;>exact o0 6 []
 |.n1 k b,n,d,j,m,l=>by
  have j:d+(1+b.cnt)<=qA:=j;have l:n+(1+b.cnt)<=bA:=l;have g:=lM a o b n d a6 m a6;cases k<;>exact o1 6 [(31,.o [4,5,1] (nG (n+b.occ (a+d))) (.pv ut))] g
 |.n2 k b c,n,d,j,m,l=>by
  have j:d+(1+b.cnt+c.cnt)<=qA:=j;have l:n+(1+b.cnt+c.cnt)<=bA:=l;have m:max b.mx c.mx<=qA*qA:=m;have:=IB b (a+d);have g:=lM a o b n d a6 a6 a6;have u:=lM a o c (n+b.occ (a+d)) d a6 a6 a6;have e:n+(Tm.n2 k b c).occ (a+d)=n+b.occ (a+d)+c.occ (a+d):=(aaD _ _ _).symm;rw[e];cases k<;>exact o2 6 [(31,.o [4,5,1] (nG (n+b.occ (a+d))) (.pv ut)),(31,.o [4,5,1] (nG (n+b.occ (a+d)+c.occ (a+d))) (.pv ut))] g u
 |.n3 k s b c f,n,d,j,m,l=>by
  have j:d+(1+b.cnt+c.cnt+f.cnt)<=qA:=j;have l:n+(1+b.cnt+c.cnt+f.cnt)<=bA:=l;have m:max b.mx (max c.mx f.mx)<=qA*qA:=m;have:=IB b (a+d);have:=IB c (a+d);have g:=lM a o b n d a6 a6 a6;have u:=lM a o c (n+b.occ (a+d)) d a6 a6 a6;have v:=lM a o f (n+b.occ (a+d)+c.occ (a+d)) d a6 a6 a6;have e:n+(Tm.n3 k s b c f).occ (a+d)=n+b.occ (a+d)+c.occ (a+d)+f.occ (a+d):=by grind[Tm.occ]
  rw[e];cases k<;>exact o3 6 [(31,.o [4,5,1] (nG (n+b.occ (a+d))) (.pv ut)),(31,.o [4,5,1] (nG (n+b.occ (a+d)+c.occ (a+d))) (.pv ut)),(31,.o [4,5,1] (nG (n+b.occ (a+d)+c.occ (a+d)+f.occ (a+d))) (.pv ut))] g u v
def dm(t:Tm)(a:Nat)(b:a<=qA:=by omega)(h:t.cnt<=qA:=by omega)(c:t.mx<=qA*qA:=by omega):A 393 [t.p,num a] (num (t.occ a)):=by
 have:=zA;have:=yA;have g:=lM a b t 0 0 a6 c a6;rw[ia]at g;exact f1 [(8,.n [(8,.o [4,5,1] (nG (t.occ a)) (.pv ut))])] g
abbrev fm(a z:Nat):List (Nat×Ob):=[(1,bx [num a]),(2,bx [num z])]
def YW(a z:Nat)(i:a<=qA)(e:z<=2*qA):∀(f:Fm)(d:Nat),a+d+f.cnt<=qA->f.mx<=qA*qA->O 241 [.pv f.p,.pv (num d),.fn 242 [.loc 1 0,.loc 2 0]] (fm a z) (.pv (f.sh (a+d) (.ofNat z)).p) (fm a z)
 |.eq t u,d,b,c=>by
  have j:=zA;have m:=yA;have b:a+d+(1+t.cnt+u.cnt)<=qA:=b;have c:max t.mx u.mx<=qA*qA:=c;have g:=lA (a:=a) (b:=d);have h:=Ld t (a+d) z a6 e;have l:=Ld u (a+d) z a6 e;exact o5 3 [16,(30,.n [(10,.z (a+d)),(12,.r (t.sh (a+d) (.ofNat z)).p)]),(30,.n [(10,.z (a+d)),(12,.r (u.sh (a+d) (.ofNat z)).p)])] ED g h g l
 |.bin k f g,d,b,c=>by
  have b:a+d+(1+f.cnt+g.cnt)<=qA:=b;have c:max f.mx g.mx<=qA*qA:=c;have h:=YW a z i e f d a6 a6;have l:=YW a z i e g d a6 a6;cases k<;>exact o3 3 [16,(52,.o [1,2] [] (.pv (f.sh (a+d) (.ofNat z)).p)),(52,.o [1,2] [] (.pv (g.sh (a+d) (.ofNat z)).p))] ED h l
 |.q k s f,d,b,c=>by
  have j:=zA;have m:=yA;have b:a+d+(1+f.cnt)<=qA:=b;have g:=lA (a:=d) (b:=1);have h:=YW a z i e f (d+1) a6 c;cases k<;>exact o3 3 [16,39,(52,.o [1,2] [] (.pv (f.sh (a+(d+1)) (.ofNat z)).p))] (JF s) g h
def BI(f:Fm)(a z:Nat)(b:z<=2*qA)(c:a+f.cnt<=qA)(c:f.mx<=qA*qA):A 162 [f.p,num a,num z] (f.sh a (.ofNat z)).p:=
 f1 [(9,.o [1,2] [] (.pv (f.sh a (.ofNat z)).p))] (YW a z a6 b f 0 a6 c)
def eQ(S:Tm):∀(t:Tm)(c d:Nat),t.put (c+1) S d=t.put c S (d+1)|.v i,c,d=>by grind[Tm.put]|.lam s b,c,d=>by simp[Tm.put,eQ]|.n0 k,c,d=>rfl|.n1 k a,c,d=>by simp[Tm.put,eQ]|.n2 k a b,c,d=>by simp[Tm.put,eQ]|.n3 k s a b e,c,d=>by simp[Tm.put,eQ]
def L2(S:Tm):∀(f:Fm)(c d:Nat),f.put (c+1) S d=f.put c S (d+1)
 :=by intro x;induction x<;>simp_all[Fm.put,eQ]
abbrev lm(a:Nat)(s:Sx):List (Nat×Ob):=[(1,bx [num a]),(2,bx s.c)]
def ZW(a:Nat)(s:Sx)(S:Tm)(j:a<=qA):∀(f:Fm)(d:Nat),(Lf s S\/f.occ (a+d)=0)->a+d+f.cnt<=qA->f.mx<=qA*qA->O 241 [.pv f.p,.pv (num d),.fn 403 [.loc 1 0,.loc 2 0]] (lm a s) (.pv (f.put (a+d) S 0).p) (lm a s)
 |.eq t u,d,b,c,h=>by
  have l:=zA;have n:=yA;have c:a+d+(1+t.cnt+u.cnt)<=qA:=c;have h:max t.mx u.mx<=qA*qA:=h;have b:Lf s S\/t.occ (a+d)+u.occ (a+d)=0:=b;have g:=lA (a:=a) (b:=d);have i:=um t (a+d) s S (b.imp id a6);have m:=um u (a+d) s S (b.imp id a6);exact o5 3 [16,(30,.n [(10,.z (a+d)),(12,.r (t.put (a+d) S 0).p)]),(30,.n [(10,.z (a+d)),(12,.r (u.put (a+d) S 0).p)])] ED g i g m
 |.bin k f g,d,b,c,h=>by
  have c:a+d+(1+f.cnt+g.cnt)<=qA:=c;have h:max f.mx g.mx<=qA*qA:=h;have b:Lf s S\/f.occ (a+d)+g.occ (a+d)=0:=b;have i:=ZW a s S j f d (b.imp id a6) a6 a6;have m:=ZW a s S j g d (b.imp id a6) a6 a6;cases k<;>exact o3 3 [16,(52,.o [1,2] [] (.pv (f.put (a+d) S 0).p)),(52,.o [1,2] [] (.pv (g.put (a+d) S 0).p))] ED i m
 |.q k u f,d,b,c,h=>by
  have l:=zA;have n:=yA;have c:a+d+(1+f.cnt)<=qA:=c;have g:=lA (a:=d) (b:=1);have i:=ZW a s S j f (d+1) b a6 h;have e:f.put (a+(d+1)) S 0=f.put (a+d) S (0+1):=L2 S f (a+d) 0;rw[e]at i;cases k<;>exact o3 3 [16,39,(52,.o [1,2] [] (.pv (f.put (a+d) S (0+1)).p))] (JF u) g i
def gT(f:Fm)(a:Nat)(s:Sx)(S:Tm)(b:Lf s S\/f.occ a=0)(c:a+f.cnt<=qA)(c:f.mx<=qA*qA):A 386 [f.p,num a,.agg s.c] (f.put a S 0).p:=
 f1 [(9,.o [1,2] [] (.pv (f.put a S 0).p))] (ZW a s S a6 f 0 b a6 c)
def qX:∀(f:Fm)(d:Nat),d+f.cnt<=qA->O 241 [.pv f.p,.pv (num d),.fn 297 []] [] (.pv f.p) []
 |.eq t u,d,a=>o3 0 [16,(30,.n [(6,.r t.p)]),(30,.n [(6,.r u.p)])] ED (BK t) (BK u)|.bin k f g,d,a=>by
  have a:d+(1+f.cnt+g.cnt)<=qA:=a;have b:=qX f d a6;have c:=qX g d a6;cases k<;>exact o3 0 [16,(52,.o [] [] (.pv f.p)),(52,.o [] [] (.pv g.p))] ED b c
 |.q k s f,d,a=>by
  have:=zA;have:=yA;have a:d+(1+f.cnt)<=qA:=a;have g:=lA (a:=d) (b:=1);have b:=qX f (d+1) a6;cases k<;>exact o3 0 [16,39,(52,.o [] [] (.pv f.p))] (JF s) g b
def mm(f:Fm)(h:f.cnt<=qA):A 233 [f.p] f.p:=f1 [(4,.o [] [] (.pv f.p))] (qX f 0 a6)
def mM(b:Bool)(t:Tm):Bool:=match b with|true=>bC true t|false=>false
def pG:Bool->Fm->Bool|b,.eq t u=>mM (mM b t) u|b,.bin _ f g=>pG (pG b f) g|b,.q _ _ f=>pG b f
def zX:∀(f:Fm),f.mx<=mG->pG true f=true
 |.eq t u,h=>by
  have h:max t.mx u.mx<=mG:=h
  grind[pG,mM,iJ]
 |.bin _ f g,h=>by
  have h:max f.mx g.mx<=mG:=h;simp only[pG,zX f a6,zX g a6]
 |.q _ _ f,h=>zX f h
def pm(t:Tm)(b:Bool)(d:Nat)(h:t.cnt<=qA:=by omega):O 239 [.pv t.p,.pv (num d),.loc 1 0] (FE b) (.pv ut) (FE (mM b t)):=by
 cases b
 ·exact o0 2 []
 exact o1 2 [8] (a298 t h)
def jX:∀(f:Fm)(b:Bool)(d:Nat),d+f.cnt<=qA->O 238 [.pv f.p,.pv (num d),.fn 239 [.loc 1 0]] (FE b) (.pv ut) (FE (pG b f))
 |.eq t u,b,d,a=>by
  have a:d+(1+t.cnt+u.cnt)<=qA:=a;exact o2 2 [(20,.o [] (FE (mM b t)) (.pv ut)),(20,.o [] (FE (mM (mM b t) u)) (.pv ut))] (pm t b d) (pm u (mM b t) d)
 |.bin k f g,b,d,a=>by
  have a:d+(1+f.cnt+g.cnt)<=qA:=a;have c:=jX f b d a6;have e:=jX g (pG b f) d a6;cases k<;>exact o2 2 [(37,.o [] (FE (pG b f)) (.pv ut)),(37,.o [] (FE (pG (pG b f) g)) (.pv ut))] c e
 |.q k s f,b,d,a=>by
  have:=zA;have:=yA;have a:d+(1+f.cnt)<=qA:=a;have g:=lA (a:=d) (b:=1);have c:=jX f b (d+1) a6;cases k<;>exact o2 2 [26,(37,.o [] (FE (pG b f)) (.pv ut))] g c
def a295(f:Fm)(h:f.cnt<=qA):A 161 [f.p] (.bool (pG true f)):=
 f1 [(6,.o [] (FE (pG true f)) (.pv ut))] (jX f true 0 a6)
def rm(t:Tm)(a n d:Nat)(b:a+d<=qA:=by omega)(h:t.cnt<=qA:=by omega)(c:t.mx<=qA*qA:=by omega)(e:n+t.cnt<=bA:=by omega):O 402 [.pv t.p,.pv (num d),.loc 2 0,.loc 1 0] [(1,bx [num a]),(2,bx [num n])] (.pv ut) [(1,bx [num a]),(2,bx [num (n+t.occ (a+d))])]:=by
 have:=zA;have:=yA;have:=IB t (a+d);have g:=lA (a:=a) (b:=d);have e:=lA (a:=n) (b:=t.occ (a+d));exact o3 3 [10,11,12] g (dm t (a+d) b h c) e
def vX(a:Nat):∀(f:Fm)(n d:Nat),a+d+f.cnt<=qA->f.mx<=qA*qA->n+f.cnt<=bA->O 238 [.pv f.p,.pv (num d),.fn 402 [.loc 2 0,.loc 1 0]] [(1,bx [num a]),(2,bx [num n])] (.pv ut) [(1,bx [num a]),(2,bx [num (n+f.occ (a+d))])]
 |.eq t u,n,d,b,h,c=>by
  have b:a+d+(1+t.cnt+u.cnt)<=qA:=b;have h:max t.mx u.mx<=qA*qA:=h;have c:n+(1+t.cnt+u.cnt)<=bA:=c;have:=IB t (a+d);have i:=rm t a n d;have j:=rm u a (n+t.occ (a+d)) d;have e:n+(Fm.eq t u).occ (a+d)=n+t.occ (a+d)+u.occ (a+d):=(aaD _ _ _).symm;rw[e];exact o2 3 [(20,.o [1] (nG (n+t.occ (a+d))) (.pv ut)),(20,.o [1] (nG (n+t.occ (a+d)+u.occ (a+d))) (.pv ut))] i j
 |.bin k f g,n,d,b,h,c=>by
  have b:a+d+(1+f.cnt+g.cnt)<=qA:=b;have h:max f.mx g.mx<=qA*qA:=h;have c:n+(1+f.cnt+g.cnt)<=bA:=c;have:=MH f (a+d);have i:=vX a f n d a6 a6 a6;have j:=vX a g (n+f.occ (a+d)) d a6 a6 a6;have e:n+(Fm.bin k f g).occ (a+d)=n+f.occ (a+d)+g.occ (a+d):=(aaD _ _ _).symm;rw[e];cases k<;>exact o2 3 [(37,.o [1] (nG (n+f.occ (a+d))) (.pv ut)),(37,.o [1] (nG (n+f.occ (a+d)+g.occ (a+d))) (.pv ut))] i j
 |.q k s f,n,d,b,h,c=>by
  have:=zA;have:=yA;have b:a+d+(1+f.cnt)<=qA:=b;have c:n+(1+f.cnt)<=bA:=c;have g:=lA (a:=d) (b:=1);have i:=vX a f n (d+1) a6 h a6;cases k<;>exact o2 3 [26,(37,.o [1] (nG (n+f.occ (a+(d+1)))) (.pv ut))] g i
def mT(f:Fm)(a:Nat)(h:a+f.cnt<=qA)(b:f.mx<=qA*qA):A 385 [f.p,num a] (num (f.occ a)):=by
 have:=zA;have:=yA;have g:=vX a f 0 0 a6 b a6;rw[ia]at g;exact f1 [(8,.o [1] (nG (f.occ a)) (.pv ut))] g
open Go.Lg
def Tm.fr:Tm->Nat|.v i=>i+1|.lam _ b=>b.fr-1|.n0 _=>0|.n1 _ a=>a.fr|.n2 _ a b=>max a.fr b.fr|.n3 _ _ a b c=>max (max a.fr b.fr) c.fr
def Tm.nf:Tm->Bool|.v _=>true|.lam _ b=>b.nf|.n0 _=>true|.n1 k a=>(Tm.n1 k a).red.isNone&&a.nf|.n2 k a b=>(Tm.n2 k a b).red.isNone&&(a.nf&&b.nf)|.n3 k s a b c=>(Tm.n3 k s a b c).red.isNone&&(a.nf&&(b.nf&&c.nf))
def Tm.nas:Tm->List (List PV)|.lam _ b=>[[.nptr [num b.kd,num b.ix,num b.tk,.slice b.te,.slice b.nas,num b.cnt,num b.fr,.flg b.nf]]]|.n1 _ a=>[[.nptr [num a.kd,num a.ix,num a.tk,.slice a.te,.slice a.nas,num a.cnt,num a.fr,.flg a.nf]]]|.n2 _ a b=>[[.nptr [num a.kd,num a.ix,num a.tk,.slice a.te,.slice a.nas,num a.cnt,num a.fr,.flg a.nf]],[.nptr [num b.kd,num b.ix,num b.tk,.slice b.te,.slice b.nas,num b.cnt,num b.fr,.flg b.nf]]]|.n3 _ _ a b c=>[[.nptr [num a.kd,num a.ix,num a.tk,.slice a.te,.slice a.nas,num a.cnt,num a.fr,.flg a.nf]],[.nptr [num b.kd,num b.ix,num b.tk,.slice b.te,.slice b.nas,num b.cnt,num b.fr,.flg b.nf]],[.nptr [num c.kd,num c.ix,num c.tk,.slice c.te,.slice c.nas,num c.cnt,num c.fr,.flg c.nf]]]|_=>[]
abbrev Tm.nd'(t:Tm):PV:=.nptr [num t.kd,num t.ix,num t.tk,.slice t.te,.slice t.nas,num t.cnt,num t.fr,.flg t.nf]
def Od:∀(t:Tm)(n:Nat),t.sc n↔t.fr<=n
 :=by intro x;induction x<;>grind[Tm.sc,Tm.fr]
def nM(z:Int):∀(t:Tm)(c:Nat),t.fr<=c->t.sh c z=t|.v i,c,h=>by simp only[Tm.fr]at h;simp only[Tm.sh,e9 (show¬c<=i by omega)]|.lam s b,c,h=>by simp only[Tm.fr]at h;simp only[Tm.sh,nM z b (c+1) a6]|.n0 k,c,h=>rfl|.n1 k a,c,h=>by simp only[Tm.sh,nM z a c h]|.n2 k a b,c,h=>by simp only[Tm.fr]at h;simp only[Tm.sh,nM z a c a6,nM z b c a6]|.n3 k s a b d,c,h=>by simp only[Tm.fr]at h;simp only[Tm.sh,nM z a c a6,nM z b c a6,nM z d c a6]
theorem VE:∀(t:Tm)(c:Nat),t.sh c (.ofNat 0)=t|.v i,c=>by simp[Tm.sh]|.lam s b,c=>by simp only[Tm.sh,VE b]|.n0 k,c=>rfl|.n1 k a,c=>by simp only[Tm.sh,VE a]|.n2 k a b,c=>by simp only[Tm.sh,VE a,VE b]|.n3 k s a b d,c=>by simp only[Tm.sh,VE a,VE b,VE d]
def pM(c:Nat)(S:Tm):∀(t:Tm)(d:Nat),t.fr<=c+d->t.put c S d=t|.v i,d,h=>by simp only[Tm.fr]at h;simp only[Tm.put,e9 (show¬i=c+d by omega),e9 (show¬c+d<i by omega)]|.lam s b,d,h=>by simp only[Tm.fr]at h;simp only[Tm.put,pM c S b (d+1) a6]|.n0 k,d,h=>rfl|.n1 k a,d,h=>by simp only[Tm.put,pM c S a d h]|.n2 k a b,d,h=>by simp only[Tm.fr]at h;simp only[Tm.put,pM c S a d a6,pM c S b d a6]|.n3 k s a b e,d,h=>by simp only[Tm.fr]at h;simp only[Tm.put,pM c S a d a6,pM c S b d a6,pM c S e d a6]
theorem CK:∀(t:Tm)(c:Nat),t.fr<=c->t.occ c=0|.v i,c,h=>by simp only[Tm.fr]at h;simp only[Tm.occ,e9 (show¬i=c by omega)]|.lam s b,c,h=>by simp only[Tm.fr]at h;simp only[Tm.occ,CK b (c+1) a6]|.n0 k,c,h=>rfl|.n1 k a,c,h=>by simp only[Tm.occ,CK a c h]|.n2 k a b,c,h=>by simp only[Tm.fr]at h;simp only[Tm.occ,CK a c a6,CK b c a6]|.n3 k s a b d,c,h=>by simp only[Tm.fr]at h;simp only[Tm.occ,CK a c a6,CK b c a6,CK d c a6]
def wX:∀t:Tm,t.fr<=t.mx+1
 :=by intro x;induction x<;>grind[Tm.fr,Tm.mx]
def kX:∀(t:Tm)(n:Nat),t.sc n->t.mx<=n+t.cnt
 :=by intro x;induction x<;>grind[Tm.sc,Tm.mx,Tm.cnt]
def Pd:∀(t:Tm){n m:Nat},n<=m->t.sc n->t.sc m:=λt n m h a=>(Od t m).2 (hV ((Od t n).1 a) h)
def rG(z:Nat):∀(t:Tm)(c n:Nat),t.sc n->(t.sh c (.ofNat z)).sc (n+z)
 |.v i,c,n,h=>by
  have h:i<n:=h;simp only[Tm.sh];split
  ·show((Int.ofNat i+.ofNat z).toNat)<n+z;have:(Int.ofNat i+.ofNat z).toNat=i+z:=rfl;omega
  show i<n+z;omega
 |.lam s b,c,n,h=>by
  have:=rG z b (c+1) (n+1) h;rw[show n+1+z=n+z+1 by omega]at this;exact this
 |.n0 k,c,n,h=>trivial|.n1 k a,c,n,h=>rG z a c n h|.n2 k a b,c,n,h=>⟨rG z a c n h.1,rG z b c n h.2⟩|.n3 k s a b d,c,n,h=>⟨rG z a c n h.1,rG z b c n h.2.1,rG z d c n h.2.2⟩
def oJ(S:Tm)(n:Nat):∀(t:Tm)(d:Nat),t.sc (n+d+1)->(S.sc n\/t.occ d=0)->(t.put 0 S d).sc (n+d)
 |.v i,d,h,c=>by
  have h:i<n+d+1:=h;simp only[Tm.put,ia];split
  ·rcases c with c|c
   ·exact rG d S 0 n c
   grind[Tm.occ]
  split
  ·show i-1<n+d;omega
  show i<n+d;omega
 |.lam s b,d,h,c=>by
  have:=oJ S n b (d+1) (by exact h) c;exact this
 |.n0 k,d,h,c=>trivial|.n1 k a,d,h,c=>oJ S n a d h c|.n2 k a b,d,h,c=>by
  simp only[Tm.occ]at c;exact⟨oJ S n a d h.1 (c.imp id a6),oJ S n b d h.2 (c.imp id a6)⟩
 |.n3 k s a b e,d,h,c=>by
  simp only[Tm.occ]at c;exact⟨oJ S n a d h.1 (c.imp id a6),oJ S n b d h.2.1 (c.imp id a6),oJ S n e d h.2.2 (c.imp id a6)⟩
theorem CI(z w:Nat):∀(t:Tm)(c:Nat),(t.sh c (.ofNat z)).sh c (.ofNat w)=t.sh c (.ofNat (z+w))
 |.v i,c=>by
  simp only[Tm.sh];split
  ·have e:(Int.ofNat i+.ofNat z).toNat=i+z:=rfl;simp only[Tm.sh,e,gm (show c<=i+z by omega)];have f:(Int.ofNat (i+z)+.ofNat w).toNat=i+z+w:=rfl;have g:(Int.ofNat i+.ofNat (z+w)).toNat=i+(z+w):=rfl;rw[f,g,aaD]
  rename_i h;simp only[Tm.sh,e9 h]
 |.lam s b,c=>by simp only[Tm.sh,CI z w b]|.n0 k,c=>rfl|.n1 k a,c=>by simp only[Tm.sh,CI z w a]|.n2 k a b,c=>by simp only[Tm.sh,CI z w a,CI z w b]|.n3 k s a b d,c=>by simp only[Tm.sh,CI z w a,CI z w b,CI z w d]
theorem M2(n:Nat):∀{t r:Tm},t.red=some r->t.sc n->t.shp=true->r.sc n/\r.shp=true:=by
 refine@pK (λt r=>t.sc n->t.shp=true->r.sc n/\r.shp=true) ?_ ?_ ?_ ?_ ?_ ?_ ?_
 ·intro a b h c;exact⟨h.1,(JA c).1⟩
 ·intro a b h c;exact⟨h.2,(JA c).2⟩
 ·intro s b a h c;have⟨i,d⟩:=JA c;have⟨_,e⟩:=JA i;exact⟨oJ a n b 0 h.1 (.inl h.2),sJ 0 a b 0 (.inl d) e⟩
 ·intro s b f h c;have⟨_,d⟩:=JA c;exact⟨h.1,(JA d).1⟩
 ·intro s b f m h c;have⟨i,d⟩:=JA c;have⟨d,e⟩:=JA d;have⟨e,g⟩:=JA e;have g:m.shp=true:=g;refine⟨⟨⟨h.2.1,h.2.2⟩,h.1,h.2.1,h.2.2⟩,?_⟩;show((_&&_)&&(_&&(_&&(_&&_))))=true;rw[i,d,e,g];rfl
 ·intro s b f h c;have⟨_,d⟩:=JA c;exact⟨h.1,(JA d).1⟩
 intro s b f x l h c;have⟨i,d⟩:=JA c;have⟨d,e⟩:=JA d;have⟨e,g⟩:=JA e;have⟨g,k⟩:=JA g;have j:=h.2.2;refine⟨⟨⟨⟨h.2.1,j.1⟩,j.2⟩,h.1,h.2.1,j.2⟩,?_⟩;show(((_&&_)&&_)&&(_&&(_&&(_&&_))))=true;rw[i,d,e,g,k];rfl
open Go.Lg
def iQ:∀(f:Fm)(n:Nat),f.sc n->f.mx<=n+f.cnt|.eq a b,n,h=>by have:=kX a n h.1;have:=kX b n h.2;grind[Fm.mx,Fm.cnt]|.bin k a b,n,h=>by have:=iQ a n h.1;have:=iQ b n h.2;grind[Fm.mx,Fm.cnt]|.q k s a,n,h=>by have:=iQ a (n+1) h;grind[Fm.mx,Fm.cnt]
def yX:∀(f:Fm){n m:Nat},n<=m->f.sc n->f.sc m|.eq a b,n,m,h,c=>⟨Pd a h c.1,Pd b h c.2⟩|.bin k a b,n,m,h,c=>⟨yX a h c.1,yX b h c.2⟩|.q k s a,n,m,h,c=>yX a (Nat.succ_le_succ h) c
def xJ(z:Nat):∀(f:Fm)(c n:Nat),f.sc n->(f.sh c (.ofNat z)).sc (n+z)
 |.eq a b,c,n,h=>⟨rG z a c n h.1,rG z b c n h.2⟩|.bin k a b,c,n,h=>⟨xJ z a c n h.1,xJ z b c n h.2⟩|.q k s a,c,n,h=>by
  have:=xJ z a (c+1) (n+1) h;rw[show n+1+z=n+z+1 by omega]at this;exact this
def rM(S:Tm)(n:Nat):∀(f:Fm)(d:Nat),f.sc (n+d+1)->(S.sc n\/f.occ d=0)->(f.put 0 S d).sc (n+d)
 |.eq a b,d,h,c=>by
  simp only[Fm.occ]at c;exact⟨oJ S n a d h.1 (c.imp id a6),oJ S n b d h.2 (c.imp id a6)⟩
 |.bin k a b,d,h,c=>by
  simp only[Fm.occ]at c;exact⟨rM S n a d h.1 (c.imp id a6),rM S n b d h.2 (c.imp id a6)⟩
 |.q k s a,d,h,c=>by
  exact rM S n a (d+1) (by exact h) c
def am(z w:Nat):∀(f:Fm)(c:Nat),(f.sh c (.ofNat z)).sh c (.ofNat w)=f.sh c (.ofNat (z+w))
 :=by intro x;induction x<;>grind[Fm.sh,CI]
def Qd:∀(f:Fm)(c:Nat),f.sh c (.ofNat 0)=f
 :=by intro x;induction x<;>grind[Fm.sh,VE]
structure FK(n:Nat)(f:Fm):Prop where
 cnt:f.cnt<=4096
 shp:f.shp=true
 sc:f.sc n
theorem zD:∀t:Tm,t.shp=true->t.tsz<=64
 |.v i,h=>c6 _|.lam s b,h=>by
  have⟨e,c⟩:=JA h;have:=lD e;have:=zD b c
  grind[Tm.tsz]
 |.n0 k,h=>c6 _|.n1 k a,h=>zD a h|.n2 k a b,h=>by
  have⟨e,c⟩:=JA h;have:=zD a e;have:=zD b c
  grind[Tm.tsz]
 |.n3 k s a b d,h=>by
  have⟨e,c⟩:=JA h;have⟨c,f⟩:=JA c;have⟨f,g⟩:=JA f;have:=lD e;have:=zD a c;have:=zD b f;have:=zD d g
  grind[Tm.tsz]
theorem FD:∀f:Fm,f.shp=true->f.tsz<=64
 |.eq a b,h=>by
  have⟨c,d⟩:=JA h;have:=zD a c;have:=zD b d
  grind[Fm.tsz]
 |.bin k a b,h=>by
  have⟨c,d⟩:=JA h;have:=FD a c;have:=FD b d
  grind[Fm.tsz]
 |.q k s a,h=>by
  have⟨c,d⟩:=JA h;have:=lD c;have:=FD a d
  grind[Fm.tsz]
def uX(a b:Nat):true=true/\(bif dA (.ofNat a) (.ofNat b)then Int.ofNat b else .ofNat a)=.ofNat (max a b):=by
 grind[KA,Nat.max_eq_right,iA,Nat.max_eq_left]
theorem nT(b:Nat):true=true/\(bif dA (.ofNat 0) (.ofNat b)then Int.ofNat b else .ofNat 0)=.ofNat b:=by
 have:=uX 0 b;rwa[Nat.zero_max]at this
def N2(b:Nat):true=true/\(bif dA 0 (.ofNat b-1)then Int.ofNat b-1 else 0)=.ofNat (b-1):=by
 refine⟨rfl,?_⟩
 cases b with
 |zero=>rfl|succ n=>
  grind[nT]
def O2(b:Nat)(h:b<=bA):xA (Int.ofNat b-1)=true/\Int.ofNat b-1=Int.ofNat b-1:=by
 have:=yA;exact⟨bQ a9 a9,rfl⟩
def bX(n:Nat)(h:1+n<=bA:=by omega):xA (1+Int.ofNat n)=true/\1+Int.ofNat n=Int.ofNat (1+n):=lA (a:=1) (b:=n) h
def Sd(i:Nat)(h:i+1<=bA:=by omega):A 415 [num 1,num i,zt,.slice []] (Tm.v i).nd':=
 f1 [53,(300013,.fb 1 (some true))] (lA (a:=i) (b:=1) h)
def Q2(k:K0):A 415 [num k.n,num 0,zt,.slice []] (Tm.n0 k).nd':=by
 cases k<;>exact f0 [(300013,.fb 1 (some true))]
def xm(s:Ty)(b:Tm)(h:1+b.cnt<=bA)(a:b.fr<=bA):A 415 [num 2,num 0,s.p,.slice [[b.nd']]] (Tm.lam s b).nd':=
 f4 [(32,.z (1+b.cnt)),(44,.z b.fr),(63,.y (Int.ofNat b.fr-1)),(64,.z (b.fr-1)),(300013,.fb 1 (some b.nf))] (bX b.cnt h) (nT b.fr) (O2 b.fr a) (N2 b.fr)
def Am(k:K1)(a:Tm)(h:1+a.cnt<=bA):A 415 [num k.n,num 0,zt,.slice [[a.nd']]] (Tm.n1 k a).nd':=by
 have b:=bX a.cnt h;have c:=nT a.fr
 cases k with|succ=>exact f2 [(32,.z (1+a.cnt)),(44,.z a.fr),(300013,.fb 1 (some (Tm.n1 .succ a).nf))] b c|fst=>exact f2 [(32,.z (1+a.cnt)),(44,.z a.fr),(300013,.fb 1 (some (Tm.n1 .fst a).nf))] b c|snd=>exact f2 [(32,.z (1+a.cnt)),(44,.z a.fr),(300013,.fb 1 (some (Tm.n1 .snd a).nf))] b c
def pT(k:K2)(a b:Tm)(h:1+a.cnt+b.cnt<=bA:=by omega):A 415 [num k.n,num 0,zt,.slice [[a.nd'],[b.nd']]] (Tm.n2 k a b).nd':=by
 have c:=bX a.cnt;have d:=nT a.fr;have e:=lA (a:=1+a.cnt) (b:=b.cnt) h;have f:=uX a.fr b.fr
 cases k with|app=>exact f4 [(32,.z (1+a.cnt)),(44,.z a.fr),(32,.z (1+a.cnt+b.cnt)),(44,.z (max a.fr b.fr)),(300013,.fb 1 (some (Tm.n2 .app a b).nf))] c d e f|cons=>exact f4 [(32,.z (1+a.cnt)),(44,.z a.fr),(32,.z (1+a.cnt+b.cnt)),(44,.z (max a.fr b.fr)),(300013,.fb 1 (some (Tm.n2 .cons a b).nf))] c d e f|pair=>exact f4 [(32,.z (1+a.cnt)),(44,.z a.fr),(32,.z (1+a.cnt+b.cnt)),(44,.z (max a.fr b.fr)),(300013,.fb 1 (some (Tm.n2 .pair a b).nf))] c d e f
def Bm(k:K3)(s:Ty)(a b c:Tm)(h:1+a.cnt+b.cnt+c.cnt<=bA):A 415 [num k.n,num 0,s.p,.slice [[a.nd'],[b.nd'],[c.nd']]] (Tm.n3 k s a b c).nd':=by
 have d:=bX a.cnt;have e:=nT a.fr;have f:=lA (a:=1+a.cnt) (b:=b.cnt);have g:=uX a.fr b.fr;have i:=lA (a:=1+a.cnt+b.cnt) (b:=c.cnt) h;have j:=uX (max a.fr b.fr) c.fr
 cases k with|re=>exact f6 [(32,.z (1+a.cnt)),(44,.z a.fr),(32,.z (1+a.cnt+b.cnt)),(44,.z (max a.fr b.fr)),(32,.z (1+a.cnt+b.cnt+c.cnt)),(44,.z (max (max a.fr b.fr) c.fr)),(300013,.fb 1 (some (Tm.n3 .re s a b c).nf))] d e f g i j|fo=>exact f6 [(32,.z (1+a.cnt)),(44,.z a.fr),(32,.z (1+a.cnt+b.cnt)),(44,.z (max a.fr b.fr)),(32,.z (1+a.cnt+b.cnt+c.cnt)),(44,.z (max (max a.fr b.fr) c.fr)),(300013,.fb 1 (some (Tm.n3 .fo s a b c).nf))] d e f g i j
def Td(s:Ty)(b x:Tm)(h:1+x.cnt<=bA)(a:x.fr<=bA):A 425 [(Tm.lam s b).nd',.slice [[x.nd']]] (Tm.lam s x).nd':=f1 [18] (xm s x h a)
def Ud(k:K1)(b x:Tm)(h:1+x.cnt<=bA:=by omega):A 425 [(Tm.n1 k b).nd',.slice [[x.nd']]] (Tm.n1 k x).nd':=f1 [18] (Am k x h)
def dX(k:K2)(a b x y:Tm)(h:1+x.cnt+y.cnt<=bA:=by omega):A 425 [(Tm.n2 k a b).nd',.slice [[x.nd'],[y.nd']]] (Tm.n2 k x y).nd':=f1 [18] (pT k x y h)
def xO(k:K3)(s:Ty)(a b c x y z:Tm)(h:1+x.cnt+y.cnt+z.cnt<=bA:=by omega):A 425 [(Tm.n3 k s a b c).nd',.slice [[x.nd'],[y.nd'],[z.nd']]] (Tm.n3 k s x y z).nd':=f1 [18] (Bm k s x y z h)
def Vd(f a:Tm)(h:1+f.cnt+a.cnt<=bA:=by omega):A 430 [f.nd',.slice [[a.nd']]] (Tm.n2 .app f a).nd':=f1 [17] (pT .app f a h)
def R2(f a b:Tm)(h:1+(1+f.cnt+a.cnt)+b.cnt<=bA:=by omega):A 430 [f.nd',.slice [[a.nd'],[b.nd']]] (Tm.n2 .app (.n2 .app f a) b).nd':=
 f2 [17,17] (pT .app f a) (pT .app (.n2 .app f a) b h)
def T2(t:Tm){n:Nat}(h:t.mx+1<=n):t.fr<=n:=hV (wX t) h
def sM:∀t:Tm,t.cnt<=bA->t.mx+1<=bA->A 405 [t.p] t.nd'
 |.v i,h,d=>f1 [26] (Sd i d)|.lam s b,h,d=>by
  have h:1+b.cnt<=bA:=h;exact f3 [(15,.r b.nd'),(300003,.ok),(300003,.f 2 [[b.nd']]),(26,.r (Tm.lam s b).nd')] (sM b a6 d) (rfl:vA [[b.nd']]=vA [[b.nd']]) (xm s b h (T2 b d))
 |.n0 k,h,d=>f1 [26] (Q2 k)|.n1 k a,h,d=>by
  have h:1+a.cnt<=bA:=h;exact f3 [(15,.r a.nd'),(300003,.ok),(300003,.f 2 [[a.nd']]),(26,.r (Tm.n1 k a).nd')] (sM a a6 d) (rfl:vA [[a.nd']]=vA [[a.nd']]) (Am k a h)
 |.n2 k a b,h,d=>by
  have h:1+a.cnt+b.cnt<=bA:=h;have d:max a.mx b.mx+1<=bA:=d;exact f4 [(15,.r a.nd'),(15,.r b.nd'),(300003,.ok),(300003,.ok),(300003,.f 2 [[a.nd'],[b.nd']]),(26,.r (Tm.n2 k a b).nd')] (sM a a6 a6) (sM b a6 a6) (rfl:vA [[a.nd'],[b.nd']]=vA [[a.nd'],[b.nd']]) (pT k a b h)
 |.n3 k s a b c,h,d=>by
  have h:1+a.cnt+b.cnt+c.cnt<=bA:=h;have d:max a.mx (max b.mx c.mx)+1<=bA:=d;exact f5 [(15,.r a.nd'),(15,.r b.nd'),(15,.r c.nd'),(300003,.ok),(300003,.ok),(300003,.ok),(300003,.f 2 [[a.nd'],[b.nd'],[c.nd']]),(26,.r (Tm.n3 k s a b c).nd')] (sM a a6 a6) (sM b a6 a6) (sM c a6 a6) (rfl:vA [[a.nd'],[b.nd'],[c.nd']]=vA [[a.nd'],[b.nd'],[c.nd']]) (Bm k s a b c h)
def DK:∀t:Tm,A 407 [t.nd'] t.p|.v i=>f1 [18] ED|.lam s b=>f2 [18,32] (JF s) (DK b)|.n0 k=>f1 [18] ED|.n1 k b=>f2 [18,32] ED (DK b)|.n2 k b c=>f3 [18,32,32] ED (DK b) (DK c)|.n3 k s b c d=>f4 [18,32,32,32] (JF s) (DK b) (DK c) (DK d)
def sG(t:Tm):A 418 [t.nd'] (.bool t.red.isSome):=by
 cases t with
 |v i=>exact f0 []|lam s b=>exact f0 []|n0 k=>cases k<;>exact f0 []
 |n1 k a=>cases k with
  |succ=>exact f0 []|_=>cases a with
   |v i=>exact f0 []|lam s b=>exact f0 []|n0 l=>cases l<;>exact f0 []
   |n1 l a=>cases l<;>exact f0 []
   |n2 l a b=>cases l<;>exact f0 []
   |n3 l s a b c=>cases l<;>exact f0 []
 |n2 k f b=>cases k with
  |app=>cases f with
   |v i=>exact f0 []|lam s b=>exact f0 []|n0 l=>cases l<;>exact f0 []
   |n1 l a=>cases l<;>exact f0 []
   |n2 l a b=>cases l<;>exact f0 []
   |n3 l s a b c=>cases l<;>exact f0 []
  |_=>exact f0 []
 |n3 k s a b d=>cases k<;>cases d with
   |v i=>exact f0 []|lam s b=>exact f0 []|n0 l=>cases l<;>exact f0 []
   |n1 l a=>cases l<;>exact f0 []
   |n2 l a b=>cases l<;>exact f0 []
   |n3 l s a b c=>cases l<;>exact f0 []
end Go.Proofs.YtbebdmlomjpamaaGreatDoor
