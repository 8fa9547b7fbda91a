/- Contracts of functions; no conditions. -/
import Derived.Test.YtjobiknipefjdaaGreatDoorSolC5
set_option linter.all false
set_option maxHeartbeats 4000000
namespace Go.Proofs.YtjobiknipefjdaaGreatDoor
open Go.Lg
set_option maxRecDepth 100000
def KJ:∀a b:Fm,a.mt b->a.er=b.er|.eq _ _,.eq _ _,_=>rfl|.bin _ f g,.bin _ i j,⟨c,d,e⟩=>by subst c;simp only[Fm.er,KJ f i d,KJ g j e]|.q _ _ f,.q _ _ g,⟨c,d,e⟩=>by subst c;subst d;simp only[Fm.er,KJ f g e]|.eq _ _,.bin _ _ _,h=>h.elim|.eq _ _,.q _ _ _,h=>h.elim|.bin _ _ _,.eq _ _,h=>h.elim|.bin _ _ _,.q _ _ _,h=>h.elim|.q _ _ _,.eq _ _,h=>h.elim|.q _ _ _,.bin _ _ _,h=>h.elim
def oV{g:List Ty}{f:Fm}(a:∀s∈g,s.size<=64)(i:g.length<=17)(h:f.chk=0)(b:f.ty g):FK g.length f:=by
 have:=vA;obtain⟨e,_,c,d⟩:=nN f g a (Fm.chk0 h).2 (by have:=(Fm.chk0 h).1;omega);exact⟨(Fm.chk0 h).1,(Fm.chk0 h).2,c (d b)⟩
def iN{n:Nat}{f:Fm}(h:f.chk=0)(a:f.sc n):FK n f:=⟨(Fm.chk0 h).1,(Fm.chk0 h).2,a⟩
def oP{g:List Ty}{s:Ty}(a:∀s∈g,s.size<=64)(a:s.size<=64):∀x∈g++[s],x.size<=64:=λx a=>by
 grind
def oR{n:Nat}{a:List Fm}(h:∀f∈a,FK n f)(k:Nat):∀f∈bA k a,FK (n+k) f:=λf b=>by
 obtain⟨x,c,rfl⟩:=List.mem_map.1 b;exact(h x c).sh 0 k
def xR{n:Nat}{a:List Fm}{x:Fm}(h:∀f∈a,FK n f)(b:FK n x):∀f∈a++[x],FK n f:=λf a=>by
 grind
def BE{ls:List Fm}(C:∀f∈ls,FK 0 f):∀(j:Jt)(g:List Ty)(v:List Fm),j.D ls g v->(∀s∈g,s.size<=64)->g.length<=16->(∀f∈v,FK g.length f)->j.p.ck->j.OK ls g.length v/\FK g.length j.f
 |.leaf u i f,g,v,M,m,c,p,o=>by
  have d:FK g.length f:=by
   cases u
   ·exact p f (List.mem_of_getElem? M.2.2)
   exact(C f (List.mem_of_getElem? M.2)).up (Nat.zero_le _)
  exact⟨⟨d,by cases u<;>exact M.2⟩,d⟩
 |.refl t,g,v,⟨D,B,z⟩,m,c,p,o=>by
  obtain⟨_,F⟩:=JJ m c B z;have d:FK g.length (.eq t t):=iN D ⟨F.sc,F.sc⟩;exact⟨⟨F,d⟩,d⟩
 |.p1 k a f,g,v,⟨D,B,z⟩,m,c,p,o=>by
  obtain⟨o1,n⟩:=BE C a g v B m c p o;cases k
  ·obtain⟨y,e⟩:=z;rw[e]at n;exact⟨⟨n.bin1,o1,y,e⟩,n.bin1⟩
  ·obtain⟨y,e⟩:=z;rw[e]at n;exact⟨⟨n.bin2,o1,y,e⟩,n.bin2⟩
  obtain⟨s,u,x,e,U,y,r,rfl⟩:=z;rw[e]at n;have V:=(FK.pt (n:=g.length+2) (n.qf.qf.sh 2 1) (Ja g.length) r).2;have d:FK g.length (.q .ex (.two true s u) (.q .all s y)):=iN D V.sc;exact⟨⟨d,o1,s,u,x,e,y,r,rfl⟩,d⟩
 |.p2 k a b f,g,v,⟨D,B,z⟩,m,c,p,o=>by
  obtain⟨o1,n⟩:=BE C a g v B m c p o.1;have A:∀s:Ty,(g++[s]).length=g.length+1:=λs=>by simp
  cases k
  ·obtain⟨E,rfl⟩:=z;obtain⟨o2,fb⟩:=BE C b g v E m c p o.2;have d:FK g.length (.bin .and a.f b.f):=iN D ⟨n.sc,fb.sc⟩;exact⟨⟨d,o1,o2,rfl⟩,d⟩
  ·obtain⟨E,x,e,_⟩:=z;obtain⟨o2,fb⟩:=BE C b g v E m c p o.2;rw[e]at n;exact⟨⟨n.bin2,o1,o2,x,e⟩,n.bin2⟩
  ·obtain⟨⟨s,e,E⟩,⟨n1,_⟩,J⟩:=z;generalize K:a.f.bd=x at *
   rw[e]at n;obtain⟨o2,fb⟩:=BE C b (g++[s]) _ E (oP m n.qs) (by rw[A];exact n1) (by rw[A];exact xR (oR p 1) n.qf) o.2;rw[A]at o2 fb;have d:FK g.length f:=iN D (Fa fb (by omega) J).1;exact⟨⟨d,o1,by rw[K];exact o2,⟨s,by rw[K];exact e⟩,J⟩,d⟩
  obtain⟨⟨s,e,E⟩,⟨n1,_⟩,J,_⟩:=z;generalize K:a.f.bd=x at *
  rw[e]at n;obtain⟨o2,fb⟩:=BE C b (g++[s]) _ E (oP m n.qs) (by rw[A];exact n1) (by rw[A];exact xR (oR p 1) n.qf) o.2;rw[A]at o2 fb;have d:FK g.length f:=iN D (Fa fb (by omega) J).1;exact⟨⟨d,o1,by rw[K];exact o2,⟨s,by rw[K];exact e⟩,J⟩,d⟩
 |.impI x a,g,v,⟨D,⟨B,z⟩,_,E⟩,m,c,p,o=>by
  have G:=oV m (by omega) B z;obtain⟨o1,n⟩:=BE C a g _ E m c (xR p G) o.2;have d:FK g.length (.bin .imp x a.f):=iN D ⟨G.sc,n.sc⟩;exact⟨⟨G,d,o1⟩,d⟩
 |.all u s a,g,v,⟨D,n1,B,_⟩,m,c,p,o=>by
  have A:(g++[s]).length=g.length+1:=by simp
  obtain⟨o1,n⟩:=BE C a (g++[s]) _ B (oP m o.1) (by rw[A];exact n1) (by rw[A];exact oR p 1) o.2;rw[A]at o1 n;have d:FK g.length (.q (aq u) s a.f):=iN D n.sc;exact⟨⟨o.1,d,o1⟩,d⟩
 |.ins u t a f,g,v,⟨D,B,z,s,x,H,e,r⟩,m,c,p,o=>by
  obtain⟨o1,n⟩:=BE C a g v z m c p o.2;obtain⟨_,F⟩:=JJ m c B H;rw[e]at n;have d:=(n.qf.pt F r).2;exact⟨⟨d,F,o1,s,x,e,r⟩,d⟩
 |.ex u x t a,g,v,⟨⟨D,N⟩,B,z,s,y,w,H,e,r,I⟩,m,c,p,o=>by
  obtain⟨o1,n⟩:=BE C a g v z m c p o.2.2;obtain⟨_,F⟩:=JJ m c B H;have d:=oV m (by omega) D N;subst e;exact⟨⟨d,F,o1,⟨s,rfl⟩,by rw[<-KJ _ _ I,iC r];rfl⟩,d⟩
 |.ind l x t a b f,g,v,⟨D,⟨B,z⟩,⟨E,O⟩,⟨W,X,P,Q⟩,⟨n1,_⟩,⟨T,Y,R,S⟩,r⟩,m,c,p,o=>by
  obtain⟨o1,n⟩:=BE C a g v W m c p o.2.2.1;obtain⟨_,F⟩:=JJ m c E O;have G:FK (g.length+1) x:=by
   have:=oV (g:=g++[lT l]) (oP m (by cases l<;>decide)) (by simp;omega) B z;simp_all
  have d:=(G.pt F r).2;refine⟨⟨d,G,F,o1,r,⟨by rw[<-KJ _ _ Q,iC P],by rw[<-KJ _ _ S,iC R,JD]⟩,?_⟩,d⟩;cases l
  ·have A:(g++lG false).length=g.length+1:=by simp[lG]
   have:=(BE C b (g++lG false) _ T (oP m (by decide)) (by rw[A];exact n1) (by rw[A];exact xR (oR p 1) G) o.2.2.2).1;rw[A]at this;exact this
  have A:(g++lG true).length=g.length+2:=by simp[lG]
  have:=(BE C b (g++lG true) _ T (λs v=>by
   rcases List.mem_append.1 v with h|h
   ·exact m s h
   simp[lG]at h;rcases h with rfl|rfl<;>decide) (by rw[A];exact n1) (by rw[A];exact xR (oR p 2) (G.sh 1 1)) o.2.2.2).1
  rw[A]at this;exact this
 |.subst x a b f,g,v,⟨D,⟨B,z⟩,E,O,t,u,w,e,r,I,L⟩,m,c,p,o=>by
  obtain⟨o1,n⟩:=BE C a g v E m c p o.2.1;obtain⟨o2,fb⟩:=BE C b g v O m c p o.2.2;have G:FK (g.length+1) x:=by
   have:=oV (g:=g++[.nat]) (oP m (by decide)) (by simp;omega) B z;simpa using this
  rw[e]at n;have d:=(G.pt n.eq2 L).2;exact⟨⟨d,G,o1,o2,by rw[<-KJ _ _ I,iC r],t,u,e,L⟩,d⟩
def Jt.pts:List Fm->Jt->List (List PV)
 |_,.leaf _ _ _=>[]|_,.refl _=>[]|c,.p1 _ a _=>[[.ptr [num a.p.kd,num a.p.ix,num a.p.tk,.slice a.p.te,.slice a.p.ts,.slice a.p.fs,.slice a.p.es,num a.f.kd,num a.f.tk,.slice a.f.te,.slice a.f.ts,.slice a.f.es,dA c,.bool a.f.has,.slice (a.pts c)]]]|c,.p2 k a b _=>match k with|.andI=>[[.ptr [num a.p.kd,num a.p.ix,num a.p.tk,.slice a.p.te,.slice a.p.ts,.slice a.p.fs,.slice a.p.es,num a.f.kd,num a.f.tk,.slice a.f.te,.slice a.f.ts,.slice a.f.es,dA c,.bool a.f.has,.slice (a.pts c)]],[.ptr [num b.p.kd,num b.p.ix,num b.p.tk,.slice b.p.te,.slice b.p.ts,.slice b.p.fs,.slice b.p.es,num b.f.kd,num b.f.tk,.slice b.f.te,.slice b.f.ts,.slice b.f.es,dA c,.bool b.f.has,.slice (b.pts c)]]]|.impE=>[[.ptr [num a.p.kd,num a.p.ix,num a.p.tk,.slice a.p.te,.slice a.p.ts,.slice a.p.fs,.slice a.p.es,num a.f.kd,num a.f.tk,.slice a.f.te,.slice a.f.ts,.slice a.f.es,dA c,.bool a.f.has,.slice (a.pts c)]],[.ptr [num b.p.kd,num b.p.ix,num b.p.tk,.slice b.p.te,.slice b.p.ts,.slice b.p.fs,.slice b.p.es,num b.f.kd,num b.f.tk,.slice b.f.te,.slice b.f.ts,.slice b.f.es,dA c,.bool b.f.has,.slice (b.pts c)]]]|.exE=>[[.ptr [num a.p.kd,num a.p.ix,num a.p.tk,.slice a.p.te,.slice a.p.ts,.slice a.p.fs,.slice a.p.es,num a.f.kd,num a.f.tk,.slice a.f.te,.slice a.f.ts,.slice a.f.es,dA c,.bool a.f.has,.slice (a.pts c)]],[.ptr [num b.p.kd,num b.p.ix,num b.p.tk,.slice b.p.te,.slice b.p.ts,.slice b.p.fs,.slice b.p.es,num b.f.kd,num b.f.tk,.slice b.f.te,.slice b.f.ts,.slice b.f.es,dA (bA 1 c++[a.f.bd]),.bool b.f.has,.slice (b.pts (bA 1 c++[a.f.bd]))]]]|.exUE=>[[.ptr [num a.p.kd,num a.p.ix,num a.p.tk,.slice a.p.te,.slice a.p.ts,.slice a.p.fs,.slice a.p.es,num a.f.kd,num a.f.tk,.slice a.f.te,.slice a.f.ts,.slice a.f.es,dA c,.bool a.f.has,.slice (a.pts c)]],[.ptr [num b.p.kd,num b.p.ix,num b.p.tk,.slice b.p.te,.slice b.p.ts,.slice b.p.fs,.slice b.p.es,num b.f.kd,num b.f.tk,.slice b.f.te,.slice b.f.ts,.slice b.f.es,dA (bA 1 c++[a.f.bd]),.bool b.f.has,.slice (b.pts (bA 1 c++[a.f.bd]))]]]
 |c,.impI x a=>[[.ptr [num a.p.kd,num a.p.ix,num a.p.tk,.slice a.p.te,.slice a.p.ts,.slice a.p.fs,.slice a.p.es,num a.f.kd,num a.f.tk,.slice a.f.te,.slice a.f.ts,.slice a.f.es,dA (c++[x]),.bool a.f.has,.slice (a.pts (c++[x]))]]]|c,.all _ _ a=>[[.ptr [num a.p.kd,num a.p.ix,num a.p.tk,.slice a.p.te,.slice a.p.ts,.slice a.p.fs,.slice a.p.es,num a.f.kd,num a.f.tk,.slice a.f.te,.slice a.f.ts,.slice a.f.es,dA (bA 1 c),.bool a.f.has,.slice (a.pts (bA 1 c))]]]|c,.ins _ _ a _=>[[.ptr [num a.p.kd,num a.p.ix,num a.p.tk,.slice a.p.te,.slice a.p.ts,.slice a.p.fs,.slice a.p.es,num a.f.kd,num a.f.tk,.slice a.f.te,.slice a.f.ts,.slice a.f.es,dA c,.bool a.f.has,.slice (a.pts c)]]]|c,.ex _ _ _ a=>[[.ptr [num a.p.kd,num a.p.ix,num a.p.tk,.slice a.p.te,.slice a.p.ts,.slice a.p.fs,.slice a.p.es,num a.f.kd,num a.f.tk,.slice a.f.te,.slice a.f.ts,.slice a.f.es,dA c,.bool a.f.has,.slice (a.pts c)]]]|c,.ind l x _ a b _=>[[.ptr [num a.p.kd,num a.p.ix,num a.p.tk,.slice a.p.te,.slice a.p.ts,.slice a.p.fs,.slice a.p.es,num a.f.kd,num a.f.tk,.slice a.f.te,.slice a.f.ts,.slice a.f.es,dA c,.bool a.f.has,.slice (a.pts c)]],[.ptr [num b.p.kd,num b.p.ix,num b.p.tk,.slice b.p.te,.slice b.p.ts,.slice b.p.fs,.slice b.p.es,num b.f.kd,num b.f.tk,.slice b.f.te,.slice b.f.ts,.slice b.f.es,dA (xJ c x l),.bool b.f.has,.slice (b.pts (xJ c x l))]]]|c,.subst _ a b _=>[[.ptr [num a.p.kd,num a.p.ix,num a.p.tk,.slice a.p.te,.slice a.p.ts,.slice a.p.fs,.slice a.p.es,num a.f.kd,num a.f.tk,.slice a.f.te,.slice a.f.ts,.slice a.f.es,dA c,.bool a.f.has,.slice (a.pts c)]],[.ptr [num b.p.kd,num b.p.ix,num b.p.tk,.slice b.p.te,.slice b.p.ts,.slice b.p.fs,.slice b.p.es,num b.f.kd,num b.f.tk,.slice b.f.te,.slice b.f.ts,.slice b.f.es,dA c,.bool b.f.has,.slice (b.pts c)]]]
abbrev Jt.ptr(hs:List Fm)(a:Jt):PV:=.ptr [num a.p.kd,num a.p.ix,num a.p.tk,.slice a.p.te,.slice a.p.ts,.slice a.p.fs,.slice a.p.es,num a.f.kd,num a.f.tk,.slice a.f.te,.slice a.f.ts,.slice a.f.es,dA hs,.bool a.f.has,.slice (a.pts hs)]
abbrev Bx(ls hs:List Fm)(j:Jt):Prop:=A 148 [dA ls,dA hs,j.p.p] (j.ptr hs)
def AR(a:List Fm)(f:Fm)(h:a.length<=qA:=by omega):A 290 [dA a,f.p] (dA (a++[f])):=by
 have:=vA;have b:=jG (a.map Fm.c).length;have c:=lF 5 88 Fm.c_len (by decide) a f (by omega) (by simp only[maxLen];omega);rw[show dA (a++[f])=.slice (a.map Fm.c++[f.c]) by simp[dA]];exact f2 [(10,.ok),(13,.ok)] b c
abbrev pj(hs:List Fm)(n k:Nat)(x:V):List (Nat×V):=[(1,.pv (num n)),(5,x),(10,.pv (dA hs)),(11,.pv (num (hs.map Fm.c).length)),(12,.pv (num k))]
abbrev rj:Kp:=⟨[1,5,10,11,12],[2],3,[]⟩
def sj{a:List Fm}(n:Nat)(i:a.length<=qA)(H:∀f∈a,A 92 [f.p,num 0,num n] (FR.ok (f.sh 0 (.ofNat n))).p):∀(r:List Fm)(k v:Nat)(A:List (List PV)),a.drop k=r->A.length=k->
  ∃b,Lp 291 0 0 (st (pj a n k (.arr 2 v A.length)) [(2,.arr v 5 31 (kA A))] 3 []) (.exit 0) (st [(5,.arr 2 b (A.length+r.length))] [(2,.arr b 5 31 (kA (A++r.map λf=>(f.sh 0 (.ofNat n)).c)))] 3 [])
 |[],k,v,A,h,c=>by
  have e:fA (.ofNat k) (.ofNat (a.map Fm.c).length)=false:=HA (by simp_all);simp only[List.map_nil,List.append_nil,List.length_nil,Nat.add_zero];exact⟨v,y1 [13] ⟨[5],[2],3,[]⟩ e (sD A)⟩
 |f::r,k,v,A,h,c=>by
  have:=vA;obtain⟨d,p,j⟩:=tH h;have e:fA (.ofNat k) (.ofNat (a.map Fm.c).length)=true:=NA (by simp_all);have l:=AA (show k+1<=_ by omega);have m:=mP (A:=A) (v:=v) (ty:=31) (m:=88) (c:=(f.sh 0 (.ofNat n)).c) (show 0<5 by decide) rfl rfl (by simp only[maxLen];omega) (by omega);obtain⟨b,g⟩:=sj n i H r (k+1) (v+1) (A++[(f.sh 0 (.ofNat n)).c]) j (by simp[c]);rw[ZK,show(A++[(f.sh 0 (.ofNat n)).c]).length=A.length+1 by simp,show A.length+1+r.length=A.length+(f::r).length by simp;omega,List.append_assoc]at g;exact⟨b,n7 [13,(14,.i f.c),19,(25,.ok),(26,.ok)] rj e (kB d Fm.c_len) (H f (List.mem_of_getElem? d)) m l (xH A (f.sh 0 (.ofNat n)).c) g⟩
def tj(a:List Fm)(n:Nat)(c:a.length<=qA)(H:∀f∈a,A 92 [f.p,num 0,num n] (FR.ok (f.sh 0 (.ofNat n))).p):A 291 [dA a,num n] (dA (bA n a)):=by
 cases a with
 |nil=>exact f0 []|cons f r=>
  have e:fA (.ofNat 0) (.ofNat ((f::r).map Fm.c).length)=true:=NA (by simp);obtain⟨v,h⟩:=sj n c H r 1 1 [(f.sh 0 (.ofNat n)).c] rfl rfl;have d:(f.sh 0 (.ofNat n)).c::r.map (λf=>(f.sh 0 (.ofNat n)).c)=(bA n (f::r)).map Fm.c:=by simp[Function.comp_def]
  have b:=LoopIs.fz (by simp) h 2 (ver:=v) (sz:=5) (ty:=31) (ps:=(f.sh 0 (.ofNat n)).c::r.map (λf=>(f.sh 0 (.ofNat n)).c)) rfl (by kernel_rfl);simp (decide:=true) only[XF,OE,RC,yE,and_self,↓reduceIte,List.take_of_length_le (show((f.sh 0 (.ofNat n)).c::r.map (λf=>(f.sh 0 (.ofNat n)).c)).length<=[(f.sh 0 (.ofNat n)).c].length+r.length by simp;omega)]at b;rw[d]at b;have g:Lp 291 0 0 (st (pj (f::r) n 0 (.pv .nils)) [] 0 []) (.exit 0) (st [(5,.pv (dA (bA n (f::r))))] [] 3 []):=
   n6 [13,(14,.i f.c),19,(26,.ok)] rj e (kB (g:=f::r) (k:=0) rfl Fm.c_len) (H f (by simp)) (AA (show 0+1<=_ by omega)) (xH [] (f.sh 0 (.ofNat n)).c) b
  exact f1 [(100003,.l ⟨[1,5,10,11,12],[],0,[]⟩ (.exit 0) (st [(5,.pv (dA (bA n (f::r))))] [] 3 []))] g
def up1{n:Nat}{a:List Fm}(b:a.length<=qA)(h:∀f∈a,FK n f)(c:n<=iA):A 291 [dA a,num 1] (dA (bA 1 a)):=tj a 1 b λf a=>Sv (h f a) c
def up2{n:Nat}{a:List Fm}(b:a.length<=qA)(h:∀f∈a,FK n f)(c:n<=iA):A 291 [dA a,num 2] (dA (bA 2 a)):=tj a 2 b λf a=>Tv (h f a) c
def xV{n:Nat}{f g:Fm}{t:Tm}(h:FK (n+1) f)(b:TK n t)(c:n+1<=iA)(e:f.pt t=.ok g):A 292 [f.p,t.p] g.p:=by
 have a:=Rv h b c;rw[e]at a;exact f1 [10] a
def AV:∀(f:Fm)(n:Nat),FK n f->n+f.cnt<=iA->∀g,VA f=some g->A 356 [f.p] g.p
 |.eq a b,n,h,d,g,e=>by
  simp only[Fm.cnt]at d;have c:=(cN h.eq1).1;have m:=(cN h.eq2).1;unfold VA at e;split at e
  ·rename_i x j i;split at e
   ·rename_i y l o;cases e;rw[i]at c;rw[o]at m;exact f2 [23,23] c m
   cases e
  cases e
 |.bin k a b,n,h,d,g,e=>by
  simp only[Fm.cnt]at d;unfold VA at e;split at e
  ·rename_i x i;split at e
   ·rename_i y o;cases e;have c:=AV a n h.bin1 (by omega) x i;have m:=AV b n h.bin2 (by omega) y o;cases k<;>exact f2 [44,44] c m
   cases e
  cases e
 |.q k s a,n,h,d,g,e=>by
  simp only[Fm.cnt]at d;unfold VA at e;split at e
  ·rename_i x i;cases e;have c:=AV a (n+1) h.qf (by omega) x i;cases k<;>exact f1 [44] c
  cases e
def aj{n:Nat}{f g:Fm}(h:FK (n+1) f)(k:FK n g)(r:n+1<=90000)(e:nC f=some g):A 293 [f.p] g.p:=by
 have s:iA=100000:=rfl;have c:=h.cnt;have a:=Li h;unfold nC at e;split at e
 ·rename_i b;cases e;rw[if_pos b]at a;exact f1 [9] a
 rename_i b;rw[if_neg b]at a;split at e
 ·rename_i y d;split at e
  ·rename_i i;cases e;obtain⟨l,m,t⟩:=cP f (n+1) h (by omega) y d;have o:FK (n+1) y:=⟨by have:=k.cnt;rwa[Aa i]at this,m,l⟩;have p:=AV f (n+1) h (by omega) y d;have j:=Li o;rw[if_pos i]at j;exact f3 [9,17,18] a p j
  cases e
 cases e
open Go.Lg
abbrev aA(p:Pf)(f:Fm)(hs:List Fm)(pts:List (List PV)):PV:=.ptr [num p.kd,num p.ix,num p.tk,.slice p.te,.slice p.ts,.slice p.fs,.slice p.es,num f.kd,num f.tk,.slice f.te,.slice f.ts,.slice f.es,dA hs,.bool f.has,.slice pts]
abbrev Jt.pf(a:Jt)(hs:List Fm)(F:Fm):PV:=aA a.p F hs (a.pts hs)
abbrev ND(f:Fm):Prop:=A 149 [f.p] (.tuple [.bool f.has,num 0])
abbrev LC(ls hs:List Fm)(a:Jt)(F:Fm):Prop:=A 148 [dA ls,dA hs,a.p.p] (a.pf hs F)
def Cx{c b:List Fm}{a:Jt}{f y:Fm}(d:LC c b a (.bin .and f y))(e:ND f):A 148 [dA c,dA b,(Pf.p1 .andL a.p).p] (aA (Pf.p1 .andL a.p) f b [[a.pf b (.bin .and f y)]]):=by
 exact f3 [(17,.n [(53,.n [(23,.r (a.pf b (.bin .and f y)))])]),26,(300003,.f 7 [[a.pf b (.bin .and f y)]]),(300004,.fb 1 none)] d e (rfl:kA [[a.pf b (.bin .and f y)]]=kA [[a.pf b (.bin .and f y)]])
def Dx{c b:List Fm}{a:Jt}{f y:Fm}(d:LC c b a (.bin .and y f))(e:ND f):A 148 [dA c,dA b,(Pf.p1 .andR a.p).p] (aA (Pf.p1 .andR a.p) f b [[a.pf b (.bin .and y f)]]):=by
 exact f3 [(17,.n [(62,.n [(23,.r (a.pf b (.bin .and y f)))])]),26,(300003,.f 7 [[a.pf b (.bin .and y f)]]),(300004,.fb 1 none)] d e (rfl:kA [[a.pf b (.bin .and y f)]]=kA [[a.pf b (.bin .and y f)]])
def Ex{d c:List Fm}{a b:Jt}{x y:Fm}(e:LC d c a x)(f:LC d c b y)(g:ND (Fm.bin .and x y)):A 148 [dA d,dA c,(Pf.p2 .andI a.p b.p).p] (aA (Pf.p2 .andI a.p b.p) (Fm.bin .and x y) c [[a.pf c x],[b.pf c y]]):=by
 exact f4 [(17,.n [(40,.n [(23,.r (a.pf c x))]),(45,.n [(23,.r (b.pf c y))])]),26,(300003,.f 7 [[a.pf c x],[b.pf c y]]),(300004,.fb 1 none)] e f g (rfl:kA [[a.pf c x],[b.pf c y]]=kA [[a.pf c x],[b.pf c y]])
def Fx{d c:List Fm}{a b:Jt}{x y f:Fm}(e:LC d c a (.bin .imp x f))(g:LC d c b y)(h:ND f):A 148 [dA d,dA c,(Pf.p2 .impE a.p b.p).p] (aA (Pf.p2 .impE a.p b.p) f c [[a.pf c (.bin .imp x f)],[b.pf c y]]):=by
 exact f4 [(17,.n [(88,.n [(23,.r (a.pf c (.bin .imp x f)))]),(92,.n [(23,.r (b.pf c y))])]),26,(300003,.f 7 [[a.pf c (.bin .imp x f)],[b.pf c y]]),(300004,.fb 1 none)] e g h (rfl:kA [[a.pf c (.bin .imp x f)],[b.pf c y]]=kA [[a.pf c (.bin .imp x f)],[b.pf c y]])
def Gx{c b:List Fm}{a:Jt}{x y:Fm}(d:A 290 [dA b,x.p] (dA (b++[x])))(e:LC c (b++[x]) a y)(f:ND (Fm.bin .imp x y)):A 148 [dA c,dA b,(Pf.impI x a.p).p] (aA (Pf.impI x a.p) (Fm.bin .imp x y) b [[a.pf (b++[x]) y]]):=by
 exact f4 [(17,.n [(79,.r (dA (b++[x]))),(80,.n [(23,.r (a.pf (b++[x]) y))])]),26,(300003,.f 7 [[a.pf (b++[x]) y]]),(300004,.fb 1 none)] d e f (rfl:kA [[a.pf (b++[x]) y]]=kA [[a.pf (b++[x]) y]])
def Hx{c b:List Fm}{s:Ty}{a:Jt}{y:Fm}(d:A 291 [dA b,num 1] (dA (bA 1 b)))(e:LC c (bA 1 b) a y)(f:ND (Fm.q .all s y)):A 148 [dA c,dA b,(Pf.all false s a.p).p] (aA (Pf.all false s a.p) (Fm.q .all s y) b [[a.pf (bA 1 b) y]]):=by
 exact f4 [(17,.n [(104,.r (dA (bA 1 b))),(105,.n [(23,.r (a.pf (bA 1 b) y))])]),26,(300003,.f 7 [[a.pf (bA 1 b) y]]),(300004,.fb 1 none)] d e f (rfl:kA [[a.pf (bA 1 b) y]]=kA [[a.pf (bA 1 b) y]])
def Ix{c b:List Fm}{s:Ty}{a:Jt}{y:Fm}(d:A 291 [dA b,num 1] (dA (bA 1 b)))(e:LC c (bA 1 b) a y)(f:ND (Fm.q .allU s y)):A 148 [dA c,dA b,(Pf.all true s a.p).p] (aA (Pf.all true s a.p) (Fm.q .allU s y) b [[a.pf (bA 1 b) y]]):=by
 exact f4 [(17,.n [(115,.r (dA (bA 1 b))),(116,.n [(23,.r (a.pf (bA 1 b) y))])]),26,(300003,.f 7 [[a.pf (bA 1 b) y]]),(300004,.fb 1 none)] d e f (rfl:kA [[a.pf (bA 1 b) y]]=kA [[a.pf (bA 1 b) y]])
def Jx{c b:List Fm}{t:Tm}{s:Ty}{a:Jt}{x f:Fm}(d:LC c b a (.q .all s x))(e:A 292 [x.p,t.p] f.p)(g:ND f):A 148 [dA c,dA b,(Pf.ins false t a.p).p] (aA (Pf.ins false t a.p) f b [[a.pf b (.q .all s x)]]):=by
 exact f4 [(17,.n [(125,.n [(23,.r (a.pf b (.q .all s x)))]),(133,.r f.p)]),26,(300003,.f 7 [[a.pf b (.q .all s x)]]),(300004,.fb 1 none)] d e g (rfl:kA [[a.pf b (.q .all s x)]]=kA [[a.pf b (.q .all s x)]])
def Kx{c b:List Fm}{t:Tm}{s:Ty}{a:Jt}{x f:Fm}(d:LC c b a (.q .allU s x))(e:A 292 [x.p,t.p] f.p)(g:ND f):A 148 [dA c,dA b,(Pf.ins true t a.p).p] (aA (Pf.ins true t a.p) f b [[a.pf b (.q .allU s x)]]):=by
 exact f4 [(17,.n [(125,.n [(23,.r (a.pf b (.q .allU s x)))]),(133,.r f.p)]),26,(300003,.f 7 [[a.pf b (.q .allU s x)]]),(300004,.fb 1 none)] d e g (rfl:kA [[a.pf b (.q .allU s x)]]=kA [[a.pf b (.q .allU s x)]])
def Lx{c b:List Fm}{u:Bool}{t:Tm}{a:Jt}{x y:Fm}(d:LC c b a y)(e:ND x):A 148 [dA c,dA b,(Pf.ex u x t a.p).p] (aA (Pf.ex u x t a.p) x b [[a.pf b y]]):=by
 cases u<;>exact f3 [(17,.n [(140,.n [(23,.r (a.pf b y))])]),26,(300003,.f 7 [[a.pf b y]]),(300004,.fb 1 none)] d e (rfl:kA [[a.pf b y]]=kA [[a.pf b y]])
def Mx{d c:List Fm}{s:Ty}{a b:Jt}{x y f:Fm}(g:LC d c a (.q .ex s x))(h:A 291 [dA c,num 1] (dA (bA 1 c)))(e:A 290 [dA (bA 1 c),x.p] (dA (bA 1 c++[x])))(i:LC d (bA 1 c++[x]) b y)(j:A 293 [y.p] f.p)(k:ND f):A 148 [dA d,dA c,(Pf.p2 .exE a.p b.p).p] (aA (Pf.p2 .exE a.p b.p) f c [[a.pf c (.q .ex s x)],[b.pf (bA 1 c++[x]) y]]):=by
 exact f7 [(17,.n [(151,.n [(23,.r (a.pf c (.q .ex s x)))]),(155,.r (dA (bA 1 c))),(160,.r (dA (bA 1 c++[x]))),(161,.n [(23,.r (b.pf (bA 1 c++[x]) y))]),(162,.r f.p)]),26,(300003,.f 7 [[a.pf c (.q .ex s x)],[b.pf (bA 1 c++[x]) y]]),(300004,.fb 1 none)] g h e i j k (rfl:kA [[a.pf c (.q .ex s x)],[b.pf (bA 1 c++[x]) y]]=kA [[a.pf c (.q .ex s x)],[b.pf (bA 1 c++[x]) y]])
def Nx{d c:List Fm}{s:Ty}{a b:Jt}{x y f:Fm}(g:LC d c a (.q .exU s x))(h:A 291 [dA c,num 1] (dA (bA 1 c)))(e:A 290 [dA (bA 1 c),x.p] (dA (bA 1 c++[x])))(i:LC d (bA 1 c++[x]) b y)(j:A 293 [y.p] f.p)(k:ND f):A 148 [dA d,dA c,(Pf.p2 .exUE a.p b.p).p] (aA (Pf.p2 .exUE a.p b.p) f c [[a.pf c (.q .exU s x)],[b.pf (bA 1 c++[x]) y]]):=by
 exact f7 [(17,.n [(151,.n [(23,.r (a.pf c (.q .exU s x)))]),(155,.r (dA (bA 1 c))),(160,.r (dA (bA 1 c++[x]))),(161,.n [(23,.r (b.pf (bA 1 c++[x]) y))]),(162,.r f.p)]),26,(300003,.f 7 [[a.pf c (.q .exU s x)],[b.pf (bA 1 c++[x]) y]]),(300004,.fb 1 none)] g h e i j k (rfl:kA [[a.pf c (.q .exU s x)],[b.pf (bA 1 c++[x]) y]]=kA [[a.pf c (.q .exU s x)],[b.pf (bA 1 c++[x]) y]])
def Ox{d c:List Fm}{t:Tm}{a b:Jt}{x y z f:Fm}(g:LC d c a y)(h:A 291 [dA c,num 1] (dA (bA 1 c)))(e:A 290 [dA (bA 1 c),x.p] (dA (bA 1 c++[x])))(i:LC d (bA 1 c++[x]) b z)(j:A 292 [x.p,t.p] f.p)(k:ND f):A 148 [dA d,dA c,(Pf.ind false x t a.p b.p).p] (aA (Pf.ind false x t a.p b.p) f c [[a.pf c y],[b.pf (bA 1 c++[x]) z]]):=by
 exact f7 [(17,.n [(164,.n [(23,.n [(23,.r (a.pf c y))]),(27,.r (dA (bA 1 c))),(32,.r (dA (bA 1 c++[x]))),(33,.n [(23,.r (b.pf (bA 1 c++[x]) z))]),(42,.r f.p)])]),(26,.U [.bool f.has,num 0]),(300003,.f 10 [[a.pf c y],[b.pf (bA 1 c++[x]) z]]),(300004,.fb 1 none)] g h e i j k (rfl:kA [[a.pf c y],[b.pf (bA 1 c++[x]) z]]=kA [[a.pf c y],[b.pf (bA 1 c++[x]) z]])
def Qx{d c:List Fm}{t:Tm}{a b:Jt}{x y z f:Fm}(g:LC d c a y)(h:A 92 [x.p,num 1,num 1] (FR.ok (x.sh 1 (.ofNat 1))).p)(i:A 291 [dA c,num 2] (dA (bA 2 c)))(e:A 290 [dA (bA 2 c),(x.sh 1 (.ofNat 1)).p] (dA (bA 2 c++[(x.sh 1 (.ofNat 1))])))(j:LC d (bA 2 c++[(x.sh 1 (.ofNat 1))]) b z)(k:A 292 [x.p,t.p] f.p)(l:ND f):A 148 [dA d,dA c,(Pf.ind true x t a.p b.p).p] (aA (Pf.ind true x t a.p b.p) f c [[a.pf c y],[b.pf (bA 2 c++[(x.sh 1 (.ofNat 1))]) z]]):=by
 exact f8 [(17,.n [(164,.n [(48,.n [(23,.r (a.pf c y))]),(54,.r (FR.ok (x.sh 1 (.ofNat 1))).p),(60,.r (dA (bA 2 c))),(62,.r (dA (bA 2 c++[(x.sh 1 (.ofNat 1))]))),(63,.n [(23,.r (b.pf (bA 2 c++[(x.sh 1 (.ofNat 1))]) z))]),(72,.r f.p)])]),(26,.U [.bool f.has,num 0]),(300003,.f 10 [[a.pf c y],[b.pf (bA 2 c++[(x.sh 1 (.ofNat 1))]) z]]),(300004,.fb 1 none)] g h i e j k l (rfl:kA [[a.pf c y],[b.pf (bA 2 c++[(x.sh 1 (.ofNat 1))]) z]]=kA [[a.pf c y],[b.pf (bA 2 c++[(x.sh 1 (.ofNat 1))]) z]])
def Rx{b a:List Fm}{t:Tm}(c:ND (Fm.eq t t)):A 148 [dA b,dA a,(Pf.refl t).p] (aA (Pf.refl t) (Fm.eq t t) a []):=by
 exact f1 [(17,.n [(164,.n [])]),(26,.U [.bool (Fm.eq t t).has,num 0]),(300004,.fb 1 none)] c
def Tx{d c:List Fm}{a b:Jt}{t u:Tm}{x y f:Fm}(e:LC d c a (.eq t u))(g:LC d c b y)(h:A 292 [x.p,u.p] f.p)(i:ND f):A 148 [dA d,dA c,(Pf.subst x a.p b.p).p] (aA (Pf.subst x a.p b.p) f c [[a.pf c (.eq t u)],[b.pf c y]]):=by
 exact f5 [(17,.n [(164,.n [(90,.n [(23,.r (a.pf c (.eq t u)))]),(94,.n [(23,.r (b.pf c y))]),(103,.r f.p)])]),(26,.U [.bool f.has,num 0]),(300003,.f 10 [[a.pf c (.eq t u)],[b.pf c y]]),(300004,.fb 1 none)] e g h i (rfl:kA [[a.pf c (.eq t u)],[b.pf c y]]=kA [[a.pf c (.eq t u)],[b.pf c y]])
def Ux{c b:List Fm}{a:Jt}{s u:Ty}{x y:Fm}(d:LC c b a (.q .all s (.q .ex u x)))(e:A 92 [x.p,num 2,num 1] (FR.ok (x.sh 2 (.ofNat 1))).p)(f:A 292 [(x.sh 2 (.ofNat 1)).p,vapp.p] y.p)(g:ND (Fm.q .ex (.two true s u) (.q .all s y))):A 148 [dA c,dA b,(Pf.p1 .choice a.p).p] (aA (Pf.p1 .choice a.p) (Fm.q .ex (.two true s u) (.q .all s y)) b [[a.pf b (.q .all s (.q .ex u x))]]):=by
 exact f5 [(17,.n [(164,.n [(107,.n [(23,.r (a.pf b (.q .all s (.q .ex u x))))]),(125,.r (FR.ok (x.sh 2 (.ofNat 1))).p),(133,.r y.p)])]),(26,.U [.bool (Fm.q .ex (.two true s u) (.q .all s y)).has,num 0]),(300003,.f 10 [[a.pf b (.q .all s (.q .ex u x))]]),(300004,.fb 1 none)] d e f g (rfl:kA [[a.pf b (.q .all s (.q .ex u x))]]=kA [[a.pf b (.q .all s (.q .ex u x))]])
def Vx{b a:List Fm}{i:Nat}{f:Fm}(c:a.length<=qA)(c:i<a.length)(e:a[a.length-1-i]? =some f)(c:ND f):A 148 [dA b,dA a,(Pf.leaf false i).p] (aA (Pf.leaf false i) f a []):=by
 have:=vA;have:=uA;have b:=rD (a:=(a.map Fm.c).length) (by simp;omega) (by simp;omega);have d:xA (Int.ofNat ((a.map Fm.c).length-1)-.ofNat i)=true/\Int.ofNat ((a.map Fm.c).length-1)-.ofNat i=.ofNat (a.length-1-i):=by
  grind[AA]
 exact f4 [(17,.n [(21,.z ((a.map Fm.c).length-1)),(24,.z (a.length-1-i)),(25,.i f.c)]),26,(300004,.fb 1 none)] b d (kB e Fm.c_len) c
def Wx{a b:List Fm}{i:Nat}{f:Fm}(e:a[i]? =some f)(c:ND f):A 148 [dA a,dA b,(Pf.leaf true i).p] (aA (Pf.leaf true i) f b []):=by
 exact f2 [(17,.n [(33,.i f.c)]),26,(300004,.fb 1 none)] (kB e Fm.c_len) c
def BR(p:Pf):1<=p.cnt:=by cases p<;>simp[Pf.cnt]<;>omega
def Jt.FKj{a:List Fm}:∀{j:Jt}{n:Nat}{b:List Fm},j.OK a n b->FK n j.f|.leaf _ _ _,_,_,h=>h.1|.refl _,_,_,h=>h.2|.p1 _ _ _,_,_,h=>h.1|.p2 _ _ _ _,_,_,h=>h.1|.impI _ _,_,_,h=>h.2.1|.all _ _ _,_,_,h=>h.2.1|.ins _ _ _ _,_,_,h=>h.1|.ex _ _ _ _,_,_,h=>h.1|.ind _ _ _ _ _ _,_,_,h=>h.1|.subst _ _ _ _,_,_,h=>h.1
def DR{n k:Nat}{a:List Fm}(h:∀f∈a,FK n f):∀f∈bA k a,FK (n+k) f:=by
 intro f b;obtain⟨g,c,rfl⟩:=List.mem_map.1 b;exact(h g c).sh 0 k
def ER{n:Nat}{a:List Fm}{x:Fm}(h:∀f∈a,FK n f)(b:FK n x):∀f∈a++[x],FK n f:=by
 grind
def Xx(n:Nat):TK (n+2) vapp:=⟨by decide,rfl,by show 1<n+2/\0<n+2;omega⟩
def CE{ls:List Fm}:∀(j:Jt)(n:Nat)(c:List Fm),(∀f∈c,FK n f)->c.length+j.p.cnt<=qA->n+j.p.cnt<=90000->j.OK ls n c->Bx ls c j
 |.leaf u i f,n,c,d,w,z,h=>by
  have r:iA=100000:=rfl;simp only[Jt.p,Pf.cnt]at w z;obtain⟨o,h⟩:=h;cases u
  ·exact Vx (by omega) h.1 h.2 (o.a70 (by omega))
  exact Wx h (o.a70 (by omega))
 |.refl t,n,c,d,w,z,h=>Rx (h.2.a70 (by have r:iA=100000:=rfl;omega))|.p1 k a f,n,c,d,w,z,⟨o,p,m⟩=>by
  have r:iA=100000:=rfl;simp only[Jt.p,Pf.cnt]at w z;have v:=CE a n c d (by omega) (by omega) p;have C:=o.a70 (by omega);cases k
  ·obtain⟨y,e⟩:=m;have g:=Cx (a:=a) (f:=f) (y:=y) (by rw[<-e];exact v) C;rw[<-e]at g;exact g
  ·obtain⟨y,e⟩:=m;have g:=Dx (a:=a) (f:=f) (y:=y) (by rw[<-e];exact v) C;rw[<-e]at g;exact g
  obtain⟨s,u,x,e,y,B,I⟩:=m;subst I;have D:FK (n+2) x:=by
   have:=Jt.FKj p;rw[e]at this;exact this.qf.qf
  have g:=Ux (a:=a) (s:=s) (u:=u) (x:=x) (y:=y) (by rw[<-e];exact v) (Vv D) (xV (n:=n+2) (D.sh 2 1) (Xx n) (by omega) B) C;rw[<-e]at g;exact g
 |.p2 k a b f,n,c,d,w,z,⟨o,p,m⟩=>by
  have r:iA=100000:=rfl;simp only[Jt.p,Pf.cnt]at w z;have J:=BR a.p;have v:=CE a n c d (by omega) (by omega) p;have C:=o.a70 (by omega);cases k
  ·obtain⟨A,e⟩:=m;subst e;exact Ex v (CE b n c d (by omega) (by omega) A) C
  ·obtain⟨A,x,e⟩:=m;have g:=Fx (a:=a) (b:=b) (x:=x) (f:=f) (by rw[<-e];exact v) (CE b n c d (by omega) (by omega) A) C;rw[<-e]at g;exact g
  ·obtain⟨A,⟨s,e⟩,B⟩:=m;generalize D:a.f.bd=x at *
   have E:FK (n+1) x:=by
    have:=Jt.FKj p;rw[e]at this;exact this.qf
   have F:(bA 1 c).length=c.length:=by simp
   have g:=Mx (a:=a) (b:=b) (s:=s) (x:=x) (y:=b.f) (f:=f) (by rw[<-e];exact v) (up1 (n:=n) (by omega) d (by omega)) (AR _ _) (CE b (n+1) _ (ER (DR d) E) (by simp;omega) (by omega) A) (aj (Jt.FKj A) o (by omega) B) C;rw[<-e,<-D]at g;exact g
  obtain⟨A,⟨s,e⟩,B⟩:=m;generalize D:a.f.bd=x at *
  have E:FK (n+1) x:=by
   have:=Jt.FKj p;rw[e]at this;exact this.qf
  have F:(bA 1 c).length=c.length:=by simp
  have g:=Nx (a:=a) (b:=b) (s:=s) (x:=x) (y:=b.f) (f:=f) (by rw[<-e];exact v) (up1 (n:=n) (by omega) d (by omega)) (AR _ _) (CE b (n+1) _ (ER (DR d) E) (by simp;omega) (by omega) A) (aj (Jt.FKj A) o (by omega) B) C;rw[<-e,<-D]at g;exact g
 |.impI x a,n,c,d,w,z,⟨o,p,m⟩=>by
  have r:iA=100000:=rfl;simp only[Jt.p,Pf.cnt]at w z;exact Gx (AR _ _) (CE a n _ (ER d o) (by simp;omega) (by omega) m) (p.a70 (by omega))
 |.all u s a,n,c,d,w,z,⟨o,p,m⟩=>by
  have r:iA=100000:=rfl;simp only[Jt.p,Pf.cnt]at w z;have v:=CE a (n+1) _ (DR d) (by simp;omega) (by omega) m;cases u
  ·exact Hx (up1 (n:=n) (by omega) d (by omega)) v (p.a70 (by omega))
  exact Ix (up1 (n:=n) (by omega) d (by omega)) v (p.a70 (by omega))
 |.ins u t a f,n,c,d,w,z,⟨o,p,m,s,x,e,B⟩=>by
  have r:iA=100000:=rfl;simp only[Jt.p,Pf.cnt]at w z;have v:=CE a n c d (by omega) (by omega) m;have E:FK (n+1) x:=by
   have:=Jt.FKj m;rw[e]at this;exact this.qf
  have G:=xV E p (by omega) B;cases u
  ·have g:=Jx (t:=t) (a:=a) (s:=s) (x:=x) (f:=f) (by rw[show Fm.q .all s x=a.f from e.symm];exact v) G (o.a70 (by omega));rw[show Fm.q .all s x=a.f from e.symm]at g;exact g
  have g:=Kx (t:=t) (a:=a) (s:=s) (x:=x) (f:=f) (by rw[show Fm.q .allU s x=a.f from e.symm];exact v) G (o.a70 (by omega));rw[show Fm.q .allU s x=a.f from e.symm]at g;exact g
 |.ex u x t a,n,c,d,w,z,⟨o,p,m,_,_⟩=>by
  have r:iA=100000:=rfl;simp only[Jt.p,Pf.cnt]at w z;exact Lx (CE a n c d (by omega) (by omega) m) (o.a70 (by omega))
 |.ind l x t a b f,n,c,d,w,z,⟨o,p,m,A,e,_,H⟩=>by
  have r:iA=100000:=rfl;simp only[Jt.p,Pf.cnt]at w z;have J:=BR a.p;have M:=fE t;have v:=CE a n c d (by omega) (by omega) A;have G:=xV p m (by omega) e;have F:(bA 1 c).length=c.length:=by simp
  have K:(bA 2 c).length=c.length:=by simp
  cases l
  ·exact Ox v (up1 (n:=n) (by omega) d (by omega)) (AR _ _) (CE b (n+1) _ (ER (DR d) p) (by simp;omega) (by omega) H) G (o.a70 (by omega))
  exact Qx v (Uv p) (up2 (n:=n) (by omega) d (by omega)) (AR _ _) (CE b (n+2) _ (ER (DR d) (p.sh 1 1)) (by simp;omega) (by omega) H) G (o.a70 (by omega))
 |.subst x a b f,n,c,d,w,z,⟨o,p,m,A,_,t,u,e,B⟩=>by
  have r:iA=100000:=rfl;simp only[Jt.p,Pf.cnt]at w z;have v:=CE a n c d (by omega) (by omega) m;have L:TK n u:=by
   have:=Jt.FKj m;rw[e]at this;exact this.eq2
  have g:=Tx (a:=a) (b:=b) (t:=t) (u:=u) (x:=x) (f:=f) (by rw[<-e];exact v) (CE b n c d (by omega) (by omega) A) (xV p L (by omega) B) (o.a70 (by omega));rw[<-e]at g;exact g
open Go.Lg
inductive Hy where|bare (pl:Nat)|hy (t:Tm) (d pl:Nat)
def Hy.k:Hy->Nat|.bare _=>0|.hy t _ _=>t.kd
def Hy.i:Hy->Nat|.bare _=>0|.hy t _ _=>t.ix
def Hy.tk:Hy->Nat|.bare _=>0|.hy t _ _=>t.tk
def Hy.te:Hy->List (List PV)|.bare _=>[]|.hy t _ _=>t.te
def Hy.es:Hy->List (List PV)|.bare _=>[]|.hy t _ _=>t.es
def Hy.d:Hy->Nat|.bare _=>0|.hy _ d _=>d
def Hy.has:Hy->Bool|.bare _=>false|.hy _ _ _=>true
def Hy.pl:Hy->Nat|.bare p=>p|.hy _ _ p=>p
abbrev Hy.c(h:Hy):List PV:=[num h.k,num h.i,num h.tk,.slice h.te,.slice h.es,num h.d,.bool h.has,num h.pl]
abbrev ec(e:Tm×Nat):List PV:=[num e.1.kd,num e.1.ix,num e.1.tk,.slice e.1.te,.slice e.1.es,num e.2]
def cj(e:Tm×Nat):(ec e).length=6:=rfl
def Hy.c_len(h:Hy):h.c.length=8:=rfl
structure Sc where
 dep:Nat
 hyps:Nat
 vs:List (Tm×Nat)
 ks:List Hy
abbrev Sc.p(s:Sc):PV:=.agg [num s.dep,num s.hyps,.slice (s.vs.map ec),.slice (s.ks.map Hy.c)]
def ent(a:List (Tm×Nat))(v:Nat):Option (Tm×Nat):=if v<a.length then a[a.length-1-v]? else none
def Tm.ps(c:List (Tm×Nat))(d:Nat):Tm->Nat->Tm
 |.v i,b=>if i<b then .v i else match ent c (i-b)with
  |some e=>e.1.sh 0 (.ofNat (d-e.2+b))|none=>.v i
 |.lam s t,b=>.lam s (t.ps c d (b+1))|.n0 k,_=>.n0 k|.n1 k a,b=>.n1 k (a.ps c d b)|.n2 k x y,b=>.n2 k (x.ps c d b) (y.ps c d b)|.n3 k s x y z,b=>.n3 k s (x.ps c d b) (y.ps c d b) (z.ps c d b)
def GR{vs:List (Tm×Nat)}{v:Nat}(h:v<vs.length:=by omega):∃e,ent vs v=some e/\e∈vs:=by
 unfold ent;obtain⟨e,a⟩:∃e,vs[vs.length-1-v]? =some e:=⟨_,List.getElem?_eq_getElem (by omega)⟩
 grind
def ij{a:List (Tm×Nat)}{v:Nat}{e:Tm×Nat}(h:ent a v=some e):e∈a:=by
 grind[ent,List.mem_of_getElem]
def BV(a:List (Tm×Nat))(e:Tm×Nat):ent (a++[e]) 0=some e:=by
 simp[ent,if_pos]
def Ka(a:List (Tm×Nat))(e:Tm×Nat)(v:Nat):ent (a++[e]) (v+1)=ent a v:=by
 grind[ent]
def DH(d:Nat)(a:List (Tm×Nat)):Prop:=∀e∈a,e.2<=d/\TK e.2 e.1
def LJ{f:List (Tm×Nat)}{d:Nat}(c:DH d f):∀(t:Tm)(b:Nat),(t.ps f d b).cnt<=4096*t.cnt
 |.v i,b=>by
  unfold Tm.ps;split
  ·omega
  split
  ·rename_i e g;rw[ZD];have:=(c e (ij g)).2.cnt
   grind[Tm.cnt]
  omega
 |.lam s t,b=>by have:=LJ c t (b+1);grind[Tm.ps,Tm.cnt]|.n0 _,b=>by simp[Tm.ps,Tm.cnt]|.n1 _ a,b=>by have:=LJ c a b;grind[Tm.ps,Tm.cnt]|.n2 _ x y,b=>by have:=LJ c x b;have:=LJ c y b;grind[Tm.ps,Tm.cnt]|.n3 _ _ x y z,b=>by have:=LJ c x b;have:=LJ c y b;have:=LJ c z b;grind[Tm.ps,Tm.cnt]
def EH{k:List (Tm×Nat)}{d:Nat}(c:DH d k):∀(t:Tm)(b:Nat),t.shp=true->(t.ps k d b).shp=true
 |.v i,b,h=>by
  unfold Tm.ps;split
  ·rfl
  split
  ·rename_i e l;rw[AJ];exact(c e (ij l)).2.shp
  rfl
 |.lam s t,b,h=>by
  obtain⟨g,f⟩:=EA h;show(_&&_)=true;rw[g,EH c t (b+1) f];rfl
 |.n0 _,b,h=>rfl|.n1 _ a,b,h=>EH c a b h|.n2 _ x y,b,h=>by
  obtain⟨g,f⟩:=EA h;show(_&&_)=true;rw[EH c x b g,EH c y b f];rfl
 |.n3 _ _ x y z,b,h=>by
  obtain⟨g,f⟩:=EA h;obtain⟨f,j⟩:=EA f;obtain⟨j,m⟩:=EA j;show(_&&(_&&(_&&_)))=true;rw[g,EH c x b f,EH c y b j,EH c z b m];rfl
def FH{vs:List (Tm×Nat)}{d:Nat}(c:DH d vs):∀(t:Tm)(b:Nat),t.sc (vs.length+b)->(t.ps vs d b).sc (d+b)
 |.v i,b,h=>by
  have h:i<vs.length+b:=h;unfold Tm.ps;split
  ·show i<d+b;omega
  obtain⟨e,f,g⟩:=GR (vs:=vs) (v:=i-b);rw[f];obtain⟨k,j⟩:=c e g;have:=AF (d-e.2+b) e.1 0 e.2 j.sc;rwa[show e.2+(d-e.2+b)=d+b by omega]at this
 |.lam s t,b,h=>FH c t (b+1) h|.n0 _,b,h=>trivial|.n1 _ a,b,h=>FH c a b h|.n2 _ x y,b,h=>⟨FH c x b h.1,FH c y b h.2⟩|.n3 _ _ x y z,b,h=>⟨FH c x b h.1,FH c y b h.2.1,FH c z b h.2.2⟩
def OD(k:Nat)(a:List Fm):(bA k a).map Fm.has=a.map Fm.has:=by
 grind[List.map_congr_left,SA,JD]
open Go.Lg
structure ScOK(n:Nat)(bs:List Bool)(s:Sc):Prop where
 vl:s.vs.length=n
 kl:s.ks.length=bs.length
 ve:DH s.dep s.vs
 ke:∀h∈s.ks,∀t d p,h=Hy.hy t d p->d<=s.dep/\TK d t
 kh:∀i:Nat,bs[i]? =some true->∃t d p,s.ks[i]? =some (Hy.hy t d p)
def Sc.bind(s:Sc):Sc:=⟨s.dep+1,s.hyps,s.vs,s.ks⟩
def Sc.var(s:Sc)(t:Tm):Sc:=⟨s.dep,s.hyps,s.vs++[(t,s.dep)],s.ks⟩
def Sc.hyp(s:Sc)(t:Tm):Sc:=⟨s.dep,s.hyps+1,s.vs,s.ks++[.hy t s.dep s.hyps]⟩
def Sc.bare(s:Sc):Sc:=⟨s.dep,s.hyps+1,s.vs,s.ks++[.bare s.hyps]⟩
theorem ScOK.bind{n:Nat}{a:List Bool}{s:Sc}(h:ScOK n a s):ScOK n a s.bind:=
 ⟨h.vl,h.kl,λe a=>⟨Nat.le_succ_of_le (h.ve e a).1,(h.ve e a).2⟩,λx a t d p e=>⟨Nat.le_succ_of_le (h.ke x a t d p e).1,(h.ke x a t d p e).2⟩,h.kh⟩
theorem ScOK.var{n:Nat}{b:List Bool}{s:Sc}{t:Tm}(h:ScOK n b s)(c:TK s.dep t):ScOK (n+1) b (s.var t):=
 ⟨by simp[Sc.var,h.vl],h.kl,λe a=>by
  rcases List.mem_append.1 a with a|a
  ·exact h.ve e a
  simp at a;subst a;exact⟨Nat.le_refl _,c⟩,h.ke,h.kh⟩
def xj{a:List Bool}{c:List Hy}{x:Hy}{b:Bool}(e:c.length=a.length)(h:∀i:Nat,a[i]? =some true->∃t d p,c[i]? =some (Hy.hy t d p))(e:b=true->∃t d p,x=Hy.hy t d p)(i:Nat)(e:(a++[b])[i]? =some true):∃t d p,(c++[x])[i]? =some (Hy.hy t d p):=by
 grind
theorem ScOK.hyp{n:Nat}{c:List Bool}{s:Sc}{t:Tm}(h:ScOK n c s)(f:TK s.dep t)(b:Bool):ScOK n (c++[b]) (s.hyp t):=
 ⟨h.vl,by simp[Sc.hyp,h.kl],h.ve,(λx a g d p e=>by
  rcases List.mem_append.1 a with a|a
  ·exact h.ke x a g d p e
  simp at a;subst a;cases e;exact⟨Nat.le_refl _,f⟩),xj h.kl h.kh λ_=>⟨_,_,_,rfl⟩⟩
theorem ScOK.bare{n:Nat}{b:List Bool}{s:Sc}(h:ScOK n b s):ScOK n (b++[false]) s.bare:=
 ⟨h.vl,by simp[Sc.bare,h.kl],h.ve,(λx a c d p e=>by
  rcases List.mem_append.1 a with a|a
  ·exact h.ke x a c d p e
  simp_all),xj h.kl h.kh nofun⟩
def yC{n i:Nat}(h:i<n:=by omega):TK n (.v i):=⟨by simp[Tm.cnt],rfl,h⟩
def MJ{n:Nat}{k:K1}{a:Tm}(h:TK n a)(b:a.cnt<4096):TK n (.n1 k a):=⟨by grind[Tm.cnt],h.shp,h.sc⟩
def Yx{n m:Nat}{t:Tm}(h:TK n t)(a:n<=m):TK m t:=⟨h.cnt,h.shp,ua t a h.sc⟩
theorem TK.sh{n:Nat}{t:Tm}(h:TK n t)(k:Nat):TK (n+k) (t.sh 0 (.ofNat k)):=⟨by rw[ZD];exact h.cnt,by rw[AJ];exact h.shp,AF k t 0 n h.sc⟩
inductive XR where|er (x:Sx) (n:Nat)|ok (t:Tm)
def XR.k:XR->Nat|.er x _=>x.k|.ok t=>t.kd
def XR.i:XR->Nat|.er x _=>x.i|.ok t=>t.ix
def XR.tk:XR->Nat|.er x _=>x.tk|.ok t=>t.tk
def XR.te:XR->List (List PV)|.er x _=>x.te|.ok t=>t.te
def XR.es:XR->List (List PV)|.er x _=>x.es|.ok t=>t.es
def XR.e:XR->Nat|.er _ n=>n+1|.ok _=>0
def XR.p(r:XR):PV:=.tuple [.agg [num r.k,num r.i,num r.tk,.slice r.te,.slice r.es],num r.e]
def TA(i:Nat):A 91 [num i] (Tm.v i).p:=f0 []
def iL(s:Sc)(h:s.dep<=qA:=by omega):A 101 [s.p] s.bind.p:=by
 have:=vA;have:=uA;exact f1 [5] (nA (a:=s.dep) (b:=1))
def NJ(s:Sc)(t:Tm)(h:s.vs.length<=qA):A 102 [s.p,t.p] (s.var t).p:=by
 have:=vA;have a:=jG (s.vs.map ec).length;have b:=lF 6 80 cj (by decide) s.vs (t,s.dep) (by omega) (by simp only[maxLen];omega);rw[show(s.var t).p=.agg [num s.dep,num s.hyps,.slice (s.vs.map ec++[ec (t,s.dep)]),.slice (s.ks.map Hy.c)] by simp[Sc.var]];exact f2 [(13,.ok),(19,.ok)] a b
def xP(s:Sc)(t:Tm)(h:s.ks.length<=qA)(a:s.hyps<=qA):A 152 [s.p,t.p] (s.hyp t).p:=by
 have:=vA;have:=uA;have a:=jG (s.ks.map Hy.c).length;have b:=lF 8 96 Hy.c_len (by decide) s.ks (.hy t s.dep s.hyps) (by omega) (by simp only[maxLen];omega);rw[show(s.hyp t).p=.agg [num s.dep,num (s.hyps+1),.slice (s.vs.map ec),.slice (s.ks.map Hy.c++[(Hy.hy t s.dep s.hyps).c])] by simp[Sc.hyp]];exact f3 [(13,.ok),(22,.ok),26] a b (nA (a:=s.hyps) (b:=1))
def CV(s:Sc)(h:s.ks.length<=qA:=by omega)(a:s.hyps<=qA:=by omega):A 151 [s.p] s.bare.p:=by
 have:=vA;have:=uA;have a:=jG (s.ks.map Hy.c).length;have b:=lF 8 96 Hy.c_len (by decide) s.ks (.bare s.hyps) (by omega) (by simp only[maxLen];omega);rw[show s.bare.p=.agg [num s.dep,num (s.hyps+1),.slice (s.vs.map ec),.slice (s.ks.map Hy.c++[(Hy.bare s.hyps).c])] by simp[Sc.bare]];exact f3 [(11,.ok),(16,.ok),20] a b (nA (a:=s.hyps) (b:=1))
theorem oL(k:Nat)(j:k+1<=qA+qA):∀(t:Tm)(c:Nat),t.mx<=qA*qA->c+t.cnt<=qA->A 190 [t.p,num c,num (k+1)] (t.sh c (.ofNat (k+1))).p
 |.v i,c,f,g=>by
  have n:=vA;have:=uA;have f:i<=qA*qA:=f;rw[n]at f;by_cases h:c<=i
  ·have e:(Tm.v i).sh c (.ofNat (k+1))=.v (i+(k+1)):=by simp only[Tm.sh,if_pos h];rfl
   rw[e];exact f2 [19,23] (dI h) (nA (a:=i) (b:=k+1))
  have e:(Tm.v i).sh c (.ofNat (k+1))=.v i:=by simp only[Tm.sh,if_neg h]
  rw[e];exact f1 [19] (vG (show i<c by omega))
 |.lam s b,c,f,g=>by
  have g:c+(1+b.cnt)<=qA:=g;have n:=vA;exact f2 [(30,.ok),45] (AA (show c+1<=_ by omega)) (oL k j b (c+1) f (by omega))
 |.n0 q,c,_,_=>by cases q<;>exact f0 []
 |.n1 q a,c,f,g=>by
  have g:c+(1+a.cnt)<=qA:=g;have l:=oL k j a c f (by omega);cases q<;>exact f1 [45] l
 |.n2 q a b,c,f,g=>by
  simp only[Tm.mx,Tm.cnt]at f g;have l:=oL k j a c (by omega) (by omega);have m:=oL k j b c (by omega) (by omega);cases q<;>exact f2 [45,45] l m
 |.n3 q s a b d,c,f,g=>by
  simp only[Tm.mx,Tm.cnt]at f g;have l:=oL k j a c (by omega) (by omega);have m:=oL k j b c (by omega) (by omega);have p:=oL k j d c (by omega) (by omega);cases q<;>exact f3 [45,45,45] l m p
def xL(t:Tm)(c k:Nat)(a:k<=qA+qA:=by omega)(h:t.mx<=qA*qA:=by omega)(b:c+t.cnt<=qA:=by omega):A 190 [t.p,num c,num k] (t.sh c (.ofNat k)).p:=by
 cases k with
 |zero=>
  rw[gE];exact f0 []
 |succ k=>grind[oL]
def MC:∀t:Tm,t.cnt<=yA->A 170 [t.p] (num t.cnt)
 |.v i,h=>f0 []|.lam s b,h=>by
  simp only[Tm.cnt]at h;exact f2 [15,16] (MC b (by omega)) (nA (a:=1))
 |.n0 k,h=>by cases k<;>exact f0 []
 |.n1 k a,h=>by
  simp only[Tm.cnt]at h;have c:=MC a (by omega);have e:=nA (a:=1) (b:=a.cnt);cases k<;>exact f2 [15,16] c e
 |.n2 k a b,h=>by
  simp only[Tm.cnt]at h;have c:=MC a (by omega);have e:=nA (a:=1) (b:=a.cnt);have f:=MC b (by omega);have g:=nA (a:=1+a.cnt) (b:=b.cnt);cases k<;>exact f4 [15,16,15,16] c e f g
 |.n3 k s a b d,h=>by
  simp only[Tm.cnt]at h;have c:=MC a (by omega);have e:=nA (a:=1) (b:=a.cnt);have f:=MC b (by omega);have g:=nA (a:=1+a.cnt) (b:=b.cnt);have j:=MC d (by omega);have l:=nA (a:=1+a.cnt+b.cnt) (b:=d.cnt);cases k<;>exact f6 [15,16,15,16,15,16] c e f g j l
def OJ(s:Sc)(c:DH s.dep s.vs)(d:s.dep<=iA)(f:s.vs.length<=iA):∀(t:Tm)(b:Nat),t.sc (s.vs.length+b)->b+t.cnt<=qA->A 234 [s.p,t.p,num b] (t.ps s.vs s.dep b).p
 |.v i,b,h,a=>by
  have p:=vA;have:=uA;have:iA=100000:=rfl;simp only[Tm.cnt]at a;have h:i<s.vs.length+b:=h;by_cases r:i<b
  ·have e:(Tm.v i).ps s.vs s.dep b=.v i:=by simp only[Tm.ps,if_pos r]
   rw[e];have j:xA (Int.ofNat i-.ofNat b)=true/\Int.ofNat i-.ofNat b=Int.ofNat i-.ofNat b:=nP;have k:fA (Int.ofNat i-.ofNat b) (.ofNat 0)=true:=by rw[UB];simp;omega
   exact f2 [(18,.y (Int.ofNat i-.ofNat b)),20] j k
  have j:xA (Int.ofNat i-.ofNat b)=true/\Int.ofNat i-.ofNat b=.ofNat (i-b):=by
   have e:Int.ofNat i-.ofNat b=.ofNat (i-b):=by simp;omega
   grind[AA]
  obtain⟨e,l,m⟩:=GR (vs:=s.vs) (v:=i-b);have n:s.vs[s.vs.length-1-(i-b)]? =some e:=by
   unfold ent at l;rwa[if_pos (by omega)]at l
  have C:(Tm.v i).ps s.vs s.dep b=e.1.sh 0 (.ofNat (s.dep-e.2+b)):=by simp only[Tm.ps,if_neg r,l]
  rw[C];obtain⟨L,v⟩:=c e m;have k:fA (.ofNat (i-b)) (.ofNat 0)=false:=HA (Nat.zero_le _);have D:(!fA (.ofNat (i-b)) (.ofNat (s.vs.map ec).length))=false:=vG (by simp;omega);have E:=rD (a:=(s.vs.map ec).length) (by simp;omega) (by simp;omega);have F:xA (Int.ofNat ((s.vs.map ec).length-1)-.ofNat (i-b))=true/\Int.ofNat ((s.vs.map ec).length-1)-.ofNat (i-b)=.ofNat (s.vs.length-1-(i-b)):=by
   have e:Int.ofNat ((s.vs.map ec).length-1)-.ofNat (i-b)=.ofNat (s.vs.length-1-(i-b)):=by simp;omega
   grind[AA]
  have G:=kB n cj;have H:xA (Int.ofNat s.dep-.ofNat e.2)=true/\Int.ofNat s.dep-.ofNat e.2=.ofNat (s.dep-e.2):=by
   have e:Int.ofNat s.dep-.ofNat e.2=.ofNat (s.dep-e.2):=by simp;omega
   grind[AA]
  have I:=nA (a:=s.dep-e.2) (b:=b);have J:=xL e.1 0 (s.dep-e.2+b) (by omega) (by have:=v.mx (by omega);rw[p];omega) (by have:=v.cnt;omega);exact f9 [18,20,26,34,36,(37,.i (ec e)),45,47,48] j k D E F G H I J
 |.lam u t,b,h,a=>by
  have a:b+(1+t.cnt)<=qA:=a;have p:=vA;exact f2 [(53,.ok),68] (AA (show b+1<=_ by omega)) (OJ s c d f t (b+1) h (by omega))
 |.n0 q,b,_,_=>by cases q<;>exact f0 []
 |.n1 q x,b,h,a=>by
  have a:b+(1+x.cnt)<=qA:=a;have g:=OJ s c d f x b h (by omega);cases q<;>exact f1 [68] g
 |.n2 q x y,b,h,a=>by
  simp only[Tm.cnt]at a;have g:=OJ s c d f x b h.1 (by omega);have o:=OJ s c d f y b h.2 (by omega);cases q<;>exact f2 [68,68] g o
 |.n3 q u x y z,b,h,a=>by
  simp only[Tm.cnt]at a;have g:=OJ s c d f x b h.1 (by omega);have o:=OJ s c d f y b h.2.1 (by omega);have K:=OJ s c d f z b h.2.2 (by omega);cases q<;>exact f3 [68,68,68] g o K
def XR.fit(t:Tm):XR:=if t.cnt<=4096 then .ok t else .er .z 3
def Zx(s:Sc)(t:Tm)(b:Nat)(n:Nat)(f:n=s.vs.length)(a:DH s.dep s.vs)(g:s.dep<=iA)(i:s.vs.length<=iA)(c:TK n t):A 164 [s.p,t.p,num 0] (XR.fit (t.ps s.vs s.dep 0)).p:=by
 have j:=vA;have k:=uA;have l:=c.cnt;have d:=OJ s a g i t 0 (f▸c.sc) (by omega);have m:=LJ a t 0;have e:=MC (t.ps s.vs s.dep 0) (by omega);unfold XR.fit;split
 ·rename_i h;exact f3 [12,14,15] d e (HA h)
 rename_i h;exact f3 [12,14,15] d e (NA (a:=4096) (Nat.lt_of_not_le h))
def HR(s:Sc)(t:Tm)(n:Nat)(a:n=s.vs.length)(b:DH s.dep s.vs)(c:s.dep<=iA)(d:s.vs.length<=iA)(e:TK n t):A 103 [s.p,t.p] (XR.fit (t.ps s.vs s.dep 0)).p:=
 f1 [8] (Zx s t 0 n a b c d e)
abbrev DV:PV:=.agg [num 0,.slice []]
def qy(s:Ty)(b:Tm)(h:b.cnt<=qA):A 166 [num 2,s.p,row [b]] (XR.fit (.lam s b)).p:=by
 have g:=MC (.lam s b) (by grind[Tm.cnt]);unfold XR.fit;split
 ·rename_i h;exact f2 [14,15] g (HA h)
 rename_i h;exact f2 [14,15] g (NA (a:=4096) (Nat.lt_of_not_le h))
def La(k:K1)(b:Tm)(h:b.cnt<=qA:=by omega):A 166 [num k.n,DV,row [b]] (XR.fit (.n1 k b)).p:=by
 have g:=MC (.n1 k b) (by grind[Tm.cnt]);unfold XR.fit;split
 ·rename_i h;cases k<;>exact f2 [14,15] g (HA h)
 rename_i h;cases k<;>exact f2 [14,15] g (NA (a:=4096) (Nat.lt_of_not_le h))
def AL(k:K2)(a b:Tm)(h:a.cnt+b.cnt<=qA:=by omega):A 166 [num k.n,DV,row [a,b]] (XR.fit (.n2 k a b)).p:=by
 have g:=MC (.n2 k a b) (by grind[Tm.cnt]);unfold XR.fit;split
 ·rename_i h;cases k<;>exact f2 [14,15] g (HA h)
 rename_i h;cases k<;>exact f2 [14,15] g (NA (a:=4096) (Nat.lt_of_not_le h))
def Aj(k:K3)(s:Ty)(a b d:Tm)(h:a.cnt+b.cnt+d.cnt<=qA:=by omega):A 166 [num k.n,s.p,row [a,b,d]] (XR.fit (.n3 k s a b d)).p:=by
 have g:=MC (.n3 k s a b d) (by grind[Tm.cnt]);unfold XR.fit;split
 ·rename_i h;cases k<;>exact f2 [14,15] g (HA h)
 rename_i h;cases k<;>exact f2 [14,15] g (NA (a:=4096) (Nat.lt_of_not_le h))
def zy(s:Sc)(i:Nat)(t:Tm)(d p:Nat)(h:s.ks[i]? =some (.hy t d p))(a:d<=s.dep)(a:s.dep<=iA)(a:TK d t):A 304 [s.p,num i] (.tuple [(t.sh 0 (.ofNat (s.dep-d))).p,.bool true]):=by
 have b:=vA;have:iA=100000:=rfl;have c:xA (Int.ofNat s.dep-.ofNat d)=true/\Int.ofNat s.dep-.ofNat d=.ofNat (s.dep-d):=by
  grind[AA]
 exact f3 [(10,.i (Hy.hy t d p).c),20,21] (kB h Hy.c_len) c (xL t 0 (s.dep-d) (by omega) (by have:=a.mx (by omega);rw[b];omega) (by have:=a.cnt;omega))
def Ma:∀t:Ty,t.size<=yA->A 416 [t.p] (num t.size)
 |.nat,_=>f0 []|.list,_=>f0 []|.unit,_=>f0 []|.two k a b,h=>by
  simp only[Ty.size]at h;have c:=Ma a (by omega);have d:=nA (a:=1) (b:=a.size);have e:=Ma b (by omega);have f:=nA (a:=1+a.size) (b:=b.size);cases k<;>exact f4 [15,16,15,16] c d e f
def Bj(k:Bool)(s u:Ty)(h:s.size+u.size<=qA):A 406 [num (bn k 3 4),s.p,u.p] (TR.fit (.two k s u)).p:=by
 have g:=Ma (.two k s u) (by grind[Ty.size]);unfold TR.fit;split
 ·rename_i h;cases k<;>exact f2 [15,16] g (HA h)
 rename_i h;cases k<;>exact f2 [15,16] g (NA (a:=64) (Nat.lt_of_not_le h))
def Cj(s u:Ty)(h:s.size+u.size<=qA:=by omega):A 388 [s.p,u.p] (TR.fit (.two false s u)).p:=f1 [8] (Bj false s u h)
def jy(s u:Ty)(h:s.size+u.size<=qA):A 391 [s.p,u.p] (TR.fit (.two true s u)).p:=f1 [8] (Bj true s u h)
def fG:A 90 [] (Tm.n0 .unit).p:=f0 []
def AP:A 308 [] Ty.nat.p:=f0 []
def Dj:A 309 [] Ty.list.p:=f0 []
open Go.Lg
def Ty.ini:Ty->Tm
 |.nat=>.n0 .zero|.list=>.n0 .nil|.unit=>.n0 .unit|.two k a b=>match k with|false=>.n2 .pair a.ini b.ini|true=>.lam a b.ini
def BL:∀t:Ty,A 364 [t.p] t.ini.p|.nat=>f0 []|.list=>f0 []|.unit=>f1 [38] fG|.two false a b=>f2 [17,22] (BL a) (BL b)|.two true a b=>f1 [35] (BL b)
def xN{s:Ty}(h:s.size<=64:=by omega):Nat.beq s.chk 0=true:=by rw[tI,ckE_0.2 h];rfl
def EV:∀t:Ty,t.ini.cnt<=t.size|.nat=>Nat.le_refl _|.list=>Nat.le_refl _|.unit=>Nat.le_refl _|.two false a b=>by have:=EV a;have:=EV b;grind[Ty.ini,Tm.cnt,Ty.size]|.two true a b=>by have:=EV b;grind[Ty.ini,Tm.cnt,Ty.size]
def FV:∀t:Ty,t.size<=64->t.ini.shp=true
 |.nat,_=>rfl|.list,_=>rfl|.unit,_=>rfl|.two false a b,h=>by
  simp only[Ty.size]at h;show(_&&_)=true;rw[FV a (by omega),FV b (by omega)];rfl
 |.two true a b,h=>by
  simp only[Ty.size]at h;show(_&&_)=true;rw[xN (s:=a),FV b (by omega)];rfl
def IR:∀(t:Ty)(n:Nat),t.ini.sc n|.nat,_=>trivial|.list,_=>trivial|.unit,_=>trivial|.two false a b,n=>⟨IR a n,IR b n⟩|.two true a b,n=>IR b (n+1)
def qF(t:Ty)(h:t.size<=64)(n:Nat):TK n t.ini:=⟨by have:=EV t;omega,FV t h,IR t n⟩
def GH{n:Nat}{f:Fm}(h:FK n f)(a:n<=iA:=by omega):∃r:TR,A 160 [f.p] (.tuple [.agg [num r.k,.slice r.l],.bool f.has,num r.n])/\r.sz<=64/\(∀n,r=.er n->n=3)/\∀t,r=.ok t->f.has=true->t=f.cty:=by
 obtain⟨r,g,q,b,c⟩:=h.a34;exact⟨r,f2 [10,19] (h.a70 a) g,q,c,b⟩
def AN{t:Ty}{n:Nat}(h:TR.fit t=.er n):n=3:=by
 unfold TR.fit at h;split at h<;>cases h;rfl
def XR.lam(s:Ty):XR->XR|.er _ n=>.er .z n|.ok t=>.fit (.lam s t)
def XR.two(k:K2):XR->XR->XR|.er _ n,_=>.er .z n|.ok _,.er _ n=>.er .z n|.ok a,.ok b=>.fit (.n2 k a b)
def XR.cn:XR->Nat|.er _ _=>0|.ok t=>t.cnt
abbrev XR.b(r:XR):PV:=.agg [num r.k,num r.i,num r.tk,.slice r.te,.slice r.es]
def DI(s:Ty)(r:XR)(h:r.cn<=4096):A 306 [s.p,r.b,num r.e] (r.lam s).p:=by
 cases r with
 |er x n=>exact f0 []|ok t=>
  have:=vA;exact f1 [15] (qy s t (by have h:t.cnt<=4096:=h;omega))
def vy(t:Tm):(XR.fit t).cn<=4096:=by
 unfold XR.fit;split
 ·assumption
 exact Nat.zero_le _
def CL(s:Ty)(r:XR):(r.lam s).cn<=4096:=by
 cases r with|er x n=>exact Nat.zero_le _|ok t=>exact vy _
def XR.one(k:K1):XR->XR|.er x n=>.er x n|.ok t=>.fit (.n1 k t)
def XR.Gd(d:Nat)(x:Tm):XR->Prop|.er _ n=>n=3|.ok t=>TK d t/\t=x
def XR.Gd.cn{d:Nat}{x:Tm}{r:XR}(h:r.Gd d x):r.cn<=4096:=by
 cases r with|er x n=>exact Nat.zero_le _|ok t=>exact h.1.cnt
def PJ{d:Nat}{t x:Tm}(a:t.shp=true)(b:t.sc d)(c:t=x):(XR.fit t).Gd d x:=by
 unfold XR.fit;split
 ·rename_i h;exact⟨⟨h,a,b⟩,c⟩
 rfl
def EI{d:Nat}{x:Tm}{s:Ty}{r:XR}(b:s.size<=64)(h:r.Gd (d+1) x):(r.lam s).Gd d (.lam s x):=by
 cases r with
 |er x n=>exact h|ok t=>
  obtain⟨a,rfl⟩:=h;refine PJ ?_ a.sc rfl;show(_&&_)=true;rw[xN b,a.shp];rfl
def BN{d:Nat}{x y:Tm}{k:K2}{a b:XR}(c:a.Gd d x)(e:b.Gd d y):(XR.two k a b).Gd d (.n2 k x y):=by
 cases a with
 |er x n=>exact c|ok x=>cases b with
  |er z n=>exact e|ok y=>
   obtain⟨f,rfl⟩:=c;obtain⟨g,rfl⟩:=e;refine PJ ?_ ⟨f.sc,g.sc⟩ rfl;show(_&&_)=true;rw[f.shp,g.shp];rfl
def Ej{d:Nat}{x:Tm}{k:K1}{a:XR}(b:a.Gd d x):(XR.one k a).Gd d (.n1 k x):=by
 cases a with
 |er x n=>exact b|ok x=>
  obtain⟨c,rfl⟩:=b;exact PJ c.shp c.sc rfl
abbrev eA(tl:List Tm):PV:=.agg [row tl]
abbrev tyR(r:TR)(b:Bool):PV:=.tuple [.agg [num r.k,.slice r.l],.bool b,num r.n]
abbrev nB(tl:List Tm)(hs:List Fm)(a:Jt)(F:Fm)(s:Sc)(r:XR):Prop:=A 233 [eA tl,a.pf hs F,s.p] r.p
variable{tl:List Tm}{hs:List Fm}{s:Sc}
def wy{a b:Jt}{x y:Fm}{c rb:XR}(d:x.has=true)(hy:y.has=true)(ga:nB tl hs a x s c)(e:nB tl hs b y s rb)(f:c.cn<=4096)(g:rb.cn<=4096):A 233 [eA tl,aA (Pf.p2 .andI a.p b.p) (Fm.bin .and x y) hs [[a.pf hs x],[b.pf hs y]],s.p] (XR.two .pair c rb).p:=by
 cases c with
 |er x n=>exact f3 [71,81,(87,.n [(13,.n [(15,.r (XR.er x n).p)])])] d hy ga|ok t=>cases rb with
  |er x n=>exact f4 [71,81,(87,.n [(13,.n [(15,.r (XR.ok t).p)]),(22,.n [(15,.r (XR.er x n).p)])])] d hy ga e|ok u=>
   have:t.cnt<=4096:=f;have:u.cnt<=4096:=g;have:=vA;exact f5 [71,81,(87,.n [(13,.n [(15,.r (XR.ok t).p)]),(22,.n [(15,.r (XR.ok u).p)]),(34,.r (XR.fit (.n2 .pair t u)).p)])] d hy ga e (AL .pair t u)
def yy{a b:Jt}{x y:Fm}{c:XR}(d:x.has=true)(hy:y.has=false)(ga:nB tl hs a x s c):A 233 [eA tl,aA (Pf.p2 .andI a.p b.p) (Fm.bin .and x y) hs [[a.pf hs x],[b.pf hs y]],s.p] c.p:=by
 exact f4 [71,81,99,108] d hy d ga
def uy{a b:Jt}{x y:Fm}{rb:XR}(c:x.has=false)(d:nB tl hs b y s rb):A 233 [eA tl,aA (Pf.p2 .andI a.p b.p) (Fm.bin .and x y) hs [[a.pf hs x],[b.pf hs y]],s.p] rb.p:=by
 exact f3 [71,99,119] c c d
def dy{a:Jt}{f y:Fm}{ra:XR}{t0 t1:TR}(ga:nB tl hs a (.bin .and f y) s ra)(b:A 160 [f.p] (tyR t0 true))(c:A 160 [y.p] (tyR t1 true))(d:ra.cn<=4096):A 233 [eA tl,aA (Pf.p1 .andL a.p) f hs [[a.pf hs (.bin .and f y)]],s.p] (XR.one .fst ra).p:=by
 cases ra with
 |er x n=>exact f3 [134,150,167] ga b c|ok t=>
  have:t.cnt<=4096:=d;have:=vA;exact f4 [134,150,167,193] ga b c (La .fst t)
def fy{a:Jt}{f y:Fm}{ra:XR}{t0 t1:TR}(ga:nB tl hs a (.bin .and f y) s ra)(b:A 160 [f.p] (tyR t0 true))(c:A 160 [y.p] (tyR t1 false))(d:ra.cn<=4096):A 233 [eA tl,aA (Pf.p1 .andL a.p) f hs [[a.pf hs (.bin .and f y)]],s.p] ra.p:=by
 cases ra with|er x n=>exact f3 [134,150,167] ga b c|ok t=>exact f3 [134,150,167] ga b c
def gy{a:Jt}{f y:Fm}{ra:XR}{t0 t1:TR}(ga:nB tl hs a (.bin .and y f) s ra)(b:A 160 [y.p] (tyR t0 true))(c:A 160 [f.p] (tyR t1 true))(d:ra.cn<=4096):A 233 [eA tl,aA (Pf.p1 .andR a.p) f hs [[a.pf hs (.bin .and y f)]],s.p] (XR.one .snd ra).p:=by
 cases ra with
 |er x n=>exact f3 [134,150,167] ga b c|ok t=>
  have:t.cnt<=4096:=d;have:=vA;exact f4 [134,150,167,193] ga b c (La .snd t)
def ly{a:Jt}{f y:Fm}{ra:XR}{t0 t1:TR}(ga:nB tl hs a (.bin .and y f) s ra)(b:A 160 [y.p] (tyR t0 false))(c:A 160 [f.p] (tyR t1 true))(d:ra.cn<=4096):A 233 [eA tl,aA (Pf.p1 .andR a.p) f hs [[a.pf hs (.bin .and y f)]],s.p] ra.p:=by
 cases ra with|er x n=>exact f3 [134,150,167] ga b c|ok t=>exact f3 [134,150,167] ga b c
def my{a:Jt}{x y:Fm}{n:Nat}{b:Bool}(g:A 160 [x.p] (tyR (.er n) b)):A 233 [eA tl,aA (Pf.impI x a.p) (Fm.bin .imp x y) hs [[a.pf (hs++[x]) y]],s.p] (XR.er .z n).p:=by
 exact f1 [206] g
def py{a:Jt}{x y:Fm}{u:Ty}{b:XR}(g:A 160 [x.p] (tyR (.ok u) false))(c:A 151 [s.p] s.bare.p)(ga:nB tl (hs++[x]) a y s.bare b):A 233 [eA tl,aA (Pf.impI x a.p) (Fm.bin .imp x y) hs [[a.pf (hs++[x]) y]],s.p] b.p:=by
 exact f3 [206,224,225] g c ga
def ry{a:Jt}{x y:Fm}{u:Ty}{b:XR}(g:A 160 [x.p] (tyR (.ok u) true))(c:A 101 [s.p] s.bind.p)(d:A 152 [s.bind.p,(Tm.v 0).p] (s.bind.hyp (.v 0)).p)(ga:nB tl (hs++[x]) a y (s.bind.hyp (.v 0)) b)(e:b.cn<=4096):A 233 [eA tl,aA (Pf.impI x a.p) (Fm.bin .imp x y) hs [[a.pf (hs++[x]) y]],s.p] (b.lam u).p:=by
 exact f6 [206,237,238,239,240,246] g c (TA 0) d ga (DI u b e)
def ay{a b:Jt}{x y f:Fm}{ra:XR}(hy:y.has=false)(ga:nB tl hs a (.bin .imp x f) s ra):A 233 [eA tl,aA (Pf.p2 .impE a.p b.p) f hs [[a.pf hs (.bin .imp x f)],[b.pf hs y]],s.p] ra.p:=by
 exact f2 [259,269] hy ga
def cy{a b:Jt}{x y f:Fm}{ra rb:XR}(hy:y.has=true)(ga:nB tl hs a (.bin .imp x f) s ra)(c:nB tl hs b y s rb)(d:ra.cn<=4096)(e:rb.cn<=4096):A 233 [eA tl,aA (Pf.p2 .impE a.p b.p) f hs [[a.pf hs (.bin .imp x f)],[b.pf hs y]],s.p] (XR.two .app ra rb).p:=by
 cases ra with
 |er x n=>exact f2 [259,(276,.n [(13,.n [(15,.r (XR.er x n).p)])])] hy ga|ok t=>cases rb with
  |er x n=>exact f3 [259,(276,.n [(13,.n [(15,.r (XR.ok t).p)]),(22,.n [(15,.r (XR.er x n).p)])])] hy ga c|ok u=>
   have:t.cnt<=4096:=d;have:u.cnt<=4096:=e;have:=vA;exact f4 [259,(276,.n [(13,.n [(15,.r (XR.ok t).p)]),(22,.n [(15,.r (XR.ok u).p)]),(34,.r (XR.fit (.n2 .app t u)).p)])] hy ga c (AL .app t u)
def oy{u:Ty}{a:Jt}{y:Fm}{b:XR}(c:A 101 [s.p] s.bind.p)(gv:A 102 [s.bind.p,(Tm.v 0).p] (s.bind.var (.v 0)).p)(ga:nB tl (bA 1 hs) a y (s.bind.var (.v 0)) b)(d:b.cn<=4096):A 233 [eA tl,aA (Pf.all false u a.p) (Fm.q .all u y) hs [[a.pf (bA 1 hs) y]],s.p] (b.lam u).p:=by
 exact f5 [(282,.n [(36,.r s.bind.p),(37,.r (Tm.v 0).p),(38,.r (s.bind.var (.v 0)).p),(39,.r b.p),(49,.r (b.lam u).p)])] c (TA 0) gv ga (DI u b d)
def xy{u:Ty}{a:Jt}{y:Fm}{b:XR}(gv:A 102 [s.p,u.ini.p] (s.var u.ini).p)(ga:nB tl (bA 1 hs) a y (s.var u.ini) b):A 233 [eA tl,aA (Pf.all true u a.p) (Fm.q .allU u y) hs [[a.pf (bA 1 hs) y]],s.p] b.p:=by
 exact f3 [(282,.n [(105,.r u.ini.p),(106,.r (s.var u.ini).p),(107,.r b.p)])] (BL u) gv ga
def Ay{a:Jt}{w:Tm}{u:Ty}{x f:Fm}{b c:XR}(ga:nB tl hs a (.q .all u x) s b)(d:A 103 [s.p,w.p] c.p)(e:b.cn<=4096)(g:c.cn<=4096):A 233 [eA tl,aA (Pf.ins false w a.p) f hs [[a.pf hs (.q .all u x)]],s.p] (XR.two .app b c).p:=by
 cases b with
 |er x n=>exact f1 [(282,.n [(57,.n [(13,.n [(15,.r (XR.er x n).p)])])])] ga|ok t=>cases c with
  |er x n=>exact f2 [(282,.n [(57,.n [(13,.n [(15,.r (XR.ok t).p)]),(22,.n [(12,.r (XR.er x n).p)])])])] ga d|ok u=>
   have:t.cnt<=4096:=e;have:u.cnt<=4096:=g;have:=vA;exact f3 [(282,.n [(57,.n [(13,.n [(15,.r (XR.ok t).p)]),(22,.n [(12,.r (XR.ok u).p)]),(34,.r (XR.fit (.n2 .app t u)).p)])])] ga d (AL .app t u)
def By{a:Jt}{w:Tm}{u:Ty}{x f:Fm}{b:XR}(ga:nB tl hs a (.q .allU u x) s b):A 233 [eA tl,aA (Pf.ins true w a.p) f hs [[a.pf hs (.q .allU u x)]],s.p] b.p:=by
 exact f1 [(282,.n [(128,.r b.p)])] ga
def Cy{a:Jt}{w:Tm}{x y:Fm}{b:XR}(hy:y.has=false)(c:A 103 [s.p,w.p] b.p):A 233 [eA tl,aA (Pf.ex false x w a.p) x hs [[a.pf hs y]],s.p] b.p:=by
 exact f2 [(282,.n [(70,.H),(73,.n [(12,.r b.p)])])] hy c
def Dy{a:Jt}{w:Tm}{x y:Fm}{b c:XR}(hy:y.has=true)(ga:nB tl hs a y s b)(d:A 103 [s.p,w.p] c.p)(e:b.cn<=4096)(f:c.cn<=4096):A 233 [eA tl,aA (Pf.ex false x w a.p) x hs [[a.pf hs y]],s.p] (XR.two .pair c b).p:=by
 cases c with
 |er x n=>exact f2 [(282,.n [(70,.G),(79,.n [(13,.n [(12,.r (XR.er x n).p)])])])] hy d|ok t=>cases b with
  |er x n=>exact f3 [(282,.n [(70,.G),(79,.n [(13,.n [(12,.r (XR.ok t).p)]),(22,.n [(15,.r (XR.er x n).p)])])])] hy d ga|ok u=>
   have:t.cnt<=4096:=f;have:u.cnt<=4096:=e;have:=vA;exact f4 [(282,.n [(70,.G),(79,.n [(13,.n [(12,.r (XR.ok t).p)]),(22,.n [(15,.r (XR.ok u).p)]),(34,.r (XR.fit (.n2 .pair t u)).p)])])] hy d ga (AL .pair t u)
def Ey{a:Jt}{w:Tm}{x y:Fm}{b:XR}(ga:nB tl hs a y s b):A 233 [eA tl,aA (Pf.ex true x w a.p) x hs [[a.pf hs y]],s.p] b.p:=by
 exact f1 [(282,.n [(128,.r b.p)])] ga
def Fy{a b:Jt}{x y z f:Fm}{rb:XR}(c:nB tl hs b y s rb):A 233 [eA tl,aA (Pf.subst x a.p b.p) f hs [[a.pf hs z],[b.pf hs y]],s.p] rb.p:=by
 exact f1 [(282,.n [(128,.r rb.p)])] c
def Gy{a b:Jt}{u:Ty}{x y f:Fm}{n:Nat}{c:Bool}(g:A 160 [x.p] (tyR (.er n) c)):A 233 [eA tl,aA (Pf.p2 .exE a.p b.p) f hs [[a.pf hs (.q .ex u x)],[b.pf (bA 1 hs++[x]) y]],s.p] (XR.er .z n).p:=by
 exact f1 [(282,.n [(87,.n [(29,.r (tyR (.er n) c))])])] g
def Iy{a b:Jt}{u w:Ty}{x y f:Fm}{n:Nat}(g:A 160 [x.p] (tyR (.ok w) true))(c:A 101 [s.p] s.bind.p)(d:A 388 [u.p,w.p] (TR.er n).p):A 233 [eA tl,aA (Pf.p2 .exE a.p b.p) f hs [[a.pf hs (.q .ex u x)],[b.pf (bA 1 hs++[x]) y]],s.p] (XR.er .z n).p:=by
 exact f3 [(282,.n [(87,.n [(29,.r (tyR (.ok w) true)),(40,.r s.bind.p),(46,.r (TR.er n).p)])])] g c d
def Jy{a b:Jt}{u w:Ty}{x y f:Fm}{c rb:XR}(g:A 160 [x.p] (tyR (.ok w) true))(d:A 101 [s.p] s.bind.p)(e:A 388 [u.p,w.p] (TR.ok (.two false u w)).p)(gv:A 102 [s.bind.p,(Tm.n1 .fst (.v 0)).p] (s.bind.var (.n1 .fst (.v 0))).p)(h:A 152 [(s.bind.var (.n1 .fst (.v 0))).p,(Tm.n1 .snd (.v 0)).p] ((s.bind.var (.n1 .fst (.v 0))).hyp (.n1 .snd (.v 0))).p)(i:nB tl (bA 1 hs++[x]) b y ((s.bind.var (.n1 .fst (.v 0))).hyp (.n1 .snd (.v 0))) rb)(k:rb.cn<=4096)(ga:nB tl hs a (.q .ex u x) s c)(l:c.cn<=4096):A 233 [eA tl,aA (Pf.p2 .exE a.p b.p) f hs [[a.pf hs (.q .ex u x)],[b.pf (bA 1 hs++[x]) y]],s.p] (XR.two .app (rb.lam (.two false u w)) c).p:=by
 have gl:=DI (.two false u w) rb k;have j:=CL (.two false u w) rb;generalize rb.lam (.two false u w)=m at gl j⊢
 cases m with
 |er x n=>exact f9 [(282,.n [(87,.n [(29,.r (tyR (.ok w) true)),(40,.r s.bind.p),(46,.r (TR.ok (.two false u w)).p),(54,.r (Tm.v 0).p),(57,.r (s.bind.var (.n1 .fst (.v 0))).p),(58,.r (Tm.v 0).p),(61,.r ((s.bind.var (.n1 .fst (.v 0))).hyp (.n1 .snd (.v 0))).p),(75,.r rb.p),(82,.r (XR.er x n).p)])])] g d e (TA 0) gv (TA 0) h i gl|ok t=>cases c with
  |er x n=>exact mJ [(282,.n [(87,.n [(29,.r (tyR (.ok w) true)),(40,.r s.bind.p),(46,.r (TR.ok (.two false u w)).p),(54,.r (Tm.v 0).p),(57,.r (s.bind.var (.n1 .fst (.v 0))).p),(58,.r (Tm.v 0).p),(61,.r ((s.bind.var (.n1 .fst (.v 0))).hyp (.n1 .snd (.v 0))).p),(75,.r rb.p),(82,.r (XR.ok t).p),(87,.n [(22,.n [(13,.r (XR.er x n).p)])])])])] g d e (TA 0) gv (TA 0) h i gl ga|ok v=>
   have:t.cnt<=4096:=j;have:v.cnt<=4096:=l;have:=vA;exact uU [(282,.n [(87,.n [(29,.r (tyR (.ok w) true)),(40,.r s.bind.p),(46,.r (TR.ok (.two false u w)).p),(54,.r (Tm.v 0).p),(57,.r (s.bind.var (.n1 .fst (.v 0))).p),(58,.r (Tm.v 0).p),(61,.r ((s.bind.var (.n1 .fst (.v 0))).hyp (.n1 .snd (.v 0))).p),(75,.r rb.p),(82,.r (XR.ok t).p),(87,.n [(22,.n [(13,.r (XR.ok v).p)]),(34,.r (XR.fit (.n2 .app t v)).p)])])])] g d e (TA 0) gv (TA 0) h i gl ga (AL .app t v)
def Ky{a b:Jt}{u w:Ty}{x y f:Fm}{c rb:XR}(g:A 160 [x.p] (tyR (.ok w) false))(d:A 101 [s.p] s.bind.p)(gv:A 102 [s.bind.p,(Tm.v 0).p] (s.bind.var (.v 0)).p)(e:A 151 [(s.bind.var (.v 0)).p] (s.bind.var (.v 0)).bare.p)(h:nB tl (bA 1 hs++[x]) b y (s.bind.var (.v 0)).bare rb)(j:rb.cn<=4096)(ga:nB tl hs a (.q .ex u x) s c)(k:c.cn<=4096):A 233 [eA tl,aA (Pf.p2 .exE a.p b.p) f hs [[a.pf hs (.q .ex u x)],[b.pf (bA 1 hs++[x]) y]],s.p] (XR.two .app (rb.lam u) c).p:=by
 have gl:=DI u rb j;have i:=CL u rb;generalize rb.lam u=l at gl i⊢
 cases l with
 |er x n=>exact f7 [(282,.n [(87,.n [(29,.r (tyR (.ok w) false)),(40,.r s.bind.p),(63,.r (Tm.v 0).p),(64,.r (s.bind.var (.v 0)).p),(65,.r (s.bind.var (.v 0)).bare.p),(75,.r rb.p),(82,.r (XR.er x n).p)])])] g d (TA 0) gv e h gl|ok t=>cases c with
  |er x n=>exact f8 [(282,.n [(87,.n [(29,.r (tyR (.ok w) false)),(40,.r s.bind.p),(63,.r (Tm.v 0).p),(64,.r (s.bind.var (.v 0)).p),(65,.r (s.bind.var (.v 0)).bare.p),(75,.r rb.p),(82,.r (XR.ok t).p),(87,.n [(22,.n [(13,.r (XR.er x n).p)])])])])] g d (TA 0) gv e h gl ga|ok v=>
   have:t.cnt<=4096:=i;have:v.cnt<=4096:=k;have:=vA;exact f9 [(282,.n [(87,.n [(29,.r (tyR (.ok w) false)),(40,.r s.bind.p),(63,.r (Tm.v 0).p),(64,.r (s.bind.var (.v 0)).p),(65,.r (s.bind.var (.v 0)).bare.p),(75,.r rb.p),(82,.r (XR.ok t).p),(87,.n [(22,.n [(13,.r (XR.ok v).p)]),(34,.r (XR.fit (.n2 .app t v)).p)])])])] g d (TA 0) gv e h gl ga (AL .app t v)
def Ly{a b:Jt}{u:Ty}{x y f:Fm}{n:Nat}{c:Bool}(g:A 160 [x.p] (tyR (.er n) c)):A 233 [eA tl,aA (Pf.p2 .exUE a.p b.p) f hs [[a.pf hs (.q .exU u x)],[b.pf (bA 1 hs++[x]) y]],s.p] (XR.er .z n).p:=by
 exact f1 [(282,.n [(146,.r (tyR (.er n) c))])] g
def My{a b:Jt}{u w:Ty}{x y f:Fm}{rb:XR}(g:A 160 [x.p] (tyR (.ok w) false))(gv:A 102 [s.p,u.ini.p] (s.var u.ini).p)(c:A 151 [(s.var u.ini).p] (s.var u.ini).bare.p)(d:nB tl (bA 1 hs++[x]) b y (s.var u.ini).bare rb):A 233 [eA tl,aA (Pf.p2 .exUE a.p b.p) f hs [[a.pf hs (.q .exU u x)],[b.pf (bA 1 hs++[x]) y]],s.p] rb.p:=by
 exact f5 [(282,.n [(146,.r (tyR (.ok w) false)),(174,.r u.ini.p),(175,.r (s.var u.ini).p),(176,.r (s.var u.ini).bare.p),(177,.r rb.p)])] g (BL u) gv c d
def Ny{a b:Jt}{u w:Ty}{x y f:Fm}{c rb:XR}(g:A 160 [x.p] (tyR (.ok w) true))(d:A 101 [s.p] s.bind.p)(gv:A 102 [s.bind.p,u.ini.p] (s.bind.var u.ini).p)(e:A 152 [(s.bind.var u.ini).p,(Tm.v 0).p] ((s.bind.var u.ini).hyp (.v 0)).p)(h:nB tl (bA 1 hs++[x]) b y ((s.bind.var u.ini).hyp (.v 0)) rb)(j:rb.cn<=4096)(ga:nB tl hs a (.q .exU u x) s c)(k:c.cn<=4096):A 233 [eA tl,aA (Pf.p2 .exUE a.p b.p) f hs [[a.pf hs (.q .exU u x)],[b.pf (bA 1 hs++[x]) y]],s.p] (XR.two .app (rb.lam w) c).p:=by
 have gl:=DI w rb j;have i:=CL w rb;generalize rb.lam w=l at gl i⊢
 cases l with
 |er x n=>exact f8 [(282,.n [(146,.r (tyR (.ok w) true)),(189,.r s.bind.p),(200,.r u.ini.p),(201,.r (s.bind.var u.ini).p),(202,.r (Tm.v 0).p),(203,.r ((s.bind.var u.ini).hyp (.v 0)).p),(204,.r rb.p),(211,.r (XR.er x n).p)])] g d (BL u) gv (TA 0) e h gl|ok t=>cases c with
  |er x n=>exact f9 [(282,.n [(146,.r (tyR (.ok w) true)),(189,.r s.bind.p),(200,.r u.ini.p),(201,.r (s.bind.var u.ini).p),(202,.r (Tm.v 0).p),(203,.r ((s.bind.var u.ini).hyp (.v 0)).p),(204,.r rb.p),(211,.r (XR.ok t).p),(217,.n [(22,.n [(15,.r (XR.er x n).p)])])])] g d (BL u) gv (TA 0) e h gl ga|ok v=>
   have:t.cnt<=4096:=i;have:v.cnt<=4096:=k;have:=vA;exact mJ [(282,.n [(146,.r (tyR (.ok w) true)),(189,.r s.bind.p),(200,.r u.ini.p),(201,.r (s.bind.var u.ini).p),(202,.r (Tm.v 0).p),(203,.r ((s.bind.var u.ini).hyp (.v 0)).p),(204,.r rb.p),(211,.r (XR.ok t).p),(217,.n [(22,.n [(15,.r (XR.ok v).p)]),(34,.r (XR.fit (.n2 .app t v)).p)])])] g d (BL u) gv (TA 0) e h gl ga (AL .app t v)
def Oy{l:Bool}{a b:Jt}{x f:Fm}{w:Tm}{q:Sx}{n:Nat}{pts:List (List PV)}(c:A 103 [s.p,w.p] (XR.er q n).p):A 233 [eA tl,aA (Pf.ind l x w a.p b.p) f hs pts,s.p] (XR.er .z n).p:=by
 cases l<;>exact f1 [(282,.n [(225,.n [(12,.r (XR.er q n).p)])])] c
def Py{l:Bool}{a b:Jt}{x f:Fm}{w t:Tm}{r:XR}{pts:List (List PV)}(c:A 103 [s.p,w.p] (XR.ok t).p)(g:A 235 [eA tl,aA (Pf.ind l x w a.p b.p) f hs pts,s.p,t.p] r.p):A 233 [eA tl,aA (Pf.ind l x w a.p b.p) f hs pts,s.p] r.p:=by
 cases l<;>exact f2 [(282,.n [(225,.n [(12,.r (XR.ok t).p)]),(236,.r r.p)])] c g
def Qy{l:Bool}{a b:Jt}{x f:Fm}{w t:Tm}{n:Nat}{c:Bool}{pts:List (List PV)}(g:A 160 [x.p] (tyR (.er n) c)):A 235 [eA tl,aA (Pf.ind l x w a.p b.p) f hs pts,s.p,t.p] (XR.er .z n).p:=by
 cases l<;>exact f1 [27] g
def Ry{l:Bool}{a b:Jt}{x y f:Fm}{w t:Tm}{u:Ty}{c:Bool}{q:Sx}{n:Nat}{z:PV}(g:A 160 [x.p] (tyR (.ok u) c))(ga:nB tl hs a y s (.er q n)):A 235 [eA tl,aA (Pf.ind l x w a.p b.p) f hs [[a.pf hs y],[z]],s.p,t.p] (XR.er .z n).p:=by
 cases l<;>exact f2 [27,44] g ga
def Uy{a b:Jt}{x y z f:Fm}{w t v:Tm}{u:Ty}{c:Bool}{rb:XR}(r:t.cnt<=4096)(g:A 160 [x.p] (tyR (.ok u) c))(ga:nB tl hs a y s (.ok v))(B:v.cnt<=4096)(i:A 101 [s.p] s.bind.p)(gv:A 102 [s.bind.p,(Tm.v 0).p] (s.bind.var (.v 0)).p)(e:A 101 [(s.bind.var (.v 0)).p] (s.bind.var (.v 0)).bind.p)(j:A 152 [(s.bind.var (.v 0)).bind.p,(Tm.v 0).p] ((s.bind.var (.v 0)).bind.hyp (.v 0)).p)(l:nB tl (bA 1 hs++[x]) b z ((s.bind.var (.v 0)).bind.hyp (.v 0)) rb)(o:rb.cn<=4096):A 235 [eA tl,aA (Pf.ind false x w a.p b.p) f hs [[a.pf hs y],[b.pf (bA 1 hs++[x]) z]],s.p,t.p] (match (rb.lam u).lam .nat with|.er _ n=>XR.er .z n|.ok k=>XR.fit (.n3 .re u v k t)).p:=by
 have h:=DI u rb o;have d:=DI .nat (rb.lam u) (CL _ _);have m:=CL .nat (rb.lam u);generalize (rb.lam u).lam .nat=p at d m⊢
 cases p with
 |er q n=>exact bU [27,44,51,55,56,57,81,82,83,84,101,101] g ga AP i (TA 0) gv e (TA 0) j l h d|ok k=>
  have:k.cnt<=4096:=m;have:=vA;exact dU [27,44,51,55,56,57,81,82,83,84,101,101,114] g ga AP i (TA 0) gv e (TA 0) j l h d (Aj .re u v k t)
def Vy{a b:Jt}{x y z f:Fm}{w t v:Tm}{u:Ty}{c:Bool}{rb:XR}(D:t.cnt<=4096)(g:A 160 [x.p] (tyR (.ok u) c))(ga:nB tl hs a y s (.ok v))(E:v.cnt<=4096)(m:A 101 [s.p] s.bind.p)(gv:A 102 [s.bind.p,(Tm.v 0).p] (s.bind.var (.v 0)).p)(e:A 101 [(s.bind.var (.v 0)).p] (s.bind.var (.v 0)).bind.p)(h:A 102 [(s.bind.var (.v 0)).bind.p,(Tm.v 0).p] ((s.bind.var (.v 0)).bind.var (.v 0)).p)(i:A 101 [((s.bind.var (.v 0)).bind.var (.v 0)).p] ((s.bind.var (.v 0)).bind.var (.v 0)).bind.p)(o:A 152 [((s.bind.var (.v 0)).bind.var (.v 0)).bind.p,(Tm.v 0).p] (((s.bind.var (.v 0)).bind.var (.v 0)).bind.hyp (.v 0)).p)(p:nB tl (bA 2 hs++[x.sh 1 (.ofNat 1)]) b z (((s.bind.var (.v 0)).bind.var (.v 0)).bind.hyp (.v 0)) rb)(B:rb.cn<=4096):A 235 [eA tl,aA (Pf.ind true x w a.p b.p) f hs [[a.pf hs y],[b.pf (bA 2 hs++[x.sh 1 (.ofNat 1)]) z]],s.p,t.p] (match ((rb.lam u).lam .list).lam .nat with|.er _ n=>XR.er .z n|.ok k=>XR.fit (.n3 .fo u v k t)).p:=by
 have j:=DI u rb B;have l:=DI .list (rb.lam u) (CL _ _);have d:=DI .nat ((rb.lam u).lam .list) (CL _ _);have r:=CL .nat ((rb.lam u).lam .list);generalize ((rb.lam u).lam .list).lam .nat=C at d r⊢
 cases C with
 |er q n=>exact qu [27,44,51,55,56,57,64,65,69,70,71,81,82,83,84,101,101,101] g ga AP m (TA 0) gv AP Dj e (TA 0) h i (TA 0) o p j l d|ok k=>
  have:k.cnt<=4096:=r;have:=vA;exact zu [27,44,51,55,56,57,64,65,69,70,71,81,82,83,84,101,101,101,114] g ga AP m (TA 0) gv AP Dj e (TA 0) h i (TA 0) o p j l d (Aj .fo u v k t)
def Wy{a:Jt}{u w:Ty}{x f:Fm}{q:Sx}{n:Nat}(ga:nB tl hs a (.q .all u (.q .ex w x)) s (.er q n)):A 233 [eA tl,aA (Pf.p1 .choice a.p) f hs [[a.pf hs (.q .all u (.q .ex w x))]],s.p] (XR.er .z n).p:=by
 exact f1 [(282,.n [(242,.n [(26,.r (XR.er q n).p)])])] ga
def Xy{a:Jt}{u w:Ty}{x f:Fm}{t:Tm}{n:Nat}{c:Bool}(ga:nB tl hs a (.q .all u (.q .ex w x)) s (.ok t))(g:A 160 [x.p] (tyR (.er n) c)):A 233 [eA tl,aA (Pf.p1 .choice a.p) f hs [[a.pf hs (.q .all u (.q .ex w x))]],s.p] (XR.er t.x n).p:=by
 exact f2 [(282,.n [(242,.n [(26,.r (XR.ok t).p),(50,.r (tyR (.er n) c))])])] ga g
def Yy{a:Jt}{u w:Ty}{x f:Fm}{t:Tm}{v:Ty}(ga:nB tl hs a (.q .all u (.q .ex w x)) s (.ok t))(g:A 160 [x.p] (tyR (.ok v) false)):A 233 [eA tl,aA (Pf.p1 .choice a.p) f hs [[a.pf hs (.q .all u (.q .ex w x))]],s.p] (XR.ok t).p:=by
 exact f2 [(282,.n [(242,.n [(26,.r (XR.ok t).p),(50,.r (tyR (.ok v) false))])])] ga g
def Zy{a:Jt}{u w:Ty}{x f:Fm}{t:Tm}{v:Ty}{n:Nat}(ga:nB tl hs a (.q .all u (.q .ex w x)) s (.ok t))(g:A 160 [x.p] (tyR (.ok v) true))(b:A 388 [w.p,v.p] (TR.er n).p):A 233 [eA tl,aA (Pf.p1 .choice a.p) f hs [[a.pf hs (.q .all u (.q .ex w x))]],s.p] (XR.er .z n).p:=by
 exact f3 [(282,.n [(242,.n [(26,.r (XR.ok t).p),(50,.r (tyR (.ok v) true)),(69,.r (TR.er n).p)])])] ga g b
def jz{a:Jt}{u w:Ty}{x f:Fm}{t:Tm}{v k:Ty}{n:Nat}(ga:nB tl hs a (.q .all u (.q .ex w x)) s (.ok t))(g:A 160 [x.p] (tyR (.ok v) true))(b:A 388 [w.p,v.p] (TR.ok k).p)(c:A 391 [u.p,k.p] (TR.er n).p):A 233 [eA tl,aA (Pf.p1 .choice a.p) f hs [[a.pf hs (.q .all u (.q .ex w x))]],s.p] (XR.er .z n).p:=by
 exact f4 [(282,.n [(242,.n [(26,.r (XR.ok t).p),(50,.r (tyR (.ok v) true)),(69,.r (TR.ok k).p),(80,.r (TR.er n).p)])])] ga g b c
abbrev WG(u:Ty):Tm:=.n2 .pair (.lam u (.n1 .fst (.n2 .app (.v 1) (.v 0)))) (.lam u (.n1 .snd (.n2 .app (.v 1) (.v 0))))
def vz{a:Jt}{u w:Ty}{x f:Fm}{t:Tm}{v k m:Ty}(ga:nB tl hs a (.q .all u (.q .ex w x)) s (.ok t))(b:t.cnt<=4096)(g:A 160 [x.p] (tyR (.ok v) true))(b:A 388 [w.p,v.p] (TR.ok k).p)(c:A 391 [u.p,k.p] (TR.ok m).p):A 233 [eA tl,aA (Pf.p1 .choice a.p) f hs [[a.pf hs (.q .all u (.q .ex w x))]],s.p] (XR.fit (.n2 .app (.lam m (WG u)) t)).p:=by
 exact f9 [(282,.n [(242,.n [(26,.r (XR.ok t).p),(50,.r (tyR (.ok v) true)),(69,.r (TR.ok k).p),(80,.r (TR.ok m).p),(89,.n [(5,.r (Tm.v 1).p),(6,.r (Tm.v 0).p)]),(91,.n [(5,.r (Tm.v 1).p),(6,.r (Tm.v 0).p)]),(101,.r (XR.fit (.n2 .app (.lam m (WG u)) t)).p)])])] ga g b c (TA 1) (TA 0) (TA 1) (TA 0) (AL .app (.lam m (WG u)) t (by grind[Tm.cnt]))
end Go.Proofs.YtjobiknipefjdaaGreatDoor
namespace Go.Proofs.YtjobiknipefjdaaGreatDoor
open Go.Lg
set_option maxRecDepth 100000
def Fm.both:Fm->Bool|.bin _ x y=>x.has&&y.has|_=>false
def FI(f:Fm)(t:Tm):Tm:=match f with|.q _ u (.q _ w x)=>bif x.has then .n2 .app (.lam (.two true u (.two false w x.cty)) (WG u)) t else t|_=>t
def Fm.qs:Fm->Ty|.q _ s _=>s|_=>.unit
def Sc.hy(s:Sc)(i:Nat):Tm:=match s.ks[s.ks.length-1-i]? with|some (.hy t d _)=>t.sh 0 (.ofNat (s.dep-d))|_=>.n0 .unit
def Jt.xt(tl:List Tm):Jt->Sc->Tm
 |.leaf u i _,s=>match u with
  |false=>s.hy i|true=>match tl[i]? with|some t=>t|none=>.n0 .unit
 |.refl _,_=>.n0 .unit|.p1 k a _,s=>match k with|.andL=>bif a.f.both then .n1 .fst (a.xt tl s)else a.xt tl s|.andR=>bif a.f.both then .n1 .snd (a.xt tl s)else a.xt tl s|.choice=>FI a.f (a.xt tl s)
 |.p2 k a b _,s=>match k with|.andI=>bif a.f.has then(bif b.f.has then .n2 .pair (a.xt tl s) (b.xt tl s)else a.xt tl s)else b.xt tl s|.impE=>bif b.f.has then .n2 .app (a.xt tl s) (b.xt tl s)else a.xt tl s|.exE=>bif a.f.bd.has then .n2 .app (.lam (.two false a.f.qs a.f.bd.cty) (b.xt tl ((s.bind.var (.n1 .fst (.v 0))).hyp (.n1 .snd (.v 0))))) (a.xt tl s)else .n2 .app (.lam a.f.qs (b.xt tl (s.bind.var (.v 0)).bare)) (a.xt tl s)|.exUE=>bif a.f.bd.has then .n2 .app (.lam a.f.bd.cty (b.xt tl ((s.bind.var a.f.qs.ini).hyp (.v 0)))) (a.xt tl s)else b.xt tl (s.var a.f.qs.ini).bare
 |.impI x a,s=>bif x.has then .lam x.cty (a.xt tl (s.bind.hyp (.v 0)))else a.xt tl s.bare|.all u t a,s=>match u with|false=>.lam t (a.xt tl (s.bind.var (.v 0)))|true=>a.xt tl (s.var t.ini)
 |.ins u t a _,s=>match u with|false=>.n2 .app (a.xt tl s) (t.ps s.vs s.dep 0)|true=>a.xt tl s
 |.ex u _ t a,s=>match u with|false=>bif a.f.has then .n2 .pair (t.ps s.vs s.dep 0) (a.xt tl s)else t.ps s.vs s.dep 0|true=>a.xt tl s
 |.ind l x t a b _,s=>match l with|false=>.n3 .re x.cty (a.xt tl s) (.lam .nat (.lam x.cty (b.xt tl ((s.bind.var (.v 0)).bind.hyp (.v 0))))) (t.ps s.vs s.dep 0)|true=>.n3 .fo x.cty (a.xt tl s) (.lam .nat (.lam .list (.lam x.cty (b.xt tl (((s.bind.var (.v 0)).bind.var (.v 0)).bind.hyp (.v 0)))))) (t.ps s.vs s.dep 0)
 |.subst _ _ b _,s=>b.xt tl s
def YC(tl:List Tm)(l:Bool)(x:Fm)(a b:Jt)(s:Sc)(n:Tm):Tm:=match l with|false=>.n3 .re x.cty (a.xt tl s) (.lam .nat (.lam x.cty (b.xt tl ((s.bind.var (.v 0)).bind.hyp (.v 0))))) n|true=>.n3 .fo x.cty (a.xt tl s) (.lam .nat (.lam .list (.lam x.cty (b.xt tl (((s.bind.var (.v 0)).bind.var (.v 0)).bind.hyp (.v 0)))))) n
abbrev BT(tl:List Tm)(hs:List Fm)(j:Jt)(s:Sc):Prop:=∃r:XR,A 233 [eA tl,j.ptr hs,s.p] r.p/\r.Gd s.dep (j.xt tl s)
def Na{n:Nat}{b:List Bool}{s:Sc}{t:Tm}(a:ScOK n b s)(b:TK n t):(XR.fit (t.ps s.vs s.dep 0)).Gd s.dep (t.ps s.vs s.dep 0):=by
 have c:t.sc (s.vs.length+0):=by rw[a.vl];exact b.sc
 exact PJ (EH a.ve t 0 b.shp) (FH a.ve t 0 c) rfl
def CN{a b:Tm}{c:Bool}(h:c=true):(bif c then a else b)=a:=by rw[h];rfl
def BP{a b:Tm}{c:Bool}(h:c=false):(bif c then a else b)=b:=by rw[h];rfl
def Tm.c_len(t:Tm):t.c.length=5:=rfl
def GV(f:Fm):1<=f.cnt:=by cases f<;>simp[Fm.cnt]<;>omega
def Fj{tl:List Tm}{l:Bool}{x:Fm}{t T:Tm}{a b:Jt}{f:Fm}{n:Nat}{hs:List Fm}{s:Sc}(J:FK (n+1) x)(h:x.has=true)(z:ScOK n (hs.map Fm.has) s)(e:TK s.dep T)(P:n+1<=90000)(Q:hs.length+2<=qA)(R:s.dep+4<=90000)(S:s.hyps+2<=qA)
  (K:BT tl hs a s) (G:match l with|false=>BT tl (bA 1 hs++[x]) b ((s.bind.var (.v 0)).bind.hyp (.v 0))|true=>BT tl (bA 2 hs++[x.sh 1 (.ofNat 1)]) b (((s.bind.var (.v 0)).bind.var (.v 0)).bind.hyp (.v 0))):
  ∃r:XR,A 235 [eA tl,(Jt.ind l x t a b f).ptr hs,s.p,T.p] r.p/\r.Gd s.dep (YC tl l x a b s T):=by
 have V:=vA;have L:iA=100000:=rfl;have M:s.ks.length=hs.length:=by have:=z.kl;simpa using this
 obtain⟨U,w,N,O,zt⟩:=GH J;obtain⟨r,B,d⟩:=K
 cases U with
 |er m=>exact⟨.er .z m,by cases l<;>exact Qy w,O _ rfl⟩|ok u=>
  have y:u.size<=64:=N
  cases r with
  |er q m=>exact⟨.er .z m,by cases l<;>exact Ry w B,d⟩|ok v=>
   have H:=z.bind.var (t:=.v 0) (yC (by show 0<s.dep+1;omega));have I:=iL s;have gv:=NJ s.bind (.v 0) (by rw[z.bind.vl];omega);have i:=iL (s.bind.var (.v 0)) (by show s.dep+1<=qA;omega);cases l
   ·have C:=xP (s.bind.var (.v 0)).bind (.v 0) (by show s.ks.length<=qA;omega) (by show s.hyps<=qA;omega);obtain⟨j,D,o⟩:=G;have g:=Uy (tl:=tl) (hs:=hs) (s:=s) (a:=a) (b:=b) (x:=x) (y:=a.f) (z:=b.f) (f:=f) (w:=t) e.cnt w B d.1.cnt I gv i C D o.cn;have c:((j.lam u).lam .nat).Gd s.dep _:=EI (by decide) (EI y o);refine⟨_,g,?_⟩
    cases p:(j.lam u).lam .nat with
    |er q m=>rw[p]at c;exact c|ok k=>
     rw[p]at c;refine PJ ?_ ⟨d.1.sc,c.1.sc,e.sc⟩ (by rw[d.2,c.2,zt u rfl h];rfl);show(Nat.beq u.chk 0&&(_&&(_&&_)))=true;rw[xN y,d.1.shp,c.1.shp,e.shp];rfl
   have W:=H.bind.var (t:=.v 0) (yC (by show 0<s.dep+1+1;omega));have E:=NJ (s.bind.var (.v 0)).bind (.v 0) (by rw[H.bind.vl];omega);have F:=iL ((s.bind.var (.v 0)).bind.var (.v 0)) (by show s.dep+1+1<=qA;omega);have C:=xP ((s.bind.var (.v 0)).bind.var (.v 0)).bind (.v 0) (by show s.ks.length<=qA;omega) (by show s.hyps<=qA;omega);obtain⟨j,D,o⟩:=G;have g:=Vy (tl:=tl) (hs:=hs) (s:=s) (a:=a) (b:=b) (x:=x) (y:=a.f) (z:=b.f) (f:=f) (w:=t) e.cnt w B d.1.cnt I gv i E F C D o.cn;have c:(((j.lam u).lam .list).lam .nat).Gd s.dep _:=EI (by decide) (EI (by decide) (EI y o));refine⟨_,g,?_⟩
   cases p:((j.lam u).lam .list).lam .nat with
   |er q m=>rw[p]at c;exact c|ok k=>
    rw[p]at c;refine PJ ?_ ⟨d.1.sc,c.1.sc,e.sc⟩ (by rw[d.2,c.2,zt u rfl h];rfl);show(Nat.beq u.chk 0&&(_&&(_&&_)))=true;rw[xN y,d.1.shp,c.1.shp,e.shp];rfl
def uC{ls:List Fm}{tl:List Tm}(H:∀(i:Nat)(f:Fm),ls[i]? =some f->∃t,tl[i]? =some t/\TK 0 t):∀(j:Jt)(n:Nat)(hs:List Fm)(s:Sc),j.OK ls n hs->j.f.has=true->ScOK n (hs.map Fm.has) s->n+j.p.cnt<=90000->hs.length+j.p.cnt<=qA->s.dep+j.p.cnt<=90000->s.hyps+j.p.cnt<=qA->BT tl hs j s
 |.leaf u i f,n,hs,s,h,C,o,L,M,N,O=>by
  have hm:=vA;have hb:=uA;have S:iA=100000:=rfl;simp only[Jt.p,Pf.cnt]at L M N O;obtain⟨X,h⟩:=h;replace C:f.has=true:=C;cases u
  ·obtain⟨K,I⟩:=h;have hk:(hs.map Fm.has)[hs.length-1-i]? =some true:=by rw[List.getElem?_map,I];simp_all
   obtain⟨t,d,p,e⟩:=o.kh _ hk;obtain⟨z,U⟩:=o.ke _ (List.mem_of_getElem? e) t d p rfl;have E:=rD (a:=(hs.map Fm.c).length) (by simp;omega) (by simp;omega);have F:xA (Int.ofNat ((hs.map Fm.c).length-1)-.ofNat i)=true/\Int.ofNat ((hs.map Fm.c).length-1)-.ofNat i=.ofNat (hs.length-1-i):=by
    have e:Int.ofNat ((hs.map Fm.c).length-1)-.ofNat i=.ofNat (hs.length-1-i):=by simp;omega
    grind[AA]
   have G:=zy s _ t d p e z (by omega) U;have J:=U.sh (s.dep-d);have ed:d+(s.dep-d)=s.dep:=by omega
   rw[ed]at J;have ex:s.hy i=t.sh 0 (.ofNat (s.dep-d)):=by
    unfold Sc.hy;rw[show s.ks.length=hs.length by have:=o.kl;simp_all,e]
   refine⟨.ok (t.sh 0 (.ofNat (s.dep-d))),f3 [38,44,45] E F G,J,ex.symm⟩
  obtain⟨t,e,q⟩:=H i f h;exact⟨.ok t,f1 [(58,.i t.c)] (kB e Tm.c_len),Yx q (Nat.zero_le _),by show t=(match tl[i]? with|some t=>t|none=>.n0 .unit);rw[e]⟩
 |.refl t,n,hs,s,h,C,o,L,M,N,O=>by
  have C:false=true:=C;cases C
 |.p1 k a f,n,hs,s,⟨X,K,I⟩,C,o,L,M,N,O=>by
  have hm:=vA;have S:iA=100000:=rfl;simp only[Jt.p,Pf.cnt]at L M N O;replace C:f.has=true:=C;have P:=Jt.FKj K;cases k
  ·obtain⟨y,e⟩:=I;have D:a.f.has=true:=by rw[e];show(f.has||y.has)=true;rw[C];rfl
   obtain⟨r,E,z⟩:=uC H a n hs s K D o (by omega) (by omega) (by omega) (by omega);rw[e]at P;obtain⟨t0,F,_⟩:=GH P.bin1;obtain⟨t1,G,_⟩:=GH P.bin2;rw[C]at F;cases hy:y.has<;>rw[hy]at G
   ·have g:=fy (tl:=tl) (hs:=hs) (s:=s) (a:=a) (f:=f) (y:=y) (ra:=r) (by rw[<-e];exact E) F G z.cn;rw[<-e]at g;have ex:(Jt.p1 .andL a f).xt tl s=a.xt tl s:=BP (by rw[e];show(f.has&&y.has)=false;rw[C,hy];rfl);rw[BT,ex];exact⟨_,g,z⟩
   have g:=dy (tl:=tl) (hs:=hs) (s:=s) (a:=a) (f:=f) (y:=y) (ra:=r) (by rw[<-e];exact E) F G z.cn;rw[<-e]at g;have ex:(Jt.p1 .andL a f).xt tl s=.n1 .fst (a.xt tl s):=CN (by rw[e];show(f.has&&y.has)=true;rw[C,hy];rfl);rw[BT,ex];exact⟨_,g,Ej z⟩
  ·obtain⟨y,e⟩:=I;have D:a.f.has=true:=by rw[e];show(y.has||f.has)=true;rw[C];cases y.has<;>rfl
   obtain⟨r,E,z⟩:=uC H a n hs s K D o (by omega) (by omega) (by omega) (by omega);rw[e]at P;obtain⟨t0,F,_⟩:=GH P.bin1;obtain⟨t1,G,_⟩:=GH P.bin2;rw[C]at G;cases hy:y.has<;>rw[hy]at F
   ·have g:=ly (tl:=tl) (hs:=hs) (s:=s) (a:=a) (f:=f) (y:=y) (ra:=r) (by rw[<-e];exact E) F G z.cn;rw[<-e]at g;have ex:(Jt.p1 .andR a f).xt tl s=a.xt tl s:=BP (by rw[e];show(y.has&&f.has)=false;rw[C,hy];rfl);rw[BT,ex];exact⟨_,g,z⟩
   have g:=gy (tl:=tl) (hs:=hs) (s:=s) (a:=a) (f:=f) (y:=y) (ra:=r) (by rw[<-e];exact E) F G z.cn;rw[<-e]at g;have ex:(Jt.p1 .andR a f).xt tl s=.n1 .snd (a.xt tl s):=CN (by rw[e];show(y.has&&f.has)=true;rw[C,hy];rfl);rw[BT,ex];exact⟨_,g,Ej z⟩
  obtain⟨u,w,x,e,y,e1,e2⟩:=I;have D:a.f.has=true:=by rw[e];rfl
  obtain⟨r,E,z⟩:=uC H a n hs s K D o (by omega) (by omega) (by omega) (by omega);rw[e]at P;have sw:=kD (EA P.qf.shp).1;have su:=kD (EA P.shp).1;obtain⟨T,F,z2,Y,zt⟩:=GH P.qf.qf;have ex:(Jt.p1 .choice a f).xt tl s=bif x.has then .n2 .app (.lam (.two true u (.two false w x.cty)) (WG u)) (a.xt tl s)else a.xt tl s:=by show FI a.f _=_;rw[e];rfl
  rw[BT,ex]
  cases r with
  |er q m=>
   have g:=Wy (tl:=tl) (hs:=hs) (s:=s) (a:=a) (f:=f) (u:=u) (w:=w) (x:=x) (q:=q) (n:=m) (by rw[<-e];exact E);rw[<-e]at g;exact⟨_,g,by first|exact Y _ rfl|exact AN ‹_›|exact z⟩
  |ok t=>
   have U:=z
   cases T with
   |er m=>
    have g:=Xy (tl:=tl) (hs:=hs) (s:=s) (a:=a) (f:=f) (u:=u) (w:=w) (x:=x) (t:=t) (by rw[<-e];exact E) F;rw[<-e]at g;exact⟨_,g,by first|exact Y _ rfl|exact AN ‹_›|exact z⟩
   |ok v=>
    cases Z:x.has<;>rw[Z]at F
    ·have g:=Yy (tl:=tl) (hs:=hs) (s:=s) (a:=a) (f:=f) (u:=u) (w:=w) (x:=x) (t:=t) (by rw[<-e];exact E) F;rw[<-e]at g;exact⟨_,g,U⟩
    have hv:v.size<=64:=z2;have hvc:=zt v rfl Z;have G:=Cj w v
    cases V:TR.fit (.two false w v)with
    |er m=>
     rw[V]at G;have g:=Zy (tl:=tl) (hs:=hs) (s:=s) (a:=a) (f:=f) (u:=u) (w:=w) (x:=x) (t:=t) (by rw[<-e];exact E) F G;rw[<-e]at g;exact⟨_,g,by first|exact Y _ rfl|exact AN ‹_›|exact z⟩
    |ok k=>
     rw[V]at G;have hk:k.size<=64/\k=.two false w v:=by
      unfold TR.fit at V;split at V
      ·rename_i h;cases V;exact⟨h,rfl⟩
      cases V
     have g4:=jy u k (by have:=hk.1;omega)
     cases e4:TR.fit (.two true u k)with
     |er m=>
      rw[e4]at g4;have g:=jz (tl:=tl) (hs:=hs) (s:=s) (a:=a) (f:=f) (u:=u) (w:=w) (x:=x) (t:=t) (by rw[<-e];exact E) F G g4;rw[<-e]at g;exact⟨_,g,by first|exact Y _ rfl|exact AN ‹_›|exact z⟩
     |ok m=>
      rw[e4]at g4;have hm':m.size<=64/\m=.two true u k:=by
       unfold TR.fit at e4;split at e4
       ·rename_i h;cases e4;exact⟨h,rfl⟩
       cases e4
      have g:=vz (tl:=tl) (hs:=hs) (s:=s) (a:=a) (f:=f) (u:=u) (w:=w) (x:=x) (t:=t) (by rw[<-e];exact E) z.1.cnt F G g4;rw[<-e]at g;refine⟨_,g,PJ ?_ ?_ ?_⟩
      ·show(Nat.beq m.chk 0&&((Nat.beq u.chk 0&&_)&&(Nat.beq u.chk 0&&_))&&_)=true;rw[xN hm'.1,xN su,U.1.shp];rfl
      ·refine⟨⟨⟨?_,?_⟩,?_,?_⟩,U.1.sc⟩<;>simp only[Tm.sc]<;>omega
      rw[hm'.2,hk.2,hvc,U.2];rfl
 |.p2 k a b f,n,hs,s,⟨X,K,I⟩,C,o,L,M,N,O=>by
  have hm:=vA;have S:iA=100000:=rfl;simp only[Jt.p,Pf.cnt]at L M N O;have ca:=BR a.p;have cb:=BR b.p;replace C:f.has=true:=C;have hkl:s.ks.length=hs.length:=by have:=o.kl;simpa using this
  have P:=Jt.FKj K;cases k
  ·obtain⟨R,e⟩:=I;subst e;have hor:a.f.has=true\/b.f.has=true:=by have:(a.f.has||b.f.has)=true:=C;simpa using this
   cases D:a.f.has
   ·have A:b.f.has=true:=by rcases hor with h|h;rw[D]at h;cases h;exact h
    obtain⟨r,E,z⟩:=uC H b n hs s R A o (by omega) (by omega) (by omega) (by omega);exact⟨_,uy D E,by show r.Gd s.dep (bif a.f.has then _ else _);rw[BP D];exact z⟩
   obtain⟨r,E,z⟩:=uC H a n hs s K D o (by omega) (by omega) (by omega) (by omega);cases A:b.f.has
   ·exact⟨_,yy D A E,by show r.Gd s.dep (bif a.f.has then(bif b.f.has then _ else _)else _);rw[CN D,BP A];exact z⟩
   obtain⟨r2,F,U⟩:=uC H b n hs s R A o (by omega) (by omega) (by omega) (by omega);exact⟨_,wy D A E F z.cn U.cn,by show XR.Gd s.dep (bif a.f.has then(bif b.f.has then _ else _)else _) _;rw[CN D,CN A];exact BN z U⟩
  ·obtain⟨R,x,e⟩:=I;have D:a.f.has=true:=by rw[e];exact C
   obtain⟨r,E,z⟩:=uC H a n hs s K D o (by omega) (by omega) (by omega) (by omega);cases A:b.f.has
   ·have g:=ay (tl:=tl) (hs:=hs) (s:=s) (a:=a) (b:=b) (x:=x) (y:=b.f) (f:=f) (ra:=r) A (by rw[<-e];exact E);rw[<-e]at g;exact⟨_,g,by show r.Gd s.dep (bif b.f.has then _ else _);rw[BP A];exact z⟩
   obtain⟨r2,F,U⟩:=uC H b n hs s R A o (by omega) (by omega) (by omega) (by omega);have g:=cy (tl:=tl) (hs:=hs) (s:=s) (a:=a) (b:=b) (x:=x) (y:=b.f) (f:=f) (ra:=r) (rb:=r2) A (by rw[<-e];exact E) F z.cn U.cn;rw[<-e]at g;exact⟨_,g,by show XR.Gd s.dep (bif b.f.has then _ else _) _;rw[CN A];exact BN z U⟩
  ·obtain⟨R,⟨u,e⟩,e1⟩:=I;have ex:(Jt.p2 .exE a b f).xt tl s=bif a.f.bd.has then .n2 .app (.lam (.two false a.f.qs a.f.bd.cty) (b.xt tl ((s.bind.var (.n1 .fst (.v 0))).hyp (.n1 .snd (.v 0))))) (a.xt tl s)else .n2 .app (.lam a.f.qs (b.xt tl (s.bind.var (.v 0)).bare)) (a.xt tl s):=rfl;rw[BT,ex];have eu:a.f.qs=u:=by rw[e];rfl
   rw[eu];generalize Z:a.f.bd=x at *
   have D:a.f.has=true:=by rw[e];rfl
   have A:b.f.has=true:=by rw[<-SA (pF e1)];exact C
   rw[e]at P;have su:=kD (EA P.shp).1;obtain⟨T,F,z2,Y,zt⟩:=GH P.qf;have gs:=iL s
   cases T with
   |er m=>
    have g:=Gy (tl:=tl) (hs:=hs) (s:=s) (a:=a) (b:=b) (u:=u) (x:=x) (y:=b.f) (f:=f) F;rw[<-e,<-Z]at g;exact⟨_,g,by first|exact Y _ rfl|exact AN ‹_›|exact z⟩
   |ok w=>
    have hw:w.size<=64:=z2;obtain⟨r,E,z⟩:=uC H a n hs s K D o (by omega) (by omega) (by omega) (by omega);cases B:x.has<;>rw[B]at F
    ·have Q:=(o.bind.var (t:=.v 0) (yC (by show 0<s.dep+1;omega))).bare;have gv:=NJ s.bind (.v 0) (by rw[o.bind.vl];omega);have gh:=CV (s.bind.var (.v 0)) (by show s.ks.length<=qA;omega) (by show s.hyps<=qA;omega);obtain⟨r2,G,J⟩:=uC H b (n+1) _ _ R A (by rw[List.map_append,OD,List.map_cons,B];exact Q) (by omega) (by simp;omega) (by show s.dep+1+_<=_;omega) (by show s.hyps+1+_<=_;omega);have g:=Ky (tl:=tl) (hs:=hs) (s:=s) (a:=a) (b:=b) (u:=u) (x:=x) (y:=b.f) (f:=f) F gs gv gh G J.cn (by rw[<-e];exact E) z.cn;rw[<-e,<-Z]at g;exact⟨_,g,BN (EI su J) z⟩
    have W:=Cj u w
    cases V:TR.fit (.two false u w)with
    |er m=>
     rw[V]at W;have g:=Iy (tl:=tl) (hs:=hs) (s:=s) (a:=a) (b:=b) (u:=u) (x:=x) (y:=b.f) (f:=f) F gs W;rw[<-e,<-Z]at g;exact⟨_,g,by first|exact Y _ rfl|exact AN ‹_›|exact z⟩
    |ok k=>
     rw[V]at W;unfold TR.fit at V;split at V;rotate_left
     ·cases V
     rename_i hk;cases V;have hz:TK (s.dep+1) (.v 0):=yC;have S0:=o.bind.var (t:=.n1 .fst (.v 0)) (MJ hz (by simp[Tm.cnt]));have Q:=S0.hyp (t:=.n1 .snd (.v 0)) (MJ hz (by simp[Tm.cnt])) true;have gv:=NJ s.bind (.n1 .fst (.v 0)) (by rw[o.bind.vl];omega);have gh:=xP (s.bind.var (.n1 .fst (.v 0))) (.n1 .snd (.v 0)) (by show s.ks.length<=qA;omega) (by show s.hyps<=qA;omega);obtain⟨r2,G,J⟩:=uC H b (n+1) _ _ R A (by rw[List.map_append,OD,List.map_cons,B];exact Q) (by omega) (by simp;omega) (by show s.dep+1+_<=_;omega) (by show s.hyps+1+_<=_;omega);have g:=Jy (tl:=tl) (hs:=hs) (s:=s) (a:=a) (b:=b) (u:=u) (x:=x) (y:=b.f) (f:=f) F gs W gv gh G J.cn (by rw[<-e];exact E) z.cn;rw[<-e,<-Z]at g;rw[zt w rfl B]at g hk;exact⟨_,g,BN (EI hk J) z⟩
  obtain⟨R,⟨u,e⟩,e1⟩:=I;have ex:(Jt.p2 .exUE a b f).xt tl s=bif a.f.bd.has then .n2 .app (.lam a.f.bd.cty (b.xt tl ((s.bind.var a.f.qs.ini).hyp (.v 0)))) (a.xt tl s)else b.xt tl (s.var a.f.qs.ini).bare:=rfl;rw[BT,ex];have eu:a.f.qs=u:=by rw[e];rfl
  rw[eu];generalize Z:a.f.bd=x at *
  have A:b.f.has=true:=by rw[<-SA (pF e1)];exact C
  rw[e]at P;have su:=kD (EA P.shp).1;obtain⟨T,F,z2,Y,zt⟩:=GH P.qf;have gs:=iL s
  cases T with
  |er m=>
   have g:=Ly (tl:=tl) (hs:=hs) (s:=s) (a:=a) (b:=b) (u:=u) (x:=x) (y:=b.f) (f:=f) F;rw[<-e,<-Z]at g;exact⟨_,g,by first|exact Y _ rfl|exact AN ‹_›|exact z⟩
  |ok w=>
   have hw:w.size<=64:=z2;cases B:x.has<;>rw[B]at F
   ·have Q:=(o.var (t:=u.ini) (qF u su s.dep)).bare;have gv:=NJ s u.ini (by rw[o.vl];omega);have gh:=CV (s.var u.ini) (by show s.ks.length<=qA;omega) (by show s.hyps<=qA;omega);obtain⟨r2,G,J⟩:=uC H b (n+1) _ _ R A (by rw[List.map_append,OD,List.map_cons,B];exact Q) (by omega) (by simp;omega) (by show s.dep+_<=_;omega) (by show s.hyps+1+_<=_;omega);have g:=My (tl:=tl) (hs:=hs) (s:=s) (a:=a) (b:=b) (u:=u) (x:=x) (y:=b.f) (f:=f) F gv gh G;rw[<-e,<-Z]at g;exact⟨_,g,J⟩
   have D:a.f.has=true:=by rw[e];exact B
   obtain⟨r,E,z⟩:=uC H a n hs s K D o (by omega) (by omega) (by omega) (by omega);have S0:=o.bind.var (t:=u.ini) (qF u su _);have Q:=S0.hyp (t:=.v 0) (yC (by show 0<s.dep+1;omega)) true;have gv:=NJ s.bind u.ini (by rw[o.bind.vl];omega);have gh:=xP (s.bind.var u.ini) (.v 0) (by show s.ks.length<=qA;omega) (by show s.hyps<=qA;omega);obtain⟨r2,G,J⟩:=uC H b (n+1) _ _ R A (by rw[List.map_append,OD,List.map_cons,B];exact Q) (by omega) (by simp;omega) (by show s.dep+1+_<=_;omega) (by show s.hyps+1+_<=_;omega);have g:=Ny (tl:=tl) (hs:=hs) (s:=s) (a:=a) (b:=b) (u:=u) (x:=x) (y:=b.f) (f:=f) F gs gv gh G J.cn (by rw[<-e];exact E) z.cn;rw[<-e,<-Z]at g;rw[zt w rfl B]at g hw;exact⟨_,g,BN (EI hw J) z⟩
 |.impI x a,n,hs,s,⟨X,K,I⟩,C,o,L,M,N,O=>by
  have hm:=vA;have S:iA=100000:=rfl;simp only[Jt.p,Pf.cnt]at L M N O;have hkl:s.ks.length=hs.length:=by have:=o.kl;simpa using this
  have D:a.f.has=true:=C;have ex:(Jt.impI x a).xt tl s=bif x.has then .lam x.cty (a.xt tl (s.bind.hyp (.v 0)))else a.xt tl s.bare:=rfl;rw[BT,ex];obtain⟨T,F,z2,Y,zt⟩:=GH X
  cases T with
  |er m=>exact⟨_,my F,Y _ rfl⟩|ok u=>
   have hu:u.size<=64:=z2;cases B:x.has<;>rw[B]at F
   ·have Q:=o.bare;have gh:=CV s;obtain⟨r2,G,J⟩:=uC H a n _ _ I D (by rw[List.map_append,List.map_cons,B];exact Q) (by omega) (by simp;omega) (by show s.dep+_<=_;omega) (by show s.hyps+1+_<=_;omega);exact⟨_,py F gh G,J⟩
   have Q:=o.bind.hyp (t:=.v 0) (yC (by show 0<s.dep+1;omega)) true;have gs:=iL s;have gh:=xP s.bind (.v 0) (by show s.ks.length<=qA;omega) (by show s.hyps<=qA;omega);obtain⟨r2,G,J⟩:=uC H a n _ _ I D (by rw[List.map_append,List.map_cons,B];exact Q) (by omega) (by simp;omega) (by show s.dep+1+_<=_;omega) (by show s.hyps+1+_<=_;omega);rw[zt u rfl B]at F hu;exact⟨_,ry F gs gh G J.cn,EI hu J⟩
 |.all c u a,n,hs,s,⟨X,K,I⟩,C,o,L,M,N,O=>by
  have hm:=vA;simp only[Jt.p,Pf.cnt]at L M N O;cases c
  ·have D:a.f.has=true:=C;have Q:=o.bind.var (t:=.v 0) (yC (by show 0<s.dep+1;omega));have gs:=iL s;have gv:=NJ s.bind (.v 0) (by rw[o.bind.vl];omega);obtain⟨r2,G,J⟩:=uC H a (n+1) _ _ I D (by rw[OD];exact Q) (by omega) (by simp;omega) (by show s.dep+1+_<=_;omega) (by show s.hyps+_<=_;omega);exact⟨_,oy gs gv G J.cn,EI X J⟩
  have D:a.f.has=true:=C;have Q:=o.var (t:=u.ini) (qF u X s.dep);have gv:=NJ s u.ini (by rw[o.vl];omega);obtain⟨r2,G,J⟩:=uC H a (n+1) _ _ I D (by rw[OD];exact Q) (by omega) (by simp;omega) (by show s.dep+_<=_;omega) (by show s.hyps+_<=_;omega);exact⟨_,xy gv G,J⟩
 |.ins c t a f,n,hs,s,⟨X,K,I,u,x,e,e1⟩,C,o,L,M,N,O=>by
  have hm:=vA;have S:iA=100000:=rfl;simp only[Jt.p,Pf.cnt]at L M N O;replace C:f.has=true:=C;have B:x.has=true:=by rw[<-SA (iC e1)];exact C
  cases c
  ·have D:a.f.has=true:=by rw[e];exact B
   obtain⟨r,E,z⟩:=uC H a n hs s I D o (by omega) (by omega) (by omega) (by omega);have e:a.f=.q .all u x:=e;have W:=HR s t n o.vl.symm o.ve (by omega) (by rw[o.vl];omega) K;have qp:(XR.fit (t.ps s.vs s.dep 0)).Gd s.dep (t.ps s.vs s.dep 0):=Na o K;have g:=Ay (tl:=tl) (hs:=hs) (s:=s) (a:=a) (w:=t) (u:=u) (x:=x) (f:=f) (by rw[<-e];exact E) W z.cn qp.cn;rw[<-e]at g;exact⟨_,g,BN z qp⟩
  have D:a.f.has=true:=by rw[e];exact B
  obtain⟨r,E,z⟩:=uC H a n hs s I D o (by omega) (by omega) (by omega) (by omega);have e:a.f=.q .allU u x:=e;have g:=By (tl:=tl) (hs:=hs) (s:=s) (a:=a) (w:=t) (u:=u) (x:=x) (f:=f) (by rw[<-e];exact E);rw[<-e]at g;exact⟨_,g,z⟩
 |.ex c x t a,n,hs,s,⟨X,K,I,⟨u,e⟩,e1⟩,C,o,L,M,N,O=>by
  have hm:=vA;have S:iA=100000:=rfl;simp only[Jt.p,Pf.cnt]at L M N O;replace C:x.has=true:=C;cases c
  ·have W:=HR s t n o.vl.symm o.ve (by omega) (by rw[o.vl];omega) K;have qp:(XR.fit (t.ps s.vs s.dep 0)).Gd s.dep (t.ps s.vs s.dep 0):=Na o K;cases D:a.f.has
   ·exact⟨_,Cy D W,by show XR.Gd s.dep (bif a.f.has then _ else _) _;rw[BP D];exact qp⟩
   obtain⟨r,E,z⟩:=uC H a n hs s I D o (by omega) (by omega) (by omega) (by omega);exact⟨_,Dy D E W z.cn qp.cn,by show XR.Gd s.dep (bif a.f.has then _ else _) _;rw[CN D];exact BN qp z⟩
  have D:a.f.has=true:=by
   rw[SA e1];rw[e]at C;exact C
  obtain⟨r,E,z⟩:=uC H a n hs s I D o (by omega) (by omega) (by omega) (by omega);exact⟨_,Ey E,z⟩
 |.ind l x t a b f,n,hs,s,⟨X,K,I,R,e,⟨ea,eb⟩,h4⟩,C,o,L,M,N,O=>by
  have hm:=vA;have S:iA=100000:=rfl;simp only[Jt.p,Pf.cnt]at L M N O;have ct:=fE t;have cx:=GV x;have ca:=BR a.p;have hkl:s.ks.length=hs.length:=by have:=o.kl;simpa using this
  replace C:f.has=true:=C;have B:x.has=true:=by rw[<-SA (iC e)];exact C
  have D:a.f.has=true:=by rw[SA ea];exact B
  have A:b.f.has=true:=by rw[SA eb];exact B
  have W:=HR s t n o.vl.symm o.ve (by omega) (by rw[o.vl];omega) I;have qp:(XR.fit (t.ps s.vs s.dep 0)).Gd s.dep (t.ps s.vs s.dep 0):=Na o I;generalize XR.fit (t.ps s.vs s.dep 0)=rp at W qp
  cases rp with
  |er q m=>exact⟨_,Oy W,qp⟩|ok tp=>
   have S0:=o.bind.var (t:=.v 0) (yC (by show 0<s.dep+1;omega));obtain⟨r,g,q⟩:=Fj (tl:=tl) (l:=l) (t:=t) (a:=a) (b:=b) (f:=f) K B o qp.1 (by omega) (by omega) (by omega) (by omega) (uC H a n hs s R D o (by omega) (by omega) (by omega) (by omega)) (by
    cases l
    ·exact uC H b (n+1) _ _ h4 A (by rw[List.map_append,OD,List.map_cons,B];exact S0.bind.hyp (t:=.v 0) (yC (by show 0<s.dep+1+1;omega)) true) (by omega) (by simp;omega) (by show s.dep+1+1+_<=_;omega) (by show s.hyps+1+_<=_;omega)
    have hxs:(x.sh 1 (.ofNat 1)).has=true:=by rw[SA (JD _ x 1)];exact B
    exact uC H b (n+2) _ _ h4 A (by rw[List.map_append,OD,List.map_cons,hxs];exact(S0.bind.var (t:=.v 0) (yC (by show 0<s.dep+1+1;omega))).bind.hyp (t:=.v 0) (yC (by show 0<s.dep+1+1+1;omega)) true) (by omega) (by simp;omega) (by show s.dep+1+1+1+_<=_;omega) (by show s.hyps+1+_<=_;omega))
   refine⟨r,Py W g,?_⟩;have e:(Jt.ind l x t a b f).xt tl s=YC tl l x a b s (t.ps s.vs s.dep 0):=by cases l<;>rfl
   rw[e,<-qp.2];exact q
 |.subst x a b f,n,hs,s,⟨X,K,I,R,eb,t,u,e,e1⟩,C,o,L,M,N,O=>by
  have hm:=vA;simp only[Jt.p,Pf.cnt]at L M N O;replace C:f.has=true:=C;have A:b.f.has=true:=by rw[SA eb,<-SA (iC e1)];exact C
  obtain⟨r,E,z⟩:=uC H b n hs s R A o (by omega) (by omega) (by omega) (by omega);exact⟨_,Fy E,z⟩
def cD(ρ:Nat->Nat):Nat->Nat|0=>0|n+1=>ρ n+1
def Tm.ren:(Nat->Nat)->Tm->Tm|ρ,.v i=>.v (ρ i)|ρ,.lam s b=>.lam s (b.ren (cD ρ))|_,.n0 k=>.n0 k|ρ,.n1 k a=>.n1 k (a.ren ρ)|ρ,.n2 k a b=>.n2 k (a.ren ρ) (b.ren ρ)|ρ,.n3 k s a b c=>.n3 k s (a.ren ρ) (b.ren ρ) (c.ren ρ)
def cA(σ:Nat->Tm):Nat->Tm|0=>.v 0|n+1=>(σ n).sh 0 (.ofNat 1)
def Tm.sub:(Nat->Tm)->Tm->Tm|σ,.v i=>σ i|σ,.lam s b=>.lam s (b.sub (cA σ))|_,.n0 k=>.n0 k|σ,.n1 k a=>.n1 k (a.sub σ)|σ,.n2 k a b=>.n2 k (a.sub σ) (b.sub σ)|σ,.n3 k s a b c=>.n3 k s (a.sub σ) (b.sub σ) (c.sub σ)
def eD(k:Nat):∀(t:Tm)(c:Nat),t.sh c (.ofNat k)=t.ren λi=>if c<=i then i+k else i
 |.v i,c=>by simp only[Tm.sh,Tm.ren];split<;>rfl|.lam s b,c=>by
  simp only[Tm.sh,Tm.ren,eD k b];congr 2;funext i
  cases i with|zero=>rfl|succ i=>simp only[cD];split<;>split<;>omega
 |.n0 _,_=>rfl|.n1 _ a,c=>by simp only[Tm.sh,Tm.ren,eD k a]|.n2 _ a b,c=>by simp only[Tm.sh,Tm.ren,eD k a,eD k b]|.n3 _ _ a b d,c=>by simp only[Tm.sh,Tm.ren,eD k a,eD k b,eD k d]
theorem pC(t:Tm):t.sh 0 (.ofNat 1)=t.ren (· +1):=by
 rw[eD];congr 1
def GI:∀(t:Tm)(ρ τ:Nat->Nat),(t.ren ρ).ren τ=t.ren λi=>τ (ρ i)
 |.v i,_,_=>rfl|.lam s b,ρ,τ=>by
  simp only[Tm.ren,GI b];congr 2;funext i;cases i<;>rfl
 |.n0 _,_,_=>rfl|.n1 _ a,_,_=>by simp only[Tm.ren,GI a]|.n2 _ a b,_,_=>by simp only[Tm.ren,GI a,GI b]|.n3 _ _ a b d,_,_=>by simp only[Tm.ren,GI a,GI b,GI d]
def zE:∀(t:Tm)(ρ:Nat->Nat)(σ:Nat->Tm),(t.ren ρ).sub σ=t.sub λi=>σ (ρ i)
 |.v i,_,_=>rfl|.lam s b,ρ,σ=>by
  simp only[Tm.ren,Tm.sub,zE b];congr 2;funext i;cases i<;>rfl
 |.n0 _,_,_=>rfl|.n1 _ a,_,_=>by simp only[Tm.ren,Tm.sub,zE a]|.n2 _ a b,_,_=>by simp only[Tm.ren,Tm.sub,zE a,zE b]|.n3 _ _ a b d,_,_=>by simp only[Tm.ren,Tm.sub,zE a,zE b,zE d]
theorem gG:∀(t:Tm)(σ:Nat->Tm)(ρ:Nat->Nat),(t.sub σ).ren ρ=t.sub λi=>(σ i).ren ρ
 |.v i,_,_=>rfl|.lam s b,σ,ρ=>by
  simp only[Tm.ren,Tm.sub,gG b];congr 2;funext i
  cases i with|zero=>rfl|succ i=>simp only[cA,pC,GI];rfl
 |.n0 _,_,_=>rfl|.n1 _ a,_,_=>by simp only[Tm.ren,Tm.sub,gG a]|.n2 _ a b,_,_=>by simp only[Tm.ren,Tm.sub,gG a,gG b]|.n3 _ _ a b d,_,_=>by simp only[Tm.ren,Tm.sub,gG a,gG b,gG d]
def Oa(t:Tm)(σ:Nat->Tm):(t.sh 0 (.ofNat 1)).sub (cA σ)=(t.sub σ).sh 0 (.ofNat 1):=by
 rw[pC,zE,pC,gG];congr 1;funext i;exact pC _
def iD:∀(t:Tm)(σ τ:Nat->Tm),(t.sub σ).sub τ=t.sub λi=>(σ i).sub τ
 |.v i,_,_=>rfl|.lam s b,σ,τ=>by
  simp only[Tm.sub,iD b];congr 2;funext i
  cases i with|zero=>rfl|succ i=>exact Oa _ _
 |.n0 _,_,_=>rfl|.n1 _ a,_,_=>by simp only[Tm.sub,iD a]|.n2 _ a b,_,_=>by simp only[Tm.sub,iD a,iD b]|.n3 _ _ a b d,_,_=>by simp only[Tm.sub,iD a,iD b,iD d]
theorem lE:∀(t:Tm)(σ τ:Nat->Tm),(∀i,t.occ i≠0->σ i=τ i)->t.sub σ=t.sub τ
 |.v i,_,_,h=>h i (by simp[Tm.occ])|.lam s b,σ,τ,h=>by
  simp only[Tm.sub];rw[lE b (cA σ) (cA τ) λi c=>by
   cases i with|zero=>rfl|succ i=>simp only[cA];rw[h i c]]
 |.n0 _,_,_,_=>rfl|.n1 _ a,_,_,h=>by simp only[Tm.sub];rw[lE a _ _ h]|.n2 _ a b,_,_,h=>by
  simp only[Tm.sub];rw[lE a _ _ λi c=>h i (by simp only[Tm.occ];omega),lE b _ _ λi c=>h i (by simp only[Tm.occ];omega)]
 |.n3 _ _ a b d,_,_,h=>by
  simp only[Tm.sub];rw[lE a _ _ λi c=>h i (by simp only[Tm.occ];omega),lE b _ _ λi c=>h i (by simp only[Tm.occ];omega),lE d _ _ λi c=>h i (by simp only[Tm.occ];omega)]
def JR:cA Tm.v=Tm.v:=by
 funext i
 cases i with|zero=>rfl|succ i=>simp[cA,Tm.sh]
theorem xC:∀t:Tm,t.sub Tm.v=t|.v _=>rfl|.lam s b=>by simp[Tm.sub,JR,xC]|.n0 _=>rfl|.n1 _ a=>by simp[Tm.sub,xC]|.n2 _ a b=>by simp[Tm.sub,xC]|.n3 _ _ a b d=>by simp[Tm.sub,xC]
def LR{t:Tm}{n i:Nat}(h:t.sc n)(a:t.occ i≠0):i<n:=by
 have:=(ya t _).1 h
 grind[Nat.lt_or_ge,absurd,EJ]
theorem Gj{t:Tm}(h:t.sc 0)(σ:Nat->Tm):t.sub σ=t:=by
 rw[lE t σ .v λi a=>absurd (LR h a) (by omega),xC]
theorem CP(t:Tm)(k:Nat):(t.sh 0 (.ofNat k)).sh 0 (.ofNat 1)=t.sh 0 (.ofNat (k+1)):=by
 rw[pC,eD k t,GI,eD];congr 1
def uD(c:List (Tm×Nat))(d:Nat):∀(t:Tm)(b:Nat),t.ps c d b=t.sub λi=>(Tm.v i).ps c d b
 |.v i,_=>rfl|.lam s t,b=>by
  simp only[Tm.ps,Tm.sub];rw[uD c d t (b+1)];congr 2;funext i
  cases i with
  |zero=>simp[Tm.ps,cA]|succ i=>
   simp only[Tm.ps,cA,Nat.add_lt_add_iff_right,Nat.add_sub_add_right];split
   ·simp[Tm.sh]
   split
   ·rw[CP];rfl
   simp[Tm.sh]
 |.n0 _,_=>rfl|.n1 _ a,b=>by simp only[Tm.ps,Tm.sub];rw[uD c d a b];rfl|.n2 _ x y,b=>by simp only[Tm.ps,Tm.sub];rw[uD c d x b,uD c d y b];rfl|.n3 _ _ x y z,b=>by simp only[Tm.ps,Tm.sub];rw[uD c d x b,uD c d y b,uD c d z b];rfl
theorem NC(c:Nat)(S:Tm):∀(t:Tm)(d:Nat),t.put c S d=t.sub λi=>(Tm.v i).put c S d
 |.v i,_=>rfl|.lam s t,d=>by
  simp only[Tm.put,Tm.sub];rw[NC c S t (d+1)];congr 2;funext i
  cases i with
  |zero=>
   simp only[Tm.put,cA];rw[if_neg (by omega),if_neg (by omega)]
  |succ i=>
   simp only[Tm.put,cA];by_cases e:i=c+d
   ·rw[if_pos (by omega),if_pos e,CP];rfl
   rw[if_neg (by omega),if_neg e];by_cases b:c+d<i
   ·rw[if_pos (by omega),if_pos b];simp only[Tm.sh,Nat.zero_le,if_true];congr 1;show i=(Int.ofNat (i-1)+Int.ofNat 1).toNat;simp;omega
   rw[if_neg (by omega),if_neg b];simp[Tm.sh]
 |.n0 _,_=>rfl|.n1 _ a,d=>by simp only[Tm.put,Tm.sub];rw[NC c S a d];rfl|.n2 _ x y,d=>by simp only[Tm.put,Tm.sub];rw[NC c S x d,NC c S y d];rfl|.n3 _ _ x y z,d=>by simp only[Tm.put,Tm.sub];rw[NC c S x d,NC c S y d,NC c S z d];rfl
open Go.Lg
def XG:∀f:Fm,f.er.cty=f.cty
 |.eq _ _=>rfl|.bin k f g=>by cases k<;>simp only[Fm.er,Fm.cty,PG,XG f,XG g]
 |.q k _ f=>by cases k<;>simp only[Fm.er,Fm.cty,PG,XG f]
def BC{f g:Fm}(e:f.er=g.er):f.cty=g.cty:=(XG f).symm.trans ((congrArg Fm.cty e).trans (XG g))
def PX:(Nat->Tm)->Pf->Pf->Prop|_,.leaf u i,p=>p=.leaf u i|_,.refl _,p=>∃t,p=.refl t|σ,.p1 k a,p=>∃c,p=.p1 k c/\PX σ a c|σ,.p2 k a b,p=>∃c e,p=.p2 k c e/\PX σ a c/\PX (match k with|.andI=>σ|.impE=>σ|_=>cA σ) b e|σ,.impI x a,p=>∃d c,p=.impI d c/\d.er=x.er/\PX σ a c|σ,.all u s a,p=>∃c,p=.all u s c/\PX (cA σ) a c|σ,.ins u t a,p=>∃f c,p=.ins u f c/\(u=false->f=t.sub σ)/\PX σ a c|σ,.ex u x t a,p=>∃d f c,p=.ex u d f c/\d.er=x.er/\(u=false->f=t.sub σ)/\PX σ a c|σ,.ind l x t a b,p=>∃d f c e,p=.ind l d f c e/\d.er=x.er/\f=t.sub σ/\PX σ a c/\PX (match l with|false=>cA σ|true=>cA (cA σ)) b e|σ,.subst x a b,p=>∃d c e,p=.subst d c e/\d.er=x.er/\PX σ a c/\PX σ b e
def wz{b a:List Fm}(e:a.map Fm.er=b.map Fm.er){i:Nat}{f c:Fm}(h:b[i]? =some f)(b:a[i]? =some c):c.er=f.er:=by
 have:=congrArg (λl=>l[i]?) e
 grind
def yz{b a:List Fm}(e:a.map Fm.er=b.map Fm.er):a.length=b.length:=by
 have:=congrArg List.length e
 grind
def Pa{k f:FB}{a b c d:Fm}(e:(Fm.bin k a b).er=(Fm.bin f c d).er):a.er=c.er/\b.er=d.er:=by
 grind[Fm.er,Fm.bin.injEq]
def MR{k b:FQ}{s u:Ty}{a c:Fm}(e:(Fm.q k s a).er=(Fm.q b u c).er):s=u/\a.er=c.er:=by
 grind[Fm.er,Fm.q.injEq]
def HV{f g:Fm}(e:f.er=g.er):f.bd.er=g.bd.er:=by
 cases f<;>cases g<;>simp only[Fm.er,reduceCtorEq]at e<;>first|rfl|(simp only[Fm.bd,Fm.er]at *;first|exact e|simp_all)
def Hj{f g:Fm}(e:f.er=g.er):f.qs=g.qs:=by
 cases f<;>cases g<;>simp only[Fm.er,reduceCtorEq]at e<;>first|rfl|(injection e)
def DL{b a:List Fm}{x c:Fm}(k:Nat)(e:a.map Fm.er=b.map Fm.er)(ex:c.er=x.er):(bA k a++[c]).map Fm.er=(bA k b++[x]).map Fm.er:=by
 rw[List.map_append,List.map_append,pI,pI,e];simp_all
def mG(D:List Fm):∀(j m:Jt)(n A:Nat)(B g:List Fm)(σ:Nat->Tm),j.OK D n B->m.OK D A g->g.map Fm.er=B.map Fm.er->PX σ j.p m.p->m.f.er=j.f.er
 |.leaf u i f,m,n,A,B,g,σ,h,o,e,r=>by
  cases m with
  |leaf M T E=>
   obtain⟨-,h⟩:=h;obtain⟨-,o⟩:=o;have r:Pf.leaf M T=.leaf u i:=r;cases r;cases u
   ·rw[yz e]at o;exact wz e h.2 o.2
   simp_all
  |_=>cases r
 |.refl t,m,n,A,B,g,σ,h,o,e,r=>by
  cases m with|refl N=>rfl|_=>obtain⟨_,r⟩:=r;cases r
 |.p1 k a f,m,n,A,B,g,σ,⟨_,F,H⟩,o,e,⟨J,r,G⟩=>by
  cases m with
  |p1 U b E=>
   obtain⟨-,p,z⟩:=o;cases r;have q:=mG D a b n A B g σ F p e G;cases k
   ·obtain⟨y,v⟩:=H;obtain⟨O,w⟩:=z;rw[v,w]at q;exact(Pa q).1
   ·obtain⟨y,v⟩:=H;obtain⟨O,w⟩:=z;rw[v,w]at q;exact(Pa q).2
   obtain⟨s,u,x,v,y,P,V⟩:=H;obtain⟨Q,M,K,w,O,R,W⟩:=z;rw[v,w]at q;obtain⟨es,q⟩:=MR q;obtain⟨X,q⟩:=MR q;show E.er=f.er;rw[V,W]
   grind[Fm.er,iC,JD]
  |_=>cases r
 |.p2 k a b f,m,n,A,B,g,σ,⟨_,F,H⟩,o,e,⟨J,S,r,G,rb⟩=>by
  cases m with
  |p2 U c d E=>
   obtain⟨-,p,z⟩:=o;cases r;have q:=mG D a c n A B g σ F p e G;show E.er=f.er;cases k
   ·obtain⟨L,v⟩:=H;obtain⟨C,w⟩:=z;rw[v,w];simp only[Fm.er];rw[q,mG D b d n A B g σ L C e rb]
   ·obtain⟨L,x,v⟩:=H;obtain⟨C,K,w⟩:=z;rw[v,w]at q;exact(Pa q).2
   ·obtain⟨L,_,v⟩:=H;obtain⟨C,_,w⟩:=z;rw[pF v,pF w];exact mG D b d _ _ _ _ _ L C (DL 1 e (HV q)) rb
   obtain⟨L,_,v⟩:=H;obtain⟨C,_,w⟩:=z;rw[pF v,pF w];exact mG D b d _ _ _ _ _ L C (DL 1 e (HV q)) rb
  |_=>cases r
 |.impI x a,m,n,A,B,g,σ,⟨_,_,F⟩,o,e,⟨K,J,r,I,G⟩=>by
  cases m with
  |impI x2 b=>
   obtain⟨-,-,p⟩:=o;cases r;show Fm.bin .imp K.er b.f.er=Fm.bin .imp x.er a.f.er;rw[I,mG D a b n A _ _ σ F p (by rw[List.map_append,List.map_append,e];simp only[List.map_cons,List.map_nil,I]) G]
  |_=>cases r
 |.all u s a,m,n,A,B,g,σ,⟨_,_,F⟩,o,e,⟨J,r,G⟩=>by
  cases m with
  |all M Q b=>
   obtain⟨-,-,p⟩:=o;cases r;show Fm.q _ _ b.f.er=Fm.q _ _ a.f.er;rw[mG D a b _ _ _ _ _ F p (by rw[pI,pI,e]) G]
  |_=>cases r
 |.ins u t a f,m,n,A,B,g,σ,⟨_,_,F,s,x,v,P⟩,o,e,⟨N,J,r,rt,G⟩=>by
  cases m with
  |ins M t2 b E=>
   obtain⟨-,-,p,Q,K,w,R⟩:=o;cases r;have q:=mG D a b n A B g σ F p e G;rw[v,w]at q;show E.er=f.er;rw[iC P,iC R,(MR q).2]
  |_=>cases r
 |.ex u x t a,m,n,A,B,g,σ,h,o,e,⟨K,N,J,r,I,_⟩=>by
  cases m with
  |ex M x2 t2 b=>cases r;exact I
  |_=>cases r
 |.ind l x t a b f,m,n,A,B,g,σ,⟨_,_,_,_,v,_⟩,o,e,⟨K,N,J,S,r,I,_⟩=>by
  cases m with
  |ind Y x2 t2 c d E=>
   obtain⟨-,-,-,-,w,-⟩:=o;cases r;show E.er=f.er;rw[iC v,iC w,I]
  |_=>cases r
 |.subst x a b f,m,n,A,B,g,σ,⟨_,_,_,_,_,_,_,_,v⟩,o,e,⟨K,J,S,r,I,_⟩=>by
  cases m with
  |subst x2 c d E=>
   obtain⟨-,-,-,-,-,_,_,-,w⟩:=o;cases r;show E.er=f.er;rw[iC v,iC w,I]
  |_=>cases r
end Go.Proofs.YtjobiknipefjdaaGreatDoor
