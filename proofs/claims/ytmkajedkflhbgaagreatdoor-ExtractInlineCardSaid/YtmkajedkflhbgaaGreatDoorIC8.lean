/- Contracts of functions; no conditions. -/
import Derived.Test.YtmkajedkflhbgaaGreatDoorIC7
set_option linter.all false
set_option maxHeartbeats 4000000
namespace Go.Proofs.YtmkajedkflhbgaaGreatDoor
open Go.Lg
set_option maxRecDepth 100000
structure TG (n C S:Nat) (x:Tm):Prop where
 sc:x.sc n
 cnt:x.cnt<=C
 tsz:x.tsz<=S
theorem TG.mono {n C S C' S':Nat} {x:Tm} (h:TG n C S x) (hc:C<=C') (hs:S<=S'):TG n C' S' x:=⟨h.sc,Nat.le_trans h.cnt hc,Nat.le_trans h.tsz hs⟩
theorem wY {n i:Nat} (h:i<3):TG n 4 0 (TA i):=by
 rcases i with _|_|_|i
 ·exact⟨trivial,by decide,by decide⟩
 ·exact⟨trivial,by decide,by decide⟩
 ·exact⟨trivial,by decide,by decide⟩
 ·omega
structure TT (g:List Ty) (t:Ty) (C S:Nat) (x:Tm):Prop extends TG g.length C S x where
 ty:x.tyR g = .ok t
theorem TT.mono {g:List Ty} {t:Ty} {C S C' S':Nat} {x:Tm} (h:TT g t C S x) (hc:C<=C') (hs:S<=S'):TT g t C' S' x:=⟨h.toTG.mono hc hs,h.ty⟩
theorem LN (g:List Ty):∀ n:Nat,(TA n).tyR g = .ok .nat
 | 0=>rfl
 | n+1=>by show SD .succ ((TA n).tyR g)=_;rw [LN g n];rfl
theorem MN (g:List Ty) {i:Nat} (h:i<3):TT g .nat 4 0 (TA i):=⟨wY h,LN g i⟩
theorem kY (s:Ty):s.same s=true:=(uD s s).2 rfl
theorem XC {g:List Ty} {f x:Tm} {s u:Ty} (h1:f.tyR g = .ok (.two true s u)) (h2:x.tyR g = .ok s):(Tm.n2 .app f x).tyR g = .ok u:=by
 show mC .app (f.tyR g) (x.tyR g)=_;rw [h1,h2];simp only [mC,kY,cond_true]
theorem TE {g:List Ty} {b:Tm} {s u:Ty} (h:b.tyR (g++[s]) = .ok u) (hs:(Ty.two true s u).size<=64):(Tm.lam s b).tyR g = .ok (.two true s u):=by
 show ZF s (b.tyR (g++[s]))=_;rw [h];exact if_pos hs
theorem yY {g:List Ty} {b:Tm} {s t u:Ty} (h:b.tyR (g++[s,t]) = .ok u) (hs:(Ty.two true s (.two true t u)).size<=64):(Tm.lam s (.lam t b)).tyR g = .ok (.two true s (.two true t u)) :=
 TE (TE (by simpa using h) (by simp only [Ty.size] at hs ⊢;omega)) hs
theorem jg {g:List Ty} {b:Tm} {s t v u:Ty} (h:b.tyR (g++[s,t,v]) = .ok u) (hs:(Ty.two true s (.two true t (.two true v u))).size<=64):(Tm.lam s (.lam t (.lam v b))).tyR g = .ok (.two true s (.two true t (.two true v u))) :=
 TE (yY (by simpa using h) (by simp only [Ty.size] at hs ⊢;omega)) hs
theorem WH {g:List Ty} {x y:Tm} {s u:Ty} (h1:x.tyR g = .ok s) (h2:y.tyR g = .ok u) (hs:(Ty.two false s u).size<=64):(Tm.n2 .pair x y).tyR g = .ok (.two false s u):=by
 show mC .pair (x.tyR g) (y.tyR g)=_;rw [h1,h2];exact if_pos hs
theorem vg {g:List Ty} {x:Tm} {s u:Ty} (h:x.tyR g = .ok (.two false s u)):(Tm.n1 .fst x).tyR g = .ok s:=by
 show SD .fst (x.tyR g)=_;rw [h];rfl
theorem wg {g:List Ty} {x:Tm} {s u:Ty} (h:x.tyR g = .ok (.two false s u)):(Tm.n1 .snd x).tyR g = .ok u:=by
 show SD .snd (x.tyR g)=_;rw [h];rfl
theorem dQ {g:List Ty} {x:Tm} (h:x.tyR g = .ok .nat):(Tm.n1 .succ x).tyR g = .ok .nat:=by
 show SD .succ (x.tyR g)=_;rw [h];rfl
theorem QT {g:List Ty} {x y:Tm} (h:x.tyR g = .ok .nat) (h':y.tyR g = .ok .list):(Tm.n2 .cons x y).tyR g = .ok .list:=by
 show mC .cons (x.tyR g) (y.tyR g)=_;rw [h,h'];rfl
theorem fQ {g:List Ty} {b f d:Tm} {s:Ty} (h1:b.tyR g = .ok s) (h2:f.tyR g = .ok (.two true .nat (.two true s s))) (h3:d.tyR g = .ok .nat):(Tm.n3 .re s b f d).tyR g = .ok s:=by
 show bB .re s (b.tyR g) (f.tyR g) (d.tyR g)=_;rw [h1,h2,h3];simp only [bB,kY,cond_true]
theorem kg {g:List Ty} {b f d:Tm} {s:Ty} (h1:b.tyR g = .ok s) (h2:f.tyR g = .ok (.two true .nat (.two true .list (.two true s s)))) (h3:d.tyR g = .ok .list):(Tm.n3 .fo s b f d).tyR g = .ok s:=by
 show bB .fo s (b.tyR g) (f.tyR g) (d.tyR g)=_;rw [h1,h2,h3];simp only [bB,kY,cond_true]
abbrev RT (L:List Int) (g:List Ty) (t:Ty) (z:PV) (a:Nat) (x:Tm) (b:Nat):Prop:=O 63 [.loc 0 0,.pv (cA g),.pv t.p,.pv z] [(0,dk L a)] (.pv x.p) [(0,dk L b)]
theorem yg {L:List Int} (hL:Dk L) {g:List Ty} {t:Ty} (hg:g.length<=1000000) (z:PV) {a:Nat} (ha:a<=L.length) :
  (∃ (i b:Nat),vB g i = .ok t/\b<=L.length/\RT L g t z a (.v i) b)\/A 115 [cA g,t.p] (bA []) \/ ∃ (i:Nat) (r:List Nat) (b:Nat),b<=L.length/\A 115 [cA g,t.p] (bA (i::r))/\O 14 [.loc 0 0,.pv (num 3)] [(0,dk L a)] (.pv (num 0)) [(0,dk L b)]:=by
 have hm:=jA;obtain⟨l,q1,q2,g1⟩:=Bt g t
 cases l with
 | nil=>exact .inr (.inl g1)
 | cons i r =>
  obtain⟨x,b,hx,hb1,g2⟩:=nx hL ha (n:=3) (by omega) (by omega)
  cases x with
  | zero=>exact .inr (.inr ⟨i,r,b,hb1,g1,g2⟩)
  | succ x =>
   have q3:r.length+1<=g.length:=q2;have el:((i::r).map ic).length=r.length+1:=by simp
   obtain⟨y,c,hy,hc,g3⟩:=nx hL hb1 (n:=((i::r).map ic).length) (by omega) (by omega);obtain⟨w,hw⟩:∃ w,(i::r)[y]? = some w:=⟨_,List.getElem?_eq_getElem (by simpa using hy)⟩;exact .inl ⟨w,c,q1 w (List.mem_of_getElem? hw),hc,o5 1 [(19,.r (bA (i::r))),(25,.D L b (.pv (num (x+1)))),(32,.D L c (.pv (num y))),(33,.i (ic w)),(35,.r (Tm.v w).p)] g1 g2 g3 (KA (c:=ic) (n:=1) hw λ _=>rfl) (gE w)⟩
theorem ug {g:List Ty} {i:Nat} {t:Ty} (h:vB g i = .ok t):i<g.length:=by
 unfold vB at h;split at h
 ·assumption
 ·cases h
theorem Ct {z:Int} (h:z<=0):kA 0 z=false:=by rw [KB];simpa using h
theorem Dt {z:Int} (h : -1000000<=z:=by omega) (h':z<=1000000:=by omega):rA (z-1)=true/\z-1=z-1:=⟨qN (by omega) (by omega),rfl⟩
theorem NN:A 116 [num 7,row []] (Tm.n0 .nil).p:=cP 7
theorem ON:A 116 [num 13,row []] (Tm.n0 .unit).p:=cP 13
theorem ID (k:K2) (x y:Tm):A 116 [num k.n,row [x,y]] (Tm.n2 k x y).p:=bF k.n x y
theorem IK (k:K1) (x:Tm):A 116 [num k.n,row [x]] (Tm.n1 k x).p:=eP k.n x
theorem yM {L:List Int} (hL:Dk L):∀ (t:Ty) (g:List Ty) (z:Int) (a:Nat),z<=0->-1000000+t.size<=z->g.length+t.size<=1000000->a<=L.length->t.size<=64->∃ (x:Tm) (b:Nat),TT g t (4 * t.size) t.size x/\b<=L.length/\RT L g t (.int z) a x b
 | t,g,z,a,hz,hz2,hg,ha,h64=>by
  have hm:=jA;have h0:=Ct hz;have h1:=Dt (z:=z);have ht1:1<=t.size:=by cases t<;>simp [Ty.size]<;>omega
  rcases yg hL (g:=g) (t:=t) (by omega) (.int z) ha with ⟨i,b,hi,hb,h⟩|g0|⟨i0,r0,a0,ha0,g0,g00⟩
  ·exact⟨.v i,b,⟨⟨ug hi,by simp only [Tm.cnt];omega,Nat.zero_le _⟩,hi⟩,hb,h⟩
  ·cases t with
   | nat =>
    obtain⟨y,b,hy,hb,g1⟩:=nx hL ha (n:=3) (by omega) (by omega);have g2:=VH (n:=y);exact⟨TA y,b,(MN g hy).mono (by decide) (by decide),hb,o5 1 [(19,.r (bA [])),(37,.H),(218,.H),(266,.D L b (.pv (num y))),(267,.r (TA y).p)] g0 h0 h0 g1 g2⟩
   | list=>exact⟨.n0 .nil,a,⟨⟨trivial,by decide,by decide⟩,rfl⟩,ha,o4 1 [(19,.r (bA [])),(37,.H),(271,.H),(291,.r (Tm.n0 .nil).p)] g0 h0 h0 NN⟩
   | unit=>exact⟨.n0 .unit,a,⟨⟨trivial,by decide,by decide⟩,rfl⟩,ha,o3 1 [(19,.r (bA [])),(37,.H),(337,.r (Tm.n0 .unit).p)] g0 h0 ON⟩
   | two k s u =>
    simp only [Ty.size] at hz2 hg h64 ⊢
    cases k with
    | false =>
     obtain⟨x,b,q1,hb,g1⟩:=yM hL s g (z-1) a (by omega) (by omega) (by omega) ha (by omega);obtain⟨y,c,q2,hc,g2⟩:=yM hL u g (z-1) b (by omega) (by omega) (by omega) hb (by omega);exact⟨.n2 .pair x y,c,⟨⟨⟨q1.sc,q2.sc⟩,by have:=q1.cnt;have:=q2.cnt;simp only [Tm.cnt];omega,by have:=q1.tsz;have:=q2.tsz;simp only [Tm.tsz];omega⟩,WH q1.ty q2.ty (by simp only [Ty.size];omega)⟩,hc,o7 1 [(19,.r (bA [])),(37,.H),(301,.y (z-1)),(302,.D L b (.pv x.p)),(310,.y (z-1)),(311,.D L c (.pv y.p)),(313,.r (Tm.n2 .pair x y).p)] g0 h0 h1 g1 h1 g2 (ID .pair x y)⟩
    | true =>
     obtain⟨x,b,q1,hb,g1⟩:=yM hL u (g++[s]) (z-1) a (by omega) (by omega) (by simp;omega) ha (by omega);have g2:=cD g [s] (by simp;omega);exact⟨.lam s x,b,⟨⟨by have:=q1.sc;simpa [Tm.sc] using this,by have:=q1.cnt;simp only [Tm.cnt];omega,by have:=q1.tsz;simp only [Tm.tsz];omega⟩,TE q1.ty (by simp only [Ty.size];omega)⟩,hb,o6 1 [(19,.r (bA [])),(37,.H),(327,.r (cA (g++[s]))),(333,.y (z-1)),(334,.D L b (.pv x.p)),(336,.r (Tm.lam s x).p)] g0 h0 g2 h1 g1 (UC s x)⟩
  ·cases t with
   | nat =>
    obtain⟨y,b,hy,hb,g1⟩:=nx hL ha0 (n:=3) (by omega) (by omega);have g2:=VH (n:=y);exact⟨TA y,b,(MN g hy).mono (by decide) (by decide),hb,o6 1 [(19,.r (bA (i0::r0))),(25,.D L a0 (.pv (num 0))),(37,.H),(218,.H),(266,.D L b (.pv (num y))),(267,.r (TA y).p)] g0 g00 h0 h0 g1 g2⟩
   | list=>exact⟨.n0 .nil,a0,⟨⟨trivial,by decide,by decide⟩,rfl⟩,ha0,o5 1 [(19,.r (bA (i0::r0))),(25,.D L a0 (.pv (num 0))),(37,.H),(271,.H),(291,.r (Tm.n0 .nil).p)] g0 g00 h0 h0 NN⟩
   | unit=>exact⟨.n0 .unit,a0,⟨⟨trivial,by decide,by decide⟩,rfl⟩,ha0,o4 1 [(19,.r (bA (i0::r0))),(25,.D L a0 (.pv (num 0))),(37,.H),(337,.r (Tm.n0 .unit).p)] g0 g00 h0 ON⟩
   | two k s u =>
    simp only [Ty.size] at hz2 hg h64 ⊢
    cases k with
    | false =>
     obtain⟨x,b,q1,hb,g1⟩:=yM hL s g (z-1) a0 (by omega) (by omega) (by omega) ha0 (by omega);obtain⟨y,c,q2,hc,g2⟩:=yM hL u g (z-1) b (by omega) (by omega) (by omega) hb (by omega);exact⟨.n2 .pair x y,c,⟨⟨⟨q1.sc,q2.sc⟩,by have:=q1.cnt;have:=q2.cnt;simp only [Tm.cnt];omega,by have:=q1.tsz;have:=q2.tsz;simp only [Tm.tsz];omega⟩,WH q1.ty q2.ty (by simp only [Ty.size];omega)⟩,hc,o8 1 [(19,.r (bA (i0::r0))),(25,.D L a0 (.pv (num 0))),(37,.H),(301,.y (z-1)),(302,.D L b (.pv x.p)),(310,.y (z-1)),(311,.D L c (.pv y.p)),(313,.r (Tm.n2 .pair x y).p)] g0 g00 h0 h1 g1 h1 g2 (ID .pair x y)⟩
    | true =>
     obtain⟨x,b,q1,hb,g1⟩:=yM hL u (g++[s]) (z-1) a0 (by omega) (by omega) (by simp;omega) ha0 (by omega);have g2:=cD g [s] (by simp;omega);exact⟨.lam s x,b,⟨⟨by have:=q1.sc;simpa [Tm.sc] using this,by have:=q1.cnt;simp only [Tm.cnt];omega,by have:=q1.tsz;simp only [Tm.tsz];omega⟩,TE q1.ty (by simp only [Ty.size];omega)⟩,hb,o7 1 [(19,.r (bA (i0::r0))),(25,.D L a0 (.pv (num 0))),(37,.H),(327,.r (cA (g++[s]))),(333,.y (z-1)),(334,.D L b (.pv x.p)),(336,.r (Tm.lam s x).p)] g0 g00 h0 g2 h1 g1 (UC s x)⟩
def tb (S:Nat):Nat->Nat
 | 0=>4 * S
 | k+1=>3 * tb S k+200
def uM (L:List Int) (S k:Nat):Prop:=∀ (t:Ty) (g:List Ty) (a:Nat),t.size<=S->(∀ s∈g,s.size<=S)->g.length+3 * k+S<=1000000->a<=L.length->∃ (x:Tm) (b:Nat),TT g t (tb S k) S x/\b<=L.length/\RT L g t (num k) a x b
theorem Et {L:List Int} (hL:Dk L) (S:Nat) (hS:S<=20):uM L S 0:=by
 intro t g a ht hg hl ha;obtain⟨x,b,q,hb,h⟩:=yM hL t g 0 a (Int.le_refl _) (by omega) (by omega) ha (by omega);exact⟨x,b,q.mono (by simp only [tb];omega) ht,hb,h⟩
abbrev z5:List PV:=[.int 0,.int 0,.int 0,.nils,.nils]
abbrev HB:Kp:=⟨[0,1,3,6,8,176,177],[0,1,2],3,[0]⟩
abbrev bg (L:List Int) (g:List Ty) (t:Ty) (k a i:Nat):IS:=st [(0,.loc 0 0),(1,.pv (cA g)),(3,.pv (num (k+1))),(6,.loc 1 0),(8,.loc 2 0),(176,.pv (num (g.map Ty.c).length)),(177,.pv (num i))] [(0,dk L a),(1,bx t.c),(2,bx z5)] 3 [0]
abbrev lD (L:List Int) (g:List Ty) (t:Ty) (k a:Nat):IS:=st [(0,.loc 0 0),(1,.pv (cA g)),(3,.pv (num (k+1))),(6,.loc 1 0),(8,.loc 2 0)] [(0,dk L a),(1,bx t.c),(2,bx z5)] 3 [0]
theorem uY {L:List Int} {S k:Nat} (hk:uM L S k) (t:Ty) {g:List Ty} (hg:∀ s∈g,s.size<=S) (hl:g.length+3 * k+S<=1000000) {a:Nat} (ha:a<=L.length):∀ (r i:Nat),i+r=g.length ->
  Lp 63 0 1 (bg L g t k a i) (.exit 1) (lD L g t k a) \/ ∃ (x:Tm) (b:Nat),TT g t (tb S k+2) S x/\b<=L.length/\Lp 63 0 1 (bg L g t k a i) .ret (st [(8,.loc 2 0)] [(0,dk L b),(2,bx x.c)] 3 [0])
 | 0,i,h=>by
  have e:kA (.ofNat i) (.ofNat (g.map Ty.c).length)=false:=CA (by simp;omega);exact .inl (x1 [(178,.H)] ⟨[0,1,3,6,8],[0,1,2],3,[0]⟩ e)
 | r+1,i,h=>by
  have hm:=jA;have hb:=uA;have e:kA (.ofNat i) (.ofNat (g.map Ty.c).length)=true:=aA (by simp;omega);obtain⟨s,g1,g2,g3,hs,hv⟩:=zY (g:=g) (k:=i);have g6:=AA (a:=i) (b:=1);have ih:=uY hk t hg hl ha r (i+1) (by omega)
  cases s with
  | nat =>
   rcases ih with ih|⟨x,b,q,hb,ih⟩
   ·exact .inl (n6 [(178,.G),(183,.z ((g.map Ty.c).length-1)),(185,.z (g.length-1-i)),(186,.i Ty.nat.c),(212,.z (i+1))] HB e g1 g2 g3 g6 ih)
   ·exact .inr ⟨x,b,q,hb,n6 [(178,.G),(183,.z ((g.map Ty.c).length-1)),(185,.z (g.length-1-i)),(186,.i Ty.nat.c),(212,.z (i+1))] HB e g1 g2 g3 g6 ih⟩
  | list =>
   rcases ih with ih|⟨x,b,q,hb,ih⟩
   ·exact .inl (n6 [(178,.G),(183,.z ((g.map Ty.c).length-1)),(185,.z (g.length-1-i)),(186,.i Ty.list.c),(212,.z (i+1))] HB e g1 g2 g3 g6 ih)
   ·exact .inr ⟨x,b,q,hb,n6 [(178,.G),(183,.z ((g.map Ty.c).length-1)),(185,.z (g.length-1-i)),(186,.i Ty.list.c),(212,.z (i+1))] HB e g1 g2 g3 g6 ih⟩
  | unit =>
   rcases ih with ih|⟨x,b,q,hb,ih⟩
   ·exact .inl (n6 [(178,.G),(183,.z ((g.map Ty.c).length-1)),(185,.z (g.length-1-i)),(186,.i Ty.unit.c),(212,.z (i+1))] HB e g1 g2 g3 g6 ih)
   ·exact .inr ⟨x,b,q,hb,n6 [(178,.G),(183,.z ((g.map Ty.c).length-1)),(185,.z (g.length-1-i)),(186,.i Ty.unit.c),(212,.z (i+1))] HB e g1 g2 g3 g6 ih⟩
  | two c u w =>
   have hu:1+u.size+w.size<=S:=hg _ hs
   cases c with
   | false =>
    rcases ih with ih|⟨x,b,q,hb,ih⟩
    ·exact .inl (n6 [(178,.G),(183,.z ((g.map Ty.c).length-1)),(185,.z (g.length-1-i)),(186,.i (Ty.two false u w).c),(212,.z (i+1))] HB e g1 g2 g3 g6 ih)
    ·exact .inr ⟨x,b,q,hb,n6 [(178,.G),(183,.z ((g.map Ty.c).length-1)),(185,.z (g.length-1-i)),(186,.i (Ty.two false u w).c),(212,.z (i+1))] HB e g1 g2 g3 g6 ih⟩
   | true =>
    have g4:=FD w t;cases hs':w.same t<;>rw [hs'] at g4
    ·rcases ih with ih|⟨x,b,q,hb,ih⟩
     ·exact .inl (n7 [(178,.G),(183,.z ((g.map Ty.c).length-1)),(185,.z (g.length-1-i)),(186,.i (Ty.two true u w).c),(197,.F),(212,.z (i+1))] HB e g1 g2 g3 g4 g6 ih)
     ·exact .inr ⟨x,b,q,hb,n7 [(178,.G),(183,.z ((g.map Ty.c).length-1)),(185,.z (g.length-1-i)),(186,.i (Ty.two true u w).c),(197,.F),(212,.z (i+1))] HB e g1 g2 g3 g4 g6 ih⟩
    ·obtain⟨x,b,q,hb,g7⟩:=hk u g a (by omega) hg hl ha;have g8:=nB (a:=k+1);exact .inr ⟨.n2 .app (.v i) x,b,⟨⟨⟨by show i<g.length;omega,q.sc⟩,by have:=q.cnt;simp only [Tm.cnt];omega,by have:=q.tsz;simp only [Tm.tsz];omega⟩,XC (s:=u) (by show vB g i=_;rw [hv,(uD w t).1 hs']) q.ty⟩,hb,x9 [(178,.G),(183,.z ((g.map Ty.c).length-1)),(185,.z (g.length-1-i)),(186,.i (Ty.two true u w).c),(197,.T),(200,.r (Tm.v i).p),(208,.z k),(209,.D L b (.pv x.p)),(211,.r (Tm.n2 .app (.v i) x).p)] ⟨[8],[0,2],3,[0]⟩ e g1 g2 g3 g4 (gE i) g8 g7 (ID .app (.v i) x)⟩
theorem JD {S:Nat} {g:List Ty} {l:List Ty} (hg:∀ s∈g,s.size<=S) (hl:∀ s∈l,s.size<=S):∀ s∈g++l,s.size<=S:=λ s hs=>by
 rcases List.mem_append.1 hs with h|h
 ·exact hg s h
 ·exact hl s h
theorem ST (n S:Nat) (h:1<=S:=by omega):TG n 50 S plusT:=⟨by simp [plusT,Tm.sc],by decide,Nat.le_trans (by decide:plusT.tsz<=1) h⟩
theorem UT (n S:Nat) (h:1<=S:=by omega):TG n 50 S subT:=⟨by simp [subT,predT,Tm.sc],by decide,Nat.le_trans (by decide:subT.tsz<=1) h⟩
theorem gQ (g:List Ty) (s:Ty):(Tm.v 0).tyR (g++[s]) = .ok s:=by show vB _ _=_;unfold vB;simp
theorem bY (g:List Ty) (s u:Ty):(Tm.v 1).tyR (g++[s]++[u]) = .ok s:=by show vB _ _=_;unfold vB;simp
theorem lQ {g:List Ty} {b:Tm} (h:b.tyR (g++[.nat]++[.nat]) = .ok .nat):(Tm.lam .nat (.lam .nat b)).tyR g = .ok (.two true .nat (.two true .nat .nat)):=TE (TE h (by decide)) (by decide)
theorem VT (g:List Ty):plusT.tyR g = .ok (.two true .nat (.two true .nat .nat)):=lQ (fQ (bY _ _ _) (lQ (dQ (gQ _ _))) (gQ _ _))
theorem Ft (g:List Ty):predT.tyR g = .ok (.two true .nat .nat):=TE (fQ rfl (lQ (bY _ _ _)) (gQ _ _)) (by decide)
theorem WT (g:List Ty):subT.tyR g = .ok (.two true .nat (.two true .nat .nat)):=lQ (fQ (bY _ _ _) (lQ (XC (Ft _) (gQ _ _))) (gQ _ _))
theorem Gt {L:List Int} (hL:Dk L) {S k:Nat} (hS:3<=S) (hS2:S<=20) (hk:uM L S k):uM L S (k+1):=by
 intro t g a ht hg hl ha;have hm:=jA;have hb:=uA;have gs:=nB (a:=k+1);have etb:tb S (k+1)=3 * tb S k+200:=rfl;rcases yg hL (g:=g) (t:=t) (by omega) (num (k+1)) ha with ⟨i,b,hi,hb,h⟩|g0|⟨i0,r0,a0,ha0,g0,g00⟩
 ·exact⟨.v i,b,⟨⟨ug hi,by simp only [Tm.cnt];omega,Nat.zero_le _⟩,hi⟩,hb,h⟩
 ·obtain⟨w,b,hw,hb1,gw⟩:=nx hL ha (n:=8) (by omega) (by omega);rcases w with _|_|_|_|_|_|w
  ·obtain⟨s,c,zs,hc,g1⟩:=WC hL 0 (by omega) hb1;have zs:s.size<=1:=zs;obtain⟨x,d,q1,hd,g2⟩:=hk t (g++[s]) c ht (JD hg (by simp;omega)) (by simp;omega) hc;obtain⟨y,e,q2,he,g3⟩:=hk s g d (by omega) hg (by omega) hd;have g4:=cD g [s] (by simp;omega);exact⟨.n2 .app (.lam s x) y,e,⟨⟨⟨by have:=q1.sc;simpa [Tm.sc] using this,q2.sc⟩,by have:=q1.cnt;have:=q2.cnt;simp only [Tm.cnt];omega,by have:=q1.tsz;have:=q2.tsz;simp only [Tm.tsz];omega⟩,XC (TE q1.ty (by simp only [Ty.size];omega)) q2.ty⟩,he,jC 1 [(19,.r (bA [])),(39,.D L b (.pv (num 0))),(43,.D L c (.pv s.p)),(49,.r (cA (g++[s]))),(52,.z k),(53,.D L d (.pv x.p)),(55,.r (Tm.lam s x).p),(60,.z k),(61,.D L e (.pv y.p)),(63,.r (Tm.n2 .app (.lam s x) y).p)] g0 gw g1 g4 gs g2 (UC s x) gs g3 (ID .app (.lam s x) y)⟩
  ·obtain⟨s,c,zs,hc,g1⟩:=WC hL 0 (by omega) hb1;have zs:s.size<=1:=zs;obtain⟨x,d,q1,hd,g2⟩:=hk t g c ht hg (by omega) hc;obtain⟨y,e,q2,he,g3⟩:=hk s g d (by omega) hg (by omega) hd;exact⟨.n1 .fst (.n2 .pair x y),e,⟨⟨⟨q1.sc,q2.sc⟩,by have:=q1.cnt;have:=q2.cnt;simp only [Tm.cnt];omega,by have:=q1.tsz;have:=q2.tsz;simp only [Tm.tsz];omega⟩,vg (WH q1.ty q2.ty (by simp only [Ty.size];omega))⟩,he,o9 1 [(19,.r (bA [])),(39,.D L b (.pv (num 1))),(67,.D L c (.pv s.p)),(72,.z k),(73,.D L d (.pv x.p)),(78,.z k),(79,.D L e (.pv y.p)),(81,.r (Tm.n2 .pair x y).p),(83,.r (Tm.n1 .fst (.n2 .pair x y)).p)] g0 gw g1 gs g2 gs g3 (ID .pair x y) (IK .fst (.n2 .pair x y))⟩
  ·obtain⟨x,c,q1,hc,g1⟩:=hk t (g++[.nat,t]) b ht (JD hg (by simp [Ty.size];omega)) (by simp;omega) hb1;obtain⟨y,d,q2,hd,g2⟩:=hk t g c ht hg (by omega) hc;obtain⟨v,e,hv,he,g3⟩:=nx hL hd (n:=3) (by omega) (by omega);have g4:=cD g [.nat,t] (by simp;omega);have g5:=VH (n:=v);have qn:TG g.length 4 0 (TA v):=wY hv;exact⟨.n3 .re t y (.lam .nat (.lam t x)) (TA v),e,⟨⟨⟨q2.sc,by have:=q1.sc;simpa [Tm.sc] using this,qn.sc⟩,by have:=q1.cnt;have:=q2.cnt;have:=qn.cnt;simp only [Tm.cnt];omega,by have:=q1.tsz;have:=q2.tsz;have:=qn.tsz;simp only [Tm.tsz,Ty.size];omega⟩,fQ q2.ty (yY q1.ty (by simp only [Ty.size];omega)) (LN g v)⟩,he,jn 1 [(19,.r (bA [])),(39,.D L b (.pv (num 2))),(86,.Y),(90,.Y),(93,.r (cA (g++[.nat,t]))),(96,.z k),(97,.D L c (.pv x.p)),(99,.r (Tm.lam t x).p),(101,.r (Tm.lam .nat (.lam t x)).p),(107,.z k),(108,.D L d (.pv y.p)),(111,.D L e (.pv (num v))),(112,.r (TA v).p),(114,.r (Tm.n3 .re t y (.lam .nat (.lam t x)) (TA v)).p)] g0 gw iA iA g4 gs g1 (UC t x) (UC .nat (.lam t x)) gs g2 g3 g5 (JL .re t y (.lam .nat (.lam t x)) (TA v))⟩
  ·obtain⟨x,c,q1,hc,g1⟩:=hk t (g++[.nat,.list,t]) b ht (JD hg (by simp [Ty.size];omega)) (by simp;omega) hb1;obtain⟨y,d,q2,hd,g2⟩:=hk t g c ht hg (by omega) hc;obtain⟨v,e,q3,he,g3⟩:=hk .list g d (by simp only [Ty.size];omega) hg (by omega) hd;have g4:=cD g [.nat,.list,t] (by simp;omega);exact⟨.n3 .fo t y (.lam .nat (.lam .list (.lam t x))) v,e,⟨⟨⟨q2.sc,by have:=q1.sc;simpa [Tm.sc] using this,q3.sc⟩,by have:=q1.cnt;have:=q2.cnt;have:=q3.cnt;simp only [Tm.cnt];omega,by have:=q1.tsz;have:=q2.tsz;have:=q3.tsz;simp only [Tm.tsz,Ty.size];omega⟩,kg q2.ty (jg q1.ty (by simp only [Ty.size];omega)) q3.ty⟩,he,vd 1 [(19,.r (bA [])),(39,.D L b (.pv (num 3))),(117,.Y),(118,.r Ty.list.p),(122,.Y),(123,.r Ty.list.p),(126,.r (cA (g++[.nat,.list,t]))),(129,.z k),(130,.D L c (.pv x.p)),(132,.r (Tm.lam t x).p),(134,.r (Tm.lam .list (.lam t x)).p),(136,.r (Tm.lam .nat (.lam .list (.lam t x))).p),(142,.z k),(143,.D L d (.pv y.p)),(147,.r Ty.list.p),(149,.z k),(150,.D L e (.pv v.p)),(152,.r (Tm.n3 .fo t y (.lam .nat (.lam .list (.lam t x))) v).p)] g0 gw iA HK iA HK g4 gs g1 (UC t x) (UC .list (.lam t x)) (UC .nat (.lam .list (.lam t x))) gs g2 HK gs g3 (JL .fo t y (.lam .nat (.lam .list (.lam t x))) v)⟩
  ·obtain⟨s,c,zs,hc,g1⟩:=WC hL 0 (by omega) hb1;have zs:s.size<=1:=zs;obtain⟨y,d,q2,hd,g2⟩:=hk s g c (by omega) hg (by omega) hc;obtain⟨x,e,q1,he,g3⟩:=hk t g d ht hg (by omega) hd;exact⟨.n1 .snd (.n2 .pair y x),e,⟨⟨⟨q2.sc,q1.sc⟩,by have:=q1.cnt;have:=q2.cnt;simp only [Tm.cnt];omega,by have:=q1.tsz;have:=q2.tsz;simp only [Tm.tsz];omega⟩,wg (WH q2.ty q1.ty (by simp only [Ty.size];omega))⟩,he,o9 1 [(19,.r (bA [])),(39,.D L b (.pv (num 4))),(156,.D L c (.pv s.p)),(161,.z k),(162,.D L d (.pv y.p)),(167,.z k),(168,.D L e (.pv x.p)),(170,.r (Tm.n2 .pair y x).p),(172,.r (Tm.n1 .snd (.n2 .pair y x)).p)] g0 gw g1 gs g2 gs g3 (ID .pair y x) (IK .snd (.n2 .pair y x))⟩
  ·rcases uY hk t hg (by omega) hb1 g.length 0 (by omega) with gl|⟨x,c,q,hc,gl⟩
   ·have gl:=gl
    cases t with
    | unit=>exact⟨.n0 .unit,b,⟨⟨trivial,by simp only [Tm.cnt];omega,Nat.zero_le _⟩,rfl⟩,hb1,o4 1 [(19,.r (bA [])),(39,.D L b (.pv (num 5))),(100023,.l HB (.exit 1) (lD L g .unit k b)),(337,.r (Tm.n0 .unit).p)] g0 gw gl ON⟩
    | nat =>
     obtain⟨m,c,hm1,hc,gm⟩:=nx hL hb1 (n:=5) (by omega) (by omega);obtain⟨x,d,q1,hd,g1⟩:=hk .nat g c ht hg (by omega) hc;obtain⟨y,e,q2,he,g2⟩:=hk .nat g d ht hg (by omega) hd;rcases m with _|_|_|m
     ·exact⟨.n1 .succ x,d,⟨⟨q1.sc,by have:=q1.cnt;simp only [Tm.cnt];omega,by have:=q1.tsz;simp only [Tm.tsz];omega⟩,dQ q1.ty⟩,hd,o7 1 [(19,.r (bA [])),(39,.D L b (.pv (num 5))),(100023,.l HB (.exit 1) (lD L g .nat k b)),(220,.D L c (.pv (num 0))),(227,.z k),(228,.D L d (.pv x.p)),(230,.r (Tm.n1 .succ x).p)] g0 gw gl gm gs g1 (IK .succ x)⟩
     ·have qT:=ST g.length S;exact⟨.n2 .app (.n2 .app plusT x) y,e,⟨⟨⟨⟨qT.sc,q1.sc⟩,q2.sc⟩,by have:=q1.cnt;have:=q2.cnt;have:=qT.cnt;simp only [Tm.cnt];omega,by have:=q1.tsz;have:=q2.tsz;have:=qT.tsz;simp only [Tm.tsz];omega⟩,XC (XC (VT g) q1.ty) q2.ty⟩,he,jC 1 [(19,.r (bA [])),(39,.D L b (.pv (num 5))),(100023,.l HB (.exit 1) (lD L g .nat k b)),(220,.D L c (.pv (num 1))),(233,.r plusT.p),(238,.z k),(239,.D L d (.pv x.p)),(244,.z k),(245,.D L e (.pv y.p)),(247,.r (Tm.n2 .app (.n2 .app plusT x) y).p)] g0 gw gl gm iP gs g1 gs g2 (vJ plusT x y)⟩
     ·have qT:=UT g.length S;exact⟨.n2 .app (.n2 .app subT x) y,e,⟨⟨⟨⟨qT.sc,q1.sc⟩,q2.sc⟩,by have:=q1.cnt;have:=q2.cnt;have:=qT.cnt;simp only [Tm.cnt];omega,by have:=q1.tsz;have:=q2.tsz;have:=qT.tsz;simp only [Tm.tsz];omega⟩,XC (XC (WT g) q1.ty) q2.ty⟩,he,jC 1 [(19,.r (bA [])),(39,.D L b (.pv (num 5))),(100023,.l HB (.exit 1) (lD L g .nat k b)),(220,.D L c (.pv (num 2))),(250,.r subT.p),(255,.z k),(256,.D L d (.pv x.p)),(261,.z k),(262,.D L e (.pv y.p)),(264,.r (Tm.n2 .app (.n2 .app subT x) y).p)] g0 gw gl gm cS gs g1 gs g2 (vJ subT x y)⟩
     ·obtain⟨v,d,hv,hd,gv⟩:=nx hL hc (n:=3) (by omega) (by omega);have gn:=VH (n:=v);exact⟨TA v,d,(MN g hv).mono (by omega) (Nat.zero_le _),hd,o6 1 [(19,.r (bA [])),(39,.D L b (.pv (num 5))),(100023,.l HB (.exit 1) (lD L g .nat k b)),(220,.D L c (.pv (num (m+3)))),(266,.D L d (.pv (num v))),(267,.r (TA v).p)] g0 gw gl gm gv gn⟩
    | list =>
     obtain⟨m,c,hm1,hc,gm⟩:=nx hL hb1 (n:=2) (by omega) (by omega)
     cases m with
     | zero =>
      obtain⟨x,d,q1,hd,g1⟩:=hk .nat g c (by simp only [Ty.size];omega) hg (by omega) hc;obtain⟨y,e,q2,he,g2⟩:=hk .list g d ht hg (by omega) hd;exact⟨.n2 .cons x y,e,⟨⟨⟨q1.sc,q2.sc⟩,by have:=q1.cnt;have:=q2.cnt;simp only [Tm.cnt];omega,by have:=q1.tsz;have:=q2.tsz;simp only [Tm.tsz];omega⟩,QT q1.ty q2.ty⟩,he,jC 1 [(19,.r (bA [])),(39,.D L b (.pv (num 5))),(100023,.l HB (.exit 1) (lD L g .list k b)),(274,.D L c (.pv (num 0))),(279,.Y),(281,.z k),(282,.D L d (.pv x.p)),(287,.z k),(288,.D L e (.pv y.p)),(290,.r (Tm.n2 .cons x y).p)] g0 gw gl gm iA gs g1 gs g2 (ID .cons x y)⟩
     | succ m=>exact⟨.n0 .nil,c,⟨⟨trivial,by simp only [Tm.cnt];omega,Nat.zero_le _⟩,rfl⟩,hc,o5 1 [(19,.r (bA [])),(39,.D L b (.pv (num 5))),(100023,.l HB (.exit 1) (lD L g .list k b)),(274,.D L c (.pv (num (m+1)))),(291,.r (Tm.n0 .nil).p)] g0 gw gl gm NN⟩
    | two j s u =>
     have ht:1+s.size+u.size<=S:=ht
     cases j with
     | false =>
      obtain⟨x,d,q1,hd,g1⟩:=hk s g b (by omega) hg (by omega) hb1;obtain⟨y,e,q2,he,g2⟩:=hk u g d (by omega) hg (by omega) hd;exact⟨.n2 .pair x y,e,⟨⟨⟨q1.sc,q2.sc⟩,by have:=q1.cnt;have:=q2.cnt;simp only [Tm.cnt];omega,by have:=q1.tsz;have:=q2.tsz;simp only [Tm.tsz];omega⟩,WH q1.ty q2.ty (by simp only [Ty.size];omega)⟩,he,o8 1 [(19,.r (bA [])),(39,.D L b (.pv (num 5))),(100023,.l HB (.exit 1) (lD L g (.two false s u) k b)),(301,.z k),(302,.D L d (.pv x.p)),(310,.z k),(311,.D L e (.pv y.p)),(313,.r (Tm.n2 .pair x y).p)] g0 gw gl gs g1 gs g2 (ID .pair x y)⟩
     | true =>
      obtain⟨x,d,q1,hd,g1⟩:=hk u (g++[s]) b (by omega) (JD hg (by simp;omega)) (by simp;omega) hb1;have g2:=cD g [s] (by simp;omega);exact⟨.lam s x,d,⟨⟨(by have:=q1.sc;simpa [Tm.sc] using this),by have:=q1.cnt;simp only [Tm.cnt];omega,by have:=q1.tsz;simp only [Tm.tsz];omega⟩,TE q1.ty (by simp only [Ty.size];omega)⟩,hd,o7 1 [(19,.r (bA [])),(39,.D L b (.pv (num 5))),(100023,.l HB (.exit 1) (lD L g (.two true s u) k b)),(327,.r (cA (g++[s]))),(333,.z k),(334,.D L d (.pv x.p)),(336,.r (Tm.lam s x).p)] g0 gw gl g2 gs g1 (UC s x)⟩
   ·exact⟨x,c,q.mono (by omega) (Nat.le_refl _),hc,o3 1 [(19,.r (bA [])),(39,.D L b (.pv (num 5))),(100023,.l HB .ret (st [(8,.loc 2 0)] [(0,dk L c),(2,bx x.c)] 3 [0]))] g0 gw gl⟩
  ·have hw:=hw
   cases t with
   | unit=>exact⟨.n0 .unit,b,⟨⟨trivial,by simp only [Tm.cnt];omega,Nat.zero_le _⟩,rfl⟩,hb1,o3 1 [(19,.r (bA [])),(39,.D L b (.pv (num (w+6)))),(337,.r (Tm.n0 .unit).p)] g0 gw ON⟩
   | nat =>
    obtain⟨m,c,hm1,hc,gm⟩:=nx hL hb1 (n:=5) (by omega) (by omega);obtain⟨x,d,q1,hd,g1⟩:=hk .nat g c ht hg (by omega) hc;obtain⟨y,e,q2,he,g2⟩:=hk .nat g d ht hg (by omega) hd;rcases m with _|_|_|m
    ·exact⟨.n1 .succ x,d,⟨⟨q1.sc,by have:=q1.cnt;simp only [Tm.cnt];omega,by have:=q1.tsz;simp only [Tm.tsz];omega⟩,dQ q1.ty⟩,hd,o6 1 [(19,.r (bA [])),(39,.D L b (.pv (num (w+6)))),(220,.D L c (.pv (num 0))),(227,.z k),(228,.D L d (.pv x.p)),(230,.r (Tm.n1 .succ x).p)] g0 gw gm gs g1 (IK .succ x)⟩
    ·have qT:=ST g.length S;exact⟨.n2 .app (.n2 .app plusT x) y,e,⟨⟨⟨⟨qT.sc,q1.sc⟩,q2.sc⟩,by have:=q1.cnt;have:=q2.cnt;have:=qT.cnt;simp only [Tm.cnt];omega,by have:=q1.tsz;have:=q2.tsz;have:=qT.tsz;simp only [Tm.tsz];omega⟩,XC (XC (VT g) q1.ty) q2.ty⟩,he,o9 1 [(19,.r (bA [])),(39,.D L b (.pv (num (w+6)))),(220,.D L c (.pv (num 1))),(233,.r plusT.p),(238,.z k),(239,.D L d (.pv x.p)),(244,.z k),(245,.D L e (.pv y.p)),(247,.r (Tm.n2 .app (.n2 .app plusT x) y).p)] g0 gw gm iP gs g1 gs g2 (vJ plusT x y)⟩
    ·have qT:=UT g.length S;exact⟨.n2 .app (.n2 .app subT x) y,e,⟨⟨⟨⟨qT.sc,q1.sc⟩,q2.sc⟩,by have:=q1.cnt;have:=q2.cnt;have:=qT.cnt;simp only [Tm.cnt];omega,by have:=q1.tsz;have:=q2.tsz;have:=qT.tsz;simp only [Tm.tsz];omega⟩,XC (XC (WT g) q1.ty) q2.ty⟩,he,o9 1 [(19,.r (bA [])),(39,.D L b (.pv (num (w+6)))),(220,.D L c (.pv (num 2))),(250,.r subT.p),(255,.z k),(256,.D L d (.pv x.p)),(261,.z k),(262,.D L e (.pv y.p)),(264,.r (Tm.n2 .app (.n2 .app subT x) y).p)] g0 gw gm cS gs g1 gs g2 (vJ subT x y)⟩
    ·obtain⟨v,d,hv,hd,gv⟩:=nx hL hc (n:=3) (by omega) (by omega);have gn:=VH (n:=v);exact⟨TA v,d,(MN g hv).mono (by omega) (Nat.zero_le _),hd,o5 1 [(19,.r (bA [])),(39,.D L b (.pv (num (w+6)))),(220,.D L c (.pv (num (m+3)))),(266,.D L d (.pv (num v))),(267,.r (TA v).p)] g0 gw gm gv gn⟩
   | list =>
    obtain⟨m,c,hm1,hc,gm⟩:=nx hL hb1 (n:=2) (by omega) (by omega)
    cases m with
    | zero =>
     obtain⟨x,d,q1,hd,g1⟩:=hk .nat g c (by simp only [Ty.size];omega) hg (by omega) hc;obtain⟨y,e,q2,he,g2⟩:=hk .list g d ht hg (by omega) hd;exact⟨.n2 .cons x y,e,⟨⟨⟨q1.sc,q2.sc⟩,by have:=q1.cnt;have:=q2.cnt;simp only [Tm.cnt];omega,by have:=q1.tsz;have:=q2.tsz;simp only [Tm.tsz];omega⟩,QT q1.ty q2.ty⟩,he,o9 1 [(19,.r (bA [])),(39,.D L b (.pv (num (w+6)))),(274,.D L c (.pv (num 0))),(279,.Y),(281,.z k),(282,.D L d (.pv x.p)),(287,.z k),(288,.D L e (.pv y.p)),(290,.r (Tm.n2 .cons x y).p)] g0 gw gm iA gs g1 gs g2 (ID .cons x y)⟩
    | succ m=>exact⟨.n0 .nil,c,⟨⟨trivial,by simp only [Tm.cnt];omega,Nat.zero_le _⟩,rfl⟩,hc,o4 1 [(19,.r (bA [])),(39,.D L b (.pv (num (w+6)))),(274,.D L c (.pv (num (m+1)))),(291,.r (Tm.n0 .nil).p)] g0 gw gm NN⟩
   | two j s u =>
    have ht:1+s.size+u.size<=S:=ht
    cases j with
    | false =>
     obtain⟨x,d,q1,hd,g1⟩:=hk s g b (by omega) hg (by omega) hb1;obtain⟨y,e,q2,he,g2⟩:=hk u g d (by omega) hg (by omega) hd;exact⟨.n2 .pair x y,e,⟨⟨⟨q1.sc,q2.sc⟩,by have:=q1.cnt;have:=q2.cnt;simp only [Tm.cnt];omega,by have:=q1.tsz;have:=q2.tsz;simp only [Tm.tsz];omega⟩,WH q1.ty q2.ty (by simp only [Ty.size];omega)⟩,he,o7 1 [(19,.r (bA [])),(39,.D L b (.pv (num (w+6)))),(301,.z k),(302,.D L d (.pv x.p)),(310,.z k),(311,.D L e (.pv y.p)),(313,.r (Tm.n2 .pair x y).p)] g0 gw gs g1 gs g2 (ID .pair x y)⟩
    | true =>
     obtain⟨x,d,q1,hd,g1⟩:=hk u (g++[s]) b (by omega) (JD hg (by simp;omega)) (by simp;omega) hb1;have g2:=cD g [s] (by simp;omega);exact⟨.lam s x,d,⟨⟨(by have:=q1.sc;simpa [Tm.sc] using this),by have:=q1.cnt;simp only [Tm.cnt];omega,by have:=q1.tsz;simp only [Tm.tsz];omega⟩,TE q1.ty (by simp only [Ty.size];omega)⟩,hd,o6 1 [(19,.r (bA [])),(39,.D L b (.pv (num (w+6)))),(327,.r (cA (g++[s]))),(333,.z k),(334,.D L d (.pv x.p)),(336,.r (Tm.lam s x).p)] g0 gw g2 gs g1 (UC s x)⟩
 ·obtain⟨w,b,hw,hb1,gw⟩:=nx hL ha0 (n:=8) (by omega) (by omega);rcases w with _|_|_|_|_|_|w
  ·obtain⟨s,c,zs,hc,g1⟩:=WC hL 0 (by omega) hb1;have zs:s.size<=1:=zs;obtain⟨x,d,q1,hd,g2⟩:=hk t (g++[s]) c ht (JD hg (by simp;omega)) (by simp;omega) hc;obtain⟨y,e,q2,he,g3⟩:=hk s g d (by omega) hg (by omega) hd;have g4:=cD g [s] (by simp;omega);exact⟨.n2 .app (.lam s x) y,e,⟨⟨⟨by have:=q1.sc;simpa [Tm.sc] using this,q2.sc⟩,by have:=q1.cnt;have:=q2.cnt;simp only [Tm.cnt];omega,by have:=q1.tsz;have:=q2.tsz;simp only [Tm.tsz];omega⟩,XC (TE q1.ty (by simp only [Ty.size];omega)) q2.ty⟩,he,eI 1 [(19,.r (bA (i0::r0))),(25,.D L a0 (.pv (num 0))),(39,.D L b (.pv (num 0))),(43,.D L c (.pv s.p)),(49,.r (cA (g++[s]))),(52,.z k),(53,.D L d (.pv x.p)),(55,.r (Tm.lam s x).p),(60,.z k),(61,.D L e (.pv y.p)),(63,.r (Tm.n2 .app (.lam s x) y).p)] g0 g00 gw g1 g4 gs g2 (UC s x) gs g3 (ID .app (.lam s x) y)⟩
  ·obtain⟨s,c,zs,hc,g1⟩:=WC hL 0 (by omega) hb1;have zs:s.size<=1:=zs;obtain⟨x,d,q1,hd,g2⟩:=hk t g c ht hg (by omega) hc;obtain⟨y,e,q2,he,g3⟩:=hk s g d (by omega) hg (by omega) hd;exact⟨.n1 .fst (.n2 .pair x y),e,⟨⟨⟨q1.sc,q2.sc⟩,by have:=q1.cnt;have:=q2.cnt;simp only [Tm.cnt];omega,by have:=q1.tsz;have:=q2.tsz;simp only [Tm.tsz];omega⟩,vg (WH q1.ty q2.ty (by simp only [Ty.size];omega))⟩,he,jC 1 [(19,.r (bA (i0::r0))),(25,.D L a0 (.pv (num 0))),(39,.D L b (.pv (num 1))),(67,.D L c (.pv s.p)),(72,.z k),(73,.D L d (.pv x.p)),(78,.z k),(79,.D L e (.pv y.p)),(81,.r (Tm.n2 .pair x y).p),(83,.r (Tm.n1 .fst (.n2 .pair x y)).p)] g0 g00 gw g1 gs g2 gs g3 (ID .pair x y) (IK .fst (.n2 .pair x y))⟩
  ·obtain⟨x,c,q1,hc,g1⟩:=hk t (g++[.nat,t]) b ht (JD hg (by simp [Ty.size];omega)) (by simp;omega) hb1;obtain⟨y,d,q2,hd,g2⟩:=hk t g c ht hg (by omega) hc;obtain⟨v,e,hv,he,g3⟩:=nx hL hd (n:=3) (by omega) (by omega);have g4:=cD g [.nat,t] (by simp;omega);have g5:=VH (n:=v);have qn:TG g.length 4 0 (TA v):=wY hv;exact⟨.n3 .re t y (.lam .nat (.lam t x)) (TA v),e,⟨⟨⟨q2.sc,by have:=q1.sc;simpa [Tm.sc] using this,qn.sc⟩,by have:=q1.cnt;have:=q2.cnt;have:=qn.cnt;simp only [Tm.cnt];omega,by have:=q1.tsz;have:=q2.tsz;have:=qn.tsz;simp only [Tm.tsz,Ty.size];omega⟩,fQ q2.ty (yY q1.ty (by simp only [Ty.size];omega)) (LN g v)⟩,he,vn 1 [(19,.r (bA (i0::r0))),(25,.D L a0 (.pv (num 0))),(39,.D L b (.pv (num 2))),(86,.Y),(90,.Y),(93,.r (cA (g++[.nat,t]))),(96,.z k),(97,.D L c (.pv x.p)),(99,.r (Tm.lam t x).p),(101,.r (Tm.lam .nat (.lam t x)).p),(107,.z k),(108,.D L d (.pv y.p)),(111,.D L e (.pv (num v))),(112,.r (TA v).p),(114,.r (Tm.n3 .re t y (.lam .nat (.lam t x)) (TA v)).p)] g0 g00 gw iA iA g4 gs g1 (UC t x) (UC .nat (.lam t x)) gs g2 g3 g5 (JL .re t y (.lam .nat (.lam t x)) (TA v))⟩
  ·obtain⟨x,c,q1,hc,g1⟩:=hk t (g++[.nat,.list,t]) b ht (JD hg (by simp [Ty.size];omega)) (by simp;omega) hb1;obtain⟨y,d,q2,hd,g2⟩:=hk t g c ht hg (by omega) hc;obtain⟨v,e,q3,he,g3⟩:=hk .list g d (by simp only [Ty.size];omega) hg (by omega) hd;have g4:=cD g [.nat,.list,t] (by simp;omega);exact⟨.n3 .fo t y (.lam .nat (.lam .list (.lam t x))) v,e,⟨⟨⟨q2.sc,by have:=q1.sc;simpa [Tm.sc] using this,q3.sc⟩,by have:=q1.cnt;have:=q2.cnt;have:=q3.cnt;simp only [Tm.cnt];omega,by have:=q1.tsz;have:=q2.tsz;have:=q3.tsz;simp only [Tm.tsz,Ty.size];omega⟩,kg q2.ty (jg q1.ty (by simp only [Ty.size];omega)) q3.ty⟩,he,yn 1 [(19,.r (bA (i0::r0))),(25,.D L a0 (.pv (num 0))),(39,.D L b (.pv (num 3))),(117,.Y),(118,.r Ty.list.p),(122,.Y),(123,.r Ty.list.p),(126,.r (cA (g++[.nat,.list,t]))),(129,.z k),(130,.D L c (.pv x.p)),(132,.r (Tm.lam t x).p),(134,.r (Tm.lam .list (.lam t x)).p),(136,.r (Tm.lam .nat (.lam .list (.lam t x))).p),(142,.z k),(143,.D L d (.pv y.p)),(147,.r Ty.list.p),(149,.z k),(150,.D L e (.pv v.p)),(152,.r (Tm.n3 .fo t y (.lam .nat (.lam .list (.lam t x))) v).p)] g0 g00 gw iA HK iA HK g4 gs g1 (UC t x) (UC .list (.lam t x)) (UC .nat (.lam .list (.lam t x))) gs g2 HK gs g3 (JL .fo t y (.lam .nat (.lam .list (.lam t x))) v)⟩
  ·obtain⟨s,c,zs,hc,g1⟩:=WC hL 0 (by omega) hb1;have zs:s.size<=1:=zs;obtain⟨y,d,q2,hd,g2⟩:=hk s g c (by omega) hg (by omega) hc;obtain⟨x,e,q1,he,g3⟩:=hk t g d ht hg (by omega) hd;exact⟨.n1 .snd (.n2 .pair y x),e,⟨⟨⟨q2.sc,q1.sc⟩,by have:=q1.cnt;have:=q2.cnt;simp only [Tm.cnt];omega,by have:=q1.tsz;have:=q2.tsz;simp only [Tm.tsz];omega⟩,wg (WH q2.ty q1.ty (by simp only [Ty.size];omega))⟩,he,jC 1 [(19,.r (bA (i0::r0))),(25,.D L a0 (.pv (num 0))),(39,.D L b (.pv (num 4))),(156,.D L c (.pv s.p)),(161,.z k),(162,.D L d (.pv y.p)),(167,.z k),(168,.D L e (.pv x.p)),(170,.r (Tm.n2 .pair y x).p),(172,.r (Tm.n1 .snd (.n2 .pair y x)).p)] g0 g00 gw g1 gs g2 gs g3 (ID .pair y x) (IK .snd (.n2 .pair y x))⟩
  ·rcases uY hk t hg (by omega) hb1 g.length 0 (by omega) with gl|⟨x,c,q,hc,gl⟩
   ·have gl:=gl
    cases t with
    | unit=>exact⟨.n0 .unit,b,⟨⟨trivial,by simp only [Tm.cnt];omega,Nat.zero_le _⟩,rfl⟩,hb1,o5 1 [(19,.r (bA (i0::r0))),(25,.D L a0 (.pv (num 0))),(39,.D L b (.pv (num 5))),(100023,.l HB (.exit 1) (lD L g .unit k b)),(337,.r (Tm.n0 .unit).p)] g0 g00 gw gl ON⟩
    | nat =>
     obtain⟨m,c,hm1,hc,gm⟩:=nx hL hb1 (n:=5) (by omega) (by omega);obtain⟨x,d,q1,hd,g1⟩:=hk .nat g c ht hg (by omega) hc;obtain⟨y,e,q2,he,g2⟩:=hk .nat g d ht hg (by omega) hd;rcases m with _|_|_|m
     ·exact⟨.n1 .succ x,d,⟨⟨q1.sc,by have:=q1.cnt;simp only [Tm.cnt];omega,by have:=q1.tsz;simp only [Tm.tsz];omega⟩,dQ q1.ty⟩,hd,o8 1 [(19,.r (bA (i0::r0))),(25,.D L a0 (.pv (num 0))),(39,.D L b (.pv (num 5))),(100023,.l HB (.exit 1) (lD L g .nat k b)),(220,.D L c (.pv (num 0))),(227,.z k),(228,.D L d (.pv x.p)),(230,.r (Tm.n1 .succ x).p)] g0 g00 gw gl gm gs g1 (IK .succ x)⟩
     ·have qT:=ST g.length S;exact⟨.n2 .app (.n2 .app plusT x) y,e,⟨⟨⟨⟨qT.sc,q1.sc⟩,q2.sc⟩,by have:=q1.cnt;have:=q2.cnt;have:=qT.cnt;simp only [Tm.cnt];omega,by have:=q1.tsz;have:=q2.tsz;have:=qT.tsz;simp only [Tm.tsz];omega⟩,XC (XC (VT g) q1.ty) q2.ty⟩,he,eI 1 [(19,.r (bA (i0::r0))),(25,.D L a0 (.pv (num 0))),(39,.D L b (.pv (num 5))),(100023,.l HB (.exit 1) (lD L g .nat k b)),(220,.D L c (.pv (num 1))),(233,.r plusT.p),(238,.z k),(239,.D L d (.pv x.p)),(244,.z k),(245,.D L e (.pv y.p)),(247,.r (Tm.n2 .app (.n2 .app plusT x) y).p)] g0 g00 gw gl gm iP gs g1 gs g2 (vJ plusT x y)⟩
     ·have qT:=UT g.length S;exact⟨.n2 .app (.n2 .app subT x) y,e,⟨⟨⟨⟨qT.sc,q1.sc⟩,q2.sc⟩,by have:=q1.cnt;have:=q2.cnt;have:=qT.cnt;simp only [Tm.cnt];omega,by have:=q1.tsz;have:=q2.tsz;have:=qT.tsz;simp only [Tm.tsz];omega⟩,XC (XC (WT g) q1.ty) q2.ty⟩,he,eI 1 [(19,.r (bA (i0::r0))),(25,.D L a0 (.pv (num 0))),(39,.D L b (.pv (num 5))),(100023,.l HB (.exit 1) (lD L g .nat k b)),(220,.D L c (.pv (num 2))),(250,.r subT.p),(255,.z k),(256,.D L d (.pv x.p)),(261,.z k),(262,.D L e (.pv y.p)),(264,.r (Tm.n2 .app (.n2 .app subT x) y).p)] g0 g00 gw gl gm cS gs g1 gs g2 (vJ subT x y)⟩
     ·obtain⟨v,d,hv,hd,gv⟩:=nx hL hc (n:=3) (by omega) (by omega);have gn:=VH (n:=v);exact⟨TA v,d,(MN g hv).mono (by omega) (Nat.zero_le _),hd,o7 1 [(19,.r (bA (i0::r0))),(25,.D L a0 (.pv (num 0))),(39,.D L b (.pv (num 5))),(100023,.l HB (.exit 1) (lD L g .nat k b)),(220,.D L c (.pv (num (m+3)))),(266,.D L d (.pv (num v))),(267,.r (TA v).p)] g0 g00 gw gl gm gv gn⟩
    | list =>
     obtain⟨m,c,hm1,hc,gm⟩:=nx hL hb1 (n:=2) (by omega) (by omega)
     cases m with
     | zero =>
      obtain⟨x,d,q1,hd,g1⟩:=hk .nat g c (by simp only [Ty.size];omega) hg (by omega) hc;obtain⟨y,e,q2,he,g2⟩:=hk .list g d ht hg (by omega) hd;exact⟨.n2 .cons x y,e,⟨⟨⟨q1.sc,q2.sc⟩,by have:=q1.cnt;have:=q2.cnt;simp only [Tm.cnt];omega,by have:=q1.tsz;have:=q2.tsz;simp only [Tm.tsz];omega⟩,QT q1.ty q2.ty⟩,he,eI 1 [(19,.r (bA (i0::r0))),(25,.D L a0 (.pv (num 0))),(39,.D L b (.pv (num 5))),(100023,.l HB (.exit 1) (lD L g .list k b)),(274,.D L c (.pv (num 0))),(279,.Y),(281,.z k),(282,.D L d (.pv x.p)),(287,.z k),(288,.D L e (.pv y.p)),(290,.r (Tm.n2 .cons x y).p)] g0 g00 gw gl gm iA gs g1 gs g2 (ID .cons x y)⟩
     | succ m=>exact⟨.n0 .nil,c,⟨⟨trivial,by simp only [Tm.cnt];omega,Nat.zero_le _⟩,rfl⟩,hc,o6 1 [(19,.r (bA (i0::r0))),(25,.D L a0 (.pv (num 0))),(39,.D L b (.pv (num 5))),(100023,.l HB (.exit 1) (lD L g .list k b)),(274,.D L c (.pv (num (m+1)))),(291,.r (Tm.n0 .nil).p)] g0 g00 gw gl gm NN⟩
    | two j s u =>
     have ht:1+s.size+u.size<=S:=ht
     cases j with
     | false =>
      obtain⟨x,d,q1,hd,g1⟩:=hk s g b (by omega) hg (by omega) hb1;obtain⟨y,e,q2,he,g2⟩:=hk u g d (by omega) hg (by omega) hd;exact⟨.n2 .pair x y,e,⟨⟨⟨q1.sc,q2.sc⟩,by have:=q1.cnt;have:=q2.cnt;simp only [Tm.cnt];omega,by have:=q1.tsz;have:=q2.tsz;simp only [Tm.tsz];omega⟩,WH q1.ty q2.ty (by simp only [Ty.size];omega)⟩,he,o9 1 [(19,.r (bA (i0::r0))),(25,.D L a0 (.pv (num 0))),(39,.D L b (.pv (num 5))),(100023,.l HB (.exit 1) (lD L g (.two false s u) k b)),(301,.z k),(302,.D L d (.pv x.p)),(310,.z k),(311,.D L e (.pv y.p)),(313,.r (Tm.n2 .pair x y).p)] g0 g00 gw gl gs g1 gs g2 (ID .pair x y)⟩
     | true =>
      obtain⟨x,d,q1,hd,g1⟩:=hk u (g++[s]) b (by omega) (JD hg (by simp;omega)) (by simp;omega) hb1;have g2:=cD g [s] (by simp;omega);exact⟨.lam s x,d,⟨⟨(by have:=q1.sc;simpa [Tm.sc] using this),by have:=q1.cnt;simp only [Tm.cnt];omega,by have:=q1.tsz;simp only [Tm.tsz];omega⟩,TE q1.ty (by simp only [Ty.size];omega)⟩,hd,o8 1 [(19,.r (bA (i0::r0))),(25,.D L a0 (.pv (num 0))),(39,.D L b (.pv (num 5))),(100023,.l HB (.exit 1) (lD L g (.two true s u) k b)),(327,.r (cA (g++[s]))),(333,.z k),(334,.D L d (.pv x.p)),(336,.r (Tm.lam s x).p)] g0 g00 gw gl g2 gs g1 (UC s x)⟩
   ·exact⟨x,c,q.mono (by omega) (Nat.le_refl _),hc,o4 1 [(19,.r (bA (i0::r0))),(25,.D L a0 (.pv (num 0))),(39,.D L b (.pv (num 5))),(100023,.l HB .ret (st [(8,.loc 2 0)] [(0,dk L c),(2,bx x.c)] 3 [0]))] g0 g00 gw gl⟩
  ·have hw:=hw
   cases t with
   | unit=>exact⟨.n0 .unit,b,⟨⟨trivial,by simp only [Tm.cnt];omega,Nat.zero_le _⟩,rfl⟩,hb1,o4 1 [(19,.r (bA (i0::r0))),(25,.D L a0 (.pv (num 0))),(39,.D L b (.pv (num (w+6)))),(337,.r (Tm.n0 .unit).p)] g0 g00 gw ON⟩
   | nat =>
    obtain⟨m,c,hm1,hc,gm⟩:=nx hL hb1 (n:=5) (by omega) (by omega);obtain⟨x,d,q1,hd,g1⟩:=hk .nat g c ht hg (by omega) hc;obtain⟨y,e,q2,he,g2⟩:=hk .nat g d ht hg (by omega) hd;rcases m with _|_|_|m
    ·exact⟨.n1 .succ x,d,⟨⟨q1.sc,by have:=q1.cnt;simp only [Tm.cnt];omega,by have:=q1.tsz;simp only [Tm.tsz];omega⟩,dQ q1.ty⟩,hd,o7 1 [(19,.r (bA (i0::r0))),(25,.D L a0 (.pv (num 0))),(39,.D L b (.pv (num (w+6)))),(220,.D L c (.pv (num 0))),(227,.z k),(228,.D L d (.pv x.p)),(230,.r (Tm.n1 .succ x).p)] g0 g00 gw gm gs g1 (IK .succ x)⟩
    ·have qT:=ST g.length S;exact⟨.n2 .app (.n2 .app plusT x) y,e,⟨⟨⟨⟨qT.sc,q1.sc⟩,q2.sc⟩,by have:=q1.cnt;have:=q2.cnt;have:=qT.cnt;simp only [Tm.cnt];omega,by have:=q1.tsz;have:=q2.tsz;have:=qT.tsz;simp only [Tm.tsz];omega⟩,XC (XC (VT g) q1.ty) q2.ty⟩,he,jC 1 [(19,.r (bA (i0::r0))),(25,.D L a0 (.pv (num 0))),(39,.D L b (.pv (num (w+6)))),(220,.D L c (.pv (num 1))),(233,.r plusT.p),(238,.z k),(239,.D L d (.pv x.p)),(244,.z k),(245,.D L e (.pv y.p)),(247,.r (Tm.n2 .app (.n2 .app plusT x) y).p)] g0 g00 gw gm iP gs g1 gs g2 (vJ plusT x y)⟩
    ·have qT:=UT g.length S;exact⟨.n2 .app (.n2 .app subT x) y,e,⟨⟨⟨⟨qT.sc,q1.sc⟩,q2.sc⟩,by have:=q1.cnt;have:=q2.cnt;have:=qT.cnt;simp only [Tm.cnt];omega,by have:=q1.tsz;have:=q2.tsz;have:=qT.tsz;simp only [Tm.tsz];omega⟩,XC (XC (WT g) q1.ty) q2.ty⟩,he,jC 1 [(19,.r (bA (i0::r0))),(25,.D L a0 (.pv (num 0))),(39,.D L b (.pv (num (w+6)))),(220,.D L c (.pv (num 2))),(250,.r subT.p),(255,.z k),(256,.D L d (.pv x.p)),(261,.z k),(262,.D L e (.pv y.p)),(264,.r (Tm.n2 .app (.n2 .app subT x) y).p)] g0 g00 gw gm cS gs g1 gs g2 (vJ subT x y)⟩
    ·obtain⟨v,d,hv,hd,gv⟩:=nx hL hc (n:=3) (by omega) (by omega);have gn:=VH (n:=v);exact⟨TA v,d,(MN g hv).mono (by omega) (Nat.zero_le _),hd,o6 1 [(19,.r (bA (i0::r0))),(25,.D L a0 (.pv (num 0))),(39,.D L b (.pv (num (w+6)))),(220,.D L c (.pv (num (m+3)))),(266,.D L d (.pv (num v))),(267,.r (TA v).p)] g0 g00 gw gm gv gn⟩
   | list =>
    obtain⟨m,c,hm1,hc,gm⟩:=nx hL hb1 (n:=2) (by omega) (by omega)
    cases m with
    | zero =>
     obtain⟨x,d,q1,hd,g1⟩:=hk .nat g c (by simp only [Ty.size];omega) hg (by omega) hc;obtain⟨y,e,q2,he,g2⟩:=hk .list g d ht hg (by omega) hd;exact⟨.n2 .cons x y,e,⟨⟨⟨q1.sc,q2.sc⟩,by have:=q1.cnt;have:=q2.cnt;simp only [Tm.cnt];omega,by have:=q1.tsz;have:=q2.tsz;simp only [Tm.tsz];omega⟩,QT q1.ty q2.ty⟩,he,jC 1 [(19,.r (bA (i0::r0))),(25,.D L a0 (.pv (num 0))),(39,.D L b (.pv (num (w+6)))),(274,.D L c (.pv (num 0))),(279,.Y),(281,.z k),(282,.D L d (.pv x.p)),(287,.z k),(288,.D L e (.pv y.p)),(290,.r (Tm.n2 .cons x y).p)] g0 g00 gw gm iA gs g1 gs g2 (ID .cons x y)⟩
    | succ m=>exact⟨.n0 .nil,c,⟨⟨trivial,by simp only [Tm.cnt];omega,Nat.zero_le _⟩,rfl⟩,hc,o5 1 [(19,.r (bA (i0::r0))),(25,.D L a0 (.pv (num 0))),(39,.D L b (.pv (num (w+6)))),(274,.D L c (.pv (num (m+1)))),(291,.r (Tm.n0 .nil).p)] g0 g00 gw gm NN⟩
   | two j s u =>
    have ht:1+s.size+u.size<=S:=ht
    cases j with
    | false =>
     obtain⟨x,d,q1,hd,g1⟩:=hk s g b (by omega) hg (by omega) hb1;obtain⟨y,e,q2,he,g2⟩:=hk u g d (by omega) hg (by omega) hd;exact⟨.n2 .pair x y,e,⟨⟨⟨q1.sc,q2.sc⟩,by have:=q1.cnt;have:=q2.cnt;simp only [Tm.cnt];omega,by have:=q1.tsz;have:=q2.tsz;simp only [Tm.tsz];omega⟩,WH q1.ty q2.ty (by simp only [Ty.size];omega)⟩,he,o8 1 [(19,.r (bA (i0::r0))),(25,.D L a0 (.pv (num 0))),(39,.D L b (.pv (num (w+6)))),(301,.z k),(302,.D L d (.pv x.p)),(310,.z k),(311,.D L e (.pv y.p)),(313,.r (Tm.n2 .pair x y).p)] g0 g00 gw gs g1 gs g2 (ID .pair x y)⟩
    | true =>
     obtain⟨x,d,q1,hd,g1⟩:=hk u (g++[s]) b (by omega) (JD hg (by simp;omega)) (by simp;omega) hb1;have g2:=cD g [s] (by simp;omega);exact⟨.lam s x,d,⟨⟨(by have:=q1.sc;simpa [Tm.sc] using this),by have:=q1.cnt;simp only [Tm.cnt];omega,by have:=q1.tsz;simp only [Tm.tsz];omega⟩,TE q1.ty (by simp only [Ty.size];omega)⟩,hd,o7 1 [(19,.r (bA (i0::r0))),(25,.D L a0 (.pv (num 0))),(39,.D L b (.pv (num (w+6)))),(327,.r (cA (g++[s]))),(333,.z k),(334,.D L d (.pv x.p)),(336,.r (Tm.lam s x).p)] g0 g00 gw g2 gs g1 (UC s x)⟩
theorem dY {L:List Int} (hL:Dk L) {S:Nat} (hS:3<=S) (hS2:S<=20):∀ k,uM L S k
 | 0=>Et hL S hS2
 | k+1=>Gt hL hS hS2 (dY hL hS hS2 k)
structure FG (n C S K:Nat) (f:Fm):Prop where
 sc:f.sc n
 cnt:f.cnt<=C
 tsz:f.tsz<=S
 csz:f.csz<=K
def fb:Nat->Nat
 | 0=>1+2 * tb 3 1
 | k+1=>1+2 * fb k
def cb:Nat->Nat
 | 0=>1
 | k+1=>4+2 * cb k
abbrev dg (L:List Int) (g:List Ty) (k a:Nat) (f:Fm) (b:Nat):Prop:=O 56 [.loc 0 0,.pv (cA g),.pv (num k)] [(0,dk L a)] (.pv f.p) [(0,dk L b)]
theorem fg:∀ k,473<=fb (k+1)
 | 0=>by decide
 | k+1=>by have:=fg k;have e:fb (k+1+1)=1+2 * fb (k+1):=rfl;omega
def tE (L:List Int) (k:Nat):Prop:=∀ (g:List Ty) (a:Nat),(∀ s∈g,s.size<=3)->g.length+k<=100000->a<=L.length->∃ (f:Fm) (b:Nat),FG g.length (fb k) 3 (cb k) f/\b<=L.length/\dg L g k a f b
theorem eC {L:List Int} (hL:Dk L) {t:Ty} {g:List Ty} {a:Nat} (ht:t.size<=3) (hg:∀ s∈g,s.size<=3) (hl:g.length<=900000) (ha:a<=L.length):∃ (x:Tm) (b:Nat),TG g.length 236 3 x/\b<=L.length/\RT L g t (num 1) a x b:=by
 obtain⟨x,b,q,hb,h⟩:=dY hL (S:=3) (Nat.le_refl _) (by omega) 1 t g a ht hg (by omega) ha;exact⟨x,b,q.toTG,hb,h⟩
theorem It {L:List Int} (hL:Dk L):tE L 0:=by
 intro g a hg hl ha;have ef:fb 0=473:=rfl;have ek:cb 0=1:=rfl;obtain⟨x,c,q1,hc,g1⟩:=eC hL (t:=.nat) (g:=g) (by decide) hg (by omega) ha;obtain⟨y,d,q2,hd,g2⟩:=eC hL (t:=.nat) (g:=g) (by decide) hg (by omega) hc;exact⟨.eq x y,d,⟨⟨q1.sc,q2.sc⟩,by have:=q1.cnt;have:=q2.cnt;simp only [Fm.cnt];omega,by have:=q1.tsz;have:=q2.tsz;simp only [Fm.tsz];omega,by simp only [Fm.csz];omega⟩,hd,o4 1 [(88,.Y),(92,.D L c (.pv x.p)),(96,.D L d (.pv y.p)),(97,.r (Fm.eq x y).p)] iA g1 g2 (rE x y)⟩
theorem Kt {L:List Int} (hL:Dk L) {k:Nat} (hk:tE L k) (hkl:k<=100:=by omega):tE L (k+1):=by
 intro g a hg hl ha;have hm:=jA;have hb:=uA;have ef:fb (k+1)=1+2 * fb k:=rfl;have ek:cb (k+1)=4+2 * cb k:=rfl;have e0:473<=fb k:=by cases k with|zero=>exact Nat.le_refl _|succ k=>exact fg _
 have gs:=nB (a:=k+1);obtain⟨w,b,hw,hb1,gw⟩:=nx hL ha (n:=9) (by omega) (by omega);rcases w with _|_|_|_|_|_|_|w
 ·obtain⟨x,c,q1,hc,g1⟩:=hk g b hg (by omega) hb1;obtain⟨y,d,q2,hd,g2⟩:=hk g c hg (by omega) hc;exact⟨.bin .and x y,d,⟨⟨q1.sc,q2.sc⟩,by have:=q1.cnt;have:=q2.cnt;simp only [Fm.cnt];omega,by have:=q1.tsz;have:=q2.tsz;simp only [Fm.tsz];omega,by have:=q1.csz;have:=q2.csz;simp only [Fm.csz];omega⟩,hd,o6 1 [(14,.D L b (.pv (num 0))),(20,.z k),(21,.D L c (.pv x.p)),(25,.z k),(26,.D L d (.pv y.p)),(27,.r (Fm.bin .and x y).p)] gw gs g1 gs g2 (oP .and x y)⟩
 ·obtain⟨x,c,q1,hc,g1⟩:=hk g b hg (by omega) hb1;obtain⟨y,d,q2,hd,g2⟩:=hk g c hg (by omega) hc;exact⟨.bin .imp x y,d,⟨⟨q1.sc,q2.sc⟩,by have:=q1.cnt;have:=q2.cnt;simp only [Fm.cnt];omega,by have:=q1.tsz;have:=q2.tsz;simp only [Fm.tsz];omega,by have:=q1.csz;have:=q2.csz;simp only [Fm.csz];omega⟩,hd,o6 1 [(14,.D L b (.pv (num 1))),(34,.z k),(35,.D L c (.pv x.p)),(39,.z k),(40,.D L d (.pv y.p)),(41,.r (Fm.bin .imp x y).p)] gw gs g1 gs g2 (oP .imp x y)⟩
 ·obtain⟨x,c,q1,hc,g1⟩:=hk g b hg (by omega) hb1;obtain⟨y,d,q2,hd,g2⟩:=hk g c hg (by omega) hc;exact⟨.bin .imp x y,d,⟨⟨q1.sc,q2.sc⟩,by have:=q1.cnt;have:=q2.cnt;simp only [Fm.cnt];omega,by have:=q1.tsz;have:=q2.tsz;simp only [Fm.tsz];omega,by have:=q1.csz;have:=q2.csz;simp only [Fm.csz];omega⟩,hd,o6 1 [(14,.D L b (.pv (num 2))),(34,.z k),(35,.D L c (.pv x.p)),(39,.z k),(40,.D L d (.pv y.p)),(41,.r (Fm.bin .imp x y).p)] gw gs g1 gs g2 (oP .imp x y)⟩
 ·obtain⟨s,c,zs,hc,g1⟩:=WC hL 1 (by omega) hb1;have zs:s.size<=3:=Nat.le_trans zs (by decide);obtain⟨x,d,q1,hd,g2⟩:=hk (g++[s]) c (JD hg (by simp;omega)) (by simp;omega) hc;have g4:=cD g [s] (by simp;omega);exact⟨.q .all s x,d,⟨by have:=q1.sc;simpa [Fm.sc] using this,by have:=q1.cnt;simp only [Fm.cnt];omega,by have:=q1.tsz;simp only [Fm.tsz];omega,by have:=q1.csz;simp only [Fm.csz];omega⟩,hd,o6 1 [(14,.D L b (.pv (num 3))),(46,.D L c (.pv s.p)),(52,.r (cA (g++[s]))),(54,.z k),(55,.D L d (.pv x.p)),(56,.r (Fm.q .all s x).p)] gw g1 g4 gs g2 (sD .all s x)⟩
 ·obtain⟨s,c,zs,hc,g1⟩:=WC hL 1 (by omega) hb1;have zs:s.size<=3:=Nat.le_trans zs (by decide);obtain⟨x,d,q1,hd,g2⟩:=hk (g++[s]) c (JD hg (by simp;omega)) (by simp;omega) hc;have g4:=cD g [s] (by simp;omega);exact⟨.q .all s x,d,⟨by have:=q1.sc;simpa [Fm.sc] using this,by have:=q1.cnt;simp only [Fm.cnt];omega,by have:=q1.tsz;simp only [Fm.tsz];omega,by have:=q1.csz;simp only [Fm.csz];omega⟩,hd,o6 1 [(14,.D L b (.pv (num 4))),(46,.D L c (.pv s.p)),(52,.r (cA (g++[s]))),(54,.z k),(55,.D L d (.pv x.p)),(56,.r (Fm.q .all s x).p)] gw g1 g4 gs g2 (sD .all s x)⟩
 ·obtain⟨s,c,zs,hc,g1⟩:=WC hL 1 (by omega) hb1;have zs:s.size<=3:=Nat.le_trans zs (by decide);obtain⟨x,d,q1,hd,g2⟩:=hk (g++[s]) c (JD hg (by simp;omega)) (by simp;omega) hc;have g4:=cD g [s] (by simp;omega);exact⟨.q .ex s x,d,⟨by have:=q1.sc;simpa [Fm.sc] using this,by have:=q1.cnt;simp only [Fm.cnt];omega,by have:=q1.tsz;simp only [Fm.tsz];omega,by have:=q1.csz;simp only [Fm.csz];omega⟩,hd,o6 1 [(14,.D L b (.pv (num 5))),(60,.D L c (.pv s.p)),(66,.r (cA (g++[s]))),(68,.z k),(69,.D L d (.pv x.p)),(70,.r (Fm.q .ex s x).p)] gw g1 g4 gs g2 (sD .ex s x)⟩
 ·obtain⟨s,c,zs,hc,g1⟩:=WC hL 0 (by omega) hb1;have zs:s.size<=3:=Nat.le_trans zs (by decide);obtain⟨v,c0,hv,hc0,gv⟩:=nx hL hc (n:=2) (by omega) (by omega);rcases v with _|_|v
  ·obtain⟨x,d,q1,hd,g2⟩:=hk (g++[s]) c0 (JD hg (by simp;omega)) (by simp;omega) hc0;have g4:=cD g [s] (by simp;omega);exact⟨.q .allU s x,d,⟨by have:=q1.sc;simpa [Fm.sc] using this,by have:=q1.cnt;simp only [Fm.cnt];omega,by have:=q1.tsz;simp only [Fm.tsz];omega,by have:=q1.csz;simp only [Fm.csz];omega⟩,hd,o7 1 [(14,.D L b (.pv (num 6))),(74,.D L c (.pv s.p)),(76,.D L c0 (.pv (num 0))),(83,.r (cA (g++[s]))),(85,.z k),(86,.D L d (.pv x.p)),(87,.r (Fm.q .allU s x).p)] gw g1 gv g4 gs g2 (sD .allU s x)⟩
  ·obtain⟨x,d,q1,hd,g2⟩:=hk (g++[s]) c0 (JD hg (by simp;omega)) (by simp;omega) hc0;have g4:=cD g [s] (by simp;omega);exact⟨.q .exU s x,d,⟨by have:=q1.sc;simpa [Fm.sc] using this,by have:=q1.cnt;simp only [Fm.cnt];omega,by have:=q1.tsz;simp only [Fm.tsz];omega,by have:=q1.csz;simp only [Fm.csz];omega⟩,hd,o7 1 [(14,.D L b (.pv (num 6))),(74,.D L c (.pv s.p)),(76,.D L c0 (.pv (num 1))),(83,.r (cA (g++[s]))),(85,.z k),(86,.D L d (.pv x.p)),(87,.r (Fm.q .exU s x).p)] gw g1 gv g4 gs g2 (sD .exU s x)⟩
  ·omega
 ·obtain⟨x,c,q1,hc,g1⟩:=eC hL (t:=.nat) (g:=g) (by decide) hg (by omega) hb1;obtain⟨y,d,q2,hd,g2⟩:=eC hL (t:=.nat) (g:=g) (by decide) hg (by omega) hc;exact⟨.eq x y,d,⟨⟨q1.sc,q2.sc⟩,by have:=q1.cnt;have:=q2.cnt;simp only [Fm.cnt];omega,by have:=q1.tsz;have:=q2.tsz;simp only [Fm.tsz];omega,by simp only [Fm.csz];omega⟩,hd,o5 1 [(14,.D L b (.pv (num (w+7)))),(88,.Y),(92,.D L c (.pv x.p)),(96,.D L d (.pv y.p)),(97,.r (Fm.eq x y).p)] gw iA g1 g2 (rE x y)⟩
theorem pG {L:List Int} (hL:Dk L):∀ k,k<=100->tE L k
 | 0,_=>It hL
 | k+1,h=>Kt hL (pG hL k (by omega))
theorem Lt {L:List Int} (hL:Dk L) {g:List Ty} {a:Nat} (hg:∀ s∈g,s.size<=3) (hl:g.length<=1000) (ha:a<=L.length):∃ (f:Fm) (b:Nat),FG g.length 947 3 6 f/\b<=L.length/\dg L g 1 a f b :=
 pG hL 1 (by omega) g a hg (by omega) ha
open Go.Lg
abbrev gg:Kp:=⟨[1,4,5,14,15,16],[1,2,4],5,[]⟩
abbrev mQ:List PV:=[.nils,.nils]
theorem lg (G:PV) (t:Ty) {hs:List Fm} (hl:hs.length<=qA):∀ (r:List Fm) (k v:Nat) (A:List (List PV)),hs.drop k=r->A.length=k->(∀ f∈r,f.mx<=qA * qA/\f.cnt<=qA) ->
  ∃ v',Lp 61 0 0 (st [(1,.pv (cA [t])),(4,.loc 1 0),(5,.loc 2 0),(14,.pv (fA hs)),(15,.pv (num (hs.map Fm.c).length)),(16,.pv (num k))] [(1,bx mQ),(2,.box [.pv G,.arr 4 v A.length]),(4,.arr v 5 37 (vA A))] 5 []) (.exit 0) (st [(4,.loc 1 0),(5,.loc 2 0)] [(1,bx mQ),(2,.box [.pv G,.arr 4 v' (A.length+r.length)]),(4,.arr v' 5 37 (vA (A++r.map λ f=>(f.sh 0 1).c)))] 5 [])
 | [],k,v,A,h,hA,hb=>by
  have e:kA (.ofNat k) (.ofNat (hs.map Fm.c).length)=false:=CA (by simpa using TC h);simp only [List.map_nil,List.append_nil,List.length_nil,Nat.add_zero];exact⟨v,y1 [(17,.H)] ⟨[4,5],[1,2,4],5,[]⟩ e (MC A)⟩
 | f::r,k,v,A,h,hA,hb=>by
  have hm:=jA;obtain⟨d1,d2,d3⟩:=SC h;have e:kA (.ofNat k) (.ofNat (hs.map Fm.c).length)=true:=aA (by simpa using d2);have hf:=hb f (by simp);have g1:=bD f 0 1 (by omega) (by omega) hf.1 (by omega);have g5:=PL (A:=A) (v:=v) (ty:=37) (m:=88) (c:=(f.sh 0 1).c) (show 0<5 by decide) rfl rfl (by simp only [maxLen];omega);have g3:=eA (show k+1<=_ by omega);obtain⟨v',ih⟩:=lg G t hl r (k+1) (v+1) (A++[(f.sh 0 1).c]) d3 (by simp [hA]) (λ f hf=>hb f (by simp [hf]));rw [LI,show (A++[(f.sh 0 1).c]).length=A.length+1 by simp,show A.length+1+r.length=A.length+(f::r).length by simp;omega,List.append_assoc] at ih;exact⟨v',n7 [(17,.G),(18,.i f.c),(25,.r (f.sh 0 1).p),(27,.ok),(29,.ok)] gg e (KA d1 Fm.c_len) g1 g5 g3 (rF A (f.sh 0 1).c) ih⟩
abbrev qC (hs:List Fm):List Fm:=hs.map (Fm.sh 0 1)
theorem PN (g:List Ty) (hs:List Fm) (t:Ty) (hg:g.length<=1000000) (hl:hs.length<=qA) (hb:∀ f∈hs,f.mx<=qA * qA/\f.cnt<=qA):A 61 [VA g hs,cA [t]] (VA (g++[t]) (qC hs)):=by
 have hm:=jA;have g0:=cD g [t] (by simp;omega)
 cases hs with
 | nil=>exact f1 [(11,.r (cA (g++[t])))] g0
 | cons f r =>
  generalize hG:cA (g++[t])=G at *
  have hf:=hb f (by simp);obtain⟨v,h1⟩:=lg G t (hs:=f::r) hl r 1 1 [(f.sh 0 1).c] rfl rfl (λ x hx=>hb x (by simp [hx]));have em : [(f.sh 0 1).c]++r.map (λ f=>(f.sh 0 1).c)=(qC (f::r)).map Fm.c:=by simp [Function.comp_def]
  rw [em] at h1;have h2:=LoopIs.fz (by simp) h1 4 (ver:=v) (sz:=5) (ty:=37) (ps:=(qC (f::r)).map Fm.c) rfl (by kernel_rfl);rw [show ([(f.sh 0 1).c]:List (List PV)).length+r.length=r.length+1 by simp;omega] at h2;simp (decide:=true) only [uE,CD,rC,JC,LD,bx,List.map,pD,and_self,↓reduceIte] at h2;rw [List.take_of_length_le (by simp)] at h2;have e:kA (.ofNat 0) (.ofNat ((f::r).map Fm.c).length)=true:=aA (by simp);have h3:Lp 61 0 0 (st [(1,.pv (cA [t])),(4,.loc 1 0),(5,.loc 2 0),(14,.pv (fA (f::r))),(15,.pv (num ((f::r).map Fm.c).length)),(16,.pv (num 0))] [(1,bx mQ),(2,bx [G,.nils])] 3 []) (.exit 0) (st [(4,.loc 1 0),(5,.loc 2 0)] [(1,bx mQ),(2,bx [G,fA (qC (f::r))])] 5 []) :=
   n6 [(17,.G),(18,.i f.c),(25,.r (f.sh 0 1).p),(29,.ok)] gg e (KA (g:=f::r) (k:=0) rfl Fm.c_len) (bD f 0 1 (by omega) (by omega) hf.1 (by omega)) (eA (show 0+1<=_ by omega)) (rF [] (f.sh 0 1).c) h2
  subst hG;exact f2 [(11,.r (cA (g++[t]))),(100003,.l ⟨[1,4,5,14,15,16],[1,2],3,[]⟩ (.exit 0) (st [(4,.loc 1 0),(5,.loc 2 0)] [(1,bx mQ),(2,bx [cA (g++[t]),fA (qC (f::r))])] 5 []))] g0 h3
def Pf.dpw (w:Nat):Pf->Nat
 | .leaf u _=>bif u then w else 0
 | .refl _=>0
 | .p1 _ a=>a.dpw w
 | .p2 k a b=>max (a.dpw w) (match k with
  | .andI=>b.dpw w
  | .impE=>b.dpw w
  | _=>b.dpw w+1)
 | .impI _ a=>a.dpw w+1
 | .all _ _ a=>a.dpw w+1
 | .ins _ _ a=>a.dpw w
 | .ex _ _ _ a=>a.dpw w
 | .ind l _ _ a b=>max (a.dpw w) (b.dpw w+lN l)
 | .subst _ a b=>max (a.dpw w) (b.dpw w)
structure PG (C X D:Nat) (p:Pf):Prop where
 cnt:p.cnt<=C
 tsz:p.tsz<=qA
 mx:p.mx<=X
 dp:∀ w,p.dpw w<=D+w
abbrev PA:Nat:=1048576
abbrev uC:Nat:=mA * 16384
theorem mD:uC=137438953472:=rfl
def cp:Nat->Nat
 | 0=>300
 | k+1=>2 * cp k+10000
def cm:Nat->Nat
 | 0=>PA
 | k+1=>2 * cm k+uC+4 * PA
theorem YC:∀ k,PA<=cm k
 | 0=>Nat.le_refl _
 | k+1=>by have:=YC k;have e:cm (k+1)=2 * cm k+uC+4 * PA:=rfl;omega
abbrev FBd (Z:Nat) (f:Fm):Prop:=f.cnt<=4096/\f.tsz<=qA/\f.mx<=Z
structure S19 (Z:Nat) (ls:List Fm) (g:List Ty) (hs:List Fm):Prop where
 ll:ls.length<=3
 lb:∀ f∈ls,FBd Z f
 gl:g.length<=10
 gs:∀ s∈g,s.size<=3
 hl:hs.length<=10
 hb:∀ f∈hs,FBd Z f
 z:PA<=Z
theorem FG.fbd {n C K Z:Nat} {f:Fm} (h:FG n C 3 K f) (hn:n<=1000) (hC:C<=4096) (hZ:PA<=Z):FBd Z f:=by
 have hm:=jA;have h1:=h.cnt;have h2:=h.tsz;have h3:=QL f n h.sc;have e:PA=1048576:=rfl;exact⟨by omega,by omega,by omega⟩
theorem TG.mx {n C S:Nat} {x:Tm} (h:TG n C S x):x.mx<=n+C:=by have:=WG x n h.sc;have:=h.cnt;omega
theorem S19.with {Z Z':Nat} {ls:List Fm} {g:List Ty} {hs:List Fm} {f:Fm} (h:S19 Z ls g hs) (hf:FBd Z' f) (hz:Z<=Z') (hl:hs.length<10):S19 Z' ls g (hs++[f]) :=
 ⟨h.ll,λ x hx=>⟨(h.lb x hx).1,(h.lb x hx).2.1,Nat.le_trans (h.lb x hx).2.2 hz⟩,h.gl,h.gs,by simp;omega,λ x hx=>by
  rcases List.mem_append.1 hx with hx|hx
  ·exact⟨(h.hb x hx).1,(h.hb x hx).2.1,Nat.le_trans (h.hb x hx).2.2 hz⟩
  ·simp at hx;subst hx;exact hf,Nat.le_trans h.z hz⟩
theorem FBd.up {Z:Nat} {f:Fm} (h:FBd Z f):FBd (Z+1) (f.sh 0 1):=by
 have h3:=DE 1 f 0;have e:(1:Int).toNat=1:=rfl;exact⟨by rw [GD];exact h.1,by rw [VD];exact h.2.1,by have:=h.2.2;omega⟩
theorem S19.below {Z:Nat} {ls:List Fm} {g:List Ty} {hs:List Fm} {t:Ty} (h:S19 Z ls g hs) (ht:t.size<=3) (hl:g.length<10):S19 (Z+1) ls (g++[t]) (qC hs) :=
 ⟨h.ll,λ x hx=>⟨(h.lb x hx).1,(h.lb x hx).2.1,Nat.le_succ_of_le (h.lb x hx).2.2⟩,by simp;omega,JD h.gs (by simpa using ht),by simp;exact h.hl,λ x hx=>by
  obtain⟨f,hf,rfl⟩:=List.mem_map.1 hx;exact FBd.up (h.hb f hf),Nat.le_succ_of_le h.z⟩
def qH (t:Tm):Pf:=.ind false (.eq pl0 (.v 0)) t (.refl (TA 0)) stepP
theorem Mt (t:Tm):A 74 [t.p] (qH t).p:=by
 have g1:=iP;have g2:=VH (n:=0);have g3:A 118 [plusT.p,row [TA 0,.v 0]] pl0.p:=vJ plusT (TA 0) (.v 0);have g4:=rE pl0 (.v 0);have g5:A 116 [num 5,row [.v 0]] (Tm.n1 .succ (.v 0)).p:=eP 5 (.v 0);have g6:A 117 [num 2,Ty.nat.p,row [.n1 .succ (.v 0)]] sucT.p:=UC .nat (.n1 .succ (.v 0));exact f16 [(7,.r plusT.p),(8,.r (TA 0).p),(9,.r (Tm.v 0).p),(11,.r pl0.p),(13,.r (Tm.v 0).p),(14,.r (Fm.eq pl0 (.v 0)).p),(16,.Y),(17,.r (Tm.v 0).p),(19,.r (Tm.n1 .succ (.v 0)).p),(21,.r sucT.p),(23,.r (Tm.v 0).p),(24,.r (Pf.leaf false 0).p),(25,.U [stepP.p,num 0]),(30,.r (TA 0).p),(31,.r (Pf.refl (TA 0)).p),(33,.r (qH t).p)] g1 g2 (gE 0) g3 (gE 0) g4 iA (gE 0) g5 g6 (gE 0) (pF 0) Mn g2 (rB (TA 0)) (VW false (.eq pl0 (.v 0)) t (.refl (TA 0)) stepP)
abbrev eD (x:Tm):Pf:=.ex false (.q .ex .nat (.eq (x.sh 0 1) (.v 0))) x (.refl x)
theorem Nt {L:List Int} (hL:Dk L) {g:List Ty} {hs:List Fm} {a:Nat} (hg:∀ s∈g,s.size<=3) (hl:g.length<=100) (ha:a<=L.length):∃ (x:Tm) (b:Nat),TG g.length 236 3 x/\b<=L.length/\O 76 [.loc 0 0,.pv (VA g hs)] [(0,dk L a)] (.pv (eD x).p) [(0,dk L b)]:=by
 have hm:=jA;obtain⟨x,b,q,hb,g1⟩:=eC hL (t:=.nat) (by decide) hg (by omega) ha;have c1:=q.cnt;have c2:=q.mx;have g2:=OT x (by omega) (by rw [hm];omega);exact⟨x,b,q,hb,o8 1 [(7,.Y),(12,.D L b (.pv x.p)),(15,.r (x.sh 0 1).p),(16,.r (Tm.v 0).p),(17,.r (Fm.eq (x.sh 0 1) (.v 0)).p),(18,.r (Fm.q .ex .nat (.eq (x.sh 0 1) (.v 0))).p),(21,.r (Pf.refl x).p),(22,.r (eD x).p)] iA g1 g2 (gE 0) (rE (x.sh 0 1) (.v 0)) (sD .ex .nat (.eq (x.sh 0 1) (.v 0))) (rB x) (JI false (.q .ex .nat (.eq (x.sh 0 1) (.v 0))) x (.refl x))⟩
abbrev ZC (L:List Int) (ls:List Fm) (g:List Ty) (hs:List Fm) (k a:Nat) (p:Pf) (b:Nat):Prop:=O 29 [.loc 0 0,.pv (fA ls),.pv (VA g hs),.pv (num k)] [(0,dk L a)] (.pv p.p) [(0,dk L b)]
def iB (L:List Int) (k:Nat):Prop:=∀ (Z:Nat) (ls:List Fm) (g:List Ty) (hs:List Fm) (a:Nat),S19 Z ls g hs->Z+cm k<=281474976710656->a<=L.length->∃ (p:Pf) (b:Nat),PG (cp k) (Z+cm k) (k+2) p/\b<=L.length/\ZC L ls g hs k a p b
def fY (L:List Int) (k:Nat):Prop:=∀ (Z:Nat) (ls:List Fm) (g:List Ty) (hs:List Fm) (a:Nat),S19 Z ls g hs->g.length<10->hs.length<10->Z+cm (k+1)<=281474976710656->a<=L.length->∃ (p:Pf) (b:Nat),PG (cp (k+1)) (Z+cm (k+1)) ((k+1)+2) p/\b<=L.length/\O 70 [.loc 0 0,.pv (fA ls),.pv (VA g hs),.pv (num (k+1))] [(0,dk L a)] (.pv p.p) [(0,dk L b)]
theorem QN:∀ k,k<=10->cp k<=20000000
 | 0,_=>by decide
 | 1,_=>by decide
 | 2,_=>by decide
 | 3,_=>by decide
 | 4,_=>by decide
 | 5,_=>by decide
 | 6,_=>by decide
 | 7,_=>by decide
 | 8,_=>by decide
 | 9,_=>by decide
 | 10,_=>by decide
 | k+11,h=>absurd h (by omega)
theorem XT (H:MF) {Z k:Nat} {ls:List Fm} {g:List Ty} {hs:List Fm} {p:Pf} (hS:S19 Z ls g hs) (hp:PG (cp k) (Z+cm k) (k+2) p) (hk:k<=10) (hz:Z+cm (k+1)<=281474976710656):∃ r:PR,A 30 [fA ls,VA g hs,p.p] r.p /\ ∀ f u,r = .ok f u->FBd (Z+cm k+uC) f:=by
 have hm:=jA;have hbg:=uA;have e1:cm (k+1)=2 * cm k+uC+4 * PA:=rfl;have e2:=QN k hk;have h1:=hS.ll;have h2:=hS.gl;have h3:=hS.hl;have hc:fB=1125899902742528:=rfl;have e3:mA=8388608:=rfl;have e4:uC=mA * 16384:=rfl;obtain⟨r,g1,q⟩:=Yf H (X:=Z+cm k) (ls:=ls) (g:=g) (hs:=hs) (p:=p) ⟨λ f hf=>by have:=hS.lb f hf;exact⟨by omega,this.2.1,by omega⟩,λ f hf=>by have:=hS.hb f hf;exact⟨by omega,this.2.1,by omega⟩,λ s hs'=>by have:=hS.gs s hs';omega,by omega,by omega,by omega,by have:=hp.cnt;omega,hp.tsz,hp.mx,by rw [hc];omega⟩;exact⟨r,g1,λ f u e=>by
  obtain⟨_,_,_,k1,_,_⟩:=q f u e;exact⟨k1.1,k1.2.2,k1.2.1⟩⟩
open Go.Lg
theorem Ot {L:List Int} (hL:Dk L):iB L 0:=by
 intro Z ls g hs a hS hZ ha;have hm:=jA;have e20:PA=1048576:=rfl;have hz1:=hS.z;have hgl:=hS.gl;have hhl:=hS.hl;have e1:cp 0=300:=rfl;have e2:cm 0=PA:=rfl;obtain⟨w,c,hw,hc,gw⟩:=nx hL ha (n:=4) (by omega) (by omega);obtain⟨x,d,q,hd,gx⟩:=eC hL (t:=.nat) (g:=g) (by decide) hS.gs (by omega) hc;have cx:=q.cnt;have mx:=q.mx;have sx:=q.tsz;rcases w with _|_|w
 ·cases hs with
  | nil=>exact⟨.refl x,d,⟨by simp only [Pf.cnt];omega,by simp only [Pf.tsz];omega,by simp only [Pf.mx];omega,λ _=>Nat.zero_le _⟩,hd,o4 1 [(36,.Y),(388,.D L c (.pv (num 0))),(415,.D L d (.pv x.p)),(416,.r (Pf.refl x).p)] iA gw gx (rB x)⟩
  | cons f r =>
   have hr:=hS.hl;obtain⟨i,e,hi,he,gi⟩:=nx hL hc (n:=((f::r).map Fm.c).length) (by simp) (by simp at hr ⊢;omega);exact⟨.leaf false i,e,⟨by simp only [Pf.cnt];omega,Nat.zero_le _,Nat.zero_le _,λ _=>Nat.zero_le _⟩,he,o4 1 [(36,.Y),(388,.D L c (.pv (num 0))),(399,.D L e (.pv (num i))),(400,.r (Pf.leaf false i).p)] iA gw gi (pF i)⟩
 ·cases ls with
  | nil=>exact⟨.refl x,d,⟨by simp only [Pf.cnt];omega,by simp only [Pf.tsz];omega,by simp only [Pf.mx];omega,λ _=>Nat.zero_le _⟩,hd,o4 1 [(36,.Y),(388,.D L c (.pv (num 1))),(415,.D L d (.pv x.p)),(416,.r (Pf.refl x).p)] iA gw gx (rB x)⟩
  | cons f r =>
   have hr:=hS.ll;obtain⟨i,e,hi,he,gi⟩:=nx hL hc (n:=((f::r).map Fm.c).length) (by simp) (by simp at hr ⊢;omega);exact⟨.leaf true i,e,⟨by simp only [Pf.cnt];omega,Nat.zero_le _,Nat.zero_le _,λ w=>Nat.le_add_left w _⟩,he,o3 1 [(36,.Y),(388,.D L c (.pv (num 1))),(409,.D L e (.pv (num i)))] iA gw gi⟩
 ·exact⟨.refl x,d,⟨by simp only [Pf.cnt];omega,by simp only [Pf.tsz];omega,by simp only [Pf.mx];omega,λ _=>Nat.zero_le _⟩,hd,o4 1 [(36,.Y),(388,.D L c (.pv (num (w+2)))),(415,.D L d (.pv x.p)),(416,.r (Pf.refl x).p)] iA gw gx (rB x)⟩
theorem Pt {L:List Int} (hL:Dk L) {k:Nat} (hk:iB L k) (hkl:k<=9) {Z:Nat} {ls:List Fm} {g:List Ty} {hs:List Fm} {a:Nat} (hS:S19 Z ls g hs) (hZ:Z+cm (k+1)<=281474976710656) (ha:a<=L.length) (hg:¬ g.length<10):∃ (p:Pf) (b:Nat),PG (cp (k+1)) (Z+cm (k+1)) ((k+1)+2) p/\b<=L.length/\ZC L ls g hs (k+1) a p b:=by
 have hm:=jA;have hbg:=uA;have e20:PA=1048576:=rfl;have eW:=mD;have hgl:=hS.gl;have hhl:=hS.hl;have e1:cp (k+1)=2 * cp k+10000:=rfl;have e2:cm (k+1)=2 * cm k+uC+4 * PA:=rfl;have e3:=YC k;have b1:kA (.ofNat (g.map Ty.c).length) (.ofNat 10)=false:=CA (by simp;omega);obtain⟨w,c,hw,hc,gw⟩:=nx hL ha (n:=4) (by omega) (by omega);obtain⟨x,d,q,hd,gx⟩:=eC hL (t:=.nat) (g:=g) (by decide) hS.gs (by omega) hc;have cx:=q.cnt;have mx:=q.mx;have sx:=q.tsz;rcases w with _|_|w
 ·cases hs with
  | nil=>exact⟨.refl x,d,⟨by simp only [Pf.cnt];omega,by simp only [Pf.tsz];omega,by simp only [Pf.mx];omega,λ _=>Nat.zero_le _⟩,hd,o5 1 [(36,.Y),(43,.H),(388,.D L c (.pv (num 0))),(415,.D L d (.pv x.p)),(416,.r (Pf.refl x).p)] iA b1 gw gx (rB x)⟩
  | cons f r =>
   have hr:=hS.hl;obtain⟨i,e,hi,he,gi⟩:=nx hL hc (n:=((f::r).map Fm.c).length) (by simp) (by simp at hr ⊢;omega);exact⟨.leaf false i,e,⟨by simp only [Pf.cnt];omega,Nat.zero_le _,Nat.zero_le _,λ _=>Nat.zero_le _⟩,he,o5 1 [(36,.Y),(43,.H),(388,.D L c (.pv (num 0))),(399,.D L e (.pv (num i))),(400,.r (Pf.leaf false i).p)] iA b1 gw gi (pF i)⟩
 ·cases ls with
  | nil=>exact⟨.refl x,d,⟨by simp only [Pf.cnt];omega,by simp only [Pf.tsz];omega,by simp only [Pf.mx];omega,λ _=>Nat.zero_le _⟩,hd,o5 1 [(36,.Y),(43,.H),(388,.D L c (.pv (num 1))),(415,.D L d (.pv x.p)),(416,.r (Pf.refl x).p)] iA b1 gw gx (rB x)⟩
  | cons f r =>
   have hr:=hS.ll;obtain⟨i,e,hi,he,gi⟩:=nx hL hc (n:=((f::r).map Fm.c).length) (by simp) (by simp at hr ⊢;omega);exact⟨.leaf true i,e,⟨by simp only [Pf.cnt];omega,Nat.zero_le _,Nat.zero_le _,λ w=>Nat.le_add_left w _⟩,he,o4 1 [(36,.Y),(43,.H),(388,.D L c (.pv (num 1))),(409,.D L e (.pv (num i)))] iA b1 gw gi⟩
 ·exact⟨.refl x,d,⟨by simp only [Pf.cnt];omega,by simp only [Pf.tsz];omega,by simp only [Pf.mx];omega,λ _=>Nat.zero_le _⟩,hd,o5 1 [(36,.Y),(43,.H),(388,.D L c (.pv (num (w+2)))),(415,.D L d (.pv x.p)),(416,.r (Pf.refl x).p)] iA b1 gw gx (rB x)⟩
theorem Qt {L:List Int} (hL:Dk L) {k:Nat} (hk:iB L k) (hkl:k<=9) {Z:Nat} {ls:List Fm} {g:List Ty} {hs:List Fm} {a:Nat} (hS:S19 Z ls g hs) (hZ:Z+cm (k+1)<=281474976710656) (ha:a<=L.length) (hg:g.length<10) (hh:¬ hs.length<10):∃ (p:Pf) (b:Nat),PG (cp (k+1)) (Z+cm (k+1)) ((k+1)+2) p/\b<=L.length/\ZC L ls g hs (k+1) a p b:=by
 have hm:=jA;have hbg:=uA;have e20:PA=1048576:=rfl;have eW:=mD;have hhl:=hS.hl;have e1:cp (k+1)=2 * cp k+10000:=rfl;have e2:cm (k+1)=2 * cm k+uC+4 * PA:=rfl;have e3:=YC k;have b1:kA (.ofNat (g.map Ty.c).length) (.ofNat 10)=true:=aA (by simpa using hg);have b2:kA (.ofNat (hs.map Fm.c).length) (.ofNat 10)=false:=CA (by simp;omega);obtain⟨w,c,hw,hc,gw⟩:=nx hL ha (n:=4) (by omega) (by omega);obtain⟨x,d,q,hd,gx⟩:=eC hL (t:=.nat) (g:=g) (by decide) hS.gs (by omega) hc;have cx:=q.cnt;have mx:=q.mx;have sx:=q.tsz;rcases w with _|_|w
 ·cases hs with
  | nil=>exact⟨.refl x,d,⟨by simp only [Pf.cnt];omega,by simp only [Pf.tsz];omega,by simp only [Pf.mx];omega,λ _=>Nat.zero_le _⟩,hd,o6 1 [(36,.Y),(43,.G),(49,.H),(388,.D L c (.pv (num 0))),(415,.D L d (.pv x.p)),(416,.r (Pf.refl x).p)] iA b1 b2 gw gx (rB x)⟩
  | cons f r =>
   have hr:=hS.hl;obtain⟨i,e,hi,he,gi⟩:=nx hL hc (n:=((f::r).map Fm.c).length) (by simp) (by simp at hr ⊢;omega);exact⟨.leaf false i,e,⟨by simp only [Pf.cnt];omega,Nat.zero_le _,Nat.zero_le _,λ _=>Nat.zero_le _⟩,he,o6 1 [(36,.Y),(43,.G),(49,.H),(388,.D L c (.pv (num 0))),(399,.D L e (.pv (num i))),(400,.r (Pf.leaf false i).p)] iA b1 b2 gw gi (pF i)⟩
 ·cases ls with
  | nil=>exact⟨.refl x,d,⟨by simp only [Pf.cnt];omega,by simp only [Pf.tsz];omega,by simp only [Pf.mx];omega,λ _=>Nat.zero_le _⟩,hd,o6 1 [(36,.Y),(43,.G),(49,.H),(388,.D L c (.pv (num 1))),(415,.D L d (.pv x.p)),(416,.r (Pf.refl x).p)] iA b1 b2 gw gx (rB x)⟩
  | cons f r =>
   have hr:=hS.ll;obtain⟨i,e,hi,he,gi⟩:=nx hL hc (n:=((f::r).map Fm.c).length) (by simp) (by simp at hr ⊢;omega);exact⟨.leaf true i,e,⟨by simp only [Pf.cnt];omega,Nat.zero_le _,Nat.zero_le _,λ w=>Nat.le_add_left w _⟩,he,o5 1 [(36,.Y),(43,.G),(49,.H),(388,.D L c (.pv (num 1))),(409,.D L e (.pv (num i)))] iA b1 b2 gw gi⟩
 ·exact⟨.refl x,d,⟨by simp only [Pf.cnt];omega,by simp only [Pf.tsz];omega,by simp only [Pf.mx];omega,λ _=>Nat.zero_le _⟩,hd,o6 1 [(36,.Y),(43,.G),(49,.H),(388,.D L c (.pv (num (w+2)))),(415,.D L d (.pv x.p)),(416,.r (Pf.refl x).p)] iA b1 b2 gw gx (rB x)⟩
theorem Rt {L:List Int} (hL:Dk L) {k:Nat} (hk:iB L k) (hkl:k<=9) {Z:Nat} {ls:List Fm} {g:List Ty} {hs:List Fm} {a:Nat} (hS:S19 Z ls g hs) (hZ:Z+cm (k+1)<=281474976710656) (ha:a<=L.length) (hg:g.length<10) (hh:hs.length<10) {b:Nat} (hb:b<=L.length) (gv:O 14 [.loc 0 0,.pv (num 17)] [(0,dk L a)] (.pv (num 0)) [(0,dk L b)]):∃ (p:Pf) (b:Nat),PG (cp (k+1)) (Z+cm (k+1)) ((k+1)+2) p/\b<=L.length/\ZC L ls g hs (k+1) a p b:=by
 have hm:=jA;have hbg:=uA;have e20:PA=1048576:=rfl;have eW:=mD;have hz1:=hS.z;have e1:cp (k+1)=2 * cp k+10000:=rfl;have e2:cm (k+1)=2 * cm k+uC+4 * PA:=rfl;have e3:=YC k;have gs:=nB (a:=k+1);have b1:kA (.ofNat (g.map Ty.c).length) (.ofNat 10)=true:=aA (by simpa using hg);have b2:kA (.ofNat (hs.map Fm.c).length) (.ofNat 10)=true:=aA (by simpa using hh);obtain⟨p,c,q1,hc,g1⟩:=hk Z ls g hs b hS (by omega) hb;obtain⟨r,d,q2,hd,g2⟩:=hk Z ls g hs c hS (by omega) hc;have:=q1.cnt;have:=q1.tsz;have:=q1.mx;have:=q2.cnt;have:=q2.tsz;have:=q2.mx;exact⟨.p2 .andI p r,d,⟨by simp only [Pf.cnt];omega,by simp only [Pf.tsz];omega,by simp only [Pf.mx];omega,λ w=>by have:=q1.dp w;have:=q2.dp w;simp only [Pf.dpw];omega⟩,hd,o9 1 [(36,.Y),(43,.G),(49,.G),(52,.D L b (.pv (num 0))),(59,.z k),(60,.D L c (.pv p.p)),(65,.z k),(66,.D L d (.pv r.p)),(68,.r (Pf.p2 .andI p r).p)] iA b1 b2 gv gs g1 gs g2 (DH 3 p r)⟩
theorem Tt {L:List Int} (hL:Dk L) {k:Nat} (hk:iB L k) (hkl:k<=9) {Z:Nat} {ls:List Fm} {g:List Ty} {hs:List Fm} {a:Nat} (hS:S19 Z ls g hs) (hZ:Z+cm (k+1)<=281474976710656) (ha:a<=L.length) (hg:g.length<10) (hh:hs.length<10) {b:Nat} (hb:b<=L.length) (gv:O 14 [.loc 0 0,.pv (num 17)] [(0,dk L a)] (.pv (num 1)) [(0,dk L b)]):∃ (p:Pf) (b:Nat),PG (cp (k+1)) (Z+cm (k+1)) ((k+1)+2) p/\b<=L.length/\ZC L ls g hs (k+1) a p b:=by
 have hm:=jA;have hbg:=uA;have e20:PA=1048576:=rfl;have eW:=mD;have hz1:=hS.z;have e1:cp (k+1)=2 * cp k+10000:=rfl;have e2:cm (k+1)=2 * cm k+uC+4 * PA:=rfl;have e3:=YC k;have gs:=nB (a:=k+1);have b1:kA (.ofNat (g.map Ty.c).length) (.ofNat 10)=true:=aA (by simpa using hg);have b2:kA (.ofNat (hs.map Fm.c).length) (.ofNat 10)=true:=aA (by simpa using hh);obtain⟨v,c0,hv,hc0,gw⟩:=nx hL hb (n:=2) (by omega) (by omega);obtain⟨p,c,q1,hc,g1⟩:=hk Z ls g hs c0 hS (by omega) hc0;obtain⟨r,d,q2,hd,g2⟩:=hk Z ls g hs c hS (by omega) hc;have:=q1.cnt;have:=q1.tsz;have:=q1.mx;have:=q2.cnt;have:=q2.tsz;have:=q2.mx;rcases v with _|_|v
 ·exact⟨.p1 .andL (.p2 .andI p r),d,⟨by simp only [Pf.cnt];omega,by simp only [Pf.tsz];omega,by simp only [Pf.mx];omega,λ w=>by have:=q1.dp w;have:=q2.dp w;simp only [Pf.dpw];omega⟩,hd,eI 1 [(36,.Y),(43,.G),(49,.G),(52,.D L b (.pv (num 1))),(72,.D L c0 (.pv (num 0))),(78,.z k),(79,.D L c (.pv p.p)),(84,.z k),(85,.D L d (.pv r.p)),(87,.r (Pf.p2 .andI p r).p),(89,.r (Pf.p1 .andL (.p2 .andI p r)).p)] iA b1 b2 gv gw gs g1 gs g2 (DH 3 p r) (wN 4 (.p2 .andI p r))⟩
 ·exact⟨.p1 .andR (.p2 .andI p r),d,⟨by simp only [Pf.cnt];omega,by simp only [Pf.tsz];omega,by simp only [Pf.mx];omega,λ w=>by have:=q1.dp w;have:=q2.dp w;simp only [Pf.dpw];omega⟩,hd,eI 1 [(36,.Y),(43,.G),(49,.G),(52,.D L b (.pv (num 1))),(72,.D L c0 (.pv (num 1))),(78,.z k),(79,.D L c (.pv p.p)),(84,.z k),(85,.D L d (.pv r.p)),(87,.r (Pf.p2 .andI p r).p),(89,.r (Pf.p1 .andR (.p2 .andI p r)).p)] iA b1 b2 gv gw gs g1 gs g2 (DH 3 p r) (wN 5 (.p2 .andI p r))⟩
 ·omega
theorem Ut {L:List Int} (hL:Dk L) {k:Nat} (hk:iB L k) (hkl:k<=9) {Z:Nat} {ls:List Fm} {g:List Ty} {hs:List Fm} {a:Nat} (hS:S19 Z ls g hs) (hZ:Z+cm (k+1)<=281474976710656) (ha:a<=L.length) (hg:g.length<10) (hh:hs.length<10) {b:Nat} (hb:b<=L.length) (gv:O 14 [.loc 0 0,.pv (num 17)] [(0,dk L a)] (.pv (num 2)) [(0,dk L b)]):∃ (p:Pf) (b:Nat),PG (cp (k+1)) (Z+cm (k+1)) ((k+1)+2) p/\b<=L.length/\ZC L ls g hs (k+1) a p b:=by
 have hm:=jA;have hbg:=uA;have e20:PA=1048576:=rfl;have eW:=mD;have hz1:=hS.z;have e1:cp (k+1)=2 * cp k+10000:=rfl;have e2:cm (k+1)=2 * cm k+uC+4 * PA:=rfl;have e3:=YC k;have gs:=nB (a:=k+1);have b1:kA (.ofNat (g.map Ty.c).length) (.ofNat 10)=true:=aA (by simpa using hg);have b2:kA (.ofNat (hs.map Fm.c).length) (.ofNat 10)=true:=aA (by simpa using hh);obtain⟨f,c,qf,hc,g1⟩:=Lt hL hS.gs (by omega) hb;have ff:=qf.fbd (by omega) (by omega) hz1;obtain⟨p,d,q1,hd,g2⟩:=hk Z ls g (hs++[f]) c (hS.with ff (Nat.le_refl _) hh) (by omega) hc;have:=q1.cnt;have:=q1.tsz;have:=q1.mx;have:=qf.cnt;have:=qf.tsz;exact⟨.impI f p,d,⟨by simp only [Pf.cnt];omega,by simp only [Pf.tsz];omega,by simp only [Pf.mx];omega,λ w=>by have:=q1.dp w;simp only [Pf.dpw];omega⟩,hd,o9 1 [(36,.Y),(43,.G),(49,.G),(52,.D L b (.pv (num 2))),(95,.D L c (.pv f.p)),(101,.r (VA g (hs++[f]))),(103,.z k),(104,.D L d (.pv p.p)),(105,.r (Pf.impI f p).p)] iA b1 b2 gv g1 (vY g hs f) gs g2 (xd f p)⟩
theorem Vt (H:MF) {L:List Int} (hL:Dk L) {k:Nat} (hk:iB L k) (hkl:k<=9) {Z:Nat} {ls:List Fm} {g:List Ty} {hs:List Fm} {a:Nat} (hS:S19 Z ls g hs) (hZ:Z+cm (k+1)<=281474976710656) (ha:a<=L.length) (hg:g.length<10) (hh:hs.length<10) {b:Nat} (hb:b<=L.length) (gv:O 14 [.loc 0 0,.pv (num 17)] [(0,dk L a)] (.pv (num 3)) [(0,dk L b)]):∃ (p:Pf) (b:Nat),PG (cp (k+1)) (Z+cm (k+1)) ((k+1)+2) p/\b<=L.length/\ZC L ls g hs (k+1) a p b:=by
 have hm:=jA;have hbg:=uA;have e20:PA=1048576:=rfl;have eW:=mD;have hz1:=hS.z;have hhl:=hS.hl;have e1:cp (k+1)=2 * cp k+10000:=rfl;have e2:cm (k+1)=2 * cm k+uC+4 * PA:=rfl;have e3:=YC k;have gs:=nB (a:=k+1);have b1:kA (.ofNat (g.map Ty.c).length) (.ofNat 10)=true:=aA (by simpa using hg);have b2:kA (.ofNat (hs.map Fm.c).length) (.ofNat 10)=true:=aA (by simpa using hh);obtain⟨p,c,q1,hc0,g1⟩:=hk Z ls g hs b hS (by omega) hb;have:=q1.cnt;have:=q1.tsz;have:=q1.mx;obtain⟨r,g2,qr⟩:=XT H hS q1 (by omega) hZ;have e4:=QN k (by omega)
 cases r with
 | er n =>
  obtain⟨w,c1,hw,hc,gw⟩:=nx hL hc0 (n:=4) (by omega) (by omega);obtain⟨x,d,q,hd,gx⟩:=eC hL (t:=.nat) (g:=g) (by decide) hS.gs (by omega) hc;have cx:=q.cnt;have mx:=q.mx;have sx:=q.tsz;rcases w with _|_|w
  ·cases hs with
   | nil=>exact⟨.refl x,d,⟨by simp only [Pf.cnt];omega,by simp only [Pf.tsz];omega,by simp only [Pf.mx];omega,λ _=>Nat.zero_le _⟩,hd,jC 1 [(36,.Y),(43,.G),(49,.G),(52,.D L b (.pv (num 3))),(112,.z k),(113,.D L c (.pv p.p)),(118,.r (PR.er n).p),(388,.D L c1 (.pv (num 0))),(415,.D L d (.pv x.p)),(416,.r (Pf.refl x).p)] iA b1 b2 gv gs g1 g2 gw gx (rB x)⟩
   | cons f r =>
    have hr:=hS.hl;obtain⟨i,e,hi,he,gi⟩:=nx hL hc (n:=((f::r).map Fm.c).length) (by simp) (by simp at hr ⊢;omega);exact⟨.leaf false i,e,⟨by simp only [Pf.cnt];omega,Nat.zero_le _,Nat.zero_le _,λ _=>Nat.zero_le _⟩,he,jC 1 [(36,.Y),(43,.G),(49,.G),(52,.D L b (.pv (num 3))),(112,.z k),(113,.D L c (.pv p.p)),(118,.r (PR.er n).p),(388,.D L c1 (.pv (num 0))),(399,.D L e (.pv (num i))),(400,.r (Pf.leaf false i).p)] iA b1 b2 gv gs g1 g2 gw gi (pF i)⟩
  ·cases ls with
   | nil=>exact⟨.refl x,d,⟨by simp only [Pf.cnt];omega,by simp only [Pf.tsz];omega,by simp only [Pf.mx];omega,λ _=>Nat.zero_le _⟩,hd,jC 1 [(36,.Y),(43,.G),(49,.G),(52,.D L b (.pv (num 3))),(112,.z k),(113,.D L c (.pv p.p)),(118,.r (PR.er n).p),(388,.D L c1 (.pv (num 1))),(415,.D L d (.pv x.p)),(416,.r (Pf.refl x).p)] iA b1 b2 gv gs g1 g2 gw gx (rB x)⟩
   | cons f r =>
    have hr:=hS.ll;obtain⟨i,e,hi,he,gi⟩:=nx hL hc (n:=((f::r).map Fm.c).length) (by simp) (by simp at hr ⊢;omega);exact⟨.leaf true i,e,⟨by simp only [Pf.cnt];omega,Nat.zero_le _,Nat.zero_le _,λ w=>Nat.le_add_left w _⟩,he,o9 1 [(36,.Y),(43,.G),(49,.G),(52,.D L b (.pv (num 3))),(112,.z k),(113,.D L c (.pv p.p)),(118,.r (PR.er n).p),(388,.D L c1 (.pv (num 1))),(409,.D L e (.pv (num i)))] iA b1 b2 gv gs g1 g2 gw gi⟩
  ·exact⟨.refl x,d,⟨by simp only [Pf.cnt];omega,by simp only [Pf.tsz];omega,by simp only [Pf.mx];omega,λ _=>Nat.zero_le _⟩,hd,jC 1 [(36,.Y),(43,.G),(49,.G),(52,.D L b (.pv (num 3))),(112,.z k),(113,.D L c (.pv p.p)),(118,.r (PR.er n).p),(388,.D L c1 (.pv (num (w+2)))),(415,.D L d (.pv x.p)),(416,.r (Pf.refl x).p)] iA b1 b2 gv gs g1 g2 gw gx (rB x)⟩
 | ok f u =>
  have hF:=qr f u rfl;have c1:=hF.1;have c2:=hF.2.1;have c3:=hF.2.2;obtain⟨s,d,q2,hd,g3⟩:=hk (Z+cm k+uC) ls g (hs++[f]) c (hS.with hF (by omega) hh) (by omega) hc0;have:=q2.cnt;have:=q2.tsz;have:=q2.mx;exact⟨.p2 .impE (.impI f s) p,d,⟨by simp only [Pf.cnt];omega,by simp only [Pf.tsz];omega,by simp only [Pf.mx];omega,λ w=>by have:=q1.dp w;have:=q2.dp w;simp only [Pf.dpw];omega⟩,hd,iI 1 [(36,.Y),(43,.G),(49,.G),(52,.D L b (.pv (num 3))),(112,.z k),(113,.D L c (.pv p.p)),(118,.r (PR.ok f u).p),(130,.r (VA g (hs++[f]))),(132,.z k),(133,.D L d (.pv s.p)),(134,.r (Pf.impI f s).p),(137,.r (Pf.p2 .impE (.impI f s) p).p)] iA b1 b2 gv gs g1 g2 (vY g hs f) gs g3 (xd f s) (DH 7 (.impI f s) p)⟩
theorem Wt {L:List Int} (hL:Dk L) {k:Nat} (hk:iB L k) (hkl:k<=9) {Z:Nat} {ls:List Fm} {g:List Ty} {hs:List Fm} {a:Nat} (hS:S19 Z ls g hs) (hZ:Z+cm (k+1)<=281474976710656) (ha:a<=L.length) (hg:g.length<10) (hh:hs.length<10) {b:Nat} (hb:b<=L.length) (gv:O 14 [.loc 0 0,.pv (num 17)] [(0,dk L a)] (.pv (num 4)) [(0,dk L b)]):∃ (p:Pf) (b:Nat),PG (cp (k+1)) (Z+cm (k+1)) ((k+1)+2) p/\b<=L.length/\ZC L ls g hs (k+1) a p b:=by
 have hm:=jA;have hbg:=uA;have e20:PA=1048576:=rfl;have eW:=mD;have hz1:=hS.z;have e1:cp (k+1)=2 * cp k+10000:=rfl;have e2:cm (k+1)=2 * cm k+uC+4 * PA:=rfl;have e3:=YC k;have gs:=nB (a:=k+1);have b1:kA (.ofNat (g.map Ty.c).length) (.ofNat 10)=true:=aA (by simpa using hg);have b2:kA (.ofNat (hs.map Fm.c).length) (.ofNat 10)=true:=aA (by simpa using hh);obtain⟨t,c,zt,hc,g1⟩:=WC hL 1 (by omega) hb;have zt:t.size<=3:=zt;obtain⟨p,d,q1,hd,g2⟩:=hk (Z+1) ls (g++[t]) (qC hs) c (hS.below zt hg) (by omega) hc;have:=q1.cnt;have:=q1.tsz;have:=q1.mx;exact⟨.all false t p,d,⟨by simp only [Pf.cnt];omega,by simp only [Pf.tsz];omega,by simp only [Pf.mx];omega,λ w=>by have:=q1.dp w;simp only [Pf.dpw];omega⟩,hd,o9 1 [(36,.Y),(43,.G),(49,.G),(52,.D L b (.pv (num 4))),(141,.D L c (.pv t.p)),(148,.r (VA (g++[t]) (qC hs))),(150,.z k),(151,.D L d (.pv p.p)),(152,.r (Pf.all false t p).p)] iA b1 b2 gv g1 (PN g hs t (by omega) (by omega) (λ f hf=>by have:=hS.hb f hf;rw [hm];omega)) gs g2 (AP false t p)⟩
theorem Xt {L:List Int} (hL:Dk L) {k:Nat} (hk:iB L k) (hkl:k<=9) {Z:Nat} {ls:List Fm} {g:List Ty} {hs:List Fm} {a:Nat} (hS:S19 Z ls g hs) (hZ:Z+cm (k+1)<=281474976710656) (ha:a<=L.length) (hg:g.length<10) (hh:hs.length<10) {b:Nat} (hb:b<=L.length) (gv:O 14 [.loc 0 0,.pv (num 17)] [(0,dk L a)] (.pv (num 5)) [(0,dk L b)]):∃ (p:Pf) (b:Nat),PG (cp (k+1)) (Z+cm (k+1)) ((k+1)+2) p/\b<=L.length/\ZC L ls g hs (k+1) a p b:=by
 have hm:=jA;have hbg:=uA;have e20:PA=1048576:=rfl;have eW:=mD;have hz1:=hS.z;have e1:cp (k+1)=2 * cp k+10000:=rfl;have e2:cm (k+1)=2 * cm k+uC+4 * PA:=rfl;have e3:=YC k;have gs:=nB (a:=k+1);have b1:kA (.ofNat (g.map Ty.c).length) (.ofNat 10)=true:=aA (by simpa using hg);have b2:kA (.ofNat (hs.map Fm.c).length) (.ofNat 10)=true:=aA (by simpa using hh);obtain⟨t,c,zt,hc,g1⟩:=WC hL 1 (by omega) hb;have zt:t.size<=3:=zt;obtain⟨x,c0,qx,hc0,gx⟩:=eC hL (t:=t) (g:=g) zt hS.gs (by omega) hc;obtain⟨p,d,q1,hd,g2⟩:=hk (Z+1) ls (g++[t]) (qC hs) c0 (hS.below zt hg) (by omega) hc0;have:=q1.cnt;have:=q1.tsz;have:=q1.mx;have:=qx.cnt;have:=qx.tsz;have:=qx.mx;exact⟨.ins false x (.all false t p),d,⟨by simp only [Pf.cnt];omega,by simp only [Pf.tsz];omega,by simp only [Pf.mx];omega,λ w=>by have:=q1.dp w;simp only [Pf.dpw];omega⟩,hd,eI 1 [(36,.Y),(43,.G),(49,.G),(52,.D L b (.pv (num 5))),(156,.D L c (.pv t.p)),(161,.D L c0 (.pv x.p)),(168,.r (VA (g++[t]) (qC hs))),(170,.z k),(171,.D L d (.pv p.p)),(172,.r (Pf.all false t p).p),(173,.r (Pf.ins false x (.all false t p)).p)] iA b1 b2 gv g1 gx (PN g hs t (by omega) (by omega) (λ f hf=>by have:=hS.hb f hf;rw [hm];omega)) gs g2 (AP false t p) (Ad false x (.all false t p))⟩
theorem Yt {L:List Int} (hL:Dk L) {k:Nat} (hk:iB L k) (hkl:k<=9) {Z:Nat} {ls:List Fm} {g:List Ty} {hs:List Fm} {a:Nat} (hS:S19 Z ls g hs) (hZ:Z+cm (k+1)<=281474976710656) (ha:a<=L.length) (hg:g.length<10) (hh:hs.length<10) {b:Nat} (hb:b<=L.length) (gv:O 14 [.loc 0 0,.pv (num 17)] [(0,dk L a)] (.pv (num 6)) [(0,dk L b)]):∃ (p:Pf) (b:Nat),PG (cp (k+1)) (Z+cm (k+1)) ((k+1)+2) p/\b<=L.length/\ZC L ls g hs (k+1) a p b:=by
 have hm:=jA;have hbg:=uA;have e20:PA=1048576:=rfl;have eW:=mD;have e1:cp (k+1)=2 * cp k+10000:=rfl;have e2:cm (k+1)=2 * cm k+uC+4 * PA:=rfl;have e3:=YC k;have b1:kA (.ofNat (g.map Ty.c).length) (.ofNat 10)=true:=aA (by simpa using hg);have b2:kA (.ofNat (hs.map Fm.c).length) (.ofNat 10)=true:=aA (by simpa using hh);obtain⟨x,c,qx,hc,gx⟩:=eC hL (t:=.nat) (g:=g) (by decide) hS.gs (by omega) hb;obtain⟨v,d,hv,hd,gw⟩:=nx hL hc (n:=2) (by omega) (by omega);have:=qx.cnt;have:=qx.tsz;have:=qx.mx;have m1:=nE 1 x 0;have e5:(1:Int).toNat=1:=rfl;have gu:=OT x (by omega) (by rw [hm];omega);rcases v with _|_|v
 ·exact⟨.ex false (.q .ex .nat (.eq (x.sh 0 1) (.v 0))) x (.refl x),d,⟨by simp only [Pf.cnt,Fm.cnt,wC,Tm.cnt];omega,by simp only [Pf.tsz,Fm.tsz,TD,Tm.tsz,Ty.size];omega,by simp only [Pf.mx,Fm.mx,Tm.mx];omega,λ w=>by simp only [Pf.dpw];omega⟩,hd,iI 1 [(36,.Y),(43,.G),(49,.G),(52,.D L b (.pv (num 6))),(180,.D L c (.pv x.p)),(182,.D L d (.pv (num 0))),(189,.r (x.sh 0 1).p),(190,.r (Tm.v 0).p),(191,.r (Fm.eq (x.sh 0 1) (.v 0)).p),(192,.r (Fm.q .ex .nat (.eq (x.sh 0 1) (.v 0))).p),(200,.r (Pf.refl x).p),(201,.r (Pf.ex false (.q .ex .nat (.eq (x.sh 0 1) (.v 0))) x (.refl x)).p)] iA b1 b2 gv gx gw gu (gE 0) (rE (x.sh 0 1) (.v 0)) (sD .ex .nat (.eq (x.sh 0 1) (.v 0))) (rB x) (JI false (.q .ex .nat (.eq (x.sh 0 1) (.v 0))) x (.refl x))⟩
 ·exact⟨.ex true (.q .exU .nat (.eq (x.sh 0 1) (.v 0))) x (.refl x),d,⟨by simp only [Pf.cnt,Fm.cnt,wC,Tm.cnt];omega,by simp only [Pf.tsz,Fm.tsz,TD,Tm.tsz,Ty.size];omega,by simp only [Pf.mx,Fm.mx,Tm.mx];omega,λ w=>by simp only [Pf.dpw];omega⟩,hd,iI 1 [(36,.Y),(43,.G),(49,.G),(52,.D L b (.pv (num 6))),(180,.D L c (.pv x.p)),(182,.D L d (.pv (num 1))),(189,.r (x.sh 0 1).p),(190,.r (Tm.v 0).p),(191,.r (Fm.eq (x.sh 0 1) (.v 0)).p),(192,.r (Fm.q .exU .nat (.eq (x.sh 0 1) (.v 0))).p),(200,.r (Pf.refl x).p),(201,.r (Pf.ex true (.q .exU .nat (.eq (x.sh 0 1) (.v 0))) x (.refl x)).p)] iA b1 b2 gv gx gw gu (gE 0) (rE (x.sh 0 1) (.v 0)) (sD .exU .nat (.eq (x.sh 0 1) (.v 0))) (rB x) (JI true (.q .exU .nat (.eq (x.sh 0 1) (.v 0))) x (.refl x))⟩
 ·omega
theorem Zt (H:MF) {L:List Int} (hL:Dk L) {k:Nat} (hk:iB L k) (hkl:k<=9) {Z:Nat} {ls:List Fm} {g:List Ty} {hs:List Fm} {a:Nat} (hS:S19 Z ls g hs) (hZ:Z+cm (k+1)<=281474976710656) (ha:a<=L.length) (hg:g.length<10) (hh:hs.length<10) {b:Nat} (hb:b<=L.length) (gv:O 14 [.loc 0 0,.pv (num 17)] [(0,dk L a)] (.pv (num 7)) [(0,dk L b)]):∃ (p:Pf) (b:Nat),PG (cp (k+1)) (Z+cm (k+1)) ((k+1)+2) p/\b<=L.length/\ZC L ls g hs (k+1) a p b:=by
 have hm:=jA;have hbg:=uA;have e20:PA=1048576:=rfl;have eW:=mD;have hz1:=hS.z;have hhl:=hS.hl;have e1:cp (k+1)=2 * cp k+10000:=rfl;have e2:cm (k+1)=2 * cm k+uC+4 * PA:=rfl;have e3:=YC k;have gs:=nB (a:=k+1);have b1:kA (.ofNat (g.map Ty.c).length) (.ofNat 10)=true:=aA (by simpa using hg);have b2:kA (.ofNat (hs.map Fm.c).length) (.ofNat 10)=true:=aA (by simpa using hh);obtain⟨p,c,q1,hc0,g1⟩:=hk Z ls g hs b hS (by omega) hb;have:=q1.cnt;have:=q1.tsz;have:=q1.mx;obtain⟨r,g2,qr⟩:=XT H hS q1 (by omega) hZ;have e4:=QN k (by omega)
 cases r with
 | er n =>
  obtain⟨w,c1,hw,hc,gw⟩:=nx hL hc0 (n:=4) (by omega) (by omega);obtain⟨x,d,q,hd,gx⟩:=eC hL (t:=.nat) (g:=g) (by decide) hS.gs (by omega) hc;have cx:=q.cnt;have mx:=q.mx;have sx:=q.tsz;rcases w with _|_|w
  ·cases hs with
   | nil=>exact⟨.refl x,d,⟨by simp only [Pf.cnt];omega,by simp only [Pf.tsz];omega,by simp only [Pf.mx];omega,λ _=>Nat.zero_le _⟩,hd,jC 1 [(36,.Y),(43,.G),(49,.G),(52,.D L b (.pv (num 7))),(208,.z k),(209,.D L c (.pv p.p)),(214,.r (PR.er n).p),(388,.D L c1 (.pv (num 0))),(415,.D L d (.pv x.p)),(416,.r (Pf.refl x).p)] iA b1 b2 gv gs g1 g2 gw gx (rB x)⟩
   | cons f r =>
    have hr:=hS.hl;obtain⟨i,e,hi,he,gi⟩:=nx hL hc (n:=((f::r).map Fm.c).length) (by simp) (by simp at hr ⊢;omega);exact⟨.leaf false i,e,⟨by simp only [Pf.cnt];omega,Nat.zero_le _,Nat.zero_le _,λ _=>Nat.zero_le _⟩,he,jC 1 [(36,.Y),(43,.G),(49,.G),(52,.D L b (.pv (num 7))),(208,.z k),(209,.D L c (.pv p.p)),(214,.r (PR.er n).p),(388,.D L c1 (.pv (num 0))),(399,.D L e (.pv (num i))),(400,.r (Pf.leaf false i).p)] iA b1 b2 gv gs g1 g2 gw gi (pF i)⟩
  ·cases ls with
   | nil=>exact⟨.refl x,d,⟨by simp only [Pf.cnt];omega,by simp only [Pf.tsz];omega,by simp only [Pf.mx];omega,λ _=>Nat.zero_le _⟩,hd,jC 1 [(36,.Y),(43,.G),(49,.G),(52,.D L b (.pv (num 7))),(208,.z k),(209,.D L c (.pv p.p)),(214,.r (PR.er n).p),(388,.D L c1 (.pv (num 1))),(415,.D L d (.pv x.p)),(416,.r (Pf.refl x).p)] iA b1 b2 gv gs g1 g2 gw gx (rB x)⟩
   | cons f r =>
    have hr:=hS.ll;obtain⟨i,e,hi,he,gi⟩:=nx hL hc (n:=((f::r).map Fm.c).length) (by simp) (by simp at hr ⊢;omega);exact⟨.leaf true i,e,⟨by simp only [Pf.cnt];omega,Nat.zero_le _,Nat.zero_le _,λ w=>Nat.le_add_left w _⟩,he,o9 1 [(36,.Y),(43,.G),(49,.G),(52,.D L b (.pv (num 7))),(208,.z k),(209,.D L c (.pv p.p)),(214,.r (PR.er n).p),(388,.D L c1 (.pv (num 1))),(409,.D L e (.pv (num i)))] iA b1 b2 gv gs g1 g2 gw gi⟩
  ·exact⟨.refl x,d,⟨by simp only [Pf.cnt];omega,by simp only [Pf.tsz];omega,by simp only [Pf.mx];omega,λ _=>Nat.zero_le _⟩,hd,jC 1 [(36,.Y),(43,.G),(49,.G),(52,.D L b (.pv (num 7))),(208,.z k),(209,.D L c (.pv p.p)),(214,.r (PR.er n).p),(388,.D L c1 (.pv (num (w+2)))),(415,.D L d (.pv x.p)),(416,.r (Pf.refl x).p)] iA b1 b2 gv gs g1 g2 gw gx (rB x)⟩
 | ok f u =>
  have hF:=qr f u rfl;have c1:=hF.1;have c2:=hF.2.1;have c3:=hF.2.2;have c4:=DE 1 f 0;have e5:(1:Int).toNat=1:=rfl;have gu:=bD f 0 1 (by omega) (by omega) (by rw [hm];omega) (by omega);obtain⟨t,d,zt,hd,g3⟩:=WC hL 1 (by omega) hc0;have zt:t.size<=3:=zt;obtain⟨v,e,hv,he,gw⟩:=nx hL hd (n:=2) (by omega) (by omega);obtain⟨x,h,qx,hh',gx⟩:=eC hL (t:=t) (g:=g) zt hS.gs (by omega) he;have:=qx.cnt;have:=qx.tsz;have:=qx.mx;rcases v with _|_|v
  ·exact⟨.ex false (.q .ex t (f.sh 0 1)) x p,h,⟨by simp only [Pf.cnt,Fm.cnt,GD];omega,by simp only [Pf.tsz,Fm.tsz,VD];omega,by simp only [Pf.mx,Fm.mx];omega,λ w=>by have:=q1.dp w;simp only [Pf.dpw];omega⟩,hh',o13 1 [(36,.Y),(43,.G),(49,.G),(52,.D L b (.pv (num 7))),(208,.z k),(209,.D L c (.pv p.p)),(214,.r (PR.ok f u).p),(220,.D L d (.pv t.p)),(222,.D L e (.pv (num 0))),(230,.r (f.sh 0 1).p),(231,.r (Fm.q .ex t (f.sh 0 1)).p),(241,.D L h (.pv x.p)),(243,.r (Pf.ex false (.q .ex t (f.sh 0 1)) x p).p)] iA b1 b2 gv gs g1 g2 g3 gw gu (sD .ex t (f.sh 0 1)) gx (JI false (.q .ex t (f.sh 0 1)) x p)⟩
  ·exact⟨.ex true (.q .exU t (f.sh 0 1)) x p,h,⟨by simp only [Pf.cnt,Fm.cnt,GD];omega,by simp only [Pf.tsz,Fm.tsz,VD];omega,by simp only [Pf.mx,Fm.mx];omega,λ w=>by have:=q1.dp w;simp only [Pf.dpw];omega⟩,hh',o13 1 [(36,.Y),(43,.G),(49,.G),(52,.D L b (.pv (num 7))),(208,.z k),(209,.D L c (.pv p.p)),(214,.r (PR.ok f u).p),(220,.D L d (.pv t.p)),(222,.D L e (.pv (num 1))),(230,.r (f.sh 0 1).p),(231,.r (Fm.q .exU t (f.sh 0 1)).p),(241,.D L h (.pv x.p)),(243,.r (Pf.ex true (.q .exU t (f.sh 0 1)) x p).p)] iA b1 b2 gv gs g1 g2 g3 gw gu (sD .exU t (f.sh 0 1)) gx (JI true (.q .exU t (f.sh 0 1)) x p)⟩
  ·omega
theorem qu {L:List Int} (hL:Dk L) {k:Nat} (hk:iB L k) (Ho:fY L k) (hkl:k<=9) {Z:Nat} {ls:List Fm} {g:List Ty} {hs:List Fm} {a:Nat} (hS:S19 Z ls g hs) (hZ:Z+cm (k+1)<=281474976710656) (ha:a<=L.length) (hg:g.length<10) (hh:hs.length<10) {b:Nat} (hb:b<=L.length) (gv:O 14 [.loc 0 0,.pv (num 17)] [(0,dk L a)] (.pv (num 8)) [(0,dk L b)]):∃ (p:Pf) (b:Nat),PG (cp (k+1)) (Z+cm (k+1)) ((k+1)+2) p/\b<=L.length/\ZC L ls g hs (k+1) a p b:=by
 have hbg:=uA;have b1:kA (.ofNat (g.map Ty.c).length) (.ofNat 10)=true:=aA (by simpa using hg);have b2:kA (.ofNat (hs.map Fm.c).length) (.ofNat 10)=true:=aA (by simpa using hh);obtain⟨p,c,q1,hc,g1⟩:=Ho Z ls g hs b hS hg hh hZ hb;exact⟨p,c,q1,hc,o5 1 [(36,.Y),(43,.G),(49,.G),(52,.D L b (.pv (num 8))),(250,.D L c (.pv p.p))] iA b1 b2 gv g1⟩
theorem zu (H:MF) {L:List Int} (hL:Dk L) {k:Nat} (hk:iB L k) (hkl:k<=9) {Z:Nat} {ls:List Fm} {g:List Ty} {hs:List Fm} {a:Nat} (hS:S19 Z ls g hs) (hZ:Z+cm (k+1)<=281474976710656) (ha:a<=L.length) (hg:g.length<10) (hh:hs.length<10) {b:Nat} (hb:b<=L.length) (gv:O 14 [.loc 0 0,.pv (num 17)] [(0,dk L a)] (.pv (num 9)) [(0,dk L b)]):∃ (p:Pf) (b:Nat),PG (cp (k+1)) (Z+cm (k+1)) ((k+1)+2) p/\b<=L.length/\ZC L ls g hs (k+1) a p b:=by
 have hm:=jA;have hbg:=uA;have e20:PA=1048576:=rfl;have eW:=mD;have hz1:=hS.z;have hhl:=hS.hl;have e1:cp (k+1)=2 * cp k+10000:=rfl;have e2:cm (k+1)=2 * cm k+uC+4 * PA:=rfl;have e3:=YC k;have gs:=nB (a:=k+1);have b1:kA (.ofNat (g.map Ty.c).length) (.ofNat 10)=true:=aA (by simpa using hg);have b2:kA (.ofNat (hs.map Fm.c).length) (.ofNat 10)=true:=aA (by simpa using hh);obtain⟨p,c,q1,hc0,g1⟩:=hk Z ls g hs b hS (by omega) hb;have:=q1.cnt;have:=q1.tsz;have:=q1.mx;obtain⟨r,g2,qr⟩:=XT H hS q1 (by omega) hZ;have e4:=QN k (by omega)
 cases r with
 | er n =>
  obtain⟨w,c1,hw,hc,gw⟩:=nx hL hc0 (n:=4) (by omega) (by omega);obtain⟨x,d,q,hd,gx⟩:=eC hL (t:=.nat) (g:=g) (by decide) hS.gs (by omega) hc;have cx:=q.cnt;have mx:=q.mx;have sx:=q.tsz;rcases w with _|_|w
  ·cases hs with
   | nil=>exact⟨.refl x,d,⟨by simp only [Pf.cnt];omega,by simp only [Pf.tsz];omega,by simp only [Pf.mx];omega,λ _=>Nat.zero_le _⟩,hd,jC 1 [(36,.Y),(43,.G),(49,.G),(52,.D L b (.pv (num 9))),(257,.z k),(258,.D L c (.pv p.p)),(263,.r (PR.er n).p),(388,.D L c1 (.pv (num 0))),(415,.D L d (.pv x.p)),(416,.r (Pf.refl x).p)] iA b1 b2 gv gs g1 g2 gw gx (rB x)⟩
   | cons f r =>
    have hr:=hS.hl;obtain⟨i,e,hi,he,gi⟩:=nx hL hc (n:=((f::r).map Fm.c).length) (by simp) (by simp at hr ⊢;omega);exact⟨.leaf false i,e,⟨by simp only [Pf.cnt];omega,Nat.zero_le _,Nat.zero_le _,λ _=>Nat.zero_le _⟩,he,jC 1 [(36,.Y),(43,.G),(49,.G),(52,.D L b (.pv (num 9))),(257,.z k),(258,.D L c (.pv p.p)),(263,.r (PR.er n).p),(388,.D L c1 (.pv (num 0))),(399,.D L e (.pv (num i))),(400,.r (Pf.leaf false i).p)] iA b1 b2 gv gs g1 g2 gw gi (pF i)⟩
  ·cases ls with
   | nil=>exact⟨.refl x,d,⟨by simp only [Pf.cnt];omega,by simp only [Pf.tsz];omega,by simp only [Pf.mx];omega,λ _=>Nat.zero_le _⟩,hd,jC 1 [(36,.Y),(43,.G),(49,.G),(52,.D L b (.pv (num 9))),(257,.z k),(258,.D L c (.pv p.p)),(263,.r (PR.er n).p),(388,.D L c1 (.pv (num 1))),(415,.D L d (.pv x.p)),(416,.r (Pf.refl x).p)] iA b1 b2 gv gs g1 g2 gw gx (rB x)⟩
   | cons f r =>
    have hr:=hS.ll;obtain⟨i,e,hi,he,gi⟩:=nx hL hc (n:=((f::r).map Fm.c).length) (by simp) (by simp at hr ⊢;omega);exact⟨.leaf true i,e,⟨by simp only [Pf.cnt];omega,Nat.zero_le _,Nat.zero_le _,λ w=>Nat.le_add_left w _⟩,he,o9 1 [(36,.Y),(43,.G),(49,.G),(52,.D L b (.pv (num 9))),(257,.z k),(258,.D L c (.pv p.p)),(263,.r (PR.er n).p),(388,.D L c1 (.pv (num 1))),(409,.D L e (.pv (num i)))] iA b1 b2 gv gs g1 g2 gw gi⟩
  ·exact⟨.refl x,d,⟨by simp only [Pf.cnt];omega,by simp only [Pf.tsz];omega,by simp only [Pf.mx];omega,λ _=>Nat.zero_le _⟩,hd,jC 1 [(36,.Y),(43,.G),(49,.G),(52,.D L b (.pv (num 9))),(257,.z k),(258,.D L c (.pv p.p)),(263,.r (PR.er n).p),(388,.D L c1 (.pv (num (w+2)))),(415,.D L d (.pv x.p)),(416,.r (Pf.refl x).p)] iA b1 b2 gv gs g1 g2 gw gx (rB x)⟩
 | ok f u =>
  have hF:=qr f u rfl;have c1:=hF.1;have c2:=hF.2.1;have c3:=hF.2.2;have c4:=DE 1 f 0;have e5:(1:Int).toNat=1:=rfl;have gu:=bD f 0 1 (by omega) (by omega) (by rw [hm];omega) (by omega);obtain⟨x,d,qx,hd,gx⟩:=eC hL (t:=.nat) (g:=g) (by decide) hS.gs (by omega) hc0;have:=qx.cnt;have:=qx.tsz;have:=qx.mx;exact⟨.ind false (f.sh 0 1) x p (.leaf false 0),d,⟨by simp only [Pf.cnt,GD];omega,by simp only [Pf.tsz,VD];omega,by simp only [Pf.mx];omega,λ w=>by have:=q1.dp w;simp only [Pf.dpw,lN,cond_false];omega⟩,hd,eI 1 [(36,.Y),(43,.G),(49,.G),(52,.D L b (.pv (num 9))),(257,.z k),(258,.D L c (.pv p.p)),(263,.r (PR.ok f u).p),(270,.r (f.sh 0 1).p),(275,.D L d (.pv x.p)),(277,.r (Pf.leaf false 0).p),(278,.r (Pf.ind false (f.sh 0 1) x p (.leaf false 0)).p)] iA b1 b2 gv gs g1 g2 gu gx (pF 0) (VW false (f.sh 0 1) x p (.leaf false 0))⟩
theorem ju (H:MF) {L:List Int} (hL:Dk L) {k:Nat} (hk:iB L k) (hkl:k<=9) {Z:Nat} {ls:List Fm} {g:List Ty} {hs:List Fm} {a:Nat} (hS:S19 Z ls g hs) (hZ:Z+cm (k+1)<=281474976710656) (ha:a<=L.length) (hg:g.length<10) (hh:hs.length<10) {b:Nat} (hb:b<=L.length) (gv:O 14 [.loc 0 0,.pv (num 17)] [(0,dk L a)] (.pv (num 10)) [(0,dk L b)]):∃ (p:Pf) (b:Nat),PG (cp (k+1)) (Z+cm (k+1)) ((k+1)+2) p/\b<=L.length/\ZC L ls g hs (k+1) a p b:=by
 have hm:=jA;have hbg:=uA;have e20:PA=1048576:=rfl;have eW:=mD;have hz1:=hS.z;have hhl:=hS.hl;have e1:cp (k+1)=2 * cp k+10000:=rfl;have e2:cm (k+1)=2 * cm k+uC+4 * PA:=rfl;have e3:=YC k;have gs:=nB (a:=k+1);have b1:kA (.ofNat (g.map Ty.c).length) (.ofNat 10)=true:=aA (by simpa using hg);have b2:kA (.ofNat (hs.map Fm.c).length) (.ofNat 10)=true:=aA (by simpa using hh);obtain⟨p,c,q1,hc0,g1⟩:=hk Z ls g hs b hS (by omega) hb;have:=q1.cnt;have:=q1.tsz;have:=q1.mx;obtain⟨r,g2,qr⟩:=XT H hS q1 (by omega) hZ;have e4:=QN k (by omega)
 cases r with
 | er n =>
  obtain⟨w,c1,hw,hc,gw⟩:=nx hL hc0 (n:=4) (by omega) (by omega);obtain⟨x,d,q,hd,gx⟩:=eC hL (t:=.nat) (g:=g) (by decide) hS.gs (by omega) hc;have cx:=q.cnt;have mx:=q.mx;have sx:=q.tsz;rcases w with _|_|w
  ·cases hs with
   | nil=>exact⟨.refl x,d,⟨by simp only [Pf.cnt];omega,by simp only [Pf.tsz];omega,by simp only [Pf.mx];omega,λ _=>Nat.zero_le _⟩,hd,jC 1 [(36,.Y),(43,.G),(49,.G),(52,.D L b (.pv (num 10))),(285,.z k),(286,.D L c (.pv p.p)),(291,.r (PR.er n).p),(388,.D L c1 (.pv (num 0))),(415,.D L d (.pv x.p)),(416,.r (Pf.refl x).p)] iA b1 b2 gv gs g1 g2 gw gx (rB x)⟩
   | cons f r =>
    have hr:=hS.hl;obtain⟨i,e,hi,he,gi⟩:=nx hL hc (n:=((f::r).map Fm.c).length) (by simp) (by simp at hr ⊢;omega);exact⟨.leaf false i,e,⟨by simp only [Pf.cnt];omega,Nat.zero_le _,Nat.zero_le _,λ _=>Nat.zero_le _⟩,he,jC 1 [(36,.Y),(43,.G),(49,.G),(52,.D L b (.pv (num 10))),(285,.z k),(286,.D L c (.pv p.p)),(291,.r (PR.er n).p),(388,.D L c1 (.pv (num 0))),(399,.D L e (.pv (num i))),(400,.r (Pf.leaf false i).p)] iA b1 b2 gv gs g1 g2 gw gi (pF i)⟩
  ·cases ls with
   | nil=>exact⟨.refl x,d,⟨by simp only [Pf.cnt];omega,by simp only [Pf.tsz];omega,by simp only [Pf.mx];omega,λ _=>Nat.zero_le _⟩,hd,jC 1 [(36,.Y),(43,.G),(49,.G),(52,.D L b (.pv (num 10))),(285,.z k),(286,.D L c (.pv p.p)),(291,.r (PR.er n).p),(388,.D L c1 (.pv (num 1))),(415,.D L d (.pv x.p)),(416,.r (Pf.refl x).p)] iA b1 b2 gv gs g1 g2 gw gx (rB x)⟩
   | cons f r =>
    have hr:=hS.ll;obtain⟨i,e,hi,he,gi⟩:=nx hL hc (n:=((f::r).map Fm.c).length) (by simp) (by simp at hr ⊢;omega);exact⟨.leaf true i,e,⟨by simp only [Pf.cnt];omega,Nat.zero_le _,Nat.zero_le _,λ w=>Nat.le_add_left w _⟩,he,o9 1 [(36,.Y),(43,.G),(49,.G),(52,.D L b (.pv (num 10))),(285,.z k),(286,.D L c (.pv p.p)),(291,.r (PR.er n).p),(388,.D L c1 (.pv (num 1))),(409,.D L e (.pv (num i)))] iA b1 b2 gv gs g1 g2 gw gi⟩
  ·exact⟨.refl x,d,⟨by simp only [Pf.cnt];omega,by simp only [Pf.tsz];omega,by simp only [Pf.mx];omega,λ _=>Nat.zero_le _⟩,hd,jC 1 [(36,.Y),(43,.G),(49,.G),(52,.D L b (.pv (num 10))),(285,.z k),(286,.D L c (.pv p.p)),(291,.r (PR.er n).p),(388,.D L c1 (.pv (num (w+2)))),(415,.D L d (.pv x.p)),(416,.r (Pf.refl x).p)] iA b1 b2 gv gs g1 g2 gw gx (rB x)⟩
 | ok f u =>
  have hF:=qr f u rfl;have c1:=hF.1;have c2:=hF.2.1;have c3:=hF.2.2;have c4:=DE 1 f 0;have e5:(1:Int).toNat=1:=rfl;have gu:=bD f 0 1 (by omega) (by omega) (by rw [hm];omega) (by omega);obtain⟨x,d,qx,hd,gx⟩:=eC hL (t:=.list) (g:=g) (by decide) hS.gs (by omega) hc0;have:=qx.cnt;have:=qx.tsz;have:=qx.mx;exact⟨.ind true (f.sh 0 1) x p (.leaf false 0),d,⟨by simp only [Pf.cnt,GD];omega,by simp only [Pf.tsz,VD];omega,by simp only [Pf.mx];omega,λ w=>by have:=q1.dp w;simp only [Pf.dpw,lN,cond_false];omega⟩,hd,iI 1 [(36,.Y),(43,.G),(49,.G),(52,.D L b (.pv (num 10))),(285,.z k),(286,.D L c (.pv p.p)),(291,.r (PR.ok f u).p),(298,.r (f.sh 0 1).p),(302,.r Ty.list.p),(303,.D L d (.pv x.p)),(305,.r (Pf.leaf false 0).p),(306,.r (Pf.ind true (f.sh 0 1) x p (.leaf false 0)).p)] iA b1 b2 gv gs g1 g2 gu HK gx (pF 0) (VW true (f.sh 0 1) x p (.leaf false 0))⟩
theorem vu {L:List Int} (hL:Dk L) {k:Nat} (hk:iB L k) (hkl:k<=9) {Z:Nat} {ls:List Fm} {g:List Ty} {hs:List Fm} {a:Nat} (hS:S19 Z ls g hs) (hZ:Z+cm (k+1)<=281474976710656) (ha:a<=L.length) (hg:g.length<10) (hh:hs.length<10) {b:Nat} (hb:b<=L.length) (gv:O 14 [.loc 0 0,.pv (num 17)] [(0,dk L a)] (.pv (num 11)) [(0,dk L b)]):∃ (p:Pf) (b:Nat),PG (cp (k+1)) (Z+cm (k+1)) ((k+1)+2) p/\b<=L.length/\ZC L ls g hs (k+1) a p b:=by
 have hm:=jA;have hbg:=uA;have e20:PA=1048576:=rfl;have eW:=mD;have e1:cp (k+1)=2 * cp k+10000:=rfl;have e2:cm (k+1)=2 * cm k+uC+4 * PA:=rfl;have e3:=YC k;have b1:kA (.ofNat (g.map Ty.c).length) (.ofNat 10)=true:=aA (by simpa using hg);have b2:kA (.ofNat (hs.map Fm.c).length) (.ofNat 10)=true:=aA (by simpa using hh);obtain⟨x,c,qx,hc,gx⟩:=eC hL (t:=.nat) (g:=g) (by decide) hS.gs (by omega) hb;have:=qx.cnt;have:=qx.tsz;have:=qx.mx;have z1:(qH x).cnt<=x.cnt+1000:=by
  simp only [qH,Pf.cnt];have:stepP.cnt<=900:=by decide
  have:(Fm.eq pl0 (.v 0)).cnt<=50:=by decide
  have:(TA 0).cnt<=10:=by decide
  omega
 have z2:(qH x).tsz<=x.tsz+10:=by
  simp only [qH,Pf.tsz];have:stepP.tsz<=10:=by decide
  have:(Fm.eq pl0 (.v 0)).tsz<=10:=by decide
  have:(TA 0).tsz<=10:=by decide
  omega
 have z3:(qH x).mx<=x.mx+10:=by
  simp only [qH,Pf.mx];have:stepP.mx<=10:=by decide
  have:(Fm.eq pl0 (.v 0)).mx<=10:=by decide
  have:(TA 0).mx<=10:=by decide
  omega
 exact⟨qH x,c,⟨by omega,by omega,by omega,λ w=>by have h:stepP.dpw w<=1:=(show stepP.dpw 0<=1 by decide);simp only [qH,Pf.dpw,lN];omega⟩,hc,o6 1 [(36,.Y),(43,.G),(49,.G),(52,.D L b (.pv (num 11))),(313,.D L c (.pv x.p)),(314,.r (qH x).p)] iA b1 b2 gv gx (Mt x)⟩
theorem wu {L:List Int} (hL:Dk L) {k:Nat} (hk:iB L k) (hkl:k<=9) {Z:Nat} {ls:List Fm} {g:List Ty} {hs:List Fm} {a:Nat} (hS:S19 Z ls g hs) (hZ:Z+cm (k+1)<=281474976710656) (ha:a<=L.length) (hg:g.length<10) (hh:hs.length<10) {b:Nat} (hb:b<=L.length) (gv:O 14 [.loc 0 0,.pv (num 17)] [(0,dk L a)] (.pv (num 12)) [(0,dk L b)]):∃ (p:Pf) (b:Nat),PG (cp (k+1)) (Z+cm (k+1)) ((k+1)+2) p/\b<=L.length/\ZC L ls g hs (k+1) a p b:=by
 have hm:=jA;have hbg:=uA;have e20:PA=1048576:=rfl;have eW:=mD;have hz1:=hS.z;have e1:cp (k+1)=2 * cp k+10000:=rfl;have e2:cm (k+1)=2 * cm k+uC+4 * PA:=rfl;have e3:=YC k;have b1:kA (.ofNat (g.map Ty.c).length) (.ofNat 10)=true:=aA (by simpa using hg);have b2:kA (.ofNat (hs.map Fm.c).length) (.ofNat 10)=true:=aA (by simpa using hh);obtain⟨x,c,qx,hc,gx⟩:=eC hL (t:=.nat) (g:=g) (by decide) hS.gs (by omega) hb;obtain⟨y,d,qy,hd,gy⟩:=eC hL (t:=.nat) (g:=g) (by decide) hS.gs (by omega) hc;have:=qx.cnt;have:=qx.tsz;have:=qx.mx;have:=qy.cnt;have:=qy.tsz;have:=qy.mx;have m1:=nE 1 y 0;have e5:(1:Int).toNat=1:=rfl;have gu:=OT y (by omega) (by rw [hm];omega);exact⟨.subst (.eq (y.sh 0 1) (y.sh 0 1)) (.refl x) (.refl y),d,⟨by simp only [Pf.cnt,Fm.cnt,wC];omega,by simp only [Pf.tsz,Fm.tsz,TD];omega,by simp only [Pf.mx,Fm.mx];omega,λ w=>by simp only [Pf.dpw];omega⟩,hd,iI 1 [(36,.Y),(43,.G),(49,.G),(52,.D L b (.pv (num 12))),(321,.D L c (.pv x.p)),(326,.D L d (.pv y.p)),(328,.r (y.sh 0 1).p),(330,.r (y.sh 0 1).p),(331,.r (Fm.eq (y.sh 0 1) (y.sh 0 1)).p),(333,.r (Pf.refl x).p),(335,.r (Pf.refl y).p),(336,.r (Pf.subst (.eq (y.sh 0 1) (y.sh 0 1)) (.refl x) (.refl y)).p)] iA b1 b2 gv gx gy gu gu (rE (y.sh 0 1) (y.sh 0 1)) (rB x) (rB y) (Cd (.eq (y.sh 0 1) (y.sh 0 1)) (.refl x) (.refl y))⟩
theorem ku {L:List Int} (hL:Dk L) {k:Nat} (hk:iB L k) (hkl:k<=9) {Z:Nat} {ls:List Fm} {g:List Ty} {hs:List Fm} {a:Nat} (hS:S19 Z ls g hs) (hZ:Z+cm (k+1)<=281474976710656) (ha:a<=L.length) (hg:g.length<10) (hh:hs.length<10) {b:Nat} (hb:b<=L.length) (gv:O 14 [.loc 0 0,.pv (num 17)] [(0,dk L a)] (.pv (num 13)) [(0,dk L b)]):∃ (p:Pf) (b:Nat),PG (cp (k+1)) (Z+cm (k+1)) ((k+1)+2) p/\b<=L.length/\ZC L ls g hs (k+1) a p b:=by
 have hm:=jA;have hbg:=uA;have e20:PA=1048576:=rfl;have eW:=mD;have e1:cp (k+1)=2 * cp k+10000:=rfl;have e2:cm (k+1)=2 * cm k+uC+4 * PA:=rfl;have e3:=YC k;have b1:kA (.ofNat (g.map Ty.c).length) (.ofNat 10)=true:=aA (by simpa using hg);have b2:kA (.ofNat (hs.map Fm.c).length) (.ofNat 10)=true:=aA (by simpa using hh);obtain⟨t,c,zt,hc,g1⟩:=WC hL 0 (by omega) hb;have zt:t.size<=3:=Nat.le_trans zt (by decide);obtain⟨x,d,qx,hd,g2⟩:=Nt hL (g:=g++[t]) (hs:=qC hs) (JD hS.gs (by simpa using zt)) (by simp;omega) hc;have:=qx.cnt;have:=qx.tsz;have:=qx.mx;have:(g++[t]).length=g.length+1:=by simp
 have m1:=nE 1 x 0;have e5:(1:Int).toNat=1:=rfl;exact⟨.p1 .choice (.all false t (eD x)),d,⟨by simp only [Pf.cnt,Fm.cnt,wC,Tm.cnt];omega,by simp only [Pf.tsz,Fm.tsz,TD,Tm.tsz,Ty.size];omega,by simp only [Pf.mx,Fm.mx,Tm.mx];omega,λ w=>by simp only [Pf.dpw];omega⟩,hd,o9 1 [(36,.Y),(43,.G),(49,.G),(52,.D L b (.pv (num 13))),(340,.D L c (.pv t.p)),(346,.r (VA (g++[t]) (qC hs))),(347,.D L d (.pv (eD x).p)),(348,.r (Pf.all false t (eD x)).p),(350,.r (Pf.p1 .choice (.all false t (eD x))).p)] iA b1 b2 gv g1 (PN g hs t (by omega) (by omega) (λ f hf=>by have:=hS.hb f hf;rw [hm];omega)) g2 (AP false t (eD x)) (wN 20 (.all false t (eD x)))⟩
theorem yu {L:List Int} (hL:Dk L) {k:Nat} (hk:iB L k) (hkl:k<=9) {Z:Nat} {ls:List Fm} {g:List Ty} {hs:List Fm} {a:Nat} (hS:S19 Z ls g hs) (hZ:Z+cm (k+1)<=281474976710656) (ha:a<=L.length) (hg:g.length<10) (hh:hs.length<10) {b:Nat} (hb:b<=L.length) (gv:O 14 [.loc 0 0,.pv (num 17)] [(0,dk L a)] (.pv (num 14)) [(0,dk L b)]):∃ (p:Pf) (b:Nat),PG (cp (k+1)) (Z+cm (k+1)) ((k+1)+2) p/\b<=L.length/\ZC L ls g hs (k+1) a p b:=by
 have hm:=jA;have hbg:=uA;have e20:PA=1048576:=rfl;have eW:=mD;have hz1:=hS.z;have e1:cp (k+1)=2 * cp k+10000:=rfl;have e2:cm (k+1)=2 * cm k+uC+4 * PA:=rfl;have e3:=YC k;have gs:=nB (a:=k+1);have b1:kA (.ofNat (g.map Ty.c).length) (.ofNat 10)=true:=aA (by simpa using hg);have b2:kA (.ofNat (hs.map Fm.c).length) (.ofNat 10)=true:=aA (by simpa using hh);obtain⟨t,c,zt,hc,g1⟩:=WC hL 1 (by omega) hb;have zt:t.size<=3:=zt;obtain⟨p,d,q1,hd,g2⟩:=hk (Z+1) ls (g++[t]) (qC hs) c (hS.below zt hg) (by omega) hc;have:=q1.cnt;have:=q1.tsz;have:=q1.mx;exact⟨.all true t p,d,⟨by simp only [Pf.cnt];omega,by simp only [Pf.tsz];omega,by simp only [Pf.mx];omega,λ w=>by have:=q1.dp w;simp only [Pf.dpw];omega⟩,hd,o9 1 [(36,.Y),(43,.G),(49,.G),(52,.D L b (.pv (num 14))),(354,.D L c (.pv t.p)),(361,.r (VA (g++[t]) (qC hs))),(363,.z k),(364,.D L d (.pv p.p)),(365,.r (Pf.all true t p).p)] iA b1 b2 gv g1 (PN g hs t (by omega) (by omega) (λ f hf=>by have:=hS.hb f hf;rw [hm];omega)) gs g2 (AP true t p)⟩
theorem uu {L:List Int} (hL:Dk L) {k:Nat} (hk:iB L k) (hkl:k<=9) {Z:Nat} {ls:List Fm} {g:List Ty} {hs:List Fm} {a:Nat} (hS:S19 Z ls g hs) (hZ:Z+cm (k+1)<=281474976710656) (ha:a<=L.length) (hg:g.length<10) (hh:hs.length<10) {b:Nat} (hb:b<=L.length) (gv:O 14 [.loc 0 0,.pv (num 17)] [(0,dk L a)] (.pv (num 15)) [(0,dk L b)]):∃ (p:Pf) (b:Nat),PG (cp (k+1)) (Z+cm (k+1)) ((k+1)+2) p/\b<=L.length/\ZC L ls g hs (k+1) a p b:=by
 have hm:=jA;have hbg:=uA;have e20:PA=1048576:=rfl;have eW:=mD;have hz1:=hS.z;have e1:cp (k+1)=2 * cp k+10000:=rfl;have e2:cm (k+1)=2 * cm k+uC+4 * PA:=rfl;have e3:=YC k;have gs:=nB (a:=k+1);have b1:kA (.ofNat (g.map Ty.c).length) (.ofNat 10)=true:=aA (by simpa using hg);have b2:kA (.ofNat (hs.map Fm.c).length) (.ofNat 10)=true:=aA (by simpa using hh);obtain⟨t,c,zt,hc,g1⟩:=WC hL 1 (by omega) hb;have zt:t.size<=3:=zt;obtain⟨x,c0,qx,hc0,gx⟩:=eC hL (t:=t) (g:=g) zt hS.gs (by omega) hc;obtain⟨p,d,q1,hd,g2⟩:=hk (Z+1) ls (g++[t]) (qC hs) c0 (hS.below zt hg) (by omega) hc0;have:=q1.cnt;have:=q1.tsz;have:=q1.mx;have:=qx.cnt;have:=qx.tsz;have:=qx.mx;exact⟨.ins true x (.all true t p),d,⟨by simp only [Pf.cnt];omega,by simp only [Pf.tsz];omega,by simp only [Pf.mx];omega,λ w=>by have:=q1.dp w;simp only [Pf.dpw];omega⟩,hd,eI 1 [(36,.Y),(43,.G),(49,.G),(52,.D L b (.pv (num 15))),(369,.D L c (.pv t.p)),(374,.D L c0 (.pv x.p)),(381,.r (VA (g++[t]) (qC hs))),(383,.z k),(384,.D L d (.pv p.p)),(385,.r (Pf.all true t p).p),(386,.r (Pf.ins true x (.all true t p)).p)] iA b1 b2 gv g1 gx (PN g hs t (by omega) (by omega) (λ f hf=>by have:=hS.hb f hf;rw [hm];omega)) gs g2 (AP true t p) (Ad true x (.all true t p))⟩
theorem bu {L:List Int} (hL:Dk L) {k:Nat} (hk:iB L k) (hkl:k<=9) {Z:Nat} {ls:List Fm} {g:List Ty} {hs:List Fm} {a:Nat} (hS:S19 Z ls g hs) (hZ:Z+cm (k+1)<=281474976710656) (ha:a<=L.length) (hg:g.length<10) (hh:hs.length<10) {b:Nat} (hb:b<=L.length) (gv:O 14 [.loc 0 0,.pv (num 17)] [(0,dk L a)] (.pv (num 16)) [(0,dk L b)]):∃ (p:Pf) (b:Nat),PG (cp (k+1)) (Z+cm (k+1)) ((k+1)+2) p/\b<=L.length/\ZC L ls g hs (k+1) a p b:=by
 have hm:=jA;have hbg:=uA;have e20:PA=1048576:=rfl;have eW:=mD;have hhl:=hS.hl;have e1:cp (k+1)=2 * cp k+10000:=rfl;have e2:cm (k+1)=2 * cm k+uC+4 * PA:=rfl;have e3:=YC k;have b1:kA (.ofNat (g.map Ty.c).length) (.ofNat 10)=true:=aA (by simpa using hg);have b2:kA (.ofNat (hs.map Fm.c).length) (.ofNat 10)=true:=aA (by simpa using hh);obtain⟨w,c,hw,hc,gw⟩:=nx hL hb (n:=4) (by omega) (by omega);obtain⟨x,d,q,hd,gx⟩:=eC hL (t:=.nat) (g:=g) (by decide) hS.gs (by omega) hc;have cx:=q.cnt;have mx:=q.mx;have sx:=q.tsz;rcases w with _|_|w
 ·cases hs with
  | nil=>exact⟨.refl x,d,⟨by simp only [Pf.cnt];omega,by simp only [Pf.tsz];omega,by simp only [Pf.mx];omega,λ _=>Nat.zero_le _⟩,hd,o7 1 [(36,.Y),(43,.G),(49,.G),(52,.D L b (.pv (num 16))),(388,.D L c (.pv (num 0))),(415,.D L d (.pv x.p)),(416,.r (Pf.refl x).p)] iA b1 b2 gv gw gx (rB x)⟩
  | cons f r =>
   have hr:=hS.hl;obtain⟨i,e,hi,he,gi⟩:=nx hL hc (n:=((f::r).map Fm.c).length) (by simp) (by simp at hr ⊢;omega);exact⟨.leaf false i,e,⟨by simp only [Pf.cnt];omega,Nat.zero_le _,Nat.zero_le _,λ _=>Nat.zero_le _⟩,he,o7 1 [(36,.Y),(43,.G),(49,.G),(52,.D L b (.pv (num 16))),(388,.D L c (.pv (num 0))),(399,.D L e (.pv (num i))),(400,.r (Pf.leaf false i).p)] iA b1 b2 gv gw gi (pF i)⟩
 ·cases ls with
  | nil=>exact⟨.refl x,d,⟨by simp only [Pf.cnt];omega,by simp only [Pf.tsz];omega,by simp only [Pf.mx];omega,λ _=>Nat.zero_le _⟩,hd,o7 1 [(36,.Y),(43,.G),(49,.G),(52,.D L b (.pv (num 16))),(388,.D L c (.pv (num 1))),(415,.D L d (.pv x.p)),(416,.r (Pf.refl x).p)] iA b1 b2 gv gw gx (rB x)⟩
  | cons f r =>
   have hr:=hS.ll;obtain⟨i,e,hi,he,gi⟩:=nx hL hc (n:=((f::r).map Fm.c).length) (by simp) (by simp at hr ⊢;omega);exact⟨.leaf true i,e,⟨by simp only [Pf.cnt];omega,Nat.zero_le _,Nat.zero_le _,λ w=>Nat.le_add_left w _⟩,he,o6 1 [(36,.Y),(43,.G),(49,.G),(52,.D L b (.pv (num 16))),(388,.D L c (.pv (num 1))),(409,.D L e (.pv (num i)))] iA b1 b2 gv gw gi⟩
 ·exact⟨.refl x,d,⟨by simp only [Pf.cnt];omega,by simp only [Pf.tsz];omega,by simp only [Pf.mx];omega,λ _=>Nat.zero_le _⟩,hd,o7 1 [(36,.Y),(43,.G),(49,.G),(52,.D L b (.pv (num 16))),(388,.D L c (.pv (num (w+2)))),(415,.D L d (.pv x.p)),(416,.r (Pf.refl x).p)] iA b1 b2 gv gw gx (rB x)⟩
theorem du (H:MF) {L:List Int} (hL:Dk L) {k:Nat} (hk:iB L k) (Ho:fY L k) (hkl:k<=9:=by omega):iB L (k+1):=by
 intro Z ls g hs a hS hZ ha;have hm:=jA;by_cases hg:g.length<10
 ·by_cases hh:hs.length<10
  ·obtain⟨w,b,hw,hb,gv⟩:=nx hL ha (n:=17) (by omega) (by omega);rcases w with _|_|_|_|_|_|_|_|_|_|_|_|_|_|_|_|_|w
   ·exact Rt hL hk hkl hS hZ ha hg hh hb gv
   ·exact Tt hL hk hkl hS hZ ha hg hh hb gv
   ·exact Ut hL hk hkl hS hZ ha hg hh hb gv
   ·exact Vt H hL hk hkl hS hZ ha hg hh hb gv
   ·exact Wt hL hk hkl hS hZ ha hg hh hb gv
   ·exact Xt hL hk hkl hS hZ ha hg hh hb gv
   ·exact Yt hL hk hkl hS hZ ha hg hh hb gv
   ·exact Zt H hL hk hkl hS hZ ha hg hh hb gv
   ·exact qu hL hk Ho hkl hS hZ ha hg hh hb gv
   ·exact zu H hL hk hkl hS hZ ha hg hh hb gv
   ·exact ju H hL hk hkl hS hZ ha hg hh hb gv
   ·exact vu hL hk hkl hS hZ ha hg hh hb gv
   ·exact wu hL hk hkl hS hZ ha hg hh hb gv
   ·exact ku hL hk hkl hS hZ ha hg hh hb gv
   ·exact yu hL hk hkl hS hZ ha hg hh hb gv
   ·exact uu hL hk hkl hS hZ ha hg hh hb gv
   ·exact bu hL hk hkl hS hZ ha hg hh hb gv
   ·omega
  ·exact Qt hL hk hkl hS hZ ha hg hh
 ·exact Pt hL hk hkl hS hZ ha hg
end Go.Proofs.YtmkajedkflhbgaaGreatDoor
