/- Contracts of functions; no conditions. -/
import Derived.Test.YtmkajedkflhbgaaGreatDoorIC2
set_option linter.all false
set_option maxHeartbeats 4000000
namespace Go.Proofs.YtmkajedkflhbgaaGreatDoor
open Go.Lg
set_option maxRecDepth 100000
def Fm.put:Fm->Nat->Tm->Nat->Fm
 | .eq a b,c,s,d => .eq (a.put c s d) (b.put c s d)
 | .bin k f g,c,s,d => .bin k (f.put c s d) (g.put c s d)
 | .q k u f,c,s,d => .q k u (f.put c s (d+1))
theorem CH:∀ (f:Fm) (c:Nat),f.occ c<=f.cnt
 | .eq a b,c=>by have:=cB a c;have:=cB b c;simp only [Fm.occ,Fm.cnt];omega
 | .bin k f g,c=>by have:=CH f c;have:=CH g c;simp only [Fm.occ,Fm.cnt];omega
 | .q k s f,c=>by have:=CH f (c+1);simp only [Fm.occ,Fm.cnt];omega
theorem LL (c:Nat) (s:Tm):∀ (f:Fm) (d:Nat),(f.put c s d).cnt+f.occ (c+d)=f.cnt+f.occ (c+d) * s.cnt
 | .eq a b,d=>by have:=zG c s a d;have:=zG c s b d;simp only [Fm.put,Fm.occ,Fm.cnt,Nat.add_mul];omega
 | .bin k f g,d=>by have:=LL c s f d;have:=LL c s g d;simp only [Fm.put,Fm.occ,Fm.cnt,Nat.add_mul];omega
 | .q k u f,d=>by have:=LL c s f (d+1);simp only [Fm.put,Fm.occ,Fm.cnt,Nat.add_assoc] at this ⊢;omega
theorem HI (c:Nat) (s:Tm):∀ (f:Fm) (d:Nat),(f.put c s d).tsz<=max f.tsz s.tsz
 | .eq a b,d=>by have:=AH c s a d;have:=AH c s b d;simp only [Fm.put,Fm.tsz];omega
 | .bin k f g,d=>by have:=HI c s f d;have:=HI c s g d;simp only [Fm.put,Fm.tsz];omega
 | .q k u f,d=>by have:=HI c s f (d+1);simp only [Fm.put,Fm.tsz];omega
theorem II (c:Nat) (s:Tm):∀ (f:Fm) (d:Nat),(f.put c s d).mx<=max f.mx (s.mx+(c+d+f.cnt))
 | .eq a b,d=>by have:=LG c s a d;have:=LG c s b d;simp only [Fm.put,Fm.mx,Fm.cnt];omega
 | .bin k f g,d=>by have:=II c s f d;have:=II c s g d;simp only [Fm.put,Fm.mx,Fm.cnt];omega
 | .q k u f,d=>by have:=II c s f (d+1);simp only [Fm.put,Fm.mx,Fm.cnt];omega
theorem oS:∀ (f:Fm) (c d:Nat) (s:Tm),s.mx<=qA * qA->s.cnt<=qA->f.mx<=qA * qA->c+d+f.cnt<=qA->A 328 [f.p,num c,num d,s.p] (f.put c s d).p
 | .eq a b,c,d,s,h1,h2,h3,h4=>by
  have h3:max a.mx b.mx<=qA * qA:=h3;have h4:c+d+(1+a.cnt+b.cnt)<=qA:=h4;exact f2 [(32,.r (a.put c s d).p),(32,.r (b.put c s d).p)] (xH a c d s h1 h2 (by omega) (by omega)) (xH b c d s h1 h2 (by omega) (by omega))
 | .bin k f g,c,d,s,h1,h2,h3,h4=>by
  have h3:max f.mx g.mx<=qA * qA:=h3;have h4:c+d+(1+f.cnt+g.cnt)<=qA:=h4;have hm:=jA;have h5:=eA (show d<=_ by omega);have h6:=oS f c d s h1 h2 (by omega) (by omega);have h7:=oS g c d s h1 h2 (by omega) (by omega);cases k<;>exact f4 [(51,.ok),(53,.r (f.put c s d).p),(51,.ok),(53,.r (g.put c s d).p)] h5 h6 h5 h7
 | .q k u f,c,d,s,h1,h2,h3,h4=>by
  have h4:c+d+(1+f.cnt)<=qA:=h4;have hm:=jA;have h5:=eA (show d+1<=_ by omega);have h6:=oS f c (d+1) s h1 h2 h3 (by omega);cases k<;>exact f2 [(51,.ok),(53,.r (f.put c s (d+1)).p)] h5 h6
theorem ML {n:Nat} (h:n<=dA:=by omega):rA (Int.ofNat 0 + .ofNat n)=true/\Int.ofNat 0 + .ofNat n = .ofNat n:=by
 have e:Int.ofNat 0 + .ofNat n = .ofNat n:=by simp
 exact⟨by rw [e];exact YA h,e⟩
theorem xS:∀ (f:Fm) (c:Nat),c+f.cnt<=qA->A 327 [f.p,num c] (num (f.occ c))
 | .eq a b,c,h=>by
  have h:c+(1+a.cnt+b.cnt)<=qA:=h;have hm:=jA;have hb:=uA;have u1:=cB a c;have u2:=cB b c;exact f4 [(20,.N (a.occ c)),(21,.z (a.occ c)),(20,.N (b.occ c)),(21,.ok)] (oH a c (by omega)) (ML (n:=a.occ c)) (oH b c (by omega)) (mB (a:=a.occ c) (b:=b.occ c))
 | .bin k f g,c,h=>by
  have h:c+(1+f.cnt+g.cnt)<=qA:=h;have hm:=jA;have hb:=uA;have u1:=CH f c;have u2:=CH g c;have h5:=eA (show c<=_ by omega);have h6:=xS f c (by omega);have h7:=xS g c (by omega);have h8:=ML (n:=f.occ c);have h9:=mB (a:=f.occ c) (b:=g.occ c);cases k<;>exact f6 [(35,.ok),(36,.N (f.occ c)),(37,.z (f.occ c)),(35,.ok),(36,.N (g.occ c)),(37,.ok)] h5 h6 h8 h5 h7 h9
 | .q k s f,c,h=>by
  have h:c+(1+f.cnt)<=qA:=h;have hm:=jA;have hb:=uA;have u1:=CH f (c+1);have h5:=eA (show c+1<=_ by omega);have h6:=xS f (c+1) (by omega);have h8:=ML (n:=f.occ (c+1));cases k<;>exact f3 [(35,.ok),(36,.N (f.occ (c+1))),(37,.z (f.occ (c+1)))] h5 h6 h8
theorem RW (g:List Ty) (t:Tm) (hg:∀ s∈g,s.size<=qA) (h1:t.tsz<=qA:=by omega) (h2:g.length+t.cnt<=qA:=by omega):∃ r:TR,A 299 [cA g,t.p] r.p/\r.sz<=qA /\ ∀ s,r = .ok s->t.chk=0/\t.tyR g = .ok s:=by
 have hm:=jA;have hb:=uA;have g1:=cH t
 cases e:t.chk with
 | succ n=>rw [e] at g1;exact⟨.er n,f1 [(8,.N (n+1))] g1,Nat.zero_le _,λ _ h=>by cases h⟩
 | zero =>
  rw [e] at g1;obtain⟨r,g2,g3,g4⟩:=AI t g hg h1 h2;exact⟨r,f2 [(8,.N 0),(15,.r r.p)] g1 g2,g3,λ _ h=>⟨rfl,by rw [<- g4,h]⟩⟩
theorem SW (g:List Ty) (t:Tm) (hg:∀ s∈g,s.size<=qA) (h1:t.tsz<=qA:=by omega) (h2:g.length+t.cnt<=qA:=by omega):∃ r:TR,A 269 [cA g,t.p] r.p/\r.sz<=qA /\ ∀ s,r = .ok s->t.chk=0/\t.tyR g = .ok s:=by
 have hm:=jA;have hb:=uA;have g1:=YM g (λ s hs=>by have:=hg s hs;omega)
 cases e:oI g with
 | succ n=>rw [e] at g1;exact⟨.er n,f1 [(8,.N (n+1))] g1,Nat.zero_le _,λ _ h=>by cases h⟩
 | zero =>
  rw [e] at g1;obtain⟨r,g2,g3⟩:=RW g t hg h1 h2;exact⟨r,f2 [(8,.N 0),(15,.r r.p)] g1 g2,g3⟩
theorem TR.cases' (r:TR):(∃ n,r = .er n)\/(∃ s,r = .ok s/\s.kd=1) \/ ∃ s,r = .ok s/\s.kd≠1:=by
 cases r with
 | er n=>exact .inl ⟨n,rfl⟩
 | ok s =>
  by_cases h:s.kd=1
  ·exact .inr (.inl ⟨s,rfl,h⟩)
  ·exact .inr (.inr ⟨s,rfl,h⟩)
theorem TB {m n:Nat} (h:m=n):(!lB (.ofNat m) (.ofNat n))=false:=by rw [h];exact tB n
theorem AS {s:Ty} (h:s.kd=1):s = .nat:=by
 cases s with
 | nat=>rfl
 | two k a b=>cases k<;>cases h
 | _=>cases h
def Fm.ty:List Ty->Fm->Prop
 | g,.eq a b=>(a.chk=0/\a.tyR g = .ok .nat)/\b.chk=0/\b.tyR g = .ok .nat
 | g,.bin _ f h=>f.ty g/\h.ty g
 | g,.q _ s f=>f.ty (g++[s])
theorem CS:∀ (f:Fm) (g:List Ty),(∀ s∈g,s.size<=qA)->f.tsz<=qA->g.length+f.cnt<=qA->∃ e,A 261 [cA g,f.p] (num e)/\(e=0->f.ty g)
 | .eq a b,g,hg,ht,hl=>by
  have ht:max a.tsz b.tsz<=qA:=ht;have hl:g.length+(1+a.cnt+b.cnt)<=qA:=hl;obtain⟨r,h1,_,q1⟩:=RW g a hg;obtain⟨q,h2,_,q2⟩:=RW g b hg;rcases r.cases' with ⟨n,rfl⟩|⟨s,rfl,e1⟩|⟨s,rfl,e1⟩
  ·exact⟨n+1,f1 [(22,.r (TR.er n).p)] h1,λ h=>nomatch h⟩
  ·rcases q.cases' with ⟨n,rfl⟩|⟨u,rfl,e2⟩|⟨u,rfl,e2⟩
   ·exact⟨n+1,f3 [(22,.r (TR.ok s).p),(30,.H),(22,.r (TR.er n).p)] h1 (TB e1) h2,λ h=>nomatch h⟩
   ·exact⟨0,f4 [(22,.r (TR.ok s).p),(30,.H),(22,.r (TR.ok u).p),(30,.H)] h1 (TB e1) h2 (TB e2),λ _=>⟨q1 _ (congrArg _ (AS e1)),q2 _ (congrArg _ (AS e2))⟩⟩
   ·exact⟨7,f4 [(22,.r (TR.ok s).p),(30,.H),(22,.r (TR.ok u).p),(30,.G)] h1 (TB e1) h2 (BC e2),λ h=>nomatch h⟩
  ·exact⟨7,f2 [(22,.r (TR.ok s).p),(30,.G)] h1 (BC e1),λ h=>nomatch h⟩
 | .bin k f h,g,hg,ht,hl=>by
  have ht:max f.tsz h.tsz<=qA:=ht;have hl:g.length+(1+f.cnt+h.cnt)<=qA:=hl;obtain⟨e,h1,q1⟩:=CS f g hg (by omega) (by omega);obtain⟨e',h2,q2⟩:=CS h g hg (by omega) (by omega)
  cases e with
  | succ n=>cases k<;>exact⟨n+1,f1 [(54,.N (n+1))] h1,λ h=>nomatch h⟩
  | zero=>cases e' with
   | succ n=>cases k<;>exact⟨n+1,f2 [(54,.N 0),(54,.N (n+1))] h1 h2,λ h=>nomatch h⟩
   | zero=>cases k<;>exact⟨0,f2 [(54,.N 0),(54,.N 0)] h1 h2,λ _=>⟨q1 rfl,q2 rfl⟩⟩
 | .q k s f,g,hg,ht,hl=>by
  have ht:max s.size f.tsz<=qA:=ht;have hl:g.length+(1+f.cnt)<=qA:=hl;have hm:=jA;obtain⟨e,h1,q1⟩:=CS f (g++[s]) (by intro u hu;rcases List.mem_append.1 hu with h|h;exact hg u h;simp at h;subst h;omega) (by omega) (by simp;omega);simp only [cA,List.map_append,List.map_cons,List.map_nil] at h1;have h3:=mE 2 32 Ty.c_len (by decide) g s (by omega) (by simp only [maxLen];omega);have h2:=CE (g.map Ty.c).length
  cases e with
  | succ n=>cases k<;>exact⟨n+1,f3 [(40,.ok),(44,.ok),(54,.N (n+1))] h2 h3 h1,λ h=>nomatch h⟩
  | zero=>cases k<;>exact⟨0,f3 [(40,.ok),(44,.ok),(54,.N 0)] h2 h3 h1,λ _=>q1 rfl⟩
theorem DS (g:List Ty) (f:Fm) (hg:∀ s∈g,s.size<=qA) (h1:f.tsz<=qA) (h2:g.length+f.cnt<=qA):∃ e,A 190 [cA g,f.p] (num e)/\(e=0->f.chk=0/\f.ty g):=by
 have hm:=jA;have hb:=uA;have g1:=TJ f h1
 cases e:f.chk with
 | succ n=>rw [e] at g1;exact⟨n+1,f1 [(7,.N (n+1))] g1,nofun⟩
 | zero =>
  rw [e] at g1;obtain⟨r,g2,g3⟩:=CS f g hg h1 h2;exact⟨r,f2 [(7,.N 0),(13,.N r)] g1 g2,λ h=>⟨rfl,g3 h⟩⟩
theorem ES (g:List Ty) (f:Fm) (hg:∀ s∈g,s.size<=qA) (h1:f.tsz<=qA:=by omega) (h2:g.length+f.cnt<=qA:=by omega):∃ e,A 124 [cA g,f.p] (num e)/\(e=0->f.chk=0/\f.ty g):=by
 have hm:=jA;have hb:=uA;have g1:=YM g (λ s hs=>by have:=hg s hs;omega)
 cases e:oI g with
 | succ n=>rw [e] at g1;exact⟨n+1,f1 [(7,.N (n+1))] g1,nofun⟩
 | zero =>
  rw [e] at g1;obtain⟨r,g2,g3⟩:=DS g f hg h1 h2;exact⟨r,f2 [(7,.N 0),(13,.N r)] g1 g2,g3⟩
theorem FB.inj {k l:FB} (h:k.n=l.n):k=l:=by cases k<;>cases l<;>first|rfl|cases h
theorem FQ.inj {k l:FQ} (h:k.n=l.n):k=l:=by cases k<;>cases l<;>first|rfl|cases h
abbrev fB:Nat:=qA * qA-1001 * 4096
def Fm.mt:Fm->Fm->Prop
 | .eq a c,.eq b d=>a.mt b/\c.mt d
 | .bin k f g,.bin l f' g'=>k=l/\f.mt f'/\g.mt g'
 | .q k s f,.q l u g=>k=l/\s=u/\f.mt g
 | _,_=>False
theorem UJ {a b:Fm} (h:a.kd≠b.kd):∃ e,A 265 [a.p,b.p] (num e)/\(e=0->a.mt b):=⟨11,f1 [(13,.G)] (BC h),λ h=>nomatch h⟩
theorem FS:∀ a b:Fm,a.cnt<=dA->a.mx<=fB->a.tsz<=qA->b.cnt<=dA->b.mx<=fB->b.tsz<=qA->∃ e,A 265 [a.p,b.p] (num e)/\(e=0->a.mt b)
 | .eq a c,.eq b d,h1,h2,h3,h4,h5,h6=>by
  have hm:=jA;simp only [Fm.cnt,Fm.mx,Fm.tsz] at h1 h2 h3 h4 h5 h6;obtain⟨e,g1,q1⟩:=sd a b (by omega) (by simp only [fB,hm] at *;omega) (by omega) (by omega) (by simp only [fB,hm] at *;omega);obtain⟨e',g2,q2⟩:=sd c d (by omega) (by simp only [fB,hm] at *;omega) (by omega) (by omega) (by simp only [fB,hm] at *;omega)
  cases e with
  | succ n=>exact⟨n+1,f2 [(19,.T),(38,.N (n+1))] fF g1,λ h=>nomatch h⟩
  | zero=>cases e' with
   | succ n=>exact⟨n+1,f3 [(19,.T),(38,.N 0),(38,.N (n+1))] fF g1 g2,λ h=>nomatch h⟩
   | zero=>exact⟨0,f3 [(19,.T),(38,.N 0),(38,.N 0)] fF g1 g2,λ _=>⟨q1 rfl,q2 rfl⟩⟩
 | .bin k f g,.bin l f' g',h1,h2,h3,h4,h5,h6=>by
  by_cases h:k=l
  ·subst h;simp only [Fm.cnt,Fm.mx,Fm.tsz] at h1 h2 h3 h4 h5 h6;obtain⟨e,g1,q1⟩:=FS f f' (by omega) (by omega) (by omega) (by omega) (by omega) (by omega);obtain⟨e',g2,q2⟩:=FS g g' (by omega) (by omega) (by omega) (by omega) (by omega) (by omega)
   cases e with
   | succ n=>exact⟨n+1,f3 [(13,.H),(19,.T),(59,.N (n+1))] (tB k.n) fF g1,λ h=>nomatch h⟩
   | zero=>cases e' with
    | succ n=>exact⟨n+1,f4 [(13,.H),(19,.T),(59,.N 0),(59,.N (n+1))] (tB k.n) fF g1 g2,λ h=>nomatch h⟩
    | zero=>exact⟨0,f4 [(13,.H),(19,.T),(59,.N 0),(59,.N 0)] (tB k.n) fF g1 g2,λ _=>⟨rfl,q1 rfl,q2 rfl⟩⟩
  ·exact UJ λ e=>h (FB.inj e)
 | .q k s f,.q l u g,h1,h2,h3,h4,h5,h6=>by
  by_cases h:k=l
  ·subst h;simp only [Fm.cnt,Fm.mx,Fm.tsz] at h1 h2 h3 h4 h5 h6;have g0:=FD s u;cases es:s.same u<;>rw [es] at g0
   ·exact⟨11,f2 [(13,.H),(19,.F)] (tB k.n) g0,λ h=>nomatch h⟩
   obtain⟨e,g1,q1⟩:=FS f g (by omega) (by omega) (by omega) (by omega) (by omega) (by omega)
   cases e with
   | succ n=>exact⟨n+1,f3 [(13,.H),(19,.T),(59,.N (n+1))] (tB k.n) g0 g1,λ h=>nomatch h⟩
   | zero=>exact⟨0,f3 [(13,.H),(19,.T),(59,.N 0)] (tB k.n) g0 g1,λ _=>⟨rfl,(uD s u).1 es,q1 rfl⟩⟩
  ·exact UJ λ e=>h (FQ.inj e)
 | .eq _ _,.bin l _ _,_,_,_,_,_,_=>UJ (by cases l<;>exact nofun)
 | .eq _ _,.q l _ _,_,_,_,_,_,_=>UJ (by cases l<;>exact nofun)
 | .bin l _ _,.eq _ _,_,_,_,_,_,_=>UJ (by cases l<;>exact nofun)
 | .bin k _ _,.q l _ _,_,_,_,_,_,_=>UJ (by cases k<;>cases l<;>exact nofun)
 | .q l _ _,.eq _ _,_,_,_,_,_,_=>UJ (by cases l<;>exact nofun)
 | .q k _ _,.bin l _ _,_,_,_,_,_,_=>UJ (by cases k<;>cases l<;>exact nofun)
theorem td (a b:Fm) (h1:a.cnt<=dA) (h2:a.mx<=fB) (h3:a.tsz<=qA) (h4:b.cnt<=dA) (h5:b.mx<=fB) (h6:b.tsz<=qA):∃ e,A 200 [a.p,b.p] (num e)/\(e=0->a.mt b):=by
 have g1:=TJ a h3 h1;have g2:=TJ b h6 h4
 cases e1:a.chk with
 | succ n=>rw [e1] at g1;exact⟨n+1,f1 [(8,.N (n+1))] g1,λ h=>nomatch h⟩
 | zero =>
  rw [e1] at g1
  cases e2:b.chk with
  | succ n=>rw [e2] at g2;exact⟨n+1,f2 [(8,.N 0),(13,.N (n+1))] g1 g2,λ h=>nomatch h⟩
  | zero =>
   rw [e2] at g2;obtain⟨e,g3,q1⟩:=FS a b h1 h2 h3 h4 h5 h6;exact⟨e,f3 [(8,.N 0),(13,.N 0),(19,.N e)] g1 g2 g3,q1⟩
inductive FR where
 | er (n:Nat)
 | ok (f:Fm)
def FR.k:FR->Nat
 | .er _=>0
 | .ok f=>f.kd
def FR.tk:FR->Nat
 | .er _=>0
 | .ok f=>f.tk
def FR.te:FR->List (List PV)
 | .er _=>[]
 | .ok f=>f.te
def FR.ts:FR->List (List PV)
 | .er _=>[]
 | .ok f=>f.ts
def FR.es:FR->List (List PV)
 | .er _=>[]
 | .ok f=>f.es
def FR.n:FR->Nat
 | .er n=>n+1
 | .ok _=>0
def FR.p (r:FR):PV:=.tuple [.agg [num r.k,num r.tk,.slice r.te,.slice r.ts,.slice r.es],num r.n]
theorem Gn (f:Fm) (s:Tm) (h1:f.cnt<=qA) (h2:f.mx<=qA * qA) (h3:f.tsz<=qA) (h4:s.cnt<=qA) (h5:s.mx<=qA * qA) (h6:s.tsz<=qA):∃ r:FR,A 302 [f.p,num 0,s.p] r.p/\((∃ n,r = .er n)\/r = .ok (f.put 0 s 0)/\(f.put 0 s 0).cnt<=4096):=by
 have hm:=jA;have hb:=uA;have g1:=TJ f h3
 cases e1:f.chk with
 | succ n=>rw [e1] at g1;exact⟨.er n,f1 [(11,.N (n+1))] g1,.inl ⟨n,rfl⟩⟩
 | zero =>
  rw [e1] at g1;have g2:=cH s
  cases e2:s.chk with
  | succ n=>rw [e2] at g2;exact⟨.er n,f2 [(11,.N 0),(24,.N (n+1))] g1 g2,.inl ⟨n,rfl⟩⟩
  | zero =>
   rw [e2] at g2;obtain⟨p,g3,_⟩:=iS f 536870912;obtain⟨q,g4,_⟩:=KG s 536870912;cases p
   ·exact⟨.er 0,f3 [(11,.N 0),(24,.N 0),(30,.F)] g1 g2 g3,.inl ⟨0,rfl⟩⟩
   cases q
   ·exact⟨.er 0,f4 [(11,.N 0),(24,.N 0),(30,.T),(34,.F)] g1 g2 g3 g4,.inl ⟨0,rfl⟩⟩
   have g5:=UD f (by omega);have g6:=xS f 0 (by omega);have g7:=yB s (by omega);have h7:=pE s;have g8:=nB h7;have h8:=CH f 0;have h9:f.occ 0 * (s.cnt-1)<=qA * qA:=Nat.mul_le_mul (by omega) (by omega);have h10:f.occ 0 * s.cnt=f.occ 0 * (s.cnt-1)+f.occ 0:=by
    have:s.cnt=(s.cnt-1)+1:=by omega
    rw [this,Nat.mul_succ];simp
   have h11:=LL 0 s f 0;simp only [Nat.zero_add] at h11;have h9':=h9;rw [hm] at h9';have g9:=ld (a:=f.occ 0) (b:=s.cnt-1);have g10:=mB (a:=f.cnt) (b:=f.occ 0 * (s.cnt-1));cases e3:kA (.ofNat 4096) (.ofNat (f.cnt+f.occ 0 * (s.cnt-1)))
   ·refine⟨.ok (f.put 0 s 0),f13 [(11,.N 0),(24,.N 0),(30,.T),(34,.T),(39,.N f.cnt),(42,.N (f.occ 0)),(44,.N s.cnt),(45,.z (s.cnt-1)),(46,.ok),(47,.ok),(48,.H),(53,.r (f.put 0 s 0).p),(54,.r (f.put 0 s 0).p)] g1 g2 g3 g4 g5 g6 g7 g8 g9 g10 e3 (oS f 0 0 s h5 h4 h2 (by omega)) (MB (f.put 0 s 0)),.inr ⟨rfl,?_⟩⟩;rw [KB] at e3;have:=of_decide_eq_false e3;simp at this;omega
   ·exact⟨.er 3,f11 [(11,.N 0),(24,.N 0),(30,.T),(34,.T),(39,.N f.cnt),(42,.N (f.occ 0)),(44,.N s.cnt),(45,.z (s.cnt-1)),(46,.ok),(47,.ok),(48,.G)] g1 g2 g3 g4 g5 g6 g7 g8 g9 g10 e3,.inl ⟨3,rfl⟩⟩
def Fm.has:Fm->Bool
 | .eq _ _=>false
 | .bin k f g=>match k with
  | .and=>f.has || g.has
  | .imp=>g.has
 | .q k _ f=>match k with
  | .ex=>true
  | _=>f.has
theorem NL:∀ f:Fm,A 210 [f.p] (.bool f.has)
 | .eq a b=>f0 []
 | .bin .and f g=>by
  have h1:=NL f;have h2:=NL g;show A 210 [(Fm.bin .and f g).p] (.bool (f.has || g.has));cases e:f.has<;>rw [e] at h1
  ·cases e:g.has<;>rw [e] at h2
   ·exact f2 [(13,.F),(19,.F)] h1 h2
   ·exact f2 [(13,.F),(19,.T)] h1 h2
  ·exact f1 [(13,.T)] h1
 | .bin .imp f g=>f1 [(31,.r (.bool g.has))] (NL g)
 | .q .ex s f=>f0 []
 | .q .all s f=>f1 [(31,.r (.bool f.has))] (NL f)
 | .q .allU s f=>f1 [(31,.r (.bool f.has))] (NL f)
 | .q .exU s f=>f1 [(31,.r (.bool f.has))] (NL f)
theorem od (f:Fm) (h1:f.tsz<=qA) (h2:f.cnt<=dA:=by omega):∃ b e,A 130 [f.p] (.tuple [.bool b,num e])/\(f.chk=0->b=f.has/\e=0):=by
 have g1:=TJ f h1 h2
 cases e1:f.chk with
 | succ n=>rw [e1] at g1;exact⟨false,n+1,f1 [(6,.N (n+1))] g1,nofun⟩
 | zero=>rw [e1] at g1;exact⟨f.has,0,f2 [(6,.N 0),(11,.r (.bool f.has))] g1 (NL f),λ _=>⟨rfl,rfl⟩⟩
open Go.Lg
def Pf.cnt:Pf->Nat
 | .leaf u i=>1
 | .refl t=>1+t.cnt
 | .p1 k a=>1+a.cnt
 | .p2 k a b=>1+a.cnt+b.cnt
 | .impI f a=>1+f.cnt+a.cnt
 | .all u s a=>1+a.cnt
 | .ins u t a=>1+t.cnt+a.cnt
 | .ex u f t a=>1+t.cnt+f.cnt+a.cnt
 | .ind l f t a b=>1+t.cnt+f.cnt+a.cnt+b.cnt
 | .subst f a b=>1+f.cnt+a.cnt+b.cnt
def Pf.mx:Pf->Nat
 | .leaf u i=>0
 | .refl t=>t.mx
 | .p1 k a=>a.mx
 | .p2 k a b=>max a.mx b.mx
 | .impI f a=>max f.mx a.mx
 | .all u s a=>a.mx
 | .ins u t a=>max t.mx a.mx
 | .ex u f t a=>max (max t.mx f.mx) a.mx
 | .ind l f t a b=>max (max (max t.mx f.mx) a.mx) b.mx
 | .subst f a b=>max (max f.mx a.mx) b.mx
def Pf.tsz:Pf->Nat
 | .leaf u i=>0
 | .refl t=>t.tsz
 | .p1 k a=>a.tsz
 | .p2 k a b=>max a.tsz b.tsz
 | .impI f a=>max f.tsz a.tsz
 | .all u s a=>max a.tsz s.size
 | .ins u t a=>max t.tsz a.tsz
 | .ex u f t a=>max (max t.tsz f.tsz) a.tsz
 | .ind l f t a b=>max (max (max t.tsz f.tsz) a.tsz) b.tsz
 | .subst f a b=>max (max f.tsz a.tsz) b.tsz
theorem kC:∀ p:Pf,A 17 [p.p] p.p
 | .leaf u i=>by
  exact f1 [(16,.r zt)] uF
 | .refl t=>by
  exact f2 [(16,.r zt),(28,.r t.p)] uF (vC t)
 | .p1 k a=>by
  exact f2 [(16,.r zt),(58,.r a.p)] uF (kC a)
 | .p2 k a b=>by
  exact f3 [(16,.r zt),(58,.r a.p),(58,.r b.p)] uF (kC a) (kC b)
 | .impI f a=>by
  exact f3 [(16,.r zt),(43,.r f.p),(58,.r a.p)] uF (MB f) (kC a)
 | .all u s a=>by
  exact f2 [(16,.r s.p),(58,.r a.p)] (xC s) (kC a)
 | .ins u t a=>by
  exact f3 [(16,.r zt),(28,.r t.p),(58,.r a.p)] uF (vC t) (kC a)
 | .ex u f t a=>by
  exact f4 [(16,.r zt),(28,.r t.p),(43,.r f.p),(58,.r a.p)] uF (vC t) (MB f) (kC a)
 | .ind l f t a b=>by
  exact f5 [(16,.r zt),(28,.r t.p),(43,.r f.p),(58,.r a.p),(58,.r b.p)] uF (vC t) (MB f) (kC a) (kC b)
 | .subst f a b=>by
  exact f4 [(16,.r zt),(43,.r f.p),(58,.r a.p),(58,.r b.p)] uF (MB f) (kC a) (kC b)
theorem aC:∀ p:Pf,p.cnt<=dA->A 45 [p.p] (num p.cnt)
 | .leaf u i,h=>by
  exact f0 []
 | .refl t,h=>by
  have h:1+t.cnt<=dA:=h;have hb:=uA;have qt:=yB t (by omega);have rt:=mB (a:=1) (b:=t.cnt);exact f2 [(19,.N t.cnt),(20,.ok)] qt rt
 | .p1 k a,h=>by
  have h:1+a.cnt<=dA:=h;have hb:=uA;have qa:=aC a (by omega);have ra:=mB (a:=1) (b:=a.cnt);exact f2 [(43,.N a.cnt),(44,.ok)] qa ra
 | .p2 k a b,h=>by
  have h:1+a.cnt+b.cnt<=dA:=h;have hb:=uA;have qa:=aC a (by omega);have ra:=mB (a:=1) (b:=a.cnt);have qb:=aC b (by omega);have rb:=mB (a:=1+a.cnt) (b:=b.cnt);exact f4 [(43,.N a.cnt),(44,.ok),(43,.N b.cnt),(44,.ok)] qa ra qb rb
 | .impI f a,h=>by
  have h:1+f.cnt+a.cnt<=dA:=h;have hb:=uA;have qf:=UD f (by omega);have rf:=mB (a:=1) (b:=f.cnt);have qa:=aC a (by omega);have ra:=mB (a:=1+f.cnt) (b:=a.cnt);exact f4 [(31,.N f.cnt),(32,.ok),(43,.N a.cnt),(44,.ok)] qf rf qa ra
 | .all u s a,h=>by
  have h:1+a.cnt<=dA:=h;have hb:=uA;have qa:=aC a (by omega);have ra:=mB (a:=1) (b:=a.cnt);exact f2 [(43,.N a.cnt),(44,.ok)] qa ra
 | .ins u t a,h=>by
  have h:1+t.cnt+a.cnt<=dA:=h;have hb:=uA;have qt:=yB t (by omega);have rt:=mB (a:=1) (b:=t.cnt);have qa:=aC a (by omega);have ra:=mB (a:=1+t.cnt) (b:=a.cnt);exact f4 [(19,.N t.cnt),(20,.ok),(43,.N a.cnt),(44,.ok)] qt rt qa ra
 | .ex u f t a,h=>by
  have h:1+t.cnt+f.cnt+a.cnt<=dA:=h;have hb:=uA;have qt:=yB t (by omega);have rt:=mB (a:=1) (b:=t.cnt);have qf:=UD f (by omega);have rf:=mB (a:=1+t.cnt) (b:=f.cnt);have qa:=aC a (by omega);have ra:=mB (a:=1+t.cnt+f.cnt) (b:=a.cnt);exact f6 [(19,.N t.cnt),(20,.ok),(31,.N f.cnt),(32,.ok),(43,.N a.cnt),(44,.ok)] qt rt qf rf qa ra
 | .ind l f t a b,h=>by
  have h:1+t.cnt+f.cnt+a.cnt+b.cnt<=dA:=h;have hb:=uA;have qt:=yB t (by omega);have rt:=mB (a:=1) (b:=t.cnt);have qf:=UD f (by omega);have rf:=mB (a:=1+t.cnt) (b:=f.cnt);have qa:=aC a (by omega);have ra:=mB (a:=1+t.cnt+f.cnt) (b:=a.cnt);have qb:=aC b (by omega);have rb:=mB (a:=1+t.cnt+f.cnt+a.cnt) (b:=b.cnt);exact f8 [(19,.N t.cnt),(20,.ok),(31,.N f.cnt),(32,.ok),(43,.N a.cnt),(44,.ok),(43,.N b.cnt),(44,.ok)] qt rt qf rf qa ra qb rb
 | .subst f a b,h=>by
  have h:1+f.cnt+a.cnt+b.cnt<=dA:=h;have hb:=uA;have qf:=UD f (by omega);have rf:=mB (a:=1) (b:=f.cnt);have qa:=aC a (by omega);have ra:=mB (a:=1+f.cnt) (b:=a.cnt);have qb:=aC b (by omega);have rb:=mB (a:=1+f.cnt+a.cnt) (b:=b.cnt);exact f6 [(31,.N f.cnt),(32,.ok),(43,.N a.cnt),(44,.ok),(43,.N b.cnt),(44,.ok)] qf rf qa ra qb rb
def Pf.ck:Pf->Prop
 | .leaf _ _=>True
 | .refl t=>t.chk=0
 | .p1 _ a=>a.ck
 | .p2 _ a b=>a.ck/\b.ck
 | .impI f a=>f.chk=0/\a.ck
 | .all _ s a=>s.size<=64/\a.ck
 | .ins _ t a=>t.chk=0/\a.ck
 | .ex _ f t a=>t.chk=0/\f.chk=0/\a.ck
 | .ind _ f t a b=>t.chk=0/\f.chk=0/\a.ck/\b.ck
 | .subst f a b=>f.chk=0/\a.ck/\b.ck
def Pf.l4:Pf->Prop
 | .leaf _ _=>True
 | .refl t=>t.cnt<=4096
 | .p1 _ a=>a.l4
 | .p2 _ a b=>a.l4/\b.l4
 | .impI f a=>f.cnt<=4096/\a.l4
 | .all _ s a=>a.l4
 | .ins _ t a=>t.cnt<=4096/\a.l4
 | .ex _ f t a=>t.cnt<=4096/\f.cnt<=4096/\a.l4
 | .ind _ f t a b=>t.cnt<=4096/\f.cnt<=4096/\a.l4/\b.l4
 | .subst f a b=>f.cnt<=4096/\a.l4/\b.l4
def Pf.sh:Pf->Prop
 | .leaf _ _=>True
 | .refl t=>t.shp=true
 | .p1 _ a=>a.sh
 | .p2 _ a b=>a.sh/\b.sh
 | .impI f a=>f.shp=true/\a.sh
 | .all _ s a=>s.size<=64/\a.sh
 | .ins _ t a=>t.shp=true/\a.sh
 | .ex _ f t a=>t.shp=true/\f.shp=true/\a.sh
 | .ind _ f t a b=>t.shp=true/\f.shp=true/\a.sh/\b.sh
 | .subst f a b=>f.shp=true/\a.sh/\b.sh
theorem lf_iff {a b:Nat} : kA (.ofNat a) (.ofNat b)=false↔b<=a:=by
 rw [KB];simp
theorem jN {n:Nat} : kA 4096 (n:Int)=false↔n<=4096:=lf_iff (a:=4096)
theorem Tm.chk_i {t:Tm} (h:t.shp=true) (h':t.cnt<=4096):t.chk=0:=by
 unfold Tm.chk;rw [h];simp only;rw [CA h']
theorem Fm.chk_i {t:Fm} (h:t.shp=true) (h':t.cnt<=4096):t.chk=0:=by
 unfold Fm.chk;rw [h];simp only;rw [CA h']
theorem Pf.ck_i:∀ p:Pf,p.sh->p.l4->p.ck
 | .leaf _ _,_,_=>trivial
 | .refl t,h,k=>Tm.chk_i h k
 | .p1 _ a,h,k=>ck_i a h k
 | .p2 _ a b,h,k=>⟨ck_i a h.1 k.1,ck_i b h.2 k.2⟩
 | .impI f a,h,k=>⟨Fm.chk_i h.1 k.1,ck_i a h.2 k.2⟩
 | .all _ s a,h,k=>⟨h.1,ck_i a h.2 k⟩
 | .ins _ t a,h,k=>⟨Tm.chk_i h.1 k.1,ck_i a h.2 k.2⟩
 | .ex _ f t a,h,k=>⟨Tm.chk_i h.1 k.1,Fm.chk_i h.2.1 k.2.1,ck_i a h.2.2 k.2.2⟩
 | .ind _ f t a b,h,k=>⟨Tm.chk_i h.1 k.1,Fm.chk_i h.2.1 k.2.1,ck_i a h.2.2.1 k.2.2.1,ck_i b h.2.2.2 k.2.2.2⟩
 | .subst f a b,h,k=>⟨Fm.chk_i h.1 k.1,ck_i a h.2.1 k.2.1,ck_i b h.2.2 k.2.2⟩
theorem vG:∀ p:Pf,p.cnt<=dA->∃ r,A 196 [p.p] (.bool r)/\(r=true->p.l4)
 | .leaf u i,h=>by
  exact⟨true,f0 [],λ _=>by simp_all [Pf.l4]⟩
 | .refl t,h=>by
  have h:1+t.cnt<=dA:=h;have hb:=uA;have qt:=yB t (by omega);cases et:kA (.ofNat 4096) (.ofNat t.cnt);rotate_left
  ·exact⟨false,f2 [(17,.N t.cnt),(18,.G)] qt et,λ h=>nomatch h⟩
  exact⟨true,f2 [(17,.N t.cnt),(18,.H)] qt et,λ _=>by simp_all [Pf.l4,jN]⟩
 | .p1 k a,h=>by
  have h:1+a.cnt<=dA:=h;have hb:=uA;obtain⟨ra,qa,ia⟩:=vG a (by omega);cases ra
  ·exact⟨false,f1 [(39,.F)] qa,λ h=>nomatch h⟩
  exact⟨true,f1 [(39,.T)] qa,λ _=>by simp_all [Pf.l4]⟩
 | .p2 k a b,h=>by
  have h:1+a.cnt+b.cnt<=dA:=h;have hb:=uA;obtain⟨ra,qa,ia⟩:=vG a (by omega);cases ra
  ·exact⟨false,f1 [(39,.F)] qa,λ h=>nomatch h⟩
  obtain⟨rb,qb,ib⟩:=vG b (by omega);cases rb
  ·exact⟨false,f2 [(39,.T),(39,.F)] qa qb,λ h=>nomatch h⟩
  exact⟨true,f2 [(39,.T),(39,.T)] qa qb,λ _=>by simp_all [Pf.l4]⟩
 | .impI f a,h=>by
  have h:1+f.cnt+a.cnt<=dA:=h;have hb:=uA;have qf:=UD f (by omega);cases ef:kA (.ofNat 4096) (.ofNat f.cnt);rotate_left
  ·exact⟨false,f2 [(28,.N f.cnt),(29,.G)] qf ef,λ h=>nomatch h⟩
  obtain⟨ra,qa,ia⟩:=vG a (by omega);cases ra
  ·exact⟨false,f3 [(28,.N f.cnt),(29,.H),(39,.F)] qf ef qa,λ h=>nomatch h⟩
  exact⟨true,f3 [(28,.N f.cnt),(29,.H),(39,.T)] qf ef qa,λ _=>by simp_all [Pf.l4,jN]⟩
 | .all u s a,h=>by
  have h:1+a.cnt<=dA:=h;have hb:=uA;obtain⟨ra,qa,ia⟩:=vG a (by omega);cases ra
  ·exact⟨false,f1 [(39,.F)] qa,λ h=>nomatch h⟩
  exact⟨true,f1 [(39,.T)] qa,λ _=>by simp_all [Pf.l4]⟩
 | .ins u t a,h=>by
  have h:1+t.cnt+a.cnt<=dA:=h;have hb:=uA;have qt:=yB t (by omega);cases et:kA (.ofNat 4096) (.ofNat t.cnt);rotate_left
  ·exact⟨false,f2 [(17,.N t.cnt),(18,.G)] qt et,λ h=>nomatch h⟩
  obtain⟨ra,qa,ia⟩:=vG a (by omega);cases ra
  ·exact⟨false,f3 [(17,.N t.cnt),(18,.H),(39,.F)] qt et qa,λ h=>nomatch h⟩
  exact⟨true,f3 [(17,.N t.cnt),(18,.H),(39,.T)] qt et qa,λ _=>by simp_all [Pf.l4,jN]⟩
 | .ex u f t a,h=>by
  have h:1+t.cnt+f.cnt+a.cnt<=dA:=h;have hb:=uA;have qt:=yB t (by omega);cases et:kA (.ofNat 4096) (.ofNat t.cnt);rotate_left
  ·exact⟨false,f2 [(17,.N t.cnt),(18,.G)] qt et,λ h=>nomatch h⟩
  have qf:=UD f (by omega);cases ef:kA (.ofNat 4096) (.ofNat f.cnt);rotate_left
  ·exact⟨false,f4 [(17,.N t.cnt),(18,.H),(28,.N f.cnt),(29,.G)] qt et qf ef,λ h=>nomatch h⟩
  obtain⟨ra,qa,ia⟩:=vG a (by omega);cases ra
  ·exact⟨false,f5 [(17,.N t.cnt),(18,.H),(28,.N f.cnt),(29,.H),(39,.F)] qt et qf ef qa,λ h=>nomatch h⟩
  exact⟨true,f5 [(17,.N t.cnt),(18,.H),(28,.N f.cnt),(29,.H),(39,.T)] qt et qf ef qa,λ _=>by simp_all [Pf.l4,jN]⟩
 | .ind l f t a b,h=>by
  have h:1+t.cnt+f.cnt+a.cnt+b.cnt<=dA:=h;have hb:=uA;have qt:=yB t (by omega);cases et:kA (.ofNat 4096) (.ofNat t.cnt);rotate_left
  ·exact⟨false,f2 [(17,.N t.cnt),(18,.G)] qt et,λ h=>nomatch h⟩
  have qf:=UD f (by omega);cases ef:kA (.ofNat 4096) (.ofNat f.cnt);rotate_left
  ·exact⟨false,f4 [(17,.N t.cnt),(18,.H),(28,.N f.cnt),(29,.G)] qt et qf ef,λ h=>nomatch h⟩
  obtain⟨ra,qa,ia⟩:=vG a (by omega);cases ra
  ·exact⟨false,f5 [(17,.N t.cnt),(18,.H),(28,.N f.cnt),(29,.H),(39,.F)] qt et qf ef qa,λ h=>nomatch h⟩
  obtain⟨rb,qb,ib⟩:=vG b (by omega);cases rb
  ·exact⟨false,f6 [(17,.N t.cnt),(18,.H),(28,.N f.cnt),(29,.H),(39,.T),(39,.F)] qt et qf ef qa qb,λ h=>nomatch h⟩
  exact⟨true,f6 [(17,.N t.cnt),(18,.H),(28,.N f.cnt),(29,.H),(39,.T),(39,.T)] qt et qf ef qa qb,λ _=>by simp_all [Pf.l4,jN]⟩
 | .subst f a b,h=>by
  have h:1+f.cnt+a.cnt+b.cnt<=dA:=h;have hb:=uA;have qf:=UD f (by omega);cases ef:kA (.ofNat 4096) (.ofNat f.cnt);rotate_left
  ·exact⟨false,f2 [(28,.N f.cnt),(29,.G)] qf ef,λ h=>nomatch h⟩
  obtain⟨ra,qa,ia⟩:=vG a (by omega);cases ra
  ·exact⟨false,f3 [(28,.N f.cnt),(29,.H),(39,.F)] qf ef qa,λ h=>nomatch h⟩
  obtain⟨rb,qb,ib⟩:=vG b (by omega);cases rb
  ·exact⟨false,f4 [(28,.N f.cnt),(29,.H),(39,.T),(39,.F)] qf ef qa qb,λ h=>nomatch h⟩
  exact⟨true,f4 [(28,.N f.cnt),(29,.H),(39,.T),(39,.T)] qf ef qa qb,λ _=>by simp_all [Pf.l4,jN]⟩
theorem kG:∀ p:Pf,p.tsz<=qA->∃ r,A 126 [p.p] (.bool r)/\(r=true->p.sh)
 | .leaf u i,h=>by
  cases u<;>exact⟨true,f1 [(73,.T)] WA,λ _=>by simp_all [Pf.sh]⟩
 | .refl t,h=>by
  have h:t.tsz<=qA:=h;have hm:=jA;have hb:=uA;have qt:=lE t (by omega);cases et:t.shp<;>rw [et] at qt
  ·exact⟨false,f2 [(73,.T),(85,.F)] WA qt,λ h=>nomatch h⟩
  exact⟨true,f2 [(73,.T),(85,.T)] WA qt,λ _=>by simp_all [Pf.sh]⟩
 | .p1 k a,h=>by
  have h:a.tsz<=qA:=h;obtain⟨ra,qa,ia⟩:=kG a (by omega);cases ra
  ·cases k<;>exact⟨false,f2 [(73,.T),(107,.F)] WA qa,λ h=>nomatch h⟩
  cases k<;>exact⟨true,f2 [(73,.T),(107,.T)] WA qa,λ _=>by simp_all [Pf.sh]⟩
 | .p2 k a b,h=>by
  have h:max a.tsz b.tsz<=qA:=h;have hm:=jA;obtain⟨ra,qa,ia⟩:=kG a (by omega);cases ra
  ·cases k<;>exact⟨false,f2 [(73,.T),(107,.F)] WA qa,λ h=>nomatch h⟩
  obtain⟨rb,qb,ib⟩:=kG b (by omega);cases rb
  ·cases k<;>exact⟨false,f3 [(73,.T),(107,.T),(107,.F)] WA qa qb,λ h=>nomatch h⟩
  cases k<;>exact⟨true,f3 [(73,.T),(107,.T),(107,.T)] WA qa qb,λ _=>by simp_all [Pf.sh]⟩
 | .impI f a,h=>by
  have h:max f.tsz a.tsz<=qA:=h;have hm:=jA;have qf:=GI f (by omega);cases ef:f.shp<;>rw [ef] at qf
  ·exact⟨false,f2 [(73,.T),(96,.F)] WA qf,λ h=>nomatch h⟩
  obtain⟨ra,qa,ia⟩:=kG a (by omega);cases ra
  ·exact⟨false,f3 [(73,.T),(96,.T),(107,.F)] WA qf qa,λ h=>nomatch h⟩
  exact⟨true,f3 [(73,.T),(96,.T),(107,.T)] WA qf qa,λ _=>by simp_all [Pf.sh]⟩
 | .all u s a,h=>by
  have h:max a.tsz s.size<=qA:=h;have hm:=jA;have hb:=uA;have qs:=QJ s;rcases XF s with es|es<;>rw [es] at qs;rotate_left
  ·cases u<;>exact⟨false,f1 [(63,.N 4)] qs,λ h=>nomatch h⟩
  obtain⟨ra,qa,ia⟩:=kG a (by omega);cases ra
  ·cases u<;>exact⟨false,f2 [(63,.N 0),(107,.F)] qs qa,λ h=>nomatch h⟩
  cases u<;>exact⟨true,f2 [(63,.N 0),(107,.T)] qs qa,λ _=>⟨chk0 es,ia rfl⟩⟩
 | .ins u t a,h=>by
  have h:max t.tsz a.tsz<=qA:=h;have hm:=jA;have hb:=uA;have qt:=lE t (by omega);cases et:t.shp<;>rw [et] at qt
  ·cases u<;>exact⟨false,f2 [(73,.T),(85,.F)] WA qt,λ h=>nomatch h⟩
  obtain⟨ra,qa,ia⟩:=kG a (by omega);cases ra
  ·cases u<;>exact⟨false,f3 [(73,.T),(85,.T),(107,.F)] WA qt qa,λ h=>nomatch h⟩
  cases u<;>exact⟨true,f3 [(73,.T),(85,.T),(107,.T)] WA qt qa,λ _=>by simp_all [Pf.sh]⟩
 | .ex u f t a,h=>by
  have h:max (max t.tsz f.tsz) a.tsz<=qA:=h;have hm:=jA;have hb:=uA;have qt:=lE t (by omega);cases et:t.shp<;>rw [et] at qt
  ·cases u<;>exact⟨false,f2 [(73,.T),(85,.F)] WA qt,λ h=>nomatch h⟩
  have qf:=GI f (by omega);cases ef:f.shp<;>rw [ef] at qf
  ·cases u<;>exact⟨false,f3 [(73,.T),(85,.T),(96,.F)] WA qt qf,λ h=>nomatch h⟩
  obtain⟨ra,qa,ia⟩:=kG a (by omega);cases ra
  ·cases u<;>exact⟨false,f4 [(73,.T),(85,.T),(96,.T),(107,.F)] WA qt qf qa,λ h=>nomatch h⟩
  cases u<;>exact⟨true,f4 [(73,.T),(85,.T),(96,.T),(107,.T)] WA qt qf qa,λ _=>by simp_all [Pf.sh]⟩
 | .ind l f t a b,h=>by
  have h:max (max (max t.tsz f.tsz) a.tsz) b.tsz<=qA:=h;have hm:=jA;have hb:=uA;have qt:=lE t (by omega);cases et:t.shp<;>rw [et] at qt
  ·cases l<;>exact⟨false,f2 [(73,.T),(85,.F)] WA qt,λ h=>nomatch h⟩
  have qf:=GI f (by omega);cases ef:f.shp<;>rw [ef] at qf
  ·cases l<;>exact⟨false,f3 [(73,.T),(85,.T),(96,.F)] WA qt qf,λ h=>nomatch h⟩
  obtain⟨ra,qa,ia⟩:=kG a (by omega);cases ra
  ·cases l<;>exact⟨false,f4 [(73,.T),(85,.T),(96,.T),(107,.F)] WA qt qf qa,λ h=>nomatch h⟩
  obtain⟨rb,qb,ib⟩:=kG b (by omega);cases rb
  ·cases l<;>exact⟨false,f5 [(73,.T),(85,.T),(96,.T),(107,.T),(107,.F)] WA qt qf qa qb,λ h=>nomatch h⟩
  cases l<;>exact⟨true,f5 [(73,.T),(85,.T),(96,.T),(107,.T),(107,.T)] WA qt qf qa qb,λ _=>by simp_all [Pf.sh]⟩
 | .subst f a b,h=>by
  have h:max (max f.tsz a.tsz) b.tsz<=qA:=h;have hm:=jA;have qf:=GI f (by omega);cases ef:f.shp<;>rw [ef] at qf
  ·exact⟨false,f2 [(73,.T),(96,.F)] WA qf,λ h=>nomatch h⟩
  obtain⟨ra,qa,ia⟩:=kG a (by omega);cases ra
  ·exact⟨false,f3 [(73,.T),(96,.T),(107,.F)] WA qf qa,λ h=>nomatch h⟩
  obtain⟨rb,qb,ib⟩:=kG b (by omega);cases rb
  ·exact⟨false,f4 [(73,.T),(96,.T),(107,.T),(107,.F)] WA qf qa qb,λ h=>nomatch h⟩
  exact⟨true,f4 [(73,.T),(96,.T),(107,.T),(107,.T)] WA qf qa qb,λ _=>by simp_all [Pf.sh]⟩
theorem Hn (p:Pf) (h:p.cnt<=dA):∃ r,A 127 [p.p] (.bool r)/\(r=true->p.l4/\p.cnt<=16384):=by
 obtain⟨r,h1,q1⟩:=vG p h;cases r
 ·exact⟨false,f1 [(4,.F)] h1,λ h=>nomatch h⟩
 ·cases e : !kA (.ofNat 16384) (.ofNat p.cnt)
  ·exact⟨false,f3 [(4,.T),(7,.N p.cnt),(8,.H)] h1 (aC p h) e,λ h=>nomatch h⟩
  ·exact⟨true,f3 [(4,.T),(7,.N p.cnt),(8,.G)] h1 (aC p h) e,λ _=>⟨q1 rfl,lf_iff.1 (by simpa using e)⟩⟩
theorem In (p:Pf) (h:p.cnt<=dA) (h':p.tsz<=qA):∃ e,A 78 [p.p] (num e)/\(e=0->p.ck/\p.cnt<=16384):=by
 obtain⟨r,h1,q1⟩:=kG p h';cases r
 ·exact⟨2,f1 [(4,.F)] h1,λ h=>nomatch h⟩
 ·obtain⟨q,h2,q2⟩:=Hn p h;cases q
  ·exact⟨4,f2 [(4,.T),(7,.F)] h1 h2,λ h=>nomatch h⟩
  ·exact⟨0,f2 [(4,.T),(7,.T)] h1 h2,λ _=>⟨p.ck_i (q1 rfl) (q2 rfl).1,(q2 rfl).2⟩⟩
abbrev TW (l:List Pf):PV:=.slice (l.map Pf.c)
abbrev pn (n:Nat) (ts fs es:List (List PV)):PV:=.agg [num n,num 0,num 0,.slice [],.slice ts,.slice fs,.slice es]
theorem wN (n:Nat) (a:Pf):A 55 [num n,TW [a]] (pn n [] [] [a.c]):=f1 [(19,.r a.p)] (kC a)
theorem DH (n:Nat) (a b:Pf):A 55 [num n,TW [a,b]] (pn n [] [] [a.c,b.c]):=f2 [(19,.r a.p),(19,.r b.p)] (kC a) (kC b)
theorem xd (f:Fm) (a:Pf):A 57 [f.p,a.p] (Pf.impI f a).p:=f2 [(8,.r (pn 6 [] [] [a.c])),(10,.r f.p)] (wN 6 a) (MB f)
theorem AP (u:Bool) (s:Ty) (a:Pf):A 60 [num (bn u 8 12),s.p,a.p] (Pf.all u s a).p:=f2 [(11,.r (pn (bn u 8 12) [] [] [a.c])),(13,.r s.p)] (wN (bn u 8 12) a) (xC s)
theorem UW (n:Nat) (t:Tm) (a:Pf):A 62 [num n,t.p,a.p] (pn n [t.c] [] [a.c]):=f2 [(11,.r (pn n [] [] [a.c])),(13,.r t.p)] (wN n a) (vC t)
theorem Ad (u:Bool) (t:Tm) (a:Pf):A 62 [num (bn u 9 13),t.p,a.p] (Pf.ins u t a).p:=UW (bn u 9 13) t a
theorem JI (u:Bool) (f:Fm) (t:Tm) (a:Pf):A 68 [num (bn u 10 14),f.p,t.p,a.p] (Pf.ex u f t a).p:=f2 [(13,.r (pn (bn u 10 14) [t.c] [] [a.c])),(15,.r f.p)] (UW (bn u 10 14) t a) (MB f)
theorem VW (l:Bool) (f:Fm) (t:Tm) (a b:Pf):A 71 [num (bn l 16 17),f.p,t.p,a.p,b.p] (Pf.ind l f t a b).p:=f3 [(16,.r (pn (bn l 16 17) [] [] [a.c,b.c])),(18,.r t.p),(22,.r f.p)] (DH (bn l 16 17) a b) (vC t) (MB f)
theorem Cd (f:Fm) (a b:Pf):A 75 [f.p,a.p,b.p] (Pf.subst f a b).p:=f2 [(11,.r (pn 19 [] [] [a.c,b.c])),(13,.r f.p)] (DH 19 a b) (MB f)
theorem rB (t:Tm):A 31 [t.p] (Pf.refl t).p:=f1 [(4,.r t.p)] (vC t)
theorem pF (i:Nat):A 72 [num i] (Pf.leaf false i).p:=f0 []
def WW (g s:Tm) (p:Pf):Pf:=.subst (.eq (.n2 .app (g.sh 0 1) (s.sh 0 1)) (.n2 .app (g.sh 0 1) (.v 0))) p (.refl (.n2 .app g s))
theorem Jn (g s:Tm) (p:Pf) (h1:g.mx<=qA * qA) (h2:g.cnt<=qA) (h3:s.mx<=qA * qA) (h4:s.cnt<=qA):A 188 [g.p,s.p,p.p] (WW g s p).p:=by
 have hm:=jA;have g1:=qG g 0 1 (by omega) (by omega) h1 (by omega);have g2:=qG s 0 1 (by omega) (by omega) h3 (by omega);exact f9 [(8,.n [(7,.r (g.sh 0 1).p)]),(10,.n [(7,.r (s.sh 0 1).p)]),(12,.r (Tm.n2 .app (g.sh 0 1) (s.sh 0 1)).p),(14,.n [(7,.r (g.sh 0 1).p)]),(17,.r (Tm.n2 .app (g.sh 0 1) (.v 0)).p),(18,.r (Fm.eq (.n2 .app (g.sh 0 1) (s.sh 0 1)) (.n2 .app (g.sh 0 1) (.v 0))).p),(23,.r (Tm.n2 .app g s).p),(24,.r (Pf.refl (.n2 .app g s)).p),(25,.r (WW g s p).p)]
  g1 g2 (bF 3 (g.sh 0 1) (s.sh 0 1)) g1 (bF 3 (g.sh 0 1) (.v 0)) (rE (.n2 .app (g.sh 0 1) (s.sh 0 1)) (.n2 .app (g.sh 0 1) (.v 0))) (bF 3 g s) (rB (.n2 .app g s)) (Cd (.eq (.n2 .app (g.sh 0 1) (s.sh 0 1)) (.n2 .app (g.sh 0 1) (.v 0))) p (.refl (.n2 .app g s)))
def sucT:Tm:=.lam .nat (.n1 .succ (.v 0))
def pl0:Tm:=.n2 .app (.n2 .app plusT (.n0 .zero)) (.v 0)
def stepP:Pf:=WW sucT pl0 (.leaf false 0)
theorem Kn:A 127 [stepP.p] (.bool true):=by
 have g1:A 196 [(Pf.leaf false 0).p] (.bool true):=f0 [];have g2:A 196 [(Pf.refl (.n2 .app sucT pl0)).p] (.bool true):=f1 [(17,.N (Tm.n2 .app sucT pl0).cnt)] (yB (.n2 .app sucT pl0) (by decide));let F:Fm:=.eq (.n2 .app (sucT.sh 0 1) (pl0.sh 0 1)) (.n2 .app (sucT.sh 0 1) (.v 0));have g3:A 196 [stepP.p] (.bool true):=f3 [(28,.N F.cnt),(39,.T),(39,.T)] (UD F (by decide)) g1 g2;exact f2 [(4,.T),(7,.N stepP.cnt)] g3 (aC stepP (by decide))
theorem Ln:A 189 [row [sucT,pl0,.v 0],.slice [],TW [.leaf false 0]] (num 0):=by
 have g1:A 126 [(Pf.leaf false 0).p] (.bool true):=f0 [];have g2:A 127 [(Pf.leaf false 0).p] (.bool true):=f0 [];have g3:A 78 [(Pf.leaf false 0).p] (num 0):=f2 [(4,.T),(7,.T)] g1 g2;exact f4 [(23,.N sucT.chk),(23,.N pl0.chk),(23,.N (Tm.v 0).chk),(47,.N 0)] (cH sucT (by decide) (by decide)) (cH pl0 (by decide) (by decide)) (cH (.v 0) (by decide) (by decide)) g3
theorem Mn:A 123 [sucT.p,pl0.p,(Tm.v 0).p,(Pf.leaf false 0).p] (.tuple [stepP.p,num 0]):=by
 have g1:A 187 [stepP.p,num 0] (.tuple [stepP.p,num 0]):=f2 [(11,.T),(15,.r stepP.p)] Kn (kC stepP);exact f3 [(13,.r stepP.p),(20,.N 0),(21,.U [stepP.p,num 0])] (Jn sucT pl0 (.leaf false 0) (by decide) (by decide) (by decide) (by decide)) Ln g1
open Go.Lg
abbrev fA (l:List Fm):PV:=.slice (l.map Fm.c)
theorem Fm.c_len (f:Fm):f.c.length=5:=rfl
abbrev IA (ls:List Fm) (g:List Ty) (hs:List Fm):PV:=.agg [fA ls,cA g,fA hs]
def UB (c:Fm->Fm):List (List V)->Nat->List Fm->List (List V)
 | E,_,[]=>E
 | E,n,f::r=>UB c (E.take n++[oA (c f).c]) (n+1) r
theorem pvE_len (A:List (List PV)):(vA A).length=A.length:=by
 induction A with
 | nil=>rfl
 | cons a r ih=>show (oA a::vA r).length=_;simp [ih]
theorem pvE_app (A B:List (List PV)):vA (A++B)=vA A++vA B:=by
 induction A with
 | nil=>rfl
 | cons a r ih=>show oA a::vA (r++B)=oA a::vA r++vA B;rw [ih];rfl
theorem XW (c:Fm->Fm):∀ (r:List Fm) (A:List (List PV)),UB c (vA A) A.length r=vA (A++r.map λ f=>(c f).c)
 | [],A=>by simp [UB]
 | f::r,A=>by
  have h1:(vA A).take A.length++[oA (c f).c]=vA (A++[(c f).c]):=by
   rw [List.take_of_length_le (by rw [pvE_len];exact Nat.le_refl _),pvE_app];rfl
  have h2:A.length+1=(A++[(c f).c]).length:=by simp
  simp only [UB];rw [h1,h2,XW c r];simp
theorem YW:∀ l:List PV,GA (oA l)=[]
 | []=>rfl
 | c::r=>by show V.names (.pv c)++GA (oA r)=[];rw [YW r];rfl
theorem BP (E:List (List V)) (n:Nat) (c:List PV) (h:qB E=[]):qB (E.take n++[oA c])=[]:=by
 have h1:∀ (E:List (List V)) (n:Nat),qB E=[]->qB (E.take n)=[]:=by
  intro E
  induction E with
  | nil=>intro n _;simp [qB]
  | cons e r ih =>
   intro n h
   cases n with
   | zero=>rfl
   | succ n =>
    simp only [qB,List.append_eq_nil_iff] at h;simp only [List.take_succ_cons,qB,h.1,ih n h.2,List.append_nil]
 have h2:∀ (E F:List (List V)),qB (E++F)=qB E++qB F:=by
  intro E F
  induction E with
  | nil=>rfl
  | cons e r ih=>simp [qB,ih]
 rw [h2,h1 E n h];simp [qB,YW]
theorem CP {v n m sz ty:Nat} {E ys:List (List V)} (hE:E.length=n) (h0:0<sz) (h1:bC sz ys=true) (h2:SB ys=true) (h3:n+ys.length<=maxLen) (h4:(n+ys.length) * m<=140737488355328) :
  (Nat.beq v v && Nat.ble n E.length && Nat.beq ty ty && Nat.beq sz sz && Nat.blt 0 sz && bC sz ys && SB ys && Nat.ble (n+ys.length) maxLen && Nat.ble ((n+ys.length) * m) 140737488355328)=true:=by
 have h5:Nat.blt 0 sz=true:=by rw [CG];simpa using h0
 rw [h1,h2,h5,hE,Nat.ble_eq_true_of_le h3,Nat.ble_eq_true_of_le h4,Nat.ble_eq_true_of_le (Nat.le_refl n)];simp
abbrev ZW:Kp:=⟨[1,4,5,23,24,25],[1,2,4],5,[]⟩
abbrev EE:List PV:=[.nils,.nils,.nils]
abbrev DP (l:List Ty) (hs:List Fm) (k:Nat):List (Nat × V):=[(1,.pv (cA l)),(4,.loc 1 0),(5,.loc 2 0),(23,.pv (fA hs)),(24,.pv (num (hs.map Fm.c).length)),(25,.pv (num k))]
abbrev Nn (ls:PV) (g:PV) (l:List Ty) (hs:List Fm) (k v n:Nat) (E:List (List V)):IS:=st (DP l hs k) [(1,bx EE),(2,.box [.pv ls,.pv g,.arr 4 v n]),(4,.arr v 5 37 E)] 5 []
abbrev On (ls g:PV) (v n:Nat) (E:List (List V)):IS:=st [(4,.loc 1 0),(5,.loc 2 0)] [(1,bx EE),(2,.box [.pv ls,.pv g,.arr 4 v n]),(4,.arr v 5 37 E)] 5 []
theorem qX (ls g:PV) (l:List Ty) (hz:l.length<=16) {hs:List Fm} (hl:hs.length<=qA):∀ (r:List Fm) (k v n:Nat) (E:List (List V)),hs.drop k=r->E.length=n->n+r.length<=qA->qB E=[]->(∀ f∈r,f.mx<=qA * qA/\f.cnt<=qA) ->
  ∃ v',Lp 266 0 0 (Nn ls g l hs k v n E) (.exit 0) (On ls g v' (n+r.length) (UB (Fm.sh 0 (.ofNat (l.map Ty.c).length)) E n r))
 | [],k,v,n,E,h,h1,h2,h3,h4=>by
  have e:kA (.ofNat k) (.ofNat (hs.map Fm.c).length)=false:=CA (by simpa using TC h);exact⟨v,y1 [(26,.H)] ⟨[4,5],[1,2,4],5,[]⟩ e h3⟩
 | f::r,k,v,n,E,h,h1,h2,h3,h4=>by
  have hm:=jA;obtain⟨d1,d2,d3⟩:=SC h;have e:kA (.ofNat k) (.ofNat (hs.map Fm.c).length)=true:=aA (by simpa using d2);have hb:=h4 f (by simp);have h2:n+(r.length+1)<=qA:=by simpa using h2
  have g1:=bD f 0 (.ofNat (l.map Ty.c).length) (by simp) (by simp;omega) hb.1 (by omega);have g2:(Nat.beq v v && Nat.ble n E.length && Nat.beq 40 40 && Nat.beq 5 5 && Nat.blt 0 5 && bC 5 [oA (f.sh 0 (.ofNat (l.map Ty.c).length)).c] && SB [oA (f.sh 0 (.ofNat (l.map Ty.c).length)).c] && Nat.ble (n+[oA (f.sh 0 (.ofNat (l.map Ty.c).length)).c].length) maxLen && Nat.ble ((n+[oA (f.sh 0 (.ofNat (l.map Ty.c).length)).c].length) * 88) 140737488355328)=true :=
   CP h1 (by decide) rfl rfl (by simp only [maxLen,List.length_singleton];omega) (by simp only [List.length_singleton];omega)
  have g3:=eA (show k+1<=_ by omega);have g4:=BP E n (f.sh 0 (.ofNat (l.map Ty.c).length)).c h3;obtain⟨v',ih⟩:=qX ls g l hz hl r (k+1) (v+1) (n+1) (E.take n++[oA (f.sh 0 (.ofNat (l.map Ty.c).length)).c]) d3 (by simp [h1]) (by omega) g4 (λ f hf=>h4 f (by simp [hf]));rw [show n+1+r.length=n+(f::r).length by simp;omega] at ih;exact⟨v',n7 [(26,.G),(27,.i f.c),(34,.r (f.sh 0 (.ofNat (l.map Ty.c).length)).p),(36,.ok),(38,.ok)] ZW e (KA d1 Fm.c_len) g1 g2 g3 g4 ih⟩
theorem EP (g:List Ty):(Nat.beq (g.map Ty.c).length (g.map Ty.c).length && Nat.beq (g.map Ty.c).length (g.map Ty.c).length)=true:=CE _
theorem Dd {α:Type} {c:α->List PV} (n m:Nat) (hn:∀ t,(c t).length=n) (h0:0<n) (g:List α) (s u:α) (h:(g.length+2) * m<=140737488355328) (hg:g.length+2<=maxLen) :
  (LB n (g.map c) && LB n [c s,c u] && Nat.blt 0 n && Nat.ble ((g.map c).length+[c s,c u].length) maxLen && Nat.ble (((g.map c).length+[c s,c u].length) * m) 140737488355328)=true:=by
 have h1:LB n (g.map c)=true:=WM λ y hy=>by obtain⟨t,_,rfl⟩:=List.mem_map.1 hy;exact hn t
 have h2:LB n [c s,c u]=true:=WM λ y hy=>by simp at hy;rcases hy with rfl|rfl<;>exact hn _
 have h3:Nat.blt 0 n=true:=by rw [CG];simpa using h0
 rw [h1,h2,h3];simp only [List.length_map,List.length_cons,List.length_nil,Bool.true_and];rw [Nat.ble_eq_true_of_le hg,Nat.ble_eq_true_of_le h];rfl
theorem zX (ls:List Fm) (g:List Ty) (s:Ty) (hs:List Fm) (hg:g.length<=qA-2) (hl:hs.length<=1024) (hh:∀ f∈hs,f.mx<=qA * qA/\f.cnt<=qA):A 266 [IA ls g hs,cA [s]] (IA ls (g++[s]) (hs.map (Fm.sh 0 1))):=by
 have hm:=jA;have g1:=EP g;have g2:=mE 2 32 Ty.c_len (by decide) g s (by omega) (by simp only [maxLen];omega);simp only [IA,cA,List.map_append,List.map_cons,List.map_nil];let g':PV:=.slice (g.map Ty.c++[s.c])
 cases hs with
 | nil =>
  have h1:Lp 266 0 0 (st (DP [s] [] 0) [(1,bx EE),(2,bx [fA ls,g',.nils])] 3 []) (.exit 0) (st [(4,.loc 1 0),(5,.loc 2 0)] [(1,bx EE),(2,bx [fA ls,g',.nils])] 3 []) :=
   x0 [] ⟨[4,5],[1,2],3,[]⟩
  exact f3 [(18,.ok),(20,.ok),(100003,.l ⟨[1,4,5,23,24,25],[1,2],3,[]⟩ (.exit 0) (st [(4,.loc 1 0),(5,.loc 2 0)] [(1,bx EE),(2,bx [fA ls,g',.nils])] 3 []))] g1 g2 h1
 | cons f hs =>
  have hl:hs.length+1<=1024:=hl;have hf:=hh f (by simp);let ps:=(f::hs).map λ f=>(f.sh 0 1).c
  obtain⟨v,h1⟩:=qX (fA ls) g' [s] (by simp) (hs:=f::hs) (by simp;omega) hs 1 1 1 (vA [(f.sh 0 1).c]) rfl rfl (by omega) (BP [] 0 _ rfl) (λ f hf=>hh f (by simp [hf]));have hE:UB (Fm.sh 0 (.ofNat (([s]:List Ty).map Ty.c).length)) (vA [(f.sh 0 1).c]) 1 hs=vA ps:=XW (Fm.sh 0 1) hs [(f.sh 0 1).c];rw [hE] at h1;have h2:=LoopIs.fz (by simp) h1 4 (ver:=v) (sz:=5) (ty:=37) (ps:=ps) rfl (by kernel_rfl);simp (decide:=true) only [uE,CD,rC,JC,LD,List.map,pD,and_self,↓reduceIte,List.take_of_length_le (show ps.length<=1+hs.length by simp [ps];omega)] at h2;have e:kA (.ofNat 0) (.ofNat ((f::hs).map Fm.c).length)=true:=aA (by simp);have h3:Lp 266 0 0 (st (DP [s] (f::hs) 0) [(1,bx EE),(2,bx [fA ls,g',.nils])] 3 []) (.exit 0) (st [(4,.loc 1 0),(5,.loc 2 0)] [(1,bx EE),(2,bx [fA ls,g',.slice ps])] 5 []) :=
   n6 [(26,.G),(27,.i f.c),(34,.r (f.sh 0 1).p),(38,.ok)] ZW e (KA (g:=f::hs) (k:=0) rfl Fm.c_len) (bD f 0 1 (by omega) (by omega) hf.1 (by omega)) (eA (show 0+1<=_ by omega)) (BP [] 0 (f.sh 0 1).c rfl) h2
  have h4:fA ((f::hs).map (Fm.sh 0 1)) = .slice ps:=by simp [ps,fA,Function.comp_def]
  rw [h4];exact f3 [(18,.ok),(20,.ok),(100003,.l ⟨[1,4,5,23,24,25],[1,2],3,[]⟩ (.exit 0) (st [(4,.loc 1 0),(5,.loc 2 0)] [(1,bx EE),(2,bx [fA ls,g',.slice ps])] 5 []))] g1 g2 h3
theorem Pn (ls:List Fm) (g:List Ty) (s u:Ty) (hs:List Fm) (hg:g.length<=qA-2) (hl:hs.length<=1024) (hh:∀ f∈hs,f.mx<=qA * qA/\f.cnt<=qA):A 266 [IA ls g hs,cA [s,u]] (IA ls (g++[s,u]) (hs.map (Fm.sh 0 2))):=by
 have hm:=jA;have g1:=EP g;have g2:=Dd 2 32 Ty.c_len (by decide) g s u (by omega) (by simp only [maxLen];omega);simp only [IA,cA,List.map_append,List.map_cons,List.map_nil];let g':PV:=.slice (g.map Ty.c++[s.c,u.c])
 cases hs with
 | nil =>
  have h1:Lp 266 0 0 (st (DP [s,u] [] 0) [(1,bx EE),(2,bx [fA ls,g',.nils])] 3 []) (.exit 0) (st [(4,.loc 1 0),(5,.loc 2 0)] [(1,bx EE),(2,bx [fA ls,g',.nils])] 3 []) :=
   x0 [] ⟨[4,5],[1,2],3,[]⟩
  exact f3 [(18,.ok),(20,.ok),(100003,.l ⟨[1,4,5,23,24,25],[1,2],3,[]⟩ (.exit 0) (st [(4,.loc 1 0),(5,.loc 2 0)] [(1,bx EE),(2,bx [fA ls,g',.nils])] 3 []))] g1 g2 h1
 | cons f hs =>
  have hl:hs.length+1<=1024:=hl;have hf:=hh f (by simp);let ps:=(f::hs).map λ f=>(f.sh 0 2).c
  obtain⟨v,h1⟩:=qX (fA ls) g' [s,u] (by simp) (hs:=f::hs) (by simp;omega) hs 1 1 1 (vA [(f.sh 0 2).c]) rfl rfl (by omega) (BP [] 0 _ rfl) (λ f hf=>hh f (by simp [hf]));have hE:UB (Fm.sh 0 (.ofNat (([s,u]:List Ty).map Ty.c).length)) (vA [(f.sh 0 2).c]) 1 hs=vA ps:=XW (Fm.sh 0 2) hs [(f.sh 0 2).c];rw [hE] at h1;have h2:=LoopIs.fz (by simp) h1 4 (ver:=v) (sz:=5) (ty:=37) (ps:=ps) rfl (by kernel_rfl);simp (decide:=true) only [uE,CD,rC,JC,LD,List.map,pD,and_self,↓reduceIte,List.take_of_length_le (show ps.length<=1+hs.length by simp [ps];omega)] at h2;have e:kA (.ofNat 0) (.ofNat ((f::hs).map Fm.c).length)=true:=aA (by simp);have h3:Lp 266 0 0 (st (DP [s,u] (f::hs) 0) [(1,bx EE),(2,bx [fA ls,g',.nils])] 3 []) (.exit 0) (st [(4,.loc 1 0),(5,.loc 2 0)] [(1,bx EE),(2,bx [fA ls,g',.slice ps])] 5 []) :=
   n6 [(26,.G),(27,.i f.c),(34,.r (f.sh 0 2).p),(38,.ok)] ZW e (KA (g:=f::hs) (k:=0) rfl Fm.c_len) (bD f 0 2 (by omega) (by omega) hf.1 (by omega)) (eA (show 0+1<=_ by omega)) (BP [] 0 (f.sh 0 2).c rfl) h2
  have h4:fA ((f::hs).map (Fm.sh 0 2)) = .slice ps:=by simp [ps,fA,Function.comp_def]
  rw [h4];exact f3 [(18,.ok),(20,.ok),(100003,.l ⟨[1,4,5,23,24,25],[1,2],3,[]⟩ (.exit 0) (st [(4,.loc 1 0),(5,.loc 2 0)] [(1,bx EE),(2,bx [fA ls,g',.slice ps])] 5 []))] g1 g2 h3
theorem FP (ls:List Fm) (g:List Ty) (hs:List Fm) (v h:Nat) (h1:g.length+v<=qA:=by omega) (h2:hs.length+h<=qA:=by omega):∃ e,A 198 [IA ls g hs,num v,num h] (num e)/\(e=0->g.length+v<=16/\hs.length+h<=16):=by
 have hm:=jA;have g1:rA (Int.ofNat (g.map Ty.c).length + .ofNat v)=true:=eA (n:=(g.map Ty.c).length+v) (by simp;omega);have g2:rA (Int.ofNat (hs.map Fm.c).length + .ofNat h)=true:=eA (n:=(hs.map Fm.c).length+h) (by simp;omega);by_cases c1:g.length+v<=16
 ·have e1:kA (.ofNat 16) (.ofNat ((g.map Ty.c).length+v))=false:=CA (by simpa using c1);by_cases c2:hs.length+h<=16
  ·have e2:kA (.ofNat 16) (.ofNat ((hs.map Fm.c).length+h))=false:=CA (by simpa using c2);exact⟨0,f4 [(11,.ok),(12,.H),(18,.ok),(19,.H)] g1 e1 g2 e2,λ _=>⟨c1,c2⟩⟩
  ·have e2:kA (.ofNat 16) (.ofNat ((hs.map Fm.c).length+h))=true:=aA (by simpa using c2);exact⟨3,f4 [(11,.ok),(12,.H),(18,.ok),(19,.G)] g1 e1 g2 e2,nofun⟩
 ·have e1:kA (.ofNat 16) (.ofNat ((g.map Ty.c).length+v))=true:=aA (by simpa using c1);exact⟨3,f2 [(11,.ok),(12,.G)] g1 e1,nofun⟩
theorem GS (ls:List Fm) (g:List Ty) (hs:List Fm) (f:Fm) (h:hs.length+1<=qA:=by omega):A 199 [IA ls g hs,f.p] (IA ls g (hs++[f])):=by
 have hm:=jA;have g1:=CE (hs.map Fm.c).length;have g2:=mE 5 88 Fm.c_len (by decide) hs f (by omega) (by simp only [maxLen];omega);simp only [IA,fA,List.map_append,List.map_cons,List.map_nil];exact f2 [(13,.ok),(16,.ok)] g1 g2
abbrev ic (n:Nat):List PV:=[num n]
abbrev bA (l:List Nat):PV:=.slice (l.map ic)
theorem VJ (n:Nat):(ic n).length=1:=rfl
theorem LI (A:List (List PV)) (c:List PV):vA (A++[c])=(vA A).take A.length++[oA c]:=by
 rw [List.take_of_length_le (by rw [pvE_len];exact Nat.le_refl _),pvE_app];rfl
theorem MC (A:List (List PV)):qB (vA A)=[]:=by
 induction A with
 | nil=>rfl
 | cons a r ih=>show GA (oA a)++qB (vA r)=[];rw [YW,ih];rfl
theorem rF (A:List (List PV)) (c:List PV):qB ((vA A).take A.length++[oA c])=[]:=by rw [<- LI];exact MC _
def LA (n:Nat):List Nat->List Nat
 | []=>[]
 | x::r=>if n<=x then (x-n)::LA n r else LA n r
theorem kN {n v:Nat} : ∀ {l:List Nat},v+n∈l->v∈LA n l
 | [],h=>by cases h
 | x::r,h=>by
  simp only [LA];rcases List.mem_cons.1 h with h|h
  ·subst h;rw [if_pos (by omega)];simp
  ·split
   ·exact List.mem_cons_of_mem _ (kN h)
   ·exact kN h
theorem GP {n M:Nat} : ∀ {l:List Nat},(∀ x∈l,x<=M)->∀ x∈LA n l,x<=M
 | [],_,x,h=>by cases h
 | y::r,hl,x,h=>by
  simp only [LA] at h;have h1:=hl y (by simp);split at h
  ·rcases List.mem_cons.1 h with rfl|h
   ·omega
   ·exact GP (λ z hz=>hl z (by simp [hz])) x h
  ·exact GP (λ z hz=>hl z (by simp [hz])) x h
theorem HP (n:Nat):∀ (l:List Nat),(LA n l).length<=l.length
 | []=>Nat.le_refl _
 | x::r=>by
  have:=HP n r;simp only [LA];split<;>simp<;>omega
abbrev jX (n:Nat) (l:List Nat) (k:Nat) (x:V):List (Nat × V):=[(1,.pv (num n)),(5,x),(8,.pv (bA l)),(9,.pv (num (l.map ic).length)),(10,.pv (num k))]
abbrev vX:Kp:=⟨[1,5,8,9,10],[0],1,[]⟩
theorem wX (n:Nat) {l:List Nat} (hl:l.length<=qA) (hb:∀ x∈l,x<=dA):∀ (r:List Nat) (k v:Nat) (A:List (List PV)),l.drop k=r->A.length+r.length<=qA ->
  ∃ v',Lp 267 0 0 (st (jX n l k (.arr 0 v A.length)) [(0,.arr v 1 3 (vA A))] 1 []) (.exit 0) (st [(5,.arr 0 v' (A.length+(LA n r).length))] [(0,.arr v' 1 3 (vA (A++(LA n r).map ic)))] 1 [])
 | [],k,v,A,h,h1=>by
  have e:kA (.ofNat k) (.ofNat (l.map ic).length)=false:=CA (by simpa using TC h);simp only [LA,List.map_nil,List.append_nil,List.length_nil,Nat.add_zero];exact⟨v,y1 [(11,.H)] ⟨[5],[0],1,[]⟩ e (MC A)⟩
 | x::r,k,v,A,h,h1=>by
  have hm:=jA;have hbb:=uA;obtain⟨d1,d2,d3⟩:=SC h;have e:kA (.ofNat k) (.ofNat (l.map ic).length)=true:=aA (by simpa using d2);have hx:=hb x (List.mem_of_getElem? d1);have h1:A.length+(r.length+1)<=qA:=by simpa using h1
  have g3:=eA (show k+1<=_ by omega);by_cases c:n<=x
  ·have e2:(!kA (.ofNat x) (.ofNat n))=true:=iH c;have g4:rA (Int.ofNat x - .ofNat n)=true/\Int.ofNat x - .ofNat n = .ofNat (x-n):=by
    have e:Int.ofNat x - .ofNat n = .ofNat (x-n):=by simp;omega
    exact⟨by rw [e];exact YA,e⟩
   have g5:(Nat.beq v v && Nat.ble A.length (vA A).length && Nat.beq 3 3 && Nat.beq 1 1 && Nat.blt 0 1 && bC 1 [oA (ic (x-n))] && SB [oA (ic (x-n))] && Nat.ble (A.length+[oA (ic (x-n))].length) maxLen && Nat.ble ((A.length+[oA (ic (x-n))].length) * 8) 140737488355328)=true :=
    CP (pvE_len A) (by decide) rfl rfl (by simp only [maxLen,List.length_singleton];omega) (by simp only [List.length_singleton];omega)
   obtain⟨v',ih⟩:=wX n hl hb r (k+1) (v+1) (A++[ic (x-n)]) d3 (by simp;omega);have e3:LA n (x::r)=(x-n)::LA n r:=by simp only [LA,if_pos c]
   rw [e3];rw [LI,show (A++[ic (x-n)]).length=A.length+1 by simp,show A.length+1+(LA n r).length=A.length+((x-n)::LA n r).length by simp;omega,List.append_assoc] at ih;exact⟨v',n8 [(11,.G),(12,.i (ic x)),(16,.G),(20,.z (x-n)),(22,.ok),(23,.ok)] vX e (KA d1 VJ) e2 g4 g5 g3 (rF A (ic (x-n))) ih⟩
  ·have e2:(!kA (.ofNat x) (.ofNat n))=false:=lF;obtain⟨v',ih⟩:=wX n hl hb r (k+1) v A d3 (by omega);have e3:LA n (x::r)=LA n r:=by simp only [LA,if_neg c]
   rw [e3];exact⟨v',n6 [(11,.G),(12,.i (ic x)),(16,.H),(23,.ok)] vX e (KA d1 VJ) e2 g3 (MC A) ih⟩
theorem Ed (n:Nat) {l:List Nat} (hl:l.length<=qA) (hb:∀ x∈l,x<=dA):∀ (r:List Nat) (k:Nat),l.drop k=r ->
  (LA n r=[]/\Lp 267 0 0 (st (jX n l k (.pv .nils)) [] 0 []) (.exit 0) (st [(5,.pv .nils)] [] 0 [])) \/ ∃ v',Lp 267 0 0 (st (jX n l k (.pv .nils)) [] 0 []) (.exit 0) (st [(5,.arr 0 v' (LA n r).length)] [(0,.arr v' 1 3 (vA ((LA n r).map ic)))] 1 [])
 | [],k,h=>by
  have e:kA (.ofNat k) (.ofNat (l.map ic).length)=false:=CA (by simpa using TC h);exact .inl ⟨rfl,x1 [(11,.H)] ⟨[5],[],0,[]⟩ e⟩
 | x::r,k,h=>by
  have hm:=jA;have hbb:=uA;obtain⟨d1,d2,d3⟩:=SC h;have e:kA (.ofNat k) (.ofNat (l.map ic).length)=true:=aA (by simpa using d2);have hx:=hb x (List.mem_of_getElem? d1);have g3:=eA (show k+1<=_ by omega);by_cases c:n<=x
  ·have e2:(!kA (.ofNat x) (.ofNat n))=true:=iH c;have g4:rA (Int.ofNat x - .ofNat n)=true/\Int.ofNat x - .ofNat n = .ofNat (x-n):=by
    have e:Int.ofNat x - .ofNat n = .ofNat (x-n):=by simp;omega
    exact⟨by rw [e];exact YA,e⟩
   have hr:r.length<=l.length:=by rw [<- d3];simp
   have hr2:r.length+1<=l.length:=by
    have:=congrArg List.length h;simp at this;omega
   obtain⟨v',ih⟩:=wX n hl hb r (k+1) 1 [ic (x-n)] d3 (by simp;omega);have e3:LA n (x::r)=(x-n)::LA n r:=by simp only [LA,if_pos c]
   rw [e3];rw [show [ic (x-n)].length+(LA n r).length=((x-n)::LA n r).length by simp;omega] at ih;exact .inr ⟨v',n7 [(11,.G),(12,.i (ic x)),(16,.G),(20,.z (x-n)),(23,.ok)] vX e (KA d1 VJ) e2 g4 g3 (MC [ic (x-n)]) ih⟩
  ·have e2:(!kA (.ofNat x) (.ofNat n))=false:=lF;have e3:LA n (x::r)=LA n r:=by simp only [LA,if_neg c]
   rw [e3];rcases Ed n hl hb r (k+1) d3 with ⟨h4,ih⟩|⟨v',ih⟩
   ·exact .inl ⟨h4,n5 [(11,.G),(12,.i (ic x)),(16,.H),(23,.ok)] ⟨[1,5,8,9,10],[],0,[]⟩ e (KA d1 VJ) e2 g3 ih⟩
   ·exact .inr ⟨v',n5 [(11,.G),(12,.i (ic x)),(16,.H),(23,.ok)] ⟨[1,5,8,9,10],[],0,[]⟩ e (KA d1 VJ) e2 g3 ih⟩
theorem HS (n:Nat) (l:List Nat) (hl:l.length<=qA) (hb:∀ x∈l,x<=dA):A 267 [bA l,num n] (bA (LA n l)):=by
 rcases Ed n hl hb l 0 rfl with ⟨h1,h2⟩|⟨v,h2⟩
 ·rw [h1];exact f1 [(100003,.l ⟨[1,5,8,9,10],[],0,[]⟩ (.exit 0) (st [(5,.pv .nils)] [] 0 []))] h2
 ·have h3:=LoopIs.fz (by simp) h2 0 (ver:=v) (sz:=1) (ty:=3) (ps:=(LA n l).map ic) rfl (by kernel_rfl);simp (decide:=true) only [uE,CD,rC,pD,and_self,↓reduceIte,List.take_of_length_le (show ((LA n l).map ic).length<=(LA n l).length by simp)] at h3;exact f1 [(100003,.l ⟨[1,5,8,9,10],[],0,[]⟩ (.exit 0) (st [(5,.pv (bA (LA n l)))] [] 1 []))] h3
open Go.Lg
def aq:Bool->FQ
 | false => .all
 | true => .allU
def Fm.pt (f:Fm) (t:Tm):FR:=if f.cnt+f.occ 0 * (t.cnt-1)<=4096 then .ok (f.put 0 t 0) else .er 3
abbrev Fm.low (f:Fm):Fm:=f.put 0 (.v 0) 0
def VB:Fm->Option Fm
 | .eq a b=>match FI a with
  | .ok x _=>match FI b with
   | .ok y _=>some (.eq x y)
   | .er _=>none
  | .er _=>none
 | .bin k f g=>match VB f with
  | some x=>match VB g with
   | some y=>some (.bin k x y)
   | none=>none
  | none=>none
 | .q k s f=>match VB f with
  | some x=>some (.q k s x)
  | none=>none
def VC (f:Fm):Option Fm:=if f.occ 0=0 then some f.low else match VB f with
 | some g=>if g.occ 0=0 then some g.low else none
 | none=>none
inductive Jt where
 | leaf (u:Bool) (i:Nat) (f:Fm)
 | refl (t:Tm)
 | p1 (k:P1) (a:Jt) (f:Fm)
 | p2 (k:P2) (a b:Jt) (f:Fm)
 | impI (x:Fm) (a:Jt)
 | all (u:Bool) (s:Ty) (a:Jt)
 | ins (u:Bool) (t:Tm) (a:Jt) (f:Fm)
 | ex (u:Bool) (x:Fm) (t:Tm) (a:Jt)
 | ind (l:Bool) (x:Fm) (t:Tm) (a b:Jt) (f:Fm)
 | subst (x:Fm) (a b:Jt) (f:Fm)
def Jt.p:Jt->Pf
 | .leaf u i _ => .leaf u i
 | .refl t => .refl t
 | .p1 k a _ => .p1 k a.p
 | .p2 k a b _ => .p2 k a.p b.p
 | .impI x a => .impI x a.p
 | .all u s a => .all u s a.p
 | .ins u t a _ => .ins u t a.p
 | .ex u x t a => .ex u x t a.p
 | .ind l x t a b _ => .ind l x t a.p b.p
 | .subst x a b _ => .subst x a.p b.p
def Jt.f:Jt->Fm
 | .leaf _ _ f=>f
 | .refl t => .eq t t
 | .p1 _ _ f=>f
 | .p2 _ _ _ f=>f
 | .impI x a => .bin .imp x a.f
 | .all u s a => .q (aq u) s a.f
 | .ins _ _ _ f=>f
 | .ex _ x _ _=>x
 | .ind _ _ _ _ _ f=>f
 | .subst _ _ _ f=>f
def Fm.bd:Fm->Fm
 | .q _ _ f=>f
 | f=>f
abbrev lA (k:Nat) (hs:List Fm):List Fm:=hs.map (Fm.sh 0 (.ofNat k))
def MI:Bool->FQ
 | false => .ex
 | true => .exU
def ek:Bool->P2
 | false => .exE
 | true => .exUE
abbrev vapp:Tm:=.n2 .app (.v 1) (.v 0)
def IP (hs:List Fm) (x:Fm):Bool->List Fm
 | false=>lA 1 hs++[x]
 | true=>lA 2 hs++[x.sh 1 (.ofNat 1)]
def lN:Bool->Nat
 | false=>1
 | true=>2
def Jt.us:Jt->Nat->Prop
 | .leaf _ _ _,_=>False
 | .refl _,_=>False
 | .p1 _ a f,v=>f.has=true/\a.us v
 | .p2 k a b f,v=>f.has=true/\(a.us v\/match k with
  | .andI=>b.us v
  | .impE=>b.us v
  | _=>b.us (v+1))
 | .impI x a,v=>(Fm.bin .imp x a.f).has=true/\a.us v
 | .all u s a,v=>(Fm.q (aq u) s a.f).has=true/\a.us (v+1)
 | .ins u t a f,v=>f.has=true/\(a.us v\/u=false/\t.occ v≠0)
 | .ex u x t a,v=>x.has=true/\(a.us v\/u=false/\t.occ v≠0)
 | .ind l x t a b f,v=>f.has=true/\(t.occ v≠0\/a.us v\/b.us (v+lN l))
 | .subst x a b f,v=>f.has=true/\b.us v
def Fm.er:Fm->Fm
 | .eq _ _ => .eq (.n0 .unit) (.n0 .unit)
 | .bin k f g => .bin k f.er g.er
 | .q k s f => .q k s f.er
theorem OG:∀ f:Fm,f.er.has=f.has
 | .eq _ _=>rfl
 | .bin k f g=>by cases k<;>simp only [Fm.er,Fm.has,OG f,OG g]
 | .q k _ f=>by cases k<;>simp only [Fm.er,Fm.has,OG f]
theorem QG (z:Int):∀ (f:Fm) (c:Nat),(f.sh c z).er=f.er
 | .eq _ _,c=>rfl
 | .bin k f g,c=>by simp only [Fm.sh,Fm.er,QG z f,QG z g]
 | .q k s f,c=>by simp only [Fm.sh,Fm.er,QG z f]
theorem yN (c:Nat) (s:Tm):∀ (f:Fm) (d:Nat),(f.put c s d).er=f.er
 | .eq _ _,d=>rfl
 | .bin k f g,d=>by simp only [Fm.put,Fm.er,yN c s f,yN c s g]
 | .q k u f,d=>by simp only [Fm.put,Fm.er,yN c s f]
theorem JS:∀ f g:Fm,VB f=some g->g.er=f.er
 | .eq a b,g,e=>by
  unfold VB at e;split at e
  ·split at e
   ·cases e;rfl
   ·cases e
  ·cases e
 | .bin k a b,g,e=>by
  unfold VB at e;split at e
  ·rename_i x e1;split at e
   ·rename_i y e2;cases e;simp only [Fm.er,JS a x e1,JS b y e2]
   ·cases e
  ·cases e
 | .q k s a,g,e=>by
  unfold VB at e;split at e
  ·rename_i x e1;cases e;simp only [Fm.er,JS a x e1]
  ·cases e
theorem WJ {f g:Fm} (e:VC f=some g):g.er=f.er:=by
 unfold VC at e;split at e
 ·cases e;exact yN 0 (.v 0) f 0
 ·split at e
  ·rename_i y e1;split at e
   ·cases e;rw [<- JS f y e1];exact yN 0 (.v 0) y 0
   ·cases e
  ·cases e
theorem NC {f g:Fm} {t:Tm} (e:f.pt t = .ok g):g.er=f.er:=by
 unfold Fm.pt at e;split at e
 ·cases e;exact yN 0 t f 0
 ·cases e
theorem yX (k:Nat) (hs:List Fm):(lA k hs).map Fm.er=hs.map Fm.er:=by
 simp only [lA,List.map_map];exact List.map_congr_left λ f _=>QG _ f 0
theorem BB {f g:Fm} (e:f.er=g.er):f.has=g.has:=(OG f).symm.trans ((congrArg Fm.has e).trans (OG g))
def lT:Bool->Ty
 | false => .nat
 | true => .list
def lG:Bool->List Ty
 | false=>[.nat]
 | true=>[.nat,.list]
def l0:Bool->Tm
 | false => .n0 .zero
 | true => .n0 .nil
def l1:Bool->Tm
 | false => .n1 .succ (.v 0)
 | true => .n2 .cons (.v 1) (.v 0)
def Jt.D (ls:List Fm):List Ty->List Fm->Jt->Prop
 | _,hs,.leaf u i f=>f.chk=0/\match u with
  | false=>i<hs.length/\hs[hs.length-1-i]? = some f
  | true=>ls[i]? = some f
 | g,_,.refl t=>(Fm.eq t t).chk=0/\t.chk=0/\t.tyR g = .ok .nat
 | g,hs,.p1 k a f=>f.chk=0/\a.D ls g hs/\match k with
  | .andL => ∃ y,a.f = .bin .and f y
  | .andR => ∃ x,a.f = .bin .and x f
  | .choice => ∃ s u x,a.f = .q .all s (.q .ex u x)/\(Ty.two true s u).size<=64 /\ ∃ y,(x.sh 2 (.ofNat 1)).pt vapp = .ok y/\f = .q .ex (.two true s u) (.q .all s y)
 | g,hs,.p2 k a b f=>f.chk=0/\a.D ls g hs/\match k with
  | .andI=>b.D ls g hs/\f = .bin .and a.f b.f
  | .impE=>b.D ls g hs /\ ∃ x,a.f = .bin .imp x f/\x.mt b.f
  | .exE=>(∃ s,a.f = .q .ex s a.f.bd/\b.D ls (g++[s]) (lA 1 hs++[a.f.bd]))/\(g.length+1<=16/\hs.length+1<=16)/\VC b.f=some f
  | .exUE=>(∃ s,a.f = .q .exU s a.f.bd/\b.D ls (g++[s]) (lA 1 hs++[a.f.bd]))/\(g.length+1<=16/\hs.length+1<=16)/\VC b.f=some f /\ ¬b.us 0
 | g,hs,.impI x a=>(Fm.bin .imp x a.f).chk=0/\(x.chk=0/\x.ty g)/\hs.length+1<=16/\a.D ls g (hs++[x])
 | g,hs,.all u s a=>(Fm.q (aq u) s a.f).chk=0/\g.length+1<=16/\a.D ls (g++[s]) (lA 1 hs)/\(u=true->¬a.us 0)
 | g,hs,.ins u t a f=>f.chk=0/\t.chk=0/\a.D ls g hs /\ ∃ s x,t.tyR g = .ok s/\a.f = .q (aq u) s x/\x.pt t = .ok f
 | g,hs,.ex u x t a=>(x.chk=0/\x.ty g)/\t.chk=0/\a.D ls g hs /\ ∃ s y w,t.tyR g = .ok s/\x = .q (MI u) s y/\y.pt t = .ok w/\w.mt a.f
 | g,hs,.ind l x t a b f=>f.chk=0/\(x.chk=0/\x.ty (g++[lT l]))/\(t.chk=0/\t.tyR g = .ok (lT l))/\(a.D ls g hs /\ ∃ w,x.pt (l0 l) = .ok w/\w.mt a.f)/\(g.length+lN l<=16/\hs.length+1<=16)/\(b.D ls (g++lG l) (IP hs x l) /\ ∃ w,(x.sh 1 (.ofNat (lN l))).pt (l1 l) = .ok w/\w.mt b.f)/\x.pt t = .ok f
 | g,hs,.subst x a b f=>f.chk=0/\(x.chk=0/\x.ty (g++[.nat]))/\a.D ls g hs/\b.D ls g hs /\ ∃ t u w,a.f = .eq t u/\x.pt t = .ok w/\w.mt b.f/\x.pt u = .ok f
theorem uN {f:Fm} {s:Tm} (h:(f.put 0 s 0).cnt<=4096):f.pt s = .ok (f.put 0 s 0):=by
 have h1:(f.put 0 s 0).cnt+f.occ 0=f.cnt+f.occ 0 * s.cnt:=LL 0 s f 0;have h2:=pE s;have h3:f.occ 0 * s.cnt=f.occ 0 * (s.cnt-1)+f.occ 0:=by
  have:s.cnt=(s.cnt-1)+1:=by omega
  rw [this,Nat.mul_succ];simp
 unfold Fm.pt;rw [if_pos (by omega)]
theorem NI:∀ (t:Tm) (d:Nat),t.occ d=0->t.put 0 (.v 0) d=t.sh (d+1) (-1)
 | .v i,d,h=>by
  simp only [Tm.occ] at h;simp only [Tm.put,Tm.sh];by_cases e:i=d
  ·rw [if_pos e] at h;cases h
  ·rw [if_neg (by omega)];by_cases e':d<i
   ·rw [if_pos (by omega),if_pos (by omega)];congr 1;simp;omega
   ·rw [if_neg (by omega),if_neg (by omega)]
 | .lam s b,d,h=>by simp only [Tm.put,Tm.sh];rw [NI b (d+1) h]
 | .n0 _,_,_=>rfl
 | .n1 _ a,d,h=>by simp only [Tm.put,Tm.sh];rw [NI a d h]
 | .n2 _ a b,d,h=>by simp only [Tm.occ] at h;simp only [Tm.put,Tm.sh];rw [NI a d (by omega),NI b d (by omega)]
 | .n3 _ _ a b c,d,h=>by simp only [Tm.occ] at h;simp only [Tm.put,Tm.sh];rw [NI a d (by omega),NI b d (by omega),NI c d (by omega)]
theorem JP:∀ (f:Fm) (d:Nat),f.occ d=0->f.put 0 (.v 0) d=f.sh (d+1) (-1)
 | .eq a b,d,h=>by simp only [Fm.occ] at h;simp only [Fm.put,Fm.sh];rw [NI a d (by omega),NI b d (by omega)]
 | .bin _ f g,d,h=>by simp only [Fm.occ] at h;simp only [Fm.put,Fm.sh];rw [JP f d (by omega),JP g d (by omega)]
 | .q _ _ f,d,h=>by simp only [Fm.put,Fm.sh];rw [JP f (d+1) h]
abbrev WB (u:List Nat):Prop:=u.Pairwise (· < ·)
theorem uX {n x:Nat} : ∀ {l:List Nat},x∈LA n l->x+n∈l
 | [],h=>by cases h
 | y::r,h=>by
  simp only [LA] at h;split at h
  ·rcases List.mem_cons.1 h with rfl|h
   ·rw [Nat.sub_add_cancel (by assumption)];simp
   ·exact List.mem_cons_of_mem _ (uX h)
  ·exact List.mem_cons_of_mem _ (uX h)
theorem bX (n:Nat):∀ {l:List Nat},WB l->WB (LA n l)
 | [],_=>List.Pairwise.nil
 | y::r,h=>by
  obtain⟨h1,h2⟩:=List.pairwise_cons.1 h;simp only [LA];split
  ·refine List.pairwise_cons.2 ⟨λ z hz => ?_,bX n h2⟩;have:=h1 _ (uX hz);omega
  ·exact bX n h2
theorem Fd {l:List Nat} (h:WB l):∃ r,A 268 [bA l] (.bool r)/\(r=false->0 ∉ l):=by
 cases l with
 | nil=>exact⟨false,f0 [],λ _ h=>by cases h⟩
 | cons x r =>
  have e:kA (.ofNat 0) (.ofNat ((x::r).map ic).length)=true:=aA (by simp);have g:=KA (c:=ic) (g:=x::r) (k:=0) rfl VJ;by_cases c:x=0
  ·subst c;exact⟨true,f3 [(5,.G),(8,.i (ic 0)),(10,.G)] e g (xI 0),λ h=>nomatch h⟩
  ·refine⟨false,f3 [(5,.G),(8,.i (ic x)),(10,.H)] e g (YF c),λ _ h0 => ?_⟩;rcases List.mem_cons.1 h0 with h0|h0
   ·exact c h0.symm
   ·have:=(List.pairwise_cons.1 h).1 0 h0;omega
inductive PR where
 | er (n:Nat)
 | ok (f:Fm) (u:List Nat)
def PR.k:PR->Nat
 | .er _=>0
 | .ok f _=>f.kd
def PR.tk:PR->Nat
 | .er _=>0
 | .ok f _=>f.tk
def PR.te:PR->List (List PV)
 | .er _=>[]
 | .ok f _=>f.te
def PR.ts:PR->List (List PV)
 | .er _=>[]
 | .ok f _=>f.ts
def PR.es:PR->List (List PV)
 | .er _=>[]
 | .ok f _=>f.es
def PR.u:PR->List Nat
 | .er _=>[]
 | .ok _ u=>u
def PR.e:PR->Nat
 | .er n=>n+1
 | .ok _ _=>0
def PR.p (r:PR):PV:=.tuple [.agg [num r.k,num r.tk,.slice r.te,.slice r.ts,.slice r.es,bA r.u],num r.e]
def FO (M:Nat) (f:Fm):Prop:=f.cnt<=4096/\f.mx<=M/\f.tsz<=qA
abbrev mA:Nat:=8388608
structure Pre (ls:List Fm) (g:List Ty) (hs:List Fm) (M:Nat) (p:Pf):Prop where
 l1:∀ f∈ls,FO M f
 h1:∀ f∈hs,FO M f
 g1:∀ s∈g,s.size<=qA
 gl:g.length<=1024
 hl:hs.length<=1000
 ll:ls.length<=1024
 cnt:p.cnt<=65536
 tsz:p.tsz<=qA
 mx:p.mx<=M
 mb:M+mA * p.cnt<=fB
def PR.Good (ls:List Fm) (g:List Ty) (hs:List Fm) (M:Nat) (p:Pf):PR->Prop
 | .er _=>True
 | .ok f u=>FO (M+mA * p.cnt) f/\(∃ j:Jt,j.p=p/\j.f=f/\j.D ls g hs /\ ∀ v,j.us v->v∈u)/\WB u/\(∀ x∈u,x<=M+mA * p.cnt)/\u.length<=p.cnt
def dD (p:Pf):Prop:=∀ ls g hs M,Pre ls g hs M p->∃ r:PR,A 79 [IA ls g hs,p.p] r.p/\r.Good ls g hs M p
structure MF:Prop where
 uses:∀ t:Tm,t.cnt<=qA->t.tsz<=qA->t.mx<=qA * qA->∃ (u:List Nat) (e:Nat),A 301 [t.p] (.tuple [bA u,num e])/\(t.chk=0->e=0 /\ ∀ v,t.occ v≠0->v∈u)/\(∀ x∈u,x<=t.mx)/\u.length<=t.cnt/\WB u
 union:∀ a b:List Nat,a.length+b.length<=qA->(∀ x∈a,x<=dA)->(∀ x∈b,x<=dA)->∃ u:List Nat,A 197 [bA a,bA b] (bA u)/\(∀ v,v∈a\/v∈b->v∈u)/\(∀ v∈u,v∈a\/v∈b)/\u.length<=a.length+b.length/\WB u
theorem KS (H:MF) (t:Tm) (h1:t.cnt<=qA) (h2:t.tsz<=qA) (h3:t.mx<=qA * qA):∃ u:List Nat,A 270 [t.p] (bA u)/\(t.chk=0->∀ v,t.occ v≠0->v∈u)/\(∀ x∈u,x<=t.mx)/\u.length<=t.cnt/\WB u:=by
 obtain⟨u,e,g1,g2,g3,g4⟩:=H.uses t h1 h2 h3;exact⟨u,f1 [(7,.U [bA u,num e])] g1,λ h=>(g2 h).2,g3,g4⟩
theorem bN (f:Fm) (s:Tm) (h1:f.cnt<=qA) (h2:f.mx<=qA * qA) (h3:f.tsz<=qA) (h4:s.cnt<=qA) (h5:s.mx<=qA * qA) (h6:s.tsz<=qA:=by omega):∃ r:FR,A 271 [f.p,s.p] r.p/\((∃ n,r = .er n)\/r = .ok (f.put 0 s 0)/\(f.put 0 s 0).cnt<=4096):=by
 obtain⟨r,g1,g2⟩:=Gn f s h1 h2 h3 h4 h5 h6;exact⟨r,f1 [(8,.r r.p)] g1,g2⟩
def FR.Nrm (f:Fm):FR->Prop
 | .er _=>True
 | .ok f'=>VB f=some f'/\f'.mx<=f.mx+1001 * 4096/\f'.tsz<=f.tsz/\f'.cnt<=4096 * f.cnt
theorem LS:∀ f:Fm,f.cnt<=dA->f.mx<=fB->f.tsz<=qA->∃ r:FR,A 274 [f.p] r.p/\r.Nrm f
 | .eq a b,h1,h2,h3=>by
  have hm:=jA;have ca:=pE a;have cb:=pE b;simp only [Fm.cnt,Fm.mx,Fm.tsz] at h1 h2 h3;obtain⟨r,g1,q1,n1⟩:=aS a (by omega) (by simp only [fB,hm] at *;omega);obtain⟨s,g2,q2,n2⟩:=aS b (by omega) (by simp only [fB,hm] at *;omega)
  cases r with
  | er e=>exact⟨.er e,f1 [(28,.r (NF.er e).p)] g1,trivial⟩
  | ok x n=>cases s with
   | er e=>exact⟨.er e,f2 [(28,.r (NF.ok x n).p),(28,.r (NF.er e).p)] g1 g2,trivial⟩
   | ok y m =>
    obtain⟨c1,c2,c3⟩:=q1;obtain⟨d1,d2,d3⟩:=q2;exact⟨.ok (.eq x y),f2 [(28,.r (NF.ok x n).p),(28,.r (NF.ok y m).p)] g1 g2,by simp only [VB,n1 _ _ rfl,n2 _ _ rfl],by simp only [Fm.mx];omega,by simp only [Fm.tsz];omega,by simp only [Fm.cnt];omega⟩
 | .bin k f g,h1,h2,h3=>by
  simp only [Fm.cnt,Fm.mx,Fm.tsz] at h1 h2 h3;obtain⟨r,g1,q1⟩:=LS f (by omega) (by omega) (by omega);obtain⟨s,g2,q2⟩:=LS g (by omega) (by omega) (by omega)
  cases r with
  | er e=>exact⟨.er e,f1 [(52,.r (FR.er e).p)] g1,trivial⟩
  | ok x=>cases s with
   | er e=>exact⟨.er e,f2 [(52,.r (FR.ok x).p),(52,.r (FR.er e).p)] g1 g2,trivial⟩
   | ok y =>
    obtain⟨c0,c1,c2,c3⟩:=q1;obtain⟨d0,d1,d2,d3⟩:=q2;exact⟨.ok (.bin k x y),f2 [(52,.r (FR.ok x).p),(52,.r (FR.ok y).p)] g1 g2,by simp only [VB,c0,d0],by simp only [Fm.mx];omega,by simp only [Fm.tsz];omega,by simp only [Fm.cnt];omega⟩
 | .q k s f,h1,h2,h3=>by
  simp only [Fm.cnt,Fm.mx,Fm.tsz] at h1 h2 h3;obtain⟨r,g1,q1⟩:=LS f (by omega) (by omega) (by omega)
  cases r with
  | er e=>exact⟨.er e,f1 [(52,.r (FR.er e).p)] g1,trivial⟩
  | ok x =>
   obtain⟨c0,c1,c2,c3⟩:=q1;exact⟨.ok (.q k s x),f1 [(52,.r (FR.ok x).p)] g1,by simp only [VB,c0],by simp only [Fm.mx];omega,by simp only [Fm.tsz];omega,by simp only [Fm.cnt];omega⟩
theorem dX (ls:List Fm) (g:List Ty) (hs:List Fm) (t:Tm) (n:Nat) (hg:∀ s∈g,s.size<=qA) (h1:t.tsz<=qA:=by omega) (h2:g.length+t.cnt<=qA:=by omega):∃ e,A 207 [IA ls g hs,t.p,num n] (num e)/\(e=0->t.chk=0 /\ ∃ s,t.tyR g = .ok s/\s.kd=n):=by
 obtain⟨r,g1,g2,g3⟩:=SW g t hg h1 h2
 cases r with
 | er e=>exact⟨e+1,f1 [(13,.r (TR.er e).p)] g1,nofun⟩
 | ok s =>
  by_cases c:s.kd=n
  ·exact⟨0,f2 [(13,.r (TR.ok s).p),(22,.H)] g1 (TB c),λ _=>⟨(g3 s rfl).1,s,(g3 s rfl).2,c⟩⟩
  ·exact⟨7,f2 [(13,.r (TR.ok s).p),(22,.G)] g1 (BC c),nofun⟩
structure RR where
 k:Nat
 tk:Nat
 te:List (List PV)
 ts:List (List PV)
 es:List (List PV)
 u:List Nat
 e:Nat
def RR.row (c:RR):List PV:=[num c.k,num c.tk,.slice c.te,.slice c.ts,.slice c.es]
def RR.p (c:RR):PV:=.tuple [.agg c.row,bA c.u,num c.e]
def RR.of (f:Fm) (u:List Nat) (e:Nat):RR:=⟨f.kd,f.tk,f.te,f.ts,f.es,u,e⟩
abbrev RR.er (n:Nat):RR:=⟨0,0,[],[],[],[],n+1⟩
structure RG (ls:List Fm) (g:List Ty) (hs:List Fm) (M:Nat) (p:Pf) (f:Fm) (u:List Nat):Prop where
 cnt:f.cnt<=qA
 mx:f.mx<=M+mA * p.cnt
 tsz:f.tsz<=qA
 j:∃ j:Jt,j.p=p/\j.f=f/\(f.chk=0->j.D ls g hs) /\ ∀ v,j.us v->v∈u
 asc:WB u
 le:∀ x∈u,x<=M+mA * p.cnt
 len:u.length<=p.cnt
def RR.Good (ls:List Fm) (g:List Ty) (hs:List Fm) (M:Nat) (p:Pf) (c:RR):Prop:=c.e=0->∃ f:Fm,c = .of f c.u 0/\RG ls g hs M p f c.u
def FE (F:Nat) (p:Pf):Prop:=∀ ls g hs M,Pre ls g hs M p->∃ c:RR,A F [IA ls g hs,p.p] c.p/\c.Good ls g hs M p
theorem RR.good_er {ls:List Fm} {g:List Ty} {hs:List Fm} {M:Nat} {p:Pf} {c:RR} (h:c.e≠0):c.Good ls g hs M p:=λ e=>absurd e h
theorem Qn {j:Jt} {v:Nat} (h:j.us v):j.f.has=true:=by
 cases j<;>simp only [Jt.us] at h<;>first|exact h.1|exact h.elim
theorem EH {p:Pf} (H:FE 128 p):dD p:=by
 intro ls g hs M hp;have hm:=jA;have hb:=uA;obtain⟨c,g1,g2⟩:=H ls g hs M hp;obtain⟨k,tk,te,ts,es,u,e⟩:=c
 cases e with
 | succ n=>exact⟨.er n,f1 [(14,.r (RR.p ⟨k,tk,te,ts,es,u,n+1⟩))] g1,trivial⟩
 | zero =>
  obtain⟨f,hf,R⟩:=g2 rfl;cases hf;have g3:=TJ f R.tsz (by have:=R.cnt;omega)
  cases e1:f.chk with
  | succ n=>rw [e1] at g3;exact⟨.er 3,f2 [(14,.r (RR.of f u 0).p),(23,.N (n+1))] g1 g3,trivial⟩
  | zero =>
   rw [e1] at g3;obtain⟨b,e',g4,g5⟩:=od f R.tsz (by have:=R.cnt;omega);obtain⟨rfl,rfl⟩:=g5 e1;have hF:FO (M+mA * p.cnt) f:=⟨(Fm.chk0 e1).1,R.mx,R.tsz⟩;cases e2:f.has
   ·rw [e2] at g4;obtain⟨j,j1,j2,j3,j4⟩:=R.j;exact⟨.ok f [],f3 [(14,.r (RR.of f u 0).p),(23,.N 0),(28,.U [.bool false,num 0])] g1 g3 g4,hF,⟨j,j1,j2,j3 e1,λ v hv=>by have:=Qn hv;rw [j2,e2] at this;cases this⟩,List.Pairwise.nil,(λ x hx=>by cases hx),Nat.zero_le _⟩
   ·rw [e2] at g4;obtain⟨j,j1,j2,j3,j4⟩:=R.j;exact⟨.ok f u,f3 [(14,.r (RR.of f u 0).p),(23,.N 0),(28,.U [.bool true,num 0])] g1 g3 g4,hF,⟨j,j1,j2,j3 e1,j4⟩,R.asc,R.le,R.len⟩
theorem dN {p:Pf} (H:dD p) (ls:List Fm) (g:List Ty) (hs:List Fm) (M:Nat) (hp:Pre ls g hs M p) (f:Fm) (t:Tm) (h1:f.cnt<=qA) (h2:f.mx<=qA * qA) (h3:f.tsz<=qA) (h4:t.cnt<=qA) (h5:t.mx<=qA * qA) (h6:t.tsz<=qA:=by omega) (h7:max f.mx (t.mx+f.cnt)<=fB:=by omega) :
  ∃ (u:List Nat) (e:Nat),A 272 [IA ls g hs,p.p,f.p,t.p] (.tuple [bA u,num e])/\(e=0->∃ f',PR.Good ls g hs M p (.ok f' u) /\ ∃ w,f.pt t = .ok w/\w.mt f')/\(∀ x∈u,x<=M+mA * p.cnt)/\u.length<=p.cnt:=by
 have hm:=jA;have hb:=uA;obtain⟨r,g1,g2⟩:=H ls g hs M hp
 cases r with
 | er n=>exact⟨[],n+1,f1 [(16,.r (PR.er n).p)] g1,(nofun),(λ x hx=>by cases hx),Nat.zero_le _⟩
 | ok f' u =>
  obtain⟨r,g3,g4⟩:=bN f t h1 h2 h3 h4 h5 h6;rcases g4 with ⟨n,rfl⟩|⟨rfl,g5⟩
  ·exact⟨[],n+1,f2 [(16,.r (PR.ok f' u).p),(25,.r (FR.er n).p)] g1 g3,(nofun),(λ x hx=>by cases hx),Nat.zero_le _⟩
  ·have hF:=g2.1;have hmx:=II 0 t f 0;have hts:=HI 0 t f 0;obtain⟨e,g6,g7⟩:=td (f.put 0 t 0) f' (by omega) (by omega) (by omega) (by have:=hF.1;omega) (by have:=hF.2.1;have:=hp.mb;omega) hF.2.2;exact⟨u,e,f3 [(16,.r (PR.ok f' u).p),(25,.r (FR.ok (f.put 0 t 0)).p),(36,.N e)] g1 g3 g6,(λ h=>⟨f',g2,_,uN g5,g7 h⟩),g2.2.2.2.1,g2.2.2.2.2⟩
open Go.Lg
theorem Pre.to {ls:List Fm} {g g':List Ty} {hs hs':List Fm} {M M':Nat} {p a:Pf} (h:Pre ls g hs M p) (hM:M<=M') (h1:∀ f∈hs',FO M' f) (g1:∀ s∈g',s.size<=qA) (gl:g'.length<=1024) (hl:hs'.length<=1000) (hc:a.cnt<=p.cnt) (ht:a.tsz<=p.tsz) (hx:a.mx<=p.mx) (hb:M'+mA * a.cnt<=fB):Pre ls g' hs' M' a :=
 ⟨λ f hf=>⟨(h.l1 f hf).1,Nat.le_trans (h.l1 f hf).2.1 hM,(h.l1 f hf).2.2⟩,h1,g1,gl,hl,h.ll,Nat.le_trans hc h.cnt,Nat.le_trans ht h.tsz,Nat.le_trans hx (Nat.le_trans h.mx hM),hb⟩
theorem Pre.sub {ls:List Fm} {g:List Ty} {hs:List Fm} {M:Nat} {p a:Pf} (h:Pre ls g hs M p) (hc:a.cnt<=p.cnt) (ht:a.tsz<=p.tsz) (hx:a.mx<=p.mx):Pre ls g hs M a :=
 h.to (Nat.le_refl _) h.h1 h.g1 h.gl h.hl hc ht hx (Nat.le_trans (Nat.add_le_add_left (Nat.mul_le_mul_left _ hc) M) h.mb)
theorem FO.up {M M':Nat} {f:Fm} (h:FO M f) (hM:M<=M'):FO M' f:=⟨h.1,Nat.le_trans h.2.1 hM,h.2.2⟩
theorem FO.sh {M:Nat} {f:Fm} (h:FO M f) (n:Nat):FO (M+n) (f.sh 0 (.ofNat n)):=by
 have h1:(f.sh 0 (.ofNat n)).mx<=f.mx+n:=DE (.ofNat n) f 0;refine⟨by rw [GD];exact h.1,?_,by rw [VD];exact h.2.2⟩;have:=h.2.1;omega
theorem FO.hyp {M:Nat} {f:Fm} (h:FO M f) (hM:M<=fB):f.mx<=qA * qA/\f.cnt<=qA:=by
 have hm:=jA;have:=h.1;have:=h.2.1;simp only [fB] at hM;omega
theorem MS {hs:List Fm} {M:Nat} (h:∀ f∈hs,FO M f) (n:Nat):∀ f∈hs.map (Fm.sh 0 (.ofNat n)),FO (M+n) f:=by
 intro f hf;obtain⟨f',h1,rfl⟩:=List.mem_map.1 hf;exact (h f' h1).sh n
theorem Rn (u:Bool) (s:Ty) {a:Pf} (H:dD a):FE 201 (.all u s a):=by
 intro ls g hs M hp;have hm:=jA;have hk:mA=8388608:=rfl;have hgl:=hp.gl;have hhl:=hp.hl;have hmb:=hp.mb;have htz:max a.tsz s.size<=qA:=hp.tsz;have hcn:1+a.cnt<=65536:=hp.cnt;have hK:mA * (1+a.cnt)=mA+mA * a.cnt:=by rw [Nat.mul_add,Nat.mul_one]
 have hmb':M+mA * (1+a.cnt)<=fB:=hmb;rw [hK] at hmb';obtain⟨e,g1,g2⟩:=FP ls g hs 1 0
 cases e with
 | succ n=>cases u<;>exact⟨.er n,f1 [(11,.N (n+1))] g1,RR.good_er (Nat.succ_ne_zero n)⟩
 | zero =>
  have g3:=zX ls g s hs (by omega) (by omega) (λ f hf=>(hp.h1 f hf).hyp (by omega));have hpa:Pre ls (g++[s]) (hs.map (Fm.sh 0 1)) (M+1) a:=hp.to (by omega) (MS hp.h1 1) (by intro x hx;rcases List.mem_append.1 hx with h|h;exact hp.g1 x h;simp at h;subst h;omega) (by simp;omega) (by simpa using hp.hl) (by show a.cnt<=1+a.cnt;omega) (by show a.tsz<=max a.tsz s.size;omega) (Nat.le_refl _) (by omega);obtain⟨r,g4,g5⟩:=H _ _ _ _ hpa
  cases r with
  | er n=>cases u<;>exact⟨.er n,f3 [(11,.N 0),(21,.r (IA ls (g++[s]) (hs.map (Fm.sh 0 1)))),(26,.r (PR.er n).p)] g1 g3 g4,RR.good_er (Nat.succ_ne_zero n)⟩
  | ok f w =>
   obtain⟨q1,q2,q3,q4,q5⟩:=g5;obtain⟨ja,j1,rfl,j3,j4⟩:=q2;have hw:∀ x∈w,x<=dA:=λ x hx=>by have:=q4 x hx;have:=uA;simp only [fB,hm] at hmb';omega
   have g6:=HS 1 w (by omega) hw;have hg:∀ k:FQ,aq u=k->(u=true->¬ja.us 0)->RG ls g hs M (.all u s a) (.q k s ja.f) (LA 1 w):=by
    intro k hk hu;refine⟨?_,?_,?_,?_,?_,?_,?_⟩
    ·have:=q1.1;simp only [Fm.cnt];omega
    ·have:=q1.2.1;show ja.f.mx<=M+mA * (1+a.cnt);rw [hK];omega
    ·have:=q1.2.2;simp only [Fm.tsz];omega
    ·subst hk;exact⟨.all u s ja,by rw [<- j1];rfl,rfl,λ hc=>⟨hc,(g2 rfl).1,j3,hu⟩,λ v hv=>kN (j4 _ hv.2)⟩
    ·exact bX 1 q3
    ·intro x hx;have h1:∀ {l:List Nat},x∈LA 1 l->∃ y∈l,x+1=y:=by
      intro l
      induction l with
      | nil=>intro h;cases h
      | cons y r ih =>
       intro h;simp only [LA] at h;split at h
       ·rcases List.mem_cons.1 h with rfl|h
        ·exact⟨y,by simp,by omega⟩
        ·obtain⟨z,h1,h2⟩:=ih h;exact⟨z,by simp [h1],h2⟩
       ·obtain⟨z,h1,h2⟩:=ih h;exact⟨z,by simp [h1],h2⟩
     obtain⟨y,hy,hxy⟩:=h1 hx;have:=q4 y hy;show x<=M+mA * (1+a.cnt);rw [hK];omega
    ·have:=HP 1 w;show (LA 1 w).length<=1+a.cnt;omega
   cases u
   ·exact⟨.of (.q .all s ja.f) (LA 1 w) 0,f5 [(11,.N 0),(21,.r (IA ls (g++[s]) (hs.map (Fm.sh 0 1)))),(26,.r (PR.ok ja.f w).p),(40,.r (Fm.q .all s ja.f).p),(43,.r (bA (LA 1 w)))] g1 g3 g4 (sD .all s ja.f) g6,λ _=>⟨_,rfl,hg _ rfl λ h=>nomatch h⟩⟩
   ·obtain⟨b,g7,h0⟩:=Fd q3;cases b
    ·exact⟨.of (.q .allU s ja.f) (LA 1 w) 0,f6 [(11,.N 0),(21,.r (IA ls (g++[s]) (hs.map (Fm.sh 0 1)))),(26,.r (PR.ok ja.f w).p),(46,.F),(52,.r (Fm.q .allU s ja.f).p),(55,.r (bA (LA 1 w)))] g1 g3 g4 g7 (sD .allU s ja.f) g6,λ _=>⟨_,rfl,hg _ rfl λ _ h=>h0 rfl (j4 0 h)⟩⟩
    ·exact⟨.er 11,f4 [(11,.N 0),(21,.r (IA ls (g++[s]) (hs.map (Fm.sh 0 1)))),(26,.r (PR.ok ja.f w).p),(46,.T)] g1 g3 g4 g7,RR.good_er (Nat.succ_ne_zero 11)⟩
theorem Sn (H:MF) (u:Bool) (t:Tm) {a:Pf} (Ha:dD a):FE 202 (.ins u t a):=by
 intro ls g hs M hp;have hm:=jA;have hb:=uA;have hk:mA=8388608:=rfl;have hcx:fB=qA * qA-1001 * 4096:=rfl;have hgl:=hp.gl;have hmb:M+mA * (1+t.cnt+a.cnt)<=fB:=hp.mb;have htz:max t.tsz a.tsz<=qA:=hp.tsz;have hmx:max t.mx a.mx<=M:=hp.mx;have hcn:1+t.cnt+a.cnt<=65536:=hp.cnt;have hK:mA * (1+t.cnt+a.cnt)=mA+mA * t.cnt+mA * a.cnt:=by rw [Nat.mul_add,Nat.mul_add,Nat.mul_one]
 rw [hK] at hmb;rw [hm] at hcx;have hM2:t.mx<=qA * qA:=by rw [hm];omega
 obtain⟨r,g1,_,q0⟩:=SW g t hp.g1
 cases r with
 | er n=>cases u<;>exact⟨.er n,f1 [(22,.r (TR.er n).p)] g1,RR.good_er (Nat.succ_ne_zero n)⟩
 | ok s =>
  obtain⟨hchk,hty⟩:=q0 s rfl;have hpa:Pre ls g hs M a:=hp.sub (by show a.cnt<=1+t.cnt+a.cnt;omega) (by show a.tsz<=max t.tsz a.tsz;omega) (by show a.mx<=max t.mx a.mx;omega);obtain⟨r,g2,q1⟩:=Ha _ _ _ _ hpa
  cases r with
  | er n=>cases u<;>exact⟨.er n,f2 [(22,.r (TR.ok s).p),(35,.r (PR.er n).p)] g1 g2,RR.good_er (Nat.succ_ne_zero n)⟩
  | ok f w =>
   obtain⟨q1,⟨ja,j1,j2,j3,j4⟩,q3,q4,q5⟩:=q1;obtain⟨w',g3,p1,p2,p3,pA⟩:=KS H t (by omega) (by omega) hM2;obtain⟨w2,g4,p4,p5,p6,pB⟩:=H.union w w' (by omega) (λ x hx=>by have:=q4 x hx;omega) (λ x hx=>by have:=p2 x hx;omega);have bad:∀ n:Nat,f.kd≠bn u 4 6->∃ c:RR,A 202 [IA ls g hs,(Pf.ins u t a).p] c.p/\c.Good ls g hs M (.ins u t a):=by
    intro _ hne;cases u<;>exact⟨.er 9,f5 [(22,.r (TR.ok s).p),(35,.r (PR.ok f w).p),(45,.r (bA w')),(46,.r (bA w2)),(56,.G)] g1 g2 g3 g4 (BC hne),RR.good_er (Nat.succ_ne_zero 9)⟩
   have good:∀ (k:FQ) (y:Ty) (x:Fm),f = .q k y x->k.n=bn u 4 6->∃ c:RR,A 202 [IA ls g hs,(Pf.ins u t a).p] c.p/\c.Good ls g hs M (.ins u t a):=by
    intro k y x hf hkn;subst hf;have hxc:1+x.cnt<=4096:=q1.1;have hxm:x.mx<=M+mA * a.cnt:=q1.2.1;have hxt:max y.size x.tsz<=qA:=q1.2.2;have g5:=FD y s;cases e1:y.same s<;>rw [e1] at g5
    ·cases u<;>exact⟨.er 6,f6 [(22,.r (TR.ok s).p),(35,.r (PR.ok (.q k y x) w).p),(45,.r (bA w')),(46,.r (bA w2)),(56,.H),(62,.F)] g1 g2 g3 g4 (TB hkn) g5,RR.good_er (Nat.succ_ne_zero 6)⟩
    obtain⟨r,g6,p7⟩:=bN x t (by omega) (by rw [hm];omega) (by omega) (by omega) hM2;rcases p7 with ⟨n,rfl⟩|⟨rfl,p8⟩
    ·cases u
     ·exact⟨⟨0,0,[],[],[],w2,n+1⟩,f7 [(22,.r (TR.ok s).p),(35,.r (PR.ok (.q k y x) w).p),(45,.r (bA w')),(46,.r (bA w2)),(56,.H),(62,.T),(72,.r (FR.er n).p)] g1 g2 g3 g4 (TB hkn) g5 g6,RR.good_er (Nat.succ_ne_zero n)⟩
     ·exact⟨⟨0,0,[],[],[],w,n+1⟩,f7 [(22,.r (TR.ok s).p),(35,.r (PR.ok (.q k y x) w).p),(45,.r (bA w')),(46,.r (bA w2)),(56,.H),(62,.T),(72,.r (FR.er n).p)] g1 g2 g3 g4 (TB hkn) g5 g6,RR.good_er (Nat.succ_ne_zero n)⟩
    ·have hk:k=aq u:=FQ.inj (hkn.trans (by cases u<;>rfl));have hD:(x.put 0 t 0).chk=0->(Jt.ins u t ja (x.put 0 t 0)).D ls g hs:=λ hc=>⟨hc,hchk,j3,s,x,hty,by rw [j2,hk,(uD y s).1 e1],uN p8⟩
     have h1:=II 0 t x 0;have h2:=HI 0 t x 0;have h3:(x.put 0 t 0).mx<=M+mA * (1+t.cnt+a.cnt):=by rw [hK];omega
     cases u
     ·refine⟨.of (x.put 0 t 0) w2 0,f7 [(22,.r (TR.ok s).p),(35,.r (PR.ok (.q k y x) w).p),(45,.r (bA w')),(46,.r (bA w2)),(56,.H),(62,.T),(72,.r (FR.ok (x.put 0 t 0)).p)] g1 g2 g3 g4 (TB hkn) g5 g6,λ _=>⟨_,rfl,⟨by show (x.put 0 t 0).cnt<=qA;omega,h3,by show (x.put 0 t 0).tsz<=qA;omega,⟨.ins false t ja _,by rw [<- j1];rfl,rfl,hD,λ v hv => ?_⟩,pB,λ z hz => ?_,by show w2.length<=1+t.cnt+a.cnt;omega⟩⟩⟩
      ·rcases hv.2 with h|⟨_,h⟩
       ·exact p4 v (.inl (j4 v h))
       ·exact p4 v (.inr (p1 hchk v h))
      ·rcases p5 z hz with h|h
       ·have:=q4 z h;show z<=M+mA * (1+t.cnt+a.cnt);rw [hK];omega
       ·have:=p2 z h;omega
     ·refine⟨.of (x.put 0 t 0) w 0,f7 [(22,.r (TR.ok s).p),(35,.r (PR.ok (.q k y x) w).p),(45,.r (bA w')),(46,.r (bA w2)),(56,.H),(62,.T),(72,.r (FR.ok (x.put 0 t 0)).p)] g1 g2 g3 g4 (TB hkn) g5 g6,λ _=>⟨_,rfl,⟨by show (x.put 0 t 0).cnt<=qA;omega,h3,by show (x.put 0 t 0).tsz<=qA;omega,⟨.ins true t ja _,by rw [<- j1];rfl,rfl,hD,λ v hv => ?_⟩,q3,(λ z hz=>by have:=q4 z hz;show z<=M+mA * (1+t.cnt+a.cnt);rw [hK];omega),by show w.length<=1+t.cnt+a.cnt;omega⟩⟩⟩;rcases hv.2 with h|⟨h,_⟩
      ·exact j4 v h
      ·cases h
   cases f with
   | eq x y=>exact bad 0 (by cases u<;>exact nofun)
   | bin k x y=>exact bad 0 (by cases u<;>cases k<;>exact nofun)
   | q k y x =>
    by_cases h:k.n=bn u 4 6
    ·exact good k y x rfl h
    ·exact bad 0 h
open Go.Lg
theorem Tn (H:MF) (u:Bool) (f:Fm) (t:Tm) {a:Pf} (Ha:dD a):FE 203 (.ex u f t a):=by
 intro ls g hs M hp;have hm:=jA;have hb:=uA;have hk:mA=8388608:=rfl;have hcx:fB=qA * qA-1001 * 4096:=rfl;have hgl:=hp.gl;have hmb:M+mA * (1+t.cnt+f.cnt+a.cnt)<=fB:=hp.mb;have htz:max (max t.tsz f.tsz) a.tsz<=qA:=hp.tsz;have hmx:max (max t.mx f.mx) a.mx<=M:=hp.mx;have hcn:1+t.cnt+f.cnt+a.cnt<=65536:=hp.cnt;have hK:mA * (1+t.cnt+f.cnt+a.cnt)=mA+mA * t.cnt+mA * f.cnt+mA * a.cnt:=by rw [Nat.mul_add,Nat.mul_add,Nat.mul_add,Nat.mul_one]
 rw [hK] at hmb;rw [hm] at hcx;have hM2:t.mx<=qA * qA:=by rw [hm];omega
 obtain⟨e,g1,q0⟩:=ES g f hp.g1
 cases e with
 | succ n=>cases u<;>exact⟨.er n,f1 [(25,.N (n+1))] g1,RR.good_er (Nat.succ_ne_zero n)⟩
 | zero =>
  have hfc:=Fm.chk0 (q0 rfl).1;have bad:f.kd≠bn u 5 7->∃ c:RR,A 203 [IA ls g hs,(Pf.ex u f t a).p] c.p/\c.Good ls g hs M (.ex u f t a):=by
   intro hne;cases u<;>exact⟨.er 9,f2 [(25,.N 0),(36,.G)] g1 (BC hne),RR.good_er (Nat.succ_ne_zero 9)⟩
  have good:∀ (k:FQ) (y:Ty) (x:Fm),f = .q k y x->k.n=bn u 5 7->∃ c:RR,A 203 [IA ls g hs,(Pf.ex u f t a).p] c.p/\c.Good ls g hs M (.ex u f t a):=by
   intro k y x hf hkn;subst hf;have hxc:1+x.cnt<=4096:=hfc.1;have hxm:x.mx<=M:=by have:(Fm.q k y x).mx=x.mx:=rfl;omega
   have hxt:x.tsz<=qA:=by have:(Fm.q k y x).tsz=max y.size x.tsz:=rfl;omega
   obtain⟨r,g2,_,q1⟩:=SW g t hp.g1
   cases r with
   | er n=>cases u<;>exact⟨.er n,f3 [(25,.N 0),(36,.H),(42,.r (TR.er n).p)] g1 (TB hkn) g2,RR.good_er (Nat.succ_ne_zero n)⟩
   | ok s =>
    obtain⟨hchk,hty⟩:=q1 s rfl;have g3:=FD y s;cases e1:y.same s<;>rw [e1] at g3
    ·cases u<;>exact⟨.er 6,f4 [(25,.N 0),(36,.H),(42,.r (TR.ok s).p),(52,.F)] g1 (TB hkn) g2 g3,RR.good_er (Nat.succ_ne_zero 6)⟩
    have hpa:Pre ls g hs M a:=hp.sub (by show a.cnt<=1+t.cnt+(Fm.q k y x).cnt+a.cnt;omega) (by show a.tsz<=max (max t.tsz (Fm.q k y x).tsz) a.tsz;omega) (by show a.mx<=max (max t.mx (Fm.q k y x).mx) a.mx;omega);obtain⟨w,e,g4,q2,b1,b2⟩:=dN Ha ls g hs M hpa x t (by omega) (by rw [hm];omega) hxt (by omega) hM2;obtain⟨w',g5,p1,p2,p3,pA⟩:=KS H t (by omega) (by omega) hM2;cases u
    ·by_cases he:e=0
     ·subst he;obtain⟨f',⟨q3,⟨ja,j1,j2,j3,j4⟩,q5,q6,q7⟩,wf,hw,hmt⟩:=q2 rfl;obtain⟨w2,g6,p4,p5,p6,pB⟩:=H.union w w' (by omega) (λ z hz=>by have:=q6 z hz;omega) (λ z hz=>by have:=p2 z hz;omega);refine⟨.of (.q k y x) w2 0,f7 [(25,.N 0),(36,.H),(42,.r (TR.ok s).p),(52,.T),(66,.U [bA w,num 0]),(73,.r (bA w')),(74,.r (bA w2))] g1 (TB hkn) g2 g3 g4 g5 g6,λ _=>⟨_,rfl,⟨by show 1+x.cnt<=qA;omega,by show (Fm.q k y x).mx<=M+_;omega,by show (Fm.q k y x).tsz<=qA;omega,⟨.ex false (.q k y x) t ja,by rw [<- j1];rfl,rfl,λ _=>⟨q0 rfl,hchk,j3,s,x,wf,hty,by rw [FQ.inj (hkn.trans rfl:k.n=(MI false).n),(uD y s).1 e1],hw,by rw [j2];exact hmt⟩,λ v hv => ?_⟩,pB,λ z hz => ?_,by show w2.length<=1+t.cnt+(Fm.q k y x).cnt+a.cnt;omega⟩⟩⟩
      ·rcases hv.2 with h|⟨_,h⟩
       ·exact p4 v (.inl (j4 v h))
       ·exact p4 v (.inr (p1 hchk v h))
      ·rcases p5 z hz with h|h
       ·have:=q6 z h;show z<=M+mA * (1+t.cnt+(Fm.q k y x).cnt+a.cnt);rw [hK];omega
       ·have:=p2 z h;omega
     ·obtain⟨n,rfl⟩:=Nat.exists_eq_succ_of_ne_zero he;obtain⟨w2,g6,_⟩:=H.union w w' (by omega) (λ z hz=>by have:=b1 z hz;omega) (λ z hz=>by have:=p2 z hz;omega);exact⟨.of (.q k y x) w2 (n+1),f7 [(25,.N 0),(36,.H),(42,.r (TR.ok s).p),(52,.T),(66,.U [bA w,num (n+1)]),(73,.r (bA w')),(74,.r (bA w2))] g1 (TB hkn) g2 g3 g4 g5 g6,RR.good_er (Nat.succ_ne_zero n)⟩
    ·by_cases he:e=0
     ·subst he;obtain⟨f',⟨q3,⟨ja,j1,j2,j3,j4⟩,q5,q6,q7⟩,wf,hw,hmt⟩:=q2 rfl;refine⟨.of (.q k y x) w 0,f5 [(25,.N 0),(36,.H),(42,.r (TR.ok s).p),(52,.T),(66,.U [bA w,num 0])] g1 (TB hkn) g2 g3 g4,λ _=>⟨_,rfl,⟨by show 1+x.cnt<=qA;omega,by show (Fm.q k y x).mx<=M+_;omega,by show (Fm.q k y x).tsz<=qA;omega,⟨.ex true (.q k y x) t ja,by rw [<- j1];rfl,rfl,λ _=>⟨q0 rfl,hchk,j3,s,x,wf,hty,by rw [FQ.inj (hkn.trans rfl:k.n=(MI true).n),(uD y s).1 e1],hw,by rw [j2];exact hmt⟩,λ v hv => ?_⟩,q5,(λ z hz=>by have:=q6 z hz;show z<=M+mA * (1+t.cnt+(Fm.q k y x).cnt+a.cnt);rw [hK];omega),by show w.length<=1+t.cnt+(Fm.q k y x).cnt+a.cnt;omega⟩⟩⟩;rcases hv.2 with h|⟨h,_⟩
      ·exact j4 v h
      ·cases h
     ·obtain⟨n,rfl⟩:=Nat.exists_eq_succ_of_ne_zero he;exact⟨.of (.q k y x) w (n+1),f5 [(25,.N 0),(36,.H),(42,.r (TR.ok s).p),(52,.T),(66,.U [bA w,num (n+1)])] g1 (TB hkn) g2 g3 g4,RR.good_er (Nat.succ_ne_zero n)⟩
  cases f with
  | eq x y=>exact bad (by cases u<;>exact nofun)
  | bin k x y=>exact bad (by cases u<;>cases k<;>exact nofun)
  | q k y x =>
   by_cases h:k.n=bn u 5 7
   ·exact good k y x rfl h
   ·exact bad h
theorem fX (g:List Ty) (s:Ty):cA (g++[s]) = .slice (g.map Ty.c++[s.c]):=by simp [cA]
theorem NS {g:List Ty} {s:Ty} (hg:∀ s∈g,s.size<=qA) (hs:s.size<=qA:=by omega):∀ x∈g++[s],x.size<=qA:=by
 intro x hx;rcases List.mem_append.1 hx with h|h
 ·exact hg x h
 ·simp at h;subst h;exact hs
theorem Un (f:Fm) {a b:Pf} (Ha:dD a) (Hb:dD b):FE 208 (.subst f a b):=by
 intro ls g hs M hp;have hm:=jA;have hk:mA=8388608:=rfl;have hcx:fB=qA * qA-1001 * 4096:=rfl;have hgl:=hp.gl;have hmb:M+mA * (1+f.cnt+a.cnt+b.cnt)<=fB:=hp.mb;have htz:max (max f.tsz a.tsz) b.tsz<=qA:=hp.tsz;have hmx:max (max f.mx a.mx) b.mx<=M:=hp.mx;have hcn:1+f.cnt+a.cnt+b.cnt<=65536:=hp.cnt;have hK:mA * (1+f.cnt+a.cnt+b.cnt)=mA+mA * f.cnt+mA * a.cnt+mA * b.cnt:=by rw [Nat.mul_add,Nat.mul_add,Nat.mul_add,Nat.mul_one]
 rw [hK] at hmb;rw [hm] at hcx;have c1:=EP g;have c2:=mE 2 32 Ty.c_len (by decide) g .nat (by omega) (by simp only [maxLen];omega);obtain⟨e,g1,q0⟩:=DS (g++[.nat]) f (NS hp.g1 (by decide)) (by omega) (by simp;omega);rw [fX] at g1
 cases e with
 | succ n=>exact⟨.er n,f3 [(25,.ok),(28,.ok),(30,.N (n+1))] c1 c2 g1,RR.good_er (Nat.succ_ne_zero n)⟩
 | zero =>
  have hfc:=Fm.chk0 (q0 rfl).1;have hpa:Pre ls g hs M a:=hp.sub (by show a.cnt<=1+f.cnt+a.cnt+b.cnt;omega) (by show a.tsz<=max (max f.tsz a.tsz) b.tsz;omega) (by show a.mx<=max (max f.mx a.mx) b.mx;omega);have hpb:Pre ls g hs M b:=hp.sub (by show b.cnt<=1+f.cnt+a.cnt+b.cnt;omega) (by show b.tsz<=max (max f.tsz a.tsz) b.tsz;omega) (by show b.mx<=max (max f.mx a.mx) b.mx;omega);obtain⟨r,g2,q1⟩:=Ha _ _ _ _ hpa
  cases r with
  | er n=>exact⟨.er n,f4 [(25,.ok),(28,.ok),(30,.N 0),(41,.r (PR.er n).p)] c1 c2 g1 g2,RR.good_er (Nat.succ_ne_zero n)⟩
  | ok fa w =>
   obtain⟨q1,⟨ja,j1,j2,j3,_⟩,_,_,_⟩:=q1
   cases fa with
   | bin k x y=>exact⟨.er 9,f5 [(25,.ok),(28,.ok),(30,.N 0),(41,.r (PR.ok (.bin k x y) w).p),(51,.G)] c1 c2 g1 g2 (show (!lB (.ofNat (Fm.bin k x y).kd) (.ofNat 1))=true from BC (by cases k<;>exact nofun)),RR.good_er (Nat.succ_ne_zero 9)⟩
   | q k s x=>exact⟨.er 9,f5 [(25,.ok),(28,.ok),(30,.N 0),(41,.r (PR.ok (.q k s x) w).p),(51,.G)] c1 c2 g1 g2 (show (!lB (.ofNat (Fm.q k s x).kd) (.ofNat 1))=true from BC (by cases k<;>exact nofun)),RR.good_er (Nat.succ_ne_zero 9)⟩
   | eq x y =>
    have e1:1+x.cnt+y.cnt<=4096:=q1.1;have e2:max x.mx y.mx<=M+mA * a.cnt:=q1.2.1;have e3:max x.tsz y.tsz<=qA:=q1.2.2;have hfx:f.mx<=M:=by omega
    obtain⟨w2,e,g3,q2,b1,b2⟩:=dN Hb ls g hs M hpb f x (by omega) (by rw [hm];omega) (by omega) (by omega) (by rw [hm];omega);by_cases he:e=0
    ·subst he;obtain⟨f',⟨q3,⟨jb,k1,k2,k3,k4⟩,q5,q6,q7⟩,wf,hw,hmt⟩:=q2 rfl;obtain⟨r,g4,q8⟩:=bN f y (by omega) (by rw [hm];omega) (by omega) (by omega) (by rw [hm];omega);rcases q8 with ⟨n,rfl⟩|⟨rfl,q9⟩
     ·exact⟨⟨0,0,[],[],[],w2,n+1⟩,f6 [(25,.ok),(28,.ok),(30,.N 0),(41,.r (PR.ok (.eq x y) w).p),(65,.U [bA w2,num 0]),(79,.r (FR.er n).p)] c1 c2 g1 g2 g3 g4,RR.good_er (Nat.succ_ne_zero n)⟩
     ·have h1:=II 0 y f 0;have h2:=HI 0 y f 0;exact⟨.of (f.put 0 y 0) w2 0,f6 [(25,.ok),(28,.ok),(30,.N 0),(41,.r (PR.ok (.eq x y) w).p),(65,.U [bA w2,num 0]),(79,.r (FR.ok (f.put 0 y 0)).p)] c1 c2 g1 g2 g3 g4,λ _=>⟨_,rfl,⟨by show (f.put 0 y 0).cnt<=qA;omega,by show (f.put 0 y 0).mx<=M+mA * (1+f.cnt+a.cnt+b.cnt);rw [hK];omega,by show (f.put 0 y 0).tsz<=qA;omega,⟨.subst f ja jb _,by rw [<- j1,<- k1];rfl,rfl,λ hc=>⟨hc,q0 rfl,j3,k3,x,y,wf,j2,hw,by rw [k2];exact hmt,uN q9⟩,λ v hv=>k4 v hv.2⟩,q5,(λ z hz=>by have:=q6 z hz;show z<=M+mA * (1+f.cnt+a.cnt+b.cnt);rw [hK];omega),by show w2.length<=1+f.cnt+a.cnt+b.cnt;omega⟩⟩⟩
    ·obtain⟨n,rfl⟩:=Nat.exists_eq_succ_of_ne_zero he;exact⟨.er n,f5 [(25,.ok),(28,.ok),(30,.N 0),(41,.r (PR.ok (.eq x y) w).p),(65,.U [bA w2,num (n+1)])] c1 c2 g1 g2 g3,RR.good_er (Nat.succ_ne_zero n)⟩
theorem Hd (H:MF) (u:Bool) {a b:Pf} (Ha:dD a) (Hb:dD b):FE 204 (.p2 (ek u) a b):=by
 intro ls g hs M hp;have hm:=jA;have hb:=uA;have hk:mA=8388608:=rfl;have hcx:fB=qA * qA-1001 * 4096:=rfl;have hgl:=hp.gl;have hhl:=hp.hl;have hmb:M+mA * (1+a.cnt+b.cnt)<=fB:=hp.mb;have htz:max a.tsz b.tsz<=qA:=hp.tsz;have hmx:max a.mx b.mx<=M:=hp.mx;have hcn:1+a.cnt+b.cnt<=65536:=hp.cnt;have hK:mA * (1+a.cnt+b.cnt)=mA+mA * a.cnt+mA * b.cnt:=by rw [Nat.mul_add,Nat.mul_add,Nat.mul_one]
 rw [hK] at hmb;rw [hm] at hcx;have hpa:Pre ls g hs M a:=hp.sub (by show a.cnt<=1+a.cnt+b.cnt;omega) (by show a.tsz<=max a.tsz b.tsz;omega) (by show a.mx<=max a.mx b.mx;omega);obtain⟨r,g2,q1⟩:=Ha _ _ _ _ hpa
 cases r with
 | er n=>cases u<;>exact⟨.er n,f1 [(19,.r (PR.er n).p)] g2,RR.good_er (Nat.succ_ne_zero n)⟩
 | ok fa w =>
 obtain⟨q1,⟨ja,j1,j2,j3,j4⟩,p2,p3,p4⟩:=q1;have bad:fa.kd≠bn u 5 7->∃ c:RR,A 204 [IA ls g hs,(Pf.p2 (ek u) a b).p] c.p/\c.Good ls g hs M (.p2 (ek u) a b):=by
  intro hne;cases u<;>exact⟨.er 9,f2 [(19,.r (PR.ok fa w).p),(33,.G)] g2 (BC hne),RR.good_er (Nat.succ_ne_zero 9)⟩
 have good:∀ (k:FQ) (y:Ty) (x:Fm),fa = .q k y x->k.n=bn u 5 7->∃ c:RR,A 204 [IA ls g hs,(Pf.p2 (ek u) a b).p] c.p/\c.Good ls g hs M (.p2 (ek u) a b):=by
  intro k y x hf hkn;subst hf;have hxc:1+x.cnt<=4096:=q1.1;have hxm:x.mx<=M+mA * a.cnt:=q1.2.1;have hxt:max y.size x.tsz<=qA:=q1.2.2;obtain⟨e,g3,q2⟩:=FP ls g hs 1 1
  cases e with
  | succ n=>cases u<;>exact⟨.er n,f3 [(19,.r (PR.ok (.q k y x) w).p),(33,.H),(36,.N (n+1))] g2 (TB hkn) g3,RR.good_er (Nat.succ_ne_zero n)⟩
  | zero =>
  have g4:=zX ls g y hs (by omega) (by omega) (λ f hf=>(hp.h1 f hf).hyp (by omega));have g5:=GS ls (g++[y]) (hs.map (Fm.sh 0 1)) x (by simp;omega);have hroom:=q2 rfl;have hpb:Pre ls (g++[y]) (hs.map (Fm.sh 0 1)++[x]) (M+1+mA * a.cnt) b:=hp.to (by omega) (by
   intro f hf;rcases List.mem_append.1 hf with h|h
   ·exact (MS hp.h1 1 f h).up (by omega)
   ·simp at h;subst h;exact⟨by omega,by omega,by omega⟩) (NS hp.g1) (by simp;omega) (by simp;omega) (by show b.cnt<=1+a.cnt+b.cnt;omega) (by show b.tsz<=max a.tsz b.tsz;omega) (by show b.mx<=max a.mx b.mx;omega) (by omega)
  obtain⟨r,g6,q3⟩:=Hb _ _ _ _ hpb
  cases r with
  | er n=>cases u<;>exact⟨.er n,f6 [(19,.r (PR.ok (.q k y x) w).p),(33,.H),(36,.N 0),(47,.r (IA ls (g++[y]) (hs.map (Fm.sh 0 1)))),(53,.r (IA ls (g++[y]) (hs.map (Fm.sh 0 1)++[x]))),(58,.r (PR.er n).p)] g2 (TB hkn) g3 g4 g5 g6,RR.good_er (Nat.succ_ne_zero n)⟩
  | ok fb v =>
  obtain⟨q3,⟨jb,k1,k2,k3,k4⟩,r2,r3,r4⟩:=q3;have hkk:k=MI u:=FQ.inj (hkn.trans (by cases u<;>rfl));have e1:=q3.1;have e2:=q3.2.1;have e3:=q3.2.2;have hvb:∀ z∈v,z<=dA:=λ z hz=>by have:=r3 z hz;omega
  have hov:=HP 1 v;have hob:∀ z∈LA 1 v,z<=M+1+mA * a.cnt+mA * b.cnt:=GP (λ z hz=>r3 z hz);have g10:=HS 1 v (by omega) hvb;obtain⟨w2,g11,s1,s2,s3,sA⟩:=H.union w (LA 1 v) (by omega) (λ z hz=>by have:=p3 z hz;omega) (λ z hz=>by have:=hob z hz;omega);have hRG:∀ F:Fm,VC fb=some (F.sh 1 (-1))->(u=true->0 ∉ v)->F.mx<=fb.mx+1001 * 4096->F.tsz<=fb.tsz->F.cnt<=4096 * fb.cnt->RG ls g hs M (.p2 (ek u) a b) (F.sh 1 (-1)) w2:=by
   intro F h1 h0 h2 h3 h4;have h5:(F.sh 1 (-1)).mx<=F.mx+0:=DE (-1) F 1;refine⟨by rw [GD];omega,?_,by rw [VD];omega,⟨.p2 (ek u) ja jb (F.sh 1 (-1)),by rw [<- j1,<- k1];rfl,rfl,λ hc => ?_,λ z hz => ?_⟩,sA,λ z hz => ?_,by show w2.length<=1+a.cnt+b.cnt;omega⟩
   ·show _<=M+mA * (1+a.cnt+b.cnt);rw [hK];omega
   ·have hx:ja.f = .q k y ja.f.bd/\jb.D ls (g++[y]) (lA 1 hs++[ja.f.bd]):=by rw [j2];exact⟨rfl,k3⟩
    rw [hkk] at hx;rw [<- k2] at h1;cases u
    ·exact⟨hc,j3,⟨y,hx.1,hx.2⟩,hroom,h1⟩
    ·exact⟨hc,j3,⟨y,hx.1,hx.2⟩,hroom,h1,λ h=>h0 rfl (k4 0 h)⟩
   ·rcases hz.2 with h6|h6
    ·exact s1 z (.inl (j4 z h6))
    ·exact s1 z (.inr (kN (k4 _ (by cases u<;>exact h6))))
   ·show z<=M+mA * (1+a.cnt+b.cnt);rw [hK];rcases s2 z hz with h|h
    ·have:=p3 z h;omega
    ·have:=hob z h;omega
  obtain⟨t1,g7,o7⟩:=xP fb 0 (by omega);obtain⟨t3,g12,iI⟩:=Fd r2;cases t1
  ·have h00:fb.occ 0=0:=Classical.byContradiction λ h=>nomatch o7.2 h
   have hwt:VC fb=some (fb.sh 1 (-1)):=by unfold VC;rw [if_pos h00,<- JP fb 0 h00]
   have g9:=bD fb 1 (-1) (by omega) (by omega) (by rw [hm];omega) (by omega);cases u
   ·exact⟨.of (fb.sh 1 (-1)) w2 0,fk [(19,.r (PR.ok (.q k y x) w).p),(33,.H),(36,.N 0),(47,.r (IA ls (g++[y]) (hs.map (Fm.sh 0 1)))),(53,.r (IA ls (g++[y]) (hs.map (Fm.sh 0 1)++[x]))),(58,.r (PR.ok fb v).p),(68,.F),(90,.r (fb.sh 1 (-1)).p),(95,.r (bA (LA 1 v))),(96,.r (bA w2))]
     (And.intro g2 (And.intro (TB hkn) (And.intro g3 (And.intro g4 (And.intro g5 (And.intro g6 (And.intro g7 (And.intro g9 (And.intro g10 (And.intro g11 (Eq.refl (RR.of (fb.sh 1 (-1)) w2 0).p))))))))))),λ _=>⟨_,rfl,hRG fb hwt (λ h=>nomatch h) (by omega) (Nat.le_refl _) (by omega)⟩⟩
   ·cases t3
    ·exact⟨.of (fb.sh 1 (-1)) w2 0,f11 [(19,.r (PR.ok (.q k y x) w).p),(33,.H),(36,.N 0),(47,.r (IA ls (g++[y]) (hs.map (Fm.sh 0 1)))),(53,.r (IA ls (g++[y]) (hs.map (Fm.sh 0 1)++[x]))),(58,.r (PR.ok fb v).p),(68,.F),(86,.F),(90,.r (fb.sh 1 (-1)).p),(95,.r (bA (LA 1 v))),(96,.r (bA w2))] g2 (TB hkn) g3 g4 g5 g6 g7 g12 g9 g10 g11,λ _=>⟨_,rfl,hRG fb hwt (λ _=>iI rfl) (by omega) (Nat.le_refl _) (by omega)⟩⟩
    ·exact⟨.er 11,f8 [(19,.r (PR.ok (.q k y x) w).p),(33,.H),(36,.N 0),(47,.r (IA ls (g++[y]) (hs.map (Fm.sh 0 1)))),(53,.r (IA ls (g++[y]) (hs.map (Fm.sh 0 1)++[x]))),(58,.r (PR.ok fb v).p),(68,.F),(86,.T)] g2 (TB hkn) g3 g4 g5 g6 g7 g12,RR.good_er (Nat.succ_ne_zero 11)⟩
  ·obtain⟨r,g8,n1⟩:=LS fb (by omega) (by omega) (by omega)
   cases r with
   | er n=>cases u<;>exact⟨.er n,f8 [(19,.r (PR.ok (.q k y x) w).p),(33,.H),(36,.N 0),(47,.r (IA ls (g++[y]) (hs.map (Fm.sh 0 1)))),(53,.r (IA ls (g++[y]) (hs.map (Fm.sh 0 1)++[x]))),(58,.r (PR.ok fb v).p),(68,.T),(71,.r (FR.er n).p)] g2 (TB hkn) g3 g4 g5 g6 g7 g8,RR.good_er (Nat.succ_ne_zero n)⟩
   | ok F =>
    obtain⟨n1,n2,n3,n4⟩:=n1;obtain⟨t2,g13,o13⟩:=xP F 0 (by omega);have g9:=bD F 1 (-1) (by omega) (by omega) (by rw [hm];omega) (by omega);cases t2
    ·have h00:F.occ 0=0:=Classical.byContradiction λ h=>nomatch o13.2 h
     have hwt:VC fb=some (F.sh 1 (-1)):=by unfold VC;rw [if_neg (o7.1 rfl),n1];simp only;rw [if_pos h00,<- JP F 0 h00]
     cases u
     ·exact⟨.of (F.sh 1 (-1)) w2 0,f12 [(19,.r (PR.ok (.q k y x) w).p),(33,.H),(36,.N 0),(47,.r (IA ls (g++[y]) (hs.map (Fm.sh 0 1)))),(53,.r (IA ls (g++[y]) (hs.map (Fm.sh 0 1)++[x]))),(58,.r (PR.ok fb v).p),(68,.T),(71,.r (FR.ok F).p),(79,.F),(90,.r (F.sh 1 (-1)).p),(95,.r (bA (LA 1 v))),(96,.r (bA w2))] g2 (TB hkn) g3 g4 g5 g6 g7 g8 g13 g9 g10 g11,λ _=>⟨_,rfl,hRG F hwt (λ h=>nomatch h) n2 n3 n4⟩⟩
     ·cases t3
      ·exact⟨.of (F.sh 1 (-1)) w2 0,f13 [(19,.r (PR.ok (.q k y x) w).p),(33,.H),(36,.N 0),(47,.r (IA ls (g++[y]) (hs.map (Fm.sh 0 1)))),(53,.r (IA ls (g++[y]) (hs.map (Fm.sh 0 1)++[x]))),(58,.r (PR.ok fb v).p),(68,.T),(71,.r (FR.ok F).p),(79,.F),(86,.F),(90,.r (F.sh 1 (-1)).p),(95,.r (bA (LA 1 v))),(96,.r (bA w2))] g2 (TB hkn) g3 g4 g5 g6 g7 g8 g13 g12 g9 g10 g11,λ _=>⟨_,rfl,hRG F hwt (λ _=>iI rfl) n2 n3 n4⟩⟩
      ·exact⟨.er 11,f10 [(19,.r (PR.ok (.q k y x) w).p),(33,.H),(36,.N 0),(47,.r (IA ls (g++[y]) (hs.map (Fm.sh 0 1)))),(53,.r (IA ls (g++[y]) (hs.map (Fm.sh 0 1)++[x]))),(58,.r (PR.ok fb v).p),(68,.T),(71,.r (FR.ok F).p),(79,.F),(86,.T)] g2 (TB hkn) g3 g4 g5 g6 g7 g8 g13 g12,RR.good_er (Nat.succ_ne_zero 11)⟩
    ·cases u<;>exact⟨.er 5,f9 [(19,.r (PR.ok (.q k y x) w).p),(33,.H),(36,.N 0),(47,.r (IA ls (g++[y]) (hs.map (Fm.sh 0 1)))),(53,.r (IA ls (g++[y]) (hs.map (Fm.sh 0 1)++[x]))),(58,.r (PR.ok fb v).p),(68,.T),(71,.r (FR.ok F).p),(79,.T)] g2 (TB hkn) g3 g4 g5 g6 g7 g8 g13,RR.good_er (Nat.succ_ne_zero 5)⟩
 cases fa with
 | eq x y=>exact bad (by cases u<;>exact nofun)
 | bin k x y=>exact bad (by cases u<;>cases k<;>exact nofun)
 | q k y x =>
  by_cases h:k.n=bn u 5 7
  ·exact good k y x rfl h
  ·exact bad h
end Go.Proofs.YtmkajedkflhbgaaGreatDoor
