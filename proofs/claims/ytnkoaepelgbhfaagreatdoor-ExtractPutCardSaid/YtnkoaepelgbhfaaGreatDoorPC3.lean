/- Contracts of functions; no conditions. -/
import Derived.Test.YtnkoaepelgbhfaaGreatDoorPC2
set_option linter.all false
set_option maxHeartbeats 4000000
namespace Go.Proofs.YtnkoaepelgbhfaaGreatDoor
open Go.Lg
set_option maxRecDepth 100000
def Fm.put:Fm->Nat->Tm->Nat->Fm
 | .eq a b,c,s,d => .eq (a.put c s d) (b.put c s d)
 | .bin k f g,c,s,d => .bin k (f.put c s d) (g.put c s d)
 | .q k u f,c,s,d => .q k u (f.put c s (d+1))
theorem YC:∀ (f:Fm) (c:Nat),f.occ c<=f.cnt
 | .eq a b,c=>by have:=yB a c;have:=yB b c;simp only [Fm.occ,Fm.cnt];omega
 | .bin k f g,c=>by have:=YC f c;have:=YC g c;simp only [Fm.occ,Fm.cnt];omega
 | .q k s f,c=>by have:=YC f (c+1);simp only [Fm.occ,Fm.cnt];omega
theorem aI (c:Nat) (s:Tm):∀ (f:Fm) (d:Nat),(f.put c s d).cnt+f.occ (c+d)=f.cnt+f.occ (c+d) * s.cnt
 | .eq a b,d=>by have:=AF c s a d;have:=AF c s b d;simp only [Fm.put,Fm.occ,Fm.cnt,Nat.add_mul];omega
 | .bin k f g,d=>by have:=aI c s f d;have:=aI c s g d;simp only [Fm.put,Fm.occ,Fm.cnt,Nat.add_mul];omega
 | .q k u f,d=>by have:=aI c s f (d+1);simp only [Fm.put,Fm.occ,Fm.cnt,Nat.add_assoc] at this ⊢;omega
theorem cI (c:Nat) (s:Tm):∀ (f:Fm) (d:Nat),(f.put c s d).tsz<=max f.tsz s.tsz
 | .eq a b,d=>by have:=DH c s a d;have:=DH c s b d;simp only [Fm.put,Fm.tsz];omega
 | .bin k f g,d=>by have:=cI c s f d;have:=cI c s g d;simp only [Fm.put,Fm.tsz];omega
 | .q k u f,d=>by have:=cI c s f (d+1);simp only [Fm.put,Fm.tsz];omega
theorem eI (c:Nat) (s:Tm):∀ (f:Fm) (d:Nat),(f.put c s d).mx<=max f.mx (s.mx+(c+d+f.cnt))
 | .eq a b,d=>by have:=ZG c s a d;have:=ZG c s b d;simp only [Fm.put,Fm.mx,Fm.cnt];omega
 | .bin k f g,d=>by have:=eI c s f d;have:=eI c s g d;simp only [Fm.put,Fm.mx,Fm.cnt];omega
 | .q k u f,d=>by have:=eI c s f (d+1);simp only [Fm.put,Fm.mx,Fm.cnt];omega
theorem iI:∀ (f:Fm) (c d:Nat) (s:Tm),s.mx<=qA * qA->s.cnt<=qA->f.mx<=qA * qA->c+d+f.cnt<=qA->A 88 [f.p,num c,num d,s.p] (f.put c s d).p
 | .eq a b,c,d,s,h1,h2,h3,h4=>by
  have h3:max a.mx b.mx<=qA * qA:=h3;have h4:c+d+(1+a.cnt+b.cnt)<=qA:=h4;exact f2 [(32,.r (a.put c s d).p),(32,.r (b.put c s d).p)] (iE a c d s h1 h2 (by omega) (by omega)) (iE b c d s h1 h2 (by omega) (by omega))
 | .bin k f g,c,d,s,h1,h2,h3,h4=>by
  have h3:max f.mx g.mx<=qA * qA:=h3;have h4:c+d+(1+f.cnt+g.cnt)<=qA:=h4;have hm:=zA;have h5:=rA (show d<=_ by omega);have h6:=iI f c d s h1 h2 (by omega) (by omega);have h7:=iI g c d s h1 h2 (by omega) (by omega);cases k<;>exact f4 [(51,.ok),(53,.r (f.put c s d).p),(51,.ok),(53,.r (g.put c s d).p)] h5 h6 h5 h7
 | .q k u f,c,d,s,h1,h2,h3,h4=>by
  have h4:c+d+(1+f.cnt)<=qA:=h4;have hm:=zA;have h5:=rA (show d+1<=_ by omega);have h6:=iI f c (d+1) s h1 h2 h3 (by omega);cases k<;>exact f2 [(51,.ok),(53,.r (f.put c s (d+1)).p)] h5 h6
theorem CL {n:Nat} (h:n<=bA):aA (Int.ofNat 0 + .ofNat n)=true/\Int.ofNat 0 + .ofNat n = .ofNat n:=by
 have e:Int.ofNat 0 + .ofNat n = .ofNat n:=by simp
 exact⟨by rw [e];exact fB h,e⟩
theorem fS:∀ (f:Fm) (c:Nat),c+f.cnt<=qA->A 309 [f.p,num c] (num (f.occ c))
 | .eq a b,c,h=>by
  have h:c+(1+a.cnt+b.cnt)<=qA:=h;have hm:=zA;have hb:=kA;have u1:=yB a c;have u2:=yB b c;exact f4 [(20,.N (a.occ c)),(21,.z (a.occ c)),(20,.N (b.occ c)),(21,.ok)] (eE a c (by omega)) (CL (n:=a.occ c) (by omega)) (eE b c (by omega)) (aB (a:=a.occ c) (b:=b.occ c) (by omega))
 | .bin k f g,c,h=>by
  have h:c+(1+f.cnt+g.cnt)<=qA:=h;have hm:=zA;have hb:=kA;have u1:=YC f c;have u2:=YC g c;have h5:=rA (show c<=_ by omega);have h6:=fS f c (by omega);have h7:=fS g c (by omega);have h8:=CL (n:=f.occ c) (by omega);have h9:=aB (a:=f.occ c) (b:=g.occ c) (by omega);cases k<;>exact f6 [(35,.ok),(36,.N (f.occ c)),(37,.z (f.occ c)),(35,.ok),(36,.N (g.occ c)),(37,.ok)] h5 h6 h8 h5 h7 h9
 | .q k s f,c,h=>by
  have h:c+(1+f.cnt)<=qA:=h;have hm:=zA;have hb:=kA;have u1:=YC f (c+1);have h5:=rA (show c+1<=_ by omega);have h6:=fS f (c+1) (by omega);have h8:=CL (n:=f.occ (c+1)) (by omega);cases k<;>exact f3 [(35,.ok),(36,.N (f.occ (c+1))),(37,.z (f.occ (c+1)))] h5 h6 h8
theorem uW (g:List Ty) (t:Tm) (hg:∀ s∈g,s.size<=qA) (h1:t.tsz<=qA) (h2:g.length+t.cnt<=qA):∃ r:TR,A 278 [AA g,t.p] r.p/\r.sz<=qA /\ ∀ s,r = .ok s->t.chk=0/\t.tyR g = .ok s:=by
 have hm:=zA;have hb:=kA;have g1:=a31 t (by omega) (by omega)
 cases e:t.chk with
 | succ n=>rw [e] at g1;exact⟨.er n,f1 [(8,.N (n+1))] g1,Nat.zero_le _,λ _ h=>by cases h⟩
 | zero =>
  rw [e] at g1;obtain⟨r,g2,g3,g4⟩:=QJ t g hg h1 h2;exact⟨r,f2 [(8,.N 0),(15,.r r.p)] g1 g2,g3,λ _ h=>⟨rfl,by rw [<- g4,h]⟩⟩
theorem bW (g:List Ty) (t:Tm) (hg:∀ s∈g,s.size<=qA) (h1:t.tsz<=qA) (h2:g.length+t.cnt<=qA):∃ r:TR,A 225 [AA g,t.p] r.p/\r.sz<=qA /\ ∀ s,r = .ok s->t.chk=0/\t.tyR g = .ok s:=by
 have hm:=zA;have hb:=kA;have g1:=kW g (λ s hs=>by have:=hg s hs;omega)
 cases e:XG g with
 | succ n=>rw [e] at g1;exact⟨.er n,f1 [(8,.N (n+1))] g1,Nat.zero_le _,λ _ h=>by cases h⟩
 | zero =>
  rw [e] at g1;obtain⟨r,g2,g3⟩:=uW g t hg h1 h2;exact⟨r,f2 [(8,.N 0),(15,.r r.p)] g1 g2,g3⟩
theorem TR.cases' (r:TR):(∃ n,r = .er n)\/(∃ s,r = .ok s/\s.kd=1) \/ ∃ s,r = .ok s/\s.kd≠1:=by
 cases r with
 | er n=>exact .inl ⟨n,rfl⟩
 | ok s =>
  by_cases h:s.kd=1
  ·exact .inr (.inl ⟨s,rfl,h⟩)
  ·exact .inr (.inr ⟨s,rfl,h⟩)
theorem UB {m n:Nat} (h:m=n):(!tB (.ofNat m) (.ofNat n))=false:=by rw [h];exact rB n
theorem gS {s:Ty} (h:s.kd=1):s = .nat:=by
 cases s with
 | nat=>rfl
 | two k a b=>cases k<;>cases h
 | _=>cases h
def Fm.ty:List Ty->Fm->Prop
 | g,.eq a b=>(a.chk=0/\a.tyR g = .ok .nat)/\b.chk=0/\b.tyR g = .ok .nat
 | g,.bin _ f h=>f.ty g/\h.ty g
 | g,.q _ s f=>f.ty (g++[s])
theorem lS:∀ (f:Fm) (g:List Ty),(∀ s∈g,s.size<=qA)->f.tsz<=qA->g.length+f.cnt<=qA->∃ e,A 219 [AA g,f.p] (num e)/\(e=0->f.ty g)
 | .eq a b,g,hg,ht,hl=>by
  have ht:max a.tsz b.tsz<=qA:=ht;have hl:g.length+(1+a.cnt+b.cnt)<=qA:=hl;obtain⟨r,h1,_,q1⟩:=uW g a hg (by omega) (by omega);obtain⟨q,h2,_,q2⟩:=uW g b hg (by omega) (by omega);rcases r.cases' with ⟨n,rfl⟩|⟨s,rfl,e1⟩|⟨s,rfl,e1⟩
  ·exact⟨n+1,f1 [(22,.r (TR.er n).p)] h1,λ h=>nomatch h⟩
  ·rcases q.cases' with ⟨n,rfl⟩|⟨u,rfl,e2⟩|⟨u,rfl,e2⟩
   ·exact⟨n+1,f3 [(22,.r (TR.ok s).p),(30,.H),(22,.r (TR.er n).p)] h1 (UB e1) h2,λ h=>nomatch h⟩
   ·exact⟨0,f4 [(22,.r (TR.ok s).p),(30,.H),(22,.r (TR.ok u).p),(30,.H)] h1 (UB e1) h2 (UB e2),λ _=>⟨q1 _ (congrArg _ (gS e1)),q2 _ (congrArg _ (gS e2))⟩⟩
   ·exact⟨7,f4 [(22,.r (TR.ok s).p),(30,.H),(22,.r (TR.ok u).p),(30,.G)] h1 (UB e1) h2 (GC e2),λ h=>nomatch h⟩
  ·exact⟨7,f2 [(22,.r (TR.ok s).p),(30,.G)] h1 (GC e1),λ h=>nomatch h⟩
 | .bin k f h,g,hg,ht,hl=>by
  have ht:max f.tsz h.tsz<=qA:=ht;have hl:g.length+(1+f.cnt+h.cnt)<=qA:=hl;obtain⟨e,h1,q1⟩:=lS f g hg (by omega) (by omega);obtain⟨e',h2,q2⟩:=lS h g hg (by omega) (by omega)
  cases e with
  | succ n=>cases k<;>exact⟨n+1,f1 [(54,.N (n+1))] h1,λ h=>nomatch h⟩
  | zero=>cases e' with
   | succ n=>cases k<;>exact⟨n+1,f2 [(54,.N 0),(54,.N (n+1))] h1 h2,λ h=>nomatch h⟩
   | zero=>cases k<;>exact⟨0,f2 [(54,.N 0),(54,.N 0)] h1 h2,λ _=>⟨q1 rfl,q2 rfl⟩⟩
 | .q k s f,g,hg,ht,hl=>by
  have ht:max s.size f.tsz<=qA:=ht;have hl:g.length+(1+f.cnt)<=qA:=hl;have hm:=zA;obtain⟨e,h1,q1⟩:=lS f (g++[s]) (by intro u hu;rcases List.mem_append.1 hu with h|h;exact hg u h;simp at h;subst h;omega) (by omega) (by simp;omega);simp only [AA,List.map_append,List.map_cons,List.map_nil] at h1;have h3:=OE 2 32 Ty.c_len (by decide) g s (by omega) (by simp only [maxLen];omega);have h2:=oF (g.map Ty.c).length
  cases e with
  | succ n=>cases k<;>exact⟨n+1,f3 [(40,.ok),(44,.ok),(54,.N (n+1))] h2 h3 h1,λ h=>nomatch h⟩
  | zero=>cases k<;>exact⟨0,f3 [(40,.ok),(44,.ok),(54,.N 0)] h2 h3 h1,λ _=>q1 rfl⟩
theorem mS (g:List Ty) (f:Fm) (hg:∀ s∈g,s.size<=qA) (h1:f.tsz<=qA) (h2:g.length+f.cnt<=qA):∃ e,A 153 [AA g,f.p] (num e)/\(e=0->f.chk=0/\f.ty g):=by
 have hm:=zA;have hb:=kA;have g1:=UM f h1 (by omega)
 cases e:f.chk with
 | succ n=>rw [e] at g1;exact⟨n+1,f1 [(7,.N (n+1))] g1,nofun⟩
 | zero =>
  rw [e] at g1;obtain⟨r,g2,g3⟩:=lS f g hg h1 h2;exact⟨r,f2 [(7,.N 0),(13,.N r)] g1 g2,λ h=>⟨rfl,g3 h⟩⟩
theorem nS (g:List Ty) (f:Fm) (hg:∀ s∈g,s.size<=qA) (h1:f.tsz<=qA) (h2:g.length+f.cnt<=qA):∃ e,A 113 [AA g,f.p] (num e)/\(e=0->f.chk=0/\f.ty g):=by
 have hm:=zA;have hb:=kA;have g1:=kW g (λ s hs=>by have:=hg s hs;omega)
 cases e:XG g with
 | succ n=>rw [e] at g1;exact⟨n+1,f1 [(7,.N (n+1))] g1,nofun⟩
 | zero =>
  rw [e] at g1;obtain⟨r,g2,g3⟩:=mS g f hg h1 h2;exact⟨r,f2 [(7,.N 0),(13,.N r)] g1 g2,g3⟩
theorem FB.inj {k l:FB} (h:k.n=l.n):k=l:=by cases k<;>cases l<;>first|rfl|cases h
theorem FQ.inj {k l:FQ} (h:k.n=l.n):k=l:=by cases k<;>cases l<;>first|rfl|cases h
abbrev nB:Nat:=qA * qA-1001 * 4096
def Fm.mt:Fm->Fm->Prop
 | .eq a c,.eq b d=>a.mt b/\c.mt d
 | .bin k f g,.bin l f' g'=>k=l/\f.mt f'/\g.mt g'
 | .q k s f,.q l u g=>k=l/\s=u/\f.mt g
 | _,_=>False
theorem TJ {a b:Fm} (h:a.kd≠b.kd):∃ e,A 221 [a.p,b.p] (num e)/\(e=0->a.mt b):=⟨11,f1 [(13,.G)] (GC h),λ h=>nomatch h⟩
theorem pS:∀ a b:Fm,a.cnt<=bA->a.mx<=nB->a.tsz<=qA->b.cnt<=bA->b.mx<=nB->b.tsz<=qA->∃ e,A 221 [a.p,b.p] (num e)/\(e=0->a.mt b)
 | .eq a c,.eq b d,h1,h2,h3,h4,h5,h6=>by
  have hm:=zA;simp only [Fm.cnt,Fm.mx,Fm.tsz] at h1 h2 h3 h4 h5 h6;obtain⟨e,g1,q1⟩:=wc a b (by omega) (by simp only [nB,hm] at *;omega) (by omega) (by omega) (by simp only [nB,hm] at *;omega) (by omega);obtain⟨e',g2,q2⟩:=wc c d (by omega) (by simp only [nB,hm] at *;omega) (by omega) (by omega) (by simp only [nB,hm] at *;omega) (by omega)
  cases e with
  | succ n=>exact⟨n+1,f2 [(19,.T),(38,.N (n+1))] iF g1,λ h=>nomatch h⟩
  | zero=>cases e' with
   | succ n=>exact⟨n+1,f3 [(19,.T),(38,.N 0),(38,.N (n+1))] iF g1 g2,λ h=>nomatch h⟩
   | zero=>exact⟨0,f3 [(19,.T),(38,.N 0),(38,.N 0)] iF g1 g2,λ _=>⟨q1 rfl,q2 rfl⟩⟩
 | .bin k f g,.bin l f' g',h1,h2,h3,h4,h5,h6=>by
  by_cases h:k=l
  ·subst h;simp only [Fm.cnt,Fm.mx,Fm.tsz] at h1 h2 h3 h4 h5 h6;obtain⟨e,g1,q1⟩:=pS f f' (by omega) (by omega) (by omega) (by omega) (by omega) (by omega);obtain⟨e',g2,q2⟩:=pS g g' (by omega) (by omega) (by omega) (by omega) (by omega) (by omega)
   cases e with
   | succ n=>exact⟨n+1,f3 [(13,.H),(19,.T),(59,.N (n+1))] (rB k.n) iF g1,λ h=>nomatch h⟩
   | zero=>cases e' with
    | succ n=>exact⟨n+1,f4 [(13,.H),(19,.T),(59,.N 0),(59,.N (n+1))] (rB k.n) iF g1 g2,λ h=>nomatch h⟩
    | zero=>exact⟨0,f4 [(13,.H),(19,.T),(59,.N 0),(59,.N 0)] (rB k.n) iF g1 g2,λ _=>⟨rfl,q1 rfl,q2 rfl⟩⟩
  ·exact TJ λ e=>h (FB.inj e)
 | .q k s f,.q l u g,h1,h2,h3,h4,h5,h6=>by
  by_cases h:k=l
  ·subst h;simp only [Fm.cnt,Fm.mx,Fm.tsz] at h1 h2 h3 h4 h5 h6;have g0:=GD s u;cases es:s.same u<;>rw [es] at g0
   ·exact⟨11,f2 [(13,.H),(19,.F)] (rB k.n) g0,λ h=>nomatch h⟩
   obtain⟨e,g1,q1⟩:=pS f g (by omega) (by omega) (by omega) (by omega) (by omega) (by omega)
   cases e with
   | succ n=>exact⟨n+1,f3 [(13,.H),(19,.T),(59,.N (n+1))] (rB k.n) g0 g1,λ h=>nomatch h⟩
   | zero=>exact⟨0,f3 [(13,.H),(19,.T),(59,.N 0)] (rB k.n) g0 g1,λ _=>⟨rfl,(HD s u).1 es,q1 rfl⟩⟩
  ·exact TJ λ e=>h (FQ.inj e)
 | .eq _ _,.bin l _ _,_,_,_,_,_,_=>TJ (by cases l<;>exact nofun)
 | .eq _ _,.q l _ _,_,_,_,_,_,_=>TJ (by cases l<;>exact nofun)
 | .bin l _ _,.eq _ _,_,_,_,_,_,_=>TJ (by cases l<;>exact nofun)
 | .bin k _ _,.q l _ _,_,_,_,_,_,_=>TJ (by cases k<;>cases l<;>exact nofun)
 | .q l _ _,.eq _ _,_,_,_,_,_,_=>TJ (by cases l<;>exact nofun)
 | .q k _ _,.bin l _ _,_,_,_,_,_,_=>TJ (by cases k<;>cases l<;>exact nofun)
theorem kc (a b:Fm) (h1:a.cnt<=bA) (h2:a.mx<=nB) (h3:a.tsz<=qA) (h4:b.cnt<=bA) (h5:b.mx<=nB) (h6:b.tsz<=qA):∃ e,A 157 [a.p,b.p] (num e)/\(e=0->a.mt b):=by
 have g1:=UM a h3 h1;have g2:=UM b h6 h4
 cases e1:a.chk with
 | succ n=>rw [e1] at g1;exact⟨n+1,f1 [(8,.N (n+1))] g1,λ h=>nomatch h⟩
 | zero =>
  rw [e1] at g1
  cases e2:b.chk with
  | succ n=>rw [e2] at g2;exact⟨n+1,f2 [(8,.N 0),(13,.N (n+1))] g1 g2,λ h=>nomatch h⟩
  | zero =>
   rw [e2] at g2;obtain⟨e,g3,q1⟩:=pS a b h1 h2 h3 h4 h5 h6;exact⟨e,f3 [(8,.N 0),(13,.N 0),(19,.N e)] g1 g2 g3,q1⟩
inductive FR where
 | er (n:Nat)
 | ok (f:Fm)
def FR.k:FR->Nat
 | .er _=>0
 | .ok f=>f.kd
def FR.tk:FR->Nat
 | .er _=>0
 | .ok f=>f.tk
def FR.te:FR->List (List PV)
 | .er _=>[]
 | .ok f=>f.te
def FR.ts:FR->List (List PV)
 | .er _=>[]
 | .ok f=>f.ts
def FR.es:FR->List (List PV)
 | .er _=>[]
 | .ok f=>f.es
def FR.n:FR->Nat
 | .er n=>n+1
 | .ok _=>0
def FR.p (r:FR):PV:=.tuple [.agg [num r.k,num r.tk,.slice r.te,.slice r.ts,.slice r.es],num r.n]
theorem um (f:Fm) (s:Tm) (h1:f.cnt<=qA) (h2:f.mx<=qA * qA) (h3:f.tsz<=qA) (h4:s.cnt<=qA) (h5:s.mx<=qA * qA) (h6:s.tsz<=qA):∃ r:FR,A 281 [f.p,num 0,s.p] r.p/\((∃ n,r = .er n)\/r = .ok (f.put 0 s 0)/\(f.put 0 s 0).cnt<=4096):=by
 have hm:=zA;have hb:=kA;have g1:=UM f h3 (by omega)
 cases e1:f.chk with
 | succ n=>rw [e1] at g1;exact⟨.er n,f1 [(11,.N (n+1))] g1,.inl ⟨n,rfl⟩⟩
 | zero =>
  rw [e1] at g1;have g2:=a31 s (by omega) (by omega)
  cases e2:s.chk with
  | succ n=>rw [e2] at g2;exact⟨.er n,f2 [(11,.N 0),(24,.N (n+1))] g1 g2,.inl ⟨n,rfl⟩⟩
  | zero =>
   rw [e2] at g2;obtain⟨p,g3,_⟩:=dS f 536870912;obtain⟨q,g4,_⟩:=YG s 536870912;cases p
   ·exact⟨.er 0,f3 [(11,.N 0),(24,.N 0),(30,.F)] g1 g2 g3,.inl ⟨0,rfl⟩⟩
   cases q
   ·exact⟨.er 0,f4 [(11,.N 0),(24,.N 0),(30,.T),(34,.F)] g1 g2 g3 g4,.inl ⟨0,rfl⟩⟩
   have g5:=eD f (by omega);have g6:=fS f 0 (by omega);have g7:=qB s (by omega);have h7:=TB s;have g8:=uB h7 (by omega);have h8:=YC f 0;have h9:f.occ 0 * (s.cnt-1)<=qA * qA:=Nat.mul_le_mul (by omega) (by omega);have h10:f.occ 0 * s.cnt=f.occ 0 * (s.cnt-1)+f.occ 0:=by
    have:s.cnt=(s.cnt-1)+1:=by omega
    rw [this,Nat.mul_succ];simp
   have h11:=aI 0 s f 0;simp only [Nat.zero_add] at h11;have h9':=h9;rw [hm] at h9';have g9:=Zb (a:=f.occ 0) (b:=s.cnt-1) (by omega);have g10:=aB (a:=f.cnt) (b:=f.occ 0 * (s.cnt-1)) (by omega);cases e3:uA (.ofNat 4096) (.ofNat (f.cnt+f.occ 0 * (s.cnt-1)))
   ·refine⟨.ok (f.put 0 s 0),f13 [(11,.N 0),(24,.N 0),(30,.T),(34,.T),(39,.N f.cnt),(42,.N (f.occ 0)),(44,.N s.cnt),(45,.z (s.cnt-1)),(46,.ok),(47,.ok),(48,.H),(53,.r (f.put 0 s 0).p),(54,.r (f.put 0 s 0).p)] g1 g2 g3 g4 g5 g6 g7 g8 g9 g10 e3 (iI f 0 0 s h5 h4 h2 (by omega)) (aD (f.put 0 s 0)),.inr ⟨rfl,?_⟩⟩;rw [KB] at e3;have:=of_decide_eq_false e3;simp at this;omega
   ·exact⟨.er 3,f11 [(11,.N 0),(24,.N 0),(30,.T),(34,.T),(39,.N f.cnt),(42,.N (f.occ 0)),(44,.N s.cnt),(45,.z (s.cnt-1)),(46,.ok),(47,.ok),(48,.G)] g1 g2 g3 g4 g5 g6 g7 g8 g9 g10 e3,.inl ⟨3,rfl⟩⟩
def Fm.has:Fm->Bool
 | .eq _ _=>false
 | .bin k f g=>match k with
  | .and=>f.has || g.has
  | .imp=>g.has
 | .q k _ f=>match k with
  | .ex=>true
  | _=>f.has
theorem DL:∀ f:Fm,A 167 [f.p] (.bool f.has)
 | .eq a b=>f0 []
 | .bin .and f g=>by
  have h1:=DL f;have h2:=DL g;show A 167 [(Fm.bin .and f g).p] (.bool (f.has || g.has));cases e:f.has<;>rw [e] at h1
  ·cases e:g.has<;>rw [e] at h2
   ·exact f2 [(13,.F),(19,.F)] h1 h2
   ·exact f2 [(13,.F),(19,.T)] h1 h2
  ·exact f1 [(13,.T)] h1
 | .bin .imp f g=>f1 [(31,.r (.bool g.has))] (DL g)
 | .q .ex s f=>f0 []
 | .q .all s f=>f1 [(31,.r (.bool f.has))] (DL f)
 | .q .allU s f=>f1 [(31,.r (.bool f.has))] (DL f)
 | .q .exU s f=>f1 [(31,.r (.bool f.has))] (DL f)
theorem bm (f:Fm) (h1:f.tsz<=qA) (h2:f.cnt<=bA):∃ b e,A 117 [f.p] (.tuple [.bool b,num e])/\(f.chk=0->b=f.has/\e=0):=by
 have g1:=UM f h1 h2
 cases e1:f.chk with
 | succ n=>rw [e1] at g1;exact⟨false,n+1,f1 [(6,.N (n+1))] g1,nofun⟩
 | zero=>rw [e1] at g1;exact⟨f.has,0,f2 [(6,.N 0),(11,.r (.bool f.has))] g1 (DL f),λ _=>⟨rfl,rfl⟩⟩
open Go.Lg
def Pf.cnt:Pf->Nat
 | .leaf u i=>1
 | .refl t=>1+t.cnt
 | .p1 k a=>1+a.cnt
 | .p2 k a b=>1+a.cnt+b.cnt
 | .impI f a=>1+f.cnt+a.cnt
 | .all u s a=>1+a.cnt
 | .ins u t a=>1+t.cnt+a.cnt
 | .ex u f t a=>1+t.cnt+f.cnt+a.cnt
 | .ind l f t a b=>1+t.cnt+f.cnt+a.cnt+b.cnt
 | .subst f a b=>1+f.cnt+a.cnt+b.cnt
def Pf.mx:Pf->Nat
 | .leaf u i=>0
 | .refl t=>t.mx
 | .p1 k a=>a.mx
 | .p2 k a b=>max a.mx b.mx
 | .impI f a=>max f.mx a.mx
 | .all u s a=>a.mx
 | .ins u t a=>max t.mx a.mx
 | .ex u f t a=>max (max t.mx f.mx) a.mx
 | .ind l f t a b=>max (max (max t.mx f.mx) a.mx) b.mx
 | .subst f a b=>max (max f.mx a.mx) b.mx
def Pf.tsz:Pf->Nat
 | .leaf u i=>0
 | .refl t=>t.tsz
 | .p1 k a=>a.tsz
 | .p2 k a b=>max a.tsz b.tsz
 | .impI f a=>max f.tsz a.tsz
 | .all u s a=>max a.tsz s.size
 | .ins u t a=>max t.tsz a.tsz
 | .ex u f t a=>max (max t.tsz f.tsz) a.tsz
 | .ind l f t a b=>max (max (max t.tsz f.tsz) a.tsz) b.tsz
 | .subst f a b=>max (max f.tsz a.tsz) b.tsz
theorem XD:∀ p:Pf,A 44 [p.p] p.p
 | .leaf u i=>by
  exact f1 [(16,.r zt)] aF
 | .refl t=>by
  exact f2 [(16,.r zt),(28,.r t.p)] aF (SB t)
 | .p1 k a=>by
  exact f2 [(16,.r zt),(58,.r a.p)] aF (XD a)
 | .p2 k a b=>by
  exact f3 [(16,.r zt),(58,.r a.p),(58,.r b.p)] aF (XD a) (XD b)
 | .impI f a=>by
  exact f3 [(16,.r zt),(43,.r f.p),(58,.r a.p)] aF (aD f) (XD a)
 | .all u s a=>by
  exact f2 [(16,.r s.p),(58,.r a.p)] (FC s) (XD a)
 | .ins u t a=>by
  exact f3 [(16,.r zt),(28,.r t.p),(58,.r a.p)] aF (SB t) (XD a)
 | .ex u f t a=>by
  exact f4 [(16,.r zt),(28,.r t.p),(43,.r f.p),(58,.r a.p)] aF (SB t) (aD f) (XD a)
 | .ind l f t a b=>by
  exact f5 [(16,.r zt),(28,.r t.p),(43,.r f.p),(58,.r a.p),(58,.r b.p)] aF (SB t) (aD f) (XD a) (XD b)
 | .subst f a b=>by
  exact f4 [(16,.r zt),(43,.r f.p),(58,.r a.p),(58,.r b.p)] aF (aD f) (XD a) (XD b)
theorem YD:∀ p:Pf,p.cnt<=bA->A 39 [p.p] (num p.cnt)
 | .leaf u i,h=>by
  have h:1<=bA:=h;have hb:=kA;exact f0 []
 | .refl t,h=>by
  have h:1+t.cnt<=bA:=h;have hb:=kA;have qt:=qB t (by omega);have rt:=aB (a:=1) (b:=t.cnt) (by omega);exact f2 [(19,.N t.cnt),(20,.ok)] qt rt
 | .p1 k a,h=>by
  have h:1+a.cnt<=bA:=h;have hb:=kA;have qa:=YD a (by omega);have ra:=aB (a:=1) (b:=a.cnt) (by omega);exact f2 [(43,.N a.cnt),(44,.ok)] qa ra
 | .p2 k a b,h=>by
  have h:1+a.cnt+b.cnt<=bA:=h;have hb:=kA;have qa:=YD a (by omega);have ra:=aB (a:=1) (b:=a.cnt) (by omega);have qb:=YD b (by omega);have rb:=aB (a:=1+a.cnt) (b:=b.cnt) (by omega);exact f4 [(43,.N a.cnt),(44,.ok),(43,.N b.cnt),(44,.ok)] qa ra qb rb
 | .impI f a,h=>by
  have h:1+f.cnt+a.cnt<=bA:=h;have hb:=kA;have qf:=eD f (by omega);have rf:=aB (a:=1) (b:=f.cnt) (by omega);have qa:=YD a (by omega);have ra:=aB (a:=1+f.cnt) (b:=a.cnt) (by omega);exact f4 [(31,.N f.cnt),(32,.ok),(43,.N a.cnt),(44,.ok)] qf rf qa ra
 | .all u s a,h=>by
  have h:1+a.cnt<=bA:=h;have hb:=kA;have qa:=YD a (by omega);have ra:=aB (a:=1) (b:=a.cnt) (by omega);exact f2 [(43,.N a.cnt),(44,.ok)] qa ra
 | .ins u t a,h=>by
  have h:1+t.cnt+a.cnt<=bA:=h;have hb:=kA;have qt:=qB t (by omega);have rt:=aB (a:=1) (b:=t.cnt) (by omega);have qa:=YD a (by omega);have ra:=aB (a:=1+t.cnt) (b:=a.cnt) (by omega);exact f4 [(19,.N t.cnt),(20,.ok),(43,.N a.cnt),(44,.ok)] qt rt qa ra
 | .ex u f t a,h=>by
  have h:1+t.cnt+f.cnt+a.cnt<=bA:=h;have hb:=kA;have qt:=qB t (by omega);have rt:=aB (a:=1) (b:=t.cnt) (by omega);have qf:=eD f (by omega);have rf:=aB (a:=1+t.cnt) (b:=f.cnt) (by omega);have qa:=YD a (by omega);have ra:=aB (a:=1+t.cnt+f.cnt) (b:=a.cnt) (by omega);exact f6 [(19,.N t.cnt),(20,.ok),(31,.N f.cnt),(32,.ok),(43,.N a.cnt),(44,.ok)] qt rt qf rf qa ra
 | .ind l f t a b,h=>by
  have h:1+t.cnt+f.cnt+a.cnt+b.cnt<=bA:=h;have hb:=kA;have qt:=qB t (by omega);have rt:=aB (a:=1) (b:=t.cnt) (by omega);have qf:=eD f (by omega);have rf:=aB (a:=1+t.cnt) (b:=f.cnt) (by omega);have qa:=YD a (by omega);have ra:=aB (a:=1+t.cnt+f.cnt) (b:=a.cnt) (by omega);have qb:=YD b (by omega);have rb:=aB (a:=1+t.cnt+f.cnt+a.cnt) (b:=b.cnt) (by omega);exact f8 [(19,.N t.cnt),(20,.ok),(31,.N f.cnt),(32,.ok),(43,.N a.cnt),(44,.ok),(43,.N b.cnt),(44,.ok)] qt rt qf rf qa ra qb rb
 | .subst f a b,h=>by
  have h:1+f.cnt+a.cnt+b.cnt<=bA:=h;have hb:=kA;have qf:=eD f (by omega);have rf:=aB (a:=1) (b:=f.cnt) (by omega);have qa:=YD a (by omega);have ra:=aB (a:=1+f.cnt) (b:=a.cnt) (by omega);have qb:=YD b (by omega);have rb:=aB (a:=1+f.cnt+a.cnt) (b:=b.cnt) (by omega);exact f6 [(31,.N f.cnt),(32,.ok),(43,.N a.cnt),(44,.ok),(43,.N b.cnt),(44,.ok)] qf rf qa ra qb rb
def Pf.ck:Pf->Prop
 | .leaf _ _=>True
 | .refl t=>t.chk=0
 | .p1 _ a=>a.ck
 | .p2 _ a b=>a.ck/\b.ck
 | .impI f a=>f.chk=0/\a.ck
 | .all _ s a=>s.size<=64/\a.ck
 | .ins _ t a=>t.chk=0/\a.ck
 | .ex _ f t a=>t.chk=0/\f.chk=0/\a.ck
 | .ind _ f t a b=>t.chk=0/\f.chk=0/\a.ck/\b.ck
 | .subst f a b=>f.chk=0/\a.ck/\b.ck
def Pf.l4:Pf->Prop
 | .leaf _ _=>True
 | .refl t=>t.cnt<=4096
 | .p1 _ a=>a.l4
 | .p2 _ a b=>a.l4/\b.l4
 | .impI f a=>f.cnt<=4096/\a.l4
 | .all _ s a=>a.l4
 | .ins _ t a=>t.cnt<=4096/\a.l4
 | .ex _ f t a=>t.cnt<=4096/\f.cnt<=4096/\a.l4
 | .ind _ f t a b=>t.cnt<=4096/\f.cnt<=4096/\a.l4/\b.l4
 | .subst f a b=>f.cnt<=4096/\a.l4/\b.l4
def Pf.sh:Pf->Prop
 | .leaf _ _=>True
 | .refl t=>t.shp=true
 | .p1 _ a=>a.sh
 | .p2 _ a b=>a.sh/\b.sh
 | .impI f a=>f.shp=true/\a.sh
 | .all _ s a=>s.size<=64/\a.sh
 | .ins _ t a=>t.shp=true/\a.sh
 | .ex _ f t a=>t.shp=true/\f.shp=true/\a.sh
 | .ind _ f t a b=>t.shp=true/\f.shp=true/\a.sh/\b.sh
 | .subst f a b=>f.shp=true/\a.sh/\b.sh
theorem lf_iff {a b:Nat} : uA (.ofNat a) (.ofNat b)=false↔b<=a:=by
 rw [KB];simp
theorem FH {n:Nat} : uA 4096 (n:Int)=false↔n<=4096:=lf_iff (a:=4096)
theorem Tm.chk_i {t:Tm} (h:t.shp=true) (h':t.cnt<=4096):t.chk=0:=by
 unfold Tm.chk;rw [h];simp only;rw [JA h']
theorem Fm.chk_i {t:Fm} (h:t.shp=true) (h':t.cnt<=4096):t.chk=0:=by
 unfold Fm.chk;rw [h];simp only;rw [JA h']
theorem Pf.ck_i:∀ p:Pf,p.sh->p.l4->p.ck
 | .leaf _ _,_,_=>trivial
 | .refl t,h,k=>Tm.chk_i h k
 | .p1 _ a,h,k=>ck_i a h k
 | .p2 _ a b,h,k=>⟨ck_i a h.1 k.1,ck_i b h.2 k.2⟩
 | .impI f a,h,k=>⟨Fm.chk_i h.1 k.1,ck_i a h.2 k.2⟩
 | .all _ s a,h,k=>⟨h.1,ck_i a h.2 k⟩
 | .ins _ t a,h,k=>⟨Tm.chk_i h.1 k.1,ck_i a h.2 k.2⟩
 | .ex _ f t a,h,k=>⟨Tm.chk_i h.1 k.1,Fm.chk_i h.2.1 k.2.1,ck_i a h.2.2 k.2.2⟩
 | .ind _ f t a b,h,k=>⟨Tm.chk_i h.1 k.1,Fm.chk_i h.2.1 k.2.1,ck_i a h.2.2.1 k.2.2.1,ck_i b h.2.2.2 k.2.2.2⟩
 | .subst f a b,h,k=>⟨Fm.chk_i h.1 k.1,ck_i a h.2.1 k.2.1,ck_i b h.2.2 k.2.2⟩
theorem aG:∀ p:Pf,p.cnt<=bA->∃ r,A 91 [p.p] (.bool r)/\(r=true->p.l4)
 | .leaf u i,h=>by
  have h:1<=bA:=h;have hb:=kA;exact⟨true,f0 [],λ _=>by simp_all [Pf.l4,FH]⟩
 | .refl t,h=>by
  have h:1+t.cnt<=bA:=h;have hb:=kA;have qt:=qB t (by omega);cases et:uA (.ofNat 4096) (.ofNat t.cnt);rotate_left
  ·exact⟨false,f2 [(17,.N t.cnt),(18,.G)] qt et,λ h=>nomatch h⟩
  exact⟨true,f2 [(17,.N t.cnt),(18,.H)] qt et,λ _=>by simp_all [Pf.l4,FH]⟩
 | .p1 k a,h=>by
  have h:1+a.cnt<=bA:=h;have hb:=kA;obtain⟨ra,qa,ia⟩:=aG a (by omega);cases ra
  ·exact⟨false,f1 [(39,.F)] qa,λ h=>nomatch h⟩
  exact⟨true,f1 [(39,.T)] qa,λ _=>by simp_all [Pf.l4,FH]⟩
 | .p2 k a b,h=>by
  have h:1+a.cnt+b.cnt<=bA:=h;have hb:=kA;obtain⟨ra,qa,ia⟩:=aG a (by omega);cases ra
  ·exact⟨false,f1 [(39,.F)] qa,λ h=>nomatch h⟩
  obtain⟨rb,qb,ib⟩:=aG b (by omega);cases rb
  ·exact⟨false,f2 [(39,.T),(39,.F)] qa qb,λ h=>nomatch h⟩
  exact⟨true,f2 [(39,.T),(39,.T)] qa qb,λ _=>by simp_all [Pf.l4,FH]⟩
 | .impI f a,h=>by
  have h:1+f.cnt+a.cnt<=bA:=h;have hb:=kA;have qf:=eD f (by omega);cases ef:uA (.ofNat 4096) (.ofNat f.cnt);rotate_left
  ·exact⟨false,f2 [(28,.N f.cnt),(29,.G)] qf ef,λ h=>nomatch h⟩
  obtain⟨ra,qa,ia⟩:=aG a (by omega);cases ra
  ·exact⟨false,f3 [(28,.N f.cnt),(29,.H),(39,.F)] qf ef qa,λ h=>nomatch h⟩
  exact⟨true,f3 [(28,.N f.cnt),(29,.H),(39,.T)] qf ef qa,λ _=>by simp_all [Pf.l4,FH]⟩
 | .all u s a,h=>by
  have h:1+a.cnt<=bA:=h;have hb:=kA;obtain⟨ra,qa,ia⟩:=aG a (by omega);cases ra
  ·exact⟨false,f1 [(39,.F)] qa,λ h=>nomatch h⟩
  exact⟨true,f1 [(39,.T)] qa,λ _=>by simp_all [Pf.l4,FH]⟩
 | .ins u t a,h=>by
  have h:1+t.cnt+a.cnt<=bA:=h;have hb:=kA;have qt:=qB t (by omega);cases et:uA (.ofNat 4096) (.ofNat t.cnt);rotate_left
  ·exact⟨false,f2 [(17,.N t.cnt),(18,.G)] qt et,λ h=>nomatch h⟩
  obtain⟨ra,qa,ia⟩:=aG a (by omega);cases ra
  ·exact⟨false,f3 [(17,.N t.cnt),(18,.H),(39,.F)] qt et qa,λ h=>nomatch h⟩
  exact⟨true,f3 [(17,.N t.cnt),(18,.H),(39,.T)] qt et qa,λ _=>by simp_all [Pf.l4,FH]⟩
 | .ex u f t a,h=>by
  have h:1+t.cnt+f.cnt+a.cnt<=bA:=h;have hb:=kA;have qt:=qB t (by omega);cases et:uA (.ofNat 4096) (.ofNat t.cnt);rotate_left
  ·exact⟨false,f2 [(17,.N t.cnt),(18,.G)] qt et,λ h=>nomatch h⟩
  have qf:=eD f (by omega);cases ef:uA (.ofNat 4096) (.ofNat f.cnt);rotate_left
  ·exact⟨false,f4 [(17,.N t.cnt),(18,.H),(28,.N f.cnt),(29,.G)] qt et qf ef,λ h=>nomatch h⟩
  obtain⟨ra,qa,ia⟩:=aG a (by omega);cases ra
  ·exact⟨false,f5 [(17,.N t.cnt),(18,.H),(28,.N f.cnt),(29,.H),(39,.F)] qt et qf ef qa,λ h=>nomatch h⟩
  exact⟨true,f5 [(17,.N t.cnt),(18,.H),(28,.N f.cnt),(29,.H),(39,.T)] qt et qf ef qa,λ _=>by simp_all [Pf.l4,FH]⟩
 | .ind l f t a b,h=>by
  have h:1+t.cnt+f.cnt+a.cnt+b.cnt<=bA:=h;have hb:=kA;have qt:=qB t (by omega);cases et:uA (.ofNat 4096) (.ofNat t.cnt);rotate_left
  ·exact⟨false,f2 [(17,.N t.cnt),(18,.G)] qt et,λ h=>nomatch h⟩
  have qf:=eD f (by omega);cases ef:uA (.ofNat 4096) (.ofNat f.cnt);rotate_left
  ·exact⟨false,f4 [(17,.N t.cnt),(18,.H),(28,.N f.cnt),(29,.G)] qt et qf ef,λ h=>nomatch h⟩
  obtain⟨ra,qa,ia⟩:=aG a (by omega);cases ra
  ·exact⟨false,f5 [(17,.N t.cnt),(18,.H),(28,.N f.cnt),(29,.H),(39,.F)] qt et qf ef qa,λ h=>nomatch h⟩
  obtain⟨rb,qb,ib⟩:=aG b (by omega);cases rb
  ·exact⟨false,f6 [(17,.N t.cnt),(18,.H),(28,.N f.cnt),(29,.H),(39,.T),(39,.F)] qt et qf ef qa qb,λ h=>nomatch h⟩
  exact⟨true,f6 [(17,.N t.cnt),(18,.H),(28,.N f.cnt),(29,.H),(39,.T),(39,.T)] qt et qf ef qa qb,λ _=>by simp_all [Pf.l4,FH]⟩
 | .subst f a b,h=>by
  have h:1+f.cnt+a.cnt+b.cnt<=bA:=h;have hb:=kA;have qf:=eD f (by omega);cases ef:uA (.ofNat 4096) (.ofNat f.cnt);rotate_left
  ·exact⟨false,f2 [(28,.N f.cnt),(29,.G)] qf ef,λ h=>nomatch h⟩
  obtain⟨ra,qa,ia⟩:=aG a (by omega);cases ra
  ·exact⟨false,f3 [(28,.N f.cnt),(29,.H),(39,.F)] qf ef qa,λ h=>nomatch h⟩
  obtain⟨rb,qb,ib⟩:=aG b (by omega);cases rb
  ·exact⟨false,f4 [(28,.N f.cnt),(29,.H),(39,.T),(39,.F)] qf ef qa qb,λ h=>nomatch h⟩
  exact⟨true,f4 [(28,.N f.cnt),(29,.H),(39,.T),(39,.T)] qf ef qa qb,λ _=>by simp_all [Pf.l4,FH]⟩
theorem cG:∀ p:Pf,p.tsz<=qA->∃ r,A 84 [p.p] (.bool r)/\(r=true->p.sh)
 | .leaf u i,h=>by
  have h:0<=qA:=h;have hm:=zA;have hb:=kA;cases u<;>exact⟨true,f1 [(73,.T)] WA,λ _=>by simp_all [Pf.sh]⟩
 | .refl t,h=>by
  have h:t.tsz<=qA:=h;have hm:=zA;have hb:=kA;have qt:=aE t (by omega);cases et:t.shp<;>rw [et] at qt
  ·exact⟨false,f2 [(73,.T),(85,.F)] WA qt,λ h=>nomatch h⟩
  exact⟨true,f2 [(73,.T),(85,.T)] WA qt,λ _=>by simp_all [Pf.sh]⟩
 | .p1 k a,h=>by
  have h:a.tsz<=qA:=h;have hm:=zA;have hb:=kA;obtain⟨ra,qa,ia⟩:=cG a (by omega);cases ra
  ·cases k<;>exact⟨false,f2 [(73,.T),(107,.F)] WA qa,λ h=>nomatch h⟩
  cases k<;>exact⟨true,f2 [(73,.T),(107,.T)] WA qa,λ _=>by simp_all [Pf.sh]⟩
 | .p2 k a b,h=>by
  have h:max a.tsz b.tsz<=qA:=h;have hm:=zA;have hb:=kA;obtain⟨ra,qa,ia⟩:=cG a (by omega);cases ra
  ·cases k<;>exact⟨false,f2 [(73,.T),(107,.F)] WA qa,λ h=>nomatch h⟩
  obtain⟨rb,qb,ib⟩:=cG b (by omega);cases rb
  ·cases k<;>exact⟨false,f3 [(73,.T),(107,.T),(107,.F)] WA qa qb,λ h=>nomatch h⟩
  cases k<;>exact⟨true,f3 [(73,.T),(107,.T),(107,.T)] WA qa qb,λ _=>by simp_all [Pf.sh]⟩
 | .impI f a,h=>by
  have h:max f.tsz a.tsz<=qA:=h;have hm:=zA;have hb:=kA;have qf:=tI f (by omega);cases ef:f.shp<;>rw [ef] at qf
  ·exact⟨false,f2 [(73,.T),(96,.F)] WA qf,λ h=>nomatch h⟩
  obtain⟨ra,qa,ia⟩:=cG a (by omega);cases ra
  ·exact⟨false,f3 [(73,.T),(96,.T),(107,.F)] WA qf qa,λ h=>nomatch h⟩
  exact⟨true,f3 [(73,.T),(96,.T),(107,.T)] WA qf qa,λ _=>by simp_all [Pf.sh]⟩
 | .all u s a,h=>by
  have h:max a.tsz s.size<=qA:=h;have hm:=zA;have hb:=kA;have qs:=PJ s (by omega);rcases rG s with es|es<;>rw [es] at qs;rotate_left
  ·cases u<;>exact⟨false,f1 [(63,.N 4)] qs,λ h=>nomatch h⟩
  obtain⟨ra,qa,ia⟩:=cG a (by omega);cases ra
  ·cases u<;>exact⟨false,f2 [(63,.N 0),(107,.F)] qs qa,λ h=>nomatch h⟩
  cases u<;>exact⟨true,f2 [(63,.N 0),(107,.T)] qs qa,λ _=>⟨chk0 es,ia rfl⟩⟩
 | .ins u t a,h=>by
  have h:max t.tsz a.tsz<=qA:=h;have hm:=zA;have hb:=kA;have qt:=aE t (by omega);cases et:t.shp<;>rw [et] at qt
  ·cases u<;>exact⟨false,f2 [(73,.T),(85,.F)] WA qt,λ h=>nomatch h⟩
  obtain⟨ra,qa,ia⟩:=cG a (by omega);cases ra
  ·cases u<;>exact⟨false,f3 [(73,.T),(85,.T),(107,.F)] WA qt qa,λ h=>nomatch h⟩
  cases u<;>exact⟨true,f3 [(73,.T),(85,.T),(107,.T)] WA qt qa,λ _=>by simp_all [Pf.sh]⟩
 | .ex u f t a,h=>by
  have h:max (max t.tsz f.tsz) a.tsz<=qA:=h;have hm:=zA;have hb:=kA;have qt:=aE t (by omega);cases et:t.shp<;>rw [et] at qt
  ·cases u<;>exact⟨false,f2 [(73,.T),(85,.F)] WA qt,λ h=>nomatch h⟩
  have qf:=tI f (by omega);cases ef:f.shp<;>rw [ef] at qf
  ·cases u<;>exact⟨false,f3 [(73,.T),(85,.T),(96,.F)] WA qt qf,λ h=>nomatch h⟩
  obtain⟨ra,qa,ia⟩:=cG a (by omega);cases ra
  ·cases u<;>exact⟨false,f4 [(73,.T),(85,.T),(96,.T),(107,.F)] WA qt qf qa,λ h=>nomatch h⟩
  cases u<;>exact⟨true,f4 [(73,.T),(85,.T),(96,.T),(107,.T)] WA qt qf qa,λ _=>by simp_all [Pf.sh]⟩
 | .ind l f t a b,h=>by
  have h:max (max (max t.tsz f.tsz) a.tsz) b.tsz<=qA:=h;have hm:=zA;have hb:=kA;have qt:=aE t (by omega);cases et:t.shp<;>rw [et] at qt
  ·cases l<;>exact⟨false,f2 [(73,.T),(85,.F)] WA qt,λ h=>nomatch h⟩
  have qf:=tI f (by omega);cases ef:f.shp<;>rw [ef] at qf
  ·cases l<;>exact⟨false,f3 [(73,.T),(85,.T),(96,.F)] WA qt qf,λ h=>nomatch h⟩
  obtain⟨ra,qa,ia⟩:=cG a (by omega);cases ra
  ·cases l<;>exact⟨false,f4 [(73,.T),(85,.T),(96,.T),(107,.F)] WA qt qf qa,λ h=>nomatch h⟩
  obtain⟨rb,qb,ib⟩:=cG b (by omega);cases rb
  ·cases l<;>exact⟨false,f5 [(73,.T),(85,.T),(96,.T),(107,.T),(107,.F)] WA qt qf qa qb,λ h=>nomatch h⟩
  cases l<;>exact⟨true,f5 [(73,.T),(85,.T),(96,.T),(107,.T),(107,.T)] WA qt qf qa qb,λ _=>by simp_all [Pf.sh]⟩
 | .subst f a b,h=>by
  have h:max (max f.tsz a.tsz) b.tsz<=qA:=h;have hm:=zA;have hb:=kA;have qf:=tI f (by omega);cases ef:f.shp<;>rw [ef] at qf
  ·exact⟨false,f2 [(73,.T),(96,.F)] WA qf,λ h=>nomatch h⟩
  obtain⟨ra,qa,ia⟩:=cG a (by omega);cases ra
  ·exact⟨false,f3 [(73,.T),(96,.T),(107,.F)] WA qf qa,λ h=>nomatch h⟩
  obtain⟨rb,qb,ib⟩:=cG b (by omega);cases rb
  ·exact⟨false,f4 [(73,.T),(96,.T),(107,.T),(107,.F)] WA qf qa qb,λ h=>nomatch h⟩
  exact⟨true,f4 [(73,.T),(96,.T),(107,.T),(107,.T)] WA qf qa qb,λ _=>by simp_all [Pf.sh]⟩
theorem yc (p:Pf) (h:p.cnt<=bA):∃ r,A 43 [p.p] (.bool r)/\(r=true->p.l4/\p.cnt<=16384):=by
 obtain⟨r,h1,q1⟩:=aG p h;cases r
 ·exact⟨false,f1 [(4,.F)] h1,λ h=>nomatch h⟩
 ·cases e : !uA (.ofNat 16384) (.ofNat p.cnt)
  ·exact⟨false,f3 [(4,.T),(7,.N p.cnt),(8,.H)] h1 (YD p h) e,λ h=>nomatch h⟩
  ·exact⟨true,f3 [(4,.T),(7,.N p.cnt),(8,.G)] h1 (YD p h) e,λ _=>⟨q1 rfl,lf_iff.1 (by simpa using e)⟩⟩
theorem dm (p:Pf) (h:p.cnt<=bA) (h':p.tsz<=qA):∃ e,A 35 [p.p] (num e)/\(e=0->p.ck/\p.cnt<=16384):=by
 obtain⟨r,h1,q1⟩:=cG p h';cases r
 ·exact⟨2,f1 [(4,.F)] h1,λ h=>nomatch h⟩
 ·obtain⟨q,h2,q2⟩:=yc p h;cases q
  ·exact⟨4,f2 [(4,.T),(7,.F)] h1 h2,λ h=>nomatch h⟩
  ·exact⟨0,f2 [(4,.T),(7,.T)] h1 h2,λ _=>⟨p.ck_i (q1 rfl) (q2 rfl).1,(q2 rfl).2⟩⟩
abbrev dW (l:List Pf):PV:=.slice (l.map Pf.c)
abbrev pn (n:Nat) (ts fs es:List (List PV)):PV:=.agg [num n,num 0,num 0,.slice [],.slice ts,.slice fs,.slice es]
theorem VM (n:Nat) (a:Pf):A 54 [num n,dW [a]] (pn n [] [] [a.c]):=f1 [(19,.r a.p)] (XD a)
theorem GH (n:Nat) (a b:Pf):A 54 [num n,dW [a,b]] (pn n [] [] [a.c,b.c]):=f2 [(19,.r a.p),(19,.r b.p)] (XD a) (XD b)
theorem uc (f:Fm) (a:Pf):A 56 [f.p,a.p] (Pf.impI f a).p:=f2 [(8,.r (pn 6 [] [] [a.c])),(10,.r f.p)] (VM 6 a) (aD f)
theorem uP (u:Bool) (s:Ty) (a:Pf):A 58 [num (bn u 8 12),s.p,a.p] (Pf.all u s a).p:=f2 [(11,.r (pn (bn u 8 12) [] [] [a.c])),(13,.r s.p)] (VM (bn u 8 12) a) (FC s)
theorem fW (n:Nat) (t:Tm) (a:Pf):A 60 [num n,t.p,a.p] (pn n [t.c] [] [a.c]):=f2 [(11,.r (pn n [] [] [a.c])),(13,.r t.p)] (VM n a) (SB t)
theorem bc (u:Bool) (t:Tm) (a:Pf):A 60 [num (bn u 9 13),t.p,a.p] (Pf.ins u t a).p:=fW (bn u 9 13) t a
theorem oI (u:Bool) (f:Fm) (t:Tm) (a:Pf):A 64 [num (bn u 10 14),f.p,t.p,a.p] (Pf.ex u f t a).p:=f2 [(13,.r (pn (bn u 10 14) [t.c] [] [a.c])),(15,.r f.p)] (fW (bn u 10 14) t a) (aD f)
theorem lW (l:Bool) (f:Fm) (t:Tm) (a b:Pf):A 67 [num (bn l 16 17),f.p,t.p,a.p,b.p] (Pf.ind l f t a b).p:=f3 [(16,.r (pn (bn l 16 17) [] [] [a.c,b.c])),(18,.r t.p),(22,.r f.p)] (GH (bn l 16 17) a b) (SB t) (aD f)
theorem dc (f:Fm) (a b:Pf):A 70 [f.p,a.p,b.p] (Pf.subst f a b).p:=f2 [(11,.r (pn 19 [] [] [a.c,b.c])),(13,.r f.p)] (GH 19 a b) (aD f)
theorem sB (t:Tm):A 19 [t.p] (Pf.refl t).p:=f1 [(4,.r t.p)] (SB t)
theorem CF (i:Nat):A 68 [num i] (Pf.leaf false i).p:=f0 []
def mW (g s:Tm) (p:Pf):Pf:=.subst (.eq (.n2 .app (g.sh 0 1) (s.sh 0 1)) (.n2 .app (g.sh 0 1) (.v 0))) p (.refl (.n2 .app g s))
theorem fm (g s:Tm) (p:Pf) (h1:g.mx<=qA * qA) (h2:g.cnt<=qA) (h3:s.mx<=qA * qA) (h4:s.cnt<=qA):A 151 [g.p,s.p,p.p] (mW g s p).p:=by
 have hm:=zA;have g1:=tG g 0 1 (by omega) (by omega) h1 (by omega);have g2:=tG s 0 1 (by omega) (by omega) h3 (by omega);exact f9 [(8,.n [(7,.r (g.sh 0 1).p)]),(10,.n [(7,.r (s.sh 0 1).p)]),(12,.r (Tm.n2 .app (g.sh 0 1) (s.sh 0 1)).p),(14,.n [(7,.r (g.sh 0 1).p)]),(17,.r (Tm.n2 .app (g.sh 0 1) (.v 0)).p),(18,.r (Fm.eq (.n2 .app (g.sh 0 1) (s.sh 0 1)) (.n2 .app (g.sh 0 1) (.v 0))).p),(23,.r (Tm.n2 .app g s).p),(24,.r (Pf.refl (.n2 .app g s)).p),(25,.r (mW g s p).p)]
  g1 g2 (cF 3 (g.sh 0 1) (s.sh 0 1)) g1 (cF 3 (g.sh 0 1) (.v 0)) (PE (.n2 .app (g.sh 0 1) (s.sh 0 1)) (.n2 .app (g.sh 0 1) (.v 0))) (cF 3 g s) (sB (.n2 .app g s)) (dc (.eq (.n2 .app (g.sh 0 1) (s.sh 0 1)) (.n2 .app (g.sh 0 1) (.v 0))) p (.refl (.n2 .app g s)))
def sucT:Tm:=.lam .nat (.n1 .succ (.v 0))
def pl0:Tm:=.n2 .app (.n2 .app plusT (.n0 .zero)) (.v 0)
def stepP:Pf:=mW sucT pl0 (.leaf false 0)
theorem mm:A 43 [stepP.p] (.bool true):=by
 have g1:A 91 [(Pf.leaf false 0).p] (.bool true):=f0 [];have g2:A 91 [(Pf.refl (.n2 .app sucT pl0)).p] (.bool true):=f1 [(17,.N (Tm.n2 .app sucT pl0).cnt)] (qB (.n2 .app sucT pl0) (by decide));let F:Fm:=.eq (.n2 .app (sucT.sh 0 1) (pl0.sh 0 1)) (.n2 .app (sucT.sh 0 1) (.v 0));have g3:A 91 [stepP.p] (.bool true):=f3 [(28,.N F.cnt),(39,.T),(39,.T)] (eD F (by decide)) g1 g2;exact f2 [(4,.T),(7,.N stepP.cnt)] g3 (YD stepP (by decide))
theorem pm:A 152 [row [sucT,pl0,.v 0],.slice [],dW [.leaf false 0]] (num 0):=by
 have g1:A 84 [(Pf.leaf false 0).p] (.bool true):=f0 [];have g2:A 43 [(Pf.leaf false 0).p] (.bool true):=f0 [];have g3:A 35 [(Pf.leaf false 0).p] (num 0):=f2 [(4,.T),(7,.T)] g1 g2;exact f4 [(23,.N sucT.chk),(23,.N pl0.chk),(23,.N (Tm.v 0).chk),(47,.N 0)] (a31 sucT (by decide) (by decide)) (a31 pl0 (by decide) (by decide)) (a31 (.v 0) (by decide) (by decide)) g3
theorem rm:A 112 [sucT.p,pl0.p,(Tm.v 0).p,(Pf.leaf false 0).p] (.tuple [stepP.p,num 0]):=by
 have g1:A 150 [stepP.p,num 0] (.tuple [stepP.p,num 0]):=f2 [(11,.T),(15,.r stepP.p)] mm (XD stepP);exact f3 [(13,.r stepP.p),(20,.N 0),(21,.U [stepP.p,num 0])] (fm sucT pl0 (.leaf false 0) (by decide) (by decide) (by decide) (by decide)) pm g1
open Go.Lg
section
variable {f i bs:Nat} {s s':IS} {e:AE}
theorem y1 (tp:Di) (ko:Kp) {H1 N:Prop} (h1:H1) (m:N) (q:(H1/\e=e/\N/\s'=s')=Rd f i bs s tp ko ko e s':=by kernel_rfl):Lp f i bs s e s':=rk tp ko ko ⟨h1,rfl,m,rfl⟩ q
theorem y2 (tp:Di) (ko:Kp) {H1 H2 N:Prop} (h1:H1) (h2:H2) (m:N) (q:(H1/\H2/\e=e/\N/\s'=s')=Rd f i bs s tp ko ko e s':=by kernel_rfl):Lp f i bs s e s':=rk tp ko ko ⟨h1,h2,rfl,m,rfl⟩ q
theorem y3 (tp:Di) (ko:Kp) {H1 H2 H3 N:Prop} (h1:H1) (h2:H2) (h3:H3) (m:N) (q:(H1/\H2/\H3/\e=e/\N/\s'=s')=Rd f i bs s tp ko ko e s':=by kernel_rfl):Lp f i bs s e s':=rk tp ko ko ⟨h1,h2,h3,rfl,m,rfl⟩ q
theorem y5 (tp:Di) (ko:Kp) {H1 H2 H3 H4 H5 N:Prop} (h1:H1) (h2:H2) (h3:H3) (h4:H4) (h5:H5) (m:N) (q:(H1/\H2/\H3/\H4/\H5/\e=e/\N/\s'=s')=Rd f i bs s tp ko ko e s':=by kernel_rfl):Lp f i bs s e s':=rk tp ko ko ⟨h1,h2,h3,h4,h5,rfl,m,rfl⟩ q
end
abbrev fA (l:List Fm):PV:=.slice (l.map Fm.c)
theorem Fm.c_len (f:Fm):f.c.length=5:=rfl
abbrev KA (ls:List Fm) (g:List Ty) (hs:List Fm):PV:=.agg [fA ls,AA g,fA hs]
def jC (c:Fm->Fm):List (List V)->Nat->List Fm->List (List V)
 | E,_,[]=>E
 | E,n,f::r=>jC c (E.take n++[xA (c f).c]) (n+1) r
theorem pvE_len (A:List (List PV)):(vA A).length=A.length:=by
 induction A with
 | nil=>rfl
 | cons a r ih=>show (xA a::vA r).length=_;simp [ih]
theorem pvE_app (A B:List (List PV)):vA (A++B)=vA A++vA B:=by
 induction A with
 | nil=>rfl
 | cons a r ih=>show xA a::vA (r++B)=xA a::vA r++vA B;rw [ih];rfl
theorem nW (c:Fm->Fm):∀ (r:List Fm) (A:List (List PV)),jC c (vA A) A.length r=vA (A++r.map λ f=>(c f).c)
 | [],A=>by simp [jC]
 | f::r,A=>by
  have h1:(vA A).take A.length++[xA (c f).c]=vA (A++[(c f).c]):=by
   rw [List.take_of_length_le (by rw [pvE_len];exact Nat.le_refl _),pvE_app];rfl
  have h2:A.length+1=(A++[(c f).c]).length:=by simp
  simp only [jC];rw [h1,h2,nW c r];simp
theorem pW:∀ l:List PV,EA (xA l)=[]
 | []=>rfl
 | c::r=>by show V.names (.pv c)++EA (xA r)=[];rw [pW r];rfl
theorem bP (E:List (List V)) (n:Nat) (c:List PV) (h:jB E=[]):jB (E.take n++[xA c])=[]:=by
 have h1:∀ (E:List (List V)) (n:Nat),jB E=[]->jB (E.take n)=[]:=by
  intro E
  induction E with
  | nil=>intro n _;simp [jB]
  | cons e r ih =>
   intro n h
   cases n with
   | zero=>rfl
   | succ n =>
    simp only [jB,List.append_eq_nil_iff] at h;simp only [List.take_succ_cons,jB,h.1,ih n h.2,List.append_nil]
 have h2:∀ (E F:List (List V)),jB (E++F)=jB E++jB F:=by
  intro E F
  induction E with
  | nil=>rfl
  | cons e r ih=>simp [jB,ih]
 rw [h2,h1 E n h];simp [jB,pW]
theorem dP {v n m sz ty:Nat} {E ys:List (List V)} (hE:E.length=n) (h0:0<sz) (h1:gC sz ys=true) (h2:lC ys=true) (h3:n+ys.length<=maxLen) (h4:(n+ys.length) * m<=140737488355328) :
  (Nat.beq v v && Nat.ble n E.length && Nat.beq ty ty && Nat.beq sz sz && Nat.blt 0 sz && gC sz ys && lC ys && Nat.ble (n+ys.length) maxLen && Nat.ble ((n+ys.length) * m) 140737488355328)=true:=by
 have h5:Nat.blt 0 sz=true:=by rw [OG];simpa using h0
 rw [h1,h2,h5,hE,Nat.ble_eq_true_of_le h3,Nat.ble_eq_true_of_le h4,Nat.ble_eq_true_of_le (Nat.le_refl n)];simp
abbrev rW:Kp:=⟨[1,4,5,23,24,25],[1,2,4],5,[]⟩
abbrev ZD:List PV:=[.nils,.nils,.nils]
abbrev fP (l:List Ty) (hs:List Fm) (k:Nat):List (Nat × V):=[(1,.pv (AA l)),(4,.loc 1 0),(5,.loc 2 0),(23,.pv (fA hs)),(24,.pv (num (hs.map Fm.c).length)),(25,.pv (num k))]
abbrev sm (ls:PV) (g:PV) (l:List Ty) (hs:List Fm) (k v n:Nat) (E:List (List V)):IS:=st (fP l hs k) [(1,bx ZD),(2,.box [.pv ls,.pv g,.arr 4 v n]),(4,.arr v 5 36 E)] 5 []
abbrev am (ls g:PV) (v n:Nat) (E:List (List V)):IS:=st [(4,.loc 1 0),(5,.loc 2 0)] [(1,bx ZD),(2,.box [.pv ls,.pv g,.arr 4 v n]),(4,.arr v 5 36 E)] 5 []
theorem sW (ls g:PV) (l:List Ty) (hz:l.length<=16) {hs:List Fm} (hl:hs.length<=qA):∀ (r:List Fm) (k v n:Nat) (E:List (List V)),hs.drop k=r->E.length=n->n+r.length<=qA->jB E=[]->(∀ f∈r,f.mx<=qA * qA/\f.cnt<=qA) ->
  ∃ v',Lp 222 0 0 (sm ls g l hs k v n E) (.exit 0) (am ls g v' (n+r.length) (jC (Fm.sh 0 (.ofNat (l.map Ty.c).length)) E n r))
 | [],k,v,n,E,h,h1,h2,h3,h4=>by
  have e:uA (.ofNat k) (.ofNat (hs.map Fm.c).length)=false:=JA (by simpa using nG h);exact⟨v,y1 [(26,.H)] ⟨[4,5],[1,2,4],5,[]⟩ e h3⟩
 | f::r,k,v,n,E,h,h1,h2,h3,h4=>by
  have hm:=zA;obtain⟨d1,d2,d3⟩:=mG h;have e:uA (.ofNat k) (.ofNat (hs.map Fm.c).length)=true:=cA (by simpa using d2);have hb:=h4 f (by simp);have h2:n+(r.length+1)<=qA:=by simpa using h2
  have g1:=gD f 0 (.ofNat (l.map Ty.c).length) (by simp) (by simp;omega) hb.1 (by omega);have g2:(Nat.beq v v && Nat.ble n E.length && Nat.beq 40 40 && Nat.beq 5 5 && Nat.blt 0 5 && gC 5 [xA (f.sh 0 (.ofNat (l.map Ty.c).length)).c] && lC [xA (f.sh 0 (.ofNat (l.map Ty.c).length)).c] && Nat.ble (n+[xA (f.sh 0 (.ofNat (l.map Ty.c).length)).c].length) maxLen && Nat.ble ((n+[xA (f.sh 0 (.ofNat (l.map Ty.c).length)).c].length) * 88) 140737488355328)=true :=
   dP h1 (by decide) rfl rfl (by simp only [maxLen,List.length_singleton];omega) (by simp only [List.length_singleton];omega)
  have g3:=rA (show k+1<=_ by omega);have g4:=bP E n (f.sh 0 (.ofNat (l.map Ty.c).length)).c h3;obtain⟨v',ih⟩:=sW ls g l hz hl r (k+1) (v+1) (n+1) (E.take n++[xA (f.sh 0 (.ofNat (l.map Ty.c).length)).c]) d3 (by simp [h1]) (by omega) g4 (λ f hf=>h4 f (by simp [hf]));rw [show n+1+r.length=n+(f::r).length by simp;omega] at ih;exact⟨v',n7 [(26,.G),(27,.i f.c),(34,.r (f.sh 0 (.ofNat (l.map Ty.c).length)).p),(36,.ok),(38,.ok)] rW e (kB d1 Fm.c_len) g1 g2 g3 g4 ih⟩
theorem gP (g:List Ty):(Nat.beq (g.map Ty.c).length (g.map Ty.c).length && Nat.beq (g.map Ty.c).length (g.map Ty.c).length)=true:=oF _
theorem fc {α:Type} {c:α->List PV} (n m:Nat) (hn:∀ t,(c t).length=n) (h0:0<n) (g:List α) (s u:α) (h:(g.length+2) * m<=140737488355328) (hg:g.length+2<=maxLen) :
  (yC n (g.map c) && yC n [c s,c u] && Nat.blt 0 n && Nat.ble ((g.map c).length+[c s,c u].length) maxLen && Nat.ble (((g.map c).length+[c s,c u].length) * m) 140737488355328)=true:=by
 have h1:yC n (g.map c)=true:=OM λ y hy=>by obtain⟨t,_,rfl⟩:=List.mem_map.1 hy;exact hn t
 have h2:yC n [c s,c u]=true:=OM λ y hy=>by simp at hy;rcases hy with rfl|rfl<;>exact hn _
 have h3:Nat.blt 0 n=true:=by rw [OG];simpa using h0
 rw [h1,h2,h3];simp only [List.length_map,List.length_cons,List.length_nil,Bool.true_and];rw [Nat.ble_eq_true_of_le hg,Nat.ble_eq_true_of_le h];rfl
theorem tW (ls:List Fm) (g:List Ty) (s:Ty) (hs:List Fm) (hg:g.length<=qA-2) (hl:hs.length<=1024) (hh:∀ f∈hs,f.mx<=qA * qA/\f.cnt<=qA):A 222 [KA ls g hs,AA [s]] (KA ls (g++[s]) (hs.map (Fm.sh 0 1))):=by
 have hm:=zA;have g1:=gP g;have g2:=OE 2 32 Ty.c_len (by decide) g s (by omega) (by simp only [maxLen];omega);simp only [KA,AA,List.map_append,List.map_cons,List.map_nil];let g':PV:=.slice (g.map Ty.c++[s.c])
 cases hs with
 | nil =>
  have h1:Lp 222 0 0 (st (fP [s] [] 0) [(1,bx ZD),(2,bx [fA ls,g',.nils])] 3 []) (.exit 0) (st [(4,.loc 1 0),(5,.loc 2 0)] [(1,bx ZD),(2,bx [fA ls,g',.nils])] 3 []) :=
   x0 [] ⟨[4,5],[1,2],3,[]⟩
  exact f3 [(18,.ok),(20,.ok),(100003,.l ⟨[1,4,5,23,24,25],[1,2],3,[]⟩ (.exit 0) (st [(4,.loc 1 0),(5,.loc 2 0)] [(1,bx ZD),(2,bx [fA ls,g',.nils])] 3 []))] g1 g2 h1
 | cons f hs =>
  have hl:hs.length+1<=1024:=hl;have hf:=hh f (by simp);let ps:=(f::hs).map λ f=>(f.sh 0 1).c
  obtain⟨v,h1⟩:=sW (fA ls) g' [s] (by simp) (hs:=f::hs) (by simp;omega) hs 1 1 1 (vA [(f.sh 0 1).c]) rfl rfl (by omega) (bP [] 0 _ rfl) (λ f hf=>hh f (by simp [hf]));have hE:jC (Fm.sh 0 (.ofNat (([s]:List Ty).map Ty.c).length)) (vA [(f.sh 0 1).c]) 1 hs=vA ps:=nW (Fm.sh 0 1) hs [(f.sh 0 1).c];rw [hE] at h1;have h2:=LoopIs.fz (by simp) h1 4 (ver:=v) (sz:=5) (ty:=36) (ps:=ps) rfl (by kernel_rfl);simp (decide:=true) only [rE,FD,cC,ZB,BC,bx,ZD,List.map,tD,and_self,↓reduceIte,List.take_of_length_le (show ps.length<=1+hs.length by simp [ps];omega)] at h2;have e:uA (.ofNat 0) (.ofNat ((f::hs).map Fm.c).length)=true:=cA (by simp);have h3:Lp 222 0 0 (st (fP [s] (f::hs) 0) [(1,bx ZD),(2,bx [fA ls,g',.nils])] 3 []) (.exit 0) (st [(4,.loc 1 0),(5,.loc 2 0)] [(1,bx ZD),(2,bx [fA ls,g',.slice ps])] 5 []) :=
   n6 [(26,.G),(27,.i f.c),(34,.r (f.sh 0 1).p),(38,.ok)] rW e (kB (g:=f::hs) (k:=0) rfl Fm.c_len) (gD f 0 1 (by omega) (by omega) hf.1 (by omega)) (rA (show 0+1<=_ by omega)) (bP [] 0 (f.sh 0 1).c rfl) h2
  have h4:fA ((f::hs).map (Fm.sh 0 1)) = .slice ps:=by simp [ps,fA,Function.comp_def]
  rw [h4];exact f3 [(18,.ok),(20,.ok),(100003,.l ⟨[1,4,5,23,24,25],[1,2],3,[]⟩ (.exit 0) (st [(4,.loc 1 0),(5,.loc 2 0)] [(1,bx ZD),(2,bx [fA ls,g',.slice ps])] 5 []))] g1 g2 h3
theorem im (ls:List Fm) (g:List Ty) (s u:Ty) (hs:List Fm) (hg:g.length<=qA-2) (hl:hs.length<=1024) (hh:∀ f∈hs,f.mx<=qA * qA/\f.cnt<=qA):A 222 [KA ls g hs,AA [s,u]] (KA ls (g++[s,u]) (hs.map (Fm.sh 0 2))):=by
 have hm:=zA;have g1:=gP g;have g2:=fc 2 32 Ty.c_len (by decide) g s u (by omega) (by simp only [maxLen];omega);simp only [KA,AA,List.map_append,List.map_cons,List.map_nil];let g':PV:=.slice (g.map Ty.c++[s.c,u.c])
 cases hs with
 | nil =>
  have h1:Lp 222 0 0 (st (fP [s,u] [] 0) [(1,bx ZD),(2,bx [fA ls,g',.nils])] 3 []) (.exit 0) (st [(4,.loc 1 0),(5,.loc 2 0)] [(1,bx ZD),(2,bx [fA ls,g',.nils])] 3 []) :=
   x0 [] ⟨[4,5],[1,2],3,[]⟩
  exact f3 [(18,.ok),(20,.ok),(100003,.l ⟨[1,4,5,23,24,25],[1,2],3,[]⟩ (.exit 0) (st [(4,.loc 1 0),(5,.loc 2 0)] [(1,bx ZD),(2,bx [fA ls,g',.nils])] 3 []))] g1 g2 h1
 | cons f hs =>
  have hl:hs.length+1<=1024:=hl;have hf:=hh f (by simp);let ps:=(f::hs).map λ f=>(f.sh 0 2).c
  obtain⟨v,h1⟩:=sW (fA ls) g' [s,u] (by simp) (hs:=f::hs) (by simp;omega) hs 1 1 1 (vA [(f.sh 0 2).c]) rfl rfl (by omega) (bP [] 0 _ rfl) (λ f hf=>hh f (by simp [hf]));have hE:jC (Fm.sh 0 (.ofNat (([s,u]:List Ty).map Ty.c).length)) (vA [(f.sh 0 2).c]) 1 hs=vA ps:=nW (Fm.sh 0 2) hs [(f.sh 0 2).c];rw [hE] at h1;have h2:=LoopIs.fz (by simp) h1 4 (ver:=v) (sz:=5) (ty:=36) (ps:=ps) rfl (by kernel_rfl);simp (decide:=true) only [rE,FD,cC,ZB,BC,bx,ZD,List.map,tD,and_self,↓reduceIte,List.take_of_length_le (show ps.length<=1+hs.length by simp [ps];omega)] at h2;have e:uA (.ofNat 0) (.ofNat ((f::hs).map Fm.c).length)=true:=cA (by simp);have h3:Lp 222 0 0 (st (fP [s,u] (f::hs) 0) [(1,bx ZD),(2,bx [fA ls,g',.nils])] 3 []) (.exit 0) (st [(4,.loc 1 0),(5,.loc 2 0)] [(1,bx ZD),(2,bx [fA ls,g',.slice ps])] 5 []) :=
   n6 [(26,.G),(27,.i f.c),(34,.r (f.sh 0 2).p),(38,.ok)] rW e (kB (g:=f::hs) (k:=0) rfl Fm.c_len) (gD f 0 2 (by omega) (by omega) hf.1 (by omega)) (rA (show 0+1<=_ by omega)) (bP [] 0 (f.sh 0 2).c rfl) h2
  have h4:fA ((f::hs).map (Fm.sh 0 2)) = .slice ps:=by simp [ps,fA,Function.comp_def]
  rw [h4];exact f3 [(18,.ok),(20,.ok),(100003,.l ⟨[1,4,5,23,24,25],[1,2],3,[]⟩ (.exit 0) (st [(4,.loc 1 0),(5,.loc 2 0)] [(1,bx ZD),(2,bx [fA ls,g',.slice ps])] 5 []))] g1 g2 h3
theorem lP (ls:List Fm) (g:List Ty) (hs:List Fm) (v h:Nat) (h1:g.length+v<=qA) (h2:hs.length+h<=qA):∃ e,A 155 [KA ls g hs,num v,num h] (num e)/\(e=0->g.length+v<=16/\hs.length+h<=16):=by
 have hm:=zA;have g1:aA (Int.ofNat (g.map Ty.c).length + .ofNat v)=true:=rA (n:=(g.map Ty.c).length+v) (by simp;omega);have g2:aA (Int.ofNat (hs.map Fm.c).length + .ofNat h)=true:=rA (n:=(hs.map Fm.c).length+h) (by simp;omega);by_cases c1:g.length+v<=16
 ·have e1:uA (.ofNat 16) (.ofNat ((g.map Ty.c).length+v))=false:=JA (by simpa using c1);by_cases c2:hs.length+h<=16
  ·have e2:uA (.ofNat 16) (.ofNat ((hs.map Fm.c).length+h))=false:=JA (by simpa using c2);exact⟨0,f4 [(11,.ok),(12,.H),(18,.ok),(19,.H)] g1 e1 g2 e2,λ _=>⟨c1,c2⟩⟩
  ·have e2:uA (.ofNat 16) (.ofNat ((hs.map Fm.c).length+h))=true:=cA (by simpa using c2);exact⟨3,f4 [(11,.ok),(12,.H),(18,.ok),(19,.G)] g1 e1 g2 e2,nofun⟩
 ·have e1:uA (.ofNat 16) (.ofNat ((g.map Ty.c).length+v))=true:=cA (by simpa using c1);exact⟨3,f2 [(11,.ok),(12,.G)] g1 e1,nofun⟩
theorem rS (ls:List Fm) (g:List Ty) (hs:List Fm) (f:Fm) (h:hs.length+1<=qA):A 156 [KA ls g hs,f.p] (KA ls g (hs++[f])):=by
 have hm:=zA;have g1:=oF (hs.map Fm.c).length;have g2:=OE 5 88 Fm.c_len (by decide) hs f (by omega) (by simp only [maxLen];omega);simp only [KA,fA,List.map_append,List.map_cons,List.map_nil];exact f2 [(13,.ok),(16,.ok)] g1 g2
abbrev ic (n:Nat):List PV:=[num n]
abbrev dA (l:List Nat):PV:=.slice (l.map ic)
theorem UJ (n:Nat):(ic n).length=1:=rfl
theorem xI (A:List (List PV)) (c:List PV):vA (A++[c])=(vA A).take A.length++[xA c]:=by
 rw [List.take_of_length_le (by rw [pvE_len];exact Nat.le_refl _),pvE_app];rfl
theorem QC (A:List (List PV)):jB (vA A)=[]:=by
 induction A with
 | nil=>rfl
 | cons a r ih=>show EA (xA a)++jB (vA r)=[];rw [pW,ih];rfl
theorem DF (A:List (List PV)) (c:List PV):jB ((vA A).take A.length++[xA c])=[]:=by rw [<- xI];exact QC _
def LA (n:Nat):List Nat->List Nat
 | []=>[]
 | x::r=>if n<=x then (x-n)::LA n r else LA n r
theorem WM {n v:Nat} : ∀ {l:List Nat},v+n∈l->v∈LA n l
 | [],h=>by cases h
 | x::r,h=>by
  simp only [LA];rcases List.mem_cons.1 h with h|h
  ·subst h;rw [if_pos (by omega)];simp
  ·split
   ·exact List.mem_cons_of_mem _ (WM h)
   ·exact WM h
theorem mP {n M:Nat} : ∀ {l:List Nat},(∀ x∈l,x<=M)->∀ x∈LA n l,x<=M
 | [],_,x,h=>by cases h
 | y::r,hl,x,h=>by
  simp only [LA] at h;have h1:=hl y (by simp);split at h
  ·rcases List.mem_cons.1 h with rfl|h
   ·omega
   ·exact mP (λ z hz=>hl z (by simp [hz])) x h
  ·exact mP (λ z hz=>hl z (by simp [hz])) x h
theorem nP (n:Nat):∀ (l:List Nat),(LA n l).length<=l.length
 | []=>Nat.le_refl _
 | x::r=>by
  have:=nP n r;simp only [LA];split<;>simp<;>omega
abbrev aW (n:Nat) (l:List Nat) (k:Nat) (x:V):List (Nat × V):=[(1,.pv (num n)),(5,x),(8,.pv (dA l)),(9,.pv (num (l.map ic).length)),(10,.pv (num k))]
abbrev cW:Kp:=⟨[1,5,8,9,10],[0],1,[]⟩
theorem iW (n:Nat) {l:List Nat} (hl:l.length<=qA) (hb:∀ x∈l,x<=bA):∀ (r:List Nat) (k v:Nat) (A:List (List PV)),l.drop k=r->A.length+r.length<=qA ->
  ∃ v',Lp 223 0 0 (st (aW n l k (.arr 0 v A.length)) [(0,.arr v 1 3 (vA A))] 1 []) (.exit 0) (st [(5,.arr 0 v' (A.length+(LA n r).length))] [(0,.arr v' 1 3 (vA (A++(LA n r).map ic)))] 1 [])
 | [],k,v,A,h,h1=>by
  have e:uA (.ofNat k) (.ofNat (l.map ic).length)=false:=JA (by simpa using nG h);simp only [LA,List.map_nil,List.append_nil,List.length_nil,Nat.add_zero];exact⟨v,y1 [(11,.H)] ⟨[5],[0],1,[]⟩ e (QC A)⟩
 | x::r,k,v,A,h,h1=>by
  have hm:=zA;have hbb:=kA;obtain⟨d1,d2,d3⟩:=mG h;have e:uA (.ofNat k) (.ofNat (l.map ic).length)=true:=cA (by simpa using d2);have hx:=hb x (List.mem_of_getElem? d1);have h1:A.length+(r.length+1)<=qA:=by simpa using h1
  have g3:=rA (show k+1<=_ by omega);by_cases c:n<=x
  ·have e2:(!uA (.ofNat x) (.ofNat n))=true:=CH c;have g4:aA (Int.ofNat x - .ofNat n)=true/\Int.ofNat x - .ofNat n = .ofNat (x-n):=by
    have e:Int.ofNat x - .ofNat n = .ofNat (x-n):=by simp;omega
    exact⟨by rw [e];exact fB (by omega),e⟩
   have g5:(Nat.beq v v && Nat.ble A.length (vA A).length && Nat.beq 3 3 && Nat.beq 1 1 && Nat.blt 0 1 && gC 1 [xA (ic (x-n))] && lC [xA (ic (x-n))] && Nat.ble (A.length+[xA (ic (x-n))].length) maxLen && Nat.ble ((A.length+[xA (ic (x-n))].length) * 8) 140737488355328)=true :=
    dP (pvE_len A) (by decide) rfl rfl (by simp only [maxLen,List.length_singleton];omega) (by simp only [List.length_singleton];omega)
   obtain⟨v',ih⟩:=iW n hl hb r (k+1) (v+1) (A++[ic (x-n)]) d3 (by simp;omega);have e3:LA n (x::r)=(x-n)::LA n r:=by simp only [LA,if_pos c]
   rw [e3];rw [xI,show (A++[ic (x-n)]).length=A.length+1 by simp,show A.length+1+(LA n r).length=A.length+((x-n)::LA n r).length by simp;omega,List.append_assoc] at ih;exact⟨v',n8 [(11,.G),(12,.i (ic x)),(16,.G),(20,.z (x-n)),(22,.ok),(23,.ok)] cW e (kB d1 UJ) e2 g4 g5 g3 (DF A (ic (x-n))) ih⟩
  ·have e2:(!uA (.ofNat x) (.ofNat n))=false:=xF (by omega);obtain⟨v',ih⟩:=iW n hl hb r (k+1) v A d3 (by omega);have e3:LA n (x::r)=LA n r:=by simp only [LA,if_neg c]
   rw [e3];exact⟨v',n6 [(11,.G),(12,.i (ic x)),(16,.H),(23,.ok)] cW e (kB d1 UJ) e2 g3 (QC A) ih⟩
theorem lc (n:Nat) {l:List Nat} (hl:l.length<=qA) (hb:∀ x∈l,x<=bA):∀ (r:List Nat) (k:Nat),l.drop k=r ->
  (LA n r=[]/\Lp 223 0 0 (st (aW n l k (.pv .nils)) [] 0 []) (.exit 0) (st [(5,.pv .nils)] [] 0 [])) \/ ∃ v',Lp 223 0 0 (st (aW n l k (.pv .nils)) [] 0 []) (.exit 0) (st [(5,.arr 0 v' (LA n r).length)] [(0,.arr v' 1 3 (vA ((LA n r).map ic)))] 1 [])
 | [],k,h=>by
  have e:uA (.ofNat k) (.ofNat (l.map ic).length)=false:=JA (by simpa using nG h);exact .inl ⟨rfl,x1 [(11,.H)] ⟨[5],[],0,[]⟩ e⟩
 | x::r,k,h=>by
  have hm:=zA;have hbb:=kA;obtain⟨d1,d2,d3⟩:=mG h;have e:uA (.ofNat k) (.ofNat (l.map ic).length)=true:=cA (by simpa using d2);have hx:=hb x (List.mem_of_getElem? d1);have g3:=rA (show k+1<=_ by omega);by_cases c:n<=x
  ·have e2:(!uA (.ofNat x) (.ofNat n))=true:=CH c;have g4:aA (Int.ofNat x - .ofNat n)=true/\Int.ofNat x - .ofNat n = .ofNat (x-n):=by
    have e:Int.ofNat x - .ofNat n = .ofNat (x-n):=by simp;omega
    exact⟨by rw [e];exact fB (by omega),e⟩
   have hr:r.length<=l.length:=by rw [<- d3];simp
   have hr2:r.length+1<=l.length:=by
    have:=congrArg List.length h;simp at this;omega
   obtain⟨v',ih⟩:=iW n hl hb r (k+1) 1 [ic (x-n)] d3 (by simp;omega);have e3:LA n (x::r)=(x-n)::LA n r:=by simp only [LA,if_pos c]
   rw [e3];rw [show [ic (x-n)].length+(LA n r).length=((x-n)::LA n r).length by simp;omega] at ih;exact .inr ⟨v',n7 [(11,.G),(12,.i (ic x)),(16,.G),(20,.z (x-n)),(23,.ok)] cW e (kB d1 UJ) e2 g4 g3 (QC [ic (x-n)]) ih⟩
  ·have e2:(!uA (.ofNat x) (.ofNat n))=false:=xF (by omega);have e3:LA n (x::r)=LA n r:=by simp only [LA,if_neg c]
   rw [e3];rcases lc n hl hb r (k+1) d3 with ⟨h4,ih⟩|⟨v',ih⟩
   ·exact .inl ⟨h4,n5 [(11,.G),(12,.i (ic x)),(16,.H),(23,.ok)] ⟨[1,5,8,9,10],[],0,[]⟩ e (kB d1 UJ) e2 g3 ih⟩
   ·exact .inr ⟨v',n5 [(11,.G),(12,.i (ic x)),(16,.H),(23,.ok)] ⟨[1,5,8,9,10],[],0,[]⟩ e (kB d1 UJ) e2 g3 ih⟩
theorem sS (n:Nat) (l:List Nat) (hl:l.length<=qA) (hb:∀ x∈l,x<=bA):A 223 [dA l,num n] (dA (LA n l)):=by
 rcases lc n hl hb l 0 rfl with ⟨h1,h2⟩|⟨v,h2⟩
 ·rw [h1];exact f1 [(100003,.l ⟨[1,5,8,9,10],[],0,[]⟩ (.exit 0) (st [(5,.pv .nils)] [] 0 []))] h2
 ·have h3:=LoopIs.fz (by simp) h2 0 (ver:=v) (sz:=1) (ty:=3) (ps:=(LA n l).map ic) rfl (by kernel_rfl);simp (decide:=true) only [rE,FD,cC,ZB,BC,List.map,tD,and_self,↓reduceIte,List.take_of_length_le (show ((LA n l).map ic).length<=(LA n l).length by simp)] at h3;exact f1 [(100003,.l ⟨[1,5,8,9,10],[],0,[]⟩ (.exit 0) (st [(5,.pv (dA (LA n l)))] [] 1 []))] h3
open Go.Lg
def aq:Bool->FQ
 | false => .all
 | true => .allU
def Fm.pt (f:Fm) (t:Tm):FR:=if f.cnt+f.occ 0 * (t.cnt-1)<=4096 then .ok (f.put 0 t 0) else .er 3
abbrev Fm.low (f:Fm):Fm:=f.put 0 (.v 0) 0
def iB:Fm->Option Fm
 | .eq a b=>match ID a with
  | .ok x _=>match ID b with
   | .ok y _=>some (.eq x y)
   | .er _=>none
  | .er _=>none
 | .bin k f g=>match iB f with
  | some x=>match iB g with
   | some y=>some (.bin k x y)
   | none=>none
  | none=>none
 | .q k s f=>match iB f with
  | some x=>some (.q k s x)
  | none=>none
def IC (f:Fm):Option Fm:=if f.occ 0=0 then some f.low else match iB f with
 | some g=>if g.occ 0=0 then some g.low else none
 | none=>none
inductive Jt where
 | leaf (u:Bool) (i:Nat) (f:Fm)
 | refl (t:Tm)
 | p1 (k:P1) (a:Jt) (f:Fm)
 | p2 (k:P2) (a b:Jt) (f:Fm)
 | impI (x:Fm) (a:Jt)
 | all (u:Bool) (s:Ty) (a:Jt)
 | ins (u:Bool) (t:Tm) (a:Jt) (f:Fm)
 | ex (u:Bool) (x:Fm) (t:Tm) (a:Jt)
 | ind (l:Bool) (x:Fm) (t:Tm) (a b:Jt) (f:Fm)
 | subst (x:Fm) (a b:Jt) (f:Fm)
def Jt.p:Jt->Pf
 | .leaf u i _ => .leaf u i
 | .refl t => .refl t
 | .p1 k a _ => .p1 k a.p
 | .p2 k a b _ => .p2 k a.p b.p
 | .impI x a => .impI x a.p
 | .all u s a => .all u s a.p
 | .ins u t a _ => .ins u t a.p
 | .ex u x t a => .ex u x t a.p
 | .ind l x t a b _ => .ind l x t a.p b.p
 | .subst x a b _ => .subst x a.p b.p
def Jt.f:Jt->Fm
 | .leaf _ _ f=>f
 | .refl t => .eq t t
 | .p1 _ _ f=>f
 | .p2 _ _ _ f=>f
 | .impI x a => .bin .imp x a.f
 | .all u s a => .q (aq u) s a.f
 | .ins _ _ _ f=>f
 | .ex _ x _ _=>x
 | .ind _ _ _ _ _ f=>f
 | .subst _ _ _ f=>f
def Fm.bd:Fm->Fm
 | .q _ _ f=>f
 | f=>f
abbrev gA (k:Nat) (hs:List Fm):List Fm:=hs.map (Fm.sh 0 (.ofNat k))
def RE:Bool->FQ
 | false => .ex
 | true => .exU
def ek:Bool->P2
 | false => .exE
 | true => .exUE
abbrev vapp:Tm:=.n2 .app (.v 1) (.v 0)
def XM (hs:List Fm) (x:Fm):Bool->List Fm
 | false=>gA 1 hs++[x]
 | true=>gA 2 hs++[x.sh 1 (.ofNat 1)]
def lN:Bool->Nat
 | false=>1
 | true=>2
def Jt.us:Jt->Nat->Prop
 | .leaf _ _ _,_=>False
 | .refl _,_=>False
 | .p1 _ a f,v=>f.has=true/\a.us v
 | .p2 k a b f,v=>f.has=true/\(a.us v\/match k with
  | .andI=>b.us v
  | .impE=>b.us v
  | _=>b.us (v+1))
 | .impI x a,v=>(Fm.bin .imp x a.f).has=true/\a.us v
 | .all u s a,v=>(Fm.q (aq u) s a.f).has=true/\a.us (v+1)
 | .ins u t a f,v=>f.has=true/\(a.us v\/u=false/\t.occ v≠0)
 | .ex u x t a,v=>x.has=true/\(a.us v\/u=false/\t.occ v≠0)
 | .ind l x t a b f,v=>f.has=true/\(t.occ v≠0\/a.us v\/b.us (v+lN l))
 | .subst x a b f,v=>f.has=true/\b.us v
def Fm.er:Fm->Fm
 | .eq _ _ => .eq (.n0 .unit) (.n0 .unit)
 | .bin k f g => .bin k f.er g.er
 | .q k s f => .q k s f.er
theorem EL:∀ f:Fm,f.er.has=f.has
 | .eq _ _=>rfl
 | .bin k f g=>by cases k<;>simp only [Fm.er,Fm.has,EL f,EL g]
 | .q k _ f=>by cases k<;>simp only [Fm.er,Fm.has,EL f]
theorem oE (z:Int):∀ (f:Fm) (c:Nat),(f.sh c z).er=f.er
 | .eq _ _,c=>rfl
 | .bin k f g,c=>by simp only [Fm.sh,Fm.er,oE z f,oE z g]
 | .q k s f,c=>by simp only [Fm.sh,Fm.er,oE z f]
theorem eG (c:Nat) (s:Tm):∀ (f:Fm) (d:Nat),(f.put c s d).er=f.er
 | .eq _ _,d=>rfl
 | .bin k f g,d=>by simp only [Fm.put,Fm.er,eG c s f,eG c s g]
 | .q k u f,d=>by simp only [Fm.put,Fm.er,eG c s f]
theorem tS:∀ f g:Fm,iB f=some g->g.er=f.er
 | .eq a b,g,e=>by
  unfold iB at e;split at e
  ·split at e
   ·cases e;rfl
   ·cases e
  ·cases e
 | .bin k a b,g,e=>by
  unfold iB at e;split at e
  ·rename_i x e1;split at e
   ·rename_i y e2;cases e;simp only [Fm.er,tS a x e1,tS b y e2]
   ·cases e
  ·cases e
 | .q k s a,g,e=>by
  unfold iB at e;split at e
  ·rename_i x e1;cases e;simp only [Fm.er,tS a x e1]
  ·cases e
theorem VJ {f g:Fm} (e:IC f=some g):g.er=f.er:=by
 unfold IC at e;split at e
 ·cases e;exact eG 0 (.v 0) f 0
 ·split at e
  ·rename_i y e1;split at e
   ·cases e;rw [<- tS f y e1];exact eG 0 (.v 0) y 0
   ·cases e
  ·cases e
theorem iD {f g:Fm} {t:Tm} (e:f.pt t = .ok g):g.er=f.er:=by
 unfold Fm.pt at e;split at e
 ·cases e;exact eG 0 t f 0
 ·cases e
theorem YM (k:Nat) (hs:List Fm):(gA k hs).map Fm.er=hs.map Fm.er:=by
 simp only [gA,List.map_map];exact List.map_congr_left λ f _=>oE _ f 0
theorem oB {f g:Fm} (e:f.er=g.er):f.has=g.has:=(EL f).symm.trans ((congrArg Fm.has e).trans (EL g))
def lT:Bool->Ty
 | false => .nat
 | true => .list
def lG:Bool->List Ty
 | false=>[.nat]
 | true=>[.nat,.list]
def l0:Bool->Tm
 | false => .n0 .zero
 | true => .n0 .nil
def l1:Bool->Tm
 | false => .n1 .succ (.v 0)
 | true => .n2 .cons (.v 1) (.v 0)
def Jt.D (ls:List Fm):List Ty->List Fm->Jt->Prop
 | _,hs,.leaf u i f=>f.chk=0/\match u with
  | false=>i<hs.length/\hs[hs.length-1-i]? = some f
  | true=>ls[i]? = some f
 | g,_,.refl t=>(Fm.eq t t).chk=0/\t.chk=0/\t.tyR g = .ok .nat
 | g,hs,.p1 k a f=>f.chk=0/\a.D ls g hs/\match k with
  | .andL => ∃ y,a.f = .bin .and f y
  | .andR => ∃ x,a.f = .bin .and x f
  | .choice => ∃ s u x,a.f = .q .all s (.q .ex u x)/\(Ty.two true s u).size<=64 /\ ∃ y,(x.sh 2 (.ofNat 1)).pt vapp = .ok y/\f = .q .ex (.two true s u) (.q .all s y)
 | g,hs,.p2 k a b f=>f.chk=0/\a.D ls g hs/\match k with
  | .andI=>b.D ls g hs/\f = .bin .and a.f b.f
  | .impE=>b.D ls g hs /\ ∃ x,a.f = .bin .imp x f/\x.mt b.f
  | .exE=>(∃ s,a.f = .q .ex s a.f.bd/\b.D ls (g++[s]) (gA 1 hs++[a.f.bd]))/\(g.length+1<=16/\hs.length+1<=16)/\IC b.f=some f
  | .exUE=>(∃ s,a.f = .q .exU s a.f.bd/\b.D ls (g++[s]) (gA 1 hs++[a.f.bd]))/\(g.length+1<=16/\hs.length+1<=16)/\IC b.f=some f /\ ¬b.us 0
 | g,hs,.impI x a=>(Fm.bin .imp x a.f).chk=0/\(x.chk=0/\x.ty g)/\hs.length+1<=16/\a.D ls g (hs++[x])
 | g,hs,.all u s a=>(Fm.q (aq u) s a.f).chk=0/\g.length+1<=16/\a.D ls (g++[s]) (gA 1 hs)/\(u=true->¬a.us 0)
 | g,hs,.ins u t a f=>f.chk=0/\t.chk=0/\a.D ls g hs /\ ∃ s x,t.tyR g = .ok s/\a.f = .q (aq u) s x/\x.pt t = .ok f
 | g,hs,.ex u x t a=>(x.chk=0/\x.ty g)/\t.chk=0/\a.D ls g hs /\ ∃ s y w,t.tyR g = .ok s/\x = .q (RE u) s y/\y.pt t = .ok w/\w.mt a.f
 | g,hs,.ind l x t a b f=>f.chk=0/\(x.chk=0/\x.ty (g++[lT l]))/\(t.chk=0/\t.tyR g = .ok (lT l))/\(a.D ls g hs /\ ∃ w,x.pt (l0 l) = .ok w/\w.mt a.f)/\(g.length+lN l<=16/\hs.length+1<=16)/\(b.D ls (g++lG l) (XM hs x l) /\ ∃ w,(x.sh 1 (.ofNat (lN l))).pt (l1 l) = .ok w/\w.mt b.f)/\x.pt t = .ok f
 | g,hs,.subst x a b f=>f.chk=0/\(x.chk=0/\x.ty (g++[.nat]))/\a.D ls g hs/\b.D ls g hs /\ ∃ t u w,a.f = .eq t u/\x.pt t = .ok w/\w.mt b.f/\x.pt u = .ok f
theorem ZM {f:Fm} {s:Tm} (h:(f.put 0 s 0).cnt<=4096):f.pt s = .ok (f.put 0 s 0):=by
 have h1:(f.put 0 s 0).cnt+f.occ 0=f.cnt+f.occ 0 * s.cnt:=aI 0 s f 0;have h2:=TB s;have h3:f.occ 0 * s.cnt=f.occ 0 * (s.cnt-1)+f.occ 0:=by
  have:s.cnt=(s.cnt-1)+1:=by omega
  rw [this,Nat.mul_succ];simp
 unfold Fm.pt;rw [if_pos (by omega)]
theorem AI:∀ (t:Tm) (d:Nat),t.occ d=0->t.put 0 (.v 0) d=t.sh (d+1) (-1)
 | .v i,d,h=>by
  simp only [Tm.occ] at h;simp only [Tm.put,Tm.sh];by_cases e:i=d
  ·rw [if_pos e] at h;cases h
  ·rw [if_neg (by omega)];by_cases e':d<i
   ·rw [if_pos (by omega),if_pos (by omega)];congr 1;simp;omega
   ·rw [if_neg (by omega),if_neg (by omega)]
 | .lam s b,d,h=>by simp only [Tm.put,Tm.sh];rw [AI b (d+1) h]
 | .n0 _,_,_=>rfl
 | .n1 _ a,d,h=>by simp only [Tm.put,Tm.sh];rw [AI a d h]
 | .n2 _ a b,d,h=>by simp only [Tm.occ] at h;simp only [Tm.put,Tm.sh];rw [AI a d (by omega),AI b d (by omega)]
 | .n3 _ _ a b c,d,h=>by simp only [Tm.occ] at h;simp only [Tm.put,Tm.sh];rw [AI a d (by omega),AI b d (by omega),AI c d (by omega)]
theorem pP:∀ (f:Fm) (d:Nat),f.occ d=0->f.put 0 (.v 0) d=f.sh (d+1) (-1)
 | .eq a b,d,h=>by simp only [Fm.occ] at h;simp only [Fm.put,Fm.sh];rw [AI a d (by omega),AI b d (by omega)]
 | .bin _ f g,d,h=>by simp only [Fm.occ] at h;simp only [Fm.put,Fm.sh];rw [pP f d (by omega),pP g d (by omega)]
 | .q _ _ f,d,h=>by simp only [Fm.put,Fm.sh];rw [pP f (d+1) h]
abbrev JC (u:List Nat):Prop:=u.Pairwise (· < ·)
theorem oW {n x:Nat} : ∀ {l:List Nat},x∈LA n l->x+n∈l
 | [],h=>by cases h
 | y::r,h=>by
  simp only [LA] at h;split at h
  ·rcases List.mem_cons.1 h with rfl|h
   ·rw [Nat.sub_add_cancel (by assumption)];simp
   ·exact List.mem_cons_of_mem _ (oW h)
  ·exact List.mem_cons_of_mem _ (oW h)
theorem xW (n:Nat):∀ {l:List Nat},JC l->JC (LA n l)
 | [],_=>List.Pairwise.nil
 | y::r,h=>by
  obtain⟨h1,h2⟩:=List.pairwise_cons.1 h;simp only [LA];split
  ·refine List.pairwise_cons.2 ⟨λ z hz => ?_,xW n h2⟩;have:=h1 _ (oW hz);omega
  ·exact xW n h2
theorem mc {l:List Nat} (h:JC l):∃ r,A 224 [dA l] (.bool r)/\(r=false->0 ∉ l):=by
 cases l with
 | nil=>exact⟨false,f0 [],λ _ h=>by cases h⟩
 | cons x r =>
  have e:uA (.ofNat 0) (.ofNat ((x::r).map ic).length)=true:=cA (by simp);have g:=kB (c:=ic) (g:=x::r) (k:=0) rfl UJ;by_cases c:x=0
  ·subst c;exact⟨true,f3 [(5,.G),(8,.i (ic 0)),(10,.G)] e g (mI 0),λ h=>nomatch h⟩
  ·refine⟨false,f3 [(5,.G),(8,.i (ic x)),(10,.H)] e g (sG c),λ _ h0 => ?_⟩;rcases List.mem_cons.1 h0 with h0|h0
   ·exact c h0.symm
   ·have:=(List.pairwise_cons.1 h).1 0 h0;omega
inductive PR where
 | er (n:Nat)
 | ok (f:Fm) (u:List Nat)
def PR.k:PR->Nat
 | .er _=>0
 | .ok f _=>f.kd
def PR.tk:PR->Nat
 | .er _=>0
 | .ok f _=>f.tk
def PR.te:PR->List (List PV)
 | .er _=>[]
 | .ok f _=>f.te
def PR.ts:PR->List (List PV)
 | .er _=>[]
 | .ok f _=>f.ts
def PR.es:PR->List (List PV)
 | .er _=>[]
 | .ok f _=>f.es
def PR.u:PR->List Nat
 | .er _=>[]
 | .ok _ u=>u
def PR.e:PR->Nat
 | .er n=>n+1
 | .ok _ _=>0
def PR.p (r:PR):PV:=.tuple [.agg [num r.k,num r.tk,.slice r.te,.slice r.ts,.slice r.es,dA r.u],num r.e]
def FO (M:Nat) (f:Fm):Prop:=f.cnt<=4096/\f.mx<=M/\f.tsz<=qA
abbrev nA:Nat:=8388608
structure Pre (ls:List Fm) (g:List Ty) (hs:List Fm) (M:Nat) (p:Pf):Prop where
 l1:∀ f∈ls,FO M f
 h1:∀ f∈hs,FO M f
 g1:∀ s∈g,s.size<=qA
 gl:g.length<=1024
 hl:hs.length<=1000
 ll:ls.length<=1024
 cnt:p.cnt<=65536
 tsz:p.tsz<=qA
 mx:p.mx<=M
 mb:M+nA * p.cnt<=nB
def PR.Good (ls:List Fm) (g:List Ty) (hs:List Fm) (M:Nat) (p:Pf):PR->Prop
 | .er _=>True
 | .ok f u=>FO (M+nA * p.cnt) f/\(∃ j:Jt,j.p=p/\j.f=f/\j.D ls g hs /\ ∀ v,j.us v->v∈u)/\JC u/\(∀ x∈u,x<=M+nA * p.cnt)/\u.length<=p.cnt
def lD (p:Pf):Prop:=∀ ls g hs M,Pre ls g hs M p->∃ r:PR,A 73 [KA ls g hs,p.p] r.p/\r.Good ls g hs M p
structure MF:Prop where
 uses:∀ t:Tm,t.cnt<=qA->t.tsz<=qA->t.mx<=qA * qA->∃ (u:List Nat) (e:Nat),A 280 [t.p] (.tuple [dA u,num e])/\(t.chk=0->e=0 /\ ∀ v,t.occ v≠0->v∈u)/\(∀ x∈u,x<=t.mx)/\u.length<=t.cnt/\JC u
 union:∀ a b:List Nat,a.length+b.length<=qA->(∀ x∈a,x<=bA)->(∀ x∈b,x<=bA)->∃ u:List Nat,A 154 [dA a,dA b] (dA u)/\(∀ v,v∈a\/v∈b->v∈u)/\(∀ v∈u,v∈a\/v∈b)/\u.length<=a.length+b.length/\JC u
theorem aS (H:MF) (t:Tm) (h1:t.cnt<=qA) (h2:t.tsz<=qA) (h3:t.mx<=qA * qA):∃ u:List Nat,A 226 [t.p] (dA u)/\(t.chk=0->∀ v,t.occ v≠0->v∈u)/\(∀ x∈u,x<=t.mx)/\u.length<=t.cnt/\JC u:=by
 obtain⟨u,e,g1,g2,g3,g4⟩:=H.uses t h1 h2 h3;exact⟨u,f1 [(7,.U [dA u,num e])] g1,λ h=>(g2 h).2,g3,g4⟩
theorem qN (f:Fm) (s:Tm) (h1:f.cnt<=qA) (h2:f.mx<=qA * qA) (h3:f.tsz<=qA) (h4:s.cnt<=qA) (h5:s.mx<=qA * qA) (h6:s.tsz<=qA):∃ r:FR,A 227 [f.p,s.p] r.p/\((∃ n,r = .er n)\/r = .ok (f.put 0 s 0)/\(f.put 0 s 0).cnt<=4096):=by
 obtain⟨r,g1,g2⟩:=um f s h1 h2 h3 h4 h5 h6;exact⟨r,f1 [(8,.r r.p)] g1,g2⟩
def FR.Nrm (f:Fm):FR->Prop
 | .er _=>True
 | .ok f'=>iB f=some f'/\f'.mx<=f.mx+1001 * 4096/\f'.tsz<=f.tsz/\f'.cnt<=4096 * f.cnt
theorem cS:∀ f:Fm,f.cnt<=bA->f.mx<=nB->f.tsz<=qA->∃ r:FR,A 230 [f.p] r.p/\r.Nrm f
 | .eq a b,h1,h2,h3=>by
  have hm:=zA;have ca:=TB a;have cb:=TB b;simp only [Fm.cnt,Fm.mx,Fm.tsz] at h1 h2 h3;obtain⟨r,g1,q1,n1⟩:=yS a (by omega) (by simp only [nB,hm] at *;omega) (by omega);obtain⟨s,g2,q2,n2⟩:=yS b (by omega) (by simp only [nB,hm] at *;omega) (by omega)
  cases r with
  | er e=>exact⟨.er e,f1 [(28,.r (NF.er e).p)] g1,trivial⟩
  | ok x n=>cases s with
   | er e=>exact⟨.er e,f2 [(28,.r (NF.ok x n).p),(28,.r (NF.er e).p)] g1 g2,trivial⟩
   | ok y m =>
    obtain⟨c1,c2,c3⟩:=q1;obtain⟨d1,d2,d3⟩:=q2;exact⟨.ok (.eq x y),f2 [(28,.r (NF.ok x n).p),(28,.r (NF.ok y m).p)] g1 g2,by simp only [iB,n1 _ _ rfl,n2 _ _ rfl],by simp only [Fm.mx];omega,by simp only [Fm.tsz];omega,by simp only [Fm.cnt];omega⟩
 | .bin k f g,h1,h2,h3=>by
  simp only [Fm.cnt,Fm.mx,Fm.tsz] at h1 h2 h3;obtain⟨r,g1,q1⟩:=cS f (by omega) (by omega) (by omega);obtain⟨s,g2,q2⟩:=cS g (by omega) (by omega) (by omega)
  cases r with
  | er e=>exact⟨.er e,f1 [(52,.r (FR.er e).p)] g1,trivial⟩
  | ok x=>cases s with
   | er e=>exact⟨.er e,f2 [(52,.r (FR.ok x).p),(52,.r (FR.er e).p)] g1 g2,trivial⟩
   | ok y =>
    obtain⟨c0,c1,c2,c3⟩:=q1;obtain⟨d0,d1,d2,d3⟩:=q2;exact⟨.ok (.bin k x y),f2 [(52,.r (FR.ok x).p),(52,.r (FR.ok y).p)] g1 g2,by simp only [iB,c0,d0],by simp only [Fm.mx];omega,by simp only [Fm.tsz];omega,by simp only [Fm.cnt];omega⟩
 | .q k s f,h1,h2,h3=>by
  simp only [Fm.cnt,Fm.mx,Fm.tsz] at h1 h2 h3;obtain⟨r,g1,q1⟩:=cS f (by omega) (by omega) (by omega)
  cases r with
  | er e=>exact⟨.er e,f1 [(52,.r (FR.er e).p)] g1,trivial⟩
  | ok x =>
   obtain⟨c0,c1,c2,c3⟩:=q1;exact⟨.ok (.q k s x),f1 [(52,.r (FR.ok x).p)] g1,by simp only [iB,c0],by simp only [Fm.mx];omega,by simp only [Fm.tsz];omega,by simp only [Fm.cnt];omega⟩
theorem AW (ls:List Fm) (g:List Ty) (hs:List Fm) (t:Tm) (n:Nat) (hg:∀ s∈g,s.size<=qA) (h1:t.tsz<=qA) (h2:g.length+t.cnt<=qA):∃ e,A 164 [KA ls g hs,t.p,num n] (num e)/\(e=0->t.chk=0 /\ ∃ s,t.tyR g = .ok s/\s.kd=n):=by
 obtain⟨r,g1,g2,g3⟩:=bW g t hg h1 h2
 cases r with
 | er e=>exact⟨e+1,f1 [(13,.r (TR.er e).p)] g1,nofun⟩
 | ok s =>
  by_cases c:s.kd=n
  ·exact⟨0,f2 [(13,.r (TR.ok s).p),(22,.H)] g1 (UB c),λ _=>⟨(g3 s rfl).1,s,(g3 s rfl).2,c⟩⟩
  ·exact⟨7,f2 [(13,.r (TR.ok s).p),(22,.G)] g1 (GC c),nofun⟩
structure RR where
 k:Nat
 tk:Nat
 te:List (List PV)
 ts:List (List PV)
 es:List (List PV)
 u:List Nat
 e:Nat
def RR.row (c:RR):List PV:=[num c.k,num c.tk,.slice c.te,.slice c.ts,.slice c.es]
def RR.p (c:RR):PV:=.tuple [.agg c.row,dA c.u,num c.e]
def RR.of (f:Fm) (u:List Nat) (e:Nat):RR:=⟨f.kd,f.tk,f.te,f.ts,f.es,u,e⟩
abbrev RR.er (n:Nat):RR:=⟨0,0,[],[],[],[],n+1⟩
structure RG (ls:List Fm) (g:List Ty) (hs:List Fm) (M:Nat) (p:Pf) (f:Fm) (u:List Nat):Prop where
 cnt:f.cnt<=qA
 mx:f.mx<=M+nA * p.cnt
 tsz:f.tsz<=qA
 j:∃ j:Jt,j.p=p/\j.f=f/\(f.chk=0->j.D ls g hs) /\ ∀ v,j.us v->v∈u
 asc:JC u
 le:∀ x∈u,x<=M+nA * p.cnt
 len:u.length<=p.cnt
def RR.Good (ls:List Fm) (g:List Ty) (hs:List Fm) (M:Nat) (p:Pf) (c:RR):Prop:=c.e=0->∃ f:Fm,c = .of f c.u 0/\RG ls g hs M p f c.u
def SE (F:Nat) (p:Pf):Prop:=∀ ls g hs M,Pre ls g hs M p->∃ c:RR,A F [KA ls g hs,p.p] c.p/\c.Good ls g hs M p
theorem RR.good_er {ls:List Fm} {g:List Ty} {hs:List Fm} {M:Nat} {p:Pf} {c:RR} (h:c.e≠0):c.Good ls g hs M p:=λ e=>absurd e h
theorem xm {j:Jt} {v:Nat} (h:j.us v):j.f.has=true:=by
 cases j<;>simp only [Jt.us] at h<;>first|exact h.1|exact h.elim
theorem HH {p:Pf} (H:SE 115 p):lD p:=by
 intro ls g hs M hp;have hm:=zA;have hb:=kA;obtain⟨c,g1,g2⟩:=H ls g hs M hp;obtain⟨k,tk,te,ts,es,u,e⟩:=c
 cases e with
 | succ n=>exact⟨.er n,f1 [(14,.r (RR.p ⟨k,tk,te,ts,es,u,n+1⟩))] g1,trivial⟩
 | zero =>
  obtain⟨f,hf,R⟩:=g2 rfl;cases hf;have g3:=UM f R.tsz (by have:=R.cnt;omega)
  cases e1:f.chk with
  | succ n=>rw [e1] at g3;exact⟨.er 3,f2 [(14,.r (RR.of f u 0).p),(23,.N (n+1))] g1 g3,trivial⟩
  | zero =>
   rw [e1] at g3;obtain⟨b,e',g4,g5⟩:=bm f R.tsz (by have:=R.cnt;omega);obtain⟨rfl,rfl⟩:=g5 e1;have hF:FO (M+nA * p.cnt) f:=⟨(Fm.chk0 e1).1,R.mx,R.tsz⟩;cases e2:f.has
   ·rw [e2] at g4;obtain⟨j,j1,j2,j3,j4⟩:=R.j;exact⟨.ok f [],f3 [(14,.r (RR.of f u 0).p),(23,.N 0),(28,.U [.bool false,num 0])] g1 g3 g4,hF,⟨j,j1,j2,j3 e1,λ v hv=>by have:=xm hv;rw [j2,e2] at this;cases this⟩,List.Pairwise.nil,(λ x hx=>by cases hx),Nat.zero_le _⟩
   ·rw [e2] at g4;obtain⟨j,j1,j2,j3,j4⟩:=R.j;exact⟨.ok f u,f3 [(14,.r (RR.of f u 0).p),(23,.N 0),(28,.U [.bool true,num 0])] g1 g3 g4,hF,⟨j,j1,j2,j3 e1,j4⟩,R.asc,R.le,R.len⟩
theorem zN {p:Pf} (H:lD p) (ls:List Fm) (g:List Ty) (hs:List Fm) (M:Nat) (hp:Pre ls g hs M p) (f:Fm) (t:Tm) (h1:f.cnt<=qA) (h2:f.mx<=qA * qA) (h3:f.tsz<=qA) (h4:t.cnt<=qA) (h5:t.mx<=qA * qA) (h6:t.tsz<=qA) (h7:max f.mx (t.mx+f.cnt)<=nB) :
  ∃ (u:List Nat) (e:Nat),A 228 [KA ls g hs,p.p,f.p,t.p] (.tuple [dA u,num e])/\(e=0->∃ f',PR.Good ls g hs M p (.ok f' u) /\ ∃ w,f.pt t = .ok w/\w.mt f')/\(∀ x∈u,x<=M+nA * p.cnt)/\u.length<=p.cnt:=by
 have hm:=zA;have hb:=kA;obtain⟨r,g1,g2⟩:=H ls g hs M hp
 cases r with
 | er n=>exact⟨[],n+1,f1 [(16,.r (PR.er n).p)] g1,(nofun),(λ x hx=>by cases hx),Nat.zero_le _⟩
 | ok f' u =>
  obtain⟨r,g3,g4⟩:=qN f t h1 h2 h3 h4 h5 h6;rcases g4 with ⟨n,rfl⟩|⟨rfl,g5⟩
  ·exact⟨[],n+1,f2 [(16,.r (PR.ok f' u).p),(25,.r (FR.er n).p)] g1 g3,(nofun),(λ x hx=>by cases hx),Nat.zero_le _⟩
  ·have hF:=g2.1;have hmx:=eI 0 t f 0;have hts:=cI 0 t f 0;obtain⟨e,g6,g7⟩:=kc (f.put 0 t 0) f' (by omega) (by omega) (by omega) (by have:=hF.1;omega) (by have:=hF.2.1;have:=hp.mb;omega) hF.2.2;exact⟨u,e,f3 [(16,.r (PR.ok f' u).p),(25,.r (FR.ok (f.put 0 t 0)).p),(36,.N e)] g1 g3 g6,(λ h=>⟨f',g2,_,ZM g5,g7 h⟩),g2.2.2.2.1,g2.2.2.2.2⟩
open Go.Lg
theorem Pre.to {ls:List Fm} {g g':List Ty} {hs hs':List Fm} {M M':Nat} {p a:Pf} (h:Pre ls g hs M p) (hM:M<=M') (h1:∀ f∈hs',FO M' f) (g1:∀ s∈g',s.size<=qA) (gl:g'.length<=1024) (hl:hs'.length<=1000) (hc:a.cnt<=p.cnt) (ht:a.tsz<=p.tsz) (hx:a.mx<=p.mx) (hb:M'+nA * a.cnt<=nB):Pre ls g' hs' M' a :=
 ⟨λ f hf=>⟨(h.l1 f hf).1,Nat.le_trans (h.l1 f hf).2.1 hM,(h.l1 f hf).2.2⟩,h1,g1,gl,hl,h.ll,Nat.le_trans hc h.cnt,Nat.le_trans ht h.tsz,Nat.le_trans hx (Nat.le_trans h.mx hM),hb⟩
theorem Pre.sub {ls:List Fm} {g:List Ty} {hs:List Fm} {M:Nat} {p a:Pf} (h:Pre ls g hs M p) (hc:a.cnt<=p.cnt) (ht:a.tsz<=p.tsz) (hx:a.mx<=p.mx):Pre ls g hs M a :=
 h.to (Nat.le_refl _) h.h1 h.g1 h.gl h.hl hc ht hx (Nat.le_trans (Nat.add_le_add_left (Nat.mul_le_mul_left _ hc) M) h.mb)
theorem FO.up {M M':Nat} {f:Fm} (h:FO M f) (hM:M<=M'):FO M' f:=⟨h.1,Nat.le_trans h.2.1 hM,h.2.2⟩
theorem FO.sh {M:Nat} {f:Fm} (h:FO M f) (n:Nat):FO (M+n) (f.sh 0 (.ofNat n)):=by
 have h1:(f.sh 0 (.ofNat n)).mx<=f.mx+n:=QE (.ofNat n) f 0;refine⟨by rw [DB];exact h.1,?_,by rw [MB];exact h.2.2⟩;have:=h.2.1;omega
theorem FO.hyp {M:Nat} {f:Fm} (h:FO M f) (hM:M<=nB):f.mx<=qA * qA/\f.cnt<=qA:=by
 have hm:=zA;have:=h.1;have:=h.2.1;simp only [nB] at hM;omega
theorem eS {hs:List Fm} {M:Nat} (h:∀ f∈hs,FO M f) (n:Nat):∀ f∈hs.map (Fm.sh 0 (.ofNat n)),FO (M+n) f:=by
 intro f hf;obtain⟨f',h1,rfl⟩:=List.mem_map.1 hf;exact (h f' h1).sh n
theorem Am (u:Bool) (s:Ty) {a:Pf} (H:lD a):SE 158 (.all u s a):=by
 intro ls g hs M hp;have hm:=zA;have hk:nA=8388608:=rfl;have hgl:=hp.gl;have hhl:=hp.hl;have hmb:=hp.mb;have htz:max a.tsz s.size<=qA:=hp.tsz;have hcn:1+a.cnt<=65536:=hp.cnt;have hK:nA * (1+a.cnt)=nA+nA * a.cnt:=by rw [Nat.mul_add,Nat.mul_one]
 have hmb':M+nA * (1+a.cnt)<=nB:=hmb;rw [hK] at hmb';obtain⟨e,g1,g2⟩:=lP ls g hs 1 0 (by omega) (by omega)
 cases e with
 | succ n=>cases u<;>exact⟨.er n,f1 [(11,.N (n+1))] g1,RR.good_er (Nat.succ_ne_zero n)⟩
 | zero =>
  have g3:=tW ls g s hs (by omega) (by omega) (λ f hf=>(hp.h1 f hf).hyp (by omega));have hpa:Pre ls (g++[s]) (hs.map (Fm.sh 0 1)) (M+1) a:=hp.to (by omega) (eS hp.h1 1) (by intro x hx;rcases List.mem_append.1 hx with h|h;exact hp.g1 x h;simp at h;subst h;omega) (by simp;omega) (by simpa using hp.hl) (by show a.cnt<=1+a.cnt;omega) (by show a.tsz<=max a.tsz s.size;omega) (Nat.le_refl _) (by omega);obtain⟨r,g4,g5⟩:=H _ _ _ _ hpa
  cases r with
  | er n=>cases u<;>exact⟨.er n,f3 [(11,.N 0),(21,.r (KA ls (g++[s]) (hs.map (Fm.sh 0 1)))),(26,.r (PR.er n).p)] g1 g3 g4,RR.good_er (Nat.succ_ne_zero n)⟩
  | ok f w =>
   obtain⟨q1,q2,q3,q4,q5⟩:=g5;obtain⟨ja,j1,rfl,j3,j4⟩:=q2;have hw:∀ x∈w,x<=bA:=λ x hx=>by have:=q4 x hx;have:=kA;simp only [nB,hm] at hmb';omega
   have g6:=sS 1 w (by omega) hw;have hg:∀ k:FQ,aq u=k->(u=true->¬ja.us 0)->RG ls g hs M (.all u s a) (.q k s ja.f) (LA 1 w):=by
    intro k hk hu;refine⟨?_,?_,?_,?_,?_,?_,?_⟩
    ·have:=q1.1;simp only [Fm.cnt];omega
    ·have:=q1.2.1;show ja.f.mx<=M+nA * (1+a.cnt);rw [hK];omega
    ·have:=q1.2.2;simp only [Fm.tsz];omega
    ·subst hk;exact⟨.all u s ja,by rw [<- j1];rfl,rfl,λ hc=>⟨hc,(g2 rfl).1,j3,hu⟩,λ v hv=>WM (j4 _ hv.2)⟩
    ·exact xW 1 q3
    ·intro x hx;have h1:∀ {l:List Nat},x∈LA 1 l->∃ y∈l,x+1=y:=by
      intro l
      induction l with
      | nil=>intro h;cases h
      | cons y r ih =>
       intro h;simp only [LA] at h;split at h
       ·rcases List.mem_cons.1 h with rfl|h
        ·exact⟨y,by simp,by omega⟩
        ·obtain⟨z,h1,h2⟩:=ih h;exact⟨z,by simp [h1],h2⟩
       ·obtain⟨z,h1,h2⟩:=ih h;exact⟨z,by simp [h1],h2⟩
     obtain⟨y,hy,hxy⟩:=h1 hx;have:=q4 y hy;show x<=M+nA * (1+a.cnt);rw [hK];omega
    ·have:=nP 1 w;show (LA 1 w).length<=1+a.cnt;omega
   cases u
   ·exact⟨.of (.q .all s ja.f) (LA 1 w) 0,f5 [(11,.N 0),(21,.r (KA ls (g++[s]) (hs.map (Fm.sh 0 1)))),(26,.r (PR.ok ja.f w).p),(40,.r (Fm.q .all s ja.f).p),(43,.r (dA (LA 1 w)))] g1 g3 g4 (cD .all s ja.f) g6,λ _=>⟨_,rfl,hg _ rfl λ h=>nomatch h⟩⟩
   ·obtain⟨b,g7,h0⟩:=mc q3;cases b
    ·exact⟨.of (.q .allU s ja.f) (LA 1 w) 0,f6 [(11,.N 0),(21,.r (KA ls (g++[s]) (hs.map (Fm.sh 0 1)))),(26,.r (PR.ok ja.f w).p),(46,.F),(52,.r (Fm.q .allU s ja.f).p),(55,.r (dA (LA 1 w)))] g1 g3 g4 g7 (cD .allU s ja.f) g6,λ _=>⟨_,rfl,hg _ rfl λ _ h=>h0 rfl (j4 0 h)⟩⟩
    ·exact⟨.er 11,f4 [(11,.N 0),(21,.r (KA ls (g++[s]) (hs.map (Fm.sh 0 1)))),(26,.r (PR.ok ja.f w).p),(46,.T)] g1 g3 g4 g7,RR.good_er (Nat.succ_ne_zero 11)⟩
theorem Bm (H:MF) (u:Bool) (t:Tm) {a:Pf} (Ha:lD a):SE 159 (.ins u t a):=by
 intro ls g hs M hp;have hm:=zA;have hb:=kA;have hk:nA=8388608:=rfl;have hcx:nB=qA * qA-1001 * 4096:=rfl;have hgl:=hp.gl;have hmb:M+nA * (1+t.cnt+a.cnt)<=nB:=hp.mb;have htz:max t.tsz a.tsz<=qA:=hp.tsz;have hmx:max t.mx a.mx<=M:=hp.mx;have hcn:1+t.cnt+a.cnt<=65536:=hp.cnt;have hK:nA * (1+t.cnt+a.cnt)=nA+nA * t.cnt+nA * a.cnt:=by rw [Nat.mul_add,Nat.mul_add,Nat.mul_one]
 rw [hK] at hmb;rw [hm] at hcx;have hM2:t.mx<=qA * qA:=by rw [hm];omega
 obtain⟨r,g1,_,q0⟩:=bW g t hp.g1 (by omega) (by omega)
 cases r with
 | er n=>cases u<;>exact⟨.er n,f1 [(22,.r (TR.er n).p)] g1,RR.good_er (Nat.succ_ne_zero n)⟩
 | ok s =>
  obtain⟨hchk,hty⟩:=q0 s rfl;have hpa:Pre ls g hs M a:=hp.sub (by show a.cnt<=1+t.cnt+a.cnt;omega) (by show a.tsz<=max t.tsz a.tsz;omega) (by show a.mx<=max t.mx a.mx;omega);obtain⟨r,g2,q1⟩:=Ha _ _ _ _ hpa
  cases r with
  | er n=>cases u<;>exact⟨.er n,f2 [(22,.r (TR.ok s).p),(35,.r (PR.er n).p)] g1 g2,RR.good_er (Nat.succ_ne_zero n)⟩
  | ok f w =>
   obtain⟨q1,⟨ja,j1,j2,j3,j4⟩,q3,q4,q5⟩:=q1;obtain⟨w',g3,p1,p2,p3,pA⟩:=aS H t (by omega) (by omega) hM2;obtain⟨w2,g4,p4,p5,p6,pB⟩:=H.union w w' (by omega) (λ x hx=>by have:=q4 x hx;omega) (λ x hx=>by have:=p2 x hx;omega);have bad:∀ n:Nat,f.kd≠bn u 4 6->∃ c:RR,A 159 [KA ls g hs,(Pf.ins u t a).p] c.p/\c.Good ls g hs M (.ins u t a):=by
    intro _ hne;cases u<;>exact⟨.er 9,f5 [(22,.r (TR.ok s).p),(35,.r (PR.ok f w).p),(45,.r (dA w')),(46,.r (dA w2)),(56,.G)] g1 g2 g3 g4 (GC hne),RR.good_er (Nat.succ_ne_zero 9)⟩
   have good:∀ (k:FQ) (y:Ty) (x:Fm),f = .q k y x->k.n=bn u 4 6->∃ c:RR,A 159 [KA ls g hs,(Pf.ins u t a).p] c.p/\c.Good ls g hs M (.ins u t a):=by
    intro k y x hf hkn;subst hf;have hxc:1+x.cnt<=4096:=q1.1;have hxm:x.mx<=M+nA * a.cnt:=q1.2.1;have hxt:max y.size x.tsz<=qA:=q1.2.2;have g5:=GD y s;cases e1:y.same s<;>rw [e1] at g5
    ·cases u<;>exact⟨.er 6,f6 [(22,.r (TR.ok s).p),(35,.r (PR.ok (.q k y x) w).p),(45,.r (dA w')),(46,.r (dA w2)),(56,.H),(62,.F)] g1 g2 g3 g4 (UB hkn) g5,RR.good_er (Nat.succ_ne_zero 6)⟩
    obtain⟨r,g6,p7⟩:=qN x t (by omega) (by rw [hm];omega) (by omega) (by omega) hM2 (by omega);rcases p7 with ⟨n,rfl⟩|⟨rfl,p8⟩
    ·cases u
     ·exact⟨⟨0,0,[],[],[],w2,n+1⟩,f7 [(22,.r (TR.ok s).p),(35,.r (PR.ok (.q k y x) w).p),(45,.r (dA w')),(46,.r (dA w2)),(56,.H),(62,.T),(72,.r (FR.er n).p)] g1 g2 g3 g4 (UB hkn) g5 g6,RR.good_er (Nat.succ_ne_zero n)⟩
     ·exact⟨⟨0,0,[],[],[],w,n+1⟩,f7 [(22,.r (TR.ok s).p),(35,.r (PR.ok (.q k y x) w).p),(45,.r (dA w')),(46,.r (dA w2)),(56,.H),(62,.T),(72,.r (FR.er n).p)] g1 g2 g3 g4 (UB hkn) g5 g6,RR.good_er (Nat.succ_ne_zero n)⟩
    ·have hk:k=aq u:=FQ.inj (hkn.trans (by cases u<;>rfl));have hD:(x.put 0 t 0).chk=0->(Jt.ins u t ja (x.put 0 t 0)).D ls g hs:=λ hc=>⟨hc,hchk,j3,s,x,hty,by rw [j2,hk,(HD y s).1 e1],ZM p8⟩
     have h1:=eI 0 t x 0;have h2:=cI 0 t x 0;have h3:(x.put 0 t 0).mx<=M+nA * (1+t.cnt+a.cnt):=by rw [hK];omega
     cases u
     ·refine⟨.of (x.put 0 t 0) w2 0,f7 [(22,.r (TR.ok s).p),(35,.r (PR.ok (.q k y x) w).p),(45,.r (dA w')),(46,.r (dA w2)),(56,.H),(62,.T),(72,.r (FR.ok (x.put 0 t 0)).p)] g1 g2 g3 g4 (UB hkn) g5 g6,λ _=>⟨_,rfl,⟨by show (x.put 0 t 0).cnt<=qA;omega,h3,by show (x.put 0 t 0).tsz<=qA;omega,⟨.ins false t ja _,by rw [<- j1];rfl,rfl,hD,λ v hv => ?_⟩,pB,λ z hz => ?_,by show w2.length<=1+t.cnt+a.cnt;omega⟩⟩⟩
      ·rcases hv.2 with h|⟨_,h⟩
       ·exact p4 v (.inl (j4 v h))
       ·exact p4 v (.inr (p1 hchk v h))
      ·rcases p5 z hz with h|h
       ·have:=q4 z h;show z<=M+nA * (1+t.cnt+a.cnt);rw [hK];omega
       ·have:=p2 z h;omega
     ·refine⟨.of (x.put 0 t 0) w 0,f7 [(22,.r (TR.ok s).p),(35,.r (PR.ok (.q k y x) w).p),(45,.r (dA w')),(46,.r (dA w2)),(56,.H),(62,.T),(72,.r (FR.ok (x.put 0 t 0)).p)] g1 g2 g3 g4 (UB hkn) g5 g6,λ _=>⟨_,rfl,⟨by show (x.put 0 t 0).cnt<=qA;omega,h3,by show (x.put 0 t 0).tsz<=qA;omega,⟨.ins true t ja _,by rw [<- j1];rfl,rfl,hD,λ v hv => ?_⟩,q3,(λ z hz=>by have:=q4 z hz;show z<=M+nA * (1+t.cnt+a.cnt);rw [hK];omega),by show w.length<=1+t.cnt+a.cnt;omega⟩⟩⟩;rcases hv.2 with h|⟨h,_⟩
      ·exact j4 v h
      ·cases h
   cases f with
   | eq x y=>exact bad 0 (by cases u<;>exact nofun)
   | bin k x y=>exact bad 0 (by cases u<;>cases k<;>exact nofun)
   | q k y x =>
    by_cases h:k.n=bn u 4 6
    ·exact good k y x rfl h
    ·exact bad 0 h
open Go.Lg
theorem Cm (H:MF) (u:Bool) (f:Fm) (t:Tm) {a:Pf} (Ha:lD a):SE 160 (.ex u f t a):=by
 intro ls g hs M hp;have hm:=zA;have hb:=kA;have hk:nA=8388608:=rfl;have hcx:nB=qA * qA-1001 * 4096:=rfl;have hgl:=hp.gl;have hmb:M+nA * (1+t.cnt+f.cnt+a.cnt)<=nB:=hp.mb;have htz:max (max t.tsz f.tsz) a.tsz<=qA:=hp.tsz;have hmx:max (max t.mx f.mx) a.mx<=M:=hp.mx;have hcn:1+t.cnt+f.cnt+a.cnt<=65536:=hp.cnt;have hK:nA * (1+t.cnt+f.cnt+a.cnt)=nA+nA * t.cnt+nA * f.cnt+nA * a.cnt:=by rw [Nat.mul_add,Nat.mul_add,Nat.mul_add,Nat.mul_one]
 rw [hK] at hmb;rw [hm] at hcx;have hM2:t.mx<=qA * qA:=by rw [hm];omega
 obtain⟨e,g1,q0⟩:=nS g f hp.g1 (by omega) (by omega)
 cases e with
 | succ n=>cases u<;>exact⟨.er n,f1 [(25,.N (n+1))] g1,RR.good_er (Nat.succ_ne_zero n)⟩
 | zero =>
  have hfc:=Fm.chk0 (q0 rfl).1;have bad:f.kd≠bn u 5 7->∃ c:RR,A 160 [KA ls g hs,(Pf.ex u f t a).p] c.p/\c.Good ls g hs M (.ex u f t a):=by
   intro hne;cases u<;>exact⟨.er 9,f2 [(25,.N 0),(36,.G)] g1 (GC hne),RR.good_er (Nat.succ_ne_zero 9)⟩
  have good:∀ (k:FQ) (y:Ty) (x:Fm),f = .q k y x->k.n=bn u 5 7->∃ c:RR,A 160 [KA ls g hs,(Pf.ex u f t a).p] c.p/\c.Good ls g hs M (.ex u f t a):=by
   intro k y x hf hkn;subst hf;have hxc:1+x.cnt<=4096:=hfc.1;have hxm:x.mx<=M:=by have:(Fm.q k y x).mx=x.mx:=rfl;omega
   have hxt:x.tsz<=qA:=by have:(Fm.q k y x).tsz=max y.size x.tsz:=rfl;omega
   obtain⟨r,g2,_,q1⟩:=bW g t hp.g1 (by omega) (by omega)
   cases r with
   | er n=>cases u<;>exact⟨.er n,f3 [(25,.N 0),(36,.H),(42,.r (TR.er n).p)] g1 (UB hkn) g2,RR.good_er (Nat.succ_ne_zero n)⟩
   | ok s =>
    obtain⟨hchk,hty⟩:=q1 s rfl;have g3:=GD y s;cases e1:y.same s<;>rw [e1] at g3
    ·cases u<;>exact⟨.er 6,f4 [(25,.N 0),(36,.H),(42,.r (TR.ok s).p),(52,.F)] g1 (UB hkn) g2 g3,RR.good_er (Nat.succ_ne_zero 6)⟩
    have hpa:Pre ls g hs M a:=hp.sub (by show a.cnt<=1+t.cnt+(Fm.q k y x).cnt+a.cnt;omega) (by show a.tsz<=max (max t.tsz (Fm.q k y x).tsz) a.tsz;omega) (by show a.mx<=max (max t.mx (Fm.q k y x).mx) a.mx;omega);obtain⟨w,e,g4,q2,b1,b2⟩:=zN Ha ls g hs M hpa x t (by omega) (by rw [hm];omega) hxt (by omega) hM2 (by omega) (by omega);obtain⟨w',g5,p1,p2,p3,pA⟩:=aS H t (by omega) (by omega) hM2;cases u
    ·by_cases he:e=0
     ·subst he;obtain⟨f',⟨q3,⟨ja,j1,j2,j3,j4⟩,q5,q6,q7⟩,wf,hw,hmt⟩:=q2 rfl;obtain⟨w2,g6,p4,p5,p6,pB⟩:=H.union w w' (by omega) (λ z hz=>by have:=q6 z hz;omega) (λ z hz=>by have:=p2 z hz;omega);refine⟨.of (.q k y x) w2 0,f7 [(25,.N 0),(36,.H),(42,.r (TR.ok s).p),(52,.T),(66,.U [dA w,num 0]),(73,.r (dA w')),(74,.r (dA w2))] g1 (UB hkn) g2 g3 g4 g5 g6,λ _=>⟨_,rfl,⟨by show 1+x.cnt<=qA;omega,by show (Fm.q k y x).mx<=M+_;omega,by show (Fm.q k y x).tsz<=qA;omega,⟨.ex false (.q k y x) t ja,by rw [<- j1];rfl,rfl,λ _=>⟨q0 rfl,hchk,j3,s,x,wf,hty,by rw [FQ.inj (hkn.trans rfl:k.n=(RE false).n),(HD y s).1 e1],hw,by rw [j2];exact hmt⟩,λ v hv => ?_⟩,pB,λ z hz => ?_,by show w2.length<=1+t.cnt+(Fm.q k y x).cnt+a.cnt;omega⟩⟩⟩
      ·rcases hv.2 with h|⟨_,h⟩
       ·exact p4 v (.inl (j4 v h))
       ·exact p4 v (.inr (p1 hchk v h))
      ·rcases p5 z hz with h|h
       ·have:=q6 z h;show z<=M+nA * (1+t.cnt+(Fm.q k y x).cnt+a.cnt);rw [hK];omega
       ·have:=p2 z h;omega
     ·obtain⟨n,rfl⟩:=Nat.exists_eq_succ_of_ne_zero he;obtain⟨w2,g6,_⟩:=H.union w w' (by omega) (λ z hz=>by have:=b1 z hz;omega) (λ z hz=>by have:=p2 z hz;omega);exact⟨.of (.q k y x) w2 (n+1),f7 [(25,.N 0),(36,.H),(42,.r (TR.ok s).p),(52,.T),(66,.U [dA w,num (n+1)]),(73,.r (dA w')),(74,.r (dA w2))] g1 (UB hkn) g2 g3 g4 g5 g6,RR.good_er (Nat.succ_ne_zero n)⟩
    ·by_cases he:e=0
     ·subst he;obtain⟨f',⟨q3,⟨ja,j1,j2,j3,j4⟩,q5,q6,q7⟩,wf,hw,hmt⟩:=q2 rfl;refine⟨.of (.q k y x) w 0,f5 [(25,.N 0),(36,.H),(42,.r (TR.ok s).p),(52,.T),(66,.U [dA w,num 0])] g1 (UB hkn) g2 g3 g4,λ _=>⟨_,rfl,⟨by show 1+x.cnt<=qA;omega,by show (Fm.q k y x).mx<=M+_;omega,by show (Fm.q k y x).tsz<=qA;omega,⟨.ex true (.q k y x) t ja,by rw [<- j1];rfl,rfl,λ _=>⟨q0 rfl,hchk,j3,s,x,wf,hty,by rw [FQ.inj (hkn.trans rfl:k.n=(RE true).n),(HD y s).1 e1],hw,by rw [j2];exact hmt⟩,λ v hv => ?_⟩,q5,(λ z hz=>by have:=q6 z hz;show z<=M+nA * (1+t.cnt+(Fm.q k y x).cnt+a.cnt);rw [hK];omega),by show w.length<=1+t.cnt+(Fm.q k y x).cnt+a.cnt;omega⟩⟩⟩;rcases hv.2 with h|⟨h,_⟩
      ·exact j4 v h
      ·cases h
     ·obtain⟨n,rfl⟩:=Nat.exists_eq_succ_of_ne_zero he;exact⟨.of (.q k y x) w (n+1),f5 [(25,.N 0),(36,.H),(42,.r (TR.ok s).p),(52,.T),(66,.U [dA w,num (n+1)])] g1 (UB hkn) g2 g3 g4,RR.good_er (Nat.succ_ne_zero n)⟩
  cases f with
  | eq x y=>exact bad (by cases u<;>exact nofun)
  | bin k x y=>exact bad (by cases u<;>cases k<;>exact nofun)
  | q k y x =>
   by_cases h:k.n=bn u 5 7
   ·exact good k y x rfl h
   ·exact bad h
theorem BW (g:List Ty) (s:Ty):AA (g++[s]) = .slice (g.map Ty.c++[s.c]):=by simp [AA]
theorem iS {g:List Ty} {s:Ty} (hg:∀ s∈g,s.size<=qA) (hs:s.size<=qA):∀ x∈g++[s],x.size<=qA:=by
 intro x hx;rcases List.mem_append.1 hx with h|h
 ·exact hg x h
 ·simp at h;subst h;exact hs
theorem Dm (f:Fm) {a b:Pf} (Ha:lD a) (Hb:lD b):SE 165 (.subst f a b):=by
 intro ls g hs M hp;have hm:=zA;have hb:=kA;have hk:nA=8388608:=rfl;have hcx:nB=qA * qA-1001 * 4096:=rfl;have hgl:=hp.gl;have hmb:M+nA * (1+f.cnt+a.cnt+b.cnt)<=nB:=hp.mb;have htz:max (max f.tsz a.tsz) b.tsz<=qA:=hp.tsz;have hmx:max (max f.mx a.mx) b.mx<=M:=hp.mx;have hcn:1+f.cnt+a.cnt+b.cnt<=65536:=hp.cnt;have hK:nA * (1+f.cnt+a.cnt+b.cnt)=nA+nA * f.cnt+nA * a.cnt+nA * b.cnt:=by rw [Nat.mul_add,Nat.mul_add,Nat.mul_add,Nat.mul_one]
 rw [hK] at hmb;rw [hm] at hcx;have c1:=gP g;have c2:=OE 2 32 Ty.c_len (by decide) g .nat (by omega) (by simp only [maxLen];omega);obtain⟨e,g1,q0⟩:=mS (g++[.nat]) f (iS hp.g1 (by decide)) (by omega) (by simp;omega);rw [BW] at g1
 cases e with
 | succ n=>exact⟨.er n,f3 [(25,.ok),(28,.ok),(30,.N (n+1))] c1 c2 g1,RR.good_er (Nat.succ_ne_zero n)⟩
 | zero =>
  have hfc:=Fm.chk0 (q0 rfl).1;have hpa:Pre ls g hs M a:=hp.sub (by show a.cnt<=1+f.cnt+a.cnt+b.cnt;omega) (by show a.tsz<=max (max f.tsz a.tsz) b.tsz;omega) (by show a.mx<=max (max f.mx a.mx) b.mx;omega);have hpb:Pre ls g hs M b:=hp.sub (by show b.cnt<=1+f.cnt+a.cnt+b.cnt;omega) (by show b.tsz<=max (max f.tsz a.tsz) b.tsz;omega) (by show b.mx<=max (max f.mx a.mx) b.mx;omega);obtain⟨r,g2,q1⟩:=Ha _ _ _ _ hpa
  cases r with
  | er n=>exact⟨.er n,f4 [(25,.ok),(28,.ok),(30,.N 0),(41,.r (PR.er n).p)] c1 c2 g1 g2,RR.good_er (Nat.succ_ne_zero n)⟩
  | ok fa w =>
   obtain⟨q1,⟨ja,j1,j2,j3,_⟩,_,_,_⟩:=q1
   cases fa with
   | bin k x y=>exact⟨.er 9,f5 [(25,.ok),(28,.ok),(30,.N 0),(41,.r (PR.ok (.bin k x y) w).p),(51,.G)] c1 c2 g1 g2 (show (!tB (.ofNat (Fm.bin k x y).kd) (.ofNat 1))=true from GC (by cases k<;>exact nofun)),RR.good_er (Nat.succ_ne_zero 9)⟩
   | q k s x=>exact⟨.er 9,f5 [(25,.ok),(28,.ok),(30,.N 0),(41,.r (PR.ok (.q k s x) w).p),(51,.G)] c1 c2 g1 g2 (show (!tB (.ofNat (Fm.q k s x).kd) (.ofNat 1))=true from GC (by cases k<;>exact nofun)),RR.good_er (Nat.succ_ne_zero 9)⟩
   | eq x y =>
    have e1:1+x.cnt+y.cnt<=4096:=q1.1;have e2:max x.mx y.mx<=M+nA * a.cnt:=q1.2.1;have e3:max x.tsz y.tsz<=qA:=q1.2.2;have hfx:f.mx<=M:=by omega
    obtain⟨w2,e,g3,q2,b1,b2⟩:=zN Hb ls g hs M hpb f x (by omega) (by rw [hm];omega) (by omega) (by omega) (by rw [hm];omega) (by omega) (by omega);by_cases he:e=0
    ·subst he;obtain⟨f',⟨q3,⟨jb,k1,k2,k3,k4⟩,q5,q6,q7⟩,wf,hw,hmt⟩:=q2 rfl;obtain⟨r,g4,q8⟩:=qN f y (by omega) (by rw [hm];omega) (by omega) (by omega) (by rw [hm];omega) (by omega);rcases q8 with ⟨n,rfl⟩|⟨rfl,q9⟩
     ·exact⟨⟨0,0,[],[],[],w2,n+1⟩,f6 [(25,.ok),(28,.ok),(30,.N 0),(41,.r (PR.ok (.eq x y) w).p),(65,.U [dA w2,num 0]),(79,.r (FR.er n).p)] c1 c2 g1 g2 g3 g4,RR.good_er (Nat.succ_ne_zero n)⟩
     ·have h1:=eI 0 y f 0;have h2:=cI 0 y f 0;exact⟨.of (f.put 0 y 0) w2 0,f6 [(25,.ok),(28,.ok),(30,.N 0),(41,.r (PR.ok (.eq x y) w).p),(65,.U [dA w2,num 0]),(79,.r (FR.ok (f.put 0 y 0)).p)] c1 c2 g1 g2 g3 g4,λ _=>⟨_,rfl,⟨by show (f.put 0 y 0).cnt<=qA;omega,by show (f.put 0 y 0).mx<=M+nA * (1+f.cnt+a.cnt+b.cnt);rw [hK];omega,by show (f.put 0 y 0).tsz<=qA;omega,⟨.subst f ja jb _,by rw [<- j1,<- k1];rfl,rfl,λ hc=>⟨hc,q0 rfl,j3,k3,x,y,wf,j2,hw,by rw [k2];exact hmt,ZM q9⟩,λ v hv=>k4 v hv.2⟩,q5,(λ z hz=>by have:=q6 z hz;show z<=M+nA * (1+f.cnt+a.cnt+b.cnt);rw [hK];omega),by show w2.length<=1+f.cnt+a.cnt+b.cnt;omega⟩⟩⟩
    ·obtain⟨n,rfl⟩:=Nat.exists_eq_succ_of_ne_zero he;exact⟨.er n,f5 [(25,.ok),(28,.ok),(30,.N 0),(41,.r (PR.ok (.eq x y) w).p),(65,.U [dA w2,num (n+1)])] c1 c2 g1 g2 g3,RR.good_er (Nat.succ_ne_zero n)⟩
theorem nc (H:MF) (u:Bool) {a b:Pf} (Ha:lD a) (Hb:lD b):SE 161 (.p2 (ek u) a b):=by
 intro ls g hs M hp;have hm:=zA;have hb:=kA;have hk:nA=8388608:=rfl;have hcx:nB=qA * qA-1001 * 4096:=rfl;have hgl:=hp.gl;have hhl:=hp.hl;have hmb:M+nA * (1+a.cnt+b.cnt)<=nB:=hp.mb;have htz:max a.tsz b.tsz<=qA:=hp.tsz;have hmx:max a.mx b.mx<=M:=hp.mx;have hcn:1+a.cnt+b.cnt<=65536:=hp.cnt;have hK:nA * (1+a.cnt+b.cnt)=nA+nA * a.cnt+nA * b.cnt:=by rw [Nat.mul_add,Nat.mul_add,Nat.mul_one]
 rw [hK] at hmb;rw [hm] at hcx;have hpa:Pre ls g hs M a:=hp.sub (by show a.cnt<=1+a.cnt+b.cnt;omega) (by show a.tsz<=max a.tsz b.tsz;omega) (by show a.mx<=max a.mx b.mx;omega);obtain⟨r,g2,q1⟩:=Ha _ _ _ _ hpa
 cases r with
 | er n=>cases u<;>exact⟨.er n,f1 [(19,.r (PR.er n).p)] g2,RR.good_er (Nat.succ_ne_zero n)⟩
 | ok fa w =>
 obtain⟨q1,⟨ja,j1,j2,j3,j4⟩,p2,p3,p4⟩:=q1;have bad:fa.kd≠bn u 5 7->∃ c:RR,A 161 [KA ls g hs,(Pf.p2 (ek u) a b).p] c.p/\c.Good ls g hs M (.p2 (ek u) a b):=by
  intro hne;cases u<;>exact⟨.er 9,f2 [(19,.r (PR.ok fa w).p),(33,.G)] g2 (GC hne),RR.good_er (Nat.succ_ne_zero 9)⟩
 have good:∀ (k:FQ) (y:Ty) (x:Fm),fa = .q k y x->k.n=bn u 5 7->∃ c:RR,A 161 [KA ls g hs,(Pf.p2 (ek u) a b).p] c.p/\c.Good ls g hs M (.p2 (ek u) a b):=by
  intro k y x hf hkn;subst hf;have hxc:1+x.cnt<=4096:=q1.1;have hxm:x.mx<=M+nA * a.cnt:=q1.2.1;have hxt:max y.size x.tsz<=qA:=q1.2.2;obtain⟨e,g3,q2⟩:=lP ls g hs 1 1 (by omega) (by omega)
  cases e with
  | succ n=>cases u<;>exact⟨.er n,f3 [(19,.r (PR.ok (.q k y x) w).p),(33,.H),(36,.N (n+1))] g2 (UB hkn) g3,RR.good_er (Nat.succ_ne_zero n)⟩
  | zero =>
  have g4:=tW ls g y hs (by omega) (by omega) (λ f hf=>(hp.h1 f hf).hyp (by omega));have g5:=rS ls (g++[y]) (hs.map (Fm.sh 0 1)) x (by simp;omega);have hroom:=q2 rfl;have hpb:Pre ls (g++[y]) (hs.map (Fm.sh 0 1)++[x]) (M+1+nA * a.cnt) b:=hp.to (by omega) (by
   intro f hf;rcases List.mem_append.1 hf with h|h
   ·exact (eS hp.h1 1 f h).up (by omega)
   ·simp at h;subst h;exact⟨by omega,by omega,by omega⟩) (iS hp.g1 (by omega)) (by simp;omega) (by simp;omega) (by show b.cnt<=1+a.cnt+b.cnt;omega) (by show b.tsz<=max a.tsz b.tsz;omega) (by show b.mx<=max a.mx b.mx;omega) (by omega)
  obtain⟨r,g6,q3⟩:=Hb _ _ _ _ hpb
  cases r with
  | er n=>cases u<;>exact⟨.er n,f6 [(19,.r (PR.ok (.q k y x) w).p),(33,.H),(36,.N 0),(47,.r (KA ls (g++[y]) (hs.map (Fm.sh 0 1)))),(53,.r (KA ls (g++[y]) (hs.map (Fm.sh 0 1)++[x]))),(58,.r (PR.er n).p)] g2 (UB hkn) g3 g4 g5 g6,RR.good_er (Nat.succ_ne_zero n)⟩
  | ok fb v =>
  obtain⟨q3,⟨jb,k1,k2,k3,k4⟩,r2,r3,r4⟩:=q3;have hkk:k=RE u:=FQ.inj (hkn.trans (by cases u<;>rfl));have e1:=q3.1;have e2:=q3.2.1;have e3:=q3.2.2;have hvb:∀ z∈v,z<=bA:=λ z hz=>by have:=r3 z hz;omega
  have hov:=nP 1 v;have hob:∀ z∈LA 1 v,z<=M+1+nA * a.cnt+nA * b.cnt:=mP (λ z hz=>r3 z hz);have g10:=sS 1 v (by omega) hvb;obtain⟨w2,g11,s1,s2,s3,sA⟩:=H.union w (LA 1 v) (by omega) (λ z hz=>by have:=p3 z hz;omega) (λ z hz=>by have:=hob z hz;omega);have hRG:∀ F:Fm,IC fb=some (F.sh 1 (-1))->(u=true->0 ∉ v)->F.mx<=fb.mx+1001 * 4096->F.tsz<=fb.tsz->F.cnt<=4096 * fb.cnt->RG ls g hs M (.p2 (ek u) a b) (F.sh 1 (-1)) w2:=by
   intro F h1 h0 h2 h3 h4;have h5:(F.sh 1 (-1)).mx<=F.mx+0:=QE (-1) F 1;refine⟨by rw [DB];omega,?_,by rw [MB];omega,⟨.p2 (ek u) ja jb (F.sh 1 (-1)),by rw [<- j1,<- k1];rfl,rfl,λ hc => ?_,λ z hz => ?_⟩,sA,λ z hz => ?_,by show w2.length<=1+a.cnt+b.cnt;omega⟩
   ·show _<=M+nA * (1+a.cnt+b.cnt);rw [hK];omega
   ·have hx:ja.f = .q k y ja.f.bd/\jb.D ls (g++[y]) (gA 1 hs++[ja.f.bd]):=by rw [j2];exact⟨rfl,k3⟩
    rw [hkk] at hx;rw [<- k2] at h1;cases u
    ·exact⟨hc,j3,⟨y,hx.1,hx.2⟩,hroom,h1⟩
    ·exact⟨hc,j3,⟨y,hx.1,hx.2⟩,hroom,h1,λ h=>h0 rfl (k4 0 h)⟩
   ·rcases hz.2 with h6|h6
    ·exact s1 z (.inl (j4 z h6))
    ·exact s1 z (.inr (WM (k4 _ (by cases u<;>exact h6))))
   ·show z<=M+nA * (1+a.cnt+b.cnt);rw [hK];rcases s2 z hz with h|h
    ·have:=p3 z h;omega
    ·have:=hob z h;omega
  obtain⟨t1,g7,o7⟩:=yP fb 0 (by omega);obtain⟨t3,g12,RH⟩:=mc r2;cases t1
  ·have h00:fb.occ 0=0:=Classical.byContradiction λ h=>nomatch o7.2 h
   have hwt:IC fb=some (fb.sh 1 (-1)):=by unfold IC;rw [if_pos h00,<- pP fb 0 h00]
   have g9:=gD fb 1 (-1) (by omega) (by omega) (by rw [hm];omega) (by omega);cases u
   ·exact⟨.of (fb.sh 1 (-1)) w2 0,fk [(19,.r (PR.ok (.q k y x) w).p),(33,.H),(36,.N 0),(47,.r (KA ls (g++[y]) (hs.map (Fm.sh 0 1)))),(53,.r (KA ls (g++[y]) (hs.map (Fm.sh 0 1)++[x]))),(58,.r (PR.ok fb v).p),(68,.F),(90,.r (fb.sh 1 (-1)).p),(95,.r (dA (LA 1 v))),(96,.r (dA w2))]
     (And.intro g2 (And.intro (UB hkn) (And.intro g3 (And.intro g4 (And.intro g5 (And.intro g6 (And.intro g7 (And.intro g9 (And.intro g10 (And.intro g11 (Eq.refl (RR.of (fb.sh 1 (-1)) w2 0).p))))))))))),λ _=>⟨_,rfl,hRG fb hwt (λ h=>nomatch h) (by omega) (Nat.le_refl _) (by omega)⟩⟩
   ·cases t3
    ·exact⟨.of (fb.sh 1 (-1)) w2 0,f11 [(19,.r (PR.ok (.q k y x) w).p),(33,.H),(36,.N 0),(47,.r (KA ls (g++[y]) (hs.map (Fm.sh 0 1)))),(53,.r (KA ls (g++[y]) (hs.map (Fm.sh 0 1)++[x]))),(58,.r (PR.ok fb v).p),(68,.F),(86,.F),(90,.r (fb.sh 1 (-1)).p),(95,.r (dA (LA 1 v))),(96,.r (dA w2))] g2 (UB hkn) g3 g4 g5 g6 g7 g12 g9 g10 g11,λ _=>⟨_,rfl,hRG fb hwt (λ _=>RH rfl) (by omega) (Nat.le_refl _) (by omega)⟩⟩
    ·exact⟨.er 11,f8 [(19,.r (PR.ok (.q k y x) w).p),(33,.H),(36,.N 0),(47,.r (KA ls (g++[y]) (hs.map (Fm.sh 0 1)))),(53,.r (KA ls (g++[y]) (hs.map (Fm.sh 0 1)++[x]))),(58,.r (PR.ok fb v).p),(68,.F),(86,.T)] g2 (UB hkn) g3 g4 g5 g6 g7 g12,RR.good_er (Nat.succ_ne_zero 11)⟩
  ·obtain⟨r,g8,n1⟩:=cS fb (by omega) (by omega) (by omega)
   cases r with
   | er n=>cases u<;>exact⟨.er n,f8 [(19,.r (PR.ok (.q k y x) w).p),(33,.H),(36,.N 0),(47,.r (KA ls (g++[y]) (hs.map (Fm.sh 0 1)))),(53,.r (KA ls (g++[y]) (hs.map (Fm.sh 0 1)++[x]))),(58,.r (PR.ok fb v).p),(68,.T),(71,.r (FR.er n).p)] g2 (UB hkn) g3 g4 g5 g6 g7 g8,RR.good_er (Nat.succ_ne_zero n)⟩
   | ok F =>
    obtain⟨n1,n2,n3,n4⟩:=n1;obtain⟨t2,g13,o13⟩:=yP F 0 (by omega);have g9:=gD F 1 (-1) (by omega) (by omega) (by rw [hm];omega) (by omega);cases t2
    ·have h00:F.occ 0=0:=Classical.byContradiction λ h=>nomatch o13.2 h
     have hwt:IC fb=some (F.sh 1 (-1)):=by unfold IC;rw [if_neg (o7.1 rfl),n1];simp only;rw [if_pos h00,<- pP F 0 h00]
     cases u
     ·exact⟨.of (F.sh 1 (-1)) w2 0,f12 [(19,.r (PR.ok (.q k y x) w).p),(33,.H),(36,.N 0),(47,.r (KA ls (g++[y]) (hs.map (Fm.sh 0 1)))),(53,.r (KA ls (g++[y]) (hs.map (Fm.sh 0 1)++[x]))),(58,.r (PR.ok fb v).p),(68,.T),(71,.r (FR.ok F).p),(79,.F),(90,.r (F.sh 1 (-1)).p),(95,.r (dA (LA 1 v))),(96,.r (dA w2))] g2 (UB hkn) g3 g4 g5 g6 g7 g8 g13 g9 g10 g11,λ _=>⟨_,rfl,hRG F hwt (λ h=>nomatch h) n2 n3 n4⟩⟩
     ·cases t3
      ·exact⟨.of (F.sh 1 (-1)) w2 0,f13 [(19,.r (PR.ok (.q k y x) w).p),(33,.H),(36,.N 0),(47,.r (KA ls (g++[y]) (hs.map (Fm.sh 0 1)))),(53,.r (KA ls (g++[y]) (hs.map (Fm.sh 0 1)++[x]))),(58,.r (PR.ok fb v).p),(68,.T),(71,.r (FR.ok F).p),(79,.F),(86,.F),(90,.r (F.sh 1 (-1)).p),(95,.r (dA (LA 1 v))),(96,.r (dA w2))] g2 (UB hkn) g3 g4 g5 g6 g7 g8 g13 g12 g9 g10 g11,λ _=>⟨_,rfl,hRG F hwt (λ _=>RH rfl) n2 n3 n4⟩⟩
      ·exact⟨.er 11,f10 [(19,.r (PR.ok (.q k y x) w).p),(33,.H),(36,.N 0),(47,.r (KA ls (g++[y]) (hs.map (Fm.sh 0 1)))),(53,.r (KA ls (g++[y]) (hs.map (Fm.sh 0 1)++[x]))),(58,.r (PR.ok fb v).p),(68,.T),(71,.r (FR.ok F).p),(79,.F),(86,.T)] g2 (UB hkn) g3 g4 g5 g6 g7 g8 g13 g12,RR.good_er (Nat.succ_ne_zero 11)⟩
    ·cases u<;>exact⟨.er 5,f9 [(19,.r (PR.ok (.q k y x) w).p),(33,.H),(36,.N 0),(47,.r (KA ls (g++[y]) (hs.map (Fm.sh 0 1)))),(53,.r (KA ls (g++[y]) (hs.map (Fm.sh 0 1)++[x]))),(58,.r (PR.ok fb v).p),(68,.T),(71,.r (FR.ok F).p),(79,.T)] g2 (UB hkn) g3 g4 g5 g6 g7 g8 g13,RR.good_er (Nat.succ_ne_zero 5)⟩
 cases fa with
 | eq x y=>exact bad (by cases u<;>exact nofun)
 | bin k x y=>exact bad (by cases u<;>cases k<;>exact nofun)
 | q k y x =>
  by_cases h:k.n=bn u 5 7
  ·exact good k y x rfl h
  ·exact bad h
end Go.Proofs.YtnkoaepelgbhfaaGreatDoor
