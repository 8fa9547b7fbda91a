/- Contracts of functions; no conditions. -/
import Derived.Test.YtalkjpicadiimaaGreatDoorLC2
set_option linter.all false
set_option maxHeartbeats 4000000
namespace Go.Proofs.YtalkjpicadiimaaGreatDoor
open Go.Lg
set_option maxRecDepth 100000
def Fm.put:Fm→Nat→Tm→Nat→Fm
 | .eq a b,c,s,d => .eq (a.put c s d) (b.put c s d)
 | .bin k f g,c,s,d => .bin k (f.put c s d) (g.put c s d)
 | .q k u f,c,s,d => .q k u (f.put c s (d+1))
theorem qVt:∀ (f:Fm) (c:Nat),f.occ c≤f.cnt
 | .eq a b,c=>by have:=qQx a c;have:=qQx b c;simp only [Fm.occ,Fm.cnt];omega
 | .bin k f g,c=>by have:=qVt f c;have:=qVt g c;simp only [Fm.occ,Fm.cnt];omega
 | .q k s f,c=>by have:=qVt f (c+1);simp only [Fm.occ,Fm.cnt];omega
theorem qWk (c:Nat) (s:Tm):∀ (f:Fm) (d:Nat),(f.put c s d).cnt+f.occ (c+d)=f.cnt+f.occ (c+d) * s.cnt
 | .eq a b,d=>by have:=qJr c s a d;have:=qJr c s b d;simp only [Fm.put,Fm.occ,Fm.cnt,Nat.add_mul];omega
 | .bin k f g,d=>by have:=qWk c s f d;have:=qWk c s g d;simp only [Fm.put,Fm.occ,Fm.cnt,Nat.add_mul];omega
 | .q k u f,d=>by have:=qWk c s f (d+1);simp only [Fm.put,Fm.occ,Fm.cnt,Nat.add_assoc] at this ⊢;omega
theorem qJv (c:Nat) (s:Tm):∀ (f:Fm) (d:Nat),(f.put c s d).tsz≤max f.tsz s.tsz
 | .eq a b,d=>by have:=qVs c s a d;have:=qVs c s b d;simp only [Fm.put,Fm.tsz];omega
 | .bin k f g,d=>by have:=qJv c s f d;have:=qJv c s g d;simp only [Fm.put,Fm.tsz];omega
 | .q k u f,d=>by have:=qJv c s f (d+1);simp only [Fm.put,Fm.tsz];omega
theorem qWl (c:Nat) (s:Tm):∀ (f:Fm) (d:Nat),(f.put c s d).mx≤max f.mx (s.mx+(c+d+f.cnt))
 | .eq a b,d=>by have:=qKg c s a d;have:=qKg c s b d;simp only [Fm.put,Fm.mx,Fm.cnt];omega
 | .bin k f g,d=>by have:=qWl c s f d;have:=qWl c s g d;simp only [Fm.put,Fm.mx,Fm.cnt];omega
 | .q k u f,d=>by have:=qWl c s f (d+1);simp only [Fm.put,Fm.mx,Fm.cnt];omega
theorem zEh:∀ (f:Fm) (c d:Nat) (s:Tm),s.mx≤mid * mid→s.cnt≤mid→f.mx≤mid * mid→c+d+f.cnt≤mid→A 305 [f.p,num c,num d,s.p] (f.put c s d).p
 | .eq a b,c,d,s,h1,h2,h3,h4=>by
  have h3:max a.mx b.mx≤mid * mid:=h3
  have h4:c+d+(1+a.cnt+b.cnt)≤mid:=h4
  exact f2 [(32,.r (a.put c s d).p),(32,.r (b.put c s d).p)] (qUf a c d s h1 h2 (by omega) (by omega)) (qUf b c d s h1 h2 (by omega) (by omega))
 | .bin k f g,c,d,s,h1,h2,h3,h4=>by
  have h3:max f.mx g.mx≤mid * mid:=h3
  have h4:c+d+(1+f.cnt+g.cnt)≤mid:=h4
  have hm:=qQd
  have h5:=inN (show d≤_ by omega)
  have h6:=zEh f c d s h1 h2 (by omega) (by omega)
  have h7:=zEh g c d s h1 h2 (by omega) (by omega)
  cases k<;>exact f4 [(51,.ok),(53,.r (f.put c s d).p),(51,.ok),(53,.r (g.put c s d).p)] h5 h6 h5 h7
 | .q k u f,c,d,s,h1,h2,h3,h4=>by
  have h4:c+d+(1+f.cnt)≤mid:=h4
  have hm:=qQd
  have h5:=inN (show d+1≤_ by omega)
  have h6:=zEh f c (d+1) s h1 h2 h3 (by omega)
  cases k<;>exact f2 [(51,.ok),(53,.r (f.put c s (d+1)).p)] h5 h6
theorem zK3 {n:Nat} (h:n≤big):inB (Int.ofNat 0 + .ofNat n)=true∧Int.ofNat 0 + .ofNat n = .ofNat n:=by
 have e:Int.ofNat 0 + .ofNat n = .ofNat n:=by simp
 exact⟨by rw [e];exact inb h,e⟩
theorem zEi:∀ (f:Fm) (c:Nat),c+f.cnt≤mid→A 304 [f.p,num c] (num (f.occ c))
 | .eq a b,c,h=>by
  have h:c+(1+a.cnt+b.cnt)≤mid:=h
  have hm:=qQd
  have hb:=qQh
  have u1:=qQx a c
  have u2:=qQx b c
  exact f4 [(20,.N (a.occ c)),(21,.z (a.occ c)),(20,.N (b.occ c)),(21,.ok)] (qUe a c (by omega)) (zK3 (n:=a.occ c) (by omega)) (qUe b c (by omega)) (qZi (a:=a.occ c) (b:=b.occ c) (by omega))
 | .bin k f g,c,h=>by
  have h:c+(1+f.cnt+g.cnt)≤mid:=h
  have hm:=qQd
  have hb:=qQh
  have u1:=qVt f c
  have u2:=qVt g c
  have h5:=inN (show c≤_ by omega)
  have h6:=zEi f c (by omega)
  have h7:=zEi g c (by omega)
  have h8:=zK3 (n:=f.occ c) (by omega)
  have h9:=qZi (a:=f.occ c) (b:=g.occ c) (by omega)
  cases k<;>exact f6 [(35,.ok),(36,.N (f.occ c)),(37,.z (f.occ c)),(35,.ok),(36,.N (g.occ c)),(37,.ok)] h5 h6 h8 h5 h7 h9
 | .q k s f,c,h=>by
  have h:c+(1+f.cnt)≤mid:=h
  have hm:=qQd
  have hb:=qQh
  have u1:=qVt f (c+1)
  have h5:=inN (show c+1≤_ by omega)
  have h6:=zEi f (c+1) (by omega)
  have h8:=zK3 (n:=f.occ (c+1)) (by omega)
  cases k<;>exact f3 [(35,.ok),(36,.N (f.occ (c+1))),(37,.z (f.occ (c+1)))] h5 h6 h8
theorem zFy (g:List Ty) (t:Tm) (hg:∀ s∈g,s.size≤mid) (h1:t.tsz≤mid) (h2:g.length+t.cnt≤mid):∃ r:TR,A 273 [tys g,t.p] r.p∧r.sz≤mid ∧ ∀ s,r = .ok s→t.chk=0∧t.tyR g = .ok s:=by
 have hm:=qQd
 have hb:=qQh
 have g1:=a31 t (by omega) (by omega)
 cases e:t.chk with
 | succ n=>rw [e] at g1;exact⟨.er n,f1 [(8,.N (n+1))] g1,Nat.zero_le _,fun _ h=>by cases h⟩
 | zero =>
  rw [e] at g1
  obtain⟨r,g2,g3,g4⟩:=zVb t g hg h1 h2
  exact⟨r,f2 [(8,.N 0),(15,.r r.p)] g1 g2,g3,fun _ h=>⟨rfl,by rw [← g4,h]⟩⟩
theorem zFz (g:List Ty) (t:Tm) (hg:∀ s∈g,s.size≤mid) (h1:t.tsz≤mid) (h2:g.length+t.cnt≤mid):∃ r:TR,A 220 [tys g,t.p] r.p∧r.sz≤mid ∧ ∀ s,r = .ok s→t.chk=0∧t.tyR g = .ok s:=by
 have hm:=qQd
 have hb:=qQh
 have g1:=a29 g (fun s hs=>by have:=hg s hs;omega)
 cases e:qSd g with
 | succ n=>rw [e] at g1;exact⟨.er n,f1 [(8,.N (n+1))] g1,Nat.zero_le _,fun _ h=>by cases h⟩
 | zero =>
  rw [e] at g1
  obtain⟨r,g2,g3⟩:=zFy g t hg h1 h2
  exact⟨r,f2 [(8,.N 0),(15,.r r.p)] g1 g2,g3⟩
theorem TR.cases' (r:TR):(∃ n,r = .er n)∨(∃ s,r = .ok s∧s.kd=1) ∨ ∃ s,r = .ok s∧s.kd≠1:=by
 cases r with
 | er n=>exact .inl ⟨n,rfl⟩
 | ok s =>
  by_cases h:s.kd=1
  ·exact .inr (.inl ⟨s,rfl,h⟩)
  ·exact .inr (.inr ⟨s,rfl,h⟩)
theorem qJg {m n:Nat} (h:m=n):(!eqI (.ofNat m) (.ofNat n))=false:=by rw [h];exact qK1 n
theorem kd1 {s:Ty} (h:s.kd=1):s = .nat:=by
 cases s with
 | nat=>rfl
 | two k a b=>cases k<;>cases h
 | _=>cases h
def Fm.ty:List Ty→Fm→Prop
 | g,.eq a b=>(a.chk=0∧a.tyR g = .ok .nat)∧b.chk=0∧b.tyR g = .ok .nat
 | g,.bin _ f h=>f.ty g∧h.ty g
 | g,.q _ s f=>f.ty (g++[s])
theorem zEj:∀ (f:Fm) (g:List Ty),(∀ s∈g,s.size≤mid)→f.tsz≤mid→g.length+f.cnt≤mid→∃ e,A 214 [tys g,f.p] (num e)∧(e=0→f.ty g)
 | .eq a b,g,hg,ht,hl=>by
  have ht:max a.tsz b.tsz≤mid:=ht
  have hl:g.length+(1+a.cnt+b.cnt)≤mid:=hl
  obtain⟨r,h1,_,q1⟩:=zFy g a hg (by omega) (by omega)
  obtain⟨q,h2,_,q2⟩:=zFy g b hg (by omega) (by omega)
  rcases r.cases' with ⟨n,rfl⟩|⟨s,rfl,e1⟩|⟨s,rfl,e1⟩
  ·exact⟨n+1,f1 [(22,.r (TR.er n).p)] h1,fun h=>nomatch h⟩
  ·rcases q.cases' with ⟨n,rfl⟩|⟨u,rfl,e2⟩|⟨u,rfl,e2⟩
   ·exact⟨n+1,f3 [(22,.r (TR.ok s).p),(30,.H),(22,.r (TR.er n).p)] h1 (qJg e1) h2,fun h=>nomatch h⟩
   ·exact⟨0,f4 [(22,.r (TR.ok s).p),(30,.H),(22,.r (TR.ok u).p),(30,.H)] h1 (qJg e1) h2 (qJg e2),fun _=>⟨q1 _ (congrArg _ (kd1 e1)),q2 _ (congrArg _ (kd1 e2))⟩⟩
   ·exact⟨7,f4 [(22,.r (TR.ok s).p),(30,.H),(22,.r (TR.ok u).p),(30,.G)] h1 (qJg e1) h2 (qC8 e2),fun h=>nomatch h⟩
  ·exact⟨7,f2 [(22,.r (TR.ok s).p),(30,.G)] h1 (qC8 e1),fun h=>nomatch h⟩
 | .bin k f h,g,hg,ht,hl=>by
  have ht:max f.tsz h.tsz≤mid:=ht
  have hl:g.length+(1+f.cnt+h.cnt)≤mid:=hl
  obtain⟨e,h1,q1⟩:=zEj f g hg (by omega) (by omega)
  obtain⟨e',h2,q2⟩:=zEj h g hg (by omega) (by omega)
  cases e with
  | succ n=>cases k<;>exact⟨n+1,f1 [(54,.N (n+1))] h1,fun h=>nomatch h⟩
  | zero=>cases e' with
   | succ n=>cases k<;>exact⟨n+1,f2 [(54,.N 0),(54,.N (n+1))] h1 h2,fun h=>nomatch h⟩
   | zero=>cases k<;>exact⟨0,f2 [(54,.N 0),(54,.N 0)] h1 h2,fun _=>⟨q1 rfl,q2 rfl⟩⟩
 | .q k s f,g,hg,ht,hl=>by
  have ht:max s.size f.tsz≤mid:=ht
  have hl:g.length+(1+f.cnt)≤mid:=hl
  have hm:=qQd
  obtain⟨e,h1,q1⟩:=zEj f (g++[s]) (by intro u hu;rcases List.mem_append.1 hu with h|h;exact hg u h;simp at h;subst h;omega) (by omega) (by simp;omega)
  simp only [tys,List.map_append,List.map_cons,List.map_nil] at h1
  have h3:=qYb 2 32 Ty.c_len (by decide) g s (by omega) (by simp only [maxLen];omega)
  have h2:=qV6 (g.map Ty.c).length
  cases e with
  | succ n=>cases k<;>exact⟨n+1,f3 [(40,.ok),(44,.ok),(54,.N (n+1))] h2 h3 h1,fun h=>nomatch h⟩
  | zero=>cases k<;>exact⟨0,f3 [(40,.ok),(44,.ok),(54,.N 0)] h2 h3 h1,fun _=>q1 rfl⟩
theorem zEk (g:List Ty) (f:Fm) (hg:∀ s∈g,s.size≤mid) (h1:f.tsz≤mid) (h2:g.length+f.cnt≤mid):∃ e,A 147 [tys g,f.p] (num e)∧(e=0→f.chk=0∧f.ty g):=by
 have hm:=qQd
 have hb:=qQh
 have g1:=a75 f h1 (by omega)
 cases e:f.chk with
 | succ n=>rw [e] at g1;exact⟨n+1,f1 [(7,.N (n+1))] g1,nofun⟩
 | zero =>
  rw [e] at g1
  obtain⟨r,g2,g3⟩:=zEj f g hg h1 h2
  exact⟨r,f2 [(7,.N 0),(13,.N r)] g1 g2,fun h=>⟨rfl,g3 h⟩⟩
theorem zEl (g:List Ty) (f:Fm) (hg:∀ s∈g,s.size≤mid) (h1:f.tsz≤mid) (h2:g.length+f.cnt≤mid):∃ e,A 102 [tys g,f.p] (num e)∧(e=0→f.chk=0∧f.ty g):=by
 have hm:=qQd
 have hb:=qQh
 have g1:=a29 g (fun s hs=>by have:=hg s hs;omega)
 cases e:qSd g with
 | succ n=>rw [e] at g1;exact⟨n+1,f1 [(7,.N (n+1))] g1,nofun⟩
 | zero =>
  rw [e] at g1
  obtain⟨r,g2,g3⟩:=zEk g f hg h1 h2
  exact⟨r,f2 [(7,.N 0),(13,.N r)] g1 g2,g3⟩
theorem FB.inj {k l:FB} (h:k.n=l.n):k=l:=by cases k<;>cases l<;>first|rfl|cases h
theorem FQ.inj {k l:FQ} (h:k.n=l.n):k=l:=by cases k<;>cases l<;>first|rfl|cases h
abbrev cmx:Nat:=mid * mid-1001 * 4096
def Fm.mt:Fm→Fm→Prop
 | .eq a c,.eq b d=>a.mt b∧c.mt d
 | .bin k f g,.bin l f' g'=>k=l∧f.mt f'∧g.mt g'
 | .q k s f,.q l u g=>k=l∧s=u∧f.mt g
 | _,_=>False
theorem zVc {a b:Fm} (h:a.kd≠b.kd):∃ e,A 216 [a.p,b.p] (num e)∧(e=0→a.mt b):=⟨11,f1 [(13,.G)] (qC8 h),fun h=>nomatch h⟩
theorem zEm:∀ a b:Fm,a.cnt≤big→a.mx≤cmx→a.tsz≤mid→b.cnt≤big→b.mx≤cmx→b.tsz≤mid→∃ e,A 216 [a.p,b.p] (num e)∧(e=0→a.mt b)
 | .eq a c,.eq b d,h1,h2,h3,h4,h5,h6=>by
  have hm:=qQd
  simp only [Fm.cnt,Fm.mx,Fm.tsz] at h1 h2 h3 h4 h5 h6
  obtain⟨e,g1,q1⟩:=zIk a b (by omega) (by simp only [cmx,hm] at *;omega) (by omega) (by omega) (by simp only [cmx,hm] at *;omega) (by omega)
  obtain⟨e',g2,q2⟩:=zIk c d (by omega) (by simp only [cmx,hm] at *;omega) (by omega) (by omega) (by simp only [cmx,hm] at *;omega) (by omega)
  cases e with
  | succ n=>exact⟨n+1,f2 [(19,.T),(38,.N (n+1))] qOq g1,fun h=>nomatch h⟩
  | zero=>cases e' with
   | succ n=>exact⟨n+1,f3 [(19,.T),(38,.N 0),(38,.N (n+1))] qOq g1 g2,fun h=>nomatch h⟩
   | zero=>exact⟨0,f3 [(19,.T),(38,.N 0),(38,.N 0)] qOq g1 g2,fun _=>⟨q1 rfl,q2 rfl⟩⟩
 | .bin k f g,.bin l f' g',h1,h2,h3,h4,h5,h6=>by
  by_cases h:k=l
  ·subst h
   simp only [Fm.cnt,Fm.mx,Fm.tsz] at h1 h2 h3 h4 h5 h6
   obtain⟨e,g1,q1⟩:=zEm f f' (by omega) (by omega) (by omega) (by omega) (by omega) (by omega)
   obtain⟨e',g2,q2⟩:=zEm g g' (by omega) (by omega) (by omega) (by omega) (by omega) (by omega)
   cases e with
   | succ n=>exact⟨n+1,f3 [(13,.H),(19,.T),(59,.N (n+1))] (qK1 k.n) qOq g1,fun h=>nomatch h⟩
   | zero=>cases e' with
    | succ n=>exact⟨n+1,f4 [(13,.H),(19,.T),(59,.N 0),(59,.N (n+1))] (qK1 k.n) qOq g1 g2,fun h=>nomatch h⟩
    | zero=>exact⟨0,f4 [(13,.H),(19,.T),(59,.N 0),(59,.N 0)] (qK1 k.n) qOq g1 g2,fun _=>⟨rfl,q1 rfl,q2 rfl⟩⟩
  ·exact zVc fun e=>h (FB.inj e)
 | .q k s f,.q l u g,h1,h2,h3,h4,h5,h6=>by
  by_cases h:k=l
  ·subst h
   simp only [Fm.cnt,Fm.mx,Fm.tsz] at h1 h2 h3 h4 h5 h6
   have g0:=a80 s u
   cases es:s.same u<;>rw [es] at g0
   ·exact⟨11,f2 [(13,.H),(19,.F)] (qK1 k.n) g0,fun h=>nomatch h⟩
   obtain⟨e,g1,q1⟩:=zEm f g (by omega) (by omega) (by omega) (by omega) (by omega) (by omega)
   cases e with
   | succ n=>exact⟨n+1,f3 [(13,.H),(19,.T),(59,.N (n+1))] (qK1 k.n) g0 g1,fun h=>nomatch h⟩
   | zero=>exact⟨0,f3 [(13,.H),(19,.T),(59,.N 0)] (qK1 k.n) g0 g1,fun _=>⟨rfl,(qJf s u).1 es,q1 rfl⟩⟩
  ·exact zVc fun e=>h (FQ.inj e)
 | .eq _ _,.bin l _ _,_,_,_,_,_,_=>zVc (by cases l<;>exact nofun)
 | .eq _ _,.q l _ _,_,_,_,_,_,_=>zVc (by cases l<;>exact nofun)
 | .bin l _ _,.eq _ _,_,_,_,_,_,_=>zVc (by cases l<;>exact nofun)
 | .bin k _ _,.q l _ _,_,_,_,_,_,_=>zVc (by cases k<;>cases l<;>exact nofun)
 | .q l _ _,.eq _ _,_,_,_,_,_,_=>zVc (by cases l<;>exact nofun)
 | .q k _ _,.bin l _ _,_,_,_,_,_,_=>zVc (by cases k<;>cases l<;>exact nofun)
theorem zIl (a b:Fm) (h1:a.cnt≤big) (h2:a.mx≤cmx) (h3:a.tsz≤mid) (h4:b.cnt≤big) (h5:b.mx≤cmx) (h6:b.tsz≤mid):∃ e,A 151 [a.p,b.p] (num e)∧(e=0→a.mt b):=by
 have g1:=a75 a h3 h1
 have g2:=a75 b h6 h4
 cases e1:a.chk with
 | succ n=>rw [e1] at g1;exact⟨n+1,f1 [(8,.N (n+1))] g1,fun h=>nomatch h⟩
 | zero =>
  rw [e1] at g1
  cases e2:b.chk with
  | succ n=>rw [e2] at g2;exact⟨n+1,f2 [(8,.N 0),(13,.N (n+1))] g1 g2,fun h=>nomatch h⟩
  | zero =>
   rw [e2] at g2
   obtain⟨e,g3,q1⟩:=zEm a b h1 h2 h3 h4 h5 h6
   exact⟨e,f3 [(8,.N 0),(13,.N 0),(19,.N e)] g1 g2 g3,q1⟩
inductive FR where
 | er (n:Nat)
 | ok (f:Fm)
def FR.k:FR→Nat
 | .er _=>0
 | .ok f=>f.kd
def FR.tk:FR→Nat
 | .er _=>0
 | .ok f=>f.tk
def FR.te:FR→List (List PV)
 | .er _=>[]
 | .ok f=>f.te
def FR.ts:FR→List (List PV)
 | .er _=>[]
 | .ok f=>f.ts
def FR.es:FR→List (List PV)
 | .er _=>[]
 | .ok f=>f.es
def FR.n:FR→Nat
 | .er n=>n+1
 | .ok _=>0
def FR.p (r:FR):PV:=.tuple [.agg [num r.k,num r.tk,.slice r.te,.slice r.ts,.slice r.es],num r.n]
theorem zLx (f:Fm) (s:Tm) (h1:f.cnt≤mid) (h2:f.mx≤mid * mid) (h3:f.tsz≤mid) (h4:s.cnt≤mid) (h5:s.mx≤mid * mid) (h6:s.tsz≤mid):∃ r:FR,A 276 [f.p,num 0,s.p] r.p∧((∃ n,r = .er n)∨r = .ok (f.put 0 s 0)∧(f.put 0 s 0).cnt≤4096):=by
 have hm:=qQd
 have hb:=qQh
 have g1:=a75 f h3 (by omega)
 cases e1:f.chk with
 | succ n=>rw [e1] at g1;exact⟨.er n,f1 [(11,.N (n+1))] g1,.inl ⟨n,rfl⟩⟩
 | zero =>
  rw [e1] at g1
  have g2:=a31 s (by omega) (by omega)
  cases e2:s.chk with
  | succ n=>rw [e2] at g2;exact⟨.er n,f2 [(11,.N 0),(24,.N (n+1))] g1 g2,.inl ⟨n,rfl⟩⟩
  | zero =>
   rw [e2] at g2
   obtain⟨p,g3,_⟩:=zEg f 536870912
   obtain⟨q,g4,_⟩:=qSh s 536870912
   cases p
   ·exact⟨.er 0,f3 [(11,.N 0),(24,.N 0),(30,.F)] g1 g2 g3,.inl ⟨0,rfl⟩⟩
   cases q
   ·exact⟨.er 0,f4 [(11,.N 0),(24,.N 0),(30,.T),(34,.F)] g1 g2 g3 g4,.inl ⟨0,rfl⟩⟩
   have g5:=qIj f (by omega)
   have g6:=zEi f 0 (by omega)
   have g7:=a87 s (by omega)
   have h7:=qBe s
   have g8:=qV7 h7 (by omega)
   have h8:=qVt f 0
   have h9:f.occ 0 * (s.cnt-1)≤mid * mid:=Nat.mul_le_mul (by omega) (by omega)
   have h10:f.occ 0 * s.cnt=f.occ 0 * (s.cnt-1)+f.occ 0:=by
    have:s.cnt=(s.cnt-1)+1:=by omega
    rw [this,Nat.mul_succ];simp
   have h11:=qWk 0 s f 0
   simp only [Nat.zero_add] at h11
   have h9':=h9
   rw [hm] at h9'
   have g9:=zBm (a:=f.occ 0) (b:=s.cnt-1) (by omega)
   have g10:=qZi (a:=f.cnt) (b:=f.occ 0 * (s.cnt-1)) (by omega)
   cases e3:ltI (.ofNat 4096) (.ofNat (f.cnt+f.occ 0 * (s.cnt-1)))
   ·refine⟨.ok (f.put 0 s 0),f13 [(11,.N 0),(24,.N 0),(30,.T),(34,.T),(39,.N f.cnt),(42,.N (f.occ 0)),(44,.N s.cnt),(45,.z (s.cnt-1)),(46,.ok),(47,.ok),(48,.H),(53,.r (f.put 0 s 0).p),(54,.r (f.put 0 s 0).p)] g1 g2 g3 g4 g5 g6 g7 g8 g9 g10 e3 (zEh f 0 0 s h5 h4 h2 (by omega)) (a64 (f.put 0 s 0)),.inr ⟨rfl,?_⟩⟩
    rw [qQr] at e3
    have:=of_decide_eq_false e3
    simp at this
    omega
   ·exact⟨.er 3,f11 [(11,.N 0),(24,.N 0),(30,.T),(34,.T),(39,.N f.cnt),(42,.N (f.occ 0)),(44,.N s.cnt),(45,.z (s.cnt-1)),(46,.ok),(47,.ok),(48,.G)] g1 g2 g3 g4 g5 g6 g7 g8 g9 g10 e3,.inl ⟨3,rfl⟩⟩
def Fm.has:Fm→Bool
 | .eq _ _=>false
 | .bin k f g=>match k with
  | .and=>f.has || g.has
  | .imp=>g.has
 | .q k _ f=>match k with
  | .ex=>true
  | _=>f.has
theorem zK4:∀ f:Fm,A 162 [f.p] (.bool f.has)
 | .eq a b=>f0 []
 | .bin .and f g=>by
  have h1:=zK4 f
  have h2:=zK4 g
  show A 162 [(Fm.bin .and f g).p] (.bool (f.has || g.has))
  cases e:f.has<;>rw [e] at h1
  ·cases e:g.has<;>rw [e] at h2
   ·exact f2 [(13,.F),(19,.F)] h1 h2
   ·exact f2 [(13,.F),(19,.T)] h1 h2
  ·exact f1 [(13,.T)] h1
 | .bin .imp f g=>f1 [(31,.r (.bool g.has))] (zK4 g)
 | .q .ex s f=>f0 []
 | .q .all s f=>f1 [(31,.r (.bool f.has))] (zK4 f)
 | .q .allU s f=>f1 [(31,.r (.bool f.has))] (zK4 f)
 | .q .exU s f=>f1 [(31,.r (.bool f.has))] (zK4 f)
theorem a85 (f:Fm) (h1:f.tsz≤mid) (h2:f.cnt≤big):∃ b e,A 106 [f.p] (.tuple [.bool b,num e])∧(f.chk=0→b=f.has∧e=0):=by
 have g1:=a75 f h1 h2
 cases e1:f.chk with
 | succ n=>rw [e1] at g1;exact⟨false,n+1,f1 [(6,.N (n+1))] g1,nofun⟩
 | zero=>rw [e1] at g1;exact⟨f.has,0,f2 [(6,.N 0),(11,.r (.bool f.has))] g1 (zK4 f),fun _=>⟨rfl,rfl⟩⟩
open Go.Lg
set_option maxRecDepth 100000
def Pf.cnt:Pf→Nat
 | .leaf u i=>1
 | .refl t=>1+t.cnt
 | .p1 k a=>1+a.cnt
 | .p2 k a b=>1+a.cnt+b.cnt
 | .impI f a=>1+f.cnt+a.cnt
 | .all u s a=>1+a.cnt
 | .ins u t a=>1+t.cnt+a.cnt
 | .ex u f t a=>1+t.cnt+f.cnt+a.cnt
 | .ind l f t a b=>1+t.cnt+f.cnt+a.cnt+b.cnt
 | .subst f a b=>1+f.cnt+a.cnt+b.cnt
def Pf.mx:Pf→Nat
 | .leaf u i=>0
 | .refl t=>t.mx
 | .p1 k a=>a.mx
 | .p2 k a b=>max a.mx b.mx
 | .impI f a=>max f.mx a.mx
 | .all u s a=>a.mx
 | .ins u t a=>max t.mx a.mx
 | .ex u f t a=>max (max t.mx f.mx) a.mx
 | .ind l f t a b=>max (max (max t.mx f.mx) a.mx) b.mx
 | .subst f a b=>max (max f.mx a.mx) b.mx
def Pf.tsz:Pf→Nat
 | .leaf u i=>0
 | .refl t=>t.tsz
 | .p1 k a=>a.tsz
 | .p2 k a b=>max a.tsz b.tsz
 | .impI f a=>max f.tsz a.tsz
 | .all u s a=>max a.tsz s.size
 | .ins u t a=>max t.tsz a.tsz
 | .ex u f t a=>max (max t.tsz f.tsz) a.tsz
 | .ind l f t a b=>max (max (max t.tsz f.tsz) a.tsz) b.tsz
 | .subst f a b=>max (max f.tsz a.tsz) b.tsz
theorem qIk:∀ p:Pf,A 32 [p.p] p.p
 | .leaf u i=>by
  exact f1 [(16,.r zt)] qYw
 | .refl t=>by
  exact f2 [(16,.r zt),(28,.r t.p)] qYw (a65 t)
 | .p1 k a=>by
  exact f2 [(16,.r zt),(58,.r a.p)] qYw (qIk a)
 | .p2 k a b=>by
  exact f3 [(16,.r zt),(58,.r a.p),(58,.r b.p)] qYw (qIk a) (qIk b)
 | .impI f a=>by
  exact f3 [(16,.r zt),(43,.r f.p),(58,.r a.p)] qYw (a64 f) (qIk a)
 | .all u s a=>by
  exact f2 [(16,.r s.p),(58,.r a.p)] (qC7 s) (qIk a)
 | .ins u t a=>by
  exact f3 [(16,.r zt),(28,.r t.p),(58,.r a.p)] qYw (a65 t) (qIk a)
 | .ex u f t a=>by
  exact f4 [(16,.r zt),(28,.r t.p),(43,.r f.p),(58,.r a.p)] qYw (a65 t) (a64 f) (qIk a)
 | .ind l f t a b=>by
  exact f5 [(16,.r zt),(28,.r t.p),(43,.r f.p),(58,.r a.p),(58,.r b.p)] qYw (a65 t) (a64 f) (qIk a) (qIk b)
 | .subst f a b=>by
  exact f4 [(16,.r zt),(43,.r f.p),(58,.r a.p),(58,.r b.p)] qYw (a64 f) (qIk a) (qIk b)
theorem qLr:∀ p:Pf,p.cnt≤big→A 131 [p.p] (num p.cnt)
 | .leaf u i,h=>by
  have h:1≤big:=h
  have hb:=qQh
  exact f0 []
 | .refl t,h=>by
  have h:1+t.cnt≤big:=h
  have hb:=qQh
  have qt:=a87 t (by omega)
  have rt:=qZi (a:=1) (b:=t.cnt) (by omega)
  exact f2 [(19,.N t.cnt),(20,.ok)] qt rt
 | .p1 k a,h=>by
  have h:1+a.cnt≤big:=h
  have hb:=qQh
  have qa:=qLr a (by omega)
  have ra:=qZi (a:=1) (b:=a.cnt) (by omega)
  exact f2 [(43,.N a.cnt),(44,.ok)] qa ra
 | .p2 k a b,h=>by
  have h:1+a.cnt+b.cnt≤big:=h
  have hb:=qQh
  have qa:=qLr a (by omega)
  have ra:=qZi (a:=1) (b:=a.cnt) (by omega)
  have qb:=qLr b (by omega)
  have rb:=qZi (a:=1+a.cnt) (b:=b.cnt) (by omega)
  exact f4 [(43,.N a.cnt),(44,.ok),(43,.N b.cnt),(44,.ok)] qa ra qb rb
 | .impI f a,h=>by
  have h:1+f.cnt+a.cnt≤big:=h
  have hb:=qQh
  have qf:=qIj f (by omega)
  have rf:=qZi (a:=1) (b:=f.cnt) (by omega)
  have qa:=qLr a (by omega)
  have ra:=qZi (a:=1+f.cnt) (b:=a.cnt) (by omega)
  exact f4 [(31,.N f.cnt),(32,.ok),(43,.N a.cnt),(44,.ok)] qf rf qa ra
 | .all u s a,h=>by
  have h:1+a.cnt≤big:=h
  have hb:=qQh
  have qa:=qLr a (by omega)
  have ra:=qZi (a:=1) (b:=a.cnt) (by omega)
  exact f2 [(43,.N a.cnt),(44,.ok)] qa ra
 | .ins u t a,h=>by
  have h:1+t.cnt+a.cnt≤big:=h
  have hb:=qQh
  have qt:=a87 t (by omega)
  have rt:=qZi (a:=1) (b:=t.cnt) (by omega)
  have qa:=qLr a (by omega)
  have ra:=qZi (a:=1+t.cnt) (b:=a.cnt) (by omega)
  exact f4 [(19,.N t.cnt),(20,.ok),(43,.N a.cnt),(44,.ok)] qt rt qa ra
 | .ex u f t a,h=>by
  have h:1+t.cnt+f.cnt+a.cnt≤big:=h
  have hb:=qQh
  have qt:=a87 t (by omega)
  have rt:=qZi (a:=1) (b:=t.cnt) (by omega)
  have qf:=qIj f (by omega)
  have rf:=qZi (a:=1+t.cnt) (b:=f.cnt) (by omega)
  have qa:=qLr a (by omega)
  have ra:=qZi (a:=1+t.cnt+f.cnt) (b:=a.cnt) (by omega)
  exact f6 [(19,.N t.cnt),(20,.ok),(31,.N f.cnt),(32,.ok),(43,.N a.cnt),(44,.ok)] qt rt qf rf qa ra
 | .ind l f t a b,h=>by
  have h:1+t.cnt+f.cnt+a.cnt+b.cnt≤big:=h
  have hb:=qQh
  have qt:=a87 t (by omega)
  have rt:=qZi (a:=1) (b:=t.cnt) (by omega)
  have qf:=qIj f (by omega)
  have rf:=qZi (a:=1+t.cnt) (b:=f.cnt) (by omega)
  have qa:=qLr a (by omega)
  have ra:=qZi (a:=1+t.cnt+f.cnt) (b:=a.cnt) (by omega)
  have qb:=qLr b (by omega)
  have rb:=qZi (a:=1+t.cnt+f.cnt+a.cnt) (b:=b.cnt) (by omega)
  exact f8 [(19,.N t.cnt),(20,.ok),(31,.N f.cnt),(32,.ok),(43,.N a.cnt),(44,.ok),(43,.N b.cnt),(44,.ok)] qt rt qf rf qa ra qb rb
 | .subst f a b,h=>by
  have h:1+f.cnt+a.cnt+b.cnt≤big:=h
  have hb:=qQh
  have qf:=qIj f (by omega)
  have rf:=qZi (a:=1) (b:=f.cnt) (by omega)
  have qa:=qLr a (by omega)
  have ra:=qZi (a:=1+f.cnt) (b:=a.cnt) (by omega)
  have qb:=qLr b (by omega)
  have rb:=qZi (a:=1+f.cnt+a.cnt) (b:=b.cnt) (by omega)
  exact f6 [(31,.N f.cnt),(32,.ok),(43,.N a.cnt),(44,.ok),(43,.N b.cnt),(44,.ok)] qf rf qa ra qb rb
def Pf.ck:Pf→Prop
 | .leaf _ _=>True
 | .refl t=>t.chk=0
 | .p1 _ a=>a.ck
 | .p2 _ a b=>a.ck∧b.ck
 | .impI f a=>f.chk=0∧a.ck
 | .all _ s a=>s.size≤64∧a.ck
 | .ins _ t a=>t.chk=0∧a.ck
 | .ex _ f t a=>t.chk=0∧f.chk=0∧a.ck
 | .ind _ f t a b=>t.chk=0∧f.chk=0∧a.ck∧b.ck
 | .subst f a b=>f.chk=0∧a.ck∧b.ck
def Pf.l4:Pf→Prop
 | .leaf _ _=>True
 | .refl t=>t.cnt≤4096
 | .p1 _ a=>a.l4
 | .p2 _ a b=>a.l4∧b.l4
 | .impI f a=>f.cnt≤4096∧a.l4
 | .all _ s a=>a.l4
 | .ins _ t a=>t.cnt≤4096∧a.l4
 | .ex _ f t a=>t.cnt≤4096∧f.cnt≤4096∧a.l4
 | .ind _ f t a b=>t.cnt≤4096∧f.cnt≤4096∧a.l4∧b.l4
 | .subst f a b=>f.cnt≤4096∧a.l4∧b.l4
def Pf.sh:Pf→Prop
 | .leaf _ _=>True
 | .refl t=>t.shp=true
 | .p1 _ a=>a.sh
 | .p2 _ a b=>a.sh∧b.sh
 | .impI f a=>f.shp=true∧a.sh
 | .all _ s a=>s.size≤64∧a.sh
 | .ins _ t a=>t.shp=true∧a.sh
 | .ex _ f t a=>t.shp=true∧f.shp=true∧a.sh
 | .ind _ f t a b=>t.shp=true∧f.shp=true∧a.sh∧b.sh
 | .subst f a b=>f.shp=true∧a.sh∧b.sh
theorem lf_iff {a b:Nat} : ltI (.ofNat a) (.ofNat b)=false↔b≤a:=by
 rw [qQr];simp
theorem lf4 {n:Nat} : ltI 4096 (n:Int)=false↔n≤4096:=lf_iff (a:=4096)
theorem Tm.chk_i {t:Tm} (h:t.shp=true) (h':t.cnt≤4096):t.chk=0:=by
 unfold Tm.chk
 rw [h]
 simp only
 rw [qZ7 h']
theorem Fm.chk_i {t:Fm} (h:t.shp=true) (h':t.cnt≤4096):t.chk=0:=by
 unfold Fm.chk
 rw [h]
 simp only
 rw [qZ7 h']
theorem Pf.ck_i:∀ p:Pf,p.sh→p.l4→p.ck
 | .leaf _ _,_,_=>trivial
 | .refl t,h,k=>Tm.chk_i h k
 | .p1 _ a,h,k=>ck_i a h k
 | .p2 _ a b,h,k=>⟨ck_i a h.1 k.1,ck_i b h.2 k.2⟩
 | .impI f a,h,k=>⟨Fm.chk_i h.1 k.1,ck_i a h.2 k.2⟩
 | .all _ s a,h,k=>⟨h.1,ck_i a h.2 k⟩
 | .ins _ t a,h,k=>⟨Tm.chk_i h.1 k.1,ck_i a h.2 k.2⟩
 | .ex _ f t a,h,k=>⟨Tm.chk_i h.1 k.1,Fm.chk_i h.2.1 k.2.1,ck_i a h.2.2 k.2.2⟩
 | .ind _ f t a b,h,k=>⟨Tm.chk_i h.1 k.1,Fm.chk_i h.2.1 k.2.1,ck_i a h.2.2.1 k.2.2.1,ck_i b h.2.2.2 k.2.2.2⟩
 | .subst f a b,h,k=>⟨Fm.chk_i h.1 k.1,ck_i a h.2.1 k.2.1,ck_i b h.2.2 k.2.2⟩
theorem qPa:∀ p:Pf,p.cnt≤big→∃ r,A 130 [p.p] (.bool r)∧(r=true→p.l4)
 | .leaf u i,h=>by
  have h:1≤big:=h
  have hb:=qQh
  exact⟨true,f0 [],fun _=>by simp_all [Pf.l4,lf4]⟩
 | .refl t,h=>by
  have h:1+t.cnt≤big:=h
  have hb:=qQh
  have qt:=a87 t (by omega)
  cases et:ltI (.ofNat 4096) (.ofNat t.cnt)
  rotate_left
  ·exact⟨false,f2 [(17,.N t.cnt),(18,.G)] qt et,fun h=>nomatch h⟩
  exact⟨true,f2 [(17,.N t.cnt),(18,.H)] qt et,fun _=>by simp_all [Pf.l4,lf4]⟩
 | .p1 k a,h=>by
  have h:1+a.cnt≤big:=h
  have hb:=qQh
  obtain⟨ra,qa,ia⟩:=qPa a (by omega)
  cases ra
  ·exact⟨false,f1 [(39,.F)] qa,fun h=>nomatch h⟩
  exact⟨true,f1 [(39,.T)] qa,fun _=>by simp_all [Pf.l4,lf4]⟩
 | .p2 k a b,h=>by
  have h:1+a.cnt+b.cnt≤big:=h
  have hb:=qQh
  obtain⟨ra,qa,ia⟩:=qPa a (by omega)
  cases ra
  ·exact⟨false,f1 [(39,.F)] qa,fun h=>nomatch h⟩
  obtain⟨rb,qb,ib⟩:=qPa b (by omega)
  cases rb
  ·exact⟨false,f2 [(39,.T),(39,.F)] qa qb,fun h=>nomatch h⟩
  exact⟨true,f2 [(39,.T),(39,.T)] qa qb,fun _=>by simp_all [Pf.l4,lf4]⟩
 | .impI f a,h=>by
  have h:1+f.cnt+a.cnt≤big:=h
  have hb:=qQh
  have qf:=qIj f (by omega)
  cases ef:ltI (.ofNat 4096) (.ofNat f.cnt)
  rotate_left
  ·exact⟨false,f2 [(28,.N f.cnt),(29,.G)] qf ef,fun h=>nomatch h⟩
  obtain⟨ra,qa,ia⟩:=qPa a (by omega)
  cases ra
  ·exact⟨false,f3 [(28,.N f.cnt),(29,.H),(39,.F)] qf ef qa,fun h=>nomatch h⟩
  exact⟨true,f3 [(28,.N f.cnt),(29,.H),(39,.T)] qf ef qa,fun _=>by simp_all [Pf.l4,lf4]⟩
 | .all u s a,h=>by
  have h:1+a.cnt≤big:=h
  have hb:=qQh
  obtain⟨ra,qa,ia⟩:=qPa a (by omega)
  cases ra
  ·exact⟨false,f1 [(39,.F)] qa,fun h=>nomatch h⟩
  exact⟨true,f1 [(39,.T)] qa,fun _=>by simp_all [Pf.l4,lf4]⟩
 | .ins u t a,h=>by
  have h:1+t.cnt+a.cnt≤big:=h
  have hb:=qQh
  have qt:=a87 t (by omega)
  cases et:ltI (.ofNat 4096) (.ofNat t.cnt)
  rotate_left
  ·exact⟨false,f2 [(17,.N t.cnt),(18,.G)] qt et,fun h=>nomatch h⟩
  obtain⟨ra,qa,ia⟩:=qPa a (by omega)
  cases ra
  ·exact⟨false,f3 [(17,.N t.cnt),(18,.H),(39,.F)] qt et qa,fun h=>nomatch h⟩
  exact⟨true,f3 [(17,.N t.cnt),(18,.H),(39,.T)] qt et qa,fun _=>by simp_all [Pf.l4,lf4]⟩
 | .ex u f t a,h=>by
  have h:1+t.cnt+f.cnt+a.cnt≤big:=h
  have hb:=qQh
  have qt:=a87 t (by omega)
  cases et:ltI (.ofNat 4096) (.ofNat t.cnt)
  rotate_left
  ·exact⟨false,f2 [(17,.N t.cnt),(18,.G)] qt et,fun h=>nomatch h⟩
  have qf:=qIj f (by omega)
  cases ef:ltI (.ofNat 4096) (.ofNat f.cnt)
  rotate_left
  ·exact⟨false,f4 [(17,.N t.cnt),(18,.H),(28,.N f.cnt),(29,.G)] qt et qf ef,fun h=>nomatch h⟩
  obtain⟨ra,qa,ia⟩:=qPa a (by omega)
  cases ra
  ·exact⟨false,f5 [(17,.N t.cnt),(18,.H),(28,.N f.cnt),(29,.H),(39,.F)] qt et qf ef qa,fun h=>nomatch h⟩
  exact⟨true,f5 [(17,.N t.cnt),(18,.H),(28,.N f.cnt),(29,.H),(39,.T)] qt et qf ef qa,fun _=>by simp_all [Pf.l4,lf4]⟩
 | .ind l f t a b,h=>by
  have h:1+t.cnt+f.cnt+a.cnt+b.cnt≤big:=h
  have hb:=qQh
  have qt:=a87 t (by omega)
  cases et:ltI (.ofNat 4096) (.ofNat t.cnt)
  rotate_left
  ·exact⟨false,f2 [(17,.N t.cnt),(18,.G)] qt et,fun h=>nomatch h⟩
  have qf:=qIj f (by omega)
  cases ef:ltI (.ofNat 4096) (.ofNat f.cnt)
  rotate_left
  ·exact⟨false,f4 [(17,.N t.cnt),(18,.H),(28,.N f.cnt),(29,.G)] qt et qf ef,fun h=>nomatch h⟩
  obtain⟨ra,qa,ia⟩:=qPa a (by omega)
  cases ra
  ·exact⟨false,f5 [(17,.N t.cnt),(18,.H),(28,.N f.cnt),(29,.H),(39,.F)] qt et qf ef qa,fun h=>nomatch h⟩
  obtain⟨rb,qb,ib⟩:=qPa b (by omega)
  cases rb
  ·exact⟨false,f6 [(17,.N t.cnt),(18,.H),(28,.N f.cnt),(29,.H),(39,.T),(39,.F)] qt et qf ef qa qb,fun h=>nomatch h⟩
  exact⟨true,f6 [(17,.N t.cnt),(18,.H),(28,.N f.cnt),(29,.H),(39,.T),(39,.T)] qt et qf ef qa qb,fun _=>by simp_all [Pf.l4,lf4]⟩
 | .subst f a b,h=>by
  have h:1+f.cnt+a.cnt+b.cnt≤big:=h
  have hb:=qQh
  have qf:=qIj f (by omega)
  cases ef:ltI (.ofNat 4096) (.ofNat f.cnt)
  rotate_left
  ·exact⟨false,f2 [(28,.N f.cnt),(29,.G)] qf ef,fun h=>nomatch h⟩
  obtain⟨ra,qa,ia⟩:=qPa a (by omega)
  cases ra
  ·exact⟨false,f3 [(28,.N f.cnt),(29,.H),(39,.F)] qf ef qa,fun h=>nomatch h⟩
  obtain⟨rb,qb,ib⟩:=qPa b (by omega)
  cases rb
  ·exact⟨false,f4 [(28,.N f.cnt),(29,.H),(39,.T),(39,.F)] qf ef qa qb,fun h=>nomatch h⟩
  exact⟨true,f4 [(28,.N f.cnt),(29,.H),(39,.T),(39,.T)] qf ef qa qb,fun _=>by simp_all [Pf.l4,lf4]⟩
theorem qPb:∀ p:Pf,p.tsz≤mid→∃ r,A 76 [p.p] (.bool r)∧(r=true→p.sh)
 | .leaf u i,h=>by
  have h:0≤mid:=h
  have hm:=qQd
  have hb:=qQh
  cases u<;>exact⟨true,f1 [(73,.T)] qQz,fun _=>by simp_all [Pf.sh]⟩
 | .refl t,h=>by
  have h:t.tsz≤mid:=h
  have hm:=qQd
  have hb:=qQh
  have qt:=a86 t (by omega)
  cases et:t.shp<;>rw [et] at qt
  ·exact⟨false,f2 [(73,.T),(85,.F)] qQz qt,fun h=>nomatch h⟩
  exact⟨true,f2 [(73,.T),(85,.T)] qQz qt,fun _=>by simp_all [Pf.sh]⟩
 | .p1 k a,h=>by
  have h:a.tsz≤mid:=h
  have hm:=qQd
  have hb:=qQh
  obtain⟨ra,qa,ia⟩:=qPb a (by omega)
  cases ra
  ·cases k<;>exact⟨false,f2 [(73,.T),(107,.F)] qQz qa,fun h=>nomatch h⟩
  cases k<;>exact⟨true,f2 [(73,.T),(107,.T)] qQz qa,fun _=>by simp_all [Pf.sh]⟩
 | .p2 k a b,h=>by
  have h:max a.tsz b.tsz≤mid:=h
  have hm:=qQd
  have hb:=qQh
  obtain⟨ra,qa,ia⟩:=qPb a (by omega)
  cases ra
  ·cases k<;>exact⟨false,f2 [(73,.T),(107,.F)] qQz qa,fun h=>nomatch h⟩
  obtain⟨rb,qb,ib⟩:=qPb b (by omega)
  cases rb
  ·cases k<;>exact⟨false,f3 [(73,.T),(107,.T),(107,.F)] qQz qa qb,fun h=>nomatch h⟩
  cases k<;>exact⟨true,f3 [(73,.T),(107,.T),(107,.T)] qQz qa qb,fun _=>by simp_all [Pf.sh]⟩
 | .impI f a,h=>by
  have h:max f.tsz a.tsz≤mid:=h
  have hm:=qQd
  have hb:=qQh
  have qf:=zQu f (by omega)
  cases ef:f.shp<;>rw [ef] at qf
  ·exact⟨false,f2 [(73,.T),(96,.F)] qQz qf,fun h=>nomatch h⟩
  obtain⟨ra,qa,ia⟩:=qPb a (by omega)
  cases ra
  ·exact⟨false,f3 [(73,.T),(96,.T),(107,.F)] qQz qf qa,fun h=>nomatch h⟩
  exact⟨true,f3 [(73,.T),(96,.T),(107,.T)] qQz qf qa,fun _=>by simp_all [Pf.sh]⟩
 | .all u s a,h=>by
  have h:max a.tsz s.size≤mid:=h
  have hm:=qQd
  have hb:=qQh
  have qs:=a84 s (by omega)
  rcases qZc s with es|es<;>rw [es] at qs
  rotate_left
  ·cases u<;>exact⟨false,f1 [(63,.N 4)] qs,fun h=>nomatch h⟩
  obtain⟨ra,qa,ia⟩:=qPb a (by omega)
  cases ra
  ·cases u<;>exact⟨false,f2 [(63,.N 0),(107,.F)] qs qa,fun h=>nomatch h⟩
  cases u<;>exact⟨true,f2 [(63,.N 0),(107,.T)] qs qa,fun _=>⟨chk0 es,ia rfl⟩⟩
 | .ins u t a,h=>by
  have h:max t.tsz a.tsz≤mid:=h
  have hm:=qQd
  have hb:=qQh
  have qt:=a86 t (by omega)
  cases et:t.shp<;>rw [et] at qt
  ·cases u<;>exact⟨false,f2 [(73,.T),(85,.F)] qQz qt,fun h=>nomatch h⟩
  obtain⟨ra,qa,ia⟩:=qPb a (by omega)
  cases ra
  ·cases u<;>exact⟨false,f3 [(73,.T),(85,.T),(107,.F)] qQz qt qa,fun h=>nomatch h⟩
  cases u<;>exact⟨true,f3 [(73,.T),(85,.T),(107,.T)] qQz qt qa,fun _=>by simp_all [Pf.sh]⟩
 | .ex u f t a,h=>by
  have h:max (max t.tsz f.tsz) a.tsz≤mid:=h
  have hm:=qQd
  have hb:=qQh
  have qt:=a86 t (by omega)
  cases et:t.shp<;>rw [et] at qt
  ·cases u<;>exact⟨false,f2 [(73,.T),(85,.F)] qQz qt,fun h=>nomatch h⟩
  have qf:=zQu f (by omega)
  cases ef:f.shp<;>rw [ef] at qf
  ·cases u<;>exact⟨false,f3 [(73,.T),(85,.T),(96,.F)] qQz qt qf,fun h=>nomatch h⟩
  obtain⟨ra,qa,ia⟩:=qPb a (by omega)
  cases ra
  ·cases u<;>exact⟨false,f4 [(73,.T),(85,.T),(96,.T),(107,.F)] qQz qt qf qa,fun h=>nomatch h⟩
  cases u<;>exact⟨true,f4 [(73,.T),(85,.T),(96,.T),(107,.T)] qQz qt qf qa,fun _=>by simp_all [Pf.sh]⟩
 | .ind l f t a b,h=>by
  have h:max (max (max t.tsz f.tsz) a.tsz) b.tsz≤mid:=h
  have hm:=qQd
  have hb:=qQh
  have qt:=a86 t (by omega)
  cases et:t.shp<;>rw [et] at qt
  ·cases l<;>exact⟨false,f2 [(73,.T),(85,.F)] qQz qt,fun h=>nomatch h⟩
  have qf:=zQu f (by omega)
  cases ef:f.shp<;>rw [ef] at qf
  ·cases l<;>exact⟨false,f3 [(73,.T),(85,.T),(96,.F)] qQz qt qf,fun h=>nomatch h⟩
  obtain⟨ra,qa,ia⟩:=qPb a (by omega)
  cases ra
  ·cases l<;>exact⟨false,f4 [(73,.T),(85,.T),(96,.T),(107,.F)] qQz qt qf qa,fun h=>nomatch h⟩
  obtain⟨rb,qb,ib⟩:=qPb b (by omega)
  cases rb
  ·cases l<;>exact⟨false,f5 [(73,.T),(85,.T),(96,.T),(107,.T),(107,.F)] qQz qt qf qa qb,fun h=>nomatch h⟩
  cases l<;>exact⟨true,f5 [(73,.T),(85,.T),(96,.T),(107,.T),(107,.T)] qQz qt qf qa qb,fun _=>by simp_all [Pf.sh]⟩
 | .subst f a b,h=>by
  have h:max (max f.tsz a.tsz) b.tsz≤mid:=h
  have hm:=qQd
  have hb:=qQh
  have qf:=zQu f (by omega)
  cases ef:f.shp<;>rw [ef] at qf
  ·exact⟨false,f2 [(73,.T),(96,.F)] qQz qf,fun h=>nomatch h⟩
  obtain⟨ra,qa,ia⟩:=qPb a (by omega)
  cases ra
  ·exact⟨false,f3 [(73,.T),(96,.T),(107,.F)] qQz qf qa,fun h=>nomatch h⟩
  obtain⟨rb,qb,ib⟩:=qPb b (by omega)
  cases rb
  ·exact⟨false,f4 [(73,.T),(96,.T),(107,.T),(107,.F)] qQz qf qa qb,fun h=>nomatch h⟩
  exact⟨true,f4 [(73,.T),(96,.T),(107,.T),(107,.T)] qQz qf qa qb,fun _=>by simp_all [Pf.sh]⟩
theorem zLy (p:Pf) (h:p.cnt≤big):∃ r,A 77 [p.p] (.bool r)∧(r=true→p.l4∧p.cnt≤16384):=by
 obtain⟨r,h1,q1⟩:=qPa p h
 cases r
 ·exact⟨false,f1 [(4,.F)] h1,fun h=>nomatch h⟩
 ·cases e : !ltI (.ofNat 16384) (.ofNat p.cnt)
  ·exact⟨false,f3 [(4,.T),(7,.N p.cnt),(8,.H)] h1 (qLr p h) e,fun h=>nomatch h⟩
  ·exact⟨true,f3 [(4,.T),(7,.N p.cnt),(8,.G)] h1 (qLr p h) e,fun _=>⟨q1 rfl,lf_iff.1 (by simpa using e)⟩⟩
theorem a62 (p:Pf) (h:p.cnt≤big) (h':p.tsz≤mid):∃ e,A 30 [p.p] (num e)∧(e=0→p.ck∧p.cnt≤16384):=by
 obtain⟨r,h1,q1⟩:=qPb p h'
 cases r
 ·exact⟨2,f1 [(4,.F)] h1,fun h=>nomatch h⟩
 ·obtain⟨q,h2,q2⟩:=zLy p h
  cases q
  ·exact⟨4,f2 [(4,.T),(7,.F)] h1 h2,fun h=>nomatch h⟩
  ·exact⟨0,f2 [(4,.T),(7,.T)] h1 h2,fun _=>⟨p.ck_i (q1 rfl) (q2 rfl).1,(q2 rfl).2⟩⟩
abbrev zF0 (l:List Pf):PV:=.slice (l.map Pf.c)
abbrev pn (n:Nat) (ts fs es:List (List PV)):PV:=.agg [num n,num 0,num 0,.slice [],.slice ts,.slice fs,.slice es]
theorem qOs (n:Nat) (a:Pf):A 43 [num n,zF0 [a]] (pn n [] [] [a.c]):=f1 [(19,.r a.p)] (qIk a)
theorem qDl (n:Nat) (a b:Pf):A 43 [num n,zF0 [a,b]] (pn n [] [] [a.c,b.c]):=f2 [(19,.r a.p),(19,.r b.p)] (qIk a) (qIk b)
theorem a45 (f:Fm) (a:Pf):A 45 [f.p,a.p] (Pf.impI f a).p:=f2 [(8,.r (pn 6 [] [] [a.c])),(10,.r f.p)] (qOs 6 a) (a64 f)
theorem a47 (u:Bool) (s:Ty) (a:Pf):A 47 [num (bn u 8 12),s.p,a.p] (Pf.all u s a).p:=f2 [(11,.r (pn (bn u 8 12) [] [] [a.c])),(13,.r s.p)] (qOs (bn u 8 12) a) (qC7 s)
theorem zF1 (n:Nat) (t:Tm) (a:Pf):A 49 [num n,t.p,a.p] (pn n [t.c] [] [a.c]):=f2 [(11,.r (pn n [] [] [a.c])),(13,.r t.p)] (qOs n a) (a65 t)
theorem a49 (u:Bool) (t:Tm) (a:Pf):A 49 [num (bn u 9 13),t.p,a.p] (Pf.ins u t a).p:=zF1 (bn u 9 13) t a
theorem a52 (u:Bool) (f:Fm) (t:Tm) (a:Pf):A 55 [num (bn u 10 14),f.p,t.p,a.p] (Pf.ex u f t a).p:=f2 [(13,.r (pn (bn u 10 14) [t.c] [] [a.c])),(15,.r f.p)] (zF1 (bn u 10 14) t a) (a64 f)
theorem a55 (l:Bool) (f:Fm) (t:Tm) (a b:Pf):A 58 [num (bn l 16 17),f.p,t.p,a.p,b.p] (Pf.ind l f t a b).p:=f3 [(16,.r (pn (bn l 16 17) [] [] [a.c,b.c])),(18,.r t.p),(22,.r f.p)] (qDl (bn l 16 17) a b) (a65 t) (a64 f)
theorem a59 (f:Fm) (a b:Pf):A 61 [f.p,a.p,b.p] (Pf.subst f a b).p:=f2 [(11,.r (pn 19 [] [] [a.c,b.c])),(13,.r f.p)] (qDl 19 a b) (a64 f)
theorem a21 (t:Tm):A 20 [t.p] (Pf.refl t).p:=f1 [(4,.r t.p)] (a65 t)
theorem a56 (i:Nat):A 59 [num i] (Pf.leaf false i).p:=f0 []
def cgP (g s:Tm) (p:Pf):Pf:=.subst (.eq (.n2 .app (g.sh 0 1) (s.sh 0 1)) (.n2 .app (g.sh 0 1) (.v 0))) p (.refl (.n2 .app g s))
theorem zLz (g s:Tm) (p:Pf) (h1:g.mx≤mid * mid) (h2:g.cnt≤mid) (h3:s.mx≤mid * mid) (h4:s.cnt≤mid):A 145 [g.p,s.p,p.p] (cgP g s p).p:=by
 have hm:=qQd
 have g1:=qHp g 0 1 (by omega) (by omega) h1 (by omega)
 have g2:=qHp s 0 1 (by omega) (by omega) h3 (by omega)
 exact f9 [(8,.n [(7,.r (g.sh 0 1).p)]),(10,.n [(7,.r (s.sh 0 1).p)]),(12,.r (Tm.n2 .app (g.sh 0 1) (s.sh 0 1)).p),(14,.n [(7,.r (g.sh 0 1).p)]),(17,.r (Tm.n2 .app (g.sh 0 1) (.v 0)).p),(18,.r (Fm.eq (.n2 .app (g.sh 0 1) (s.sh 0 1)) (.n2 .app (g.sh 0 1) (.v 0))).p),(23,.r (Tm.n2 .app g s).p),(24,.r (Pf.refl (.n2 .app g s)).p),(25,.r (cgP g s p).p)]
  g1 g2 (qYx 3 (g.sh 0 1) (s.sh 0 1)) g1 (qYx 3 (g.sh 0 1) (.v 0)) (a43 (.n2 .app (g.sh 0 1) (s.sh 0 1)) (.n2 .app (g.sh 0 1) (.v 0))) (qYx 3 g s) (a21 (.n2 .app g s)) (a59 (.eq (.n2 .app (g.sh 0 1) (s.sh 0 1)) (.n2 .app (g.sh 0 1) (.v 0))) p (.refl (.n2 .app g s)))
def sucT:Tm:=.lam .nat (.n1 .succ (.v 0))
def pl0:Tm:=.n2 .app (.n2 .app plusT (.n0 .zero)) (.v 0)
def stepP:Pf:=cgP sucT pl0 (.leaf false 0)
theorem qSj:A 77 [stepP.p] (.bool true):=by
 have g1:A 130 [(Pf.leaf false 0).p] (.bool true):=f0 []
 have g2:A 130 [(Pf.refl (.n2 .app sucT pl0)).p] (.bool true):=f1 [(17,.N (Tm.n2 .app sucT pl0).cnt)] (a87 (.n2 .app sucT pl0) (by decide))
 let F:Fm:=.eq (.n2 .app (sucT.sh 0 1) (pl0.sh 0 1)) (.n2 .app (sucT.sh 0 1) (.v 0))
 have g3:A 130 [stepP.p] (.bool true):=f3 [(28,.N F.cnt),(39,.T),(39,.T)] (qIj F (by decide)) g1 g2
 exact f2 [(4,.T),(7,.N stepP.cnt)] g3 (qLr stepP (by decide))
theorem zQv:A 146 [row [sucT,pl0,.v 0],.slice [],zF0 [.leaf false 0]] (num 0):=by
 have g1:A 76 [(Pf.leaf false 0).p] (.bool true):=f0 []
 have g2:A 77 [(Pf.leaf false 0).p] (.bool true):=f0 []
 have g3:A 30 [(Pf.leaf false 0).p] (num 0):=f2 [(4,.T),(7,.T)] g1 g2
 exact f4 [(23,.N sucT.chk),(23,.N pl0.chk),(23,.N (Tm.v 0).chk),(47,.N 0)] (a31 sucT (by decide) (by decide)) (a31 pl0 (by decide) (by decide)) (a31 (.v 0) (by decide) (by decide)) g3
theorem zL0:A 101 [sucT.p,pl0.p,(Tm.v 0).p,(Pf.leaf false 0).p] (.tuple [stepP.p,num 0]):=by
 have g1:A 144 [stepP.p,num 0] (.tuple [stepP.p,num 0]):=f2 [(11,.T),(15,.r stepP.p)] qSj (qIk stepP)
 exact f3 [(13,.r stepP.p),(20,.N 0),(21,.U [stepP.p,num 0])] (zLz sucT pl0 (.leaf false 0) (by decide) (by decide) (by decide) (by decide)) zQv g1
open Go.Lg
set_option maxRecDepth 100000
section
variable {f i bs:Nat} {s s':IS} {e:AE}
theorem y1 (tp:Di) (ko:Kp) {H1 N:Prop} (h1:H1) (m:N) (q:(H1∧e=e∧N∧s'=s')=Rd f i bs s tp ko ko e s':=by kernel_rfl):Lp f i bs s e s':=rk tp ko ko ⟨h1,rfl,m,rfl⟩ q
theorem y2 (tp:Di) (ko:Kp) {H1 H2 N:Prop} (h1:H1) (h2:H2) (m:N) (q:(H1∧H2∧e=e∧N∧s'=s')=Rd f i bs s tp ko ko e s':=by kernel_rfl):Lp f i bs s e s':=rk tp ko ko ⟨h1,h2,rfl,m,rfl⟩ q
theorem y5 (tp:Di) (ko:Kp) {H1 H2 H3 H4 H5 N:Prop} (h1:H1) (h2:H2) (h3:H3) (h4:H4) (h5:H5) (m:N) (q:(H1∧H2∧H3∧H4∧H5∧e=e∧N∧s'=s')=Rd f i bs s tp ko ko e s':=by kernel_rfl):Lp f i bs s e s':=rk tp ko ko ⟨h1,h2,h3,h4,h5,rfl,m,rfl⟩ q
end
abbrev fms (l:List Fm):PV:=.slice (l.map Fm.c)
theorem Fm.c_len (f:Fm):f.c.length=5:=rfl
abbrev ckp (ls:List Fm) (g:List Ty) (hs:List Fm):PV:=.agg [fms ls,tys g,fms hs]
def fin (c:Fm→Fm):List (List V)→Nat→List Fm→List (List V)
 | E,_,[]=>E
 | E,n,f::r=>fin c (E.take n++[pvL (c f).c]) (n+1) r
theorem pvE_len (A:List (List PV)):(pvE A).length=A.length:=by
 induction A with
 | nil=>rfl
 | cons a r ih=>show (pvL a::pvE r).length=_;simp [ih]
theorem pvE_app (A B:List (List PV)):pvE (A++B)=pvE A++pvE B:=by
 induction A with
 | nil=>rfl
 | cons a r ih=>show pvL a::pvE (r++B)=pvL a::pvE r++pvE B;rw [ih];rfl
theorem qSk (c:Fm→Fm):∀ (r:List Fm) (A:List (List PV)),fin c (pvE A) A.length r=pvE (A++r.map fun f=>(c f).c)
 | [],A=>by simp [fin]
 | f::r,A=>by
  have h1:(pvE A).take A.length++[pvL (c f).c]=pvE (A++[(c f).c]):=by
   rw [List.take_of_length_le (by rw [pvE_len];exact Nat.le_refl _),pvE_app]
   rfl
  have h2:A.length+1=(A++[(c f).c]).length:=by simp
  simp only [fin]
  rw [h1,h2,qSk c r]
  simp
theorem qCu:∀ l:List PV,qQj (pvL l)=[]
 | []=>rfl
 | c::r=>by show V.names (.pv c)++qQj (pvL r)=[];rw [qCu r];rfl
theorem qKh (E:List (List V)) (n:Nat) (c:List PV) (h:qQm E=[]):qQm (E.take n++[pvL c])=[]:=by
 have h1:∀ (E:List (List V)) (n:Nat),qQm E=[]→qQm (E.take n)=[]:=by
  intro E
  induction E with
  | nil=>intro n _;simp [qQm]
  | cons e r ih =>
   intro n h
   cases n with
   | zero=>rfl
   | succ n =>
    simp only [qQm,List.append_eq_nil_iff] at h
    simp only [List.take_succ_cons,qQm,h.1,ih n h.2,List.append_nil]
 have h2:∀ (E F:List (List V)),qQm (E++F)=qQm E++qQm F:=by
  intro E F
  induction E with
  | nil=>rfl
  | cons e r ih=>simp [qQm,ih]
 rw [h2,h1 E n h]
 simp [qQm,qCu]
theorem qOt {v n m sz ty:Nat} {E ys:List (List V)} (hE:E.length=n) (h0:0<sz) (h1:qAx sz ys=true) (h2:qJq ys=true) (h3:n+ys.length≤maxLen) (h4:(n+ys.length) * m≤140737488355328) :
  (Nat.beq v v && Nat.ble n E.length && Nat.beq ty ty && Nat.beq sz sz && Nat.blt 0 sz && qAx sz ys && qJq ys && Nat.ble (n+ys.length) maxLen && Nat.ble ((n+ys.length) * m) 140737488355328)=true:=by
 have h5:Nat.blt 0 sz=true:=by rw [qJ8];simpa using h0
 rw [h1,h2,h5,hE,Nat.ble_eq_true_of_le h3,Nat.ble_eq_true_of_le h4,Nat.ble_eq_true_of_le (Nat.le_refl n)]
 simp
abbrev zK5:Kp:=⟨[1,4,5,23,24,25],[1,2,4],5,[]⟩
abbrev zc3:List PV:=[.nils,.nils,.nils]
abbrev zBp (l:List Ty) (hs:List Fm) (k:Nat):List (Nat × V):=[(1,.pv (tys l)),(4,.loc 1 0),(5,.loc 2 0),(23,.pv (fms hs)),(24,.pv (num (hs.map Fm.c).length)),(25,.pv (num k))]
abbrev zL1 (ls:PV) (g:PV) (l:List Ty) (hs:List Fm) (k v n:Nat) (E:List (List V)):IS:=st (zBp l hs k) [(1,bx zc3),(2,.box [.pv ls,.pv g,.arr 4 v n]),(4,.arr v 5 37 E)] 5 []
abbrev zL2 (ls g:PV) (v n:Nat) (E:List (List V)):IS:=st [(4,.loc 1 0),(5,.loc 2 0)] [(1,bx zc3),(2,.box [.pv ls,.pv g,.arr 4 v n]),(4,.arr v 5 37 E)] 5 []
theorem qLs (ls g:PV) (l:List Ty) (hz:l.length≤16) {hs:List Fm} (hl:hs.length≤mid):∀ (r:List Fm) (k v n:Nat) (E:List (List V)),hs.drop k=r→E.length=n→n+r.length≤mid→qQm E=[]→(∀ f∈r,f.mx≤mid * mid∧f.cnt≤mid) →
  ∃ v',Lp 217 0 0 (zL1 ls g l hs k v n E) (.exit 0) (zL2 ls g v' (n+r.length) (fin (Fm.sh 0 (.ofNat (l.map Ty.c).length)) E n r))
 | [],k,v,n,E,h,h1,h2,h3,h4=>by
  have e:ltI (.ofNat k) (.ofNat (hs.map Fm.c).length)=false:=qZ7 (by simpa using qWx h)
  exact⟨v,y1 [(26,.H)] ⟨[4,5],[1,2,4],5,[]⟩ e h3⟩
 | f::r,k,v,n,E,h,h1,h2,h3,h4=>by
  have hm:=qQd
  obtain⟨d1,d2,d3⟩:=qWw h
  have e:ltI (.ofNat k) (.ofNat (hs.map Fm.c).length)=true:=qQ7 (by simpa using d2)
  have hb:=h4 f (by simp)
  have h2:n+(r.length+1)≤mid:=by simpa using h2
  have g1:=a53 f 0 (.ofNat (l.map Ty.c).length) (by simp) (by simp;omega) hb.1 (by omega)
  have g2:(Nat.beq v v && Nat.ble n E.length && Nat.beq 40 40 && Nat.beq 5 5 && Nat.blt 0 5 && qAx 5 [pvL (f.sh 0 (.ofNat (l.map Ty.c).length)).c] && qJq [pvL (f.sh 0 (.ofNat (l.map Ty.c).length)).c] && Nat.ble (n+[pvL (f.sh 0 (.ofNat (l.map Ty.c).length)).c].length) maxLen && Nat.ble ((n+[pvL (f.sh 0 (.ofNat (l.map Ty.c).length)).c].length) * 88) 140737488355328)=true :=
   qOt h1 (by decide) rfl rfl (by simp only [maxLen,List.length_singleton];omega) (by simp only [List.length_singleton];omega)
  have g3:=inN (show k+1≤_ by omega)
  have g4:=qKh E n (f.sh 0 (.ofNat (l.map Ty.c).length)).c h3
  obtain⟨v',ih⟩:=qLs ls g l hz hl r (k+1) (v+1) (n+1) (E.take n++[pvL (f.sh 0 (.ofNat (l.map Ty.c).length)).c]) d3 (by simp [h1]) (by omega) g4 (fun f hf=>h4 f (by simp [hf]))
  rw [show n+1+r.length=n+(f::r).length by simp;omega] at ih
  exact⟨v',n7 [(26,.G),(27,.i f.c),(34,.r (f.sh 0 (.ofNat (l.map Ty.c).length)).p),(36,.ok),(38,.ok)] zK5 e (qQn d1 Fm.c_len) g1 g2 g3 g4 ih⟩
theorem qHq (g:List Ty):(Nat.beq (g.map Ty.c).length (g.map Ty.c).length && Nat.beq (g.map Ty.c).length (g.map Ty.c).length)=true:=qV6 _
theorem zVd {α:Type} {c:α→List PV} (n m:Nat) (hn:∀ t,(c t).length=n) (h0:0<n) (g:List α) (s u:α) (h:(g.length+2) * m≤140737488355328) (hg:g.length+2≤maxLen) :
  (qAw n (g.map c) && qAw n [c s,c u] && Nat.blt 0 n && Nat.ble ((g.map c).length+[c s,c u].length) maxLen && Nat.ble (((g.map c).length+[c s,c u].length) * m) 140737488355328)=true:=by
 have h1:qAw n (g.map c)=true:=qYv fun y hy=>by obtain⟨t,_,rfl⟩:=List.mem_map.1 hy;exact hn t
 have h2:qAw n [c s,c u]=true:=qYv fun y hy=>by simp at hy;rcases hy with rfl|rfl<;>exact hn _
 have h3:Nat.blt 0 n=true:=by rw [qJ8];simpa using h0
 rw [h1,h2,h3]
 simp only [List.length_map,List.length_cons,List.length_nil,Bool.true_and]
 rw [Nat.ble_eq_true_of_le hg,Nat.ble_eq_true_of_le h]
 rfl
theorem qSl (ls:List Fm) (g:List Ty) (s:Ty) (hs:List Fm) (hg:g.length≤mid-2) (hl:hs.length≤1024) (hh:∀ f∈hs,f.mx≤mid * mid∧f.cnt≤mid):A 217 [ckp ls g hs,tys [s]] (ckp ls (g++[s]) (hs.map (Fm.sh 0 1))):=by
 have hm:=qQd
 have g1:=qHq g
 have g2:=qYb 2 32 Ty.c_len (by decide) g s (by omega) (by simp only [maxLen];omega)
 simp only [ckp,tys,List.map_append,List.map_cons,List.map_nil]
 let g':PV:=.slice (g.map Ty.c++[s.c])
 cases hs with
 | nil =>
  have h1:Lp 217 0 0 (st (zBp [s] [] 0) [(1,bx zc3),(2,bx [fms ls,g',.nils])] 3 []) (.exit 0) (st [(4,.loc 1 0),(5,.loc 2 0)] [(1,bx zc3),(2,bx [fms ls,g',.nils])] 3 []) :=
   x0 [] ⟨[4,5],[1,2],3,[]⟩
  exact f3 [(18,.ok),(20,.ok),(100003,.l ⟨[1,4,5,23,24,25],[1,2],3,[]⟩ (.exit 0) (st [(4,.loc 1 0),(5,.loc 2 0)] [(1,bx zc3),(2,bx [fms ls,g',.nils])] 3 []))] g1 g2 h1
 | cons f hs =>
  have hl:hs.length+1≤1024:=hl
  have hf:=hh f (by simp)
  let ps:=(f::hs).map fun f=>(f.sh 0 1).c
  obtain⟨v,h1⟩:=qLs (fms ls) g' [s] (by simp) (hs:=f::hs) (by simp;omega) hs 1 1 1 (pvE [(f.sh 0 1).c]) rfl rfl (by omega) (qKh [] 0 _ rfl) (fun f hf=>hh f (by simp [hf]))
  have hE:fin (Fm.sh 0 (.ofNat (([s]:List Ty).map Ty.c).length)) (pvE [(f.sh 0 1).c]) 1 hs=pvE ps:=qSk (Fm.sh 0 1) hs [(f.sh 0 1).c]
  rw [hE] at h1
  have h2:=LoopIs.fz (by simp) h1 4 (ver:=v) (sz:=5) (ty:=37) (ps:=ps) rfl (by kernel_rfl)
  simp (decide:=true) only [fzS,fzO,qB8,qJo,qC5,bx,zc3,List.map,qGn,and_self,↓reduceIte,List.take_of_length_le (show ps.length≤1+hs.length by simp [ps];omega)] at h2
  have e:ltI (.ofNat 0) (.ofNat ((f::hs).map Fm.c).length)=true:=qQ7 (by simp)
  have h3:Lp 217 0 0 (st (zBp [s] (f::hs) 0) [(1,bx zc3),(2,bx [fms ls,g',.nils])] 3 []) (.exit 0) (st [(4,.loc 1 0),(5,.loc 2 0)] [(1,bx zc3),(2,bx [fms ls,g',.slice ps])] 5 []) :=
   n6 [(26,.G),(27,.i f.c),(34,.r (f.sh 0 1).p),(38,.ok)] zK5 e (qQn (g:=f::hs) (k:=0) rfl Fm.c_len) (a53 f 0 1 (by omega) (by omega) hf.1 (by omega)) (inN (show 0+1≤_ by omega)) (qKh [] 0 (f.sh 0 1).c rfl) h2
  have h4:fms ((f::hs).map (Fm.sh 0 1)) = .slice ps:=by simp [ps,fms,Function.comp_def]
  rw [h4]
  exact f3 [(18,.ok),(20,.ok),(100003,.l ⟨[1,4,5,23,24,25],[1,2],3,[]⟩ (.exit 0) (st [(4,.loc 1 0),(5,.loc 2 0)] [(1,bx zc3),(2,bx [fms ls,g',.slice ps])] 5 []))] g1 g2 h3
theorem zBq (ls:List Fm) (g:List Ty) (s u:Ty) (hs:List Fm) (hg:g.length≤mid-2) (hl:hs.length≤1024) (hh:∀ f∈hs,f.mx≤mid * mid∧f.cnt≤mid):A 217 [ckp ls g hs,tys [s,u]] (ckp ls (g++[s,u]) (hs.map (Fm.sh 0 2))):=by
 have hm:=qQd
 have g1:=qHq g
 have g2:=zVd 2 32 Ty.c_len (by decide) g s u (by omega) (by simp only [maxLen];omega)
 simp only [ckp,tys,List.map_append,List.map_cons,List.map_nil]
 let g':PV:=.slice (g.map Ty.c++[s.c,u.c])
 cases hs with
 | nil =>
  have h1:Lp 217 0 0 (st (zBp [s,u] [] 0) [(1,bx zc3),(2,bx [fms ls,g',.nils])] 3 []) (.exit 0) (st [(4,.loc 1 0),(5,.loc 2 0)] [(1,bx zc3),(2,bx [fms ls,g',.nils])] 3 []) :=
   x0 [] ⟨[4,5],[1,2],3,[]⟩
  exact f3 [(18,.ok),(20,.ok),(100003,.l ⟨[1,4,5,23,24,25],[1,2],3,[]⟩ (.exit 0) (st [(4,.loc 1 0),(5,.loc 2 0)] [(1,bx zc3),(2,bx [fms ls,g',.nils])] 3 []))] g1 g2 h1
 | cons f hs =>
  have hl:hs.length+1≤1024:=hl
  have hf:=hh f (by simp)
  let ps:=(f::hs).map fun f=>(f.sh 0 2).c
  obtain⟨v,h1⟩:=qLs (fms ls) g' [s,u] (by simp) (hs:=f::hs) (by simp;omega) hs 1 1 1 (pvE [(f.sh 0 2).c]) rfl rfl (by omega) (qKh [] 0 _ rfl) (fun f hf=>hh f (by simp [hf]))
  have hE:fin (Fm.sh 0 (.ofNat (([s,u]:List Ty).map Ty.c).length)) (pvE [(f.sh 0 2).c]) 1 hs=pvE ps:=qSk (Fm.sh 0 2) hs [(f.sh 0 2).c]
  rw [hE] at h1
  have h2:=LoopIs.fz (by simp) h1 4 (ver:=v) (sz:=5) (ty:=37) (ps:=ps) rfl (by kernel_rfl)
  simp (decide:=true) only [fzS,fzO,qB8,qJo,qC5,bx,zc3,List.map,qGn,and_self,↓reduceIte,List.take_of_length_le (show ps.length≤1+hs.length by simp [ps];omega)] at h2
  have e:ltI (.ofNat 0) (.ofNat ((f::hs).map Fm.c).length)=true:=qQ7 (by simp)
  have h3:Lp 217 0 0 (st (zBp [s,u] (f::hs) 0) [(1,bx zc3),(2,bx [fms ls,g',.nils])] 3 []) (.exit 0) (st [(4,.loc 1 0),(5,.loc 2 0)] [(1,bx zc3),(2,bx [fms ls,g',.slice ps])] 5 []) :=
   n6 [(26,.G),(27,.i f.c),(34,.r (f.sh 0 2).p),(38,.ok)] zK5 e (qQn (g:=f::hs) (k:=0) rfl Fm.c_len) (a53 f 0 2 (by omega) (by omega) hf.1 (by omega)) (inN (show 0+1≤_ by omega)) (qKh [] 0 (f.sh 0 2).c rfl) h2
  have h4:fms ((f::hs).map (Fm.sh 0 2)) = .slice ps:=by simp [ps,fms,Function.comp_def]
  rw [h4]
  exact f3 [(18,.ok),(20,.ok),(100003,.l ⟨[1,4,5,23,24,25],[1,2],3,[]⟩ (.exit 0) (st [(4,.loc 1 0),(5,.loc 2 0)] [(1,bx zc3),(2,bx [fms ls,g',.slice ps])] 5 []))] g1 g2 h3
theorem zBr (ls:List Fm) (g:List Ty) (hs:List Fm) (v h:Nat) (h1:g.length+v≤mid) (h2:hs.length+h≤mid):∃ e,A 149 [ckp ls g hs,num v,num h] (num e)∧(e=0→g.length+v≤16∧hs.length+h≤16):=by
 have hm:=qQd
 have g1:inB (Int.ofNat (g.map Ty.c).length + .ofNat v)=true:=inN (n:=(g.map Ty.c).length+v) (by simp;omega)
 have g2:inB (Int.ofNat (hs.map Fm.c).length + .ofNat h)=true:=inN (n:=(hs.map Fm.c).length+h) (by simp;omega)
 by_cases c1:g.length+v≤16
 ·have e1:ltI (.ofNat 16) (.ofNat ((g.map Ty.c).length+v))=false:=qZ7 (by simpa using c1)
  by_cases c2:hs.length+h≤16
  ·have e2:ltI (.ofNat 16) (.ofNat ((hs.map Fm.c).length+h))=false:=qZ7 (by simpa using c2)
   exact⟨0,f4 [(11,.ok),(12,.H),(18,.ok),(19,.H)] g1 e1 g2 e2,fun _=>⟨c1,c2⟩⟩
  ·have e2:ltI (.ofNat 16) (.ofNat ((hs.map Fm.c).length+h))=true:=qQ7 (by simpa using c2)
   exact⟨3,f4 [(11,.ok),(12,.H),(18,.ok),(19,.G)] g1 e1 g2 e2,nofun⟩
 ·have e1:ltI (.ofNat 16) (.ofNat ((g.map Ty.c).length+v))=true:=qQ7 (by simpa using c1)
  exact⟨3,f2 [(11,.ok),(12,.G)] g1 e1,nofun⟩
theorem zEn (ls:List Fm) (g:List Ty) (hs:List Fm) (f:Fm) (h:hs.length+1≤mid):A 150 [ckp ls g hs,f.p] (ckp ls g (hs++[f])):=by
 have hm:=qQd
 have g1:=qV6 (hs.map Fm.c).length
 have g2:=qYb 5 88 Fm.c_len (by decide) hs f (by omega) (by simp only [maxLen];omega)
 simp only [ckp,fms,List.map_append,List.map_cons,List.map_nil]
 exact f2 [(13,.ok),(16,.ok)] g1 g2
abbrev ic (n:Nat):List PV:=[num n]
abbrev qQk (l:List Nat):PV:=.slice (l.map ic)
theorem qAf (n:Nat):(ic n).length=1:=rfl
theorem qJw (A:List (List PV)) (c:List PV):pvE (A++[c])=(pvE A).take A.length++[pvL c]:=by
 rw [List.take_of_length_le (by rw [pvE_len];exact Nat.le_refl _),pvE_app]
 rfl
theorem qQo (A:List (List PV)):qQm (pvE A)=[]:=by
 induction A with
 | nil=>rfl
 | cons a r ih=>show qQj (pvL a)++qQm (pvE r)=[];rw [qCu,ih];rfl
theorem qQ2 (A:List (List PV)) (c:List PV):qQm ((pvE A).take A.length++[pvL c])=[]:=by rw [← qJw];exact qQo _
def qZ5 (n:Nat):List Nat→List Nat
 | []=>[]
 | x::r=>if n≤x then (x-n)::qZ5 n r else qZ5 n r
theorem qK2 {n v:Nat} : ∀ {l:List Nat},v+n∈l→v∈qZ5 n l
 | [],h=>by cases h
 | x::r,h=>by
  simp only [qZ5]
  rcases List.mem_cons.1 h with h|h
  ·subst h
   rw [if_pos (by omega)]
   simp
  ·split
   ·exact List.mem_cons_of_mem _ (qK2 h)
   ·exact qK2 h
theorem qCv {n M:Nat} : ∀ {l:List Nat},(∀ x∈l,x≤M)→∀ x∈qZ5 n l,x≤M
 | [],_,x,h=>by cases h
 | y::r,hl,x,h=>by
  simp only [qZ5] at h
  have h1:=hl y (by simp)
  split at h
  ·rcases List.mem_cons.1 h with rfl|h
   ·omega
   ·exact qCv (fun z hz=>hl z (by simp [hz])) x h
  ·exact qCv (fun z hz=>hl z (by simp [hz])) x h
theorem qYd (n:Nat):∀ (l:List Nat),(qZ5 n l).length≤l.length
 | []=>Nat.le_refl _
 | x::r=>by
  have:=qYd n r
  simp only [qZ5]
  split<;>simp<;>omega
abbrev zK6 (n:Nat) (l:List Nat) (k:Nat) (x:V):List (Nat × V):=[(1,.pv (num n)),(5,x),(8,.pv (qQk l)),(9,.pv (num (l.map ic).length)),(10,.pv (num k))]
abbrev zK7:Kp:=⟨[1,5,8,9,10],[0],1,[]⟩
theorem qFs (n:Nat) {l:List Nat} (hl:l.length≤mid) (hb:∀ x∈l,x≤big):∀ (r:List Nat) (k v:Nat) (A:List (List PV)),l.drop k=r→A.length+r.length≤mid →
  ∃ v',Lp 218 0 0 (st (zK6 n l k (.arr 0 v A.length)) [(0,.arr v 1 3 (pvE A))] 1 []) (.exit 0) (st [(5,.arr 0 v' (A.length+(qZ5 n r).length))] [(0,.arr v' 1 3 (pvE (A++(qZ5 n r).map ic)))] 1 [])
 | [],k,v,A,h,h1=>by
  have e:ltI (.ofNat k) (.ofNat (l.map ic).length)=false:=qZ7 (by simpa using qWx h)
  simp only [qZ5,List.map_nil,List.append_nil,List.length_nil,Nat.add_zero]
  exact⟨v,y1 [(11,.H)] ⟨[5],[0],1,[]⟩ e (qQo A)⟩
 | x::r,k,v,A,h,h1=>by
  have hm:=qQd
  have hbb:=qQh
  obtain⟨d1,d2,d3⟩:=qWw h
  have e:ltI (.ofNat k) (.ofNat (l.map ic).length)=true:=qQ7 (by simpa using d2)
  have hx:=hb x (List.mem_of_getElem? d1)
  have h1:A.length+(r.length+1)≤mid:=by simpa using h1
  have g3:=inN (show k+1≤_ by omega)
  by_cases c:n≤x
  ·have e2:(!ltI (.ofNat x) (.ofNat n))=true:=qUd c
   have g4:inB (Int.ofNat x - .ofNat n)=true∧Int.ofNat x - .ofNat n = .ofNat (x-n):=by
    have e:Int.ofNat x - .ofNat n = .ofNat (x-n):=by simp;omega
    exact⟨by rw [e];exact inb (by omega),e⟩
   have g5:(Nat.beq v v && Nat.ble A.length (pvE A).length && Nat.beq 3 3 && Nat.beq 1 1 && Nat.blt 0 1 && qAx 1 [pvL (ic (x-n))] && qJq [pvL (ic (x-n))] && Nat.ble (A.length+[pvL (ic (x-n))].length) maxLen && Nat.ble ((A.length+[pvL (ic (x-n))].length) * 8) 140737488355328)=true :=
    qOt (pvE_len A) (by decide) rfl rfl (by simp only [maxLen,List.length_singleton];omega) (by simp only [List.length_singleton];omega)
   obtain⟨v',ih⟩:=qFs n hl hb r (k+1) (v+1) (A++[ic (x-n)]) d3 (by simp;omega)
   have e3:qZ5 n (x::r)=(x-n)::qZ5 n r:=by simp only [qZ5,if_pos c]
   rw [e3]
   rw [qJw,show (A++[ic (x-n)]).length=A.length+1 by simp,show A.length+1+(qZ5 n r).length=A.length+((x-n)::qZ5 n r).length by simp;omega,List.append_assoc] at ih
   exact⟨v',n8 [(11,.G),(12,.i (ic x)),(16,.G),(20,.z (x-n)),(22,.ok),(23,.ok)] zK7 e (qQn d1 qAf) e2 g4 g5 g3 (qQ2 A (ic (x-n))) ih⟩
  ·have e2:(!ltI (.ofNat x) (.ofNat n))=false:=qOr (by omega)
   obtain⟨v',ih⟩:=qFs n hl hb r (k+1) v A d3 (by omega)
   have e3:qZ5 n (x::r)=qZ5 n r:=by simp only [qZ5,if_neg c]
   rw [e3]
   exact⟨v',n6 [(11,.G),(12,.i (ic x)),(16,.H),(23,.ok)] zK7 e (qQn d1 qAf) e2 g3 (qQo A) ih⟩
theorem qM1 (n:Nat) {l:List Nat} (hl:l.length≤mid) (hb:∀ x∈l,x≤big):∀ (r:List Nat) (k:Nat),l.drop k=r →
  (qZ5 n r=[]∧Lp 218 0 0 (st (zK6 n l k (.pv .nils)) [] 0 []) (.exit 0) (st [(5,.pv .nils)] [] 0 [])) ∨ ∃ v',Lp 218 0 0 (st (zK6 n l k (.pv .nils)) [] 0 []) (.exit 0) (st [(5,.arr 0 v' (qZ5 n r).length)] [(0,.arr v' 1 3 (pvE ((qZ5 n r).map ic)))] 1 [])
 | [],k,h=>by
  have e:ltI (.ofNat k) (.ofNat (l.map ic).length)=false:=qZ7 (by simpa using qWx h)
  exact .inl ⟨rfl,x1 [(11,.H)] ⟨[5],[],0,[]⟩ e⟩
 | x::r,k,h=>by
  have hm:=qQd
  have hbb:=qQh
  obtain⟨d1,d2,d3⟩:=qWw h
  have e:ltI (.ofNat k) (.ofNat (l.map ic).length)=true:=qQ7 (by simpa using d2)
  have hx:=hb x (List.mem_of_getElem? d1)
  have g3:=inN (show k+1≤_ by omega)
  by_cases c:n≤x
  ·have e2:(!ltI (.ofNat x) (.ofNat n))=true:=qUd c
   have g4:inB (Int.ofNat x - .ofNat n)=true∧Int.ofNat x - .ofNat n = .ofNat (x-n):=by
    have e:Int.ofNat x - .ofNat n = .ofNat (x-n):=by simp;omega
    exact⟨by rw [e];exact inb (by omega),e⟩
   have hr:r.length≤l.length:=by rw [← d3];simp
   have hr2:r.length+1≤l.length:=by
    have:=congrArg List.length h
    simp at this
    omega
   obtain⟨v',ih⟩:=qFs n hl hb r (k+1) 1 [ic (x-n)] d3 (by simp;omega)
   have e3:qZ5 n (x::r)=(x-n)::qZ5 n r:=by simp only [qZ5,if_pos c]
   rw [e3]
   rw [show [ic (x-n)].length+(qZ5 n r).length=((x-n)::qZ5 n r).length by simp;omega] at ih
   exact .inr ⟨v',n7 [(11,.G),(12,.i (ic x)),(16,.G),(20,.z (x-n)),(23,.ok)] zK7 e (qQn d1 qAf) e2 g4 g3 (qQo [ic (x-n)]) ih⟩
  ·have e2:(!ltI (.ofNat x) (.ofNat n))=false:=qOr (by omega)
   have e3:qZ5 n (x::r)=qZ5 n r:=by simp only [qZ5,if_neg c]
   rw [e3]
   rcases qM1 n hl hb r (k+1) d3 with ⟨h4,ih⟩|⟨v',ih⟩
   ·exact .inl ⟨h4,n5 [(11,.G),(12,.i (ic x)),(16,.H),(23,.ok)] ⟨[1,5,8,9,10],[],0,[]⟩ e (qQn d1 qAf) e2 g3 ih⟩
   ·exact .inr ⟨v',n5 [(11,.G),(12,.i (ic x)),(16,.H),(23,.ok)] ⟨[1,5,8,9,10],[],0,[]⟩ e (qQn d1 qAf) e2 g3 ih⟩
theorem zEo (n:Nat) (l:List Nat) (hl:l.length≤mid) (hb:∀ x∈l,x≤big):A 218 [qQk l,num n] (qQk (qZ5 n l)):=by
 rcases qM1 n hl hb l 0 rfl with ⟨h1,h2⟩|⟨v,h2⟩
 ·rw [h1]
  exact f1 [(100003,.l ⟨[1,5,8,9,10],[],0,[]⟩ (.exit 0) (st [(5,.pv .nils)] [] 0 []))] h2
 ·have h3:=LoopIs.fz (by simp) h2 0 (ver:=v) (sz:=1) (ty:=3) (ps:=(qZ5 n l).map ic) rfl (by kernel_rfl)
  simp (decide:=true) only [fzS,fzO,qB8,qJo,qC5,List.map,qGn,and_self,↓reduceIte,List.take_of_length_le (show ((qZ5 n l).map ic).length≤(qZ5 n l).length by simp)] at h3
  exact f1 [(100003,.l ⟨[1,5,8,9,10],[],0,[]⟩ (.exit 0) (st [(5,.pv (qQk (qZ5 n l)))] [] 1 []))] h3
open Go.Lg
set_option maxRecDepth 100000
def aq:Bool→FQ
 | false => .all
 | true => .allU
def Fm.pt (f:Fm) (t:Tm):FR:=if f.cnt+f.occ 0 * (t.cnt-1)≤4096 then .ok (f.put 0 t 0) else .er 3
abbrev Fm.low (f:Fm):Fm:=f.put 0 (.v 0) 0
def nmF:Fm→Option Fm
 | .eq a b=>match nrm a with
  | .ok x _=>match nrm b with
   | .ok y _=>some (.eq x y)
   | .er _=>none
  | .er _=>none
 | .bin k f g=>match nmF f with
  | some x=>match nmF g with
   | some y=>some (.bin k x y)
   | none=>none
  | none=>none
 | .q k s f=>match nmF f with
  | some x=>some (.q k s x)
  | none=>none
def wtF (f:Fm):Option Fm:=if f.occ 0=0 then some f.low else match nmF f with
 | some g=>if g.occ 0=0 then some g.low else none
 | none=>none
inductive Jt where
 | leaf (u:Bool) (i:Nat) (f:Fm)
 | refl (t:Tm)
 | p1 (k:P1) (a:Jt) (f:Fm)
 | p2 (k:P2) (a b:Jt) (f:Fm)
 | impI (x:Fm) (a:Jt)
 | all (u:Bool) (s:Ty) (a:Jt)
 | ins (u:Bool) (t:Tm) (a:Jt) (f:Fm)
 | ex (u:Bool) (x:Fm) (t:Tm) (a:Jt)
 | ind (l:Bool) (x:Fm) (t:Tm) (a b:Jt) (f:Fm)
 | subst (x:Fm) (a b:Jt) (f:Fm)
def Jt.p:Jt→Pf
 | .leaf u i _ => .leaf u i
 | .refl t => .refl t
 | .p1 k a _ => .p1 k a.p
 | .p2 k a b _ => .p2 k a.p b.p
 | .impI x a => .impI x a.p
 | .all u s a => .all u s a.p
 | .ins u t a _ => .ins u t a.p
 | .ex u x t a => .ex u x t a.p
 | .ind l x t a b _ => .ind l x t a.p b.p
 | .subst x a b _ => .subst x a.p b.p
def Jt.f:Jt→Fm
 | .leaf _ _ f=>f
 | .refl t => .eq t t
 | .p1 _ _ f=>f
 | .p2 _ _ _ f=>f
 | .impI x a => .bin .imp x a.f
 | .all u s a => .q (aq u) s a.f
 | .ins _ _ _ f=>f
 | .ex _ x _ _=>x
 | .ind _ _ _ _ _ f=>f
 | .subst _ _ _ f=>f
def Fm.bd:Fm→Fm
 | .q _ _ f=>f
 | f=>f
abbrev upH (k:Nat) (hs:List Fm):List Fm:=hs.map (Fm.sh 0 (.ofNat k))
def eqq:Bool→FQ
 | false => .ex
 | true => .exU
def ek:Bool→P2
 | false => .exE
 | true => .exUE
abbrev vapp:Tm:=.n2 .app (.v 1) (.v 0)
def zBs (hs:List Fm) (x:Fm):Bool→List Fm
 | false=>upH 1 hs++[x]
 | true=>upH 2 hs++[x.sh 1 (.ofNat 1)]
def lN:Bool→Nat
 | false=>1
 | true=>2
def Jt.us:Jt→Nat→Prop
 | .leaf _ _ _,_=>False
 | .refl _,_=>False
 | .p1 _ a f,v=>f.has=true∧a.us v
 | .p2 k a b f,v=>f.has=true∧(a.us v∨match k with
  | .andI=>b.us v
  | .impE=>b.us v
  | _=>b.us (v+1))
 | .impI x a,v=>(Fm.bin .imp x a.f).has=true∧a.us v
 | .all u s a,v=>(Fm.q (aq u) s a.f).has=true∧a.us (v+1)
 | .ins u t a f,v=>f.has=true∧(a.us v∨u=false∧t.occ v≠0)
 | .ex u x t a,v=>x.has=true∧(a.us v∨u=false∧t.occ v≠0)
 | .ind l x t a b f,v=>f.has=true∧(t.occ v≠0∨a.us v∨b.us (v+lN l))
 | .subst x a b f,v=>f.has=true∧b.us v
def Fm.er:Fm→Fm
 | .eq _ _ => .eq (.n0 .unit) (.n0 .unit)
 | .bin k f g => .bin k f.er g.er
 | .q k s f => .q k s f.er
theorem qCw:∀ f:Fm,f.er.has=f.has
 | .eq _ _=>rfl
 | .bin k f g=>by cases k<;>simp only [Fm.er,Fm.has,qCw f,qCw g]
 | .q k _ f=>by cases k<;>simp only [Fm.er,Fm.has,qCw f]
theorem qYz (z:Int):∀ (f:Fm) (c:Nat),(f.sh c z).er=f.er
 | .eq _ _,c=>rfl
 | .bin k f g,c=>by simp only [Fm.sh,Fm.er,qYz z f,qYz z g]
 | .q k s f,c=>by simp only [Fm.sh,Fm.er,qYz z f]
theorem qEe (c:Nat) (s:Tm):∀ (f:Fm) (d:Nat),(f.put c s d).er=f.er
 | .eq _ _,d=>rfl
 | .bin k f g,d=>by simp only [Fm.put,Fm.er,qEe c s f,qEe c s g]
 | .q k u f,d=>by simp only [Fm.put,Fm.er,qEe c s f]
theorem qM2:∀ f g:Fm,nmF f=some g→g.er=f.er
 | .eq a b,g,e=>by
  unfold nmF at e
  split at e
  ·split at e
   ·cases e;rfl
   ·cases e
  ·cases e
 | .bin k a b,g,e=>by
  unfold nmF at e
  split at e
  ·rename_i x e1
   split at e
   ·rename_i y e2
    cases e
    simp only [Fm.er,qM2 a x e1,qM2 b y e2]
   ·cases e
  ·cases e
 | .q k s a,g,e=>by
  unfold nmF at e
  split at e
  ·rename_i x e1
   cases e
   simp only [Fm.er,qM2 a x e1]
  ·cases e
theorem qAg {f g:Fm} (e:wtF f=some g):g.er=f.er:=by
 unfold wtF at e
 split at e
 ·cases e;exact qEe 0 (.v 0) f 0
 ·split at e
  ·rename_i y e1
   split at e
   ·cases e
    rw [← qM2 f y e1]
    exact qEe 0 (.v 0) y 0
   ·cases e
  ·cases e
theorem qW1 {f g:Fm} {t:Tm} (e:f.pt t = .ok g):g.er=f.er:=by
 unfold Fm.pt at e
 split at e
 ·cases e;exact qEe 0 t f 0
 ·cases e
theorem qEf (k:Nat) (hs:List Fm):(upH k hs).map Fm.er=hs.map Fm.er:=by
 simp only [upH,List.map_map]
 exact List.map_congr_left fun f _=>qYz _ f 0
theorem qQ1 {f g:Fm} (e:f.er=g.er):f.has=g.has:=(qCw f).symm.trans ((congrArg Fm.has e).trans (qCw g))
def lT:Bool→Ty
 | false => .nat
 | true => .list
def lG:Bool→List Ty
 | false=>[.nat]
 | true=>[.nat,.list]
def l0:Bool→Tm
 | false => .n0 .zero
 | true => .n0 .nil
def l1:Bool→Tm
 | false => .n1 .succ (.v 0)
 | true => .n2 .cons (.v 1) (.v 0)
def Jt.D (ls:List Fm):List Ty→List Fm→Jt→Prop
 | _,hs,.leaf u i f=>f.chk=0∧match u with
  | false=>i<hs.length∧hs[hs.length-1-i]? = some f
  | true=>ls[i]? = some f
 | g,_,.refl t=>(Fm.eq t t).chk=0∧t.chk=0∧t.tyR g = .ok .nat
 | g,hs,.p1 k a f=>f.chk=0∧a.D ls g hs∧match k with
  | .andL => ∃ y,a.f = .bin .and f y
  | .andR => ∃ x,a.f = .bin .and x f
  | .choice => ∃ s u x,a.f = .q .all s (.q .ex u x)∧(Ty.two true s u).size≤64 ∧ ∃ y,(x.sh 2 (.ofNat 1)).pt vapp = .ok y∧f = .q .ex (.two true s u) (.q .all s y)
 | g,hs,.p2 k a b f=>f.chk=0∧a.D ls g hs∧match k with
  | .andI=>b.D ls g hs∧f = .bin .and a.f b.f
  | .impE=>b.D ls g hs ∧ ∃ x,a.f = .bin .imp x f∧x.mt b.f
  | .exE=>(∃ s,a.f = .q .ex s a.f.bd∧b.D ls (g++[s]) (upH 1 hs++[a.f.bd]))∧(g.length+1≤16∧hs.length+1≤16)∧wtF b.f=some f
  | .exUE=>(∃ s,a.f = .q .exU s a.f.bd∧b.D ls (g++[s]) (upH 1 hs++[a.f.bd]))∧(g.length+1≤16∧hs.length+1≤16)∧wtF b.f=some f ∧ ¬b.us 0
 | g,hs,.impI x a=>(Fm.bin .imp x a.f).chk=0∧(x.chk=0∧x.ty g)∧hs.length+1≤16∧a.D ls g (hs++[x])
 | g,hs,.all u s a=>(Fm.q (aq u) s a.f).chk=0∧g.length+1≤16∧a.D ls (g++[s]) (upH 1 hs)∧(u=true→¬a.us 0)
 | g,hs,.ins u t a f=>f.chk=0∧t.chk=0∧a.D ls g hs ∧ ∃ s x,t.tyR g = .ok s∧a.f = .q (aq u) s x∧x.pt t = .ok f
 | g,hs,.ex u x t a=>(x.chk=0∧x.ty g)∧t.chk=0∧a.D ls g hs ∧ ∃ s y w,t.tyR g = .ok s∧x = .q (eqq u) s y∧y.pt t = .ok w∧w.mt a.f
 | g,hs,.ind l x t a b f=>f.chk=0∧(x.chk=0∧x.ty (g++[lT l]))∧(t.chk=0∧t.tyR g = .ok (lT l))∧(a.D ls g hs ∧ ∃ w,x.pt (l0 l) = .ok w∧w.mt a.f)∧(g.length+lN l≤16∧hs.length+1≤16)∧(b.D ls (g++lG l) (zBs hs x l) ∧ ∃ w,(x.sh 1 (.ofNat (lN l))).pt (l1 l) = .ok w∧w.mt b.f)∧x.pt t = .ok f
 | g,hs,.subst x a b f=>f.chk=0∧(x.chk=0∧x.ty (g++[.nat]))∧a.D ls g hs∧b.D ls g hs ∧ ∃ t u w,a.f = .eq t u∧x.pt t = .ok w∧w.mt b.f∧x.pt u = .ok f
theorem qOu {f:Fm} {s:Tm} (h:(f.put 0 s 0).cnt≤4096):f.pt s = .ok (f.put 0 s 0):=by
 have h1:(f.put 0 s 0).cnt+f.occ 0=f.cnt+f.occ 0 * s.cnt:=qWk 0 s f 0
 have h2:=qBe s
 have h3:f.occ 0 * s.cnt=f.occ 0 * (s.cnt-1)+f.occ 0:=by
  have:s.cnt=(s.cnt-1)+1:=by omega
  rw [this,Nat.mul_succ];simp
 unfold Fm.pt
 rw [if_pos (by omega)]
theorem qJx:∀ (t:Tm) (d:Nat),t.occ d=0→t.put 0 (.v 0) d=t.sh (d+1) (-1)
 | .v i,d,h=>by
  simp only [Tm.occ] at h
  simp only [Tm.put,Tm.sh]
  by_cases e:i=d
  ·rw [if_pos e] at h;cases h
  ·rw [if_neg (by omega)]
   by_cases e':d<i
   ·rw [if_pos (by omega),if_pos (by omega)]
    congr 1
    simp;omega
   ·rw [if_neg (by omega),if_neg (by omega)]
 | .lam s b,d,h=>by simp only [Tm.put,Tm.sh];rw [qJx b (d+1) h]
 | .n0 _,_,_=>rfl
 | .n1 _ a,d,h=>by simp only [Tm.put,Tm.sh];rw [qJx a d h]
 | .n2 _ a b,d,h=>by simp only [Tm.occ] at h;simp only [Tm.put,Tm.sh];rw [qJx a d (by omega),qJx b d (by omega)]
 | .n3 _ _ a b c,d,h=>by simp only [Tm.occ] at h;simp only [Tm.put,Tm.sh];rw [qJx a d (by omega),qJx b d (by omega),qJx c d (by omega)]
theorem qHr:∀ (f:Fm) (d:Nat),f.occ d=0→f.put 0 (.v 0) d=f.sh (d+1) (-1)
 | .eq a b,d,h=>by simp only [Fm.occ] at h;simp only [Fm.put,Fm.sh];rw [qJx a d (by omega),qJx b d (by omega)]
 | .bin _ f g,d,h=>by simp only [Fm.occ] at h;simp only [Fm.put,Fm.sh];rw [qHr f d (by omega),qHr g d (by omega)]
 | .q _ _ f,d,h=>by simp only [Fm.put,Fm.sh];rw [qHr f (d+1) h]
abbrev Asc (u:List Nat):Prop:=u.Pairwise (· < ·)
theorem qFt {n x:Nat} : ∀ {l:List Nat},x∈qZ5 n l→x+n∈l
 | [],h=>by cases h
 | y::r,h=>by
  simp only [qZ5] at h
  split at h
  ·rcases List.mem_cons.1 h with rfl|h
   ·rw [Nat.sub_add_cancel (by assumption)];simp
   ·exact List.mem_cons_of_mem _ (qFt h)
  ·exact List.mem_cons_of_mem _ (qFt h)
theorem qFu (n:Nat):∀ {l:List Nat},Asc l→Asc (qZ5 n l)
 | [],_=>List.Pairwise.nil
 | y::r,h=>by
  obtain⟨h1,h2⟩:=List.pairwise_cons.1 h
  simp only [qZ5]
  split
  ·refine List.pairwise_cons.2 ⟨fun z hz => ?_,qFu n h2⟩
   have:=h1 _ (qFt hz)
   omega
  ·exact qFu n h2
theorem zBt {l:List Nat} (h:Asc l):∃ r,A 219 [qQk l] (.bool r)∧(r=false→0 ∉ l):=by
 cases l with
 | nil=>exact⟨false,f0 [],fun _ h=>by cases h⟩
 | cons x r =>
  have e:ltI (.ofNat 0) (.ofNat ((x::r).map ic).length)=true:=qQ7 (by simp)
  have g:=qQn (c:=ic) (g:=x::r) (k:=0) rfl qAf
  by_cases c:x=0
  ·subst c;exact⟨true,f3 [(5,.G),(8,.i (ic 0)),(10,.G)] e g (zQp 0),fun h=>nomatch h⟩
  ·refine⟨false,f3 [(5,.G),(8,.i (ic x)),(10,.H)] e g (qO9 c),fun _ h0 => ?_⟩
   rcases List.mem_cons.1 h0 with h0|h0
   ·exact c h0.symm
   ·have:=(List.pairwise_cons.1 h).1 0 h0
    omega
inductive PR where
 | er (n:Nat)
 | ok (f:Fm) (u:List Nat)
def PR.k:PR→Nat
 | .er _=>0
 | .ok f _=>f.kd
def PR.tk:PR→Nat
 | .er _=>0
 | .ok f _=>f.tk
def PR.te:PR→List (List PV)
 | .er _=>[]
 | .ok f _=>f.te
def PR.ts:PR→List (List PV)
 | .er _=>[]
 | .ok f _=>f.ts
def PR.es:PR→List (List PV)
 | .er _=>[]
 | .ok f _=>f.es
def PR.u:PR→List Nat
 | .er _=>[]
 | .ok _ u=>u
def PR.e:PR→Nat
 | .er n=>n+1
 | .ok _ _=>0
def PR.p (r:PR):PV:=.tuple [.agg [num r.k,num r.tk,.slice r.te,.slice r.ts,.slice r.es,qQk r.u],num r.e]
def FO (M:Nat) (f:Fm):Prop:=f.cnt≤4096∧f.mx≤M∧f.tsz≤mid
abbrev qQf:Nat:=8388608
structure Pre (ls:List Fm) (g:List Ty) (hs:List Fm) (M:Nat) (p:Pf):Prop where
 l1:∀ f∈ls,FO M f
 h1:∀ f∈hs,FO M f
 g1:∀ s∈g,s.size≤mid
 gl:g.length≤1024
 hl:hs.length≤1000
 ll:ls.length≤1024
 cnt:p.cnt≤65536
 tsz:p.tsz≤mid
 mx:p.mx≤M
 mb:M+qQf * p.cnt≤cmx
def PR.Good (ls:List Fm) (g:List Ty) (hs:List Fm) (M:Nat) (p:Pf):PR→Prop
 | .er _=>True
 | .ok f u=>FO (M+qQf * p.cnt) f∧(∃ j:Jt,j.p=p∧j.f=f∧j.D ls g hs ∧ ∀ v,j.us v→v∈u)∧Asc u∧(∀ x∈u,x≤M+qQf * p.cnt)∧u.length≤p.cnt
def Inf (p:Pf):Prop:=∀ ls g hs M,Pre ls g hs M p→∃ r:PR,A 64 [ckp ls g hs,p.p] r.p∧r.Good ls g hs M p
structure MF:Prop where
 uses:∀ t:Tm,t.cnt≤mid→t.tsz≤mid→t.mx≤mid * mid→∃ (u:List Nat) (e:Nat),A 275 [t.p] (.tuple [qQk u,num e])∧(t.chk=0→e=0 ∧ ∀ v,t.occ v≠0→v∈u)∧(∀ x∈u,x≤t.mx)∧u.length≤t.cnt∧Asc u
 union:∀ a b:List Nat,a.length+b.length≤mid→(∀ x∈a,x≤big)→(∀ x∈b,x≤big)→∃ u:List Nat,A 148 [qQk a,qQk b] (qQk u)∧(∀ v,v∈a∨v∈b→v∈u)∧(∀ v∈u,v∈a∨v∈b)∧u.length≤a.length+b.length∧Asc u
theorem zEp (H:MF) (t:Tm) (h1:t.cnt≤mid) (h2:t.tsz≤mid) (h3:t.mx≤mid * mid):∃ u:List Nat,A 221 [t.p] (qQk u)∧(t.chk=0→∀ v,t.occ v≠0→v∈u)∧(∀ x∈u,x≤t.mx)∧u.length≤t.cnt∧Asc u:=by
 obtain⟨u,e,g1,g2,g3,g4⟩:=H.uses t h1 h2 h3
 exact⟨u,f1 [(7,.U [qQk u,num e])] g1,fun h=>(g2 h).2,g3,g4⟩
theorem zAb (f:Fm) (s:Tm) (h1:f.cnt≤mid) (h2:f.mx≤mid * mid) (h3:f.tsz≤mid) (h4:s.cnt≤mid) (h5:s.mx≤mid * mid) (h6:s.tsz≤mid):∃ r:FR,A 222 [f.p,s.p] r.p∧((∃ n,r = .er n)∨r = .ok (f.put 0 s 0)∧(f.put 0 s 0).cnt≤4096):=by
 obtain⟨r,g1,g2⟩:=zLx f s h1 h2 h3 h4 h5 h6
 exact⟨r,f1 [(8,.r r.p)] g1,g2⟩
def FR.Nrm (f:Fm):FR→Prop
 | .er _=>True
 | .ok f'=>nmF f=some f'∧f'.mx≤f.mx+1001 * 4096∧f'.tsz≤f.tsz∧f'.cnt≤4096 * f.cnt
theorem zEq:∀ f:Fm,f.cnt≤big→f.mx≤cmx→f.tsz≤mid→∃ r:FR,A 225 [f.p] r.p∧r.Nrm f
 | .eq a b,h1,h2,h3=>by
  have hm:=qQd
  have ca:=qBe a
  have cb:=qBe b
  simp only [Fm.cnt,Fm.mx,Fm.tsz] at h1 h2 h3
  obtain⟨r,g1,q1,n1⟩:=zEf a (by omega) (by simp only [cmx,hm] at *;omega) (by omega)
  obtain⟨s,g2,q2,n2⟩:=zEf b (by omega) (by simp only [cmx,hm] at *;omega) (by omega)
  cases r with
  | er e=>exact⟨.er e,f1 [(28,.r (NF.er e).p)] g1,trivial⟩
  | ok x n=>cases s with
   | er e=>exact⟨.er e,f2 [(28,.r (NF.ok x n).p),(28,.r (NF.er e).p)] g1 g2,trivial⟩
   | ok y m =>
    obtain⟨c1,c2,c3⟩:=q1
    obtain⟨d1,d2,d3⟩:=q2
    exact⟨.ok (.eq x y),f2 [(28,.r (NF.ok x n).p),(28,.r (NF.ok y m).p)] g1 g2,by simp only [nmF,n1 _ _ rfl,n2 _ _ rfl],by simp only [Fm.mx];omega,by simp only [Fm.tsz];omega,by simp only [Fm.cnt];omega⟩
 | .bin k f g,h1,h2,h3=>by
  simp only [Fm.cnt,Fm.mx,Fm.tsz] at h1 h2 h3
  obtain⟨r,g1,q1⟩:=zEq f (by omega) (by omega) (by omega)
  obtain⟨s,g2,q2⟩:=zEq g (by omega) (by omega) (by omega)
  cases r with
  | er e=>exact⟨.er e,f1 [(52,.r (FR.er e).p)] g1,trivial⟩
  | ok x=>cases s with
   | er e=>exact⟨.er e,f2 [(52,.r (FR.ok x).p),(52,.r (FR.er e).p)] g1 g2,trivial⟩
   | ok y =>
    obtain⟨c0,c1,c2,c3⟩:=q1
    obtain⟨d0,d1,d2,d3⟩:=q2
    exact⟨.ok (.bin k x y),f2 [(52,.r (FR.ok x).p),(52,.r (FR.ok y).p)] g1 g2,by simp only [nmF,c0,d0],by simp only [Fm.mx];omega,by simp only [Fm.tsz];omega,by simp only [Fm.cnt];omega⟩
 | .q k s f,h1,h2,h3=>by
  simp only [Fm.cnt,Fm.mx,Fm.tsz] at h1 h2 h3
  obtain⟨r,g1,q1⟩:=zEq f (by omega) (by omega) (by omega)
  cases r with
  | er e=>exact⟨.er e,f1 [(52,.r (FR.er e).p)] g1,trivial⟩
  | ok x =>
   obtain⟨c0,c1,c2,c3⟩:=q1
   exact⟨.ok (.q k s x),f1 [(52,.r (FR.ok x).p)] g1,by simp only [nmF,c0],by simp only [Fm.mx];omega,by simp only [Fm.tsz];omega,by simp only [Fm.cnt];omega⟩
theorem zF2 (ls:List Fm) (g:List Ty) (hs:List Fm) (t:Tm) (n:Nat) (hg:∀ s∈g,s.size≤mid) (h1:t.tsz≤mid) (h2:g.length+t.cnt≤mid):∃ e,A 158 [ckp ls g hs,t.p,num n] (num e)∧(e=0→t.chk=0 ∧ ∃ s,t.tyR g = .ok s∧s.kd=n):=by
 obtain⟨r,g1,g2,g3⟩:=zFz g t hg h1 h2
 cases r with
 | er e=>exact⟨e+1,f1 [(13,.r (TR.er e).p)] g1,nofun⟩
 | ok s =>
  by_cases c:s.kd=n
  ·exact⟨0,f2 [(13,.r (TR.ok s).p),(22,.H)] g1 (qJg c),fun _=>⟨(g3 s rfl).1,s,(g3 s rfl).2,c⟩⟩
  ·exact⟨7,f2 [(13,.r (TR.ok s).p),(22,.G)] g1 (qC8 c),nofun⟩
structure RR where
 k:Nat
 tk:Nat
 te:List (List PV)
 ts:List (List PV)
 es:List (List PV)
 u:List Nat
 e:Nat
def RR.row (c:RR):List PV:=[num c.k,num c.tk,.slice c.te,.slice c.ts,.slice c.es]
def RR.p (c:RR):PV:=.tuple [.agg c.row,qQk c.u,num c.e]
def RR.of (f:Fm) (u:List Nat) (e:Nat):RR:=⟨f.kd,f.tk,f.te,f.ts,f.es,u,e⟩
abbrev RR.er (n:Nat):RR:=⟨0,0,[],[],[],[],n+1⟩
structure RG (ls:List Fm) (g:List Ty) (hs:List Fm) (M:Nat) (p:Pf) (f:Fm) (u:List Nat):Prop where
 cnt:f.cnt≤mid
 mx:f.mx≤M+qQf * p.cnt
 tsz:f.tsz≤mid
 j:∃ j:Jt,j.p=p∧j.f=f∧(f.chk=0→j.D ls g hs) ∧ ∀ v,j.us v→v∈u
 asc:Asc u
 le:∀ x∈u,x≤M+qQf * p.cnt
 len:u.length≤p.cnt
def RR.Good (ls:List Fm) (g:List Ty) (hs:List Fm) (M:Nat) (p:Pf) (c:RR):Prop:=c.e=0→∃ f:Fm,c = .of f c.u 0∧RG ls g hs M p f c.u
def Rul (F:Nat) (p:Pf):Prop:=∀ ls g hs M,Pre ls g hs M p→∃ c:RR,A F [ckp ls g hs,p.p] c.p∧c.Good ls g hs M p
theorem RR.good_er {ls:List Fm} {g:List Ty} {hs:List Fm} {M:Nat} {p:Pf} {c:RR} (h:c.e≠0):c.Good ls g hs M p:=fun e=>absurd e h
theorem zBu {j:Jt} {v:Nat} (h:j.us v):j.f.has=true:=by
 cases j<;>simp only [Jt.us] at h<;>first|exact h.1|exact h.elim
theorem qXb {p:Pf} (H:Rul 104 p):Inf p:=by
 intro ls g hs M hp
 have hm:=qQd
 have hb:=qQh
 obtain⟨c,g1,g2⟩:=H ls g hs M hp
 obtain⟨k,tk,te,ts,es,u,e⟩:=c
 cases e with
 | succ n=>exact⟨.er n,f1 [(14,.r (RR.p ⟨k,tk,te,ts,es,u,n+1⟩))] g1,trivial⟩
 | zero =>
  obtain⟨f,hf,R⟩:=g2 rfl
  cases hf
  have g3:=a75 f R.tsz (by have:=R.cnt;omega)
  cases e1:f.chk with
  | succ n=>rw [e1] at g3;exact⟨.er 3,f2 [(14,.r (RR.of f u 0).p),(23,.N (n+1))] g1 g3,trivial⟩
  | zero =>
   rw [e1] at g3
   obtain⟨b,e',g4,g5⟩:=a85 f R.tsz (by have:=R.cnt;omega)
   obtain⟨rfl,rfl⟩:=g5 e1
   have hF:FO (M+qQf * p.cnt) f:=⟨(Fm.chk0 e1).1,R.mx,R.tsz⟩
   cases e2:f.has
   ·rw [e2] at g4
    obtain⟨j,j1,j2,j3,j4⟩:=R.j
    exact⟨.ok f [],f3 [(14,.r (RR.of f u 0).p),(23,.N 0),(28,.U [.bool false,num 0])] g1 g3 g4,hF,⟨j,j1,j2,j3 e1,fun v hv=>by have:=zBu hv;rw [j2,e2] at this;cases this⟩,List.Pairwise.nil,(fun x hx=>by cases hx),Nat.zero_le _⟩
   ·rw [e2] at g4
    obtain⟨j,j1,j2,j3,j4⟩:=R.j
    exact⟨.ok f u,f3 [(14,.r (RR.of f u 0).p),(23,.N 0),(28,.U [.bool true,num 0])] g1 g3 g4,hF,⟨j,j1,j2,j3 e1,j4⟩,R.asc,R.le,R.len⟩
theorem zAc {p:Pf} (H:Inf p) (ls:List Fm) (g:List Ty) (hs:List Fm) (M:Nat) (hp:Pre ls g hs M p) (f:Fm) (t:Tm) (h1:f.cnt≤mid) (h2:f.mx≤mid * mid) (h3:f.tsz≤mid) (h4:t.cnt≤mid) (h5:t.mx≤mid * mid) (h6:t.tsz≤mid) (h7:max f.mx (t.mx+f.cnt)≤cmx) :
  ∃ (u:List Nat) (e:Nat),A 223 [ckp ls g hs,p.p,f.p,t.p] (.tuple [qQk u,num e])∧(e=0→∃ f',PR.Good ls g hs M p (.ok f' u) ∧ ∃ w,f.pt t = .ok w∧w.mt f')∧(∀ x∈u,x≤M+qQf * p.cnt)∧u.length≤p.cnt:=by
 have hm:=qQd
 have hb:=qQh
 obtain⟨r,g1,g2⟩:=H ls g hs M hp
 cases r with
 | er n=>exact⟨[],n+1,f1 [(16,.r (PR.er n).p)] g1,(nofun),(fun x hx=>by cases hx),Nat.zero_le _⟩
 | ok f' u =>
  obtain⟨r,g3,g4⟩:=zAb f t h1 h2 h3 h4 h5 h6
  rcases g4 with ⟨n,rfl⟩|⟨rfl,g5⟩
  ·exact⟨[],n+1,f2 [(16,.r (PR.ok f' u).p),(25,.r (FR.er n).p)] g1 g3,(nofun),(fun x hx=>by cases hx),Nat.zero_le _⟩
  ·have hF:=g2.1
   have hmx:=qWl 0 t f 0
   have hts:=qJv 0 t f 0
   obtain⟨e,g6,g7⟩:=zIl (f.put 0 t 0) f' (by omega) (by omega) (by omega) (by have:=hF.1;omega) (by have:=hF.2.1;have:=hp.mb;omega) hF.2.2
   exact⟨u,e,f3 [(16,.r (PR.ok f' u).p),(25,.r (FR.ok (f.put 0 t 0)).p),(36,.N e)] g1 g3 g6,(fun h=>⟨f',g2,_,qOu g5,g7 h⟩),g2.2.2.2.1,g2.2.2.2.2⟩
open Go.Lg
set_option maxRecDepth 100000
theorem Pre.to {ls:List Fm} {g g':List Ty} {hs hs':List Fm} {M M':Nat} {p a:Pf} (h:Pre ls g hs M p) (hM:M≤M') (h1:∀ f∈hs',FO M' f) (g1:∀ s∈g',s.size≤mid) (gl:g'.length≤1024) (hl:hs'.length≤1000) (hc:a.cnt≤p.cnt) (ht:a.tsz≤p.tsz) (hx:a.mx≤p.mx) (hb:M'+qQf * a.cnt≤cmx):Pre ls g' hs' M' a :=
 ⟨fun f hf=>⟨(h.l1 f hf).1,Nat.le_trans (h.l1 f hf).2.1 hM,(h.l1 f hf).2.2⟩,h1,g1,gl,hl,h.ll,Nat.le_trans hc h.cnt,Nat.le_trans ht h.tsz,Nat.le_trans hx (Nat.le_trans h.mx hM),hb⟩
theorem Pre.sub {ls:List Fm} {g:List Ty} {hs:List Fm} {M:Nat} {p a:Pf} (h:Pre ls g hs M p) (hc:a.cnt≤p.cnt) (ht:a.tsz≤p.tsz) (hx:a.mx≤p.mx):Pre ls g hs M a :=
 h.to (Nat.le_refl _) h.h1 h.g1 h.gl h.hl hc ht hx (Nat.le_trans (Nat.add_le_add_left (Nat.mul_le_mul_left _ hc) M) h.mb)
theorem FO.up {M M':Nat} {f:Fm} (h:FO M f) (hM:M≤M'):FO M' f:=⟨h.1,Nat.le_trans h.2.1 hM,h.2.2⟩
theorem FO.sh {M:Nat} {f:Fm} (h:FO M f) (n:Nat):FO (M+n) (f.sh 0 (.ofNat n)):=by
 have h1:(f.sh 0 (.ofNat n)).mx≤f.mx+n:=qVl (.ofNat n) f 0
 refine⟨by rw [qQq];exact h.1,?_,by rw [qQt];exact h.2.2⟩
 have:=h.2.1
 omega
theorem FO.hyp {M:Nat} {f:Fm} (h:FO M f) (hM:M≤cmx):f.mx≤mid * mid∧f.cnt≤mid:=by
 have hm:=qQd
 have:=h.1
 have:=h.2.1
 simp only [cmx] at hM
 omega
theorem qBf {hs:List Fm} {M:Nat} (h:∀ f∈hs,FO M f) (n:Nat):∀ f∈hs.map (Fm.sh 0 (.ofNat n)),FO (M+n) f:=by
 intro f hf
 obtain⟨f',h1,rfl⟩:=List.mem_map.1 hf
 exact (h f' h1).sh n
theorem zL3 (u:Bool) (s:Ty) {a:Pf} (H:Inf a):Rul 152 (.all u s a):=by
 intro ls g hs M hp
 have hm:=qQd
 have hk:qQf=8388608:=rfl
 have hgl:=hp.gl
 have hhl:=hp.hl
 have hmb:=hp.mb
 have htz:max a.tsz s.size≤mid:=hp.tsz
 have hcn:1+a.cnt≤65536:=hp.cnt
 have hK:qQf * (1+a.cnt)=qQf+qQf * a.cnt:=by rw [Nat.mul_add,Nat.mul_one]
 have hmb':M+qQf * (1+a.cnt)≤cmx:=hmb
 rw [hK] at hmb'
 obtain⟨e,g1,g2⟩:=zBr ls g hs 1 0 (by omega) (by omega)
 cases e with
 | succ n=>cases u<;>exact⟨.er n,f1 [(11,.N (n+1))] g1,RR.good_er (Nat.succ_ne_zero n)⟩
 | zero =>
  have g3:=qSl ls g s hs (by omega) (by omega) (fun f hf=>(hp.h1 f hf).hyp (by omega))
  have hpa:Pre ls (g++[s]) (hs.map (Fm.sh 0 1)) (M+1) a:=hp.to (by omega) (qBf hp.h1 1) (by intro x hx;rcases List.mem_append.1 hx with h|h;exact hp.g1 x h;simp at h;subst h;omega) (by simp;omega) (by simpa using hp.hl) (by show a.cnt≤1+a.cnt;omega) (by show a.tsz≤max a.tsz s.size;omega) (Nat.le_refl _) (by omega)
  obtain⟨r,g4,g5⟩:=H _ _ _ _ hpa
  cases r with
  | er n=>cases u<;>exact⟨.er n,f3 [(11,.N 0),(21,.r (ckp ls (g++[s]) (hs.map (Fm.sh 0 1)))),(26,.r (PR.er n).p)] g1 g3 g4,RR.good_er (Nat.succ_ne_zero n)⟩
  | ok f w =>
   obtain⟨q1,q2,q3,q4,q5⟩:=g5
   obtain⟨ja,j1,rfl,j3,j4⟩:=q2
   have hw:∀ x∈w,x≤big:=fun x hx=>by have:=q4 x hx;have:=qQh;simp only [cmx,hm] at hmb';omega
   have g6:=zEo 1 w (by omega) hw
   have hg:∀ k:FQ,aq u=k→(u=true→¬ja.us 0)→RG ls g hs M (.all u s a) (.q k s ja.f) (qZ5 1 w):=by
    intro k hk hu
    refine⟨?_,?_,?_,?_,?_,?_,?_⟩
    ·have:=q1.1;simp only [Fm.cnt];omega
    ·have:=q1.2.1;show ja.f.mx≤M+qQf * (1+a.cnt);rw [hK];omega
    ·have:=q1.2.2;simp only [Fm.tsz];omega
    ·subst hk
     exact⟨.all u s ja,by rw [← j1];rfl,rfl,fun hc=>⟨hc,(g2 rfl).1,j3,hu⟩,fun v hv=>qK2 (j4 _ hv.2)⟩
    ·exact qFu 1 q3
    ·intro x hx
     have h1:∀ {l:List Nat},x∈qZ5 1 l→∃ y∈l,x+1=y:=by
      intro l
      induction l with
      | nil=>intro h;cases h
      | cons y r ih =>
       intro h
       simp only [qZ5] at h
       split at h
       ·rcases List.mem_cons.1 h with rfl|h
        ·exact⟨y,by simp,by omega⟩
        ·obtain⟨z,h1,h2⟩:=ih h;exact⟨z,by simp [h1],h2⟩
       ·obtain⟨z,h1,h2⟩:=ih h;exact⟨z,by simp [h1],h2⟩
     obtain⟨y,hy,hxy⟩:=h1 hx
     have:=q4 y hy
     show x≤M+qQf * (1+a.cnt)
     rw [hK]
     omega
    ·have:=qYd 1 w;show (qZ5 1 w).length≤1+a.cnt;omega
   cases u
   ·exact⟨.of (.q .all s ja.f) (qZ5 1 w) 0,f5 [(11,.N 0),(21,.r (ckp ls (g++[s]) (hs.map (Fm.sh 0 1)))),(26,.r (PR.ok ja.f w).p),(40,.r (Fm.q .all s ja.f).p),(43,.r (qQk (qZ5 1 w)))] g1 g3 g4 (a40 .all s ja.f) g6,fun _=>⟨_,rfl,hg _ rfl fun h=>nomatch h⟩⟩
   ·obtain⟨b,g7,h0⟩:=zBt q3
    cases b
    ·exact⟨.of (.q .allU s ja.f) (qZ5 1 w) 0,f6 [(11,.N 0),(21,.r (ckp ls (g++[s]) (hs.map (Fm.sh 0 1)))),(26,.r (PR.ok ja.f w).p),(46,.F),(52,.r (Fm.q .allU s ja.f).p),(55,.r (qQk (qZ5 1 w)))] g1 g3 g4 g7 (a40 .allU s ja.f) g6,fun _=>⟨_,rfl,hg _ rfl fun _ h=>h0 rfl (j4 0 h)⟩⟩
    ·exact⟨.er 11,f4 [(11,.N 0),(21,.r (ckp ls (g++[s]) (hs.map (Fm.sh 0 1)))),(26,.r (PR.ok ja.f w).p),(46,.T)] g1 g3 g4 g7,RR.good_er (Nat.succ_ne_zero 11)⟩
theorem zL4 (H:MF) (u:Bool) (t:Tm) {a:Pf} (Ha:Inf a):Rul 153 (.ins u t a):=by
 intro ls g hs M hp
 have hm:=qQd
 have hb:=qQh
 have hk:qQf=8388608:=rfl
 have hcx:cmx=mid * mid-1001 * 4096:=rfl
 have hgl:=hp.gl
 have hmb:M+qQf * (1+t.cnt+a.cnt)≤cmx:=hp.mb
 have htz:max t.tsz a.tsz≤mid:=hp.tsz
 have hmx:max t.mx a.mx≤M:=hp.mx
 have hcn:1+t.cnt+a.cnt≤65536:=hp.cnt
 have hK:qQf * (1+t.cnt+a.cnt)=qQf+qQf * t.cnt+qQf * a.cnt:=by rw [Nat.mul_add,Nat.mul_add,Nat.mul_one]
 rw [hK] at hmb
 rw [hm] at hcx
 have hM2:t.mx≤mid * mid:=by rw [hm];omega
 obtain⟨r,g1,_,q0⟩:=zFz g t hp.g1 (by omega) (by omega)
 cases r with
 | er n=>cases u<;>exact⟨.er n,f1 [(22,.r (TR.er n).p)] g1,RR.good_er (Nat.succ_ne_zero n)⟩
 | ok s =>
  obtain⟨hchk,hty⟩:=q0 s rfl
  have hpa:Pre ls g hs M a:=hp.sub (by show a.cnt≤1+t.cnt+a.cnt;omega) (by show a.tsz≤max t.tsz a.tsz;omega) (by show a.mx≤max t.mx a.mx;omega)
  obtain⟨r,g2,q1⟩:=Ha _ _ _ _ hpa
  cases r with
  | er n=>cases u<;>exact⟨.er n,f2 [(22,.r (TR.ok s).p),(35,.r (PR.er n).p)] g1 g2,RR.good_er (Nat.succ_ne_zero n)⟩
  | ok f w =>
   obtain⟨q1,⟨ja,j1,j2,j3,j4⟩,q3,q4,q5⟩:=q1
   obtain⟨w',g3,p1,p2,p3,pA⟩:=zEp H t (by omega) (by omega) hM2
   obtain⟨w2,g4,p4,p5,p6,pB⟩:=H.union w w' (by omega) (fun x hx=>by have:=q4 x hx;omega) (fun x hx=>by have:=p2 x hx;omega)
   have bad:∀ n:Nat,f.kd≠bn u 4 6→∃ c:RR,A 153 [ckp ls g hs,(Pf.ins u t a).p] c.p∧c.Good ls g hs M (.ins u t a):=by
    intro _ hne
    cases u<;>exact⟨.er 9,f5 [(22,.r (TR.ok s).p),(35,.r (PR.ok f w).p),(45,.r (qQk w')),(46,.r (qQk w2)),(56,.G)] g1 g2 g3 g4 (qC8 hne),RR.good_er (Nat.succ_ne_zero 9)⟩
   have good:∀ (k:FQ) (y:Ty) (x:Fm),f = .q k y x→k.n=bn u 4 6→∃ c:RR,A 153 [ckp ls g hs,(Pf.ins u t a).p] c.p∧c.Good ls g hs M (.ins u t a):=by
    intro k y x hf hkn
    subst hf
    have hxc:1+x.cnt≤4096:=q1.1
    have hxm:x.mx≤M+qQf * a.cnt:=q1.2.1
    have hxt:max y.size x.tsz≤mid:=q1.2.2
    have g5:=a80 y s
    cases e1:y.same s<;>rw [e1] at g5
    ·cases u<;>exact⟨.er 6,f6 [(22,.r (TR.ok s).p),(35,.r (PR.ok (.q k y x) w).p),(45,.r (qQk w')),(46,.r (qQk w2)),(56,.H),(62,.F)] g1 g2 g3 g4 (qJg hkn) g5,RR.good_er (Nat.succ_ne_zero 6)⟩
    obtain⟨r,g6,p7⟩:=zAb x t (by omega) (by rw [hm];omega) (by omega) (by omega) hM2 (by omega)
    rcases p7 with ⟨n,rfl⟩|⟨rfl,p8⟩
    ·cases u
     ·exact⟨⟨0,0,[],[],[],w2,n+1⟩,f7 [(22,.r (TR.ok s).p),(35,.r (PR.ok (.q k y x) w).p),(45,.r (qQk w')),(46,.r (qQk w2)),(56,.H),(62,.T),(72,.r (FR.er n).p)] g1 g2 g3 g4 (qJg hkn) g5 g6,RR.good_er (Nat.succ_ne_zero n)⟩
     ·exact⟨⟨0,0,[],[],[],w,n+1⟩,f7 [(22,.r (TR.ok s).p),(35,.r (PR.ok (.q k y x) w).p),(45,.r (qQk w')),(46,.r (qQk w2)),(56,.H),(62,.T),(72,.r (FR.er n).p)] g1 g2 g3 g4 (qJg hkn) g5 g6,RR.good_er (Nat.succ_ne_zero n)⟩
    ·have hk:k=aq u:=FQ.inj (hkn.trans (by cases u<;>rfl))
     have hD:(x.put 0 t 0).chk=0→(Jt.ins u t ja (x.put 0 t 0)).D ls g hs:=fun hc=>⟨hc,hchk,j3,s,x,hty,by rw [j2,hk,(qJf y s).1 e1],qOu p8⟩
     have h1:=qWl 0 t x 0
     have h2:=qJv 0 t x 0
     have h3:(x.put 0 t 0).mx≤M+qQf * (1+t.cnt+a.cnt):=by rw [hK];omega
     cases u
     ·refine⟨.of (x.put 0 t 0) w2 0,f7 [(22,.r (TR.ok s).p),(35,.r (PR.ok (.q k y x) w).p),(45,.r (qQk w')),(46,.r (qQk w2)),(56,.H),(62,.T),(72,.r (FR.ok (x.put 0 t 0)).p)] g1 g2 g3 g4 (qJg hkn) g5 g6,fun _=>⟨_,rfl,⟨by show (x.put 0 t 0).cnt≤mid;omega,h3,by show (x.put 0 t 0).tsz≤mid;omega,⟨.ins false t ja _,by rw [← j1];rfl,rfl,hD,fun v hv => ?_⟩,pB,fun z hz => ?_,by show w2.length≤1+t.cnt+a.cnt;omega⟩⟩⟩
      ·rcases hv.2 with h|⟨_,h⟩
       ·exact p4 v (.inl (j4 v h))
       ·exact p4 v (.inr (p1 hchk v h))
      ·rcases p5 z hz with h|h
       ·have:=q4 z h;show z≤M+qQf * (1+t.cnt+a.cnt);rw [hK];omega
       ·have:=p2 z h;omega
     ·refine⟨.of (x.put 0 t 0) w 0,f7 [(22,.r (TR.ok s).p),(35,.r (PR.ok (.q k y x) w).p),(45,.r (qQk w')),(46,.r (qQk w2)),(56,.H),(62,.T),(72,.r (FR.ok (x.put 0 t 0)).p)] g1 g2 g3 g4 (qJg hkn) g5 g6,fun _=>⟨_,rfl,⟨by show (x.put 0 t 0).cnt≤mid;omega,h3,by show (x.put 0 t 0).tsz≤mid;omega,⟨.ins true t ja _,by rw [← j1];rfl,rfl,hD,fun v hv => ?_⟩,q3,(fun z hz=>by have:=q4 z hz;show z≤M+qQf * (1+t.cnt+a.cnt);rw [hK];omega),by show w.length≤1+t.cnt+a.cnt;omega⟩⟩⟩
      rcases hv.2 with h|⟨h,_⟩
      ·exact j4 v h
      ·cases h
   cases f with
   | eq x y=>exact bad 0 (by cases u<;>exact nofun)
   | bin k x y=>exact bad 0 (by cases u<;>cases k<;>exact nofun)
   | q k y x =>
    by_cases h:k.n=bn u 4 6
    ·exact good k y x rfl h
    ·exact bad 0 h
open Go.Lg
set_option maxRecDepth 100000
theorem zL5 (H:MF) (u:Bool) (f:Fm) (t:Tm) {a:Pf} (Ha:Inf a):Rul 154 (.ex u f t a):=by
 intro ls g hs M hp
 have hm:=qQd
 have hb:=qQh
 have hk:qQf=8388608:=rfl
 have hcx:cmx=mid * mid-1001 * 4096:=rfl
 have hgl:=hp.gl
 have hmb:M+qQf * (1+t.cnt+f.cnt+a.cnt)≤cmx:=hp.mb
 have htz:max (max t.tsz f.tsz) a.tsz≤mid:=hp.tsz
 have hmx:max (max t.mx f.mx) a.mx≤M:=hp.mx
 have hcn:1+t.cnt+f.cnt+a.cnt≤65536:=hp.cnt
 have hK:qQf * (1+t.cnt+f.cnt+a.cnt)=qQf+qQf * t.cnt+qQf * f.cnt+qQf * a.cnt:=by rw [Nat.mul_add,Nat.mul_add,Nat.mul_add,Nat.mul_one]
 rw [hK] at hmb
 rw [hm] at hcx
 have hM2:t.mx≤mid * mid:=by rw [hm];omega
 obtain⟨e,g1,q0⟩:=zEl g f hp.g1 (by omega) (by omega)
 cases e with
 | succ n=>cases u<;>exact⟨.er n,f1 [(25,.N (n+1))] g1,RR.good_er (Nat.succ_ne_zero n)⟩
 | zero =>
  have hfc:=Fm.chk0 (q0 rfl).1
  have bad:f.kd≠bn u 5 7→∃ c:RR,A 154 [ckp ls g hs,(Pf.ex u f t a).p] c.p∧c.Good ls g hs M (.ex u f t a):=by
   intro hne
   cases u<;>exact⟨.er 9,f2 [(25,.N 0),(36,.G)] g1 (qC8 hne),RR.good_er (Nat.succ_ne_zero 9)⟩
  have good:∀ (k:FQ) (y:Ty) (x:Fm),f = .q k y x→k.n=bn u 5 7→∃ c:RR,A 154 [ckp ls g hs,(Pf.ex u f t a).p] c.p∧c.Good ls g hs M (.ex u f t a):=by
   intro k y x hf hkn
   subst hf
   have hxc:1+x.cnt≤4096:=hfc.1
   have hxm:x.mx≤M:=by have:(Fm.q k y x).mx=x.mx:=rfl;omega
   have hxt:x.tsz≤mid:=by have:(Fm.q k y x).tsz=max y.size x.tsz:=rfl;omega
   obtain⟨r,g2,_,q1⟩:=zFz g t hp.g1 (by omega) (by omega)
   cases r with
   | er n=>cases u<;>exact⟨.er n,f3 [(25,.N 0),(36,.H),(42,.r (TR.er n).p)] g1 (qJg hkn) g2,RR.good_er (Nat.succ_ne_zero n)⟩
   | ok s =>
    obtain⟨hchk,hty⟩:=q1 s rfl
    have g3:=a80 y s
    cases e1:y.same s<;>rw [e1] at g3
    ·cases u<;>exact⟨.er 6,f4 [(25,.N 0),(36,.H),(42,.r (TR.ok s).p),(52,.F)] g1 (qJg hkn) g2 g3,RR.good_er (Nat.succ_ne_zero 6)⟩
    have hpa:Pre ls g hs M a:=hp.sub (by show a.cnt≤1+t.cnt+(Fm.q k y x).cnt+a.cnt;omega) (by show a.tsz≤max (max t.tsz (Fm.q k y x).tsz) a.tsz;omega) (by show a.mx≤max (max t.mx (Fm.q k y x).mx) a.mx;omega)
    obtain⟨w,e,g4,q2,b1,b2⟩:=zAc Ha ls g hs M hpa x t (by omega) (by rw [hm];omega) hxt (by omega) hM2 (by omega) (by omega)
    obtain⟨w',g5,p1,p2,p3,pA⟩:=zEp H t (by omega) (by omega) hM2
    cases u
    ·by_cases he:e=0
     ·subst he
      obtain⟨f',⟨q3,⟨ja,j1,j2,j3,j4⟩,q5,q6,q7⟩,wf,hw,hmt⟩:=q2 rfl
      obtain⟨w2,g6,p4,p5,p6,pB⟩:=H.union w w' (by omega) (fun z hz=>by have:=q6 z hz;omega) (fun z hz=>by have:=p2 z hz;omega)
      refine⟨.of (.q k y x) w2 0,f7 [(25,.N 0),(36,.H),(42,.r (TR.ok s).p),(52,.T),(66,.U [qQk w,num 0]),(73,.r (qQk w')),(74,.r (qQk w2))] g1 (qJg hkn) g2 g3 g4 g5 g6,fun _=>⟨_,rfl,⟨by show 1+x.cnt≤mid;omega,by show (Fm.q k y x).mx≤M+_;omega,by show (Fm.q k y x).tsz≤mid;omega,⟨.ex false (.q k y x) t ja,by rw [← j1];rfl,rfl,fun _=>⟨q0 rfl,hchk,j3,s,x,wf,hty,by rw [FQ.inj (hkn.trans rfl:k.n=(eqq false).n),(qJf y s).1 e1],hw,by rw [j2];exact hmt⟩,fun v hv => ?_⟩,pB,fun z hz => ?_,by show w2.length≤1+t.cnt+(Fm.q k y x).cnt+a.cnt;omega⟩⟩⟩
      ·rcases hv.2 with h|⟨_,h⟩
       ·exact p4 v (.inl (j4 v h))
       ·exact p4 v (.inr (p1 hchk v h))
      ·rcases p5 z hz with h|h
       ·have:=q6 z h;show z≤M+qQf * (1+t.cnt+(Fm.q k y x).cnt+a.cnt);rw [hK];omega
       ·have:=p2 z h;omega
     ·obtain⟨n,rfl⟩:=Nat.exists_eq_succ_of_ne_zero he
      obtain⟨w2,g6,_⟩:=H.union w w' (by omega) (fun z hz=>by have:=b1 z hz;omega) (fun z hz=>by have:=p2 z hz;omega)
      exact⟨.of (.q k y x) w2 (n+1),f7 [(25,.N 0),(36,.H),(42,.r (TR.ok s).p),(52,.T),(66,.U [qQk w,num (n+1)]),(73,.r (qQk w')),(74,.r (qQk w2))] g1 (qJg hkn) g2 g3 g4 g5 g6,RR.good_er (Nat.succ_ne_zero n)⟩
    ·by_cases he:e=0
     ·subst he
      obtain⟨f',⟨q3,⟨ja,j1,j2,j3,j4⟩,q5,q6,q7⟩,wf,hw,hmt⟩:=q2 rfl
      refine⟨.of (.q k y x) w 0,f5 [(25,.N 0),(36,.H),(42,.r (TR.ok s).p),(52,.T),(66,.U [qQk w,num 0])] g1 (qJg hkn) g2 g3 g4,fun _=>⟨_,rfl,⟨by show 1+x.cnt≤mid;omega,by show (Fm.q k y x).mx≤M+_;omega,by show (Fm.q k y x).tsz≤mid;omega,⟨.ex true (.q k y x) t ja,by rw [← j1];rfl,rfl,fun _=>⟨q0 rfl,hchk,j3,s,x,wf,hty,by rw [FQ.inj (hkn.trans rfl:k.n=(eqq true).n),(qJf y s).1 e1],hw,by rw [j2];exact hmt⟩,fun v hv => ?_⟩,q5,(fun z hz=>by have:=q6 z hz;show z≤M+qQf * (1+t.cnt+(Fm.q k y x).cnt+a.cnt);rw [hK];omega),by show w.length≤1+t.cnt+(Fm.q k y x).cnt+a.cnt;omega⟩⟩⟩
      rcases hv.2 with h|⟨h,_⟩
      ·exact j4 v h
      ·cases h
     ·obtain⟨n,rfl⟩:=Nat.exists_eq_succ_of_ne_zero he
      exact⟨.of (.q k y x) w (n+1),f5 [(25,.N 0),(36,.H),(42,.r (TR.ok s).p),(52,.T),(66,.U [qQk w,num (n+1)])] g1 (qJg hkn) g2 g3 g4,RR.good_er (Nat.succ_ne_zero n)⟩
  cases f with
  | eq x y=>exact bad (by cases u<;>exact nofun)
  | bin k x y=>exact bad (by cases u<;>cases k<;>exact nofun)
  | q k y x =>
   by_cases h:k.n=bn u 5 7
   ·exact good k y x rfl h
   ·exact bad h
theorem qFv (g:List Ty) (s:Ty):tys (g++[s]) = .slice (g.map Ty.c++[s.c]):=by simp [tys]
theorem qBg {g:List Ty} {s:Ty} (hg:∀ s∈g,s.size≤mid) (hs:s.size≤mid):∀ x∈g++[s],x.size≤mid:=by
 intro x hx
 rcases List.mem_append.1 hx with h|h
 ·exact hg x h
 ·simp at h;subst h;exact hs
theorem zL6 (f:Fm) {a b:Pf} (Ha:Inf a) (Hb:Inf b):Rul 159 (.subst f a b):=by
 intro ls g hs M hp
 have hm:=qQd
 have hb:=qQh
 have hk:qQf=8388608:=rfl
 have hcx:cmx=mid * mid-1001 * 4096:=rfl
 have hgl:=hp.gl
 have hmb:M+qQf * (1+f.cnt+a.cnt+b.cnt)≤cmx:=hp.mb
 have htz:max (max f.tsz a.tsz) b.tsz≤mid:=hp.tsz
 have hmx:max (max f.mx a.mx) b.mx≤M:=hp.mx
 have hcn:1+f.cnt+a.cnt+b.cnt≤65536:=hp.cnt
 have hK:qQf * (1+f.cnt+a.cnt+b.cnt)=qQf+qQf * f.cnt+qQf * a.cnt+qQf * b.cnt:=by rw [Nat.mul_add,Nat.mul_add,Nat.mul_add,Nat.mul_one]
 rw [hK] at hmb
 rw [hm] at hcx
 have c1:=qHq g
 have c2:=qYb 2 32 Ty.c_len (by decide) g .nat (by omega) (by simp only [maxLen];omega)
 obtain⟨e,g1,q0⟩:=zEk (g++[.nat]) f (qBg hp.g1 (by decide)) (by omega) (by simp;omega)
 rw [qFv] at g1
 cases e with
 | succ n=>exact⟨.er n,f3 [(25,.ok),(28,.ok),(30,.N (n+1))] c1 c2 g1,RR.good_er (Nat.succ_ne_zero n)⟩
 | zero =>
  have hfc:=Fm.chk0 (q0 rfl).1
  have hpa:Pre ls g hs M a:=hp.sub (by show a.cnt≤1+f.cnt+a.cnt+b.cnt;omega) (by show a.tsz≤max (max f.tsz a.tsz) b.tsz;omega) (by show a.mx≤max (max f.mx a.mx) b.mx;omega)
  have hpb:Pre ls g hs M b:=hp.sub (by show b.cnt≤1+f.cnt+a.cnt+b.cnt;omega) (by show b.tsz≤max (max f.tsz a.tsz) b.tsz;omega) (by show b.mx≤max (max f.mx a.mx) b.mx;omega)
  obtain⟨r,g2,q1⟩:=Ha _ _ _ _ hpa
  cases r with
  | er n=>exact⟨.er n,f4 [(25,.ok),(28,.ok),(30,.N 0),(41,.r (PR.er n).p)] c1 c2 g1 g2,RR.good_er (Nat.succ_ne_zero n)⟩
  | ok fa w =>
   obtain⟨q1,⟨ja,j1,j2,j3,_⟩,_,_,_⟩:=q1
   cases fa with
   | bin k x y=>exact⟨.er 9,f5 [(25,.ok),(28,.ok),(30,.N 0),(41,.r (PR.ok (.bin k x y) w).p),(51,.G)] c1 c2 g1 g2 (show (!eqI (.ofNat (Fm.bin k x y).kd) (.ofNat 1))=true from qC8 (by cases k<;>exact nofun)),RR.good_er (Nat.succ_ne_zero 9)⟩
   | q k s x=>exact⟨.er 9,f5 [(25,.ok),(28,.ok),(30,.N 0),(41,.r (PR.ok (.q k s x) w).p),(51,.G)] c1 c2 g1 g2 (show (!eqI (.ofNat (Fm.q k s x).kd) (.ofNat 1))=true from qC8 (by cases k<;>exact nofun)),RR.good_er (Nat.succ_ne_zero 9)⟩
   | eq x y =>
    have e1:1+x.cnt+y.cnt≤4096:=q1.1
    have e2:max x.mx y.mx≤M+qQf * a.cnt:=q1.2.1
    have e3:max x.tsz y.tsz≤mid:=q1.2.2
    have hfx:f.mx≤M:=by omega
    obtain⟨w2,e,g3,q2,b1,b2⟩:=zAc Hb ls g hs M hpb f x (by omega) (by rw [hm];omega) (by omega) (by omega) (by rw [hm];omega) (by omega) (by omega)
    by_cases he:e=0
    ·subst he
     obtain⟨f',⟨q3,⟨jb,k1,k2,k3,k4⟩,q5,q6,q7⟩,wf,hw,hmt⟩:=q2 rfl
     obtain⟨r,g4,q8⟩:=zAb f y (by omega) (by rw [hm];omega) (by omega) (by omega) (by rw [hm];omega) (by omega)
     rcases q8 with ⟨n,rfl⟩|⟨rfl,q9⟩
     ·exact⟨⟨0,0,[],[],[],w2,n+1⟩,f6 [(25,.ok),(28,.ok),(30,.N 0),(41,.r (PR.ok (.eq x y) w).p),(65,.U [qQk w2,num 0]),(79,.r (FR.er n).p)] c1 c2 g1 g2 g3 g4,RR.good_er (Nat.succ_ne_zero n)⟩
     ·have h1:=qWl 0 y f 0
      have h2:=qJv 0 y f 0
      exact⟨.of (f.put 0 y 0) w2 0,f6 [(25,.ok),(28,.ok),(30,.N 0),(41,.r (PR.ok (.eq x y) w).p),(65,.U [qQk w2,num 0]),(79,.r (FR.ok (f.put 0 y 0)).p)] c1 c2 g1 g2 g3 g4,fun _=>⟨_,rfl,⟨by show (f.put 0 y 0).cnt≤mid;omega,by show (f.put 0 y 0).mx≤M+qQf * (1+f.cnt+a.cnt+b.cnt);rw [hK];omega,by show (f.put 0 y 0).tsz≤mid;omega,⟨.subst f ja jb _,by rw [← j1,← k1];rfl,rfl,fun hc=>⟨hc,q0 rfl,j3,k3,x,y,wf,j2,hw,by rw [k2];exact hmt,qOu q9⟩,fun v hv=>k4 v hv.2⟩,q5,(fun z hz=>by have:=q6 z hz;show z≤M+qQf * (1+f.cnt+a.cnt+b.cnt);rw [hK];omega),by show w2.length≤1+f.cnt+a.cnt+b.cnt;omega⟩⟩⟩
    ·obtain⟨n,rfl⟩:=Nat.exists_eq_succ_of_ne_zero he
     exact⟨.er n,f5 [(25,.ok),(28,.ok),(30,.N 0),(41,.r (PR.ok (.eq x y) w).p),(65,.U [qQk w2,num (n+1)])] c1 c2 g1 g2 g3,RR.good_er (Nat.succ_ne_zero n)⟩
theorem zIm (H:MF) (u:Bool) {a b:Pf} (Ha:Inf a) (Hb:Inf b):Rul 155 (.p2 (ek u) a b):=by
 intro ls g hs M hp
 have hm:=qQd
 have hb:=qQh
 have hk:qQf=8388608:=rfl
 have hcx:cmx=mid * mid-1001 * 4096:=rfl
 have hgl:=hp.gl
 have hhl:=hp.hl
 have hmb:M+qQf * (1+a.cnt+b.cnt)≤cmx:=hp.mb
 have htz:max a.tsz b.tsz≤mid:=hp.tsz
 have hmx:max a.mx b.mx≤M:=hp.mx
 have hcn:1+a.cnt+b.cnt≤65536:=hp.cnt
 have hK:qQf * (1+a.cnt+b.cnt)=qQf+qQf * a.cnt+qQf * b.cnt:=by rw [Nat.mul_add,Nat.mul_add,Nat.mul_one]
 rw [hK] at hmb
 rw [hm] at hcx
 have hpa:Pre ls g hs M a:=hp.sub (by show a.cnt≤1+a.cnt+b.cnt;omega) (by show a.tsz≤max a.tsz b.tsz;omega) (by show a.mx≤max a.mx b.mx;omega)
 obtain⟨r,g2,q1⟩:=Ha _ _ _ _ hpa
 cases r with
 | er n=>cases u<;>exact⟨.er n,f1 [(19,.r (PR.er n).p)] g2,RR.good_er (Nat.succ_ne_zero n)⟩
 | ok fa w =>
 obtain⟨q1,⟨ja,j1,j2,j3,j4⟩,p2,p3,p4⟩:=q1
 have bad:fa.kd≠bn u 5 7→∃ c:RR,A 155 [ckp ls g hs,(Pf.p2 (ek u) a b).p] c.p∧c.Good ls g hs M (.p2 (ek u) a b):=by
  intro hne
  cases u<;>exact⟨.er 9,f2 [(19,.r (PR.ok fa w).p),(33,.G)] g2 (qC8 hne),RR.good_er (Nat.succ_ne_zero 9)⟩
 have good:∀ (k:FQ) (y:Ty) (x:Fm),fa = .q k y x→k.n=bn u 5 7→∃ c:RR,A 155 [ckp ls g hs,(Pf.p2 (ek u) a b).p] c.p∧c.Good ls g hs M (.p2 (ek u) a b):=by
  intro k y x hf hkn
  subst hf
  have hxc:1+x.cnt≤4096:=q1.1
  have hxm:x.mx≤M+qQf * a.cnt:=q1.2.1
  have hxt:max y.size x.tsz≤mid:=q1.2.2
  obtain⟨e,g3,q2⟩:=zBr ls g hs 1 1 (by omega) (by omega)
  cases e with
  | succ n=>cases u<;>exact⟨.er n,f3 [(19,.r (PR.ok (.q k y x) w).p),(33,.H),(36,.N (n+1))] g2 (qJg hkn) g3,RR.good_er (Nat.succ_ne_zero n)⟩
  | zero =>
  have g4:=qSl ls g y hs (by omega) (by omega) (fun f hf=>(hp.h1 f hf).hyp (by omega))
  have g5:=zEn ls (g++[y]) (hs.map (Fm.sh 0 1)) x (by simp;omega)
  have hroom:=q2 rfl
  have hpb:Pre ls (g++[y]) (hs.map (Fm.sh 0 1)++[x]) (M+1+qQf * a.cnt) b:=hp.to (by omega) (by
   intro f hf
   rcases List.mem_append.1 hf with h|h
   ·exact (qBf hp.h1 1 f h).up (by omega)
   ·simp at h;subst h;exact⟨by omega,by omega,by omega⟩) (qBg hp.g1 (by omega)) (by simp;omega) (by simp;omega) (by show b.cnt≤1+a.cnt+b.cnt;omega) (by show b.tsz≤max a.tsz b.tsz;omega) (by show b.mx≤max a.mx b.mx;omega) (by omega)
  obtain⟨r,g6,q3⟩:=Hb _ _ _ _ hpb
  cases r with
  | er n=>cases u<;>exact⟨.er n,f6 [(19,.r (PR.ok (.q k y x) w).p),(33,.H),(36,.N 0),(47,.r (ckp ls (g++[y]) (hs.map (Fm.sh 0 1)))),(53,.r (ckp ls (g++[y]) (hs.map (Fm.sh 0 1)++[x]))),(58,.r (PR.er n).p)] g2 (qJg hkn) g3 g4 g5 g6,RR.good_er (Nat.succ_ne_zero n)⟩
  | ok fb v =>
  obtain⟨q3,⟨jb,k1,k2,k3,k4⟩,r2,r3,r4⟩:=q3
  have hkk:k=eqq u:=FQ.inj (hkn.trans (by cases u<;>rfl))
  have e1:=q3.1
  have e2:=q3.2.1
  have e3:=q3.2.2
  have hvb:∀ z∈v,z≤big:=fun z hz=>by have:=r3 z hz;omega
  have hov:=qYd 1 v
  have hob:∀ z∈qZ5 1 v,z≤M+1+qQf * a.cnt+qQf * b.cnt:=qCv (fun z hz=>r3 z hz)
  have g10:=zEo 1 v (by omega) hvb
  obtain⟨w2,g11,s1,s2,s3,sA⟩:=H.union w (qZ5 1 v) (by omega) (fun z hz=>by have:=p3 z hz;omega) (fun z hz=>by have:=hob z hz;omega)
  have hRG:∀ F:Fm,wtF fb=some (F.sh 1 (-1))→(u=true→0 ∉ v)→F.mx≤fb.mx+1001 * 4096→F.tsz≤fb.tsz→F.cnt≤4096 * fb.cnt→RG ls g hs M (.p2 (ek u) a b) (F.sh 1 (-1)) w2:=by
   intro F h1 h0 h2 h3 h4
   have h5:(F.sh 1 (-1)).mx≤F.mx+0:=qVl (-1) F 1
   refine⟨by rw [qQq];omega,?_,by rw [qQt];omega,⟨.p2 (ek u) ja jb (F.sh 1 (-1)),by rw [← j1,← k1];rfl,rfl,fun hc => ?_,fun z hz => ?_⟩,sA,fun z hz => ?_,by show w2.length≤1+a.cnt+b.cnt;omega⟩
   ·show _≤M+qQf * (1+a.cnt+b.cnt)
    rw [hK];omega
   ·have hx:ja.f = .q k y ja.f.bd∧jb.D ls (g++[y]) (upH 1 hs++[ja.f.bd]):=by rw [j2];exact⟨rfl,k3⟩
    rw [hkk] at hx
    rw [← k2] at h1
    cases u
    ·exact⟨hc,j3,⟨y,hx.1,hx.2⟩,hroom,h1⟩
    ·exact⟨hc,j3,⟨y,hx.1,hx.2⟩,hroom,h1,fun h=>h0 rfl (k4 0 h)⟩
   ·rcases hz.2 with h6|h6
    ·exact s1 z (.inl (j4 z h6))
    ·exact s1 z (.inr (qK2 (k4 _ (by cases u<;>exact h6))))
   ·show z≤M+qQf * (1+a.cnt+b.cnt)
    rw [hK]
    rcases s2 z hz with h|h
    ·have:=p3 z h;omega
    ·have:=hob z h;omega
  obtain⟨t1,g7,o7⟩:=zBo fb 0 (by omega)
  obtain⟨t3,g12,o12⟩:=zBt r2
  cases t1
  ·have h00:fb.occ 0=0:=Classical.byContradiction fun h=>nomatch o7.2 h
   have hwt:wtF fb=some (fb.sh 1 (-1)):=by unfold wtF;rw [if_pos h00,← qHr fb 0 h00]
   have g9:=a53 fb 1 (-1) (by omega) (by omega) (by rw [hm];omega) (by omega)
   cases u
   ·exact⟨.of (fb.sh 1 (-1)) w2 0,fk [(19,.r (PR.ok (.q k y x) w).p),(33,.H),(36,.N 0),(47,.r (ckp ls (g++[y]) (hs.map (Fm.sh 0 1)))),(53,.r (ckp ls (g++[y]) (hs.map (Fm.sh 0 1)++[x]))),(58,.r (PR.ok fb v).p),(68,.F),(90,.r (fb.sh 1 (-1)).p),(95,.r (qQk (qZ5 1 v))),(96,.r (qQk w2))]
     (And.intro g2 (And.intro (qJg hkn) (And.intro g3 (And.intro g4 (And.intro g5 (And.intro g6 (And.intro g7 (And.intro g9 (And.intro g10 (And.intro g11 (Eq.refl (RR.of (fb.sh 1 (-1)) w2 0).p))))))))))),fun _=>⟨_,rfl,hRG fb hwt (fun h=>nomatch h) (by omega) (Nat.le_refl _) (by omega)⟩⟩
   ·cases t3
    ·exact⟨.of (fb.sh 1 (-1)) w2 0,f11 [(19,.r (PR.ok (.q k y x) w).p),(33,.H),(36,.N 0),(47,.r (ckp ls (g++[y]) (hs.map (Fm.sh 0 1)))),(53,.r (ckp ls (g++[y]) (hs.map (Fm.sh 0 1)++[x]))),(58,.r (PR.ok fb v).p),(68,.F),(86,.F),(90,.r (fb.sh 1 (-1)).p),(95,.r (qQk (qZ5 1 v))),(96,.r (qQk w2))] g2 (qJg hkn) g3 g4 g5 g6 g7 g12 g9 g10 g11,fun _=>⟨_,rfl,hRG fb hwt (fun _=>o12 rfl) (by omega) (Nat.le_refl _) (by omega)⟩⟩
    ·exact⟨.er 11,f8 [(19,.r (PR.ok (.q k y x) w).p),(33,.H),(36,.N 0),(47,.r (ckp ls (g++[y]) (hs.map (Fm.sh 0 1)))),(53,.r (ckp ls (g++[y]) (hs.map (Fm.sh 0 1)++[x]))),(58,.r (PR.ok fb v).p),(68,.F),(86,.T)] g2 (qJg hkn) g3 g4 g5 g6 g7 g12,RR.good_er (Nat.succ_ne_zero 11)⟩
  ·obtain⟨r,g8,n1⟩:=zEq fb (by omega) (by omega) (by omega)
   cases r with
   | er n=>cases u<;>exact⟨.er n,f8 [(19,.r (PR.ok (.q k y x) w).p),(33,.H),(36,.N 0),(47,.r (ckp ls (g++[y]) (hs.map (Fm.sh 0 1)))),(53,.r (ckp ls (g++[y]) (hs.map (Fm.sh 0 1)++[x]))),(58,.r (PR.ok fb v).p),(68,.T),(71,.r (FR.er n).p)] g2 (qJg hkn) g3 g4 g5 g6 g7 g8,RR.good_er (Nat.succ_ne_zero n)⟩
   | ok F =>
    obtain⟨n1,n2,n3,n4⟩:=n1
    obtain⟨t2,g13,o13⟩:=zBo F 0 (by omega)
    have g9:=a53 F 1 (-1) (by omega) (by omega) (by rw [hm];omega) (by omega)
    cases t2
    ·have h00:F.occ 0=0:=Classical.byContradiction fun h=>nomatch o13.2 h
     have hwt:wtF fb=some (F.sh 1 (-1)):=by unfold wtF;rw [if_neg (o7.1 rfl),n1];simp only;rw [if_pos h00,← qHr F 0 h00]
     cases u
     ·exact⟨.of (F.sh 1 (-1)) w2 0,f12 [(19,.r (PR.ok (.q k y x) w).p),(33,.H),(36,.N 0),(47,.r (ckp ls (g++[y]) (hs.map (Fm.sh 0 1)))),(53,.r (ckp ls (g++[y]) (hs.map (Fm.sh 0 1)++[x]))),(58,.r (PR.ok fb v).p),(68,.T),(71,.r (FR.ok F).p),(79,.F),(90,.r (F.sh 1 (-1)).p),(95,.r (qQk (qZ5 1 v))),(96,.r (qQk w2))] g2 (qJg hkn) g3 g4 g5 g6 g7 g8 g13 g9 g10 g11,fun _=>⟨_,rfl,hRG F hwt (fun h=>nomatch h) n2 n3 n4⟩⟩
     ·cases t3
      ·exact⟨.of (F.sh 1 (-1)) w2 0,f13 [(19,.r (PR.ok (.q k y x) w).p),(33,.H),(36,.N 0),(47,.r (ckp ls (g++[y]) (hs.map (Fm.sh 0 1)))),(53,.r (ckp ls (g++[y]) (hs.map (Fm.sh 0 1)++[x]))),(58,.r (PR.ok fb v).p),(68,.T),(71,.r (FR.ok F).p),(79,.F),(86,.F),(90,.r (F.sh 1 (-1)).p),(95,.r (qQk (qZ5 1 v))),(96,.r (qQk w2))] g2 (qJg hkn) g3 g4 g5 g6 g7 g8 g13 g12 g9 g10 g11,fun _=>⟨_,rfl,hRG F hwt (fun _=>o12 rfl) n2 n3 n4⟩⟩
      ·exact⟨.er 11,f10 [(19,.r (PR.ok (.q k y x) w).p),(33,.H),(36,.N 0),(47,.r (ckp ls (g++[y]) (hs.map (Fm.sh 0 1)))),(53,.r (ckp ls (g++[y]) (hs.map (Fm.sh 0 1)++[x]))),(58,.r (PR.ok fb v).p),(68,.T),(71,.r (FR.ok F).p),(79,.F),(86,.T)] g2 (qJg hkn) g3 g4 g5 g6 g7 g8 g13 g12,RR.good_er (Nat.succ_ne_zero 11)⟩
    ·cases u<;>exact⟨.er 5,f9 [(19,.r (PR.ok (.q k y x) w).p),(33,.H),(36,.N 0),(47,.r (ckp ls (g++[y]) (hs.map (Fm.sh 0 1)))),(53,.r (ckp ls (g++[y]) (hs.map (Fm.sh 0 1)++[x]))),(58,.r (PR.ok fb v).p),(68,.T),(71,.r (FR.ok F).p),(79,.T)] g2 (qJg hkn) g3 g4 g5 g6 g7 g8 g13,RR.good_er (Nat.succ_ne_zero 5)⟩
 cases fa with
 | eq x y=>exact bad (by cases u<;>exact nofun)
 | bin k x y=>exact bad (by cases u<;>cases k<;>exact nofun)
 | q k y x =>
  by_cases h:k.n=bn u 5 7
  ·exact good k y x rfl h
  ·exact bad h
end Go.Proofs.YtalkjpicadiimaaGreatDoor
