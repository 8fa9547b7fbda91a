/- Contracts of functions; no conditions. -/
import Derived.Test.YtmcockinhpiomaaGreatDoorZC2
set_option linter.all false
set_option maxHeartbeats 4000000
namespace Go.Proofs.YtmcockinhpiomaaGreatDoor
open Go.Lg
set_option maxRecDepth 100000
theorem FB.inj {k l:FB} (h:k.n=l.n):k=l:=by cases k<;>cases l<;>first|rfl|cases h
theorem FQ.inj {k l:FQ} (h:k.n=l.n):k=l:=by cases k<;>cases l<;>first|rfl|cases h
abbrev cmx:Nat:=mid * mid-1001 * 4096
theorem zZ8 {a b:Fm} (h:a.kd≠b.kd):∃ e,A 220 [a.p,b.p] (num e):=⟨11,f1 [(13,.G)] (qX4 h)⟩
theorem zCm:∀ a b:Fm,a.cnt≤big→a.mx≤cmx→a.tsz≤mid→b.cnt≤big→b.mx≤cmx→b.tsz≤mid→∃ e,A 220 [a.p,b.p] (num e)
 | .eq a c,.eq b d,h1,h2,h3,h4,h5,h6=>by
  have hm:=qQc
  simp only [Fm.cnt,Fm.mx,Fm.tsz] at h1 h2 h3 h4 h5 h6
  obtain⟨e,g1⟩:=zGg a b (by omega) (by simp only [cmx,hm] at *;omega) (by omega) (by omega) (by simp only [cmx,hm] at *;omega) (by omega)
  obtain⟨e',g2⟩:=zGg c d (by omega) (by simp only [cmx,hm] at *;omega) (by omega) (by omega) (by simp only [cmx,hm] at *;omega) (by omega)
  cases e with
  | succ n=>exact⟨n+1,f2 [(19,.T),(38,.N (n+1))] qNj g1⟩
  | zero=>cases e' with
   | succ n=>exact⟨n+1,f3 [(19,.T),(38,.N 0),(38,.N (n+1))] qNj g1 g2⟩
   | zero=>exact⟨0,f3 [(19,.T),(38,.N 0),(38,.N 0)] qNj g1 g2⟩
 | .bin k f g,.bin l f' g',h1,h2,h3,h4,h5,h6=>by
  by_cases h:k=l
  ·subst h
   simp only [Fm.cnt,Fm.mx,Fm.tsz] at h1 h2 h3 h4 h5 h6
   obtain⟨e,g1⟩:=zCm f f' (by omega) (by omega) (by omega) (by omega) (by omega) (by omega)
   obtain⟨e',g2⟩:=zCm g g' (by omega) (by omega) (by omega) (by omega) (by omega) (by omega)
   cases e with
   | succ n=>exact⟨n+1,f3 [(13,.H),(19,.T),(59,.N (n+1))] (qWb k.n) qNj g1⟩
   | zero=>cases e' with
    | succ n=>exact⟨n+1,f4 [(13,.H),(19,.T),(59,.N 0),(59,.N (n+1))] (qWb k.n) qNj g1 g2⟩
    | zero=>exact⟨0,f4 [(13,.H),(19,.T),(59,.N 0),(59,.N 0)] (qWb k.n) qNj g1 g2⟩
  ·exact zZ8 fun e=>h (FB.inj e)
 | .q k s f,.q l u g,h1,h2,h3,h4,h5,h6=>by
  by_cases h:k=l
  ·subst h
   simp only [Fm.cnt,Fm.mx,Fm.tsz] at h1 h2 h3 h4 h5 h6
   have g0:=a80 s u
   cases e:s.same u<;>rw [e] at g0
   ·exact⟨11,f2 [(13,.H),(19,.F)] (qWb k.n) g0⟩
   obtain⟨e,g1⟩:=zCm f g (by omega) (by omega) (by omega) (by omega) (by omega) (by omega)
   cases e with
   | succ n=>exact⟨n+1,f3 [(13,.H),(19,.T),(59,.N (n+1))] (qWb k.n) g0 g1⟩
   | zero=>exact⟨0,f3 [(13,.H),(19,.T),(59,.N 0)] (qWb k.n) g0 g1⟩
  ·exact zZ8 fun e=>h (FQ.inj e)
 | .eq _ _,.bin l _ _,_,_,_,_,_,_=>zZ8 (by cases l<;>exact nofun)
 | .eq _ _,.q l _ _,_,_,_,_,_,_=>zZ8 (by cases l<;>exact nofun)
 | .bin l _ _,.eq _ _,_,_,_,_,_,_=>zZ8 (by cases l<;>exact nofun)
 | .bin k _ _,.q l _ _,_,_,_,_,_,_=>zZ8 (by cases k<;>cases l<;>exact nofun)
 | .q l _ _,.eq _ _,_,_,_,_,_,_=>zZ8 (by cases l<;>exact nofun)
 | .q k _ _,.bin l _ _,_,_,_,_,_,_=>zZ8 (by cases k<;>cases l<;>exact nofun)
theorem zGh (a b:Fm) (h1:a.cnt≤big) (h2:a.mx≤cmx) (h3:a.tsz≤mid) (h4:b.cnt≤big) (h5:b.mx≤cmx) (h6:b.tsz≤mid):∃ e,A 159 [a.p,b.p] (num e):=by
 have g1:=a75 a h3 h1
 have g2:=a75 b h6 h4
 cases e1:a.chk with
 | succ n=>rw [e1] at g1;exact⟨n+1,f1 [(8,.N (n+1))] g1⟩
 | zero =>
  rw [e1] at g1
  cases e2:b.chk with
  | succ n=>rw [e2] at g2;exact⟨n+1,f2 [(8,.N 0),(13,.N (n+1))] g1 g2⟩
  | zero =>
   rw [e2] at g2
   obtain⟨e,g3⟩:=zCm a b h1 h2 h3 h4 h5 h6
   exact⟨e,f3 [(8,.N 0),(13,.N 0),(19,.N e)] g1 g2 g3⟩
inductive FR where
 | er (n:Nat)
 | ok (f:Fm)
def FR.k:FR→Nat
 | .er _=>0
 | .ok f=>f.kd
def FR.tk:FR→Nat
 | .er _=>0
 | .ok f=>f.tk
def FR.te:FR→List (List PV)
 | .er _=>[]
 | .ok f=>f.te
def FR.ts:FR→List (List PV)
 | .er _=>[]
 | .ok f=>f.ts
def FR.es:FR→List (List PV)
 | .er _=>[]
 | .ok f=>f.es
def FR.n:FR→Nat
 | .er n=>n+1
 | .ok _=>0
def FR.p (r:FR):PV:=.tuple [.agg [num r.k,num r.tk,.slice r.te,.slice r.ts,.slice r.es],num r.n]
theorem zH1 (f:Fm) (s:Tm) (h1:f.cnt≤mid) (h2:f.mx≤mid * mid) (h3:f.tsz≤mid) (h4:s.cnt≤mid) (h5:s.mx≤mid * mid) (h6:s.tsz≤mid):∃ r:FR,A 279 [f.p,num 0,s.p] r.p∧((∃ n,r = .er n)∨r = .ok (f.put 0 s 0)∧(f.put 0 s 0).cnt≤4096):=by
 have hm:=qQc
 have hb:=qQh
 have g1:=a75 f h3 (by omega)
 cases e1:f.chk with
 | succ n=>rw [e1] at g1;exact⟨.er n,f1 [(11,.N (n+1))] g1,.inl ⟨n,rfl⟩⟩
 | zero =>
  rw [e1] at g1
  have g2:=a31 s (by omega) (by omega)
  cases e2:s.chk with
  | succ n=>rw [e2] at g2;exact⟨.er n,f2 [(11,.N 0),(24,.N (n+1))] g1 g2,.inl ⟨n,rfl⟩⟩
  | zero =>
   rw [e2] at g2
   obtain⟨p,g3⟩:=zCg f 536870912
   obtain⟨q,g4⟩:=qP8 s 536870912
   cases p
   ·exact⟨.er 0,f3 [(11,.N 0),(24,.N 0),(30,.F)] g1 g2 g3,.inl ⟨0,rfl⟩⟩
   cases q
   ·exact⟨.er 0,f4 [(11,.N 0),(24,.N 0),(30,.T),(34,.F)] g1 g2 g3 g4,.inl ⟨0,rfl⟩⟩
   have g5:=qIi f (by omega)
   have g6:=zCi f 0 (by omega)
   have g7:=a87 s (by omega)
   have h7:=qB8 s
   have g8:=qVm h7 (by omega)
   have h8:=qVh f 0
   have h9:f.occ 0 * (s.cnt-1)≤mid * mid:=Nat.mul_le_mul (by omega) (by omega)
   have h10:f.occ 0 * s.cnt=f.occ 0 * (s.cnt-1)+f.occ 0:=by
    have:s.cnt=(s.cnt-1)+1:=by omega
    rw [this,Nat.mul_succ];simp
   have h11:=qKc 0 s f 0
   simp only [Nat.zero_add] at h11
   have h9':=h9
   rw [hm] at h9'
   have g9:=zY3 (a:=f.occ 0) (b:=s.cnt-1) (by omega)
   have g10:=qZg (a:=f.cnt) (b:=f.occ 0 * (s.cnt-1)) (by omega)
   cases e3:ltI (.ofNat 4096) (.ofNat (f.cnt+f.occ 0 * (s.cnt-1)))
   ·refine⟨.ok (f.put 0 s 0),f13 [(11,.N 0),(24,.N 0),(30,.T),(34,.T),(39,.N f.cnt),(42,.N (f.occ 0)),(44,.N s.cnt),(45,.z (s.cnt-1)),(46,.ok),(47,.ok),(48,.H),(53,.r (f.put 0 s 0).p),(54,.r (f.put 0 s 0).p)] g1 g2 g3 g4 g5 g6 g7 g8 g9 g10 e3 (zCh f 0 0 s h5 h4 h2 (by omega)) (a64 (f.put 0 s 0)),.inr ⟨rfl,?_⟩⟩
    rw [qQs] at e3
    have:=of_decide_eq_false e3
    simp at this
    omega
   ·exact⟨.er 3,f11 [(11,.N 0),(24,.N 0),(30,.T),(34,.T),(39,.N f.cnt),(42,.N (f.occ 0)),(44,.N s.cnt),(45,.z (s.cnt-1)),(46,.ok),(47,.ok),(48,.G)] g1 g2 g3 g4 g5 g6 g7 g8 g9 g10 e3,.inl ⟨3,rfl⟩⟩
def Fm.has:Fm→Bool
 | .eq _ _=>false
 | .bin k f g=>match k with
  | .and=>f.has || g.has
  | .imp=>g.has
 | .q k _ f=>match k with
  | .ex=>true
  | _=>f.has
theorem zWy:∀ f:Fm,A 138 [f.p] (.bool f.has)
 | .eq a b=>f0 []
 | .bin .and f g=>by
  have h1:=zWy f
  have h2:=zWy g
  show A 138 [(Fm.bin .and f g).p] (.bool (f.has || g.has))
  cases e:f.has<;>rw [e] at h1
  ·cases e:g.has<;>rw [e] at h2
   ·exact f2 [(13,.F),(19,.F)] h1 h2
   ·exact f2 [(13,.F),(19,.T)] h1 h2
  ·exact f1 [(13,.T)] h1
 | .bin .imp f g=>f1 [(31,.r (.bool g.has))] (zWy g)
 | .q .ex s f=>f0 []
 | .q .all s f=>f1 [(31,.r (.bool f.has))] (zWy f)
 | .q .allU s f=>f1 [(31,.r (.bool f.has))] (zWy f)
 | .q .exU s f=>f1 [(31,.r (.bool f.has))] (zWy f)
theorem a85 (f:Fm) (h1:f.tsz≤mid) (h2:f.cnt≤big):∃ b e,A 85 [f.p] (.tuple [.bool b,num e])∧(f.chk=0→b=f.has∧e=0):=by
 have g1:=a75 f h1 h2
 cases e1:f.chk with
 | succ n=>rw [e1] at g1;exact⟨false,n+1,f1 [(6,.N (n+1))] g1,nofun⟩
 | zero=>rw [e1] at g1;exact⟨f.has,0,f2 [(6,.N 0),(11,.r (.bool f.has))] g1 (zWy f),fun _=>⟨rfl,rfl⟩⟩
def Pf.cnt:Pf→Nat
 | .leaf u i=>1
 | .refl t=>1+t.cnt
 | .p1 k a=>1+a.cnt
 | .p2 k a b=>1+a.cnt+b.cnt
 | .impI f a=>1+f.cnt+a.cnt
 | .all u s a=>1+a.cnt
 | .ins u t a=>1+t.cnt+a.cnt
 | .ex u f t a=>1+t.cnt+f.cnt+a.cnt
 | .ind l f t a b=>1+t.cnt+f.cnt+a.cnt+b.cnt
 | .subst f a b=>1+f.cnt+a.cnt+b.cnt
def Pf.mx:Pf→Nat
 | .leaf u i=>0
 | .refl t=>t.mx
 | .p1 k a=>a.mx
 | .p2 k a b=>max a.mx b.mx
 | .impI f a=>max f.mx a.mx
 | .all u s a=>a.mx
 | .ins u t a=>max t.mx a.mx
 | .ex u f t a=>max (max t.mx f.mx) a.mx
 | .ind l f t a b=>max (max (max t.mx f.mx) a.mx) b.mx
 | .subst f a b=>max (max f.mx a.mx) b.mx
def Pf.tsz:Pf→Nat
 | .leaf u i=>0
 | .refl t=>t.tsz
 | .p1 k a=>a.tsz
 | .p2 k a b=>max a.tsz b.tsz
 | .impI f a=>max f.tsz a.tsz
 | .all u s a=>max a.tsz s.size
 | .ins u t a=>max t.tsz a.tsz
 | .ex u f t a=>max (max t.tsz f.tsz) a.tsz
 | .ind l f t a b=>max (max (max t.tsz f.tsz) a.tsz) b.tsz
 | .subst f a b=>max (max f.tsz a.tsz) b.tsz
theorem qIj:∀ p:Pf,A 101 [p.p] p.p
 | .leaf u i=>by
  exact f1 [(16,.r zt)] qX2
 | .refl t=>by
  exact f2 [(16,.r zt),(28,.r t.p)] qX2 (a65 t)
 | .p1 k a=>by
  exact f2 [(16,.r zt),(58,.r a.p)] qX2 (qIj a)
 | .p2 k a b=>by
  exact f3 [(16,.r zt),(58,.r a.p),(58,.r b.p)] qX2 (qIj a) (qIj b)
 | .impI f a=>by
  exact f3 [(16,.r zt),(43,.r f.p),(58,.r a.p)] qX2 (a64 f) (qIj a)
 | .all u s a=>by
  exact f2 [(16,.r s.p),(58,.r a.p)] (qB7 s) (qIj a)
 | .ins u t a=>by
  exact f3 [(16,.r zt),(28,.r t.p),(58,.r a.p)] qX2 (a65 t) (qIj a)
 | .ex u f t a=>by
  exact f4 [(16,.r zt),(28,.r t.p),(43,.r f.p),(58,.r a.p)] qX2 (a65 t) (a64 f) (qIj a)
 | .ind l f t a b=>by
  exact f5 [(16,.r zt),(28,.r t.p),(43,.r f.p),(58,.r a.p),(58,.r b.p)] qX2 (a65 t) (a64 f) (qIj a) (qIj b)
 | .subst f a b=>by
  exact f4 [(16,.r zt),(43,.r f.p),(58,.r a.p),(58,.r b.p)] qX2 (a64 f) (qIj a) (qIj b)
theorem qLv:∀ p:Pf,p.cnt≤big→A 155 [p.p] (num p.cnt)
 | .leaf u i,h=>by
  have h:1≤big:=h
  have hb:=qQh
  exact f0 []
 | .refl t,h=>by
  have h:1+t.cnt≤big:=h
  have hb:=qQh
  have qt:=a87 t (by omega)
  have rt:=qZg (a:=1) (b:=t.cnt) (by omega)
  exact f2 [(19,.N t.cnt),(20,.ok)] qt rt
 | .p1 k a,h=>by
  have h:1+a.cnt≤big:=h
  have hb:=qQh
  have qa:=qLv a (by omega)
  have ra:=qZg (a:=1) (b:=a.cnt) (by omega)
  exact f2 [(43,.N a.cnt),(44,.ok)] qa ra
 | .p2 k a b,h=>by
  have h:1+a.cnt+b.cnt≤big:=h
  have hb:=qQh
  have qa:=qLv a (by omega)
  have ra:=qZg (a:=1) (b:=a.cnt) (by omega)
  have qb:=qLv b (by omega)
  have rb:=qZg (a:=1+a.cnt) (b:=b.cnt) (by omega)
  exact f4 [(43,.N a.cnt),(44,.ok),(43,.N b.cnt),(44,.ok)] qa ra qb rb
 | .impI f a,h=>by
  have h:1+f.cnt+a.cnt≤big:=h
  have hb:=qQh
  have qf:=qIi f (by omega)
  have rf:=qZg (a:=1) (b:=f.cnt) (by omega)
  have qa:=qLv a (by omega)
  have ra:=qZg (a:=1+f.cnt) (b:=a.cnt) (by omega)
  exact f4 [(31,.N f.cnt),(32,.ok),(43,.N a.cnt),(44,.ok)] qf rf qa ra
 | .all u s a,h=>by
  have h:1+a.cnt≤big:=h
  have hb:=qQh
  have qa:=qLv a (by omega)
  have ra:=qZg (a:=1) (b:=a.cnt) (by omega)
  exact f2 [(43,.N a.cnt),(44,.ok)] qa ra
 | .ins u t a,h=>by
  have h:1+t.cnt+a.cnt≤big:=h
  have hb:=qQh
  have qt:=a87 t (by omega)
  have rt:=qZg (a:=1) (b:=t.cnt) (by omega)
  have qa:=qLv a (by omega)
  have ra:=qZg (a:=1+t.cnt) (b:=a.cnt) (by omega)
  exact f4 [(19,.N t.cnt),(20,.ok),(43,.N a.cnt),(44,.ok)] qt rt qa ra
 | .ex u f t a,h=>by
  have h:1+t.cnt+f.cnt+a.cnt≤big:=h
  have hb:=qQh
  have qt:=a87 t (by omega)
  have rt:=qZg (a:=1) (b:=t.cnt) (by omega)
  have qf:=qIi f (by omega)
  have rf:=qZg (a:=1+t.cnt) (b:=f.cnt) (by omega)
  have qa:=qLv a (by omega)
  have ra:=qZg (a:=1+t.cnt+f.cnt) (b:=a.cnt) (by omega)
  exact f6 [(19,.N t.cnt),(20,.ok),(31,.N f.cnt),(32,.ok),(43,.N a.cnt),(44,.ok)] qt rt qf rf qa ra
 | .ind l f t a b,h=>by
  have h:1+t.cnt+f.cnt+a.cnt+b.cnt≤big:=h
  have hb:=qQh
  have qt:=a87 t (by omega)
  have rt:=qZg (a:=1) (b:=t.cnt) (by omega)
  have qf:=qIi f (by omega)
  have rf:=qZg (a:=1+t.cnt) (b:=f.cnt) (by omega)
  have qa:=qLv a (by omega)
  have ra:=qZg (a:=1+t.cnt+f.cnt) (b:=a.cnt) (by omega)
  have qb:=qLv b (by omega)
  have rb:=qZg (a:=1+t.cnt+f.cnt+a.cnt) (b:=b.cnt) (by omega)
  exact f8 [(19,.N t.cnt),(20,.ok),(31,.N f.cnt),(32,.ok),(43,.N a.cnt),(44,.ok),(43,.N b.cnt),(44,.ok)] qt rt qf rf qa ra qb rb
 | .subst f a b,h=>by
  have h:1+f.cnt+a.cnt+b.cnt≤big:=h
  have hb:=qQh
  have qf:=qIi f (by omega)
  have rf:=qZg (a:=1) (b:=f.cnt) (by omega)
  have qa:=qLv a (by omega)
  have ra:=qZg (a:=1+f.cnt) (b:=a.cnt) (by omega)
  have qb:=qLv b (by omega)
  have rb:=qZg (a:=1+f.cnt+a.cnt) (b:=b.cnt) (by omega)
  exact f6 [(31,.N f.cnt),(32,.ok),(43,.N a.cnt),(44,.ok),(43,.N b.cnt),(44,.ok)] qf rf qa ra qb rb
theorem qNz:∀ p:Pf,p.cnt≤big→∃ r,A 154 [p.p] (.bool r)
 | .leaf u i,h=>by
  have h:1≤big:=h
  have hb:=qQh
  exact⟨true,f0 []⟩
 | .refl t,h=>by
  have h:1+t.cnt≤big:=h
  have hb:=qQh
  have qt:=a87 t (by omega)
  cases et:ltI (.ofNat 4096) (.ofNat t.cnt)
  rotate_left
  ·exact⟨false,f2 [(17,.N t.cnt),(18,.G)] qt et⟩
  exact⟨true,f2 [(17,.N t.cnt),(18,.H)] qt et⟩
 | .p1 k a,h=>by
  have h:1+a.cnt≤big:=h
  have hb:=qQh
  obtain⟨ra,qa⟩:=qNz a (by omega)
  cases ra
  ·exact⟨false,f1 [(39,.F)] qa⟩
  exact⟨true,f1 [(39,.T)] qa⟩
 | .p2 k a b,h=>by
  have h:1+a.cnt+b.cnt≤big:=h
  have hb:=qQh
  obtain⟨ra,qa⟩:=qNz a (by omega)
  cases ra
  ·exact⟨false,f1 [(39,.F)] qa⟩
  obtain⟨rb,qb⟩:=qNz b (by omega)
  cases rb
  ·exact⟨false,f2 [(39,.T),(39,.F)] qa qb⟩
  exact⟨true,f2 [(39,.T),(39,.T)] qa qb⟩
 | .impI f a,h=>by
  have h:1+f.cnt+a.cnt≤big:=h
  have hb:=qQh
  have qf:=qIi f (by omega)
  cases ef:ltI (.ofNat 4096) (.ofNat f.cnt)
  rotate_left
  ·exact⟨false,f2 [(28,.N f.cnt),(29,.G)] qf ef⟩
  obtain⟨ra,qa⟩:=qNz a (by omega)
  cases ra
  ·exact⟨false,f3 [(28,.N f.cnt),(29,.H),(39,.F)] qf ef qa⟩
  exact⟨true,f3 [(28,.N f.cnt),(29,.H),(39,.T)] qf ef qa⟩
 | .all u s a,h=>by
  have h:1+a.cnt≤big:=h
  have hb:=qQh
  obtain⟨ra,qa⟩:=qNz a (by omega)
  cases ra
  ·exact⟨false,f1 [(39,.F)] qa⟩
  exact⟨true,f1 [(39,.T)] qa⟩
 | .ins u t a,h=>by
  have h:1+t.cnt+a.cnt≤big:=h
  have hb:=qQh
  have qt:=a87 t (by omega)
  cases et:ltI (.ofNat 4096) (.ofNat t.cnt)
  rotate_left
  ·exact⟨false,f2 [(17,.N t.cnt),(18,.G)] qt et⟩
  obtain⟨ra,qa⟩:=qNz a (by omega)
  cases ra
  ·exact⟨false,f3 [(17,.N t.cnt),(18,.H),(39,.F)] qt et qa⟩
  exact⟨true,f3 [(17,.N t.cnt),(18,.H),(39,.T)] qt et qa⟩
 | .ex u f t a,h=>by
  have h:1+t.cnt+f.cnt+a.cnt≤big:=h
  have hb:=qQh
  have qt:=a87 t (by omega)
  cases et:ltI (.ofNat 4096) (.ofNat t.cnt)
  rotate_left
  ·exact⟨false,f2 [(17,.N t.cnt),(18,.G)] qt et⟩
  have qf:=qIi f (by omega)
  cases ef:ltI (.ofNat 4096) (.ofNat f.cnt)
  rotate_left
  ·exact⟨false,f4 [(17,.N t.cnt),(18,.H),(28,.N f.cnt),(29,.G)] qt et qf ef⟩
  obtain⟨ra,qa⟩:=qNz a (by omega)
  cases ra
  ·exact⟨false,f5 [(17,.N t.cnt),(18,.H),(28,.N f.cnt),(29,.H),(39,.F)] qt et qf ef qa⟩
  exact⟨true,f5 [(17,.N t.cnt),(18,.H),(28,.N f.cnt),(29,.H),(39,.T)] qt et qf ef qa⟩
 | .ind l f t a b,h=>by
  have h:1+t.cnt+f.cnt+a.cnt+b.cnt≤big:=h
  have hb:=qQh
  have qt:=a87 t (by omega)
  cases et:ltI (.ofNat 4096) (.ofNat t.cnt)
  rotate_left
  ·exact⟨false,f2 [(17,.N t.cnt),(18,.G)] qt et⟩
  have qf:=qIi f (by omega)
  cases ef:ltI (.ofNat 4096) (.ofNat f.cnt)
  rotate_left
  ·exact⟨false,f4 [(17,.N t.cnt),(18,.H),(28,.N f.cnt),(29,.G)] qt et qf ef⟩
  obtain⟨ra,qa⟩:=qNz a (by omega)
  cases ra
  ·exact⟨false,f5 [(17,.N t.cnt),(18,.H),(28,.N f.cnt),(29,.H),(39,.F)] qt et qf ef qa⟩
  obtain⟨rb,qb⟩:=qNz b (by omega)
  cases rb
  ·exact⟨false,f6 [(17,.N t.cnt),(18,.H),(28,.N f.cnt),(29,.H),(39,.T),(39,.F)] qt et qf ef qa qb⟩
  exact⟨true,f6 [(17,.N t.cnt),(18,.H),(28,.N f.cnt),(29,.H),(39,.T),(39,.T)] qt et qf ef qa qb⟩
 | .subst f a b,h=>by
  have h:1+f.cnt+a.cnt+b.cnt≤big:=h
  have hb:=qQh
  have qf:=qIi f (by omega)
  cases ef:ltI (.ofNat 4096) (.ofNat f.cnt)
  rotate_left
  ·exact⟨false,f2 [(28,.N f.cnt),(29,.G)] qf ef⟩
  obtain⟨ra,qa⟩:=qNz a (by omega)
  cases ra
  ·exact⟨false,f3 [(28,.N f.cnt),(29,.H),(39,.F)] qf ef qa⟩
  obtain⟨rb,qb⟩:=qNz b (by omega)
  cases rb
  ·exact⟨false,f4 [(28,.N f.cnt),(29,.H),(39,.T),(39,.F)] qf ef qa qb⟩
  exact⟨true,f4 [(28,.N f.cnt),(29,.H),(39,.T),(39,.T)] qf ef qa qb⟩
theorem qN0:∀ p:Pf,p.tsz≤mid→∃ r,A 106 [p.p] (.bool r)
 | .leaf u i,h=>by
  have h:0≤mid:=h
  have hm:=qQc
  have hb:=qQh
  cases u<;>exact⟨true,f1 [(73,.T)] qZa⟩
 | .refl t,h=>by
  have h:t.tsz≤mid:=h
  have hm:=qQc
  have hb:=qQh
  have qt:=a86 t (by omega)
  cases et:t.shp<;>rw [et] at qt
  ·exact⟨false,f2 [(73,.T),(85,.F)] qZa qt⟩
  exact⟨true,f2 [(73,.T),(85,.T)] qZa qt⟩
 | .p1 k a,h=>by
  have h:a.tsz≤mid:=h
  have hm:=qQc
  have hb:=qQh
  obtain⟨ra,qa⟩:=qN0 a (by omega)
  cases ra
  ·cases k<;>exact⟨false,f2 [(73,.T),(107,.F)] qZa qa⟩
  cases k<;>exact⟨true,f2 [(73,.T),(107,.T)] qZa qa⟩
 | .p2 k a b,h=>by
  have h:max a.tsz b.tsz≤mid:=h
  have hm:=qQc
  have hb:=qQh
  obtain⟨ra,qa⟩:=qN0 a (by omega)
  cases ra
  ·cases k<;>exact⟨false,f2 [(73,.T),(107,.F)] qZa qa⟩
  obtain⟨rb,qb⟩:=qN0 b (by omega)
  cases rb
  ·cases k<;>exact⟨false,f3 [(73,.T),(107,.T),(107,.F)] qZa qa qb⟩
  cases k<;>exact⟨true,f3 [(73,.T),(107,.T),(107,.T)] qZa qa qb⟩
 | .impI f a,h=>by
  have h:max f.tsz a.tsz≤mid:=h
  have hm:=qQc
  have hb:=qQh
  have qf:=zZ7 f (by omega)
  cases ef:f.shp<;>rw [ef] at qf
  ·exact⟨false,f2 [(73,.T),(96,.F)] qZa qf⟩
  obtain⟨ra,qa⟩:=qN0 a (by omega)
  cases ra
  ·exact⟨false,f3 [(73,.T),(96,.T),(107,.F)] qZa qf qa⟩
  exact⟨true,f3 [(73,.T),(96,.T),(107,.T)] qZa qf qa⟩
 | .all u s a,h=>by
  have h:max a.tsz s.size≤mid:=h
  have hm:=qQc
  have hb:=qQh
  have qs:=a84 s (by omega)
  rcases qZe s with es|es<;>rw [es] at qs
  rotate_left
  ·cases u<;>exact⟨false,f1 [(63,.N 4)] qs⟩
  obtain⟨ra,qa⟩:=qN0 a (by omega)
  cases ra
  ·cases u<;>exact⟨false,f2 [(63,.N 0),(107,.F)] qs qa⟩
  cases u<;>exact⟨true,f2 [(63,.N 0),(107,.T)] qs qa⟩
 | .ins u t a,h=>by
  have h:max t.tsz a.tsz≤mid:=h
  have hm:=qQc
  have hb:=qQh
  have qt:=a86 t (by omega)
  cases et:t.shp<;>rw [et] at qt
  ·cases u<;>exact⟨false,f2 [(73,.T),(85,.F)] qZa qt⟩
  obtain⟨ra,qa⟩:=qN0 a (by omega)
  cases ra
  ·cases u<;>exact⟨false,f3 [(73,.T),(85,.T),(107,.F)] qZa qt qa⟩
  cases u<;>exact⟨true,f3 [(73,.T),(85,.T),(107,.T)] qZa qt qa⟩
 | .ex u f t a,h=>by
  have h:max (max t.tsz f.tsz) a.tsz≤mid:=h
  have hm:=qQc
  have hb:=qQh
  have qt:=a86 t (by omega)
  cases et:t.shp<;>rw [et] at qt
  ·cases u<;>exact⟨false,f2 [(73,.T),(85,.F)] qZa qt⟩
  have qf:=zZ7 f (by omega)
  cases ef:f.shp<;>rw [ef] at qf
  ·cases u<;>exact⟨false,f3 [(73,.T),(85,.T),(96,.F)] qZa qt qf⟩
  obtain⟨ra,qa⟩:=qN0 a (by omega)
  cases ra
  ·cases u<;>exact⟨false,f4 [(73,.T),(85,.T),(96,.T),(107,.F)] qZa qt qf qa⟩
  cases u<;>exact⟨true,f4 [(73,.T),(85,.T),(96,.T),(107,.T)] qZa qt qf qa⟩
 | .ind l f t a b,h=>by
  have h:max (max (max t.tsz f.tsz) a.tsz) b.tsz≤mid:=h
  have hm:=qQc
  have hb:=qQh
  have qt:=a86 t (by omega)
  cases et:t.shp<;>rw [et] at qt
  ·cases l<;>exact⟨false,f2 [(73,.T),(85,.F)] qZa qt⟩
  have qf:=zZ7 f (by omega)
  cases ef:f.shp<;>rw [ef] at qf
  ·cases l<;>exact⟨false,f3 [(73,.T),(85,.T),(96,.F)] qZa qt qf⟩
  obtain⟨ra,qa⟩:=qN0 a (by omega)
  cases ra
  ·cases l<;>exact⟨false,f4 [(73,.T),(85,.T),(96,.T),(107,.F)] qZa qt qf qa⟩
  obtain⟨rb,qb⟩:=qN0 b (by omega)
  cases rb
  ·cases l<;>exact⟨false,f5 [(73,.T),(85,.T),(96,.T),(107,.T),(107,.F)] qZa qt qf qa qb⟩
  cases l<;>exact⟨true,f5 [(73,.T),(85,.T),(96,.T),(107,.T),(107,.T)] qZa qt qf qa qb⟩
 | .subst f a b,h=>by
  have h:max (max f.tsz a.tsz) b.tsz≤mid:=h
  have hm:=qQc
  have hb:=qQh
  have qf:=zZ7 f (by omega)
  cases ef:f.shp<;>rw [ef] at qf
  ·exact⟨false,f2 [(73,.T),(96,.F)] qZa qf⟩
  obtain⟨ra,qa⟩:=qN0 a (by omega)
  cases ra
  ·exact⟨false,f3 [(73,.T),(96,.T),(107,.F)] qZa qf qa⟩
  obtain⟨rb,qb⟩:=qN0 b (by omega)
  cases rb
  ·exact⟨false,f4 [(73,.T),(96,.T),(107,.T),(107,.F)] qZa qf qa qb⟩
  exact⟨true,f4 [(73,.T),(96,.T),(107,.T),(107,.T)] qZa qf qa qb⟩
abbrev zD5 (l:List Pf):PV:=.slice (l.map Pf.c)
abbrev pn (n:Nat) (ts fs es:List (List PV)):PV:=.agg [num n,num 0,num 0,.slice [],.slice ts,.slice fs,.slice es]
theorem qNl (n:Nat) (a:Pf):A 44 [num n,zD5 [a]] (pn n [] [] [a.c]):=f1 [(19,.r a.p)] (qIj a)
theorem qCk (n:Nat) (a b:Pf):A 44 [num n,zD5 [a,b]] (pn n [] [] [a.c,b.c]):=f2 [(19,.r a.p),(19,.r b.p)] (qIj a) (qIj b)
theorem a45 (f:Fm) (a:Pf):A 45 [f.p,a.p] (Pf.impI f a).p:=f2 [(8,.r (pn 6 [] [] [a.c])),(10,.r f.p)] (qNl 6 a) (a64 f)
theorem a47 (u:Bool) (s:Ty) (a:Pf):A 47 [num (bn u 8 12),s.p,a.p] (Pf.all u s a).p:=f2 [(11,.r (pn (bn u 8 12) [] [] [a.c])),(13,.r s.p)] (qNl (bn u 8 12) a) (qB7 s)
theorem zD6 (n:Nat) (t:Tm) (a:Pf):A 49 [num n,t.p,a.p] (pn n [t.c] [] [a.c]):=f2 [(11,.r (pn n [] [] [a.c])),(13,.r t.p)] (qNl n a) (a65 t)
theorem a49 (u:Bool) (t:Tm) (a:Pf):A 49 [num (bn u 9 13),t.p,a.p] (Pf.ins u t a).p:=zD6 (bn u 9 13) t a
theorem a52 (u:Bool) (f:Fm) (t:Tm) (a:Pf):A 52 [num (bn u 10 14),f.p,t.p,a.p] (Pf.ex u f t a).p:=f2 [(13,.r (pn (bn u 10 14) [t.c] [] [a.c])),(15,.r f.p)] (zD6 (bn u 10 14) t a) (a64 f)
theorem a55 (l:Bool) (f:Fm) (t:Tm) (a b:Pf):A 55 [num (bn l 16 17),f.p,t.p,a.p,b.p] (Pf.ind l f t a b).p:=f3 [(16,.r (pn (bn l 16 17) [] [] [a.c,b.c])),(18,.r t.p),(22,.r f.p)] (qCk (bn l 16 17) a b) (a65 t) (a64 f)
theorem a59 (f:Fm) (a b:Pf):A 59 [f.p,a.p,b.p] (Pf.subst f a b).p:=f2 [(11,.r (pn 19 [] [] [a.c,b.c])),(13,.r f.p)] (qCk 19 a b) (a64 f)
theorem a21 (t:Tm):A 21 [t.p] (Pf.refl t).p:=f1 [(4,.r t.p)] (a65 t)
theorem a56 (i:Nat):A 56 [num i] (Pf.leaf false i).p:=f0 []
open Go.Lg
set_option maxRecDepth 100000
def cgP (g s:Tm) (p:Pf):Pf:=.subst (.eq (.n2 .app (g.sh 0 1) (s.sh 0 1)) (.n2 .app (g.sh 0 1) (.v 0))) p (.refl (.n2 .app g s))
theorem zH2 (g s:Tm) (p:Pf) (h1:g.mx≤mid * mid) (h2:g.cnt≤mid) (h3:s.mx≤mid * mid) (h4:s.cnt≤mid):A 150 [g.p,s.p,p.p] (cgP g s p).p:=by
 have hm:=qQc
 have g1:=qNy g 0 1 (by omega) (by omega) h1 (by omega)
 have g2:=qNy s 0 1 (by omega) (by omega) h3 (by omega)
 exact f9 [(8,.n [(7,.r (g.sh 0 1).p)]),(10,.n [(7,.r (s.sh 0 1).p)]),(12,.r (Tm.n2 .app (g.sh 0 1) (s.sh 0 1)).p),(14,.n [(7,.r (g.sh 0 1).p)]),(17,.r (Tm.n2 .app (g.sh 0 1) (.v 0)).p),(18,.r (Fm.eq (.n2 .app (g.sh 0 1) (s.sh 0 1)) (.n2 .app (g.sh 0 1) (.v 0))).p),(23,.r (Tm.n2 .app g s).p),(24,.r (Pf.refl (.n2 .app g s)).p),(25,.r (cgP g s p).p)]
  g1 g2 (qX3 3 (g.sh 0 1) (s.sh 0 1)) g1 (qX3 3 (g.sh 0 1) (.v 0)) (a43 (.n2 .app (g.sh 0 1) (s.sh 0 1)) (.n2 .app (g.sh 0 1) (.v 0))) (qX3 3 g s) (a21 (.n2 .app g s)) (a59 (.eq (.n2 .app (g.sh 0 1) (s.sh 0 1)) (.n2 .app (g.sh 0 1) (.v 0))) p (.refl (.n2 .app g s)))
def sucT:Tm:=.lam .nat (.n1 .succ (.v 0))
def pl0:Tm:=.n2 .app (.n2 .app plusT (.n0 .zero)) (.v 0)
def stepP:Pf:=cgP sucT pl0 (.leaf false 0)
theorem qRa:A 107 [stepP.p] (.bool true):=by
 have g1:A 154 [(Pf.leaf false 0).p] (.bool true):=f0 []
 have g2:A 154 [(Pf.refl (.n2 .app sucT pl0)).p] (.bool true):=f1 [(17,.N (Tm.n2 .app sucT pl0).cnt)] (a87 (.n2 .app sucT pl0) (by decide))
 let F:Fm:=.eq (.n2 .app (sucT.sh 0 1) (pl0.sh 0 1)) (.n2 .app (sucT.sh 0 1) (.v 0))
 have g3:A 154 [stepP.p] (.bool true):=f3 [(28,.N F.cnt),(39,.T),(39,.T)] (qIi F (by decide)) g1 g2
 exact f2 [(4,.T),(7,.N stepP.cnt)] g3 (qLv stepP (by decide))
theorem qUh:A 151 [row [sucT,pl0,.v 0],.slice [],zD5 [.leaf false 0]] (num 0):=by
 have g1:A 106 [(Pf.leaf false 0).p] (.bool true):=f0 []
 have g2:A 107 [(Pf.leaf false 0).p] (.bool true):=f0 []
 have g3:A 62 [(Pf.leaf false 0).p] (num 0):=f2 [(4,.T),(7,.T)] g1 g2
 exact f4 [(23,.N sucT.chk),(23,.N pl0.chk),(23,.N (Tm.v 0).chk),(47,.N 0)] (a31 sucT (by decide) (by decide)) (a31 pl0 (by decide) (by decide)) (a31 (.v 0) (by decide) (by decide)) g3
theorem zH3:A 104 [sucT.p,pl0.p,(Tm.v 0).p,(Pf.leaf false 0).p] (.tuple [stepP.p,num 0]):=by
 have g1:A 149 [stepP.p,num 0] (.tuple [stepP.p,num 0]):=f2 [(11,.T),(15,.r stepP.p)] qRa (qIj stepP)
 exact f3 [(13,.r stepP.p),(20,.N 0),(21,.U [stepP.p,num 0])] (zH2 sucT pl0 (.leaf false 0) (by decide) (by decide) (by decide) (by decide)) qUh g1
section
variable {f i bs:Nat} {s s':IS} {e:AE}
theorem y1 (tp:Di) (ko:Kp) {H1 N:Prop} (h1:H1) (m:N) (q:(H1∧e=e∧N∧s'=s')=Rd f i bs s tp ko ko e s':=by kernel_rfl):Lp f i bs s e s':=rk tp ko ko ⟨h1,rfl,m,rfl⟩ q
theorem y2 (tp:Di) (ko:Kp) {H1 H2 N:Prop} (h1:H1) (h2:H2) (m:N) (q:(H1∧H2∧e=e∧N∧s'=s')=Rd f i bs s tp ko ko e s':=by kernel_rfl):Lp f i bs s e s':=rk tp ko ko ⟨h1,h2,rfl,m,rfl⟩ q
theorem y5 (tp:Di) (ko:Kp) {H1 H2 H3 H4 H5 N:Prop} (h1:H1) (h2:H2) (h3:H3) (h4:H4) (h5:H5) (m:N) (q:(H1∧H2∧H3∧H4∧H5∧e=e∧N∧s'=s')=Rd f i bs s tp ko ko e s':=by kernel_rfl):Lp f i bs s e s':=rk tp ko ko ⟨h1,h2,h3,h4,h5,rfl,m,rfl⟩ q
end
abbrev fms (l:List Fm):PV:=.slice (l.map Fm.c)
theorem Fm.c_len (f:Fm):f.c.length=5:=rfl
abbrev ckp (ls:List Fm) (g:List Ty) (hs:List Fm):PV:=.agg [fms ls,tys g,fms hs]
def fin (c:Fm→Fm):List (List V)→Nat→List Fm→List (List V)
 | E,_,[]=>E
 | E,n,f::r=>fin c (E.take n++[pvL (c f).c]) (n+1) r
theorem pvE_len (A:List (List PV)):(pvE A).length=A.length:=by
 induction A with
 | nil=>rfl
 | cons a r ih=>show (pvL a::pvE r).length=_;simp [ih]
theorem pvE_app (A B:List (List PV)):pvE (A++B)=pvE A++pvE B:=by
 induction A with
 | nil=>rfl
 | cons a r ih=>show pvL a::pvE (r++B)=pvL a::pvE r++pvE B;rw [ih];rfl
theorem qRb (c:Fm→Fm):∀ (r:List Fm) (A:List (List PV)),fin c (pvE A) A.length r=pvE (A++r.map fun f=>(c f).c)
 | [],A=>by simp [fin]
 | f::r,A=>by
  have h1:(pvE A).take A.length++[pvL (c f).c]=pvE (A++[(c f).c]):=by
   rw [List.take_of_length_le (by rw [pvE_len];exact Nat.le_refl _),pvE_app]
   rfl
  have h2:A.length+1=(A++[(c f).c]).length:=by simp
  simp only [fin]
  rw [h1,h2,qRb c r]
  simp
theorem qBu:∀ l:List PV,qQk (pvL l)=[]
 | []=>rfl
 | c::r=>by show V.names (.pv c)++qQk (pvL r)=[];rw [qBu r];rfl
theorem qWr (E:List (List V)) (n:Nat) (c:List PV) (h:qQp E=[]):qQp (E.take n++[pvL c])=[]:=by
 have h1:∀ (E:List (List V)) (n:Nat),qQp E=[]→qQp (E.take n)=[]:=by
  intro E
  induction E with
  | nil=>intro n _;simp [qQp]
  | cons e r ih =>
   intro n h
   cases n with
   | zero=>rfl
   | succ n =>
    simp only [qQp,List.append_eq_nil_iff] at h
    simp only [List.take_succ_cons,qQp,h.1,ih n h.2,List.append_nil]
 have h2:∀ (E F:List (List V)),qQp (E++F)=qQp E++qQp F:=by
  intro E F
  induction E with
  | nil=>rfl
  | cons e r ih=>simp [qQp,ih]
 rw [h2,h1 E n h]
 simp [qQp,qBu]
theorem qRc {v n m sz ty:Nat} {E ys:List (List V)} (hE:E.length=n) (h0:0<sz) (h1:qY1 sz ys=true) (h2:qJl ys=true) (h3:n+ys.length≤maxLen) (h4:(n+ys.length) * m≤140737488355328) :
  (Nat.beq v v && Nat.ble n E.length && Nat.beq ty ty && Nat.beq sz sz && Nat.blt 0 sz && qY1 sz ys && qJl ys && Nat.ble (n+ys.length) maxLen && Nat.ble ((n+ys.length) * m) 140737488355328)=true:=by
 have h5:Nat.blt 0 sz=true:=by rw [qJ1];simpa using h0
 rw [h1,h2,h5,hE,Nat.ble_eq_true_of_le h3,Nat.ble_eq_true_of_le h4,Nat.ble_eq_true_of_le (Nat.le_refl n)]
 simp
abbrev zWz:Kp:=⟨[1,4,5,23,24,25],[1,2,4],5,[]⟩
abbrev zc3:List PV:=[.nils,.nils,.nils]
abbrev zY6 (l:List Ty) (hs:List Fm) (k:Nat):List (Nat × V):=[(1,.pv (tys l)),(4,.loc 1 0),(5,.loc 2 0),(23,.pv (fms hs)),(24,.pv (num (hs.map Fm.c).length)),(25,.pv (num k))]
abbrev zH4 (ls:PV) (g:PV) (l:List Ty) (hs:List Fm) (k v n:Nat) (E:List (List V)):IS:=st (zY6 l hs k) [(1,bx zc3),(2,.box [.pv ls,.pv g,.arr 4 v n]),(4,.arr v 5 40 E)] 5 []
abbrev zH5 (ls g:PV) (v n:Nat) (E:List (List V)):IS:=st [(4,.loc 1 0),(5,.loc 2 0)] [(1,bx zc3),(2,.box [.pv ls,.pv g,.arr 4 v n]),(4,.arr v 5 40 E)] 5 []
theorem qIk (ls g:PV) (l:List Ty) (hz:l.length≤16) {hs:List Fm} (hl:hs.length≤mid):∀ (r:List Fm) (k v n:Nat) (E:List (List V)),hs.drop k=r→E.length=n→n+r.length≤mid→qQp E=[]→(∀ f∈r,f.mx≤mid * mid∧f.cnt≤mid) →
  ∃ v',Lp 221 0 0 (zH4 ls g l hs k v n E) (.exit 0) (zH5 ls g v' (n+r.length) (fin (Fm.sh 0 (.ofNat (l.map Ty.c).length)) E n r))
 | [],k,v,n,E,h,h1,h2,h3,h4=>by
  have e:ltI (.ofNat k) (.ofNat (hs.map Fm.c).length)=false:=qZv (by simpa using qZp h)
  exact⟨v,y1 [(26,.H)] ⟨[4,5],[1,2,4],5,[]⟩ e h3⟩
 | f::r,k,v,n,E,h,h1,h2,h3,h4=>by
  have hm:=qQc
  obtain⟨d1,d2,d3⟩:=qZo h
  have e:ltI (.ofNat k) (.ofNat (hs.map Fm.c).length)=true:=qQy (by simpa using d2)
  have hb:=h4 f (by simp)
  have h2:n+(r.length+1)≤mid:=by simpa using h2
  have g1:=a53 f 0 (.ofNat (l.map Ty.c).length) (by simp) (by simp;omega) hb.1 (by omega)
  have g2:(Nat.beq v v && Nat.ble n E.length && Nat.beq 40 40 && Nat.beq 5 5 && Nat.blt 0 5 && qY1 5 [pvL (f.sh 0 (.ofNat (l.map Ty.c).length)).c] && qJl [pvL (f.sh 0 (.ofNat (l.map Ty.c).length)).c] && Nat.ble (n+[pvL (f.sh 0 (.ofNat (l.map Ty.c).length)).c].length) maxLen && Nat.ble ((n+[pvL (f.sh 0 (.ofNat (l.map Ty.c).length)).c].length) * 88) 140737488355328)=true :=
   qRc h1 (by decide) rfl rfl (by simp only [maxLen,List.length_singleton];omega) (by simp only [List.length_singleton];omega)
  have g3:=inN (show k+1≤_ by omega)
  have g4:=qWr E n (f.sh 0 (.ofNat (l.map Ty.c).length)).c h3
  obtain⟨v',ih⟩:=qIk ls g l hz hl r (k+1) (v+1) (n+1) (E.take n++[pvL (f.sh 0 (.ofNat (l.map Ty.c).length)).c]) d3 (by simp [h1]) (by omega) g4 (fun f hf=>h4 f (by simp [hf]))
  rw [show n+1+r.length=n+(f::r).length by simp;omega] at ih
  exact⟨v',n7 [(26,.G),(27,.i f.c),(34,.r (f.sh 0 (.ofNat (l.map Ty.c).length)).p),(36,.ok),(38,.ok)] zWz e (qQi d1 Fm.c_len) g1 g2 g3 g4 ih⟩
theorem qGn (g:List Ty):(Nat.beq (g.map Ty.c).length (g.map Ty.c).length && Nat.beq (g.map Ty.c).length (g.map Ty.c).length)=true:=qVw _
theorem zZ9 {α:Type} {c:α→List PV} (n m:Nat) (hn:∀ t,(c t).length=n) (h0:0<n) (g:List α) (s u:α) (h:(g.length+2) * m≤140737488355328) (hg:g.length+2≤maxLen) :
  (qYf n (g.map c) && qYf n [c s,c u] && Nat.blt 0 n && Nat.ble ((g.map c).length+[c s,c u].length) maxLen && Nat.ble (((g.map c).length+[c s,c u].length) * m) 140737488355328)=true:=by
 have h1:qYf n (g.map c)=true:=qX1 fun y hy=>by obtain⟨t,_,rfl⟩:=List.mem_map.1 hy;exact hn t
 have h2:qYf n [c s,c u]=true:=qX1 fun y hy=>by simp at hy;rcases hy with rfl|rfl<;>exact hn _
 have h3:Nat.blt 0 n=true:=by rw [qJ1];simpa using h0
 rw [h1,h2,h3]
 simp only [List.length_map,List.length_cons,List.length_nil,Bool.true_and]
 rw [Nat.ble_eq_true_of_le hg,Nat.ble_eq_true_of_le h]
 rfl
theorem qRd (ls:List Fm) (g:List Ty) (s:Ty) (hs:List Fm) (hg:g.length≤mid-2) (hl:hs.length≤1024) (hh:∀ f∈hs,f.mx≤mid * mid∧f.cnt≤mid):A 221 [ckp ls g hs,tys [s]] (ckp ls (g++[s]) (hs.map (Fm.sh 0 1))):=by
 have hm:=qQc
 have g1:=qGn g
 have g2:=qXl 2 32 Ty.c_len (by decide) g s (by omega) (by simp only [maxLen];omega)
 simp only [ckp,tys,List.map_append,List.map_cons,List.map_nil]
 let g':PV:=.slice (g.map Ty.c++[s.c])
 cases hs with
 | nil =>
  have h1:Lp 221 0 0 (st (zY6 [s] [] 0) [(1,bx zc3),(2,bx [fms ls,g',.nils])] 3 []) (.exit 0) (st [(4,.loc 1 0),(5,.loc 2 0)] [(1,bx zc3),(2,bx [fms ls,g',.nils])] 3 []) :=
   x0 [] ⟨[4,5],[1,2],3,[]⟩
  exact f3 [(18,.ok),(20,.ok),(100003,.l ⟨[1,4,5,23,24,25],[1,2],3,[]⟩ (.exit 0) (st [(4,.loc 1 0),(5,.loc 2 0)] [(1,bx zc3),(2,bx [fms ls,g',.nils])] 3 []))] g1 g2 h1
 | cons f hs =>
  have hl:hs.length+1≤1024:=hl
  have hf:=hh f (by simp)
  let ps:=(f::hs).map fun f=>(f.sh 0 1).c
  obtain⟨v,h1⟩:=qIk (fms ls) g' [s] (by simp) (hs:=f::hs) (by simp;omega) hs 1 1 1 (pvE [(f.sh 0 1).c]) rfl rfl (by omega) (qWr [] 0 _ rfl) (fun f hf=>hh f (by simp [hf]))
  have hE:fin (Fm.sh 0 (.ofNat (([s]:List Ty).map Ty.c).length)) (pvE [(f.sh 0 1).c]) 1 hs=pvE ps:=qRb (Fm.sh 0 1) hs [(f.sh 0 1).c]
  rw [hE] at h1
  have h2:=LoopIs.fz (by simp) h1 4 (ver:=v) (sz:=5) (ty:=40) (ps:=ps) rfl (by kernel_rfl)
  simp (decide:=true) only [fzS,fzO,qY0,qJb,qY8,bx,zc3,List.map,qC3,and_self,↓reduceIte,List.take_of_length_le (show ps.length≤1+hs.length by simp [ps];omega)] at h2
  have e:ltI (.ofNat 0) (.ofNat ((f::hs).map Fm.c).length)=true:=qQy (by simp)
  have h3:Lp 221 0 0 (st (zY6 [s] (f::hs) 0) [(1,bx zc3),(2,bx [fms ls,g',.nils])] 3 []) (.exit 0) (st [(4,.loc 1 0),(5,.loc 2 0)] [(1,bx zc3),(2,bx [fms ls,g',.slice ps])] 5 []) :=
   n6 [(26,.G),(27,.i f.c),(34,.r (f.sh 0 1).p),(38,.ok)] zWz e (qQi (g:=f::hs) (k:=0) rfl Fm.c_len) (a53 f 0 1 (by omega) (by omega) hf.1 (by omega)) (inN (show 0+1≤_ by omega)) (qWr [] 0 (f.sh 0 1).c rfl) h2
  have h4:fms ((f::hs).map (Fm.sh 0 1)) = .slice ps:=by simp [ps,fms,Function.comp_def]
  rw [h4]
  exact f3 [(18,.ok),(20,.ok),(100003,.l ⟨[1,4,5,23,24,25],[1,2],3,[]⟩ (.exit 0) (st [(4,.loc 1 0),(5,.loc 2 0)] [(1,bx zc3),(2,bx [fms ls,g',.slice ps])] 5 []))] g1 g2 h3
theorem zY7 (ls:List Fm) (g:List Ty) (s u:Ty) (hs:List Fm) (hg:g.length≤mid-2) (hl:hs.length≤1024) (hh:∀ f∈hs,f.mx≤mid * mid∧f.cnt≤mid):A 221 [ckp ls g hs,tys [s,u]] (ckp ls (g++[s,u]) (hs.map (Fm.sh 0 2))):=by
 have hm:=qQc
 have g1:=qGn g
 have g2:=zZ9 2 32 Ty.c_len (by decide) g s u (by omega) (by simp only [maxLen];omega)
 simp only [ckp,tys,List.map_append,List.map_cons,List.map_nil]
 let g':PV:=.slice (g.map Ty.c++[s.c,u.c])
 cases hs with
 | nil =>
  have h1:Lp 221 0 0 (st (zY6 [s,u] [] 0) [(1,bx zc3),(2,bx [fms ls,g',.nils])] 3 []) (.exit 0) (st [(4,.loc 1 0),(5,.loc 2 0)] [(1,bx zc3),(2,bx [fms ls,g',.nils])] 3 []) :=
   x0 [] ⟨[4,5],[1,2],3,[]⟩
  exact f3 [(18,.ok),(20,.ok),(100003,.l ⟨[1,4,5,23,24,25],[1,2],3,[]⟩ (.exit 0) (st [(4,.loc 1 0),(5,.loc 2 0)] [(1,bx zc3),(2,bx [fms ls,g',.nils])] 3 []))] g1 g2 h1
 | cons f hs =>
  have hl:hs.length+1≤1024:=hl
  have hf:=hh f (by simp)
  let ps:=(f::hs).map fun f=>(f.sh 0 2).c
  obtain⟨v,h1⟩:=qIk (fms ls) g' [s,u] (by simp) (hs:=f::hs) (by simp;omega) hs 1 1 1 (pvE [(f.sh 0 2).c]) rfl rfl (by omega) (qWr [] 0 _ rfl) (fun f hf=>hh f (by simp [hf]))
  have hE:fin (Fm.sh 0 (.ofNat (([s,u]:List Ty).map Ty.c).length)) (pvE [(f.sh 0 2).c]) 1 hs=pvE ps:=qRb (Fm.sh 0 2) hs [(f.sh 0 2).c]
  rw [hE] at h1
  have h2:=LoopIs.fz (by simp) h1 4 (ver:=v) (sz:=5) (ty:=40) (ps:=ps) rfl (by kernel_rfl)
  simp (decide:=true) only [fzS,fzO,qY0,qJb,qY8,bx,zc3,List.map,qC3,and_self,↓reduceIte,List.take_of_length_le (show ps.length≤1+hs.length by simp [ps];omega)] at h2
  have e:ltI (.ofNat 0) (.ofNat ((f::hs).map Fm.c).length)=true:=qQy (by simp)
  have h3:Lp 221 0 0 (st (zY6 [s,u] (f::hs) 0) [(1,bx zc3),(2,bx [fms ls,g',.nils])] 3 []) (.exit 0) (st [(4,.loc 1 0),(5,.loc 2 0)] [(1,bx zc3),(2,bx [fms ls,g',.slice ps])] 5 []) :=
   n6 [(26,.G),(27,.i f.c),(34,.r (f.sh 0 2).p),(38,.ok)] zWz e (qQi (g:=f::hs) (k:=0) rfl Fm.c_len) (a53 f 0 2 (by omega) (by omega) hf.1 (by omega)) (inN (show 0+1≤_ by omega)) (qWr [] 0 (f.sh 0 2).c rfl) h2
  have h4:fms ((f::hs).map (Fm.sh 0 2)) = .slice ps:=by simp [ps,fms,Function.comp_def]
  rw [h4]
  exact f3 [(18,.ok),(20,.ok),(100003,.l ⟨[1,4,5,23,24,25],[1,2],3,[]⟩ (.exit 0) (st [(4,.loc 1 0),(5,.loc 2 0)] [(1,bx zc3),(2,bx [fms ls,g',.slice ps])] 5 []))] g1 g2 h3
theorem zY8 (ls:List Fm) (g:List Ty) (hs:List Fm) (v h:Nat) (h1:g.length+v≤mid) (h2:hs.length+h≤mid):∃ e,A 157 [ckp ls g hs,num v,num h] (num e)∧(e=0→g.length+v≤16∧hs.length+h≤16):=by
 have hm:=qQc
 have g1:inB (Int.ofNat (g.map Ty.c).length + .ofNat v)=true:=inN (n:=(g.map Ty.c).length+v) (by simp;omega)
 have g2:inB (Int.ofNat (hs.map Fm.c).length + .ofNat h)=true:=inN (n:=(hs.map Fm.c).length+h) (by simp;omega)
 by_cases c1:g.length+v≤16
 ·have e1:ltI (.ofNat 16) (.ofNat ((g.map Ty.c).length+v))=false:=qZv (by simpa using c1)
  by_cases c2:hs.length+h≤16
  ·have e2:ltI (.ofNat 16) (.ofNat ((hs.map Fm.c).length+h))=false:=qZv (by simpa using c2)
   exact⟨0,f4 [(11,.ok),(12,.H),(18,.ok),(19,.H)] g1 e1 g2 e2,fun _=>⟨c1,c2⟩⟩
  ·have e2:ltI (.ofNat 16) (.ofNat ((hs.map Fm.c).length+h))=true:=qQy (by simpa using c2)
   exact⟨3,f4 [(11,.ok),(12,.H),(18,.ok),(19,.G)] g1 e1 g2 e2,nofun⟩
 ·have e1:ltI (.ofNat 16) (.ofNat ((g.map Ty.c).length+v))=true:=qQy (by simpa using c1)
  exact⟨3,f2 [(11,.ok),(12,.G)] g1 e1,nofun⟩
theorem zCn (ls:List Fm) (g:List Ty) (hs:List Fm) (f:Fm) (h:hs.length+1≤mid):A 158 [ckp ls g hs,f.p] (ckp ls g (hs++[f])):=by
 have hm:=qQc
 have g1:=qVw (hs.map Fm.c).length
 have g2:=qXl 5 88 Fm.c_len (by decide) hs f (by omega) (by simp only [maxLen];omega)
 simp only [ckp,fms,List.map_append,List.map_cons,List.map_nil]
 exact f2 [(13,.ok),(16,.ok)] g1 g2
open Go.Lg
set_option maxRecDepth 100000
abbrev ic (n:Nat):List PV:=[num n]
abbrev qQl (l:List Nat):PV:=.slice (l.map ic)
theorem qVx (n:Nat):(ic n).length=1:=rfl
theorem qZy (A:List (List PV)) (c:List PV):pvE (A++[c])=(pvE A).take A.length++[pvL c]:=by
 rw [List.take_of_length_le (by rw [pvE_len];exact Nat.le_refl _),pvE_app]
 rfl
theorem qQn (A:List (List PV)):qQp (pvE A)=[]:=by
 induction A with
 | nil=>rfl
 | cons a r ih=>show qQk (pvL a)++qQp (pvE r)=[];rw [qBu,ih];rfl
theorem qQq (A:List (List PV)) (c:List PV):qQp ((pvE A).take A.length++[pvL c])=[]:=by rw [← qZy];exact qQn _
def qJd (n:Nat):List Nat→List Nat
 | []=>[]
 | x::r=>if n≤x then (x-n)::qJd n r else qJd n r
theorem qKd {n v:Nat} : ∀ {l:List Nat},v+n∈l→v∈qJd n l
 | [],h=>by cases h
 | x::r,h=>by
  simp only [qJd]
  rcases List.mem_cons.1 h with h|h
  ·subst h
   rw [if_pos (by omega)]
   simp
  ·split
   ·exact List.mem_cons_of_mem _ (qKd h)
   ·exact qKd h
theorem qBv {n M:Nat} : ∀ {l:List Nat},(∀ x∈l,x≤M)→∀ x∈qJd n l,x≤M
 | [],_,x,h=>by cases h
 | y::r,hl,x,h=>by
  simp only [qJd] at h
  have h1:=hl y (by simp)
  split at h
  ·rcases List.mem_cons.1 h with rfl|h
   ·omega
   ·exact qBv (fun z hz=>hl z (by simp [hz])) x h
  ·exact qBv (fun z hz=>hl z (by simp [hz])) x h
theorem qXm (n:Nat):∀ (l:List Nat),(qJd n l).length≤l.length
 | []=>Nat.le_refl _
 | x::r=>by
  have:=qXm n r
  simp only [qJd]
  split<;>simp<;>omega
abbrev zW0 (n:Nat) (l:List Nat) (k:Nat) (x:V):List (Nat × V):=[(1,.pv (num n)),(5,x),(8,.pv (qQl l)),(9,.pv (num (l.map ic).length)),(10,.pv (num k))]
abbrev zW1:Kp:=⟨[1,5,8,9,10],[0],1,[]⟩
theorem qEr (n:Nat) {l:List Nat} (hl:l.length≤mid) (hb:∀ x∈l,x≤big):∀ (r:List Nat) (k v:Nat) (A:List (List PV)),l.drop k=r→A.length+r.length≤mid →
  ∃ v',Lp 222 0 0 (st (zW0 n l k (.arr 0 v A.length)) [(0,.arr v 1 3 (pvE A))] 1 []) (.exit 0) (st [(5,.arr 0 v' (A.length+(qJd n r).length))] [(0,.arr v' 1 3 (pvE (A++(qJd n r).map ic)))] 1 [])
 | [],k,v,A,h,h1=>by
  have e:ltI (.ofNat k) (.ofNat (l.map ic).length)=false:=qZv (by simpa using qZp h)
  simp only [qJd,List.map_nil,List.append_nil,List.length_nil,Nat.add_zero]
  exact⟨v,y1 [(11,.H)] ⟨[5],[0],1,[]⟩ e (qQn A)⟩
 | x::r,k,v,A,h,h1=>by
  have hm:=qQc
  have hbb:=qQh
  obtain⟨d1,d2,d3⟩:=qZo h
  have e:ltI (.ofNat k) (.ofNat (l.map ic).length)=true:=qQy (by simpa using d2)
  have hx:=hb x (List.mem_of_getElem? d1)
  have h1:A.length+(r.length+1)≤mid:=by simpa using h1
  have g3:=inN (show k+1≤_ by omega)
  by_cases c:n≤x
  ·have e2:(!ltI (.ofNat x) (.ofNat n))=true:=qP7 c
   have g4:inB (Int.ofNat x - .ofNat n)=true∧Int.ofNat x - .ofNat n = .ofNat (x-n):=by
    have e:Int.ofNat x - .ofNat n = .ofNat (x-n):=by simp;omega
    exact⟨by rw [e];exact inb (by omega),e⟩
   have g5:(Nat.beq v v && Nat.ble A.length (pvE A).length && Nat.beq 3 3 && Nat.beq 1 1 && Nat.blt 0 1 && qY1 1 [pvL (ic (x-n))] && qJl [pvL (ic (x-n))] && Nat.ble (A.length+[pvL (ic (x-n))].length) maxLen && Nat.ble ((A.length+[pvL (ic (x-n))].length) * 8) 140737488355328)=true :=
    qRc (pvE_len A) (by decide) rfl rfl (by simp only [maxLen,List.length_singleton];omega) (by simp only [List.length_singleton];omega)
   obtain⟨v',ih⟩:=qEr n hl hb r (k+1) (v+1) (A++[ic (x-n)]) d3 (by simp;omega)
   have e3:qJd n (x::r)=(x-n)::qJd n r:=by simp only [qJd,if_pos c]
   rw [e3]
   rw [qZy,show (A++[ic (x-n)]).length=A.length+1 by simp,show A.length+1+(qJd n r).length=A.length+((x-n)::qJd n r).length by simp;omega,List.append_assoc] at ih
   exact⟨v',n8 [(11,.G),(12,.i (ic x)),(16,.G),(20,.z (x-n)),(22,.ok),(23,.ok)] zW1 e (qQi d1 qVx) e2 g4 g5 g3 (qQq A (ic (x-n))) ih⟩
  ·have e2:(!ltI (.ofNat x) (.ofNat n))=false:=qNk (by omega)
   obtain⟨v',ih⟩:=qEr n hl hb r (k+1) v A d3 (by omega)
   have e3:qJd n (x::r)=qJd n r:=by simp only [qJd,if_neg c]
   rw [e3]
   exact⟨v',n6 [(11,.G),(12,.i (ic x)),(16,.H),(23,.ok)] zW1 e (qQi d1 qVx) e2 g3 (qQn A) ih⟩
theorem qLw (n:Nat) {l:List Nat} (hl:l.length≤mid) (hb:∀ x∈l,x≤big):∀ (r:List Nat) (k:Nat),l.drop k=r →
  (qJd n r=[]∧Lp 222 0 0 (st (zW0 n l k (.pv .nils)) [] 0 []) (.exit 0) (st [(5,.pv .nils)] [] 0 [])) ∨ ∃ v',Lp 222 0 0 (st (zW0 n l k (.pv .nils)) [] 0 []) (.exit 0) (st [(5,.arr 0 v' (qJd n r).length)] [(0,.arr v' 1 3 (pvE ((qJd n r).map ic)))] 1 [])
 | [],k,h=>by
  have e:ltI (.ofNat k) (.ofNat (l.map ic).length)=false:=qZv (by simpa using qZp h)
  exact .inl ⟨rfl,x1 [(11,.H)] ⟨[5],[],0,[]⟩ e⟩
 | x::r,k,h=>by
  have hm:=qQc
  have hbb:=qQh
  obtain⟨d1,d2,d3⟩:=qZo h
  have e:ltI (.ofNat k) (.ofNat (l.map ic).length)=true:=qQy (by simpa using d2)
  have hx:=hb x (List.mem_of_getElem? d1)
  have g3:=inN (show k+1≤_ by omega)
  by_cases c:n≤x
  ·have e2:(!ltI (.ofNat x) (.ofNat n))=true:=qP7 c
   have g4:inB (Int.ofNat x - .ofNat n)=true∧Int.ofNat x - .ofNat n = .ofNat (x-n):=by
    have e:Int.ofNat x - .ofNat n = .ofNat (x-n):=by simp;omega
    exact⟨by rw [e];exact inb (by omega),e⟩
   have hr:r.length≤l.length:=by rw [← d3];simp
   have hr2:r.length+1≤l.length:=by
    have:=congrArg List.length h
    simp at this
    omega
   obtain⟨v',ih⟩:=qEr n hl hb r (k+1) 1 [ic (x-n)] d3 (by simp;omega)
   have e3:qJd n (x::r)=(x-n)::qJd n r:=by simp only [qJd,if_pos c]
   rw [e3]
   rw [show [ic (x-n)].length+(qJd n r).length=((x-n)::qJd n r).length by simp;omega] at ih
   exact .inr ⟨v',n7 [(11,.G),(12,.i (ic x)),(16,.G),(20,.z (x-n)),(23,.ok)] zW1 e (qQi d1 qVx) e2 g4 g3 (qQn [ic (x-n)]) ih⟩
  ·have e2:(!ltI (.ofNat x) (.ofNat n))=false:=qNk (by omega)
   have e3:qJd n (x::r)=qJd n r:=by simp only [qJd,if_neg c]
   rw [e3]
   rcases qLw n hl hb r (k+1) d3 with ⟨h4,ih⟩|⟨v',ih⟩
   ·exact .inl ⟨h4,n5 [(11,.G),(12,.i (ic x)),(16,.H),(23,.ok)] ⟨[1,5,8,9,10],[],0,[]⟩ e (qQi d1 qVx) e2 g3 ih⟩
   ·exact .inr ⟨v',n5 [(11,.G),(12,.i (ic x)),(16,.H),(23,.ok)] ⟨[1,5,8,9,10],[],0,[]⟩ e (qQi d1 qVx) e2 g3 ih⟩
theorem zCo (n:Nat) (l:List Nat) (hl:l.length≤mid) (hb:∀ x∈l,x≤big):A 222 [qQl l,num n] (qQl (qJd n l)):=by
 rcases qLw n hl hb l 0 rfl with ⟨h1,h2⟩|⟨v,h2⟩
 ·rw [h1]
  exact f1 [(100003,.l ⟨[1,5,8,9,10],[],0,[]⟩ (.exit 0) (st [(5,.pv .nils)] [] 0 []))] h2
 ·have h3:=LoopIs.fz (by simp) h2 0 (ver:=v) (sz:=1) (ty:=3) (ps:=(qJd n l).map ic) rfl (by kernel_rfl)
  simp (decide:=true) only [fzS,fzO,qY0,qJb,qY8,List.map,qC3,and_self,↓reduceIte,List.take_of_length_le (show ((qJd n l).map ic).length≤(qJd n l).length by simp)] at h3
  exact f1 [(100003,.l ⟨[1,5,8,9,10],[],0,[]⟩ (.exit 0) (st [(5,.pv (qQl (qJd n l)))] [] 1 []))] h3
theorem zGi (l:List Nat):∃ r,A 223 [qQl l] (.bool r):=by
 cases l with
 | nil=>exact⟨false,f0 []⟩
 | cons x r =>
  have e:ltI (.ofNat 0) (.ofNat ((x::r).map ic).length)=true:=qQy (by simp)
  have g:=qQi (c:=ic) (g:=x::r) (k:=0) rfl qVx
  by_cases c:x=0
  ·subst c;exact⟨true,f3 [(5,.G),(8,.i (ic 0)),(10,.G)] e g (qUb 0)⟩
  ·exact⟨false,f3 [(5,.G),(8,.i (ic x)),(10,.H)] e g (qNh c)⟩
inductive Sh where
 | eq
 | bin (k:FB) (a b:Sh)
 | q (k:FQ) (a:Sh)
def Fm.sp:Fm→Sh
 | .eq _ _ => .eq
 | .bin k f g => .bin k f.sp g.sp
 | .q k _ f => .q k f.sp
def Sh.has:Sh→Bool
 | .eq=>false
 | .bin k f g=>match k with
  | .and=>f.has || g.has
  | .imp=>g.has
 | .q k f=>match k with
  | .ex=>true
  | _=>f.has
theorem qKl:∀ f:Fm,f.sp.has=f.has
 | .eq _ _=>rfl
 | .bin k f g=>by cases k<;>simp only [Fm.sp,Sh.has,Fm.has,qKl f,qKl g]
 | .q k _ f=>by cases k<;>simp only [Fm.sp,Sh.has,Fm.has,qKl f]
theorem qXn (z:Int):∀ (f:Fm) (c:Nat),(f.sh c z).sp=f.sp
 | .eq _ _,c=>rfl
 | .bin k f g,c=>by simp only [Fm.sh,Fm.sp,qXn z f,qXn z g]
 | .q k s f,c=>by simp only [Fm.sh,Fm.sp,qXn z f]
theorem qJ9 (c:Nat) (s:Tm):∀ (f:Fm) (d:Nat),(f.put c s d).sp=f.sp
 | .eq _ _,d=>rfl
 | .bin k f g,d=>by simp only [Fm.put,Fm.sp,qJ9 c s f,qJ9 c s g]
 | .q k u f,d=>by simp only [Fm.put,Fm.sp,qJ9 c s f]
def aq:Bool→FQ
 | false => .all
 | true => .allU
def shp (ls:List Sh):List Sh→Pf→Option Sh
 | hs,.leaf u i=>match u with
  | false=>if i<hs.length then hs[hs.length-1-i]? else none
  | true=>ls[i]?
 | _,.refl _=>some .eq
 | hs,.p1 k a=>match k,shp ls hs a with
  | .andL,some (.bin .and x _)=>some x
  | .andR,some (.bin .and _ y)=>some y
  | .choice,some (.q .all (.q .ex x))=>some (.q .ex (.q .all x))
  | _,_=>none
 | hs,.p2 k a b=>match k,shp ls hs a with
  | .andI,some x=>(shp ls hs b).map fun y => .bin .and x y
  | .impE,some (.bin .imp _ y)=>some y
  | .exE,some (.q _ x)=>shp ls (hs++[x]) b
  | .exUE,some (.q _ x)=>shp ls (hs++[x]) b
  | _,_=>none
 | hs,.impI f a=>(shp ls (hs++[f.sp]) a).map fun y => .bin .imp f.sp y
 | hs,.all u _ a=>(shp ls hs a).map fun y => .q (aq u) y
 | hs,.ins _ _ a=>match shp ls hs a with
  | some (.q _ x)=>some x
  | _=>none
 | _,.ex _ f _ _=>some f.sp
 | _,.ind _ f _ _ _=>some f.sp
 | _,.subst f _ _=>some f.sp
def zJa:Option Sh→Bool
 | some s=>s.has
 | none=>false
def us (ls:List Sh):List Sh→Pf→Nat→Prop
 | hs,.leaf _ _,_=>False
 | _,.refl _,_=>False
 | hs,.p1 k a,v=>zJa (shp ls hs (.p1 k a))=true∧us ls hs a v
 | hs,.p2 k a b,v=>zJa (shp ls hs (.p2 k a b))=true∧(us ls hs a v∨match k,shp ls hs a with
  | .andI,_=>us ls hs b v
  | .impE,_=>us ls hs b v
  | _,some (.q _ x)=>us ls (hs++[x]) b (v+1)
  | _,_=>False)
 | hs,.impI f a,v=>zJa (shp ls hs (.impI f a))=true∧us ls (hs++[f.sp]) a v
 | hs,.all u s a,v=>zJa (shp ls hs (.all u s a))=true∧us ls hs a (v+1)
 | hs,.ins u t a,v=>zJa (shp ls hs (.ins u t a))=true∧(us ls hs a v∨u=false∧t.occ v≠0)
 | hs,.ex u f t a,v=>f.sp.has=true∧(us ls hs a v∨u=false∧t.occ v≠0)
 | hs,.ind l f t a b,v=>f.sp.has=true∧(t.occ v≠0∨us ls hs a v∨us ls (hs++[f.sp]) b (v+match l with|false=>1|true=>2))
 | hs,.subst f a b,v=>f.sp.has=true∧us ls hs b v
inductive PR where
 | er (n:Nat)
 | ok (f:Fm) (u:List Nat)
def PR.k:PR→Nat
 | .er _=>0
 | .ok f _=>f.kd
def PR.tk:PR→Nat
 | .er _=>0
 | .ok f _=>f.tk
def PR.te:PR→List (List PV)
 | .er _=>[]
 | .ok f _=>f.te
def PR.ts:PR→List (List PV)
 | .er _=>[]
 | .ok f _=>f.ts
def PR.es:PR→List (List PV)
 | .er _=>[]
 | .ok f _=>f.es
def PR.u:PR→List Nat
 | .er _=>[]
 | .ok _ u=>u
def PR.e:PR→Nat
 | .er n=>n+1
 | .ok _ _=>0
def PR.p (r:PR):PV:=.tuple [.agg [num r.k,num r.tk,.slice r.te,.slice r.ts,.slice r.es,qQl r.u],num r.e]
def FO (M:Nat) (f:Fm):Prop:=f.cnt≤4096∧f.mx≤M∧f.tsz≤mid
abbrev qQf:Nat:=8388608
structure Pre (ls:List Fm) (g:List Ty) (hs:List Fm) (M:Nat) (p:Pf):Prop where
 l1:∀ f∈ls,FO M f
 h1:∀ f∈hs,FO M f
 g1:∀ s∈g,s.size≤mid
 gl:g.length≤1024
 hl:hs.length≤1000
 ll:ls.length≤1024
 cnt:p.cnt≤65536
 tsz:p.tsz≤mid
 mx:p.mx≤M
 mb:M+qQf * p.cnt≤cmx
def PR.Good (ls hs:List Fm) (M:Nat) (p:Pf):PR→Prop
 | .er _=>True
 | .ok f u=>FO (M+qQf * p.cnt) f∧shp (ls.map Fm.sp) (hs.map Fm.sp) p=some f.sp∧(∀ v,us (ls.map Fm.sp) (hs.map Fm.sp) p v→v∈u)∧(∀ x∈u,x≤M+qQf * p.cnt)∧u.length≤p.cnt
def Inf (p:Pf):Prop:=∀ ls g hs M,Pre ls g hs M p→∃ r:PR,A 63 [ckp ls g hs,p.p] r.p∧r.Good ls hs M p
structure MF:Prop where
 uses:∀ t:Tm,t.cnt≤mid→t.tsz≤mid→t.mx≤mid * mid→∃ (u:List Nat) (e:Nat),A 13 [t.p] (.tuple [qQl u,num e])∧(t.chk=0→e=0 ∧ ∀ v,t.occ v≠0→v∈u)∧(∀ x∈u,x≤t.mx)∧u.length≤t.cnt
 union:∀ a b:List Nat,a.length+b.length≤mid→(∀ x∈a,x≤big)→(∀ x∈b,x≤big)→∃ u:List Nat,A 156 [qQl a,qQl b] (qQl u)∧(∀ v,v∈a∨v∈b→v∈u)∧(∀ v∈u,v∈a∨v∈b)∧u.length≤a.length+b.length
theorem zCp (H:MF) (t:Tm) (h1:t.cnt≤mid) (h2:t.tsz≤mid) (h3:t.mx≤mid * mid):∃ u:List Nat,A 225 [t.p] (qQl u)∧(t.chk=0→∀ v,t.occ v≠0→v∈u)∧(∀ x∈u,x≤t.mx)∧u.length≤t.cnt:=by
 obtain⟨u,e,g1,g2,g3,g4⟩:=H.uses t h1 h2 h3
 exact⟨u,f1 [(7,.U [qQl u,num e])] g1,fun h=>(g2 h).2,g3,g4⟩
theorem zXm (f:Fm) (s:Tm) (h1:f.cnt≤mid) (h2:f.mx≤mid * mid) (h3:f.tsz≤mid) (h4:s.cnt≤mid) (h5:s.mx≤mid * mid) (h6:s.tsz≤mid):∃ r:FR,A 226 [f.p,s.p] r.p∧((∃ n,r = .er n)∨r = .ok (f.put 0 s 0)∧(f.put 0 s 0).cnt≤4096):=by
 obtain⟨r,g1,g2⟩:=zH1 f s h1 h2 h3 h4 h5 h6
 exact⟨r,f1 [(8,.r r.p)] g1,g2⟩
def FR.Nrm (f:Fm):FR→Prop
 | .er _=>True
 | .ok f'=>f'.sp=f.sp∧f'.mx≤f.mx+1001 * 4096∧f'.tsz≤f.tsz∧f'.cnt≤4096 * f.cnt
theorem zCq:∀ f:Fm,f.cnt≤big→f.mx≤cmx→f.tsz≤mid→∃ r:FR,A 229 [f.p] r.p∧r.Nrm f
 | .eq a b,h1,h2,h3=>by
  have hm:=qQc
  have ca:=qB8 a
  have cb:=qB8 b
  simp only [Fm.cnt,Fm.mx,Fm.tsz] at h1 h2 h3
  obtain⟨r,g1,q1⟩:=zCf a (by omega) (by simp only [cmx,hm] at *;omega) (by omega)
  obtain⟨s,g2,q2⟩:=zCf b (by omega) (by simp only [cmx,hm] at *;omega) (by omega)
  cases r with
  | er e=>exact⟨.er e,f1 [(28,.r (NF.er e).p)] g1,trivial⟩
  | ok x n=>cases s with
   | er e=>exact⟨.er e,f2 [(28,.r (NF.ok x n).p),(28,.r (NF.er e).p)] g1 g2,trivial⟩
   | ok y m =>
    obtain⟨c1,c2,c3⟩:=q1
    obtain⟨d1,d2,d3⟩:=q2
    exact⟨.ok (.eq x y),f2 [(28,.r (NF.ok x n).p),(28,.r (NF.ok y m).p)] g1 g2,rfl,by simp only [Fm.mx];omega,by simp only [Fm.tsz];omega,by simp only [Fm.cnt];omega⟩
 | .bin k f g,h1,h2,h3=>by
  simp only [Fm.cnt,Fm.mx,Fm.tsz] at h1 h2 h3
  obtain⟨r,g1,q1⟩:=zCq f (by omega) (by omega) (by omega)
  obtain⟨s,g2,q2⟩:=zCq g (by omega) (by omega) (by omega)
  cases r with
  | er e=>exact⟨.er e,f1 [(52,.r (FR.er e).p)] g1,trivial⟩
  | ok x=>cases s with
   | er e=>exact⟨.er e,f2 [(52,.r (FR.ok x).p),(52,.r (FR.er e).p)] g1 g2,trivial⟩
   | ok y =>
    obtain⟨c0,c1,c2,c3⟩:=q1
    obtain⟨d0,d1,d2,d3⟩:=q2
    exact⟨.ok (.bin k x y),f2 [(52,.r (FR.ok x).p),(52,.r (FR.ok y).p)] g1 g2,by simp only [Fm.sp,c0,d0],by simp only [Fm.mx];omega,by simp only [Fm.tsz];omega,by simp only [Fm.cnt];omega⟩
 | .q k s f,h1,h2,h3=>by
  simp only [Fm.cnt,Fm.mx,Fm.tsz] at h1 h2 h3
  obtain⟨r,g1,q1⟩:=zCq f (by omega) (by omega) (by omega)
  cases r with
  | er e=>exact⟨.er e,f1 [(52,.r (FR.er e).p)] g1,trivial⟩
  | ok x =>
   obtain⟨c0,c1,c2,c3⟩:=q1
   exact⟨.ok (.q k s x),f1 [(52,.r (FR.ok x).p)] g1,by simp only [Fm.sp,c0],by simp only [Fm.mx];omega,by simp only [Fm.tsz];omega,by simp only [Fm.cnt];omega⟩
theorem zD7 (ls:List Fm) (g:List Ty) (hs:List Fm) (t:Tm) (n:Nat) (hg:∀ s∈g,s.size≤mid) (h1:t.tsz≤mid) (h2:g.length+t.cnt≤mid):∃ e,A 166 [ckp ls g hs,t.p,num n] (num e)∧(e=0→t.chk=0):=by
 obtain⟨r,g1,g2,g3⟩:=zD4 g t hg h1 h2
 cases r with
 | er e=>exact⟨e+1,f1 [(13,.r (TR.er e).p)] g1,nofun⟩
 | ok s =>
  by_cases c:s.kd=n
  ·exact⟨0,f2 [(13,.r (TR.ok s).p),(22,.H)] g1 (qJc c),fun _=>g3 s rfl⟩
  ·exact⟨7,f2 [(13,.r (TR.ok s).p),(22,.G)] g1 (qX4 c),nofun⟩
open Go.Lg
set_option maxRecDepth 100000
structure RR where
 k:Nat
 tk:Nat
 te:List (List PV)
 ts:List (List PV)
 es:List (List PV)
 u:List Nat
 e:Nat
def RR.row (c:RR):List PV:=[num c.k,num c.tk,.slice c.te,.slice c.ts,.slice c.es]
def RR.p (c:RR):PV:=.tuple [.agg c.row,qQl c.u,num c.e]
def RR.of (f:Fm) (u:List Nat) (e:Nat):RR:=⟨f.kd,f.tk,f.te,f.ts,f.es,u,e⟩
abbrev RR.er (n:Nat):RR:=⟨0,0,[],[],[],[],n+1⟩
structure RG (ls hs:List Fm) (M:Nat) (p:Pf) (f:Fm) (u:List Nat):Prop where
 cnt:f.cnt≤mid
 mx:f.mx≤M+qQf * p.cnt
 tsz:f.tsz≤mid
 shp:shp (ls.map Fm.sp) (hs.map Fm.sp) p=some f.sp
 us:∀ v,us (ls.map Fm.sp) (hs.map Fm.sp) p v→v∈u
 le:∀ x∈u,x≤M+qQf * p.cnt
 len:u.length≤p.cnt
def RR.Good (ls hs:List Fm) (M:Nat) (p:Pf) (c:RR):Prop:=c.e=0→∃ f:Fm,c = .of f c.u 0∧RG ls hs M p f c.u
def Rul (F:Nat) (p:Pf):Prop:=∀ ls g hs M,Pre ls g hs M p→∃ c:RR,A F [ckp ls g hs,p.p] c.p∧c.Good ls hs M p
theorem RR.good_er {ls hs:List Fm} {M:Nat} {p:Pf} {c:RR} (h:c.e≠0):c.Good ls hs M p:=fun e=>absurd e h
theorem zY9 {ls hs:List Sh} {p:Pf} {v:Nat} (h:us ls hs p v):zJa (Go.Proofs.YtmcockinhpiomaaGreatDoor.shp ls hs p)=true:=by
 cases p<;>simp only [Go.Proofs.YtmcockinhpiomaaGreatDoor.us] at h<;>first|exact h.1|exact h.elim
theorem qKm {p:Pf} (H:Rul 108 p):Inf p:=by
 intro ls g hs M hp
 have hm:=qQc
 have hb:=qQh
 obtain⟨c,g1,g2⟩:=H ls g hs M hp
 obtain⟨k,tk,te,ts,es,u,e⟩:=c
 cases e with
 | succ n=>exact⟨.er n,f1 [(14,.r (RR.p ⟨k,tk,te,ts,es,u,n+1⟩))] g1,trivial⟩
 | zero =>
  obtain⟨f,hf,R⟩:=g2 rfl
  cases hf
  have g3:=a75 f R.tsz (by have:=R.cnt;omega)
  cases e1:f.chk with
  | succ n=>rw [e1] at g3;exact⟨.er 3,f2 [(14,.r (RR.of f u 0).p),(23,.N (n+1))] g1 g3,trivial⟩
  | zero =>
   rw [e1] at g3
   obtain⟨b,e',g4,g5⟩:=a85 f R.tsz (by have:=R.cnt;omega)
   obtain⟨rfl,rfl⟩:=g5 e1
   have hF:FO (M+qQf * p.cnt) f:=⟨(Fm.chk0 e1).1,R.mx,R.tsz⟩
   cases e2:f.has
   ·rw [e2] at g4
    refine⟨.ok f [],f3 [(14,.r (RR.of f u 0).p),(23,.N 0),(28,.U [.bool false,num 0])] g1 g3 g4,hF,R.shp,fun v hv => ?_,(fun x hx=>by cases hx),Nat.zero_le _⟩
    have:=zY9 hv
    rw [R.shp,zJa,qKl,e2] at this
    cases this
   ·rw [e2] at g4
    exact⟨.ok f u,f3 [(14,.r (RR.of f u 0).p),(23,.N 0),(28,.U [.bool true,num 0])] g1 g3 g4,hF,R.shp,R.us,R.le,R.len⟩
theorem zXn {p:Pf} (H:Inf p) (ls:List Fm) (g:List Ty) (hs:List Fm) (M:Nat) (hp:Pre ls g hs M p) (f:Fm) (t:Tm) (h1:f.cnt≤mid) (h2:f.mx≤mid * mid) (h3:f.tsz≤mid) (h4:t.cnt≤mid) (h5:t.mx≤mid * mid) (h6:t.tsz≤mid) (h7:max f.mx (t.mx+f.cnt)≤cmx) :
  ∃ (u:List Nat) (e:Nat),A 227 [ckp ls g hs,p.p,f.p,t.p] (.tuple [qQl u,num e])∧(e=0→∃ f',PR.Good ls hs M p (.ok f' u))∧(∀ x∈u,x≤M+qQf * p.cnt)∧u.length≤p.cnt:=by
 have hm:=qQc
 have hb:=qQh
 obtain⟨r,g1,g2⟩:=H ls g hs M hp
 cases r with
 | er n=>exact⟨[],n+1,f1 [(16,.r (PR.er n).p)] g1,(nofun),(fun x hx=>by cases hx),Nat.zero_le _⟩
 | ok f' u =>
  obtain⟨r,g3,g4⟩:=zXm f t h1 h2 h3 h4 h5 h6
  rcases g4 with ⟨n,rfl⟩|⟨rfl,g5⟩
  ·exact⟨[],n+1,f2 [(16,.r (PR.ok f' u).p),(25,.r (FR.er n).p)] g1 g3,(nofun),(fun x hx=>by cases hx),Nat.zero_le _⟩
  ·have hF:=g2.1
   have hmx:=qV9 0 t f 0
   have hts:=qJp 0 t f 0
   obtain⟨e,g6⟩:=zGh (f.put 0 t 0) f' (by omega) (by omega) (by omega) (by have:=hF.1;omega) (by have:=hF.2.1;have:=hp.mb;omega) hF.2.2
   exact⟨u,e,f3 [(16,.r (PR.ok f' u).p),(25,.r (FR.ok (f.put 0 t 0)).p),(36,.N e)] g1 g3 g6,(fun _=>⟨f',g2⟩),g2.2.2.2.1,g2.2.2.2.2⟩
theorem Pre.to {ls:List Fm} {g g':List Ty} {hs hs':List Fm} {M M':Nat} {p a:Pf} (h:Pre ls g hs M p) (hM:M≤M') (h1:∀ f∈hs',FO M' f) (g1:∀ s∈g',s.size≤mid) (gl:g'.length≤1024) (hl:hs'.length≤1000) (hc:a.cnt≤p.cnt) (ht:a.tsz≤p.tsz) (hx:a.mx≤p.mx) (hb:M'+qQf * a.cnt≤cmx):Pre ls g' hs' M' a :=
 ⟨fun f hf=>⟨(h.l1 f hf).1,Nat.le_trans (h.l1 f hf).2.1 hM,(h.l1 f hf).2.2⟩,h1,g1,gl,hl,h.ll,Nat.le_trans hc h.cnt,Nat.le_trans ht h.tsz,Nat.le_trans hx (Nat.le_trans h.mx hM),hb⟩
theorem Pre.sub {ls:List Fm} {g:List Ty} {hs:List Fm} {M:Nat} {p a:Pf} (h:Pre ls g hs M p) (hc:a.cnt≤p.cnt) (ht:a.tsz≤p.tsz) (hx:a.mx≤p.mx):Pre ls g hs M a :=
 h.to (Nat.le_refl _) h.h1 h.g1 h.gl h.hl hc ht hx (Nat.le_trans (Nat.add_le_add_left (Nat.mul_le_mul_left _ hc) M) h.mb)
theorem FO.up {M M':Nat} {f:Fm} (h:FO M f) (hM:M≤M'):FO M' f:=⟨h.1,Nat.le_trans h.2.1 hM,h.2.2⟩
theorem FO.sh {M:Nat} {f:Fm} (h:FO M f) (n:Nat):FO (M+n) (f.sh 0 (.ofNat n)):=by
 have h1:(f.sh 0 (.ofNat n)).mx≤f.mx+n:=qJ8 (.ofNat n) f 0
 refine⟨by rw [qQt];exact h.1,?_,by rw [qQv];exact h.2.2⟩
 have:=h.2.1
 omega
theorem qLx (hs:List Fm) (z:Int):(hs.map (Fm.sh 0 z)).map Fm.sp=hs.map Fm.sp:=by
 simp only [List.map_map]
 exact List.map_congr_left fun f _=>qXn z f 0
theorem FO.hyp {M:Nat} {f:Fm} (h:FO M f) (hM:M≤cmx):f.mx≤mid * mid∧f.cnt≤mid:=by
 have hm:=qQc
 have:=h.1
 have:=h.2.1
 simp only [cmx] at hM
 omega
theorem qAi {hs:List Fm} {M:Nat} (h:∀ f∈hs,FO M f) (n:Nat):∀ f∈hs.map (Fm.sh 0 (.ofNat n)),FO (M+n) f:=by
 intro f hf
 obtain⟨f',h1,rfl⟩:=List.mem_map.1 hf
 exact (h f' h1).sh n
theorem zH6 (u:Bool) (s:Ty) {a:Pf} (H:Inf a):Rul 160 (.all u s a):=by
 intro ls g hs M hp
 have hm:=qQc
 have hk:qQf=8388608:=rfl
 have hgl:=hp.gl
 have hhl:=hp.hl
 have hmb:=hp.mb
 have htz:max a.tsz s.size≤mid:=hp.tsz
 have hcn:1+a.cnt≤65536:=hp.cnt
 have hK:qQf * (1+a.cnt)=qQf+qQf * a.cnt:=by rw [Nat.mul_add,Nat.mul_one]
 have hmb':M+qQf * (1+a.cnt)≤cmx:=hmb
 rw [hK] at hmb'
 obtain⟨e,g1,g2⟩:=zY8 ls g hs 1 0 (by omega) (by omega)
 cases e with
 | succ n=>cases u<;>exact⟨.er n,f1 [(11,.N (n+1))] g1,RR.good_er (Nat.succ_ne_zero n)⟩
 | zero =>
  have g3:=qRd ls g s hs (by omega) (by omega) (fun f hf=>(hp.h1 f hf).hyp (by omega))
  have hpa:Pre ls (g++[s]) (hs.map (Fm.sh 0 1)) (M+1) a:=hp.to (by omega) (qAi hp.h1 1) (by intro x hx;rcases List.mem_append.1 hx with h|h;exact hp.g1 x h;simp at h;subst h;omega) (by simp;omega) (by simpa using hp.hl) (by show a.cnt≤1+a.cnt;omega) (by show a.tsz≤max a.tsz s.size;omega) (Nat.le_refl _) (by omega)
  obtain⟨r,g4,g5⟩:=H _ _ _ _ hpa
  cases r with
  | er n=>cases u<;>exact⟨.er n,f3 [(11,.N 0),(21,.r (ckp ls (g++[s]) (hs.map (Fm.sh 0 1)))),(26,.r (PR.er n).p)] g1 g3 g4,RR.good_er (Nat.succ_ne_zero n)⟩
  | ok f w =>
   obtain⟨q1,q2,q3,q4,q5⟩:=g5
   rw [qLx] at q2 q3
   have hw:∀ x∈w,x≤big:=fun x hx=>by have:=q4 x hx;have:=qQh;simp only [cmx,hm] at hmb';omega
   have g6:=zCo 1 w (by omega) hw
   have hg:∀ k:FQ,aq u=k→RG ls hs M (.all u s a) (.q k s f) (qJd 1 w):=by
    intro k hk
    refine⟨?_,?_,?_,?_,?_,?_,?_⟩
    ·have:=q1.1;simp only [Fm.cnt];omega
    ·have:=q1.2.1;show f.mx≤M+qQf * (1+a.cnt);rw [hK];omega
    ·have:=q1.2.2;simp only [Fm.tsz];omega
    ·simp only [shp,q2,Option.map_some,Fm.sp,hk]
    ·intro v hv;exact qKd (q3 _ hv.2)
    ·intro x hx
     have h1:∀ {l:List Nat},x∈qJd 1 l→∃ y∈l,x+1=y:=by
      intro l
      induction l with
      | nil=>intro h;cases h
      | cons y r ih =>
       intro h
       simp only [qJd] at h
       split at h
       ·rcases List.mem_cons.1 h with rfl|h
        ·exact⟨y,by simp,by omega⟩
        ·obtain⟨z,h1,h2⟩:=ih h;exact⟨z,by simp [h1],h2⟩
       ·obtain⟨z,h1,h2⟩:=ih h;exact⟨z,by simp [h1],h2⟩
     obtain⟨y,hy,hxy⟩:=h1 hx
     have:=q4 y hy
     show x≤M+qQf * (1+a.cnt)
     rw [hK]
     omega
    ·have:=qXm 1 w;show (qJd 1 w).length≤1+a.cnt;omega
   cases u
   ·exact⟨.of (.q .all s f) (qJd 1 w) 0,f5 [(11,.N 0),(21,.r (ckp ls (g++[s]) (hs.map (Fm.sh 0 1)))),(26,.r (PR.ok f w).p),(40,.r (Fm.q .all s f).p),(43,.r (qQl (qJd 1 w)))] g1 g3 g4 (a40 .all s f) g6,fun _=>⟨_,rfl,hg _ rfl⟩⟩
   ·obtain⟨b,g7⟩:=zGi w
    cases b
    ·exact⟨.of (.q .allU s f) (qJd 1 w) 0,f6 [(11,.N 0),(21,.r (ckp ls (g++[s]) (hs.map (Fm.sh 0 1)))),(26,.r (PR.ok f w).p),(46,.F),(52,.r (Fm.q .allU s f).p),(55,.r (qQl (qJd 1 w)))] g1 g3 g4 g7 (a40 .allU s f) g6,fun _=>⟨_,rfl,hg _ rfl⟩⟩
    ·exact⟨.er 11,f4 [(11,.N 0),(21,.r (ckp ls (g++[s]) (hs.map (Fm.sh 0 1)))),(26,.r (PR.ok f w).p),(46,.T)] g1 g3 g4 g7,RR.good_er (Nat.succ_ne_zero 11)⟩
open Go.Lg
set_option maxRecDepth 100000
theorem zH7 (H:MF) (u:Bool) (t:Tm) {a:Pf} (Ha:Inf a):Rul 161 (.ins u t a):=by
 intro ls g hs M hp
 have hm:=qQc
 have hb:=qQh
 have hk:qQf=8388608:=rfl
 have hcx:cmx=mid * mid-1001 * 4096:=rfl
 have hgl:=hp.gl
 have hmb:M+qQf * (1+t.cnt+a.cnt)≤cmx:=hp.mb
 have htz:max t.tsz a.tsz≤mid:=hp.tsz
 have hmx:max t.mx a.mx≤M:=hp.mx
 have hcn:1+t.cnt+a.cnt≤65536:=hp.cnt
 have hK:qQf * (1+t.cnt+a.cnt)=qQf+qQf * t.cnt+qQf * a.cnt:=by rw [Nat.mul_add,Nat.mul_add,Nat.mul_one]
 rw [hK] at hmb
 rw [hm] at hcx
 have hM2:t.mx≤mid * mid:=by rw [hm];omega
 obtain⟨r,g1,_,q0⟩:=zD4 g t hp.g1 (by omega) (by omega)
 cases r with
 | er n=>cases u<;>exact⟨.er n,f1 [(22,.r (TR.er n).p)] g1,RR.good_er (Nat.succ_ne_zero n)⟩
 | ok s =>
  have hchk:=q0 s rfl
  have hpa:Pre ls g hs M a:=hp.sub (by show a.cnt≤1+t.cnt+a.cnt;omega) (by show a.tsz≤max t.tsz a.tsz;omega) (by show a.mx≤max t.mx a.mx;omega)
  obtain⟨r,g2,q1⟩:=Ha _ _ _ _ hpa
  cases r with
  | er n=>cases u<;>exact⟨.er n,f2 [(22,.r (TR.ok s).p),(35,.r (PR.er n).p)] g1 g2,RR.good_er (Nat.succ_ne_zero n)⟩
  | ok f w =>
   obtain⟨q1,q2,q3,q4,q5⟩:=q1
   obtain⟨w',g3,p1,p2,p3⟩:=zCp H t (by omega) (by omega) hM2
   obtain⟨w2,g4,p4,p5,p6⟩:=H.union w w' (by omega) (fun x hx=>by have:=q4 x hx;omega) (fun x hx=>by have:=p2 x hx;omega)
   have bad:∀ n:Nat,f.kd≠bn u 4 6→∃ c:RR,A 161 [ckp ls g hs,(Pf.ins u t a).p] c.p∧c.Good ls hs M (.ins u t a):=by
    intro _ hne
    cases u<;>exact⟨.er 9,f5 [(22,.r (TR.ok s).p),(35,.r (PR.ok f w).p),(45,.r (qQl w')),(46,.r (qQl w2)),(56,.G)] g1 g2 g3 g4 (qX4 hne),RR.good_er (Nat.succ_ne_zero 9)⟩
   have good:∀ (k:FQ) (y:Ty) (x:Fm),f = .q k y x→k.n=bn u 4 6→∃ c:RR,A 161 [ckp ls g hs,(Pf.ins u t a).p] c.p∧c.Good ls hs M (.ins u t a):=by
    intro k y x hf hkn
    subst hf
    have hxc:1+x.cnt≤4096:=q1.1
    have hxm:x.mx≤M+qQf * a.cnt:=q1.2.1
    have hxt:max y.size x.tsz≤mid:=q1.2.2
    have g5:=a80 y s
    cases e1:y.same s<;>rw [e1] at g5
    ·cases u<;>exact⟨.er 6,f6 [(22,.r (TR.ok s).p),(35,.r (PR.ok (.q k y x) w).p),(45,.r (qQl w')),(46,.r (qQl w2)),(56,.H),(62,.F)] g1 g2 g3 g4 (qJc hkn) g5,RR.good_er (Nat.succ_ne_zero 6)⟩
    obtain⟨r,g6,p7⟩:=zXm x t (by omega) (by rw [hm];omega) (by omega) (by omega) hM2 (by omega)
    rcases p7 with ⟨n,rfl⟩|⟨rfl,p8⟩
    ·cases u
     ·exact⟨⟨0,0,[],[],[],w2,n+1⟩,f7 [(22,.r (TR.ok s).p),(35,.r (PR.ok (.q k y x) w).p),(45,.r (qQl w')),(46,.r (qQl w2)),(56,.H),(62,.T),(72,.r (FR.er n).p)] g1 g2 g3 g4 (qJc hkn) g5 g6,RR.good_er (Nat.succ_ne_zero n)⟩
     ·exact⟨⟨0,0,[],[],[],w,n+1⟩,f7 [(22,.r (TR.ok s).p),(35,.r (PR.ok (.q k y x) w).p),(45,.r (qQl w')),(46,.r (qQl w2)),(56,.H),(62,.T),(72,.r (FR.er n).p)] g1 g2 g3 g4 (qJc hkn) g5 g6,RR.good_er (Nat.succ_ne_zero n)⟩
    ·have hsp:shp (ls.map Fm.sp) (hs.map Fm.sp) (.ins u t a)=some (x.put 0 t 0).sp:=by simp only [shp,q2,Fm.sp,qJ9]
     have h1:=qV9 0 t x 0
     have h2:=qJp 0 t x 0
     have h3:(x.put 0 t 0).mx≤M+qQf * (1+t.cnt+a.cnt):=by rw [hK];omega
     cases u
     ·refine⟨.of (x.put 0 t 0) w2 0,f7 [(22,.r (TR.ok s).p),(35,.r (PR.ok (.q k y x) w).p),(45,.r (qQl w')),(46,.r (qQl w2)),(56,.H),(62,.T),(72,.r (FR.ok (x.put 0 t 0)).p)] g1 g2 g3 g4 (qJc hkn) g5 g6,fun _=>⟨_,rfl,⟨by show (x.put 0 t 0).cnt≤mid;omega,h3,by show (x.put 0 t 0).tsz≤mid;omega,hsp,fun v hv => ?_,fun z hz => ?_,by show w2.length≤1+t.cnt+a.cnt;omega⟩⟩⟩
      ·rcases hv.2 with h|⟨_,h⟩
       ·exact p4 v (.inl (q3 v h))
       ·exact p4 v (.inr (p1 hchk v h))
      ·rcases p5 z hz with h|h
       ·have:=q4 z h;show z≤M+qQf * (1+t.cnt+a.cnt);rw [hK];omega
       ·have:=p2 z h;omega
     ·refine⟨.of (x.put 0 t 0) w 0,f7 [(22,.r (TR.ok s).p),(35,.r (PR.ok (.q k y x) w).p),(45,.r (qQl w')),(46,.r (qQl w2)),(56,.H),(62,.T),(72,.r (FR.ok (x.put 0 t 0)).p)] g1 g2 g3 g4 (qJc hkn) g5 g6,fun _=>⟨_,rfl,⟨by show (x.put 0 t 0).cnt≤mid;omega,h3,by show (x.put 0 t 0).tsz≤mid;omega,hsp,fun v hv => ?_,(fun z hz=>by have:=q4 z hz;show z≤M+qQf * (1+t.cnt+a.cnt);rw [hK];omega),by show w.length≤1+t.cnt+a.cnt;omega⟩⟩⟩
      rcases hv.2 with h|⟨h,_⟩
      ·exact q3 v h
      ·cases h
   cases f with
   | eq x y=>exact bad 0 (by cases u<;>exact nofun)
   | bin k x y=>exact bad 0 (by cases u<;>cases k<;>exact nofun)
   | q k y x =>
    by_cases h:k.n=bn u 4 6
    ·exact good k y x rfl h
    ·exact bad 0 h
theorem zH8 (H:MF) (u:Bool) (f:Fm) (t:Tm) {a:Pf} (Ha:Inf a):Rul 162 (.ex u f t a):=by
 intro ls g hs M hp
 have hm:=qQc
 have hb:=qQh
 have hk:qQf=8388608:=rfl
 have hcx:cmx=mid * mid-1001 * 4096:=rfl
 have hgl:=hp.gl
 have hmb:M+qQf * (1+t.cnt+f.cnt+a.cnt)≤cmx:=hp.mb
 have htz:max (max t.tsz f.tsz) a.tsz≤mid:=hp.tsz
 have hmx:max (max t.mx f.mx) a.mx≤M:=hp.mx
 have hcn:1+t.cnt+f.cnt+a.cnt≤65536:=hp.cnt
 have hK:qQf * (1+t.cnt+f.cnt+a.cnt)=qQf+qQf * t.cnt+qQf * f.cnt+qQf * a.cnt:=by rw [Nat.mul_add,Nat.mul_add,Nat.mul_add,Nat.mul_one]
 rw [hK] at hmb
 rw [hm] at hcx
 have hM2:t.mx≤mid * mid:=by rw [hm];omega
 obtain⟨e,g1,q0⟩:=zCl g f hp.g1 (by omega) (by omega)
 cases e with
 | succ n=>cases u<;>exact⟨.er n,f1 [(25,.N (n+1))] g1,RR.good_er (Nat.succ_ne_zero n)⟩
 | zero =>
  have hfc:=Fm.chk0 (q0 rfl)
  have bad:f.kd≠bn u 5 7→∃ c:RR,A 162 [ckp ls g hs,(Pf.ex u f t a).p] c.p∧c.Good ls hs M (.ex u f t a):=by
   intro hne
   cases u<;>exact⟨.er 9,f2 [(25,.N 0),(36,.G)] g1 (qX4 hne),RR.good_er (Nat.succ_ne_zero 9)⟩
  have good:∀ (k:FQ) (y:Ty) (x:Fm),f = .q k y x→k.n=bn u 5 7→∃ c:RR,A 162 [ckp ls g hs,(Pf.ex u f t a).p] c.p∧c.Good ls hs M (.ex u f t a):=by
   intro k y x hf hkn
   subst hf
   have hxc:1+x.cnt≤4096:=hfc.1
   have hxm:x.mx≤M:=by have:(Fm.q k y x).mx=x.mx:=rfl;omega
   have hxt:x.tsz≤mid:=by have:(Fm.q k y x).tsz=max y.size x.tsz:=rfl;omega
   obtain⟨r,g2,_,q1⟩:=zD4 g t hp.g1 (by omega) (by omega)
   cases r with
   | er n=>cases u<;>exact⟨.er n,f3 [(25,.N 0),(36,.H),(42,.r (TR.er n).p)] g1 (qJc hkn) g2,RR.good_er (Nat.succ_ne_zero n)⟩
   | ok s =>
    have hchk:=q1 s rfl
    have g3:=a80 y s
    cases e1:y.same s<;>rw [e1] at g3
    ·cases u<;>exact⟨.er 6,f4 [(25,.N 0),(36,.H),(42,.r (TR.ok s).p),(52,.F)] g1 (qJc hkn) g2 g3,RR.good_er (Nat.succ_ne_zero 6)⟩
    have hpa:Pre ls g hs M a:=hp.sub (by show a.cnt≤1+t.cnt+(Fm.q k y x).cnt+a.cnt;omega) (by show a.tsz≤max (max t.tsz (Fm.q k y x).tsz) a.tsz;omega) (by show a.mx≤max (max t.mx (Fm.q k y x).mx) a.mx;omega)
    obtain⟨w,e,g4,q2,b1,b2⟩:=zXn Ha ls g hs M hpa x t (by omega) (by rw [hm];omega) hxt (by omega) hM2 (by omega) (by omega)
    obtain⟨w',g5,p1,p2,p3⟩:=zCp H t (by omega) (by omega) hM2
    cases u
    ·by_cases he:e=0
     ·subst he
      obtain⟨f',q3,q4,q5,q6,q7⟩:=q2 rfl
      obtain⟨w2,g6,p4,p5,p6⟩:=H.union w w' (by omega) (fun z hz=>by have:=q6 z hz;omega) (fun z hz=>by have:=p2 z hz;omega)
      refine⟨.of (.q k y x) w2 0,f7 [(25,.N 0),(36,.H),(42,.r (TR.ok s).p),(52,.T),(66,.U [qQl w,num 0]),(73,.r (qQl w')),(74,.r (qQl w2))] g1 (qJc hkn) g2 g3 g4 g5 g6,fun _=>⟨_,rfl,⟨by show 1+x.cnt≤mid;omega,by show (Fm.q k y x).mx≤M+_;omega,by show (Fm.q k y x).tsz≤mid;omega,rfl,fun v hv => ?_,fun z hz => ?_,by show w2.length≤1+t.cnt+(Fm.q k y x).cnt+a.cnt;omega⟩⟩⟩
      ·rcases hv.2 with h|⟨_,h⟩
       ·exact p4 v (.inl (q5 v h))
       ·exact p4 v (.inr (p1 hchk v h))
      ·rcases p5 z hz with h|h
       ·have:=q6 z h;show z≤M+qQf * (1+t.cnt+(Fm.q k y x).cnt+a.cnt);rw [hK];omega
       ·have:=p2 z h;omega
     ·obtain⟨n,rfl⟩:=Nat.exists_eq_succ_of_ne_zero he
      obtain⟨w2,g6,_⟩:=H.union w w' (by omega) (fun z hz=>by have:=b1 z hz;omega) (fun z hz=>by have:=p2 z hz;omega)
      exact⟨.of (.q k y x) w2 (n+1),f7 [(25,.N 0),(36,.H),(42,.r (TR.ok s).p),(52,.T),(66,.U [qQl w,num (n+1)]),(73,.r (qQl w')),(74,.r (qQl w2))] g1 (qJc hkn) g2 g3 g4 g5 g6,RR.good_er (Nat.succ_ne_zero n)⟩
    ·by_cases he:e=0
     ·subst he
      obtain⟨f',q3,q4,q5,q6,q7⟩:=q2 rfl
      refine⟨.of (.q k y x) w 0,f5 [(25,.N 0),(36,.H),(42,.r (TR.ok s).p),(52,.T),(66,.U [qQl w,num 0])] g1 (qJc hkn) g2 g3 g4,fun _=>⟨_,rfl,⟨by show 1+x.cnt≤mid;omega,by show (Fm.q k y x).mx≤M+_;omega,by show (Fm.q k y x).tsz≤mid;omega,rfl,fun v hv => ?_,(fun z hz=>by have:=q6 z hz;show z≤M+qQf * (1+t.cnt+(Fm.q k y x).cnt+a.cnt);rw [hK];omega),by show w.length≤1+t.cnt+(Fm.q k y x).cnt+a.cnt;omega⟩⟩⟩
      rcases hv.2 with h|⟨h,_⟩
      ·exact q5 v h
      ·cases h
     ·obtain⟨n,rfl⟩:=Nat.exists_eq_succ_of_ne_zero he
      exact⟨.of (.q k y x) w (n+1),f5 [(25,.N 0),(36,.H),(42,.r (TR.ok s).p),(52,.T),(66,.U [qQl w,num (n+1)])] g1 (qJc hkn) g2 g3 g4,RR.good_er (Nat.succ_ne_zero n)⟩
  cases f with
  | eq x y=>exact bad (by cases u<;>exact nofun)
  | bin k x y=>exact bad (by cases u<;>cases k<;>exact nofun)
  | q k y x =>
   by_cases h:k.n=bn u 5 7
   ·exact good k y x rfl h
   ·exact bad h
open Go.Lg
set_option maxRecDepth 100000
theorem qEs (g:List Ty) (s:Ty):tys (g++[s]) = .slice (g.map Ty.c++[s.c]):=by simp [tys]
theorem qAj {g:List Ty} {s:Ty} (hg:∀ s∈g,s.size≤mid) (hs:s.size≤mid):∀ x∈g++[s],x.size≤mid:=by
 intro x hx
 rcases List.mem_append.1 hx with h|h
 ·exact hg x h
 ·simp at h;subst h;exact hs
theorem zH9 (f:Fm) {a b:Pf} (Ha:Inf a) (Hb:Inf b):Rul 167 (.subst f a b):=by
 intro ls g hs M hp
 have hm:=qQc
 have hb:=qQh
 have hk:qQf=8388608:=rfl
 have hcx:cmx=mid * mid-1001 * 4096:=rfl
 have hgl:=hp.gl
 have hmb:M+qQf * (1+f.cnt+a.cnt+b.cnt)≤cmx:=hp.mb
 have htz:max (max f.tsz a.tsz) b.tsz≤mid:=hp.tsz
 have hmx:max (max f.mx a.mx) b.mx≤M:=hp.mx
 have hcn:1+f.cnt+a.cnt+b.cnt≤65536:=hp.cnt
 have hK:qQf * (1+f.cnt+a.cnt+b.cnt)=qQf+qQf * f.cnt+qQf * a.cnt+qQf * b.cnt:=by rw [Nat.mul_add,Nat.mul_add,Nat.mul_add,Nat.mul_one]
 rw [hK] at hmb
 rw [hm] at hcx
 have c1:=qGn g
 have c2:=qXl 2 32 Ty.c_len (by decide) g .nat (by omega) (by simp only [maxLen];omega)
 obtain⟨e,g1,q0⟩:=zCk (g++[.nat]) f (qAj hp.g1 (by decide)) (by omega) (by simp;omega)
 rw [qEs] at g1
 cases e with
 | succ n=>exact⟨.er n,f3 [(25,.ok),(28,.ok),(30,.N (n+1))] c1 c2 g1,RR.good_er (Nat.succ_ne_zero n)⟩
 | zero =>
  have hfc:=Fm.chk0 (q0 rfl)
  have hpa:Pre ls g hs M a:=hp.sub (by show a.cnt≤1+f.cnt+a.cnt+b.cnt;omega) (by show a.tsz≤max (max f.tsz a.tsz) b.tsz;omega) (by show a.mx≤max (max f.mx a.mx) b.mx;omega)
  have hpb:Pre ls g hs M b:=hp.sub (by show b.cnt≤1+f.cnt+a.cnt+b.cnt;omega) (by show b.tsz≤max (max f.tsz a.tsz) b.tsz;omega) (by show b.mx≤max (max f.mx a.mx) b.mx;omega)
  obtain⟨r,g2,q1⟩:=Ha _ _ _ _ hpa
  cases r with
  | er n=>exact⟨.er n,f4 [(25,.ok),(28,.ok),(30,.N 0),(41,.r (PR.er n).p)] c1 c2 g1 g2,RR.good_er (Nat.succ_ne_zero n)⟩
  | ok fa w =>
   obtain⟨q1,_,_,_,_⟩:=q1
   cases fa with
   | bin k x y=>exact⟨.er 9,f5 [(25,.ok),(28,.ok),(30,.N 0),(41,.r (PR.ok (.bin k x y) w).p),(51,.G)] c1 c2 g1 g2 (show (!eqI (.ofNat (Fm.bin k x y).kd) (.ofNat 1))=true from qX4 (by cases k<;>exact nofun)),RR.good_er (Nat.succ_ne_zero 9)⟩
   | q k s x=>exact⟨.er 9,f5 [(25,.ok),(28,.ok),(30,.N 0),(41,.r (PR.ok (.q k s x) w).p),(51,.G)] c1 c2 g1 g2 (show (!eqI (.ofNat (Fm.q k s x).kd) (.ofNat 1))=true from qX4 (by cases k<;>exact nofun)),RR.good_er (Nat.succ_ne_zero 9)⟩
   | eq x y =>
    have e1:1+x.cnt+y.cnt≤4096:=q1.1
    have e2:max x.mx y.mx≤M+qQf * a.cnt:=q1.2.1
    have e3:max x.tsz y.tsz≤mid:=q1.2.2
    have hfx:f.mx≤M:=by omega
    obtain⟨w2,e,g3,q2,b1,b2⟩:=zXn Hb ls g hs M hpb f x (by omega) (by rw [hm];omega) (by omega) (by omega) (by rw [hm];omega) (by omega) (by omega)
    by_cases he:e=0
    ·subst he
     obtain⟨f',q3,q4,q5,q6,q7⟩:=q2 rfl
     obtain⟨r,g4,q8⟩:=zXm f y (by omega) (by rw [hm];omega) (by omega) (by omega) (by rw [hm];omega) (by omega)
     rcases q8 with ⟨n,rfl⟩|⟨rfl,q9⟩
     ·exact⟨⟨0,0,[],[],[],w2,n+1⟩,f6 [(25,.ok),(28,.ok),(30,.N 0),(41,.r (PR.ok (.eq x y) w).p),(65,.U [qQl w2,num 0]),(79,.r (FR.er n).p)] c1 c2 g1 g2 g3 g4,RR.good_er (Nat.succ_ne_zero n)⟩
     ·have h1:=qV9 0 y f 0
      have h2:=qJp 0 y f 0
      exact⟨.of (f.put 0 y 0) w2 0,f6 [(25,.ok),(28,.ok),(30,.N 0),(41,.r (PR.ok (.eq x y) w).p),(65,.U [qQl w2,num 0]),(79,.r (FR.ok (f.put 0 y 0)).p)] c1 c2 g1 g2 g3 g4,fun _=>⟨_,rfl,⟨by show (f.put 0 y 0).cnt≤mid;omega,by show (f.put 0 y 0).mx≤M+qQf * (1+f.cnt+a.cnt+b.cnt);rw [hK];omega,by show (f.put 0 y 0).tsz≤mid;omega,by simp only [shp,qJ9],fun v hv=>q5 v hv.2,(fun z hz=>by have:=q6 z hz;show z≤M+qQf * (1+f.cnt+a.cnt+b.cnt);rw [hK];omega),by show w2.length≤1+f.cnt+a.cnt+b.cnt;omega⟩⟩⟩
    ·obtain⟨n,rfl⟩:=Nat.exists_eq_succ_of_ne_zero he
     exact⟨.er n,f5 [(25,.ok),(28,.ok),(30,.N 0),(41,.r (PR.ok (.eq x y) w).p),(65,.U [qQl w2,num (n+1)])] c1 c2 g1 g2 g3,RR.good_er (Nat.succ_ne_zero n)⟩
def ek:Bool→P2
 | false => .exE
 | true => .exUE
theorem zGj (H:MF) (u:Bool) {a b:Pf} (Ha:Inf a) (Hb:Inf b):Rul 163 (.p2 (ek u) a b):=by
 intro ls g hs M hp
 have hm:=qQc
 have hb:=qQh
 have hk:qQf=8388608:=rfl
 have hcx:cmx=mid * mid-1001 * 4096:=rfl
 have hgl:=hp.gl
 have hhl:=hp.hl
 have hmb:M+qQf * (1+a.cnt+b.cnt)≤cmx:=hp.mb
 have htz:max a.tsz b.tsz≤mid:=hp.tsz
 have hmx:max a.mx b.mx≤M:=hp.mx
 have hcn:1+a.cnt+b.cnt≤65536:=hp.cnt
 have hK:qQf * (1+a.cnt+b.cnt)=qQf+qQf * a.cnt+qQf * b.cnt:=by rw [Nat.mul_add,Nat.mul_add,Nat.mul_one]
 rw [hK] at hmb
 rw [hm] at hcx
 have hpa:Pre ls g hs M a:=hp.sub (by show a.cnt≤1+a.cnt+b.cnt;omega) (by show a.tsz≤max a.tsz b.tsz;omega) (by show a.mx≤max a.mx b.mx;omega)
 obtain⟨r,g2,q1⟩:=Ha _ _ _ _ hpa
 cases r with
 | er n=>cases u<;>exact⟨.er n,f1 [(19,.r (PR.er n).p)] g2,RR.good_er (Nat.succ_ne_zero n)⟩
 | ok fa w =>
 obtain⟨q1,p1,p2,p3,p4⟩:=q1
 have bad:fa.kd≠bn u 5 7→∃ c:RR,A 163 [ckp ls g hs,(Pf.p2 (ek u) a b).p] c.p∧c.Good ls hs M (.p2 (ek u) a b):=by
  intro hne
  cases u<;>exact⟨.er 9,f2 [(19,.r (PR.ok fa w).p),(33,.G)] g2 (qX4 hne),RR.good_er (Nat.succ_ne_zero 9)⟩
 have good:∀ (k:FQ) (y:Ty) (x:Fm),fa = .q k y x→k.n=bn u 5 7→∃ c:RR,A 163 [ckp ls g hs,(Pf.p2 (ek u) a b).p] c.p∧c.Good ls hs M (.p2 (ek u) a b):=by
  intro k y x hf hkn
  subst hf
  have hxc:1+x.cnt≤4096:=q1.1
  have hxm:x.mx≤M+qQf * a.cnt:=q1.2.1
  have hxt:max y.size x.tsz≤mid:=q1.2.2
  obtain⟨e,g3,q2⟩:=zY8 ls g hs 1 1 (by omega) (by omega)
  cases e with
  | succ n=>cases u<;>exact⟨.er n,f3 [(19,.r (PR.ok (.q k y x) w).p),(33,.H),(36,.N (n+1))] g2 (qJc hkn) g3,RR.good_er (Nat.succ_ne_zero n)⟩
  | zero =>
  have g4:=qRd ls g y hs (by omega) (by omega) (fun f hf=>(hp.h1 f hf).hyp (by omega))
  have g5:=zCn ls (g++[y]) (hs.map (Fm.sh 0 1)) x (by simp;omega)
  have hroom:=q2 rfl
  have hpb:Pre ls (g++[y]) (hs.map (Fm.sh 0 1)++[x]) (M+1+qQf * a.cnt) b:=hp.to (by omega) (by
   intro f hf
   rcases List.mem_append.1 hf with h|h
   ·exact (qAi hp.h1 1 f h).up (by omega)
   ·simp at h;subst h;exact⟨by omega,by omega,by omega⟩) (qAj hp.g1 (by omega)) (by simp;omega) (by simp;omega) (by show b.cnt≤1+a.cnt+b.cnt;omega) (by show b.tsz≤max a.tsz b.tsz;omega) (by show b.mx≤max a.mx b.mx;omega) (by omega)
  obtain⟨r,g6,q3⟩:=Hb _ _ _ _ hpb
  cases r with
  | er n=>cases u<;>exact⟨.er n,f6 [(19,.r (PR.ok (.q k y x) w).p),(33,.H),(36,.N 0),(47,.r (ckp ls (g++[y]) (hs.map (Fm.sh 0 1)))),(53,.r (ckp ls (g++[y]) (hs.map (Fm.sh 0 1)++[x]))),(58,.r (PR.er n).p)] g2 (qJc hkn) g3 g4 g5 g6,RR.good_er (Nat.succ_ne_zero n)⟩
  | ok fb v =>
  obtain⟨q3,r1,r2,r3,r4⟩:=q3
  have hmap:(hs.map (Fm.sh 0 1)++[x]).map Fm.sp=hs.map Fm.sp++[x.sp]:=by rw [List.map_append,qLx];rfl
  rw [hmap] at r1 r2
  have e1:=q3.1
  have e2:=q3.2.1
  have e3:=q3.2.2
  have hvb:∀ z∈v,z≤big:=fun z hz=>by have:=r3 z hz;omega
  have hov:=qXm 1 v
  have hob:∀ z∈qJd 1 v,z≤M+1+qQf * a.cnt+qQf * b.cnt:=qBv (fun z hz=>r3 z hz)
  have g10:=zCo 1 v (by omega) hvb
  obtain⟨w2,g11,s1,s2,s3⟩:=H.union w (qJd 1 v) (by omega) (fun z hz=>by have:=p3 z hz;omega) (fun z hz=>by have:=hob z hz;omega)
  have hRG:∀ F:Fm,F.sp=fb.sp→F.mx≤fb.mx+1001 * 4096→F.tsz≤fb.tsz→F.cnt≤4096 * fb.cnt→RG ls hs M (.p2 (ek u) a b) (F.sh 1 (-1)) w2:=by
   intro F h1 h2 h3 h4
   have h5:(F.sh 1 (-1)).mx≤F.mx+0:=qJ8 (-1) F 1
   refine⟨by rw [qQt];omega,?_,by rw [qQv];omega,?_,fun z hz => ?_,fun z hz => ?_,by show w2.length≤1+a.cnt+b.cnt;omega⟩
   ·show _≤M+qQf * (1+a.cnt+b.cnt)
    rw [hK];omega
   ·rw [qXn,h1]
    cases u<;>simp only [ek,shp,p1,Fm.sp]<;>exact r1
   ·have h6:=hz.2
    rcases h6 with h6|h6
    ·exact s1 z (.inl (p2 z h6))
    ·refine s1 z (.inr (qKd (r2 _ ?_)))
     cases u<;>simp only [ek,p1,Fm.sp] at h6<;>exact h6
   ·show z≤M+qQf * (1+a.cnt+b.cnt)
    rw [hK]
    rcases s2 z hz with h|h
    ·have:=p3 z h;omega
    ·have:=hob z h;omega
  obtain⟨t1,g7⟩:=zY5 fb 0 (by omega)
  obtain⟨t3,g12⟩:=zGi v
  cases t1
  ·have g9:=a53 fb 1 (-1) (by omega) (by omega) (by rw [hm];omega) (by omega)
   cases u
   ·exact⟨.of (fb.sh 1 (-1)) w2 0,fk [(19,.r (PR.ok (.q k y x) w).p),(33,.H),(36,.N 0),(47,.r (ckp ls (g++[y]) (hs.map (Fm.sh 0 1)))),(53,.r (ckp ls (g++[y]) (hs.map (Fm.sh 0 1)++[x]))),(58,.r (PR.ok fb v).p),(68,.F),(90,.r (fb.sh 1 (-1)).p),(95,.r (qQl (qJd 1 v))),(96,.r (qQl w2))]
     (And.intro g2 (And.intro (qJc hkn) (And.intro g3 (And.intro g4 (And.intro g5 (And.intro g6 (And.intro g7 (And.intro g9 (And.intro g10 (And.intro g11 (Eq.refl (RR.of (fb.sh 1 (-1)) w2 0).p))))))))))),fun _=>⟨_,rfl,hRG fb rfl (by omega) (Nat.le_refl _) (by omega)⟩⟩
   ·cases t3
    ·exact⟨.of (fb.sh 1 (-1)) w2 0,f11 [(19,.r (PR.ok (.q k y x) w).p),(33,.H),(36,.N 0),(47,.r (ckp ls (g++[y]) (hs.map (Fm.sh 0 1)))),(53,.r (ckp ls (g++[y]) (hs.map (Fm.sh 0 1)++[x]))),(58,.r (PR.ok fb v).p),(68,.F),(86,.F),(90,.r (fb.sh 1 (-1)).p),(95,.r (qQl (qJd 1 v))),(96,.r (qQl w2))] g2 (qJc hkn) g3 g4 g5 g6 g7 g12 g9 g10 g11,fun _=>⟨_,rfl,hRG fb rfl (by omega) (Nat.le_refl _) (by omega)⟩⟩
    ·exact⟨.er 11,f8 [(19,.r (PR.ok (.q k y x) w).p),(33,.H),(36,.N 0),(47,.r (ckp ls (g++[y]) (hs.map (Fm.sh 0 1)))),(53,.r (ckp ls (g++[y]) (hs.map (Fm.sh 0 1)++[x]))),(58,.r (PR.ok fb v).p),(68,.F),(86,.T)] g2 (qJc hkn) g3 g4 g5 g6 g7 g12,RR.good_er (Nat.succ_ne_zero 11)⟩
  ·obtain⟨r,g8,n1⟩:=zCq fb (by omega) (by omega) (by omega)
   cases r with
   | er n=>cases u<;>exact⟨.er n,f8 [(19,.r (PR.ok (.q k y x) w).p),(33,.H),(36,.N 0),(47,.r (ckp ls (g++[y]) (hs.map (Fm.sh 0 1)))),(53,.r (ckp ls (g++[y]) (hs.map (Fm.sh 0 1)++[x]))),(58,.r (PR.ok fb v).p),(68,.T),(71,.r (FR.er n).p)] g2 (qJc hkn) g3 g4 g5 g6 g7 g8,RR.good_er (Nat.succ_ne_zero n)⟩
   | ok F =>
    obtain⟨n1,n2,n3,n4⟩:=n1
    obtain⟨t2,g13⟩:=zY5 F 0 (by omega)
    have g9:=a53 F 1 (-1) (by omega) (by omega) (by rw [hm];omega) (by omega)
    cases t2
    ·cases u
     ·exact⟨.of (F.sh 1 (-1)) w2 0,f12 [(19,.r (PR.ok (.q k y x) w).p),(33,.H),(36,.N 0),(47,.r (ckp ls (g++[y]) (hs.map (Fm.sh 0 1)))),(53,.r (ckp ls (g++[y]) (hs.map (Fm.sh 0 1)++[x]))),(58,.r (PR.ok fb v).p),(68,.T),(71,.r (FR.ok F).p),(79,.F),(90,.r (F.sh 1 (-1)).p),(95,.r (qQl (qJd 1 v))),(96,.r (qQl w2))] g2 (qJc hkn) g3 g4 g5 g6 g7 g8 g13 g9 g10 g11,fun _=>⟨_,rfl,hRG F n1 n2 n3 n4⟩⟩
     ·cases t3
      ·exact⟨.of (F.sh 1 (-1)) w2 0,f13 [(19,.r (PR.ok (.q k y x) w).p),(33,.H),(36,.N 0),(47,.r (ckp ls (g++[y]) (hs.map (Fm.sh 0 1)))),(53,.r (ckp ls (g++[y]) (hs.map (Fm.sh 0 1)++[x]))),(58,.r (PR.ok fb v).p),(68,.T),(71,.r (FR.ok F).p),(79,.F),(86,.F),(90,.r (F.sh 1 (-1)).p),(95,.r (qQl (qJd 1 v))),(96,.r (qQl w2))] g2 (qJc hkn) g3 g4 g5 g6 g7 g8 g13 g12 g9 g10 g11,fun _=>⟨_,rfl,hRG F n1 n2 n3 n4⟩⟩
      ·exact⟨.er 11,f10 [(19,.r (PR.ok (.q k y x) w).p),(33,.H),(36,.N 0),(47,.r (ckp ls (g++[y]) (hs.map (Fm.sh 0 1)))),(53,.r (ckp ls (g++[y]) (hs.map (Fm.sh 0 1)++[x]))),(58,.r (PR.ok fb v).p),(68,.T),(71,.r (FR.ok F).p),(79,.F),(86,.T)] g2 (qJc hkn) g3 g4 g5 g6 g7 g8 g13 g12,RR.good_er (Nat.succ_ne_zero 11)⟩
    ·cases u<;>exact⟨.er 5,f9 [(19,.r (PR.ok (.q k y x) w).p),(33,.H),(36,.N 0),(47,.r (ckp ls (g++[y]) (hs.map (Fm.sh 0 1)))),(53,.r (ckp ls (g++[y]) (hs.map (Fm.sh 0 1)++[x]))),(58,.r (PR.ok fb v).p),(68,.T),(71,.r (FR.ok F).p),(79,.T)] g2 (qJc hkn) g3 g4 g5 g6 g7 g8 g13,RR.good_er (Nat.succ_ne_zero 5)⟩
 cases fa with
 | eq x y=>exact bad (by cases u<;>exact nofun)
 | bin k x y=>exact bad (by cases u<;>cases k<;>exact nofun)
 | q k y x =>
  by_cases h:k.n=bn u 5 7
  ·exact good k y x rfl h
  ·exact bad h
theorem zIa (H:MF) (f:Fm) (t:Tm) {a b:Pf} (Ha:Inf a) (Hb:Inf b):Rul 164 (.ind false f t a b):=by
 intro ls g hs M hp
 have hm:=qQc
 have hbb:=qQh
 have hk:qQf=8388608:=rfl
 have hcx:cmx=mid * mid-1001 * 4096:=rfl
 have hgl:=hp.gl
 have hhl:=hp.hl
 have hmb:M+qQf * (1+t.cnt+f.cnt+a.cnt+b.cnt)≤cmx:=hp.mb
 have htz:max (max (max t.tsz f.tsz) a.tsz) b.tsz≤mid:=hp.tsz
 have hmx:max (max (max t.mx f.mx) a.mx) b.mx≤M:=hp.mx
 have hcn:1+t.cnt+f.cnt+a.cnt+b.cnt≤65536:=hp.cnt
 have hK:qQf * (1+t.cnt+f.cnt+a.cnt+b.cnt)=qQf+qQf * t.cnt+qQf * f.cnt+qQf * a.cnt+qQf * b.cnt:=by rw [Nat.mul_add,Nat.mul_add,Nat.mul_add,Nat.mul_add,Nat.mul_one]
 rw [hK] at hmb
 rw [hm] at hcx
 have hct:=qB8 t
 have c1:=qGn g
 have c2:=qXl 2 32 Ty.c_len (by decide) g .nat (by omega) (by simp only [maxLen];omega)
 obtain⟨e,g1,q0⟩:=zCk (g++[.nat]) f (qAj hp.g1 (by decide)) (by omega) (by simp;omega)
 rw [qEs] at g1
 cases e with
 | succ n=>exact⟨.er n,f3 [(32,.ok),(35,.ok),(37,.N (n+1))] c1 c2 g1,RR.good_er (Nat.succ_ne_zero n)⟩
 | zero =>
 have hfc:=Fm.chk0 (q0 rfl)
 obtain⟨e,g2,q1⟩:=zD7 ls g hs t 1 hp.g1 (by omega) (by omega)
 cases e with
 | succ n=>exact⟨.er n,f4 [(32,.ok),(35,.ok),(37,.N 0),(44,.N (n+1))] c1 c2 g1 g2,RR.good_er (Nat.succ_ne_zero n)⟩
 | zero =>
 have hchk:=q1 rfl
 have hpa:Pre ls g hs M a:=hp.sub (by show a.cnt≤1+t.cnt+f.cnt+a.cnt+b.cnt;omega) (by show a.tsz≤max (max (max t.tsz f.tsz) a.tsz) b.tsz;omega) (by show a.mx≤max (max (max t.mx f.mx) a.mx) b.mx;omega)
 have g3:=qP5 4
 obtain⟨w,e,g4,q2,b1,b2⟩:=zXn Ha ls g hs M hpa f (.n0 .zero) (by omega) (by rw [hm];omega) (by omega) (by decide) (by decide) (by decide) (by simp only [Tm.mx];omega)
 by_cases he:e=0
 rotate_left
 ·obtain⟨n,rfl⟩:=Nat.exists_eq_succ_of_ne_zero he
  exact⟨.er n,f6 [(32,.ok),(35,.ok),(37,.N 0),(44,.N 0),(56,.r (Tm.n0 .zero).p),(57,.U [qQl w,num (n+1)])] c1 c2 g1 g2 g3 g4,RR.good_er (Nat.succ_ne_zero n)⟩
 subst he
 obtain⟨fa,_,_,q3,_,_⟩:=q2 rfl
 obtain⟨e,g5,q4⟩:=zY8 ls g hs 1 1 (by omega) (by omega)
 cases e with
 | succ n=>exact⟨.er n,f7 [(32,.ok),(35,.ok),(37,.N 0),(44,.N 0),(56,.r (Tm.n0 .zero).p),(57,.U [qQl w,num 0]),(65,.N (n+1))] c1 c2 g1 g2 g3 g4 g5,RR.good_er (Nat.succ_ne_zero n)⟩
 | zero =>
 have hroom:=q4 rfl
 have g6:=qRd ls g .nat hs (by omega) (by omega) (fun f hf=>(hp.h1 f hf).hyp (by omega))
 have hf1:FO (M+1) f:=⟨hfc.1,by omega,by omega⟩
 have g7:=zCn ls (g++[.nat]) (hs.map (Fm.sh 0 1)) f (by simp;omega)
 have g8:=a53 f 1 1 (by omega) (by omega) (by rw [hm];omega) (by omega)
 have g9:=qP6 5 (.v 0)
 have hpb:Pre ls (g++[.nat]) (hs.map (Fm.sh 0 1)++[f]) (M+1) b:=hp.to (by omega) (by
  intro x hx
  rcases List.mem_append.1 hx with h|h
  ·exact qAi hp.h1 1 x h
  ·simp at h;subst h;exact hf1) (by
  intro x hx
  rcases List.mem_append.1 hx with h|h
  ·exact hp.g1 x h
  ·simp at h;subst h;decide) (by simp;omega) (by simp;omega) (by show b.cnt≤1+t.cnt+f.cnt+a.cnt+b.cnt;omega) (by show b.tsz≤max (max (max t.tsz f.tsz) a.tsz) b.tsz;omega) (by show b.mx≤max (max (max t.mx f.mx) a.mx) b.mx;omega) (by omega)
 have hup:(f.sh 1 1).mx≤f.mx+1:=qJ8 1 f 1
 have hupc:(f.sh 1 1).cnt=f.cnt:=qQt 1 f 1
 have hupt:(f.sh 1 1).tsz=f.tsz:=qQv 1 f 1
 obtain⟨w',e,g10,q5,b3,b4⟩:=zXn Hb ls (g++[.nat]) (hs.map (Fm.sh 0 1)++[f]) (M+1) hpb (f.sh 1 1) (Tm.n1 .succ (.v 0)) (by omega) (by rw [hm];omega) (by omega) (by decide) (by decide) (by decide) (by simp only [Tm.mx];omega)
 by_cases he:e=0
 rotate_left
 ·obtain⟨n,rfl⟩:=Nat.exists_eq_succ_of_ne_zero he
  exact⟨.er n,fk [(32,.ok),(35,.ok),(37,.N 0),(44,.N 0),(56,.r (Tm.n0 .zero).p),(57,.U [qQl w,num 0]),(65,.N 0),(74,.r (ckp ls (g++[.nat]) (hs.map (Fm.sh 0 1)))),(76,.r (ckp ls (g++[.nat]) (hs.map (Fm.sh 0 1)++[f]))),(82,.r (f.sh 1 1).p),(85,.r (Tm.n1 .succ (.v 0)).p),(86,.U [qQl w',num (n+1)])] (And.intro c1 (And.intro c2 (And.intro g1 (And.intro g2 (And.intro g3 (And.intro g4 (And.intro g5 (And.intro g6 (And.intro g7 (And.intro g8 (And.intro g9 (And.intro g10 (Eq.refl ((RR.er n).p)))))))))))))),RR.good_er (Nat.succ_ne_zero n)⟩
 subst he
 obtain⟨fb,_,_,q6,_,_⟩:=q5 rfl
 have hmap:(hs.map (Fm.sh 0 1)++[f]).map Fm.sp=hs.map Fm.sp++[f.sp]:=by rw [List.map_append,qLx];rfl
 rw [hmap] at q6
 have hM2:t.mx≤mid * mid:=by rw [hm];omega
 obtain⟨u1,g12,p1,p2,p3⟩:=zCp H t (by omega) (by omega) hM2
 obtain⟨u2,g13,p4,p5,p6⟩:=H.union u1 w (by omega) (fun z hz=>by have:=p2 z hz;omega) (fun z hz=>by have:=b1 z hz;omega)
 have hwb:∀ z∈w',z≤big:=fun z hz=>by have:=b3 z hz;omega
 have g14:=zCo 1 w' (by omega) hwb
 have hol:=qXm 1 w'
 have hob:∀ z∈qJd 1 w',z≤M+1+qQf * b.cnt:=qBv (fun z hz=>b3 z hz)
 have hu2:∀ z∈u2,z≤M+qQf * a.cnt:=fun z hz=>by
  rcases p5 z hz with h|h
  ·have:=p2 z h;omega
  ·exact b1 z h
 obtain⟨u3,g15,s1,s2,s3⟩:=H.union u2 (qJd 1 w') (by omega) (fun z hz=>by have:=hu2 z hz;omega) (fun z hz=>by have:=hob z hz;omega)
 obtain⟨r,g11,q8⟩:=zXm f t (by omega) (by rw [hm];omega) (by omega) (by omega) hM2 (by omega)
 rcases q8 with ⟨n,rfl⟩|⟨rfl,q9⟩
 ·exact⟨⟨0,0,[],[],[],u3,n+1⟩,fk [(32,.ok),(35,.ok),(37,.N 0),(44,.N 0),(56,.r (Tm.n0 .zero).p),(57,.U [qQl w,num 0]),(65,.N 0),(74,.r (ckp ls (g++[.nat]) (hs.map (Fm.sh 0 1)))),(76,.r (ckp ls (g++[.nat]) (hs.map (Fm.sh 0 1)++[f]))),(82,.r (f.sh 1 1).p),(85,.r (Tm.n1 .succ (.v 0)).p),(86,.U [qQl w',num 0]),(96,.r (FR.er n).p),(101,.r (qQl u1)),(103,.r (qQl u2)),(105,.r (qQl (qJd 1 w'))),(106,.r (qQl u3))] (And.intro c1 (And.intro c2 (And.intro g1 (And.intro g2 (And.intro g3 (And.intro g4 (And.intro g5 (And.intro g6 (And.intro g7 (And.intro g8 (And.intro g9 (And.intro g10 (And.intro g11 (And.intro g12 (And.intro g13 (And.intro g14 (And.intro g15 (Eq.refl (RR.p (⟨0,0,[],[],[],u3,n+1⟩)))))))))))))))))))),RR.good_er (Nat.succ_ne_zero n)⟩
 ·have h1:=qV9 0 t f 0
  have h2:=qJp 0 t f 0
  refine⟨.of (f.put 0 t 0) u3 0,fk [(32,.ok),(35,.ok),(37,.N 0),(44,.N 0),(56,.r (Tm.n0 .zero).p),(57,.U [qQl w,num 0]),(65,.N 0),(74,.r (ckp ls (g++[.nat]) (hs.map (Fm.sh 0 1)))),(76,.r (ckp ls (g++[.nat]) (hs.map (Fm.sh 0 1)++[f]))),(82,.r (f.sh 1 1).p),(85,.r (Tm.n1 .succ (.v 0)).p),(86,.U [qQl w',num 0]),(96,.r (FR.ok (f.put 0 t 0)).p),(101,.r (qQl u1)),(103,.r (qQl u2)),(105,.r (qQl (qJd 1 w'))),(106,.r (qQl u3))] (And.intro c1 (And.intro c2 (And.intro g1 (And.intro g2 (And.intro g3 (And.intro g4 (And.intro g5 (And.intro g6 (And.intro g7 (And.intro g8 (And.intro g9 (And.intro g10 (And.intro g11 (And.intro g12 (And.intro g13 (And.intro g14 (And.intro g15 (Eq.refl ((RR.of (f.put 0 t 0) u3 0).p))))))))))))))))))),fun _=>⟨_,rfl,⟨by show (f.put 0 t 0).cnt≤mid;omega,by show (f.put 0 t 0).mx≤M+qQf * (1+t.cnt+f.cnt+a.cnt+b.cnt);rw [hK];omega,by show (f.put 0 t 0).tsz≤mid;omega,by simp only [shp,qJ9],fun z hz => ?_,fun z hz => ?_,by show u3.length≤1+t.cnt+f.cnt+a.cnt+b.cnt;omega⟩⟩⟩
  ·rcases hz.2 with h|h|h
   ·exact s1 z (.inl (p4 z (.inl (p1 hchk z h))))
   ·exact s1 z (.inl (p4 z (.inr (q3 z h))))
   ·exact s1 z (.inr (qKd (q6 _ h)))
  ·show z≤M+qQf * (1+t.cnt+f.cnt+a.cnt+b.cnt)
   rw [hK]
   rcases s2 z hz with h|h
   ·have:=hu2 z h;omega
   ·have:=hob z h;omega
theorem zIb (H:MF) (f:Fm) (t:Tm) {a b:Pf} (Ha:Inf a) (Hb:Inf b):Rul 165 (.ind true f t a b):=by
 intro ls g hs M hp
 have hm:=qQc
 have hbb:=qQh
 have hk:qQf=8388608:=rfl
 have hcx:cmx=mid * mid-1001 * 4096:=rfl
 have hgl:=hp.gl
 have hhl:=hp.hl
 have hmb:M+qQf * (1+t.cnt+f.cnt+a.cnt+b.cnt)≤cmx:=hp.mb
 have htz:max (max (max t.tsz f.tsz) a.tsz) b.tsz≤mid:=hp.tsz
 have hmx:max (max (max t.mx f.mx) a.mx) b.mx≤M:=hp.mx
 have hcn:1+t.cnt+f.cnt+a.cnt+b.cnt≤65536:=hp.cnt
 have hK:qQf * (1+t.cnt+f.cnt+a.cnt+b.cnt)=qQf+qQf * t.cnt+qQf * f.cnt+qQf * a.cnt+qQf * b.cnt:=by rw [Nat.mul_add,Nat.mul_add,Nat.mul_add,Nat.mul_add,Nat.mul_one]
 rw [hK] at hmb
 rw [hm] at hcx
 have hct:=qB8 t
 have c1:=qGn g
 have c2:=qXl 2 32 Ty.c_len (by decide) g .list (by omega) (by simp only [maxLen];omega)
 obtain⟨e,g1,q0⟩:=zCk (g++[.list]) f (qAj hp.g1 (by decide)) (by omega) (by simp;omega)
 rw [qEs] at g1
 cases e with
 | succ n=>exact⟨.er n,f3 [(32,.ok),(35,.ok),(37,.N (n+1))] c1 c2 g1,RR.good_er (Nat.succ_ne_zero n)⟩
 | zero =>
 have hfc:=Fm.chk0 (q0 rfl)
 obtain⟨e,g2,q1⟩:=zD7 ls g hs t 2 hp.g1 (by omega) (by omega)
 cases e with
 | succ n=>exact⟨.er n,f4 [(32,.ok),(35,.ok),(37,.N 0),(44,.N (n+1))] c1 c2 g1 g2,RR.good_er (Nat.succ_ne_zero n)⟩
 | zero =>
 have hchk:=q1 rfl
 have hpa:Pre ls g hs M a:=hp.sub (by show a.cnt≤1+t.cnt+f.cnt+a.cnt+b.cnt;omega) (by show a.tsz≤max (max (max t.tsz f.tsz) a.tsz) b.tsz;omega) (by show a.mx≤max (max (max t.mx f.mx) a.mx) b.mx;omega)
 have g3:=qP5 7
 obtain⟨w,e,g4,q2,b1,b2⟩:=zXn Ha ls g hs M hpa f (.n0 .nil) (by omega) (by rw [hm];omega) (by omega) (by decide) (by decide) (by decide) (by simp only [Tm.mx];omega)
 by_cases he:e=0
 rotate_left
 ·obtain⟨n,rfl⟩:=Nat.exists_eq_succ_of_ne_zero he
  exact⟨.er n,f6 [(32,.ok),(35,.ok),(37,.N 0),(44,.N 0),(56,.r (Tm.n0 .nil).p),(57,.U [qQl w,num (n+1)])] c1 c2 g1 g2 g3 g4,RR.good_er (Nat.succ_ne_zero n)⟩
 subst he
 obtain⟨fa,_,_,q3,_,_⟩:=q2 rfl
 obtain⟨e,g5,q4⟩:=zY8 ls g hs 2 1 (by omega) (by omega)
 cases e with
 | succ n=>exact⟨.er n,f7 [(32,.ok),(35,.ok),(37,.N 0),(44,.N 0),(56,.r (Tm.n0 .nil).p),(57,.U [qQl w,num 0]),(65,.N (n+1))] c1 c2 g1 g2 g3 g4 g5,RR.good_er (Nat.succ_ne_zero n)⟩
 | zero =>
 have hroom:=q4 rfl
 have g6:=zY7 ls g .nat .list hs (by omega) (by omega) (fun f hf=>(hp.h1 f hf).hyp (by omega))
 have hf1:FO (M+2) (f.sh 1 1):=by have h:=qJ8 1 f 1;simp at h;exact⟨by rw [qQt];exact hfc.1,by omega,by rw [qQv];omega⟩
 have gh:=a53 f 1 1 (by omega) (by omega) (by rw [hm];omega) (by omega)
 have g7:=zCn ls (g++[.nat,.list]) (hs.map (Fm.sh 0 2)) (f.sh 1 1) (by simp;omega)
 have g8:=a53 f 1 2 (by omega) (by omega) (by rw [hm];omega) (by omega)
 have g9:=qX3 8 (.v 1) (.v 0)
 have hpb:Pre ls (g++[.nat,.list]) (hs.map (Fm.sh 0 2)++[(f.sh 1 1)]) (M+2) b:=hp.to (by omega) (by
  intro x hx
  rcases List.mem_append.1 hx with h|h
  ·exact qAi hp.h1 2 x h
  ·simp at h;subst h;exact hf1) (by
  intro x hx
  rcases List.mem_append.1 hx with h|h
  ·exact hp.g1 x h
  ·simp at h;rcases h with rfl|rfl<;>decide) (by simp;omega) (by simp;omega) (by show b.cnt≤1+t.cnt+f.cnt+a.cnt+b.cnt;omega) (by show b.tsz≤max (max (max t.tsz f.tsz) a.tsz) b.tsz;omega) (by show b.mx≤max (max (max t.mx f.mx) a.mx) b.mx;omega) (by omega)
 have hup:(f.sh 1 2).mx≤f.mx+2:=qJ8 2 f 1
 have hupc:(f.sh 1 2).cnt=f.cnt:=qQt 2 f 1
 have hupt:(f.sh 1 2).tsz=f.tsz:=qQv 2 f 1
 obtain⟨w',e,g10,q5,b3,b4⟩:=zXn Hb ls (g++[.nat,.list]) (hs.map (Fm.sh 0 2)++[(f.sh 1 1)]) (M+2) hpb (f.sh 1 2) (Tm.n2 .cons (.v 1) (.v 0)) (by omega) (by rw [hm];omega) (by omega) (by decide) (by decide) (by decide) (by simp only [Tm.mx];omega)
 by_cases he:e=0
 rotate_left
 ·obtain⟨n,rfl⟩:=Nat.exists_eq_succ_of_ne_zero he
  exact⟨.er n,fk [(32,.ok),(35,.ok),(37,.N 0),(44,.N 0),(56,.r (Tm.n0 .nil).p),(57,.U [qQl w,num 0]),(65,.N 0),(75,.r (ckp ls (g++[.nat,.list]) (hs.map (Fm.sh 0 2)))),(77,.r (f.sh 1 1).p),(78,.r (ckp ls (g++[.nat,.list]) (hs.map (Fm.sh 0 2)++[(f.sh 1 1)]))),(84,.r (f.sh 1 2).p),(88,.r (Tm.n2 .cons (.v 1) (.v 0)).p),(89,.U [qQl w',num (n+1)])] (And.intro c1 (And.intro c2 (And.intro g1 (And.intro g2 (And.intro g3 (And.intro g4 (And.intro g5 (And.intro g6 (And.intro gh (And.intro g7 (And.intro g8 (And.intro g9 (And.intro g10 (Eq.refl ((RR.er n).p))))))))))))))),RR.good_er (Nat.succ_ne_zero n)⟩
 subst he
 obtain⟨fb,_,_,q6,_,_⟩:=q5 rfl
 have hmap:(hs.map (Fm.sh 0 2)++[(f.sh 1 1)]).map Fm.sp=hs.map Fm.sp++[f.sp]:=by rw [List.map_append,qLx];simp [qXn]
 rw [hmap] at q6
 have hM2:t.mx≤mid * mid:=by rw [hm];omega
 obtain⟨u1,g12,p1,p2,p3⟩:=zCp H t (by omega) (by omega) hM2
 obtain⟨u2,g13,p4,p5,p6⟩:=H.union u1 w (by omega) (fun z hz=>by have:=p2 z hz;omega) (fun z hz=>by have:=b1 z hz;omega)
 have hwb:∀ z∈w',z≤big:=fun z hz=>by have:=b3 z hz;omega
 have g14:=zCo 2 w' (by omega) hwb
 have hol:=qXm 2 w'
 have hob:∀ z∈qJd 2 w',z≤M+2+qQf * b.cnt:=qBv (fun z hz=>b3 z hz)
 have hu2:∀ z∈u2,z≤M+qQf * a.cnt:=fun z hz=>by
  rcases p5 z hz with h|h
  ·have:=p2 z h;omega
  ·exact b1 z h
 obtain⟨u3,g15,s1,s2,s3⟩:=H.union u2 (qJd 2 w') (by omega) (fun z hz=>by have:=hu2 z hz;omega) (fun z hz=>by have:=hob z hz;omega)
 obtain⟨r,g11,q8⟩:=zXm f t (by omega) (by rw [hm];omega) (by omega) (by omega) hM2 (by omega)
 rcases q8 with ⟨n,rfl⟩|⟨rfl,q9⟩
 ·exact⟨⟨0,0,[],[],[],u3,n+1⟩,fk [(32,.ok),(35,.ok),(37,.N 0),(44,.N 0),(56,.r (Tm.n0 .nil).p),(57,.U [qQl w,num 0]),(65,.N 0),(75,.r (ckp ls (g++[.nat,.list]) (hs.map (Fm.sh 0 2)))),(77,.r (f.sh 1 1).p),(78,.r (ckp ls (g++[.nat,.list]) (hs.map (Fm.sh 0 2)++[(f.sh 1 1)]))),(84,.r (f.sh 1 2).p),(88,.r (Tm.n2 .cons (.v 1) (.v 0)).p),(89,.U [qQl w',num 0]),(99,.r (FR.er n).p),(104,.r (qQl u1)),(106,.r (qQl u2)),(108,.r (qQl (qJd 2 w'))),(109,.r (qQl u3))] (And.intro c1 (And.intro c2 (And.intro g1 (And.intro g2 (And.intro g3 (And.intro g4 (And.intro g5 (And.intro g6 (And.intro gh (And.intro g7 (And.intro g8 (And.intro g9 (And.intro g10 (And.intro g11 (And.intro g12 (And.intro g13 (And.intro g14 (And.intro g15 (Eq.refl (RR.p (⟨0,0,[],[],[],u3,n+1⟩))))))))))))))))))))),RR.good_er (Nat.succ_ne_zero n)⟩
 ·have h1:=qV9 0 t f 0
  have h2:=qJp 0 t f 0
  refine⟨.of (f.put 0 t 0) u3 0,fk [(32,.ok),(35,.ok),(37,.N 0),(44,.N 0),(56,.r (Tm.n0 .nil).p),(57,.U [qQl w,num 0]),(65,.N 0),(75,.r (ckp ls (g++[.nat,.list]) (hs.map (Fm.sh 0 2)))),(77,.r (f.sh 1 1).p),(78,.r (ckp ls (g++[.nat,.list]) (hs.map (Fm.sh 0 2)++[(f.sh 1 1)]))),(84,.r (f.sh 1 2).p),(88,.r (Tm.n2 .cons (.v 1) (.v 0)).p),(89,.U [qQl w',num 0]),(99,.r (FR.ok (f.put 0 t 0)).p),(104,.r (qQl u1)),(106,.r (qQl u2)),(108,.r (qQl (qJd 2 w'))),(109,.r (qQl u3))] (And.intro c1 (And.intro c2 (And.intro g1 (And.intro g2 (And.intro g3 (And.intro g4 (And.intro g5 (And.intro g6 (And.intro gh (And.intro g7 (And.intro g8 (And.intro g9 (And.intro g10 (And.intro g11 (And.intro g12 (And.intro g13 (And.intro g14 (And.intro g15 (Eq.refl ((RR.of (f.put 0 t 0) u3 0).p)))))))))))))))))))),fun _=>⟨_,rfl,⟨by show (f.put 0 t 0).cnt≤mid;omega,by show (f.put 0 t 0).mx≤M+qQf * (1+t.cnt+f.cnt+a.cnt+b.cnt);rw [hK];omega,by show (f.put 0 t 0).tsz≤mid;omega,by simp only [shp,qJ9],fun z hz => ?_,fun z hz => ?_,by show u3.length≤1+t.cnt+f.cnt+a.cnt+b.cnt;omega⟩⟩⟩
  ·rcases hz.2 with h|h|h
   ·exact s1 z (.inl (p4 z (.inl (p1 hchk z h))))
   ·exact s1 z (.inl (p4 z (.inr (q3 z h))))
   ·exact s1 z (.inr (qKd (q6 _ h)))
  ·show z≤M+qQf * (1+t.cnt+f.cnt+a.cnt+b.cnt)
   rw [hK]
   rcases s2 z hz with h|h
   ·have:=hu2 z h;omega
   ·have:=hob z h;omega
open Go.Lg
set_option maxRecDepth 100000
abbrev zfc:List PV:=[num 0,num 0,.slice [],.slice [],.slice []]
theorem zD8:A 64 [.agg zfc] (.agg zfc):=f1 [(12,.r zt)] qX2
theorem zGk (k:FB) (f:Fm):A 39 [num k.n,f.p,.agg zfc] (.agg [num k.n,num 0,.slice [],.slice [],.slice [f.c,zfc]]):=f2 [(9,.r f.p),(11,.r (.agg zfc))] (a64 f) zD8
abbrev qz (k:FQ) (s:Ty) (x:List PV):List PV:=[num k.n,num s.kd,.slice s.es,.slice [],.slice [x]]
theorem zIc (k:FQ) (s:Ty):A 40 [num k.n,s.p,.agg zfc] (.agg (qz k s zfc)):=f2 [(9,.r s.p),(11,.r (.agg zfc))] (qB7 s) zD8
theorem zId (k:FQ) (s:Ty):A 64 [.agg (qz k s zfc)] (.agg (qz k s zfc)):=f2 [(12,.r s.p),(39,.r (.agg zfc))] (qB7 s) zD8
theorem zIe (k l:FQ) (s u:Ty):A 40 [num k.n,s.p,.agg (qz l u zfc)] (.agg (qz k s (qz l u zfc))):=f2 [(9,.r s.p),(11,.r (.agg (qz l u zfc)))] (qB7 s) (zId l u)
theorem zIf {a:Pf} (Ha:Inf a):Rul 168 (.p1 .choice a):=by
 intro ls g hs M hp
 have hm:=qQc
 have hbb:=qQh
 have hk:qQf=8388608:=rfl
 have hcx:cmx=mid * mid-1001 * 4096:=rfl
 have hmb:M+qQf * (1+a.cnt)≤cmx:=hp.mb
 have hcn:1+a.cnt≤65536:=hp.cnt
 have hK:qQf * (1+a.cnt)=qQf+qQf * a.cnt:=by rw [Nat.mul_add,Nat.mul_one]
 rw [hK] at hmb
 rw [hm] at hcx
 have hpa:Pre ls g hs M a:=hp.sub (by show a.cnt≤1+a.cnt;omega) (Nat.le_refl _) (Nat.le_refl _)
 obtain⟨r,g1,q⟩:=Ha _ _ _ _ hpa
 cases r with
 | er n=>exact⟨.er n,f1 [(19,.r (PR.er n).p)] g1,RR.good_er (Nat.succ_ne_zero n)⟩
 | ok fa w =>
 obtain⟨q1,p1,p2,p3,p4⟩:=q
 have bad:fa.kd≠4→∃ c:RR,A 168 [ckp ls g hs,(Pf.p1 .choice a).p] c.p∧c.Good ls hs M (.p1 .choice a):=fun hne=>⟨.er 9,f2 [(19,.r (PR.ok fa w).p),(29,.G)] g1 (qX4 hne),RR.good_er (Nat.succ_ne_zero 9)⟩
 cases fa with
 | eq x y=>exact bad (nofun)
 | bin k x y=>exact bad (by cases k<;>exact nofun)
 | q k s x =>
 cases k with
 | ex=>exact bad (nofun)
 | allU=>exact bad (nofun)
 | exU=>exact bad (nofun)
 | all =>
 have bad2:x.kd≠5→∃ c:RR,A 168 [ckp ls g hs,(Pf.p1 .choice a).p] c.p∧c.Good ls hs M (.p1 .choice a):=fun hne=>⟨.er 9,f2 [(19,.r (PR.ok (.q .all s x) w).p),(37,.G)] g1 (qX4 hne),RR.good_er (Nat.succ_ne_zero 9)⟩
 cases x with
 | eq x y=>exact bad2 (nofun)
 | bin k x y=>exact bad2 (by cases k<;>exact nofun)
 | q k u y =>
 cases k with
 | all=>exact bad2 (nofun)
 | allU=>exact bad2 (nofun)
 | exU=>exact bad2 (nofun)
 | ex =>
 have e1:1+(1+y.cnt)≤4096:=q1.1
 have e2:y.mx≤M+qQf * a.cnt:=q1.2.1
 have e3:max s.size (max u.size y.tsz)≤mid:=q1.2.2
 have g2:=a99 s u
 have g3:=a84 (.two true s u) (by show 1+s.size+u.size≤big;omega)
 rcases qZe (.two true s u) with e|e<;>rw [e] at g3
 rotate_left
 ·exact⟨.er 3,f3 [(19,.r (PR.ok (.q .all s (.q .ex u y)) w).p),(51,.r (Ty.two true s u).p),(53,.N 4)] g1 g2 g3,RR.good_er (Nat.succ_ne_zero 3)⟩
 have hsz:=chk0 e
 have hup:(y.sh 2 1).mx≤y.mx+1:=qJ8 1 y 2
 have g4:=a53 y 2 1 (by omega) (by omega) (by rw [hm];omega) (by omega)
 have g5:=qX3 3 (.v 1) (.v 0)
 obtain⟨r,g6,q3⟩:=zXm (y.sh 2 1) (.n2 .app (.v 1) (.v 0)) (by rw [qQt];omega) (by rw [hm];omega) (by rw [qQv];omega) (by decide) (by decide) (by decide)
 rcases q3 with ⟨n,rfl⟩|⟨rfl,q4⟩
 ·exact⟨⟨5,4,(Ty.two true s u).es,[],[qz .all s zfc],w,n+1⟩,f8 [(19,.r (PR.ok (.q .all s (.q .ex u y)) w).p),(51,.r (Ty.two true s u).p),(53,.N 0),(65,.r (y.sh 2 1).p),(69,.r (Tm.n2 .app (.v 1) (.v 0)).p),(70,.r (FR.er n).p),(76,.r (.agg (qz .all s zfc))),(77,.r (.agg (qz .ex (.two true s u) (qz .all s zfc))))] g1 g2 g3 g4 g5 g6 (zIc .all s) (zIe .ex .all (.two true s u) s),RR.good_er (Nat.succ_ne_zero n)⟩
 ·have h1:=qV9 0 (.n2 .app (.v 1) (.v 0)) (y.sh 2 1) 0
  have h2:=qJp 0 (.n2 .app (.v 1) (.v 0)) (y.sh 2 1) 0
  have h3:(y.sh 2 1).cnt=y.cnt:=qQt 1 y 2
  have h4:(y.sh 2 1).tsz=y.tsz:=qQv 1 y 2
  have h5:(Tm.n2 .app (.v 1) (.v 0)).mx=1:=rfl
  have h6:(Tm.n2 .app (.v 1) (.v 0)).tsz=0:=rfl
  have h7:((y.sh 2 1).put 0 (.n2 .app (.v 1) (.v 0)) 0).sp=y.sp:=by rw [qJ9,qXn]
  generalize hz:(y.sh 2 1).put 0 (.n2 .app (.v 1) (.v 0)) 0=z at *
  refine⟨.of (.q .ex (.two true s u) (.q .all s z)) w 0,f8 [(19,.r (PR.ok (.q .all s (.q .ex u y)) w).p),(51,.r (Ty.two true s u).p),(53,.N 0),(65,.r (y.sh 2 1).p),(69,.r (Tm.n2 .app (.v 1) (.v 0)).p),(70,.r (FR.ok z).p),(76,.r (Fm.q .all s z).p),(77,.r (Fm.q .ex (.two true s u) (.q .all s z)).p)] g1 g2 g3 g4 g5 g6 (a40 .all s z) (a40 .ex (.two true s u) (.q .all s z)),fun _=>⟨_,rfl,⟨?_,?_,?_,?_,fun v hv=>p2 v hv.2,fun v hv => ?_,by show w.length≤1+a.cnt;omega⟩⟩⟩
  ·show 1+(1+z.cnt)≤mid
   omega
  ·show z.mx≤M+qQf * (1+a.cnt)
   rw [hK];omega
  ·show max (Ty.two true s u).size (max s.size z.tsz)≤mid
   omega
  ·simp only [shp,p1,Fm.sp,h7]
  ·have:=p3 v hv
   show v≤M+qQf * (1+a.cnt)
   rw [hK];omega
end Go.Proofs.YtmcockinhpiomaaGreatDoor
