/- Contracts of functions; no conditions. -/
import Derived.Test.YtbbbnbikmbaejaaGreatDoorConC3
import Derived.Test.YtbbbnbikmbaejaaGreatDoorConC2
import Derived.WalkKit
import Derived.Laws.Bits64b
import Derived.Lib.TrailingZeros
set_option linter.all false
set_option maxHeartbeats 4000000
namespace Go.Proofs.YtbbbnbikmbaejaaGreatDoor
open Go.Lg
set_option maxRecDepth 100000
theorem qSj:A 276 [] Ty.nat.p:=f0 []
theorem qPw (i:Nat):A 279 [num i] (Tm.v i).p:=f0 []
theorem qH9 (k:K0):A 329 [num k.n,row []] (Tm.n0 k).p:=f0 []
theorem qUm (k:K1) (a:Tm):A 329 [num k.n,row [a]] (Tm.n1 k a).p:=f0 []
theorem qIa (k:K2) (a b:Tm):A 329 [num k.n,row [a,b]] (Tm.n2 k a b).p:=f0 []
theorem zKq (t:Tm) (s:Ty):A 348 [t.p,tys [s]] (Tm.lam s t).p:=f0 []
theorem qUn (t:Tm) (s u:Ty):A 348 [t.p,tys [s,u]] (Tm.lam s (.lam u t)).p:=f0 []
theorem zEl (k:K3) (s:Ty) (a b c:Tm):A 397 [num k.n,s.p,a.p,b.p,c.p] (Tm.n3 k s a b c).p:=f0 []
theorem zC8 (a b c:Tm):A 392 [a.p,b.p,c.p] (Tm.n3 .re .nat a (.lam .nat (.lam .nat b)) c).p :=
 f5 [7,10,11,13,15] qSj qSj qSj (qUn b .nat .nat) (zEl .re .nat a (.lam .nat (.lam .nat b)) c)
theorem zEm (t:Tm):A 373 [t.p] (Tm.lam .nat (.lam .nat t)).p:=f3 [4,5,7] qSj qSj (qUn t .nat .nat)
theorem zEn:A 393 [] predT.p :=
 f6 [1,2,3,4,5,7] (qH9 .zero) (qPw 1) (qPw 0) (zC8 (.n0 .zero) (.v 1) (.v 0)) qSj (zKq (.n3 .re .nat (.n0 .zero) (.lam .nat (.lam .nat (.v 1))) (.v 0)) .nat)
theorem qUo (f a:Tm):A 278 [f.p,row [a]] (Tm.n2 .app f a).p:=f1 [16] (qIa .app f a)
theorem qUp (f a b:Tm):A 278 [f.p,row [a,b]] (Tm.n2 .app (.n2 .app f a) b).p:=f2 [16,16] (qIa .app f a) (qIa .app (.n2 .app f a) b)
theorem zEo:A 375 [] subT.p:=by
 let x1:=Tm.n2 .app predT (.v 0)
 let x4:=Tm.n3 .re .nat (.v 1) (.lam .nat (.lam .nat x1)) (.v 0)
 exact f7 [1,2,3,5,6,7,8] (qPw 1) zEn (qPw 0) (qUo predT (.v 0)) (qPw 0) (zC8 (.v 1) x1 (.v 0)) (zEm x4)
theorem zC9 (a b:Tm):A 275 [a.p,b.p] (Fm.eq a b).p:=f0 []
def zBl (x y:Tm):Fm:=.eq (.n2 .app (.n2 .app subT (.n1 .succ x)) y) (.n0 .zero)
theorem zEp (x y:Tm):A 369 [x.p,y.p] (zBl x y).p :=
 f5 [5,8,11,12,13] zEo (qUm .succ x) (qUp subT (.n1 .succ x) y) (qH9 .zero) (zC9 (.n2 .app (.n2 .app subT (.n1 .succ x)) y) (.n0 .zero))
theorem zEq (a b c d:Tm):∃ r,A 368 [(Fm.eq a b).p,(Fm.eq c d).p] (.bool r):=by
 obtain⟨r,g1,_⟩:=qPs a c
 obtain⟨q,g2,_⟩:=qPs b d
 cases r
 ·exact⟨false,f2 [19,54] qLu g1⟩
 ·cases q
  ·exact⟨false,f3 [19,54,54] qLu g1 g2⟩
  ·exact⟨true,f3 [19,54,54] qLu g1 g2⟩
abbrev zF:List PV:=[num 0,num 0,.slice [],.slice [],.slice []]
abbrev zBm:PV:=.tuple [.bool false,(.agg Sx.z.c),.agg zF,.bool false]
abbrev Bd (k:FQ) (s:Ty) (f:Fm):Prop:=A 337 [(Fm.q k s f).p] zBm ∨ ∃ b t l a body,f = .bin l a body∧A 337 [(Fm.q k s f).p] (.tuple [.bool b,Tm.p t,Fm.p body,.bool true])
theorem zDa (k:FQ) (l:FB) (hk:k = .all∧l = .imp∨k = .ex∧l = .and) (t u:Tm) (body:Fm) (h:t.cnt≤4096) (hx:t.mx≤mid * mid):Bd k .nat (.bin l (.eq t u) body):=by
 have no:t.kd≠3→Bd k .nat (.bin l (.eq t u) body):=fun h => .inl (by
  rcases hk with ⟨rfl,rfl⟩|⟨rfl,rfl⟩<;>exact f1 [64] (zW3 (m:=t.kd) (n:=3) h))
 cases t with
 | n2 j x y =>
  cases j with
  | app =>
   have hm:=qQh
   have h:1+x.cnt+y.cnt≤4096:=h
   have hx:max x.mx y.mx≤mid * mid:=hx
   have g1:=zC1 y 0 (by omega) (by omega) (by omega)
   by_cases h0:y.occ 0=0
   ·rw [h0] at g1
    have g2:=zEp (.v 0) y
    obtain⟨r,g3⟩:=zEq (.n2 .app x y) u (.n2 .app (.n2 .app subT (.n1 .succ (.v 0))) y) (.n0 .zero)
    cases r
    ·refine .inl ?_
     rcases hk with ⟨rfl,rfl⟩|⟨rfl,rfl⟩<;>exact f3 [70,80,81] g1 g2 g3
    ·rcases hk with ⟨rfl,rfl⟩|⟨rfl,rfl⟩
     ·exact .inr ⟨true,y,_,_,body,rfl,f3 [70,80,81] g1 g2 g3⟩
     ·exact .inr ⟨false,y,_,_,body,rfl,f3 [70,80,81] g1 g2 g3⟩
   ·have g2:ltI (.ofNat 0) (.ofNat (y.occ 0))=true:=qWz (by omega)
    refine .inl ?_
    rcases hk with ⟨rfl,rfl⟩|⟨rfl,rfl⟩<;>exact f2 [70,71] g1 g2
  | _=>exact no (nofun)
 | v i=>exact no (nofun)
 | lam s b=>exact no (nofun)
 | n0 j=>exact no (by cases j<;>exact nofun)
 | n1 j a=>exact no (by cases j<;>exact nofun)
 | n3 j s a b d=>exact no (by cases j<;>exact nofun)
theorem zEr (k:FQ) (s:Ty) (f:Fm) (h:f.cnt≤4096) (hx:f.mx≤mid * mid):Bd k s f:=by
 cases k with
 | allU=>exact .inl (f0 [])
 | exU=>exact .inl (f0 [])
 | all=>cases s with
  | nat=>cases f with
   | eq a b=>exact .inl (f0 [])
   | q j s f=>exact .inl (by cases j<;>exact f0 [])
   | bin j a b=>cases j with
    | and=>exact .inl (f0 [])
    | imp=>cases a with
     | bin j a b=>exact .inl (by cases j<;>exact f0 [])
     | q j s f=>exact .inl (by cases j<;>exact f0 [])
     | eq t u =>
      simp only [Fm.cnt,Fm.mx] at h hx
      exact zDa .all .imp (.inl ⟨rfl,rfl⟩) t u b (by omega) (by omega)
  | two j s u=>exact .inl (by cases j<;>exact f0 [])
  | _=>exact .inl (f0 [])
 | ex=>cases s with
  | nat=>cases f with
   | eq a b=>exact .inl (f0 [])
   | q j s f=>exact .inl (by cases j<;>exact f0 [])
   | bin j a b=>cases j with
    | imp=>exact .inl (f0 [])
    | and=>cases a with
     | bin j a b=>exact .inl (by cases j<;>exact f0 [])
     | q j s f=>exact .inl (by cases j<;>exact f0 [])
     | eq t u =>
      simp only [Fm.cnt,Fm.mx] at h hx
      exact zDa .ex .and (.inr ⟨rfl,rfl⟩) t u b (by omega) (by omega)
  | two j s u=>exact .inl (by cases j<;>exact f0 [])
  | _=>exact .inl (f0 [])
theorem qC3:∀ v,v<8→∀ w,w<8→qQj .and .u8 (.ofNat v) (.ofNat w) = .ofNat (v &&& w)∧v &&& w<8:=by decide +kernel
theorem qPx:∀ v,v<8→∀ w,w<8→qQj .or .u8 (.ofNat v) (.ofNat w) = .ofNat (v ||| w)∧v ||| w<8:=by decide +kernel
theorem qSk {v w:Nat} (h:v<8) (h':w<8):(bif qXt .u8 .u8 then inB (qQj .and .u8 (.ofNat v) (.ofNat w)) else false)=true∧PV.num .u8 (qQj .and .u8 (.ofNat v) (.ofNat w)) = .num .u8 (.ofNat (v &&& w)):=by
 have hb:=qQk
 rw [(qC3 v h w h').1]
 exact⟨inb (n:=v &&& w) (by have:=(qC3 v h w h').2;omega),rfl⟩
theorem or8 {v w:Nat} (h:v<8) (h':w<8):(bif qXt .u8 .u8 then inB (qQj .or .u8 (.ofNat v) (.ofNat w)) else false)=true∧PV.num .u8 (qQj .or .u8 (.ofNat v) (.ofNat w)) = .num .u8 (.ofNat (v ||| w)):=by
 have hb:=qQk
 rw [(qPx v h w h').1]
 exact⟨inb (n:=v ||| w) (by have:=(qPx v h w h').2;omega),rfl⟩
theorem zKr:∀ v,v<8→∀ w,w<8→(v &&& w &&& 6 ||| (w ||| v) &&& 1) % 2=max (v % 2) (w % 2):=by decide +kernel
theorem zKs:∀ v,v<8→∀ w,w<8→(v &&& w &&& 6 ||| w &&& 1) % 2=w % 2:=by decide +kernel
theorem zDb:∀ v,v<8→(v &&& 1) % 2=v % 2∧((v ||| 1) &&& 1) % 2=1:=by decide +kernel
theorem zYp:∀ v,v<8→∀ w,w<8→(v ||| w &&& 4) % 2=v % 2:=by decide +kernel
abbrev u8 (n:Nat):PV:=.num .u8 (.ofNat n)
def zYq:Bool→Nat
 | true=>1
 | false=>0
theorem zJm (a b:Bool):max (zYq a) (zYq b)=zYq (a || b):=by cases a<;>cases b<;>rfl
theorem zKt:∀ (n:Nat) (f:Fm),f.cnt≤n→f.cnt≤4096→f.mx≤mid * mid→∃ v,v<8∧A 285 [f.p] (u8 v)∧v % 2=zYq f.has
 | 0,f,hn,h,hx=>by
  have:1≤f.cnt:=by cases f<;>simp only [Fm.cnt]<;>omega
  omega
 | n+1,.eq a b,hn,h,hx=>⟨6,by decide,f0 [],rfl⟩
 | n+1,.bin k f g,hn,h,hx=>by
  simp only [Fm.cnt,Fm.mx] at hn h hx
  obtain⟨v,l1,g1,q1⟩:=zKt n f (by omega) (by omega) (by omega)
  obtain⟨w,l2,g2,q2⟩:=zKt n g (by omega) (by omega) (by omega)
  have k1:=(qC3 v l1 w l2).2
  have k2:=(qC3 _ k1 6 (by decide)).2
  cases k with
  | and =>
   have k3:=(qPx w l2 v l1).2
   have k4:=(qC3 _ k3 1 (by decide)).2
   refine⟨v &&& w &&& 6 ||| (w ||| v) &&& 1,(qPx _ k2 _ k4).2,?_,?_⟩
   ·exact f7 [22,32,(35,.v (u8 (v &&& w))),(36,.v (u8 (v &&& w &&& 6))),(42,.v (u8 (w ||| v))),(45,.v (u8 ((w ||| v) &&& 1))),(46,.v (u8 (v &&& w &&& 6 ||| (w ||| v) &&& 1)))] g2 g1 (qSk l1 l2) (qSk k1 (w:=6) (by decide)) (or8 l2 l1) (qSk k3 (w:=1) (by decide)) (or8 k2 k4)
   ·rw [zKr v l1 w l2,q1,q2,zJm];rfl
  | imp =>
   have k4:=(qC3 w l2 1 (by decide)).2
   refine⟨v &&& w &&& 6 ||| w &&& 1,(qPx _ k2 _ k4).2,?_,?_⟩
   ·exact f6 [22,32,(35,.v (u8 (v &&& w))),(36,.v (u8 (v &&& w &&& 6))),(45,.v (u8 (w &&& 1))),(46,.v (u8 (v &&& w &&& 6 ||| w &&& 1)))] g2 g1 (qSk l1 l2) (qSk k1 (w:=6) (by decide)) (qSk l2 (w:=1) (by decide)) (or8 k2 k4)
   ·rw [zKs v l1 w l2,q2];rfl
 | n+1,.q k s f,hn,h,hx=>by
  simp only [Fm.cnt,Fm.mx] at hn h hx
  obtain⟨v,l1,g1,q1⟩:=zKt n f (by omega) (by omega) (by omega)
  have k1:=(qC3 v l1 1 (by decide)).2
  have k2:=(qPx v l1 1 (by decide)).2
  have k3:=(qC3 _ k2 1 (by decide)).2
  have z1:=qSk l1 (w:=1) (by decide)
  have z2:=or8 l1 (w:=1) (by decide)
  have z3:=qSk k2 (w:=1) (by decide)
  have p1:=(zDb v l1).1
  have p2:=(zDb v l1).2
  rcases zEr k s f (by omega) hx with g2|⟨b,t,l,a,body,rfl,g2⟩
  ·cases k with
   | ex=>exact⟨(v ||| 1) &&& 1,k3,f4 [22,(50,.v (u8 (v ||| 1))),(52,.v (u8 ((v ||| 1) &&& 1))),55] g1 z2 z3 g2,p2⟩
   | all=>exact⟨v &&& 1,k1,f3 [22,(52,.v (u8 (v &&& 1))),55] g1 z1 g2,p1.trans q1⟩
   | allU=>exact⟨v &&& 1,k1,f3 [22,(52,.v (u8 (v &&& 1))),55] g1 z1 g2,p1.trans q1⟩
   | exU=>exact⟨v &&& 1,k1,f3 [22,(52,.v (u8 (v &&& 1))),55] g1 z1 g2,p1.trans q1⟩
  ·simp only [Fm.cnt,Fm.mx] at hn h hx
   obtain⟨w,l2,g3,q2⟩:=zKt n body (by omega) (by omega) (by omega)
   have y1:=(qC3 w l2 4 (by decide)).2
   have y2:=qSk l2 (w:=4) (by decide)
   cases k with
   | ex=>exact⟨(v ||| 1) &&& 1 ||| w &&& 4,(qPx _ k3 _ y1).2,f7 [22,(50,.v (u8 (v ||| 1))),(52,.v (u8 ((v ||| 1) &&& 1))),55,63,(64,.v (u8 (w &&& 4))),(65,.v (u8 ((v ||| 1) &&& 1 ||| w &&& 4)))] g1 z2 z3 g2 g3 y2 (or8 k3 y1),(zYp _ k3 w l2).trans p2⟩
   | all=>exact⟨v &&& 1 ||| w &&& 4,(qPx _ k1 _ y1).2,f6 [22,(52,.v (u8 (v &&& 1))),55,63,(64,.v (u8 (w &&& 4))),(65,.v (u8 (v &&& 1 ||| w &&& 4)))] g1 z1 g2 g3 y2 (or8 k1 y1),(zYp _ k1 w l2).trans (p1.trans q1)⟩
   | allU=>exact⟨v &&& 1 ||| w &&& 4,(qPx _ k1 _ y1).2,f6 [22,(52,.v (u8 (v &&& 1))),55,63,(64,.v (u8 (w &&& 4))),(65,.v (u8 (v &&& 1 ||| w &&& 4)))] g1 z1 g2 g3 y2 (or8 k1 y1),(zYp _ k1 w l2).trans (p1.trans q1)⟩
   | exU=>exact⟨v &&& 1 ||| w &&& 4,(qPx _ k1 _ y1).2,f6 [22,(52,.v (u8 (v &&& 1))),55,63,(64,.v (u8 (w &&& 4))),(65,.v (u8 (v &&& 1 ||| w &&& 4)))] g1 z1 g2 g3 y2 (or8 k1 y1),(zYp _ k1 w l2).trans (p1.trans q1)⟩
theorem zEs:∀ v,v<8→∀ {f:Fm},A 174 [f.p] (num 0)→A 285 [f.p] (u8 v)→A 208 [f.p,u8 1] (.tuple [.bool (Nat.beq (v % 2) 1),num 0])
 | 0,_,_,g,g1=>f2 [8,13] g g1
 | 1,_,_,g,g1=>f2 [8,13] g g1
 | 2,_,_,g,g1=>f2 [8,13] g g1
 | 3,_,_,g,g1=>f2 [8,13] g g1
 | 4,_,_,g,g1=>f2 [8,13] g g1
 | 5,_,_,g,g1=>f2 [8,13] g g1
 | 6,_,_,g,g1=>f2 [8,13] g g1
 | 7,_,_,g,g1=>f2 [8,13] g g1
 | n+8,h,_,_,_=>absurd h (by omega)
theorem FK.a70 {n:Nat} {f:Fm} (h:FK n f) (hn:n≤lim):A 121 [f.p] (.tuple [.bool f.has,num 0]):=by
 have hm:=qQh
 have hx:=h.mx hn
 obtain⟨v,l,g,q⟩:=zKt 4096 f h.cnt h.cnt (by rw [hm];omega)
 have g1:=zEs v l h.a89 g
 rw [q] at g1
 cases e:f.has<;>rw [e] at g1
 ·exact f1 [5] g1
 ·exact f1 [5] g1
end Go.Proofs.YtbbbnbikmbaejaaGreatDoor
namespace Go.Proofs.YtbbbnbikmbaejaaGreatDoor
open Go.Lg
set_option maxRecDepth 100000
abbrev tly (n:Nat):List (Nat × Ob):=[(1,bx [num n,.bool false])]
theorem qUq (k n:Nat) (h:n+k≤big):O 321 [.loc 1 0,.pv (num k),.pv (num 0)] (tly n) (.pv (.bool true)) (tly (n+k)) :=
 o1 2 [12] (qQv (a:=n) (b:=k) h)
theorem chT {t:Tm} (h:t.chk=0):A 177 [t.p] (.tuple [num t.cnt,num 0]):=by
 grind [Tm.chk0,zYj,qZq,Tm.ckn0]
theorem chF {f:Fm} (h:f.chk=0):A 245 [f.p] (.tuple [num f.cnt,num 0]):=by
 grind [Fm.chk0,zYl,qVj,Fm.ckn0]
theorem qLv:∀ (p:Pf) (n:Nat),n+p.cnt≤big→p.ck→O 255 [.loc 1 0,.pv p.p] (tly n) (.pv (.bool true)) (tly (n+p.cnt))
 | .leaf u i,n,hn,_=>by
  have hn:n+1≤big:=hn
  cases u<;>cases i<;>exact o2 2 [66,81] (qQv (a:=n) (b:=1) (by omega)) qY8
 | .refl t,n,hn,h=>by
  have hn:n+(1+t.cnt)≤big:=hn
  rw [show n+(Pf.refl t).cnt=n+1+t.cnt by grind [Pf.cnt]]
  exact o4 2 [66,81,92,(95,.o [] (tly (n+1+t.cnt)) (.pv (.bool true)))] (qQv (a:=n) (b:=1) (by omega)) qY8 (chT h) (qUq t.cnt (n+1) (by omega))
 | .p1 k a,n,hn,h=>by
  have hn:n+(1+a.cnt)≤big:=hn
  rw [show n+(Pf.p1 k a).cnt=n+1+a.cnt by grind [Pf.cnt]]
  have ga:=qLv a (n+1) (by omega) h
  have h0:=qQv (a:=n) (b:=1) (by omega)
  cases k<;>exact o3 2 [66,81,(122,.o [] (tly (n+1+a.cnt)) (.pv (.bool true)))] h0 qY8 ga
 | .p2 k a b,n,hn,h=>by
  have hn:n+(1+a.cnt+b.cnt)≤big:=hn
  rw [show n+(Pf.p2 k a b).cnt=n+1+a.cnt+b.cnt by grind [Pf.cnt]]
  have ga:=qLv a (n+1) (by omega) h.1
  have gb:=qLv b (n+1+a.cnt) (by omega) h.2
  have h0:=qQv (a:=n) (b:=1) (by omega)
  cases k<;>exact o4 2 [66,81,(122,.o [] (tly (n+1+a.cnt)) (.pv (.bool true))),(122,.o [] (tly (n+1+a.cnt+b.cnt)) (.pv (.bool true)))] h0 qY8 ga gb
 | .impI f a,n,hn,h=>by
  have hn:n+(1+f.cnt+a.cnt)≤big:=hn
  rw [show n+(Pf.impI f a).cnt=n+1+f.cnt+a.cnt by grind [Pf.cnt]]
  exact o5 2 [66,81,107,(110,.o [] (tly (n+1+f.cnt)) (.pv (.bool true))),(122,.o [] (tly (n+1+f.cnt+a.cnt)) (.pv (.bool true)))] (qQv (a:=n) (b:=1) (by omega)) qY8 (chF h.1) (qUq f.cnt (n+1) (by omega)) (qLv a (n+1+f.cnt) (by omega) h.2)
 | .all u s a,n,hn,h=>by
  have hb:=qQk
  have hn:n+(1+a.cnt)≤big:=hn
  rw [show n+(Pf.all u s a).cnt=n+1+a.cnt by grind [Pf.cnt]]
  have g1:=zVx s (by have:=h.1;omega)
  rw [(qGp h.1).1,(qGp h.1).2] at g1
  have ga:=qLv a (n+1) (by omega) h.2
  have h0:=qQv (a:=n) (b:=1) (by omega)
  cases u<;>exact o3 2 [66,74,(122,.o [] (tly (n+1+a.cnt)) (.pv (.bool true)))] h0 g1 ga
 | .ins u t a,n,hn,h=>by
  have hn:n+(1+t.cnt+a.cnt)≤big:=hn
  rw [show n+(Pf.ins u t a).cnt=n+1+t.cnt+a.cnt by grind [Pf.cnt]]
  have ga:=qLv a (n+1+t.cnt) (by omega) h.2
  have h0:=qQv (a:=n) (b:=1) (by omega)
  have gt:=chT h.1
  have ut:=qUq t.cnt (n+1) (by omega)
  cases u<;>exact o5 2 [66,81,92,(95,.o [] (tly (n+1+t.cnt)) (.pv (.bool true))),(122,.o [] (tly (n+1+t.cnt+a.cnt)) (.pv (.bool true)))] h0 qY8 gt ut ga
 | .ex u f t a,n,hn,h=>by
  have hn:n+(1+t.cnt+f.cnt+a.cnt)≤big:=hn
  rw [show n+(Pf.ex u f t a).cnt=n+1+t.cnt+f.cnt+a.cnt by grind [Pf.cnt]]
  have ga:=qLv a (n+1+t.cnt+f.cnt) (by omega) h.2.2
  have h0:=qQv (a:=n) (b:=1) (by omega)
  have gt:=chT h.1
  have ut:=qUq t.cnt (n+1) (by omega)
  have gf:=chF h.2.1
  have uf:=qUq f.cnt (n+1+t.cnt) (by omega)
  cases u<;>exact o7 2 [66,81,92,(95,.o [] (tly (n+1+t.cnt)) (.pv (.bool true))),107,(110,.o [] (tly (n+1+t.cnt+f.cnt)) (.pv (.bool true))),(122,.o [] (tly (n+1+t.cnt+f.cnt+a.cnt)) (.pv (.bool true)))] h0 qY8 gt ut gf uf ga
 | .ind l f t a b,n,hn,h=>by
  have hn:n+(1+t.cnt+f.cnt+a.cnt+b.cnt)≤big:=hn
  rw [show n+(Pf.ind l f t a b).cnt=n+1+t.cnt+f.cnt+a.cnt+b.cnt by grind [Pf.cnt]]
  have ga:=qLv a (n+1+t.cnt+f.cnt) (by omega) h.2.2.1
  have gb:=qLv b (n+1+t.cnt+f.cnt+a.cnt) (by omega) h.2.2.2
  have h0:=qQv (a:=n) (b:=1) (by omega)
  have gt:=chT h.1
  have ut:=qUq t.cnt (n+1) (by omega)
  have gf:=chF h.2.1
  have uf:=qUq f.cnt (n+1+t.cnt) (by omega)
  cases l<;>exact o8 2 [66,81,92,(95,.o [] (tly (n+1+t.cnt)) (.pv (.bool true))),107,(110,.o [] (tly (n+1+t.cnt+f.cnt)) (.pv (.bool true))),(122,.o [] (tly (n+1+t.cnt+f.cnt+a.cnt)) (.pv (.bool true))),(122,.o [] (tly (n+1+t.cnt+f.cnt+a.cnt+b.cnt)) (.pv (.bool true)))] h0 qY8 gt ut gf uf ga gb
 | .subst f a b,n,hn,h=>by
  have hn:n+(1+f.cnt+a.cnt+b.cnt)≤big:=hn
  rw [show n+(Pf.subst f a b).cnt=n+1+f.cnt+a.cnt+b.cnt by grind [Pf.cnt]]
  exact o6 2 [66,81,107,(110,.o [] (tly (n+1+f.cnt)) (.pv (.bool true))),(122,.o [] (tly (n+1+f.cnt+a.cnt)) (.pv (.bool true))),(122,.o [] (tly (n+1+f.cnt+a.cnt+b.cnt)) (.pv (.bool true)))] (qQv (a:=n) (b:=1) (by omega)) qY8 (chF h.1) (qUq f.cnt (n+1) (by omega)) (qLv a (n+1+f.cnt) (by omega) h.2.1) (qLv b (n+1+f.cnt+a.cnt) (by omega) h.2.2)
theorem zEt (p:Pf) (h:p.cnt≤16384) (hc:p.ck):A 114 [p.p] (num 0):=by
 have hb:=qQk
 have g:=qLv p 0 (by omega) hc
 rw [Nat.zero_add] at g
 have g1:A 182 [p.p] (.tuple [num p.cnt,num 0]):=f2 [(10,.o [] (tly p.cnt) (.pv (.bool true))),22] g (qZ4 h)
 exact f1 [7] g1
abbrev u32 (z:Int):PV:=.num .u32 z
theorem qOe (z:Int):0≤IntKind.u32.wrap z∧IntKind.u32.wrap z<4294967296:=by
 have:IntKind.u32.wrap z=z % 4294967296:=by rfl
 omega
theorem inS {z:Int} (h:0≤z∧z<4294967296):inB z=true:=zW5 (by omega) (by omega)
theorem qUr (op:BinOp) (a b:Int):0≤qQj op .u32 a b∧qQj op .u32 a b<4294967296:=by
 cases op<;>first|exact qOe _|(show (0:Int)≤0∧(0:Int)<4294967296;exact⟨by decide,by decide⟩)
theorem qLj (a b:Int):(bif qXt .u32 .u32 then inB (qQj .or .u32 a b) else false)=true∧u32 (qQj .or .u32 a b)=u32 (qQj .or .u32 a b):=⟨(show inB (qQj .or .u32 a b)=true from inS (qUr .or a b)),rfl⟩
theorem zJn (a b:Int):(bif qXt .u32 .u32 then inB (qQj .and .u32 a b) else false)=true∧u32 (qQj .and .u32 a b)=u32 (qQj .and .u32 a b):=⟨(show inB (qQj .and .u32 a b)=true from inS (qUr .and a b)),rfl⟩
def qLk (a:Int) (n:Nat):Int:=IntKind.u32.wrap (a * 2 ^ (min (Int.ofNat n).toNat IntKind.u32.bits))
theorem qSl (a:Int) (n:Nat):(bif ltI (.ofNat n) 0 then false else inB (IntKind.u32.wrap (a * 2 ^ (min (Int.ofNat n).toNat IntKind.u32.bits))))=true∧u32 (IntKind.u32.wrap (a * 2 ^ (min (Int.ofNat n).toNat IntKind.u32.bits)))=u32 (qLk a n):=by
 refine⟨?_,rfl⟩
 have h:=z0 n
 grind [ltI,inS,qOe]
abbrev obU (z:Int):List (Nat × Ob):=obE 3 4 (.fn 324 [.loc 1 0]) [(1,bx [u32 z])]
abbrev chU (z:Int):List (Nat × Ob):=[(1,bx [u32 z])]
abbrev U32 (z:Int):Prop:=0≤z∧z<4294967296
def BS (P:Nat→Prop) (z:Int):Prop:=∃ m:Nat,z = .ofNat m∧m<4294967296 ∧ ∀ v,m.testBit v=true→P v
theorem BS.u {P:Nat→Prop} {z:Int} (h:BS P z):U32 z:=by
 obtain⟨m,rfl,h,_⟩:=h
 grind
theorem BS.mono {P Q:Nat→Prop} {z:Int} (h:BS P z) (hq:∀ v,P v→Q v):BS Q z:=by
 obtain⟨m,e,h,k⟩:=h
 exact⟨m,e,h,fun v hv=>hq v (k v hv)⟩
theorem BS0 (P:Nat→Prop):BS P 0:=⟨0,rfl,by decide,fun v hv=>by simp at hv⟩
theorem qUs {n:Nat} (h:n<4294967296):IntKind.u32.wrap (n:Int)=(n:Int):=by
 have:IntKind.u32.wrap (n:Int)=(n:Int) % 4294967296:=by rfl
 omega
theorem zEu {m k:Nat} (hm:m<4294967296) (hk:k<4294967296):qQj .or .u32 (.ofNat m) (.ofNat k) = .ofNat (m ||| k):=by
 have h:m ||| k<2 ^ 32:=Nat.or_lt_two_pow (by omega) (by omega)
 have e:(BitVec.ofInt IntKind.u32.bits (Int.ofNat m) ||| BitVec.ofInt IntKind.u32.bits (Int.ofNat k)).toNat=m ||| k:=by
  show (BitVec.ofInt 32 (m:Int) ||| BitVec.ofInt 32 (k:Int)).toNat=m ||| k
  rw [BitVec.toNat_or,BitVec.ofInt_natCast,BitVec.ofInt_natCast,BitVec.toNat_ofNat,BitVec.toNat_ofNat,Nat.mod_eq_of_lt (by omega),Nat.mod_eq_of_lt (by omega)]
 grind [qQj,qUs]
theorem BS.or {P Q:Nat→Prop} {a b:Int} (ha:BS P a) (hb:BS Q b):BS (fun v=>P v∨Q v) (qQj .or .u32 a b):=by
 obtain⟨m,rfl,h1,h2⟩:=ha
 obtain⟨k,rfl,h3,h4⟩:=hb
 refine⟨m ||| k,zEu h1 h3,by have:m ||| k<2 ^ 32:=Nat.or_lt_two_pow (by omega) (by omega);omega,fun v hv => ?_⟩
 grind
theorem BS1 (n:Nat):BS (· = n) (qLk 1 n):=by
 show BS (· = n) (IntKind.u32.wrap (1 * 2 ^ (min n 32)))
 by_cases h:n<32
 ·have h2:2 ^ n<2 ^ 32:=Nat.pow_lt_pow_right (by decide) h
  refine⟨2 ^ n,?_,by omega,fun v hv => ?_⟩
  ·grind [qUs]
  grind
 ·rw [Nat.min_eq_right (by omega)]
  exact BS0 _
theorem BS.shr {P:Nat→Prop} {z:Int} (h:BS P z) (k:Nat):BS (fun v=>P (v+min k 32)) (z.fdiv (2 ^ (min (Int.ofNat k).toNat IntKind.u32.bits))):=by
 obtain⟨m,rfl,h1,h2⟩:=h
 show BS _ (Int.fdiv (.ofNat m) (2 ^ (min k 32)))
 refine⟨m / 2 ^ (min k 32),?_,Nat.lt_of_le_of_lt (Nat.div_le_self _ _) h1,fun v hv=>h2 _ ?_⟩
 ·rw [show (2:Int) ^ (min k 32)=((2 ^ (min k 32):Nat):Int) by simp,Int.fdiv_eq_ediv_of_nonneg _ (Int.natCast_nonneg _)]
  rfl
 grind
theorem BS.and1 {P:Nat→Prop} {z:Int} (h:BS P z) (h0:¬P 0):qQj .and .u32 z 1=0:=by
 obtain⟨m,rfl,h1,h2⟩:=h
 have e:(BitVec.ofInt IntKind.u32.bits (Int.ofNat m) &&& BitVec.ofInt IntKind.u32.bits 1).toNat=m &&& 1:=by
  show (BitVec.ofInt 32 (m:Int) &&& BitVec.ofInt 32 ((1:Nat):Int)).toNat=m &&& 1
  rw [BitVec.toNat_and,BitVec.ofInt_natCast,BitVec.ofInt_natCast,BitVec.toNat_ofNat,BitVec.toNat_ofNat,Nat.mod_eq_of_lt (by omega)]
 unfold qQj
 simp only [e]
 have:m.testBit 0=false:=by
  grind
 rw [Nat.and_one_is_mod,show m % 2=0 by simp_all]
 rfl
theorem qE2:∀ (t:Tm) (d:Nat) (z:Int),d+t.cnt≤mid→t.mx≤mid * mid→∀ {P:Nat→Prop},BS P z→∃ z',BS (fun v=>P v∨t.occ (v+d)≠0) z'∧O 353 [.pv t.p,.pv (num d),.loc 3 0,.loc 4 0] (obU z) (.pv ut) (obU z')
 | .v i,d,z,hd,hm,P,hz=>by
  have hmm:=qQh
  have hi:i≤mid * mid:=hm
  have hd:d+1≤mid:=hd
  rw [hmm] at hi
  have hb:=qQk
  by_cases h:d≤i
  ·have g1:=qT6 (a:=i) (b:=d) h
   have g2:inB (Int.ofNat i - .ofNat d)=true∧Int.ofNat i - .ofNat d = .ofNat (i-d):=by
    have e:Int.ofNat i - .ofNat d = .ofNat (i-d):=by simp;omega
    rw [e]
    exact⟨inb (n:=i-d) (by omega),rfl⟩
   exact⟨qQj .or .u32 z (qLk 1 (i-d)),(hz.or (BS1 (i-d))).mono (fun v hv=>hv.imp id fun e=>by grind [Tm.occ]),o4 5 [(15,.n [(7,.G),(11,.z (i-d)),(12,.v (u32 (qLk 1 (i-d)))),(13,.v (u32 (qQj .or .u32 z (qLk 1 (i-d)))))])] g1 g2 (qSl 1 (i-d)) (qLj z (qLk 1 (i-d)))⟩
  ·have g1:=qN6 (a:=i) (b:=d) (by omega)
   exact⟨z,hz.mono fun _ h => .inl h,o1 5 [(15,.n [(7,.H)])] g1⟩
 | .lam s a,d,z,hd,hx,P,hz=>by
  have hd:d+(1+a.cnt)≤mid:=hd
  have hm:=qQh
  have hb:=qQk
  obtain⟨z1,v1,g⟩:=qE2 a (d+1) z (by omega) hx hz
  exact⟨z1,v1,o2 5 [20,(31,.o [3,4] (chU z1) (.pv ut))] (qQv (a:=d) (b:=1) (by omega)) g⟩
 | .n0 k,d,z,hd,_,P,hz=>⟨z,hz.mono fun _ h => .inl h,by cases k<;>exact o0 5 []⟩
 | .n1 k a,d,z,hd,hx,P,hz=>by
  have hd:d+(1+a.cnt)≤mid:=hd
  obtain⟨z1,v1,g⟩:=qE2 a d z (by omega) hx hz
  exact⟨z1,v1,by cases k<;>exact o1 5 [(31,.o [3,4] (chU z1) (.pv ut))] g⟩
 | .n2 k a c,d,z,hd,hx,P,hz=>by
  have hd:d+(1+a.cnt+c.cnt)≤mid:=hd
  have hx:max a.mx c.mx≤mid * mid:=hx
  obtain⟨z1,v1,g⟩:=qE2 a d z (by omega) (by omega) hz
  obtain⟨z2,v2,g'⟩:=qE2 c d z1 (by omega) (by omega) v1
  exact⟨z2,v2.mono (fun v h=>by
   show P v∨a.occ (v+d)+c.occ (v+d)≠0
   grind),by cases k<;>exact o2 5 [(31,.o [3,4] (chU z1) (.pv ut)),(31,.o [3,4] (chU z2) (.pv ut))] g g'⟩
 | .n3 k s a c e,d,z,hd,hx,P,hz=>by
  have hd:d+(1+a.cnt+c.cnt+e.cnt)≤mid:=hd
  have hx:max a.mx (max c.mx e.mx)≤mid * mid:=hx
  obtain⟨z1,v1,g⟩:=qE2 a d z (by omega) (by omega) hz
  obtain⟨z2,v2,g'⟩:=qE2 c d z1 (by omega) (by omega) v1
  obtain⟨z3,v3,g''⟩:=qE2 e d z2 (by omega) (by omega) v2
  exact⟨z3,v3.mono (fun v h=>by
   show P v∨a.occ (v+d)+c.occ (v+d)+e.occ (v+d)≠0
   grind),by cases k<;>exact o3 5 [(31,.o [3,4] (chU z1) (.pv ut)),(31,.o [3,4] (chU z2) (.pv ut)),(31,.o [3,4] (chU z3) (.pv ut))] g g' g''⟩
theorem TK.a240 {n:Nat} {t:Tm} (h:TK n t) (hn:n≤lim):∃ z,BS (fun v=>t.occ v≠0) z∧A 264 [t.p] (u32 z):=by
 have hm:=qQh
 obtain⟨z,v,g⟩:=qE2 t 0 0 (by have:=h.cnt;omega) (by have:=h.mx hn;rw [hm];omega) (BS0 fun _=>False)
 exact⟨z,v.mono fun _ h=>h.elim False.elim id,f1 [(6,.n [(8,.o [3,4] (chU z) (.pv ut))])] g⟩
theorem zYr (z:Int) (k:Nat) (hk:k≤32) {P:Nat→Prop} (hz:BS P z):∃ z',BS (fun v=>P (v+k)) z'∧A 263 [u32 z,num k] (u32 z'):=by
 have h0:=hz.shr k
 have h:=h0.u
 rw [Nat.min_eq_left hk] at h0
 have g:(bif ltI (.ofNat k) 0 then false else inB (z.fdiv (2 ^ (min (Int.ofNat k).toNat IntKind.u32.bits))))=true∧u32 (z.fdiv (2 ^ (min (Int.ofNat k).toNat IntKind.u32.bits)))=u32 (z.fdiv (2 ^ (min (Int.ofNat k).toNat IntKind.u32.bits))):=by
  have h':=z0 k
  grind [ltI,inS]
 exact⟨_,h0,f1 [(7,.v (u32 (z.fdiv (2 ^ (min (Int.ofNat k).toNat IntKind.u32.bits)))))] g⟩
abbrev hyc (h:Fm × Nat):List PV:=[num h.1.kd,num h.1.tk,.slice h.1.te,.slice h.1.ts,.slice h.1.es,num h.2]
theorem qOf (h:Fm × Nat):(hyc h).length=6:=rfl
abbrev plc (g:List Ty) (H:List (Fm × Nat)):PV:=.agg [num g.length,num (H.map hyc).length,tzs g,.slice (H.map hyc)]
theorem zKu (v h a b:Nat) (h1:v+a≤16) (h2:h+b≤16):A 259 [.agg [num v,num h],num a,num b] (num 0):=by
 have hb:=qQk
 exact f4 [10,11,16,17] (qQv (a:=v) (b:=a) (by omega)) (qZ4 (a:=16) (b:=v+a) h1) (qQv (a:=h) (b:=b) (by omega)) (qZ4 (a:=16) (b:=h+b) h2)
theorem qOg (g:List Ty) (H:List (Fm × Nat)) (s:Ty) (hg:g.length≤mid) (h:s.size≤big):A 261 [plc g H,tys [s]] (plc (g++[s]) H):=by
 have hm:=qQh
 have hb:=qQk
 rw [show plc (g++[s]) H = .agg [num (g.length+1),num (H.map hyc).length,tzs (g++[s]),.slice (H.map hyc)] by simp [plc]]
 exact f2 [8,15] (qEt g s hg h) (qQv (a:=g.length) (b:=1) (by omega))
theorem zKv (g:List Ty) (H:List (Fm × Nat)) (s u:Ty) (hg:g.length≤mid) (h:s.size≤big) (h':u.size≤big):A 261 [plc g H,tys [s,u]] (plc (g++[s,u]) H):=by
 have hm:=qQh
 have hb:=qQk
 rw [show plc (g++[s,u]) H = .agg [num (g.length+2),num (H.map hyc).length,tzs (g++[s,u]),.slice (H.map hyc)] by simp [plc]]
 exact f2 [8,15] (zKc g s u hg h h') (qQv (a:=g.length) (b:=2) (by omega))
theorem zV4 (g:List Ty) (H:List (Fm × Nat)) (f:Fm) (hH:H.length≤mid):A 197 [plc g H,f.p] (plc g (H++[(f,g.length)])):=by
 have hm:=qQh
 have hb:=qQk
 have g1:=qXh (H.map hyc).length
 have g2:=qN5 6 96 qOf (by decide) H (f,g.length) (by omega) (by simp only [maxLen];omega)
 have g3:=qQv (a:=(H.map hyc).length) (b:=1) (by simp;omega)
 rw [show plc g (H++[(f,g.length)]) = .agg [num g.length,num ((H.map hyc).length+1),tzs g,.slice (H.map hyc++[hyc (f,g.length)])] by simp [plc]]
 exact f3 [(13,.ok),(20,.ok),25] g1 g2 g3
abbrev vw (n:Nat) (H:List (Fm × Nat)):List Fm:=H.map fun h=>h.1.sh 0 (.ofNat (n-h.2))
structure PlOK (g:List Ty) (H:List (Fm × Nat)):Prop where
 gl:g.length≤16
 gs:∀ s∈g,s.size≤64
 hl:H.length≤16
 hs:∀ h∈H,FK h.2 h.1∧h.2≤g.length
theorem qE3 (n:Nat) (H:List (Fm × Nat)):(vw n H).length=H.length:=by simp
theorem FK.sh {n:Nat} {f:Fm} (h:FK n f) (c z:Nat):FK (n+z) (f.sh c (.ofNat z)):=⟨by rw [zZ4];exact h.cnt,by rw [zZ8];exact h.shp,qH5 z f c n h.sc⟩
theorem zEv (g:List Ty) (H:List (Fm × Nat)) (hp:PlOK g H) (i:Nat):(H.length≤i∧A 256 [plc g H,num i] (.tuple [.agg zF,.bool false])) ∨ ∃ f,i<H.length∧(vw g.length H)[H.length-1-i]? = some f∧FK g.length f∧A 256 [plc g H,num i] (.tuple [f.p,.bool true]):=by
 have hm:=qQh
 have hb:=qQk
 have hl:=hp.hl
 have hg:=hp.gl
 have hl':lim=100000:=rfl
 by_cases h:i<H.length
 ·right
  obtain⟨⟨f,v⟩,hj⟩:∃ x,H[H.length-1-i]? = some x:=⟨_,List.getElem?_eq_getElem (by omega)⟩
  obtain⟨k1,k2⟩:=hp.hs _ (List.mem_of_getElem? hj)
  simp only at k1 k2
  refine⟨f.sh 0 (.ofNat (g.length-v)),h,by simp_all,?_,?_⟩
  ·have:=k1.sh 0 (g.length-v)
   rwa [show v+(g.length-v)=g.length by omega] at this
  ·have g0:=qN6 (a:=i) (b:=(H.map hyc).length) (by simp_all)
   have g1:=qFg (a:=(H.map hyc).length) (by simp;omega) (by simp;omega)
   have g2:inB (Int.ofNat ((H.map hyc).length-1) - .ofNat i)=true∧Int.ofNat ((H.map hyc).length-1) - .ofNat i = .ofNat (H.length-1-i):=by
    have e:Int.ofNat ((H.map hyc).length-1) - .ofNat i = .ofNat (H.length-1-i):=by simp;omega
    rw [e]
    exact⟨inb (n:=H.length-1-i) (by omega),rfl⟩
   have g3:qXs (H.map hyc) (H.length-1-i)=some (hyc (f,v))∧qWd 6 (H.map hyc)=true:=qQ3 hj qOf
   have g4:inB (Int.ofNat g.length - .ofNat v)=true∧Int.ofNat g.length - .ofNat v = .ofNat (g.length-v):=by
    have e:Int.ofNat g.length - .ofNat v = .ofNat (g.length-v):=by simp;omega
    rw [e]
    exact⟨inb (n:=g.length-v) (by omega),rfl⟩
   have g5:=qPu f 0 (g.length-v) (by omega) (by have:=k1.cnt;omega) (by have:=k1.mx (by omega);rw [hm];omega)
   exact f6 [11,18,20,(21,.i (hyc (f,v))),30,31] g0 g1 g2 g3 g4 g5
 ·left
  refine⟨by omega,?_⟩
  exact f1 [11] (qT6 (a:=i) (b:=(H.map hyc).length) (by simp;omega))
open Go.Lg
set_option maxRecDepth 100000
def Jt.OK (ls:List Fm):Nat→List Fm→Jt→Prop
 | n,hs,.leaf u i f=>FK n f∧match u with
  | false=>i<hs.length∧hs[hs.length-1-i]? = some f
  | true=>ls[i]? = some f
 | n,_,.refl t=>TK n t∧FK n (.eq t t)
 | n,hs,.p1 k a f=>FK n f∧a.OK ls n hs∧match k with
  | .andL => ∃ y,a.f = .bin .and f y
  | .andR => ∃ x,a.f = .bin .and x f
  | .choice => ∃ s u x,a.f = .q .all s (.q .ex u x) ∧ ∃ y,(x.sh 2 (.ofNat 1)).pt vapp = .ok y∧f = .q .ex (.two true s u) (.q .all s y)
 | n,hs,.p2 k a b f=>FK n f∧a.OK ls n hs∧match k with
  | .andI=>b.OK ls n hs∧f = .bin .and a.f b.f
  | .impE=>b.OK ls n hs ∧ ∃ x,a.f = .bin .imp x f
  | .exE=>b.OK ls (n+1) (upH 1 hs++[a.f.bd])∧(∃ s,a.f = .q .ex s a.f.bd)∧wtF b.f=some f
  | .exUE=>b.OK ls (n+1) (upH 1 hs++[a.f.bd])∧(∃ s,a.f = .q .exU s a.f.bd)∧wtF b.f=some f
 | n,hs,.impI x a=>FK n x∧FK n (.bin .imp x a.f)∧a.OK ls n (hs++[x])
 | n,hs,.all u s a=>s.size≤64∧FK n (.q (aq u) s a.f)∧a.OK ls (n+1) (upH 1 hs)
 | n,hs,.ins u t a f=>FK n f∧TK n t∧a.OK ls n hs ∧ ∃ s x,a.f = .q (aq u) s x∧x.pt t = .ok f
 | n,hs,.ex u x t a=>FK n x∧TK n t∧a.OK ls n hs∧(∃ s,x = .q (eqq u) s x.bd)∧a.f.er=x.bd.er
 | n,hs,.ind l x t a b f=>FK n f∧FK (n+1) x∧TK n t∧a.OK ls n hs∧x.pt t = .ok f∧(a.f.er=x.er∧b.f.er=x.er)∧match l with
  | false=>b.OK ls (n+1) (upH 1 hs++[x])
  | true=>b.OK ls (n+2) (upH 2 hs++[x.sh 1 (.ofNat 1)])
 | n,hs,.subst x a b f=>FK n f∧FK (n+1) x∧a.OK ls n hs∧b.OK ls n hs∧b.f.er=x.er ∧ ∃ t u,a.f = .eq t u∧x.pt u = .ok f
def zEw:Ob:=.smap false [(.int 1,.fn 183 []),(.int 2,.fn 184 []),(.int 3,.fn 185 []),(.int 4,.fn 186 []),(.int 5,.fn 186 []),(.int 6,.fn 187 []),(.int 7,.fn 188 []),(.int 8,.fn 189 []),(.int 12,.fn 189 []),(.int 9,.fn 190 []),(.int 13,.fn 190 []),(.int 10,.fn 191 []),(.int 14,.fn 191 []),(.int 11,.fn 192 []),(.int 15,.fn 192 []),(.int 16,.fn 193 []),(.int 17,.fn 193 []),(.int 18,.fn 194 []),(.int 19,.fn 195 []),(.int 20,.fn 196 [])]
abbrev ckO (ls:List Fm):List (Nat × Ob):=[(3,zEw),(4,.box [.pv (fms ls),.map 3])]
abbrev qVz (y:Sy) (z:Int) (e:Nat):PV:=.tuple [.agg [num y.k,num y.tk,.slice y.te,.slice y.ts,.slice y.es,u32 z],num e]
def Jt.u0:Jt→Nat→Prop
 | .leaf _ _ _,_=>False
 | .refl _,_=>False
 | .p1 _ a _,v=>a.us v
 | .p2 k a b _,v=>a.us v∨match k with
  | .andI=>b.us v
  | .impE=>b.us v
  | _=>b.us (v+1)
 | .impI _ a,v=>a.us v
 | .all _ _ a,v=>a.us (v+1)
 | .ins u t a _,v=>a.us v∨u=false∧t.occ v≠0
 | .ex u _ t a,v=>a.us v∨u=false∧t.occ v≠0
 | .ind l _ t a b _,v=>t.occ v≠0∨a.us v∨b.us (v+lN l)
 | .subst _ _ b _,v=>b.us v
theorem zBn {j:Jt} {v:Nat} (h:j.f.has=true) (k:j.u0 v):j.us v:=by
 cases j<;>first|exact k.elim|exact⟨h,k⟩
def KI (ls:List Fm) (j:Jt):Prop:=∀ g H,PlOK g H→j.D ls g (vw g.length H)→j.p.ck→FK g.length j.f ∧ ∃ z,BS j.us z∧O 116 [.loc 4 0,.pv j.p.p,.pv (plc g H)] (ckO ls) (.pv (qVz j.f.y z 0)) (ckO ls)
def Pf.kf:Pf→Nat
 | .leaf false _=>183
 | .leaf true _=>184
 | .p2 .andI _ _=>185
 | .p1 .choice _=>196
 | .p1 _ _=>186
 | .impI _ _=>187
 | .p2 .impE _ _=>188
 | .p2 _ _ _=>192
 | .all _ _ _=>189
 | .ins _ _ _=>190
 | .ex _ _ _ _=>191
 | .ind _ _ _ _ _=>193
 | .refl _=>194
 | .subst _ _ _=>195
def KR (ls:List Fm) (j:Jt):Prop:=∀ g H,PlOK g H→j.D ls g (vw g.length H)→j.p.ck→j.f.sc g.length ∧ ∃ z,BS j.u0 z∧O j.p.kf [.loc 4 0,.pv j.p.p,.pv (plc g H)] (ckO ls) (.pv (qVz j.f.y z 0)) (ckO ls)
theorem ki {ls:List Fm} (j:Jt) (h:KR ls j):KI ls j:=by
 intro g H hp hD hc
 obtain⟨k1,z,hz,g1⟩:=h g H hp hD hc
 have hk:=zAw hD
 have hf:FK g.length j.f:=⟨(Fm.chk0 hk).1,(Fm.chk0 hk).2,k1⟩
 have g2:=hf.a89
 have g3:=hf.a70 (by have:=hp.gl;have hl:lim=100000:=rfl;omega)
 refine⟨hf,?_⟩
 generalize j.p=p at g1
 cases e1:j.f.has<;>rw [e1] at g3
 ·refine⟨0,BS0 _,?_⟩
  cases p<;>(try cases ‹Bool›)<;>(try cases ‹P1›)<;>(try cases ‹P2›)<;>exact o3 5 [(23,.o [3,4] [] (.pv (qVz j.f.y z 0))),32,38] g1 g2 g3
 ·refine⟨z,hz.mono fun v hv=>zBn e1 hv,?_⟩
  cases p<;>(try cases ‹Bool›)<;>(try cases ‹P1›)<;>(try cases ‹P2›)<;>exact o3 5 [(23,.o [3,4] [] (.pv (qVz j.f.y z 0))),32,38] g1 g2 g3
theorem FK.cn {n:Nat} {f:Fm} (h:FK n f):f.cnt≤mid:=by
 have hm:=qQh
 have:=h.cnt
 omega
theorem zJo {ls:List Fm} {j:Jt} (h:KI ls j) {g:List Ty} {H:List (Fm × Nat)} (hp:PlOK g H) (hD:j.D ls g (vw g.length H)) (hc:j.p.ck) {k:Nat} (hk:j.f.kd=k):FK g.length j.f ∧ ∃ z,BS j.us z∧O 258 [.loc 4 0,.pv j.p.p,.pv (plc g H),.pv (num k)] (ckO ls) (.pv (qVz j.f.y z 0)) (ckO ls):=by
 obtain⟨hf,z,hz,g1⟩:=h g H hp hD hc
 exact⟨hf,z,hz,o2 5 [(16,.o [3,4] [] (.pv (qVz j.f.y z 0))),26] g1 (zZ5 hk)⟩
theorem zV5 {ls:List Fm} {j:Jt} (h:KI ls j) {g:List Ty} {H:List (Fm × Nat)} (hp:PlOK g H) (hD:j.D ls g (vw g.length H)) (hc:j.p.ck) {f w:Fm} {t:Tm} (hf:FK (g.length+1) f) (ht:TK g.length t) (e:f.pt t = .ok w) (hm:w.mt j.f):∃ z,BS j.us z∧O 268 [.loc 4 0,.pv j.p.p,.pv (plc g H),.pv f.p,.pv t.p] (ckO ls) (.pv (qVz j.f.y z 0)) (ckO ls):=by
 have hl:lim=100000:=rfl
 have hg:=hp.gl
 obtain⟨hj,z,hz,g1⟩:=h g H hp hD hc
 have g2:=zV3 hf ht (by omega)
 rw [e] at g2
 exact⟨z,hz,o3 5 [(19,.o [3,4] [] (.pv (qVz j.f.y z 0))),29,40] g1 g2 (zC5 (hf.pt ht e).2 hj (by omega) hm)⟩
theorem qSm {ls:List Fm} {i:Nat} {f:Fm} : KR ls (.leaf false i f):=by
 intro g H hp hD hc
 obtain⟨_,h1,h2⟩:=hD
 rw [qE3] at h1 h2
 rcases zEv g H hp i with ⟨h,_⟩|⟨f',_,h3,h4,g1⟩
 ·omega
 ·rw [h2] at h3
  cases h3
  exact⟨h4.sc,0,BS0 _,o1 5 [14] g1⟩
theorem qSn {ls:List Fm} {i:Nat} {f:Fm} (hl:∀ f∈ls,FK 0 f):KR ls (.leaf true i f):=by
 intro g H hp hD hc
 obtain⟨_,hj⟩:=hD
 have h:=(List.getElem?_eq_some_iff.1 hj).1
 exact⟨((hl f (List.mem_of_getElem? hj)).up (Nat.zero_le g.length)).sc,0,BS0 _,o2 5 [15,(23,.i f.c)] (qN6 (a:=i) (b:=(ls.map Fm.c).length) (by simp_all)) (qQ3 hj Fm.c_len)⟩
theorem zJp {ls:List Fm} {a b:Jt} {f:Fm} (Ha:KI ls a) (Hb:KI ls b):KR ls (.p2 .andI a b f):=by
 intro g H hp hD hc
 obtain⟨_,h1,h2,rfl⟩:=hD
 obtain⟨fa,z,hz,g1⟩:=Ha g H hp h1 hc.1
 obtain⟨fb,z',hz',g2⟩:=Hb g H hp h2 hc.2
 exact⟨⟨fa.sc,fb.sc⟩,_,hz.or hz',o3 5 [(18,.o [3,4] [] (.pv (qVz a.f.y z 0))),(32,.o [3,4] [] (.pv (qVz b.f.y z' 0))),(49,.v (u32 (qQj .or .u32 z z')))] g1 g2 (qLj z z')⟩
theorem zJq {ls:List Fm} {a:Jt} {f:Fm} (Ha:KI ls a):KR ls (.p1 .andL a f):=by
 intro g H hp hD hc
 obtain⟨_,h1,y,e⟩:=hD
 obtain⟨fa,z,hz,g1⟩:=zJo Ha hp h1 hc (k:=2) (by rw [e];rfl)
 rw [e] at g1 fa
 exact⟨fa.bin1.sc,z,hz,o1 5 [(18,.o [3,4] [] (.pv (qVz (Fm.bin .and f y).y z 0)))] g1⟩
theorem zJr {ls:List Fm} {a:Jt} {f:Fm} (Ha:KI ls a):KR ls (.p1 .andR a f):=by
 intro g H hp hD hc
 obtain⟨_,h1,y,e⟩:=hD
 obtain⟨fa,z,hz,g1⟩:=zJo Ha hp h1 hc (k:=2) (by rw [e];rfl)
 rw [e] at g1 fa
 exact⟨fa.bin2.sc,z,hz,o1 5 [(18,.o [3,4] [] (.pv (qVz (Fm.bin .and y f).y z 0)))] g1⟩
theorem PlOK.with {g:List Ty} {H:List (Fm × Nat)} (h:PlOK g H) {f:Fm} (hf:FK g.length f) (hl:H.length+1≤16):PlOK g (H++[(f,g.length)]):=by
 refine⟨h.gl,h.gs,by simp_all,fun x hx => ?_⟩
 rcases List.mem_append.1 hx with hx|hx
 ·exact h.hs x hx
 simp_all
theorem qC4 (n:Nat) (H:List (Fm × Nat)) (f:Fm):vw n (H++[(f,n)])=vw n H++[f]:=by
 simp only [vw,List.map_append,List.map_cons,List.map_nil,Nat.sub_self,zJb]
theorem zJs {ls:List Fm} {f:Fm} {a:Jt} (Ha:KI ls a):KR ls (.impI f a):=by
 intro g H hp hD hc
 obtain⟨_,⟨hf,ht⟩,hr,h1⟩:=hD
 have hm:=qQh
 have hg:=hp.gl
 rw [qE3] at hr
 obtain⟨e,g1,q1,q2⟩:=qUa f g hp.gs (Fm.chk0 hf).2 (by have:=(Fm.chk0 hf).1;omega)
 obtain rfl:=q2 ht
 have hF:FK g.length f:=⟨(Fm.chk0 hf).1,(Fm.chk0 hf).2,q1 rfl⟩
 have hp':=hp.with hF hr
 obtain⟨fa,z,hz,g4⟩:=Ha g _ hp' (by rw [qC4];exact h1) hc.2
 exact⟨⟨hF.sc,fa.sc⟩,z,hz,o4 5 [20,27,40,(41,.o [3,4] [] (.pv (qVz a.f.y z 0)))] g1 (zKu g.length (H.map hyc).length 0 1 (by omega) (by simp_all)) (zV4 g H f (by omega)) g4⟩
theorem zJt {ls:List Fm} {a b:Jt} {f:Fm} (Ha:KI ls a) (Hb:KI ls b):KR ls (.p2 .impE a b f):=by
 intro g H hp hD hc
 have hg:=hp.gl
 obtain⟨_,h1,h2,x,e,hm⟩:=hD
 obtain⟨fa,z,hz,g1⟩:=zJo Ha hp h1 hc.1 (k:=3) (by rw [e];rfl)
 rw [e] at g1 fa
 obtain⟨fb,z',hz',g2⟩:=Hb g H hp h2 hc.2
 exact⟨fa.bin2.sc,_,hz.or hz',o4 5 [(19,.o [3,4] [] (.pv (qVz (Fm.bin .imp x f).y z 0))),(33,.o [3,4] [] (.pv (qVz b.f.y z' 0))),47,(61,.v (u32 (qQj .or .u32 z z')))] g1 g2 (zC5 fa.bin1 fb (by omega) hm) (qLj z z')⟩
open Go.Lg
set_option maxRecDepth 100000
theorem PlOK.below1 {g:List Ty} {H:List (Fm × Nat)} (h:PlOK g H) {s:Ty} (hs:s.size≤64) (hl:g.length+1≤16):PlOK (g++[s]) H:=by
 refine⟨by simp_all,fun x hx => ?_,h.hl,fun x hx => ?_⟩
 ·rcases List.mem_append.1 hx with hx|hx
  ·exact h.gs x hx
  simp_all
 ·have:=h.hs x hx
  grind
theorem PlOK.below2 {g:List Ty} {H:List (Fm × Nat)} (h:PlOK g H) {s u:Ty} (hs:s.size≤64) (hu:u.size≤64) (hl:g.length+2≤16):PlOK (g++[s,u]) H:=by
 refine⟨by simp_all,fun x hx => ?_,h.hl,fun x hx => ?_⟩
 ·rcases List.mem_append.1 hx with hx|hx
  ·exact h.gs x hx
  grind
 ·have:=h.hs x hx
  grind
theorem qOh (k n:Nat):∀ (H:List (Fm × Nat)),(∀ h∈H,h.2≤n)→vw (n+k) H=upH k (vw n H)
 | [],_=>rfl
 | (f,v)::H,h=>by
  have h1:=qOh k n H (fun x hx=>h x (by simp [hx]))
  have h2:v≤n:=h (f,v) (by simp)
  simp only [vw,upH,List.map_cons] at h1 ⊢
  rw [h1,zKj,show n-v+k=n+k-v by omega]
theorem zJu {ls:List Fm} {u:Bool} {s:Ty} {a:Jt} (Ha:KI ls a) {g:List Ty} {H:List (Fm × Nat)} (hp:PlOK g H) (hc:(Pf.all u s a.p).ck) (hr:g.length+1≤16) (h1:a.D ls (g++[s]) (upH 1 (vw g.length H))) (hu:u=true→¬a.us 0):(Jt.all u s a).f.sc g.length ∧ ∃ z,BS (Jt.all u s a).u0 z∧O 189 [.loc 4 0,.pv (Pf.all u s a.p).p,.pv (plc g H)] (ckO ls) (.pv (qVz (Jt.all u s a).f.y z 0)) (ckO ls):=by
 have hs:s.size≤64:=hc.1
 have hm:=qQh
 have hb:=qQk
 have hl:=hp.hl
 have g1:=zKu g.length (H.map hyc).length 1 0 hr (by simp_all)
 have hp':=hp.below1 hs hr
 have g2:=qOg g H s (by omega) (by omega)
 have e1:(g++[s]).length=g.length+1:=by simp
 obtain⟨fa,z,hz,g3⟩:=Ha _ H hp' (by rw [e1,qOh 1 g.length H fun x hx=>(hp.hs x hx).2];exact h1) hc.2
 rw [e1] at fa
 obtain⟨z',hz',g4⟩:=zYr z 1 (by decide) hz
 refine⟨fa.sc,z',hz',?_⟩
 cases u
 ·exact o4 5 [14,29,(30,.o [3,4] [] (.pv (qVz a.f.y z 0))),53] g1 g2 g3 g4
 ·have e:(!eqI (qQj .and .u32 z 1) 0)=false:=by rw [hz.and1 (hu rfl)];rfl
  exact o6 5 [14,29,(30,.o [3,4] [] (.pv (qVz a.f.y z 0))),(42,.v (u32 (qQj .and .u32 z 1))),43,53] g1 g2 g3 (zJn z 1) e g4
theorem zKw {ls:List Fm} {u:Bool} {s:Ty} {a:Jt} (Ha:KI ls a):KR ls (.all u s a):=fun _ _ hp hD hc=>zJu Ha hp hc hD.2.1 hD.2.2.1 hD.2.2.2
theorem zDc (s:Ty) (h:s.size≤64):A 265 [.agg (szc s),s.p] (.bool true):=by
 have hb:=qQk
 obtain⟨r,g,e⟩:=zAz s s
 rw [(qZ6 s s).2 rfl] at e
 subst e
 exact f2 [7,8] (qC0 s (by omega)) g
theorem qC5 {g:List Ty} {t:Tm} {s:Ty} (hg:∀ s∈g,s.size≤64) (hl:g.length≤16) (h:t.chk=0) (e:t.tyR g = .ok s):A 101 [tzs g,t.p] (TR.ok s).q∧TK g.length t:=by
 have hm:=qQh
 obtain⟨h1,h2⟩:=Tm.chk0 h
 obtain⟨r,g1,_,q,e'⟩:=a94 t g hg h2 (by omega)
 rw [e] at e'
 subst e'
 exact⟨g1,h1,h2,q s rfl⟩
theorem zKx {ls:List Fm} {u:Bool} {t:Tm} {a:Jt} {f:Fm} (Ha:KI ls a):KR ls (.ins u t a f):=by
 intro g H hp hD hc
 obtain⟨_,ht,h1,s,x,hty,e,hpt⟩:=hD
 have hg:=hp.gl
 have hlm:lim=100000:=rfl
 obtain⟨g1,hT⟩:=qC5 hp.gs hg ht hty
 obtain⟨z1,hz1,g2⟩:=hT.a240 (by omega)
 obtain⟨fa,z,hz,g3⟩:=zJo Ha hp h1 hc.2 (k:=(aq u).n) (by rw [e];rfl)
 rw [e] at g3 fa
 have g4:=zDc s fa.qs
 have g5:=zV3 fa.qf hT (by omega)
 rw [hpt] at g5
 refine⟨(fa.qf.pt hT hpt).2.sc,?_⟩
 cases u
 ·exact⟨_,(hz.or hz1).mono fun v h=>h.imp id fun h=>⟨rfl,h⟩,o6 5 [23,31,(43,.o [3,4] [] (.pv (qVz (Fm.q .all s x).y z 0))),54,64,(71,.v (u32 (qQj .or .u32 z z1)))] g1 g2 g3 g4 g5 (qLj z z1)⟩
 ·exact⟨_,(hz.or (BS0 fun _=>False)).mono fun v h=>h.imp id False.elim,o6 5 [23,31,(43,.o [3,4] [] (.pv (qVz (Fm.q .allU s x).y z 0))),54,64,(71,.v (u32 (qQj .or .u32 z 0)))] g1 g2 g3 g4 g5 (qLj z 0)⟩
theorem zBo {ls:List Fm} {u:Bool} {f:Fm} {t:Tm} {a:Jt} (Ha:KI ls a):KR ls (.ex u f t a):=by
 intro g H hp hD hc
 obtain⟨⟨hf,hfy⟩,ht,h1,s,x,w,hty,rfl,hpt,hmt⟩:=hD
 have hm:=qQh
 have hg:=hp.gl
 have hlm:lim=100000:=rfl
 obtain⟨e,g1,q1,q2⟩:=qUa (.q (eqq u) s x) g hp.gs (Fm.chk0 hf).2 (by have:=(Fm.chk0 hf).1;omega)
 obtain rfl:=q2 hfy
 have hF:FK g.length (.q (eqq u) s x):=⟨(Fm.chk0 hf).1,(Fm.chk0 hf).2,q1 rfl⟩
 obtain⟨g2,hT⟩:=qC5 hp.gs hg ht hty
 have g3:=zDc s hF.qs
 obtain⟨z,hz,g4⟩:=zV5 Ha hp h1 hc.2.2 hF.qf hT hpt hmt
 refine⟨hF.sc,?_⟩
 cases u
 ·obtain⟨z1,hz1,g5⟩:=hT.a240 (by omega)
  exact⟨_,(hz.or hz1).mono fun v h=>h.imp id fun h=>⟨rfl,h⟩,o6 5 [30,44,54,(69,.o [3,4] [] (.pv (qVz a.f.y z 0))),81,(82,.v (u32 (qQj .or .u32 z z1)))] g1 g2 g3 g4 g5 (qLj z z1)⟩
 ·exact⟨_,(hz.or (BS0 fun _=>False)).mono fun v h=>h.imp id False.elim,o5 5 [30,44,54,(69,.o [3,4] [] (.pv (qVz a.f.y z 0))),(82,.v (u32 (qQj .or .u32 z 0)))] g1 g2 g3 g4 (qLj z 0)⟩
theorem zJv {n:Nat} {f g:Fm} (h:FK (n+1) f) (hn:n+1≤90000) (e:wtF f=some g):g.sc n∧g.shp=true∧g.cnt≤16777216:=by
 have hl:lim=100000:=rfl
 have c:=h.cnt
 unfold wtF at e
 split at e
 ·rename_i h0
  cases e
  have:=h.low h0
  exact⟨this.sc,this.shp,by have:=this.cnt;omega⟩
 ·split at e
  ·rename_i y e1
   split at e
   ·rename_i h0
    cases e
    obtain⟨k1,k2,k3⟩:=qLi f (n+1) h (by omega) y e1
    refine⟨qK7 _ n y 0 k1 (.inr h0),qWg 0 _ y 0 (.inr h0) k2,?_⟩
    rw [qGs h0]
    omega
   ·cases e
  ·cases e
theorem zJw {ls:List Fm} {t:Tm} : KR ls (.refl t):=by
 intro g H hp hD hc
 obtain⟨_,ht,hty⟩:=hD
 have hm:=qQh
 have hg:=hp.gl
 obtain⟨_,hT⟩:=qC5 hp.gs hg ht hty
 obtain⟨e,g1,_,q2⟩:=zA1 g t hp.gs hT.shp (by have:=hT.cnt;omega)
 obtain rfl:=q2 hty
 exact⟨⟨hT.sc,hT.sc⟩,0,BS0 _,o2 5 [17,24] g1 (zC9 t t)⟩
theorem qC6 {g:List Ty} {f:Fm} {s:Ty} (hg:∀ s∈g,s.size≤64) (hl:g.length≤16) (hs:s.size≤64) (h:f.chk=0) (ht:f.ty (g++[s])):A 254 [tzs (g++[s]),f.p] (num 0)∧FK (g.length+1) f:=by
 have hm:=qQh
 have el:(g++[s]).length=g.length+1:=by simp
 obtain⟨e,g1,q1,q2⟩:=qUa f (g++[s]) (fun x hx=>by
  grind) (Fm.chk0 h).2 (by have:=(Fm.chk0 h).1;omega)
 obtain rfl:=q2 ht
 exact⟨g1,(Fm.chk0 h).1,(Fm.chk0 h).2,by have:=q1 rfl;rwa [el] at this⟩
theorem qSo {ls:List Fm} {f r:Fm} {a b:Jt} (Ha:KI ls a) (Hb:KI ls b):KR ls (.subst f a b r):=by
 intro g H hp hD hc
 obtain⟨_,⟨hf,hfy⟩,h1,h2,t,u,w,e,hpt,hmt,hpu⟩:=hD
 have hm:=qQh
 have hg:=hp.gl
 have hlm:lim=100000:=rfl
 have g0:=qEt g .nat (by omega) (by decide)
 obtain⟨g1,hF⟩:=qC6 hp.gs hg (s:=.nat) (by decide) hf hfy
 obtain⟨fa,z,_,g2⟩:=zJo Ha hp h1 hc.2.1 (k:=1) (by rw [e];rfl)
 rw [e] at g2 fa
 obtain⟨z',hz',g3⟩:=zV5 Hb hp h2 hc.2.2 hF fa.eq1 hpt hmt
 have g4:=zV3 hF fa.eq2 (by omega)
 rw [hpu] at g4
 exact⟨(hF.pt fa.eq2 hpu).2.sc,z',hz',o6 5 [20,22,24,(36,.o [3,4] [] (.pv (qVz (Fm.eq t u).y z 0))),(56,.o [3,4] [] (.pv (qVz b.f.y z' 0))),70] qSj g0 g1 g2 g3 g4⟩
theorem zEx (s u:Ty):A 277 [u.p,tys [s]] (Ty.two true s u).p:=f0 []
theorem qGt (n:Nat):TK (n+2) vapp:=⟨by decide,rfl,⟨by show 1<n+2;omega,by show 0<n+2;omega⟩⟩
theorem qOi {ls:List Fm} {a:Jt} {f:Fm} (Ha:KI ls a):KR ls (.p1 .choice a f):=by
 intro g H hp hD hc
 obtain⟨_,h1,s,u,x,e,hsz,y,hpt,rfl⟩:=hD
 have hm:=qQh
 have hb:=qQk
 have hg:=hp.gl
 have hlm:lim=100000:=rfl
 obtain⟨fa,z,hz,g1⟩:=zJo Ha hp h1 hc (k:=4) (by rw [e];rfl)
 rw [e] at g1 fa
 have k1:=fa.qf
 have k2:=k1.qf
 have g3:=qPu x 2 1 (by omega) (by have:=k2.cnt;omega) (by have:=k2.mx (by omega);rw [hm];omega)
 have k3:=k2.sh 2 1
 have g5:=zV3 (n:=g.length+2) (f:=x.sh 2 (.ofNat 1)) (t:=vapp) k3 (qGt g.length) (by omega)
 rw [hpt] at g5
 have hv:=(FK.pt (n:=g.length+2) k3 (qGt g.length) hpt).2
 have g6:=zYi (.two true s u) (by omega)
 rw [(qGp hsz).2] at g6
 exact⟨hv.sc,z,hz,o8 5 [(21,.o [3,4] [] (.pv (qVz (Fm.q .all s (.q .ex u x)).y z 0))),43,49,50,51,53,54,61] g1 (zEx s u) g3 (qPw 1) (qPw 0) (qUo (.v 1) (.v 0)) g5 g6⟩
theorem qOj {ls:List Fm} (u:Bool) {a b:Jt} {f:Fm} (Ha:KI ls a) (Hb:KI ls b) (g:List Ty) (H:List (Fm × Nat)) (hp:PlOK g H) (hca:a.p.ck) (hcb:b.p.ck) (s:Ty) (h1:a.D ls g (vw g.length H)) (e:a.f = .q (eqq u) s a.f.bd) (h2:b.D ls (g++[s]) (upH 1 (vw g.length H)++[a.f.bd])) (n1:g.length+1≤16) (n2:(vw g.length H).length+1≤16) (hw:wtF b.f=some f) (hu:u=true→¬b.us 0) :
  f.sc g.length ∧ ∃ z,BS (fun v=>a.us v∨b.us (v+1)) z∧O 192 [.loc 4 0,.pv (Pf.p2 (ek u) a.p b.p).p,.pv (plc g H)] (ckO ls) (.pv (qVz f.y z 0)) (ckO ls):=by
 have hm:=qQh
 have hb:=qQk
 have hg:=hp.gl
 have hl:=hp.hl
 have hlm:lim=100000:=rfl
 rw [qE3] at n2
 generalize hx:a.f.bd=x at *
 obtain⟨fa,z,hz,g1⟩:=zJo Ha hp h1 hca (k:=(eqq u).n) (by rw [e];cases u<;>rfl)
 rw [e] at g1 fa
 have hs:=fa.qs
 have g2:=zKu g.length (H.map hyc).length 1 1 n1 (by simp_all)
 have el:(g++[s]).length=g.length+1:=by simp
 have hxF:FK (g++[s]).length x:=by rw [el];exact fa.qf
 have hp':=(hp.below1 hs n1).with hxF n2
 have g3:=qOg g H s (by omega) (by omega)
 have g4:=zV4 (g++[s]) H x (by omega)
 obtain⟨fb,z',hz',g5⟩:=Hb _ _ hp' (by rw [qC4,el,qOh 1 g.length H fun x hx=>(hp.hs x hx).2];exact h2) hcb
 rw [el] at fb
 have g6:=zEk fb (by omega) hw
 obtain⟨w1,_⟩:=zJv fb (by omega) hw
 obtain⟨z'',hz'',g7⟩:=zYr z' 1 (by decide) hz'
 refine⟨w1,_,hz.or hz'',?_⟩
 cases u
 ·exact o8 5 [(27,.o [3,4] [] (.pv (qVz (Fm.q .ex s x).y z 0))),36,52,58,(59,.o [3,4] [] (.pv (qVz b.f.y z' 0))),69,89,(90,.v (u32 (qQj .or .u32 z z'')))] g1 g2 g3 g4 g5 g6 g7 (qLj z z'')
 ·have e:(!eqI (qQj .and .u32 z' 1) 0)=false:=by rw [hz'.and1 (hu rfl)];rfl
  exact o10 5 [(27,.o [3,4] [] (.pv (qVz (Fm.q .exU s x).y z 0))),36,52,58,(59,.o [3,4] [] (.pv (qVz b.f.y z' 0))),69,(80,.v (u32 (qQj .and .u32 z' 1))),81,89,(90,.v (u32 (qQj .or .u32 z z'')))] g1 g2 g3 g4 g5 g6 (zJn z' 1) e g7 (qLj z z'')
theorem zKy {ls:List Fm} {a b:Jt} {f:Fm} (Ha:KI ls a) (Hb:KI ls b):KR ls (.p2 .exE a b f):=by
 intro g H hp hD hc
 obtain⟨_,h1,⟨s,e,h2⟩,⟨n1,n2⟩,hw⟩:=hD
 exact qOj false Ha Hb g H hp hc.1 hc.2 s h1 e h2 n1 n2 hw (fun h=>nomatch h)
theorem zJx {ls:List Fm} {a b:Jt} {f:Fm} (Ha:KI ls a) (Hb:KI ls b):KR ls (.p2 .exUE a b f):=by
 intro g H hp hD hc
 obtain⟨_,h1,⟨s,e,h2⟩,⟨n1,n2⟩,hw,hu⟩:=hD
 exact qOj true Ha Hb g H hp hc.1 hc.2 s h1 e h2 n1 n2 hw (fun _=>hu)
open Go.Lg
set_option maxRecDepth 100000
abbrev sucT1:Tm:=.n1 .succ (.v 0)
abbrev conT:Tm:=.n2 .cons (.v 1) (.v 0)
abbrev zEy:PV:=.agg ([num 1]++(Tm.n0 .zero).c++[tys [.nat]]++sucT1.c)
abbrev zEz:PV:=.agg ([num 2]++(Tm.n0 .nil).c++[tys [.nat,.list]]++conT.c)
theorem zE0:A 319 [] Ty.list.p:=f0 []
theorem zKz:A 270 [num 16] zEy:=f4 [5,6,8,10] (qH9 .zero) qSj (qPw 0) (qUm .succ (.v 0))
theorem zK0:A 270 [num 17] zEz:=f6 [12,13,14,16,17,19] (qH9 .nil) qSj zE0 (qPw 1) (qPw 0) (qIa .cons (.v 1) (.v 0))
theorem TK0 (k:K0) (n:Nat):TK n (.n0 k):=⟨by show 1≤4096;decide,rfl,trivial⟩
theorem zJy (n:Nat):TK (n+1) sucT1:=⟨by decide,rfl,by show 0<n+1;omega⟩
theorem zJz (n:Nat):TK (n+2) conT:=⟨by decide,rfl,⟨by show 1<n+2;omega,by show 0<n+2;omega⟩⟩
theorem zJ0 {ls:List Fm} {f r:Fm} {t:Tm} {a b:Jt} (Ha:KI ls a) (Hb:KI ls b):KR ls (.ind false f t a b r):=by
 intro g H hp hD hc
 obtain⟨_,⟨hf,hfy⟩,⟨ht,hty⟩,⟨h1,wa,hpa,hma⟩,⟨n1,n2⟩,⟨h2,wb,hpb,hmb⟩,hpt⟩:=hD
 have hm:=qQh
 have hb:=qQk
 have hg:=hp.gl
 have hl:=hp.hl
 have hlm:lim=100000:=rfl
 rw [qE3] at n2
 have g0:=qEt g .nat (by omega) (by decide)
 obtain⟨g1,hF⟩:=qC6 hp.gs hg (s:=.nat) (by decide) hf hfy
 obtain⟨_,hT⟩:=qC5 hp.gs hg ht hty
 obtain⟨e,g2,_,q2⟩:=zA0 g t 1 hp.gs hT.shp (by have:=hT.cnt;omega)
 obtain rfl:=q2 _ hty rfl
 obtain⟨z,hz,g3⟩:=zV5 Ha hp h1 hc.2.2.1 hF (TK0 .zero g.length) hpa hma
 have g4:=zKu g.length (H.map hyc).length 1 1 n1 (by simp_all)
 have el2:(g++[Ty.nat]).length=g.length+1:=by simp
 have hx:FK (g++[Ty.nat]).length f:=by rw [el2];exact hF
 have hp':=(hp.below1 (s:=.nat) (by decide) n1).with hx n2
 have g5:=qOg g H .nat (by omega) (by decide)
 have g6:A 273 [f.p,num 1,num 0] f.p:=by have:=qPu f 1 0 (by omega) (by have:=hF.cnt;omega) (by have:=hF.mx (by omega);rw [hm];omega);rwa [zJb] at this
 have g7:=zV4 (g++[Ty.nat]) H f (by omega)
 have g8:=qPu f 1 1 (by omega) (by have:=hF.cnt;omega) (by have:=hF.mx (by omega);rw [hm];omega)
 have hn:FK ((g++[Ty.nat]).length+1) (f.sh 1 (.ofNat 1)):=by rw [el2];exact hF.sh 1 1
 obtain⟨z',hz',g9⟩:=zV5 Hb hp' (by rw [qC4,el2,qOh 1 g.length H fun x hx=>(hp.hs x hx).2];exact h2) hc.2.2.2 hn (by rw [el2];exact zJy g.length) hpb hmb
 obtain⟨z1,hz1,g10⟩:=hT.a240 (by omega)
 obtain⟨z2,hz2,g11⟩:=zYr z' 1 (by decide) hz'
 have g12:=zV3 hF hT (by omega)
 rw [hpt] at g12
 have o1':=qLj z1 z
 have o2':=qLj (qQj .or .u32 z1 z) z2
 refine⟨(hF.pt hT hpt).2.sc,_,((hz1.or hz).or hz2).mono fun v h=>or_assoc.1 h,?_⟩
 exact o16 5 [29,36,38,48,(63,.o [3,4] [] (.pv (qVz a.f.y z 0))),75,83,89,90,102,(105,.o [3,4] [] (.pv (qVz b.f.y z' 0))),115,120,(123,.v (u32 (qQj .or .u32 z1 z))),129,(130,.v (u32 (qQj .or .u32 (qQj .or .u32 z1 z) z2)))] zKz g0 g1 g2 g3 g4 g5 g6 g7 g8 g9 g12 g10 o1' g11 o2'
theorem zJ1 {ls:List Fm} {f r:Fm} {t:Tm} {a b:Jt} (Ha:KI ls a) (Hb:KI ls b):KR ls (.ind true f t a b r):=by
 intro g H hp hD hc
 obtain⟨_,⟨hf,hfy⟩,⟨ht,hty⟩,⟨h1,wa,hpa,hma⟩,⟨n1,n2⟩,⟨h2,wb,hpb,hmb⟩,hpt⟩:=hD
 have hm:=qQh
 have hb:=qQk
 have hg:=hp.gl
 have hl:=hp.hl
 have hlm:lim=100000:=rfl
 rw [qE3] at n2
 have g0:=qEt g .list (by omega) (by decide)
 obtain⟨g1,hF⟩:=qC6 hp.gs hg (s:=.list) (by decide) hf hfy
 obtain⟨_,hT⟩:=qC5 hp.gs hg ht hty
 obtain⟨e,g2,_,q2⟩:=zA0 g t 2 hp.gs hT.shp (by have:=hT.cnt;omega)
 obtain rfl:=q2 _ hty rfl
 obtain⟨z,hz,g3⟩:=zV5 Ha hp h1 hc.2.2.1 hF (TK0 .nil g.length) hpa hma
 have g4:=zKu g.length (H.map hyc).length 2 1 n1 (by simpa using n2)
 have el2:(g++[Ty.nat,.list]).length=g.length+2:=by simp
 have hx:FK (g++[Ty.nat,.list]).length (f.sh 1 (.ofNat 1)):=by rw [el2];exact hF.sh 1 1
 have hp':=(hp.below2 (s:=.nat) (u:=.list) (by decide) (by decide) n1).with hx n2
 have g5:=zKv g H .nat .list (by omega) (by decide) (by decide)
 have g6:A 273 [f.p,num 1,num 1] (f.sh 1 (.ofNat 1)).p:=qPu f 1 1 (by omega) (by have:=hF.cnt;omega) (by have:=hF.mx (by omega);rw [hm];omega)
 have g7:=zV4 (g++[Ty.nat,.list]) H (f.sh 1 (.ofNat 1)) (by omega)
 have g8:=qPu f 1 2 (by omega) (by have:=hF.cnt;omega) (by have:=hF.mx (by omega);rw [hm];omega)
 have hn:FK ((g++[Ty.nat,.list]).length+1) (f.sh 1 (.ofNat 2)):=by rw [el2];have:=hF.sh 1 2;rwa [show g.length+1+2=g.length+2+1 by omega] at this
 obtain⟨z',hz',g9⟩:=zV5 Hb hp' (by rw [qC4,el2,qOh 2 g.length H fun x hx=>(hp.hs x hx).2];exact h2) hc.2.2.2 hn (by rw [el2];exact zJz g.length) hpb hmb
 obtain⟨z1,hz1,g10⟩:=hT.a240 (by omega)
 obtain⟨z2,hz2,g11⟩:=zYr z' 2 (by decide) hz'
 have g12:=zV3 hF hT (by omega)
 rw [hpt] at g12
 have o1':=qLj z1 z
 have o2':=qLj (qQj .or .u32 z1 z) z2
 refine⟨(hF.pt hT hpt).2.sc,_,((hz1.or hz).or hz2).mono fun v h=>or_assoc.1 h,?_⟩
 exact o16 5 [29,36,38,48,(63,.o [3,4] [] (.pv (qVz a.f.y z 0))),75,83,89,90,102,(105,.o [3,4] [] (.pv (qVz b.f.y z' 0))),115,120,(123,.v (u32 (qQj .or .u32 z1 z))),129,(130,.v (u32 (qQj .or .u32 (qQj .or .u32 z1 z) z2)))] zK0 g0 g1 g2 g3 g4 g5 g6 g7 g8 g9 g12 g10 o1' g11 o2'
theorem qQ9 {ls:List Fm} (hl:∀ f∈ls,FK 0 f):∀ j:Jt,KI ls j
 | .leaf false i f=>ki _ qSm
 | .leaf true i f=>ki _ (qSn hl)
 | .refl t=>ki _ zJw
 | .p1 .andL a f=>ki _ (zJq (qQ9 hl a))
 | .p1 .andR a f=>ki _ (zJr (qQ9 hl a))
 | .p1 .choice a f=>ki _ (qOi (qQ9 hl a))
 | .p2 .andI a b f=>ki _ (zJp (qQ9 hl a) (qQ9 hl b))
 | .p2 .impE a b f=>ki _ (zJt (qQ9 hl a) (qQ9 hl b))
 | .p2 .exE a b f=>ki _ (zKy (qQ9 hl a) (qQ9 hl b))
 | .p2 .exUE a b f=>ki _ (zJx (qQ9 hl a) (qQ9 hl b))
 | .impI f a=>ki _ (zJs (qQ9 hl a))
 | .all u s a=>ki _ (zKw (qQ9 hl a))
 | .ins u t a f=>ki _ (zKx (qQ9 hl a))
 | .ex u f t a=>ki _ (zBo (qQ9 hl a))
 | .ind false f t a b r=>ki _ (zJ0 (qQ9 hl a) (qQ9 hl b))
 | .ind true f t a b r=>ki _ (zJ1 (qQ9 hl a) (qQ9 hl b))
 | .subst f a b r=>ki _ (qSo (qQ9 hl a) (qQ9 hl b))
abbrev qE4 (g:List Ty) (hs:List Fm):PV:=.agg [tys g,fms hs]
abbrev HH (n:Nat) (hs:List Fm):List (Fm × Nat):=hs.map fun f=>(f,n)
abbrev zpl:List PV:=[.int 0,.int 0,.nils,.nils]
abbrev pcs (g:List Ty) (K:List (Fm × Nat)):List PV:=[num g.length,num (K.map hyc).length,tzs g,.slice (K.map hyc)]
abbrev zBp (hs:List Fm) (k:Nat) (c:List PV):IS:=st [(2,.loc 1 0),(3,.loc 2 0),(16,.pv (fms hs)),(17,.pv (num (hs.map Fm.c).length)),(18,.pv (num k))] [(1,bx zpl),(2,bx c)] 3 []
abbrev zK1 (c:List PV):IS:=st [(2,.loc 1 0),(3,.loc 2 0)] [(1,bx zpl),(2,bx c)] 3 []
abbrev qSp:Kp:=⟨[2,3,16,17,18],[1,2],3,[]⟩
abbrev zK2:Kp:=⟨[2,3],[1,2],3,[]⟩
theorem zE1 (g:List Ty) (hg:g.length≤16) (hgs:∀ s∈g,s.size≤64):A 117 [qE4 g []] (plc g []):=by
 have hb:=qQk
 have hm:=qQh
 have g0:=a93 g (by omega) (fun s h=>by have:=hgs s h;omega)
 have el:num (g.map Ty.c).length=num g.length:=by rw [List.length_map]
 have g1:Lp 117 0 0 (zBp [] 0 [num (g.map Ty.c).length,.int 0,tzs g,.nils]) (.exit 0) (zK1 [num (g.map Ty.c).length,.int 0,tzs g,.nils]):=x0 [] zK2
 have g2:A 117 [qE4 g []] (.agg [num (g.map Ty.c).length,num 0,tzs g,.slice []]):=f2 [8,(100004,.l qSp (.exit 0) (zK1 [num (g.map Ty.c).length,.int 0,tzs g,.nils]))] g0 g1
 rwa [el] at g2
theorem qUt {g:List Ty} (hg:g.length≤16) (hgs:∀ s∈g,s.size≤64):zVv g=0:=by
 have:∀ {g:List Ty},(∀ s∈g,s.size≤64)→qPo g=0:=by
  intro g
  induction g with
  | nil=>intro _;rfl
  | cons t r ih =>
   intro h
   have e:t.chk=0:=by rw [qWo,ckE_0.2 (h t (by simp))]
   grind [qPo]
 unfold zVv
 rw [show ltI (.ofNat 16) (.ofNat (g.map Ty.c).length)=false from qZ4 (by simp_all)]
 simp_all
open Go.Lg
set_option maxRecDepth 100000
theorem zJ2 (w:World):Calls Tryz.prog 201 #[.int .u32 0] w fun e w'=>e = .returned (.int .i64 32)∧w'=w:=by
 go_enter Tryz.func201,Tryz.ntmps201
 go_wp2
 go_ret
 exact⟨rfl,rfl⟩
theorem qOk (n:Int):IntKind.u32.wrap n=n % 4294967296:=by simp [IntKind.wrap,IntKind.signed,IntKind.bits]
theorem qUu (a b:Nat) (ha:a<4294967296) (hb:b<4294967296):bits .and .u32 (a:Int) (b:Int)=((a &&& b:Nat):Int):=by
 have hx:a &&& b<2 ^ 32:=Nat.and_lt_two_pow _ (by omega)
 have h1:(BitVec.ofInt 32 (a:Int)).toNat=a:=by
  rw [BitVec.ofInt_natCast,BitVec.toNat_ofNat];exact Nat.mod_eq_of_lt (by omega)
 have h2:(BitVec.ofInt 32 (b:Int)).toNat=b:=by
  rw [BitVec.ofInt_natCast,BitVec.toNat_ofNat];exact Nat.mod_eq_of_lt (by omega)
 show IntKind.u32.wrap ((BitVec.ofInt 32 (a:Int) &&& BitVec.ofInt 32 (b:Int)).toNat:Int)=_
 rw [BitVec.toNat_and,h1,h2,qOk]
 omega
theorem zK3 (x a:Nat) (hx:x<4294967296) (hx0:x≠0) (hlow:x &&& (4294967296-x)=a) :
  bits BinOp.and IntKind.u32 (x:Int) (-(x:Int) % 4294967296) * 125613361 % 4294967296 / 134217728=((a * 125613361 % 4294967296 / 134217728:Nat):Int):=by
 have e1 : -(x:Int) % 4294967296=((4294967296-x:Nat):Int):=by omega
 rw [e1,qUu x _ hx (by omega),hlow]
 omega
theorem zJ3 (x k idx:Nat) (w:World) (hx0:((x:Int) == 0)=false)
  (key:bits BinOp.and IntKind.u32 (x:Int) (-(x:Int) % 4294967296) * 125613361 % 4294967296 / 134217728=(idx:Int))
  (hi:idx<32) (hk:k<32) (hcell:w.cell? ⟨0,idx,none⟩=some (.int .u8 k)) :
  Calls Tryz.prog 201 #[.int .u32 x] w fun e w'=>e = .returned (.int .i64 k)∧w'=w:=by
 go_enter Tryz.func201,Tryz.ntmps201
 go_wp2_with (simp only [key])
 go_ret
 exact⟨rfl,rfl⟩
theorem qIb {H:Hp} : ∀ {cs:List PV} {vs:List Value} {i:Nat} {k:IntKind} {n:Int},RepL H cs vs→cs[i]? = some (.num k n)→vs[i]? = some (.int k n)
 | [],_,_,_,_,_,h=>by simp at h
 | c::cs,[],i,k,n,r,h=>by simp only [RepL] at r
 | c::cs,v::vs,0,k,n,r,h=>by
  simp only [RepL] at r
  simp only [List.getElem?_cons_zero,Option.some.injEq] at h
  subst h
  have:=r.1
  simp only [RepP] at this
  rw [this.1];rfl
 | c::cs,v::vs,i+1,k,n,r,h=>by
  simp only [RepL] at r
  exact qIb (i:=i) r.2 (by simpa using h)
theorem zK4:∀ i,i<32→deB[i]? = some (.num .u8 (.ofNat (Go.Lib.deBruijn32tab.getD i 0)))
 | 0,_=>rfl
 | 1,_=>rfl
 | 2,_=>rfl
 | 3,_=>rfl
 | 4,_=>rfl
 | 5,_=>rfl
 | 6,_=>rfl
 | 7,_=>rfl
 | 8,_=>rfl
 | 9,_=>rfl
 | 10,_=>rfl
 | 11,_=>rfl
 | 12,_=>rfl
 | 13,_=>rfl
 | 14,_=>rfl
 | 15,_=>rfl
 | 16,_=>rfl
 | 17,_=>rfl
 | 18,_=>rfl
 | 19,_=>rfl
 | 20,_=>rfl
 | 21,_=>rfl
 | 22,_=>rfl
 | 23,_=>rfl
 | 24,_=>rfl
 | 25,_=>rfl
 | 26,_=>rfl
 | 27,_=>rfl
 | 28,_=>rfl
 | 29,_=>rfl
 | 30,_=>rfl
 | 31,_=>rfl
 | n+32,h=>absurd h (by omega)
theorem zDd (z:Int) (hz:0≤z∧z<4294967296):∃ n:Nat,n≤32∧AC Tryz.prog gl 201 [.pv (.num .u32 z)] [] (.ret (.pv (.int (.ofNat n)))) []:=by
 obtain⟨x,rfl⟩:∃ x:Nat,z=x:=⟨z.toNat,by omega⟩
 have hx:x<4294967296:=by omega
 refine⟨Go.Lib.ctz 32 x,?_,?_,?_,?_,?_⟩
 ·by_cases h0:x=0
  ·subst h0;simp [Go.Lib.ctz]
  ·exact Nat.le_of_lt (Go.Lib.lowest_bit 32 x h0 hx).2
 ·exact⟨Tryz.f201,rfl,rfl,rfl⟩
 ·intro n hn;cases hn
 ·intro m o ho;cases ho
 ·intro E w vs hB hl hr
  have hv:vs=[.int .u32 (x:Int)]:=by
   cases vs with
   | nil=>cases hl
   | cons v r =>
    cases r with
    | cons _ _=>simp at hl
    | nil =>
     simp only [RepVL,RepV,RepP] at hr
     rw [hr.1.1]
  subst hv
  have fin:∀ (e:Ending) (w':World),e = .returned (.int .i64 (Go.Lib.ctz 32 x:Nat))∧w'=w→∃ E',qPf E w [] E' w' []∧qD0 E' (.ret (.pv (.int (.ofNat (Go.Lib.ctz 32 x))))) e:=by
   rintro e w' ⟨rfl,rfl⟩
   refine⟨E,⟨hB.heap,fun n o h=>(by cases h),fun n m o o' h=>(by cases h),Hle.refl _,Nat.le_refl _,⟨rfl,rfl,rfl⟩,fun b _ _=>⟨fun _=>rfl,rfl⟩,fun n o b h=>(by cases h),fun n o h=>(by cases h),fun n _ _=>⟨rfl,rfl,rfl⟩⟩,_,rfl,?_⟩
   simp only [RepV,RepP]
   rfl
  by_cases h0:x=0
  ·subst h0
   exact (zJ2 w).mono fin
  ·obtain⟨hlow,hk⟩:=Go.Lib.lowest_bit 32 x h0 hx
   obtain⟨hi,htab⟩:=Go.Lib.deBruijn32_at _ hk
   have hg:RepL E.H deB (E.H 0):=hB.glob 0 deB rfl
   have h1:=qIb hg (zK4 _ hi)
   rw [htab] at h1
   have hne:E.H 0≠[]:=by intro e;rw [e] at h1;simp at h1
   obtain⟨c,T,fr,hc,hm,_⟩:=hB.heap 0 hne
   have h2:=hm.2.1 _ _ h1 (by simp [qK8]) (by intro b;cases b<;>exact nofun)
   refine (zJ3 x _ _ w (by simp;omega) (zK3 x _ hx h0 hlow) hi hk ?_).mono fin
   simp only [World.cell?,hc]
   simpa using h2
theorem qIc {x:Nat} (h0:x≠0) (hx:x<4294967296):∃ y:Nat,y<x∧qQj .and .u32 (x:Int) (IntKind.u32.wrap ((x:Int)-1))=(y:Int):=by
 refine⟨x &&& (x-1),?_,?_⟩
 ·have:x &&& (x-1)≤x-1:=Nat.and_le_right
  omega
 ·have e:IntKind.u32.wrap ((x:Int)-1)=((x-1:Nat):Int):=by rw [qOk];omega
  rw [e]
  exact qUu x (x-1) hx (by omega)
theorem zK5 (z:Int):(bif qXt .u32 .u32 then inB (IntKind.u32.wrap (z-1)) else false)=true∧u32 (IntKind.u32.wrap (z-1))=u32 (IntKind.u32.wrap (z-1)):=⟨(show inB (IntKind.u32.wrap (z-1))=true from inS (qOe _)),rfl⟩
theorem qUv {z w:Int} {y:Nat} (h:qQj .and .u32 z w=(y:Int)):(bif qXt .u32 .u32 then inB (qQj .and .u32 z w) else false)=true∧u32 (qQj .and .u32 z w)=u32 (.ofNat y):=⟨(zJn z w).1,by rw [h];rfl⟩
abbrev zDe:Kp:=⟨[0,3],[0],1,[]⟩
theorem qOl:∀ (N x:Nat) (L:List Nat) (v:Nat),x≤N→x<4294967296→L.length+N≤8589934592 →
  ∃ (v':Nat) (L':List Nat),Lp 119 0 0 (st [(0,.pv (u32 (.ofNat x))),(3,.arr 0 v (L.map ic).length)] [(0,.arr v 1 3 (pvE (L.map ic)))] 1 []) (.exit 0) (st [(3,.arr 0 v' (L'.map ic).length)] [(0,.arr v' 1 3 (pvE (L'.map ic)))] 1 [])
 | N,0,L,v,h1,h2,h3=>⟨v,L,y1 [5] ⟨[3],[0],1,[]⟩ (qFf 0) (qQu (L.map ic))⟩
 | 0,x+1,L,v,h1,h2,h3=>absurd h1 (by omega)
 | N+1,x+1,L,v,h1,h2,h3=>by
  obtain⟨y,hy,ey⟩:=qIc (x:=x+1) (by omega) h2
  obtain⟨n,hn,g1⟩:=zDd (x+1:Nat) (by omega)
  obtain⟨v',L',ih⟩:=qOl N y (L++[n]) (v+1) (by omega) (by omega) (by simp;omega)
  have g5:=qR7 (A:=L.map ic) (v:=v) (ty:=3) (m:=8) (c:=ic n) (show 0<1 by decide) rfl rfl (by simp only [List.length_map,maxLen];omega) (by simp;omega)
  have e1:(L++[n]).map ic=L.map ic++[ic n]:=by simp
  rw [e1,qKm,show (L.map ic++[ic n]).length=(L.map ic).length+1 by simp] at ih
  exact⟨v',L',n7 [5,12,(14,.ok),(8,.v (u32 (IntKind.u32.wrap (.ofNat (x+1)-1)))),(9,.v (u32 (.ofNat y)))] zDe (zW3 (m:=x+1) (n:=0) (by omega)) g1 g5 (zK5 (.ofNat (x+1))) (qUv ey) (qZl (L.map ic) (ic n)) ih⟩
theorem zE2 (z:Int) (hz:U32 z):∃ L:List Nat,A 119 [u32 z] (qR4 L):=by
 obtain⟨x,rfl⟩:∃ x:Nat,z = .ofNat x:=⟨z.toNat,by simp;omega⟩
 have hx:x<4294967296:=by grind
 cases x with
 | zero=>exact⟨[],f0 []⟩
 | succ x =>
  obtain⟨y,hy,ey⟩:=qIc (x:=x+1) (by omega) hx
  obtain⟨n,hn,g1⟩:=zDd (x+1:Nat) (by omega)
  obtain⟨v,L,h⟩:=qOl 4294967296 y [n] 1 (by omega) (by omega) (by simp)
  have h2:=LoopIs.fz (by simp) h 0 (ver:=v) (sz:=1) (ty:=3) (ps:=L.map ic) rfl (by kernel_rfl)
  simp (decide:=true) only [fzS,fzO,qD4,qLq,and_self,↓reduceIte,List.take_of_length_le (Nat.le_refl (L.map ic).length)] at h2
  have h3:Lp 119 0 0 (st [(0,.pv (u32 (.ofNat (x+1)))),(3,.pv .nils)] [] 0 []) (.exit 0) (st [(3,.pv (qR4 L))] [] 1 []) :=
   n6 [5,12,(8,.v (u32 (IntKind.u32.wrap (.ofNat (x+1)-1)))),(9,.v (u32 (.ofNat y)))] zDe (zW3 (m:=x+1) (n:=0) (by omega)) g1 (zK5 (.ofNat (x+1))) (qUv ey) (qZl [] (ic n)) h2
  exact⟨L,f1 [(100002,.l ⟨[0,3],[],0,[]⟩ (.exit 0) (st [(3,.pv (qR4 L))] [] 1 []))] h3⟩
open Go.Lg
set_option maxRecDepth 100000
theorem qGu:∀ a b:Fm,a.mt b→a.er=b.er
 | .eq _ _,.eq _ _,_=>rfl
 | .bin _ f g,.bin _ f' g',⟨h1,h2,h3⟩=>by subst h1;simp only [Fm.er,qGu f f' h2,qGu g g' h3]
 | .q _ _ f,.q _ _ g,⟨h1,h2,h3⟩=>by subst h1;subst h2;simp only [Fm.er,qGu f g h3]
 | .eq _ _,.bin _ _ _,h=>h.elim
 | .eq _ _,.q _ _ _,h=>h.elim
 | .bin _ _ _,.eq _ _,h=>h.elim
 | .bin _ _ _,.q _ _ _,h=>h.elim
 | .q _ _ _,.eq _ _,h=>h.elim
 | .q _ _ _,.bin _ _ _,h=>h.elim
theorem qGv {g:List Ty} {f:Fm} (hg:∀ s∈g,s.size≤64) (hl:g.length≤17) (h:f.chk=0) (ht:f.ty g):FK g.length f:=by
 have hm:=qQh
 obtain⟨e,_,q1,q2⟩:=qUa f g hg (Fm.chk0 h).2 (by have:=(Fm.chk0 h).1;omega)
 exact⟨(Fm.chk0 h).1,(Fm.chk0 h).2,q1 (q2 ht)⟩
theorem FKc {n:Nat} {f:Fm} (h:f.chk=0) (hs:f.sc n):FK n f:=⟨(Fm.chk0 h).1,(Fm.chk0 h).2,hs⟩
theorem qBh {g:List Ty} {s:Ty} (hg:∀ s∈g,s.size≤64) (hs:s.size≤64):∀ x∈g++[s],x.size≤64:=fun x hx=>by
 grind
theorem qOm {n:Nat} {hs:List Fm} (h:∀ f∈hs,FK n f) (k:Nat):∀ f∈upH k hs,FK (n+k) f:=fun f hf=>by
 obtain⟨x,hx,rfl⟩:=List.mem_map.1 hf
 exact (h x hx).sh 0 k
theorem qOn {n:Nat} {hs:List Fm} {x:Fm} (h:∀ f∈hs,FK n f) (hx:FK n x):∀ f∈hs++[x],FK n f:=fun f hf=>by
 grind
theorem qFh {ls:List Fm} (hl:∀ f∈ls,FK 0 f):∀ (j:Jt) (g:List Ty) (hs:List Fm),j.D ls g hs→(∀ s∈g,s.size≤64)→g.length≤16→(∀ f∈hs,FK g.length f)→j.p.ck→j.OK ls g.length hs∧FK g.length j.f
 | .leaf u i f,g,hs,hD,hg,h16,hh,hc=>by
  have hf:FK g.length f:=by
   cases u
   ·exact hh f (List.mem_of_getElem? hD.2.2)
   ·exact (hl f (List.mem_of_getElem? hD.2)).up (Nat.zero_le _)
  exact⟨⟨hf,by cases u<;>exact hD.2⟩,hf⟩
 | .refl t,g,hs,⟨h0,h1,h2⟩,hg,h16,hh,hc=>by
  obtain⟨_,hT⟩:=qC5 hg h16 h1 h2
  have hf:FK g.length (.eq t t):=FKc h0 ⟨hT.sc,hT.sc⟩
  exact⟨⟨hT,hf⟩,hf⟩
 | .p1 k a f,g,hs,⟨h0,h1,h2⟩,hg,h16,hh,hc=>by
  obtain⟨o1,fa⟩:=qFh hl a g hs h1 hg h16 hh hc
  cases k
  ·obtain⟨y,e⟩:=h2
   rw [e] at fa
   exact⟨⟨fa.bin1,o1,y,e⟩,fa.bin1⟩
  ·obtain⟨y,e⟩:=h2
   rw [e] at fa
   exact⟨⟨fa.bin2,o1,y,e⟩,fa.bin2⟩
  ·obtain⟨s,u,x,e,hsz,y,hpt,rfl⟩:=h2
   rw [e] at fa
   have hv:=(FK.pt (n:=g.length+2) (fa.qf.qf.sh 2 1) (qGt g.length) hpt).2
   have hf:FK g.length (.q .ex (.two true s u) (.q .all s y)):=FKc h0 hv.sc
   exact⟨⟨hf,o1,s,u,x,e,y,hpt,rfl⟩,hf⟩
 | .p2 k a b f,g,hs,⟨h0,h1,h2⟩,hg,h16,hh,hc=>by
  obtain⟨o1,fa⟩:=qFh hl a g hs h1 hg h16 hh hc.1
  have el:∀ s:Ty,(g++[s]).length=g.length+1:=fun s=>by simp
  cases k
  ·obtain⟨h3,rfl⟩:=h2
   obtain⟨o2,fb⟩:=qFh hl b g hs h3 hg h16 hh hc.2
   have hf:FK g.length (.bin .and a.f b.f):=FKc h0 ⟨fa.sc,fb.sc⟩
   exact⟨⟨hf,o1,o2,rfl⟩,hf⟩
  ·obtain⟨h3,x,e,_⟩:=h2
   obtain⟨o2,fb⟩:=qFh hl b g hs h3 hg h16 hh hc.2
   rw [e] at fa
   exact⟨⟨fa.bin2,o1,o2,x,e⟩,fa.bin2⟩
  ·obtain⟨⟨s,e,h3⟩,⟨n1,_⟩,hw⟩:=h2
   generalize hx:a.f.bd=x at *
   rw [e] at fa
   obtain⟨o2,fb⟩:=qFh hl b (g++[s]) _ h3 (qBh hg fa.qs) (by rw [el];exact n1) (by rw [el];exact qOn (qOm hh 1) fa.qf) hc.2
   rw [el] at o2 fb
   have hf:FK g.length f:=FKc h0 (zJv fb (by omega) hw).1
   exact⟨⟨hf,o1,by rw [hx];exact o2,⟨s,by rw [hx];exact e⟩,hw⟩,hf⟩
  ·obtain⟨⟨s,e,h3⟩,⟨n1,_⟩,hw,_⟩:=h2
   generalize hx:a.f.bd=x at *
   rw [e] at fa
   obtain⟨o2,fb⟩:=qFh hl b (g++[s]) _ h3 (qBh hg fa.qs) (by rw [el];exact n1) (by rw [el];exact qOn (qOm hh 1) fa.qf) hc.2
   rw [el] at o2 fb
   have hf:FK g.length f:=FKc h0 (zJv fb (by omega) hw).1
   exact⟨⟨hf,o1,by rw [hx];exact o2,⟨s,by rw [hx];exact e⟩,hw⟩,hf⟩
 | .impI x a,g,hs,⟨h0,⟨h1,h2⟩,_,h3⟩,hg,h16,hh,hc=>by
  have fx:=qGv hg (by omega) h1 h2
  obtain⟨o1,fa⟩:=qFh hl a g _ h3 hg h16 (qOn hh fx) hc.2
  have hf:FK g.length (.bin .imp x a.f):=FKc h0 ⟨fx.sc,fa.sc⟩
  exact⟨⟨fx,hf,o1⟩,hf⟩
 | .all u s a,g,hs,⟨h0,n1,h1,_⟩,hg,h16,hh,hc=>by
  have el:(g++[s]).length=g.length+1:=by simp
  obtain⟨o1,fa⟩:=qFh hl a (g++[s]) _ h1 (qBh hg hc.1) (by rw [el];exact n1) (by rw [el];exact qOm hh 1) hc.2
  rw [el] at o1 fa
  have hf:FK g.length (.q (aq u) s a.f):=FKc h0 fa.sc
  exact⟨⟨hc.1,hf,o1⟩,hf⟩
 | .ins u t a f,g,hs,⟨h0,h1,h2,s,x,hty,e,hpt⟩,hg,h16,hh,hc=>by
  obtain⟨o1,fa⟩:=qFh hl a g hs h2 hg h16 hh hc.2
  obtain⟨_,hT⟩:=qC5 hg h16 h1 hty
  rw [e] at fa
  have hf:=(fa.qf.pt hT hpt).2
  exact⟨⟨hf,hT,o1,s,x,e,hpt⟩,hf⟩
 | .ex u x t a,g,hs,⟨⟨h0,h0'⟩,h1,h2,s,y,w,hty,e,hpt,hmt⟩,hg,h16,hh,hc=>by
  obtain⟨o1,fa⟩:=qFh hl a g hs h2 hg h16 hh hc.2.2
  obtain⟨_,hT⟩:=qC5 hg h16 h1 hty
  have hf:=qGv hg (by omega) h0 h0'
  subst e
  exact⟨⟨hf,hT,o1,⟨s,rfl⟩,by rw [← qGu _ _ hmt,qR5 hpt];rfl⟩,hf⟩
 | .ind l x t a b f,g,hs,⟨h0,⟨h1,h2⟩,⟨h3,h4⟩,⟨h5,wa,hpa,hma⟩,⟨n1,_⟩,⟨h6,wb,hpb,hmb⟩,hpt⟩,hg,h16,hh,hc=>by
  obtain⟨o1,fa⟩:=qFh hl a g hs h5 hg h16 hh hc.2.2.1
  obtain⟨_,hT⟩:=qC5 hg h16 h3 h4
  have fx:FK (g.length+1) x:=by
   have:=qGv (g:=g++[lT l]) (qBh hg (by cases l<;>decide)) (by simp;omega) h1 h2
   simp_all
  have hf:=(fx.pt hT hpt).2
  refine⟨⟨hf,fx,hT,o1,hpt,⟨by rw [← qGu _ _ hma,qR5 hpa],by rw [← qGu _ _ hmb,qR5 hpb,zZ7]⟩,?_⟩,hf⟩
  cases l
  ·have el:(g++lG false).length=g.length+1:=by simp [lG]
   have:=(qFh hl b (g++lG false) _ h6 (qBh hg (by decide)) (by rw [el];exact n1) (by rw [el];exact qOn (qOm hh 1) fx) hc.2.2.2).1
   rw [el] at this
   exact this
  ·have el:(g++lG true).length=g.length+2:=by simp [lG]
   have:=(qFh hl b (g++lG true) _ h6 (fun s hs=>by
    rcases List.mem_append.1 hs with h|h
    ·exact hg s h
    ·simp [lG] at h;rcases h with rfl|rfl<;>decide) (by rw [el];exact n1) (by rw [el];exact qOn (qOm hh 2) (fx.sh 1 1)) hc.2.2.2).1
   rw [el] at this
   exact this
 | .subst x a b f,g,hs,⟨h0,⟨h1,h2⟩,h3,h4,t,u,w,e,hpt,hmt,hpu⟩,hg,h16,hh,hc=>by
  obtain⟨o1,fa⟩:=qFh hl a g hs h3 hg h16 hh hc.2.1
  obtain⟨o2,fb⟩:=qFh hl b g hs h4 hg h16 hh hc.2.2
  have fx:FK (g.length+1) x:=by
   have:=qGv (g:=g++[.nat]) (qBh hg (by decide)) (by simp;omega) h1 h2
   simpa using this
  rw [e] at fa
  have hf:=(fx.pt fa.eq2 hpu).2
  exact⟨⟨hf,fx,o1,o2,by rw [← qGu _ _ hmt,qR5 hpt],t,u,e,hpu⟩,hf⟩
def Jt.pts:List Fm→Jt→List (List PV)
 | _,.leaf _ _ _=>[]
 | _,.refl _=>[]
 | hs,.p1 _ a _=>[[.ptr [num a.p.kd,num a.p.ix,num a.p.tk,.slice a.p.te,.slice a.p.ts,.slice a.p.fs,.slice a.p.es,num a.f.kd,num a.f.tk,.slice a.f.te,.slice a.f.ts,.slice a.f.es,fms hs,.bool a.f.has,.slice (a.pts hs)]]]
 | hs,.p2 k a b _=>match k with
  | .andI=>[[.ptr [num a.p.kd,num a.p.ix,num a.p.tk,.slice a.p.te,.slice a.p.ts,.slice a.p.fs,.slice a.p.es,num a.f.kd,num a.f.tk,.slice a.f.te,.slice a.f.ts,.slice a.f.es,fms hs,.bool a.f.has,.slice (a.pts hs)]],[.ptr [num b.p.kd,num b.p.ix,num b.p.tk,.slice b.p.te,.slice b.p.ts,.slice b.p.fs,.slice b.p.es,num b.f.kd,num b.f.tk,.slice b.f.te,.slice b.f.ts,.slice b.f.es,fms hs,.bool b.f.has,.slice (b.pts hs)]]]
  | .impE=>[[.ptr [num a.p.kd,num a.p.ix,num a.p.tk,.slice a.p.te,.slice a.p.ts,.slice a.p.fs,.slice a.p.es,num a.f.kd,num a.f.tk,.slice a.f.te,.slice a.f.ts,.slice a.f.es,fms hs,.bool a.f.has,.slice (a.pts hs)]],[.ptr [num b.p.kd,num b.p.ix,num b.p.tk,.slice b.p.te,.slice b.p.ts,.slice b.p.fs,.slice b.p.es,num b.f.kd,num b.f.tk,.slice b.f.te,.slice b.f.ts,.slice b.f.es,fms hs,.bool b.f.has,.slice (b.pts hs)]]]
  | .exE=>[[.ptr [num a.p.kd,num a.p.ix,num a.p.tk,.slice a.p.te,.slice a.p.ts,.slice a.p.fs,.slice a.p.es,num a.f.kd,num a.f.tk,.slice a.f.te,.slice a.f.ts,.slice a.f.es,fms hs,.bool a.f.has,.slice (a.pts hs)]],[.ptr [num b.p.kd,num b.p.ix,num b.p.tk,.slice b.p.te,.slice b.p.ts,.slice b.p.fs,.slice b.p.es,num b.f.kd,num b.f.tk,.slice b.f.te,.slice b.f.ts,.slice b.f.es,fms (upH 1 hs++[a.f.bd]),.bool b.f.has,.slice (b.pts (upH 1 hs++[a.f.bd]))]]]
  | .exUE=>[[.ptr [num a.p.kd,num a.p.ix,num a.p.tk,.slice a.p.te,.slice a.p.ts,.slice a.p.fs,.slice a.p.es,num a.f.kd,num a.f.tk,.slice a.f.te,.slice a.f.ts,.slice a.f.es,fms hs,.bool a.f.has,.slice (a.pts hs)]],[.ptr [num b.p.kd,num b.p.ix,num b.p.tk,.slice b.p.te,.slice b.p.ts,.slice b.p.fs,.slice b.p.es,num b.f.kd,num b.f.tk,.slice b.f.te,.slice b.f.ts,.slice b.f.es,fms (upH 1 hs++[a.f.bd]),.bool b.f.has,.slice (b.pts (upH 1 hs++[a.f.bd]))]]]
 | hs,.impI x a=>[[.ptr [num a.p.kd,num a.p.ix,num a.p.tk,.slice a.p.te,.slice a.p.ts,.slice a.p.fs,.slice a.p.es,num a.f.kd,num a.f.tk,.slice a.f.te,.slice a.f.ts,.slice a.f.es,fms (hs++[x]),.bool a.f.has,.slice (a.pts (hs++[x]))]]]
 | hs,.all _ _ a=>[[.ptr [num a.p.kd,num a.p.ix,num a.p.tk,.slice a.p.te,.slice a.p.ts,.slice a.p.fs,.slice a.p.es,num a.f.kd,num a.f.tk,.slice a.f.te,.slice a.f.ts,.slice a.f.es,fms (upH 1 hs),.bool a.f.has,.slice (a.pts (upH 1 hs))]]]
 | hs,.ins _ _ a _=>[[.ptr [num a.p.kd,num a.p.ix,num a.p.tk,.slice a.p.te,.slice a.p.ts,.slice a.p.fs,.slice a.p.es,num a.f.kd,num a.f.tk,.slice a.f.te,.slice a.f.ts,.slice a.f.es,fms hs,.bool a.f.has,.slice (a.pts hs)]]]
 | hs,.ex _ _ _ a=>[[.ptr [num a.p.kd,num a.p.ix,num a.p.tk,.slice a.p.te,.slice a.p.ts,.slice a.p.fs,.slice a.p.es,num a.f.kd,num a.f.tk,.slice a.f.te,.slice a.f.ts,.slice a.f.es,fms hs,.bool a.f.has,.slice (a.pts hs)]]]
 | hs,.ind l x _ a b _=>[[.ptr [num a.p.kd,num a.p.ix,num a.p.tk,.slice a.p.te,.slice a.p.ts,.slice a.p.fs,.slice a.p.es,num a.f.kd,num a.f.tk,.slice a.f.te,.slice a.f.ts,.slice a.f.es,fms hs,.bool a.f.has,.slice (a.pts hs)]],[.ptr [num b.p.kd,num b.p.ix,num b.p.tk,.slice b.p.te,.slice b.p.ts,.slice b.p.fs,.slice b.p.es,num b.f.kd,num b.f.tk,.slice b.f.te,.slice b.f.ts,.slice b.f.es,fms (zAv hs x l),.bool b.f.has,.slice (b.pts (zAv hs x l))]]]
 | hs,.subst _ a b _=>[[.ptr [num a.p.kd,num a.p.ix,num a.p.tk,.slice a.p.te,.slice a.p.ts,.slice a.p.fs,.slice a.p.es,num a.f.kd,num a.f.tk,.slice a.f.te,.slice a.f.ts,.slice a.f.es,fms hs,.bool a.f.has,.slice (a.pts hs)]],[.ptr [num b.p.kd,num b.p.ix,num b.p.tk,.slice b.p.te,.slice b.p.ts,.slice b.p.fs,.slice b.p.es,num b.f.kd,num b.f.tk,.slice b.f.te,.slice b.f.ts,.slice b.f.es,fms hs,.bool b.f.has,.slice (b.pts hs)]]]
abbrev Jt.ptr (hs:List Fm) (a:Jt):PV:=.ptr [num a.p.kd,num a.p.ix,num a.p.tk,.slice a.p.te,.slice a.p.ts,.slice a.p.fs,.slice a.p.es,num a.f.kd,num a.f.tk,.slice a.f.te,.slice a.f.ts,.slice a.f.es,fms hs,.bool a.f.has,.slice (a.pts hs)]
abbrev J68 (ls hs:List Fm) (j:Jt):Prop:=A 62 [fms ls,fms hs,j.p.p] (j.ptr hs)
theorem zK6 (hs:List Fm) (f:Fm) (h:hs.length≤mid):A 203 [fms hs,f.p] (fms (hs++[f])):=by
 have hm:=qQh
 have g1:=qXh (hs.map Fm.c).length
 have g2:=qN5 5 88 Fm.c_len (by decide) hs f (by omega) (by simp only [maxLen];omega)
 rw [show fms (hs++[f]) = .slice (hs.map Fm.c++[f.c]) by simp [fms]]
 exact f2 [(10,.ok),(13,.ok)] g1 g2
abbrev zK7 (hs:List Fm) (n k:Nat) (x:V):List (Nat × V):=[(1,.pv (num n)),(5,x),(10,.pv (fms hs)),(11,.pv (num (hs.map Fm.c).length)),(12,.pv (num k))]
abbrev zDf:Kp:=⟨[1,5,10,11,12],[2],3,[]⟩
theorem qOo {hs:List Fm} (n:Nat) (hl:hs.length≤mid) (H:∀ f∈hs,A 281 [f.p,num 0,num n] (FR.ok (f.sh 0 (.ofNat n))).p):∀ (r:List Fm) (k v:Nat) (A:List (List PV)),hs.drop k=r→A.length=k →
  ∃ v',Lp 204 0 0 (st (zK7 hs n k (.arr 2 v A.length)) [(2,.arr v 5 34 (pvE A))] 3 []) (.exit 0) (st [(5,.arr 2 v' (A.length+r.length))] [(2,.arr v' 5 34 (pvE (A++r.map fun f=>(f.sh 0 (.ofNat n)).c)))] 3 [])
 | [],k,v,A,h,hA=>by
  have e:ltI (.ofNat k) (.ofNat (hs.map Fm.c).length)=false:=qZ4 (by simp_all)
  simp only [List.map_nil,List.append_nil,List.length_nil,Nat.add_zero]
  exact⟨v,y1 [13] ⟨[5],[2],3,[]⟩ e (qQu A)⟩
 | f::r,k,v,A,h,hA=>by
  have hm:=qQh
  obtain⟨d1,d2,d3⟩:=qY7 h
  have e:ltI (.ofNat k) (.ofNat (hs.map Fm.c).length)=true:=qWz (by simp_all)
  have g3:=inN (show k+1≤_ by omega)
  have g5:=qR7 (A:=A) (v:=v) (ty:=34) (m:=88) (c:=(f.sh 0 (.ofNat n)).c) (show 0<5 by decide) rfl rfl (by simp only [maxLen];omega) (by omega)
  obtain⟨v',ih⟩:=qOo n hl H r (k+1) (v+1) (A++[(f.sh 0 (.ofNat n)).c]) d3 (by simp [hA])
  rw [qKm,show (A++[(f.sh 0 (.ofNat n)).c]).length=A.length+1 by simp,show A.length+1+r.length=A.length+(f::r).length by simp;omega,List.append_assoc] at ih
  exact⟨v',n7 [13,(14,.i f.c),19,(25,.ok),(26,.ok)] zDf e (qQ3 d1 Fm.c_len) (H f (List.mem_of_getElem? d1)) g5 g3 (qZl A (f.sh 0 (.ofNat n)).c) ih⟩
theorem zDg (hs:List Fm) (n:Nat) (hl:hs.length≤mid) (H:∀ f∈hs,A 281 [f.p,num 0,num n] (FR.ok (f.sh 0 (.ofNat n))).p):A 204 [fms hs,num n] (fms (upH n hs)):=by
 cases hs with
 | nil=>exact f0 []
 | cons f r =>
  have e:ltI (.ofNat 0) (.ofNat ((f::r).map Fm.c).length)=true:=qWz (by simp)
  obtain⟨v,h⟩:=qOo n hl H r 1 1 [(f.sh 0 (.ofNat n)).c] rfl rfl
  have em:(f.sh 0 (.ofNat n)).c::r.map (fun f=>(f.sh 0 (.ofNat n)).c)=(upH n (f::r)).map Fm.c:=by simp [Function.comp_def]
  have h2:=LoopIs.fz (by simp) h 2 (ver:=v) (sz:=5) (ty:=34) (ps:=(f.sh 0 (.ofNat n)).c::r.map (fun f=>(f.sh 0 (.ofNat n)).c)) rfl (by kernel_rfl)
  simp (decide:=true) only [fzS,fzO,qD4,qLq,and_self,↓reduceIte,List.take_of_length_le (show ((f.sh 0 (.ofNat n)).c::r.map (fun f=>(f.sh 0 (.ofNat n)).c)).length≤[(f.sh 0 (.ofNat n)).c].length+r.length by simp;omega)] at h2
  rw [em] at h2
  have h3:Lp 204 0 0 (st (zK7 (f::r) n 0 (.pv .nils)) [] 0 []) (.exit 0) (st [(5,.pv (fms (upH n (f::r))))] [] 3 []) :=
   n6 [13,(14,.i f.c),19,(26,.ok)] zDf e (qQ3 (g:=f::r) (k:=0) rfl Fm.c_len) (H f (by simp)) (inN (show 0+1≤_ by omega)) (qZl [] (f.sh 0 (.ofNat n)).c) h2
  exact f1 [(100003,.l ⟨[1,5,10,11,12],[],0,[]⟩ (.exit 0) (st [(5,.pv (fms (upH n (f::r))))] [] 3 []))] h3
theorem up1 {n:Nat} {hs:List Fm} (hl:hs.length≤mid) (h:∀ f∈hs,FK n f) (hn:n≤lim):A 204 [fms hs,num 1] (fms (upH 1 hs)):=zDg hs 1 hl fun f hf=>zJi (h f hf) hn
theorem up2 {n:Nat} {hs:List Fm} (hl:hs.length≤mid) (h:∀ f∈hs,FK n f) (hn:n≤lim):A 204 [fms hs,num 2] (fms (upH 2 hs)):=zDg hs 2 hl fun f hf=>zJj (h f hf) hn
theorem zYs {n:Nat} {f g:Fm} {t:Tm} (h:FK (n+1) f) (ht:TK n t) (hn:n+1≤lim) (e:f.pt t = .ok g):A 205 [f.p,t.p] g.p:=by
 have g1:=zEj h ht hn
 rw [e] at g1
 exact f1 [10] g1
theorem zYt:∀ (f:Fm) (n:Nat),FK n f→n+f.cnt≤lim→∀ g,nmF f=some g→A 284 [f.p] g.p
 | .eq a b,n,h,hn,g,e=>by
  simp only [Fm.cnt] at hn
  have g1:=(zJh h.eq1 (by omega)).1
  have g2:=(zJh h.eq2 (by omega)).1
  unfold nmF at e
  split at e
  ·rename_i x j e1
   split at e
   ·rename_i y l e2
    cases e
    rw [e1] at g1
    rw [e2] at g2
    exact f2 [23,23] g1 g2
   ·cases e
  ·cases e
 | .bin k a b,n,h,hn,g,e=>by
  simp only [Fm.cnt] at hn
  unfold nmF at e
  split at e
  ·rename_i x e1
   split at e
   ·rename_i y e2
    cases e
    have g1:=zYt a n h.bin1 (by omega) x e1
    have g2:=zYt b n h.bin2 (by omega) y e2
    cases k<;>exact f2 [44,44] g1 g2
   ·cases e
  ·cases e
 | .q k s a,n,h,hn,g,e=>by
  simp only [Fm.cnt] at hn
  unfold nmF at e
  split at e
  ·rename_i x e1
   cases e
   have g1:=zYt a (n+1) h.qf (by omega) x e1
   cases k<;>exact f1 [44] g1
  ·cases e
theorem zDh {n:Nat} {f g:Fm} (h:FK (n+1) f) (hg:FK n g) (hn:n+1≤90000) (e:wtF f=some g):A 206 [f.p] g.p:=by
 have hl:lim=100000:=rfl
 have c:=h.cnt
 have g1:=zC6 h (by omega)
 unfold wtF at e
 split at e
 ·rename_i h0
  cases e
  rw [if_pos h0] at g1
  exact f1 [9] g1
 ·rename_i h0
  rw [if_neg h0] at g1
  split at e
  ·rename_i y e1
   split at e
   ·rename_i h1
    cases e
    obtain⟨k1,k2,k3⟩:=qLi f (n+1) h (by omega) y e1
    have hy:FK (n+1) y:=⟨by have:=hg.cnt;rwa [qGs h1] at this,k2,k1⟩
    have g2:=zYt f (n+1) h (by omega) y e1
    have g3:=zC6 hy (by omega)
    rw [if_pos h1] at g3
    exact f3 [9,17,18] g1 g2 g3
   ·cases e
  ·cases e
open Go.Lg
set_option maxRecDepth 100000
abbrev qBi (p:Pf) (f:Fm) (hs:List Fm) (pts:List (List PV)):PV:=.ptr [num p.kd,num p.ix,num p.tk,.slice p.te,.slice p.ts,.slice p.fs,.slice p.es,num f.kd,num f.tk,.slice f.te,.slice f.ts,.slice f.es,fms hs,.bool f.has,.slice pts]
abbrev Jt.pf (a:Jt) (hs:List Fm) (F:Fm):PV:=qBi a.p F hs (a.pts hs)
abbrev Q70 (f:Fm):Prop:=A 121 [f.p] (.tuple [.bool f.has,num 0])
abbrev Q68 (ls hs:List Fm) (a:Jt) (F:Fm):Prop:=A 62 [fms ls,fms hs,a.p.p] (a.pf hs F)
theorem qSq {ls hs:List Fm} {a:Jt} {f y:Fm} (ha:Q68 ls hs a (.bin .and f y)) (hc:Q70 f):A 62 [fms ls,fms hs,(Pf.p1 .andL a.p).p] (qBi (Pf.p1 .andL a.p) f hs [[a.pf hs (.bin .and f y)]]):=by
 exact f3 [(17,.n [(53,.n [(23,.r (a.pf hs (.bin .and f y)))])]),26,(300003,.f 7 [[a.pf hs (.bin .and f y)]]),(300004,.fb 1 none)] ha hc (rfl:pvE [[a.pf hs (.bin .and f y)]]=pvE [[a.pf hs (.bin .and f y)]])
theorem qSr {ls hs:List Fm} {a:Jt} {f y:Fm} (ha:Q68 ls hs a (.bin .and y f)) (hc:Q70 f):A 62 [fms ls,fms hs,(Pf.p1 .andR a.p).p] (qBi (Pf.p1 .andR a.p) f hs [[a.pf hs (.bin .and y f)]]):=by
 exact f3 [(17,.n [(62,.n [(23,.r (a.pf hs (.bin .and y f)))])]),26,(300003,.f 7 [[a.pf hs (.bin .and y f)]]),(300004,.fb 1 none)] ha hc (rfl:pvE [[a.pf hs (.bin .and y f)]]=pvE [[a.pf hs (.bin .and y f)]])
theorem qSs {ls hs:List Fm} {a b:Jt} {x y:Fm} (ha:Q68 ls hs a x) (hb:Q68 ls hs b y) (hc:Q70 (Fm.bin .and x y)):A 62 [fms ls,fms hs,(Pf.p2 .andI a.p b.p).p] (qBi (Pf.p2 .andI a.p b.p) (Fm.bin .and x y) hs [[a.pf hs x],[b.pf hs y]]):=by
 exact f4 [(17,.n [(40,.n [(23,.r (a.pf hs x))]),(45,.n [(23,.r (b.pf hs y))])]),26,(300003,.f 7 [[a.pf hs x],[b.pf hs y]]),(300004,.fb 1 none)] ha hb hc (rfl:pvE [[a.pf hs x],[b.pf hs y]]=pvE [[a.pf hs x],[b.pf hs y]])
theorem qSt {ls hs:List Fm} {a b:Jt} {x y f:Fm} (ha:Q68 ls hs a (.bin .imp x f)) (hb:Q68 ls hs b y) (hc:Q70 f):A 62 [fms ls,fms hs,(Pf.p2 .impE a.p b.p).p] (qBi (Pf.p2 .impE a.p b.p) f hs [[a.pf hs (.bin .imp x f)],[b.pf hs y]]):=by
 exact f4 [(17,.n [(88,.n [(23,.r (a.pf hs (.bin .imp x f)))]),(92,.n [(23,.r (b.pf hs y))])]),26,(300003,.f 7 [[a.pf hs (.bin .imp x f)],[b.pf hs y]]),(300004,.fb 1 none)] ha hb hc (rfl:pvE [[a.pf hs (.bin .imp x f)],[b.pf hs y]]=pvE [[a.pf hs (.bin .imp x f)],[b.pf hs y]])
theorem qSu {ls hs:List Fm} {a:Jt} {x y:Fm} (hw:A 203 [fms hs,x.p] (fms (hs++[x]))) (ha:Q68 ls (hs++[x]) a y) (hc:Q70 (Fm.bin .imp x y)):A 62 [fms ls,fms hs,(Pf.impI x a.p).p] (qBi (Pf.impI x a.p) (Fm.bin .imp x y) hs [[a.pf (hs++[x]) y]]):=by
 exact f4 [(17,.n [(79,.r (fms (hs++[x]))),(80,.n [(23,.r (a.pf (hs++[x]) y))])]),26,(300003,.f 7 [[a.pf (hs++[x]) y]]),(300004,.fb 1 none)] hw ha hc (rfl:pvE [[a.pf (hs++[x]) y]]=pvE [[a.pf (hs++[x]) y]])
theorem qSv {ls hs:List Fm} {s:Ty} {a:Jt} {y:Fm} (hw:A 204 [fms hs,num 1] (fms (upH 1 hs))) (ha:Q68 ls (upH 1 hs) a y) (hc:Q70 (Fm.q .all s y)):A 62 [fms ls,fms hs,(Pf.all false s a.p).p] (qBi (Pf.all false s a.p) (Fm.q .all s y) hs [[a.pf (upH 1 hs) y]]):=by
 exact f4 [(17,.n [(104,.r (fms (upH 1 hs))),(105,.n [(23,.r (a.pf (upH 1 hs) y))])]),26,(300003,.f 7 [[a.pf (upH 1 hs) y]]),(300004,.fb 1 none)] hw ha hc (rfl:pvE [[a.pf (upH 1 hs) y]]=pvE [[a.pf (upH 1 hs) y]])
theorem qSw {ls hs:List Fm} {s:Ty} {a:Jt} {y:Fm} (hw:A 204 [fms hs,num 1] (fms (upH 1 hs))) (ha:Q68 ls (upH 1 hs) a y) (hc:Q70 (Fm.q .allU s y)):A 62 [fms ls,fms hs,(Pf.all true s a.p).p] (qBi (Pf.all true s a.p) (Fm.q .allU s y) hs [[a.pf (upH 1 hs) y]]):=by
 exact f4 [(17,.n [(115,.r (fms (upH 1 hs))),(116,.n [(23,.r (a.pf (upH 1 hs) y))])]),26,(300003,.f 7 [[a.pf (upH 1 hs) y]]),(300004,.fb 1 none)] hw ha hc (rfl:pvE [[a.pf (upH 1 hs) y]]=pvE [[a.pf (upH 1 hs) y]])
theorem qSx {ls hs:List Fm} {t:Tm} {s:Ty} {a:Jt} {x f:Fm} (ha:Q68 ls hs a (.q .all s x)) (hp:A 205 [x.p,t.p] f.p) (hc:Q70 f):A 62 [fms ls,fms hs,(Pf.ins false t a.p).p] (qBi (Pf.ins false t a.p) f hs [[a.pf hs (.q .all s x)]]):=by
 exact f4 [(17,.n [(125,.n [(23,.r (a.pf hs (.q .all s x)))]),(133,.r f.p)]),26,(300003,.f 7 [[a.pf hs (.q .all s x)]]),(300004,.fb 1 none)] ha hp hc (rfl:pvE [[a.pf hs (.q .all s x)]]=pvE [[a.pf hs (.q .all s x)]])
theorem qSy {ls hs:List Fm} {t:Tm} {s:Ty} {a:Jt} {x f:Fm} (ha:Q68 ls hs a (.q .allU s x)) (hp:A 205 [x.p,t.p] f.p) (hc:Q70 f):A 62 [fms ls,fms hs,(Pf.ins true t a.p).p] (qBi (Pf.ins true t a.p) f hs [[a.pf hs (.q .allU s x)]]):=by
 exact f4 [(17,.n [(125,.n [(23,.r (a.pf hs (.q .allU s x)))]),(133,.r f.p)]),26,(300003,.f 7 [[a.pf hs (.q .allU s x)]]),(300004,.fb 1 none)] ha hp hc (rfl:pvE [[a.pf hs (.q .allU s x)]]=pvE [[a.pf hs (.q .allU s x)]])
theorem zK8 {ls hs:List Fm} {u:Bool} {t:Tm} {a:Jt} {x y:Fm} (ha:Q68 ls hs a y) (hc:Q70 x):A 62 [fms ls,fms hs,(Pf.ex u x t a.p).p] (qBi (Pf.ex u x t a.p) x hs [[a.pf hs y]]):=by
 cases u<;>exact f3 [(17,.n [(140,.n [(23,.r (a.pf hs y))])]),26,(300003,.f 7 [[a.pf hs y]]),(300004,.fb 1 none)] ha hc (rfl:pvE [[a.pf hs y]]=pvE [[a.pf hs y]])
theorem zJ4 {ls hs:List Fm} {s:Ty} {a b:Jt} {x y f:Fm} (ha:Q68 ls hs a (.q .ex s x)) (hw:A 204 [fms hs,num 1] (fms (upH 1 hs))) (hw2:A 203 [fms (upH 1 hs),x.p] (fms (upH 1 hs++[x]))) (hb:Q68 ls (upH 1 hs++[x]) b y) (hl:A 206 [y.p] f.p) (hc:Q70 f):A 62 [fms ls,fms hs,(Pf.p2 .exE a.p b.p).p] (qBi (Pf.p2 .exE a.p b.p) f hs [[a.pf hs (.q .ex s x)],[b.pf (upH 1 hs++[x]) y]]):=by
 exact f7 [(17,.n [(151,.n [(23,.r (a.pf hs (.q .ex s x)))]),(155,.r (fms (upH 1 hs))),(160,.r (fms (upH 1 hs++[x]))),(161,.n [(23,.r (b.pf (upH 1 hs++[x]) y))]),(162,.r f.p)]),26,(300003,.f 7 [[a.pf hs (.q .ex s x)],[b.pf (upH 1 hs++[x]) y]]),(300004,.fb 1 none)] ha hw hw2 hb hl hc (rfl:pvE [[a.pf hs (.q .ex s x)],[b.pf (upH 1 hs++[x]) y]]=pvE [[a.pf hs (.q .ex s x)],[b.pf (upH 1 hs++[x]) y]])
theorem qSz {ls hs:List Fm} {s:Ty} {a b:Jt} {x y f:Fm} (ha:Q68 ls hs a (.q .exU s x)) (hw:A 204 [fms hs,num 1] (fms (upH 1 hs))) (hw2:A 203 [fms (upH 1 hs),x.p] (fms (upH 1 hs++[x]))) (hb:Q68 ls (upH 1 hs++[x]) b y) (hl:A 206 [y.p] f.p) (hc:Q70 f):A 62 [fms ls,fms hs,(Pf.p2 .exUE a.p b.p).p] (qBi (Pf.p2 .exUE a.p b.p) f hs [[a.pf hs (.q .exU s x)],[b.pf (upH 1 hs++[x]) y]]):=by
 exact f7 [(17,.n [(151,.n [(23,.r (a.pf hs (.q .exU s x)))]),(155,.r (fms (upH 1 hs))),(160,.r (fms (upH 1 hs++[x]))),(161,.n [(23,.r (b.pf (upH 1 hs++[x]) y))]),(162,.r f.p)]),26,(300003,.f 7 [[a.pf hs (.q .exU s x)],[b.pf (upH 1 hs++[x]) y]]),(300004,.fb 1 none)] ha hw hw2 hb hl hc (rfl:pvE [[a.pf hs (.q .exU s x)],[b.pf (upH 1 hs++[x]) y]]=pvE [[a.pf hs (.q .exU s x)],[b.pf (upH 1 hs++[x]) y]])
theorem qS0 {ls hs:List Fm} {t:Tm} {a b:Jt} {x y z f:Fm} (ha:Q68 ls hs a y) (hw:A 204 [fms hs,num 1] (fms (upH 1 hs))) (hw2:A 203 [fms (upH 1 hs),x.p] (fms (upH 1 hs++[x]))) (hb:Q68 ls (upH 1 hs++[x]) b z) (hp:A 205 [x.p,t.p] f.p) (hc:Q70 f):A 62 [fms ls,fms hs,(Pf.ind false x t a.p b.p).p] (qBi (Pf.ind false x t a.p b.p) f hs [[a.pf hs y],[b.pf (upH 1 hs++[x]) z]]):=by
 exact f7 [(17,.n [(164,.n [(23,.n [(23,.r (a.pf hs y))]),(27,.r (fms (upH 1 hs))),(32,.r (fms (upH 1 hs++[x]))),(33,.n [(23,.r (b.pf (upH 1 hs++[x]) z))]),(42,.r f.p)])]),(26,.U [.bool f.has,num 0]),(300003,.f 10 [[a.pf hs y],[b.pf (upH 1 hs++[x]) z]]),(300004,.fb 1 none)] ha hw hw2 hb hp hc (rfl:pvE [[a.pf hs y],[b.pf (upH 1 hs++[x]) z]]=pvE [[a.pf hs y],[b.pf (upH 1 hs++[x]) z]])
theorem qS1 {ls hs:List Fm} {t:Tm} {a b:Jt} {x y z f:Fm} (ha:Q68 ls hs a y) (hx:A 281 [x.p,num 1,num 1] (FR.ok (x.sh 1 (.ofNat 1))).p) (hw:A 204 [fms hs,num 2] (fms (upH 2 hs))) (hw2:A 203 [fms (upH 2 hs),(x.sh 1 (.ofNat 1)).p] (fms (upH 2 hs++[(x.sh 1 (.ofNat 1))]))) (hb:Q68 ls (upH 2 hs++[(x.sh 1 (.ofNat 1))]) b z) (hp:A 205 [x.p,t.p] f.p) (hc:Q70 f):A 62 [fms ls,fms hs,(Pf.ind true x t a.p b.p).p] (qBi (Pf.ind true x t a.p b.p) f hs [[a.pf hs y],[b.pf (upH 2 hs++[(x.sh 1 (.ofNat 1))]) z]]):=by
 exact f8 [(17,.n [(164,.n [(48,.n [(23,.r (a.pf hs y))]),(54,.r (FR.ok (x.sh 1 (.ofNat 1))).p),(60,.r (fms (upH 2 hs))),(62,.r (fms (upH 2 hs++[(x.sh 1 (.ofNat 1))]))),(63,.n [(23,.r (b.pf (upH 2 hs++[(x.sh 1 (.ofNat 1))]) z))]),(72,.r f.p)])]),(26,.U [.bool f.has,num 0]),(300003,.f 10 [[a.pf hs y],[b.pf (upH 2 hs++[(x.sh 1 (.ofNat 1))]) z]]),(300004,.fb 1 none)] ha hx hw hw2 hb hp hc (rfl:pvE [[a.pf hs y],[b.pf (upH 2 hs++[(x.sh 1 (.ofNat 1))]) z]]=pvE [[a.pf hs y],[b.pf (upH 2 hs++[(x.sh 1 (.ofNat 1))]) z]])
theorem qS2 {ls hs:List Fm} {t:Tm}  (hc:Q70 (Fm.eq t t)):A 62 [fms ls,fms hs,(Pf.refl t).p] (qBi (Pf.refl t) (Fm.eq t t) hs []):=by
 exact f1 [(17,.n [(164,.n [])]),(26,.U [.bool (Fm.eq t t).has,num 0]),(300004,.fb 1 none)] hc
theorem qOp {ls hs:List Fm} {a b:Jt} {t u:Tm} {x y f:Fm} (ha:Q68 ls hs a (.eq t u)) (hb:Q68 ls hs b y) (hp:A 205 [x.p,u.p] f.p) (hc:Q70 f):A 62 [fms ls,fms hs,(Pf.subst x a.p b.p).p] (qBi (Pf.subst x a.p b.p) f hs [[a.pf hs (.eq t u)],[b.pf hs y]]):=by
 exact f5 [(17,.n [(164,.n [(90,.n [(23,.r (a.pf hs (.eq t u)))]),(94,.n [(23,.r (b.pf hs y))]),(103,.r f.p)])]),(26,.U [.bool f.has,num 0]),(300003,.f 10 [[a.pf hs (.eq t u)],[b.pf hs y]]),(300004,.fb 1 none)] ha hb hp hc (rfl:pvE [[a.pf hs (.eq t u)],[b.pf hs y]]=pvE [[a.pf hs (.eq t u)],[b.pf hs y]])
theorem qLl {ls hs:List Fm} {a:Jt} {s u:Ty} {x y:Fm} (ha:Q68 ls hs a (.q .all s (.q .ex u x))) (hx:A 281 [x.p,num 2,num 1] (FR.ok (x.sh 2 (.ofNat 1))).p) (hp:A 205 [(x.sh 2 (.ofNat 1)).p,vapp.p] y.p) (hc:Q70 (Fm.q .ex (.two true s u) (.q .all s y))):A 62 [fms ls,fms hs,(Pf.p1 .choice a.p).p] (qBi (Pf.p1 .choice a.p) (Fm.q .ex (.two true s u) (.q .all s y)) hs [[a.pf hs (.q .all s (.q .ex u x))]]):=by
 exact f5 [(17,.n [(164,.n [(107,.n [(23,.r (a.pf hs (.q .all s (.q .ex u x))))]),(125,.r (FR.ok (x.sh 2 (.ofNat 1))).p),(133,.r y.p)])]),(26,.U [.bool (Fm.q .ex (.two true s u) (.q .all s y)).has,num 0]),(300003,.f 10 [[a.pf hs (.q .all s (.q .ex u x))]]),(300004,.fb 1 none)] ha hx hp hc (rfl:pvE [[a.pf hs (.q .all s (.q .ex u x))]]=pvE [[a.pf hs (.q .all s (.q .ex u x))]])
theorem qOq {ls hs:List Fm} {i:Nat} {f:Fm} (hl:hs.length≤mid) (hi:i<hs.length) (e:hs[hs.length-1-i]? = some f) (hc:Q70 f):A 62 [fms ls,fms hs,(Pf.leaf false i).p] (qBi (Pf.leaf false i) f hs []):=by
 have hm:=qQh
 have hb:=qQk
 have h1:=qFg (a:=(hs.map Fm.c).length) (by simp;omega) (by simp;omega)
 have h2:inB (Int.ofNat ((hs.map Fm.c).length-1) - .ofNat i)=true∧Int.ofNat ((hs.map Fm.c).length-1) - .ofNat i = .ofNat (hs.length-1-i):=by
  grind [inN]
 exact f4 [(17,.n [(21,.z ((hs.map Fm.c).length-1)),(24,.z (hs.length-1-i)),(25,.i f.c)]),26,(300004,.fb 1 none)] h1 h2 (qQ3 e Fm.c_len) hc
theorem qOr {ls hs:List Fm} {i:Nat} {f:Fm} (e:ls[i]? = some f) (hc:Q70 f):A 62 [fms ls,fms hs,(Pf.leaf true i).p] (qBi (Pf.leaf true i) f hs []):=by
 exact f2 [(17,.n [(33,.i f.c)]),26,(300004,.fb 1 none)] (qQ3 e Fm.c_len) hc
theorem zK9 (p:Pf):1≤p.cnt:=by cases p<;>simp [Pf.cnt]<;>omega
theorem Jt.FKj {ls:List Fm} : ∀ {j:Jt} {n:Nat} {hs:List Fm},j.OK ls n hs→FK n j.f
 | .leaf _ _ _,_,_,h=>h.1
 | .refl _,_,_,h=>h.2
 | .p1 _ _ _,_,_,h=>h.1
 | .p2 _ _ _ _,_,_,h=>h.1
 | .impI _ _,_,_,h=>h.2.1
 | .all _ _ _,_,_,h=>h.2.1
 | .ins _ _ _ _,_,_,h=>h.1
 | .ex _ _ _ _,_,_,h=>h.1
 | .ind _ _ _ _ _ _,_,_,h=>h.1
 | .subst _ _ _ _,_,_,h=>h.1
theorem qE5 {n k:Nat} {hs:List Fm} (h:∀ f∈hs,FK n f):∀ f∈upH k hs,FK (n+k) f:=by
 intro f hf
 obtain⟨g,hg,rfl⟩:=List.mem_map.1 hf
 exact (h g hg).sh 0 k
theorem qE6 {n:Nat} {hs:List Fm} {x:Fm} (h:∀ f∈hs,FK n f) (hx:FK n x):∀ f∈hs++[x],FK n f:=by
 grind
theorem qS3 (n:Nat):TK (n+2) vapp:=⟨by decide,rfl,by show 1<n+2∧0<n+2;omega⟩
theorem a68 {ls:List Fm} : ∀ (j:Jt) (n:Nat) (hs:List Fm),(∀ f∈hs,FK n f)→hs.length+j.p.cnt≤mid→n+j.p.cnt≤90000→j.OK ls n hs→J68 ls hs j
 | .leaf u i f,n,hs,hh,hl,hn,h=>by
  have hlm:lim=100000:=rfl
  simp only [Jt.p,Pf.cnt] at hl hn
  obtain⟨h0,h⟩:=h
  cases u
  ·exact qOq (by omega) h.1 h.2 (h0.a70 (by omega))
  ·exact qOr h (h0.a70 (by omega))
 | .refl t,n,hs,hh,hl,hn,h=>qS2 (h.2.a70 (by have hlm:lim=100000:=rfl;omega))
 | .p1 k a f,n,hs,hh,hl,hn,⟨h0,h1,h2⟩=>by
  have hlm:lim=100000:=rfl
  simp only [Jt.p,Pf.cnt] at hl hn
  have ih:=a68 a n hs hh (by omega) (by omega) h1
  have hc:=h0.a70 (by omega)
  cases k
  ·obtain⟨y,e⟩:=h2
   have g:=qSq (a:=a) (f:=f) (y:=y) (by rw [← e];exact ih) hc
   rw [← e] at g
   exact g
  ·obtain⟨y,e⟩:=h2
   have g:=qSr (a:=a) (f:=f) (y:=y) (by rw [← e];exact ih) hc
   rw [← e] at g
   exact g
  ·obtain⟨s,u,x,e,y,e1,e2⟩:=h2
   subst e2
   have hx:FK (n+2) x:=by
    have:=Jt.FKj h1
    rw [e] at this
    exact this.qf.qf
   have g:=qLl (a:=a) (s:=s) (u:=u) (x:=x) (y:=y) (by rw [← e];exact ih) (zJl hx (by omega)) (zYs (n:=n+2) (hx.sh 2 1) (qS3 n) (by omega) e1) hc
   rw [← e] at g
   exact g
 | .p2 k a b f,n,hs,hh,hl,hn,⟨h0,h1,h2⟩=>by
  have hlm:lim=100000:=rfl
  simp only [Jt.p,Pf.cnt] at hl hn
  have ca:=zK9 a.p
  have ih:=a68 a n hs hh (by omega) (by omega) h1
  have hc:=h0.a70 (by omega)
  cases k
  ·obtain⟨h3,e⟩:=h2
   subst e
   exact qSs ih (a68 b n hs hh (by omega) (by omega) h3) hc
  ·obtain⟨h3,x,e⟩:=h2
   have g:=qSt (a:=a) (b:=b) (x:=x) (f:=f) (by rw [← e];exact ih) (a68 b n hs hh (by omega) (by omega) h3) hc
   rw [← e] at g
   exact g
  ·obtain⟨h3,⟨s,e⟩,e1⟩:=h2
   generalize hx:a.f.bd=x at *
   have hF:FK (n+1) x:=by
    have:=Jt.FKj h1
    rw [e] at this
    exact this.qf
   have hl2:(upH 1 hs).length=hs.length:=by simp
   have g:=zJ4 (a:=a) (b:=b) (s:=s) (x:=x) (y:=b.f) (f:=f) (by rw [← e];exact ih) (up1 (n:=n) (by omega) hh (by omega)) (zK6 _ _ (by omega)) (a68 b (n+1) _ (qE6 (qE5 hh) hF) (by simp;omega) (by omega) h3) (zDh (Jt.FKj h3) h0 (by omega) e1) hc
   rw [← e,← hx] at g
   exact g
  ·obtain⟨h3,⟨s,e⟩,e1⟩:=h2
   generalize hx:a.f.bd=x at *
   have hF:FK (n+1) x:=by
    have:=Jt.FKj h1
    rw [e] at this
    exact this.qf
   have hl2:(upH 1 hs).length=hs.length:=by simp
   have g:=qSz (a:=a) (b:=b) (s:=s) (x:=x) (y:=b.f) (f:=f) (by rw [← e];exact ih) (up1 (n:=n) (by omega) hh (by omega)) (zK6 _ _ (by omega)) (a68 b (n+1) _ (qE6 (qE5 hh) hF) (by simp;omega) (by omega) h3) (zDh (Jt.FKj h3) h0 (by omega) e1) hc
   rw [← e,← hx] at g
   exact g
 | .impI x a,n,hs,hh,hl,hn,⟨h0,h1,h2⟩=>by
  have hlm:lim=100000:=rfl
  simp only [Jt.p,Pf.cnt] at hl hn
  exact qSu (zK6 _ _ (by omega)) (a68 a n _ (qE6 hh h0) (by simp;omega) (by omega) h2) (h1.a70 (by omega))
 | .all u s a,n,hs,hh,hl,hn,⟨h0,h1,h2⟩=>by
  have hlm:lim=100000:=rfl
  simp only [Jt.p,Pf.cnt] at hl hn
  have ih:=a68 a (n+1) _ (qE5 hh) (by simp;omega) (by omega) h2
  cases u
  ·exact qSv (up1 (n:=n) (by omega) hh (by omega)) ih (h1.a70 (by omega))
  ·exact qSw (up1 (n:=n) (by omega) hh (by omega)) ih (h1.a70 (by omega))
 | .ins u t a f,n,hs,hh,hl,hn,⟨h0,h1,h2,s,x,e,e1⟩=>by
  have hlm:lim=100000:=rfl
  simp only [Jt.p,Pf.cnt] at hl hn
  have ih:=a68 a n hs hh (by omega) (by omega) h2
  have hF:FK (n+1) x:=by
   have:=Jt.FKj h2
   rw [e] at this
   exact this.qf
  have hp:=zYs hF h1 (by omega) e1
  cases u
  ·have g:=qSx (t:=t) (a:=a) (s:=s) (x:=x) (f:=f) (by rw [show Fm.q .all s x=a.f from e.symm];exact ih) hp (h0.a70 (by omega))
   rw [show Fm.q .all s x=a.f from e.symm] at g
   exact g
  ·have g:=qSy (t:=t) (a:=a) (s:=s) (x:=x) (f:=f) (by rw [show Fm.q .allU s x=a.f from e.symm];exact ih) hp (h0.a70 (by omega))
   rw [show Fm.q .allU s x=a.f from e.symm] at g
   exact g
 | .ex u x t a,n,hs,hh,hl,hn,⟨h0,h1,h2,_,_⟩=>by
  have hlm:lim=100000:=rfl
  simp only [Jt.p,Pf.cnt] at hl hn
  exact zK8 (a68 a n hs hh (by omega) (by omega) h2) (h0.a70 (by omega))
 | .ind l x t a b f,n,hs,hh,hl,hn,⟨h0,h1,h2,h3,e,_,h4⟩=>by
  have hlm:lim=100000:=rfl
  simp only [Jt.p,Pf.cnt] at hl hn
  have ca:=zK9 a.p
  have ct:=qR3 t
  have ih:=a68 a n hs hh (by omega) (by omega) h3
  have hp:=zYs h1 h2 (by omega) e
  have hl2:(upH 1 hs).length=hs.length:=by simp
  have hl3:(upH 2 hs).length=hs.length:=by simp
  cases l
  ·exact qS0 ih (up1 (n:=n) (by omega) hh (by omega)) (zK6 _ _ (by omega)) (a68 b (n+1) _ (qE6 (qE5 hh) h1) (by simp;omega) (by omega) h4) hp (h0.a70 (by omega))
  ·exact qS1 ih (zJk h1 (by omega)) (up2 (n:=n) (by omega) hh (by omega)) (zK6 _ _ (by omega)) (a68 b (n+2) _ (qE6 (qE5 hh) (h1.sh 1 1)) (by simp;omega) (by omega) h4) hp (h0.a70 (by omega))
 | .subst x a b f,n,hs,hh,hl,hn,⟨h0,h1,h2,h3,_,t,u,e,e1⟩=>by
  have hlm:lim=100000:=rfl
  simp only [Jt.p,Pf.cnt] at hl hn
  have ih:=a68 a n hs hh (by omega) (by omega) h2
  have hT:TK n u:=by
   have:=Jt.FKj h2
   rw [e] at this
   exact this.eq2
  have g:=qOp (a:=a) (b:=b) (t:=t) (u:=u) (x:=x) (f:=f) (by rw [← e];exact ih) (a68 b n hs hh (by omega) (by omega) h3) (zYs h1 hT (by omega) e1) (h0.a70 (by omega))
  rw [← e] at g
  exact g
open Go.Lg
set_option maxRecDepth 100000
inductive Hy where
 | bare (pl:Nat)
 | hy (t:Tm) (d pl:Nat)
def Hy.k:Hy→Nat
 | .bare _=>0 | .hy t _ _=>t.kd
def Hy.i:Hy→Nat
 | .bare _=>0 | .hy t _ _=>t.ix
def Hy.tk:Hy→Nat
 | .bare _=>0 | .hy t _ _=>t.tk
def Hy.te:Hy→List (List PV)
 | .bare _=>[] | .hy t _ _=>t.te
def Hy.es:Hy→List (List PV)
 | .bare _=>[] | .hy t _ _=>t.es
def Hy.d:Hy→Nat
 | .bare _=>0 | .hy _ d _=>d
def Hy.has:Hy→Bool
 | .bare _=>false | .hy _ _ _=>true
def Hy.pl:Hy→Nat
 | .bare p=>p | .hy _ _ p=>p
abbrev Hy.c (h:Hy):List PV:=[num h.k,num h.i,num h.tk,.slice h.te,.slice h.es,num h.d,.bool h.has,num h.pl]
abbrev ec (e:Tm × Nat):List PV:=[num e.1.kd,num e.1.ix,num e.1.tk,.slice e.1.te,.slice e.1.es,num e.2]
theorem ec_len (e:Tm × Nat):(ec e).length=6:=rfl
structure Sc where
 dep:Nat
 hyps:Nat
 vs:List (Tm × Nat)
 ks:List Hy
abbrev Sc.p (s:Sc):PV:=.agg [num s.dep,num s.hyps,.slice (s.vs.map ec),.slice (s.ks.map Hy.c)]
def ent (vs:List (Tm × Nat)) (v:Nat):Option (Tm × Nat):=if v<vs.length then vs[vs.length-1-v]? else none
def Tm.ps (vs:List (Tm × Nat)) (d:Nat):Tm→Nat→Tm
 | .v i,b=>if i<b then .v i else match ent vs (i-b) with
  | some e=>e.1.sh 0 (.ofNat (d-e.2+b))
  | none => .v i
 | .lam s t,b => .lam s (t.ps vs d (b+1))
 | .n0 k,_ => .n0 k
 | .n1 k a,b => .n1 k (a.ps vs d b)
 | .n2 k x y,b => .n2 k (x.ps vs d b) (y.ps vs d b)
 | .n3 k s x y z,b => .n3 k s (x.ps vs d b) (y.ps vs d b) (z.ps vs d b)
theorem qS4 {vs:List (Tm × Nat)} {v:Nat} (h:v<vs.length):∃ e,ent vs v=some e∧e∈vs:=by
 unfold ent
 obtain⟨e,he⟩:∃ e,vs[vs.length-1-v]? = some e:=⟨_,List.getElem?_eq_getElem (by omega)⟩
 grind
theorem zJ5 {vs:List (Tm × Nat)} {v:Nat} {e:Tm × Nat} (h:ent vs v=some e):e∈vs:=by
 grind [ent,List.mem_of_getElem]
def EOK (d:Nat) (vs:List (Tm × Nat)):Prop:=∀ e∈vs,e.2≤d∧TK e.2 e.1
theorem qXk {vs:List (Tm × Nat)} {d:Nat} (hv:EOK d vs):∀ (t:Tm) (b:Nat),(t.ps vs d b).cnt≤4096 * t.cnt
 | .v i,b=>by
  unfold Tm.ps
  split
  ·omega
  ·split
   ·rename_i e he
    rw [qJt]
    have:=(hv e (zJ5 he)).2.cnt
    grind [Tm.cnt]
   omega
 | .lam s t,b=>by have:=qXk hv t (b+1);grind [Tm.ps,Tm.cnt]
 | .n0 _,b=>by simp [Tm.ps,Tm.cnt]
 | .n1 _ a,b=>by have:=qXk hv a b;grind [Tm.ps,Tm.cnt]
 | .n2 _ x y,b=>by have:=qXk hv x b;have:=qXk hv y b;grind [Tm.ps,Tm.cnt]
 | .n3 _ _ x y z,b=>by have:=qXk hv x b;have:=qXk hv y b;have:=qXk hv z b;grind [Tm.ps,Tm.cnt]
end Go.Proofs.YtbbbnbikmbaejaaGreatDoor
namespace Go.Proofs.YtbbbnbikmbaejaaGreatDoor
open Go.Lg
set_option maxRecDepth 100000
def Sc.bind (s:Sc):Sc:=⟨s.dep+1,s.hyps,s.vs,s.ks⟩
def Sc.hyp (s:Sc) (t:Tm):Sc:=⟨s.dep,s.hyps+1,s.vs,s.ks++[.hy t s.dep s.hyps]⟩
inductive XR where
 | er (x:Sx) (n:Nat)
 | ok (t:Tm)
def XR.k:XR→Nat
 | .er x _=>x.k | .ok t=>t.kd
def XR.i:XR→Nat
 | .er x _=>x.i | .ok t=>t.ix
def XR.tk:XR→Nat
 | .er x _=>x.tk | .ok t=>t.tk
def XR.te:XR→List (List PV)
 | .er x _=>x.te | .ok t=>t.te
def XR.es:XR→List (List PV)
 | .er x _=>x.es | .ok t=>t.es
def XR.e:XR→Nat
 | .er _ n=>n+1 | .ok _=>0
def XR.p (r:XR):PV:=.tuple [.agg [num r.k,num r.i,num r.tk,.slice r.te,.slice r.es],num r.e]
theorem qC7 (k:Nat) (hk:k+1≤mid+mid):∀ (t:Tm) (c:Nat),t.mx≤mid * mid→c+t.cnt≤mid→A 209 [t.p,num c,num (k+1)] (t.sh c (.ofNat (k+1))).p
 | .v i,c,h3,h4=>by
  have hm:=qQh
  have hbg:=qQk
  have h3:i≤mid * mid:=h3
  rw [hm] at h3
  by_cases h:c≤i
  ·have e:(Tm.v i).sh c (.ofNat (k+1)) = .v (i+(k+1)):=by simp only [Tm.sh,if_pos h];rfl
   rw [e]
   exact f2 [19,23] (qT6 h) (qQv (a:=i) (b:=k+1) (by omega))
  ·have e:(Tm.v i).sh c (.ofNat (k+1)) = .v i:=by simp only [Tm.sh,if_neg h]
   rw [e]
   exact f1 [19] (qN6 (show i<c by omega))
 | .lam s b,c,h3,h4=>by
  have h4:c+(1+b.cnt)≤mid:=h4
  have hm:=qQh
  exact f2 [(30,.ok),45] (inN (show c+1≤_ by omega)) (qC7 k hk b (c+1) h3 (by omega))
 | .n0 q,c,_,_=>by cases q<;>exact f0 []
 | .n1 q a,c,h3,h4=>by
  have h4:c+(1+a.cnt)≤mid:=h4
  have h5:=qC7 k hk a c h3 (by omega)
  cases q<;>exact f1 [45] h5
 | .n2 q a b,c,h3,h4=>by
  simp only [Tm.mx,Tm.cnt] at h3 h4
  have h5:=qC7 k hk a c (by omega) (by omega)
  have h6:=qC7 k hk b c (by omega) (by omega)
  cases q<;>exact f2 [45,45] h5 h6
 | .n3 q s a b d,c,h3,h4=>by
  simp only [Tm.mx,Tm.cnt] at h3 h4
  have h5:=qC7 k hk a c (by omega) (by omega)
  have h6:=qC7 k hk b c (by omega) (by omega)
  have h7:=qC7 k hk d c (by omega) (by omega)
  cases q<;>exact f3 [45,45,45] h5 h6 h7
theorem zDi (t:Tm) (c k:Nat) (hk:k≤mid+mid) (h:t.mx≤mid * mid) (h':c+t.cnt≤mid):A 209 [t.p,num c,num k] (t.sh c (.ofNat k)).p:=by
 cases k with
 | zero =>
  rw [qPv]
  exact f0 []
 | succ k=>grind [qC7]
theorem qDl:∀ t:Tm,t.cnt≤big→A 123 [t.p] (num t.cnt)
 | .v i,h=>f0 []
 | .lam s b,h=>by
  simp only [Tm.cnt] at h
  exact f2 [15,16] (qDl b (by omega)) (qQv (a:=1) (by omega))
 | .n0 k,h=>by cases k<;>exact f0 []
 | .n1 k a,h=>by
  simp only [Tm.cnt] at h
  have g1:=qDl a (by omega)
  have g2:=qQv (a:=1) (b:=a.cnt) (by omega)
  cases k<;>exact f2 [15,16] g1 g2
 | .n2 k a b,h=>by
  simp only [Tm.cnt] at h
  have g1:=qDl a (by omega)
  have g2:=qQv (a:=1) (b:=a.cnt) (by omega)
  have g3:=qDl b (by omega)
  have g4:=qQv (a:=1+a.cnt) (b:=b.cnt) (by omega)
  cases k<;>exact f4 [15,16,15,16] g1 g2 g3 g4
 | .n3 k s a b d,h=>by
  simp only [Tm.cnt] at h
  have g1:=qDl a (by omega)
  have g2:=qQv (a:=1) (b:=a.cnt) (by omega)
  have g3:=qDl b (by omega)
  have g4:=qQv (a:=1+a.cnt) (b:=b.cnt) (by omega)
  have g5:=qDl d (by omega)
  have g6:=qQv (a:=1+a.cnt+b.cnt) (b:=d.cnt) (by omega)
  cases k<;>exact f6 [15,16,15,16,15,16] g1 g2 g3 g4 g5 g6
theorem qUw (s:Sc) (hv:EOK s.dep s.vs) (hd:s.dep≤lim) (hl:s.vs.length≤lim):∀ (t:Tm) (b:Nat),t.sc (s.vs.length+b)→b+t.cnt≤mid→A 338 [s.p,t.p,num b] (t.ps s.vs s.dep b).p
 | .v i,b,h,h4=>by
  have hm:=qQh
  have hbg:=qQk
  have hlm:lim=100000:=rfl
  simp only [Tm.cnt] at h4
  have h:i<s.vs.length+b:=h
  by_cases hb:i<b
  ·have e:(Tm.v i).ps s.vs s.dep b = .v i:=by simp only [Tm.ps,if_pos hb]
   rw [e]
   have g1:inB (Int.ofNat i - .ofNat b)=true∧Int.ofNat i - .ofNat b=Int.ofNat i - .ofNat b:=zVz (by omega) (by omega)
   have g2:ltI (Int.ofNat i - .ofNat b) (.ofNat 0)=true:=by rw [qQn];simp;omega
   exact f2 [(18,.y (Int.ofNat i - .ofNat b)),20] g1 g2
  ·have g1:inB (Int.ofNat i - .ofNat b)=true∧Int.ofNat i - .ofNat b = .ofNat (i-b):=by
    have e:Int.ofNat i - .ofNat b = .ofNat (i-b):=by simp;omega
    grind [inN]
   obtain⟨e,he,hme⟩:=qS4 (vs:=s.vs) (v:=i-b) (by omega)
   have he':s.vs[s.vs.length-1-(i-b)]? = some e:=by
    unfold ent at he
    rwa [if_pos (by omega)] at he
   have ee:(Tm.v i).ps s.vs s.dep b=e.1.sh 0 (.ofNat (s.dep-e.2+b)):=by simp only [Tm.ps,if_neg hb,he]
   rw [ee]
   obtain⟨q1,q2⟩:=hv e hme
   have g2:ltI (.ofNat (i-b)) (.ofNat 0)=false:=qZ4 (Nat.zero_le _)
   have g3:(!ltI (.ofNat (i-b)) (.ofNat (s.vs.map ec).length))=false:=qN6 (by simp;omega)
   have g4:=qFg (a:=(s.vs.map ec).length) (by simp;omega) (by simp;omega)
   have g5:inB (Int.ofNat ((s.vs.map ec).length-1) - .ofNat (i-b))=true∧Int.ofNat ((s.vs.map ec).length-1) - .ofNat (i-b) = .ofNat (s.vs.length-1-(i-b)):=by
    have e:Int.ofNat ((s.vs.map ec).length-1) - .ofNat (i-b) = .ofNat (s.vs.length-1-(i-b)):=by simp;omega
    grind [inN]
   have g6:=qQ3 he' ec_len
   have g7:inB (Int.ofNat s.dep - .ofNat e.2)=true∧Int.ofNat s.dep - .ofNat e.2 = .ofNat (s.dep-e.2):=by
    have e:Int.ofNat s.dep - .ofNat e.2 = .ofNat (s.dep-e.2):=by simp;omega
    grind [inN]
   have g8:=qQv (a:=s.dep-e.2) (b:=b) (by omega)
   have g9:=zDi e.1 0 (s.dep-e.2+b) (by omega) (by have:=q2.mx (by omega);rw [hm];omega) (by have:=q2.cnt;omega)
   exact f9 [18,20,26,34,36,(37,.i (ec e)),45,47,48] g1 g2 g3 g4 g5 g6 g7 g8 g9
 | .lam u t,b,h,h4=>by
  have h4:b+(1+t.cnt)≤mid:=h4
  have hm:=qQh
  exact f2 [(53,.ok),68] (inN (show b+1≤_ by omega)) (qUw s hv hd hl t (b+1) h (by omega))
 | .n0 q,b,_,_=>by cases q<;>exact f0 []
 | .n1 q x,b,h,h4=>by
  have h4:b+(1+x.cnt)≤mid:=h4
  have h5:=qUw s hv hd hl x b h (by omega)
  cases q<;>exact f1 [68] h5
 | .n2 q x y,b,h,h4=>by
  simp only [Tm.cnt] at h4
  have h5:=qUw s hv hd hl x b h.1 (by omega)
  have h6:=qUw s hv hd hl y b h.2 (by omega)
  cases q<;>exact f2 [68,68] h5 h6
 | .n3 q u x y z,b,h,h4=>by
  simp only [Tm.cnt] at h4
  have h5:=qUw s hv hd hl x b h.1 (by omega)
  have h6:=qUw s hv hd hl y b h.2.1 (by omega)
  have h7:=qUw s hv hd hl z b h.2.2 (by omega)
  cases q<;>exact f3 [68,68,68] h5 h6 h7
def XR.fit (t:Tm):XR:=if t.cnt≤4096 then .ok t else .er .z 3
theorem zXa (k:K3) (s:Ty) (a b d:Tm) (h:a.cnt+b.cnt+d.cnt≤mid):A 376 [num k.n,s.p,row [a,b,d]] (XR.fit (.n3 k s a b d)).p:=by
 have g:=qDl (.n3 k s a b d) (by grind [Tm.cnt])
 unfold XR.fit
 split
 ·rename_i h
  cases k<;>exact f2 [14,15] g (qZ4 h)
 ·rename_i h
  cases k<;>exact f2 [14,15] g (qWz (a:=4096) (Nat.lt_of_not_le h))
theorem zE3:A 227 [] Ty.nat.p:=f0 []
open Go.Lg
set_option maxRecDepth 100000
abbrev tyR (r:TR) (b:Bool):PV:=.tuple [.agg [num r.k,.slice r.l],.bool b,num r.n]
variable {tl:List Tm} {hs:List Fm} {s:Sc}
end Go.Proofs.YtbbbnbikmbaejaaGreatDoor
namespace Go.Proofs.YtbbbnbikmbaejaaGreatDoor
open Go.Lg
set_option maxRecDepth 100000
def nvs (d:Nat):Nat→Nat→List (Tm × Nat)
 | _,0=>[]
 | i,n+1=>(.v (d-1-i),d)::nvs d (i+1) n
abbrev zE4 (a b:Nat):Sc:=⟨a+b,0,nvs (a+b) 0 a,[]⟩
open Go.Lg
set_option maxRecDepth 100000
structure SQ2 (ls:List Fm) (g:List Ty) (hs:List Fm):Prop where
 ls:∀ f∈ls,f.chk=0∧f.ty []
 gl:g.length≤16
 gs:∀ s∈g,s.size≤64
 hl:hs.length≤16
 hs:∀ f∈hs,f.chk=0∧f.ty g
section
variable {ls:List Fm} {g:List Ty} {hs:List Fm}
theorem SQ2.FK (Q:SQ2 ls g hs):∀ f∈hs,FK g.length f:=fun f hf=>qGv Q.gs (by have:=Q.gl;omega) (Q.hs f hf).1 (Q.hs f hf).2
theorem SQ2.FL (Q:SQ2 ls g hs):∀ f∈ls,Go.Proofs.YtbbbnbikmbaejaaGreatDoor.FK 0 f:=fun f hf=>qGv (g:=[]) nofun (by decide) (Q.ls f hf).1 (Q.ls f hf).2
theorem zDj (hg:g.length≤16) (hgs:∀ s∈g,s.size≤64) {f:Fm} (h:f.chk=0∧f.ty g):A 181 [tys g,f.p] (num 0):=by
 have hm:=qQh
 have hb:=qQk
 have k:=qGv hgs (by omega) h.1 h.2
 have c:=k.cnt
 obtain⟨e,q4,_,q6⟩:=qUa f g hgs k.shp (by omega)
 rw [q6 h.2] at q4
 have g1:=a91 g (fun s h=>by have:=hgs s h;omega)
 rw [qUt hg hgs] at g1
 exact f4 [8,13,18,20] g1 k.a89 (a93 g (by omega) (fun s h=>by have:=hgs s h;omega)) q4
abbrev wA (ls hs:List Fm) (g:List Ty) (k:Nat):IS:=st [(3,.loc 0 0),(15,.pv (fms ls)),(16,.pv (num (ls.map Fm.c).length)),(17,.pv (num k))] [(0,bx [tys g,fms hs])] 1 []
abbrev wE (hs:List Fm) (g:List Ty):IS:=st [(3,.loc 0 0)] [(0,bx [tys g,fms hs])] 1 []
abbrev wB (hs:List Fm) (g:List Ty) (k:Nat):IS:=st [(3,.loc 0 0),(38,.pv (fms hs)),(39,.pv (num (hs.map Fm.c).length)),(40,.pv (num k))] [(0,bx [tys g,fms hs])] 1 []
theorem qUx (hl:ls.length≤mid):∀ (r:List Fm) (k:Nat),ls.drop k=r→(∀ f∈r,f.chk=0∧f.ty [])→Lp 113 0 0 (wA ls hs g k) (.exit 0) (wE hs g)
 | [],k,h,_=>x1 [18] ⟨[3],[0],1,[]⟩ (show ltI (.ofNat k) (.ofNat (ls.map Fm.c).length)=false from qZ4 (by simp_all))
 | f::r,k,h,hb=>by
  obtain⟨h1,h2,h3⟩:=qY7 h
  have hm:=qQh
  have hlt:ltI (.ofNat k) (.ofNat (ls.map Fm.c).length)=true:=qWz (by simp_all)
  have ih:=qUx hl r (k+1) h3 fun t ht=>hb t (by simp [ht])
  exact n5 [18,(19,.i f.c),22,(26,.ok)] ⟨[3,15,16,17],[0],1,[]⟩ hlt (qQ3 h1 Fm.c_len) (zDj (g:=[]) (by simp) nofun (hb f (by simp))) (inN (show k+1≤_ by omega)) ih
theorem qUy (hg:g.length≤16) (hgs:∀ s∈g,s.size≤64) (hl:hs.length≤mid):∀ (r:List Fm) (k:Nat),hs.drop k=r→(∀ f∈r,f.chk=0∧f.ty g)→Lp 113 1 0 (wB hs g k) (.exit 2) (st [] [] 1 [])
 | [],k,h,_=>x1 [41] ⟨[],[],1,[]⟩ (show ltI (.ofNat k) (.ofNat (hs.map Fm.c).length)=false from qZ4 (by simp_all))
 | f::r,k,h,hb=>by
  obtain⟨h1,h2,h3⟩:=qY7 h
  have hm:=qQh
  have hlt:ltI (.ofNat k) (.ofNat (hs.map Fm.c).length)=true:=qWz (by simp_all)
  have ih:=qUy hg hgs hl r (k+1) h3 fun t ht=>hb t (by simp [ht])
  exact n5 [41,(42,.i f.c),47,(51,.ok)] ⟨[3,38,39,40],[0],1,[]⟩ hlt (qQ3 h1 Fm.c_len) (zDj hg hgs (hb f (by simp))) (inN (show k+1≤_ by omega)) ih
theorem zE5 (Q:SQ2 ls g hs) (hl:ls.length≤32):A 113 [fms ls,qE4 g hs] (num 0):=by
 have hm:=qQh
 have hb:=qQk
 have q1:=Q.gl
 have q2:=Q.hl
 have e0:ltI (.ofNat 32) (.ofNat (ls.map Fm.c).length)=false:=qZ4 (by simp_all)
 have e1:ltI (.ofNat 16) (.ofNat (hs.map Fm.c).length)=false:=qZ4 (by simp_all)
 have g2:=a91 g (fun s h=>by have:=Q.gs s h;omega)
 rw [qUt Q.gl Q.gs] at g2
 exact f5 [14,(100004,.l ⟨[3,15,16,17],[0],1,[]⟩ (.exit 0) (wE hs g)),29,36,(100016,.l ⟨[3,38,39,40],[0],1,[]⟩ (.exit 2) (st [] [] 1 []))] e0 (qUx (ls:=ls) (g:=g) (hs:=hs) (by omega) ls 0 rfl Q.ls) g2 e1 (qUy (g:=g) Q.gl Q.gs (by omega) hs 0 rfl Q.hs)
theorem qId (g:List Ty) (hl:hs.length≤1000):∀ (r:List Fm) (k:Nat) (K:List (Fm × Nat)),hs.drop k=r→K.length≤k→Lp 117 0 0 (zBp hs k (pcs g K)) (.exit 0) (zK1 (pcs g (K++HH g.length r)))
 | [],k,K,h,hk=>by
  rw [show pcs g (K++HH g.length [])=pcs g K by simp]
  exact x1 [19] zK2 (show ltI (.ofNat k) (.ofNat (hs.map Fm.c).length)=false from qZ4 (by simp_all))
 | f::r,k,K,h,hk=>by
  obtain⟨h1,h2,h3⟩:=qY7 h
  have hm:=qQh
  have hb:=qQk
  have hlt:ltI (.ofNat k) (.ofNat (hs.map Fm.c).length)=true:=qWz (by simp_all)
  have g1:=zV4 g K f (by omega)
  have ih:=qId g hl r (k+1) (K++[(f,g.length)]) h3 (by simp;omega)
  rw [show K++HH g.length (f::r)=(K++[(f,g.length)])++HH g.length r by simp]
  exact n5 [19,(20,.i f.c),24,(25,.ok)] qSp hlt (qQ3 h1 Fm.c_len) g1 (inN (show k+1≤_ by omega)) ih
theorem zE6 (g:List Ty) (hs:List Fm) (hg:g.length≤16) (hgs:∀ s∈g,s.size≤64) (hl:hs.length≤1000):A 117 [qE4 g hs] (plc g (HH g.length hs)):=by
 have hb:=qQk
 have hm:=qQh
 cases hs with
 | nil=>exact zE1 g hg hgs
 | cons f r =>
  have g0:=a93 g (by omega) (fun s h=>by have:=hgs s h;omega)
  have el:num (g.map Ty.c).length=num g.length:=by rw [List.length_map]
  have ih:=qId g hl r 1 [(f,g.length)] rfl (by simp)
  have g1':=zV4 g [] f (by simp)
  have g1:A 197 [.agg [num (g.map Ty.c).length,num 0,tzs g,.slice []],f.p] (plc g [(f,g.length)]):=by rw [el];exact g1'
  have g3:qXs ((f::r).map Fm.c) 0=some f.c∧qWd 5 ((f::r).map Fm.c)=true:=qQ3 (g:=f::r) (k:=0) rfl Fm.c_len
  have g2:Lp 117 0 0 (zBp (f::r) 0 [num (g.map Ty.c).length,.int 0,tzs g,.nils]) (.exit 0) (zK1 (pcs g (HH g.length (f::r)))) :=
   n3 [(20,.i f.c),24] qSp g3 g1 ih
  exact f2 [8,(100004,.l qSp (.exit 0) (zK1 (pcs g (HH g.length (f::r)))))] g0 g2
theorem zBq (n:Nat) (hs:List Fm):vw n (HH n hs)=hs:=by
 simp only [vw,HH,List.map_map]
 conv=>rhs;rw [← List.map_id hs]
 refine List.map_congr_left fun f _ => ?_
 show f.sh 0 (.ofNat (n-n))=f
 rw [Nat.sub_self,zJb]
theorem w85 (Q:SQ2 ls g hs) (hl:ls.length≤32) (j:Jt) (hD:j.D ls g hs) (hc:j.p.ck) (hp:j.p.cnt≤16384):A 27 [fms ls,qE4 g hs,j.p.p] (.tuple [j.ptr hs,num 0])∧j.OK ls g.length hs:=by
 have hm:=qQh
 have q1:=Q.gl
 have q2:=Q.hl
 have hpl:PlOK g (HH g.length hs):=⟨Q.gl,Q.gs,by simp [HH];exact Q.hl,fun h hh=>by
  obtain⟨f,hf,rfl⟩:=List.mem_map.1 hh
  exact⟨Q.FK f hf,Nat.le_refl _⟩⟩
 obtain⟨k2,z,hz,g4⟩:=qQ9 Q.FL j g (HH g.length hs) hpl (by rw [zBq];exact hD) hc
 obtain⟨L,g5⟩:=zE2 z hz.u
 have g6:A 61 [fms ls,qE4 g hs,j.p.p] (.tuple [.agg [num j.f.kd,num j.f.tk,.slice j.f.te,.slice j.f.ts,.slice j.f.es,qR4 L],num 0]) :=
  f6 [15,21,34,(35,.o [3,4] [] (.pv (qVz j.f.y z 0))),44,47] (zE5 Q hl) (zEt j.p hp hc) (zE6 g hs Q.gl Q.gs (by omega)) g4 (zEf j.f k2.cn) g5
 have hO:=(qFh Q.FL j g hs hD Q.gs Q.gl Q.FK hc).1
 have g2:=a68 (ls:=ls) j g.length hs Q.FK (by omega) (by omega) hO
 exact⟨f2 [14,24] g6 g2,hO⟩
end
end Go.Proofs.YtbbbnbikmbaejaaGreatDoor
