/- Contracts of functions; no conditions. -/
import Derived.Test.YtbbbnbikmbaejaaGreatDoorConC4
import Derived.Test.YtbbbnbikmbaejaaGreatDoorConB3
set_option linter.all false
set_option maxHeartbeats 4000000
namespace Go.Proofs.YtbbbnbikmbaejaaGreatDoor
open Go.Lg
set_option maxRecDepth 100000
end Go.Proofs.YtbbbnbikmbaejaaGreatDoor
namespace Go.Proofs.YtbbbnbikmbaejaaGreatDoor
open Go.Lg
set_option maxRecDepth 100000
abbrev zc1 (z:Int):List PV:=[.int z]
theorem zJ6 (z:Int):(zc1 z).length=1:=rfl
abbrev dk (L:List Int) (a:Nat):Ob:=bx [.slice (L.map zc1),num a]
abbrev _root_.Go.Lg.De.D (L:List Int) (b:Nat) (x:V):De:=.d 0 (dk L b) x
structure Dk (L:List Int):Prop where
 len:L.length≤500
 rng:∀ z∈L,-9223372036854775808≤z∧z≤9223372036854775807
theorem a38 (z:Int) (k:Nat) (h:1≤k) (hk:k≤mid) (hz : -9223372036854775808≤z∧z≤9223372036854775807):∃ x,x<k∧A 45 [.int z,num k] (num x):=by
 have h0:(!eqI (.ofNat k) 0)=true:=by
  rw [qJv];simp;omega
 have hb : -(k:Int)<z.tmod (.ofNat k)∧z.tmod (.ofNat k)<k:=by
  constructor
  ·have:=Int.lt_tmod_of_pos z (show (0:Int) < .ofNat k by simp;omega)
   omega
  ·have:=Int.tmod_lt_of_pos z (show (0:Int) < .ofNat k by simp;omega)
   omega
 have e0:0≤z.tmod (.ofNat k) + .ofNat k:=by
  grind
 have e1:0≤(z.tmod (.ofNat k) + .ofNat k).tmod (.ofNat k)∧(z.tmod (.ofNat k) + .ofNat k).tmod (.ofNat k)<k:=by
  refine⟨Int.tmod_nonneg _ e0,?_⟩
  have:=Int.tmod_lt_of_pos (z.tmod (.ofNat k) + .ofNat k) (show (0:Int) < .ofNat k by simp;omega)
  omega
 have e2:z.tmod (.ofNat k) + .ofNat k≤1152921504606846976:=by
  grind
 obtain⟨x,hx⟩:=Int.eq_ofNat_of_zero_le e1.1
 have g1:(!eqI (.ofNat k) 0)=true∧z.tmod (.ofNat k)=z.tmod (.ofNat k):=⟨h0,rfl⟩
 have g2:inB (z.tmod (.ofNat k) + .ofNat k)=true∧z.tmod (.ofNat k) + .ofNat k=z.tmod (.ofNat k) + .ofNat k:=⟨zW5 (by omega) e2,rfl⟩
 have g3:(!eqI (.ofNat k) 0)=true∧(z.tmod (.ofNat k) + .ofNat k).tmod (.ofNat k) = .ofNat x:=⟨h0,hx⟩
 exact⟨x,by omega,f3 [(7,.y (z.tmod (.ofNat k))),(9,.y (z.tmod (.ofNat k) + .ofNat k)),(11,.z x)] g1 g2 g3⟩
theorem nx {L:List Int} (hL:Dk L) {a:Nat} (ha:a≤L.length) {n:Nat} (h1:1≤n) (h2:n≤mid):∃ x b,x<n∧b≤L.length∧O 21 [.loc 0 0,.pv (num n)] [(0,dk L a)] (.pv (num x)) [(0,dk L b)]:=by
 have hl:=hL.len
 have hb:=qQk
 have g0:ltI (.ofNat n) 1=false:=by rw [qQn];simp;omega
 by_cases h:a=L.length
 ·have g1:(!ltI (.ofNat a) (.ofNat (L.map zc1).length))=true:=qT6 (by simp;omega)
  exact⟨0,a,by omega,ha,o2 1 [7,18] g0 g1⟩
 ·have g1:(!ltI (.ofNat a) (.ofNat (L.map zc1).length))=false:=qN6 (by simp;omega)
  obtain⟨z,hz⟩:∃ z,L[a]? = some z:=⟨_,List.getElem?_eq_getElem (by omega)⟩
  obtain⟨x,hx,g2⟩:=a38 z n h1 h2 (hL.rng z (List.mem_of_getElem? hz))
  exact⟨x,a+1,hx,by omega,o5 1 [7,18,(28,.i (zc1 z)),34,39] g0 g1 (qQ3 hz zJ6) (qQv (a:=a) (b:=1) (by omega)) g2⟩
theorem a42:A 20 [] Ty.nat.p:=f0 []
theorem a57:A 55 [] Ty.list.p:=f0 []
theorem a97:A 107 [] Ty.unit.p:=f0 []
def tsM:Nat→Nat
 | 0=>1
 | k+1=>1+2 * tsM k
theorem zBr (k:Nat):1≤tsM k:=by cases k<;>simp [tsM]
theorem a37 {L:List Int} (hL:Dk L):∀ (k:Nat),k≤mid→∀ {a:Nat},a≤L.length→∃ (t:Ty) (b:Nat),t.size≤tsM k∧b≤L.length∧O 53 [.loc 0 0,.pv (num k)] [(0,dk L a)] (.pv t.p) [(0,dk L b)]
 | k,hk,a,ha=>by
  have hm:=qQh
  have hb:=qQk
  obtain⟨x,b,hx,hb1,g1⟩:=nx hL ha (n:=7) (by omega) (by omega)
  have t1:=zBr k
  rcases x with _|_|_|_|_|_|_|x
  ·exact⟨.nat,b,t1,hb1,o2 1 [6,11] g1 a42⟩
  ·exact⟨.nat,b,t1,hb1,o2 1 [6,11] g1 a42⟩
  ·exact⟨.nat,b,t1,hb1,o2 1 [6,11] g1 a42⟩
  ·exact⟨.list,b,t1,hb1,o2 1 [6,14] g1 a57⟩
  ·exact⟨.unit,b,t1,hb1,o2 1 [6,17] g1 a97⟩
  ·cases k with
   | zero=>exact⟨.nat,b,t1,hb1,o2 1 [6,44] g1 a42⟩
   | succ k =>
    have gs:=qFg (a:=k+1) (by omega) (by omega)
    obtain⟨t,c,z1,hc,g2⟩:=a37 hL k (by omega) hb1
    obtain⟨u,d,z2,hd,g3⟩:=a37 hL k (by omega) hc
    exact⟨.two false t u,d,by grind [Ty.size,tsM],hd,o6 1 [6,24,25,28,29,30] g1 gs g2 gs g3 (a98 t u)⟩
  ·cases k with
   | zero=>exact⟨.nat,b,t1,hb1,o2 1 [6,44] g1 a42⟩
   | succ k =>
    have gs:=qFg (a:=k+1) (by omega) (by omega)
    obtain⟨t,c,z1,hc,g2⟩:=a37 hL k (by omega) hb1
    obtain⟨u,d,z2,hd,g3⟩:=a37 hL k (by omega) hc
    exact⟨.two true t u,d,by grind [Ty.size,tsM],hd,o6 1 [6,37,38,41,42,43] g1 gs g2 gs g3 (a99 t u)⟩
  ·omega
theorem a22 {n:Nat} (h:n<4):A 12 [num n] (qZt n).p:=f1 [7] (a66 h)
theorem qE7 (f a b:Tm):A 57 [f.p,row [a,b]] (Tm.n2 .app (.n2 .app f a) b).p:=by
 have h:∀ x y:Tm,A 39 [num 3,row [x,y]] (Tm.n2 .app x y).p:=fun x y=>zZ2 3 x y
 exact f2 [16,16] (h f a) (h (.n2 .app f a) b)
theorem qVk {α:Type} {c:α→List PV} {n:Nat} (hn:∀ t,(c t).length=n) (h1:∀ t,qVe [pvL (c t)]=true):∀ g:List α,qD8 n (pvE (g.map c))=true∧qVe (pvE (g.map c))=true
 | []=>⟨rfl,rfl⟩
 | t::r=>by
  obtain⟨a,b⟩:=qVk hn h1 r
  have e:pvE ((t::r).map c)=pvL (c t)::pvE (r.map c):=rfl
  rw [e]
  constructor
  ·unfold qD8
   rw [qPi (show (pvL (c t)).length=n by simp [pvL,hn]),cond_true]
   exact a
  grind [qVe]
theorem zE7 {α:Type} {c:α→List PV} {n m:Nat} (hn:∀ t,(c t).length=n) (h1:∀ t,qVe [pvL (c t)]=true) (h0:0<n) (g:List α) (h:g.length * m≤140737488355328) (hg:g.length≤maxLen) :
  (Nat.blt 0 n && qD8 n (pvE (g.map c)) && qVe (pvE (g.map c)) && Nat.ble (pvE (g.map c)).length maxLen && Nat.ble ((pvE (g.map c)).length * m) 140737488355328)=true:=by
 obtain⟨a,b⟩:=qVk hn h1 g
 have h3:Nat.blt 0 n=true:=by simp_all
 rw [h3,a,b,pvE_len,List.length_map,Nat.ble_eq_true_of_le hg,Nat.ble_eq_true_of_le h]
 rfl
theorem qS5 {A B:List (List PV)} : List.take ((pvE A).length+(pvE B).length) (A++B)=A++B:=List.take_of_length_le (by simp [pvE_len])
theorem zJ7 (A B:List (List PV)):List.take (pvE A).length (pvE A)++pvE B=pvE (A++B):=by
 rw [List.take_length]
 simp [pvE]
theorem a41 (g l:List Ty) (h:g.length+l.length≤mid):A 25 [tys g,tys l] (tys (g++l)):=by
 have hm:=qQh
 have g1:=zE7 (c:=Ty.c) (n:=2) (m:=32) Ty.c_len (fun _=>rfl) (by decide) g (by omega) (by simp only [maxLen];omega)
 obtain⟨s1,s2⟩:=qVk (c:=Ty.c) (n:=2) Ty.c_len (fun _=>rfl) l
 have g2:(Nat.beq 1 1 && Nat.ble (pvE (g.map Ty.c)).length (pvE (g.map Ty.c)).length && Nat.beq 34 34 && Nat.beq 2 2 && Nat.blt 0 2 && qD8 2 (pvE (l.map Ty.c)) && qVe (pvE (l.map Ty.c)) && Nat.ble ((pvE (g.map Ty.c)).length+(pvE (l.map Ty.c)).length) maxLen && Nat.ble (((pvE (g.map Ty.c)).length+(pvE (l.map Ty.c)).length) * 32) 140737488355328)=true :=
  zZ6 rfl (by decide) s1 s2 (by rw [pvE_len,pvE_len];simp only [List.length_map,maxLen];omega) (by rw [pvE_len,pvE_len];grind)
 have g3:A 25 [tys g,tys l] (.slice (List.take ((pvE (g.map Ty.c)).length+(pvE (l.map Ty.c)).length) (g.map Ty.c++l.map Ty.c))) :=
  f3 [(6,.ok),(8,.ok),(300001,.f 0 (g.map Ty.c++l.map Ty.c))] g1 g2 (zJ7 (g.map Ty.c) (l.map Ty.c))
 rw [qS5,← List.map_append] at g3
 exact g3
open Go.Lg
set_option maxRecDepth 100000
abbrev zBs:Kp:=⟨[0,3,5,8,9],[0,1],2,[]⟩
theorem zBt {g:List Ty} {k:Nat} (hk:k<g.length) (hg:g.length≤mid):∃ s,(inB (Int.ofNat (g.map Ty.c).length-1)=true∧Int.ofNat (g.map Ty.c).length-1 = .ofNat ((g.map Ty.c).length-1))∧(inB (Int.ofNat ((g.map Ty.c).length-1) - .ofNat k)=true∧Int.ofNat ((g.map Ty.c).length-1) - .ofNat k = .ofNat (g.length-1-k))∧(qXs (g.map Ty.c) (g.length-1-k)=some (Ty.c s)∧qWd 2 (g.map Ty.c)=true)∧s∈g∧tyV g k = .ok s:=by
 have hm:=qQh
 have hb:=qQk
 obtain⟨s,hs⟩:∃ s,g[g.length-1-k]? = some s:=⟨_,List.getElem?_eq_getElem (by omega)⟩
 refine⟨s,qFg (a:=(g.map Ty.c).length) (by simp;omega) (by simp;omega),?_,qQ3 hs Ty.c_len,List.mem_of_getElem? hs,by unfold tyV;rw [if_pos hk,hs]⟩
 grind [inN]
theorem qGw (t:Ty) {g:List Ty} (hg:g.length≤mid):∀ (r k v:Nat) (A:List (List PV)),k+r=g.length→A.length≤k →
  ∃ (v':Nat) (l:List Nat),(∀ x∈l,tyV g x = .ok t)∧l.length≤r∧Lp 52 0 0 (st [(0,.pv (tys g)),(3,.loc 0 0),(5,.arr 1 v A.length),(8,.pv (num (g.map Ty.c).length)),(9,.pv (num k))] [(0,bx t.c),(1,.arr v 1 3 (pvE A))] 2 []) (.exit 0) (st [(5,.arr 1 v' (A.length+l.length))] [(1,.arr v' 1 3 (pvE (A++l.map ic)))] 2 [])
 | 0,k,v,A,h,hA=>by
  have e:ltI (.ofNat k) (.ofNat (g.map Ty.c).length)=false:=qZ4 (by simp;omega)
  refine⟨v,[],by simp,Nat.le_refl _,?_⟩
  simp only [List.map_nil,List.append_nil,List.length_nil,Nat.add_zero]
  exact y1 [10] ⟨[5],[1],2,[]⟩ e (qQu A)
 | r+1,k,v,A,h,hA=>by
  have hm:=qQh
  have hb:=qQk
  have e:ltI (.ofNat k) (.ofNat (g.map Ty.c).length)=true:=qWz (by simp;omega)
  obtain⟨s,g1,g2,g3,_,hv⟩:=zBt (g:=g) (k:=k) (by omega) hg
  have g4:=a80 s t
  have g6:=qQv (a:=k) (b:=1) (by omega)
  cases hs:s.same t<;>rw [hs] at g4
  ·obtain⟨v',l,q1,q2,ih⟩:=qGw t hg r (k+1) v A (by omega) (by omega)
   exact⟨v',l,q1,by omega,n8 [10,15,17,(18,.i s.c),21,26] zBs e g1 g2 g3 g4 g6 (qQu A) ih⟩
  ·have g5:=qR7 (A:=A) (v:=v) (ty:=3) (m:=8) (c:=ic k) (show 0<1 by decide) rfl rfl (by simp only [maxLen];omega) (by omega)
   obtain⟨v',l,q1,q2,ih⟩:=qGw t hg r (k+1) (v+1) (A++[ic k]) (by omega) (by simp;omega)
   rw [qKm,show (A++[ic k]).length=A.length+1 by simp,show A.length+1+l.length=A.length+(k::l).length by simp;omega,List.append_assoc] at ih
   exact⟨v',k::l,fun x hx=>by
    rcases List.mem_cons.1 hx with rfl|hx
    ·rw [hv,(qZ6 s t).1 hs]
    simp_all,by simp;omega,n9 [10,15,17,(18,.i s.c),21,(25,.ok),26] zBs e g1 g2 g3 g4 g5 g6 (qZl A (ic k)) ih⟩
theorem qOs (t:Ty) {g:List Ty} (hg:g.length≤mid):∀ (r k:Nat),k+r=g.length →
  Lp 52 0 0 (st [(0,.pv (tys g)),(3,.loc 0 0),(5,.pv .nils),(8,.pv (num (g.map Ty.c).length)),(9,.pv (num k))] [(0,bx t.c)] 1 []) (.exit 0) (st [(5,.pv .nils)] [] 2 []) ∨
  ∃ l:List Nat,(∀ x∈l,tyV g x = .ok t)∧1≤l.length∧l.length≤r∧Lp 52 0 0 (st [(0,.pv (tys g)),(3,.loc 0 0),(5,.pv .nils),(8,.pv (num (g.map Ty.c).length)),(9,.pv (num k))] [(0,bx t.c)] 1 []) (.exit 0) (st [(5,.pv (qR4 l))] [] 2 [])
 | 0,k,h=>by
  have e:ltI (.ofNat k) (.ofNat (g.map Ty.c).length)=false:=qZ4 (by simp;omega)
  exact .inl (x1 [10] ⟨[5],[],2,[]⟩ e)
 | r+1,k,h=>by
  have hm:=qQh
  have hb:=qQk
  have e:ltI (.ofNat k) (.ofNat (g.map Ty.c).length)=true:=qWz (by simp;omega)
  obtain⟨s,g1,g2,g3,_,hv⟩:=zBt (g:=g) (k:=k) (by omega) hg
  have g4:=a80 s t
  have g6:=qQv (a:=k) (b:=1) (by omega)
  cases hs:s.same t<;>rw [hs] at g4
  ·rcases qOs t hg r (k+1) (by omega) with ih|⟨l,q1,q2,q3,ih⟩
   ·exact .inl (n7 [10,15,17,(18,.i s.c),21,26] ⟨[0,3,5,8,9],[0],1,[]⟩ e g1 g2 g3 g4 g6 ih)
   ·exact .inr ⟨l,q1,q2,by omega,n7 [10,15,17,(18,.i s.c),21,26] ⟨[0,3,5,8,9],[0],1,[]⟩ e g1 g2 g3 g4 g6 ih⟩
  ·right
   by_cases hk0:k=0∨1≤k
   ·obtain⟨v,l,q1,q2,ih⟩:=qGw t hg r (k+1) 1 [ic k] (by omega) (by simp)
    have h2:=LoopIs.fz (by simp) ih 1 (ver:=v) (sz:=1) (ty:=3) (ps:=(k::l).map ic) rfl (by kernel_rfl)
    simp (decide:=true) only [fzS,fzO,qD4,bx,List.map,qLq,and_self,↓reduceIte,List.take_of_length_le (show (ic k::l.map ic).length≤[ic k].length+l.length by simp;omega)] at h2
    refine⟨k::l,fun x hx => ?_,by simp,by simp;omega,n8 [10,15,17,(18,.i s.c),21,26] zBs e g1 g2 g3 g4 g6 (qZl [] (ic k)) h2⟩
    rcases List.mem_cons.1 hx with rfl|hx
    ·rw [hv,(qZ6 s t).1 hs]
    simp_all
   ·omega
theorem a77 (g:List Ty) (t:Ty) (hg:g.length≤mid):∃ l:List Nat,(∀ x∈l,tyV g x = .ok t)∧l.length≤g.length∧A 52 [tys g,t.p] (qR4 l):=by
 rcases qOs t hg g.length 0 (by omega) with h|⟨l,q1,q2,q3,h⟩
 ·exact⟨[],by simp,by simp,f1 [(100003,.l ⟨[0,3,5,8,9],[0],1,[]⟩ (.exit 0) (st [(5,.pv .nils)] [] 2 []))] h⟩
 ·exact⟨l,q1,q3,f1 [(100003,.l ⟨[0,3,5,8,9],[0],1,[]⟩ (.exit 0) (st [(5,.pv (qR4 l))] [] 2 []))] h⟩
structure TG (n C S:Nat) (x:Tm):Prop where
 sc:x.sc n
 cnt:x.cnt≤C
 tsz:x.tsz≤S
theorem TG.mono {n C S C' S':Nat} {x:Tm} (h:TG n C S x) (hc:C≤C') (hs:S≤S'):TG n C' S' x:=⟨h.sc,Nat.le_trans h.cnt hc,Nat.le_trans h.tsz hs⟩
theorem qGx {n i:Nat} (h:i<3):TG n 4 0 (qZt i):=by
 rcases i with _|_|_|i
 ·exact⟨trivial,by decide,by decide⟩
 ·exact⟨trivial,by decide,by decide⟩
 ·exact⟨trivial,by decide,by decide⟩
 ·omega
structure TT (g:List Ty) (t:Ty) (C S:Nat) (x:Tm):Prop extends TG g.length C S x where
 ty:x.tyR g = .ok t
theorem TT.mono {g:List Ty} {t:Ty} {C S C' S':Nat} {x:Tm} (h:TT g t C S x) (hc:C≤C') (hs:S≤S'):TT g t C' S' x:=⟨h.toTG.mono hc hs,h.ty⟩
theorem qW1 (g:List Ty):∀ n:Nat,(qZt n).tyR g = .ok .nat
 | 0=>rfl
 | n+1=>by show ty1 .succ ((qZt n).tyR g)=_;rw [qW1 g n];rfl
theorem qV0 (g:List Ty) {i:Nat} (h:i<3):TT g .nat 4 0 (qZt i):=⟨qGx h,qW1 g i⟩
theorem qOt (s:Ty):s.same s=true:=(qZ6 s s).2 rfl
theorem qQ5 {g:List Ty} {f x:Tm} {s u:Ty} (h1:f.tyR g = .ok (.two true s u)) (h2:x.tyR g = .ok s):(Tm.n2 .app f x).tyR g = .ok u:=by
 show ty2 .app (f.tyR g) (x.tyR g)=_
 rw [h1,h2]
 simp only [ty2,qOt,cond_true]
theorem qZ7 {g:List Ty} {b:Tm} {s u:Ty} (h:b.tyR (g++[s]) = .ok u) (hs:(Ty.two true s u).size≤64):(Tm.lam s b).tyR g = .ok (.two true s u):=by
 show tyL s (b.tyR (g++[s]))=_
 rw [h]
 exact if_pos hs
theorem qC8 {g:List Ty} {b:Tm} {s t u:Ty} (h:b.tyR (g++[s,t]) = .ok u) (hs:(Ty.two true s (.two true t u)).size≤64):(Tm.lam s (.lam t b)).tyR g = .ok (.two true s (.two true t u)) :=
 qZ7 (qZ7 (by simpa using h) (by simp only [Ty.size] at hs ⊢;omega)) hs
theorem qOu {g:List Ty} {b:Tm} {s t v u:Ty} (h:b.tyR (g++[s,t,v]) = .ok u) (hs:(Ty.two true s (.two true t (.two true v u))).size≤64):(Tm.lam s (.lam t (.lam v b))).tyR g = .ok (.two true s (.two true t (.two true v u))) :=
 qZ7 (qC8 (by simpa using h) (by simp only [Ty.size] at hs ⊢;omega)) hs
theorem qJk {g:List Ty} {x y:Tm} {s u:Ty} (h1:x.tyR g = .ok s) (h2:y.tyR g = .ok u) (hs:(Ty.two false s u).size≤64):(Tm.n2 .pair x y).tyR g = .ok (.two false s u):=by
 show ty2 .pair (x.tyR g) (y.tyR g)=_
 rw [h1,h2]
 exact if_pos hs
theorem qOv {g:List Ty} {x:Tm} {s u:Ty} (h:x.tyR g = .ok (.two false s u)):(Tm.n1 .fst x).tyR g = .ok s:=by
 show ty1 .fst (x.tyR g)=_
 rw [h];rfl
theorem qOw {g:List Ty} {x:Tm} {s u:Ty} (h:x.tyR g = .ok (.two false s u)):(Tm.n1 .snd x).tyR g = .ok u:=by
 show ty1 .snd (x.tyR g)=_
 rw [h];rfl
theorem qAa {g:List Ty} {x:Tm} (h:x.tyR g = .ok .nat):(Tm.n1 .succ x).tyR g = .ok .nat:=by
 show ty1 .succ (x.tyR g)=_
 rw [h];rfl
theorem qC9 {g:List Ty} {x y:Tm} (h:x.tyR g = .ok .nat) (h':y.tyR g = .ok .list):(Tm.n2 .cons x y).tyR g = .ok .list:=by
 show ty2 .cons (x.tyR g) (y.tyR g)=_
 rw [h,h'];rfl
theorem qGy {g:List Ty} {b f d:Tm} {s:Ty} (h1:b.tyR g = .ok s) (h2:f.tyR g = .ok (.two true .nat (.two true s s))) (h3:d.tyR g = .ok .nat):(Tm.n3 .re s b f d).tyR g = .ok s:=by
 show ty3 .re s (b.tyR g) (f.tyR g) (d.tyR g)=_
 rw [h1,h2,h3]
 simp only [ty3,qOt,cond_true]
theorem zXb {g:List Ty} {b f d:Tm} {s:Ty} (h1:b.tyR g = .ok s) (h2:f.tyR g = .ok (.two true .nat (.two true .list (.two true s s)))) (h3:d.tyR g = .ok .list):(Tm.n3 .fo s b f d).tyR g = .ok s:=by
 show ty3 .fo s (b.tyR g) (f.tyR g) (d.tyR g)=_
 rw [h1,h2,h3]
 simp only [ty3,qOt,cond_true]
abbrev M28 (L:List Int) (g:List Ty) (t:Ty) (z:PV) (a:Nat) (x:Tm) (b:Nat):Prop:=O 24 [.loc 0 0,.pv (tys g),.pv t.p,.pv z] [(0,dk L a)] (.pv x.p) [(0,dk L b)]
theorem zXc {L:List Int} (hL:Dk L) {g:List Ty} {t:Ty} (hg:g.length≤1000000) (z:PV) {a:Nat} (ha:a≤L.length) :
  (∃ (i b:Nat),tyV g i = .ok t∧b≤L.length∧M28 L g t z a (.v i) b)∨A 52 [tys g,t.p] (qR4 []) ∨ ∃ (i:Nat) (r:List Nat) (b:Nat),b≤L.length∧A 52 [tys g,t.p] (qR4 (i::r))∧O 21 [.loc 0 0,.pv (num 3)] [(0,dk L a)] (.pv (num 0)) [(0,dk L b)]:=by
 have hm:=qQh
 obtain⟨l,q1,q2,g1⟩:=a77 g t (by omega)
 cases l with
 | nil=>exact .inr (.inl g1)
 | cons i r =>
  obtain⟨x,b,hx,hb1,g2⟩:=nx hL ha (n:=3) (by omega) (by omega)
  cases x with
  | zero=>exact .inr (.inr ⟨i,r,b,hb1,g1,g2⟩)
  | succ x =>
   have q3:r.length+1≤g.length:=q2
   have el:((i::r).map ic).length=r.length+1:=by simp
   obtain⟨y,c,hy,hc,g3⟩:=nx hL hb1 (n:=((i::r).map ic).length) (by omega) (by omega)
   obtain⟨w,hw⟩:∃ w,(i::r)[y]? = some w:=⟨_,List.getElem?_eq_getElem (by simpa using hy)⟩
   exact .inl ⟨w,c,q1 w (List.mem_of_getElem? hw),hc,o5 1 [19,25,32,(33,.i (ic w)),35] g1 g2 g3 (qQ3 (c:=ic) (n:=1) hw fun _=>rfl) (a51 w)⟩
theorem qUz {g:List Ty} {i:Nat} {t:Ty} (h:tyV g i = .ok t):i<g.length:=by
 unfold tyV at h
 split at h
 ·assumption
 ·cases h
theorem leI {z:Int} (h:z≤0):ltI 0 z=false:=by rw [qQn];simpa using h
theorem zE8 {z:Int} (h : -1000000≤z) (h':z≤1000000):inB (z-1)=true∧z-1=z-1:=⟨zW5 (by omega) (by omega),rfl⟩
theorem qLm:A 39 [num 7,row []] (Tm.n0 .nil).p:=zZ0 7
theorem qBj:A 39 [num 13,row []] (Tm.n0 .unit).p:=zZ0 13
theorem n78 (k:K2) (x y:Tm):A 39 [num k.n,row [x,y]] (Tm.n2 k x y).p:=zZ2 k.n x y
theorem qE8 (k:K1) (x:Tm):A 39 [num k.n,row [x]] (Tm.n1 k x).p:=zZ1 k.n x
theorem qGz {L:List Int} (hL:Dk L):∀ (t:Ty) (g:List Ty) (z:Int) (a:Nat),z≤0→-1000000+t.size≤z→g.length+t.size≤1000000→a≤L.length→t.size≤64→∃ (x:Tm) (b:Nat),TT g t (4 * t.size) t.size x∧b≤L.length∧M28 L g t (.int z) a x b
 | t,g,z,a,hz,hz2,hg,ha,h64=>by
  have hm:=qQh
  have h0:=leI hz
  have h1:=zE8 (z:=z) (by omega) (by omega)
  have ht1:1≤t.size:=by cases t<;>simp [Ty.size]<;>omega
  rcases zXc hL (g:=g) (t:=t) (by omega) (.int z) ha with ⟨i,b,hi,hb,h⟩|g0|⟨i0,r0,a0,ha0,g0,g00⟩
  ·exact⟨.v i,b,⟨⟨qUz hi,by simp only [Tm.cnt];omega,Nat.zero_le _⟩,hi⟩,hb,h⟩
  ·cases t with
   | nat =>
    obtain⟨y,b,hy,hb,g1⟩:=nx hL ha (n:=3) (by omega) (by omega)
    have g2:=a22 (n:=y) (by omega)
    exact⟨qZt y,b,(qV0 g hy).mono (by decide) (by decide),hb,o5 1 [19,37,218,266,267] g0 h0 h0 g1 g2⟩
   | list=>exact⟨.n0 .nil,a,⟨⟨trivial,by decide,by decide⟩,rfl⟩,ha,o4 1 [19,37,271,291] g0 h0 h0 qLm⟩
   | unit=>exact⟨.n0 .unit,a,⟨⟨trivial,by decide,by decide⟩,rfl⟩,ha,o3 1 [19,37,337] g0 h0 qBj⟩
   | two k s u =>
    simp only [Ty.size] at hz2 hg h64 ⊢
    cases k with
    | false =>
     obtain⟨x,b,q1,hb,g1⟩:=qGz hL s g (z-1) a (by omega) (by omega) (by omega) ha (by omega)
     obtain⟨y,c,q2,hc,g2⟩:=qGz hL u g (z-1) b (by omega) (by omega) (by omega) hb (by omega)
     exact⟨.n2 .pair x y,c,⟨⟨⟨q1.sc,q2.sc⟩,by have:=q1.cnt;have:=q2.cnt;simp only [Tm.cnt];omega,by have:=q1.tsz;have:=q2.tsz;simp only [Tm.tsz];omega⟩,qJk q1.ty q2.ty (by simp only [Ty.size];omega)⟩,hc,o7 1 [19,37,(301,.y (z-1)),302,(310,.y (z-1)),311,313] g0 h0 h1 g1 h1 g2 (n78 .pair x y)⟩
    | true =>
     obtain⟨x,b,q1,hb,g1⟩:=qGz hL u (g++[s]) (z-1) a (by omega) (by omega) (by simp;omega) ha (by omega)
     have g2:=a41 g [s] (by simp;omega)
     exact⟨.lam s x,b,⟨⟨by have:=q1.sc;simpa [Tm.sc] using this,by have:=q1.cnt;simp only [Tm.cnt];omega,by have:=q1.tsz;simp only [Tm.tsz];omega⟩,qZ7 q1.ty (by simp only [Ty.size];omega)⟩,hb,o6 1 [19,37,327,(333,.y (z-1)),334,336] g0 h0 g2 h1 g1 (qVh s x)⟩
  ·cases t with
   | nat =>
    obtain⟨y,b,hy,hb,g1⟩:=nx hL ha0 (n:=3) (by omega) (by omega)
    have g2:=a22 (n:=y) (by omega)
    exact⟨qZt y,b,(qV0 g hy).mono (by decide) (by decide),hb,o6 1 [19,25,37,218,266,267] g0 g00 h0 h0 g1 g2⟩
   | list=>exact⟨.n0 .nil,a0,⟨⟨trivial,by decide,by decide⟩,rfl⟩,ha0,o5 1 [19,25,37,271,291] g0 g00 h0 h0 qLm⟩
   | unit=>exact⟨.n0 .unit,a0,⟨⟨trivial,by decide,by decide⟩,rfl⟩,ha0,o4 1 [19,25,37,337] g0 g00 h0 qBj⟩
   | two k s u =>
    simp only [Ty.size] at hz2 hg h64 ⊢
    cases k with
    | false =>
     obtain⟨x,b,q1,hb,g1⟩:=qGz hL s g (z-1) a0 (by omega) (by omega) (by omega) ha0 (by omega)
     obtain⟨y,c,q2,hc,g2⟩:=qGz hL u g (z-1) b (by omega) (by omega) (by omega) hb (by omega)
     exact⟨.n2 .pair x y,c,⟨⟨⟨q1.sc,q2.sc⟩,by have:=q1.cnt;have:=q2.cnt;simp only [Tm.cnt];omega,by have:=q1.tsz;have:=q2.tsz;simp only [Tm.tsz];omega⟩,qJk q1.ty q2.ty (by simp only [Ty.size];omega)⟩,hc,o8 1 [19,25,37,(301,.y (z-1)),302,(310,.y (z-1)),311,313] g0 g00 h0 h1 g1 h1 g2 (n78 .pair x y)⟩
    | true =>
     obtain⟨x,b,q1,hb,g1⟩:=qGz hL u (g++[s]) (z-1) a0 (by omega) (by omega) (by simp;omega) ha0 (by omega)
     have g2:=a41 g [s] (by simp;omega)
     exact⟨.lam s x,b,⟨⟨by have:=q1.sc;simpa [Tm.sc] using this,by have:=q1.cnt;simp only [Tm.cnt];omega,by have:=q1.tsz;simp only [Tm.tsz];omega⟩,qZ7 q1.ty (by simp only [Ty.size];omega)⟩,hb,o7 1 [19,25,37,327,(333,.y (z-1)),334,336] g0 g00 h0 g2 h1 g1 (qVh s x)⟩
def tb (S:Nat):Nat→Nat
 | 0=>4 * S
 | k+1=>3 * tb S k+200
def H28 (L:List Int) (S k:Nat):Prop:=∀ (t:Ty) (g:List Ty) (a:Nat),t.size≤S→(∀ s∈g,s.size≤S)→g.length+3 * k+S≤1000000→a≤L.length→∃ (x:Tm) (b:Nat),TT g t (tb S k) S x∧b≤L.length∧M28 L g t (num k) a x b
theorem zBu {L:List Int} (hL:Dk L) (S:Nat) (hS:S≤20):H28 L S 0:=by
 intro t g a ht hg hl ha
 obtain⟨x,b,q,hb,h⟩:=qGz hL t g 0 a (Int.le_refl _) (by omega) (by omega) ha (by omega)
 exact⟨x,b,q.mono (by simp only [tb];omega) ht,hb,h⟩
abbrev z5:List PV:=[.int 0,.int 0,.int 0,.nils,.nils]
abbrev qW2:Kp:=⟨[0,1,3,6,8,176,177],[0,1,2],3,[0]⟩
abbrev s28 (L:List Int) (g:List Ty) (t:Ty) (k a i:Nat):IS:=st [(0,.loc 0 0),(1,.pv (tys g)),(3,.pv (num (k+1))),(6,.loc 1 0),(8,.loc 2 0),(176,.pv (num (g.map Ty.c).length)),(177,.pv (num i))] [(0,dk L a),(1,bx t.c),(2,bx z5)] 3 [0]
abbrev e28 (L:List Int) (g:List Ty) (t:Ty) (k a:Nat):IS:=st [(0,.loc 0 0),(1,.pv (tys g)),(3,.pv (num (k+1))),(6,.loc 1 0),(8,.loc 2 0)] [(0,dk L a),(1,bx t.c),(2,bx z5)] 3 [0]
theorem qOx {L:List Int} {S k:Nat} (hk:H28 L S k) (t:Ty) {g:List Ty} (hg:∀ s∈g,s.size≤S) (hl:g.length+3 * k+S≤1000000) {a:Nat} (ha:a≤L.length):∀ (r i:Nat),i+r=g.length →
  Lp 24 0 1 (s28 L g t k a i) (.exit 1) (e28 L g t k a) ∨ ∃ (x:Tm) (b:Nat),TT g t (tb S k+2) S x∧b≤L.length∧Lp 24 0 1 (s28 L g t k a i) .ret (st [(8,.loc 2 0)] [(0,dk L b),(2,bx x.c)] 3 [0])
 | 0,i,h=>by
  have e:ltI (.ofNat i) (.ofNat (g.map Ty.c).length)=false:=qZ4 (by simp;omega)
  exact .inl (x1 [178] ⟨[0,1,3,6,8],[0,1,2],3,[0]⟩ e)
 | r+1,i,h=>by
  have hm:=qQh
  have hb:=qQk
  have e:ltI (.ofNat i) (.ofNat (g.map Ty.c).length)=true:=qWz (by simp;omega)
  obtain⟨s,g1,g2,g3,hs,hv⟩:=zBt (g:=g) (k:=i) (by omega) (by omega)
  have g6:=qQv (a:=i) (b:=1) (by omega)
  have ih:=qOx hk t hg hl ha r (i+1) (by omega)
  cases s with
  | nat =>
   rcases ih with ih|⟨x,b,q,hb,ih⟩
   ·exact .inl (n6 [178,183,185,(186,.i Ty.nat.c),212] qW2 e g1 g2 g3 g6 ih)
   ·exact .inr ⟨x,b,q,hb,n6 [178,183,185,(186,.i Ty.nat.c),212] qW2 e g1 g2 g3 g6 ih⟩
  | list =>
   rcases ih with ih|⟨x,b,q,hb,ih⟩
   ·exact .inl (n6 [178,183,185,(186,.i Ty.list.c),212] qW2 e g1 g2 g3 g6 ih)
   ·exact .inr ⟨x,b,q,hb,n6 [178,183,185,(186,.i Ty.list.c),212] qW2 e g1 g2 g3 g6 ih⟩
  | unit =>
   rcases ih with ih|⟨x,b,q,hb,ih⟩
   ·exact .inl (n6 [178,183,185,(186,.i Ty.unit.c),212] qW2 e g1 g2 g3 g6 ih)
   ·exact .inr ⟨x,b,q,hb,n6 [178,183,185,(186,.i Ty.unit.c),212] qW2 e g1 g2 g3 g6 ih⟩
  | two c u w =>
   have hu:1+u.size+w.size≤S:=hg _ hs
   cases c with
   | false =>
    rcases ih with ih|⟨x,b,q,hb,ih⟩
    ·exact .inl (n6 [178,183,185,(186,.i (Ty.two false u w).c),212] qW2 e g1 g2 g3 g6 ih)
    ·exact .inr ⟨x,b,q,hb,n6 [178,183,185,(186,.i (Ty.two false u w).c),212] qW2 e g1 g2 g3 g6 ih⟩
   | true =>
    have g4:=a80 w t
    cases hs':w.same t<;>rw [hs'] at g4
    ·rcases ih with ih|⟨x,b,q,hb,ih⟩
     ·exact .inl (n7 [178,183,185,(186,.i (Ty.two true u w).c),197,212] qW2 e g1 g2 g3 g4 g6 ih)
     ·exact .inr ⟨x,b,q,hb,n7 [178,183,185,(186,.i (Ty.two true u w).c),197,212] qW2 e g1 g2 g3 g4 g6 ih⟩
    ·obtain⟨x,b,q,hb,g7⟩:=hk u g a (by omega) hg hl ha
     have g8:=qFg (a:=k+1) (by omega) (by omega)
     exact .inr ⟨.n2 .app (.v i) x,b,⟨⟨⟨by show i<g.length;omega,q.sc⟩,by have:=q.cnt;simp only [Tm.cnt];omega,by have:=q.tsz;simp only [Tm.tsz];omega⟩,qQ5 (s:=u) (by show tyV g i=_;rw [hv,(qZ6 w t).1 hs']) q.ty⟩,hb,x9 [178,183,185,(186,.i (Ty.two true u w).c),197,200,208,209,211] ⟨[8],[0,2],3,[0]⟩ e g1 g2 g3 g4 (a51 i) g8 g7 (n78 .app (.v i) x)⟩
theorem qPy {S:Nat} {g:List Ty} {l:List Ty} (hg:∀ s∈g,s.size≤S) (hl:∀ s∈l,s.size≤S):∀ s∈g++l,s.size≤S:=fun s hs=>by
 rcases List.mem_append.1 hs with h|h
 ·exact hg s h
 ·exact hl s h
theorem qX6 (n S:Nat) (h:1≤S):TG n 50 S plusT:=⟨by simp [plusT,Tm.sc],by decide,Nat.le_trans (by decide:plusT.tsz≤1) h⟩
theorem qDa (n S:Nat) (h:1≤S):TG n 50 S subT:=⟨by simp [subT,predT,Tm.sc],by decide,Nat.le_trans (by decide:subT.tsz≤1) h⟩
theorem tvz (g:List Ty) (s:Ty):(Tm.v 0).tyR (g++[s]) = .ok s:=by show tyV _ _=_;unfold tyV;simp
theorem tvs (g:List Ty) (s u:Ty):(Tm.v 1).tyR (g++[s]++[u]) = .ok s:=by show tyV _ _=_;unfold tyV;simp
theorem nn2 {g:List Ty} {b:Tm} (h:b.tyR (g++[.nat]++[.nat]) = .ok .nat):(Tm.lam .nat (.lam .nat b)).tyR g = .ok (.two true .nat (.two true .nat .nat)):=qZ7 (qZ7 h (by decide)) (by decide)
theorem qX7 (g:List Ty):plusT.tyR g = .ok (.two true .nat (.two true .nat .nat)):=nn2 (qGy (tvs _ _ _) (nn2 (qAa (tvz _ _))) (tvz _ _))
theorem qS6 (g:List Ty):predT.tyR g = .ok (.two true .nat .nat):=qZ7 (qGy rfl (nn2 (tvs _ _ _)) (tvz _ _)) (by decide)
theorem qDb (g:List Ty):subT.tyR g = .ok (.two true .nat (.two true .nat .nat)):=nn2 (qGy (tvs _ _ _) (nn2 (qQ5 (qS6 _) (tvz _ _))) (tvz _ _))
theorem zBv {L:List Int} (hL:Dk L) {S k:Nat} (hS:3≤S) (hS2:S≤20) (hk:H28 L S k):H28 L S (k+1):=by
 intro t g a ht hg hl ha
 have hm:=qQh
 have hb:=qQk
 have gs:=qFg (a:=k+1) (by omega) (by omega)
 have etb:tb S (k+1)=3 * tb S k+200:=rfl
 rcases zXc hL (g:=g) (t:=t) (by omega) (num (k+1)) ha with ⟨i,b,hi,hb,h⟩|g0|⟨i0,r0,a0,ha0,g0,g00⟩
 ·exact⟨.v i,b,⟨⟨qUz hi,by simp only [Tm.cnt];omega,Nat.zero_le _⟩,hi⟩,hb,h⟩
 ·obtain⟨w,b,hw,hb1,gw⟩:=nx hL ha (n:=8) (by omega) (by omega)
  rcases w with _|_|_|_|_|_|w
  ·obtain⟨s,c,zs,hc,g1⟩:=a37 hL 0 (by omega) hb1
   have zs:s.size≤1:=zs
   obtain⟨x,d,q1,hd,g2⟩:=hk t (g++[s]) c ht (qPy hg (by simp;omega)) (by simp;omega) hc
   obtain⟨y,e,q2,he,g3⟩:=hk s g d (by omega) hg (by omega) hd
   have g4:=a41 g [s] (by simp;omega)
   exact⟨.n2 .app (.lam s x) y,e,⟨⟨⟨by have:=q1.sc;simpa [Tm.sc] using this,q2.sc⟩,by have:=q1.cnt;have:=q2.cnt;simp only [Tm.cnt];omega,by have:=q1.tsz;have:=q2.tsz;simp only [Tm.tsz];omega⟩,qQ5 (qZ7 q1.ty (by simp only [Ty.size];omega)) q2.ty⟩,he,o10 1 [19,39,43,49,52,53,55,60,61,63] g0 gw g1 g4 gs g2 (qVh s x) gs g3 (n78 .app (.lam s x) y)⟩
  ·obtain⟨s,c,zs,hc,g1⟩:=a37 hL 0 (by omega) hb1
   have zs:s.size≤1:=zs
   obtain⟨x,d,q1,hd,g2⟩:=hk t g c ht hg (by omega) hc
   obtain⟨y,e,q2,he,g3⟩:=hk s g d (by omega) hg (by omega) hd
   exact⟨.n1 .fst (.n2 .pair x y),e,⟨⟨⟨q1.sc,q2.sc⟩,by have:=q1.cnt;have:=q2.cnt;simp only [Tm.cnt];omega,by have:=q1.tsz;have:=q2.tsz;simp only [Tm.tsz];omega⟩,qOv (qJk q1.ty q2.ty (by simp only [Ty.size];omega))⟩,he,o9 1 [19,39,67,72,73,78,79,81,83] g0 gw g1 gs g2 gs g3 (n78 .pair x y) (qE8 .fst (.n2 .pair x y))⟩
  ·obtain⟨x,c,q1,hc,g1⟩:=hk t (g++[.nat,t]) b ht (qPy hg (by simp [Ty.size];omega)) (by simp;omega) hb1
   obtain⟨y,d,q2,hd,g2⟩:=hk t g c ht hg (by omega) hc
   obtain⟨v,e,hv,he,g3⟩:=nx hL hd (n:=3) (by omega) (by omega)
   have g4:=a41 g [.nat,t] (by simp;omega)
   have g5:=a22 (n:=v) (by omega)
   have qn:TG g.length 4 0 (qZt v):=qGx hv
   exact⟨.n3 .re t y (.lam .nat (.lam t x)) (qZt v),e,⟨⟨⟨q2.sc,by have:=q1.sc;simpa [Tm.sc] using this,qn.sc⟩,by have:=q1.cnt;have:=q2.cnt;have:=qn.cnt;simp only [Tm.cnt];omega,by have:=q1.tsz;have:=q2.tsz;have:=qn.tsz;simp only [Tm.tsz,Ty.size];omega⟩,qGy q2.ty (qC8 q1.ty (by simp only [Ty.size];omega)) (qW1 g v)⟩,he,o14 1 [19,39,86,90,93,96,97,99,101,107,108,111,112,114] g0 gw a42 a42 g4 gs g1 (qVh t x) (qVh .nat (.lam t x)) gs g2 g3 g5 (qN4 .re t y (.lam .nat (.lam t x)) (qZt v))⟩
  ·obtain⟨x,c,q1,hc,g1⟩:=hk t (g++[.nat,.list,t]) b ht (qPy hg (by simp [Ty.size];omega)) (by simp;omega) hb1
   obtain⟨y,d,q2,hd,g2⟩:=hk t g c ht hg (by omega) hc
   obtain⟨v,e,q3,he,g3⟩:=hk .list g d (by simp only [Ty.size];omega) hg (by omega) hd
   have g4:=a41 g [.nat,.list,t] (by simp;omega)
   exact⟨.n3 .fo t y (.lam .nat (.lam .list (.lam t x))) v,e,⟨⟨⟨q2.sc,by have:=q1.sc;simpa [Tm.sc] using this,q3.sc⟩,by have:=q1.cnt;have:=q2.cnt;have:=q3.cnt;simp only [Tm.cnt];omega,by have:=q1.tsz;have:=q2.tsz;have:=q3.tsz;simp only [Tm.tsz,Ty.size];omega⟩,zXb q2.ty (qOu q1.ty (by simp only [Ty.size];omega)) q3.ty⟩,he,o18 1 [19,39,117,118,122,123,126,129,130,132,134,136,142,143,147,149,150,152] g0 gw a42 a57 a42 a57 g4 gs g1 (qVh t x) (qVh .list (.lam t x)) (qVh .nat (.lam .list (.lam t x))) gs g2 a57 gs g3 (qN4 .fo t y (.lam .nat (.lam .list (.lam t x))) v)⟩
  ·obtain⟨s,c,zs,hc,g1⟩:=a37 hL 0 (by omega) hb1
   have zs:s.size≤1:=zs
   obtain⟨y,d,q2,hd,g2⟩:=hk s g c (by omega) hg (by omega) hc
   obtain⟨x,e,q1,he,g3⟩:=hk t g d ht hg (by omega) hd
   exact⟨.n1 .snd (.n2 .pair y x),e,⟨⟨⟨q2.sc,q1.sc⟩,by have:=q1.cnt;have:=q2.cnt;simp only [Tm.cnt];omega,by have:=q1.tsz;have:=q2.tsz;simp only [Tm.tsz];omega⟩,qOw (qJk q2.ty q1.ty (by simp only [Ty.size];omega))⟩,he,o9 1 [19,39,156,161,162,167,168,170,172] g0 gw g1 gs g2 gs g3 (n78 .pair y x) (qE8 .snd (.n2 .pair y x))⟩
  ·rcases qOx hk t hg (by omega) hb1 g.length 0 (by omega) with gl|⟨x,c,q,hc,gl⟩
   ·have gl:=gl
    cases t with
    | unit=>exact⟨.n0 .unit,b,⟨⟨trivial,by simp only [Tm.cnt];omega,Nat.zero_le _⟩,rfl⟩,hb1,o4 1 [19,39,(100023,.l qW2 (.exit 1) (e28 L g .unit k b)),337] g0 gw gl qBj⟩
    | nat =>
     obtain⟨m,c,hm1,hc,gm⟩:=nx hL hb1 (n:=5) (by omega) (by omega)
     obtain⟨x,d,q1,hd,g1⟩:=hk .nat g c ht hg (by omega) hc
     obtain⟨y,e,q2,he,g2⟩:=hk .nat g d ht hg (by omega) hd
     rcases m with _|_|_|m
     ·exact⟨.n1 .succ x,d,⟨⟨q1.sc,by have:=q1.cnt;simp only [Tm.cnt];omega,by have:=q1.tsz;simp only [Tm.tsz];omega⟩,qAa q1.ty⟩,hd,o7 1 [19,39,(100023,.l qW2 (.exit 1) (e28 L g .nat k b)),220,227,228,230] g0 gw gl gm gs g1 (qE8 .succ x)⟩
     ·have qT:=qX6 g.length S (by omega)
      exact⟨.n2 .app (.n2 .app plusT x) y,e,⟨⟨⟨⟨qT.sc,q1.sc⟩,q2.sc⟩,by have:=q1.cnt;have:=q2.cnt;have:=qT.cnt;simp only [Tm.cnt];omega,by have:=q1.tsz;have:=q2.tsz;have:=qT.tsz;simp only [Tm.tsz];omega⟩,qQ5 (qQ5 (qX7 g) q1.ty) q2.ty⟩,he,o10 1 [19,39,(100023,.l qW2 (.exit 1) (e28 L g .nat k b)),220,233,238,239,244,245,247] g0 gw gl gm a82 gs g1 gs g2 (qE7 plusT x y)⟩
     ·have qT:=qDa g.length S (by omega)
      exact⟨.n2 .app (.n2 .app subT x) y,e,⟨⟨⟨⟨qT.sc,q1.sc⟩,q2.sc⟩,by have:=q1.cnt;have:=q2.cnt;have:=qT.cnt;simp only [Tm.cnt];omega,by have:=q1.tsz;have:=q2.tsz;have:=qT.tsz;simp only [Tm.tsz];omega⟩,qQ5 (qQ5 (qDb g) q1.ty) q2.ty⟩,he,o10 1 [19,39,(100023,.l qW2 (.exit 1) (e28 L g .nat k b)),220,250,255,256,261,262,264] g0 gw gl gm a83 gs g1 gs g2 (qE7 subT x y)⟩
     ·obtain⟨v,d,hv,hd,gv⟩:=nx hL hc (n:=3) (by omega) (by omega)
      have gn:=a22 (n:=v) (by omega)
      exact⟨qZt v,d,(qV0 g hv).mono (by omega) (Nat.zero_le _),hd,o6 1 [19,39,(100023,.l qW2 (.exit 1) (e28 L g .nat k b)),220,266,267] g0 gw gl gm gv gn⟩
    | list =>
     obtain⟨m,c,hm1,hc,gm⟩:=nx hL hb1 (n:=2) (by omega) (by omega)
     cases m with
     | zero =>
      obtain⟨x,d,q1,hd,g1⟩:=hk .nat g c (by simp only [Ty.size];omega) hg (by omega) hc
      obtain⟨y,e,q2,he,g2⟩:=hk .list g d ht hg (by omega) hd
      exact⟨.n2 .cons x y,e,⟨⟨⟨q1.sc,q2.sc⟩,by have:=q1.cnt;have:=q2.cnt;simp only [Tm.cnt];omega,by have:=q1.tsz;have:=q2.tsz;simp only [Tm.tsz];omega⟩,qC9 q1.ty q2.ty⟩,he,o10 1 [19,39,(100023,.l qW2 (.exit 1) (e28 L g .list k b)),274,279,281,282,287,288,290] g0 gw gl gm a42 gs g1 gs g2 (n78 .cons x y)⟩
     | succ m=>exact⟨.n0 .nil,c,⟨⟨trivial,by simp only [Tm.cnt];omega,Nat.zero_le _⟩,rfl⟩,hc,o5 1 [19,39,(100023,.l qW2 (.exit 1) (e28 L g .list k b)),274,291] g0 gw gl gm qLm⟩
    | two j s u =>
     have ht:1+s.size+u.size≤S:=ht
     cases j with
     | false =>
      obtain⟨x,d,q1,hd,g1⟩:=hk s g b (by omega) hg (by omega) hb1
      obtain⟨y,e,q2,he,g2⟩:=hk u g d (by omega) hg (by omega) hd
      exact⟨.n2 .pair x y,e,⟨⟨⟨q1.sc,q2.sc⟩,by have:=q1.cnt;have:=q2.cnt;simp only [Tm.cnt];omega,by have:=q1.tsz;have:=q2.tsz;simp only [Tm.tsz];omega⟩,qJk q1.ty q2.ty (by simp only [Ty.size];omega)⟩,he,o8 1 [19,39,(100023,.l qW2 (.exit 1) (e28 L g (.two false s u) k b)),301,302,310,311,313] g0 gw gl gs g1 gs g2 (n78 .pair x y)⟩
     | true =>
      obtain⟨x,d,q1,hd,g1⟩:=hk u (g++[s]) b (by omega) (qPy hg (by simp;omega)) (by simp;omega) hb1
      have g2:=a41 g [s] (by simp;omega)
      exact⟨.lam s x,d,⟨⟨(by have:=q1.sc;simpa [Tm.sc] using this),by have:=q1.cnt;simp only [Tm.cnt];omega,by have:=q1.tsz;simp only [Tm.tsz];omega⟩,qZ7 q1.ty (by simp only [Ty.size];omega)⟩,hd,o7 1 [19,39,(100023,.l qW2 (.exit 1) (e28 L g (.two true s u) k b)),327,333,334,336] g0 gw gl g2 gs g1 (qVh s x)⟩
   ·exact⟨x,c,q.mono (by omega) (Nat.le_refl _),hc,o3 1 [19,39,(100023,.l qW2 .ret (st [(8,.loc 2 0)] [(0,dk L c),(2,bx x.c)] 3 [0]))] g0 gw gl⟩
  ·have hw:=hw
   cases t with
   | unit=>exact⟨.n0 .unit,b,⟨⟨trivial,by simp only [Tm.cnt];omega,Nat.zero_le _⟩,rfl⟩,hb1,o3 1 [19,39,337] g0 gw qBj⟩
   | nat =>
    obtain⟨m,c,hm1,hc,gm⟩:=nx hL hb1 (n:=5) (by omega) (by omega)
    obtain⟨x,d,q1,hd,g1⟩:=hk .nat g c ht hg (by omega) hc
    obtain⟨y,e,q2,he,g2⟩:=hk .nat g d ht hg (by omega) hd
    rcases m with _|_|_|m
    ·exact⟨.n1 .succ x,d,⟨⟨q1.sc,by have:=q1.cnt;simp only [Tm.cnt];omega,by have:=q1.tsz;simp only [Tm.tsz];omega⟩,qAa q1.ty⟩,hd,o6 1 [19,39,220,227,228,230] g0 gw gm gs g1 (qE8 .succ x)⟩
    ·have qT:=qX6 g.length S (by omega)
     exact⟨.n2 .app (.n2 .app plusT x) y,e,⟨⟨⟨⟨qT.sc,q1.sc⟩,q2.sc⟩,by have:=q1.cnt;have:=q2.cnt;have:=qT.cnt;simp only [Tm.cnt];omega,by have:=q1.tsz;have:=q2.tsz;have:=qT.tsz;simp only [Tm.tsz];omega⟩,qQ5 (qQ5 (qX7 g) q1.ty) q2.ty⟩,he,o9 1 [19,39,220,233,238,239,244,245,247] g0 gw gm a82 gs g1 gs g2 (qE7 plusT x y)⟩
    ·have qT:=qDa g.length S (by omega)
     exact⟨.n2 .app (.n2 .app subT x) y,e,⟨⟨⟨⟨qT.sc,q1.sc⟩,q2.sc⟩,by have:=q1.cnt;have:=q2.cnt;have:=qT.cnt;simp only [Tm.cnt];omega,by have:=q1.tsz;have:=q2.tsz;have:=qT.tsz;simp only [Tm.tsz];omega⟩,qQ5 (qQ5 (qDb g) q1.ty) q2.ty⟩,he,o9 1 [19,39,220,250,255,256,261,262,264] g0 gw gm a83 gs g1 gs g2 (qE7 subT x y)⟩
    ·obtain⟨v,d,hv,hd,gv⟩:=nx hL hc (n:=3) (by omega) (by omega)
     have gn:=a22 (n:=v) (by omega)
     exact⟨qZt v,d,(qV0 g hv).mono (by omega) (Nat.zero_le _),hd,o5 1 [19,39,220,266,267] g0 gw gm gv gn⟩
   | list =>
    obtain⟨m,c,hm1,hc,gm⟩:=nx hL hb1 (n:=2) (by omega) (by omega)
    cases m with
    | zero =>
     obtain⟨x,d,q1,hd,g1⟩:=hk .nat g c (by simp only [Ty.size];omega) hg (by omega) hc
     obtain⟨y,e,q2,he,g2⟩:=hk .list g d ht hg (by omega) hd
     exact⟨.n2 .cons x y,e,⟨⟨⟨q1.sc,q2.sc⟩,by have:=q1.cnt;have:=q2.cnt;simp only [Tm.cnt];omega,by have:=q1.tsz;have:=q2.tsz;simp only [Tm.tsz];omega⟩,qC9 q1.ty q2.ty⟩,he,o9 1 [19,39,274,279,281,282,287,288,290] g0 gw gm a42 gs g1 gs g2 (n78 .cons x y)⟩
    | succ m=>exact⟨.n0 .nil,c,⟨⟨trivial,by simp only [Tm.cnt];omega,Nat.zero_le _⟩,rfl⟩,hc,o4 1 [19,39,274,291] g0 gw gm qLm⟩
   | two j s u =>
    have ht:1+s.size+u.size≤S:=ht
    cases j with
    | false =>
     obtain⟨x,d,q1,hd,g1⟩:=hk s g b (by omega) hg (by omega) hb1
     obtain⟨y,e,q2,he,g2⟩:=hk u g d (by omega) hg (by omega) hd
     exact⟨.n2 .pair x y,e,⟨⟨⟨q1.sc,q2.sc⟩,by have:=q1.cnt;have:=q2.cnt;simp only [Tm.cnt];omega,by have:=q1.tsz;have:=q2.tsz;simp only [Tm.tsz];omega⟩,qJk q1.ty q2.ty (by simp only [Ty.size];omega)⟩,he,o7 1 [19,39,301,302,310,311,313] g0 gw gs g1 gs g2 (n78 .pair x y)⟩
    | true =>
     obtain⟨x,d,q1,hd,g1⟩:=hk u (g++[s]) b (by omega) (qPy hg (by simp;omega)) (by simp;omega) hb1
     have g2:=a41 g [s] (by simp;omega)
     exact⟨.lam s x,d,⟨⟨(by have:=q1.sc;simpa [Tm.sc] using this),by have:=q1.cnt;simp only [Tm.cnt];omega,by have:=q1.tsz;simp only [Tm.tsz];omega⟩,qZ7 q1.ty (by simp only [Ty.size];omega)⟩,hd,o6 1 [19,39,327,333,334,336] g0 gw g2 gs g1 (qVh s x)⟩
 ·obtain⟨w,b,hw,hb1,gw⟩:=nx hL ha0 (n:=8) (by omega) (by omega)
  rcases w with _|_|_|_|_|_|w
  ·obtain⟨s,c,zs,hc,g1⟩:=a37 hL 0 (by omega) hb1
   have zs:s.size≤1:=zs
   obtain⟨x,d,q1,hd,g2⟩:=hk t (g++[s]) c ht (qPy hg (by simp;omega)) (by simp;omega) hc
   obtain⟨y,e,q2,he,g3⟩:=hk s g d (by omega) hg (by omega) hd
   have g4:=a41 g [s] (by simp;omega)
   exact⟨.n2 .app (.lam s x) y,e,⟨⟨⟨by have:=q1.sc;simpa [Tm.sc] using this,q2.sc⟩,by have:=q1.cnt;have:=q2.cnt;simp only [Tm.cnt];omega,by have:=q1.tsz;have:=q2.tsz;simp only [Tm.tsz];omega⟩,qQ5 (qZ7 q1.ty (by simp only [Ty.size];omega)) q2.ty⟩,he,o11 1 [19,25,39,43,49,52,53,55,60,61,63] g0 g00 gw g1 g4 gs g2 (qVh s x) gs g3 (n78 .app (.lam s x) y)⟩
  ·obtain⟨s,c,zs,hc,g1⟩:=a37 hL 0 (by omega) hb1
   have zs:s.size≤1:=zs
   obtain⟨x,d,q1,hd,g2⟩:=hk t g c ht hg (by omega) hc
   obtain⟨y,e,q2,he,g3⟩:=hk s g d (by omega) hg (by omega) hd
   exact⟨.n1 .fst (.n2 .pair x y),e,⟨⟨⟨q1.sc,q2.sc⟩,by have:=q1.cnt;have:=q2.cnt;simp only [Tm.cnt];omega,by have:=q1.tsz;have:=q2.tsz;simp only [Tm.tsz];omega⟩,qOv (qJk q1.ty q2.ty (by simp only [Ty.size];omega))⟩,he,o10 1 [19,25,39,67,72,73,78,79,81,83] g0 g00 gw g1 gs g2 gs g3 (n78 .pair x y) (qE8 .fst (.n2 .pair x y))⟩
  ·obtain⟨x,c,q1,hc,g1⟩:=hk t (g++[.nat,t]) b ht (qPy hg (by simp [Ty.size];omega)) (by simp;omega) hb1
   obtain⟨y,d,q2,hd,g2⟩:=hk t g c ht hg (by omega) hc
   obtain⟨v,e,hv,he,g3⟩:=nx hL hd (n:=3) (by omega) (by omega)
   have g4:=a41 g [.nat,t] (by simp;omega)
   have g5:=a22 (n:=v) (by omega)
   have qn:TG g.length 4 0 (qZt v):=qGx hv
   exact⟨.n3 .re t y (.lam .nat (.lam t x)) (qZt v),e,⟨⟨⟨q2.sc,by have:=q1.sc;simpa [Tm.sc] using this,qn.sc⟩,by have:=q1.cnt;have:=q2.cnt;have:=qn.cnt;simp only [Tm.cnt];omega,by have:=q1.tsz;have:=q2.tsz;have:=qn.tsz;simp only [Tm.tsz,Ty.size];omega⟩,qGy q2.ty (qC8 q1.ty (by simp only [Ty.size];omega)) (qW1 g v)⟩,he,o15 1 [19,25,39,86,90,93,96,97,99,101,107,108,111,112,114] g0 g00 gw a42 a42 g4 gs g1 (qVh t x) (qVh .nat (.lam t x)) gs g2 g3 g5 (qN4 .re t y (.lam .nat (.lam t x)) (qZt v))⟩
  ·obtain⟨x,c,q1,hc,g1⟩:=hk t (g++[.nat,.list,t]) b ht (qPy hg (by simp [Ty.size];omega)) (by simp;omega) hb1
   obtain⟨y,d,q2,hd,g2⟩:=hk t g c ht hg (by omega) hc
   obtain⟨v,e,q3,he,g3⟩:=hk .list g d (by simp only [Ty.size];omega) hg (by omega) hd
   have g4:=a41 g [.nat,.list,t] (by simp;omega)
   exact⟨.n3 .fo t y (.lam .nat (.lam .list (.lam t x))) v,e,⟨⟨⟨q2.sc,by have:=q1.sc;simpa [Tm.sc] using this,q3.sc⟩,by have:=q1.cnt;have:=q2.cnt;have:=q3.cnt;simp only [Tm.cnt];omega,by have:=q1.tsz;have:=q2.tsz;have:=q3.tsz;simp only [Tm.tsz,Ty.size];omega⟩,zXb q2.ty (qOu q1.ty (by simp only [Ty.size];omega)) q3.ty⟩,he,o19 1 [19,25,39,117,118,122,123,126,129,130,132,134,136,142,143,147,149,150,152] g0 g00 gw a42 a57 a42 a57 g4 gs g1 (qVh t x) (qVh .list (.lam t x)) (qVh .nat (.lam .list (.lam t x))) gs g2 a57 gs g3 (qN4 .fo t y (.lam .nat (.lam .list (.lam t x))) v)⟩
  ·obtain⟨s,c,zs,hc,g1⟩:=a37 hL 0 (by omega) hb1
   have zs:s.size≤1:=zs
   obtain⟨y,d,q2,hd,g2⟩:=hk s g c (by omega) hg (by omega) hc
   obtain⟨x,e,q1,he,g3⟩:=hk t g d ht hg (by omega) hd
   exact⟨.n1 .snd (.n2 .pair y x),e,⟨⟨⟨q2.sc,q1.sc⟩,by have:=q1.cnt;have:=q2.cnt;simp only [Tm.cnt];omega,by have:=q1.tsz;have:=q2.tsz;simp only [Tm.tsz];omega⟩,qOw (qJk q2.ty q1.ty (by simp only [Ty.size];omega))⟩,he,o10 1 [19,25,39,156,161,162,167,168,170,172] g0 g00 gw g1 gs g2 gs g3 (n78 .pair y x) (qE8 .snd (.n2 .pair y x))⟩
  ·rcases qOx hk t hg (by omega) hb1 g.length 0 (by omega) with gl|⟨x,c,q,hc,gl⟩
   ·have gl:=gl
    cases t with
    | unit=>exact⟨.n0 .unit,b,⟨⟨trivial,by simp only [Tm.cnt];omega,Nat.zero_le _⟩,rfl⟩,hb1,o5 1 [19,25,39,(100023,.l qW2 (.exit 1) (e28 L g .unit k b)),337] g0 g00 gw gl qBj⟩
    | nat =>
     obtain⟨m,c,hm1,hc,gm⟩:=nx hL hb1 (n:=5) (by omega) (by omega)
     obtain⟨x,d,q1,hd,g1⟩:=hk .nat g c ht hg (by omega) hc
     obtain⟨y,e,q2,he,g2⟩:=hk .nat g d ht hg (by omega) hd
     rcases m with _|_|_|m
     ·exact⟨.n1 .succ x,d,⟨⟨q1.sc,by have:=q1.cnt;simp only [Tm.cnt];omega,by have:=q1.tsz;simp only [Tm.tsz];omega⟩,qAa q1.ty⟩,hd,o8 1 [19,25,39,(100023,.l qW2 (.exit 1) (e28 L g .nat k b)),220,227,228,230] g0 g00 gw gl gm gs g1 (qE8 .succ x)⟩
     ·have qT:=qX6 g.length S (by omega)
      exact⟨.n2 .app (.n2 .app plusT x) y,e,⟨⟨⟨⟨qT.sc,q1.sc⟩,q2.sc⟩,by have:=q1.cnt;have:=q2.cnt;have:=qT.cnt;simp only [Tm.cnt];omega,by have:=q1.tsz;have:=q2.tsz;have:=qT.tsz;simp only [Tm.tsz];omega⟩,qQ5 (qQ5 (qX7 g) q1.ty) q2.ty⟩,he,o11 1 [19,25,39,(100023,.l qW2 (.exit 1) (e28 L g .nat k b)),220,233,238,239,244,245,247] g0 g00 gw gl gm a82 gs g1 gs g2 (qE7 plusT x y)⟩
     ·have qT:=qDa g.length S (by omega)
      exact⟨.n2 .app (.n2 .app subT x) y,e,⟨⟨⟨⟨qT.sc,q1.sc⟩,q2.sc⟩,by have:=q1.cnt;have:=q2.cnt;have:=qT.cnt;simp only [Tm.cnt];omega,by have:=q1.tsz;have:=q2.tsz;have:=qT.tsz;simp only [Tm.tsz];omega⟩,qQ5 (qQ5 (qDb g) q1.ty) q2.ty⟩,he,o11 1 [19,25,39,(100023,.l qW2 (.exit 1) (e28 L g .nat k b)),220,250,255,256,261,262,264] g0 g00 gw gl gm a83 gs g1 gs g2 (qE7 subT x y)⟩
     ·obtain⟨v,d,hv,hd,gv⟩:=nx hL hc (n:=3) (by omega) (by omega)
      have gn:=a22 (n:=v) (by omega)
      exact⟨qZt v,d,(qV0 g hv).mono (by omega) (Nat.zero_le _),hd,o7 1 [19,25,39,(100023,.l qW2 (.exit 1) (e28 L g .nat k b)),220,266,267] g0 g00 gw gl gm gv gn⟩
    | list =>
     obtain⟨m,c,hm1,hc,gm⟩:=nx hL hb1 (n:=2) (by omega) (by omega)
     cases m with
     | zero =>
      obtain⟨x,d,q1,hd,g1⟩:=hk .nat g c (by simp only [Ty.size];omega) hg (by omega) hc
      obtain⟨y,e,q2,he,g2⟩:=hk .list g d ht hg (by omega) hd
      exact⟨.n2 .cons x y,e,⟨⟨⟨q1.sc,q2.sc⟩,by have:=q1.cnt;have:=q2.cnt;simp only [Tm.cnt];omega,by have:=q1.tsz;have:=q2.tsz;simp only [Tm.tsz];omega⟩,qC9 q1.ty q2.ty⟩,he,o11 1 [19,25,39,(100023,.l qW2 (.exit 1) (e28 L g .list k b)),274,279,281,282,287,288,290] g0 g00 gw gl gm a42 gs g1 gs g2 (n78 .cons x y)⟩
     | succ m=>exact⟨.n0 .nil,c,⟨⟨trivial,by simp only [Tm.cnt];omega,Nat.zero_le _⟩,rfl⟩,hc,o6 1 [19,25,39,(100023,.l qW2 (.exit 1) (e28 L g .list k b)),274,291] g0 g00 gw gl gm qLm⟩
    | two j s u =>
     have ht:1+s.size+u.size≤S:=ht
     cases j with
     | false =>
      obtain⟨x,d,q1,hd,g1⟩:=hk s g b (by omega) hg (by omega) hb1
      obtain⟨y,e,q2,he,g2⟩:=hk u g d (by omega) hg (by omega) hd
      exact⟨.n2 .pair x y,e,⟨⟨⟨q1.sc,q2.sc⟩,by have:=q1.cnt;have:=q2.cnt;simp only [Tm.cnt];omega,by have:=q1.tsz;have:=q2.tsz;simp only [Tm.tsz];omega⟩,qJk q1.ty q2.ty (by simp only [Ty.size];omega)⟩,he,o9 1 [19,25,39,(100023,.l qW2 (.exit 1) (e28 L g (.two false s u) k b)),301,302,310,311,313] g0 g00 gw gl gs g1 gs g2 (n78 .pair x y)⟩
     | true =>
      obtain⟨x,d,q1,hd,g1⟩:=hk u (g++[s]) b (by omega) (qPy hg (by simp;omega)) (by simp;omega) hb1
      have g2:=a41 g [s] (by simp;omega)
      exact⟨.lam s x,d,⟨⟨(by have:=q1.sc;simpa [Tm.sc] using this),by have:=q1.cnt;simp only [Tm.cnt];omega,by have:=q1.tsz;simp only [Tm.tsz];omega⟩,qZ7 q1.ty (by simp only [Ty.size];omega)⟩,hd,o8 1 [19,25,39,(100023,.l qW2 (.exit 1) (e28 L g (.two true s u) k b)),327,333,334,336] g0 g00 gw gl g2 gs g1 (qVh s x)⟩
   ·exact⟨x,c,q.mono (by omega) (Nat.le_refl _),hc,o4 1 [19,25,39,(100023,.l qW2 .ret (st [(8,.loc 2 0)] [(0,dk L c),(2,bx x.c)] 3 [0]))] g0 g00 gw gl⟩
  ·have hw:=hw
   cases t with
   | unit=>exact⟨.n0 .unit,b,⟨⟨trivial,by simp only [Tm.cnt];omega,Nat.zero_le _⟩,rfl⟩,hb1,o4 1 [19,25,39,337] g0 g00 gw qBj⟩
   | nat =>
    obtain⟨m,c,hm1,hc,gm⟩:=nx hL hb1 (n:=5) (by omega) (by omega)
    obtain⟨x,d,q1,hd,g1⟩:=hk .nat g c ht hg (by omega) hc
    obtain⟨y,e,q2,he,g2⟩:=hk .nat g d ht hg (by omega) hd
    rcases m with _|_|_|m
    ·exact⟨.n1 .succ x,d,⟨⟨q1.sc,by have:=q1.cnt;simp only [Tm.cnt];omega,by have:=q1.tsz;simp only [Tm.tsz];omega⟩,qAa q1.ty⟩,hd,o7 1 [19,25,39,220,227,228,230] g0 g00 gw gm gs g1 (qE8 .succ x)⟩
    ·have qT:=qX6 g.length S (by omega)
     exact⟨.n2 .app (.n2 .app plusT x) y,e,⟨⟨⟨⟨qT.sc,q1.sc⟩,q2.sc⟩,by have:=q1.cnt;have:=q2.cnt;have:=qT.cnt;simp only [Tm.cnt];omega,by have:=q1.tsz;have:=q2.tsz;have:=qT.tsz;simp only [Tm.tsz];omega⟩,qQ5 (qQ5 (qX7 g) q1.ty) q2.ty⟩,he,o10 1 [19,25,39,220,233,238,239,244,245,247] g0 g00 gw gm a82 gs g1 gs g2 (qE7 plusT x y)⟩
    ·have qT:=qDa g.length S (by omega)
     exact⟨.n2 .app (.n2 .app subT x) y,e,⟨⟨⟨⟨qT.sc,q1.sc⟩,q2.sc⟩,by have:=q1.cnt;have:=q2.cnt;have:=qT.cnt;simp only [Tm.cnt];omega,by have:=q1.tsz;have:=q2.tsz;have:=qT.tsz;simp only [Tm.tsz];omega⟩,qQ5 (qQ5 (qDb g) q1.ty) q2.ty⟩,he,o10 1 [19,25,39,220,250,255,256,261,262,264] g0 g00 gw gm a83 gs g1 gs g2 (qE7 subT x y)⟩
    ·obtain⟨v,d,hv,hd,gv⟩:=nx hL hc (n:=3) (by omega) (by omega)
     have gn:=a22 (n:=v) (by omega)
     exact⟨qZt v,d,(qV0 g hv).mono (by omega) (Nat.zero_le _),hd,o6 1 [19,25,39,220,266,267] g0 g00 gw gm gv gn⟩
   | list =>
    obtain⟨m,c,hm1,hc,gm⟩:=nx hL hb1 (n:=2) (by omega) (by omega)
    cases m with
    | zero =>
     obtain⟨x,d,q1,hd,g1⟩:=hk .nat g c (by simp only [Ty.size];omega) hg (by omega) hc
     obtain⟨y,e,q2,he,g2⟩:=hk .list g d ht hg (by omega) hd
     exact⟨.n2 .cons x y,e,⟨⟨⟨q1.sc,q2.sc⟩,by have:=q1.cnt;have:=q2.cnt;simp only [Tm.cnt];omega,by have:=q1.tsz;have:=q2.tsz;simp only [Tm.tsz];omega⟩,qC9 q1.ty q2.ty⟩,he,o10 1 [19,25,39,274,279,281,282,287,288,290] g0 g00 gw gm a42 gs g1 gs g2 (n78 .cons x y)⟩
    | succ m=>exact⟨.n0 .nil,c,⟨⟨trivial,by simp only [Tm.cnt];omega,Nat.zero_le _⟩,rfl⟩,hc,o5 1 [19,25,39,274,291] g0 g00 gw gm qLm⟩
   | two j s u =>
    have ht:1+s.size+u.size≤S:=ht
    cases j with
    | false =>
     obtain⟨x,d,q1,hd,g1⟩:=hk s g b (by omega) hg (by omega) hb1
     obtain⟨y,e,q2,he,g2⟩:=hk u g d (by omega) hg (by omega) hd
     exact⟨.n2 .pair x y,e,⟨⟨⟨q1.sc,q2.sc⟩,by have:=q1.cnt;have:=q2.cnt;simp only [Tm.cnt];omega,by have:=q1.tsz;have:=q2.tsz;simp only [Tm.tsz];omega⟩,qJk q1.ty q2.ty (by simp only [Ty.size];omega)⟩,he,o8 1 [19,25,39,301,302,310,311,313] g0 g00 gw gs g1 gs g2 (n78 .pair x y)⟩
    | true =>
     obtain⟨x,d,q1,hd,g1⟩:=hk u (g++[s]) b (by omega) (qPy hg (by simp;omega)) (by simp;omega) hb1
     have g2:=a41 g [s] (by simp;omega)
     exact⟨.lam s x,d,⟨⟨(by have:=q1.sc;simpa [Tm.sc] using this),by have:=q1.cnt;simp only [Tm.cnt];omega,by have:=q1.tsz;simp only [Tm.tsz];omega⟩,qZ7 q1.ty (by simp only [Ty.size];omega)⟩,hd,o7 1 [19,25,39,327,333,334,336] g0 g00 gw g2 gs g1 (qVh s x)⟩
theorem h28 {L:List Int} (hL:Dk L) {S:Nat} (hS:3≤S) (hS2:S≤20):∀ k,H28 L S k
 | 0=>zBu hL S hS2
 | k+1=>zBv hL hS hS2 (h28 hL hS hS2 k)
open Go.Lg
set_option maxRecDepth 100000
theorem zV6:∀ f:Fm,f.cnt≤big→A 339 [f.p] (num f.cnt)
 | .eq t u,h=>by
  have h:1+t.cnt+u.cnt≤big:=h
  exact f4 [17,18,17,18] (qDl t (by omega)) (qQv (a:=1) (b:=t.cnt) (by omega)) (qDl u (by omega)) (qQv (a:=1+t.cnt) (b:=u.cnt) (by omega))
 | .bin k f g,h=>by
  have h:1+f.cnt+g.cnt≤big:=h
  have g1:=zV6 f (by omega)
  have g2:=qQv (a:=1) (b:=f.cnt) (by omega)
  have g3:=zV6 g (by omega)
  have g4:=qQv (a:=1+f.cnt) (b:=g.cnt) (by omega)
  cases k<;>exact f4 [29,30,29,30] g1 g2 g3 g4
 | .q k s f,h=>by
  have h:1+f.cnt≤big:=h
  have g1:=zV6 f (by omega)
  have g2:=qQv (a:=1) (b:=f.cnt) (by omega)
  cases k<;>exact f2 [29,30] g1 g2
theorem qOy:∀ t:Tm,t.mx≤268435456→A 290 [t.p] (.bool false)
 | .v i,h=>f1 [7] (show ltI (.ofNat 268435456) (.ofNat i)=false from qZ4 h)
 | .lam s b,h=>f1 [16] (qOy b h)
 | .n0 k,h=>by cases k<;>exact f0 []
 | .n1 k a,h=>by cases k<;>exact f1 [16] (qOy a h)
 | .n2 k a b,h=>by
  have h:max a.mx b.mx≤268435456:=h
  have g1:=qOy a (by omega)
  have g2:=qOy b (by omega)
  cases k<;>exact f2 [16,16] g1 g2
 | .n3 k s a b d,h=>by
  have h:max a.mx (max b.mx d.mx)≤268435456:=h
  have g1:=qOy a (by omega)
  have g2:=qOy b (by omega)
  have g3:=qOy d (by omega)
  cases k<;>exact f3 [16,16,16] g1 g2 g3
abbrev oF1:List (Nat × Ob):=[(1,bx [.bool false])]
theorem qS7:∀ (f:Fm) (d:Nat),d+f.cnt≤mid→f.mx≤268435456→O 340 [.pv f.p,.pv (num d),.fn 341 [.loc 1 0]] oF1 (.pv f.p) oF1
 | .eq t u,d,hd,h=>by
  have h:max t.mx u.mx≤268435456:=h
  exact o2 2 [(37,.n [(9,.F)]),(37,.n [(9,.F)])] (qOy t (by omega)) (qOy u (by omega))
 | .bin k f g,d,hd,h=>by
  have hd:d+(1+f.cnt+g.cnt)≤mid:=hd
  have h:max f.mx g.mx≤268435456:=h
  have g1:=qS7 f d (by omega) (by omega)
  have g2:=qS7 g d (by omega) (by omega)
  cases k<;>exact o2 2 [(54,.o [1] [] (.pv f.p)),(54,.o [1] [] (.pv g.p))] g1 g2
 | .q k s f,d,hd,h=>by
  have hmm:=qQh
  have hb:=qQk
  have hd:d+(1+f.cnt)≤mid:=hd
  have g:=qQv (a:=d) (b:=1) (by omega)
  have g1:=qS7 f (d+1) (by omega) h
  cases k<;>exact o2 2 [24,(54,.o [1] [] (.pv f.p))] g g1
theorem s68 (f:Fm) (h:f.cnt≤mid) (h':f.mx≤268435456):A 289 [f.p] (.bool false) :=
 f1 [(6,.o [1] [] (.pv f.p))] (qS7 f 0 (by omega) h')
theorem qS8 (c:Nat) (S:Tm) (hS:S.mx≤mid * mid) (hS':S.cnt≤mid):∀ (t:Tm) (d:Nat),c+d+t.cnt≤mid→t.mx≤mid * mid→A 391 [t.p,num c,num d,S.p] (t.put c S d).p
 | .v i,d,hd,h=>by
  have hmm:=qQh
  have hb:=qQk
  have h:i≤mid * mid:=h
  rw [hmm] at h
  have g:=qQv (a:=c) (b:=d) (by omega)
  by_cases h1:i=c+d
  ·have e:(Tm.v i).put c S d=S.sh 0 (.ofNat (c+d)):=by simp only [Tm.put,if_pos h1]
   rw [e]
   exact f4 [20,21,25,26] g (show eqI (.ofNat i) (.ofNat (c+d))=true by rw [h1];exact qLg _) g (zDi S 0 (c+d) (by omega) hS (by omega))
  ·by_cases h2:c+d<i
   ·have e:(Tm.v i).put c S d = .v (i-1):=by simp only [Tm.put,if_neg h1,if_pos h2]
    rw [e]
    exact f5 [20,21,32,33,36] g (qGo h1) g (qWz h2) (qCx (a:=i) (b:=1) (z:=.ofNat (i-1)) (by omega) (by omega) (by grind))
   ·have e:(Tm.v i).put c S d = .v i:=by simp only [Tm.put,if_neg h1,if_neg h2]
    rw [e]
    exact f4 [20,21,32,33] g (qGo h1) g (qZ4 (show i≤c+d by omega))
 | .lam s b,d,hd,h=>by
  have hmm:=qQh
  have hb:=qQk
  have hd:c+d+(1+b.cnt)≤mid:=hd
  exact f2 [43,59] (qQv (a:=d) (b:=1) (by omega)) (qS8 c S hS hS' b (d+1) (by omega) h)
 | .n0 k,d,_,_=>by cases k<;>exact f0 []
 | .n1 k a,d,hd,h=>by
  have hd:c+d+(1+a.cnt)≤mid:=hd
  have g1:=qS8 c S hS hS' a d (by omega) h
  cases k<;>exact f1 [59] g1
 | .n2 k a b,d,hd,h=>by
  have hd:c+d+(1+a.cnt+b.cnt)≤mid:=hd
  have h:max a.mx b.mx≤mid * mid:=h
  have g1:=qS8 c S hS hS' a d (by omega) (by omega)
  have g2:=qS8 c S hS hS' b d (by omega) (by omega)
  cases k<;>exact f2 [59,59] g1 g2
 | .n3 k s a b e,d,hd,h=>by
  have hd:c+d+(1+a.cnt+b.cnt+e.cnt)≤mid:=hd
  have h:max a.mx (max b.mx e.mx)≤mid * mid:=h
  have g1:=qS8 c S hS hS' a d (by omega) (by omega)
  have g2:=qS8 c S hS hS' b d (by omega) (by omega)
  have g3:=qS8 c S hS hS' e d (by omega) (by omega)
  cases k<;>exact f3 [59,59,59] g1 g2 g3
abbrev oP1 (S:Tm):List (Nat × Ob):=[(1,bx S.c)]
theorem qS9 (S:Tm) (hS:S.mx≤mid * mid) (hS':S.cnt≤mid):∀ (f:Fm) (d:Nat),d+f.cnt≤mid→f.mx≤mid * mid→O 340 [.pv f.p,.pv (num d),.fn 390 [.loc 1 0]] (oP1 S) (.pv (f.put 0 S d).p) (oP1 S)
 | .eq t u,d,hd,h=>by
  have hd:d+(1+t.cnt+u.cnt)≤mid:=hd
  have h:max t.mx u.mx≤mid * mid:=h
  exact o2 2 [(37,.n [(9,.r (t.put 0 S d).p)]),(37,.n [(9,.r (u.put 0 S d).p)])] (qS8 0 S hS hS' t d (by omega) (by omega)) (qS8 0 S hS hS' u d (by omega) (by omega))
 | .bin k f g,d,hd,h=>by
  have hd:d+(1+f.cnt+g.cnt)≤mid:=hd
  have h:max f.mx g.mx≤mid * mid:=h
  have g1:=qS9 S hS hS' f d (by omega) (by omega)
  have g2:=qS9 S hS hS' g d (by omega) (by omega)
  cases k<;>exact o2 2 [(54,.o [1] [] (.pv (f.put 0 S d).p)),(54,.o [1] [] (.pv (g.put 0 S d).p))] g1 g2
 | .q k s f,d,hd,h=>by
  have hmm:=qQh
  have hb:=qQk
  have hd:d+(1+f.cnt)≤mid:=hd
  have g:=qQv (a:=d) (b:=1) (by omega)
  have g1:=qS9 S hS hS' f (d+1) (by omega) h
  cases k<;>exact o2 2 [24,(54,.o [1] [] (.pv (f.put 0 S (d+1)).p))] g g1
theorem zE9 (f:Fm) (S:Tm) (h:f.cnt≤mid) (h':f.mx≤mid * mid) (hS:S.mx≤mid * mid) (hS':S.cnt≤mid):A 372 [f.p,S.p] (f.put 0 S 0).p :=
 f1 [(7,.o [1] [] (.pv (f.put 0 S 0).p))] (qS9 S hS hS' f 0 (by omega) h')
theorem qTa:∀ (t:Tm) (c:Nat),c+t.cnt≤mid→A 389 [t.p,num c] (num (t.occ c))
 | .v i,c,_=>by
  by_cases h:i=c
  ·have e:(Tm.v i).occ c=1:=by simp [Tm.occ,h]
   rw [e]
   exact f1 [15] (show eqI (.ofNat i) (.ofNat c)=true by rw [h];exact qLg c)
  ·have e:(Tm.v i).occ c=0:=by simp [Tm.occ,h]
   rw [e]
   exact f1 [15] (qGo h)
 | .lam s b,c,h=>by
  have hmm:=qQh
  have hb:=qQk
  have h:c+(1+b.cnt)≤mid:=h
  have:=qQp b (c+1)
  have g1:=qTa b (c+1) (by omega)
  have g2:=qN8 (n:=b.occ (c+1)) (by omega)
  exact f3 [21,32,33] (qQv (a:=c) (b:=1) (by omega)) g1 g2
 | .n0 k,c,_=>by cases k<;>exact f0 []
 | .n1 k a,c,h=>by
  have hmm:=qQh
  have hb:=qQk
  have h:c+(1+a.cnt)≤mid:=h
  have:=qQp a c
  have g1:=qTa a c (by omega)
  have g2:=qN8 (n:=a.occ c) (by omega)
  cases k<;>exact f2 [32,33] g1 g2
 | .n2 k a b,c,h=>by
  have hmm:=qQh
  have hb:=qQk
  have h:c+(1+a.cnt+b.cnt)≤mid:=h
  have:=qQp a c
  have:=qQp b c
  have g1:=qTa a c (by omega)
  have g2:=qN8 (n:=a.occ c) (by omega)
  have g3:=qTa b c (by omega)
  have g4:=qQv (a:=a.occ c) (b:=b.occ c) (by omega)
  cases k<;>exact f4 [32,33,32,33] g1 g2 g3 g4
 | .n3 k s a b d,c,h=>by
  have hmm:=qQh
  have hb:=qQk
  have h:c+(1+a.cnt+b.cnt+d.cnt)≤mid:=h
  have:=qQp a c
  have:=qQp b c
  have:=qQp d c
  have g1:=qTa a c (by omega)
  have g2:=qN8 (n:=a.occ c) (by omega)
  have g3:=qTa b c (by omega)
  have g4:=qQv (a:=a.occ c) (b:=b.occ c) (by omega)
  have g5:=qTa d c (by omega)
  have g6:=qQv (a:=a.occ c+b.occ c) (b:=d.occ c) (by omega)
  cases k<;>exact f6 [32,33,32,33,32,33] g1 g2 g3 g4 g5 g6
abbrev oG2 (n m:Nat):List (Nat × Ob):=[(3,bx [num m]),(2,bx [num n])]
theorem qDc {o k m:Nat} (h:o≤k) (hm:m≤4096):m * o≤4096 * k:=Nat.mul_le_mul hm h
theorem qTb (m:Nat) (hm:m≤4096):∀ (f:Fm) (n d:Nat),d+f.cnt≤mid→n+4096 * f.cnt≤big→O 340 [.pv f.p,.pv (num d),.fn 388 [.loc 2 0,.loc 3 0]] (oG2 n m) (.pv f.p) (oG2 (n+m * f.occ d) m)
 | .eq t u,n,d,hd,hn=>by
  have hd:d+(1+t.cnt+u.cnt)≤mid:=hd
  have hn:n+4096 * (1+t.cnt+u.cnt)≤big:=hn
  have h1:=qDc (qQp t d) hm
  have h2:=qDc (qQp u d) hm
  have e:n+m * (Fm.eq t u).occ d=n+m * t.occ d+m * u.occ d:=by simp [Fm.occ,Nat.mul_add,Nat.add_assoc]
  rw [e]
  have g1:=qTa t d (by omega)
  have g2:=zJd (a:=m) (b:=t.occ d) (c:=m * t.occ d) (by omega) rfl
  have g3:=qQv (a:=n) (b:=m * t.occ d) (by omega)
  have g4:=qTa u d (by omega)
  have g5:=zJd (a:=m) (b:=u.occ d) (c:=m * u.occ d) (by omega) rfl
  have g6:=qQv (a:=n+m * t.occ d) (b:=m * u.occ d) (by omega)
  exact o6 4 [(37,.n [(11,.N (t.occ d)),(12,.z (m * t.occ d)),(13,.z (n+m * t.occ d))]),(37,.n [(11,.N (u.occ d)),(12,.z (m * u.occ d)),(13,.z (n+m * t.occ d+m * u.occ d))])] g1 g2 g3 g4 g5 g6
 | .bin k f g,n,d,hd,hn=>by
  have hd:d+(1+f.cnt+g.cnt)≤mid:=hd
  have hn:n+4096 * (1+f.cnt+g.cnt)≤big:=hn
  have h1:=qDc (qJj f d) hm
  have e:n+m * (Fm.bin k f g).occ d=n+m * f.occ d+m * g.occ d:=by simp [Fm.occ,Nat.mul_add,Nat.add_assoc]
  rw [e]
  have g1:=qTb m hm f n d (by omega) (by omega)
  have g2:=qTb m hm g (n+m * f.occ d) d (by omega) (by omega)
  cases k<;>exact o2 4 [(54,.o [3] [(2,bx [num (n+m * f.occ d)])] (.pv f.p)),(54,.o [3] [(2,bx [num (n+m * f.occ d+m * g.occ d)])] (.pv g.p))] g1 g2
 | .q k s f,n,d,hd,hn=>by
  have hmm:=qQh
  have hb:=qQk
  have hd:d+(1+f.cnt)≤mid:=hd
  have hn:n+4096 * (1+f.cnt)≤big:=hn
  have g:=qQv (a:=d) (b:=1) (by omega)
  have g1:=qTb m hm f n (d+1) (by omega) (by omega)
  cases k<;>exact o2 4 [24,(54,.o [3] [(2,bx [num (n+m * f.occ (d+1))])] (.pv f.p))] g g1
theorem zFa (f:Fm) (S:Tm) (h:f.cnt≤4096) (h1:1≤S.cnt) (h2:S.cnt≤4096):A 370 [f.p,S.p] (num (f.cnt+(S.cnt-1) * f.occ 0)):=by
 have hmm:=qQh
 have hb:=qQk
 have g3:=qCx (a:=S.cnt) (b:=1) (z:=.ofNat (S.cnt-1)) (by omega) (by omega) (by grind)
 exact f4 [8,10,11,(14,.o [3] [(2,bx [num (f.cnt+(S.cnt-1) * f.occ 0)])] (.pv f.p))] (zV6 f (by omega)) (qDl S (by omega)) g3 (qTb (S.cnt-1) (by omega) f f.cnt 0 (by omega) (by omega))
section
variable {s:Sc} (hv:EOK s.dep s.vs) (hd:s.dep≤lim) (hl:s.vs.length≤lim)
include hv hd hl
theorem zDk (t:Tm) (b:Nat) (hc:t.cnt≤4096) (ht:t.sc (s.vs.length+b)) (hb:b≤8192):A 286 [s.p,t.p,num b] (XR.fit (t.ps s.vs s.dep b)).p:=by
 have hm:=qQh
 have hbg:=qQk
 have g1:=qUw s hv hd hl t b ht (by omega)
 have c2:=qXk hv t b
 have g2:=qDl (t.ps s.vs s.dep b) (by omega)
 unfold XR.fit
 split
 ·rename_i h
  exact f3 [12,14,15] g1 g2 (qZ4 h)
 ·rename_i h
  exact f3 [12,14,15] g1 g2 (qWz (a:=4096) (Nat.lt_of_not_le h))
end
end Go.Proofs.YtbbbnbikmbaejaaGreatDoor
namespace Go.Lg
def tbF (v:Nat→PV):PV→PV
 | .ptr (.int (.ofNat k)::_)=>v k
 | _ => .nil
def tbD (p:PV):Prop:=∃ k r,p = .ptr (.int (.ofNat k)::r)
theorem zBw (v:Nat→PV):Coh tbD (tbF v):=by
 rintro H _ _ x ⟨k,r,rfl⟩ ⟨l,s,rfl⟩ hp hq
 simp only [RepP] at hp hq
 obtain⟨b,o,rfl,hp⟩:=hp
 obtain⟨b',o',e,hq⟩:=hq
 cases e
 cases hl:(H b).drop o with
 | nil=>rw [hl] at hp;exact hp.elim
 | cons c t =>
  rw [hl] at hp hq
  have h1:c = .int .i64 (.ofNat k):=hp.1
  have h2:c = .int .i64 (.ofNat l):=hq.1
  rw [h1] at h2
  cases h2
  rfl
end Go.Lg
namespace Go.Proofs.YtbbbnbikmbaejaaGreatDoor
open Go.Lg
set_option maxRecDepth 100000
section
variable {f:Nat} {args:List V} {objs ch:List (Nat × Ob)} {m:Nat} {x:PV} (tp:Di) (ko:Kp)
theorem k99 {B:Prop} (h:B) (e:B=zAn ev Tryz.prog 100 6 f args objs m tp ko x ch):O f args objs (.pv x) (qTu ch objs):=zZy evOK (Eq.mp e h)
end
abbrev tbl (w0 c0:Nat→Nat) (w1 c1:Nat→List (List PV)):Ob:=.cache tbD (tbF fun n => .agg [num (w0 n),.slice (w1 n),num (c0 n),.slice (c1 n)])
section
variable {x0 x1 x2:Nat} {te ts fs es:List (List PV)} {k t:Nat} {ft fy fa:List (List PV)} {hs:List (List PV)} {b:Bool} {ps:List (List PV)} {l:PV} {w0 c0:Nat→Nat} {w1 c1:Nat→List (List PV)}
theorem y64 (h:A 63 [.agg [num k,num t,.slice ft,.slice fy,.slice fa]] (.agg [num (w0 x0),.slice (w1 x0),num (c0 x0),.slice (c1 x0)])) :
  O 64 [.loc 0 0,.pv (.ptr [num x0,num x1,num x2,.slice te,.slice ts,.slice fs,.slice es,num k,num t,.slice ft,.slice fy,.slice fa,.slice hs,.bool b,.slice ps])] [(0,.box [.pv l,.map 1]),(1,tbl w0 c0 w1 c1)] (.pv (.agg [num (w0 x0),.slice (w1 x0),num (c0 x0),.slice (c1 x0)])) [(0,.box [.pv l,.map 1]),(1,tbl w0 c0 w1 c1)] :=
 let x:PV:=.agg [num (w0 x0),.slice (w1 x0),num (c0 x0),.slice (c1 x0)]
 let p:PV:=.ptr [num x0,num x1,num x2,.slice te,.slice ts,.slice fs,.slice es,num k,num t,.slice ft,.slice fy,.slice fa,.slice hs,.bool b,.slice ps]
 let r:Res:=⟨.pv x,[(1,tbl w0 c0 w1 c1)],[],4⟩
 have hD:tbD p:=⟨x0,_,rfl⟩
 k99 (ch:=[(1,tbl w0 c0 w1 c1)]) (m:=2) [(22,.r x)] ⟨[4],[0,1,2],4,[1]⟩ (⟨hD,rfl,h,⟨hD,rfl⟩,rfl⟩:tbD p∧some r=some r∧A 63 [.agg [num k,num t,.slice ft,.slice fy,.slice fa]] x∧(tbD p∧x=x)∧some r=some r) (by kernel_rfl)
theorem zXd (h:A 63 [.agg [num k,num t,.slice ft,.slice fy,.slice fa]] (.agg [num (w0 x0),.slice (w1 x0),num (c0 x0),.slice (c1 x0)])) :
  O 64 [.loc 0 0,.pv (.ptr [num x0,num x1,num x2,.slice te,.slice ts,.slice fs,.slice es,num k,num t,.slice ft,.slice fy,.slice fa,.slice hs,.bool b,.slice ps])] [(0,.box [.pv l,.map 1]),(1,.cache (fun _=>False) fun p=>p)] (.pv (.agg [num (w0 x0),.slice (w1 x0),num (c0 x0),.slice (c1 x0)])) [(0,.box [.pv l,.map 1]),(1,tbl w0 c0 w1 c1)] :=
 AC.more (fun _ h=>h.elim) (zBw _) (y64 h)
end
end Go.Proofs.YtbbbnbikmbaejaaGreatDoor
namespace Go.Proofs.YtbbbnbikmbaejaaGreatDoor
open Go.Lg
set_option maxRecDepth 100000
abbrev bth (w c:Ty):PV:=.agg [num w.kd,.slice w.es,num c.kd,.slice c.es]
theorem zBx (t u:Tm):A 175 [(Fm.eq t u).p] (.bool false):=f0 []
theorem zBy (t u:Tm):A 175 [(Fm.q .all .nat (.eq t u)).p] (.bool false):=f0 []
theorem zBz {w c:Ty} (hw:w.size≤64) (hc:c.size≤64):A 247 [bth w c] (.tuple [bth w c,num 0]):=by
 have hb:=qQk
 have g1:=zYi w (by omega)
 have g2:=zYi c (by omega)
 rw [show ckE w.size 64=0 by unfold ckE;rw [qZ4 (by omega)]] at g1
 rw [show ckE c.size 64=0 by unfold ckE;rw [qZ4 (by omega)]] at g2
 exact f2 [16,16] g1 g2
theorem zXe (t u:Tm):A 176 [(Fm.eq t u).p] (.tuple [bth .unit .unit,num 0]):=f1 [119] (zBz (w:=.unit) (c:=.unit) (by decide) (by decide))
theorem zJ8 (t u:Tm):A 176 [(Fm.q .all .nat (.eq t u)).p] (.tuple [bth .unit .nat,num 0]):=f2 [21,119] (zXe t u) (zBz (w:=.unit) (c:=.nat) (by decide) (by decide))
theorem zB0 (t u:Tm):A 176 [(Fm.bin .and (.q .all .nat (.eq t u)) (.q .all .nat (.eq t u))).p] (.tuple [bth .unit (.two false .nat .nat),num 0]):=f3 [21,21,119] (zJ8 t u) (zJ8 t u) (zBz (w:=.unit) (c:=.two false .nat .nat) (by decide) (by decide))
abbrev hq (t u:Tm):Fm:=.q .all .nat (.eq t u)
theorem zB1 (t u:Tm):A 175 [(Fm.bin .and (hq t u) (hq t u)).p] (.bool false):=f0 []
section
variable {f:Fm} {w c:Ty}
theorem y98 {n:Nat} (hf:FK n f) (h1:A 175 [f.p] (.bool false)) (h2:A 176 [f.p] (.tuple [bth w c,num 0])):A 98 [f.p] (.tuple [bth w c,num 0]):=f3 [6,12,15] hf.a89 h1 h2
theorem y41 (h:A 98 [f.p] (.tuple [bth w c,num 0])):A 41 [f.p] (.tuple [w.p,num 0]):=f1 [8] h
theorem zB2 (h:A 98 [f.p] (.tuple [bth w c,num 0])):A 122 [f.p] (.tuple [c.p,num 0]):=f1 [8] h
theorem y63 (h:A 98 [f.p] (.tuple [bth w c,num 0])):A 63 [f.p] (bth w c):=f2 [8,17] (y41 h) (zB2 h)
end
abbrev wk0:Nat→Nat:=fun _=>5
abbrev wk1:Nat→List (List PV):=fun _=>[]
abbrev ck0:Nat→Nat|3=>3|_=>1
abbrev ck1:Nat→List (List PV)|3=>[[num 1,.slice []],[num 1,.slice []]]|_=>[]
abbrev tb1:Ob:=tbl wk0 ck0 wk1 ck1
abbrev lfP (t u:Tm):PV:=(Jt.leaf false 0 (hq t u)).ptr [hq t u]
abbrev bx0:Ob:=.box [.pv (.slice []),.map 1]
theorem zB3 {t u:Tm} (h:A 63 [(hq t u).p] (bth .unit .nat)):O 31 [.loc 0 0,.pv (lfP t u),.pv (num 0)] [(0,bx0),(1,tb1)] (.pv (.agg ((Tm.n0 .unit).c++[.slice [[.bool true]],.slice [(Tm.v 0).c]]))) [(0,bx0),(1,tb1)] :=
 o2 2 [32,(102,.o [0] [(1,tb1)] (.pv (bth .unit .nat)))] h (show O 64 [.loc 0 0,.pv (lfP t u)] [(0,bx0),(1,tb1)] (.pv (bth .unit .nat)) [(0,bx0),(1,tb1)] from y64 (x0:=1) (w0:=wk0) (c0:=ck0) (w1:=wk1) (c1:=ck1) h)
abbrev fnH:PV:=.agg ((Tm.n0 .unit).c++[.slice [[.bool true]],.slice [(Tm.v 0).c]])
theorem zXf {t u:Tm} (h:A 63 [(hq t u).p] (bth .unit .nat)):O 64 [.loc 0 0,.pv (lfP t u)] [(0,bx0),(1,tb1)] (.pv (bth .unit .nat)) [(0,bx0),(1,tb1)]:=y64 (x0:=1) (w0:=wk0) (c0:=ck0) (w1:=wk1) (c1:=ck1) h
theorem zFb {t u:Tm} (h:A 63 [(hq t u).p] (bth .unit .nat)):O 30 [.loc 0 0,.pv (lfP t u),.pv (num 0)] [(0,bx0),(1,tb1)] (.pv (.tuple [])) [(0,bx0),(1,tb1)] :=
 o2 2 [(70,.o [0] [(1,tb1)] (.pv (bth .unit .nat))),(74,.o [0] [(1,tb1)] (.pv fnH))] (zXf h) (zB3 h)
abbrev tb0:Ob:=.cache (fun _=>False) fun p=>p
theorem zB4 {t u:Tm} (h:A 63 [(hq t u).p] (bth .unit .nat)):O 64 [.loc 0 0,.pv (lfP t u)] [(0,bx0),(1,tb0)] (.pv (bth .unit .nat)) [(0,bx0),(1,tb1)]:=zXd (x0:=1) (w0:=wk0) (c0:=ck0) (w1:=wk1) (c1:=ck1) h
theorem zXg {t u:Tm} (h:A 63 [(hq t u).p] (bth .unit .nat)):O 30 [.loc 0 0,.pv (lfP t u),.pv (num 0)] [(0,bx0),(1,tb0)] (.pv (.tuple [])) [(0,bx0),(1,tb1)] :=
 o2 2 [(70,.o [0] [(1,tb1)] (.pv (bth .unit .nat))),(74,.o [0] [(1,tb1)] (.pv fnH))] (zB4 h) (zB3 h)
open Go.Lg
set_option maxRecDepth 100000
abbrev anJ (t u:Tm):Jt:=.p2 .andI (.leaf false 0 (hq t u)) (.leaf false 0 (hq t u)) (.bin .and (hq t u) (hq t u))
abbrev anP (t u:Tm):PV:=(anJ t u).ptr [hq t u]
abbrev sc1:Sc:=(zE4 0 0).hyp (.n0 .unit)
theorem zFc {t u:Tm} (h:A 63 [(hq t u).p] (bth .unit .nat)):O 70 [.loc 0 0,.pv (anP t u),.pv sc1.p] [(0,bx0),(1,tb1)] (.pv (Tm.n0 .unit).p) [(0,bx0),(1,tb1)] :=
 o2 2 [(66,.o [0,1] [] (.pv (bth .unit .nat))),(75,.o [0,1] [] (.pv (bth .unit .nat)))] (zXf h) (zXf h)
theorem zFd {f:Fm} {w c:Ty} (h:A 98 [f.p] (.tuple [bth w c,num 0])):A 342 [f.p] (.tuple [w.p,c.p]):=f2 [6,11] (y41 h) (zB2 h)
theorem zFe (t u:Tm):A 371 [(Fm.eq t u).p] (num 0):=f0 []
theorem zB5 (t u:Tm):A 291 [(Fm.eq t u).p,(Tm.n0 .unit).p,(Tm.n0 .unit).p] (.tuple [(Fm.eq t u).p,num 0]):=f2 [30,34] (qDl (.n0 .unit) (by decide)) (qDl (.n0 .unit) (by decide))
theorem qDd:∀ (t:Tm) (d:Nat),t.sc (d+1)→t.put 0 (.v 0) d=t
 | .v i,d,h=>by
  have h:i<d+1:=h
  simp only [Tm.put]
  split
  ·rename_i e;grind [Tm.sh]
  ·split
   ·omega
   ·rfl
 | .lam s b,d,h=>by simp only [Tm.put];rw [qDd b (d+1) h]
 | .n0 _,_,_=>rfl
 | .n1 _ a,d,h=>by simp only [Tm.put];rw [qDd a d h]
 | .n2 _ a b,d,h=>by simp only [Tm.put];rw [qDd a d h.1,qDd b d h.2]
 | .n3 _ _ a b c,d,h=>by simp only [Tm.put];rw [qDd a d h.1,qDd b d h.2.1,qDd c d h.2.2]
section
variable {t u:Tm}
theorem FK.eqq (h:FK 0 (hq t u)):FK 1 (.eq t u):=by
 have h1:=h.cnt
 have h2:=h.shp
 have h3:=h.sc
 exact⟨by have:(hq t u).cnt=1+(Fm.eq t u).cnt:=rfl;omega,(qZ1 h2).2,h3⟩
theorem zFf (h:FK 0 (hq t u)) (hm:(Fm.eq t u).mx≤mid):A 344 [(Fm.eq t u).p,(Tm.v 0).p,(Tm.n0 .unit).p,(Tm.n0 .unit).p] (.tuple [(Fm.eq t u).p,num 0]):=by
 have hmd:=qQh
 have k:=h.eqq
 have g1:=zFa (.eq t u) (.v 0) k.cnt (Nat.le_refl 1) (by decide)
 rw [show (Fm.eq t u).cnt+((Tm.v 0).cnt-1) * (Fm.eq t u).occ 0=(Fm.eq t u).cnt by simp [Tm.cnt]] at g1
 have g2:=zE9 (.eq t u) (.v 0) (by have:=k.cnt;omega) (Nat.le_trans hm (by rw [hmd];decide)) (Nat.zero_le _) (by rw [hmd];decide)
 rw [show (Fm.eq t u).put 0 (.v 0) 0 = .eq t u by
  obtain⟨h1,h2⟩:t.sc 1∧u.sc 1:=k.sc
  simp only [Fm.put];rw [qDd t 0 h1,qDd u 0 h2]] at g2
 have g3:inB (Int.ofNat (Fm.eq t u).cnt-Int.ofNat 0)=true∧Int.ofNat (Fm.eq t u).cnt-Int.ofNat 0 = .ofNat (Fm.eq t u).cnt:=by
  have e:Int.ofNat (Fm.eq t u).cnt-Int.ofNat 0 = .ofNat (Fm.eq t u).cnt:=by simp
  exact⟨by rw [e];exact inN (by have:=k.cnt;omega),e⟩
 exact f7 [11,16,18,19,20,25,28] (qDl (.v 0) (by decide)) g1 (zFe t u) g3 (qZ4 k.cnt) g2 (zB5 t u)
theorem zFg (h:FK 0 (hq t u)):A 98 [(Fm.eq t u).p] (.tuple [bth .unit .unit,num 0]):=y98 h.eqq (zBx t u) (zXe t u)
theorem zYu (h:FK 0 (hq t u)):A 98 [(hq t u).p] (.tuple [bth .unit .nat,num 0]):=y98 h (zBy t u) (zJ8 t u)
theorem zB6 (h:FK 0 (hq t u)) (hm:(Fm.eq t u).mx≤mid):A 291 [(hq t u).p,(Tm.n0 .unit).p,(Tm.v 0).p] (.tuple [(Fm.eq t u).p,num 0]) :=
 f4 [30,34,166,191] (qDl (.n0 .unit) (by decide)) (qDl (.v 0) (by decide)) (zFd (zFg h)) (zFf h hm)
theorem zFh (h:FK 0 (hq t u)) (hm:(Fm.eq t u).mx≤mid):A 225 [(hq t u).p,(Tm.n0 .unit).p,(Tm.v 0).p] (.tuple [(Fm.eq t u).p,num 0]):=by
 have hmd:=qQh
 have h1:TK 1 (.n0 .unit):=⟨by decide,rfl,trivial⟩
 have h2:TK 1 (.v 0):=⟨by decide,rfl,Nat.zero_lt_one⟩
 exact f8 [16,25,33,39,45,48,52,58] (y41 (zYu h)) (zB2 (zYu h)) h1.a92 h2.a92 (s68 (hq t u) (by have:=h.cnt;omega) (Nat.le_trans hm (by rw [hmd];decide))) (qOy (.n0 .unit) (by decide)) (qOy (.v 0) (by decide)) (zB6 h hm)
end
open Go.Lg
set_option maxRecDepth 100000
def distT:Tm:=.lam .nat (.lam .nat (.n2 .app (.n2 .app plusT (.n2 .app (.n2 .app subT (.v 1)) (.v 0))) (.n2 .app (.n2 .app subT (.v 0)) (.v 1))))
theorem zFi:A 346 [] distT.p:=f0 []
theorem qOz (n:Nat):TK n distT:=⟨by decide,rfl,by simp [distT,plusT,subT,predT,Tm.sc]⟩
abbrev apart (t u:Tm):Tm:=.n2 .app (.n2 .app distT t) u
section
variable {t u:Tm}
theorem zFj (ht:t.chk=0) (hu:u.chk=0) (hc:t.cnt+u.cnt≤1000):A 345 [distT.p,row [t,u]] (.tuple [(apart t u).p,num 0]):=by
 have hmd:=qQk
 have hd:distT.cnt≤100:=by decide
 exact f10 [14,29,38,39,29,38,39,42,46,47] (chT (t:=distT) (by decide)) (chT ht)  (qQv (a:=t.cnt) (b:=1) (by omega)) (qQv (a:=distT.cnt) (b:=t.cnt+1) (by omega)) (chT hu) (qQv (a:=u.cnt) (b:=1) (by omega)) (qQv (a:=distT.cnt+(t.cnt+1)) (b:=u.cnt+1) (by omega)) (qZ4 (a:=4096) (b:=distT.cnt+(t.cnt+1)+(u.cnt+1)) (by omega)) (qUp distT t u) (qPt (apart t u))
end
inductive R where
 | n (k:Nat)
 | l (x:List Nat)
 | u
 | pr (a b:R)
 | cl (b:Tm) (e:R)
 | en
 | ec (e r:R)
def R.at:R→Nat→Option R
 | .ec _ r,0=>some r
 | .ec e _,i+1=>e.at i
 | _,_=>none
inductive Q where
 | ev (e:R) (t:Tm)
 | rl (b:Tm) (e r:R) (k:Nat)
 | fl (b:Tm) (e r:R) (x:List Nat)
inductive E:Q→R→Prop
 | v {e r:R} {i:Nat} : e.at i=some r→E (.ev e (.v i)) r
 | lam {e:R} {s:Ty} {b:Tm} : E (.ev e (.lam s b)) (.cl b e)
 | zero {e:R} : E (.ev e (.n0 .zero)) (.n 0)
 | nil {e:R} : E (.ev e (.n0 .nil)) (.l [])
 | unit {e:R} : E (.ev e (.n0 .unit)) .u
 | succ {e:R} {a:Tm} {k:Nat} : E (.ev e a) (.n k)→E (.ev e (.n1 .succ a)) (.n (k+1))
 | fst {e:R} {a:Tm} {x y:R} : E (.ev e a) (.pr x y)→E (.ev e (.n1 .fst a)) x
 | snd {e:R} {a:Tm} {x y:R} : E (.ev e a) (.pr x y)→E (.ev e (.n1 .snd a)) y
 | pair {e:R} {a b:Tm} {x y:R} : E (.ev e a) x→E (.ev e b) y→E (.ev e (.n2 .pair a b)) (.pr x y)
 | cons {e:R} {a b:Tm} {k:Nat} {x:List Nat} : E (.ev e a) (.n k)→E (.ev e b) (.l x)→E (.ev e (.n2 .cons a b)) (.l (k::x))
 | app {e:R} {f a:Tm} {b:Tm} {d x r:R} : E (.ev e f) (.cl b d)→E (.ev e a) x→E (.ev (.ec d x) b) r→E (.ev e (.n2 .app f a)) r
 | re {e:R} {s:Ty} {a f c:Tm} {x d r:R} {b:Tm} {k:Nat} : E (.ev e a) x→E (.ev e f) (.cl b d)→E (.ev e c) (.n k)→E (.rl b d x k) r→E (.ev e (.n3 .re s a f c)) r
 | fo {e:R} {s:Ty} {a f c:Tm} {x d r:R} {b:Tm} {l:List Nat} : E (.ev e a) x→E (.ev e f) (.cl b d)→E (.ev e c) (.l l)→E (.fl b d x l) r→E (.ev e (.n3 .fo s a f c)) r
 | r0 {b:Tm} {d x:R} : E (.rl b d x 0) x
 | r1 {b b':Tm} {d d' x r r':R} {k:Nat} : E (.rl b d x k) r→E (.ev (.ec d (.n k)) b) (.cl b' d')→E (.ev (.ec d' r) b') r'→E (.rl b d x (k+1)) r'
 | f0 {b:Tm} {d x:R} : E (.fl b d x []) x
 | f1 {b b1 b2:Tm} {d d1 d2 x r r':R} {k:Nat} {l:List Nat} : E (.fl b d x l) r→E (.ev (.ec d (.n k)) b) (.cl b1 d1)→E (.ev (.ec d1 (.l l)) b1) (.cl b2 d2)→E (.ev (.ec d2 r) b2) r'→E (.fl b d x (k::l)) r'
theorem E.det {q:Q} {r:R} (h:E q r):∀ {r':R},E q r'→r=r':=by
 induction h with
 | v h=>intro r' h';cases h' with|v h'=>rw [h] at h';cases h';rfl
 | lam=>intro r' h';cases h';rfl
 | zero=>intro r' h';cases h';rfl
 | nil=>intro r' h';cases h';rfl
 | unit=>intro r' h';cases h';rfl
 | succ _ i=>intro r' h';cases h' with|succ h'=>cases i h';rfl
 | fst _ i=>intro r' h';cases h' with|fst h'=>cases i h';rfl
 | snd _ i=>intro r' h';cases h' with|snd h'=>cases i h';rfl
 | pair _ _ i j=>intro r' h';cases h' with|pair h1 h2=>cases i h1;cases j h2;rfl
 | cons _ _ i j=>intro r' h';cases h' with|cons h1 h2=>cases i h1;cases j h2;rfl
 | app _ _ _ i j k=>intro r' h';cases h' with|app h1 h2 h3=>cases i h1;cases j h2;exact k h3
 | re _ _ _ _ i j k l=>intro r' h';cases h' with|re h1 h2 h3 h4=>cases i h1;cases j h2;cases k h3;exact l h4
 | fo _ _ _ _ i j k l=>intro r' h';cases h' with|fo h1 h2 h3 h4=>cases i h1;cases j h2;cases k h3;exact l h4
 | r0=>intro r' h';cases h';rfl
 | r1 _ _ _ i j k=>intro r' h';cases h' with|r1 h1 h2 h3=>cases i h1;cases j h2;exact k h3
 | f0=>intro r' h';cases h';rfl
 | f1 _ _ _ _ i j k l=>intro r' h';cases h' with|f1 h1 h2 h3 h4=>cases i h1;cases j h2;cases k h3;exact l h4
theorem qTc (e:R):∀ m:Nat,E (.ev e (qZt m)) (.n m)
 | 0 => .zero
 | m+1 => .succ (qTc e m)
theorem qDe (c:Nat) (z:Int):∀ m:Nat,(qZt m).sh c z=qZt m
 | 0=>rfl
 | m+1=>by show Tm.n1 .succ ((qZt m).sh c z)=_;rw [qDe c z m];rfl
def R.len:R→Nat
 | .ec e _=>e.len+1
 | _=>0
def R.su (m:Nat):R→R
 | .pr a b => .pr (a.su m) (b.su m)
 | .cl b e => .cl (b.put 0 (qZt m) e.len) (e.su m)
 | .ec .en _ => .en
 | .ec e r => .ec (e.su m) (r.su m)
 | r=>r
def R.bg (m:Nat):R→Prop
 | .pr a b=>a.bg m∧b.bg m
 | .cl _ e=>e.bg m∧1≤e.len
 | .ec .en r=>r = .n m
 | .ec e r=>e.bg m∧r.bg m∧1≤e.len
 | _=>True
theorem qG0 {m:Nat} {e r:R} (h:1≤e.len):(R.ec e r).su m = .ec (e.su m) (r.su m):=by
 cases e<;>first|rfl|exact absurd h (Nat.not_succ_le_zero 0)
theorem qE9 {m:Nat} {e r:R} (h:1≤e.len):(R.ec e r).bg m↔e.bg m∧r.bg m:=by
 cases e<;>first|exact absurd h (Nat.not_succ_le_zero 0)|simp [R.bg,h]
theorem zXh (m:Nat):∀ (e:R) (i:Nat) {r:R},e.bg m→e.at i=some r→i≠e.len-1→r.bg m∧(e.su m).at i=some (r.su m)
 | .ec e x,i,r,h,h1,h2=>by
  by_cases he:1≤e.len
  ·rw [qE9 he] at h
   rw [qG0 he]
   cases i with
   | zero=>cases h1;exact⟨h.2,rfl⟩
   | succ i=>exact zXh m e i h.1 h1 (by simp only [R.len] at h2;omega)
  ·cases i with
   | zero=>simp only [R.len] at h2;omega
   | succ i =>
    exfalso
    cases e with
    | ec e' r'=>simp only [R.len] at he;omega
    | _=>simp [R.at] at h1
 | .n _,_,_,_,h,_=>by simp [R.at] at h
 | .l _,_,_,_,h,_=>by simp [R.at] at h
 | .u,_,_,_,h,_=>by simp [R.at] at h
 | .pr _ _,_,_,_,h,_=>by simp [R.at] at h
 | .cl _ _,_,_,_,h,_=>by simp [R.at] at h
 | .en,_,_,_,h,_=>by simp [R.at] at h
theorem qIe:∀ (e:R) (i:Nat) {r:R},e.at i=some r→i<e.len
 | .ec e x,0,r,_=>Nat.succ_pos _
 | .ec e x,i+1,r,h=>Nat.succ_lt_succ (qIe e i h)
 | .n _,_,_,h=>by simp [R.at] at h
 | .l _,_,_,h=>by simp [R.at] at h
 | .u,_,_,h=>by simp [R.at] at h
 | .pr _ _,_,_,h=>by simp [R.at] at h
 | .cl _ _,_,_,h=>by simp [R.at] at h
 | .en,_,_,h=>by simp [R.at] at h
theorem qO0 (m:Nat):∀ (e:R) {r:R},e.bg m→e.at (e.len-1)=some r→r = .n m
 | .ec e x,r,h,h1=>by
  by_cases he:1≤e.len
  ·rw [qE9 he] at h
   have:(R.ec e x).len-1=(e.len-1)+1:=by simp only [R.len];omega
   rw [this] at h1
   exact qO0 m e h.1 h1
  ·have hl:e.len=0:=by omega
   have:(R.ec e x).len-1=0:=by simp only [R.len];omega
   rw [this] at h1
   cases h1
   cases e with
   | en=>exact h
   | ec e' r'=>simp only [R.len] at he;omega
   | _=>simp only [R.bg,R.len] at h;omega
 | .n _,_,_,h=>by simp [R.at] at h
 | .l _,_,_,h=>by simp [R.at] at h
 | .u,_,_,h=>by simp [R.at] at h
 | .pr _ _,_,_,h=>by simp [R.at] at h
 | .cl _ _,_,_,h=>by simp [R.at] at h
 | .en,_,_,h=>by simp [R.at] at h
def Q.su (m:Nat):Q→Q
 | .ev e t => .ev (e.su m) (t.put 0 (qZt m) (e.len-1))
 | .rl b e r k => .rl (b.put 0 (qZt m) e.len) (e.su m) (r.su m) k
 | .fl b e r k => .fl (b.put 0 (qZt m) e.len) (e.su m) (r.su m) k
def Q.bg (m:Nat):Q→Prop
 | .ev e _=>e.bg m∧1≤e.len
 | .rl _ e r _=>e.bg m∧1≤e.len∧r.bg m
 | .fl _ e r _=>e.bg m∧1≤e.len∧r.bg m
theorem R.ec_len (e r:R):(R.ec e r).len=e.len+1:=rfl
theorem E.put (m:Nat) {q:Q} {r:R} (h:E q r):q.bg m→r.bg m∧E (q.su m) (r.su m):=by
 induction h with
 | @v e r i h =>
  rintro⟨h1,h2⟩
  by_cases hi:i=e.len-1
  ·cases qO0 m e h1 (hi ▸ h)
   refine⟨trivial,?_⟩
   show E (.ev _ ((Tm.v i).put 0 (qZt m) (e.len-1))) (.n m)
   rw [show (Tm.v i).put 0 (qZt m) (e.len-1)=qZt m by simp only [Tm.put,Nat.zero_add];rw [if_pos hi,qDe]]
   exact qTc _ m
  ·obtain⟨g1,g2⟩:=zXh m e i h1 h hi
   have hl:=qIe e i h
   refine⟨g1,?_⟩
   show E (.ev _ ((Tm.v i).put 0 (qZt m) (e.len-1))) _
   rw [show (Tm.v i).put 0 (qZt m) (e.len-1) = .v i by simp only [Tm.put,Nat.zero_add];rw [if_neg hi,if_neg (by omega)]]
   exact .v g2
 | @lam e s b =>
  rintro⟨h1,h2⟩
  refine⟨⟨h1,h2⟩,?_⟩
  show E (.ev _ (.lam s (b.put 0 (qZt m) (e.len-1+1)))) (.cl (b.put 0 (qZt m) e.len) _)
  rw [Nat.sub_add_cancel h2]
  exact .lam
 | zero=>exact fun _=>⟨trivial,.zero⟩
 | nil=>exact fun _=>⟨trivial,.nil⟩
 | unit=>exact fun _=>⟨trivial,.unit⟩
 | succ _ i=>exact fun h=>⟨trivial,.succ (i h).2⟩
 | fst _ i=>exact fun h=>⟨(i h).1.1,.fst (i h).2⟩
 | snd _ i=>exact fun h=>⟨(i h).1.2,.snd (i h).2⟩
 | pair _ _ i j=>exact fun h=>⟨⟨(i h).1,(j h).1⟩,.pair (i h).2 (j h).2⟩
 | cons _ _ i j=>exact fun h=>⟨trivial,.cons (i h).2 (j h).2⟩
 | @app e f a b d x r _ _ _ i j k =>
  intro h
  obtain⟨⟨g1,g2⟩,g3⟩:=i h
  obtain⟨g4,g5⟩:=j h
  obtain⟨g6,g7⟩:=k ⟨(qE9 g2).2 ⟨g1,g4⟩,by simp [R.len]⟩
  refine⟨g6,.app g3 g5 ?_⟩
  simpa only [Q.su,qG0 g2,R.ec_len,Nat.add_sub_cancel] using g7
 | re _ _ _ _ i j k l =>
  intro h
  obtain⟨⟨g1,g2⟩,g3⟩:=j h
  obtain⟨g4,g5⟩:=l ⟨g1,g2,(i h).1⟩
  exact⟨g4,.re (i h).2 g3 (k h).2 g5⟩
 | fo _ _ _ _ i j k l =>
  intro h
  obtain⟨⟨g1,g2⟩,g3⟩:=j h
  obtain⟨g4,g5⟩:=l ⟨g1,g2,(i h).1⟩
  exact⟨g4,.fo (i h).2 g3 (k h).2 g5⟩
 | r0=>exact fun h=>⟨h.2.2,.r0⟩
 | @r1 b b' d d' x r r' n _ _ _ i j k =>
  intro h
  obtain⟨h1,h2,h3⟩:=h
  obtain⟨g1,g2⟩:=i ⟨h1,h2,h3⟩
  obtain⟨⟨g3,g4⟩,g5⟩:=j ⟨(qE9 h2).2 ⟨h1,trivial⟩,by simp [R.len]⟩
  obtain⟨g6,g7⟩:=k ⟨(qE9 g4).2 ⟨g3,g1⟩,by simp [R.len]⟩
  simp only [Q.su,qG0 h2,qG0 g4,R.ec_len,Nat.add_sub_cancel] at g5 g7
  exact⟨g6,.r1 g2 g5 g7⟩
 | f0=>exact fun h=>⟨h.2.2,.f0⟩
 | @f1 b b1 b2 d d1 d2 x r r' n l _ _ _ _ i j k o =>
  intro h
  obtain⟨h1,h2,h3⟩:=h
  obtain⟨g1,g2⟩:=i ⟨h1,h2,h3⟩
  obtain⟨⟨g3,g4⟩,g5⟩:=j ⟨(qE9 h2).2 ⟨h1,trivial⟩,by simp [R.len]⟩
  obtain⟨⟨k3,k4⟩,k5⟩:=k ⟨(qE9 g4).2 ⟨g3,trivial⟩,by simp [R.len]⟩
  obtain⟨g6,g7⟩:=o ⟨(qE9 k4).2 ⟨k3,g1⟩,by simp [R.len]⟩
  simp only [Q.su,qG0 h2,qG0 g4,qG0 k4,R.ec_len,Nat.add_sub_cancel] at g5 k5 g7
  exact⟨g6,.f1 g2 g5 k5 g7⟩
theorem zXi {t:Tm} {m a b:Nat} (h:E (.ev (.ec .en (.n m)) t) (.n a)) (h':E (.ev .en (t.put 0 (qZt m) 0)) (.n b)):a=b:=by
 cases ((h.put m ⟨rfl,Nat.le_refl 1⟩).2).det h'
 rfl
/-! the program's arithmetic -/
theorem qLn {e r:R} {s:Ty} {a b c:Tm} (h:E (.ev e (.n3 .re s a (.lam .nat (.lam s b)) c)) r):∃ y k,E (.ev e a) y∧E (.ev e c) (.n k)∧E (.rl (.lam s b) e y k) r:=by
 cases h with|re h1 h2 h3 h4=>cases h2;exact⟨_,_,h1,h3,h4⟩
theorem qTd {e r:R} {s:Ty} {b a:Tm} (h:E (.ev e (.n2 .app (.lam s b) a)) r):∃ x,E (.ev e a) x∧E (.ev (.ec e x) b) r:=by
 cases h with|app h1 h2 h3=>cases h1;exact⟨_,h2,h3⟩
theorem qFa {e r:R} {s s':Ty} {b a c:Tm} (h:E (.ev e (.n2 .app (.n2 .app (.lam s (.lam s' b)) a) c)) r):∃ x y,E (.ev e a) x∧E (.ev e c) y∧E (.ev (.ec (.ec e x) y) b) r:=by
 cases h with|app h1 h2 h3 =>
 obtain⟨x,g1,g2⟩:=qTd h1
 cases g2
 exact⟨x,_,g1,h2,h3⟩
theorem qO1 {e x r:R} (h:E (.ev (.ec e x) (.v 0)) r):r=x:=by
 cases h with|v h=>cases h;rfl
theorem zV7 {e x y r:R} (h:E (.ev (.ec (.ec e x) y) (.v 1)) r):r=x:=by
 cases h with|v h=>cases h;rfl
theorem qO2 {e r:R} {i:Nat} : ∀ {j:Nat},E (.rl (.lam .nat (.n1 .succ (.v 0))) e (.n i) j) r→r = .n (i+j)
 | 0,h=>by cases h;rfl
 | j+1,h=>by
  cases h with|r1 h1 h2 h3 =>
  cases qO2 h1
  cases h2
  cases h3 with|succ h=>cases qO1 h;rfl
theorem zXj {e r:R} {x y:Tm} {i j:Nat} (hx:∀ {a},E (.ev e x) a→a = .n i) (hy:∀ {a},E (.ev e y) a→a = .n j) (h:E (.ev e (.n2 .app (.n2 .app plusT x) y)) r):r = .n (i+j):=by
 obtain⟨a,b,h1,h2,h3⟩:=qFa h
 cases hx h1;cases hy h2
 obtain⟨c,k,g1,g2,g3⟩:=qLn h3
 cases zV7 g1;cases qO1 g2
 exact qO2 g3
theorem zJ9 {e r:R} : ∀ {j:Nat},E (.rl (.lam .nat (.v 1)) e (.n 0) j) r→r = .n (j-1)
 | 0,h=>by cases h;rfl
 | j+1,h=>by
  cases h with|r1 h1 h2 h3 =>
  cases h2
  cases zV7 h3;rfl
theorem zXk {e r:R} {x:Tm} {i:Nat} (hx:∀ {a},E (.ev e x) a→a = .n i) (h:E (.ev e (.n2 .app predT x)) r):r = .n (i-1):=by
 obtain⟨a,h1,h2⟩:=qTd h
 cases hx h1
 obtain⟨c,k,g1,g2,g3⟩:=qLn h2
 cases g1;cases qO1 g2
 exact zJ9 g3
theorem qU0 {e r:R} {i:Nat} : ∀ {j:Nat},E (.rl (.lam .nat (.n2 .app predT (.v 0))) e (.n i) j) r→r = .n (i-j)
 | 0,h=>by cases h;rfl
 | j+1,h=>by
  cases h with|r1 h1 h2 h3 =>
  cases qU0 h1
  cases h2
  rw [zXk (fun h=>qO1 h) h3]
  rfl
theorem zXl {e r:R} {x y:Tm} {i j:Nat} (hx:∀ {a},E (.ev e x) a→a = .n i) (hy:∀ {a},E (.ev e y) a→a = .n j) (h:E (.ev e (.n2 .app (.n2 .app subT x) y)) r):r = .n (i-j):=by
 obtain⟨a,b,h1,h2,h3⟩:=qFa h
 cases hx h1;cases hy h2
 obtain⟨c,k,g1,g2,g3⟩:=qLn h3
 cases zV7 g1;cases qO1 g2
 exact qU0 g3
open Go.Lg
set_option maxRecDepth 100000
theorem qO3 {e r:R} {x y:Tm} (h:E (.ev e (.n2 .app (.n2 .app subT x) y)) r):∃ j,E (.ev e y) (.n j):=by
 obtain⟨a,b,h1,h2,h3⟩:=qFa h
 obtain⟨c,k,g1,g2,g3⟩:=qLn h3
 cases qO1 g2
 exact⟨k,h2⟩
theorem zVa {e r:R} {x y:Tm} (h:E (.ev e (apart x y)) r):∃ i j,E (.ev e x) (.n i)∧E (.ev e y) (.n j)∧r = .n (i-j+(j-i)):=by
 obtain⟨a,b,h1,h2,h3⟩:=qFa h
 obtain⟨c,d,g1,g2,g3⟩:=qFa h3
 obtain⟨j,hj⟩:=qO3 g1
 obtain⟨i,hi⟩:=qO3 g2
 cases qO1 hj
 cases zV7 hi
 refine⟨i,j,h1,h2,zXj (fun h=>zXl (fun h=>zV7 h) (fun h=>qO1 h) h) (fun h=>zXl (fun h=>qO1 h) (fun h=>zV7 h) h) h3⟩
abbrev oneT:Tm:=.n1 .succ (.n0 .zero)
abbrev qU1 (t u:Tm):Tm:=.n3 .re .nat oneT (.lam .nat (.lam .nat (.n0 .zero))) (apart t u)
theorem zB7 {e r:R} {x y:Tm} (h:E (.ev e (qU1 x y)) r):∃ i j,E (.ev e x) (.n i)∧E (.ev e y) (.n j)∧r = .n (if i=j then 1 else 0):=by
 obtain⟨c,k,g1,g2,g3⟩:=qLn h
 obtain⟨i,j,h1,h2,h3⟩:=zVa g2
 cases h3
 refine⟨i,j,h1,h2,?_⟩
 cases g1 with|succ g1 =>
 cases g1
 by_cases hij:i=j
 ·subst hij
  rw [show i-i+(i-i)=0 by omega] at g3
  cases g3
  rw [if_pos rfl]
 ·obtain⟨n,hn⟩:∃ n,i-j+(j-i)=n+1:=⟨i-j+(j-i)-1,by omega⟩
  rw [hn] at g3
  cases g3 with|r1 k1 k2 k3 =>
  cases k2
  cases k3
  rw [if_neg hij]
abbrev idT (a:Tm):Tm:=.n2 .app (.lam .nat (.v 0)) a
abbrev qPz (t u p q:Tm):Tm:=.n2 .app (.lam .nat (.n3 .re .nat (.v 0) (.lam .nat (.lam .nat (idT (.n1 .snd q)))) (qU1 t u))) (idT (.n1 .fst p))
abbrev qQy (m n:Nat):Tm:=.n2 .pair (qZt m) (qZt n)
theorem zDl {e r:R} {a:Tm} (h:E (.ev e (idT a)) r):E (.ev e a) r:=by
 obtain⟨x,h1,h2⟩:=qTd h
 cases qO1 h2
 exact h1
theorem zFk {t u:Tm} {m n:Nat} {r:R} (h:E (.ev .en (qPz t u (qQy m n) (qQy m n))) r):∃ i j,E (.ev (.ec .en (.n m)) t) (.n i)∧E (.ev (.ec .en (.n m)) u) (.n j)∧r = .n (if i=j then n else m):=by
 obtain⟨x,h1,h2⟩:=qTd h
 have hx:x = .n m:=by
  cases zDl h1 with|fst h=>cases h with|pair h _=>exact h.det (qTc _ m)
 subst hx
 obtain⟨c,k,g1,g2,g3⟩:=qLn h2
 cases qO1 g1
 obtain⟨i,j,k1,k2,k3⟩:=zB7 g2
 refine⟨i,j,k1,k2,?_⟩
 cases k3
 by_cases hij:i=j
 ·rw [if_pos hij] at g3 ⊢
  cases g3 with|r1 q1 q2 q3 =>
  cases q1;cases q2
  cases zDl q3 with|snd h=>cases h with|pair _ h=>exact h.det (qTc _ n)
 ·rw [if_neg hij] at g3 ⊢
  cases g3;rfl
theorem zXm {t u:Tm} {m n v a b:Nat} (h:E (.ev .en (qPz t u (qQy m n) (qQy m n))) (.n v)) (h1:E (.ev .en (t.put 0 (qZt m) 0)) (.n a)) (h2:E (.ev .en (u.put 0 (qZt m) 0)) (.n b)):v=if a=b then n else m:=by
 obtain⟨i,j,k1,k2,k3⟩:=zFk h
 cases zXi k1 h1
 cases zXi k2 h2
 cases k3
 rfl
def R.nu:R→Nat
 | .n k=>k
 | _=>0
def R.ls:R→List (List PV)
 | .l x=>x.map ic
 | _=>[]
def R.bk:R→Nat
 | .cl b _=>b.kd
 | _=>0
def R.bi:R→Nat
 | .cl b _=>b.ix
 | _=>0
def R.bt:R→Nat
 | .cl b _=>b.tk
 | _=>0
def R.be:R→List (List PV)
 | .cl b _=>b.te
 | _=>[]
def R.bs:R→List (List PV)
 | .cl b _=>b.es
 | _=>[]
def R.psx (r:R) (x:List (List PV)):List (List PV):=match r with
 | .pr _ _=>x
 | _=>[]
def R.esx (r:R) (x:List (List PV)):List (List PV):=match r with
 | .cl _ _=>x
 | _=>[]
def R.all:R→List (List PV)
 | .pr a b=>[[num a.nu,.slice a.ls,.slice (a.psx a.all),num a.bk,num a.bi,num a.bt,.slice a.be,.slice a.bs,.slice (a.esx a.all)],[num b.nu,.slice b.ls,.slice (b.psx b.all),num b.bk,num b.bi,num b.bt,.slice b.be,.slice b.bs,.slice (b.esx b.all)]]
 | .cl _ e=>e.all
 | .ec e r=>e.all++[[num r.nu,.slice r.ls,.slice (r.psx r.all),num r.bk,num r.bi,num r.bt,.slice r.be,.slice r.bs,.slice (r.esx r.all)]]
 | _=>[]
def R.ps (r:R):List (List PV):=r.psx r.all
def R.es (r:R):List (List PV):=r.esx r.all
def R.c (r:R):List PV:=[num r.nu,.slice r.ls,.slice r.ps,num r.bk,num r.bi,num r.bt,.slice r.be,.slice r.bs,.slice r.es]
def R.p (r:R):PV:=.agg r.c
def R.env:R→Prop
 | .en=>True
 | .ec e _=>e.env
 | _=>False
def R.ok (N:Nat):R→List Ty→Ty→Prop
 | .n k,_,t=>t = .nat∧k≤N
 | .l x,_,t=>t = .list∧x.length≤N ∧ ∀ y∈x,y≤N
 | .u,_,t=>t = .unit
 | .pr a b,_,t => ∃ s u,t = .two false s u∧a.ok N [] s∧b.ok N [] u
 | .cl b e,_,t => ∃ G s u,t = .two true s u∧e.ok N G .unit∧Ht (G++[s]) b u∧G.length≤N∧e.env
 | .en,G,t=>G=[]∧t = .unit
 | .ec e r,G,_ => ∃ H s,G=H++[s]∧e.ok N H .unit∧r.ok N [] s
theorem qQo {N M:Nat} (h:N≤M):∀ {r:R} {G:List Ty} {t:Ty},r.ok N G t→r.ok M G t
 | .n _,_,_,g=>⟨g.1,Nat.le_trans g.2 h⟩
 | .l _,_,_,g=>⟨g.1,Nat.le_trans g.2.1 h,fun y hy=>Nat.le_trans (g.2.2 y hy) h⟩
 | .u,_,_,g=>g
 | .pr _ _,_,_,⟨s,u,e,g1,g2⟩=>⟨s,u,e,qQo h g1,qQo h g2⟩
 | .cl _ _,_,_,⟨G,s,u,e,g1,g2,g3,g4⟩=>⟨G,s,u,e,qQo h g1,g2,Nat.le_trans g3 h,g4⟩
 | .en,_,_,g=>g
 | .ec _ _,_,_,⟨H,s,e,g1,g2⟩=>⟨H,s,e,qQo h g1,qQo h g2⟩
theorem qAb:∀ {e:R},e.env→e.all.length=e.len
 | .en,_=>rfl
 | .ec e r,h=>by show (e.all++_).length=e.len+1;rw [List.length_append,qAb (e:=e) h];rfl
theorem qU2:∀ {e:R} {i:Nat} {r:R},e.env→e.at i=some r→e.all[e.all.length-1-i]? = some r.c
 | .ec e x,0,r,h,g=>by
  cases g
  show (e.all++[x.c])[(e.all++[x.c]).length-1-0]? = _
  simp
 | .ec e x,i+1,r,h,g=>by
  have:=qU2 (e:=e) (i:=i) h g
  have hl:=qIe e i g
  have ha:=qAb (e:=e) h
  show (e.all++[x.c])[(e.all++[x.c]).length-1-(i+1)]? = _
  rw [List.length_append,show e.all.length+[x.c].length-1-(i+1)=e.all.length-1-i by simp;omega,List.getElem?_append_left (by omega),this]
theorem zYv {N:Nat} {r:R} (h:r.ok N [] .nat):∃ k,r = .n k∧k≤N:=by
 cases r with
 | n k=>exact⟨k,rfl,h.2⟩
 | l=>exact nomatch h.1
 | u=>exact nomatch h
 | pr=>obtain⟨_,_,h,_⟩:=h;exact nomatch h
 | cl=>obtain⟨_,_,_,h,_⟩:=h;exact nomatch h
 | en=>exact nomatch h.2
 | ec=>obtain⟨H,_,h,_⟩:=h;cases H<;>exact nomatch h
theorem zDm {N:Nat} {r:R} (h:r.ok N [] .list):∃ x,r = .l x∧x.length≤N ∧ ∀ y∈x,y≤N:=by
 cases r with
 | n k=>exact nomatch h.1
 | l x=>exact⟨x,rfl,h.2⟩
 | u=>exact nomatch h
 | pr=>obtain⟨_,_,h,_⟩:=h;exact nomatch h
 | cl=>obtain⟨_,_,_,h,_⟩:=h;exact nomatch h
 | en=>exact nomatch h.2
 | ec=>obtain⟨H,_,h,_⟩:=h;cases H<;>exact nomatch h
theorem zDn {N:Nat} {r:R} {s t:Ty} (h:r.ok N [] (.two false s t)):∃ a b,r = .pr a b∧a.ok N [] s∧b.ok N [] t:=by
 cases r with
 | n k=>exact nomatch h.1
 | l x=>exact nomatch h.1
 | u=>exact nomatch h
 | pr a b=>obtain⟨_,_,h,h1,h2⟩:=h;cases h;exact⟨a,b,rfl,h1,h2⟩
 | cl=>obtain⟨_,_,_,h,_⟩:=h;exact nomatch h
 | en=>exact nomatch h.2
 | ec=>obtain⟨H,_,h,_⟩:=h;cases H<;>exact nomatch h
theorem zV8 {N:Nat} {r:R} {s t:Ty} (h:r.ok N [] (.two true s t)):∃ b e,r = .cl b e:=by
 cases r with
 | n k=>exact nomatch h.1
 | l x=>exact nomatch h.1
 | u=>exact nomatch h
 | pr a b=>obtain⟨_,_,h,h1,h2⟩:=h;exact nomatch h
 | cl b e=>exact⟨b,e,rfl⟩
 | en=>exact nomatch h.2
 | ec=>obtain⟨H,_,h,_⟩:=h;cases H<;>exact nomatch h
theorem qO4 {N:Nat} : ∀ {e:R} {G:List Ty},e.env→e.ok N G .unit→e.len=G.length
 | .en,_,_,h=>by cases h.1;rfl
 | .ec e r,_,h,⟨H,s,e',g,_⟩=>by subst e';show e.len+1=_;rw [qO4 (e:=e) h g];simp
theorem zXn {N:Nat} : ∀ {e:R} {G:List Ty} {i:Nat} {u:Ty},e.env→e.ok N G .unit→tyV G i = .ok u→∃ r,e.at i=some r∧r.ok N [] u
 | .en,_,i,u,_,h,g=>by cases h.1;simp [tyV] at g
 | .ec e r,_,0,u,_,⟨H,s,e',g,g'⟩,k=>by
  subst e'
  refine⟨r,rfl,?_⟩
  have:s=u:=by simpa [tyV] using k
  exact this ▸ g'
 | .ec e r,_,i+1,u,h,⟨H,s,e',g,_⟩,k=>by
  subst e'
  exact zXn (e:=e) (i:=i) h g (by
   unfold tyV at k ⊢
   simp only [List.length_append,List.length_cons,List.length_nil] at k
   by_cases hi:i<H.length
   ·rw [if_pos (by omega)] at k
    rw [if_pos hi]
    rw [List.getElem?_append_left (by omega),show H.length+(0+1)-1-(i+1)=H.length-1-i by omega] at k
    exact k
   ·rw [if_neg (by omega)] at k;cases k)
open Go.Lg
set_option maxRecDepth 100000
theorem qG1 {x y u:Ty} {r:TR} (h:(bif x.same y then r else .er 6) = .ok u):x=y∧r = .ok u:=by
 grind [qZ6]
theorem zXo {t u:Ty} (h:TR.fit t = .ok u):u=t:=by
 grind [TR.fit]
def TI (G:List Ty):Tm→Ty→Prop
 | .v i,u=>tyV G i = .ok u
 | .lam s b,u => ∃ w,u = .two true s w∧b.tyR (G++[s]) = .ok w
 | .n0 k,u=>u=match k with
  | .zero => .nat
  | .nil => .list
  | .unit => .unit
 | .n1 k a,u=>match k with
  | .succ=>u = .nat∧a.tyR G = .ok .nat
  | .fst => ∃ w,a.tyR G = .ok (.two false u w)
  | .snd => ∃ w,a.tyR G = .ok (.two false w u)
 | .n2 k a b,u=>match k with
  | .app => ∃ s,a.tyR G = .ok (.two true s u)∧b.tyR G = .ok s
  | .cons=>u = .list∧a.tyR G = .ok .nat∧b.tyR G = .ok .list
  | .pair => ∃ s w,u = .two false s w∧a.tyR G = .ok s∧b.tyR G = .ok w
 | .n3 k s a b c,u=>u=s∧a.tyR G = .ok s∧match k with
  | .re=>b.tyR G = .ok (.two true .nat (.two true s s))∧c.tyR G = .ok .nat
  | .fo=>b.tyR G = .ok (.two true .nat (.two true .list (.two true s s)))∧c.tyR G = .ok .list
theorem qFb (t:Tm) (G:List Ty) (u:Ty) (h:t.tyR G = .ok u):TI G t u:=by
 cases t with
 | v i=>exact h
 | lam s b =>
  have h:tyL s (b.tyR (G++[s])) = .ok u:=h
  cases e:b.tyR (G++[s]) with
  | er n=>rw [e] at h;cases h
  | ok w=>rw [e] at h;exact⟨w,zXo h,e⟩
 | n0 k=>cases k<;>cases h<;>rfl
 | n1 k a =>
  have h:ty1 k (a.tyR G) = .ok u:=h
  cases e:a.tyR G with
  | er n=>rw [e] at h;cases h
  | ok s =>
   rw [e] at h
   cases k
   ·obtain⟨rfl,h⟩:=qG1 h
    cases h
    exact⟨rfl,e⟩
   all_goals
    cases s with
    | two q c d =>
     cases q
     ·cases h;exact⟨_,e⟩
     ·cases h
    | _=>cases h
 | n2 k a b =>
  have h:ty2 k (a.tyR G) (b.tyR G) = .ok u:=h
  cases e:a.tyR G with
  | er n=>rw [e] at h;cases h
  | ok s=>cases e2:b.tyR G with
   | er n=>rw [e,e2] at h;cases h
   | ok w =>
    rw [e,e2] at h
    cases k
    ·cases s with
     | two q c d =>
      cases q
      ·cases h
      ·obtain⟨q1,q⟩:=qG1 h
       cases q
       exact⟨c,e,q1 ▸ e2⟩
     | _=>cases h
    ·obtain⟨rfl,h⟩:=qG1 h
     obtain⟨rfl,h⟩:=qG1 h
     cases h
     exact⟨rfl,e,e2⟩
    ·exact⟨s,w,zXo h,e,e2⟩
 | n3 k s a b c =>
  have h:ty3 k s (a.tyR G) (b.tyR G) (c.tyR G) = .ok u:=h
  cases e:a.tyR G with
  | er n=>rw [e] at h;cases h
  | ok x=>cases e2:b.tyR G with
   | er n=>rw [e,e2] at h;cases h
   | ok y=>cases e3:c.tyR G with
    | er n=>rw [e,e2,e3] at h;cases h
    | ok z =>
     rw [e,e2,e3] at h
     cases k
     all_goals
      obtain⟨q1,k⟩:=qG1 h
      obtain⟨q2,k⟩:=qG1 k
      obtain⟨q3,k⟩:=qG1 k
      cases k
      subst q1 q2 q3
      exact⟨rfl,e,e2,e3⟩
theorem qKo:∀ (t:Tm) (G:List Ty) (u:Ty),t.tyR G = .ok u→Ht G t u
 | .v _,_,_,h=>h
 | .lam s b,G,u,h=>by
  obtain⟨w,e,k⟩:=qFb _ _ _ h
  exact⟨w,e,qKo b _ _ k⟩
 | .n0 k,G,u,h=>qFb _ _ _ h
 | .n1 k a,G,u,h=>by
  have h:=qFb _ _ _ h
  cases k
  ·exact⟨h.1,qKo a _ _ h.2⟩
  ·exact⟨_,qKo a _ _ h.choose_spec⟩
  ·exact⟨_,qKo a _ _ h.choose_spec⟩
 | .n2 k a b,G,u,h=>by
  have h:=qFb _ _ _ h
  cases k
  ·exact⟨_,qKo a _ _ h.choose_spec.1,qKo b _ _ h.choose_spec.2⟩
  ·exact⟨h.1,qKo a _ _ h.2.1,qKo b _ _ h.2.2⟩
  ·obtain⟨s,w,e,k1,k2⟩:=h;exact⟨s,w,e,qKo a _ _ k1,qKo b _ _ k2⟩
 | .n3 k s a b c,G,u,h=>by
  have h:=qFb _ _ _ h
  exact⟨h.1,qKo a _ _ h.2.1,by cases k<;>exact⟨qKo b _ _ h.2.2.1,qKo c _ _ h.2.2.2⟩⟩
abbrev Mo (a w:Nat) (o:Bool):Ob:=bx [num a,num w,.bool o]
abbrev EvO (w a a':Nat) (o:Bool) (t:Tm) (e r:R):Prop:=O 83 [.loc 0 0,.pv t.p,.pv (.slice e.all)] [(0,Mo a w false)] (.pv r.p) [(0,Mo a' w o)]
def Ev (w N c:Nat) (u:Ty) (t:Tm) (e:R):Prop :=
 (∃ r M,N<M∧r.ok M [] u∧E (.ev e t) r∧M+c≤w∧EvO w (N+c) (M+c) false t e r) ∨ ∃ r,EvO w (N+c) w true t e r
def Ca (w N c:Nat) (u:Ty) (b:Tm) (e x:R):Prop :=
 (∃ r M,N<M∧r.ok M [] u∧E (.ev (.ec e x) b) r∧M+c≤w∧O 84 [.loc 0 0,.pv (R.cl b e).p,.pv x.p] [(0,Mo (N+c) w false)] (.pv r.p) [(0,Mo (M+c) w false)]) ∨
 ∃ r:R,O 84 [.loc 0 0,.pv (R.cl b e).p,.pv x.p] [(0,Mo (N+c) w false)] (.pv r.p) [(0,Mo w w true)]
def EvC (w n:Nat):Prop:=∀ (N c:Nat) (t:Tm) (e:R) (G:List Ty) (u:Ty),w≤N+c+n→N+c≤w→Ht G t u→e.env→e.ok N G .unit→G.length≤N+1→Ev w N c u t e
theorem qX8:∀ {e:R},qWd 9 e.all=true
 | .n _=>rfl
 | .l _=>rfl
 | .u=>rfl
 | .pr _ _=>rfl
 | .cl _ e=>qX8 (e:=e)
 | .en=>rfl
 | .ec e r=>by
  have h:=qX8 (e:=e)
  refine qW0 fun y hy => ?_
  rcases List.mem_append.1 hy with hy|hy
  ·exact qVv h y hy
  ·cases List.mem_singleton.1 hy;rfl
section
variable {w:Nat} (hw:w≤mid)
include hw
theorem qLo {n N c:Nat} (H:EvC w n) {b:Tm} {e x:R} {s u:Ty} (hn:w≤N+c+n) (hN:N+c≤w) (hf:(R.cl b e).ok N [] (.two true s u)) (hx:x.ok N [] s):Ca w N c u b e x:=by
 have hm:=qQh
 obtain⟨G,s',u',e',h1,h2,h3,h4⟩:=hf
 cases e'
 have hl:e.all.length≤N:=by rw [qAb h4,qO4 h4 h1];exact h3
 have g1:=qXh e.all.length
 have g2:(qWd 9 e.all && qWd 9 [x.c] && Nat.blt 0 9 && Nat.ble (e.all.length+[x.c].length) maxLen && Nat.ble ((e.all.length+[x.c].length) * 152) 140737488355328)=true:=by
  rw [qX8,show qWd 9 [x.c]=true from rfl,Nat.ble_eq_true_of_le (by simp only [maxLen,List.length_cons,List.length_nil];omega),Nat.ble_eq_true_of_le (by simp only [List.length_cons,List.length_nil];omega)]
  rfl
 rcases H N c b (.ec e x) (G++[s]) u hn hN h2 h4 ⟨G,s,rfl,h1,hx⟩ (by simp;omega) with ⟨r,M,q1,q2,q3,q4,q5⟩|⟨r,q⟩
 ·exact .inl ⟨r,M,q1,q2,q3,q4,o3 1 [(18,.ok),(21,.ok),22] g1 g2 (show O 83 [.loc 0 0,.pv b.p,.pv (.slice (e.all++[x.c]))] [(0,Mo (N+c) w false)] (.pv r.p) [(0,Mo (M+c) w false)] from q5)⟩
 ·exact .inr ⟨r,o3 1 [(18,.ok),(21,.ok),22] g1 g2 (show O 83 [.loc 0 0,.pv b.p,.pv (.slice (e.all++[x.c]))] [(0,Mo (N+c) w false)] (.pv r.p) [(0,Mo w w true)] from q)⟩
abbrev zR:List PV:=[num 0,.nils,.nils,num 0,num 0,num 0,.nils,.nils,.nils]
abbrev s83 (a w:Nat) (o:Bool) (x f m r:R) (i:Nat):IS:=st [(0,.loc 0 0),(6,.loc 2 0),(7,.arr 4 3 3),(10,.loc 7 0),(11,.pv (num i))] [(0,Mo a w o),(2,bx zR),(4,.arr 3 9 148 (pvE [x.c,f.c,m.c])),(7,bx r.c)] 8 [0]
abbrev e83 (a w:Nat) (o:Bool) (r:R):IS:=st [(6,.loc 2 0),(10,.loc 7 0)] [(0,Mo a w o),(2,bx zR),(7,bx r.c)] 8 [0]
abbrev zV9:Kp:=⟨[0,6,7,10,11],[0,2,4,7],8,[0]⟩
abbrev zB8:Kp:=⟨[6,10],[0,2,7],8,[0]⟩
omit hw in
theorem zDo {x f r:R} {m i:Nat} : Lp 83 1 1 (s83 w w true x f (.n m) r i) (.exit 3) (e83 w w true r):=by
 by_cases h:i<m
 ·exact x1 [113] zB8 (qWz h)
 ·exact x1 [113] zB8 (qZ4 (Nat.le_of_not_lt h))
theorem zDp {n c m:Nat} (H:EvC w n) {b:Tm} {d x:R} {s:Ty} (hm':m≤w):∀ (j i:Nat) {r:R} {M:Nat},i+j=m→w≤M+c+n→M+c≤w→(R.cl b d).ok M [] (.two true .nat (.two true s s))→r.ok M [] s→i≤M+j→m≤M→E (.rl b d x i) r →
  (∃ r' L,M≤L∧r'.ok L [] s∧E (.rl b d x m) r'∧L+c≤w∧Lp 83 1 1 (s83 (M+c) w false x (.cl b d) (.n m) r i) (.exit 3) (e83 (L+c) w false r')) ∨ ∃ r',Lp 83 1 1 (s83 (M+c) w false x (.cl b d) (.n m) r i) (.exit 3) (e83 w w true r')
 | 0,i,r,M,e,h1,h2,h3,h4,h5,h6,h7=>by
  cases e
  exact .inl ⟨r,M,Nat.le_refl _,h4,h7,h2,x1 [113] zB8 (qZ4 (Nat.le_refl i))⟩
 | j+1,i,r,M,e,h1,h2,h3,h4,h5,h6,h7=>by
  have hm:=qQh
  have hb:=qQk
  have g0:=qWz (show i<m by omega)
  have g1:=qQv (a:=i) (b:=1) (by omega)
  rcases qLo hw H h1 h2 h3 (x:=.n i) ⟨rfl,by omega⟩ with ⟨f',M1,q1,q2,q3,q4,q5⟩|⟨f',q⟩
  ·obtain⟨b',d',rfl⟩:=zV8 q2
   rcases qLo hw H (n:=n) (by omega) q4 q2 (qQo (Nat.le_of_lt q1) h4) with ⟨r',M2,p1,p2,p3,p4,p5⟩|⟨r',p⟩
   ·rcases zDp H hm' j (i+1) (M:=M2) (r:=r') (by omega) (by omega) p4 (qQo (by omega) h3) p2 (by omega) (by omega) (.r1 h7 q3 p3) with ⟨r2,L,l1,l2,l3,l4,l5⟩|⟨r2,l⟩
    ·exact .inl ⟨r2,L,by omega,l2,l3,l4,n6 [113,129,138,122] zV9 g0 q5 p5 g1 (qQu [x.c,(R.cl b d).c,(R.n m).c]) l5⟩
    ·exact .inr ⟨r2,n6 [113,129,138,122] zV9 g0 q5 p5 g1 (qQu [x.c,(R.cl b d).c,(R.n m).c]) l⟩
   ·exact .inr ⟨r',n6 [113,129,138,122] zV9 g0 q5 p g1 (qQu [x.c,(R.cl b d).c,(R.n m).c]) (zDo (w:=w) (x:=x) (f:=.cl b d) (r:=r') (m:=m) (i:=i+1))⟩
  ·exact .inr ⟨r,n5 [113,129,122] zV9 g0 q g1 (qQu [x.c,(R.cl b d).c,(R.n m).c]) (zDo (w:=w) (x:=x) (f:=.cl b d) (r:=r) (m:=m) (i:=i+1))⟩
def zi:Nat→Int
 | 0 => -1
 | j+1 => .ofNat j
abbrev t83 (a w:Nat) (o:Bool) (x f m r:R) (i:Nat):IS:=st [(0,.loc 0 0),(6,.loc 2 0),(7,.arr 4 3 3),(13,.loc 7 0),(14,.pv (.int (zi i)))] [(0,Mo a w o),(2,bx zR),(4,.arr 3 9 148 (pvE [x.c,f.c,m.c])),(7,bx r.c)] 8 [0]
abbrev d83 (a w:Nat) (o:Bool) (r:R):IS:=st [(6,.loc 2 0),(13,.loc 7 0)] [(0,Mo a w o),(2,bx zR),(7,bx r.c)] 8 [0]
abbrev zVb:Kp:=⟨[0,6,7,13,14],[0,2,4,7],8,[0]⟩
abbrev zB9:Kp:=⟨[6,13],[0,2,7],8,[0]⟩
omit hw in
theorem zCa {x f r:R} {m:List Nat} {i:Nat} : Lp 83 2 1 (t83 w w true x f (.l m) r i) (.exit 5) (d83 w w true r):=by
 cases i
 ·exact x0 [] zB9
 ·exact x0 [] zB9
theorem zDq {n c:Nat} (H:EvC w n) {b:Tm} {d x:R} {s:Ty} {l:List Nat} (hl:l.length≤w):∀ (j:Nat) {r:R} {M:Nat},j≤l.length→w≤M+c+n→M+c≤w→(R.cl b d).ok M [] (.two true .nat (.two true .list (.two true s s)))→r.ok M [] s→(R.l l).ok M [] .list→E (.fl b d x (l.drop j)) r →
  (∃ r' L,M≤L∧r'.ok L [] s∧E (.fl b d x l) r'∧L+c≤w∧Lp 83 2 1 (t83 (M+c) w false x (.cl b d) (.l l) r j) (.exit 5) (d83 (L+c) w false r')) ∨ ∃ r',Lp 83 2 1 (t83 (M+c) w false x (.cl b d) (.l l) r j) (.exit 5) (d83 w w true r')
 | 0,r,M,e,h1,h2,h3,h4,h5,h7 => .inl ⟨r,M,Nat.le_refl _,h4,h7,h2,x0 [] zB9⟩
 | j+1,r,M,e,h1,h2,h3,h4,h5,h7=>by
  have hm:=qQh
  have hb:=qQk
  have e:j<l.length:=e
  have hn:=qQu [x.c,(R.cl b d).c,(R.l l).c]
  have gk:l[j]? = some l[j]:=List.getElem?_eq_getElem e
  have g0:=qQ3 (c:=ic) (n:=1) gk (fun _=>rfl)
  have g1:=qQv (a:=j) (b:=1) (by omega)
  have g2:(Nat.ble (j+1) (l.map ic).length && qWd 1 (l.map ic))=true:=by rw [Nat.ble_eq_true_of_le (by simp;omega),g0.2];rfl
  have g3:inB (Int.ofNat j-1)=true∧Int.ofNat j-1=zi j:=by
   cases j with
   | zero=>exact⟨by decide,rfl⟩
   | succ j=>exact qCx (a:=j+1) (b:=1) (z:=.ofNat j) (by omega) (by omega) (by simp)
  have hk:l[j]≤M:=h5.2.2 _ (List.getElem_mem e)
  have hd:(R.l (l.drop (j+1))).ok M [] .list:=⟨rfl,by have:=h5.2.1;simp;omega,fun y hy=>h5.2.2 y (List.mem_of_mem_drop hy)⟩
  have he:l.drop j=l[j]::l.drop (j+1):=List.drop_eq_getElem_cons e
  rcases qLo hw H h1 h2 h3 (x:=.n l[j]) ⟨rfl,hk⟩ with ⟨f',M1,q1,q2,q3,q4,q5⟩|⟨f',q⟩
  ·obtain⟨b1,d1,rfl⟩:=zV8 q2
   have hD:∀ {p:PV} {ob:List (Nat × Ob)},O 84 [.loc 0 0,.pv (R.cl b1 d1).p,.pv (R.l (l.drop (j+1))).p] [(0,Mo (M1+c) w false)] (.pv p) ob→O 84 [.loc 0 0,.pv (R.cl b1 d1).p,.pv (.agg [num 0,.slice ((l.map ic).drop (j+1)),.slice [],num 0,num 0,num 0,.slice [],.slice [],.slice []])] [(0,Mo (M1+c) w false)] (.pv p) ob:=by
    intro p ob h
    rw [← List.map_drop]
    exact h
   rcases qLo hw H (n:=n) (by omega) q4 q2 (qQo (Nat.le_of_lt q1) hd) with ⟨f2,M2,p1,p2,p3,p4,p5⟩|⟨r',p⟩
   ·obtain⟨b2,d2,rfl⟩:=zV8 p2
    have p5:=hD p5
    rcases qLo hw H (n:=n) (by omega) p4 p2 (qQo (by omega) h4) with ⟨r',M3,k1,k2,k3,k4,k5⟩|⟨r',k⟩
    ·rcases zDq H hl j (M:=M3) (r:=r') (by omega) (by omega) k4 (qQo (by omega) h3) k2 (qQo (by omega) h5) (by rw [he];exact E.f1 h7 q3 p3 k3) with ⟨r2,L,l1,l2,l3,l4,l5⟩|⟨r2,l'⟩
     ·exact .inl ⟨r2,L,by omega,l2,l3,l4,n9 [(184,.i (ic l[j])),187,200,(201,.ok),203,212,(174,.y (zi j))] zVb g0 q5 g1 g2 p5 k5 g3 hn l5⟩
     ·exact .inr ⟨r2,n9 [(184,.i (ic l[j])),187,200,(201,.ok),203,212,(174,.y (zi j))] zVb g0 q5 g1 g2 p5 k5 g3 hn l'⟩
    ·exact .inr ⟨r',n9 [(184,.i (ic l[j])),187,200,(201,.ok),203,212,(174,.y (zi j))] zVb g0 q5 g1 g2 p5 k g3 hn (zCa (w:=w) (x:=x) (f:=.cl b d) (r:=r') (m:=l) (i:=j))⟩
   ·exact .inr ⟨r,n8 [(184,.i (ic l[j])),187,200,(201,.ok),203,(174,.y (zi j))] zVb g0 q5 g1 g2 (hD p) g3 hn (zCa (w:=w) (x:=x) (f:=.cl b d) (r:=r) (m:=l) (i:=j))⟩
  ·exact .inr ⟨r,n5 [(184,.i (ic l[j])),187,(174,.y (zi j))] zVb g0 q g3 hn (zCa (w:=w) (x:=x) (f:=.cl b d) (r:=r) (m:=l) (i:=j))⟩
theorem zCb {n:Nat} (H:EvC w n):EvC w (n+1):=by
 intro N c t e G u hn hN ht he h1 h2
 have hm:=qQh
 have hb:=qQk
 have hl:e.all.length=G.length:=by rw [qAb he,qO4 he h1]
 by_cases hq:N+c=w
 ·refine .inr ⟨.u,?_⟩
  rw [hq]
  exact o1 1 [29] (qLg w)
 have g0:eqI (.ofNat (N+c)) (.ofNat w)=false:=qGo hq
 have g1:=qQv (a:=N+c) (b:=1) (by omega)
 cases t with
 | v i =>
  obtain⟨r,k1,k2⟩:=zXn he h1 ht
  have hi:=qIe e i k1
  have k3:=qU2 he k1
  have hL:=qAb he
  have g2:=qFg (a:=e.all.length) (by omega) (by omega)
  have g3:=qCx (a:=e.all.length-1) (b:=i) (z:=.ofNat (e.all.length-1-i)) (by omega) (by omega) (by simp;omega)
  have g4:qXs e.all (e.all.length-1-i)=some r.c∧qWd 9 e.all=true:=⟨by rw [qJh];exact k3,qX8⟩
  refine .inl ⟨r,N+1,by omega,qQo (by omega) k2,.v k1,by omega,?_⟩
  rw [show N+1+c=N+c+1 by omega]
  exact o5 1 [29,39,48,51,(52,.i r.c)] g0 g1 g2 g3 g4
 | lam s b =>
  obtain⟨v,rfl,k1⟩:=ht
  refine .inl ⟨.cl b e,N+1,by omega,⟨G,s,v,rfl,qQo (by omega) h1,k1,h2,he⟩,.lam,by omega,?_⟩
  rw [show N+1+c=N+c+1 by omega]
  exact o2 1 [29,39] g0 g1
 | n0 k =>
  cases k
  ·refine .inl ⟨.n 0,N+1,by omega,⟨ht,Nat.zero_le _⟩,.zero,by omega,?_⟩
   rw [show N+1+c=N+c+1 by omega]
   exact o2 1 [29,39] g0 g1
  ·refine .inl ⟨.l [],N+1,by omega,⟨ht,Nat.zero_le _,by simp⟩,.nil,by omega,?_⟩
   rw [show N+1+c=N+c+1 by omega]
   exact o2 1 [29,39] g0 g1
  ·refine .inl ⟨.u,N+1,by omega,ht,.unit,by omega,?_⟩
   rw [show N+1+c=N+c+1 by omega]
   exact o2 1 [29,39] g0 g1
 | n1 k a =>
  have hR:∀ v:Ty,Ht G a v→Ev w N (c+1) v a e:=fun v h=>H N (c+1) a e G v (by omega) (by omega) h he h1 h2
  cases k
  ·obtain⟨rfl,h4⟩:=ht
   rcases hR _ h4 with ⟨r,M,q1,q2,q3,q4,q5⟩|⟨r,q⟩
   ·obtain⟨k,rfl,hk⟩:=zYv q2
    have g2:=qQv (a:=k) (b:=1) (by omega)
    refine .inl ⟨.n (k+1),M+1,by omega,⟨rfl,by omega⟩,.succ q3,by omega,?_⟩
    rw [show M+1+c=M+(c+1) by omega]
    exact o4 1 [29,39,74,101] g0 g1 q5 g2
   ·exact .inr ⟨.u,o3 1 [29,39,74] g0 g1 q⟩
  ·obtain⟨v,h4⟩:=ht
   rcases hR _ h4 with ⟨r,M,q1,q2,q3,q4,q5⟩|⟨r,q⟩
   ·obtain⟨x,y,rfl,k1,k2⟩:=zDn q2
    refine .inl ⟨x,M+1,by omega,qQo (by omega) k1,.fst q3,by omega,?_⟩
    rw [show M+1+c=M+(c+1) by omega]
    exact o3 1 [29,39,74] g0 g1 q5
   ·exact .inr ⟨.u,o3 1 [29,39,74] g0 g1 q⟩
  ·obtain⟨v,h4⟩:=ht
   rcases hR _ h4 with ⟨r,M,q1,q2,q3,q4,q5⟩|⟨r,q⟩
   ·obtain⟨x,y,rfl,k1,k2⟩:=zDn q2
    refine .inl ⟨y,M+1,by omega,qQo (by omega) k2,.snd q3,by omega,?_⟩
    rw [show M+1+c=M+(c+1) by omega]
    exact o3 1 [29,39,74] g0 g1 q5
   ·exact .inr ⟨.u,o3 1 [29,39,74] g0 g1 q⟩
 | n2 k a b =>
  have hR:∀ (v:Ty) (t:Tm) (M:Nat),N≤M→M+c<w→Ht G t v→Ev w M (c+1) v t e:=fun v t M hM hw h=>H M (c+1) t e G v (by omega) (by omega) h he (qQo hM h1) (by omega)
  cases k
  ·obtain⟨s,h3,h4⟩:=ht
   rcases hR _ _ N (Nat.le_refl _) (by omega) h3 with ⟨r,M,q1,q2,q3,q4,q5⟩|⟨r,q⟩
   ·obtain⟨b',d,rfl⟩:=zV8 q2
    rcases hR _ _ M (by omega) (by omega) h4 with ⟨r',M',p1,p2,p3,p4,p5⟩|⟨r',p⟩
    ·rcases qLo hw H (c:=c+1) (by omega) (by omega) (qQo (Nat.le_of_lt p1) q2) p2 with ⟨x,L,l1,l2,l3,l4,l5⟩|⟨x,l⟩
     ·refine .inl ⟨x,L+1,by omega,qQo (by omega) l2,.app q3 p3 l3,by omega,?_⟩
      rw [show L+1+c=L+(c+1) by omega]
      exact o5 1 [29,39,74,74,94] g0 g1 q5 p5 l5
     ·exact .inr ⟨x,o5 1 [29,39,74,74,94] g0 g1 q5 p5 l⟩
    ·exact .inr ⟨.u,o4 1 [29,39,74,74] g0 g1 q5 p⟩
   ·exact .inr ⟨.u,o3 1 [29,39,74] g0 g1 q⟩
  ·obtain⟨rfl,h3,h4⟩:=ht
   rcases hR _ _ N (Nat.le_refl _) (by omega) h3 with ⟨r,M,q1,q2,q3,q4,q5⟩|⟨r,q⟩
   ·rcases hR _ _ M (by omega) (by omega) h4 with ⟨r',M',p1,p2,p3,p4,p5⟩|⟨r',p⟩
    ·obtain⟨k,rfl,k1⟩:=zYv q2
     obtain⟨x,rfl,k2,k3⟩:=zDm p2
     refine .inl ⟨.l (k::x),M'+1,by omega,⟨rfl,by simp;omega,fun y hy => ?_⟩,.cons q3 p3,by omega,?_⟩
     ·rcases List.mem_cons.1 hy with rfl|hy
      ·omega
      ·have:=k3 y hy;omega
     rw [show M'+1+c=M'+(c+1) by omega]
     obtain⟨s1,s2⟩:=qVk (c:=ic) (n:=1) (fun _=>rfl) (fun _=>rfl) x
     have el:(pvE (x.map ic)).length=x.length:=by rw [pvE_len,List.length_map]
     have g2:=zZ6 (v:=0) (n:=1) (m:=8) (sz:=1) (ty:=3) (E:=[[V.pv (num k)]]) (ys:=pvE (x.map ic)) rfl (by decide) s1 s2 (by rw [el];simp only [maxLen];omega) (by rw [el];omega)
     have g3:O 83 [.loc 0 0,.pv (Tm.n2 .cons a b).p,.pv (.slice e.all)] [(0,Mo (N+c) w false)] (.pv (.agg [num 0,.slice (List.take (1+(pvE (x.map ic)).length) (ic k::x.map ic)),.slice [],num 0,num 0,num 0,.slice [],.slice [],.slice []])) [(0,Mo (M'+(c+1)) w false)] :=
      o7 1 [29,39,74,74,(146,.ok),(151,.ok),(300032,.f 6 (ic k::x.map ic))] g0 g1 q5 p5 (rfl:true=true) g2 (rfl:pvE (ic k::x.map ic)=pvE (ic k::x.map ic))
     rw [List.take_of_length_le (by rw [el];simp;omega)] at g3
     exact g3
    ·exact .inr ⟨.u,o4 1 [29,39,74,74] g0 g1 q5 p⟩
   ·exact .inr ⟨.u,o3 1 [29,39,74] g0 g1 q⟩
  ·obtain⟨s,v,rfl,h3,h4⟩:=ht
   rcases hR _ _ N (Nat.le_refl _) (by omega) h3 with ⟨r,M,q1,q2,q3,q4,q5⟩|⟨r,q⟩
   ·rcases hR _ _ M (by omega) (by omega) h4 with ⟨r',M',p1,p2,p3,p4,p5⟩|⟨r',p⟩
    ·refine .inl ⟨.pr r r',M'+1,by omega,⟨s,v,rfl,qQo (by omega) q2,qQo (by omega) p2⟩,.pair q3 p3,by omega,?_⟩
     rw [show M'+1+c=M'+(c+1) by omega]
     exact o4 1 [29,39,74,74] g0 g1 q5 p5
    ·exact .inr ⟨.u,o4 1 [29,39,74,74] g0 g1 q5 p⟩
   ·exact .inr ⟨.u,o3 1 [29,39,74] g0 g1 q⟩
 | n3 k s a f d =>
  have hR:∀ (v:Ty) (t:Tm) (M:Nat),N≤M→M+c<w→Ht G t v→Ev w M (c+1) v t e:=fun v t M hM hw h=>H M (c+1) t e G v (by omega) (by omega) h he (qQo hM h1) (by omega)
  cases k
  ·obtain⟨rfl,h3,h4,h5⟩:=ht
   rcases hR _ _ N (Nat.le_refl _) (by omega) h3 with ⟨r,M,q1,q2,q3,q4,q5⟩|⟨r,q⟩
   ·rcases hR _ _ M (by omega) (by omega) h4 with ⟨r',M',p1,p2,p3,p4,p5⟩|⟨r',p⟩
    ·rcases hR _ _ M' (by omega) (by omega) h5 with ⟨r2,L,l1,l2,l3,l4,l5⟩|⟨r2,l⟩
     ·obtain⟨b,d',rfl⟩:=zV8 p2
      obtain⟨m,rfl,hk⟩:=zYv l2
      rcases zDp hw H (c:=c+1) (x:=r) (M:=L) (m:=m) (by omega) m 0 (by omega) (by omega) l4 (qQo (by omega) p2) (qQo (by omega) q2) (by omega) hk .r0 with ⟨z,K,k1,k2,k3,k4,k5⟩|⟨z,k5⟩
      ·refine .inl ⟨z,K+1,by omega,qQo (by omega) k2,.re q3 p3 l3 k3,by omega,?_⟩
       rw [show K+1+c=K+(c+1) by omega]
       exact o7 1 [29,39,74,74,74,(100025,.l zV9 (.exit 3) (e83 (K+(c+1)) w false z))] g0 g1 q5 p5 l5 (qQu [r.c,(R.cl b d').c,(R.n m).c]) k5
      ·exact .inr ⟨z,o7 1 [29,39,74,74,74,(100025,.l zV9 (.exit 3) (e83 w w true z))] g0 g1 q5 p5 l5 (qQu [r.c,(R.cl b d').c,(R.n m).c]) k5⟩
     ·exact .inr ⟨.u,o5 1 [29,39,74,74,74] g0 g1 q5 p5 l⟩
    ·exact .inr ⟨.u,o4 1 [29,39,74,74] g0 g1 q5 p⟩
   ·exact .inr ⟨.u,o3 1 [29,39,74] g0 g1 q⟩
  ·obtain⟨rfl,h3,h4,h5⟩:=ht
   rcases hR _ _ N (Nat.le_refl _) (by omega) h3 with ⟨r,M,q1,q2,q3,q4,q5⟩|⟨r,q⟩
   ·rcases hR _ _ M (by omega) (by omega) h4 with ⟨r',M',p1,p2,p3,p4,p5⟩|⟨r',p⟩
    ·rcases hR _ _ M' (by omega) (by omega) h5 with ⟨r2,L,l1,l2,l3,l4,l5⟩|⟨r2,l⟩
     ·obtain⟨b,d',rfl⟩:=zV8 p2
      obtain⟨m,rfl,hk⟩:=zDm l2
      have g2:inB (Int.ofNat (m.map ic).length-1)=true∧Int.ofNat (m.map ic).length-1=zi m.length:=by
       rw [List.length_map]
       cases m with
       | nil=>exact⟨by decide,rfl⟩
       | cons y m=>exact qCx (a:=m.length+1) (b:=1) (z:=.ofNat m.length) (by have:=hk.1;simp only [List.length_cons] at this;omega) (by omega) (by simp)
      rcases zDq hw H (c:=c+1) (x:=r) (M:=L) (l:=m) (by have:=hk.1;omega) m.length (Nat.le_refl _) (by omega) l4 (qQo (by omega) p2) (qQo (by omega) q2) l2 (by rw [List.drop_length];exact .f0) with ⟨z,K,k1,k2,k3,k4,k5⟩|⟨z,k5⟩
      ·refine .inl ⟨z,K+1,by omega,qQo (by omega) k2,.fo q3 p3 l3 k3,by omega,?_⟩
       rw [show K+1+c=K+(c+1) by omega]
       exact o8 1 [29,39,74,74,74,(163,.y (zi m.length)),(100036,.l zVb (.exit 5) (d83 (K+(c+1)) w false z))] g0 g1 q5 p5 l5 g2 (qQu [r.c,(R.cl b d').c,(R.l m).c]) k5
      ·exact .inr ⟨z,o8 1 [29,39,74,74,74,(163,.y (zi m.length)),(100036,.l zVb (.exit 5) (d83 w w true z))] g0 g1 q5 p5 l5 g2 (qQu [r.c,(R.cl b d').c,(R.l m).c]) k5⟩
     ·exact .inr ⟨.u,o5 1 [29,39,74,74,74] g0 g1 q5 p5 l⟩
    ·exact .inr ⟨.u,o4 1 [29,39,74,74] g0 g1 q5 p⟩
   ·exact .inr ⟨.u,o3 1 [29,39,74] g0 g1 q⟩
theorem qU3:∀ n:Nat,EvC w n
 | 0=>fun N c t e G u hn hN ht he h1 h2 => .inr ⟨.u,by
  rw [show N+c=w by omega]
  exact o1 1 [29] (qLg w)⟩
 | n+1=>zCb hw (qU3 n)
end
open Go.Lg
set_option maxRecDepth 100000
abbrev vl (n:Nat):PV:=.agg [num 1,num n,.slice [],.slice []]
abbrev vz:PV:=.agg [num 0,num 0,.slice [],.slice []]
structure CN (t:Tm):Prop where
 chk:t.chk=0
 tsz:t.tsz≤mid
 cnt:t.cnt≤4096
 ty:t.tyR [] = .ok .nat
section
variable {t:Tm} (h:CN t)
include h
theorem zCc:A 160 [tys [],t.p] (TR.ok .nat).p:=by
 have hm:=qQh
 have hb:=qQk
 have hc:=h.cnt
 have hz:=h.tsz
 have g1:=a31 t (by omega) (by omega)
 rw [h.chk] at g1
 obtain⟨r,g2,_,g4⟩:=qT5 t [] (fun _ h=>nomatch h) h.tsz (by simp only [List.length_nil];omega)
 rw [h.ty] at g4
 subst g4
 exact f2 [8,15] g1 g2
theorem y80:A 80 [tys [],t.p] (TR.ok .nat).p:=f2 [8,15] (a29 [] (fun _ h=>nomatch h)) (zCc h)
end
theorem y82:A 82 [Ty.nat.p] (.tuple [.bool true,num 0]):=f0 []
theorem y86 (n:Nat):A 86 [(R.n n).p,Ty.nat.p] (vl n):=f0 []
def zDr:Nat→Nat
 | 0=>3
 | 3=>0
 | n=>n
theorem qU4:∀ n,zDr (zDr n)=n
 | 0=>rfl
 | 1=>rfl
 | 2=>rfl
 | 3=>rfl
 | _+4=>rfl
theorem y14 {t:Tm} (h:CN t) {w:Nat} (hw:w≤65536):(∃ v a,E (.ev .en t) (.n v)∧a≤w∧A 14 [t.p,num w] (.tuple [vl v,num a,num 0]))∨A 14 [t.p,num w] (.tuple [vz,num 0,num 5]):=by
 have hm:=qQh
 have g1:=y80 h
 have g4:ltI (65536) (.ofNat w)=false:=qZ4 (a:=65536) hw
 rcases qU3 (w:=w) (by omega) w 0 0 t .en [] .nat (by omega) (by omega) (qKo t [] .nat h.ty) trivial ⟨rfl,rfl⟩ (Nat.zero_le _) with ⟨r,M,q1,q2,q3,q4,q5⟩|⟨r,q⟩
 ·obtain⟨v,rfl,_⟩:=zYv q2
  have g3:O 83 [.loc 3 0,.pv t.p,.pv (.slice [])] [(3,Mo 0 w false)] (.pv (R.n v).p) [(3,Mo M w false)]:=AC.ren qU4 q5
  have g5:A 34 [t.p,.slice [],num w] (.tuple [vl v,num M,num 0]):=f5 [23,65,75,83,108] g1 y82 g4 g3 (y86 v)
  exact .inl ⟨v,M,q3,by omega,f1 [9] g5⟩
 ·have g3:O 83 [.loc 3 0,.pv t.p,.pv (.slice [])] [(3,Mo 0 w false)] (.pv r.p) [(3,Mo w w true)]:=AC.ren qU4 q
  have g5:A 34 [t.p,.slice [],num w] (.tuple [vz,num 0,num 5]):=f4 [23,65,75,83] g1 y82 g4 g3
  exact .inr (f1 [9] g5)
end Go.Proofs.YtbbbnbikmbaejaaGreatDoor
