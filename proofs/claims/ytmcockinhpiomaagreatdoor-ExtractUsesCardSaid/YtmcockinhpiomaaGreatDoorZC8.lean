/- Contracts of functions; no conditions. -/
import Derived.Test.YtmcockinhpiomaaGreatDoorZC7
set_option linter.all false
set_option maxHeartbeats 4000000
namespace Go.Proofs.YtmcockinhpiomaaGreatDoor
open Go.Lg
set_option maxRecDepth 100000
abbrev zc1 (z:Int):List PV:=[.int z]
theorem zKz (z:Int):(zc1 z).length=1:=rfl
abbrev dk (L:List Int) (a:Nat):Ob:=bx [.slice (L.map zc1),num a]
abbrev _root_.Go.Lg.De.D (L:List Int) (b:Nat) (x:V):De:=.d 0 (dk L b) x
structure Dk (L:List Int):Prop where
 len:L.length≤500
 rng:∀ z∈L,-9223372036854775808≤z∧z≤9223372036854775807
theorem a38 (z:Int) (k:Nat) (h:1≤k) (hk:k≤mid) (hz : -9223372036854775808≤z∧z≤9223372036854775807):∃ x,x<k∧A 38 [.int z,num k] (num x):=by
 have hm:=qQc
 have h0:(!eqI (.ofNat k) 0)=true:=by
  rw [qVe];simp;omega
 have hb : -(k:Int)<z.tmod (.ofNat k)∧z.tmod (.ofNat k)<k:=by
  constructor
  ·have:=Int.lt_tmod_of_pos z (show (0:Int) < .ofNat k by simp;omega)
   simpa using this
  ·have:=Int.tmod_lt_of_pos z (show (0:Int) < .ofNat k by simp;omega)
   simpa using this
 have e0:0≤z.tmod (.ofNat k) + .ofNat k:=by
  show (0:Int)≤z.tmod (.ofNat k)+(k:Int)
  omega
 have e1:0≤(z.tmod (.ofNat k) + .ofNat k).tmod (.ofNat k)∧(z.tmod (.ofNat k) + .ofNat k).tmod (.ofNat k)<k:=by
  refine⟨Int.tmod_nonneg _ e0,?_⟩
  have:=Int.tmod_lt_of_pos (z.tmod (.ofNat k) + .ofNat k) (show (0:Int) < .ofNat k by simp;omega)
  simpa using this
 have e2:z.tmod (.ofNat k) + .ofNat k≤1152921504606846976:=by
  show z.tmod (.ofNat k)+(k:Int)≤_
  omega
 obtain⟨x,hx⟩:=Int.eq_ofNat_of_zero_le e1.1
 have g1:(!eqI (.ofNat k) 0)=true∧z.tmod (.ofNat k)=z.tmod (.ofNat k):=⟨h0,rfl⟩
 have g2:inB (z.tmod (.ofNat k) + .ofNat k)=true∧z.tmod (.ofNat k) + .ofNat k=z.tmod (.ofNat k) + .ofNat k:=⟨zXl (by omega) e2,rfl⟩
 have g3:(!eqI (.ofNat k) 0)=true∧(z.tmod (.ofNat k) + .ofNat k).tmod (.ofNat k) = .ofNat x:=⟨h0,hx⟩
 exact⟨x,by omega,f3 [(7,.y (z.tmod (.ofNat k))),(9,.y (z.tmod (.ofNat k) + .ofNat k)),(11,.z x)] g1 g2 g3⟩
theorem nx {L:List Int} (hL:Dk L) {a:Nat} (ha:a≤L.length) {n:Nat} (h1:1≤n) (h2:n≤mid):∃ x b,x<n∧b≤L.length∧O 17 [.loc 0 0,.pv (num n)] [(0,dk L a)] (.pv (num x)) [(0,dk L b)]:=by
 have hl:=hL.len
 have hm:=qQc
 have hb:=qQh
 have g0:ltI (.ofNat n) 1=false:=by rw [qQs];simp;omega
 by_cases h:a=L.length
 ·have g1:(!ltI (.ofNat a) (.ofNat (L.map zc1).length))=true:=qP7 (by simp;omega)
  exact⟨0,a,by omega,ha,o2 1 [(7,.H),(18,.G)] g0 g1⟩
 ·have g1:(!ltI (.ofNat a) (.ofNat (L.map zc1).length))=false:=qNk (by simp;omega)
  obtain⟨z,hz⟩:∃ z,L[a]? = some z:=⟨_,List.getElem?_eq_getElem (by omega)⟩
  obtain⟨x,hx,g2⟩:=a38 z n h1 h2 (hL.rng z (List.mem_of_getElem? hz))
  exact⟨x,a+1,hx,by omega,o5 1 [(7,.H),(18,.H),(28,.i (zc1 z)),(34,.z (a+1)),(39,.N x)] g0 g1 (qQi hz zKz) (qQ9 (a:=a) (b:=1) (by omega)) g2⟩
theorem a42:A 42 [] Ty.nat.p:=f0 []
theorem a57:A 57 [] Ty.list.p:=f0 []
theorem a97:A 97 [] Ty.unit.p:=f0 []
def tsM:Nat→Nat
 | 0=>1
 | k+1=>1+2 * tsM k
theorem zFd (k:Nat):1≤tsM k:=by cases k<;>simp [tsM]
theorem a37 {L:List Int} (hL:Dk L):∀ (k:Nat),k≤mid→∀ {a:Nat},a≤L.length→∃ (t:Ty) (b:Nat),t.size≤tsM k∧b≤L.length∧O 37 [.loc 0 0,.pv (num k)] [(0,dk L a)] (.pv t.p) [(0,dk L b)]
 | k,hk,a,ha=>by
  have hm:=qQc
  have hb:=qQh
  obtain⟨x,b,hx,hb1,g1⟩:=nx hL ha (n:=7) (by omega) (by omega)
  have t1:=zFd k
  rcases x with _|_|_|_|_|_|_|x
  ·exact⟨.nat,b,t1,hb1,o2 1 [(6,.D L b (.pv (num 0))),(11,.Y)] g1 a42⟩
  ·exact⟨.nat,b,t1,hb1,o2 1 [(6,.D L b (.pv (num 1))),(11,.Y)] g1 a42⟩
  ·exact⟨.nat,b,t1,hb1,o2 1 [(6,.D L b (.pv (num 2))),(11,.Y)] g1 a42⟩
  ·exact⟨.list,b,t1,hb1,o2 1 [(6,.D L b (.pv (num 3))),(14,.r Ty.list.p)] g1 a57⟩
  ·exact⟨.unit,b,t1,hb1,o2 1 [(6,.D L b (.pv (num 4))),(17,.r Ty.unit.p)] g1 a97⟩
  ·cases k with
   | zero=>exact⟨.nat,b,t1,hb1,o2 1 [(6,.D L b (.pv (num 5))),(44,.Y)] g1 a42⟩
   | succ k =>
    have gs:=qVm (a:=k+1) (by omega) (by omega)
    obtain⟨t,c,z1,hc,g2⟩:=a37 hL k (by omega) hb1
    obtain⟨u,d,z2,hd,g3⟩:=a37 hL k (by omega) hc
    exact⟨.two false t u,d,by simp only [Ty.size,tsM];omega,hd,o6 1 [(6,.D L b (.pv (num 5))),(24,.z k),(25,.D L c (.pv t.p)),(28,.z k),(29,.D L d (.pv u.p)),(30,.r (Ty.two false t u).p)] g1 gs g2 gs g3 (a98 t u)⟩
  ·cases k with
   | zero=>exact⟨.nat,b,t1,hb1,o2 1 [(6,.D L b (.pv (num 6))),(44,.Y)] g1 a42⟩
   | succ k =>
    have gs:=qVm (a:=k+1) (by omega) (by omega)
    obtain⟨t,c,z1,hc,g2⟩:=a37 hL k (by omega) hb1
    obtain⟨u,d,z2,hd,g3⟩:=a37 hL k (by omega) hc
    exact⟨.two true t u,d,by simp only [Ty.size,tsM];omega,hd,o6 1 [(6,.D L b (.pv (num 6))),(37,.z k),(38,.D L c (.pv t.p)),(41,.z k),(42,.D L d (.pv u.p)),(43,.r (Ty.two true t u).p)] g1 gs g2 gs g3 (a99 t u)⟩
  ·omega
theorem a16 {L:List Int} (hL:Dk L) {a:Nat} (ha:a≤L.length):∃ (g:List Ty) (b:Nat),g.length≤3∧(∀ s∈g,s.size≤3)∧b≤L.length∧O 16 [.loc 0 0] [(0,dk L a)] (.pv (tys g)) [(0,dk L b)]:=by
 have hm:=qQc
 obtain⟨x,b,hx,hb1,g1⟩:=nx hL ha (n:=4) (by omega) (by omega)
 obtain⟨t,c,z1,hc,g2⟩:=a37 hL 1 (by omega) hb1
 obtain⟨u,d,z2,hd,g3⟩:=a37 hL 1 (by omega) hc
 obtain⟨v,e,z3,he,g4⟩:=a37 hL 1 (by omega) hd
 have hs:∀ s:Ty,s.size≤tsM 1→s.size≤3:=fun s h=>h
 rcases x with _|_|_|_|x
 ·exact⟨[],b,by simp,by simp,hb1,o1 1 [(6,.D L b (.pv (num 0)))] g1⟩
 ·exact⟨[t],c,by simp,by simpa using hs t z1,hc,o2 1 [(6,.D L b (.pv (num 1))),(13,.D L c (.pv t.p))] g1 g2⟩
 ·exact⟨[t,u],d,by simp,by simp;exact⟨hs t z1,hs u z2⟩,hd,o3 1 [(6,.D L b (.pv (num 2))),(13,.D L c (.pv t.p)),(13,.D L d (.pv u.p))] g1 g2 g3⟩
 ·exact⟨[t,u,v],e,by simp,by simp;exact⟨hs t z1,hs u z2,hs v z3⟩,he,o4 1 [(6,.D L b (.pv (num 3))),(13,.D L c (.pv t.p)),(13,.D L d (.pv u.p)),(13,.D L e (.pv v.p))] g1 g2 g3 g4⟩
 ·omega
theorem a22 {n:Nat} (h:n<4):A 22 [num n] (qJr n).p:=f1 [(7,.U [(qJr n).p,num 0])] (a66 h)
theorem qE9 (f a b:Tm):A 81 [f.p,row [a,b]] (Tm.n2 .app (.n2 .app f a) b).p:=by
 have h:∀ x y:Tm,A 78 [num 3,row [x,y]] (Tm.n2 .app x y).p:=fun x y=>qX3 3 x y
 exact f2 [(16,.r (Tm.n2 .app f a).p),(16,.r (Tm.n2 .app (.n2 .app f a) b).p)] (h f a) (h (.n2 .app f a) b)
theorem qK0 {α:Type} {c:α→List PV} {n:Nat} (hn:∀ t,(c t).length=n) (h1:∀ t,qJl [pvL (c t)]=true):∀ g:List α,qY1 n (pvE (g.map c))=true∧qJl (pvE (g.map c))=true
 | []=>⟨rfl,rfl⟩
 | t::r=>by
  obtain⟨a,b⟩:=qK0 hn h1 r
  have e:pvE ((t::r).map c)=pvL (c t)::pvE (r.map c):=rfl
  rw [e]
  constructor
  ·unfold qY1
   rw [qH1 (show (pvL (c t)).length=n by simp [pvL,hn]),cond_true]
   exact a
  ·have h2:=h1 t
   unfold qJl at h2 ⊢
   cases h3:zZh (pvL (c t)) with
   | false=>rw [h3] at h2;cases h2
   | true=>rw [cond_true];exact b
theorem zHj {α:Type} {c:α→List PV} {n m:Nat} (hn:∀ t,(c t).length=n) (h1:∀ t,qJl [pvL (c t)]=true) (h0:0<n) (g:List α) (h:g.length * m≤140737488355328) (hg:g.length≤maxLen) :
  (Nat.blt 0 n && qY1 n (pvE (g.map c)) && qJl (pvE (g.map c)) && Nat.ble (pvE (g.map c)).length maxLen && Nat.ble ((pvE (g.map c)).length * m) 140737488355328)=true:=by
 obtain⟨a,b⟩:=qK0 hn h1 g
 have h3:Nat.blt 0 n=true:=by rw [qJ1];simpa using h0
 rw [h3,a,b,pvE_len,List.length_map,Nat.ble_eq_true_of_le hg,Nat.ble_eq_true_of_le h]
 rfl
theorem zQ5 {A B:List (List PV)} : List.take ((pvE A).length+(pvE B).length) (A++B)=A++B:=List.take_of_length_le (by simp [pvE_len])
theorem qSh (A B:List (List PV)):List.take (pvE A).length (pvE A)++pvE B=pvE (A++B):=by
 rw [List.take_length]
 simp [pvE]
theorem a41 (g l:List Ty) (h:g.length+l.length≤mid):A 41 [tys g,tys l] (tys (g++l)):=by
 have hm:=qQc
 have g1:=zHj (c:=Ty.c) (n:=2) (m:=32) Ty.c_len (fun _=>rfl) (by decide) g (by omega) (by simp only [maxLen];omega)
 obtain⟨s1,s2⟩:=qK0 (c:=Ty.c) (n:=2) Ty.c_len (fun _=>rfl) l
 have g2:(Nat.beq 1 1 && Nat.ble (pvE (g.map Ty.c)).length (pvE (g.map Ty.c)).length && Nat.beq 34 34 && Nat.beq 2 2 && Nat.blt 0 2 && qY1 2 (pvE (l.map Ty.c)) && qJl (pvE (l.map Ty.c)) && Nat.ble ((pvE (g.map Ty.c)).length+(pvE (l.map Ty.c)).length) maxLen && Nat.ble (((pvE (g.map Ty.c)).length+(pvE (l.map Ty.c)).length) * 32) 140737488355328)=true :=
  qRc rfl (by decide) s1 s2 (by rw [pvE_len,pvE_len];simp only [List.length_map,maxLen];omega) (by rw [pvE_len,pvE_len];simp only [List.length_map];omega)
 have g3:A 41 [tys g,tys l] (.slice (List.take ((pvE (g.map Ty.c)).length+(pvE (l.map Ty.c)).length) (g.map Ty.c++l.map Ty.c))) :=
  f3 [(6,.ok),(8,.ok),(300001,.f 0 (g.map Ty.c++l.map Ty.c))] g1 g2 (qSh (g.map Ty.c) (l.map Ty.c))
 rw [zQ5,← List.map_append] at g3
 exact g3
abbrev zFe:Kp:=⟨[0,3,5,8,9],[0,1],2,[]⟩
theorem zFf {g:List Ty} {k:Nat} (hk:k<g.length) (hg:g.length≤mid):∃ s,(inB (Int.ofNat (g.map Ty.c).length-1)=true∧Int.ofNat (g.map Ty.c).length-1 = .ofNat ((g.map Ty.c).length-1))∧(inB (Int.ofNat ((g.map Ty.c).length-1) - .ofNat k)=true∧Int.ofNat ((g.map Ty.c).length-1) - .ofNat k = .ofNat (g.length-1-k))∧(qXf (g.map Ty.c) (g.length-1-k)=some (Ty.c s)∧qYf 2 (g.map Ty.c)=true)∧s∈g:=by
 have hm:=qQc
 have hb:=qQh
 obtain⟨s,hs⟩:∃ s,g[g.length-1-k]? = some s:=⟨_,List.getElem?_eq_getElem (by omega)⟩
 refine⟨s,qVm (a:=(g.map Ty.c).length) (by simp;omega) (by simp;omega),?_,qQi hs Ty.c_len,List.mem_of_getElem? hs⟩
 have e:Int.ofNat ((g.map Ty.c).length-1) - .ofNat k = .ofNat (g.length-1-k):=by simp;omega
 exact⟨by rw [e];exact inN (by omega),e⟩
theorem qIu (t:Ty) {g:List Ty} (hg:g.length≤mid):∀ (r k v:Nat) (A:List (List PV)),k+r=g.length→A.length≤k →
  ∃ (v':Nat) (l:List Nat),(∀ x∈l,x<g.length)∧l.length≤r∧Lp 77 0 0 (st [(0,.pv (tys g)),(3,.loc 0 0),(5,.arr 1 v A.length),(8,.pv (num (g.map Ty.c).length)),(9,.pv (num k))] [(0,bx t.c),(1,.arr v 1 3 (pvE A))] 2 []) (.exit 0) (st [(5,.arr 1 v' (A.length+l.length))] [(1,.arr v' 1 3 (pvE (A++l.map ic)))] 2 [])
 | 0,k,v,A,h,hA=>by
  have e:ltI (.ofNat k) (.ofNat (g.map Ty.c).length)=false:=qZv (by simp;omega)
  refine⟨v,[],by simp,Nat.le_refl _,?_⟩
  simp only [List.map_nil,List.append_nil,List.length_nil,Nat.add_zero]
  exact y1 [(10,.H)] ⟨[5],[1],2,[]⟩ e (qQn A)
 | r+1,k,v,A,h,hA=>by
  have hm:=qQc
  have hb:=qQh
  have e:ltI (.ofNat k) (.ofNat (g.map Ty.c).length)=true:=qQy (by simp;omega)
  obtain⟨s,g1,g2,g3,_⟩:=zFf (g:=g) (k:=k) (by omega) hg
  have g4:=a80 s t
  have g6:=qQ9 (a:=k) (b:=1) (by omega)
  cases hs:s.same t<;>rw [hs] at g4
  ·obtain⟨v',l,q1,q2,ih⟩:=qIu t hg r (k+1) v A (by omega) (by omega)
   exact⟨v',l,q1,by omega,n8 [(10,.G),(15,.z ((g.map Ty.c).length-1)),(17,.z (g.length-1-k)),(18,.i s.c),(21,.F),(26,.z (k+1))] zFe e g1 g2 g3 g4 g6 (qQn A) ih⟩
  ·have g5:=qEv (A:=A) (v:=v) (ty:=3) (m:=8) (c:=ic k) (show 0<1 by decide) rfl rfl (by simp only [maxLen];omega) (by omega)
   obtain⟨v',l,q1,q2,ih⟩:=qIu t hg r (k+1) (v+1) (A++[ic k]) (by omega) (by simp;omega)
   rw [qZy,show (A++[ic k]).length=A.length+1 by simp,show A.length+1+l.length=A.length+(k::l).length by simp;omega,List.append_assoc] at ih
   exact⟨v',k::l,fun x hx=>by
    rcases List.mem_cons.1 hx with rfl|hx
    ·omega
    ·exact q1 x hx,by simp;omega,n9 [(10,.G),(15,.z ((g.map Ty.c).length-1)),(17,.z (g.length-1-k)),(18,.i s.c),(21,.T),(25,.ok),(26,.z (k+1))] zFe e g1 g2 g3 g4 g5 g6 (qQq A (ic k)) ih⟩
theorem qSi (t:Ty) {g:List Ty} (hg:g.length≤mid):∀ (r k:Nat),k+r=g.length →
  Lp 77 0 0 (st [(0,.pv (tys g)),(3,.loc 0 0),(5,.pv .nils),(8,.pv (num (g.map Ty.c).length)),(9,.pv (num k))] [(0,bx t.c)] 1 []) (.exit 0) (st [(5,.pv .nils)] [] 2 []) ∨
  ∃ l:List Nat,(∀ x∈l,x<g.length)∧1≤l.length∧l.length≤r∧Lp 77 0 0 (st [(0,.pv (tys g)),(3,.loc 0 0),(5,.pv .nils),(8,.pv (num (g.map Ty.c).length)),(9,.pv (num k))] [(0,bx t.c)] 1 []) (.exit 0) (st [(5,.pv (qQl l))] [] 2 [])
 | 0,k,h=>by
  have e:ltI (.ofNat k) (.ofNat (g.map Ty.c).length)=false:=qZv (by simp;omega)
  exact .inl (x1 [(10,.H)] ⟨[5],[],2,[]⟩ e)
 | r+1,k,h=>by
  have hm:=qQc
  have hb:=qQh
  have e:ltI (.ofNat k) (.ofNat (g.map Ty.c).length)=true:=qQy (by simp;omega)
  obtain⟨s,g1,g2,g3,_⟩:=zFf (g:=g) (k:=k) (by omega) hg
  have g4:=a80 s t
  have g6:=qQ9 (a:=k) (b:=1) (by omega)
  cases hs:s.same t<;>rw [hs] at g4
  ·rcases qSi t hg r (k+1) (by omega) with ih|⟨l,q1,q2,q3,ih⟩
   ·exact .inl (n7 [(10,.G),(15,.z ((g.map Ty.c).length-1)),(17,.z (g.length-1-k)),(18,.i s.c),(21,.F),(26,.z (k+1))] ⟨[0,3,5,8,9],[0],1,[]⟩ e g1 g2 g3 g4 g6 ih)
   ·exact .inr ⟨l,q1,q2,by omega,n7 [(10,.G),(15,.z ((g.map Ty.c).length-1)),(17,.z (g.length-1-k)),(18,.i s.c),(21,.F),(26,.z (k+1))] ⟨[0,3,5,8,9],[0],1,[]⟩ e g1 g2 g3 g4 g6 ih⟩
  ·right
   by_cases hk0:k=0∨1≤k
   ·obtain⟨v,l,q1,q2,ih⟩:=qIu t hg r (k+1) 1 [ic k] (by omega) (by simp)
    have h2:=LoopIs.fz (by simp) ih 1 (ver:=v) (sz:=1) (ty:=3) (ps:=(k::l).map ic) rfl (by kernel_rfl)
    simp (decide:=true) only [fzS,fzO,qY0,qJb,qY8,bx,List.map,qC3,and_self,↓reduceIte,List.take_of_length_le (show (ic k::l.map ic).length≤[ic k].length+l.length by simp;omega)] at h2
    refine⟨k::l,fun x hx => ?_,by simp,by simp;omega,n8 [(10,.G),(15,.z ((g.map Ty.c).length-1)),(17,.z (g.length-1-k)),(18,.i s.c),(21,.T),(26,.z (k+1))] zFe e g1 g2 g3 g4 g6 (qQq [] (ic k)) h2⟩
    rcases List.mem_cons.1 hx with rfl|hx
    ·omega
    ·exact q1 x hx
   ·omega
theorem a77 (g:List Ty) (t:Ty) (hg:g.length≤mid):∃ l:List Nat,(∀ x∈l,x<g.length)∧l.length≤g.length∧A 77 [tys g,t.p] (qQl l):=by
 rcases qSi t hg g.length 0 (by omega) with h|⟨l,q1,q2,q3,h⟩
 ·exact⟨[],by simp,by simp,f1 [(100003,.l ⟨[0,3,5,8,9],[0],1,[]⟩ (.exit 0) (st [(5,.pv .nils)] [] 2 []))] h⟩
 ·exact⟨l,q1,q3,f1 [(100003,.l ⟨[0,3,5,8,9],[0],1,[]⟩ (.exit 0) (st [(5,.pv (qQl l))] [] 2 []))] h⟩
theorem a46 (g:List Ty) (hs:List Fm) (f:Fm) (h:hs.length≤1000000):A 46 [qJs g hs,f.p] (qJs g (hs++[f])):=by
 have hm:=qQc
 have g1:=zHj (c:=Fm.c) (n:=5) (m:=88) Fm.c_len (fun _=>rfl) (by decide) hs (by omega) (by simp only [maxLen];omega)
 have g2:(Nat.beq 1 1 && Nat.ble (pvE (hs.map Fm.c)).length (pvE (hs.map Fm.c)).length && Nat.beq 40 40 && Nat.beq 5 5 && Nat.blt 0 5 && qY1 5 [pvL f.c] && qJl [pvL f.c] && Nat.ble ((pvE (hs.map Fm.c)).length+[pvL f.c].length) maxLen && Nat.ble (((pvE (hs.map Fm.c)).length+[pvL f.c].length) * 88) 140737488355328)=true :=
  qRc rfl (by decide) rfl rfl (by rw [pvE_len];simp only [List.length_map,maxLen,List.length_singleton];omega) (by rw [pvE_len];simp only [List.length_map,List.length_singleton];omega)
 have g3:A 46 [qJs g hs,f.p] (.agg [tys g,.slice (List.take ((pvE (hs.map Fm.c)).length+[pvL f.c].length) (hs.map Fm.c++[f.c]))]) :=
  f3 [(9,.ok),(12,.ok),(300001,.f 3 (hs.map Fm.c++[f.c]))] g1 g2 (qSh (hs.map Fm.c) [f.c])
 rw [List.take_of_length_le (by rw [pvE_len];simp)] at g3
 rw [show qJs g (hs++[f]) = .agg [tys g,.slice (hs.map Fm.c++[f.c])] by simp [qJs,fms]]
 exact g3
theorem a50 (t:Tm) (h:t.cnt≤1000000) (h':t.mx≤mid * mid):A 50 [t.p] (t.sh 0 1).p:=by
 have hm:=qQc
 have g1:=a53 (.eq t t) 0 1 (by omega) (by omega) (by simp only [Fm.mx];omega) (by simp only [Fm.cnt];omega)
 exact f2 [(5,.r (Fm.eq t t).p),(6,.r ((Fm.eq t t).sh 0 1).p)] (a43 t t) g1
open Go.Lg
set_option maxRecDepth 100000
section
variable {f:Nat} {args:List V} {objs:List (Nat × Ob)} {x:V} {objs':List (Nat × Ob)}
theorem o18 (m:Nat) (tp:Di) {H1 H2 H3 H4 H5 H6 H7 H8 H9 H10 H11 H12 H13 H14 H15 H16 H17 H18:Prop} (h1:H1) (h2:H2) (h3:H3) (h4:H4) (h5:H5) (h6:H6) (h7:H7) (h8:H8) (h9:H9) (h10:H10) (h11:H11) (h12:H12) (h13:H13) (h14:H14) (h15:H15) (h16:H16) (h17:H17) (h18:H18) (e:(H1∧H2∧H3∧H4∧H5∧H6∧H7∧H8∧H9∧H10∧H11∧H12∧H13∧H14∧H15∧H16∧H17∧H18∧(x,objs')=(x,objs'))=UO f args objs m tp x objs':=by kernel_rfl):O f args objs x objs':=ok m tp ⟨h1,h2,h3,h4,h5,h6,h7,h8,h9,h10,h11,h12,h13,h14,h15,h16,h17,h18,rfl⟩ e
theorem o19 (m:Nat) (tp:Di) {H1 H2 H3 H4 H5 H6 H7 H8 H9 H10 H11 H12 H13 H14 H15 H16 H17 H18 H19:Prop} (h1:H1) (h2:H2) (h3:H3) (h4:H4) (h5:H5) (h6:H6) (h7:H7) (h8:H8) (h9:H9) (h10:H10) (h11:H11) (h12:H12) (h13:H13) (h14:H14) (h15:H15) (h16:H16) (h17:H17) (h18:H18) (h19:H19) (e:(H1∧H2∧H3∧H4∧H5∧H6∧H7∧H8∧H9∧H10∧H11∧H12∧H13∧H14∧H15∧H16∧H17∧H18∧H19∧(x,objs')=(x,objs'))=UO f args objs m tp x objs':=by kernel_rfl):O f args objs x objs':=ok m tp ⟨h1,h2,h3,h4,h5,h6,h7,h8,h9,h10,h11,h12,h13,h14,h15,h16,h17,h18,h19,rfl⟩ e
theorem o20 (m:Nat) (tp:Di) {H1 H2 H3 H4 H5 H6 H7 H8 H9 H10 H11 H12 H13 H14 H15 H16 H17 H18 H19 H20:Prop} (h1:H1) (h2:H2) (h3:H3) (h4:H4) (h5:H5) (h6:H6) (h7:H7) (h8:H8) (h9:H9) (h10:H10) (h11:H11) (h12:H12) (h13:H13) (h14:H14) (h15:H15) (h16:H16) (h17:H17) (h18:H18) (h19:H19) (h20:H20) (e:(H1∧H2∧H3∧H4∧H5∧H6∧H7∧H8∧H9∧H10∧H11∧H12∧H13∧H14∧H15∧H16∧H17∧H18∧H19∧H20∧(x,objs')=(x,objs'))=UO f args objs m tp x objs':=by kernel_rfl):O f args objs x objs':=ok m tp ⟨h1,h2,h3,h4,h5,h6,h7,h8,h9,h10,h11,h12,h13,h14,h15,h16,h17,h18,h19,h20,rfl⟩ e
end
section
variable {f i bs:Nat} {s s':IS} {e:AE}
theorem x9 (tp:Di) (ko:Kp) {H1 H2 H3 H4 H5 H6 H7 H8 H9:Prop} (h1:H1) (h2:H2) (h3:H3) (h4:H4) (h5:H5) (h6:H6) (h7:H7) (h8:H8) (h9:H9) (q:(H1∧H2∧H3∧H4∧H5∧H6∧H7∧H8∧H9∧e=e∧s'=s')=Rd f i bs s tp ko ko e s':=by kernel_rfl):Lp f i bs s e s':=rk tp ko ko ⟨h1,h2,h3,h4,h5,h6,h7,h8,h9,rfl,rfl⟩ q
end
structure TG (n C S:Nat) (x:Tm):Prop where
 sc:x.sc n
 cnt:x.cnt≤C
 tsz:x.tsz≤S
theorem TG.mono {n C S C' S':Nat} {x:Tm} (h:TG n C S x) (hc:C≤C') (hs:S≤S'):TG n C' S' x:=⟨h.sc,Nat.le_trans h.cnt hc,Nat.le_trans h.tsz hs⟩
theorem qWz {n i:Nat} (h:i<3):TG n 4 0 (qJr i):=by
 rcases i with _|_|_|i
 ·exact⟨trivial,by decide,by decide⟩
 ·exact⟨trivial,by decide,by decide⟩
 ·exact⟨trivial,by decide,by decide⟩
 ·omega
abbrev M28 (L:List Int) (g:List Ty) (t:Ty) (z:PV) (a:Nat) (x:Tm) (b:Nat):Prop:=O 28 [.loc 0 0,.pv (tys g),.pv t.p,.pv z] [(0,dk L a)] (.pv x.p) [(0,dk L b)]
theorem zBm {L:List Int} (hL:Dk L) {g:List Ty} {t:Ty} (hg:g.length≤1000000) (z:PV) {a:Nat} (ha:a≤L.length) :
  (∃ (i b:Nat),i<g.length∧b≤L.length∧M28 L g t z a (.v i) b)∨A 77 [tys g,t.p] (qQl []) ∨ ∃ (i:Nat) (r:List Nat) (b:Nat),b≤L.length∧A 77 [tys g,t.p] (qQl (i::r))∧O 17 [.loc 0 0,.pv (num 3)] [(0,dk L a)] (.pv (num 0)) [(0,dk L b)]:=by
 have hm:=qQc
 have hb:=qQh
 obtain⟨l,q1,q2,g1⟩:=a77 g t (by omega)
 cases l with
 | nil=>exact .inr (.inl g1)
 | cons i r =>
  obtain⟨x,b,hx,hb1,g2⟩:=nx hL ha (n:=3) (by omega) (by omega)
  cases x with
  | zero=>exact .inr (.inr ⟨i,r,b,hb1,g1,g2⟩)
  | succ x =>
   have q3:r.length+1≤g.length:=q2
   have el:((i::r).map ic).length=r.length+1:=by simp
   obtain⟨y,c,hy,hc,g3⟩:=nx hL hb1 (n:=((i::r).map ic).length) (by omega) (by omega)
   obtain⟨w,hw⟩:∃ w,(i::r)[y]? = some w:=⟨_,List.getElem?_eq_getElem (by simpa using hy)⟩
   exact .inl ⟨w,c,q1 w (List.mem_of_getElem? hw),hc,o5 1 [(19,.r (qQl (i::r))),(25,.D L b (.pv (num (x+1)))),(32,.D L c (.pv (num y))),(33,.i (ic w)),(35,.r (Tm.v w).p)] g1 g2 g3 (qQi (c:=ic) (n:=1) hw fun _=>rfl) (a51 w)⟩
theorem leI {z:Int} (h:z≤0):ltI 0 z=false:=by rw [qQs];simpa using h
theorem zLe {z:Int} (h : -1000000≤z) (h':z≤1000000):inB (z-1)=true∧z-1=z-1:=⟨zXl (by omega) (by omega),rfl⟩
theorem qNs:A 78 [num 7,row []] (Tm.n0 .nil).p:=qP5 7
theorem qDi:A 78 [num 13,row []] (Tm.n0 .unit).p:=qP5 13
theorem n78 (k:K2) (x y:Tm):A 78 [num k.n,row [x,y]] (Tm.n2 k x y).p:=qX3 k.n x y
theorem qG4 (k:K1) (x:Tm):A 78 [num k.n,row [x]] (Tm.n1 k x).p:=qP6 k.n x
theorem qIv {L:List Int} (hL:Dk L):∀ (t:Ty) (g:List Ty) (z:Int) (a:Nat),z≤0→-1000000+t.size≤z→g.length+t.size≤1000000→a≤L.length→∃ (x:Tm) (b:Nat),TG g.length (4 * t.size) t.size x∧b≤L.length∧M28 L g t (.int z) a x b
 | t,g,z,a,hz,hz2,hg,ha=>by
  have hm:=qQc
  have h0:=leI hz
  have h1:=zLe (z:=z) (by omega) (by omega)
  have ht1:1≤t.size:=by cases t<;>simp [Ty.size]<;>omega
  rcases zBm hL (g:=g) (t:=t) (by omega) (.int z) ha with ⟨i,b,hi,hb,h⟩|g0|⟨i0,r0,a0,ha0,g0,g00⟩
  ·exact⟨.v i,b,⟨hi,by simp only [Tm.cnt];omega,Nat.zero_le _⟩,hb,h⟩
  ·cases t with
   | nat =>
    obtain⟨y,b,hy,hb,g1⟩:=nx hL ha (n:=3) (by omega) (by omega)
    have g2:=a22 (n:=y) (by omega)
    exact⟨qJr y,b,(qWz hy).mono (by decide) (by decide),hb,o5 1 [(19,.r (qQl [])),(37,.H),(218,.H),(266,.D L b (.pv (num y))),(267,.r (qJr y).p)] g0 h0 h0 g1 g2⟩
   | list=>exact⟨.n0 .nil,a,⟨trivial,by decide,by decide⟩,ha,o4 1 [(19,.r (qQl [])),(37,.H),(271,.H),(291,.r (Tm.n0 .nil).p)] g0 h0 h0 qNs⟩
   | unit=>exact⟨.n0 .unit,a,⟨trivial,by decide,by decide⟩,ha,o3 1 [(19,.r (qQl [])),(37,.H),(337,.r (Tm.n0 .unit).p)] g0 h0 qDi⟩
   | two k s u =>
    simp only [Ty.size] at hz2 hg ⊢
    cases k with
    | false =>
     obtain⟨x,b,q1,hb,g1⟩:=qIv hL s g (z-1) a (by omega) (by omega) (by omega) ha
     obtain⟨y,c,q2,hc,g2⟩:=qIv hL u g (z-1) b (by omega) (by omega) (by omega) hb
     exact⟨.n2 .pair x y,c,⟨⟨q1.sc,q2.sc⟩,by have:=q1.cnt;have:=q2.cnt;simp only [Tm.cnt];omega,by have:=q1.tsz;have:=q2.tsz;simp only [Tm.tsz];omega⟩,hc,o7 1 [(19,.r (qQl [])),(37,.H),(301,.y (z-1)),(302,.D L b (.pv x.p)),(310,.y (z-1)),(311,.D L c (.pv y.p)),(313,.r (Tm.n2 .pair x y).p)] g0 h0 h1 g1 h1 g2 (n78 .pair x y)⟩
    | true =>
     obtain⟨x,b,q1,hb,g1⟩:=qIv hL u (g++[s]) (z-1) a (by omega) (by omega) (by simp;omega) ha
     have g2:=a41 g [s] (by simp;omega)
     exact⟨.lam s x,b,⟨by have:=q1.sc;simpa [Tm.sc] using this,by have:=q1.cnt;simp only [Tm.cnt];omega,by have:=q1.tsz;simp only [Tm.tsz];omega⟩,hb,o6 1 [(19,.r (qQl [])),(37,.H),(327,.r (tys (g++[s]))),(333,.y (z-1)),(334,.D L b (.pv x.p)),(336,.r (Tm.lam s x).p)] g0 h0 g2 h1 g1 (qVv s x)⟩
  ·cases t with
   | nat =>
    obtain⟨y,b,hy,hb,g1⟩:=nx hL ha0 (n:=3) (by omega) (by omega)
    have g2:=a22 (n:=y) (by omega)
    exact⟨qJr y,b,(qWz hy).mono (by decide) (by decide),hb,o6 1 [(19,.r (qQl (i0::r0))),(25,.D L a0 (.pv (num 0))),(37,.H),(218,.H),(266,.D L b (.pv (num y))),(267,.r (qJr y).p)] g0 g00 h0 h0 g1 g2⟩
   | list=>exact⟨.n0 .nil,a0,⟨trivial,by decide,by decide⟩,ha0,o5 1 [(19,.r (qQl (i0::r0))),(25,.D L a0 (.pv (num 0))),(37,.H),(271,.H),(291,.r (Tm.n0 .nil).p)] g0 g00 h0 h0 qNs⟩
   | unit=>exact⟨.n0 .unit,a0,⟨trivial,by decide,by decide⟩,ha0,o4 1 [(19,.r (qQl (i0::r0))),(25,.D L a0 (.pv (num 0))),(37,.H),(337,.r (Tm.n0 .unit).p)] g0 g00 h0 qDi⟩
   | two k s u =>
    simp only [Ty.size] at hz2 hg ⊢
    cases k with
    | false =>
     obtain⟨x,b,q1,hb,g1⟩:=qIv hL s g (z-1) a0 (by omega) (by omega) (by omega) ha0
     obtain⟨y,c,q2,hc,g2⟩:=qIv hL u g (z-1) b (by omega) (by omega) (by omega) hb
     exact⟨.n2 .pair x y,c,⟨⟨q1.sc,q2.sc⟩,by have:=q1.cnt;have:=q2.cnt;simp only [Tm.cnt];omega,by have:=q1.tsz;have:=q2.tsz;simp only [Tm.tsz];omega⟩,hc,o8 1 [(19,.r (qQl (i0::r0))),(25,.D L a0 (.pv (num 0))),(37,.H),(301,.y (z-1)),(302,.D L b (.pv x.p)),(310,.y (z-1)),(311,.D L c (.pv y.p)),(313,.r (Tm.n2 .pair x y).p)] g0 g00 h0 h1 g1 h1 g2 (n78 .pair x y)⟩
    | true =>
     obtain⟨x,b,q1,hb,g1⟩:=qIv hL u (g++[s]) (z-1) a0 (by omega) (by omega) (by simp;omega) ha0
     have g2:=a41 g [s] (by simp;omega)
     exact⟨.lam s x,b,⟨by have:=q1.sc;simpa [Tm.sc] using this,by have:=q1.cnt;simp only [Tm.cnt];omega,by have:=q1.tsz;simp only [Tm.tsz];omega⟩,hb,o7 1 [(19,.r (qQl (i0::r0))),(25,.D L a0 (.pv (num 0))),(37,.H),(327,.r (tys (g++[s]))),(333,.y (z-1)),(334,.D L b (.pv x.p)),(336,.r (Tm.lam s x).p)] g0 g00 h0 g2 h1 g1 (qVv s x)⟩
def tb (S:Nat):Nat→Nat
 | 0=>4 * S
 | k+1=>3 * tb S k+200
def H28 (L:List Int) (S k:Nat):Prop:=∀ (t:Ty) (g:List Ty) (a:Nat),t.size≤S→(∀ s∈g,s.size≤S)→g.length+3 * k+S≤1000000→a≤L.length→∃ (x:Tm) (b:Nat),TG g.length (tb S k) S x∧b≤L.length∧M28 L g t (num k) a x b
theorem zFg {L:List Int} (hL:Dk L) (S:Nat) (hS:S≤100000):H28 L S 0:=by
 intro t g a ht hg hl ha
 obtain⟨x,b,q,hb,h⟩:=qIv hL t g 0 a (Int.le_refl _) (by omega) (by omega) ha
 exact⟨x,b,q.mono (by simp only [tb];omega) ht,hb,h⟩
abbrev z5:List PV:=[.int 0,.int 0,.int 0,.nils,.nils]
abbrev qK1:Kp:=⟨[0,1,3,6,8,176,177],[0,1,2],3,[0]⟩
abbrev s28 (L:List Int) (g:List Ty) (t:Ty) (k a i:Nat):IS:=st [(0,.loc 0 0),(1,.pv (tys g)),(3,.pv (num (k+1))),(6,.loc 1 0),(8,.loc 2 0),(176,.pv (num (g.map Ty.c).length)),(177,.pv (num i))] [(0,dk L a),(1,bx t.c),(2,bx z5)] 3 [0]
abbrev e28 (L:List Int) (g:List Ty) (t:Ty) (k a:Nat):IS:=st [(0,.loc 0 0),(1,.pv (tys g)),(3,.pv (num (k+1))),(6,.loc 1 0),(8,.loc 2 0)] [(0,dk L a),(1,bx t.c),(2,bx z5)] 3 [0]
theorem qSj {L:List Int} {S k:Nat} (hk:H28 L S k) (t:Ty) {g:List Ty} (hg:∀ s∈g,s.size≤S) (hl:g.length+3 * k+S≤1000000) {a:Nat} (ha:a≤L.length):∀ (r i:Nat),i+r=g.length →
  Lp 28 0 1 (s28 L g t k a i) (.exit 1) (e28 L g t k a) ∨ ∃ (x:Tm) (b:Nat),TG g.length (tb S k+2) S x∧b≤L.length∧Lp 28 0 1 (s28 L g t k a i) .ret (st [(8,.loc 2 0)] [(0,dk L b),(2,bx x.c)] 3 [0])
 | 0,i,h=>by
  have e:ltI (.ofNat i) (.ofNat (g.map Ty.c).length)=false:=qZv (by simp;omega)
  exact .inl (x1 [(178,.H)] ⟨[0,1,3,6,8],[0,1,2],3,[0]⟩ e)
 | r+1,i,h=>by
  have hm:=qQc
  have hb:=qQh
  have e:ltI (.ofNat i) (.ofNat (g.map Ty.c).length)=true:=qQy (by simp;omega)
  obtain⟨s,g1,g2,g3,hs⟩:=zFf (g:=g) (k:=i) (by omega) (by omega)
  have g6:=qQ9 (a:=i) (b:=1) (by omega)
  have ih:=qSj hk t hg hl ha r (i+1) (by omega)
  cases s with
  | nat =>
   rcases ih with ih|⟨x,b,q,hb,ih⟩
   ·exact .inl (n6 [(178,.G),(183,.z ((g.map Ty.c).length-1)),(185,.z (g.length-1-i)),(186,.i Ty.nat.c),(212,.z (i+1))] qK1 e g1 g2 g3 g6 ih)
   ·exact .inr ⟨x,b,q,hb,n6 [(178,.G),(183,.z ((g.map Ty.c).length-1)),(185,.z (g.length-1-i)),(186,.i Ty.nat.c),(212,.z (i+1))] qK1 e g1 g2 g3 g6 ih⟩
  | list =>
   rcases ih with ih|⟨x,b,q,hb,ih⟩
   ·exact .inl (n6 [(178,.G),(183,.z ((g.map Ty.c).length-1)),(185,.z (g.length-1-i)),(186,.i Ty.list.c),(212,.z (i+1))] qK1 e g1 g2 g3 g6 ih)
   ·exact .inr ⟨x,b,q,hb,n6 [(178,.G),(183,.z ((g.map Ty.c).length-1)),(185,.z (g.length-1-i)),(186,.i Ty.list.c),(212,.z (i+1))] qK1 e g1 g2 g3 g6 ih⟩
  | unit =>
   rcases ih with ih|⟨x,b,q,hb,ih⟩
   ·exact .inl (n6 [(178,.G),(183,.z ((g.map Ty.c).length-1)),(185,.z (g.length-1-i)),(186,.i Ty.unit.c),(212,.z (i+1))] qK1 e g1 g2 g3 g6 ih)
   ·exact .inr ⟨x,b,q,hb,n6 [(178,.G),(183,.z ((g.map Ty.c).length-1)),(185,.z (g.length-1-i)),(186,.i Ty.unit.c),(212,.z (i+1))] qK1 e g1 g2 g3 g6 ih⟩
  | two c u w =>
   have hu:1+u.size+w.size≤S:=hg _ hs
   cases c with
   | false =>
    rcases ih with ih|⟨x,b,q,hb,ih⟩
    ·exact .inl (n6 [(178,.G),(183,.z ((g.map Ty.c).length-1)),(185,.z (g.length-1-i)),(186,.i (Ty.two false u w).c),(212,.z (i+1))] qK1 e g1 g2 g3 g6 ih)
    ·exact .inr ⟨x,b,q,hb,n6 [(178,.G),(183,.z ((g.map Ty.c).length-1)),(185,.z (g.length-1-i)),(186,.i (Ty.two false u w).c),(212,.z (i+1))] qK1 e g1 g2 g3 g6 ih⟩
   | true =>
    have g4:=a80 w t
    cases hs:w.same t<;>rw [hs] at g4
    ·rcases ih with ih|⟨x,b,q,hb,ih⟩
     ·exact .inl (n7 [(178,.G),(183,.z ((g.map Ty.c).length-1)),(185,.z (g.length-1-i)),(186,.i (Ty.two true u w).c),(197,.F),(212,.z (i+1))] qK1 e g1 g2 g3 g4 g6 ih)
     ·exact .inr ⟨x,b,q,hb,n7 [(178,.G),(183,.z ((g.map Ty.c).length-1)),(185,.z (g.length-1-i)),(186,.i (Ty.two true u w).c),(197,.F),(212,.z (i+1))] qK1 e g1 g2 g3 g4 g6 ih⟩
    ·obtain⟨x,b,q,hb,g7⟩:=hk u g a (by omega) hg hl ha
     have g8:=qVm (a:=k+1) (by omega) (by omega)
     exact .inr ⟨.n2 .app (.v i) x,b,⟨⟨by show i<g.length;omega,q.sc⟩,by have:=q.cnt;simp only [Tm.cnt];omega,by have:=q.tsz;simp only [Tm.tsz];omega⟩,hb,x9 [(178,.G),(183,.z ((g.map Ty.c).length-1)),(185,.z (g.length-1-i)),(186,.i (Ty.two true u w).c),(197,.T),(200,.r (Tm.v i).p),(208,.z k),(209,.D L b (.pv x.p)),(211,.r (Tm.n2 .app (.v i) x).p)] ⟨[8],[0,2],3,[0]⟩ e g1 g2 g3 g4 (a51 i) g8 g7 (n78 .app (.v i) x)⟩
theorem qG5 {S:Nat} {g:List Ty} {l:List Ty} (hg:∀ s∈g,s.size≤S) (hl:∀ s∈l,s.size≤S):∀ s∈g++l,s.size≤S:=fun s hs=>by
 rcases List.mem_append.1 hs with h|h
 ·exact hg s h
 ·exact hl s h
theorem qAl (n S:Nat) (h:1≤S):TG n 50 S plusT:=⟨by simp [plusT,Tm.sc],by decide,Nat.le_trans (by decide:plusT.tsz≤1) h⟩
theorem qFa (n S:Nat) (h:1≤S):TG n 50 S subT:=⟨by simp [subT,predT,Tm.sc],by decide,Nat.le_trans (by decide:subT.tsz≤1) h⟩
theorem zFh {L:List Int} (hL:Dk L) {S k:Nat} (hS:3≤S) (hS2:S≤100000) (hk:H28 L S k):H28 L S (k+1):=by
 intro t g a ht hg hl ha
 have hm:=qQc
 have hb:=qQh
 have gs:=qVm (a:=k+1) (by omega) (by omega)
 have etb:tb S (k+1)=3 * tb S k+200:=rfl
 rcases zBm hL (g:=g) (t:=t) (by omega) (num (k+1)) ha with ⟨i,b,hi,hb,h⟩|g0|⟨i0,r0,a0,ha0,g0,g00⟩
 ·exact⟨.v i,b,⟨hi,by simp only [Tm.cnt];omega,Nat.zero_le _⟩,hb,h⟩
 ·obtain⟨w,b,hw,hb1,gw⟩:=nx hL ha (n:=8) (by omega) (by omega)
  rcases w with _|_|_|_|_|_|w
  ·obtain⟨s,c,zs,hc,g1⟩:=a37 hL 0 (by omega) hb1
   have zs:s.size≤1:=zs
   obtain⟨x,d,q1,hd,g2⟩:=hk t (g++[s]) c ht (qG5 hg (by simp;omega)) (by simp;omega) hc
   obtain⟨y,e,q2,he,g3⟩:=hk s g d (by omega) hg (by omega) hd
   have g4:=a41 g [s] (by simp;omega)
   exact⟨.n2 .app (.lam s x) y,e,⟨⟨by have:=q1.sc;simpa [Tm.sc] using this,q2.sc⟩,by have:=q1.cnt;have:=q2.cnt;simp only [Tm.cnt];omega,by have:=q1.tsz;have:=q2.tsz;simp only [Tm.tsz,Ty.size];omega⟩,he,o10 1 [(19,.r (qQl [])),(39,.D L b (.pv (num 0))),(43,.D L c (.pv s.p)),(49,.r (tys (g++[s]))),(52,.z k),(53,.D L d (.pv x.p)),(55,.r (Tm.lam s x).p),(60,.z k),(61,.D L e (.pv y.p)),(63,.r (Tm.n2 .app (.lam s x) y).p)] g0 gw g1 g4 gs g2 (qVv s x) gs g3 (n78 .app (.lam s x) y)⟩
  ·obtain⟨s,c,zs,hc,g1⟩:=a37 hL 0 (by omega) hb1
   have zs:s.size≤1:=zs
   obtain⟨x,d,q1,hd,g2⟩:=hk t g c ht hg (by omega) hc
   obtain⟨y,e,q2,he,g3⟩:=hk s g d (by omega) hg (by omega) hd
   exact⟨.n1 .fst (.n2 .pair x y),e,⟨⟨q1.sc,q2.sc⟩,by have:=q1.cnt;have:=q2.cnt;simp only [Tm.cnt];omega,by have:=q1.tsz;have:=q2.tsz;simp only [Tm.tsz,Ty.size];omega⟩,he,o9 1 [(19,.r (qQl [])),(39,.D L b (.pv (num 1))),(67,.D L c (.pv s.p)),(72,.z k),(73,.D L d (.pv x.p)),(78,.z k),(79,.D L e (.pv y.p)),(81,.r (Tm.n2 .pair x y).p),(83,.r (Tm.n1 .fst (.n2 .pair x y)).p)] g0 gw g1 gs g2 gs g3 (n78 .pair x y) (qG4 .fst (.n2 .pair x y))⟩
  ·obtain⟨x,c,q1,hc,g1⟩:=hk t (g++[.nat,t]) b ht (qG5 hg (by simp [Ty.size];omega)) (by simp;omega) hb1
   obtain⟨y,d,q2,hd,g2⟩:=hk t g c ht hg (by omega) hc
   obtain⟨v,e,hv,he,g3⟩:=nx hL hd (n:=3) (by omega) (by omega)
   have g4:=a41 g [.nat,t] (by simp;omega)
   have g5:=a22 (n:=v) (by omega)
   have qn:TG g.length 4 0 (qJr v):=qWz hv
   exact⟨.n3 .re t y (.lam .nat (.lam t x)) (qJr v),e,⟨⟨q2.sc,by have:=q1.sc;simpa [Tm.sc] using this,qn.sc⟩,by have:=q1.cnt;have:=q2.cnt;have:=qn.cnt;simp only [Tm.cnt];omega,by have:=q1.tsz;have:=q2.tsz;have:=qn.tsz;simp only [Tm.tsz,Ty.size];omega⟩,he,o14 1 [(19,.r (qQl [])),(39,.D L b (.pv (num 2))),(86,.Y),(90,.Y),(93,.r (tys (g++[.nat,t]))),(96,.z k),(97,.D L c (.pv x.p)),(99,.r (Tm.lam t x).p),(101,.r (Tm.lam .nat (.lam t x)).p),(107,.z k),(108,.D L d (.pv y.p)),(111,.D L e (.pv (num v))),(112,.r (qJr v).p),(114,.r (Tm.n3 .re t y (.lam .nat (.lam t x)) (qJr v)).p)] g0 gw a42 a42 g4 gs g1 (qVv t x) (qVv .nat (.lam t x)) gs g2 g3 g5 (qIh .re t y (.lam .nat (.lam t x)) (qJr v))⟩
  ·obtain⟨x,c,q1,hc,g1⟩:=hk t (g++[.nat,.list,t]) b ht (qG5 hg (by simp [Ty.size];omega)) (by simp;omega) hb1
   obtain⟨y,d,q2,hd,g2⟩:=hk t g c ht hg (by omega) hc
   obtain⟨v,e,q3,he,g3⟩:=hk .list g d (by simp only [Ty.size];omega) hg (by omega) hd
   have g4:=a41 g [.nat,.list,t] (by simp;omega)
   exact⟨.n3 .fo t y (.lam .nat (.lam .list (.lam t x))) v,e,⟨⟨q2.sc,by have:=q1.sc;simpa [Tm.sc] using this,q3.sc⟩,by have:=q1.cnt;have:=q2.cnt;have:=q3.cnt;simp only [Tm.cnt];omega,by have:=q1.tsz;have:=q2.tsz;have:=q3.tsz;simp only [Tm.tsz,Ty.size];omega⟩,he,o18 1 [(19,.r (qQl [])),(39,.D L b (.pv (num 3))),(117,.Y),(118,.r Ty.list.p),(122,.Y),(123,.r Ty.list.p),(126,.r (tys (g++[.nat,.list,t]))),(129,.z k),(130,.D L c (.pv x.p)),(132,.r (Tm.lam t x).p),(134,.r (Tm.lam .list (.lam t x)).p),(136,.r (Tm.lam .nat (.lam .list (.lam t x))).p),(142,.z k),(143,.D L d (.pv y.p)),(147,.r Ty.list.p),(149,.z k),(150,.D L e (.pv v.p)),(152,.r (Tm.n3 .fo t y (.lam .nat (.lam .list (.lam t x))) v).p)] g0 gw a42 a57 a42 a57 g4 gs g1 (qVv t x) (qVv .list (.lam t x)) (qVv .nat (.lam .list (.lam t x))) gs g2 a57 gs g3 (qIh .fo t y (.lam .nat (.lam .list (.lam t x))) v)⟩
  ·obtain⟨s,c,zs,hc,g1⟩:=a37 hL 0 (by omega) hb1
   have zs:s.size≤1:=zs
   obtain⟨y,d,q2,hd,g2⟩:=hk s g c (by omega) hg (by omega) hc
   obtain⟨x,e,q1,he,g3⟩:=hk t g d ht hg (by omega) hd
   exact⟨.n1 .snd (.n2 .pair y x),e,⟨⟨q2.sc,q1.sc⟩,by have:=q1.cnt;have:=q2.cnt;simp only [Tm.cnt];omega,by have:=q1.tsz;have:=q2.tsz;simp only [Tm.tsz,Ty.size];omega⟩,he,o9 1 [(19,.r (qQl [])),(39,.D L b (.pv (num 4))),(156,.D L c (.pv s.p)),(161,.z k),(162,.D L d (.pv y.p)),(167,.z k),(168,.D L e (.pv x.p)),(170,.r (Tm.n2 .pair y x).p),(172,.r (Tm.n1 .snd (.n2 .pair y x)).p)] g0 gw g1 gs g2 gs g3 (n78 .pair y x) (qG4 .snd (.n2 .pair y x))⟩
  ·rcases qSj hk t hg (by omega) hb1 g.length 0 (by omega) with gl|⟨x,c,q,hc,gl⟩
   ·have gl:=gl
    cases t with
    | unit=>exact⟨.n0 .unit,b,⟨trivial,by simp only [Tm.cnt];omega,Nat.zero_le _⟩,hb1,o4 1 [(19,.r (qQl [])),(39,.D L b (.pv (num 5))),(100023,.l qK1 (.exit 1) (e28 L g .unit k b)),(337,.r (Tm.n0 .unit).p)] g0 gw gl qDi⟩
    | nat =>
     obtain⟨m,c,hm1,hc,gm⟩:=nx hL hb1 (n:=5) (by omega) (by omega)
     obtain⟨x,d,q1,hd,g1⟩:=hk .nat g c ht hg (by omega) hc
     obtain⟨y,e,q2,he,g2⟩:=hk .nat g d ht hg (by omega) hd
     rcases m with _|_|_|m
     ·exact⟨.n1 .succ x,d,⟨q1.sc,by have:=q1.cnt;simp only [Tm.cnt];omega,by have:=q1.tsz;simp only [Tm.tsz,Ty.size];omega⟩,hd,o7 1 [(19,.r (qQl [])),(39,.D L b (.pv (num 5))),(100023,.l qK1 (.exit 1) (e28 L g .nat k b)),(220,.D L c (.pv (num 0))),(227,.z k),(228,.D L d (.pv x.p)),(230,.r (Tm.n1 .succ x).p)] g0 gw gl gm gs g1 (qG4 .succ x)⟩
     ·have qT:=qAl g.length S (by omega)
      exact⟨.n2 .app (.n2 .app plusT x) y,e,⟨⟨⟨qT.sc,q1.sc⟩,q2.sc⟩,by have:=q1.cnt;have:=q2.cnt;have:=qT.cnt;simp only [Tm.cnt];omega,by have:=q1.tsz;have:=q2.tsz;have:=qT.tsz;simp only [Tm.tsz,Ty.size];omega⟩,he,o10 1 [(19,.r (qQl [])),(39,.D L b (.pv (num 5))),(100023,.l qK1 (.exit 1) (e28 L g .nat k b)),(220,.D L c (.pv (num 1))),(233,.r plusT.p),(238,.z k),(239,.D L d (.pv x.p)),(244,.z k),(245,.D L e (.pv y.p)),(247,.r (Tm.n2 .app (.n2 .app plusT x) y).p)] g0 gw gl gm a82 gs g1 gs g2 (qE9 plusT x y)⟩
     ·have qT:=qFa g.length S (by omega)
      exact⟨.n2 .app (.n2 .app subT x) y,e,⟨⟨⟨qT.sc,q1.sc⟩,q2.sc⟩,by have:=q1.cnt;have:=q2.cnt;have:=qT.cnt;simp only [Tm.cnt];omega,by have:=q1.tsz;have:=q2.tsz;have:=qT.tsz;simp only [Tm.tsz,Ty.size];omega⟩,he,o10 1 [(19,.r (qQl [])),(39,.D L b (.pv (num 5))),(100023,.l qK1 (.exit 1) (e28 L g .nat k b)),(220,.D L c (.pv (num 2))),(250,.r subT.p),(255,.z k),(256,.D L d (.pv x.p)),(261,.z k),(262,.D L e (.pv y.p)),(264,.r (Tm.n2 .app (.n2 .app subT x) y).p)] g0 gw gl gm a83 gs g1 gs g2 (qE9 subT x y)⟩
     ·obtain⟨v,d,hv,hd,gv⟩:=nx hL hc (n:=3) (by omega) (by omega)
      have gn:=a22 (n:=v) (by omega)
      exact⟨qJr v,d,(qWz hv).mono (by omega) (Nat.zero_le _),hd,o6 1 [(19,.r (qQl [])),(39,.D L b (.pv (num 5))),(100023,.l qK1 (.exit 1) (e28 L g .nat k b)),(220,.D L c (.pv (num (m+3)))),(266,.D L d (.pv (num v))),(267,.r (qJr v).p)] g0 gw gl gm gv gn⟩
    | list =>
     obtain⟨m,c,hm1,hc,gm⟩:=nx hL hb1 (n:=2) (by omega) (by omega)
     cases m with
     | zero =>
      obtain⟨x,d,q1,hd,g1⟩:=hk .nat g c (by simp only [Ty.size];omega) hg (by omega) hc
      obtain⟨y,e,q2,he,g2⟩:=hk .list g d ht hg (by omega) hd
      exact⟨.n2 .cons x y,e,⟨⟨q1.sc,q2.sc⟩,by have:=q1.cnt;have:=q2.cnt;simp only [Tm.cnt];omega,by have:=q1.tsz;have:=q2.tsz;simp only [Tm.tsz,Ty.size];omega⟩,he,o10 1 [(19,.r (qQl [])),(39,.D L b (.pv (num 5))),(100023,.l qK1 (.exit 1) (e28 L g .list k b)),(274,.D L c (.pv (num 0))),(279,.Y),(281,.z k),(282,.D L d (.pv x.p)),(287,.z k),(288,.D L e (.pv y.p)),(290,.r (Tm.n2 .cons x y).p)] g0 gw gl gm a42 gs g1 gs g2 (n78 .cons x y)⟩
     | succ m=>exact⟨.n0 .nil,c,⟨trivial,by simp only [Tm.cnt];omega,Nat.zero_le _⟩,hc,o5 1 [(19,.r (qQl [])),(39,.D L b (.pv (num 5))),(100023,.l qK1 (.exit 1) (e28 L g .list k b)),(274,.D L c (.pv (num (m+1)))),(291,.r (Tm.n0 .nil).p)] g0 gw gl gm qNs⟩
    | two j s u =>
     have ht:1+s.size+u.size≤S:=ht
     cases j with
     | false =>
      obtain⟨x,d,q1,hd,g1⟩:=hk s g b (by omega) hg (by omega) hb1
      obtain⟨y,e,q2,he,g2⟩:=hk u g d (by omega) hg (by omega) hd
      exact⟨.n2 .pair x y,e,⟨⟨q1.sc,q2.sc⟩,by have:=q1.cnt;have:=q2.cnt;simp only [Tm.cnt];omega,by have:=q1.tsz;have:=q2.tsz;simp only [Tm.tsz,Ty.size];omega⟩,he,o8 1 [(19,.r (qQl [])),(39,.D L b (.pv (num 5))),(100023,.l qK1 (.exit 1) (e28 L g (.two false s u) k b)),(301,.z k),(302,.D L d (.pv x.p)),(310,.z k),(311,.D L e (.pv y.p)),(313,.r (Tm.n2 .pair x y).p)] g0 gw gl gs g1 gs g2 (n78 .pair x y)⟩
     | true =>
      obtain⟨x,d,q1,hd,g1⟩:=hk u (g++[s]) b (by omega) (qG5 hg (by simp;omega)) (by simp;omega) hb1
      have g2:=a41 g [s] (by simp;omega)
      exact⟨.lam s x,d,⟨(by have:=q1.sc;simpa [Tm.sc] using this),by have:=q1.cnt;simp only [Tm.cnt];omega,by have:=q1.tsz;simp only [Tm.tsz,Ty.size];omega⟩,hd,o7 1 [(19,.r (qQl [])),(39,.D L b (.pv (num 5))),(100023,.l qK1 (.exit 1) (e28 L g (.two true s u) k b)),(327,.r (tys (g++[s]))),(333,.z k),(334,.D L d (.pv x.p)),(336,.r (Tm.lam s x).p)] g0 gw gl g2 gs g1 (qVv s x)⟩
   ·exact⟨x,c,q.mono (by omega) (Nat.le_refl _),hc,o3 1 [(19,.r (qQl [])),(39,.D L b (.pv (num 5))),(100023,.l qK1 .ret (st [(8,.loc 2 0)] [(0,dk L c),(2,bx x.c)] 3 [0]))] g0 gw gl⟩
  ·have hw:=hw
   cases t with
   | unit=>exact⟨.n0 .unit,b,⟨trivial,by simp only [Tm.cnt];omega,Nat.zero_le _⟩,hb1,o3 1 [(19,.r (qQl [])),(39,.D L b (.pv (num (w+6)))),(337,.r (Tm.n0 .unit).p)] g0 gw qDi⟩
   | nat =>
    obtain⟨m,c,hm1,hc,gm⟩:=nx hL hb1 (n:=5) (by omega) (by omega)
    obtain⟨x,d,q1,hd,g1⟩:=hk .nat g c ht hg (by omega) hc
    obtain⟨y,e,q2,he,g2⟩:=hk .nat g d ht hg (by omega) hd
    rcases m with _|_|_|m
    ·exact⟨.n1 .succ x,d,⟨q1.sc,by have:=q1.cnt;simp only [Tm.cnt];omega,by have:=q1.tsz;simp only [Tm.tsz,Ty.size];omega⟩,hd,o6 1 [(19,.r (qQl [])),(39,.D L b (.pv (num (w+6)))),(220,.D L c (.pv (num 0))),(227,.z k),(228,.D L d (.pv x.p)),(230,.r (Tm.n1 .succ x).p)] g0 gw gm gs g1 (qG4 .succ x)⟩
    ·have qT:=qAl g.length S (by omega)
     exact⟨.n2 .app (.n2 .app plusT x) y,e,⟨⟨⟨qT.sc,q1.sc⟩,q2.sc⟩,by have:=q1.cnt;have:=q2.cnt;have:=qT.cnt;simp only [Tm.cnt];omega,by have:=q1.tsz;have:=q2.tsz;have:=qT.tsz;simp only [Tm.tsz,Ty.size];omega⟩,he,o9 1 [(19,.r (qQl [])),(39,.D L b (.pv (num (w+6)))),(220,.D L c (.pv (num 1))),(233,.r plusT.p),(238,.z k),(239,.D L d (.pv x.p)),(244,.z k),(245,.D L e (.pv y.p)),(247,.r (Tm.n2 .app (.n2 .app plusT x) y).p)] g0 gw gm a82 gs g1 gs g2 (qE9 plusT x y)⟩
    ·have qT:=qFa g.length S (by omega)
     exact⟨.n2 .app (.n2 .app subT x) y,e,⟨⟨⟨qT.sc,q1.sc⟩,q2.sc⟩,by have:=q1.cnt;have:=q2.cnt;have:=qT.cnt;simp only [Tm.cnt];omega,by have:=q1.tsz;have:=q2.tsz;have:=qT.tsz;simp only [Tm.tsz,Ty.size];omega⟩,he,o9 1 [(19,.r (qQl [])),(39,.D L b (.pv (num (w+6)))),(220,.D L c (.pv (num 2))),(250,.r subT.p),(255,.z k),(256,.D L d (.pv x.p)),(261,.z k),(262,.D L e (.pv y.p)),(264,.r (Tm.n2 .app (.n2 .app subT x) y).p)] g0 gw gm a83 gs g1 gs g2 (qE9 subT x y)⟩
    ·obtain⟨v,d,hv,hd,gv⟩:=nx hL hc (n:=3) (by omega) (by omega)
     have gn:=a22 (n:=v) (by omega)
     exact⟨qJr v,d,(qWz hv).mono (by omega) (Nat.zero_le _),hd,o5 1 [(19,.r (qQl [])),(39,.D L b (.pv (num (w+6)))),(220,.D L c (.pv (num (m+3)))),(266,.D L d (.pv (num v))),(267,.r (qJr v).p)] g0 gw gm gv gn⟩
   | list =>
    obtain⟨m,c,hm1,hc,gm⟩:=nx hL hb1 (n:=2) (by omega) (by omega)
    cases m with
    | zero =>
     obtain⟨x,d,q1,hd,g1⟩:=hk .nat g c (by simp only [Ty.size];omega) hg (by omega) hc
     obtain⟨y,e,q2,he,g2⟩:=hk .list g d ht hg (by omega) hd
     exact⟨.n2 .cons x y,e,⟨⟨q1.sc,q2.sc⟩,by have:=q1.cnt;have:=q2.cnt;simp only [Tm.cnt];omega,by have:=q1.tsz;have:=q2.tsz;simp only [Tm.tsz,Ty.size];omega⟩,he,o9 1 [(19,.r (qQl [])),(39,.D L b (.pv (num (w+6)))),(274,.D L c (.pv (num 0))),(279,.Y),(281,.z k),(282,.D L d (.pv x.p)),(287,.z k),(288,.D L e (.pv y.p)),(290,.r (Tm.n2 .cons x y).p)] g0 gw gm a42 gs g1 gs g2 (n78 .cons x y)⟩
    | succ m=>exact⟨.n0 .nil,c,⟨trivial,by simp only [Tm.cnt];omega,Nat.zero_le _⟩,hc,o4 1 [(19,.r (qQl [])),(39,.D L b (.pv (num (w+6)))),(274,.D L c (.pv (num (m+1)))),(291,.r (Tm.n0 .nil).p)] g0 gw gm qNs⟩
   | two j s u =>
    have ht:1+s.size+u.size≤S:=ht
    cases j with
    | false =>
     obtain⟨x,d,q1,hd,g1⟩:=hk s g b (by omega) hg (by omega) hb1
     obtain⟨y,e,q2,he,g2⟩:=hk u g d (by omega) hg (by omega) hd
     exact⟨.n2 .pair x y,e,⟨⟨q1.sc,q2.sc⟩,by have:=q1.cnt;have:=q2.cnt;simp only [Tm.cnt];omega,by have:=q1.tsz;have:=q2.tsz;simp only [Tm.tsz,Ty.size];omega⟩,he,o7 1 [(19,.r (qQl [])),(39,.D L b (.pv (num (w+6)))),(301,.z k),(302,.D L d (.pv x.p)),(310,.z k),(311,.D L e (.pv y.p)),(313,.r (Tm.n2 .pair x y).p)] g0 gw gs g1 gs g2 (n78 .pair x y)⟩
    | true =>
     obtain⟨x,d,q1,hd,g1⟩:=hk u (g++[s]) b (by omega) (qG5 hg (by simp;omega)) (by simp;omega) hb1
     have g2:=a41 g [s] (by simp;omega)
     exact⟨.lam s x,d,⟨(by have:=q1.sc;simpa [Tm.sc] using this),by have:=q1.cnt;simp only [Tm.cnt];omega,by have:=q1.tsz;simp only [Tm.tsz,Ty.size];omega⟩,hd,o6 1 [(19,.r (qQl [])),(39,.D L b (.pv (num (w+6)))),(327,.r (tys (g++[s]))),(333,.z k),(334,.D L d (.pv x.p)),(336,.r (Tm.lam s x).p)] g0 gw g2 gs g1 (qVv s x)⟩
 ·obtain⟨w,b,hw,hb1,gw⟩:=nx hL ha0 (n:=8) (by omega) (by omega)
  rcases w with _|_|_|_|_|_|w
  ·obtain⟨s,c,zs,hc,g1⟩:=a37 hL 0 (by omega) hb1
   have zs:s.size≤1:=zs
   obtain⟨x,d,q1,hd,g2⟩:=hk t (g++[s]) c ht (qG5 hg (by simp;omega)) (by simp;omega) hc
   obtain⟨y,e,q2,he,g3⟩:=hk s g d (by omega) hg (by omega) hd
   have g4:=a41 g [s] (by simp;omega)
   exact⟨.n2 .app (.lam s x) y,e,⟨⟨by have:=q1.sc;simpa [Tm.sc] using this,q2.sc⟩,by have:=q1.cnt;have:=q2.cnt;simp only [Tm.cnt];omega,by have:=q1.tsz;have:=q2.tsz;simp only [Tm.tsz,Ty.size];omega⟩,he,o11 1 [(19,.r (qQl (i0::r0))),(25,.D L a0 (.pv (num 0))),(39,.D L b (.pv (num 0))),(43,.D L c (.pv s.p)),(49,.r (tys (g++[s]))),(52,.z k),(53,.D L d (.pv x.p)),(55,.r (Tm.lam s x).p),(60,.z k),(61,.D L e (.pv y.p)),(63,.r (Tm.n2 .app (.lam s x) y).p)] g0 g00 gw g1 g4 gs g2 (qVv s x) gs g3 (n78 .app (.lam s x) y)⟩
  ·obtain⟨s,c,zs,hc,g1⟩:=a37 hL 0 (by omega) hb1
   have zs:s.size≤1:=zs
   obtain⟨x,d,q1,hd,g2⟩:=hk t g c ht hg (by omega) hc
   obtain⟨y,e,q2,he,g3⟩:=hk s g d (by omega) hg (by omega) hd
   exact⟨.n1 .fst (.n2 .pair x y),e,⟨⟨q1.sc,q2.sc⟩,by have:=q1.cnt;have:=q2.cnt;simp only [Tm.cnt];omega,by have:=q1.tsz;have:=q2.tsz;simp only [Tm.tsz,Ty.size];omega⟩,he,o10 1 [(19,.r (qQl (i0::r0))),(25,.D L a0 (.pv (num 0))),(39,.D L b (.pv (num 1))),(67,.D L c (.pv s.p)),(72,.z k),(73,.D L d (.pv x.p)),(78,.z k),(79,.D L e (.pv y.p)),(81,.r (Tm.n2 .pair x y).p),(83,.r (Tm.n1 .fst (.n2 .pair x y)).p)] g0 g00 gw g1 gs g2 gs g3 (n78 .pair x y) (qG4 .fst (.n2 .pair x y))⟩
  ·obtain⟨x,c,q1,hc,g1⟩:=hk t (g++[.nat,t]) b ht (qG5 hg (by simp [Ty.size];omega)) (by simp;omega) hb1
   obtain⟨y,d,q2,hd,g2⟩:=hk t g c ht hg (by omega) hc
   obtain⟨v,e,hv,he,g3⟩:=nx hL hd (n:=3) (by omega) (by omega)
   have g4:=a41 g [.nat,t] (by simp;omega)
   have g5:=a22 (n:=v) (by omega)
   have qn:TG g.length 4 0 (qJr v):=qWz hv
   exact⟨.n3 .re t y (.lam .nat (.lam t x)) (qJr v),e,⟨⟨q2.sc,by have:=q1.sc;simpa [Tm.sc] using this,qn.sc⟩,by have:=q1.cnt;have:=q2.cnt;have:=qn.cnt;simp only [Tm.cnt];omega,by have:=q1.tsz;have:=q2.tsz;have:=qn.tsz;simp only [Tm.tsz,Ty.size];omega⟩,he,o15 1 [(19,.r (qQl (i0::r0))),(25,.D L a0 (.pv (num 0))),(39,.D L b (.pv (num 2))),(86,.Y),(90,.Y),(93,.r (tys (g++[.nat,t]))),(96,.z k),(97,.D L c (.pv x.p)),(99,.r (Tm.lam t x).p),(101,.r (Tm.lam .nat (.lam t x)).p),(107,.z k),(108,.D L d (.pv y.p)),(111,.D L e (.pv (num v))),(112,.r (qJr v).p),(114,.r (Tm.n3 .re t y (.lam .nat (.lam t x)) (qJr v)).p)] g0 g00 gw a42 a42 g4 gs g1 (qVv t x) (qVv .nat (.lam t x)) gs g2 g3 g5 (qIh .re t y (.lam .nat (.lam t x)) (qJr v))⟩
  ·obtain⟨x,c,q1,hc,g1⟩:=hk t (g++[.nat,.list,t]) b ht (qG5 hg (by simp [Ty.size];omega)) (by simp;omega) hb1
   obtain⟨y,d,q2,hd,g2⟩:=hk t g c ht hg (by omega) hc
   obtain⟨v,e,q3,he,g3⟩:=hk .list g d (by simp only [Ty.size];omega) hg (by omega) hd
   have g4:=a41 g [.nat,.list,t] (by simp;omega)
   exact⟨.n3 .fo t y (.lam .nat (.lam .list (.lam t x))) v,e,⟨⟨q2.sc,by have:=q1.sc;simpa [Tm.sc] using this,q3.sc⟩,by have:=q1.cnt;have:=q2.cnt;have:=q3.cnt;simp only [Tm.cnt];omega,by have:=q1.tsz;have:=q2.tsz;have:=q3.tsz;simp only [Tm.tsz,Ty.size];omega⟩,he,o19 1 [(19,.r (qQl (i0::r0))),(25,.D L a0 (.pv (num 0))),(39,.D L b (.pv (num 3))),(117,.Y),(118,.r Ty.list.p),(122,.Y),(123,.r Ty.list.p),(126,.r (tys (g++[.nat,.list,t]))),(129,.z k),(130,.D L c (.pv x.p)),(132,.r (Tm.lam t x).p),(134,.r (Tm.lam .list (.lam t x)).p),(136,.r (Tm.lam .nat (.lam .list (.lam t x))).p),(142,.z k),(143,.D L d (.pv y.p)),(147,.r Ty.list.p),(149,.z k),(150,.D L e (.pv v.p)),(152,.r (Tm.n3 .fo t y (.lam .nat (.lam .list (.lam t x))) v).p)] g0 g00 gw a42 a57 a42 a57 g4 gs g1 (qVv t x) (qVv .list (.lam t x)) (qVv .nat (.lam .list (.lam t x))) gs g2 a57 gs g3 (qIh .fo t y (.lam .nat (.lam .list (.lam t x))) v)⟩
  ·obtain⟨s,c,zs,hc,g1⟩:=a37 hL 0 (by omega) hb1
   have zs:s.size≤1:=zs
   obtain⟨y,d,q2,hd,g2⟩:=hk s g c (by omega) hg (by omega) hc
   obtain⟨x,e,q1,he,g3⟩:=hk t g d ht hg (by omega) hd
   exact⟨.n1 .snd (.n2 .pair y x),e,⟨⟨q2.sc,q1.sc⟩,by have:=q1.cnt;have:=q2.cnt;simp only [Tm.cnt];omega,by have:=q1.tsz;have:=q2.tsz;simp only [Tm.tsz,Ty.size];omega⟩,he,o10 1 [(19,.r (qQl (i0::r0))),(25,.D L a0 (.pv (num 0))),(39,.D L b (.pv (num 4))),(156,.D L c (.pv s.p)),(161,.z k),(162,.D L d (.pv y.p)),(167,.z k),(168,.D L e (.pv x.p)),(170,.r (Tm.n2 .pair y x).p),(172,.r (Tm.n1 .snd (.n2 .pair y x)).p)] g0 g00 gw g1 gs g2 gs g3 (n78 .pair y x) (qG4 .snd (.n2 .pair y x))⟩
  ·rcases qSj hk t hg (by omega) hb1 g.length 0 (by omega) with gl|⟨x,c,q,hc,gl⟩
   ·have gl:=gl
    cases t with
    | unit=>exact⟨.n0 .unit,b,⟨trivial,by simp only [Tm.cnt];omega,Nat.zero_le _⟩,hb1,o5 1 [(19,.r (qQl (i0::r0))),(25,.D L a0 (.pv (num 0))),(39,.D L b (.pv (num 5))),(100023,.l qK1 (.exit 1) (e28 L g .unit k b)),(337,.r (Tm.n0 .unit).p)] g0 g00 gw gl qDi⟩
    | nat =>
     obtain⟨m,c,hm1,hc,gm⟩:=nx hL hb1 (n:=5) (by omega) (by omega)
     obtain⟨x,d,q1,hd,g1⟩:=hk .nat g c ht hg (by omega) hc
     obtain⟨y,e,q2,he,g2⟩:=hk .nat g d ht hg (by omega) hd
     rcases m with _|_|_|m
     ·exact⟨.n1 .succ x,d,⟨q1.sc,by have:=q1.cnt;simp only [Tm.cnt];omega,by have:=q1.tsz;simp only [Tm.tsz,Ty.size];omega⟩,hd,o8 1 [(19,.r (qQl (i0::r0))),(25,.D L a0 (.pv (num 0))),(39,.D L b (.pv (num 5))),(100023,.l qK1 (.exit 1) (e28 L g .nat k b)),(220,.D L c (.pv (num 0))),(227,.z k),(228,.D L d (.pv x.p)),(230,.r (Tm.n1 .succ x).p)] g0 g00 gw gl gm gs g1 (qG4 .succ x)⟩
     ·have qT:=qAl g.length S (by omega)
      exact⟨.n2 .app (.n2 .app plusT x) y,e,⟨⟨⟨qT.sc,q1.sc⟩,q2.sc⟩,by have:=q1.cnt;have:=q2.cnt;have:=qT.cnt;simp only [Tm.cnt];omega,by have:=q1.tsz;have:=q2.tsz;have:=qT.tsz;simp only [Tm.tsz,Ty.size];omega⟩,he,o11 1 [(19,.r (qQl (i0::r0))),(25,.D L a0 (.pv (num 0))),(39,.D L b (.pv (num 5))),(100023,.l qK1 (.exit 1) (e28 L g .nat k b)),(220,.D L c (.pv (num 1))),(233,.r plusT.p),(238,.z k),(239,.D L d (.pv x.p)),(244,.z k),(245,.D L e (.pv y.p)),(247,.r (Tm.n2 .app (.n2 .app plusT x) y).p)] g0 g00 gw gl gm a82 gs g1 gs g2 (qE9 plusT x y)⟩
     ·have qT:=qFa g.length S (by omega)
      exact⟨.n2 .app (.n2 .app subT x) y,e,⟨⟨⟨qT.sc,q1.sc⟩,q2.sc⟩,by have:=q1.cnt;have:=q2.cnt;have:=qT.cnt;simp only [Tm.cnt];omega,by have:=q1.tsz;have:=q2.tsz;have:=qT.tsz;simp only [Tm.tsz,Ty.size];omega⟩,he,o11 1 [(19,.r (qQl (i0::r0))),(25,.D L a0 (.pv (num 0))),(39,.D L b (.pv (num 5))),(100023,.l qK1 (.exit 1) (e28 L g .nat k b)),(220,.D L c (.pv (num 2))),(250,.r subT.p),(255,.z k),(256,.D L d (.pv x.p)),(261,.z k),(262,.D L e (.pv y.p)),(264,.r (Tm.n2 .app (.n2 .app subT x) y).p)] g0 g00 gw gl gm a83 gs g1 gs g2 (qE9 subT x y)⟩
     ·obtain⟨v,d,hv,hd,gv⟩:=nx hL hc (n:=3) (by omega) (by omega)
      have gn:=a22 (n:=v) (by omega)
      exact⟨qJr v,d,(qWz hv).mono (by omega) (Nat.zero_le _),hd,o7 1 [(19,.r (qQl (i0::r0))),(25,.D L a0 (.pv (num 0))),(39,.D L b (.pv (num 5))),(100023,.l qK1 (.exit 1) (e28 L g .nat k b)),(220,.D L c (.pv (num (m+3)))),(266,.D L d (.pv (num v))),(267,.r (qJr v).p)] g0 g00 gw gl gm gv gn⟩
    | list =>
     obtain⟨m,c,hm1,hc,gm⟩:=nx hL hb1 (n:=2) (by omega) (by omega)
     cases m with
     | zero =>
      obtain⟨x,d,q1,hd,g1⟩:=hk .nat g c (by simp only [Ty.size];omega) hg (by omega) hc
      obtain⟨y,e,q2,he,g2⟩:=hk .list g d ht hg (by omega) hd
      exact⟨.n2 .cons x y,e,⟨⟨q1.sc,q2.sc⟩,by have:=q1.cnt;have:=q2.cnt;simp only [Tm.cnt];omega,by have:=q1.tsz;have:=q2.tsz;simp only [Tm.tsz,Ty.size];omega⟩,he,o11 1 [(19,.r (qQl (i0::r0))),(25,.D L a0 (.pv (num 0))),(39,.D L b (.pv (num 5))),(100023,.l qK1 (.exit 1) (e28 L g .list k b)),(274,.D L c (.pv (num 0))),(279,.Y),(281,.z k),(282,.D L d (.pv x.p)),(287,.z k),(288,.D L e (.pv y.p)),(290,.r (Tm.n2 .cons x y).p)] g0 g00 gw gl gm a42 gs g1 gs g2 (n78 .cons x y)⟩
     | succ m=>exact⟨.n0 .nil,c,⟨trivial,by simp only [Tm.cnt];omega,Nat.zero_le _⟩,hc,o6 1 [(19,.r (qQl (i0::r0))),(25,.D L a0 (.pv (num 0))),(39,.D L b (.pv (num 5))),(100023,.l qK1 (.exit 1) (e28 L g .list k b)),(274,.D L c (.pv (num (m+1)))),(291,.r (Tm.n0 .nil).p)] g0 g00 gw gl gm qNs⟩
    | two j s u =>
     have ht:1+s.size+u.size≤S:=ht
     cases j with
     | false =>
      obtain⟨x,d,q1,hd,g1⟩:=hk s g b (by omega) hg (by omega) hb1
      obtain⟨y,e,q2,he,g2⟩:=hk u g d (by omega) hg (by omega) hd
      exact⟨.n2 .pair x y,e,⟨⟨q1.sc,q2.sc⟩,by have:=q1.cnt;have:=q2.cnt;simp only [Tm.cnt];omega,by have:=q1.tsz;have:=q2.tsz;simp only [Tm.tsz,Ty.size];omega⟩,he,o9 1 [(19,.r (qQl (i0::r0))),(25,.D L a0 (.pv (num 0))),(39,.D L b (.pv (num 5))),(100023,.l qK1 (.exit 1) (e28 L g (.two false s u) k b)),(301,.z k),(302,.D L d (.pv x.p)),(310,.z k),(311,.D L e (.pv y.p)),(313,.r (Tm.n2 .pair x y).p)] g0 g00 gw gl gs g1 gs g2 (n78 .pair x y)⟩
     | true =>
      obtain⟨x,d,q1,hd,g1⟩:=hk u (g++[s]) b (by omega) (qG5 hg (by simp;omega)) (by simp;omega) hb1
      have g2:=a41 g [s] (by simp;omega)
      exact⟨.lam s x,d,⟨(by have:=q1.sc;simpa [Tm.sc] using this),by have:=q1.cnt;simp only [Tm.cnt];omega,by have:=q1.tsz;simp only [Tm.tsz,Ty.size];omega⟩,hd,o8 1 [(19,.r (qQl (i0::r0))),(25,.D L a0 (.pv (num 0))),(39,.D L b (.pv (num 5))),(100023,.l qK1 (.exit 1) (e28 L g (.two true s u) k b)),(327,.r (tys (g++[s]))),(333,.z k),(334,.D L d (.pv x.p)),(336,.r (Tm.lam s x).p)] g0 g00 gw gl g2 gs g1 (qVv s x)⟩
   ·exact⟨x,c,q.mono (by omega) (Nat.le_refl _),hc,o4 1 [(19,.r (qQl (i0::r0))),(25,.D L a0 (.pv (num 0))),(39,.D L b (.pv (num 5))),(100023,.l qK1 .ret (st [(8,.loc 2 0)] [(0,dk L c),(2,bx x.c)] 3 [0]))] g0 g00 gw gl⟩
  ·have hw:=hw
   cases t with
   | unit=>exact⟨.n0 .unit,b,⟨trivial,by simp only [Tm.cnt];omega,Nat.zero_le _⟩,hb1,o4 1 [(19,.r (qQl (i0::r0))),(25,.D L a0 (.pv (num 0))),(39,.D L b (.pv (num (w+6)))),(337,.r (Tm.n0 .unit).p)] g0 g00 gw qDi⟩
   | nat =>
    obtain⟨m,c,hm1,hc,gm⟩:=nx hL hb1 (n:=5) (by omega) (by omega)
    obtain⟨x,d,q1,hd,g1⟩:=hk .nat g c ht hg (by omega) hc
    obtain⟨y,e,q2,he,g2⟩:=hk .nat g d ht hg (by omega) hd
    rcases m with _|_|_|m
    ·exact⟨.n1 .succ x,d,⟨q1.sc,by have:=q1.cnt;simp only [Tm.cnt];omega,by have:=q1.tsz;simp only [Tm.tsz,Ty.size];omega⟩,hd,o7 1 [(19,.r (qQl (i0::r0))),(25,.D L a0 (.pv (num 0))),(39,.D L b (.pv (num (w+6)))),(220,.D L c (.pv (num 0))),(227,.z k),(228,.D L d (.pv x.p)),(230,.r (Tm.n1 .succ x).p)] g0 g00 gw gm gs g1 (qG4 .succ x)⟩
    ·have qT:=qAl g.length S (by omega)
     exact⟨.n2 .app (.n2 .app plusT x) y,e,⟨⟨⟨qT.sc,q1.sc⟩,q2.sc⟩,by have:=q1.cnt;have:=q2.cnt;have:=qT.cnt;simp only [Tm.cnt];omega,by have:=q1.tsz;have:=q2.tsz;have:=qT.tsz;simp only [Tm.tsz,Ty.size];omega⟩,he,o10 1 [(19,.r (qQl (i0::r0))),(25,.D L a0 (.pv (num 0))),(39,.D L b (.pv (num (w+6)))),(220,.D L c (.pv (num 1))),(233,.r plusT.p),(238,.z k),(239,.D L d (.pv x.p)),(244,.z k),(245,.D L e (.pv y.p)),(247,.r (Tm.n2 .app (.n2 .app plusT x) y).p)] g0 g00 gw gm a82 gs g1 gs g2 (qE9 plusT x y)⟩
    ·have qT:=qFa g.length S (by omega)
     exact⟨.n2 .app (.n2 .app subT x) y,e,⟨⟨⟨qT.sc,q1.sc⟩,q2.sc⟩,by have:=q1.cnt;have:=q2.cnt;have:=qT.cnt;simp only [Tm.cnt];omega,by have:=q1.tsz;have:=q2.tsz;have:=qT.tsz;simp only [Tm.tsz,Ty.size];omega⟩,he,o10 1 [(19,.r (qQl (i0::r0))),(25,.D L a0 (.pv (num 0))),(39,.D L b (.pv (num (w+6)))),(220,.D L c (.pv (num 2))),(250,.r subT.p),(255,.z k),(256,.D L d (.pv x.p)),(261,.z k),(262,.D L e (.pv y.p)),(264,.r (Tm.n2 .app (.n2 .app subT x) y).p)] g0 g00 gw gm a83 gs g1 gs g2 (qE9 subT x y)⟩
    ·obtain⟨v,d,hv,hd,gv⟩:=nx hL hc (n:=3) (by omega) (by omega)
     have gn:=a22 (n:=v) (by omega)
     exact⟨qJr v,d,(qWz hv).mono (by omega) (Nat.zero_le _),hd,o6 1 [(19,.r (qQl (i0::r0))),(25,.D L a0 (.pv (num 0))),(39,.D L b (.pv (num (w+6)))),(220,.D L c (.pv (num (m+3)))),(266,.D L d (.pv (num v))),(267,.r (qJr v).p)] g0 g00 gw gm gv gn⟩
   | list =>
    obtain⟨m,c,hm1,hc,gm⟩:=nx hL hb1 (n:=2) (by omega) (by omega)
    cases m with
    | zero =>
     obtain⟨x,d,q1,hd,g1⟩:=hk .nat g c (by simp only [Ty.size];omega) hg (by omega) hc
     obtain⟨y,e,q2,he,g2⟩:=hk .list g d ht hg (by omega) hd
     exact⟨.n2 .cons x y,e,⟨⟨q1.sc,q2.sc⟩,by have:=q1.cnt;have:=q2.cnt;simp only [Tm.cnt];omega,by have:=q1.tsz;have:=q2.tsz;simp only [Tm.tsz,Ty.size];omega⟩,he,o10 1 [(19,.r (qQl (i0::r0))),(25,.D L a0 (.pv (num 0))),(39,.D L b (.pv (num (w+6)))),(274,.D L c (.pv (num 0))),(279,.Y),(281,.z k),(282,.D L d (.pv x.p)),(287,.z k),(288,.D L e (.pv y.p)),(290,.r (Tm.n2 .cons x y).p)] g0 g00 gw gm a42 gs g1 gs g2 (n78 .cons x y)⟩
    | succ m=>exact⟨.n0 .nil,c,⟨trivial,by simp only [Tm.cnt];omega,Nat.zero_le _⟩,hc,o5 1 [(19,.r (qQl (i0::r0))),(25,.D L a0 (.pv (num 0))),(39,.D L b (.pv (num (w+6)))),(274,.D L c (.pv (num (m+1)))),(291,.r (Tm.n0 .nil).p)] g0 g00 gw gm qNs⟩
   | two j s u =>
    have ht:1+s.size+u.size≤S:=ht
    cases j with
    | false =>
     obtain⟨x,d,q1,hd,g1⟩:=hk s g b (by omega) hg (by omega) hb1
     obtain⟨y,e,q2,he,g2⟩:=hk u g d (by omega) hg (by omega) hd
     exact⟨.n2 .pair x y,e,⟨⟨q1.sc,q2.sc⟩,by have:=q1.cnt;have:=q2.cnt;simp only [Tm.cnt];omega,by have:=q1.tsz;have:=q2.tsz;simp only [Tm.tsz,Ty.size];omega⟩,he,o8 1 [(19,.r (qQl (i0::r0))),(25,.D L a0 (.pv (num 0))),(39,.D L b (.pv (num (w+6)))),(301,.z k),(302,.D L d (.pv x.p)),(310,.z k),(311,.D L e (.pv y.p)),(313,.r (Tm.n2 .pair x y).p)] g0 g00 gw gs g1 gs g2 (n78 .pair x y)⟩
    | true =>
     obtain⟨x,d,q1,hd,g1⟩:=hk u (g++[s]) b (by omega) (qG5 hg (by simp;omega)) (by simp;omega) hb1
     have g2:=a41 g [s] (by simp;omega)
     exact⟨.lam s x,d,⟨(by have:=q1.sc;simpa [Tm.sc] using this),by have:=q1.cnt;simp only [Tm.cnt];omega,by have:=q1.tsz;simp only [Tm.tsz,Ty.size];omega⟩,hd,o7 1 [(19,.r (qQl (i0::r0))),(25,.D L a0 (.pv (num 0))),(39,.D L b (.pv (num (w+6)))),(327,.r (tys (g++[s]))),(333,.z k),(334,.D L d (.pv x.p)),(336,.r (Tm.lam s x).p)] g0 g00 gw g2 gs g1 (qVv s x)⟩
theorem h28 {L:List Int} (hL:Dk L) {S:Nat} (hS:3≤S) (hS2:S≤100000):∀ k,H28 L S k
 | 0=>zFg hL S hS2
 | k+1=>zFh hL hS hS2 (h28 hL hS hS2 k)
structure FG (n C S K:Nat) (f:Fm):Prop where
 sc:f.sc n
 cnt:f.cnt≤C
 tsz:f.tsz≤S
 csz:f.csz≤K
def fb:Nat→Nat
 | 0=>1+2 * tb 3 1
 | k+1=>1+2 * fb k
def cb:Nat→Nat
 | 0=>1
 | k+1=>4+2 * cb k
abbrev M18 (L:List Int) (g:List Ty) (k a:Nat) (f:Fm) (b:Nat):Prop:=O 18 [.loc 0 0,.pv (tys g),.pv (num k)] [(0,dk L a)] (.pv f.p) [(0,dk L b)]
theorem zBn:∀ k,473≤fb (k+1)
 | 0=>by decide
 | k+1=>by have:=zBn k;have e:fb (k+1+1)=1+2 * fb (k+1):=rfl;omega
def H18 (L:List Int) (k:Nat):Prop:=∀ (g:List Ty) (a:Nat),(∀ s∈g,s.size≤3)→g.length+k≤100000→a≤L.length→∃ (f:Fm) (b:Nat),FG g.length (fb k) 3 (cb k) f∧b≤L.length∧M18 L g k a f b
theorem tm1 {L:List Int} (hL:Dk L) {t:Ty} {g:List Ty} {a:Nat} (ht:t.size≤3) (hg:∀ s∈g,s.size≤3) (hl:g.length≤900000) (ha:a≤L.length):∃ (x:Tm) (b:Nat),TG g.length 236 3 x∧b≤L.length∧M28 L g t (num 1) a x b :=
 h28 hL (S:=3) (Nat.le_refl _) (by omega) 1 t g a ht hg (by omega) ha
theorem zFi {L:List Int} (hL:Dk L):H18 L 0:=by
 intro g a hg hl ha
 have ef:fb 0=473:=rfl
 have ek:cb 0=1:=rfl
 obtain⟨x,c,q1,hc,g1⟩:=tm1 hL (t:=.nat) (g:=g) (by decide) hg (by omega) ha
 obtain⟨y,d,q2,hd,g2⟩:=tm1 hL (t:=.nat) (g:=g) (by decide) hg (by omega) hc
 exact⟨.eq x y,d,⟨⟨q1.sc,q2.sc⟩,by have:=q1.cnt;have:=q2.cnt;simp only [Fm.cnt];omega,by have:=q1.tsz;have:=q2.tsz;simp only [Fm.tsz];omega,by simp only [Fm.csz];omega⟩,hd,o4 1 [(88,.Y),(92,.D L c (.pv x.p)),(96,.D L d (.pv y.p)),(97,.r (Fm.eq x y).p)] a42 g1 g2 (a43 x y)⟩
theorem zFj {L:List Int} (hL:Dk L) {k:Nat} (hk:H18 L k) (hkl:k≤100):H18 L (k+1):=by
 intro g a hg hl ha
 have hm:=qQc
 have hb:=qQh
 have ef:fb (k+1)=1+2 * fb k:=rfl
 have ek:cb (k+1)=4+2 * cb k:=rfl
 have e0:473≤fb k:=by cases k with|zero=>exact Nat.le_refl _|succ k=>exact zBn _
 have gs:=qVm (a:=k+1) (by omega) (by omega)
 obtain⟨w,b,hw,hb1,gw⟩:=nx hL ha (n:=9) (by omega) (by omega)
 rcases w with _|_|_|_|_|_|_|w
 ·obtain⟨x,c,q1,hc,g1⟩:=hk g b hg (by omega) hb1
  obtain⟨y,d,q2,hd,g2⟩:=hk g c hg (by omega) hc
  exact⟨.bin .and x y,d,⟨⟨q1.sc,q2.sc⟩,by have:=q1.cnt;have:=q2.cnt;simp only [Fm.cnt];omega,by have:=q1.tsz;have:=q2.tsz;simp only [Fm.tsz];omega,by have:=q1.csz;have:=q2.csz;simp only [Fm.csz];omega⟩,hd,o6 1 [(14,.D L b (.pv (num 0))),(20,.z k),(21,.D L c (.pv x.p)),(25,.z k),(26,.D L d (.pv y.p)),(27,.r (Fm.bin .and x y).p)] gw gs g1 gs g2 (a39 .and x y)⟩
 ·obtain⟨x,c,q1,hc,g1⟩:=hk g b hg (by omega) hb1
  obtain⟨y,d,q2,hd,g2⟩:=hk g c hg (by omega) hc
  exact⟨.bin .imp x y,d,⟨⟨q1.sc,q2.sc⟩,by have:=q1.cnt;have:=q2.cnt;simp only [Fm.cnt];omega,by have:=q1.tsz;have:=q2.tsz;simp only [Fm.tsz];omega,by have:=q1.csz;have:=q2.csz;simp only [Fm.csz];omega⟩,hd,o6 1 [(14,.D L b (.pv (num 1))),(34,.z k),(35,.D L c (.pv x.p)),(39,.z k),(40,.D L d (.pv y.p)),(41,.r (Fm.bin .imp x y).p)] gw gs g1 gs g2 (a39 .imp x y)⟩
 ·obtain⟨x,c,q1,hc,g1⟩:=hk g b hg (by omega) hb1
  obtain⟨y,d,q2,hd,g2⟩:=hk g c hg (by omega) hc
  exact⟨.bin .imp x y,d,⟨⟨q1.sc,q2.sc⟩,by have:=q1.cnt;have:=q2.cnt;simp only [Fm.cnt];omega,by have:=q1.tsz;have:=q2.tsz;simp only [Fm.tsz];omega,by have:=q1.csz;have:=q2.csz;simp only [Fm.csz];omega⟩,hd,o6 1 [(14,.D L b (.pv (num 2))),(34,.z k),(35,.D L c (.pv x.p)),(39,.z k),(40,.D L d (.pv y.p)),(41,.r (Fm.bin .imp x y).p)] gw gs g1 gs g2 (a39 .imp x y)⟩
 ·obtain⟨s,c,zs,hc,g1⟩:=a37 hL 1 (by omega) hb1
  have zs:s.size≤3:=Nat.le_trans zs (by decide)
  obtain⟨x,d,q1,hd,g2⟩:=hk (g++[s]) c (qG5 hg (by simp;omega)) (by simp;omega) hc
  have g4:=a41 g [s] (by simp;omega)
  exact⟨.q .all s x,d,⟨by have:=q1.sc;simpa [Fm.sc] using this,by have:=q1.cnt;simp only [Fm.cnt];omega,by have:=q1.tsz;simp only [Fm.tsz];omega,by have:=q1.csz;simp only [Fm.csz];omega⟩,hd,o6 1 [(14,.D L b (.pv (num 3))),(46,.D L c (.pv s.p)),(52,.r (tys (g++[s]))),(54,.z k),(55,.D L d (.pv x.p)),(56,.r (Fm.q .all s x).p)] gw g1 g4 gs g2 (a40 .all s x)⟩
 ·obtain⟨s,c,zs,hc,g1⟩:=a37 hL 1 (by omega) hb1
  have zs:s.size≤3:=Nat.le_trans zs (by decide)
  obtain⟨x,d,q1,hd,g2⟩:=hk (g++[s]) c (qG5 hg (by simp;omega)) (by simp;omega) hc
  have g4:=a41 g [s] (by simp;omega)
  exact⟨.q .all s x,d,⟨by have:=q1.sc;simpa [Fm.sc] using this,by have:=q1.cnt;simp only [Fm.cnt];omega,by have:=q1.tsz;simp only [Fm.tsz];omega,by have:=q1.csz;simp only [Fm.csz];omega⟩,hd,o6 1 [(14,.D L b (.pv (num 4))),(46,.D L c (.pv s.p)),(52,.r (tys (g++[s]))),(54,.z k),(55,.D L d (.pv x.p)),(56,.r (Fm.q .all s x).p)] gw g1 g4 gs g2 (a40 .all s x)⟩
 ·obtain⟨s,c,zs,hc,g1⟩:=a37 hL 1 (by omega) hb1
  have zs:s.size≤3:=Nat.le_trans zs (by decide)
  obtain⟨x,d,q1,hd,g2⟩:=hk (g++[s]) c (qG5 hg (by simp;omega)) (by simp;omega) hc
  have g4:=a41 g [s] (by simp;omega)
  exact⟨.q .ex s x,d,⟨by have:=q1.sc;simpa [Fm.sc] using this,by have:=q1.cnt;simp only [Fm.cnt];omega,by have:=q1.tsz;simp only [Fm.tsz];omega,by have:=q1.csz;simp only [Fm.csz];omega⟩,hd,o6 1 [(14,.D L b (.pv (num 5))),(60,.D L c (.pv s.p)),(66,.r (tys (g++[s]))),(68,.z k),(69,.D L d (.pv x.p)),(70,.r (Fm.q .ex s x).p)] gw g1 g4 gs g2 (a40 .ex s x)⟩
 ·obtain⟨s,c,zs,hc,g1⟩:=a37 hL 0 (by omega) hb1
  have zs:s.size≤3:=Nat.le_trans zs (by decide)
  obtain⟨v,c0,hv,hc0,gv⟩:=nx hL hc (n:=2) (by omega) (by omega)
  rcases v with _|_|v
  ·obtain⟨x,d,q1,hd,g2⟩:=hk (g++[s]) c0 (qG5 hg (by simp;omega)) (by simp;omega) hc0
   have g4:=a41 g [s] (by simp;omega)
   exact⟨.q .allU s x,d,⟨by have:=q1.sc;simpa [Fm.sc] using this,by have:=q1.cnt;simp only [Fm.cnt];omega,by have:=q1.tsz;simp only [Fm.tsz];omega,by have:=q1.csz;simp only [Fm.csz];omega⟩,hd,o7 1 [(14,.D L b (.pv (num 6))),(74,.D L c (.pv s.p)),(76,.D L c0 (.pv (num 0))),(83,.r (tys (g++[s]))),(85,.z k),(86,.D L d (.pv x.p)),(87,.r (Fm.q .allU s x).p)] gw g1 gv g4 gs g2 (a40 .allU s x)⟩
  ·obtain⟨x,d,q1,hd,g2⟩:=hk (g++[s]) c0 (qG5 hg (by simp;omega)) (by simp;omega) hc0
   have g4:=a41 g [s] (by simp;omega)
   exact⟨.q .exU s x,d,⟨by have:=q1.sc;simpa [Fm.sc] using this,by have:=q1.cnt;simp only [Fm.cnt];omega,by have:=q1.tsz;simp only [Fm.tsz];omega,by have:=q1.csz;simp only [Fm.csz];omega⟩,hd,o7 1 [(14,.D L b (.pv (num 6))),(74,.D L c (.pv s.p)),(76,.D L c0 (.pv (num 1))),(83,.r (tys (g++[s]))),(85,.z k),(86,.D L d (.pv x.p)),(87,.r (Fm.q .exU s x).p)] gw g1 gv g4 gs g2 (a40 .exU s x)⟩
  ·omega
 ·obtain⟨x,c,q1,hc,g1⟩:=tm1 hL (t:=.nat) (g:=g) (by decide) hg (by omega) hb1
  obtain⟨y,d,q2,hd,g2⟩:=tm1 hL (t:=.nat) (g:=g) (by decide) hg (by omega) hc
  exact⟨.eq x y,d,⟨⟨q1.sc,q2.sc⟩,by have:=q1.cnt;have:=q2.cnt;simp only [Fm.cnt];omega,by have:=q1.tsz;have:=q2.tsz;simp only [Fm.tsz];omega,by simp only [Fm.csz];omega⟩,hd,o5 1 [(14,.D L b (.pv (num (w+7)))),(88,.Y),(92,.D L c (.pv x.p)),(96,.D L d (.pv y.p)),(97,.r (Fm.eq x y).p)] gw a42 g1 g2 (a43 x y)⟩
theorem h18 {L:List Int} (hL:Dk L):∀ k,k≤100→H18 L k
 | 0,_=>zFi hL
 | k+1,h=>zFj hL (h18 hL k (by omega)) (by omega)
abbrev FS (n:Nat) (f:Fm):Prop:=FG n 1895 3 16 f
theorem fm2 {L:List Int} (hL:Dk L) {g:List Ty} {a:Nat} (hg:∀ s∈g,s.size≤3) (hl:g.length≤1000) (ha:a≤L.length):∃ (f:Fm) (b:Nat),FS g.length f∧b≤L.length∧M18 L g 2 a f b :=
 h18 hL 2 (by omega) g a hg (by omega) ha
theorem fm1 {L:List Int} (hL:Dk L) {g:List Ty} {a:Nat} (hg:∀ s∈g,s.size≤3) (hl:g.length≤1000) (ha:a≤L.length):∃ (f:Fm) (b:Nat),FG g.length 947 3 6 f∧b≤L.length∧M18 L g 1 a f b :=
 h18 hL 1 (by omega) g a hg (by omega) ha
theorem a7 {L:List Int} (hL:Dk L) {a:Nat} (ha:a≤L.length):∃ (g:List Ty) (hs:List Fm) (b:Nat),g.length≤3∧(∀ s∈g,s.size≤3)∧hs.length≤2∧(∀ f∈hs,FS g.length f)∧b≤L.length∧O 7 [.loc 0 0] [(0,dk L a)] (.pv (qJs g hs)) [(0,dk L b)]:=by
 have hm:=qQc
 obtain⟨g,b,z1,z2,hb,g1⟩:=a16 hL ha
 obtain⟨x,c,hx,hc,g2⟩:=nx hL hb (n:=3) (by omega) (by omega)
 obtain⟨f1,d,q1,hd,g3⟩:=fm2 hL z2 (by omega) hc
 obtain⟨f2,e,q2,he,g4⟩:=fm2 hL z2 (by omega) hd
 rcases x with _|_|_|x
 ·exact⟨g,[],c,z1,z2,by simp,by simp,hc,o2 1 [(6,.D L b (.pv (tys g))),(9,.D L c (.pv (num 0)))] g1 g2⟩
 ·exact⟨g,[f1],d,z1,z2,by simp,by simpa using q1,hd,o3 1 [(6,.D L b (.pv (tys g))),(9,.D L c (.pv (num 1))),(19,.D L d (.pv f1.p))] g1 g2 g3⟩
 ·exact⟨g,[f1,f2],e,z1,z2,by simp,by simp;exact⟨q1,q2⟩,he,o4 1 [(6,.D L b (.pv (tys g))),(9,.D L c (.pv (num 2))),(19,.D L d (.pv f1.p)),(19,.D L e (.pv f2.p))] g1 g2 g3 g4⟩
 ·omega
theorem a8 {L:List Int} (hL:Dk L) {a:Nat} (ha:a≤L.length):∃ (hs:List Fm) (b:Nat),hs.length≤2∧(∀ f∈hs,FS 0 f)∧b≤L.length∧O 8 [.loc 0 0] [(0,dk L a)] (.pv (fms hs)) [(0,dk L b)]:=by
 have hm:=qQc
 obtain⟨x,c,hx,hc,g2⟩:=nx hL ha (n:=3) (by omega) (by omega)
 obtain⟨f1,d,q1,hd,g3⟩:=fm2 hL (g:=[]) (by simp) (by simp) hc
 obtain⟨f2,e,q2,he,g4⟩:=fm2 hL (g:=[]) (by simp) (by simp) hd
 rcases x with _|_|_|x
 ·exact⟨[],c,by simp,by simp,hc,o1 1 [(6,.D L c (.pv (num 0)))] g2⟩
 ·exact⟨[f1],d,by simp,by simpa using q1,hd,o2 1 [(6,.D L c (.pv (num 1))),(13,.D L d (.pv f1.p))] g2 g3⟩
 ·exact⟨[f1,f2],e,by simp,by simp;exact⟨q1,q2⟩,he,o3 1 [(6,.D L c (.pv (num 2))),(13,.D L d (.pv f1.p)),(13,.D L e (.pv f2.p))] g2 g3 g4⟩
 ·omega
open Go.Lg
set_option maxRecDepth 100000
abbrev zHk:Kp:=⟨[1,4,5,14,15,16],[1,2,4],5,[]⟩
abbrev z2n:List PV:=[.nils,.nils]
theorem zJ9 (G:PV) (t:Ty) {hs:List Fm} (hl:hs.length≤mid):∀ (r:List Fm) (k v:Nat) (A:List (List PV)),hs.drop k=r→A.length=k→(∀ f∈r,f.mx≤mid * mid∧f.cnt≤mid) →
  ∃ v',Lp 48 0 0 (st [(1,.pv (tys [t])),(4,.loc 1 0),(5,.loc 2 0),(14,.pv (fms hs)),(15,.pv (num (hs.map Fm.c).length)),(16,.pv (num k))] [(1,bx z2n),(2,.box [.pv G,.arr 4 v A.length]),(4,.arr v 5 40 (pvE A))] 5 []) (.exit 0) (st [(4,.loc 1 0),(5,.loc 2 0)] [(1,bx z2n),(2,.box [.pv G,.arr 4 v' (A.length+r.length)]),(4,.arr v' 5 40 (pvE (A++r.map fun f=>(f.sh 0 1).c)))] 5 [])
 | [],k,v,A,h,hA,hb=>by
  have e:ltI (.ofNat k) (.ofNat (hs.map Fm.c).length)=false:=qZv (by simpa using qZp h)
  simp only [List.map_nil,List.append_nil,List.length_nil,Nat.add_zero]
  exact⟨v,y1 [(17,.H)] ⟨[4,5],[1,2,4],5,[]⟩ e (qQn A)⟩
 | f::r,k,v,A,h,hA,hb=>by
  have hm:=qQc
  obtain⟨d1,d2,d3⟩:=qZo h
  have e:ltI (.ofNat k) (.ofNat (hs.map Fm.c).length)=true:=qQy (by simpa using d2)
  have hf:=hb f (by simp)
  have g1:=a53 f 0 1 (by omega) (by omega) hf.1 (by omega)
  have g5:=qEv (A:=A) (v:=v) (ty:=40) (m:=88) (c:=(f.sh 0 1).c) (show 0<5 by decide) rfl rfl (by simp only [maxLen];omega) (by omega)
  have g3:=inN (show k+1≤_ by omega)
  obtain⟨v',ih⟩:=zJ9 G t hl r (k+1) (v+1) (A++[(f.sh 0 1).c]) d3 (by simp [hA]) (fun f hf=>hb f (by simp [hf]))
  rw [qZy,show (A++[(f.sh 0 1).c]).length=A.length+1 by simp,show A.length+1+r.length=A.length+(f::r).length by simp;omega,List.append_assoc] at ih
  exact⟨v',n7 [(17,.G),(18,.i f.c),(25,.r (f.sh 0 1).p),(27,.ok),(29,.ok)] zHk e (qQi d1 Fm.c_len) g1 g5 g3 (qQq A (f.sh 0 1).c) ih⟩
abbrev qX6 (hs:List Fm):List Fm:=hs.map (Fm.sh 0 1)
theorem a48 (g:List Ty) (hs:List Fm) (t:Ty) (hg:g.length≤1000000) (hl:hs.length≤mid) (hb:∀ f∈hs,f.mx≤mid * mid∧f.cnt≤mid):A 48 [qJs g hs,tys [t]] (qJs (g++[t]) (qX6 hs)):=by
 have hm:=qQc
 have g0:=a41 g [t] (by simp;omega)
 cases hs with
 | nil=>exact f1 [(11,.r (tys (g++[t])))] g0
 | cons f r =>
  generalize hG:tys (g++[t])=G at *
  have hf:=hb f (by simp)
  obtain⟨v,h1⟩:=zJ9 G t (hs:=f::r) hl r 1 1 [(f.sh 0 1).c] rfl rfl (fun x hx=>hb x (by simp [hx]))
  have em : [(f.sh 0 1).c]++r.map (fun f=>(f.sh 0 1).c)=(qX6 (f::r)).map Fm.c:=by simp [Function.comp_def]
  rw [em] at h1
  have h2:=LoopIs.fz (by simp) h1 4 (ver:=v) (sz:=5) (ty:=40) (ps:=(qX6 (f::r)).map Fm.c) rfl (by kernel_rfl)
  rw [show ([(f.sh 0 1).c]:List (List PV)).length+r.length=r.length+1 by simp;omega] at h2
  simp (decide:=true) only [fzS,fzO,qY0,qJb,qY8,bx,z2n,List.map,qC3,and_self,↓reduceIte] at h2
  rw [List.take_of_length_le (by simp)] at h2
  have e:ltI (.ofNat 0) (.ofNat ((f::r).map Fm.c).length)=true:=qQy (by simp)
  have h3:Lp 48 0 0 (st [(1,.pv (tys [t])),(4,.loc 1 0),(5,.loc 2 0),(14,.pv (fms (f::r))),(15,.pv (num ((f::r).map Fm.c).length)),(16,.pv (num 0))] [(1,bx z2n),(2,bx [G,.nils])] 3 []) (.exit 0) (st [(4,.loc 1 0),(5,.loc 2 0)] [(1,bx z2n),(2,bx [G,fms (qX6 (f::r))])] 5 []) :=
   n6 [(17,.G),(18,.i f.c),(25,.r (f.sh 0 1).p),(29,.ok)] zHk e (qQi (g:=f::r) (k:=0) rfl Fm.c_len) (a53 f 0 1 (by omega) (by omega) hf.1 (by omega)) (inN (show 0+1≤_ by omega)) (qQq [] (f.sh 0 1).c) h2
  subst hG
  exact f2 [(11,.r (tys (g++[t]))),(100003,.l ⟨[1,4,5,14,15,16],[1,2],3,[]⟩ (.exit 0) (st [(4,.loc 1 0),(5,.loc 2 0)] [(1,bx z2n),(2,bx [tys (g++[t]),fms (qX6 (f::r))])] 5 []))] g0 h3
structure PG (C X:Nat) (p:Pf):Prop where
 cnt:p.cnt≤C
 tsz:p.tsz≤mid
 mx:p.mx≤X
abbrev M20:Nat:=1048576
abbrev W37:Nat:=qQf * 16384
theorem qCl:W37=137438953472:=rfl
def cp:Nat→Nat
 | 0=>300
 | k+1=>2 * cp k+10000
def cm:Nat→Nat
 | 0=>M20
 | k+1=>2 * cm k+W37+4 * M20
theorem qVk:∀ k,M20≤cm k
 | 0=>Nat.le_refl _
 | k+1=>by have:=qVk k;have e:cm (k+1)=2 * cm k+W37+4 * M20:=rfl;omega
abbrev FBd (Z:Nat) (f:Fm):Prop:=f.cnt≤4096∧f.tsz≤mid∧f.mx≤Z
structure S19 (Z:Nat) (ls:List Fm) (g:List Ty) (hs:List Fm):Prop where
 ll:ls.length≤2
 lb:∀ f∈ls,FBd Z f
 gl:g.length≤10
 gs:∀ s∈g,s.size≤3
 hl:hs.length≤10
 hb:∀ f∈hs,FBd Z f
 z:M20≤Z
theorem FG.fbd {n C K Z:Nat} {f:Fm} (h:FG n C 3 K f) (hn:n≤1000) (hC:C≤4096) (hZ:M20≤Z):FBd Z f:=by
 have hm:=qQc
 have h1:=h.cnt
 have h2:=h.tsz
 have h3:=qDh f n h.sc
 have e:M20=1048576:=rfl
 exact⟨by omega,by omega,by omega⟩
theorem TG.mx {n C S:Nat} {x:Tm} (h:TG n C S x):x.mx≤n+C:=by have:=qBx x n h.sc;have:=h.cnt;omega
theorem S19.with {Z Z':Nat} {ls:List Fm} {g:List Ty} {hs:List Fm} {f:Fm} (h:S19 Z ls g hs) (hf:FBd Z' f) (hz:Z≤Z') (hl:hs.length<10):S19 Z' ls g (hs++[f]) :=
 ⟨h.ll,fun x hx=>⟨(h.lb x hx).1,(h.lb x hx).2.1,Nat.le_trans (h.lb x hx).2.2 hz⟩,h.gl,h.gs,by simp;omega,fun x hx=>by
  rcases List.mem_append.1 hx with hx|hx
  ·exact⟨(h.hb x hx).1,(h.hb x hx).2.1,Nat.le_trans (h.hb x hx).2.2 hz⟩
  ·simp at hx;subst hx;exact hf,Nat.le_trans h.z hz⟩
theorem FBd.up {Z:Nat} {f:Fm} (h:FBd Z f):FBd (Z+1) (f.sh 0 1):=by
 have h3:=qJ8 1 f 0
 have e:(1:Int).toNat=1:=rfl
 exact⟨by rw [qQt];exact h.1,by rw [qQv];exact h.2.1,by have:=h.2.2;omega⟩
theorem S19.below {Z:Nat} {ls:List Fm} {g:List Ty} {hs:List Fm} {t:Ty} (h:S19 Z ls g hs) (ht:t.size≤3) (hl:g.length<10):S19 (Z+1) ls (g++[t]) (qX6 hs) :=
 ⟨h.ll,fun x hx=>⟨(h.lb x hx).1,(h.lb x hx).2.1,Nat.le_succ_of_le (h.lb x hx).2.2⟩,by simp;omega,qG5 h.gs (by simpa using ht),by simp;exact h.hl,fun x hx=>by
  obtain⟨f,hf,rfl⟩:=List.mem_map.1 hx
  exact FBd.up (h.hb f hf),Nat.le_succ_of_le h.z⟩
def qS7 (t:Tm):Pf:=.ind false (.eq pl0 (.v 0)) t (.refl (qJr 0)) stepP
theorem a58 (t:Tm):A 58 [t.p] (qS7 t).p:=by
 have g1:=a82
 have g2:=a22 (n:=0) (by omega)
 have g3:A 81 [plusT.p,row [qJr 0,.v 0]] pl0.p:=qE9 plusT (qJr 0) (.v 0)
 have g4:=a43 pl0 (.v 0)
 have g5:A 78 [num 5,row [.v 0]] (Tm.n1 .succ (.v 0)).p:=qP6 5 (.v 0)
 have g6:A 79 [num 2,Ty.nat.p,row [.n1 .succ (.v 0)]] sucT.p:=qVv .nat (.n1 .succ (.v 0))
 exact f16 [(7,.r plusT.p),(8,.r (qJr 0).p),(9,.r (Tm.v 0).p),(11,.r pl0.p),(13,.r (Tm.v 0).p),(14,.r (Fm.eq pl0 (.v 0)).p),(16,.Y),(17,.r (Tm.v 0).p),(19,.r (Tm.n1 .succ (.v 0)).p),(21,.r sucT.p),(23,.r (Tm.v 0).p),(24,.r (Pf.leaf false 0).p),(25,.U [stepP.p,num 0]),(30,.r (qJr 0).p),(31,.r (Pf.refl (qJr 0)).p),(33,.r (qS7 t).p)] g1 g2 (a51 0) g3 (a51 0) g4 a42 (a51 0) g5 g6 (a51 0) (a56 0) zH3 g2 (a21 (qJr 0)) (a55 false (.eq pl0 (.v 0)) t (.refl (qJr 0)) stepP)
abbrev qWc (x:Tm):Pf:=.ex false (.q .ex .nat (.eq (x.sh 0 1) (.v 0))) x (.refl x)
theorem a60 {L:List Int} (hL:Dk L) {g:List Ty} {hs:List Fm} {a:Nat} (hg:∀ s∈g,s.size≤3) (hl:g.length≤100) (ha:a≤L.length):∃ (x:Tm) (b:Nat),TG g.length 236 3 x∧b≤L.length∧O 60 [.loc 0 0,.pv (qJs g hs)] [(0,dk L a)] (.pv (qWc x).p) [(0,dk L b)]:=by
 have hm:=qQc
 obtain⟨x,b,q,hb,g1⟩:=tm1 hL (t:=.nat) (by decide) hg (by omega) ha
 have c1:=q.cnt
 have c2:=q.mx
 have g2:=a50 x (by omega) (by rw [hm];omega)
 exact⟨x,b,q,hb,o8 1 [(7,.Y),(12,.D L b (.pv x.p)),(15,.r (x.sh 0 1).p),(16,.r (Tm.v 0).p),(17,.r (Fm.eq (x.sh 0 1) (.v 0)).p),(18,.r (Fm.q .ex .nat (.eq (x.sh 0 1) (.v 0))).p),(21,.r (Pf.refl x).p),(22,.r (qWc x).p)] a42 g1 g2 (a51 0) (a43 (x.sh 0 1) (.v 0)) (a40 .ex .nat (.eq (x.sh 0 1) (.v 0))) (a21 x) (a52 false (.q .ex .nat (.eq (x.sh 0 1) (.v 0))) x (.refl x))⟩
abbrev M19 (L:List Int) (ls:List Fm) (g:List Ty) (hs:List Fm) (k a:Nat) (p:Pf) (b:Nat):Prop:=O 19 [.loc 0 0,.pv (fms ls),.pv (qJs g hs),.pv (num k)] [(0,dk L a)] (.pv p.p) [(0,dk L b)]
def H19 (L:List Int) (k:Nat):Prop:=∀ (Z:Nat) (ls:List Fm) (g:List Ty) (hs:List Fm) (a:Nat),S19 Z ls g hs→Z+cm k≤281474976710656→a≤L.length→∃ (p:Pf) (b:Nat),PG (cp k) (Z+cm k) p∧b≤L.length∧M19 L ls g hs k a p b
def H54 (L:List Int) (k:Nat):Prop:=∀ (Z:Nat) (ls:List Fm) (g:List Ty) (hs:List Fm) (a:Nat),S19 Z ls g hs→g.length<10→hs.length<10→Z+cm (k+1)≤281474976710656→a≤L.length→∃ (p:Pf) (b:Nat),PG (cp (k+1)) (Z+cm (k+1)) p∧b≤L.length∧O 54 [.loc 0 0,.pv (fms ls),.pv (qJs g hs),.pv (num (k+1))] [(0,dk L a)] (.pv p.p) [(0,dk L b)]
theorem qNt:∀ k,k≤10→cp k≤20000000
 | 0,_=>by decide
 | 1,_=>by decide
 | 2,_=>by decide
 | 3,_=>by decide
 | 4,_=>by decide
 | 5,_=>by decide
 | 6,_=>by decide
 | 7,_=>by decide
 | 8,_=>by decide
 | 9,_=>by decide
 | 10,_=>by decide
 | k+11,h=>absurd h (by omega)
theorem zDa (H:MF) {Z k:Nat} {ls:List Fm} {g:List Ty} {hs:List Fm} {p:Pf} (hS:S19 Z ls g hs) (hp:PG (cp k) (Z+cm k) p) (hk:k≤10) (hz:Z+cm (k+1)≤281474976710656):∃ r:PR,A 20 [fms ls,qJs g hs,p.p] r.p ∧ ∀ f u,r = .ok f u→FBd (Z+cm k+W37) f:=by
 have hm:=qQc
 have hbg:=qQh
 have e1:cm (k+1)=2 * cm k+W37+4 * M20:=rfl
 have e2:=qNt k hk
 have h1:=hS.ll
 have h2:=hS.gl
 have h3:=hS.hl
 have hc:cmx=1125899902742528:=rfl
 have e3:qQf=8388608:=rfl
 have e4:W37=qQf * 16384:=rfl
 obtain⟨r,g1,q⟩:=a20 H (X:=Z+cm k) (ls:=ls) (g:=g) (hs:=hs) (p:=p) ⟨fun f hf=>by have:=hS.lb f hf;exact⟨by omega,this.2.1,by omega⟩,fun f hf=>by have:=hS.hb f hf;exact⟨by omega,this.2.1,by omega⟩,fun s hs'=>by have:=hS.gs s hs';omega,by omega,by omega,by omega,by have:=hp.cnt;omega,hp.tsz,hp.mx,by rw [hc];omega⟩
 exact⟨r,g1,fun f u e=>by
  obtain⟨_,_,k1,_,_⟩:=q f u e
  exact⟨k1.1,k1.2.2,k1.2.1⟩⟩
end Go.Proofs.YtmcockinhpiomaaGreatDoor
