/- Contracts of functions; no conditions. -/
import Derived.Test.YtbbbnbikmbaejaaGreatDoorConC2
set_option linter.all false
set_option maxHeartbeats 4000000
namespace Go.Proofs.YtbbbnbikmbaejaaGreatDoor
open Go.Lg
set_option maxRecDepth 100000
def Fm.sc:Nat→Fm→Prop
 | n,.eq a b=>a.sc n∧b.sc n
 | n,.bin _ f g=>f.sc n∧g.sc n
 | n,.q _ _ f=>f.sc (n+1)
theorem zA3:A 100 [tys []] (tzs []):=f0 []
theorem zA4 (s:Ty) (h:s.size≤big):A 100 [tys [s]] (tzs [s]):=f1 [14] (qC0 s h)
theorem zA5 (s u:Ty) (h:s.size≤big) (h':u.size≤big):A 100 [tys [s,u]] (tzs [s,u]):=f2 [14,14] (qC0 s h) (qC0 u h')
theorem qEt (g:List Ty) (s:Ty) (hg:g.length≤mid) (h:s.size≤big):A 271 [tzs g,tys [s]] (tzs (g++[s])):=by
 have hm:=qQh
 have g1:=qXh (g.map szc).length
 have g2:=qN5 3 40 qCz (by decide) g s (by omega) (by simp only [maxLen];omega)
 rw [show tzs (g++[s]) = .slice (g.map szc++[szc s]) by simp [tzs]]
 exact f3 [(10,.ok),12,(13,.ok)] g1 (zA4 s h) g2
theorem zKc (g:List Ty) (s u:Ty) (hg:g.length≤mid) (h:s.size≤big) (h':u.size≤big):A 271 [tzs g,tys [s,u]] (tzs (g++[s,u])):=by
 have hm:=qQh
 have g1:=qXh (g.map szc).length
 have g2:=zW7 3 40 qCz (by decide) g s u (by omega) (by simp only [maxLen];omega)
 rw [show tzs (g++[s,u]) = .slice (g.map szc++[szc s,szc u]) by simp [tzs]]
 exact f3 [(10,.ok),12,(13,.ok)] g1 (zA5 s u h h') g2
theorem qUa:∀ (f:Fm) (g:List Ty),(∀ s∈g,s.size≤64)→f.shp=true→g.length+f.cnt≤mid→∃ e,A 254 [tzs g,f.p] (num e)∧(e=0→f.sc g.length)∧(f.ty g→e=0)
 | .eq a b,g,hg,hs,hl=>by
  have hl:g.length+(1+a.cnt+b.cnt)≤mid:=hl
  obtain⟨hs1,hs2⟩:=qZ1 hs
  obtain⟨e,q1,q2,q3⟩:=zA1 g a hg hs1 (by omega)
  cases e with
  | succ n=>exact⟨n+1,f1 [50] q1,(fun h=>nomatch h),fun h=>absurd (q3 h.1.2) (Nat.succ_ne_zero _)⟩
  | zero =>
   obtain⟨e,p1,p2,p3⟩:=zA1 g b hg hs2 (by omega)
   cases e with
   | succ n=>exact⟨n+1,f2 [50,50] q1 p1,(fun h=>nomatch h),fun h=>absurd (p3 h.2.2) (Nat.succ_ne_zero _)⟩
   | zero=>exact⟨0,f2 [50,50] q1 p1,(fun _=>⟨q2 rfl,p2 rfl⟩),fun _=>rfl⟩
 | .bin k a b,g,hg,hs,hl=>by
  have hl:g.length+(1+a.cnt+b.cnt)≤mid:=hl
  obtain⟨hs1,hs2⟩:=qZ1 hs
  obtain⟨e,q1,q2,q3⟩:=qUa a g hg hs1 (by omega)
  cases e with
  | succ n=>cases k<;>exact⟨n+1,f1 [36] q1,(fun h=>nomatch h),fun h=>absurd (q3 h.1) (Nat.succ_ne_zero _)⟩
  | zero =>
   obtain⟨e,p1,p2,p3⟩:=qUa b g hg hs2 (by omega)
   cases e with
   | succ n=>cases k<;>exact⟨n+1,f2 [36,36] q1 p1,(fun h=>nomatch h),fun h=>absurd (p3 h.2) (Nat.succ_ne_zero _)⟩
   | zero=>cases k<;>exact⟨0,f2 [36,36] q1 p1,(fun _=>⟨q2 rfl,p2 rfl⟩),fun _=>rfl⟩
 | .q k s a,g,hg,hs,hl=>by
  have hm:=qQh
  have hb:=qQk
  have hl:g.length+(1+a.cnt)≤mid:=hl
  obtain⟨hs1,hs2⟩:=qZ1 hs
  have hz:=zZ9 hs1
  have g1:=qEt g s (by omega) (by omega)
  obtain⟨e,q1,q2,q3⟩:=qUa a (g++[s]) (fun u hu=>by grind) hs2 (by simp;omega)
  cases e with
  | succ n=>cases k<;>exact⟨n+1,f2 [26,36] g1 q1,(fun h=>nomatch h),fun h=>absurd (q3 h) (Nat.succ_ne_zero _)⟩
  | zero=>cases k<;>exact⟨0,f2 [26,36] g1 q1,(fun _=>by have:=q2 rfl;simpa [Fm.sc] using this),fun _=>rfl⟩
theorem qUb {g:List Ty} (hl:g.length≤16):∀ (r:List Ty) (k:Nat),g.drop k=r→(∀ t∈r,t.size≤big) →
  (qPo r=0∧Lp 40 0 0 (st [(9,.pv (tys g)),(10,.pv (num (g.map Ty.c).length)),(11,.pv (num k))] [] 0 []) (.exit 0) (st [] [] 0 []))∨qPo r=4∧Lp 40 0 0 (st [(9,.pv (tys g)),(10,.pv (num (g.map Ty.c).length)),(11,.pv (num k))] [] 0 []) .ret (st [(2,.pv (num 4))] [] 0 [])
 | [],k,h,_ => .inl ⟨rfl,x1 [12] (kp []) (show ltI (.ofNat k) (.ofNat (g.map Ty.c).length)=false from qZ4 (by simp_all))⟩
 | t::r,k,h,hb=>by
  obtain⟨h1,h2,h3⟩:=qY7 h
  have hc:=zYi t (hb t (by simp))
  have hlt:ltI (.ofNat k) (.ofNat (g.map Ty.c).length)=true:=qWz (by simp_all)
  unfold qPo
  rcases qZp t with e|e<;>rw [qWo] at e<;>rw [e] at hc<;>rw [qWo,e]
  ·rcases qUb hl r (k+1) h3 (fun t ht=>hb t (by simp [ht])) with ⟨e1,ih⟩|⟨e1,ih⟩
   ·exact .inl ⟨e1,n5 [12,(13,.i t.c),16,(20,.ok)] (kp [9,10,11]) hlt (qQ3 h1 Ty.c_len) hc (inN (show k+1≤_ by omega)) ih⟩
   ·exact .inr ⟨e1,n5 [12,(13,.i t.c),16,(20,.ok)] (kp [9,10,11]) hlt (qQ3 h1 Ty.c_len) hc (inN (show k+1≤_ by omega)) ih⟩
  ·exact .inr ⟨rfl,x3 [12,(13,.i t.c),16] (kp [2]) hlt (qQ3 h1 Ty.c_len) hc⟩
theorem a91 (g:List Ty) (hb:∀ t∈g,t.size≤big):A 40 [tys g] (num (zVv g)):=by
 unfold zVv
 cases e:ltI (.ofNat 16) (.ofNat (g.map Ty.c).length)
 ·have hl:g.length≤16:=by
   rw [qQn] at e
   grind
  rcases qUb hl g 0 rfl hb with ⟨h1,h2⟩|⟨h1,h2⟩<;>rw [h1]
  ·exact f2 [8,(100004,.l (kp [9,10,11]) (.exit 0) (st [] [] 0 []))] e h2
  ·exact f2 [8,(100004,.l (kp [9,10,11]) .ret (st [(2,.pv (num 4))] [] 0 []))] e h2
 ·exact f1 [8] e
theorem qR7 {A:List (List PV)} {v sz ty m:Nat} {c:List PV} (h0:0<sz) (h1:qD8 sz [pvL c]=true) (h2:qVe [pvL c]=true) (h3:A.length+1≤maxLen) (h4:(A.length+1) * m≤140737488355328) :
  (Nat.beq v v && Nat.ble A.length (pvE A).length && Nat.beq ty ty && Nat.beq sz sz && Nat.blt 0 sz && qD8 sz [pvL c] && qVe [pvL c] && Nat.ble (A.length+[pvL c].length) maxLen && Nat.ble ((A.length+[pvL c].length) * m) 140737488355328)=true :=
 zZ6 (pvE_len A) h0 h1 h2 h3 h4
abbrev zCx (g:List Ty) (k:Nat) (x:V):List (Nat × V):=[(3,x),(6,.pv (tys g)),(7,.pv (num (g.map Ty.c).length)),(8,.pv (num k))]
abbrev k93:Kp:=⟨[3,6,7,8],[1],2,[]⟩
theorem qUc {g:List Ty} (hl:g.length≤mid):∀ (r:List Ty) (k v:Nat) (A:List (List PV)),g.drop k=r→(∀ t∈r,t.size≤big)→A.length=k →
  ∃ v',Lp 100 0 0 (st (zCx g k (.arr 1 v A.length)) [(1,.arr v 3 168 (pvE A))] 2 []) (.exit 0) (st [(3,.arr 1 v' (A.length+r.length))] [(1,.arr v' 3 168 (pvE (A++r.map szc)))] 2 [])
 | [],k,v,A,h,hb,hA=>by
  have e:ltI (.ofNat k) (.ofNat (g.map Ty.c).length)=false:=qZ4 (by simp_all)
  simp only [List.map_nil,List.append_nil,List.length_nil,Nat.add_zero]
  exact⟨v,y1 [9] ⟨[3],[1],2,[]⟩ e (qQu A)⟩
 | t::r,k,v,A,h,hb,hA=>by
  have hm:=qQh
  obtain⟨d1,d2,d3⟩:=qY7 h
  have e:ltI (.ofNat k) (.ofNat (g.map Ty.c).length)=true:=qWz (by simp_all)
  have g3:=inN (show k+1≤_ by omega)
  have g5:=qR7 (A:=A) (v:=v) (ty:=168) (m:=40) (c:=szc t) (show 0<3 by decide) rfl rfl (by simp only [maxLen];omega) (by omega)
  obtain⟨v',ih⟩:=qUc hl r (k+1) (v+1) (A++[szc t]) d3 (fun u hu=>hb u (by simp [hu])) (by simp [hA])
  rw [qKm,show (A++[szc t]).length=A.length+1 by simp,show A.length+1+r.length=A.length+(t::r).length by simp;omega,List.append_assoc] at ih
  exact⟨v',n7 [9,(10,.i t.c),14,(16,.ok),(17,.ok)] k93 e (qQ3 d1 Ty.c_len) (qC0 t (hb t (by simp))) g5 g3 (qZl A (szc t)) ih⟩
theorem a93 (g:List Ty) (hl:g.length≤mid) (hb:∀ t∈g,t.size≤big):A 100 [tys g] (tzs g):=by
 cases g with
 | nil=>exact zA3
 | cons t r =>
  have e:ltI (.ofNat 0) (.ofNat ((t::r).map Ty.c).length)=true:=qWz (by simp)
  obtain⟨v,h⟩:=qUc hl r 1 1 [szc t] rfl (fun u hu=>hb u (by simp [hu])) rfl
  have h2:=LoopIs.fz (by simp) h 1 (ver:=v) (sz:=3) (ty:=168) (ps:=(t::r).map szc) rfl (by kernel_rfl)
  simp (decide:=true) only [fzS,fzO,qD4,List.map,qLq,and_self,↓reduceIte,List.take_of_length_le (show (szc t::r.map szc).length≤[szc t].length+r.length by simp;omega)] at h2
  have h3:Lp 100 0 0 (st (zCx (t::r) 0 (.pv .nils)) [] 0 []) (.exit 0) (st [(3,.pv (tzs (t::r)))] [] 2 []) :=
   n6 [9,(10,.i t.c),14,(17,.ok)] k93 e (qQ3 (g:=t::r) (k:=0) rfl Ty.c_len) (qC0 t (hb t (by simp))) (inN (show 0+1≤_ by omega)) (qZl [] (szc t)) h2
  exact f1 [(100003,.l ⟨[3,6,7,8],[],0,[]⟩ (.exit 0) (st [(3,.pv (tzs (t::r)))] [] 2 []))] h3
open Go.Lg
set_option maxRecDepth 100000
theorem zA6 {x:Int} {a:Nat} (h:(a:Int)≤x):(!ltI x (.ofNat a))=true:=by rw [qQn];simp;exact h
theorem zA7 {x:Int} {a:Nat} (h:x<(a:Int)):(!ltI x (.ofNat a))=false:=by rw [qQn];simp;exact h
theorem qR8 {x:Int} {a:Nat} (h:x=(a:Int)):eqI x (.ofNat a)=true:=by rw [qJv];simp;exact h
theorem zKd {x:Int} {a:Nat} (h:x≠(a:Int)):eqI x (.ofNat a)=false:=by rw [qJv];simp;exact h
theorem zA8 {x:Int} {a:Nat} (h:(a:Int)<x):ltI (.ofNat a) x=true:=by rw [qQn];simp;exact h
theorem zA9 {x:Int} {a:Nat} (h:x≤(a:Int)):ltI (.ofNat a) x=false:=by rw [qQn];simp;exact h
theorem zVz {i d:Nat} (h:i≤big) (h':d≤big):inB (Int.ofNat i - .ofNat d)=true∧Int.ofNat i - .ofNat d=Int.ofNat i - .ofNat d:=⟨(qCx h h' rfl).1,rfl⟩
theorem qQv {a b:Nat} (h:a+b≤big):inB (Int.ofNat a + .ofNat b)=true∧Int.ofNat a + .ofNat b = .ofNat (a+b):=⟨inb (n:=a+b) h,rfl⟩
abbrev obF (c:V) (own:List (Nat × Ob)):List (Nat × Ob):=(5,.box [c])::(7,.box [.fn 386 [.loc 5 0,.loc 7 0]])::own
abbrev zCy (a b:Nat):List (Nat × Ob):=obF (.fn 364 [.loc 1 0,.loc 2 0]) [(1,bx [num a]),(2,bx [num b])]
theorem qEu (a z:Nat) (ha:a≤mid) (hz:z≤2 * mid):∀ (t:Tm) (d:Nat),d+t.cnt≤mid→t.mx≤mid * mid→O 386 [.pv t.p,.pv (num d),.loc 5 0,.loc 7 0] (zCy a z) (.pv (t.sh (a+d) (.ofNat z)).p) (zCy a z)
 | .v i,d,hd,hm=>by
  have hmm:=qQh
  have hi:i≤mid * mid:=hm
  have hd:d+1≤mid:=hd
  rw [hmm] at hi
  have hb:=qQk
  have g1:=zVz (i:=i) (d:=d) (by omega) (by omega)
  by_cases h:a+d≤i
  ·have e:(Tm.v i).sh (a+d) (.ofNat z) = .v (i+z):=by simp only [Tm.sh,if_pos h];rfl
   rw [e]
   have g2:(!ltI (Int.ofNat i - .ofNat d) (.ofNat a))=true:=zA6 (by simp;omega)
   have g3:=qQv (a:=i) (b:=z) (by omega)
   exact o3 8 [(17,.n [(9,.y (Int.ofNat i - .ofNat d)),(11,.G),(14,.z (i+z))])] g1 g2 g3
  ·have e:(Tm.v i).sh (a+d) (.ofNat z) = .v i:=by simp only [Tm.sh,if_neg h]
   rw [e]
   have g2:(!ltI (Int.ofNat i - .ofNat d) (.ofNat a))=false:=zA7 (by simp;omega)
   exact o2 8 [(17,.n [(9,.y (Int.ofNat i - .ofNat d)),(11,.H)])] g1 g2
 | .lam s b,d,hd,hm=>by
  have hd:d+(1+b.cnt)≤mid:=hd
  have hmm:=qQh
  have hb:=qQk
  have g:=qEu a z ha hz b (d+1) (by omega) hm
  exact o3 8 [24,30,(43,.o [5,7,1,2] [] (.pv (b.sh (a+(d+1)) (.ofNat z)).p))] (a95 s) (qQv (a:=d) (b:=1) (by omega)) g
 | .n0 k,d,_,_=>by cases k<;>exact o1 8 [24] qAe
 | .n1 k b,d,hd,hm=>by
  have hd:d+(1+b.cnt)≤mid:=hd
  have g:=qEu a z ha hz b d (by omega) hm
  cases k<;>exact o2 8 [24,(43,.o [5,7,1,2] [] (.pv (b.sh (a+d) (.ofNat z)).p))] qAe g
 | .n2 k b c,d,hd,hm=>by
  have hd:d+(1+b.cnt+c.cnt)≤mid:=hd
  have hm:max b.mx c.mx≤mid * mid:=hm
  have g:=qEu a z ha hz b d (by omega) (by omega)
  have g':=qEu a z ha hz c d (by omega) (by omega)
  cases k<;>exact o3 8 [24,(43,.o [5,7,1,2] [] (.pv (b.sh (a+d) (.ofNat z)).p)),(43,.o [5,7,1,2] [] (.pv (c.sh (a+d) (.ofNat z)).p))] qAe g g'
 | .n3 k s b c e,d,hd,hm=>by
  have hd:d+(1+b.cnt+c.cnt+e.cnt)≤mid:=hd
  have hm:max b.mx (max c.mx e.mx)≤mid * mid:=hm
  have g:=qEu a z ha hz b d (by omega) (by omega)
  have g':=qEu a z ha hz c d (by omega) (by omega)
  have g'':=qEu a z ha hz e d (by omega) (by omega)
  cases k<;>exact o4 8 [24,(43,.o [5,7,1,2] [] (.pv (b.sh (a+d) (.ofNat z)).p)),(43,.o [5,7,1,2] [] (.pv (c.sh (a+d) (.ofNat z)).p)),(43,.o [5,7,1,2] [] (.pv (e.sh (a+d) (.ofNat z)).p))] (a95 s) g g' g''
theorem zBa (t:Tm) (a z:Nat) (ha:a≤mid) (hz:z≤2 * mid) (h1:t.cnt≤mid) (h2:t.mx≤mid * mid):A 331 [t.p,num a,num z] (t.sh a (.ofNat z)).p :=
 f1 [(9,.n [(9,.o [5,7,1,2] [] (.pv (t.sh a (.ofNat z)).p))])] (qEu a z ha hz t 0 (by omega) h2)
structure Sx where
 k:Nat
 i:Nat
 tk:Nat
 te:List (List PV)
 es:List (List PV)
abbrev Sx.c (s:Sx):List PV:=[num s.k,num s.i,num s.tk,.slice s.te,.slice s.es]
abbrev Tm.x (t:Tm):Sx:=⟨t.kd,t.ix,t.tk,t.te,t.es⟩
abbrev Sx.z:Sx:=⟨0,0,0,[],[]⟩
abbrev zCz (a:Nat) (s:Sx):List (Nat × Ob):=obF (.fn 381 [.loc 1 0,.loc 2 0]) [(1,bx [num a]),(2,bx s.c)]
def Lf (s:Sx) (S:Tm):Prop:=∀ n,n≤2 * mid→A 331 [.agg s.c,num 0,num n] (S.sh 0 (.ofNat n)).p
theorem qEv (a:Nat) (s:Sx) (S:Tm) (ha:a≤mid):∀ (t:Tm) (d:Nat),(Lf s S∨t.occ (a+d)=0)→d+t.cnt≤mid→t.mx≤mid * mid→O 386 [.pv t.p,.pv (num d),.loc 5 0,.loc 7 0] (zCz a s) (.pv (t.put a S d).p) (zCz a s)
 | .v i,d,hS,hd,hm=>by
  have hmm:=qQh
  have hi:i≤mid * mid:=hm
  have hd:d+1≤mid:=hd
  rw [hmm] at hi
  have hb:=qQk
  have g1:=zVz (i:=i) (d:=d) (by omega) (by omega)
  by_cases h:i=a+d
  ·have e:(Tm.v i).put a S d=S.sh 0 (.ofNat (a+d)):=by simp only [Tm.put,if_pos h]
   rw [e]
   have g2:eqI (Int.ofNat i - .ofNat d) (.ofNat a)=true:=qR8 (by simp;omega)
   have g3:=qQv (a:=a) (b:=d) (by omega)
   rcases hS with hS|hS
   ·exact o4 8 [(17,.n [(10,.y (Int.ofNat i - .ofNat d)),(14,.G),(18,.z (a+d)),(19,.r (S.sh 0 (.ofNat (a+d))).p)])] g1 g2 g3 (hS (a+d) (by omega))
   grind [Tm.occ]
  ·have g2:eqI (Int.ofNat i - .ofNat d) (.ofNat a)=false:=zKd (by simp;omega)
   by_cases h':a+d<i
   ·have e:(Tm.v i).put a S d = .v (i-1):=by simp only [Tm.put,if_neg h,if_pos h']
    rw [e]
    have g3:ltI (.ofNat a) (Int.ofNat i - .ofNat d)=true:=zA8 (by simp;omega)
    have g4:=qFg (a:=i) (by omega) (by omega)
    exact o4 8 [(17,.n [(10,.y (Int.ofNat i - .ofNat d)),(14,.H),(23,.G),(25,.z (i-1))])] g1 g2 g3 g4
   ·have e:(Tm.v i).put a S d = .v i:=by simp only [Tm.put,if_neg h,if_neg h']
    rw [e]
    have g3:ltI (.ofNat a) (Int.ofNat i - .ofNat d)=false:=zA9 (by simp;omega)
    exact o3 8 [(17,.n [(10,.y (Int.ofNat i - .ofNat d)),(14,.H),(23,.H)])] g1 g2 g3
 | .lam s b,d,hS,hd,hm=>by
  have hd:d+(1+b.cnt)≤mid:=hd
  have hmm:=qQh
  have hb:=qQk
  have g:=qEv a _ S ha b (d+1) hS (by omega) hm
  exact o3 8 [24,30,(43,.o [5,7,1,2] [] (.pv (b.put a S (d+1)).p))] (a95 s) (qQv (a:=d) (b:=1) (by omega)) g
 | .n0 k,d,_,_,_=>by cases k<;>exact o1 8 [24] qAe
 | .n1 k b,d,hS,hd,hm=>by
  have hd:d+(1+b.cnt)≤mid:=hd
  have g:=qEv a s S ha b d hS (by omega) hm
  cases k<;>exact o2 8 [24,(43,.o [5,7,1,2] [] (.pv (b.put a S d).p))] qAe g
 | .n2 k b c,d,hS,hd,hm=>by
  have hd:d+(1+b.cnt+c.cnt)≤mid:=hd
  have hm:max b.mx c.mx≤mid * mid:=hm
  have hS:Lf s S∨b.occ (a+d)+c.occ (a+d)=0:=hS
  have g:=qEv a s S ha b d (hS.imp id (by omega)) (by omega) (by omega)
  have g':=qEv a s S ha c d (hS.imp id (by omega)) (by omega) (by omega)
  cases k<;>exact o3 8 [24,(43,.o [5,7,1,2] [] (.pv (b.put a S d).p)),(43,.o [5,7,1,2] [] (.pv (c.put a S d).p))] qAe g g'
 | .n3 k u b c e,d,hS,hd,hm=>by
  have hd:d+(1+b.cnt+c.cnt+e.cnt)≤mid:=hd
  have hm:max b.mx (max c.mx e.mx)≤mid * mid:=hm
  have hS:Lf s S∨b.occ (a+d)+c.occ (a+d)+e.occ (a+d)=0:=hS
  have g:=qEv a s S ha b d (hS.imp id (by omega)) (by omega) (by omega)
  have g':=qEv a s S ha c d (hS.imp id (by omega)) (by omega) (by omega)
  have g'':=qEv a s S ha e d (hS.imp id (by omega)) (by omega) (by omega)
  cases k<;>exact o4 8 [24,(43,.o [5,7,1,2] [] (.pv (b.put a S d).p)),(43,.o [5,7,1,2] [] (.pv (c.put a S d).p)),(43,.o [5,7,1,2] [] (.pv (e.put a S d).p))] (a95 u) g g' g''
theorem zC0 (t:Tm) (a:Nat) (s:Sx) (S:Tm) (hS:Lf s S∨t.occ a=0) (ha:a≤mid) (h1:t.cnt≤mid) (h2:t.mx≤mid * mid):A 358 [t.p,num a,.agg s.c] (t.put a S 0).p :=
 f1 [(9,.n [(9,.o [5,7,1,2] [] (.pv (t.put a S 0).p))])] (qEv a s S ha t 0 hS (by omega) h2)
theorem Lf.of (S:Tm) (h1:S.cnt≤mid) (h2:S.mx≤mid * mid) (B:∀ n,n≤2 * mid→A 331 [S.p,num 0,num n] (S.sh 0 (.ofNat n)).p):Lf S.x S:=B
theorem qPt:∀ t:Tm,A 200 [t.p] t.p
 | .v i=>f1 [12] qAe
 | .lam s b=>f2 [12,24] (a95 s) (qPt b)
 | .n0 k=>by cases k<;>exact f1 [12] qAe
 | .n1 k b=>by have g:=qPt b;cases k<;>exact f2 [12,24] qAe g
 | .n2 k b c=>by have g:=qPt b;have g':=qPt c;cases k<;>exact f3 [12,24,24] qAe g g'
 | .n3 k s b c d=>by have g:=qPt b;have g':=qPt c;have g'':=qPt d;cases k<;>exact f4 [12,24,24,24] (a95 s) g g' g''
open Go.Lg
set_option maxRecDepth 100000
abbrev far:Nat:=536870912
def nrF:Bool→Tm→Bool
 | b,.v i=>match b with
  | true => !ltI (.ofNat far) (.ofNat i)
  | false=>false
 | b,.lam _ t=>nrF b t
 | b,.n0 _=>b
 | b,.n1 _ t=>nrF b t
 | b,.n2 _ t u=>nrF (nrF b t) u
 | b,.n3 _ _ t u w=>nrF (nrF (nrF b t) u) w
theorem qWp:∀ (t:Tm),t.mx≤far→nrF true t=true
 | .v i,h=>by
  have h:i≤far:=h
  show (!ltI (.ofNat far) (.ofNat i))=true
  rw [qZ4 h];rfl
 | .lam _ t,h=>qWp t h
 | .n0 _,_=>rfl
 | .n1 _ t,h=>qWp t h
 | .n2 _ t u,h=>by
  have h:max t.mx u.mx≤far:=h
  simp only [nrF,qWp t (by omega),qWp u (by omega)]
 | .n3 _ _ t u w,h=>by
  have h:max t.mx (max u.mx w.mx)≤far:=h
  simp only [nrF,qWp t (by omega),qWp u (by omega),qWp w (by omega)]
abbrev ut:PV:=.tuple []
abbrev obE (i j:Nat) (c:V) (own:List (Nat × Ob)):List (Nat × Ob):=(i,.box [c])::(j,.box [.fn 353 [.loc i 0,.loc j 0]])::own
abbrev obN (b:Bool):List (Nat × Ob):=obE 3 4 (.fn 366 [.loc 1 0]) [(1,bx [.bool b])]
abbrev chN (b:Bool):List (Nat × Ob):=[(1,bx [.bool b])]
theorem qEw:∀ (t:Tm) (b:Bool) (d:Nat),d+t.cnt≤mid→O 353 [.pv t.p,.pv (num d),.loc 3 0,.loc 4 0] (obN b) (.pv ut) (obN (nrF b t))
 | .v i,b,d,hd=>by
  cases b
  ·exact o0 5 []
  ·show O 353 _ _ _ (obN (!ltI (.ofNat far) (.ofNat i)))
   cases e : !ltI (.ofNat far) (.ofNat i)
   ·exact o1 5 [(15,.n [(8,.H)])] e
   ·exact o1 5 [(15,.n [(8,.G)])] e
 | .lam s a,b,d,hd=>by
  have hd:d+(1+a.cnt)≤mid:=hd
  have hm:=qQh
  have hb:=qQk
  exact o2 5 [20,(31,.o [3,4] (chN (nrF b a)) (.pv ut))] (qQv (a:=d) (b:=1) (by omega)) (qEw a b (d+1) (by omega))
 | .n0 k,b,d,hd=>by cases k<;>exact o0 5 []
 | .n1 k a,b,d,hd=>by
  have hd:d+(1+a.cnt)≤mid:=hd
  have g:=qEw a b d (by omega)
  cases k<;>exact o1 5 [(31,.o [3,4] (chN (nrF b a)) (.pv ut))] g
 | .n2 k a c,b,d,hd=>by
  have hd:d+(1+a.cnt+c.cnt)≤mid:=hd
  have g:=qEw a b d (by omega)
  have g':=qEw c (nrF b a) d (by omega)
  cases k<;>exact o2 5 [(31,.o [3,4] (chN (nrF b a)) (.pv ut)),(31,.o [3,4] (chN (nrF (nrF b a) c)) (.pv ut))] g g'
 | .n3 k s a c e,b,d,hd=>by
  have hd:d+(1+a.cnt+c.cnt+e.cnt)≤mid:=hd
  have g:=qEw a b d (by omega)
  have g':=qEw c (nrF b a) d (by omega)
  have g'':=qEw e (nrF (nrF b a) c) d (by omega)
  cases k<;>exact o3 5 [(31,.o [3,4] (chN (nrF b a)) (.pv ut)),(31,.o [3,4] (chN (nrF (nrF b a) c)) (.pv ut)),(31,.o [3,4] (chN (nrF (nrF (nrF b a) c) e)) (.pv ut))] g g' g''
theorem a298 (t:Tm) (h:t.cnt≤mid):A 336 [t.p] (.bool (nrF true t)) :=
 f1 [(6,.n [(8,.o [3,4] (chN (nrF true t)) (.pv ut))])] (qEw t true 0 (by omega))
abbrev obC (a n:Nat):List (Nat × Ob):=obE 4 5 (.fn 380 [.loc 1 0,.loc 2 0]) [(1,bx [num a]),(2,bx [num n])]
abbrev chC (n:Nat):List (Nat × Ob):=[(2,bx [num n])]
theorem qEx (a:Nat) (ha:a≤mid):∀ (t:Tm) (n d:Nat),d+t.cnt≤mid→t.mx≤mid * mid→n+t.cnt≤big→O 353 [.pv t.p,.pv (num d),.loc 4 0,.loc 5 0] (obC a n) (.pv ut) (obC a (n+t.occ (a+d)))
 | .v i,n,d,hd,hm,hn=>by
  have hmm:=qQh
  have hi:i≤mid * mid:=hm
  have hd:d+1≤mid:=hd
  have hn:n+1≤big:=hn
  rw [hmm] at hi
  have hb:=qQk
  have g1:=zVz (i:=i) (d:=d) (by omega) (by omega)
  by_cases h:i=a+d
  ·have g2:eqI (Int.ofNat i - .ofNat d) (.ofNat a)=true:=qR8 (by simp;omega)
   have e:(Tm.v i).occ (a+d)=1:=by simp only [Tm.occ,if_pos h]
   rw [e]
   exact o3 6 [(15,.n [(8,.y (Int.ofNat i - .ofNat d)),(10,.G),(12,.z (n+1))])] g1 g2 (qQv (a:=n) (b:=1) (by omega))
  ·have g2:eqI (Int.ofNat i - .ofNat d) (.ofNat a)=false:=zKd (by simp;omega)
   have e:(Tm.v i).occ (a+d)=0:=by simp only [Tm.occ,if_neg h]
   rw [e]
   exact o2 6 [(15,.n [(8,.y (Int.ofNat i - .ofNat d)),(10,.H)])] g1 g2
 | .lam s b,n,d,hd,hm,hn=>by
  have hd:d+(1+b.cnt)≤mid:=hd
  have hn:n+(1+b.cnt)≤big:=hn
  have hmm:=qQh
  have hb:=qQk
  exact o2 6 [20,(31,.o [4,5,1] (chC (n+b.occ (a+(d+1)))) (.pv ut))] (qQv (a:=d) (b:=1) (by omega)) (qEx a ha b n (d+1) (by omega) hm (by omega))
 | .n0 k,n,d,_,_,_=>by cases k<;>exact o0 6 []
 | .n1 k b,n,d,hd,hm,hn=>by
  have hd:d+(1+b.cnt)≤mid:=hd
  have hn:n+(1+b.cnt)≤big:=hn
  have g:=qEx a ha b n d (by omega) hm (by omega)
  cases k<;>exact o1 6 [(31,.o [4,5,1] (chC (n+b.occ (a+d))) (.pv ut))] g
 | .n2 k b c,n,d,hd,hm,hn=>by
  have hd:d+(1+b.cnt+c.cnt)≤mid:=hd
  have hn:n+(1+b.cnt+c.cnt)≤big:=hn
  have hm:max b.mx c.mx≤mid * mid:=hm
  have:=qQp b (a+d)
  have g:=qEx a ha b n d (by omega) (by omega) (by omega)
  have g':=qEx a ha c (n+b.occ (a+d)) d (by omega) (by omega) (by omega)
  have e:n+(Tm.n2 k b c).occ (a+d)=n+b.occ (a+d)+c.occ (a+d):=(Nat.add_assoc _ _ _).symm
  rw [e]
  cases k<;>exact o2 6 [(31,.o [4,5,1] (chC (n+b.occ (a+d))) (.pv ut)),(31,.o [4,5,1] (chC (n+b.occ (a+d)+c.occ (a+d))) (.pv ut))] g g'
 | .n3 k s b c f,n,d,hd,hm,hn=>by
  have hd:d+(1+b.cnt+c.cnt+f.cnt)≤mid:=hd
  have hn:n+(1+b.cnt+c.cnt+f.cnt)≤big:=hn
  have hm:max b.mx (max c.mx f.mx)≤mid * mid:=hm
  have:=qQp b (a+d)
  have:=qQp c (a+d)
  have g:=qEx a ha b n d (by omega) (by omega) (by omega)
  have g':=qEx a ha c (n+b.occ (a+d)) d (by omega) (by omega) (by omega)
  have g'':=qEx a ha f (n+b.occ (a+d)+c.occ (a+d)) d (by omega) (by omega) (by omega)
  have e:n+(Tm.n3 k s b c f).occ (a+d)=n+b.occ (a+d)+c.occ (a+d)+f.occ (a+d):=by grind [Tm.occ]
  rw [e]
  cases k<;>exact o3 6 [(31,.o [4,5,1] (chC (n+b.occ (a+d))) (.pv ut)),(31,.o [4,5,1] (chC (n+b.occ (a+d)+c.occ (a+d))) (.pv ut)),(31,.o [4,5,1] (chC (n+b.occ (a+d)+c.occ (a+d)+f.occ (a+d))) (.pv ut))] g g' g''
theorem zC1 (t:Tm) (a:Nat) (ha:a≤mid) (h:t.cnt≤mid) (hm:t.mx≤mid * mid):A 356 [t.p,num a] (num (t.occ a)):=by
 have hmm:=qQh
 have hb:=qQk
 have g:=qEx a ha t 0 0 (by omega) hm (by omega)
 rw [Nat.zero_add] at g
 exact f1 [(8,.n [(8,.o [4,5,1] (chC (t.occ a)) (.pv ut))])] g
abbrev oLf (a z:Nat):List (Nat × Ob):=[(1,bx [num a]),(2,bx [num z])]
theorem qR9 (a z:Nat) (ha:a≤mid) (hz:z≤2 * mid):∀ (f:Fm) (d:Nat),a+d+f.cnt≤mid→f.mx≤mid * mid→O 198 [.pv f.p,.pv (num d),.fn 330 [.loc 1 0,.loc 2 0]] (oLf a z) (.pv (f.sh (a+d) (.ofNat z)).p) (oLf a z)
 | .eq t u,d,hd,hm=>by
  have hmm:=qQh
  have hb:=qQk
  have hd:a+d+(1+t.cnt+u.cnt)≤mid:=hd
  have hm:max t.mx u.mx≤mid * mid:=hm
  have g:=qQv (a:=a) (b:=d) (by omega)
  have g1:=zBa t (a+d) z (by omega) hz (by omega) (by omega)
  have g2:=zBa u (a+d) z (by omega) hz (by omega) (by omega)
  exact o5 3 [16,(30,.n [(10,.z (a+d)),(12,.r (t.sh (a+d) (.ofNat z)).p)]),(30,.n [(10,.z (a+d)),(12,.r (u.sh (a+d) (.ofNat z)).p)])] qAe g g1 g g2
 | .bin k f g,d,hd,hm=>by
  have hd:a+d+(1+f.cnt+g.cnt)≤mid:=hd
  have hm:max f.mx g.mx≤mid * mid:=hm
  have g1:=qR9 a z ha hz f d (by omega) (by omega)
  have g2:=qR9 a z ha hz g d (by omega) (by omega)
  cases k<;>exact o3 3 [16,(52,.o [1,2] [] (.pv (f.sh (a+d) (.ofNat z)).p)),(52,.o [1,2] [] (.pv (g.sh (a+d) (.ofNat z)).p))] qAe g1 g2
 | .q k s f,d,hd,hm=>by
  have hmm:=qQh
  have hb:=qQk
  have hd:a+d+(1+f.cnt)≤mid:=hd
  have g:=qQv (a:=d) (b:=1) (by omega)
  have g1:=qR9 a z ha hz f (d+1) (by omega) hm
  cases k<;>exact o3 3 [16,39,(52,.o [1,2] [] (.pv (f.sh (a+(d+1)) (.ofNat z)).p))] (a95 s) g g1
theorem qPu (f:Fm) (a z:Nat) (hz:z≤2 * mid) (h1:a+f.cnt≤mid) (h2:f.mx≤mid * mid):A 273 [f.p,num a,num z] (f.sh a (.ofNat z)).p :=
 f1 [(9,.o [1,2] [] (.pv (f.sh a (.ofNat z)).p))] (qR9 a z (by omega) hz f 0 (by omega) h2)
theorem qK6 (S:Tm):∀ (t:Tm) (c d:Nat),t.put (c+1) S d=t.put c S (d+1)
 | .v i,c,d=>by grind [Tm.put]
 | .lam s b,c,d=>by simp [Tm.put,qK6]
 | .n0 k,c,d=>rfl
 | .n1 k a,c,d=>by simp [Tm.put,qK6]
 | .n2 k a b,c,d=>by simp [Tm.put,qK6]
 | .n3 k s a b e,c,d=>by simp [Tm.put,qK6]
theorem zJa (S:Tm):∀ (f:Fm) (c d:Nat),f.put (c+1) S d=f.put c S (d+1)
 := by intro x;induction x<;>simp_all [Fm.put,qK6]
abbrev oPf (a:Nat) (s:Sx):List (Nat × Ob):=[(1,bx [num a]),(2,bx s.c)]
theorem qSa (a:Nat) (s:Sx) (S:Tm) (ha:a≤mid):∀ (f:Fm) (d:Nat),(Lf s S∨f.occ (a+d)=0)→a+d+f.cnt≤mid→f.mx≤mid * mid→O 198 [.pv f.p,.pv (num d),.fn 357 [.loc 1 0,.loc 2 0]] (oPf a s) (.pv (f.put (a+d) S 0).p) (oPf a s)
 | .eq t u,d,hS,hd,hm=>by
  have hmm:=qQh
  have hb:=qQk
  have hd:a+d+(1+t.cnt+u.cnt)≤mid:=hd
  have hm:max t.mx u.mx≤mid * mid:=hm
  have hS:Lf s S∨t.occ (a+d)+u.occ (a+d)=0:=hS
  have g:=qQv (a:=a) (b:=d) (by omega)
  have g1:=zC0 t (a+d) s S (hS.imp id (by omega)) (by omega) (by omega) (by omega)
  have g2:=zC0 u (a+d) s S (hS.imp id (by omega)) (by omega) (by omega) (by omega)
  exact o5 3 [16,(30,.n [(10,.z (a+d)),(12,.r (t.put (a+d) S 0).p)]),(30,.n [(10,.z (a+d)),(12,.r (u.put (a+d) S 0).p)])] qAe g g1 g g2
 | .bin k f g,d,hS,hd,hm=>by
  have hd:a+d+(1+f.cnt+g.cnt)≤mid:=hd
  have hm:max f.mx g.mx≤mid * mid:=hm
  have hS:Lf s S∨f.occ (a+d)+g.occ (a+d)=0:=hS
  have g1:=qSa a s S ha f d (hS.imp id (by omega)) (by omega) (by omega)
  have g2:=qSa a s S ha g d (hS.imp id (by omega)) (by omega) (by omega)
  cases k<;>exact o3 3 [16,(52,.o [1,2] [] (.pv (f.put (a+d) S 0).p)),(52,.o [1,2] [] (.pv (g.put (a+d) S 0).p))] qAe g1 g2
 | .q k u f,d,hS,hd,hm=>by
  have hmm:=qQh
  have hb:=qQk
  have hd:a+d+(1+f.cnt)≤mid:=hd
  have g:=qQv (a:=d) (b:=1) (by omega)
  have g1:=qSa a s S ha f (d+1) hS (by omega) hm
  have e:f.put (a+(d+1)) S 0=f.put (a+d) S (0+1):=zJa S f (a+d) 0
  rw [e] at g1
  cases k<;>exact o3 3 [16,39,(52,.o [1,2] [] (.pv (f.put (a+d) S (0+1)).p))] (a95 u) g g1
theorem zKe (f:Fm) (a:Nat) (s:Sx) (S:Tm) (hS:Lf s S∨f.occ a=0) (h1:a+f.cnt≤mid) (h2:f.mx≤mid * mid):A 326 [f.p,num a,.agg s.c] (f.put a S 0).p :=
 f1 [(9,.o [1,2] [] (.pv (f.put a S 0).p))] (qSa a s S (by omega) f 0 hS (by omega) h2)
theorem qSb:∀ (f:Fm) (d:Nat),d+f.cnt≤mid→O 198 [.pv f.p,.pv (num d),.fn 199 []] [] (.pv f.p) []
 | .eq t u,d,hd=>o3 0 [16,(30,.n [(6,.r t.p)]),(30,.n [(6,.r u.p)])] qAe (qPt t) (qPt u)
 | .bin k f g,d,hd=>by
  have hd:d+(1+f.cnt+g.cnt)≤mid:=hd
  have g1:=qSb f d (by omega)
  have g2:=qSb g d (by omega)
  cases k<;>exact o3 0 [16,(52,.o [] [] (.pv f.p)),(52,.o [] [] (.pv g.p))] qAe g1 g2
 | .q k s f,d,hd=>by
  have hmm:=qQh
  have hb:=qQk
  have hd:d+(1+f.cnt)≤mid:=hd
  have g:=qQv (a:=d) (b:=1) (by omega)
  have g1:=qSb f (d+1) (by omega)
  cases k<;>exact o3 0 [16,39,(52,.o [] [] (.pv f.p))] (a95 s) g g1
theorem zEf (f:Fm) (h:f.cnt≤mid):A 118 [f.p] f.p:=f1 [(4,.o [] [] (.pv f.p))] (qSb f 0 (by omega))
def nr2 (b:Bool) (t:Tm):Bool:=match b with
 | true=>nrF true t
 | false=>false
def qH3:Bool→Fm→Bool
 | b,.eq t u=>nr2 (nr2 b t) u
 | b,.bin _ f g=>qH3 (qH3 b f) g
 | b,.q _ _ f=>qH3 b f
theorem qC1:∀ (f:Fm),f.mx≤far→qH3 true f=true
 | .eq t u,h=>by
  have h:max t.mx u.mx≤far:=h
  grind [qH3,nr2,qWp]
 | .bin _ f g,h=>by
  have h:max f.mx g.mx≤far:=h
  simp only [qH3,qC1 f (by omega),qC1 g (by omega)]
 | .q _ _ f,h=>qC1 f h
theorem zC2 (t:Tm) (b:Bool) (d:Nat) (h:t.cnt≤mid):O 365 [.pv t.p,.pv (num d),.loc 1 0] (chN b) (.pv ut) (chN (nr2 b t)):=by
 cases b
 ·exact o0 2 []
 ·exact o1 2 [8] (a298 t h)
theorem qSc:∀ (f:Fm) (b:Bool) (d:Nat),d+f.cnt≤mid→O 354 [.pv f.p,.pv (num d),.fn 365 [.loc 1 0]] (chN b) (.pv ut) (chN (qH3 b f))
 | .eq t u,b,d,hd=>by
  have hd:d+(1+t.cnt+u.cnt)≤mid:=hd
  exact o2 2 [(20,.o [] (chN (nr2 b t)) (.pv ut)),(20,.o [] (chN (nr2 (nr2 b t) u)) (.pv ut))] (zC2 t b d (by omega)) (zC2 u (nr2 b t) d (by omega))
 | .bin k f g,b,d,hd=>by
  have hd:d+(1+f.cnt+g.cnt)≤mid:=hd
  have g1:=qSc f b d (by omega)
  have g2:=qSc g (qH3 b f) d (by omega)
  cases k<;>exact o2 2 [(37,.o [] (chN (qH3 b f)) (.pv ut)),(37,.o [] (chN (qH3 (qH3 b f) g)) (.pv ut))] g1 g2
 | .q k s f,b,d,hd=>by
  have hmm:=qQh
  have hb:=qQk
  have hd:d+(1+f.cnt)≤mid:=hd
  have g:=qQv (a:=d) (b:=1) (by omega)
  have g1:=qSc f b (d+1) (by omega)
  cases k<;>exact o2 2 [26,(37,.o [] (chN (qH3 b f)) (.pv ut))] g g1
theorem a295 (f:Fm) (h:f.cnt≤mid):A 333 [f.p] (.bool (qH3 true f)) :=
 f1 [(6,.o [] (chN (qH3 true f)) (.pv ut))] (qSc f true 0 (by omega))
theorem zC3 (t:Tm) (a n d:Nat) (ha:a+d≤mid) (h:t.cnt≤mid) (hm:t.mx≤mid * mid) (hn:n+t.cnt≤big):O 355 [.pv t.p,.pv (num d),.loc 2 0,.loc 1 0] [(1,bx [num a]),(2,bx [num n])] (.pv ut) [(1,bx [num a]),(2,bx [num (n+t.occ (a+d))])]:=by
 have hmm:=qQh
 have hb:=qQk
 have:=qQp t (a+d)
 have g:=qQv (a:=a) (b:=d) (by omega)
 have g':=qQv (a:=n) (b:=t.occ (a+d)) (by omega)
 exact o3 3 [10,11,12] g (zC1 t (a+d) ha h hm) g'
theorem qSd (a:Nat):∀ (f:Fm) (n d:Nat),a+d+f.cnt≤mid→f.mx≤mid * mid→n+f.cnt≤big→O 354 [.pv f.p,.pv (num d),.fn 355 [.loc 2 0,.loc 1 0]] [(1,bx [num a]),(2,bx [num n])] (.pv ut) [(1,bx [num a]),(2,bx [num (n+f.occ (a+d))])]
 | .eq t u,n,d,hd,hm,hn=>by
  have hd:a+d+(1+t.cnt+u.cnt)≤mid:=hd
  have hm:max t.mx u.mx≤mid * mid:=hm
  have hn:n+(1+t.cnt+u.cnt)≤big:=hn
  have:=qQp t (a+d)
  have g1:=zC3 t a n d (by omega) (by omega) (by omega) (by omega)
  have g2:=zC3 u a (n+t.occ (a+d)) d (by omega) (by omega) (by omega) (by omega)
  have e:n+(Fm.eq t u).occ (a+d)=n+t.occ (a+d)+u.occ (a+d):=(Nat.add_assoc _ _ _).symm
  rw [e]
  exact o2 3 [(20,.o [1] (chC (n+t.occ (a+d))) (.pv ut)),(20,.o [1] (chC (n+t.occ (a+d)+u.occ (a+d))) (.pv ut))] g1 g2
 | .bin k f g,n,d,hd,hm,hn=>by
  have hd:a+d+(1+f.cnt+g.cnt)≤mid:=hd
  have hm:max f.mx g.mx≤mid * mid:=hm
  have hn:n+(1+f.cnt+g.cnt)≤big:=hn
  have:=qJj f (a+d)
  have g1:=qSd a f n d (by omega) (by omega) (by omega)
  have g2:=qSd a g (n+f.occ (a+d)) d (by omega) (by omega) (by omega)
  have e:n+(Fm.bin k f g).occ (a+d)=n+f.occ (a+d)+g.occ (a+d):=(Nat.add_assoc _ _ _).symm
  rw [e]
  cases k<;>exact o2 3 [(37,.o [1] (chC (n+f.occ (a+d))) (.pv ut)),(37,.o [1] (chC (n+f.occ (a+d)+g.occ (a+d))) (.pv ut))] g1 g2
 | .q k s f,n,d,hd,hm,hn=>by
  have hmm:=qQh
  have hb:=qQk
  have hd:a+d+(1+f.cnt)≤mid:=hd
  have hn:n+(1+f.cnt)≤big:=hn
  have g:=qQv (a:=d) (b:=1) (by omega)
  have g1:=qSd a f n (d+1) (by omega) hm (by omega)
  cases k<;>exact o2 3 [26,(37,.o [1] (chC (n+f.occ (a+(d+1)))) (.pv ut))] g g1
theorem zKf (f:Fm) (a:Nat) (h:a+f.cnt≤mid) (hm:f.mx≤mid * mid):A 325 [f.p,num a] (num (f.occ a)):=by
 have hmm:=qQh
 have hb:=qQk
 have g:=qSd a f 0 0 (by omega) hm (by omega)
 rw [Nat.zero_add] at g
 exact f1 [(8,.o [1] (chC (f.occ a)) (.pv ut))] g
open Go.Lg
set_option maxRecDepth 100000
def Tm.fr:Tm→Nat
 | .v i=>i+1
 | .lam _ b=>b.fr-1
 | .n0 _=>0
 | .n1 _ a=>a.fr
 | .n2 _ a b=>max a.fr b.fr
 | .n3 _ _ a b c=>max (max a.fr b.fr) c.fr
def Tm.nf:Tm→Bool
 | .v _=>true
 | .lam _ b=>b.nf
 | .n0 _=>true
 | .n1 k a=>(Tm.n1 k a).red.isNone && a.nf
 | .n2 k a b=>(Tm.n2 k a b).red.isNone && (a.nf && b.nf)
 | .n3 k s a b c=>(Tm.n3 k s a b c).red.isNone && (a.nf && (b.nf && c.nf))
def Tm.nas:Tm→List (List PV)
 | .lam _ b=>[[.nptr [num b.kd,num b.ix,num b.tk,.slice b.te,.slice b.nas,num b.cnt,num b.fr,.flg b.nf]]]
 | .n1 _ a=>[[.nptr [num a.kd,num a.ix,num a.tk,.slice a.te,.slice a.nas,num a.cnt,num a.fr,.flg a.nf]]]
 | .n2 _ a b=>[[.nptr [num a.kd,num a.ix,num a.tk,.slice a.te,.slice a.nas,num a.cnt,num a.fr,.flg a.nf]],[.nptr [num b.kd,num b.ix,num b.tk,.slice b.te,.slice b.nas,num b.cnt,num b.fr,.flg b.nf]]]
 | .n3 _ _ a b c=>[[.nptr [num a.kd,num a.ix,num a.tk,.slice a.te,.slice a.nas,num a.cnt,num a.fr,.flg a.nf]],[.nptr [num b.kd,num b.ix,num b.tk,.slice b.te,.slice b.nas,num b.cnt,num b.fr,.flg b.nf]],[.nptr [num c.kd,num c.ix,num c.tk,.slice c.te,.slice c.nas,num c.cnt,num c.fr,.flg c.nf]]]
 | _=>[]
abbrev Tm.nd' (t:Tm):PV:=.nptr [num t.kd,num t.ix,num t.tk,.slice t.te,.slice t.nas,num t.cnt,num t.fr,.flg t.nf]
theorem zKg:∀ (t:Tm) (n:Nat),t.sc n↔t.fr≤n
 := by intro x;induction x<;>grind [Tm.sc,Tm.fr]
theorem qEy (z:Int):∀ (t:Tm) (c:Nat),t.fr≤c→t.sh c z=t
 | .v i,c,h=>by simp only [Tm.fr] at h;simp only [Tm.sh,if_neg (show ¬ c≤i by omega)]
 | .lam s b,c,h=>by simp only [Tm.fr] at h;simp only [Tm.sh,qEy z b (c+1) (by omega)]
 | .n0 k,c,h=>rfl
 | .n1 k a,c,h=>by simp only [Tm.sh,qEy z a c h]
 | .n2 k a b,c,h=>by simp only [Tm.fr] at h;simp only [Tm.sh,qEy z a c (by omega),qEy z b c (by omega)]
 | .n3 k s a b d,c,h=>by simp only [Tm.fr] at h;simp only [Tm.sh,qEy z a c (by omega),qEy z b c (by omega),qEy z d c (by omega)]
theorem qPv:∀ (t:Tm) (c:Nat),t.sh c (.ofNat 0)=t
 | .v i,c=>by simp [Tm.sh]
 | .lam s b,c=>by simp only [Tm.sh,qPv b]
 | .n0 k,c=>rfl
 | .n1 k a,c=>by simp only [Tm.sh,qPv a]
 | .n2 k a b,c=>by simp only [Tm.sh,qPv a,qPv b]
 | .n3 k s a b d,c=>by simp only [Tm.sh,qPv a,qPv b,qPv d]
theorem qXi (c:Nat) (S:Tm):∀ (t:Tm) (d:Nat),t.fr≤c+d→t.put c S d=t
 | .v i,d,h=>by simp only [Tm.fr] at h;simp only [Tm.put,if_neg (show ¬ i=c+d by omega),if_neg (show ¬ c+d<i by omega)]
 | .lam s b,d,h=>by simp only [Tm.fr] at h;simp only [Tm.put,qXi c S b (d+1) (by omega)]
 | .n0 k,d,h=>rfl
 | .n1 k a,d,h=>by simp only [Tm.put,qXi c S a d h]
 | .n2 k a b,d,h=>by simp only [Tm.fr] at h;simp only [Tm.put,qXi c S a d (by omega),qXi c S b d (by omega)]
 | .n3 k s a b e,d,h=>by simp only [Tm.fr] at h;simp only [Tm.put,qXi c S a d (by omega),qXi c S b d (by omega),qXi c S e d (by omega)]
theorem qXj:∀ (t:Tm) (c:Nat),t.fr≤c→t.occ c=0
 | .v i,c,h=>by simp only [Tm.fr] at h;simp only [Tm.occ,if_neg (show ¬ i=c by omega)]
 | .lam s b,c,h=>by simp only [Tm.fr] at h;simp only [Tm.occ,qXj b (c+1) (by omega)]
 | .n0 k,c,h=>rfl
 | .n1 k a,c,h=>by simp only [Tm.occ,qXj a c h]
 | .n2 k a b,c,h=>by simp only [Tm.fr] at h;simp only [Tm.occ,qXj a c (by omega),qXj b c (by omega)]
 | .n3 k s a b d,c,h=>by simp only [Tm.fr] at h;simp only [Tm.occ,qXj a c (by omega),qXj b c (by omega),qXj d c (by omega)]
theorem qSe:∀ t:Tm,t.fr≤t.mx+1
 := by intro x;induction x<;>grind [Tm.fr,Tm.mx]
theorem qC2:∀ (t:Tm) (n:Nat),t.sc n→t.mx≤n+t.cnt
 := by intro x;induction x<;>grind [Tm.sc,Tm.mx,Tm.cnt]
theorem zKh:∀ (t:Tm) {n m:Nat},n≤m→t.sc n→t.sc m:=fun t n m h h'=>(zKg t m).2 (Nat.le_trans ((zKg t n).1 h') h)
theorem qAq (z:Nat):∀ (t:Tm) (c n:Nat),t.sc n→(t.sh c (.ofNat z)).sc (n+z)
 | .v i,c,n,h=>by
  have h:i<n:=h
  simp only [Tm.sh]
  split
  ·show ((Int.ofNat i + .ofNat z).toNat)<n+z
   have:(Int.ofNat i + .ofNat z).toNat=i+z:=rfl
   omega
  ·show i<n+z
   omega
 | .lam s b,c,n,h=>by
  have:=qAq z b (c+1) (n+1) h
  rw [show n+1+z=n+z+1 by omega] at this
  exact this
 | .n0 k,c,n,h=>trivial
 | .n1 k a,c,n,h=>qAq z a c n h
 | .n2 k a b,c,n,h=>⟨qAq z a c n h.1,qAq z b c n h.2⟩
 | .n3 k s a b d,c,n,h=>⟨qAq z a c n h.1,qAq z b c n h.2.1,qAq z d c n h.2.2⟩
theorem qWq (S:Tm) (n:Nat):∀ (t:Tm) (d:Nat),t.sc (n+d+1)→(S.sc n∨t.occ d=0)→(t.put 0 S d).sc (n+d)
 | .v i,d,h,hS=>by
  have h:i<n+d+1:=h
  simp only [Tm.put,Nat.zero_add]
  split
  ·rcases hS with hS|hS
   ·exact qAq d S 0 n hS
   grind [Tm.occ]
  ·split
   ·show i-1<n+d
    omega
   ·show i<n+d
    omega
 | .lam s b,d,h,hS=>by
  have:=qWq S n b (d+1) (by exact h) hS
  exact this
 | .n0 k,d,h,hS=>trivial
 | .n1 k a,d,h,hS=>qWq S n a d h hS
 | .n2 k a b,d,h,hS=>by
  simp only [Tm.occ] at hS
  exact⟨qWq S n a d h.1 (hS.imp id (by omega)),qWq S n b d h.2 (hS.imp id (by omega))⟩
 | .n3 k s a b e,d,h,hS=>by
  simp only [Tm.occ] at hS
  exact⟨qWq S n a d h.1 (hS.imp id (by omega)),qWq S n b d h.2.1 (hS.imp id (by omega)),qWq S n e d h.2.2 (hS.imp id (by omega))⟩
theorem qEz (z w:Nat):∀ (t:Tm) (c:Nat),(t.sh c (.ofNat z)).sh c (.ofNat w)=t.sh c (.ofNat (z+w))
 | .v i,c=>by
  simp only [Tm.sh]
  split
  ·have e:(Int.ofNat i + .ofNat z).toNat=i+z:=rfl
   simp only [Tm.sh,e,if_pos (show c≤i+z by omega)]
   have e1:(Int.ofNat (i+z) + .ofNat w).toNat=i+z+w:=rfl
   have e2:(Int.ofNat i + .ofNat (z+w)).toNat=i+(z+w):=rfl
   rw [e1,e2,Nat.add_assoc]
  ·rename_i h
   simp only [Tm.sh,if_neg h]
 | .lam s b,c=>by simp only [Tm.sh,qEz z w b]
 | .n0 k,c=>rfl
 | .n1 k a,c=>by simp only [Tm.sh,qEz z w a]
 | .n2 k a b,c=>by simp only [Tm.sh,qEz z w a,qEz z w b]
 | .n3 k s a b d,c=>by simp only [Tm.sh,qEz z w a,qEz z w b,qEz z w d]
theorem zKi (n:Nat):∀ {t r:Tm},t.red=some r→t.sc n→t.shp=true→r.sc n∧r.shp=true:=by
 refine @qVw (fun t r=>t.sc n→t.shp=true→r.sc n∧r.shp=true) ?_ ?_ ?_ ?_ ?_ ?_ ?_
 ·intro a b h hs
  exact⟨h.1,(qZ1 hs).1⟩
 ·intro a b h hs
  exact⟨h.2,(qZ1 hs).2⟩
 ·intro s b a h hs
  obtain⟨h1,h2⟩:=qZ1 hs
  obtain⟨_,h3⟩:=qZ1 h1
  exact⟨qWq a n b 0 h.1 (.inl h.2),qJy 0 a b 0 (.inl h2) h3⟩
 ·intro s b f h hs
  obtain⟨_,h2⟩:=qZ1 hs
  exact⟨h.1,(qZ1 h2).1⟩
 ·intro s b f m h hs
  obtain⟨h1,h2⟩:=qZ1 hs
  obtain⟨h2,h3⟩:=qZ1 h2
  obtain⟨h3,h4⟩:=qZ1 h3
  have h4:m.shp=true:=h4
  refine⟨⟨⟨h.2.1,h.2.2⟩,h.1,h.2.1,h.2.2⟩,?_⟩
  show ((_ && _) && (_ && (_ && (_ && _))))=true
  rw [h1,h2,h3,h4];rfl
 ·intro s b f h hs
  obtain⟨_,h2⟩:=qZ1 hs
  exact⟨h.1,(qZ1 h2).1⟩
 ·intro s b f x l h hs
  obtain⟨h1,h2⟩:=qZ1 hs
  obtain⟨h2,h3⟩:=qZ1 h2
  obtain⟨h3,h4⟩:=qZ1 h3
  obtain⟨h4,h5⟩:=qZ1 h4
  have h':=h.2.2
  refine⟨⟨⟨⟨h.2.1,h'.1⟩,h'.2⟩,h.1,h.2.1,h'.2⟩,?_⟩
  show (((_ && _) && _) && (_ && (_ && (_ && _))))=true
  rw [h1,h2,h3,h4,h5];rfl
open Go.Lg
set_option maxRecDepth 100000
theorem qE0:∀ (f:Fm) (n:Nat),f.sc n→f.mx≤n+f.cnt
 | .eq a b,n,h=>by have:=qC2 a n h.1;have:=qC2 b n h.2;grind [Fm.mx,Fm.cnt]
 | .bin k a b,n,h=>by have:=qE0 a n h.1;have:=qE0 b n h.2;grind [Fm.mx,Fm.cnt]
 | .q k s a,n,h=>by have:=qE0 a (n+1) h;grind [Fm.mx,Fm.cnt]
theorem qH4:∀ (f:Fm) {n m:Nat},n≤m→f.sc n→f.sc m
 | .eq a b,n,m,h,h'=>⟨zKh a h h'.1,zKh b h h'.2⟩
 | .bin k a b,n,m,h,h'=>⟨qH4 a h h'.1,qH4 b h h'.2⟩
 | .q k s a,n,m,h,h'=>qH4 a (Nat.succ_le_succ h) h'
theorem qH5 (z:Nat):∀ (f:Fm) (c n:Nat),f.sc n→(f.sh c (.ofNat z)).sc (n+z)
 | .eq a b,c,n,h=>⟨qAq z a c n h.1,qAq z b c n h.2⟩
 | .bin k a b,c,n,h=>⟨qH5 z a c n h.1,qH5 z b c n h.2⟩
 | .q k s a,c,n,h=>by
  have:=qH5 z a (c+1) (n+1) h
  rw [show n+1+z=n+z+1 by omega] at this
  exact this
theorem qK7 (S:Tm) (n:Nat):∀ (f:Fm) (d:Nat),f.sc (n+d+1)→(S.sc n∨f.occ d=0)→(f.put 0 S d).sc (n+d)
 | .eq a b,d,h,hS=>by
  simp only [Fm.occ] at hS
  exact⟨qWq S n a d h.1 (hS.imp id (by omega)),qWq S n b d h.2 (hS.imp id (by omega))⟩
 | .bin k a b,d,h,hS=>by
  simp only [Fm.occ] at hS
  exact⟨qK7 S n a d h.1 (hS.imp id (by omega)),qK7 S n b d h.2 (hS.imp id (by omega))⟩
 | .q k s a,d,h,hS=>by
  exact qK7 S n a (d+1) (by exact h) hS
theorem zKj (z w:Nat):∀ (f:Fm) (c:Nat),(f.sh c (.ofNat z)).sh c (.ofNat w)=f.sh c (.ofNat (z+w))
 := by intro x;induction x<;>grind [Fm.sh,qEz]
theorem zJb:∀ (f:Fm) (c:Nat),f.sh c (.ofNat 0)=f
 := by intro x;induction x<;>grind [Fm.sh,qPv]
structure FK (n:Nat) (f:Fm):Prop where
 cnt:f.cnt≤4096
 shp:f.shp=true
 sc:f.sc n
theorem qZq:∀ t:Tm,t.shp=true→t.tsz≤64
 | .v i,h=>Nat.zero_le _
 | .lam s b,h=>by
  obtain⟨h1,h2⟩:=qZ1 h
  have:=zZ9 h1
  have:=qZq b h2
  grind [Tm.tsz]
 | .n0 k,h=>Nat.zero_le _
 | .n1 k a,h=>qZq a h
 | .n2 k a b,h=>by
  obtain⟨h1,h2⟩:=qZ1 h
  have:=qZq a h1
  have:=qZq b h2
  grind [Tm.tsz]
 | .n3 k s a b d,h=>by
  obtain⟨h1,h2⟩:=qZ1 h
  obtain⟨h2,h3⟩:=qZ1 h2
  obtain⟨h3,h4⟩:=qZ1 h3
  have:=zZ9 h1
  have:=qZq a h2
  have:=qZq b h3
  have:=qZq d h4
  grind [Tm.tsz]
theorem qVj:∀ f:Fm,f.shp=true→f.tsz≤64
 | .eq a b,h=>by
  obtain⟨h1,h2⟩:=qZ1 h
  have:=qZq a h1
  have:=qZq b h2
  grind [Fm.tsz]
 | .bin k a b,h=>by
  obtain⟨h1,h2⟩:=qZ1 h
  have:=qVj a h1
  have:=qVj b h2
  grind [Fm.tsz]
 | .q k s a,h=>by
  obtain⟨h1,h2⟩:=qZ1 h
  have:=zZ9 h1
  have:=qVj a h2
  grind [Fm.tsz]
theorem zYm (a b:Nat):true=true∧(bif ltI (.ofNat a) (.ofNat b) then Int.ofNat b else .ofNat a) = .ofNat (max a b):=by
 grind [qWz,Nat.max_eq_right,qZ4,Nat.max_eq_left]
theorem zKk (b:Nat):true=true∧(bif ltI (.ofNat 0) (.ofNat b) then Int.ofNat b else .ofNat 0) = .ofNat b:=by
 have:=zYm 0 b
 rwa [Nat.zero_max] at this
theorem zEg (b:Nat):true=true∧(bif ltI 0 (.ofNat b-1) then Int.ofNat b-1 else 0) = .ofNat (b-1):=by
 refine⟨rfl,?_⟩
 cases b with
 | zero=>rfl
 | succ n =>
  grind [zKk]
theorem zBb (b:Nat) (h:b≤big):inB (Int.ofNat b-1)=true∧Int.ofNat b-1=Int.ofNat b-1:=by
 have hb:=qQk
 exact⟨zW5 (by simp;omega) (by simp;omega),rfl⟩
theorem qSf (n:Nat) (h:1+n≤big):inB (1+Int.ofNat n)=true∧1+Int.ofNat n=Int.ofNat (1+n):=qQv (a:=1) (b:=n) h
theorem qOa (i:Nat) (h:i+1≤big):A 382 [num 1,num i,zt,.slice []] (Tm.v i).nd' :=
 f1 [53,(300013,.fb 1 (some true))] (qQv (a:=i) (b:=1) h)
theorem zKl (k:K0):A 382 [num k.n,num 0,zt,.slice []] (Tm.n0 k).nd':=by
 cases k<;>exact f0 [(300013,.fb 1 (some true))]
theorem qUd (s:Ty) (b:Tm) (h:1+b.cnt≤big) (h':b.fr≤big):A 382 [num 2,num 0,s.p,.slice [[b.nd']]] (Tm.lam s b).nd' :=
 f4 [(32,.z (1+b.cnt)),(44,.z b.fr),(63,.y (Int.ofNat b.fr-1)),(64,.z (b.fr-1)),(300013,.fb 1 (some b.nf))] (qSf b.cnt h) (zKk b.fr) (zBb b.fr h') (zEg b.fr)
theorem qUe (k:K1) (a:Tm) (h:1+a.cnt≤big):A 382 [num k.n,num 0,zt,.slice [[a.nd']]] (Tm.n1 k a).nd':=by
 have g1:=qSf a.cnt h
 have g2:=zKk a.fr
 cases k with
 | succ=>exact f2 [(32,.z (1+a.cnt)),(44,.z a.fr),(300013,.fb 1 (some (Tm.n1 .succ a).nf))] g1 g2
 | fst=>exact f2 [(32,.z (1+a.cnt)),(44,.z a.fr),(300013,.fb 1 (some (Tm.n1 .fst a).nf))] g1 g2
 | snd=>exact f2 [(32,.z (1+a.cnt)),(44,.z a.fr),(300013,.fb 1 (some (Tm.n1 .snd a).nf))] g1 g2
theorem qE1 (k:K2) (a b:Tm) (h:1+a.cnt+b.cnt≤big):A 382 [num k.n,num 0,zt,.slice [[a.nd'],[b.nd']]] (Tm.n2 k a b).nd':=by
 have g1:=qSf a.cnt (by omega)
 have g2:=zKk a.fr
 have g3:=qQv (a:=1+a.cnt) (b:=b.cnt) h
 have g4:=zYm a.fr b.fr
 cases k with
 | app=>exact f4 [(32,.z (1+a.cnt)),(44,.z a.fr),(32,.z (1+a.cnt+b.cnt)),(44,.z (max a.fr b.fr)),(300013,.fb 1 (some (Tm.n2 .app a b).nf))] g1 g2 g3 g4
 | cons=>exact f4 [(32,.z (1+a.cnt)),(44,.z a.fr),(32,.z (1+a.cnt+b.cnt)),(44,.z (max a.fr b.fr)),(300013,.fb 1 (some (Tm.n2 .cons a b).nf))] g1 g2 g3 g4
 | pair=>exact f4 [(32,.z (1+a.cnt)),(44,.z a.fr),(32,.z (1+a.cnt+b.cnt)),(44,.z (max a.fr b.fr)),(300013,.fb 1 (some (Tm.n2 .pair a b).nf))] g1 g2 g3 g4
theorem qUf (k:K3) (s:Ty) (a b c:Tm) (h:1+a.cnt+b.cnt+c.cnt≤big):A 382 [num k.n,num 0,s.p,.slice [[a.nd'],[b.nd'],[c.nd']]] (Tm.n3 k s a b c).nd':=by
 have g1:=qSf a.cnt (by omega)
 have g2:=zKk a.fr
 have g3:=qQv (a:=1+a.cnt) (b:=b.cnt) (by omega)
 have g4:=zYm a.fr b.fr
 have g5:=qQv (a:=1+a.cnt+b.cnt) (b:=c.cnt) h
 have g6:=zYm (max a.fr b.fr) c.fr
 cases k with
 | re=>exact f6 [(32,.z (1+a.cnt)),(44,.z a.fr),(32,.z (1+a.cnt+b.cnt)),(44,.z (max a.fr b.fr)),(32,.z (1+a.cnt+b.cnt+c.cnt)),(44,.z (max (max a.fr b.fr) c.fr)),(300013,.fb 1 (some (Tm.n3 .re s a b c).nf))] g1 g2 g3 g4 g5 g6
 | fo=>exact f6 [(32,.z (1+a.cnt)),(44,.z a.fr),(32,.z (1+a.cnt+b.cnt)),(44,.z (max a.fr b.fr)),(32,.z (1+a.cnt+b.cnt+c.cnt)),(44,.z (max (max a.fr b.fr) c.fr)),(300013,.fb 1 (some (Tm.n3 .fo s a b c).nf))] g1 g2 g3 g4 g5 g6
theorem qOb (s:Ty) (b x:Tm) (h:1+x.cnt≤big) (h':x.fr≤big):A 396 [(Tm.lam s b).nd',.slice [[x.nd']]] (Tm.lam s x).nd':=f1 [18] (qUd s x h h')
theorem qOc (k:K1) (b x:Tm) (h:1+x.cnt≤big):A 396 [(Tm.n1 k b).nd',.slice [[x.nd']]] (Tm.n1 k x).nd':=f1 [18] (qUe k x h)
theorem qH6 (k:K2) (a b x y:Tm) (h:1+x.cnt+y.cnt≤big):A 396 [(Tm.n2 k a b).nd',.slice [[x.nd'],[y.nd']]] (Tm.n2 k x y).nd':=f1 [18] (qE1 k x y h)
theorem qY9 (k:K3) (s:Ty) (a b c x y z:Tm) (h:1+x.cnt+y.cnt+z.cnt≤big):A 396 [(Tm.n3 k s a b c).nd',.slice [[x.nd'],[y.nd'],[z.nd']]] (Tm.n3 k s x y z).nd':=f1 [18] (qUf k s x y z h)
theorem qOd (f a:Tm) (h:1+f.cnt+a.cnt≤big):A 400 [f.nd',.slice [[a.nd']]] (Tm.n2 .app f a).nd':=f1 [17] (qE1 .app f a h)
theorem zKm (f a b:Tm) (h:1+(1+f.cnt+a.cnt)+b.cnt≤big):A 400 [f.nd',.slice [[a.nd'],[b.nd']]] (Tm.n2 .app (.n2 .app f a) b).nd' :=
 f2 [17,17] (qE1 .app f a (by omega)) (qE1 .app (.n2 .app f a) b h)
theorem zBc (t:Tm) {n:Nat} (h:t.mx+1≤n):t.fr≤n:=Nat.le_trans (qSe t) h
theorem qUg:∀ t:Tm,t.cnt≤big→t.mx+1≤big→A 359 [t.p] t.nd'
 | .v i,h,h'=>f1 [26] (qOa i h')
 | .lam s b,h,h'=>by
  have h:1+b.cnt≤big:=h
  exact f3 [(15,.r b.nd'),(300003,.ok),(300003,.f 2 [[b.nd']]),(26,.r (Tm.lam s b).nd')] (qUg b (by omega) h') (rfl:pvE [[b.nd']]=pvE [[b.nd']]) (qUd s b h (zBc b h'))
 | .n0 k,h,h'=>f1 [26] (zKl k)
 | .n1 k a,h,h'=>by
  have h:1+a.cnt≤big:=h
  exact f3 [(15,.r a.nd'),(300003,.ok),(300003,.f 2 [[a.nd']]),(26,.r (Tm.n1 k a).nd')] (qUg a (by omega) h') (rfl:pvE [[a.nd']]=pvE [[a.nd']]) (qUe k a h)
 | .n2 k a b,h,h'=>by
  have h:1+a.cnt+b.cnt≤big:=h
  have h':max a.mx b.mx+1≤big:=h'
  exact f4 [(15,.r a.nd'),(15,.r b.nd'),(300003,.ok),(300003,.ok),(300003,.f 2 [[a.nd'],[b.nd']]),(26,.r (Tm.n2 k a b).nd')] (qUg a (by omega) (by omega)) (qUg b (by omega) (by omega)) (rfl:pvE [[a.nd'],[b.nd']]=pvE [[a.nd'],[b.nd']]) (qE1 k a b h)
 | .n3 k s a b c,h,h'=>by
  have h:1+a.cnt+b.cnt+c.cnt≤big:=h
  have h':max a.mx (max b.mx c.mx)+1≤big:=h'
  exact f5 [(15,.r a.nd'),(15,.r b.nd'),(15,.r c.nd'),(300003,.ok),(300003,.ok),(300003,.ok),(300003,.f 2 [[a.nd'],[b.nd'],[c.nd']]),(26,.r (Tm.n3 k s a b c).nd')] (qUg a (by omega) (by omega)) (qUg b (by omega) (by omega)) (qUg c (by omega) (by omega)) (rfl:pvE [[a.nd'],[b.nd'],[c.nd']]=pvE [[a.nd'],[b.nd'],[c.nd']]) (qUf k s a b c h)
theorem qSg:∀ t:Tm,A 361 [t.nd'] t.p
 | .v i=>f1 [18] qAe
 | .lam s b=>f2 [18,32] (a95 s) (qSg b)
 | .n0 k=>f1 [18] qAe
 | .n1 k b=>f2 [18,32] qAe (qSg b)
 | .n2 k b c=>f3 [18,32,32] qAe (qSg b) (qSg c)
 | .n3 k s b c d=>f4 [18,32,32,32] (a95 s) (qSg b) (qSg c) (qSg d)
theorem qH7 (t:Tm):A 385 [t.nd'] (.bool t.red.isSome):=by
 cases t with
 | v i=>exact f0 []
 | lam s b=>exact f0 []
 | n0 k=>cases k<;>exact f0 []
 | n1 k a=>cases k with
  | succ=>exact f0 []
  | _=>cases a with
   | v i=>exact f0 []
   | lam s b=>exact f0 []
   | n0 l=>cases l<;>exact f0 []
   | n1 l a=>cases l<;>exact f0 []
   | n2 l a b=>cases l<;>exact f0 []
   | n3 l s a b c=>cases l<;>exact f0 []
 | n2 k f b=>cases k with
  | app=>cases f with
   | v i=>exact f0 []
   | lam s b=>exact f0 []
   | n0 l=>cases l<;>exact f0 []
   | n1 l a=>cases l<;>exact f0 []
   | n2 l a b=>cases l<;>exact f0 []
   | n3 l s a b c=>cases l<;>exact f0 []
  | _=>exact f0 []
 | n3 k s a b d=>cases k<;>cases d with
   | v i=>exact f0 []
   | lam s b=>exact f0 []
   | n0 l=>cases l<;>exact f0 []
   | n1 l a=>cases l<;>exact f0 []
   | n2 l a b=>cases l<;>exact f0 []
   | n3 l s a b c=>cases l<;>exact f0 []
open Go.Lg
set_option maxRecDepth 100000
theorem zV0 {t:Tm} {c z:Nat} (H:(!ltI (.ofNat c) (.ofNat t.fr))=false→eqI (.ofNat z) (.ofNat 0)=false→c<t.fr→A 402 [t.nd',num c,num z] (t.sh c (.ofNat z)).nd'):A 402 [t.nd',num c,num z] (t.sh c (.ofNat z)).nd':=by
 by_cases h:t.fr≤c
 ·rw [qEy _ t c h]
  exact f1 [15] (qT6 (a:=c) (b:=t.fr) h)
 ·by_cases h1:z=0
  ·subst h1
   rw [qPv]
   exact f2 [15,18] (qN6 (a:=c) (b:=t.fr) (by omega)) (qLg 0)
  grind [qN6,qGo]
theorem zBd {t:Tm} {c z:Nat} (hz:z≤2 * mid) (h:t.mx≤mid * mid):(t.sh c (.ofNat z)).fr≤big:=by
 have h1:=qSe (t.sh c (.ofNat z))
 have h2:=qCw (.ofNat z) t c
 have hm:=qQh
 have hb:=qQk
 rw [hm] at h hz
 have e:(Int.ofNat z).toNat=z:=rfl
 omega
theorem qUh (z:Nat) (hz:z≤2 * mid):∀ (t:Tm) (c:Nat),c+t.cnt≤mid→t.mx≤mid * mid→A 402 [t.nd',num c,num z] (t.sh c (.ofNat z)).nd'
 | .v i,c,h,h'=>zV0 fun g1 g2 hc=>by
  have hm:=qQh
  have hb:=qQk
  have h':i≤mid * mid:=h'
  rw [hm] at h'
  have hc:c<i+1:=hc
  have e:(Tm.v i).sh c (.ofNat z) = .v (i+z):=by simp only [Tm.sh,if_pos (show c≤i by omega)];rfl
  rw [e]
  exact f4 [15,18,35,40] g1 g2 (qQv (a:=i) (b:=z) (by omega)) (qOa (i+z) (by omega))
 | .lam s b,c,h,h'=>zV0 fun g1 g2 hc=>by
  have hm:=qQh
  have hb:=qQk
  have h:c+(1+b.cnt)≤mid:=h
  have g3:=qQv (a:=c) (b:=1) (by omega)
  have g4:=qUh z hz b (c+1) (by omega) h'
  have e:=qJt (.ofNat z) b (c+1)
  have g5:=qOb s b (b.sh (c+1) (.ofNat z)) (by omega) (zBd hz h')
  exact f6 [(15,.H),(18,.H),(55,.z (c+1)),(57,.r (b.sh (c+1) (.ofNat z)).nd'),(300007,.ok),(300007,.f 0 [[(b.sh (c+1) (.ofNat z)).nd']]),(63,.r (Tm.lam s (b.sh (c+1) (.ofNat z))).nd')] g1 g2 g3 g4 (rfl:pvE [[(b.sh (c+1) (.ofNat z)).nd']]=pvE [[(b.sh (c+1) (.ofNat z)).nd']]) g5
 | .n0 k,c,h,h'=>zV0 fun g1 g2 hc=>absurd hc (Nat.not_lt_zero _)
 | .n1 k b,c,h,h'=>zV0 fun g1 g2 hc=>by
  have hm:=qQh
  have hb:=qQk
  have h:c+(1+b.cnt)≤mid:=h
  have g3:=qQv (a:=c) (b:=0) (by omega)
  have g4:=qUh z hz b c (by omega) h'
  have e:=qJt (.ofNat z) b c
  have g5:=qOc k b (b.sh c (.ofNat z)) (by omega)
  cases k with
  | succ=>exact f6 [(15,.H),(18,.H),(55,.z c),(57,.r (b.sh c (.ofNat z)).nd'),(300007,.ok),(300007,.f 0 [[(b.sh c (.ofNat z)).nd']]),(63,.r (Tm.n1 .succ (b.sh c (.ofNat z))).nd')] g1 g2 g3 g4 (rfl:pvE [[(b.sh c (.ofNat z)).nd']]=pvE [[(b.sh c (.ofNat z)).nd']]) g5
  | fst=>exact f6 [(15,.H),(18,.H),(55,.z c),(57,.r (b.sh c (.ofNat z)).nd'),(300007,.ok),(300007,.f 0 [[(b.sh c (.ofNat z)).nd']]),(63,.r (Tm.n1 .fst (b.sh c (.ofNat z))).nd')] g1 g2 g3 g4 (rfl:pvE [[(b.sh c (.ofNat z)).nd']]=pvE [[(b.sh c (.ofNat z)).nd']]) g5
  | snd=>exact f6 [(15,.H),(18,.H),(55,.z c),(57,.r (b.sh c (.ofNat z)).nd'),(300007,.ok),(300007,.f 0 [[(b.sh c (.ofNat z)).nd']]),(63,.r (Tm.n1 .snd (b.sh c (.ofNat z))).nd')] g1 g2 g3 g4 (rfl:pvE [[(b.sh c (.ofNat z)).nd']]=pvE [[(b.sh c (.ofNat z)).nd']]) g5
 | .n2 k b d,c,h,h'=>zV0 fun g1 g2 hc=>by
  have hm:=qQh
  have hb:=qQk
  have h:c+(1+b.cnt+d.cnt)≤mid:=h
  have h':max b.mx d.mx≤mid * mid:=h'
  have g3:=qQv (a:=c) (b:=0) (by omega)
  have g4:=qUh z hz b c (by omega) (by omega)
  have g4':=qUh z hz d c (by omega) (by omega)
  have e:=qJt (.ofNat z) b c
  have e':=qJt (.ofNat z) d c
  have g5:=qH6 k b d (b.sh c (.ofNat z)) (d.sh c (.ofNat z)) (by omega)
  cases k with
  | app=>exact f8 [(15,.H),(18,.H),(55,.z c),(57,.r (b.sh c (.ofNat z)).nd'),(300007,.ok),(55,.z c),(57,.r (d.sh c (.ofNat z)).nd'),(300007,.ok),(300007,.f 0 [[(b.sh c (.ofNat z)).nd'],[(d.sh c (.ofNat z)).nd']]),(63,.r (Tm.n2 .app (b.sh c (.ofNat z)) (d.sh c (.ofNat z))).nd')] g1 g2 g3 g4 g3 g4' (rfl:pvE [[(b.sh c (.ofNat z)).nd'],[(d.sh c (.ofNat z)).nd']]=pvE [[(b.sh c (.ofNat z)).nd'],[(d.sh c (.ofNat z)).nd']]) g5
  | cons=>exact f8 [(15,.H),(18,.H),(55,.z c),(57,.r (b.sh c (.ofNat z)).nd'),(300007,.ok),(55,.z c),(57,.r (d.sh c (.ofNat z)).nd'),(300007,.ok),(300007,.f 0 [[(b.sh c (.ofNat z)).nd'],[(d.sh c (.ofNat z)).nd']]),(63,.r (Tm.n2 .cons (b.sh c (.ofNat z)) (d.sh c (.ofNat z))).nd')] g1 g2 g3 g4 g3 g4' (rfl:pvE [[(b.sh c (.ofNat z)).nd'],[(d.sh c (.ofNat z)).nd']]=pvE [[(b.sh c (.ofNat z)).nd'],[(d.sh c (.ofNat z)).nd']]) g5
  | pair=>exact f8 [(15,.H),(18,.H),(55,.z c),(57,.r (b.sh c (.ofNat z)).nd'),(300007,.ok),(55,.z c),(57,.r (d.sh c (.ofNat z)).nd'),(300007,.ok),(300007,.f 0 [[(b.sh c (.ofNat z)).nd'],[(d.sh c (.ofNat z)).nd']]),(63,.r (Tm.n2 .pair (b.sh c (.ofNat z)) (d.sh c (.ofNat z))).nd')] g1 g2 g3 g4 g3 g4' (rfl:pvE [[(b.sh c (.ofNat z)).nd'],[(d.sh c (.ofNat z)).nd']]=pvE [[(b.sh c (.ofNat z)).nd'],[(d.sh c (.ofNat z)).nd']]) g5
 | .n3 k s b d w,c,h,h'=>zV0 fun g1 g2 hc=>by
  have hm:=qQh
  have hb:=qQk
  have h:c+(1+b.cnt+d.cnt+w.cnt)≤mid:=h
  have h':max b.mx (max d.mx w.mx)≤mid * mid:=h'
  have g3:=qQv (a:=c) (b:=0) (by omega)
  have g4:=qUh z hz b c (by omega) (by omega)
  have g4':=qUh z hz d c (by omega) (by omega)
  have g4'':=qUh z hz w c (by omega) (by omega)
  have e:=qJt (.ofNat z) b c
  have e':=qJt (.ofNat z) d c
  have e'':=qJt (.ofNat z) w c
  have g5:=qY9 k s b d w (b.sh c (.ofNat z)) (d.sh c (.ofNat z)) (w.sh c (.ofNat z)) (by omega)
  cases k with
  | re=>exact f10 [(15,.H),(18,.H),(55,.z c),(57,.r (b.sh c (.ofNat z)).nd'),(300007,.ok),(55,.z c),(57,.r (d.sh c (.ofNat z)).nd'),(300007,.ok),(55,.z c),(57,.r (w.sh c (.ofNat z)).nd'),(300007,.ok),(300007,.f 0 [[(b.sh c (.ofNat z)).nd'],[(d.sh c (.ofNat z)).nd'],[(w.sh c (.ofNat z)).nd']]),(63,.r (Tm.n3 .re s (b.sh c (.ofNat z)) (d.sh c (.ofNat z)) (w.sh c (.ofNat z))).nd')] g1 g2 g3 g4 g3 g4' g3 g4'' (rfl:pvE [[(b.sh c (.ofNat z)).nd'],[(d.sh c (.ofNat z)).nd'],[(w.sh c (.ofNat z)).nd']]=pvE [[(b.sh c (.ofNat z)).nd'],[(d.sh c (.ofNat z)).nd'],[(w.sh c (.ofNat z)).nd']]) g5
  | fo=>exact f10 [(15,.H),(18,.H),(55,.z c),(57,.r (b.sh c (.ofNat z)).nd'),(300007,.ok),(55,.z c),(57,.r (d.sh c (.ofNat z)).nd'),(300007,.ok),(55,.z c),(57,.r (w.sh c (.ofNat z)).nd'),(300007,.ok),(300007,.f 0 [[(b.sh c (.ofNat z)).nd'],[(d.sh c (.ofNat z)).nd'],[(w.sh c (.ofNat z)).nd']]),(63,.r (Tm.n3 .fo s (b.sh c (.ofNat z)) (d.sh c (.ofNat z)) (w.sh c (.ofNat z))).nd')] g1 g2 g3 g4 g3 g4' g3 g4'' (rfl:pvE [[(b.sh c (.ofNat z)).nd'],[(d.sh c (.ofNat z)).nd'],[(w.sh c (.ofNat z)).nd']]=pvE [[(b.sh c (.ofNat z)).nd'],[(d.sh c (.ofNat z)).nd'],[(w.sh c (.ofNat z)).nd']]) g5
theorem qVy (c:Nat) {S t:Tm} (d:Nat) (h:t.cnt≤mid) (h':S.cnt≤mid):(t.put c S d).cnt≤mid+mid * mid:=by
 have h1:=qK5 c S t d
 have h2:=qQp t (c+d)
 have h3:t.occ (c+d) * S.cnt≤mid * mid:=Nat.mul_le_mul (by omega) h'
 omega
theorem zJc {c:Nat} {S t:Tm} {d:Nat} (h:t.mx≤mid * mid) (h':S.mx≤mid * mid) (h1:c+d+t.cnt≤mid):(t.put c S d).fr≤big:=by
 have h2:=qSe (t.put c S d)
 have h3:=qT8 c S t d
 have hm:=qQh
 have hb:=qQk
 rw [hm] at h h' h1
 omega
theorem zV1 {t S:Tm} {c:Nat} (H:(!ltI (.ofNat c) (.ofNat t.fr))=false→c<t.fr→A 399 [t.nd',num c,S.nd'] (t.put c S 0).nd'):A 399 [t.nd',num c,S.nd'] (t.put c S 0).nd':=by
 by_cases h:t.fr≤c
 ·rw [qXi c S t 0 h]
  exact f1 [15] (qT6 (a:=c) (b:=t.fr) h)
 grind [qN6]
theorem qUi (S:Tm) (hc:S.cnt≤mid) (hx:S.mx≤mid * mid):∀ (t:Tm) (c:Nat),c+t.cnt≤mid→t.mx≤mid * mid→A 399 [t.nd',num c,S.nd'] (t.put c S 0).nd'
 | .v i,c,h,h'=>zV1 fun g1 hi=>by
  have hm:=qQh
  have hb:=qQk
  have h:c+1≤mid:=h
  have h':i≤mid * mid:=h'
  rw [hm] at h'
  have hi:c<i+1:=hi
  by_cases e:i=c
  ·have e1:(Tm.v i).put c S 0=S.sh 0 (.ofNat c):=by simp only [Tm.put,Nat.add_zero,if_pos e]
   rw [e1]
   exact f3 [15,27,30] g1 (qR8 (x:=.ofNat i) (a:=c) (by simp [e])) (qUh c (by omega) S 0 (by omega) hx)
  ·have e1:(Tm.v i).put c S 0 = .v (i-1):=by simp only [Tm.put,Nat.add_zero,if_neg e,if_pos (show c<i by omega)]
   rw [e1]
   exact f4 [15,27,39,44] g1 (qGo e) (qFg (a:=i) (by omega) (by omega)) (qOa (i-1) (by omega))
 | .lam s b,c,h,h'=>zV1 fun g1 hi=>by
  have hm:=qQh
  have hb:=qQk
  have h:c+(1+b.cnt)≤mid:=h
  have g3:=qQv (a:=c) (b:=1) (by omega)
  have g4:=qUi S hc hx b (c+1) (by omega) h'
  have e:=qVy (c+1) (S:=S) (t:=b) 0 (by omega) hc
  have g5:=qOb s b (b.put (c+1) S 0) (by grind) (zJc h' hx (by omega))
  have e1:(Tm.lam s b).put c S 0 = .lam s (b.put (c+1) S 0):=by simp [Tm.put,qK6]
  rw [e1]
  exact f5 [(15,.H),(59,.z (c+1)),(61,.r (b.put (c+1) S 0).nd'),(300009,.ok),(300009,.f 0 [[(b.put (c+1) S 0).nd']]),(67,.r (Tm.lam s (b.put (c+1) S 0)).nd')] g1 g3 g4 (rfl:pvE [[(b.put (c+1) S 0).nd']]=pvE [[(b.put (c+1) S 0).nd']]) g5
 | .n0 k,c,h,h'=>zV1 fun g1 hi=>absurd hi (Nat.not_lt_zero _)
 | .n1 k b,c,h,h'=>zV1 fun g1 hi=>by
  have hm:=qQh
  have hb:=qQk
  have h:c+(1+b.cnt)≤mid:=h
  have h':b.mx≤mid * mid:=h'
  have g3:=qQv (a:=c) (b:=0) (by omega)
  have g4b:=qUi S hc hx b c (by omega) (by omega)
  have eb:=qVy c (S:=S) (t:=b) 0 (by omega) hc
  simp only [hm] at eb
  have g5:=qOc k b (b.put c S 0) (by omega)
  cases k with
  | succ=>exact f5 [(15,.H),(59,.z c),(61,.r (b.put c S 0).nd'),(300009,.ok),(300009,.f 0 [[(b.put c S 0).nd']]),(67,.r (Tm.n1 .succ (b.put c S 0)).nd')] g1 g3 g4b (rfl:pvE [[(b.put c S 0).nd']]=pvE [[(b.put c S 0).nd']]) g5
  | fst=>exact f5 [(15,.H),(59,.z c),(61,.r (b.put c S 0).nd'),(300009,.ok),(300009,.f 0 [[(b.put c S 0).nd']]),(67,.r (Tm.n1 .fst (b.put c S 0)).nd')] g1 g3 g4b (rfl:pvE [[(b.put c S 0).nd']]=pvE [[(b.put c S 0).nd']]) g5
  | snd=>exact f5 [(15,.H),(59,.z c),(61,.r (b.put c S 0).nd'),(300009,.ok),(300009,.f 0 [[(b.put c S 0).nd']]),(67,.r (Tm.n1 .snd (b.put c S 0)).nd')] g1 g3 g4b (rfl:pvE [[(b.put c S 0).nd']]=pvE [[(b.put c S 0).nd']]) g5
 | .n2 k b d,c,h,h'=>zV1 fun g1 hi=>by
  have hm:=qQh
  have hb:=qQk
  have h:c+(1+b.cnt+d.cnt)≤mid:=h
  have h':max b.mx d.mx≤mid * mid:=h'
  have g3:=qQv (a:=c) (b:=0) (by omega)
  have g4b:=qUi S hc hx b c (by omega) (by omega)
  have eb:=qVy c (S:=S) (t:=b) 0 (by omega) hc
  have g4d:=qUi S hc hx d c (by omega) (by omega)
  have ed:=qVy c (S:=S) (t:=d) 0 (by omega) hc
  simp only [hm] at eb ed
  have g5:=qH6 k b d (b.put c S 0) (d.put c S 0) (by omega)
  cases k with
  | app=>exact f7 [(15,.H),(59,.z c),(61,.r (b.put c S 0).nd'),(300009,.ok),(59,.z c),(61,.r (d.put c S 0).nd'),(300009,.ok),(300009,.f 0 [[(b.put c S 0).nd'],[(d.put c S 0).nd']]),(67,.r (Tm.n2 .app (b.put c S 0) (d.put c S 0)).nd')] g1 g3 g4b g3 g4d (rfl:pvE [[(b.put c S 0).nd'],[(d.put c S 0).nd']]=pvE [[(b.put c S 0).nd'],[(d.put c S 0).nd']]) g5
  | cons=>exact f7 [(15,.H),(59,.z c),(61,.r (b.put c S 0).nd'),(300009,.ok),(59,.z c),(61,.r (d.put c S 0).nd'),(300009,.ok),(300009,.f 0 [[(b.put c S 0).nd'],[(d.put c S 0).nd']]),(67,.r (Tm.n2 .cons (b.put c S 0) (d.put c S 0)).nd')] g1 g3 g4b g3 g4d (rfl:pvE [[(b.put c S 0).nd'],[(d.put c S 0).nd']]=pvE [[(b.put c S 0).nd'],[(d.put c S 0).nd']]) g5
  | pair=>exact f7 [(15,.H),(59,.z c),(61,.r (b.put c S 0).nd'),(300009,.ok),(59,.z c),(61,.r (d.put c S 0).nd'),(300009,.ok),(300009,.f 0 [[(b.put c S 0).nd'],[(d.put c S 0).nd']]),(67,.r (Tm.n2 .pair (b.put c S 0) (d.put c S 0)).nd')] g1 g3 g4b g3 g4d (rfl:pvE [[(b.put c S 0).nd'],[(d.put c S 0).nd']]=pvE [[(b.put c S 0).nd'],[(d.put c S 0).nd']]) g5
 | .n3 k s b d w,c,h,h'=>zV1 fun g1 hi=>by
  have hm:=qQh
  have hb:=qQk
  have h:c+(1+b.cnt+d.cnt+w.cnt)≤mid:=h
  have h':max b.mx (max d.mx w.mx)≤mid * mid:=h'
  have g3:=qQv (a:=c) (b:=0) (by omega)
  have g4b:=qUi S hc hx b c (by omega) (by omega)
  have eb:=qVy c (S:=S) (t:=b) 0 (by omega) hc
  have g4d:=qUi S hc hx d c (by omega) (by omega)
  have ed:=qVy c (S:=S) (t:=d) 0 (by omega) hc
  have g4w:=qUi S hc hx w c (by omega) (by omega)
  have ew:=qVy c (S:=S) (t:=w) 0 (by omega) hc
  simp only [hm] at eb ed ew
  have g5:=qY9 k s b d w (b.put c S 0) (d.put c S 0) (w.put c S 0) (by omega)
  cases k with
  | re=>exact f9 [(15,.H),(59,.z c),(61,.r (b.put c S 0).nd'),(300009,.ok),(59,.z c),(61,.r (d.put c S 0).nd'),(300009,.ok),(59,.z c),(61,.r (w.put c S 0).nd'),(300009,.ok),(300009,.f 0 [[(b.put c S 0).nd'],[(d.put c S 0).nd'],[(w.put c S 0).nd']]),(67,.r (Tm.n3 .re s (b.put c S 0) (d.put c S 0) (w.put c S 0)).nd')] g1 g3 g4b g3 g4d g3 g4w (rfl:pvE [[(b.put c S 0).nd'],[(d.put c S 0).nd'],[(w.put c S 0).nd']]=pvE [[(b.put c S 0).nd'],[(d.put c S 0).nd'],[(w.put c S 0).nd']]) g5
  | fo=>exact f9 [(15,.H),(59,.z c),(61,.r (b.put c S 0).nd'),(300009,.ok),(59,.z c),(61,.r (d.put c S 0).nd'),(300009,.ok),(59,.z c),(61,.r (w.put c S 0).nd'),(300009,.ok),(300009,.f 0 [[(b.put c S 0).nd'],[(d.put c S 0).nd'],[(w.put c S 0).nd']]),(67,.r (Tm.n3 .fo s (b.put c S 0) (d.put c S 0) (w.put c S 0)).nd')] g1 g3 g4b g3 g4d g3 g4w (rfl:pvE [[(b.put c S 0).nd'],[(d.put c S 0).nd'],[(w.put c S 0).nd']]=pvE [[(b.put c S 0).nd'],[(d.put c S 0).nd'],[(w.put c S 0).nd']]) g5
theorem zV2 {t:Tm} {c:Nat} (H:(!ltI (.ofNat c) (.ofNat t.fr))=false→c<t.fr→A 398 [t.nd',num c] (num (t.occ c))):A 398 [t.nd',num c] (num (t.occ c)):=by
 by_cases h:t.fr≤c
 ·rw [qXj t c h]
  exact f1 [13] (qT6 (a:=c) (b:=t.fr) h)
 grind [qN6]
theorem qUj:∀ (t:Tm) (c:Nat),c+t.cnt≤mid→A 398 [t.nd',num c] (num (t.occ c))
 | .v i,c,h=>zV2 fun g1 hi=>by
  by_cases e:i=c
  ·have e1:(Tm.v i).occ c=1:=by simp only [Tm.occ,if_pos e]
   rw [e1]
   exact f2 [13,24] g1 (qR8 (x:=.ofNat i) (a:=c) (by simp [e]))
  ·have e1:(Tm.v i).occ c=0:=by simp only [Tm.occ,if_neg e]
   rw [e1]
   exact f2 [13,24] g1 (qGo e)
 | .lam s b,c,h=>zV2 fun g1 hi=>by
  have hm:=qQh
  have hb:=qQk
  have h:c+(1+b.cnt)≤mid:=h
  have h2:=qQp b (c+1)
  exact f4 [13,39,40,41] g1 (qQv (a:=c) (b:=1) (by omega)) (qUj b (c+1) (by omega)) (qN8 (n:=b.occ (c+1)) (by omega))
 | .n0 k,c,h=>zV2 fun g1 hi=>absurd hi (Nat.not_lt_zero _)
 | .n1 k b,c,h=>zV2 fun g1 hi=>by
  have hm:=qQh
  have hb:=qQk
  have h:c+(1+b.cnt)≤mid:=h
  have g3:=qQv (a:=c) (b:=0) (by omega)
  have hb:=qQp b c
  have g4b:=qUj b c (by omega)
  have g5b:=qN8 (n:=b.occ c) (by omega)
  cases k<;>exact f4 [13,39,40,41] g1 g3 g4b g5b
 | .n2 k b d,c,h=>zV2 fun g1 hi=>by
  have hm:=qQh
  have hb:=qQk
  have h:c+(1+b.cnt+d.cnt)≤mid:=h
  have g3:=qQv (a:=c) (b:=0) (by omega)
  have hb:=qQp b c
  have g4b:=qUj b c (by omega)
  have hd:=qQp d c
  have g4d:=qUj d c (by omega)
  have g5b:=qN8 (n:=b.occ c) (by omega)
  have g5d:=qQv (a:=b.occ c) (b:=d.occ c) (by omega)
  cases k<;>exact f7 [13,39,40,41,39,40,41] g1 g3 g4b g5b g3 g4d g5d
 | .n3 k s b d w,c,h=>zV2 fun g1 hi=>by
  have hm:=qQh
  have hb:=qQk
  have h:c+(1+b.cnt+d.cnt+w.cnt)≤mid:=h
  have g3:=qQv (a:=c) (b:=0) (by omega)
  have hb:=qQp b c
  have g4b:=qUj b c (by omega)
  have hd:=qQp d c
  have g4d:=qUj d c (by omega)
  have hw:=qQp w c
  have g4w:=qUj w c (by omega)
  have g5b:=qN8 (n:=b.occ c) (by omega)
  have g5d:=qQv (a:=b.occ c) (b:=d.occ c) (by omega)
  have g5w:=qQv (a:=b.occ c+d.occ c) (b:=w.occ c) (by omega)
  cases k<;>exact f10 [13,39,40,41,39,40,41,39,40,41] g1 g3 g4b g5b g3 g4d g5d g3 g4w g5w
theorem zBe:∀ {t r:Tm},t.red=some r→t.mx≤mid * mid→t.cnt≤mid→A 395 [t.nd'] r.nd':=by
 have hm:=qQh
 have hb:=qQk
 refine @qVw (fun t r=>t.mx≤mid * mid→t.cnt≤mid→A 395 [t.nd'] r.nd') ?_ ?_ ?_ ?_ ?_ ?_ ?_
 ·intro a b _ _
  exact f0 []
 ·intro a b _ _
  exact f0 []
 ·intro s b a h h'
  have h:max b.mx a.mx≤mid * mid:=h
  have h':1+(1+b.cnt)+a.cnt≤mid:=h'
  exact f1 [30] (qUi a (by omega) (by omega) b 0 (by omega) (by omega))
 ·intro s b f _ _
  exact f0 []
 ·intro s b f n h h'
  have h':1+b.cnt+f.cnt+(1+n.cnt)≤mid:=h'
  have g1:=qY9 .re s b f (.n1 .succ n) b f n (by omega)
  have g2:=qOd f n (by omega)
  have g3:=qOd (.n2 .app f n) (.n3 .re s b f n) (by grind [Tm.cnt])
  exact f3 [98,104,107] g1 g2 g3
 ·intro s b f _ _
  exact f0 []
 ·intro s b f x l h h'
  have h':1+b.cnt+f.cnt+(1+x.cnt+l.cnt)≤mid:=h'
  have g1:=qY9 .fo s b f (.n2 .cons x l) b f l (by omega)
  have g2:=zKm f x l (by omega)
  have g3:=qOd (.n2 .app (.n2 .app f x) l) (.n3 .fo s b f l) (by grind [Tm.cnt])
  exact f3 [98,104,107] g1 g2 g3
theorem zJd {a b c:Nat} (h:a * b≤big) (e:a * b=c):inB (Int.ofNat a * .ofNat b)=true∧Int.ofNat a * .ofNat b = .ofNat c:=⟨inb (n:=a * b) h,by rw [← e];rfl⟩
theorem qH8 {a b c:Nat} (h:a+b≤big) (e:a+b=c):inB (Int.ofNat a + .ofNat b)=true∧Int.ofNat a + .ofNat b = .ofNat c:=by rw [← e];exact qQv h
theorem zEh:∀ {t r:Tm},t.red=some r→t.mx≤mid * mid→t.cnt≤mid→A 394 [t.nd'] (num r.cnt):=by
 have hm:=qQh
 have hb:=qQk
 refine @qVw (fun t r=>t.mx≤mid * mid→t.cnt≤mid→A 394 [t.nd'] (num r.cnt)) ?_ ?_ ?_ ?_ ?_ ?_ ?_
 ·intro a b h h'
  exact f1 [183] (zBe (t:=.n1 .fst (.n2 .pair a b)) rfl h h')
 ·intro a b h h'
  exact f1 [183] (zBe (t:=.n1 .snd (.n2 .pair a b)) rfl h h')
 ·intro s b a h h'
  have h':1+(1+b.cnt)+a.cnt≤mid:=h'
  have e1:=qK5 0 a b 0
  have e2:=qQp b 0
  have ca:=qR3 a
  simp only [Nat.add_zero] at e1
  have e3:b.occ 0 * (a.cnt-1)≤mid * mid:=Nat.mul_le_mul (by omega) (by omega)
  have e4:b.occ 0 * (a.cnt-1)+b.occ 0=b.occ 0 * a.cnt:=by
   obtain⟨k,hk⟩:∃ k,a.cnt=k+1:=⟨a.cnt-1,by omega⟩
   rw [hk,Nat.add_sub_cancel,Nat.mul_succ]
  rw [hm] at e3
  exact f4 [27,37,38,39] (qUj b 0 (by omega)) (qFg (a:=a.cnt) ca (by omega)) (zJd (a:=b.occ 0) (b:=a.cnt-1) (by omega) rfl) (qH8 (a:=b.cnt) (b:=b.occ 0 * (a.cnt-1)) (c:=(b.put 0 a 0).cnt) (by omega) (by omega))
 ·intro s b f _ _
  exact f0 []
 ·intro s b f n h h'
  have h':1+b.cnt+f.cnt+(1+n.cnt)≤mid:=h'
  have g1:=qH8 (a:=2) (b:=f.cnt) (by omega) rfl
  have g2:=zJd (a:=2) (b:=n.cnt) (by omega) rfl
  have g3:=qH8 (a:=2+f.cnt) (b:=2 * n.cnt) (by omega) rfl
  have g4:=qH8 (a:=2+f.cnt+2 * n.cnt) (b:=1) (by omega) rfl
  have g5:=qH8 (a:=2+f.cnt+2 * n.cnt+1) (b:=b.cnt) (by omega) rfl
  have g6:=qH8 (a:=2+f.cnt+2 * n.cnt+1+b.cnt) (b:=f.cnt) (c:=(Tm.n2 .app (.n2 .app f n) (.n3 .re s b f n)).cnt) (by omega) (by grind [Tm.cnt])
  exact f6 [61,76,77,78,88,98] g1 g2 g3 g4 g5 g6
 ·intro s b f _ _
  exact f0 []
 ·intro s b f x l h h'
  have h':1+b.cnt+f.cnt+(1+x.cnt+l.cnt)≤mid:=h'
  have g1:=qH8 (a:=3) (b:=f.cnt) (by omega) rfl
  have g2:=qH8 (a:=3+f.cnt) (b:=x.cnt) (by omega) rfl
  have g2':=zJd (a:=2) (b:=l.cnt) (by omega) rfl
  have g3:=qH8 (a:=3+f.cnt+x.cnt) (b:=2 * l.cnt) (by omega) rfl
  have g4:=qH8 (a:=3+f.cnt+x.cnt+2 * l.cnt) (b:=1) (by omega) rfl
  have g5:=qH8 (a:=3+f.cnt+x.cnt+2 * l.cnt+1) (b:=b.cnt) (by omega) rfl
  have g6:=qH8 (a:=3+f.cnt+x.cnt+2 * l.cnt+1+b.cnt) (b:=f.cnt) (c:=(Tm.n2 .app (.n2 .app (.n2 .app f x) l) (.n3 .fo s b f l)).cnt) (by omega) (by grind [Tm.cnt])
  exact f7 [130,140,150,151,152,162,172] g1 g2 g2' g3 g4 g5 g6
open Go.Lg
set_option maxRecDepth 100000
abbrev W2 (y x:PV):Prop:=some ({ x:=.pv y,ch:=[],nw:=[],nx:=0 } : Res)=some { x:=.pv x,ch:=[],nw:=[],nx:=0 }
theorem W2.of {y x:PV} (h:y=x):W2 y x:=by rw [h]
section
variable {f:Nat} {args:List PV} {x:PV} (tp:Di) (ko:Kp)
theorem w99 {B:Prop} (h:B) (e:B=zAi ev Tryz.prog 100 6 f args tp ko x:=by kernel_rfl):A f args x:=zZt evOK (Eq.mp e h)
variable (y z:PV) {b:Bool} (hb:b=true→y=x) {H1 H2 H3 H4 H5 H6 H7 H8:Prop} (h1:H1) (h2:H2) (h3:H3) (h4:H4) (h5:H5) (h6:H6) (h7:H7) (h8:H8) (hz:z=x)
def w0:=@w99 f args x tp ko _ (⟨fun h => .of (hb h),.of hz⟩:(b=true→W2 y x)∧W2 z x)
def w1:=@w99 f args x tp ko _ (⟨fun h => .of (hb h),h1,.of hz⟩:(b=true→W2 y x)∧H1∧W2 z x)
def w2:=@w99 f args x tp ko _ (⟨fun h => .of (hb h),h1,h2,.of hz⟩:(b=true→W2 y x)∧H1∧H2∧W2 z x)
def w3:=@w99 f args x tp ko _ (⟨fun h => .of (hb h),h1,h2,h3,.of hz⟩:(b=true→W2 y x)∧H1∧H2∧H3∧W2 z x)
def w4:=@w99 f args x tp ko _ (⟨fun h => .of (hb h),h1,h2,h3,h4,.of hz⟩:(b=true→W2 y x)∧H1∧H2∧H3∧H4∧W2 z x)
def w5:=@w99 f args x tp ko _ (⟨fun h => .of (hb h),h1,h2,h3,h4,h5,.of hz⟩:(b=true→W2 y x)∧H1∧H2∧H3∧H4∧H5∧W2 z x)
def w6:=@w99 f args x tp ko _ (⟨fun h => .of (hb h),h1,h2,h3,h4,h5,h6,.of hz⟩:(b=true→W2 y x)∧H1∧H2∧H3∧H4∧H5∧H6∧W2 z x)
end
theorem zJe:∀ {t r:Tm},t.red=some r→t.cnt≤mid→r.cnt≤4 * mid+mid * mid:=by
 refine @qVw (fun t r=>t.cnt≤mid→r.cnt≤4 * mid+mid * mid) ?_ ?_ ?_ ?_ ?_ ?_ ?_
 ·grind [Tm.cnt]
 ·grind [Tm.cnt]
 ·grind [Tm.cnt,qVy]
 ·grind [Tm.cnt]
 ·grind [Tm.cnt]
 ·grind [Tm.cnt]
 grind [Tm.cnt]
def SR.q:SR→PV
 | .er => .tuple [.nil,num 4]
 | .no => .tuple [.nil,num 0]
 | .ok x => .tuple [x.nd',num 0]
theorem qSh {f:Tm→Tm} {r q:SR} : SR.or f r q = .no↔q = .no∧r = .no:=by
 cases q<;>simp [SR.or]
theorem zJf {z:Int} {t r:Tm} : rt z t r ≠ .no:=by
 unfold rt
 cases ltI z ((r.cnt:Int)-t.cnt)<;>simp
theorem qKn (z:Int):∀ t:Tm,t.nf=true↔t.st z = .no
 | .v _=>⟨fun _=>rfl,fun _=>rfl⟩
 | .n0 _=>⟨fun _=>rfl,fun _=>rfl⟩
 | .lam s b=>by
  show b.nf=true↔SR.or (.lam s) .no (b.st z) = .no
  rw [qSh,qKn z b];simp
 | .n1 k a=>by
  cases hr:(Tm.n1 k a).red with
  | some r=>simp [Tm.nf,Tm.st,hr,zJf]
  | none=>simp [Tm.nf,Tm.st,hr,qSh,qKn z a]
 | .n2 k a b=>by
  cases hr:(Tm.n2 k a b).red with
  | some r=>simp [Tm.nf,Tm.st,hr,zJf]
  | none=>simp [Tm.nf,Tm.st,hr,qSh,qKn z a,qKn z b]
 | .n3 k s a b c=>by
  cases hr:(Tm.n3 k s a b c).red with
  | some r=>simp [Tm.nf,Tm.st,hr,zJf]
  | none=>simp [Tm.nf,Tm.st,hr,qSh,qKn z a,qKn z b,qKn z c]
theorem hbq {z:Int} {t:Tm} {r:SR} (h:t.st z=r):t.nf=true→PV.tuple [.nil,num 0]=r.q:=fun e=>by rw [← h,(qKn z t).1 e];rfl
theorem zBf (z:Int) (t:Tm):∀ {x:Tm} {n:Nat},t.st z = .ok x→t.sc n→t.shp=true→x.sc n∧x.shp=true:=by
 have root:∀ {t r x:Tm} {n:Nat},t.red=some r→rt z t r = .ok x→t.sc n→t.shp=true→x.sc n∧x.shp=true:=by
  grind [rt,ltI,zKi]
 induction t with
 | v i=>intro x n h;cases h
 | n0 k=>intro x n h;cases h
 | lam s b ih =>
  intro x n h h1 h2
  rcases qKl h with ⟨y,e,rfl⟩|⟨_,h⟩
  ·obtain⟨k1,k2⟩:=qZ1 h2
   obtain⟨k3,k4⟩:=ih e h1 k2
   exact⟨k3,by show (_ && _)=true;rw [k1,k4];rfl⟩
  ·cases h
 | n1 k a ih =>
  intro x n h h1 h2
  cases hr:(Tm.n1 k a).red with
  | some r=>rw [qVx hr] at h;grind
  | none =>
   simp only [Tm.st,hr] at h
   rcases qKl h with ⟨y,e,rfl⟩|⟨_,h⟩
   ·exact (ih (x:=y) e h1 h2:y.sc n∧y.shp=true)
   ·cases h
 | n2 k a b ih1 ih2 =>
  intro x n h h1 h2
  cases hr:(Tm.n2 k a b).red with
  | some r=>rw [qVx hr] at h;grind
  | none =>
   simp only [Tm.st,hr] at h
   obtain⟨k1,k2⟩:=qZ1 h2
   rcases qKl h with ⟨y,e,rfl⟩|⟨_,h⟩
   ·obtain⟨k3,k4⟩:=ih1 e h1.1 k1
    exact⟨⟨k3,h1.2⟩,by show (_ && _)=true;rw [k4,k2];rfl⟩
   rcases qKl h with ⟨y,e,rfl⟩|⟨_,h⟩
   ·obtain⟨k3,k4⟩:=ih2 e h1.2 k2
    exact⟨⟨h1.1,k3⟩,by show (_ && _)=true;rw [k1,k4];rfl⟩
   ·cases h
 | n3 k s a b c ih1 ih2 ih3 =>
  intro x n h h1 h2
  cases hr:(Tm.n3 k s a b c).red with
  | some r=>rw [qVx hr] at h;grind
  | none =>
   simp only [Tm.st,hr] at h
   obtain⟨k0,k1⟩:=qZ1 h2
   obtain⟨k1,k2⟩:=qZ1 k1
   obtain⟨k2,k3⟩:=qZ1 k2
   rcases qKl h with ⟨y,e,rfl⟩|⟨_,h⟩
   ·obtain⟨k4,k5⟩:=ih1 e h1.1 k1
    exact⟨⟨k4,h1.2⟩,by show (_ && (_ && (_ && _)))=true;rw [k0,k5,k2,k3];rfl⟩
   rcases qKl h with ⟨y,e,rfl⟩|⟨_,h⟩
   ·obtain⟨k4,k5⟩:=ih2 e h1.2.1 k2
    exact⟨⟨h1.1,k4,h1.2.2⟩,by show (_ && (_ && (_ && _)))=true;rw [k0,k1,k5,k3];rfl⟩
   rcases qKl h with ⟨y,e,rfl⟩|⟨_,h⟩
   ·obtain⟨k4,k5⟩:=ih3 e h1.2.2 k3
    exact⟨⟨h1.1,h1.2.1,k4⟩,by show (_ && (_ && (_ && _)))=true;rw [k0,k1,k2,k5];rfl⟩
   ·cases h
theorem zBg {t r:Tm} (h:t.red=some r) (z:Int) (h1:t.mx≤mid * mid) (h2:t.cnt≤mid):A 383 [t.nd',.int z] (t.st z).q:=by
 have hm:=qQh
 have hb:=qQk
 have g1:=qH7 t
 rw [h] at g1
 have g2:=zEh h h1 h2
 have g3:=zBe h h1 h2
 have c:=zJe h h2
 have g4:=zVz (i:=r.cnt) (d:=t.cnt) (by rw [hm] at c;omega) (by omega)
 cases e:ltI z (Int.ofNat r.cnt - .ofNat t.cnt)
 ·have hT:t.st z = .ok r:=by rw [qVx h,rt];rw [show ltI z ((r.cnt:Int)-t.cnt)=false from e];rfl
  rw [hT]
  exact w5 [(16,.T),(18,.N r.cnt),(23,.y (Int.ofNat r.cnt - .ofNat t.cnt)),(25,.H),(27,.r r.nd')] (kp [4,5]) (.tuple [.nil,num 0]) (.tuple [r.nd',num 0]) (hbq hT) g1 g2 g4 e g3 rfl
 ·have hT:t.st z = .er:=by rw [qVx h,rt];rw [show ltI z ((r.cnt:Int)-t.cnt)=true from e];rfl
  rw [hT]
  exact w4 [(16,.T),(18,.N r.cnt),(23,.y (Int.ofNat r.cnt - .ofNat t.cnt)),(25,.G)] (kp [4,5]) (.tuple [.nil,num 0]) (.tuple [.nil,num 4]) (hbq hT) g1 g2 g4 e rfl
theorem qUk (z:Int) (hz:z≤mid):∀ (t:Tm),t.mx≤mid * mid→t.cnt≤mid→A 383 [t.nd',.int z] (t.st z).q
 | .v i,h,h'=>w2 [(16,.F),(99999,.s)] (kp [4,5]) (.tuple [.nil,num 0]) (.tuple [.nil,num 0]) (b:=true) (fun _=>rfl) (qH7 (.v i)) (rfl:true=true) rfl
 | .n0 k,h,h'=>by have g:=qH7 (.n0 k);cases k<;>exact w2 [(16,.F),(99999,.s)] (kp [4,5]) (.tuple [.nil,num 0]) (.tuple [.nil,num 0]) (b:=true) (fun _=>rfl) g (rfl:true=true) rfl
 | .lam s b,h,h'=>by
  have hm:=qQh
  have hb:=qQk
  have h:b.mx≤mid * mid:=h
  have h':1+b.cnt≤mid:=h'
  have g0:=qH7 (Tm.lam s b)
  have gb:=qUk z hz b (by omega) (by omega)
  cases eb:b.st z with
  | er =>
   rw [eb] at gb
   have hT:(Tm.lam s b).st z = .er:=by grind [Tm.st,SR.or]
   rw [hT]
   exact w2 [(16,.F),(41,.r SR.er.q)] (kp [4,5]) (.tuple [.nil,num 0]) (.tuple [.nil,num 4]) (hbq hT) g0 gb rfl
  | ok x =>
   rw [eb] at gb
   have hT:(Tm.lam s b).st z = .ok (Tm.lam s x):=by grind [Tm.st,SR.or]
   rw [hT]
   obtain⟨sx1,sx2,_⟩:=qEr z b eb
   have g5:=qOb s b x (by omega) (by have:=qSe x;rw [hm] at h;omega)
   exact w4 [(16,.F),(41,.r (SR.ok x).q),(300015,.f 0 [[x.nd']]),(60,.r (Tm.lam s x).nd')] (kp [4,5]) (.tuple [.nil,num 0]) (.tuple [(Tm.lam s x).nd',num 0]) (hbq hT) g0 gb (rfl:pvE [[x.nd']]=pvE [[x.nd']]) g5 rfl
  | no =>
  rw [eb] at gb
  have hT:(Tm.lam s b).st z = .no:=by grind [Tm.st,SR.or]
  have hn:(Tm.lam s b).nf=true:=(qKn z _).2 hT
  rw [hT]
  exact w3 [(16,.F),(41,.r SR.no.q),(99999,.s)] (kp [4,5]) (.tuple [.nil,num 0]) (.tuple [.nil,num 0]) (hbq hT) g0 gb hn rfl
 | .n1 k b,h,h'=>by
  have hm:=qQh
  have hb:=qQk
  have h:b.mx≤mid * mid:=h
  have h':1+b.cnt≤mid:=h'
  cases hr:(Tm.n1 k b).red with
  | some r=>grind [zBg]
  | none =>
  have g0:=qH7 (Tm.n1 k b)
  rw [hr] at g0
  have gb:=qUk z hz b (by omega) (by omega)
  cases eb:b.st z with
  | er =>
   rw [eb] at gb
   have hT:(Tm.n1 k b).st z = .er:=by grind [Tm.st,SR.or]
   rw [hT]
   cases k with
   | succ=>exact w2 [(16,.F),(41,.r SR.er.q)] (kp [4,5]) (.tuple [.nil,num 0]) (.tuple [.nil,num 4]) (hbq hT) g0 gb rfl
   | fst=>exact w2 [(16,.F),(41,.r SR.er.q)] (kp [4,5]) (.tuple [.nil,num 0]) (.tuple [.nil,num 4]) (hbq hT) g0 gb rfl
   | snd=>exact w2 [(16,.F),(41,.r SR.er.q)] (kp [4,5]) (.tuple [.nil,num 0]) (.tuple [.nil,num 4]) (hbq hT) g0 gb rfl
  | ok x =>
   rw [eb] at gb
   have hT:(Tm.n1 k b).st z = .ok (Tm.n1 k x):=by grind [Tm.st,SR.or]
   rw [hT]
   obtain⟨sx1,sx2,_⟩:=qEr z b eb
   have g5:=qOc k b x (by omega)
   cases k with
   | succ=>exact w4 [(16,.F),(41,.r (SR.ok x).q),(300015,.f 0 [[x.nd']]),(60,.r (Tm.n1 .succ x).nd')] (kp [4,5]) (.tuple [.nil,num 0]) (.tuple [(Tm.n1 .succ x).nd',num 0]) (hbq hT) g0 gb (rfl:pvE [[x.nd']]=pvE [[x.nd']]) g5 rfl
   | fst=>exact w4 [(16,.F),(41,.r (SR.ok x).q),(300015,.f 0 [[x.nd']]),(60,.r (Tm.n1 .fst x).nd')] (kp [4,5]) (.tuple [.nil,num 0]) (.tuple [(Tm.n1 .fst x).nd',num 0]) (hbq hT) g0 gb (rfl:pvE [[x.nd']]=pvE [[x.nd']]) g5 rfl
   | snd=>exact w4 [(16,.F),(41,.r (SR.ok x).q),(300015,.f 0 [[x.nd']]),(60,.r (Tm.n1 .snd x).nd')] (kp [4,5]) (.tuple [.nil,num 0]) (.tuple [(Tm.n1 .snd x).nd',num 0]) (hbq hT) g0 gb (rfl:pvE [[x.nd']]=pvE [[x.nd']]) g5 rfl
  | no =>
  rw [eb] at gb
  have hT:(Tm.n1 k b).st z = .no:=by grind [Tm.st,SR.or]
  have hn:(Tm.n1 k b).nf=true:=(qKn z _).2 hT
  rw [hT]
  cases k with
  | succ=>exact w3 [(16,.F),(41,.r SR.no.q),(99999,.s)] (kp [4,5]) (.tuple [.nil,num 0]) (.tuple [.nil,num 0]) (hbq hT) g0 gb hn rfl
  | fst=>exact w3 [(16,.F),(41,.r SR.no.q),(99999,.s)] (kp [4,5]) (.tuple [.nil,num 0]) (.tuple [.nil,num 0]) (hbq hT) g0 gb hn rfl
  | snd=>exact w3 [(16,.F),(41,.r SR.no.q),(99999,.s)] (kp [4,5]) (.tuple [.nil,num 0]) (.tuple [.nil,num 0]) (hbq hT) g0 gb hn rfl
 | .n2 k b d,h,h'=>by
  have hm:=qQh
  have hb:=qQk
  have h:max b.mx d.mx≤mid * mid:=h
  have h':1+b.cnt+d.cnt≤mid:=h'
  cases hr:(Tm.n2 k b d).red with
  | some r=>grind [zBg]
  | none =>
  have g0:=qH7 (Tm.n2 k b d)
  rw [hr] at g0
  have gb:=qUk z hz b (by omega) (by omega)
  cases eb:b.st z with
  | er =>
   rw [eb] at gb
   have hT:(Tm.n2 k b d).st z = .er:=by grind [Tm.st,SR.or]
   rw [hT]
   cases k with
   | app=>exact w2 [(16,.F),(41,.r SR.er.q)] (kp [4,5]) (.tuple [.nil,num 0]) (.tuple [.nil,num 4]) (hbq hT) g0 gb rfl
   | cons=>exact w2 [(16,.F),(41,.r SR.er.q)] (kp [4,5]) (.tuple [.nil,num 0]) (.tuple [.nil,num 4]) (hbq hT) g0 gb rfl
   | pair=>exact w2 [(16,.F),(41,.r SR.er.q)] (kp [4,5]) (.tuple [.nil,num 0]) (.tuple [.nil,num 4]) (hbq hT) g0 gb rfl
  | ok x =>
   rw [eb] at gb
   have hT:(Tm.n2 k b d).st z = .ok (Tm.n2 k x d):=by grind [Tm.st,SR.or]
   rw [hT]
   obtain⟨sx1,sx2,_⟩:=qEr z b eb
   have g5:=qH6 k b d x d (by omega)
   cases k with
   | app=>exact w4 [(16,.F),(41,.r (SR.ok x).q),(300015,.f 0 [[x.nd'],[d.nd']]),(60,.r (Tm.n2 .app x d).nd')] (kp [4,5]) (.tuple [.nil,num 0]) (.tuple [(Tm.n2 .app x d).nd',num 0]) (hbq hT) g0 gb (rfl:pvE [[x.nd'],[d.nd']]=pvE [[x.nd'],[d.nd']]) g5 rfl
   | cons=>exact w4 [(16,.F),(41,.r (SR.ok x).q),(300015,.f 0 [[x.nd'],[d.nd']]),(60,.r (Tm.n2 .cons x d).nd')] (kp [4,5]) (.tuple [.nil,num 0]) (.tuple [(Tm.n2 .cons x d).nd',num 0]) (hbq hT) g0 gb (rfl:pvE [[x.nd'],[d.nd']]=pvE [[x.nd'],[d.nd']]) g5 rfl
   | pair=>exact w4 [(16,.F),(41,.r (SR.ok x).q),(300015,.f 0 [[x.nd'],[d.nd']]),(60,.r (Tm.n2 .pair x d).nd')] (kp [4,5]) (.tuple [.nil,num 0]) (.tuple [(Tm.n2 .pair x d).nd',num 0]) (hbq hT) g0 gb (rfl:pvE [[x.nd'],[d.nd']]=pvE [[x.nd'],[d.nd']]) g5 rfl
  | no =>
  rw [eb] at gb
  have gd:=qUk z hz d (by omega) (by omega)
  cases ed:d.st z with
  | er =>
   rw [ed] at gd
   have hT:(Tm.n2 k b d).st z = .er:=by simp only [Tm.st,hr,eb,ed,SR.or]
   rw [hT]
   cases k with
   | app=>exact w3 [(16,.F),(41,.r SR.no.q),(41,.r SR.er.q)] (kp [4,5]) (.tuple [.nil,num 0]) (.tuple [.nil,num 4]) (hbq hT) g0 gb gd rfl
   | cons=>exact w3 [(16,.F),(41,.r SR.no.q),(41,.r SR.er.q)] (kp [4,5]) (.tuple [.nil,num 0]) (.tuple [.nil,num 4]) (hbq hT) g0 gb gd rfl
   | pair=>exact w3 [(16,.F),(41,.r SR.no.q),(41,.r SR.er.q)] (kp [4,5]) (.tuple [.nil,num 0]) (.tuple [.nil,num 4]) (hbq hT) g0 gb gd rfl
  | ok x =>
   rw [ed] at gd
   have hT:(Tm.n2 k b d).st z = .ok (Tm.n2 k b x):=by simp only [Tm.st,hr,eb,ed,SR.or]
   rw [hT]
   obtain⟨sx1,sx2,_⟩:=qEr z d ed
   have g5:=qH6 k b d b x (by omega)
   cases k with
   | app=>exact w5 [(16,.F),(41,.r SR.no.q),(41,.r (SR.ok x).q),(300015,.f 0 [[b.nd'],[x.nd']]),(60,.r (Tm.n2 .app b x).nd')] (kp [4,5]) (.tuple [.nil,num 0]) (.tuple [(Tm.n2 .app b x).nd',num 0]) (hbq hT) g0 gb gd (rfl:pvE [[b.nd'],[x.nd']]=pvE [[b.nd'],[x.nd']]) g5 rfl
   | cons=>exact w5 [(16,.F),(41,.r SR.no.q),(41,.r (SR.ok x).q),(300015,.f 0 [[b.nd'],[x.nd']]),(60,.r (Tm.n2 .cons b x).nd')] (kp [4,5]) (.tuple [.nil,num 0]) (.tuple [(Tm.n2 .cons b x).nd',num 0]) (hbq hT) g0 gb gd (rfl:pvE [[b.nd'],[x.nd']]=pvE [[b.nd'],[x.nd']]) g5 rfl
   | pair=>exact w5 [(16,.F),(41,.r SR.no.q),(41,.r (SR.ok x).q),(300015,.f 0 [[b.nd'],[x.nd']]),(60,.r (Tm.n2 .pair b x).nd')] (kp [4,5]) (.tuple [.nil,num 0]) (.tuple [(Tm.n2 .pair b x).nd',num 0]) (hbq hT) g0 gb gd (rfl:pvE [[b.nd'],[x.nd']]=pvE [[b.nd'],[x.nd']]) g5 rfl
  | no =>
  rw [ed] at gd
  have hT:(Tm.n2 k b d).st z = .no:=by simp only [Tm.st,hr,eb,ed,SR.or]
  have hn:(Tm.n2 k b d).nf=true:=(qKn z _).2 hT
  rw [hT]
  cases k with
  | app=>exact w4 [(16,.F),(41,.r SR.no.q),(41,.r SR.no.q),(99999,.s)] (kp [4,5]) (.tuple [.nil,num 0]) (.tuple [.nil,num 0]) (hbq hT) g0 gb gd hn rfl
  | cons=>exact w4 [(16,.F),(41,.r SR.no.q),(41,.r SR.no.q),(99999,.s)] (kp [4,5]) (.tuple [.nil,num 0]) (.tuple [.nil,num 0]) (hbq hT) g0 gb gd hn rfl
  | pair=>exact w4 [(16,.F),(41,.r SR.no.q),(41,.r SR.no.q),(99999,.s)] (kp [4,5]) (.tuple [.nil,num 0]) (.tuple [.nil,num 0]) (hbq hT) g0 gb gd hn rfl
 | .n3 k s b d w,h,h'=>by
  have hm:=qQh
  have hb:=qQk
  have h:max b.mx (max d.mx w.mx)≤mid * mid:=h
  have h':1+b.cnt+d.cnt+w.cnt≤mid:=h'
  cases hr:(Tm.n3 k s b d w).red with
  | some r=>exact zBg hr z h h'
  | none =>
  have g0:=qH7 (Tm.n3 k s b d w)
  rw [hr] at g0
  have gb:=qUk z hz b (by omega) (by omega)
  cases eb:b.st z with
  | er =>
   rw [eb] at gb
   have hT:(Tm.n3 k s b d w).st z = .er:=by simp only [Tm.st,hr,eb,SR.or]
   rw [hT]
   cases k with
   | re=>exact w2 [(16,.F),(41,.r SR.er.q)] (kp [4,5]) (.tuple [.nil,num 0]) (.tuple [.nil,num 4]) (hbq hT) g0 gb rfl
   | fo=>exact w2 [(16,.F),(41,.r SR.er.q)] (kp [4,5]) (.tuple [.nil,num 0]) (.tuple [.nil,num 4]) (hbq hT) g0 gb rfl
  | ok x =>
   rw [eb] at gb
   have hT:(Tm.n3 k s b d w).st z = .ok (Tm.n3 k s x d w):=by simp only [Tm.st,hr,eb,SR.or]
   rw [hT]
   obtain⟨sx1,sx2,_⟩:=qEr z b eb
   have g5:=qY9 k s b d w x d w (by omega)
   cases k with
   | re=>exact w4 [(16,.F),(41,.r (SR.ok x).q),(300015,.f 0 [[x.nd'],[d.nd'],[w.nd']]),(60,.r (Tm.n3 .re s x d w).nd')] (kp [4,5]) (.tuple [.nil,num 0]) (.tuple [(Tm.n3 .re s x d w).nd',num 0]) (hbq hT) g0 gb (rfl:pvE [[x.nd'],[d.nd'],[w.nd']]=pvE [[x.nd'],[d.nd'],[w.nd']]) g5 rfl
   | fo=>exact w4 [(16,.F),(41,.r (SR.ok x).q),(300015,.f 0 [[x.nd'],[d.nd'],[w.nd']]),(60,.r (Tm.n3 .fo s x d w).nd')] (kp [4,5]) (.tuple [.nil,num 0]) (.tuple [(Tm.n3 .fo s x d w).nd',num 0]) (hbq hT) g0 gb (rfl:pvE [[x.nd'],[d.nd'],[w.nd']]=pvE [[x.nd'],[d.nd'],[w.nd']]) g5 rfl
  | no =>
  rw [eb] at gb
  have gd:=qUk z hz d (by omega) (by omega)
  cases ed:d.st z with
  | er =>
   rw [ed] at gd
   have hT:(Tm.n3 k s b d w).st z = .er:=by simp only [Tm.st,hr,eb,ed,SR.or]
   rw [hT]
   cases k with
   | re=>exact w3 [(16,.F),(41,.r SR.no.q),(41,.r SR.er.q)] (kp [4,5]) (.tuple [.nil,num 0]) (.tuple [.nil,num 4]) (hbq hT) g0 gb gd rfl
   | fo=>exact w3 [(16,.F),(41,.r SR.no.q),(41,.r SR.er.q)] (kp [4,5]) (.tuple [.nil,num 0]) (.tuple [.nil,num 4]) (hbq hT) g0 gb gd rfl
  | ok x =>
   rw [ed] at gd
   have hT:(Tm.n3 k s b d w).st z = .ok (Tm.n3 k s b x w):=by simp only [Tm.st,hr,eb,ed,SR.or]
   rw [hT]
   obtain⟨sx1,sx2,_⟩:=qEr z d ed
   have g5:=qY9 k s b d w b x w (by omega)
   cases k with
   | re=>exact w5 [(16,.F),(41,.r SR.no.q),(41,.r (SR.ok x).q),(300015,.f 0 [[b.nd'],[x.nd'],[w.nd']]),(60,.r (Tm.n3 .re s b x w).nd')] (kp [4,5]) (.tuple [.nil,num 0]) (.tuple [(Tm.n3 .re s b x w).nd',num 0]) (hbq hT) g0 gb gd (rfl:pvE [[b.nd'],[x.nd'],[w.nd']]=pvE [[b.nd'],[x.nd'],[w.nd']]) g5 rfl
   | fo=>exact w5 [(16,.F),(41,.r SR.no.q),(41,.r (SR.ok x).q),(300015,.f 0 [[b.nd'],[x.nd'],[w.nd']]),(60,.r (Tm.n3 .fo s b x w).nd')] (kp [4,5]) (.tuple [.nil,num 0]) (.tuple [(Tm.n3 .fo s b x w).nd',num 0]) (hbq hT) g0 gb gd (rfl:pvE [[b.nd'],[x.nd'],[w.nd']]=pvE [[b.nd'],[x.nd'],[w.nd']]) g5 rfl
  | no =>
  rw [ed] at gd
  have gw:=qUk z hz w (by omega) (by omega)
  cases ew:w.st z with
  | er =>
   rw [ew] at gw
   have hT:(Tm.n3 k s b d w).st z = .er:=by simp only [Tm.st,hr,eb,ed,ew,SR.or]
   rw [hT]
   cases k with
   | re=>exact w4 [(16,.F),(41,.r SR.no.q),(41,.r SR.no.q),(41,.r SR.er.q)] (kp [4,5]) (.tuple [.nil,num 0]) (.tuple [.nil,num 4]) (hbq hT) g0 gb gd gw rfl
   | fo=>exact w4 [(16,.F),(41,.r SR.no.q),(41,.r SR.no.q),(41,.r SR.er.q)] (kp [4,5]) (.tuple [.nil,num 0]) (.tuple [.nil,num 4]) (hbq hT) g0 gb gd gw rfl
  | ok x =>
   rw [ew] at gw
   have hT:(Tm.n3 k s b d w).st z = .ok (Tm.n3 k s b d x):=by simp only [Tm.st,hr,eb,ed,ew,SR.or]
   rw [hT]
   obtain⟨sx1,sx2,_⟩:=qEr z w ew
   have g5:=qY9 k s b d w b d x (by omega)
   cases k with
   | re=>exact w6 [(16,.F),(41,.r SR.no.q),(41,.r SR.no.q),(41,.r (SR.ok x).q),(300015,.f 0 [[b.nd'],[d.nd'],[x.nd']]),(60,.r (Tm.n3 .re s b d x).nd')] (kp [4,5]) (.tuple [.nil,num 0]) (.tuple [(Tm.n3 .re s b d x).nd',num 0]) (hbq hT) g0 gb gd gw (rfl:pvE [[b.nd'],[d.nd'],[x.nd']]=pvE [[b.nd'],[d.nd'],[x.nd']]) g5 rfl
   | fo=>exact w6 [(16,.F),(41,.r SR.no.q),(41,.r SR.no.q),(41,.r (SR.ok x).q),(300015,.f 0 [[b.nd'],[d.nd'],[x.nd']]),(60,.r (Tm.n3 .fo s b d x).nd')] (kp [4,5]) (.tuple [.nil,num 0]) (.tuple [(Tm.n3 .fo s b d x).nd',num 0]) (hbq hT) g0 gb gd gw (rfl:pvE [[b.nd'],[d.nd'],[x.nd']]=pvE [[b.nd'],[d.nd'],[x.nd']]) g5 rfl
  | no =>
  rw [ew] at gw
  have hT:(Tm.n3 k s b d w).st z = .no:=by simp only [Tm.st,hr,eb,ed,ew,SR.or]
  have hn:(Tm.n3 k s b d w).nf=true:=(qKn z _).2 hT
  rw [hT]
  cases k with
  | re=>exact w5 [(16,.F),(41,.r SR.no.q),(41,.r SR.no.q),(41,.r SR.no.q),(99999,.s)] (kp [4,5]) (.tuple [.nil,num 0]) (.tuple [.nil,num 0]) (hbq hT) g0 gb gd gw hn rfl
  | fo=>exact w5 [(16,.F),(41,.r SR.no.q),(41,.r SR.no.q),(41,.r SR.no.q),(99999,.s)] (kp [4,5]) (.tuple [.nil,num 0]) (.tuple [.nil,num 0]) (hbq hT) g0 gb gd gw hn rfl
theorem zBh {t r:Tm} (h:t.red=some r) (hn:t.nf=false):A 362 [t.nd'] (.bool t.nf):=by
 have g:=qH7 t
 rw [h] at g
 exact w1 [(10,.T)] (kp [2]) (.bool true) (.bool false) (b:=t.nf) (fun h=>by rw [h]) g (by rw [hn])
theorem qUl:∀ t:Tm,A 362 [t.nd'] (.bool t.nf)
 | .v i=>w2 [(10,.F),(99999,.s)] (kp [2]) (.bool true) (.bool true) (b:=true) (fun _=>rfl) (qH7 (.v i)) (rfl:true=true) rfl
 | .n0 k=>by
  have g:=qH7 (.n0 k)
  cases k<;>exact w2 [(10,.F),(99999,.s)] (kp [2]) (.bool true) (.bool true) (b:=true) (fun _=>rfl) g (rfl:true=true) rfl
 | .lam s b=>by
  have g:=qH7 (.lam s b)
  have g1:=qUl b
  cases e:b.nf<;>rw [e] at g1
  ·have hn:(Tm.lam s b).nf=false:=e
   exact w2 [(10,.F),(21,.F)] (kp [2]) (.bool true) (.bool false) (b:=(Tm.lam s b).nf) (fun h=>by rw [h]) g g1 (by rw [hn])
  ·have hn:(Tm.lam s b).nf=true:=e
   exact w3 [(10,.F),(21,.T),(99999,.s)] (kp [2]) (.bool true) (.bool true) (b:=(Tm.lam s b).nf) (fun h=>by rw [h]) g g1 hn (by rw [hn])
 | .n1 k b=>by
  cases hr:(Tm.n1 k b).red with
  | some r=>exact zBh hr (by simp only [Tm.nf,hr];rfl)
  | none =>
   have g:=qH7 (.n1 k b)
   have hbf:(Tm.n1 k b).nf=true→PV.bool true = .bool (Tm.n1 k b).nf:=fun h=>by rw [h]
   rw [hr] at g
   have g1:=qUl b
   cases e:b.nf<;>rw [e] at g1
   ·have hn:(Tm.n1 k b).nf=false:=by simp only [Tm.nf,hr,e];rfl
    cases k<;>exact w2 [(10,.F),(21,.F)] (kp [2]) (.bool true) (.bool false) hbf g g1 (by rw [hn])
   ·have hn:(Tm.n1 k b).nf=true:=by simp only [Tm.nf,hr,e];rfl
    cases k<;>exact w3 [(10,.F),(21,.T),(99999,.s)] (kp [2]) (.bool true) (.bool true) hbf g g1 hn (by rw [hn])
 | .n2 k b d=>by
  cases hr:(Tm.n2 k b d).red with
  | some r=>exact zBh hr (by simp only [Tm.nf,hr];rfl)
  | none =>
   have g:=qH7 (.n2 k b d)
   have hbf:(Tm.n2 k b d).nf=true→PV.bool true = .bool (Tm.n2 k b d).nf:=fun h=>by rw [h]
   rw [hr] at g
   have g1:=qUl b
   have g2:=qUl d
   cases e:b.nf<;>rw [e] at g1
   ·have hn:(Tm.n2 k b d).nf=false:=by simp only [Tm.nf,hr,e];rfl
    cases k<;>exact w2 [(10,.F),(21,.F)] (kp [2]) (.bool true) (.bool false) hbf g g1 (by rw [hn])
   ·cases e':d.nf<;>rw [e'] at g2
    ·have hn:(Tm.n2 k b d).nf=false:=by simp only [Tm.nf,hr,e,e'];rfl
     cases k<;>exact w3 [(10,.F),(21,.T),(21,.F)] (kp [2]) (.bool true) (.bool false) hbf g g1 g2 (by rw [hn])
    ·have hn:(Tm.n2 k b d).nf=true:=by simp only [Tm.nf,hr,e,e'];rfl
     cases k<;>exact w4 [(10,.F),(21,.T),(21,.T),(99999,.s)] (kp [2]) (.bool true) (.bool true) hbf g g1 g2 hn (by rw [hn])
 | .n3 k s b d w=>by
  cases hr:(Tm.n3 k s b d w).red with
  | some r=>exact zBh hr (by simp only [Tm.nf,hr];rfl)
  | none =>
   have g:=qH7 (.n3 k s b d w)
   have hbf:(Tm.n3 k s b d w).nf=true→PV.bool true = .bool (Tm.n3 k s b d w).nf:=fun h=>by rw [h]
   rw [hr] at g
   have g1:=qUl b
   have g2:=qUl d
   have g3:=qUl w
   cases e:b.nf<;>rw [e] at g1
   ·have hn:(Tm.n3 k s b d w).nf=false:=by simp only [Tm.nf,hr,e];rfl
    cases k<;>exact w2 [(10,.F),(21,.F)] (kp [2]) (.bool true) (.bool false) hbf g g1 (by rw [hn])
   ·cases e':d.nf<;>rw [e'] at g2
    ·have hn:(Tm.n3 k s b d w).nf=false:=by simp only [Tm.nf,hr,e,e'];rfl
     cases k<;>exact w3 [(10,.F),(21,.T),(21,.F)] (kp [2]) (.bool true) (.bool false) hbf g g1 g2 (by rw [hn])
    ·cases e'':w.nf<;>rw [e''] at g3
     ·have hn:(Tm.n3 k s b d w).nf=false:=by simp only [Tm.nf,hr,e,e',e''];rfl
      cases k<;>exact w4 [(10,.F),(21,.T),(21,.T),(21,.F)] (kp [2]) (.bool true) (.bool false) hbf g g1 g2 g3 (by rw [hn])
     ·have hn:(Tm.n3 k s b d w).nf=true:=by simp only [Tm.nf,hr,e,e',e''];rfl
      cases k<;>exact w5 [(10,.F),(21,.T),(21,.T),(21,.T),(99999,.s)] (kp [2]) (.bool true) (.bool true) hbf g g1 g2 g3 hn (by rw [hn])
structure TK (n:Nat) (t:Tm):Prop where
 cnt:t.cnt≤4096
 shp:t.shp=true
 sc:t.sc n
def SR.t (r:SR):PV:=match r with
 | .er => .tuple [.bool false,num 4]
 | .no => .tuple [.bool false,num 0]
 | .ok _ => .tuple [.bool true,num 0]
def SR.o (r:SR) (t:Tm) (k:Nat):Ob:=match r with
 | .ok x=>bx [x.nd',num (k+1)]
 | _=>bx [t.nd',num k]
abbrev lim:Nat:=100000
theorem TK.mx {n:Nat} {t:Tm} (h:TK n t) (hn:n≤lim):t.mx≤104096:=by
 have:=qC2 t n h.sc
 have:=h.cnt
 have hl:lim=100000:=rfl
 omega
theorem TK.chk {n:Nat} {t:Tm} (h:TK n t):t.chk=0:=by
 unfold Tm.chk
 rw [h.shp]
 rw [qZ4 h.cnt]
theorem zEi {n:Nat} {t:Tm} (h:TK n t) (hn:n≤lim) (k:Nat) (hk:k≤1000):O 360 [.loc 2 0] [(2,bx [t.nd',num k])] (.pv (t.st (4096-t.cnt)).t) [(2,(t.st (4096-t.cnt)).o t k)] ∧ ∀ x,t.st (4096-t.cnt) = .ok x→TK n x:=by
 have hm:=qQh
 have hb:=qQk
 have hc:=h.cnt
 have hx:=h.mx hn
 have g0:=zVz (i:=4096) (d:=t.cnt) (by omega) (by omega)
 have g1:A 383 [t.nd',.int (4096 - .ofNat t.cnt)] (t.st (4096-t.cnt)).q:=qUk (4096 - .ofNat t.cnt) (by simp;omega) t (by rw [hm];omega) (by omega)
 cases e:t.st (4096-t.cnt) with
 | er=>rw [e] at g1;exact⟨o2 3 [(16,.y (4096-Int.ofNat t.cnt)),17] g0 g1,fun x e=>nomatch e⟩
 | no=>rw [e] at g1;exact⟨o2 3 [(16,.y (4096-Int.ofNat t.cnt)),17] g0 g1,fun x e=>nomatch e⟩
 | ok x =>
  rw [e] at g1
  obtain⟨s1,s2,_⟩:=qEr _ t e
  obtain⟨s4,s5⟩:=zBf _ t e h.sc h.shp
  refine⟨o3 3 [(16,.y (4096-Int.ofNat t.cnt)),17,35] g0 g1 (qQv (a:=k) (b:=1) (by omega)),?_⟩
  intro y e
  cases e
  exact⟨by omega,s5,s4⟩
abbrev qGr:Kp:=⟨[1,4,8],[1,2],3,[]⟩
abbrev zKn:Kp:=⟨[4,5,6],[1],3,[]⟩
abbrev zBi:Kp:=⟨[4,8],[1,2],3,[]⟩
abbrev zBj (k:Nat) (t:Tm):IS:=st [(1,.pv (num 1000)),(4,.loc 1 0),(8,.loc 2 0)] [(1,bx kz),(2,bx [t.nd',num k])] 3 []
abbrev zYn (n e:Nat) (l:List PV):IS:=st [(4,.loc 1 0),(5,.pv (num n)),(6,.pv (num e))] [(1,bx l)] 3 []
abbrev zBk (t:Tm):IS:=st [(4,.loc 1 0),(8,.loc 2 0)] [(1,bx kz),(2,bx [t.nd',num 1000])] 3 []
theorem zJg {n:Nat} (hn:n≤lim):∀ (r k:Nat),k+r=1000→∀ t:Tm,TK n t →
  (∃ x j,Lp 328 0 0 (zBj k t) .ret (zYn j 0 (Tm.c x))∧TK n x∧nfl r k t = .ok x j)∨(∃ e,Lp 328 0 0 (zBj k t) .ret (zYn 0 (e+1) kz)∧nfl r k t = .er e) ∨ ∃ x,Lp 328 0 0 (zBj k t) (.exit 0) (zBk x)∧TK n x∧nfl r k t=nfl 0 1000 x:=by
 intro r
 induction r with
 | zero =>
  intro k hk t ht
  obtain rfl:k=1000:=by omega
  exact .inr (.inr ⟨t,x0 [] zBi,ht,rfl⟩)
 | succ r ih =>
  intro k hk t ht
  have hlt:ltI (.ofNat k) (.ofNat 1000)=true:=qWz (by omega)
  obtain⟨g1,q1⟩:=zEi ht hn k (by omega)
  rw [nfl]
  cases e1:t.st (4096-t.cnt) with
  | er=>rw [e1] at g1;exact .inr (.inl ⟨3,x2 [38,41] zKn hlt g1,rfl⟩)
  | no=>rw [e1] at g1;exact .inl ⟨t,k,x3 [38,41,54] zKn hlt g1 (qSg t),ht,rfl⟩
  | ok x =>
   rw [e1] at g1
   have hx:=q1 x e1
   rcases ih (k+1) (by omega) x hx with ⟨y,j,h4,h5⟩|⟨e,h4,h5⟩|⟨y,h4,h5⟩
   ·exact .inl ⟨y,j,n3 [38,41] qGr hlt g1 h4,h5⟩
   ·exact .inr (.inl ⟨e,n3 [38,41] qGr hlt g1 h4,h5⟩)
   ·exact .inr (.inr ⟨y,n3 [38,41] qGr hlt g1 h4,h5⟩)
theorem zJh {n:Nat} {t:Tm} (h:TK n t) (hn:n≤lim):A 328 [t.p,num 1000] (nrm t).p ∧ ∀ x k,nrm t = .ok x k→TK n x:=by
 have hm:=qQh
 have hb:=qQk
 have hc:=h.cnt
 have hx:=h.mx hn
 have ht:=qZq t h.shp
 have g1:=a92 t (by omega) (by omega)
 rw [h.chk] at g1
 have g2:=a298 t (by omega)
 have hf:far=536870912:=rfl
 rw [qWp t (by omega)] at g2
 have g3:=qUg t (by omega) (by omega)
 unfold nrm
 rcases zJg hn 1000 0 rfl t h with ⟨x,k,h4,h5,h6⟩|⟨e,h4,h6⟩|⟨x,h4,h5,h6⟩<;>rw [h6]
 ·exact⟨f4 [12,25,30,(100007,.l qGr .ret (zYn k 0 x.c))] g1 g2 g3 h4,fun y j e=>by simp_all⟩
 ·exact⟨f4 [12,25,30,(100007,.l qGr .ret (zYn 0 (e+1) kz))] g1 g2 g3 h4,fun y j e=>by cases e⟩
 ·have g4:=qUl x
  cases e:x.nf<;>rw [e] at g4
  ·have h7:nfl 0 1000 x = .er 4:=by
    rw [nfl]
    cases e2:x.st (4096-x.cnt) with
    | no=>rw [(qKn _ x).2 e2] at e;cases e
    | er=>rfl
    | ok y=>rfl
   rw [h7]
   exact⟨f5 [12,25,30,(100007,.l qGr (.exit 0) (zBk x)),63] g1 g2 g3 h4 g4,fun y j e=>by cases e⟩
  ·have h7:nfl 0 1000 x = .ok x 1000:=by rw [nfl,(qKn _ x).1 e]
   rw [h7]
   exact⟨f6 [12,25,30,(100007,.l qGr (.exit 0) (zBk x)),63,70] g1 g2 g3 h4 g4 (qSg x),fun y j e=>by simp_all⟩
open Go.Lg
set_option maxRecDepth 100000
theorem FK.eq1 {n:Nat} {a b:Tm} (h:FK n (.eq a b)):TK n a:=⟨by have:=h.cnt;grind [Fm.cnt],(qZ1 h.shp).1,h.sc.1⟩
theorem FK.eq2 {n:Nat} {a b:Tm} (h:FK n (.eq a b)):TK n b:=⟨by have:=h.cnt;grind [Fm.cnt],(qZ1 h.shp).2,h.sc.2⟩
theorem FK.bin1 {n:Nat} {k:FB} {a b:Fm} (h:FK n (.bin k a b)):FK n a:=⟨by have:=h.cnt;grind [Fm.cnt],(qZ1 h.shp).1,h.sc.1⟩
theorem FK.bin2 {n:Nat} {k:FB} {a b:Fm} (h:FK n (.bin k a b)):FK n b:=⟨by have:=h.cnt;grind [Fm.cnt],(qZ1 h.shp).2,h.sc.2⟩
theorem FK.qf {n:Nat} {k:FQ} {s:Ty} {a:Fm} (h:FK n (.q k s a)):FK (n+1) a:=⟨by have:=h.cnt;grind [Fm.cnt],(qZ1 h.shp).2,h.sc⟩
theorem FK.qs {n:Nat} {k:FQ} {s:Ty} {a:Fm} (h:FK n (.q k s a)):s.size≤64:=zZ9 (qZ1 h.shp).1
theorem FK.chk {n:Nat} {f:Fm} (h:FK n f):f.chk=0:=by
 unfold Fm.chk
 rw [h.shp]
 rw [qZ4 h.cnt]
theorem FK.mx {n:Nat} {f:Fm} (h:FK n f) (hn:n≤lim):f.mx≤104096:=by
 have:=qE0 f n h.sc
 have:=h.cnt
 have hl:lim=100000:=rfl
 omega
theorem FK.up {n m:Nat} {f:Fm} (h:FK n f) (hn:n≤m):FK m f:=⟨h.cnt,h.shp,qH4 f hn h.sc⟩
theorem FK.a89 {n:Nat} {f:Fm} (h:FK n f):A 174 [f.p] (num 0):=by
 have hb:=qQk
 have g:=Go.Proofs.YtbbbnbikmbaejaaGreatDoor.a89 f (by have:=qVj f h.shp;omega) (by have:=h.cnt;omega)
 rwa [h.chk] at g
theorem FK.a296 {n:Nat} {f:Fm} (h:FK n f):A 334 [f.p] (.tuple [num f.cnt,num 0]):=by
 have hb:=qQk
 have g:=Go.Proofs.YtbbbnbikmbaejaaGreatDoor.a296 f (by have:=qVj f h.shp;omega) (by have:=h.cnt;omega)
 rwa [Fm.ckn0 h.chk,h.chk] at g
theorem FK.a295 {n:Nat} {f:Fm} (h:FK n f) (hn:n≤lim):A 333 [f.p] (.bool true):=by
 have hm:=qQh
 have hf:far=536870912:=rfl
 have g:=Go.Proofs.YtbbbnbikmbaejaaGreatDoor.a295 f (by have:=h.cnt;omega)
 rwa [qC1 f (by have:=h.mx hn;omega)] at g
theorem TK.a92 {n:Nat} {t:Tm} (h:TK n t):A 99 [t.p] (num 0):=by
 have hb:=qQk
 have g:=Go.Proofs.YtbbbnbikmbaejaaGreatDoor.a92 t (by have:=qZq t h.shp;omega) (by have:=h.cnt;omega)
 rwa [h.chk] at g
theorem TK.a297 {n:Nat} {t:Tm} (h:TK n t):A 335 [t.p] (.tuple [num t.cnt,num 0]):=by
 have hb:=qQk
 have g:=Go.Proofs.YtbbbnbikmbaejaaGreatDoor.a297 t (by have:=qZq t h.shp;omega) (by have:=h.cnt;omega)
 rwa [Tm.ckn0 h.chk,h.chk] at g
theorem TK.a298 {n:Nat} {t:Tm} (h:TK n t) (hn:n≤lim):A 336 [t.p] (.bool true):=by
 have hm:=qQh
 have hf:far=536870912:=rfl
 have g:=Go.Proofs.YtbbbnbikmbaejaaGreatDoor.a298 t (by have:=h.cnt;omega)
 rwa [qWp t (by have:=h.mx hn;omega)] at g
theorem zC4 {n:Nat} {a b:Tm} (ha:TK n a) (hb:TK n b) (hn:n≤lim) (h:a.mt b):A 352 [a.p,b.p,num 1000] (num 0):=by
 obtain⟨r,g3,q3⟩:=zCv a b
 cases r
 ·rcases h with h|⟨x,j,l,e1,e2⟩
  ·simp_all
  ·have g4:=(zJh ha hn).1
   have g5:=(zJh hb hn).1
   rw [e1] at g4
   rw [e2] at g5
   obtain⟨r,g6,q6⟩:=zCv x x
   rw [q6.2 rfl] at g6
   exact f6 [15,20,26,30,40,49] ha.a92 hb.a92 g3 g4 g5 g6
 ·exact f3 [15,20,26] ha.a92 hb.a92 g3
theorem zYo:∀ (a b:Fm) (n:Nat),FK n a→FK n b→n+a.cnt≤lim→a.mt b→A 322 [a.p,b.p] (num 0)
 | .eq a c,.eq b d,n,h1,h2,hn,h=>f3 [21,38,38] qLu (zC4 h1.eq1 h2.eq1 (by omega) h.1) (zC4 h1.eq2 h2.eq2 (by omega) h.2)
 | .bin k f g,.bin l f' g',n,h1,h2,hn,h=>by
  obtain⟨rfl,h3,h4⟩:=h
  simp only [Fm.cnt] at hn
  exact f4 [15,21,57,57] (qFf k.n) qLu (zYo f f' n h1.bin1 h2.bin1 (by omega) h3) (zYo g g' n h1.bin2 h2.bin2 (by omega) h4)
 | .q k s f,.q l u g,n,h1,h2,hn,h=>by
  obtain⟨rfl,rfl,h3⟩:=h
  simp only [Fm.cnt] at hn
  have g0:=a96 s s
  rw [(qZ6 s s).2 rfl] at g0
  exact f3 [15,21,57] (qFf k.n) g0 (zYo f g (n+1) h1.qf h2.qf (by omega) h3)
 | .eq _ _,.bin _ _ _,_,_,_,_,h=>h.elim
 | .eq _ _,.q _ _ _,_,_,_,_,h=>h.elim
 | .bin _ _ _,.eq _ _,_,_,_,_,h=>h.elim
 | .bin _ _ _,.q _ _ _,_,_,_,_,h=>h.elim
 | .q _ _ _,.eq _ _,_,_,_,_,h=>h.elim
 | .q _ _ _,.bin _ _ _,_,_,_,_,h=>h.elim
theorem zC5 {n:Nat} {a b:Fm} (h1:FK n a) (h2:FK n b) (hn:n≤90000) (h:a.mt b):A 260 [a.p,b.p] (num 0) :=
 f3 [8,13,19] h1.a89 h2.a89 (zYo a b n h1 h2 (by have:=h1.cnt;have hl:lim=100000:=rfl;omega) h)
theorem TK.Lf {n:Nat} {t:Tm} (h:TK n t) (hn:n≤lim):Lf t.x t:=by
 have hm:=qQh
 have h1:=h.cnt
 have h2:=h.mx hn
 exact .of t (by omega) (by rw [hm];omega) fun z hz=>zBa t 0 z (by omega) hz (by omega) (by rw [hm];omega)
theorem zKo {f:Fm} {t:Tm} (h:f.cnt+f.occ 0 * (t.cnt-1)≤4096):(f.put 0 t 0).cnt=f.cnt+f.occ 0 * (t.cnt-1):=by
 have e1:=qWf 0 t f 0
 have ca:=qR3 t
 simp only [Nat.add_zero] at e1
 have e4:f.occ 0 * (t.cnt-1)+f.occ 0=f.occ 0 * t.cnt:=by
  obtain⟨k,hk⟩:∃ k,t.cnt=k+1:=⟨t.cnt-1,by omega⟩
  rw [hk,Nat.add_sub_cancel,Nat.mul_succ]
 omega
theorem FK.pt {n:Nat} {f:Fm} {t:Tm} (h:FK (n+1) f) (ht:TK n t) {g:Fm} (e:f.pt t = .ok g):g=f.put 0 t 0∧FK n g:=by
 unfold Fm.pt at e
 split at e
 ·rename_i hl
  cases e
  refine⟨rfl,?_,?_,?_⟩
  ·rw [zKo hl];exact hl
  ·exact qWg 0 t f 0 (.inl ht.shp) h.shp
  ·exact qK7 t n f 0 h.sc (.inl ht.sc)
 ·cases e
theorem zKp {a b:Nat} (h:a≤4096) (h':b≤4096):a * b≤16777216:=Nat.mul_le_mul h h'
theorem zV3 {n:Nat} {f:Fm} {t:Tm} (h:FK (n+1) f) (ht:TK n t) (hn:n+1≤lim):A 266 [f.p,t.p] (f.pt t).p:=by
 have hm:=qQh
 have hb:=qQk
 have c1:=h.cnt
 have c2:=ht.cnt
 have c3:=qR3 t
 have hx:=h.mx hn
 have ho:=qJj f 0
 have hm1:=zKp (a:=f.occ 0) (b:=t.cnt-1) (by omega) (by omega)
 have g1:=zYl f (by have:=qVj f h.shp;omega) (by omega)
 rw [Fm.ckn0 h.chk,h.chk] at g1
 have g2:=zYj t (by have:=qZq t ht.shp;omega) (by omega)
 rw [Tm.ckn0 ht.chk,ht.chk] at g2
 have g3:=zKf f 0 (by omega) (by rw [hm];omega)
 have g4:=qFg (a:=t.cnt) c3 (by omega)
 have g5:=zJd (a:=f.occ 0) (b:=t.cnt-1) (by omega) rfl
 have g6:=qH8 (a:=f.cnt) (b:=f.occ 0 * (t.cnt-1)) (by omega) rfl
 unfold Fm.pt
 split
 ·rename_i hl
  have g7:=zKe f 0 t.x t (.inl (ht.Lf (by omega))) (by omega) (by rw [hm];omega)
  exact f8 [12,17,22,24,25,26,27,31] g1 g2 g3 g4 g5 g6 (qZ4 (a:=4096) hl) g7
 ·exact f7 [12,17,22,24,25,26,27] g1 g2 g3 g4 g5 g6 (qWz (a:=4096) (b:=f.cnt+f.occ 0 * (t.cnt-1)) (by omega))
theorem zEj {n:Nat} {f:Fm} {t:Tm} (h:FK (n+1) f) (ht:TK n t) (hn:n+1≤lim):A 282 [f.p,num 0,t.p] (f.pt t).p:=by
 have hm:=qQh
 have hb:=qQk
 have c1:=h.cnt
 have c2:=ht.cnt
 have c3:=qR3 t
 have hx:=h.mx hn
 have ho:=qJj f 0
 have hm1:=zKp (a:=f.occ 0) (b:=t.cnt-1) (by omega) (by omega)
 have g1:=h.a296
 have g2:=ht.a297
 have g3:=zKf f 0 (by omega) (by rw [hm];omega)
 have g4:=qFg (a:=t.cnt) c3 (by omega)
 have g5:=zJd (a:=f.occ 0) (b:=t.cnt-1) (by omega) rfl
 have g6:=qH8 (a:=f.cnt) (b:=f.occ 0 * (t.cnt-1)) (by omega) rfl
 unfold Fm.pt
 split
 ·rename_i hl
  have g7:=zKe f 0 t.x t (.inl (ht.Lf (by omega))) (by omega) (by rw [hm];omega)
  exact f10 [13,26,34,38,45,47,48,49,50,55] g1 g2 (h.a295 hn) (ht.a298 (by omega)) g3 g4 g5 g6 (qZ4 (a:=4096) hl) g7
 ·exact f9 [13,26,34,38,45,47,48,49,50] g1 g2 (h.a295 hn) (ht.a298 (by omega)) g3 g4 g5 g6 (qWz (a:=4096) (b:=f.cnt+f.occ 0 * (t.cnt-1)) (by omega))
theorem zJi {n:Nat} {f:Fm} (h:FK n f) (hn:n≤lim):A 281 [f.p,num 0,num 1] (FR.ok (f.sh 0 (.ofNat 1))).p:=by
 have hm:=qQh
 exact f3 [10,25,32] h.a89 (h.a295 hn) (qPu f 0 1 (by omega) (by have:=h.cnt;omega) (by have:=h.mx hn;rw [hm];omega))
theorem zJj {n:Nat} {f:Fm} (h:FK n f) (hn:n≤lim):A 281 [f.p,num 0,num 2] (FR.ok (f.sh 0 (.ofNat 2))).p:=by
 have hm:=qQh
 exact f3 [10,25,32] h.a89 (h.a295 hn) (qPu f 0 2 (by omega) (by have:=h.cnt;omega) (by have:=h.mx hn;rw [hm];omega))
theorem zJk {n:Nat} {f:Fm} (h:FK n f) (hn:n≤lim):A 281 [f.p,num 1,num 1] (FR.ok (f.sh 1 (.ofNat 1))).p:=by
 have hm:=qQh
 exact f3 [10,25,32] h.a89 (h.a295 hn) (qPu f 1 1 (by omega) (by have:=h.cnt;omega) (by have:=h.mx hn;rw [hm];omega))
theorem zJl {n:Nat} {f:Fm} (h:FK n f) (hn:n≤lim):A 281 [f.p,num 2,num 1] (FR.ok (f.sh 2 (.ofNat 1))).p:=by
 have hm:=qQh
 exact f3 [10,25,32] h.a89 (h.a295 hn) (qPu f 2 1 (by omega) (by have:=h.cnt;omega) (by have:=h.mx hn;rw [hm];omega))
theorem qGs {f:Fm} (h0:f.occ 0=0):f.low.cnt=f.cnt:=by
 have e1:f.low.cnt+f.occ 0=f.cnt+f.occ 0 * (Tm.v 0).cnt:=qWf 0 (.v 0) f 0
 rw [h0,Nat.zero_mul] at e1
 exact e1
theorem FK.low {n:Nat} {f:Fm} (h:FK (n+1) f) (h0:f.occ 0=0):FK n f.low:=by
 refine⟨?_,qWg 0 _ f 0 (.inr h0) h.shp,qK7 _ n f 0 h.sc (.inr h0)⟩
 rw [qGs h0]
 exact h.cnt
theorem zC6 {n:Nat} {f:Fm} (h:FK n f) (hn:n≤lim):A 283 [f.p,num 0] (if f.occ 0=0 then FR.ok f.low else .er 5).p:=by
 have hm:=qQh
 have c1:=h.cnt
 have hx:=h.mx hn
 have g3:=zKf f 0 (by omega) (by rw [hm];omega)
 split
 ·rename_i h0
  rw [h0] at g3
  exact f3 [8,19,25] h.a89 g3 (zKe f 0 .z (.v 0) (.inr h0) (by omega) (by rw [hm];omega))
 ·exact f3 [8,19,20] h.a89 g3 (qWz (a:=0) (b:=f.occ 0) (by omega))
open Go.Lg
set_option maxRecDepth 100000
theorem qLi:∀ (f:Fm) (n:Nat),FK n f→n+f.cnt≤lim→∀ g,nmF f=some g→g.sc n∧g.shp=true∧g.cnt≤4096 * f.cnt
 | .eq a b,n,h,hn,g,e=>by
  have ca:=qR3 a
  have cb:=qR3 b
  have q1:=(zJh h.eq1 (by omega)).2
  have q2:=(zJh h.eq2 (by omega)).2
  unfold nmF at e
  split at e
  ·rename_i x j e1
   split at e
   ·rename_i y l e2
    cases e
    have h1:=q1 x j e1
    have h2:=q2 y l e2
    have:=h1.cnt
    have:=h2.cnt
    exact⟨⟨h1.sc,h2.sc⟩,by show (_ && _)=true;rw [h1.shp,h2.shp];rfl,by grind [Fm.cnt]⟩
   ·cases e
  ·cases e
 | .bin k a b,n,h,hn,g,e=>by
  simp only [Fm.cnt] at hn
  unfold nmF at e
  split at e
  ·rename_i x e1
   split at e
   ·rename_i y e2
    cases e
    obtain⟨h1,h2,h3⟩:=qLi a n h.bin1 (by omega) x e1
    obtain⟨k1,k2,k3⟩:=qLi b n h.bin2 (by omega) y e2
    exact⟨⟨h1,k1⟩,by show (_ && _)=true;rw [h2,k2];rfl,by grind [Fm.cnt]⟩
   ·cases e
  ·cases e
 | .q k s a,n,h,hn,g,e=>by
  simp only [Fm.cnt] at hn
  unfold nmF at e
  split at e
  ·rename_i x e1
   cases e
   obtain⟨h1,h2,h3⟩:=qLi a (n+1) h.qf (by omega) x e1
   exact⟨h1,by show (_ && _)=true;rw [(qZ1 h.shp).1,h2];rfl,by grind [Fm.cnt]⟩
  ·cases e
structure Sy where
 k:Nat
 tk:Nat
 te:List (List PV)
 ts:List (List PV)
 es:List (List PV)
abbrev Sy.c (s:Sy):List PV:=[num s.k,num s.tk,.slice s.te,.slice s.ts,.slice s.es]
abbrev Fm.y (f:Fm):Sy:=⟨f.kd,f.tk,f.te,f.ts,f.es⟩
abbrev chW (e:Nat):List (Nat × Ob):=[(2,bx [num e])]
theorem zC7 {n:Nat} {t y:Tm} {k:Nat} (h:TK n t) (hn:n≤lim) (d:Nat) (e:nrm t = .ok y k):O 327 [.pv t.p,.pv (num d),.loc 2 0] (chW 0) (.pv (.agg y.x.c)) (chW 0):=by
 have g1:=(zJh h hn).1
 rw [e] at g1
 exact o1 3 [14] g1
theorem qSi:∀ (f g:Fm) (n d:Nat),FK n f→n+f.cnt≤lim→d+f.cnt≤mid→nmF f=some g→O 198 [.pv f.p,.pv (num d),.fn 327 [.loc 2 0]] (chW 0) (.pv (.agg g.y.c)) (chW 0)
 | .eq a b,g,n,d,h,hn,hd,e=>by
  simp only [Fm.cnt] at hn
  unfold nmF at e
  split at e
  ·rename_i x j e1
   split at e
   ·rename_i y l e2
    cases e
    exact o3 3 [16,(30,.o [] (chW 0) (.pv (.agg x.x.c))),(30,.o [] (chW 0) (.pv (.agg y.x.c)))] qAe (zC7 h.eq1 (by omega) d e1) (zC7 h.eq2 (by omega) d e2)
   ·cases e
  ·cases e
 | .bin k a b,g,n,d,h,hn,hd,e=>by
  simp only [Fm.cnt] at hn hd
  unfold nmF at e
  split at e
  ·rename_i x e1
   split at e
   ·rename_i y e2
    cases e
    have g1:=qSi a x n d h.bin1 (by omega) (by omega) e1
    have g2:=qSi b y n d h.bin2 (by omega) (by omega) e2
    cases k<;>exact o3 3 [16,(52,.o [] (chW 0) (.pv (.agg x.y.c))),(52,.o [] (chW 0) (.pv (.agg y.y.c)))] qAe g1 g2
   ·cases e
  ·cases e
 | .q k s a,g,n,d,h,hn,hd,e=>by
  have hm:=qQh
  have hb:=qQk
  simp only [Fm.cnt] at hn hd
  unfold nmF at e
  split at e
  ·rename_i x e1
   cases e
   have g1:=qSi a x (n+1) (d+1) h.qf (by omega) (by omega) e1
   have g:=qQv (a:=d) (b:=1) (by omega)
   cases k<;>exact o3 3 [16,39,(52,.o [] (chW 0) (.pv (.agg x.y.c)))] (a95 s) g g1
  ·cases e
theorem zEk {n:Nat} {f g:Fm} (h:FK (n+1) f) (hn:n+1≤90000) (e:wtF f=some g):A 269 [f.p] (FR.ok g).p:=by
 have hm:=qQh
 have hl:lim=100000:=rfl
 have c1:=h.cnt
 have hx:=h.mx (by omega)
 have g1:=zKf f 0 (by omega) (by rw [hm];omega)
 unfold wtF at e
 split at e
 ·rename_i h0
  cases e
  rw [h0] at g1
  exact f2 [7,11] g1 (zKe f 0 .z (.v 0) (.inr h0) (by omega) (by rw [hm];omega))
 ·rename_i h0
  split at e
  ·rename_i y r1
   split at e
   ·rename_i h1
    cases e
    have g2:=qSi f y (n+1) 0 h (by omega) (by omega) r1
    have g0:eqI (.ofNat (f.occ 0)) (.ofNat 0)=false:=qGo h0
    obtain⟨k1,k2,k3⟩:=qLi f (n+1) h (by omega) y r1
    have k4:=qE0 y (n+1) k1
    have g3:=zKf y 0 (by omega) (by rw [hm];omega)
    rw [h1] at g3
    exact f5 [7,8,(14,.o [] (chW 0) (.pv (.agg y.y.c))),22,27] g1 g0 g2 g3 (zKe y 0 .z (.v 0) (.inr h1) (by omega) (by rw [hm];omega))
   ·cases e
  ·cases e
end Go.Proofs.YtbbbnbikmbaejaaGreatDoor
