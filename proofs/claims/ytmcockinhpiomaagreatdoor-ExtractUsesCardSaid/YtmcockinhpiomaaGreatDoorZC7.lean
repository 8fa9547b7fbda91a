/- Contracts of functions; no conditions. -/
import Derived.Test.YtmcockinhpiomaaGreatDoorZC6
import Derived.Test.YtmcockinhpiomaaGreatDoorZC4
set_option linter.all false
set_option maxHeartbeats 4000000
namespace Go.Proofs.YtmcockinhpiomaaGreatDoor
open Go.Lg
set_option maxRecDepth 100000
theorem a74 (i:Nat):A 74 [num i] (Tm.v i).p:=f0 []
theorem qS4 (s:Sc) (h:s.dep≤mid):A 124 [s.p] s.bind.p:=by
 have hm:=qQc
 have hbg:=qQh
 exact f1 [(5,.z (s.dep+1))] (qQ9 (a:=s.dep) (b:=1) (by omega))
theorem qS5 (s:Sc) (t:Tm) (h:s.vs.length≤mid):A 202 [s.p,t.p] (s.var t).p:=by
 have hm:=qQc
 have hbg:=qQh
 have g1:=qVw (s.vs.map ec).length
 have g2:=qXl 6 80 zJz (by decide) s.vs (t,s.dep) (by omega) (by simp only [maxLen];omega)
 rw [show (s.var t).p = .agg [num s.dep,num s.hyps,.slice (s.vs.map ec++[ec (t,s.dep)]),.slice (s.ks.map Hy.c)] by simp [Sc.var]]
 exact f2 [(13,.ok),(19,.ok)] g1 g2
theorem a73 (s:Sc) (t:Tm) (h:s.ks.length≤mid) (h':s.hyps≤mid):A 73 [s.p,t.p] (s.hyp t).p:=by
 have hm:=qQc
 have hbg:=qQh
 have g1:=qVw (s.ks.map Hy.c).length
 have g2:=qXl 8 96 Hy.c_len (by decide) s.ks (.hy t s.dep s.hyps) (by omega) (by simp only [maxLen];omega)
 rw [show (s.hyp t).p = .agg [num s.dep,num (s.hyps+1),.slice (s.vs.map ec),.slice (s.ks.map Hy.c++[(Hy.hy t s.dep s.hyps).c])] by simp [Sc.hyp]]
 exact f3 [(13,.ok),(22,.ok),(26,.z (s.hyps+1))] g1 g2 (qQ9 (a:=s.hyps) (b:=1) (by omega))
theorem a72 (s:Sc) (h:s.ks.length≤mid) (h':s.hyps≤mid):A 72 [s.p] s.bare.p:=by
 have hm:=qQc
 have hbg:=qQh
 have g1:=qVw (s.ks.map Hy.c).length
 have g2:=qXl 8 96 Hy.c_len (by decide) s.ks (.bare s.hyps) (by omega) (by simp only [maxLen];omega)
 rw [show s.bare.p = .agg [num s.dep,num (s.hyps+1),.slice (s.vs.map ec),.slice (s.ks.map Hy.c++[(Hy.bare s.hyps).c])] by simp [Sc.bare]]
 exact f3 [(11,.ok),(16,.ok),(20,.z (s.hyps+1))] g1 g2 (qQ9 (a:=s.hyps) (b:=1) (by omega))
theorem qG1 (k:Nat) (hk:k+1≤mid+mid):∀ (t:Tm) (c:Nat),t.mx≤mid * mid→c+t.cnt≤mid→A 196 [t.p,num c,num (k+1)] (t.sh c (.ofNat (k+1))).p
 | .v i,c,h3,h4=>by
  have hm:=qQc
  have hbg:=qQh
  have h3:i≤mid * mid:=h3
  rw [hm] at h3
  by_cases h:c≤i
  ·have e:(Tm.v i).sh c (.ofNat (k+1)) = .v (i+(k+1)):=by simp only [Tm.sh,if_pos h];rfl
   rw [e]
   exact f2 [(19,.G),(23,.z (i+(k+1)))] (qP7 h) (qQ9 (a:=i) (b:=k+1) (by omega))
  ·have e:(Tm.v i).sh c (.ofNat (k+1)) = .v i:=by simp only [Tm.sh,if_neg h]
   rw [e]
   exact f1 [(19,.H)] (qNk (show i<c by omega))
 | .lam s b,c,h3,h4=>by
  have h4:c+(1+b.cnt)≤mid:=h4
  have hm:=qQc
  have hbg:=qQh
  exact f2 [(30,.ok),(45,.r (b.sh (c+1) (.ofNat (k+1))).p)] (inN (show c+1≤_ by omega)) (qG1 k hk b (c+1) h3 (by omega))
 | .n0 q,c,_,_=>by cases q<;>exact f0 []
 | .n1 q a,c,h3,h4=>by
  have h4:c+(1+a.cnt)≤mid:=h4
  have h5:=qG1 k hk a c h3 (by omega)
  cases q<;>exact f1 [(45,.r (a.sh c (.ofNat (k+1))).p)] h5
 | .n2 q a b,c,h3,h4=>by
  simp only [Tm.mx,Tm.cnt] at h3 h4
  have h5:=qG1 k hk a c (by omega) (by omega)
  have h6:=qG1 k hk b c (by omega) (by omega)
  cases q<;>exact f2 [(45,.r (a.sh c (.ofNat (k+1))).p),(45,.r (b.sh c (.ofNat (k+1))).p)] h5 h6
 | .n3 q s a b d,c,h3,h4=>by
  simp only [Tm.mx,Tm.cnt] at h3 h4
  have h5:=qG1 k hk a c (by omega) (by omega)
  have h6:=qG1 k hk b c (by omega) (by omega)
  have h7:=qG1 k hk d c (by omega) (by omega)
  cases q<;>exact f3 [(45,.r (a.sh c (.ofNat (k+1))).p),(45,.r (b.sh c (.ofNat (k+1))).p),(45,.r (d.sh c (.ofNat (k+1))).p)] h5 h6 h7
theorem zHd (t:Tm) (c k:Nat) (hk:k≤mid+mid) (h:t.mx≤mid * mid) (h':c+t.cnt≤mid):A 196 [t.p,num c,num k] (t.sh c (.ofNat k)).p:=by
 cases k with
 | zero =>
  rw [qS2]
  exact f0 []
 | succ k=>exact qG1 k hk t c h h'
theorem qN2:∀ t:Tm,t.cnt≤big→A 197 [t.p] (num t.cnt)
 | .v i,h=>f0 []
 | .lam s b,h=>by
  have hb:=qQh
  simp only [Tm.cnt] at h
  exact f2 [(15,.N b.cnt),(16,.z (1+b.cnt))] (qN2 b (by omega)) (qQ9 (a:=1) (by omega))
 | .n0 k,h=>by cases k<;>exact f0 []
 | .n1 k a,h=>by
  have hb:=qQh
  simp only [Tm.cnt] at h
  have g1:=qN2 a (by omega)
  have g2:=qQ9 (a:=1) (b:=a.cnt) (by omega)
  cases k<;>exact f2 [(15,.N a.cnt),(16,.z (1+a.cnt))] g1 g2
 | .n2 k a b,h=>by
  have hb:=qQh
  simp only [Tm.cnt] at h
  have g1:=qN2 a (by omega)
  have g2:=qQ9 (a:=1) (b:=a.cnt) (by omega)
  have g3:=qN2 b (by omega)
  have g4:=qQ9 (a:=1+a.cnt) (b:=b.cnt) (by omega)
  cases k<;>exact f4 [(15,.N a.cnt),(16,.z (1+a.cnt)),(15,.N b.cnt),(16,.z (1+a.cnt+b.cnt))] g1 g2 g3 g4
 | .n3 k s a b d,h=>by
  have hb:=qQh
  simp only [Tm.cnt] at h
  have g1:=qN2 a (by omega)
  have g2:=qQ9 (a:=1) (b:=a.cnt) (by omega)
  have g3:=qN2 b (by omega)
  have g4:=qQ9 (a:=1+a.cnt) (b:=b.cnt) (by omega)
  have g5:=qN2 d (by omega)
  have g6:=qQ9 (a:=1+a.cnt+b.cnt) (b:=d.cnt) (by omega)
  cases k<;>exact f6 [(15,.N a.cnt),(16,.z (1+a.cnt)),(15,.N b.cnt),(16,.z (1+a.cnt+b.cnt)),(15,.N d.cnt),(16,.z (1+a.cnt+b.cnt+d.cnt))] g1 g2 g3 g4 g5 g6
theorem zJ1 (s:Sc) (hv:EOK s.dep s.vs) (hd:s.dep≤lim) (hl:s.vs.length≤lim):∀ (t:Tm) (b:Nat),t.sc (s.vs.length+b)→b+t.cnt≤mid→A 299 [s.p,t.p,num b] (t.ps s.vs s.dep b).p
 | .v i,b,h,h4=>by
  have hm:=qQc
  have hbg:=qQh
  have hlm:lim=100000:=rfl
  simp only [Tm.cnt] at h4
  have h:i<s.vs.length+b:=h
  by_cases hb:i<b
  ·have e:(Tm.v i).ps s.vs s.dep b = .v i:=by simp only [Tm.ps,if_pos hb]
   rw [e]
   have g1:inB (Int.ofNat i - .ofNat b)=true∧Int.ofNat i - .ofNat b=Int.ofNat i - .ofNat b:=zXq (by omega) (by omega)
   have g2:ltI (Int.ofNat i - .ofNat b) (.ofNat 0)=true:=by rw [qQs];simp;omega
   exact f2 [(18,.y (Int.ofNat i - .ofNat b)),(20,.G)] g1 g2
  ·have g1:inB (Int.ofNat i - .ofNat b)=true∧Int.ofNat i - .ofNat b = .ofNat (i-b):=by
    have e:Int.ofNat i - .ofNat b = .ofNat (i-b):=by simp;omega
    exact⟨by rw [e];exact inN (by omega),e⟩
   obtain⟨e,he,hme⟩:=qMc (vs:=s.vs) (v:=i-b) (by omega)
   have he':s.vs[s.vs.length-1-(i-b)]? = some e:=by
    unfold ent at he
    rwa [if_pos (by omega)] at he
   have ee:(Tm.v i).ps s.vs s.dep b=e.1.sh 0 (.ofNat (s.dep-e.2+b)):=by simp only [Tm.ps,if_neg hb,he]
   rw [ee]
   obtain⟨q1,q2⟩:=hv e hme
   have g2:ltI (.ofNat (i-b)) (.ofNat 0)=false:=qZv (Nat.zero_le _)
   have g3:(!ltI (.ofNat (i-b)) (.ofNat (s.vs.map ec).length))=false:=qNk (by simp;omega)
   have g4:=qVm (a:=(s.vs.map ec).length) (by simp;omega) (by simp;omega)
   have g5:inB (Int.ofNat ((s.vs.map ec).length-1) - .ofNat (i-b))=true∧Int.ofNat ((s.vs.map ec).length-1) - .ofNat (i-b) = .ofNat (s.vs.length-1-(i-b)):=by
    have e:Int.ofNat ((s.vs.map ec).length-1) - .ofNat (i-b) = .ofNat (s.vs.length-1-(i-b)):=by simp;omega
    exact⟨by rw [e];exact inN (by omega),e⟩
   have g6:=qQi he' zJz
   have g7:inB (Int.ofNat s.dep - .ofNat e.2)=true∧Int.ofNat s.dep - .ofNat e.2 = .ofNat (s.dep-e.2):=by
    have e:Int.ofNat s.dep - .ofNat e.2 = .ofNat (s.dep-e.2):=by simp;omega
    exact⟨by rw [e];exact inN (by omega),e⟩
   have g8:=qQ9 (a:=s.dep-e.2) (b:=b) (by omega)
   have g9:=zHd e.1 0 (s.dep-e.2+b) (by omega) (by have:=q2.mx (by omega);rw [hm];omega) (by have:=q2.cnt;omega)
   exact f9 [(18,.z (i-b)),(20,.H),(26,.H),(34,.z ((s.vs.map ec).length-1)),(36,.z (s.vs.length-1-(i-b))),(37,.i (ec e)),(45,.z (s.dep-e.2)),(47,.z (s.dep-e.2+b)),(48,.r (e.1.sh 0 (.ofNat (s.dep-e.2+b))).p)] g1 g2 g3 g4 g5 g6 g7 g8 g9
 | .lam u t,b,h,h4=>by
  have h4:b+(1+t.cnt)≤mid:=h4
  have hm:=qQc
  have hbg:=qQh
  exact f2 [(53,.ok),(68,.r (t.ps s.vs s.dep (b+1)).p)] (inN (show b+1≤_ by omega)) (zJ1 s hv hd hl t (b+1) h (by omega))
 | .n0 q,b,_,_=>by cases q<;>exact f0 []
 | .n1 q x,b,h,h4=>by
  have h4:b+(1+x.cnt)≤mid:=h4
  have h5:=zJ1 s hv hd hl x b h (by omega)
  cases q<;>exact f1 [(68,.r (x.ps s.vs s.dep b).p)] h5
 | .n2 q x y,b,h,h4=>by
  simp only [Tm.cnt] at h4
  have h5:=zJ1 s hv hd hl x b h.1 (by omega)
  have h6:=zJ1 s hv hd hl y b h.2 (by omega)
  cases q<;>exact f2 [(68,.r (x.ps s.vs s.dep b).p),(68,.r (y.ps s.vs s.dep b).p)] h5 h6
 | .n3 q u x y z,b,h,h4=>by
  simp only [Tm.cnt] at h4
  have h5:=zJ1 s hv hd hl x b h.1 (by omega)
  have h6:=zJ1 s hv hd hl y b h.2.1 (by omega)
  have h7:=zJ1 s hv hd hl z b h.2.2 (by omega)
  cases q<;>exact f3 [(68,.r (x.ps s.vs s.dep b).p),(68,.r (y.ps s.vs s.dep b).p),(68,.r (z.ps s.vs s.dep b).p)] h5 h6 h7
def XR.fit (t:Tm):XR:=if t.cnt≤4096 then .ok t else .er .z 3
theorem zI6 (s:Sc) (t:Tm) (b:Nat) (n:Nat) (hn:n=s.vs.length) (hv:EOK s.dep s.vs) (hd:s.dep≤lim) (hl:s.vs.length≤lim) (ht:TK n t):A 261 [s.p,t.p,num 0] (XR.fit (t.ps s.vs s.dep 0)).p:=by
 have hm:=qQc
 have hb:=qQh
 have c1:=ht.cnt
 have g1:=zJ1 s hv hd hl t 0 (hn ▸ ht.sc) (by omega)
 have c2:=qYm hv t 0
 have g2:=qN2 (t.ps s.vs s.dep 0) (by omega)
 unfold XR.fit
 split
 ·rename_i h
  exact f3 [(12,.r (t.ps s.vs s.dep 0).p),(14,.N (t.ps s.vs s.dep 0).cnt),(15,.H)] g1 g2 (qZv h)
 ·rename_i h
  exact f3 [(12,.r (t.ps s.vs s.dep 0).p),(14,.N (t.ps s.vs s.dep 0).cnt),(15,.G)] g1 g2 (qQy (a:=4096) (Nat.lt_of_not_le h))
theorem zC6 (s:Sc) (t:Tm) (n:Nat) (hn:n=s.vs.length) (hv:EOK s.dep s.vs) (hd:s.dep≤lim) (hl:s.vs.length≤lim) (ht:TK n t):A 201 [s.p,t.p] (XR.fit (t.ps s.vs s.dep 0)).p :=
 f1 [(8,.r (XR.fit (t.ps s.vs s.dep 0)).p)] (zI6 s t 0 n hn hv hd hl ht)
abbrev tyz:PV:=.agg [num 0,.slice []]
theorem zQi (s:Ty) (b:Tm) (h:b.cnt≤mid):A 123 [num 2,s.p,row [b]] (XR.fit (.lam s b)).p:=by
 have hm:=qQc
 have hb:=qQh
 have g:=qN2 (.lam s b) (by simp only [Tm.cnt];omega)
 unfold XR.fit
 split
 ·rename_i h
  exact f2 [(14,.N (Tm.lam s b).cnt),(15,.H)] g (qZv h)
 ·rename_i h
  exact f2 [(14,.N (Tm.lam s b).cnt),(15,.G)] g (qQy (a:=4096) (Nat.lt_of_not_le h))
theorem zJ2 (k:K1) (b:Tm) (h:b.cnt≤mid):A 123 [num k.n,tyz,row [b]] (XR.fit (.n1 k b)).p:=by
 have hm:=qQc
 have hb:=qQh
 have g:=qN2 (.n1 k b) (by simp only [Tm.cnt];omega)
 unfold XR.fit
 split
 ·rename_i h
  cases k<;>exact f2 [(14,.N (1+b.cnt)),(15,.H)] g (qZv h)
 ·rename_i h
  cases k<;>exact f2 [(14,.N (1+b.cnt)),(15,.G)] g (qQy (a:=4096) (Nat.lt_of_not_le h))
theorem qYp (k:K2) (a b:Tm) (h:a.cnt+b.cnt≤mid):A 123 [num k.n,tyz,row [a,b]] (XR.fit (.n2 k a b)).p:=by
 have hm:=qQc
 have hb:=qQh
 have g:=qN2 (.n2 k a b) (by simp only [Tm.cnt];omega)
 unfold XR.fit
 split
 ·rename_i h
  cases k<;>exact f2 [(14,.N (1+a.cnt+b.cnt)),(15,.H)] g (qZv h)
 ·rename_i h
  cases k<;>exact f2 [(14,.N (1+a.cnt+b.cnt)),(15,.G)] g (qQy (a:=4096) (Nat.lt_of_not_le h))
theorem zJ3 (k:K3) (s:Ty) (a b d:Tm) (h:a.cnt+b.cnt+d.cnt≤mid):A 123 [num k.n,s.p,row [a,b,d]] (XR.fit (.n3 k s a b d)).p:=by
 have hm:=qQc
 have hb:=qQh
 have g:=qN2 (.n3 k s a b d) (by simp only [Tm.cnt];omega)
 unfold XR.fit
 split
 ·rename_i h
  cases k<;>exact f2 [(14,.N (1+a.cnt+b.cnt+d.cnt)),(15,.H)] g (qZv h)
 ·rename_i h
  cases k<;>exact f2 [(14,.N (1+a.cnt+b.cnt+d.cnt)),(15,.G)] g (qQy (a:=4096) (Nat.lt_of_not_le h))
theorem zI7 (s:Sc) (i:Nat) (t:Tm) (d p:Nat) (h:s.ks[i]? = some (.hy t d p)) (hd:d≤s.dep) (hs:s.dep≤lim) (ht:TK d t):A 120 [s.p,num i] (.tuple [(t.sh 0 (.ofNat (s.dep-d))).p,.bool true]):=by
 have hm:=qQc
 have hbg:=qQh
 have hlm:lim=100000:=rfl
 have g2:inB (Int.ofNat s.dep - .ofNat d)=true∧Int.ofNat s.dep - .ofNat d = .ofNat (s.dep-d):=by
  have e:Int.ofNat s.dep - .ofNat d = .ofNat (s.dep-d):=by simp;omega
  exact⟨by rw [e];exact inN (by omega),e⟩
 exact f3 [(10,.i (Hy.hy t d p).c),(20,.z (s.dep-d)),(21,.r (t.sh 0 (.ofNat (s.dep-d))).p)] (qQi h Hy.c_len) g2 (zHd t 0 (s.dep-d) (by omega) (by have:=ht.mx (by omega);rw [hm];omega) (by have:=ht.cnt;omega))
theorem zE7:∀ t:Ty,t.size≤big→A 326 [t.p] (num t.size)
 | .nat,_=>f0 []
 | .list,_=>f0 []
 | .unit,_=>f0 []
 | .two k a b,h=>by
  have hb:=qQh
  simp only [Ty.size] at h
  have g1:=zE7 a (by omega)
  have g2:=qQ9 (a:=1) (b:=a.size) (by omega)
  have g3:=zE7 b (by omega)
  have g4:=qQ9 (a:=1+a.size) (b:=b.size) (by omega)
  cases k<;>exact f4 [(15,.N a.size),(16,.z (1+a.size)),(15,.N b.size),(16,.z (1+a.size+b.size))] g1 g2 g3 g4
def TR.fit (t:Ty):TR:=if t.size≤64 then .ok t else .er 3
theorem zHe (k:Bool) (s u:Ty) (h:s.size+u.size≤mid):A 300 [num (bn k 3 4),s.p,u.p] (TR.fit (.two k s u)).p:=by
 have hm:=qQc
 have hb:=qQh
 have g:=zE7 (.two k s u) (by simp only [Ty.size];omega)
 unfold TR.fit
 split
 ·rename_i h
  cases k<;>exact f2 [(15,.N (1+s.size+u.size)),(16,.H)] g (qZv h)
 ·rename_i h
  cases k<;>exact f2 [(15,.N (1+s.size+u.size)),(16,.G)] g (qQy (a:=64) (Nat.lt_of_not_le h))
theorem zHf (s u:Ty) (h:s.size+u.size≤mid):A 262 [s.p,u.p] (TR.fit (.two false s u)).p:=f1 [(8,.r (TR.fit (.two false s u)).p)] (zHe false s u h)
theorem zI8 (s u:Ty) (h:s.size+u.size≤mid):A 268 [s.p,u.p] (TR.fit (.two true s u)).p:=f1 [(8,.r (TR.fit (.two true s u)).p)] (zHe true s u h)
theorem zI9:A 265 [] (Tm.n0 .unit).p:=f0 []
theorem zXy:A 266 [] Ty.nat.p:=f0 []
theorem zHg:A 267 [] Ty.list.p:=f0 []
section
variable {f:Nat} {args:List PV} {x:PV}
theorem f15 (tp:Di) {H1 H2 H3 H4 H5 H6 H7 H8 H9 H10 H11 H12 H13 H14 H15:Prop} (h1:H1) (h2:H2) (h3:H3) (h4:H4) (h5:H5) (h6:H6) (h7:H7) (h8:H8) (h9:H9) (h10:H10) (h11:H11) (h12:H12) (h13:H13) (h14:H14) (h15:H15) (e:(H1∧H2∧H3∧H4∧H5∧H6∧H7∧H8∧H9∧H10∧H11∧H12∧H13∧H14∧H15∧x=x)=U f args tp x:=by kernel_rfl):A f args x:=fk tp ⟨h1,h2,h3,h4,h5,h6,h7,h8,h9,h10,h11,h12,h13,h14,h15,rfl⟩ e
theorem f16 (tp:Di) {H1 H2 H3 H4 H5 H6 H7 H8 H9 H10 H11 H12 H13 H14 H15 H16:Prop} (h1:H1) (h2:H2) (h3:H3) (h4:H4) (h5:H5) (h6:H6) (h7:H7) (h8:H8) (h9:H9) (h10:H10) (h11:H11) (h12:H12) (h13:H13) (h14:H14) (h15:H15) (h16:H16) (e:(H1∧H2∧H3∧H4∧H5∧H6∧H7∧H8∧H9∧H10∧H11∧H12∧H13∧H14∧H15∧H16∧x=x)=U f args tp x:=by kernel_rfl):A f args x:=fk tp ⟨h1,h2,h3,h4,h5,h6,h7,h8,h9,h10,h11,h12,h13,h14,h15,h16,rfl⟩ e
theorem f17 (tp:Di) {H1 H2 H3 H4 H5 H6 H7 H8 H9 H10 H11 H12 H13 H14 H15 H16 H17:Prop} (h1:H1) (h2:H2) (h3:H3) (h4:H4) (h5:H5) (h6:H6) (h7:H7) (h8:H8) (h9:H9) (h10:H10) (h11:H11) (h12:H12) (h13:H13) (h14:H14) (h15:H15) (h16:H16) (h17:H17) (e:(H1∧H2∧H3∧H4∧H5∧H6∧H7∧H8∧H9∧H10∧H11∧H12∧H13∧H14∧H15∧H16∧H17∧x=x)=U f args tp x:=by kernel_rfl):A f args x:=fk tp ⟨h1,h2,h3,h4,h5,h6,h7,h8,h9,h10,h11,h12,h13,h14,h15,h16,h17,rfl⟩ e
theorem f18 (tp:Di) {H1 H2 H3 H4 H5 H6 H7 H8 H9 H10 H11 H12 H13 H14 H15 H16 H17 H18:Prop} (h1:H1) (h2:H2) (h3:H3) (h4:H4) (h5:H5) (h6:H6) (h7:H7) (h8:H8) (h9:H9) (h10:H10) (h11:H11) (h12:H12) (h13:H13) (h14:H14) (h15:H15) (h16:H16) (h17:H17) (h18:H18) (e:(H1∧H2∧H3∧H4∧H5∧H6∧H7∧H8∧H9∧H10∧H11∧H12∧H13∧H14∧H15∧H16∧H17∧H18∧x=x)=U f args tp x:=by kernel_rfl):A f args x:=fk tp ⟨h1,h2,h3,h4,h5,h6,h7,h8,h9,h10,h11,h12,h13,h14,h15,h16,h17,h18,rfl⟩ e
theorem f19 (tp:Di) {H1 H2 H3 H4 H5 H6 H7 H8 H9 H10 H11 H12 H13 H14 H15 H16 H17 H18 H19:Prop} (h1:H1) (h2:H2) (h3:H3) (h4:H4) (h5:H5) (h6:H6) (h7:H7) (h8:H8) (h9:H9) (h10:H10) (h11:H11) (h12:H12) (h13:H13) (h14:H14) (h15:H15) (h16:H16) (h17:H17) (h18:H18) (h19:H19) (e:(H1∧H2∧H3∧H4∧H5∧H6∧H7∧H8∧H9∧H10∧H11∧H12∧H13∧H14∧H15∧H16∧H17∧H18∧H19∧x=x)=U f args tp x:=by kernel_rfl):A f args x:=fk tp ⟨h1,h2,h3,h4,h5,h6,h7,h8,h9,h10,h11,h12,h13,h14,h15,h16,h17,h18,h19,rfl⟩ e
theorem f20 (tp:Di) {H1 H2 H3 H4 H5 H6 H7 H8 H9 H10 H11 H12 H13 H14 H15 H16 H17 H18 H19 H20:Prop} (h1:H1) (h2:H2) (h3:H3) (h4:H4) (h5:H5) (h6:H6) (h7:H7) (h8:H8) (h9:H9) (h10:H10) (h11:H11) (h12:H12) (h13:H13) (h14:H14) (h15:H15) (h16:H16) (h17:H17) (h18:H18) (h19:H19) (h20:H20) (e:(H1∧H2∧H3∧H4∧H5∧H6∧H7∧H8∧H9∧H10∧H11∧H12∧H13∧H14∧H15∧H16∧H17∧H18∧H19∧H20∧x=x)=U f args tp x:=by kernel_rfl):A f args x:=fk tp ⟨h1,h2,h3,h4,h5,h6,h7,h8,h9,h10,h11,h12,h13,h14,h15,h16,h17,h18,h19,h20,rfl⟩ e
theorem f21 (tp:Di) {H1 H2 H3 H4 H5 H6 H7 H8 H9 H10 H11 H12 H13 H14 H15 H16 H17 H18 H19 H20 H21:Prop} (h1:H1) (h2:H2) (h3:H3) (h4:H4) (h5:H5) (h6:H6) (h7:H7) (h8:H8) (h9:H9) (h10:H10) (h11:H11) (h12:H12) (h13:H13) (h14:H14) (h15:H15) (h16:H16) (h17:H17) (h18:H18) (h19:H19) (h20:H20) (h21:H21) (e:(H1∧H2∧H3∧H4∧H5∧H6∧H7∧H8∧H9∧H10∧H11∧H12∧H13∧H14∧H15∧H16∧H17∧H18∧H19∧H20∧H21∧x=x)=U f args tp x:=by kernel_rfl):A f args x:=fk tp ⟨h1,h2,h3,h4,h5,h6,h7,h8,h9,h10,h11,h12,h13,h14,h15,h16,h17,h18,h19,h20,h21,rfl⟩ e
theorem f22 (tp:Di) {H1 H2 H3 H4 H5 H6 H7 H8 H9 H10 H11 H12 H13 H14 H15 H16 H17 H18 H19 H20 H21 H22:Prop} (h1:H1) (h2:H2) (h3:H3) (h4:H4) (h5:H5) (h6:H6) (h7:H7) (h8:H8) (h9:H9) (h10:H10) (h11:H11) (h12:H12) (h13:H13) (h14:H14) (h15:H15) (h16:H16) (h17:H17) (h18:H18) (h19:H19) (h20:H20) (h21:H21) (h22:H22) (e:(H1∧H2∧H3∧H4∧H5∧H6∧H7∧H8∧H9∧H10∧H11∧H12∧H13∧H14∧H15∧H16∧H17∧H18∧H19∧H20∧H21∧H22∧x=x)=U f args tp x:=by kernel_rfl):A f args x:=fk tp ⟨h1,h2,h3,h4,h5,h6,h7,h8,h9,h10,h11,h12,h13,h14,h15,h16,h17,h18,h19,h20,h21,h22,rfl⟩ e
end
def Ty.ini:Ty→Tm
 | .nat => .n0 .zero
 | .list => .n0 .nil
 | .unit => .n0 .unit
 | .two k a b=>match k with
  | false => .n2 .pair a.ini b.ini
  | true => .lam a b.ini
theorem zJ4:∀ t:Ty,A 204 [t.p] t.ini.p
 | .nat=>f0 []
 | .list=>f0 []
 | .unit=>f1 [(38,.r (Tm.n0 .unit).p)] zI9
 | .two false a b=>f2 [(17,.r a.ini.p),(22,.r b.ini.p)] (zJ4 a) (zJ4 b)
 | .two true a b=>f1 [(35,.r b.ini.p)] (zJ4 b)
theorem zXz {s:Ty} (h:s.size≤64):Nat.beq s.chk 0=true:=by rw [qWs,ckE_0.2 h];rfl
theorem qE4:∀ t:Ty,t.ini.cnt≤t.size
 | .nat=>Nat.le_refl _
 | .list=>Nat.le_refl _
 | .unit=>Nat.le_refl _
 | .two false a b=>by have:=qE4 a;have:=qE4 b;simp only [Ty.ini,Tm.cnt,Ty.size];omega
 | .two true a b=>by have:=qE4 b;simp only [Ty.ini,Tm.cnt,Ty.size];omega
theorem qE5:∀ t:Ty,t.size≤64→t.ini.shp=true
 | .nat,_=>rfl
 | .list,_=>rfl
 | .unit,_=>rfl
 | .two false a b,h=>by
  simp only [Ty.size] at h
  show (_ && _)=true
  rw [qE5 a (by omega),qE5 b (by omega)];rfl
 | .two true a b,h=>by
  simp only [Ty.size] at h
  show (_ && _)=true
  rw [zXz (s:=a) (by omega),qE5 b (by omega)];rfl
theorem qB1:∀ (t:Ty) (n:Nat),t.ini.sc n
 | .nat,_=>trivial
 | .list,_=>trivial
 | .unit,_=>trivial
 | .two false a b,n=>⟨qB1 a n,qB1 b n⟩
 | .two true a b,n=>qB1 b (n+1)
theorem qR3 (t:Ty) (h:t.size≤64) (n:Nat):TK n t.ini:=⟨by have:=qE4 t;omega,qE5 t h,qB1 t n⟩
theorem zQj {n:Nat} {f:Fm} (h:FK n f) (hn:n≤lim):∃ r:TR,A 122 [f.p] (.tuple [.agg [num r.k,.slice r.l],.bool f.has,num r.n])∧r.sz≤64:=by
 obtain⟨r,g,q⟩:=h.a34
 exact⟨r,f2 [(10,.U [.bool f.has,num 0]),(19,.r r.p)] (h.a70 hn) g,q⟩
def XR.lam (s:Ty):XR→XR
 | .er _ n => .er .z n
 | .ok t => .fit (.lam s t)
def XR.two (k:K2):XR→XR→XR
 | .er _ n,_ => .er .z n
 | .ok _,.er _ n => .er .z n
 | .ok a,.ok b => .fit (.n2 k a b)
def XR.cn:XR→Nat
 | .er _ _=>0
 | .ok t=>t.cnt
abbrev XR.b (r:XR):PV:=.agg [num r.k,num r.i,num r.tk,.slice r.te,.slice r.es]
theorem qS6 (s:Ty) (r:XR) (h:r.cn≤4096):A 125 [s.p,r.b,num r.e] (r.lam s).p:=by
 cases r with
 | er x n=>exact f0 []
 | ok t =>
  have hm:=qQc
  exact f1 [(15,.r (XR.fit (.lam s t)).p)] (zQi s t (by have h:t.cnt≤4096:=h;omega))
theorem zBf (t:Tm):(XR.fit t).cn≤4096:=by
 unfold XR.fit
 split
 ·assumption
 ·exact Nat.zero_le _
theorem qYq (s:Ty) (r:XR):(r.lam s).cn≤4096:=by
 cases r with
 | er x n=>exact Nat.zero_le _
 | ok t=>exact zBf _
def XR.one (k:K1):XR→XR
 | .er x n => .er x n
 | .ok t => .fit (.n1 k t)
def XR.Gd (d:Nat) (L:(Nat→Prop)→Prop):XR→Prop
 | .er _ _=>True
 | .ok t=>TK d t ∧ ∀ R,L R→t.lv R d
theorem XR.Gd.cn {d:Nat} {L:(Nat→Prop)→Prop} {r:XR} (h:r.Gd d L):r.cn≤4096:=by
 cases r with
 | er x n=>exact Nat.zero_le _
 | ok t=>exact h.1.cnt
theorem qB2 {d:Nat} {L:(Nat→Prop)→Prop} {t:Tm} (h1:t.shp=true) (h2:t.sc d) (h3:∀ R,L R→t.lv R d):(XR.fit t).Gd d L:=by
 unfold XR.fit
 split
 ·rename_i h
  exact⟨⟨h,h1,h2⟩,h3⟩
 ·trivial
theorem qKp {d:Nat} {L:(Nat→Prop)→Prop} {s:Ty} {r:XR} (hs:s.size≤64) (h:r.Gd (d+1) fun Q => ∃ R,L R∧Q=orR R d):(r.lam s).Gd d L:=by
 cases r with
 | er x n=>trivial
 | ok t =>
  obtain⟨h1,h2⟩:=h
  refine qB2 ?_ h1.sc fun R hR=>zBd (h2 _ ⟨R,hR,rfl⟩)
  show (_ && _)=true
  rw [zXz hs,h1.shp];rfl
theorem qB3 {d:Nat} {L:(Nat→Prop)→Prop} {k:K2} {a b:XR} (ha:a.Gd d L) (hb:b.Gd d L):(XR.two k a b).Gd d L:=by
 cases a with
 | er x n=>trivial
 | ok x=>cases b with
  | er z n=>trivial
  | ok y =>
   refine qB2 ?_ ⟨ha.1.sc,hb.1.sc⟩ fun R hR=>zHb (ha.2 R hR) (hb.2 R hR)
   show (_ && _)=true
   rw [ha.1.shp,hb.1.shp];rfl
theorem zJ5 {d:Nat} {L:(Nat→Prop)→Prop} {k:K1} {a:XR} (ha:a.Gd d L):(XR.one k a).Gd d L:=by
 cases a with
 | er x n=>trivial
 | ok x=>exact qB2 ha.1.shp ha.1.sc fun R hR=>zE5 (ha.2 R hR)
theorem XR.Gd.mono {d:Nat} {L L':(Nat→Prop)→Prop} {r:XR} (h:r.Gd d L) (hl:∀ R,L' R→L R):r.Gd d L':=by
 cases r with
 | er x n=>trivial
 | ok t=>exact⟨h.1,fun R hR=>h.2 R (hl R hR)⟩
open Go.Lg
set_option maxRecDepth 100000
abbrev blp (tl:List Tm):PV:=.agg [row tl]
abbrev tyR (r:TR) (b:Bool):PV:=.tuple [.agg [num r.k,.slice r.l],.bool b,num r.n]
abbrev T69 (tl:List Tm) (hs:List Fm) (a:Jt) (F:Fm) (s:Sc) (r:XR):Prop:=A 69 [blp tl,a.pf hs F,s.p] r.p
variable {tl:List Tm} {hs:List Fm} {s:Sc}
theorem qR4 {a b:Jt} {x y:Fm} {ra rb:XR} (hx:x.has=true) (hy:y.has=true) (ga:T69 tl hs a x s ra) (gb:T69 tl hs b y s rb) (ca:ra.cn≤4096) (cb:rb.cn≤4096):A 69 [blp tl,qZ5 (Pf.p2 .andI a.p b.p) (Fm.bin .and x y) hs [[a.pf hs x],[b.pf hs y]],s.p] (XR.two .pair ra rb).p:=by
 cases ra with
 | er x n=>exact f3 [(71,.G),(81,.G),(87,.n [(13,.n [(15,.r (XR.er x n).p)])])] hx hy ga
 | ok t=>cases rb with
  | er x n=>exact f4 [(71,.G),(81,.G),(87,.n [(13,.n [(15,.r (XR.ok t).p)]),(22,.n [(15,.r (XR.er x n).p)])])] hx hy ga gb
  | ok u =>
   have c1:t.cnt≤4096:=ca
   have c2:u.cnt≤4096:=cb
   have hm:=qQc
   exact f5 [(71,.G),(81,.G),(87,.n [(13,.n [(15,.r (XR.ok t).p)]),(22,.n [(15,.r (XR.ok u).p)]),(34,.r (XR.fit (.n2 .pair t u)).p)])] hx hy ga gb (qYp .pair t u (by omega))
theorem qR5 {a b:Jt} {x y:Fm} {ra:XR} (hx:x.has=true) (hy:y.has=false) (ga:T69 tl hs a x s ra):A 69 [blp tl,qZ5 (Pf.p2 .andI a.p b.p) (Fm.bin .and x y) hs [[a.pf hs x],[b.pf hs y]],s.p] ra.p:=by
 exact f4 [(71,.G),(81,.H),(99,.G),(108,.r ra.p)] hx hy hx ga
theorem zQk {a b:Jt} {x y:Fm} {rb:XR} (hx:x.has=false) (gb:T69 tl hs b y s rb):A 69 [blp tl,qZ5 (Pf.p2 .andI a.p b.p) (Fm.bin .and x y) hs [[a.pf hs x],[b.pf hs y]],s.p] rb.p:=by
 exact f3 [(71,.H),(99,.H),(119,.r rb.p)] hx hx gb
theorem zQl {a:Jt} {f y:Fm} {ra:XR} {t0 t1:TR} (ga:T69 tl hs a (.bin .and f y) s ra) (g0:A 122 [f.p] (tyR t0 true)) (g1:A 122 [y.p] (tyR t1 true)) (ca:ra.cn≤4096):A 69 [blp tl,qZ5 (Pf.p1 .andL a.p) f hs [[a.pf hs (.bin .and f y)]],s.p] (XR.one .fst ra).p:=by
 cases ra with
 | er x n=>exact f3 [(134,.r (XR.er x n).p),(150,.r (tyR t0 true)),(167,.r (tyR t1 true))] ga g0 g1
 | ok t =>
  have c1:t.cnt≤4096:=ca
  have hm:=qQc
  exact f4 [(134,.r (XR.ok t).p),(150,.r (tyR t0 true)),(167,.r (tyR t1 true)),(193,.r (XR.fit (.n1 .fst t)).p)] ga g0 g1 (zJ2 .fst t (by omega))
theorem zQm {a:Jt} {f y:Fm} {ra:XR} {t0 t1:TR} (ga:T69 tl hs a (.bin .and f y) s ra) (g0:A 122 [f.p] (tyR t0 true)) (g1:A 122 [y.p] (tyR t1 false)) (ca:ra.cn≤4096):A 69 [blp tl,qZ5 (Pf.p1 .andL a.p) f hs [[a.pf hs (.bin .and f y)]],s.p] ra.p:=by
 cases ra with
 | er x n=>exact f3 [(134,.r (XR.er x n).p),(150,.r (tyR t0 true)),(167,.r (tyR t1 false))] ga g0 g1
 | ok t=>exact f3 [(134,.r (XR.ok t).p),(150,.r (tyR t0 true)),(167,.r (tyR t1 false))] ga g0 g1
theorem zQn {a:Jt} {f y:Fm} {ra:XR} {t0 t1:TR} (ga:T69 tl hs a (.bin .and y f) s ra) (g0:A 122 [y.p] (tyR t0 true)) (g1:A 122 [f.p] (tyR t1 true)) (ca:ra.cn≤4096):A 69 [blp tl,qZ5 (Pf.p1 .andR a.p) f hs [[a.pf hs (.bin .and y f)]],s.p] (XR.one .snd ra).p:=by
 cases ra with
 | er x n=>exact f3 [(134,.r (XR.er x n).p),(150,.r (tyR t0 true)),(167,.r (tyR t1 true))] ga g0 g1
 | ok t =>
  have c1:t.cnt≤4096:=ca
  have hm:=qQc
  exact f4 [(134,.r (XR.ok t).p),(150,.r (tyR t0 true)),(167,.r (tyR t1 true)),(193,.r (XR.fit (.n1 .snd t)).p)] ga g0 g1 (zJ2 .snd t (by omega))
theorem zQo {a:Jt} {f y:Fm} {ra:XR} {t0 t1:TR} (ga:T69 tl hs a (.bin .and y f) s ra) (g0:A 122 [y.p] (tyR t0 false)) (g1:A 122 [f.p] (tyR t1 true)) (ca:ra.cn≤4096):A 69 [blp tl,qZ5 (Pf.p1 .andR a.p) f hs [[a.pf hs (.bin .and y f)]],s.p] ra.p:=by
 cases ra with
 | er x n=>exact f3 [(134,.r (XR.er x n).p),(150,.r (tyR t0 false)),(167,.r (tyR t1 true))] ga g0 g1
 | ok t=>exact f3 [(134,.r (XR.ok t).p),(150,.r (tyR t0 false)),(167,.r (tyR t1 true))] ga g0 g1
theorem zQp {a:Jt} {x y:Fm} {n:Nat} {b:Bool} (g:A 122 [x.p] (tyR (.er n) b)):A 69 [blp tl,qZ5 (Pf.impI x a.p) (Fm.bin .imp x y) hs [[a.pf (hs++[x]) y]],s.p] (XR.er .z n).p:=by
 exact f1 [(206,.r (tyR (.er n) b))] g
theorem zQq {a:Jt} {x y:Fm} {u:Ty} {ra:XR} (g:A 122 [x.p] (tyR (.ok u) false)) (gs:A 72 [s.p] s.bare.p) (ga:T69 tl (hs++[x]) a y s.bare ra):A 69 [blp tl,qZ5 (Pf.impI x a.p) (Fm.bin .imp x y) hs [[a.pf (hs++[x]) y]],s.p] ra.p:=by
 exact f3 [(206,.r (tyR (.ok u) false)),(224,.r s.bare.p),(225,.r ra.p)] g gs ga
theorem zQr {a:Jt} {x y:Fm} {u:Ty} {ra:XR} (g:A 122 [x.p] (tyR (.ok u) true)) (gs:A 124 [s.p] s.bind.p) (gh:A 73 [s.bind.p,(Tm.v 0).p] (s.bind.hyp (.v 0)).p) (ga:T69 tl (hs++[x]) a y (s.bind.hyp (.v 0)) ra) (ca:ra.cn≤4096):A 69 [blp tl,qZ5 (Pf.impI x a.p) (Fm.bin .imp x y) hs [[a.pf (hs++[x]) y]],s.p] (ra.lam u).p:=by
 exact f6 [(206,.r (tyR (.ok u) true)),(237,.r s.bind.p),(238,.r (Tm.v 0).p),(239,.r (s.bind.hyp (.v 0)).p),(240,.r ra.p),(246,.r (ra.lam u).p)] g gs (a74 0) gh ga (qS6 u ra ca)
theorem zQs {a b:Jt} {x y f:Fm} {ra:XR} (hy:y.has=false) (ga:T69 tl hs a (.bin .imp x f) s ra):A 69 [blp tl,qZ5 (Pf.p2 .impE a.p b.p) f hs [[a.pf hs (.bin .imp x f)],[b.pf hs y]],s.p] ra.p:=by
 exact f2 [(259,.H),(269,.r ra.p)] hy ga
theorem zQt {a b:Jt} {x y f:Fm} {ra rb:XR} (hy:y.has=true) (ga:T69 tl hs a (.bin .imp x f) s ra) (gb:T69 tl hs b y s rb) (ca:ra.cn≤4096) (cb:rb.cn≤4096):A 69 [blp tl,qZ5 (Pf.p2 .impE a.p b.p) f hs [[a.pf hs (.bin .imp x f)],[b.pf hs y]],s.p] (XR.two .app ra rb).p:=by
 cases ra with
 | er x n=>exact f2 [(259,.G),(276,.n [(13,.n [(15,.r (XR.er x n).p)])])] hy ga
 | ok t=>cases rb with
  | er x n=>exact f3 [(259,.G),(276,.n [(13,.n [(15,.r (XR.ok t).p)]),(22,.n [(15,.r (XR.er x n).p)])])] hy ga gb
  | ok u =>
   have c1:t.cnt≤4096:=ca
   have c2:u.cnt≤4096:=cb
   have hm:=qQc
   exact f4 [(259,.G),(276,.n [(13,.n [(15,.r (XR.ok t).p)]),(22,.n [(15,.r (XR.ok u).p)]),(34,.r (XR.fit (.n2 .app t u)).p)])] hy ga gb (qYp .app t u (by omega))
theorem zJ6 {u:Ty} {a:Jt} {y:Fm} {ra:XR} (gs:A 124 [s.p] s.bind.p) (gv:A 202 [s.bind.p,(Tm.v 0).p] (s.bind.var (.v 0)).p) (ga:T69 tl (upH 1 hs) a y (s.bind.var (.v 0)) ra) (ca:ra.cn≤4096):A 69 [blp tl,qZ5 (Pf.all false u a.p) (Fm.q .all u y) hs [[a.pf (upH 1 hs) y]],s.p] (ra.lam u).p:=by
 exact f5 [(282,.n [(36,.r s.bind.p),(37,.r (Tm.v 0).p),(38,.r (s.bind.var (.v 0)).p),(39,.r ra.p),(49,.r (ra.lam u).p)])] gs (a74 0) gv ga (qS6 u ra ca)
theorem zBg {u:Ty} {a:Jt} {y:Fm} {ra:XR} (gv:A 202 [s.p,u.ini.p] (s.var u.ini).p) (ga:T69 tl (upH 1 hs) a y (s.var u.ini) ra):A 69 [blp tl,qZ5 (Pf.all true u a.p) (Fm.q .allU u y) hs [[a.pf (upH 1 hs) y]],s.p] ra.p:=by
 exact f3 [(282,.n [(105,.r u.ini.p),(106,.r (s.var u.ini).p),(107,.r ra.p)])] (zJ4 u) gv ga
theorem zBh {a:Jt} {w:Tm} {u:Ty} {x f:Fm} {ra rp:XR} (ga:T69 tl hs a (.q .all u x) s ra) (gp:A 201 [s.p,w.p] rp.p) (ca:ra.cn≤4096) (cb:rp.cn≤4096):A 69 [blp tl,qZ5 (Pf.ins false w a.p) f hs [[a.pf hs (.q .all u x)]],s.p] (XR.two .app ra rp).p:=by
 cases ra with
 | er x n=>exact f1 [(282,.n [(57,.n [(13,.n [(15,.r (XR.er x n).p)])])])] ga
 | ok t=>cases rp with
  | er x n=>exact f2 [(282,.n [(57,.n [(13,.n [(15,.r (XR.ok t).p)]),(22,.n [(12,.r (XR.er x n).p)])])])] ga gp
  | ok u =>
   have c1:t.cnt≤4096:=ca
   have c2:u.cnt≤4096:=cb
   have hm:=qQc
   exact f3 [(282,.n [(57,.n [(13,.n [(15,.r (XR.ok t).p)]),(22,.n [(12,.r (XR.ok u).p)]),(34,.r (XR.fit (.n2 .app t u)).p)])])] ga gp (qYp .app t u (by omega))
theorem zBi {a:Jt} {w:Tm} {u:Ty} {x f:Fm} {ra:XR} (ga:T69 tl hs a (.q .allU u x) s ra):A 69 [blp tl,qZ5 (Pf.ins true w a.p) f hs [[a.pf hs (.q .allU u x)]],s.p] ra.p:=by
 exact f1 [(282,.n [(128,.r ra.p)])] ga
theorem qR6 {a:Jt} {w:Tm} {x y:Fm} {rp:XR} (hy:y.has=false) (gp:A 201 [s.p,w.p] rp.p):A 69 [blp tl,qZ5 (Pf.ex false x w a.p) x hs [[a.pf hs y]],s.p] rp.p:=by
 exact f2 [(282,.n [(70,.H),(73,.n [(12,.r rp.p)])])] hy gp
theorem zKl {a:Jt} {w:Tm} {x y:Fm} {ra rp:XR} (hy:y.has=true) (ga:T69 tl hs a y s ra) (gp:A 201 [s.p,w.p] rp.p) (ca:ra.cn≤4096) (cb:rp.cn≤4096):A 69 [blp tl,qZ5 (Pf.ex false x w a.p) x hs [[a.pf hs y]],s.p] (XR.two .pair rp ra).p:=by
 cases rp with
 | er x n=>exact f2 [(282,.n [(70,.G),(79,.n [(13,.n [(12,.r (XR.er x n).p)])])])] hy gp
 | ok t=>cases ra with
  | er x n=>exact f3 [(282,.n [(70,.G),(79,.n [(13,.n [(12,.r (XR.ok t).p)]),(22,.n [(15,.r (XR.er x n).p)])])])] hy gp ga
  | ok u =>
   have c1:t.cnt≤4096:=cb
   have c2:u.cnt≤4096:=ca
   have hm:=qQc
   exact f4 [(282,.n [(70,.G),(79,.n [(13,.n [(12,.r (XR.ok t).p)]),(22,.n [(15,.r (XR.ok u).p)]),(34,.r (XR.fit (.n2 .pair t u)).p)])])] hy gp ga (qYp .pair t u (by omega))
theorem zE8 {a:Jt} {w:Tm} {x y:Fm} {ra:XR} (ga:T69 tl hs a y s ra):A 69 [blp tl,qZ5 (Pf.ex true x w a.p) x hs [[a.pf hs y]],s.p] ra.p:=by
 exact f1 [(282,.n [(128,.r ra.p)])] ga
theorem zKm {a b:Jt} {x y z f:Fm} {rb:XR} (gb:T69 tl hs b y s rb):A 69 [blp tl,qZ5 (Pf.subst x a.p b.p) f hs [[a.pf hs z],[b.pf hs y]],s.p] rb.p:=by
 exact f1 [(282,.n [(128,.r rb.p)])] gb
theorem zKn {a b:Jt} {u:Ty} {x y f:Fm} {n:Nat} {c:Bool} (g:A 122 [x.p] (tyR (.er n) c)):A 69 [blp tl,qZ5 (Pf.p2 .exE a.p b.p) f hs [[a.pf hs (.q .ex u x)],[b.pf (upH 1 hs++[x]) y]],s.p] (XR.er .z n).p:=by
 exact f1 [(282,.n [(87,.n [(29,.r (tyR (.er n) c))])])] g
theorem zKo {a b:Jt} {u w:Ty} {x y f:Fm} {n:Nat} (g:A 122 [x.p] (tyR (.ok w) true)) (gs:A 124 [s.p] s.bind.p) (gp:A 262 [u.p,w.p] (TR.er n).p):A 69 [blp tl,qZ5 (Pf.p2 .exE a.p b.p) f hs [[a.pf hs (.q .ex u x)],[b.pf (upH 1 hs++[x]) y]],s.p] (XR.er .z n).p:=by
 exact f3 [(282,.n [(87,.n [(29,.r (tyR (.ok w) true)),(40,.r s.bind.p),(46,.r (TR.er n).p)])])] g gs gp
theorem zKp {a b:Jt} {u w:Ty} {x y f:Fm} {ra rb:XR} (g:A 122 [x.p] (tyR (.ok w) true)) (gs:A 124 [s.p] s.bind.p) (gp:A 262 [u.p,w.p] (TR.ok (.two false u w)).p) (gv:A 202 [s.bind.p,(Tm.n1 .fst (.v 0)).p] (s.bind.var (.n1 .fst (.v 0))).p) (gh:A 73 [(s.bind.var (.n1 .fst (.v 0))).p,(Tm.n1 .snd (.v 0)).p] ((s.bind.var (.n1 .fst (.v 0))).hyp (.n1 .snd (.v 0))).p) (gb:T69 tl (upH 1 hs++[x]) b y ((s.bind.var (.n1 .fst (.v 0))).hyp (.n1 .snd (.v 0))) rb) (cb:rb.cn≤4096) (ga:T69 tl hs a (.q .ex u x) s ra) (ca:ra.cn≤4096):A 69 [blp tl,qZ5 (Pf.p2 .exE a.p b.p) f hs [[a.pf hs (.q .ex u x)],[b.pf (upH 1 hs++[x]) y]],s.p] (XR.two .app (rb.lam (.two false u w)) ra).p:=by
 have gl:=qS6 (.two false u w) rb cb
 have cl:=qYq (.two false u w) rb
 generalize rb.lam (.two false u w)=rl at gl cl ⊢
 cases rl with
 | er x n=>exact f9 [(282,.n [(87,.n [(29,.r (tyR (.ok w) true)),(40,.r s.bind.p),(46,.r (TR.ok (.two false u w)).p),(54,.r (Tm.v 0).p),(57,.r (s.bind.var (.n1 .fst (.v 0))).p),(58,.r (Tm.v 0).p),(61,.r ((s.bind.var (.n1 .fst (.v 0))).hyp (.n1 .snd (.v 0))).p),(75,.r rb.p),(82,.r (XR.er x n).p)])])] g gs gp (a74 0) gv (a74 0) gh gb gl
 | ok t=>cases ra with
  | er x n=>exact f10 [(282,.n [(87,.n [(29,.r (tyR (.ok w) true)),(40,.r s.bind.p),(46,.r (TR.ok (.two false u w)).p),(54,.r (Tm.v 0).p),(57,.r (s.bind.var (.n1 .fst (.v 0))).p),(58,.r (Tm.v 0).p),(61,.r ((s.bind.var (.n1 .fst (.v 0))).hyp (.n1 .snd (.v 0))).p),(75,.r rb.p),(82,.r (XR.ok t).p),(87,.n [(22,.n [(13,.r (XR.er x n).p)])])])])] g gs gp (a74 0) gv (a74 0) gh gb gl ga
  | ok v =>
   have c1:t.cnt≤4096:=cl
   have c2:v.cnt≤4096:=ca
   have hm:=qQc
   exact f11 [(282,.n [(87,.n [(29,.r (tyR (.ok w) true)),(40,.r s.bind.p),(46,.r (TR.ok (.two false u w)).p),(54,.r (Tm.v 0).p),(57,.r (s.bind.var (.n1 .fst (.v 0))).p),(58,.r (Tm.v 0).p),(61,.r ((s.bind.var (.n1 .fst (.v 0))).hyp (.n1 .snd (.v 0))).p),(75,.r rb.p),(82,.r (XR.ok t).p),(87,.n [(22,.n [(13,.r (XR.ok v).p)]),(34,.r (XR.fit (.n2 .app t v)).p)])])])] g gs gp (a74 0) gv (a74 0) gh gb gl ga (qYp .app t v (by omega))
theorem zKq {a b:Jt} {u w:Ty} {x y f:Fm} {ra rb:XR} (g:A 122 [x.p] (tyR (.ok w) false)) (gs:A 124 [s.p] s.bind.p) (gv:A 202 [s.bind.p,(Tm.v 0).p] (s.bind.var (.v 0)).p) (gh:A 72 [(s.bind.var (.v 0)).p] (s.bind.var (.v 0)).bare.p) (gb:T69 tl (upH 1 hs++[x]) b y (s.bind.var (.v 0)).bare rb) (cb:rb.cn≤4096) (ga:T69 tl hs a (.q .ex u x) s ra) (ca:ra.cn≤4096):A 69 [blp tl,qZ5 (Pf.p2 .exE a.p b.p) f hs [[a.pf hs (.q .ex u x)],[b.pf (upH 1 hs++[x]) y]],s.p] (XR.two .app (rb.lam u) ra).p:=by
 have gl:=qS6 u rb cb
 have cl:=qYq u rb
 generalize rb.lam u=rl at gl cl ⊢
 cases rl with
 | er x n=>exact f7 [(282,.n [(87,.n [(29,.r (tyR (.ok w) false)),(40,.r s.bind.p),(63,.r (Tm.v 0).p),(64,.r (s.bind.var (.v 0)).p),(65,.r (s.bind.var (.v 0)).bare.p),(75,.r rb.p),(82,.r (XR.er x n).p)])])] g gs (a74 0) gv gh gb gl
 | ok t=>cases ra with
  | er x n=>exact f8 [(282,.n [(87,.n [(29,.r (tyR (.ok w) false)),(40,.r s.bind.p),(63,.r (Tm.v 0).p),(64,.r (s.bind.var (.v 0)).p),(65,.r (s.bind.var (.v 0)).bare.p),(75,.r rb.p),(82,.r (XR.ok t).p),(87,.n [(22,.n [(13,.r (XR.er x n).p)])])])])] g gs (a74 0) gv gh gb gl ga
  | ok v =>
   have c1:t.cnt≤4096:=cl
   have c2:v.cnt≤4096:=ca
   have hm:=qQc
   exact f9 [(282,.n [(87,.n [(29,.r (tyR (.ok w) false)),(40,.r s.bind.p),(63,.r (Tm.v 0).p),(64,.r (s.bind.var (.v 0)).p),(65,.r (s.bind.var (.v 0)).bare.p),(75,.r rb.p),(82,.r (XR.ok t).p),(87,.n [(22,.n [(13,.r (XR.ok v).p)]),(34,.r (XR.fit (.n2 .app t v)).p)])])])] g gs (a74 0) gv gh gb gl ga (qYp .app t v (by omega))
theorem zQu {a b:Jt} {u:Ty} {x y f:Fm} {n:Nat} {c:Bool} (g:A 122 [x.p] (tyR (.er n) c)):A 69 [blp tl,qZ5 (Pf.p2 .exUE a.p b.p) f hs [[a.pf hs (.q .exU u x)],[b.pf (upH 1 hs++[x]) y]],s.p] (XR.er .z n).p:=by
 exact f1 [(282,.n [(146,.r (tyR (.er n) c))])] g
theorem zQv {a b:Jt} {u w:Ty} {x y f:Fm} {rb:XR} (g:A 122 [x.p] (tyR (.ok w) false)) (gv:A 202 [s.p,u.ini.p] (s.var u.ini).p) (gh:A 72 [(s.var u.ini).p] (s.var u.ini).bare.p) (gb:T69 tl (upH 1 hs++[x]) b y (s.var u.ini).bare rb):A 69 [blp tl,qZ5 (Pf.p2 .exUE a.p b.p) f hs [[a.pf hs (.q .exU u x)],[b.pf (upH 1 hs++[x]) y]],s.p] rb.p:=by
 exact f5 [(282,.n [(146,.r (tyR (.ok w) false)),(174,.r u.ini.p),(175,.r (s.var u.ini).p),(176,.r (s.var u.ini).bare.p),(177,.r rb.p)])] g (zJ4 u) gv gh gb
theorem zQw {a b:Jt} {u w:Ty} {x y f:Fm} {ra rb:XR} (g:A 122 [x.p] (tyR (.ok w) true)) (gs:A 124 [s.p] s.bind.p) (gv:A 202 [s.bind.p,u.ini.p] (s.bind.var u.ini).p) (gh:A 73 [(s.bind.var u.ini).p,(Tm.v 0).p] ((s.bind.var u.ini).hyp (.v 0)).p) (gb:T69 tl (upH 1 hs++[x]) b y ((s.bind.var u.ini).hyp (.v 0)) rb) (cb:rb.cn≤4096) (ga:T69 tl hs a (.q .exU u x) s ra) (ca:ra.cn≤4096):A 69 [blp tl,qZ5 (Pf.p2 .exUE a.p b.p) f hs [[a.pf hs (.q .exU u x)],[b.pf (upH 1 hs++[x]) y]],s.p] (XR.two .app (rb.lam w) ra).p:=by
 have gl:=qS6 w rb cb
 have cl:=qYq w rb
 generalize rb.lam w=rl at gl cl ⊢
 cases rl with
 | er x n=>exact f8 [(282,.n [(146,.r (tyR (.ok w) true)),(189,.r s.bind.p),(200,.r u.ini.p),(201,.r (s.bind.var u.ini).p),(202,.r (Tm.v 0).p),(203,.r ((s.bind.var u.ini).hyp (.v 0)).p),(204,.r rb.p),(211,.r (XR.er x n).p)])] g gs (zJ4 u) gv (a74 0) gh gb gl
 | ok t=>cases ra with
  | er x n=>exact f9 [(282,.n [(146,.r (tyR (.ok w) true)),(189,.r s.bind.p),(200,.r u.ini.p),(201,.r (s.bind.var u.ini).p),(202,.r (Tm.v 0).p),(203,.r ((s.bind.var u.ini).hyp (.v 0)).p),(204,.r rb.p),(211,.r (XR.ok t).p),(217,.n [(22,.n [(15,.r (XR.er x n).p)])])])] g gs (zJ4 u) gv (a74 0) gh gb gl ga
  | ok v =>
   have c1:t.cnt≤4096:=cl
   have c2:v.cnt≤4096:=ca
   have hm:=qQc
   exact f10 [(282,.n [(146,.r (tyR (.ok w) true)),(189,.r s.bind.p),(200,.r u.ini.p),(201,.r (s.bind.var u.ini).p),(202,.r (Tm.v 0).p),(203,.r ((s.bind.var u.ini).hyp (.v 0)).p),(204,.r rb.p),(211,.r (XR.ok t).p),(217,.n [(22,.n [(15,.r (XR.ok v).p)]),(34,.r (XR.fit (.n2 .app t v)).p)])])] g gs (zJ4 u) gv (a74 0) gh gb gl ga (qYp .app t v (by omega))
theorem zQx {a b:Jt} {x y z f:Fm} {w:Tm} {q:Sx} {n:Nat} (gp:A 201 [s.p,w.p] (XR.er q n).p):A 69 [blp tl,qZ5 (Pf.ind false x w a.p b.p) f hs [[a.pf hs y],[b.pf (upH 1 hs++[x]) z]],s.p] (XR.er .z n).p:=by
 exact f1 [(282,.n [(225,.n [(12,.r (XR.er q n).p)])])] gp
theorem zQy {a b:Jt} {x y z f:Fm} {w:Tm} {t:Tm} {n:Nat} {c:Bool} (gp:A 201 [s.p,w.p] (XR.ok t).p) (g:A 122 [x.p] (tyR (.er n) c)):A 69 [blp tl,qZ5 (Pf.ind false x w a.p b.p) f hs [[a.pf hs y],[b.pf (upH 1 hs++[x]) z]],s.p] (XR.er .z n).p:=by
 exact f2 [(282,.n [(225,.n [(12,.r (XR.ok t).p)]),(236,.n [(27,.r (tyR (.er n) c))])])] gp g
theorem zQz {a b:Jt} {x y z f:Fm} {w:Tm} {t:Tm} {u:Ty} {c:Bool} {q:Sx} {n:Nat} (gp:A 201 [s.p,w.p] (XR.ok t).p) (g:A 122 [x.p] (tyR (.ok u) c)) (ga:T69 tl hs a y s (.er q n)):A 69 [blp tl,qZ5 (Pf.ind false x w a.p b.p) f hs [[a.pf hs y],[b.pf (upH 1 hs++[x]) z]],s.p] (XR.er .z n).p:=by
 exact f3 [(282,.n [(225,.n [(12,.r (XR.ok t).p)]),(236,.n [(27,.r (tyR (.ok u) c)),(44,.r (XR.er q n).p)])])] gp g ga
theorem zQ0 {a b:Jt} {x y z f:Fm} {w:Tm} {t v:Tm} {u:Ty} {c:Bool} {rb:XR} (gp:A 201 [s.p,w.p] (XR.ok t).p) (ct:t.cnt≤4096) (g:A 122 [x.p] (tyR (.ok u) c)) (ga:T69 tl hs a y s (.ok v)) (cv:v.cnt≤4096) (gs:A 124 [s.p] s.bind.p) (gv:A 202 [s.bind.p,(Tm.v 0).p] (s.bind.var (.v 0)).p) (gs3:A 124 [(s.bind.var (.v 0)).p] (s.bind.var (.v 0)).bind.p) (gh:A 73 [(s.bind.var (.v 0)).bind.p,(Tm.v 0).p] ((s.bind.var (.v 0)).bind.hyp (.v 0)).p) (gb:T69 tl (upH 1 hs++[x]) b z ((s.bind.var (.v 0)).bind.hyp (.v 0)) rb) (cb:rb.cn≤4096):A 69 [blp tl,qZ5 (Pf.ind false x w a.p b.p) f hs [[a.pf hs y],[b.pf (upH 1 hs++[x]) z]],s.p] (match ((rb).lam u).lam .nat with | .er _ n=>XR.er .z n | .ok k=>XR.fit (.n3 .re u v k t)).p:=by
 have gl0:=qS6 u (rb) cb
 have gl1:=qS6 .nat ((rb).lam u) (qYq _ _)
 have cl:=qYq .nat (((rb).lam u))
 generalize ((rb).lam u).lam .nat=rl at gl1 cl ⊢
 cases rl with
 | er q n=>exact f13 [(282,.n [(225,.n [(12,.r (XR.ok t).p)]),(236,.n [(27,.r (tyR (.ok u) c)),(44,.r (XR.ok v).p),(51,.Y),(55,.r s.bind.p),(56,.r (Tm.v 0).p),(57,.r (s.bind.var (.v 0)).p),(81,.r (s.bind.var (.v 0)).bind.p),(82,.r (Tm.v 0).p),(83,.r ((s.bind.var (.v 0)).bind.hyp (.v 0)).p),(84,.r rb.p),(101,.r ((rb).lam u).p),(101,.r (XR.er q n).p)])])] gp g ga zXy gs (a74 0) gv gs3 (a74 0) gh gb gl0 gl1
 | ok k =>
  have c1:k.cnt≤4096:=cl
  have hm:=qQc
  exact f14 [(282,.n [(225,.n [(12,.r (XR.ok t).p)]),(236,.n [(27,.r (tyR (.ok u) c)),(44,.r (XR.ok v).p),(51,.Y),(55,.r s.bind.p),(56,.r (Tm.v 0).p),(57,.r (s.bind.var (.v 0)).p),(81,.r (s.bind.var (.v 0)).bind.p),(82,.r (Tm.v 0).p),(83,.r ((s.bind.var (.v 0)).bind.hyp (.v 0)).p),(84,.r rb.p),(101,.r ((rb).lam u).p),(101,.r (XR.ok k).p),(114,.r (XR.fit (.n3 .re u v k t)).p)])])] gp g ga zXy gs (a74 0) gv gs3 (a74 0) gh gb gl0 gl1 (zJ3 .re u v k t (by omega))
theorem zQ1 {a b:Jt} {x y z f:Fm} {w:Tm} {q:Sx} {n:Nat} (gp:A 201 [s.p,w.p] (XR.er q n).p):A 69 [blp tl,qZ5 (Pf.ind true x w a.p b.p) f hs [[a.pf hs y],[b.pf (upH 2 hs++[x.sh 1 (.ofNat 1)]) z]],s.p] (XR.er .z n).p:=by
 exact f1 [(282,.n [(225,.n [(12,.r (XR.er q n).p)])])] gp
theorem zQ2 {a b:Jt} {x y z f:Fm} {w:Tm} {t:Tm} {n:Nat} {c:Bool} (gp:A 201 [s.p,w.p] (XR.ok t).p) (g:A 122 [x.p] (tyR (.er n) c)):A 69 [blp tl,qZ5 (Pf.ind true x w a.p b.p) f hs [[a.pf hs y],[b.pf (upH 2 hs++[x.sh 1 (.ofNat 1)]) z]],s.p] (XR.er .z n).p:=by
 exact f2 [(282,.n [(225,.n [(12,.r (XR.ok t).p)]),(236,.n [(27,.r (tyR (.er n) c))])])] gp g
theorem zQ3 {a b:Jt} {x y z f:Fm} {w:Tm} {t:Tm} {u:Ty} {c:Bool} {q:Sx} {n:Nat} (gp:A 201 [s.p,w.p] (XR.ok t).p) (g:A 122 [x.p] (tyR (.ok u) c)) (ga:T69 tl hs a y s (.er q n)):A 69 [blp tl,qZ5 (Pf.ind true x w a.p b.p) f hs [[a.pf hs y],[b.pf (upH 2 hs++[x.sh 1 (.ofNat 1)]) z]],s.p] (XR.er .z n).p:=by
 exact f3 [(282,.n [(225,.n [(12,.r (XR.ok t).p)]),(236,.n [(27,.r (tyR (.ok u) c)),(44,.r (XR.er q n).p)])])] gp g ga
theorem zQ4 {a b:Jt} {x y z f:Fm} {w:Tm} {t v:Tm} {u:Ty} {c:Bool} {rb:XR} (gp:A 201 [s.p,w.p] (XR.ok t).p) (ct:t.cnt≤4096) (g:A 122 [x.p] (tyR (.ok u) c)) (ga:T69 tl hs a y s (.ok v)) (cv:v.cnt≤4096) (gs:A 124 [s.p] s.bind.p) (gv:A 202 [s.bind.p,(Tm.v 0).p] (s.bind.var (.v 0)).p) (gs2:A 124 [(s.bind.var (.v 0)).p] (s.bind.var (.v 0)).bind.p) (gv2:A 202 [(s.bind.var (.v 0)).bind.p,(Tm.v 0).p] ((s.bind.var (.v 0)).bind.var (.v 0)).p) (gs3:A 124 [((s.bind.var (.v 0)).bind.var (.v 0)).p] ((s.bind.var (.v 0)).bind.var (.v 0)).bind.p) (gh:A 73 [((s.bind.var (.v 0)).bind.var (.v 0)).bind.p,(Tm.v 0).p] (((s.bind.var (.v 0)).bind.var (.v 0)).bind.hyp (.v 0)).p) (gb:T69 tl (upH 2 hs++[x.sh 1 (.ofNat 1)]) b z (((s.bind.var (.v 0)).bind.var (.v 0)).bind.hyp (.v 0)) rb) (cb:rb.cn≤4096):A 69 [blp tl,qZ5 (Pf.ind true x w a.p b.p) f hs [[a.pf hs y],[b.pf (upH 2 hs++[x.sh 1 (.ofNat 1)]) z]],s.p] (match (((rb).lam u).lam .list).lam .nat with | .er _ n=>XR.er .z n | .ok k=>XR.fit (.n3 .fo u v k t)).p:=by
 have gl0:=qS6 u (rb) cb
 have gl1:=qS6 .list ((rb).lam u) (qYq _ _)
 have gl2:=qS6 .nat (((rb).lam u).lam .list) (qYq _ _)
 have cl:=qYq .nat ((((rb).lam u).lam .list))
 generalize (((rb).lam u).lam .list).lam .nat=rl at gl2 cl ⊢
 cases rl with
 | er q n=>exact f19 [(282,.n [(225,.n [(12,.r (XR.ok t).p)]),(236,.n [(27,.r (tyR (.ok u) c)),(44,.r (XR.ok v).p),(51,.Y),(55,.r s.bind.p),(56,.r (Tm.v 0).p),(57,.r (s.bind.var (.v 0)).p),(64,.Y),(65,.r Ty.list.p),(69,.r (s.bind.var (.v 0)).bind.p),(70,.r (Tm.v 0).p),(71,.r ((s.bind.var (.v 0)).bind.var (.v 0)).p),(81,.r ((s.bind.var (.v 0)).bind.var (.v 0)).bind.p),(82,.r (Tm.v 0).p),(83,.r (((s.bind.var (.v 0)).bind.var (.v 0)).bind.hyp (.v 0)).p),(84,.r rb.p),(101,.r ((rb).lam u).p),(101,.r (((rb).lam u).lam .list).p),(101,.r (XR.er q n).p)])])] gp g ga zXy gs (a74 0) gv zXy zHg gs2 (a74 0) gv2 gs3 (a74 0) gh gb gl0 gl1 gl2
 | ok k =>
  have c1:k.cnt≤4096:=cl
  have hm:=qQc
  exact f20 [(282,.n [(225,.n [(12,.r (XR.ok t).p)]),(236,.n [(27,.r (tyR (.ok u) c)),(44,.r (XR.ok v).p),(51,.Y),(55,.r s.bind.p),(56,.r (Tm.v 0).p),(57,.r (s.bind.var (.v 0)).p),(64,.Y),(65,.r Ty.list.p),(69,.r (s.bind.var (.v 0)).bind.p),(70,.r (Tm.v 0).p),(71,.r ((s.bind.var (.v 0)).bind.var (.v 0)).p),(81,.r ((s.bind.var (.v 0)).bind.var (.v 0)).bind.p),(82,.r (Tm.v 0).p),(83,.r (((s.bind.var (.v 0)).bind.var (.v 0)).bind.hyp (.v 0)).p),(84,.r rb.p),(101,.r ((rb).lam u).p),(101,.r (((rb).lam u).lam .list).p),(101,.r (XR.ok k).p),(114,.r (XR.fit (.n3 .fo u v k t)).p)])])] gp g ga zXy gs (a74 0) gv zXy zHg gs2 (a74 0) gv2 gs3 (a74 0) gh gb gl0 gl1 gl2 (zJ3 .fo u v k t (by omega))
theorem zKr {a:Jt} {u w:Ty} {x f:Fm} {q:Sx} {n:Nat} (ga:T69 tl hs a (.q .all u (.q .ex w x)) s (.er q n)):A 69 [blp tl,qZ5 (Pf.p1 .choice a.p) f hs [[a.pf hs (.q .all u (.q .ex w x))]],s.p] (XR.er .z n).p:=by
 exact f1 [(282,.n [(242,.n [(26,.r (XR.er q n).p)])])] ga
theorem zKs {a:Jt} {u w:Ty} {x f:Fm} {t:Tm} {n:Nat} {c:Bool} (ga:T69 tl hs a (.q .all u (.q .ex w x)) s (.ok t)) (g:A 122 [x.p] (tyR (.er n) c)):A 69 [blp tl,qZ5 (Pf.p1 .choice a.p) f hs [[a.pf hs (.q .all u (.q .ex w x))]],s.p] (XR.er t.x n).p:=by
 exact f2 [(282,.n [(242,.n [(26,.r (XR.ok t).p),(50,.r (tyR (.er n) c))])])] ga g
theorem zKt {a:Jt} {u w:Ty} {x f:Fm} {t:Tm} {v:Ty} (ga:T69 tl hs a (.q .all u (.q .ex w x)) s (.ok t)) (g:A 122 [x.p] (tyR (.ok v) false)):A 69 [blp tl,qZ5 (Pf.p1 .choice a.p) f hs [[a.pf hs (.q .all u (.q .ex w x))]],s.p] (XR.ok t).p:=by
 exact f2 [(282,.n [(242,.n [(26,.r (XR.ok t).p),(50,.r (tyR (.ok v) false))])])] ga g
theorem zKu {a:Jt} {u w:Ty} {x f:Fm} {t:Tm} {v:Ty} {n:Nat} (ga:T69 tl hs a (.q .all u (.q .ex w x)) s (.ok t)) (g:A 122 [x.p] (tyR (.ok v) true)) (g2:A 262 [w.p,v.p] (TR.er n).p):A 69 [blp tl,qZ5 (Pf.p1 .choice a.p) f hs [[a.pf hs (.q .all u (.q .ex w x))]],s.p] (XR.er .z n).p:=by
 exact f3 [(282,.n [(242,.n [(26,.r (XR.ok t).p),(50,.r (tyR (.ok v) true)),(69,.r (TR.er n).p)])])] ga g g2
theorem zKv {a:Jt} {u w:Ty} {x f:Fm} {t:Tm} {v k:Ty} {n:Nat} (ga:T69 tl hs a (.q .all u (.q .ex w x)) s (.ok t)) (g:A 122 [x.p] (tyR (.ok v) true)) (g2:A 262 [w.p,v.p] (TR.ok k).p) (g3:A 268 [u.p,k.p] (TR.er n).p):A 69 [blp tl,qZ5 (Pf.p1 .choice a.p) f hs [[a.pf hs (.q .all u (.q .ex w x))]],s.p] (XR.er .z n).p:=by
 exact f4 [(282,.n [(242,.n [(26,.r (XR.ok t).p),(50,.r (tyR (.ok v) true)),(69,.r (TR.ok k).p),(80,.r (TR.er n).p)])])] ga g g2 g3
abbrev zE9 (u:Ty):Tm:=.n2 .pair (.lam u (.n1 .fst (.n2 .app (.v 1) (.v 0)))) (.lam u (.n1 .snd (.n2 .app (.v 1) (.v 0))))
theorem zKw {a:Jt} {u w:Ty} {x f:Fm} {t:Tm} {v k m:Ty} (ga:T69 tl hs a (.q .all u (.q .ex w x)) s (.ok t)) (ct:t.cnt≤4096) (g:A 122 [x.p] (tyR (.ok v) true)) (g2:A 262 [w.p,v.p] (TR.ok k).p) (g3:A 268 [u.p,k.p] (TR.ok m).p):A 69 [blp tl,qZ5 (Pf.p1 .choice a.p) f hs [[a.pf hs (.q .all u (.q .ex w x))]],s.p] (XR.fit (.n2 .app (.lam m (zE9 u)) t)).p:=by
 exact f9 [(282,.n [(242,.n [(26,.r (XR.ok t).p),(50,.r (tyR (.ok v) true)),(69,.r (TR.ok k).p),(80,.r (TR.ok m).p),(89,.n [(5,.r (Tm.v 1).p),(6,.r (Tm.v 0).p)]),(91,.n [(5,.r (Tm.v 1).p),(6,.r (Tm.v 0).p)]),(101,.r (XR.fit (.n2 .app (.lam m (zE9 u)) t)).p)])])] ga g g2 g3 (a74 1) (a74 0) (a74 1) (a74 0) (qYp .app (.lam m (zE9 u)) t (by have hm:=qQc;simp only [Tm.cnt];omega))
end Go.Proofs.YtmcockinhpiomaaGreatDoor
namespace Go.Proofs.YtmcockinhpiomaaGreatDoor
open Go.Lg
set_option maxRecDepth 100000
abbrev BT (tl:List Tm) (hs:List Fm) (j:Jt) (s:Sc):Prop:=∃ r:XR,A 69 [blp tl,j.ptr hs,s.p] r.p∧r.Gd s.dep fun R=>ScR R j.us s
theorem qR7 {n:Nat} {bs:List Bool} {s:Sc} {t:Tm} {U:Nat→Prop} (hS:ScOK n bs s) (ht:TK n t) (hU:∀ v,t.occ v≠0→U v):(XR.fit (t.ps s.vs s.dep 0)).Gd s.dep fun R=>ScR R U s:=by
 have hc:t.sc (s.vs.length+0):=by rw [hS.vl];exact ht.sc
 exact qB2 (qYn hS.ve t 0 ht.shp) (qGz hS.ve t 0 hc) fun R hR=>zE4 hS.ve hc fun v e he ho=>hR.v v e he (hU v ho)
theorem Tm.c_len (t:Tm):t.c.length=5:=rfl
theorem zFa (f:Fm):1≤f.cnt:=by cases f<;>simp [Fm.cnt]<;>omega
theorem qB4 (R:Nat→Prop) (d:Nat):(Tm.v 0).lv (orR R d) (d+1):=zE6 fun _ => .inr (by omega)
theorem qG2 {d:Nat} {L:(Nat→Prop)→Prop} {M:(Nat→Prop)→Prop} (h:∀ R,L R→M (orR R d)):∀ Q,(∃ R,L R∧Q=orR R d)→M Q:=by
 rintro Q ⟨R,hR,rfl⟩
 exact h R hR
theorem a69 {ls:List Fm} {tl:List Tm} (HT:∀ (i:Nat) (f:Fm),ls[i]? = some f→∃ t,tl[i]? = some t∧TK 0 t):∀ (j:Jt) (n:Nat) (hs:List Fm) (s:Sc),j.OK ls n hs→j.f.has=true→ScOK n (hs.map Fm.has) s→n+j.p.cnt≤90000→hs.length+j.p.cnt≤mid→s.dep+j.p.cnt≤90000→s.hyps+j.p.cnt≤mid→BT tl hs j s
 | .leaf u i f,n,hs,s,h,hf,hS,hn,hl,hd,hh=>by
  have hm:=qQc
  have hb:=qQh
  have hlm:lim=100000:=rfl
  simp only [Jt.p,Pf.cnt] at hn hl hd hh
  obtain⟨h0,h⟩:=h
  replace hf:f.has=true:=hf
  cases u
  ·obtain⟨h1,h2⟩:=h
   have hk:(hs.map Fm.has)[hs.length-1-i]? = some true:=by rw [List.getElem?_map,h2];exact congrArg some hf
   obtain⟨t,d,p,e⟩:=hS.kh _ hk
   obtain⟨q1,q2⟩:=hS.ke _ (List.mem_of_getElem? e) t d p rfl
   have g1:=qVm (a:=(hs.map Fm.c).length) (by simp;omega) (by simp;omega)
   have g2:inB (Int.ofNat ((hs.map Fm.c).length-1) - .ofNat i)=true∧Int.ofNat ((hs.map Fm.c).length-1) - .ofNat i = .ofNat (hs.length-1-i):=by
    have e:Int.ofNat ((hs.map Fm.c).length-1) - .ofNat i = .ofNat (hs.length-1-i):=by simp;omega
    exact⟨by rw [e];exact inN (by omega),e⟩
   have g3:=zI7 s _ t d p e q1 (by omega) q2
   have q3:=q2.sh (s.dep-d)
   have ed:d+(s.dep-d)=s.dep:=by omega
   rw [ed] at q3
   refine⟨.ok (t.sh 0 (.ofNat (s.dep-d))),f3 [(38,.z ((hs.map Fm.c).length-1)),(44,.z (hs.length-1-i)),(45,.U [(t.sh 0 (.ofNat (s.dep-d))).p,.bool true])] g1 g2 g3,q3,fun R hR => ?_⟩
   have:=zE3 (hR.k _ (List.mem_of_getElem? e) t d p rfl) (s.dep-d)
   rwa [ed] at this
  ·obtain⟨t,e,q⟩:=HT i f h
   exact⟨.ok t,f1 [(58,.i t.c)] (qQi e Tm.c_len),zI5 q (Nat.zero_le _),fun R hR=>zBe q.sc⟩
 | .refl t,n,hs,s,h,hf,hS,hn,hl,hd,hh=>by
  have hf:false=true:=hf
  cases hf
 | .p1 k a f,n,hs,s,⟨h0,h1,h2⟩,hf,hS,hn,hl,hd,hh=>by
  have hm:=qQc
  have hlm:lim=100000:=rfl
  simp only [Jt.p,Pf.cnt] at hn hl hd hh
  replace hf:f.has=true:=hf
  have hU:∀ R,ScR R (Jt.p1 k a f).us s→ScR R a.us s:=fun R hR=>hR.mono (fun _ h=>h) fun v hv=>⟨hf,hv⟩
  have FA:=Jt.FKj h1
  cases k
  ·obtain⟨y,e⟩:=h2
   have ha:a.f.has=true:=by rw [e];show (f.has || y.has)=true;rw [hf];rfl
   obtain⟨r,g1,q1⟩:=a69 HT a n hs s h1 ha hS (by omega) (by omega) (by omega) (by omega)
   rw [e] at FA
   obtain⟨t0,g2,_⟩:=zQj FA.bin1 (by omega)
   obtain⟨t1,g3,_⟩:=zQj FA.bin2 (by omega)
   rw [hf] at g2
   cases hy:y.has<;>rw [hy] at g3
   ·have g:=zQm (tl:=tl) (hs:=hs) (s:=s) (a:=a) (f:=f) (y:=y) (ra:=r) (by rw [← e];exact g1) g2 g3 q1.cn
    rw [← e] at g
    exact⟨_,g,q1.mono hU⟩
   ·have g:=zQl (tl:=tl) (hs:=hs) (s:=s) (a:=a) (f:=f) (y:=y) (ra:=r) (by rw [← e];exact g1) g2 g3 q1.cn
    rw [← e] at g
    exact⟨_,g,zJ5 (q1.mono hU)⟩
  ·obtain⟨y,e⟩:=h2
   have ha:a.f.has=true:=by rw [e];show (y.has || f.has)=true;rw [hf];cases y.has<;>rfl
   obtain⟨r,g1,q1⟩:=a69 HT a n hs s h1 ha hS (by omega) (by omega) (by omega) (by omega)
   rw [e] at FA
   obtain⟨t0,g2,_⟩:=zQj FA.bin1 (by omega)
   obtain⟨t1,g3,_⟩:=zQj FA.bin2 (by omega)
   rw [hf] at g3
   cases hy:y.has<;>rw [hy] at g2
   ·have g:=zQo (tl:=tl) (hs:=hs) (s:=s) (a:=a) (f:=f) (y:=y) (ra:=r) (by rw [← e];exact g1) g2 g3 q1.cn
    rw [← e] at g
    exact⟨_,g,q1.mono hU⟩
   ·have g:=zQn (tl:=tl) (hs:=hs) (s:=s) (a:=a) (f:=f) (y:=y) (ra:=r) (by rw [← e];exact g1) g2 g3 q1.cn
    rw [← e] at g
    exact⟨_,g,zJ5 (q1.mono hU)⟩
  ·obtain⟨u,w,x,e,y,e1,e2⟩:=h2
   have ha:a.f.has=true:=by rw [e];rfl
   obtain⟨r,g1,q1⟩:=a69 HT a n hs s h1 ha hS (by omega) (by omega) (by omega) (by omega)
   rw [e] at FA
   have sw:=qNm (qQ3 FA.qf.shp).1
   have su:=qNm (qQ3 FA.shp).1
   obtain⟨T,g2,z2⟩:=zQj FA.qf.qf (by omega)
   cases r with
   | er q m =>
    have g:=zKr (tl:=tl) (hs:=hs) (s:=s) (a:=a) (f:=f) (u:=u) (w:=w) (x:=x) (q:=q) (n:=m) (by rw [← e];exact g1)
    rw [← e] at g
    exact⟨_,g,trivial⟩
   | ok t =>
    have q2:=q1.mono hU
    cases T with
    | er m =>
     have g:=zKs (tl:=tl) (hs:=hs) (s:=s) (a:=a) (f:=f) (u:=u) (w:=w) (x:=x) (t:=t) (by rw [← e];exact g1) g2
     rw [← e] at g
     exact⟨_,g,trivial⟩
    | ok v =>
     cases hx:x.has<;>rw [hx] at g2
     ·have g:=zKt (tl:=tl) (hs:=hs) (s:=s) (a:=a) (f:=f) (u:=u) (w:=w) (x:=x) (t:=t) (by rw [← e];exact g1) g2
      rw [← e] at g
      exact⟨_,g,q2⟩
     ·have hv:v.size≤64:=z2
      have g3:=zHf w v (by omega)
      cases e3:TR.fit (.two false w v) with
      | er m =>
       rw [e3] at g3
       have g:=zKu (tl:=tl) (hs:=hs) (s:=s) (a:=a) (f:=f) (u:=u) (w:=w) (x:=x) (t:=t) (by rw [← e];exact g1) g2 g3
       rw [← e] at g
       exact⟨_,g,trivial⟩
      | ok k =>
       rw [e3] at g3
       have hk:k.size≤64:=by
        unfold TR.fit at e3
        split at e3
        ·rename_i h;cases e3;exact h
        ·cases e3
       have g4:=zI8 u k (by omega)
       cases e4:TR.fit (.two true u k) with
       | er m =>
        rw [e4] at g4
        have g:=zKv (tl:=tl) (hs:=hs) (s:=s) (a:=a) (f:=f) (u:=u) (w:=w) (x:=x) (t:=t) (by rw [← e];exact g1) g2 g3 g4
        rw [← e] at g
        exact⟨_,g,trivial⟩
       | ok m =>
        rw [e4] at g4
        have hk:m.size≤64:=by
         unfold TR.fit at e4
         split at e4
         ·rename_i h;cases e4;exact h
         ·cases e4
        have g:=zKw (tl:=tl) (hs:=hs) (s:=s) (a:=a) (f:=f) (u:=u) (w:=w) (x:=x) (t:=t) (by rw [← e];exact g1) q1.1.cnt g2 g3 g4
        rw [← e] at g
        refine⟨_,g,qB2 ?_ ?_ fun R hR=>zHb (zBe ?_) (q2.2 R hR)⟩
        ·show (Nat.beq m.chk 0 && ((Nat.beq u.chk 0 && _) && (Nat.beq u.chk 0 && _)) && _)=true
         rw [zXz hk,zXz su,q2.1.shp];rfl
        ·refine⟨⟨⟨?_,?_⟩,?_,?_⟩,q2.1.sc⟩<;>simp only [Tm.sc]<;>omega
        ·refine⟨⟨?_,?_⟩,?_,?_⟩<;>simp only [Tm.sc]<;>omega
 | .p2 k a b f,n,hs,s,⟨h0,h1,h2⟩,hf,hS,hn,hl,hd,hh=>by
  have hm:=qQc
  have hlm:lim=100000:=rfl
  simp only [Jt.p,Pf.cnt] at hn hl hd hh
  have ca:=qR1 a.p
  have cb:=qR1 b.p
  replace hf:f.has=true:=hf
  have hkl:s.ks.length=hs.length:=by have:=hS.kl;simpa using this
  have hA:∀ R,ScR R (Jt.p2 k a b f).us s→ScR R a.us s:=fun R hR=>hR.mono (fun _ h=>h) fun v hv=>⟨hf,.inl hv⟩
  have FA:=Jt.FKj h1
  cases k
  ·obtain⟨h3,e⟩:=h2
   have hB:∀ R,ScR R (Jt.p2 .andI a b f).us s→ScR R b.us s:=fun R hR=>hR.mono (fun _ h=>h) fun v hv=>⟨hf,.inr hv⟩
   subst e
   have hor:a.f.has=true∨b.f.has=true:=by have:(a.f.has || b.f.has)=true:=hf;simpa using this
   cases ha:a.f.has
   ·have hbh:b.f.has=true:=by rcases hor with h|h;rw [ha] at h;cases h;exact h
    obtain⟨r,g1,q1⟩:=a69 HT b n hs s h3 hbh hS (by omega) (by omega) (by omega) (by omega)
    exact⟨_,zQk ha g1,q1.mono hB⟩
   ·obtain⟨r,g1,q1⟩:=a69 HT a n hs s h1 ha hS (by omega) (by omega) (by omega) (by omega)
    cases hbh:b.f.has
    ·exact⟨_,qR5 ha hbh g1,q1.mono hA⟩
    ·obtain⟨r2,g2,q2⟩:=a69 HT b n hs s h3 hbh hS (by omega) (by omega) (by omega) (by omega)
     exact⟨_,qR4 ha hbh g1 g2 q1.cn q2.cn,qB3 (q1.mono hA) (q2.mono hB)⟩
  ·obtain⟨h3,x,e⟩:=h2
   have hB:∀ R,ScR R (Jt.p2 .impE a b f).us s→ScR R b.us s:=fun R hR=>hR.mono (fun _ h=>h) fun v hv=>⟨hf,.inr hv⟩
   have ha:a.f.has=true:=by rw [e];exact hf
   obtain⟨r,g1,q1⟩:=a69 HT a n hs s h1 ha hS (by omega) (by omega) (by omega) (by omega)
   cases hbh:b.f.has
   ·have g:=zQs (tl:=tl) (hs:=hs) (s:=s) (a:=a) (b:=b) (x:=x) (y:=b.f) (f:=f) (ra:=r) hbh (by rw [← e];exact g1)
    rw [← e] at g
    exact⟨_,g,q1.mono hA⟩
   ·obtain⟨r2,g2,q2⟩:=a69 HT b n hs s h3 hbh hS (by omega) (by omega) (by omega) (by omega)
    have g:=zQt (tl:=tl) (hs:=hs) (s:=s) (a:=a) (b:=b) (x:=x) (y:=b.f) (f:=f) (ra:=r) (rb:=r2) hbh (by rw [← e];exact g1) g2 q1.cn q2.cn
    rw [← e] at g
    exact⟨_,g,qB3 (q1.mono hA) (q2.mono hB)⟩
  ·obtain⟨h3,⟨u,e⟩,e1⟩:=h2
   generalize hx:a.f.bd=x at *
   have ha:a.f.has=true:=by rw [e];rfl
   have hbh:b.f.has=true:=by rw [← qWx (qMe e1)];exact hf
   rw [e] at FA
   have su:=qNm (qQ3 FA.shp).1
   obtain⟨T,g2,z2⟩:=zQj FA.qf (by omega)
   have gs:=qS4 s (by omega)
   cases T with
   | er m =>
    have g:=zKn (tl:=tl) (hs:=hs) (s:=s) (a:=a) (b:=b) (u:=u) (x:=x) (y:=b.f) (f:=f) g2
    rw [← e,← hx] at g
    exact⟨_,g,trivial⟩
   | ok w =>
    have hw:w.size≤64:=z2
    obtain⟨r,g1,q1⟩:=a69 HT a n hs s h1 ha hS (by omega) (by omega) (by omega) (by omega)
    cases hxh:x.has<;>rw [hxh] at g2
    ·have S1:=(hS.bind.var (t:=.v 0) (TKv (by show 0<s.dep+1;omega))).bare
     have gv:=qS5 s.bind (.v 0) (by rw [hS.bind.vl];omega)
     have gh:=a72 (s.bind.var (.v 0)) (by show s.ks.length≤mid;omega) (by show s.hyps≤mid;omega)
     obtain⟨r2,g3,q3⟩:=a69 HT b (n+1) _ _ h3 hbh (by rw [List.map_append,qWy,List.map_cons,hxh];exact S1) (by omega) (by simp;omega) (by show s.dep+1+_≤_;omega) (by show s.hyps+1+_≤_;omega)
     have g:=zKq (tl:=tl) (hs:=hs) (s:=s) (a:=a) (b:=b) (u:=u) (x:=x) (y:=b.f) (f:=f) g2 gs gv gh g3 q3.cn (by rw [← e];exact g1) q1.cn
     rw [← e,← hx] at g
     refine⟨_,g,qB3 (qKp su (q3.mono (qG2 fun R hR => ?_))) (q1.mono hA)⟩
     exact ((ScR.bind hR).var (W:=b.us) (fun _=>qB4 R s.dep) fun v hv=>⟨hf,.inr hv⟩).bare
    ·have gp:=zHf u w (by omega)
     cases e3:TR.fit (.two false u w) with
     | er m =>
      rw [e3] at gp
      have g:=zKo (tl:=tl) (hs:=hs) (s:=s) (a:=a) (b:=b) (u:=u) (x:=x) (y:=b.f) (f:=f) g2 gs gp
      rw [← e,← hx] at g
      exact⟨_,g,trivial⟩
     | ok k =>
      rw [e3] at gp
      unfold TR.fit at e3
      split at e3
      rotate_left
      ·cases e3
      rename_i hk
      cases e3
      have hz:TK (s.dep+1) (.v 0):=TKv (by omega)
      have S0:=hS.bind.var (t:=.n1 .fst (.v 0)) (TK1 hz (by simp [Tm.cnt]))
      have S1:=S0.hyp (t:=.n1 .snd (.v 0)) (TK1 hz (by simp [Tm.cnt])) true
      have gv:=qS5 s.bind (.n1 .fst (.v 0)) (by rw [hS.bind.vl];omega)
      have gh:=a73 (s.bind.var (.n1 .fst (.v 0))) (.n1 .snd (.v 0)) (by show s.ks.length≤mid;omega) (by show s.hyps≤mid;omega)
      obtain⟨r2,g3,q3⟩:=a69 HT b (n+1) _ _ h3 hbh (by rw [List.map_append,qWy,List.map_cons,hxh];exact S1) (by omega) (by simp;omega) (by show s.dep+1+_≤_;omega) (by show s.hyps+1+_≤_;omega)
      have g:=zKp (tl:=tl) (hs:=hs) (s:=s) (a:=a) (b:=b) (u:=u) (x:=x) (y:=b.f) (f:=f) g2 gs gp gv gh g3 q3.cn (by rw [← e];exact g1) q1.cn
      rw [← e,← hx] at g
      refine⟨_,g,qB3 (qKp hk (q3.mono (qG2 fun R hR => ?_))) (q1.mono hA)⟩
      exact ((ScR.bind hR).var (W:=b.us) (fun _=>zE5 (qB4 R s.dep)) fun v hv=>⟨hf,.inr hv⟩).hyp (zE5 (qB4 R s.dep))
  ·obtain⟨h3,⟨u,e⟩,e1⟩:=h2
   generalize hx:a.f.bd=x at *
   have hbh:b.f.has=true:=by rw [← qWx (qMe e1)];exact hf
   rw [e] at FA
   have su:=qNm (qQ3 FA.shp).1
   obtain⟨T,g2,z2⟩:=zQj FA.qf (by omega)
   have gs:=qS4 s (by omega)
   cases T with
   | er m =>
    have g:=zQu (tl:=tl) (hs:=hs) (s:=s) (a:=a) (b:=b) (u:=u) (x:=x) (y:=b.f) (f:=f) g2
    rw [← e,← hx] at g
    exact⟨_,g,trivial⟩
   | ok w =>
    have hw:w.size≤64:=z2
    cases hxh:x.has<;>rw [hxh] at g2
    ·have S1:=(hS.var (t:=u.ini) (qR3 u su s.dep)).bare
     have gv:=qS5 s u.ini (by rw [hS.vl];omega)
     have gh:=a72 (s.var u.ini) (by show s.ks.length≤mid;omega) (by show s.hyps≤mid;omega)
     obtain⟨r2,g3,q3⟩:=a69 HT b (n+1) _ _ h3 hbh (by rw [List.map_append,qWy,List.map_cons,hxh];exact S1) (by omega) (by simp;omega) (by show s.dep+_≤_;omega) (by show s.hyps+1+_≤_;omega)
     have g:=zQv (tl:=tl) (hs:=hs) (s:=s) (a:=a) (b:=b) (u:=u) (x:=x) (y:=b.f) (f:=f) g2 gv gh g3
     rw [← e,← hx] at g
     exact⟨_,g,q3.mono fun R hR=>(hR.var (W:=b.us) (fun _=>zBe (qB1 u 0)) fun v hv=>⟨hf,.inr hv⟩).bare⟩
    ·have ha:a.f.has=true:=by rw [e];exact hxh
     obtain⟨r,g1,q1⟩:=a69 HT a n hs s h1 ha hS (by omega) (by omega) (by omega) (by omega)
     have S0:=hS.bind.var (t:=u.ini) (qR3 u su _)
     have S1:=S0.hyp (t:=.v 0) (TKv (by show 0<s.dep+1;omega)) true
     have gv:=qS5 s.bind u.ini (by rw [hS.bind.vl];omega)
     have gh:=a73 (s.bind.var u.ini) (.v 0) (by show s.ks.length≤mid;omega) (by show s.hyps≤mid;omega)
     obtain⟨r2,g3,q3⟩:=a69 HT b (n+1) _ _ h3 hbh (by rw [List.map_append,qWy,List.map_cons,hxh];exact S1) (by omega) (by simp;omega) (by show s.dep+1+_≤_;omega) (by show s.hyps+1+_≤_;omega)
     have g:=zQw (tl:=tl) (hs:=hs) (s:=s) (a:=a) (b:=b) (u:=u) (x:=x) (y:=b.f) (f:=f) g2 gs gv gh g3 q3.cn (by rw [← e];exact g1) q1.cn
     rw [← e,← hx] at g
     refine⟨_,g,qB3 (qKp hw (q3.mono (qG2 fun R hR => ?_))) (q1.mono hA)⟩
     exact ((ScR.bind hR).var (W:=b.us) (fun _=>zBe (qB1 u 0)) fun v hv=>⟨hf,.inr hv⟩).hyp (qB4 R s.dep)
 | .impI x a,n,hs,s,⟨h0,h1,h2⟩,hf,hS,hn,hl,hd,hh=>by
  have hm:=qQc
  have hlm:lim=100000:=rfl
  simp only [Jt.p,Pf.cnt] at hn hl hd hh
  have hkl:s.ks.length=hs.length:=by have:=hS.kl;simpa using this
  have ha:a.f.has=true:=hf
  have hU:∀ R,ScR R (Jt.impI x a).us s→ScR R a.us s:=fun R hR=>hR.mono (fun _ h=>h) fun v hv=>⟨hf,hv⟩
  obtain⟨T,g2,z2⟩:=zQj h0 (by omega)
  cases T with
  | er m=>exact⟨_,zQp g2,trivial⟩
  | ok u =>
   have hu:u.size≤64:=z2
   cases hxh:x.has<;>rw [hxh] at g2
   ·have S1:=hS.bare
    have gh:=a72 s (by omega) (by omega)
    obtain⟨r2,g3,q3⟩:=a69 HT a n _ _ h2 ha (by rw [List.map_append,List.map_cons,hxh];exact S1) (by omega) (by simp;omega) (by show s.dep+_≤_;omega) (by show s.hyps+1+_≤_;omega)
    exact⟨_,zQq g2 gh g3,q3.mono fun R hR=>(hU R hR).bare⟩
   ·have S1:=hS.bind.hyp (t:=.v 0) (TKv (by show 0<s.dep+1;omega)) true
    have gs:=qS4 s (by omega)
    have gh:=a73 s.bind (.v 0) (by show s.ks.length≤mid;omega) (by show s.hyps≤mid;omega)
    obtain⟨r2,g3,q3⟩:=a69 HT a n _ _ h2 ha (by rw [List.map_append,List.map_cons,hxh];exact S1) (by omega) (by simp;omega) (by show s.dep+1+_≤_;omega) (by show s.hyps+1+_≤_;omega)
    refine⟨_,zQr g2 gs gh g3 q3.cn,qKp hu (q3.mono (qG2 fun R hR => ?_))⟩
    exact (ScR.bind (hU R hR)).hyp (qB4 R s.dep)
 | .all c u a,n,hs,s,⟨h0,h1,h2⟩,hf,hS,hn,hl,hd,hh=>by
  have hm:=qQc
  have hlm:lim=100000:=rfl
  simp only [Jt.p,Pf.cnt] at hn hl hd hh
  cases c
  ·have ha:a.f.has=true:=hf
   have S1:=hS.bind.var (t:=.v 0) (TKv (by show 0<s.dep+1;omega))
   have gs:=qS4 s (by omega)
   have gv:=qS5 s.bind (.v 0) (by rw [hS.bind.vl];omega)
   obtain⟨r2,g3,q3⟩:=a69 HT a (n+1) _ _ h2 ha (by rw [qWy];exact S1) (by omega) (by simp;omega) (by show s.dep+1+_≤_;omega) (by show s.hyps+_≤_;omega)
   refine⟨_,zJ6 gs gv g3 q3.cn,qKp h0 (q3.mono (qG2 fun R hR => ?_))⟩
   exact (ScR.bind hR).var (W:=a.us) (fun _=>qB4 R s.dep) fun v hv=>⟨hf,hv⟩
  ·have ha:a.f.has=true:=hf
   have S1:=hS.var (t:=u.ini) (qR3 u h0 s.dep)
   have gv:=qS5 s u.ini (by rw [hS.vl];omega)
   obtain⟨r2,g3,q3⟩:=a69 HT a (n+1) _ _ h2 ha (by rw [qWy];exact S1) (by omega) (by simp;omega) (by show s.dep+_≤_;omega) (by show s.hyps+_≤_;omega)
   exact⟨_,zBg gv g3,q3.mono fun R hR=>hR.var (W:=a.us) (fun _=>zBe (qB1 u 0)) fun v hv=>⟨hf,hv⟩⟩
 | .ins c t a f,n,hs,s,⟨h0,h1,h2,u,x,e,e1⟩,hf,hS,hn,hl,hd,hh=>by
  have hm:=qQc
  have hlm:lim=100000:=rfl
  simp only [Jt.p,Pf.cnt] at hn hl hd hh
  replace hf:f.has=true:=hf
  have hxh:x.has=true:=by rw [← qWx (qE3 e1)];exact hf
  have hA:∀ R,ScR R (Jt.ins c t a f).us s→ScR R a.us s:=fun R hR=>hR.mono (fun _ h=>h) fun v hv=>⟨hf,.inl hv⟩
  cases c
  ·have ha:a.f.has=true:=by rw [e];exact hxh
   obtain⟨r,g1,q1⟩:=a69 HT a n hs s h2 ha hS (by omega) (by omega) (by omega) (by omega)
   have e:a.f = .q .all u x:=e
   have gp:=zC6 s t n hS.vl.symm hS.ve (by omega) (by rw [hS.vl];omega) h1
   have qp:(XR.fit (t.ps s.vs s.dep 0)).Gd s.dep fun R=>ScR R (Jt.ins false t a f).us s:=qR7 hS h1 fun v hv=>⟨hf,.inr ⟨rfl,hv⟩⟩
   have g:=zBh (tl:=tl) (hs:=hs) (s:=s) (a:=a) (w:=t) (u:=u) (x:=x) (f:=f) (by rw [← e];exact g1) gp q1.cn qp.cn
   rw [← e] at g
   exact⟨_,g,qB3 (q1.mono hA) qp⟩
  ·have ha:a.f.has=true:=by rw [e];exact hxh
   obtain⟨r,g1,q1⟩:=a69 HT a n hs s h2 ha hS (by omega) (by omega) (by omega) (by omega)
   have e:a.f = .q .allU u x:=e
   have g:=zBi (tl:=tl) (hs:=hs) (s:=s) (a:=a) (w:=t) (u:=u) (x:=x) (f:=f) (by rw [← e];exact g1)
   rw [← e] at g
   exact⟨_,g,q1.mono hA⟩
 | .ex c x t a,n,hs,s,⟨h0,h1,h2,⟨u,e⟩,e1⟩,hf,hS,hn,hl,hd,hh=>by
  have hm:=qQc
  have hlm:lim=100000:=rfl
  simp only [Jt.p,Pf.cnt] at hn hl hd hh
  replace hf:x.has=true:=hf
  have hA:∀ R,ScR R (Jt.ex c x t a).us s→ScR R a.us s:=fun R hR=>hR.mono (fun _ h=>h) fun v hv=>⟨hf,.inl hv⟩
  cases c
  ·have gp:=zC6 s t n hS.vl.symm hS.ve (by omega) (by rw [hS.vl];omega) h1
   have qp:(XR.fit (t.ps s.vs s.dep 0)).Gd s.dep fun R=>ScR R (Jt.ex false x t a).us s:=qR7 hS h1 fun v hv=>⟨hf,.inr ⟨rfl,hv⟩⟩
   cases ha:a.f.has
   ·exact⟨_,qR6 ha gp,qp⟩
   ·obtain⟨r,g1,q1⟩:=a69 HT a n hs s h2 ha hS (by omega) (by omega) (by omega) (by omega)
    exact⟨_,zKl ha g1 gp q1.cn qp.cn,qB3 qp (q1.mono hA)⟩
  ·have ha:a.f.has=true:=by
    rw [qWx e1]
    rw [e] at hf
    exact hf
   obtain⟨r,g1,q1⟩:=a69 HT a n hs s h2 ha hS (by omega) (by omega) (by omega) (by omega)
   exact⟨_,zE8 g1,q1.mono hA⟩
 | .ind l x t a b f,n,hs,s,⟨h0,h1,h2,h3,e,⟨ea,eb⟩,h4⟩,hf,hS,hn,hl,hd,hh=>by
  have hm:=qQc
  have hlm:lim=100000:=rfl
  simp only [Jt.p,Pf.cnt] at hn hl hd hh
  have ct:=qB8 t
  have cx:=zFa x
  have ca:=qR1 a.p
  have hkl:s.ks.length=hs.length:=by have:=hS.kl;simpa using this
  replace hf:f.has=true:=hf
  have hxh:x.has=true:=by rw [← qWx (qE3 e)];exact hf
  have ha:a.f.has=true:=by rw [qWx ea];exact hxh
  have hbh:b.f.has=true:=by rw [qWx eb];exact hxh
  have hA:∀ R,ScR R (Jt.ind l x t a b f).us s→ScR R a.us s:=fun R hR=>hR.mono (fun _ h=>h) fun v hv=>⟨hf,.inr (.inl hv)⟩
  have gp:=zC6 s t n hS.vl.symm hS.ve (by omega) (by rw [hS.vl];omega) h2
  have qp:(XR.fit (t.ps s.vs s.dep 0)).Gd s.dep fun R=>ScR R (Jt.ind l x t a b f).us s:=qR7 hS h2 fun v hv=>⟨hf,.inl hv⟩
  generalize XR.fit (t.ps s.vs s.dep 0)=rp at gp qp
  obtain⟨T,g2,z2⟩:=zQj h1 (by omega)
  obtain⟨r,g1,q1⟩:=a69 HT a n hs s h3 ha hS (by omega) (by omega) (by omega) (by omega)
  cases l
  ·cases rp with
   | er q m=>exact⟨_,zQx gp,trivial⟩
   | ok tp=>cases T with
    | er m=>exact⟨_,zQy gp g2,trivial⟩
    | ok u =>
     have hu:u.size≤64:=z2
     cases r with
     | er q m=>exact⟨_,zQz gp g2 g1,trivial⟩
     | ok v =>
      have S0:=hS.bind.var (t:=.v 0) (TKv (by show 0<s.dep+1;omega))
      have S1:=S0.bind.hyp (t:=.v 0) (TKv (by show 0<s.dep+1+1;omega)) true
      have gs:=qS4 s (by omega)
      have gv:=qS5 s.bind (.v 0) (by rw [hS.bind.vl];omega)
      have gs3:=qS4 (s.bind.var (.v 0)) (by show s.dep+1≤mid;omega)
      have gh:=a73 (s.bind.var (.v 0)).bind (.v 0) (by show s.ks.length≤mid;omega) (by show s.hyps≤mid;omega)
      obtain⟨r2,g3,q3⟩:=a69 HT b (n+1) _ _ h4 hbh (by rw [List.map_append,qWy,List.map_cons,hxh];exact S1) (by omega) (by simp;omega) (by show s.dep+1+1+_≤_;omega) (by show s.hyps+1+_≤_;omega)
      have g:=zQ0 (tl:=tl) (hs:=hs) (s:=s) (a:=a) (b:=b) (x:=x) (y:=a.f) (z:=b.f) (f:=f) (w:=t) gp qp.1.cnt g2 g1 q1.1.cnt gs gv gs3 gh g3 q3.cn
      have q4:((r2.lam u).lam .nat).Gd s.dep fun R=>ScR R (Jt.ind false x t a b f).us s:=by
       refine qKp (by decide) (qKp hu (q3.mono ?_))
       rintro Q ⟨R',⟨R,hR,rfl⟩,rfl⟩
       exact (ScR.bind ((ScR.bind hR).var (W:=b.us) (fun _=>qB4 R s.dep) fun v hv=>⟨hf,.inr (.inr hv)⟩)).hyp (qB4 _ _)
      refine⟨_,g,?_⟩
      cases e5:(r2.lam u).lam .nat with
      | er q m=>trivial
      | ok k =>
       rw [e5] at q4
       refine qB2 ?_ ⟨q1.1.sc,q4.1.sc,qp.1.sc⟩ fun R hR=>zHc (q1.2 R (hA R hR)) (q4.2 R hR) (qp.2 R hR)
       show (Nat.beq u.chk 0 && (_ && (_ && _)))=true
       rw [zXz hu,q1.1.shp,q4.1.shp,qp.1.shp];rfl
  ·cases rp with
   | er q m=>exact⟨_,zQ1 gp,trivial⟩
   | ok tp=>cases T with
    | er m=>exact⟨_,zQ2 gp g2,trivial⟩
    | ok u =>
     have hu:u.size≤64:=z2
     cases r with
     | er q m=>exact⟨_,zQ3 gp g2 g1,trivial⟩
     | ok v =>
      have S0:=hS.bind.var (t:=.v 0) (TKv (by show 0<s.dep+1;omega))
      have S2:=S0.bind.var (t:=.v 0) (TKv (by show 0<s.dep+1+1;omega))
      have S1:=S2.bind.hyp (t:=.v 0) (TKv (by show 0<s.dep+1+1+1;omega)) true
      have gs:=qS4 s (by omega)
      have gv:=qS5 s.bind (.v 0) (by rw [hS.bind.vl];omega)
      have gs2:=qS4 (s.bind.var (.v 0)) (by show s.dep+1≤mid;omega)
      have gv2:=qS5 (s.bind.var (.v 0)).bind (.v 0) (by rw [S0.bind.vl];omega)
      have gs3:=qS4 ((s.bind.var (.v 0)).bind.var (.v 0)) (by show s.dep+1+1≤mid;omega)
      have gh:=a73 ((s.bind.var (.v 0)).bind.var (.v 0)).bind (.v 0) (by show s.ks.length≤mid;omega) (by show s.hyps≤mid;omega)
      have hxs:(x.sh 1 (.ofNat 1)).has=true:=by rw [qWx (qXn _ x 1)];exact hxh
      obtain⟨r2,g3,q3⟩:=a69 HT b (n+2) _ _ h4 hbh (by rw [List.map_append,qWy,List.map_cons,hxs];exact S1) (by omega) (by simp;omega) (by show s.dep+1+1+1+_≤_;omega) (by show s.hyps+1+_≤_;omega)
      have g:=zQ4 (tl:=tl) (hs:=hs) (s:=s) (a:=a) (b:=b) (x:=x) (y:=a.f) (z:=b.f) (f:=f) (w:=t) gp qp.1.cnt g2 g1 q1.1.cnt gs gv gs2 gv2 gs3 gh g3 q3.cn
      have q4:(((r2.lam u).lam .list).lam .nat).Gd s.dep fun R=>ScR R (Jt.ind true x t a b f).us s:=by
       refine qKp (by decide) (qKp (by decide) (qKp hu (q3.mono ?_)))
       rintro Q ⟨R'',⟨R',⟨R,hR,rfl⟩,rfl⟩,rfl⟩
       exact (ScR.bind ((ScR.bind ((ScR.bind hR).var (W:=fun v=>b.us (v+1)) (fun _=>qB4 R s.dep) fun v hv=>⟨hf,.inr (.inr hv)⟩)).var (W:=b.us) (fun _=>qB4 _ _) fun v hv=>hv)).hyp (qB4 _ _)
      refine⟨_,g,?_⟩
      cases e5:((r2.lam u).lam .list).lam .nat with
      | er q m=>trivial
      | ok k =>
       rw [e5] at q4
       refine qB2 ?_ ⟨q1.1.sc,q4.1.sc,qp.1.sc⟩ fun R hR=>zHc (q1.2 R (hA R hR)) (q4.2 R hR) (qp.2 R hR)
       show (Nat.beq u.chk 0 && (_ && (_ && _)))=true
       rw [zXz hu,q1.1.shp,q4.1.shp,qp.1.shp];rfl
 | .subst x a b f,n,hs,s,⟨h0,h1,h2,h3,eb,t,u,e,e1⟩,hf,hS,hn,hl,hd,hh=>by
  have hm:=qQc
  simp only [Jt.p,Pf.cnt] at hn hl hd hh
  replace hf:f.has=true:=hf
  have hbh:b.f.has=true:=by rw [qWx eb,← qWx (qE3 e1)];exact hf
  obtain⟨r,g1,q1⟩:=a69 HT b n hs s h3 hbh hS (by omega) (by omega) (by omega) (by omega)
  exact⟨_,zKm g1,q1.mono fun R hR=>hR.mono (fun _ h=>h) fun v hv=>⟨hf,hv⟩⟩
def nvs (d:Nat):Nat→Nat→List (Tm × Nat)
 | _,0=>[]
 | i,n+1=>(.v (d-1-i),d)::nvs d (i+1) n
abbrev zs4:List PV:=[.int 0,.int 0,.nils,.nils]
abbrev s71 (c a i v:Nat) (A:List (List PV)):IS:=st [(4,.loc 0 0),(5,.loc 1 0),(11,.pv (num a)),(12,.pv (num i))] [(0,bx zs4),(1,.box [.pv (num c),.pv (num 0),.arr 2 v A.length,.pv .nils]),(2,.arr v 6 187 (pvE A))] 3 []
abbrev k71:Kp:=⟨[4,5,11,12],[0,1,2],3,[]⟩
theorem zJ7 (c a:Nat) (hc:c≤mid) (ha:a≤c):∀ (r i v:Nat) (A:List (List PV)),i+r=a→A.length=i →
  ∃ v',Lp 71 0 0 (s71 c a i v A) (.exit 0) (st [(4,.loc 0 0),(5,.loc 1 0)] [(0,bx zs4),(1,.box [.pv (num c),.pv (num 0),.arr 2 v' (A.length+r),.pv .nils]),(2,.arr v' 6 187 (pvE (A++(nvs c i r).map ec)))] 3 [])
 | 0,i,v,A,h,hA=>by
  have e:ltI (.ofNat i) (.ofNat a)=false:=qZv (by omega)
  simp only [nvs,List.map_nil,List.append_nil,Nat.add_zero]
  exact⟨v,y1 [(13,.H)] ⟨[4,5],[0,1,2],3,[]⟩ e (qQn A)⟩
 | r+1,i,v,A,h,hA=>by
  have hm:=qQc
  have hb:=qQh
  have e:ltI (.ofNat i) (.ofNat a)=true:=qQy (by omega)
  have g1:=qVm (a:=c) (by omega) (by omega)
  have g2:inB (Int.ofNat (c-1) - .ofNat i)=true∧Int.ofNat (c-1) - .ofNat i = .ofNat (c-1-i):=by
   have e:Int.ofNat (c-1) - .ofNat i = .ofNat (c-1-i):=by simp;omega
   exact⟨by rw [e];exact inN (by omega),e⟩
  have g5:=qEv (A:=A) (v:=v) (ty:=187) (m:=80) (c:=ec (.v (c-1-i),c)) (show 0<6 by decide) rfl rfl (by simp only [maxLen];omega) (by omega)
  have g6:=qQ9 (a:=i) (b:=1) (by omega)
  obtain⟨v',ih⟩:=zJ7 c a hc ha r (i+1) (v+1) (A++[ec (.v (c-1-i),c)]) (by omega) (by simp [hA])
  dsimp only [s71] at ih
  rw [qZy,show (A++[ec (.v (c-1-i),c)]).length=A.length+1 by simp,show A.length+1+r=A.length+(r+1) by omega,List.append_assoc] at ih
  exact⟨v',n8 [(13,.G),(19,.z (c-1)),(21,.z (c-1-i)),(22,.r (Tm.v (c-1-i)).p),(27,.ok),(29,.z (i+1))] k71 e g1 g2 (a74 (c-1-i)) g5 g6 (qQq A (ec (.v (c-1-i),c))) ih⟩
abbrev qG3 (a b:Nat):Sc:=⟨a+b,0,nvs (a+b) 0 a,[]⟩
theorem qE6 (d:Nat):∀ (n i:Nat),(nvs d i n).length=n
 | 0,_=>rfl
 | n+1,i=>by simp [nvs,qE6 d n]
theorem a71 (a b:Nat) (h:a+b≤mid):A 71 [num a,num b] (qG3 a b).p:=by
 have hm:=qQc
 have hb:=qQh
 have g0:=qQ9 (a:=a) (b:=b) (by omega)
 cases a with
 | zero =>
  have h1:Lp 71 0 0 (st [(4,.loc 0 0),(5,.loc 1 0),(11,.pv (num 0)),(12,.pv (num 0))] [(0,bx zs4),(1,bx [num (0+b),num 0,.nils,.nils])] 2 []) (.exit 0) (st [(4,.loc 0 0),(5,.loc 1 0)] [(0,bx zs4),(1,bx [num (0+b),num 0,.nils,.nils])] 2 []) :=
   x0 [] ⟨[4,5],[0,1],2,[]⟩
  exact f2 [(9,.z (0+b)),(100003,.l ⟨[4,5,11,12],[0,1],2,[]⟩ (.exit 0) (st [(4,.loc 0 0),(5,.loc 1 0)] [(0,bx zs4),(1,bx [num (0+b),num 0,.nils,.nils])] 2 []))] g0 h1
 | succ a =>
  generalize hc:a+1+b=c at *
  obtain⟨v,h1⟩:=zJ7 c (a+1) (by omega) (by omega) a 1 1 [ec (.v (c-1-0),c)] (by omega) rfl
  have em : [ec (.v (c-1-0),c)]++(nvs c 1 a).map ec=(nvs c 0 (a+1)).map ec:=rfl
  rw [em] at h1
  have h2:=LoopIs.fz (by simp) h1 2 (ver:=v) (sz:=6) (ty:=187) (ps:=(nvs c 0 (a+1)).map ec) rfl (by kernel_rfl)
  have el:(([ec (.v (c-1-0),c)]:List (List PV)).length+a)=a+1:=by simp;omega
  rw [el] at h2
  simp (decide:=true) only [fzS,fzO,qY0,qJb,qY8,bx,zs4,List.map,qC3,and_self,↓reduceIte,List.take_of_length_le (show ((nvs c 0 (a+1)).map ec).length≤a+1 by simp [qE6])] at h2
  have e:ltI (.ofNat 0) (.ofNat (a+1))=true:=qQy (by omega)
  have g1:=qVm (a:=c) (by omega) (by omega)
  have g2:inB (Int.ofNat (c-1) - .ofNat 0)=true∧Int.ofNat (c-1) - .ofNat 0 = .ofNat (c-1-0):=by
   have e:Int.ofNat (c-1) - .ofNat 0 = .ofNat (c-1-0):=by simp
   exact⟨by rw [e];exact inN (by omega),e⟩
  have h3:Lp 71 0 0 (st [(4,.loc 0 0),(5,.loc 1 0),(11,.pv (num (a+1))),(12,.pv (num 0))] [(0,bx zs4),(1,bx [num c,num 0,.nils,.nils])] 2 []) (.exit 0) (st [(4,.loc 0 0),(5,.loc 1 0)] [(0,bx zs4),(1,bx [num c,num 0,.slice ((nvs c 0 (a+1)).map ec),.nils])] 3 []) :=
   n6 [(13,.G),(19,.z (c-1)),(21,.z (c-1-0)),(22,.r (Tm.v (c-1-0)).p)] k71 e g1 g2 (a74 (c-1-0)) (qQq [] (ec (.v (c-1-0),c))) h2
  exact f2 [(9,.z c),(100003,.l ⟨[4,5,11,12],[0,1],2,[]⟩ (.exit 0) (st [(4,.loc 0 0),(5,.loc 1 0)] [(0,bx zs4),(1,bx [num c,num 0,.slice ((nvs c 0 (a+1)).map ec),.nils])] 3 []))] g0 h3
def qZs:List Fm→Nat
 | []=>0
 | f::r=>qE1 f.has+qZs r
abbrev qYr (f:Fm):List PV:=[.bool f.has]
theorem qMf (f:Fm):(qYr f).length=1:=rfl
abbrev zC7:Kp:=⟨[1,2,3,4,13,14,15],[0,1,3],4,[]⟩
theorem qIr (g:List Ty) {hs:List Fm} (hl:hs.length≤mid) {n:Nat} (hn:n≤lim):∀ (r:List Fm) (k l v:Nat) (A:List (List PV)),hs.drop k=r→A.length=k→l≤k→(∀ f∈r,FK n f) →
  ∃ v',Lp 25 0 0 (st [(1,.loc 0 0),(2,.loc 1 0),(3,.arr 3 v A.length),(4,.pv (num l)),(13,.pv (fms hs)),(14,.pv (num (hs.map Fm.c).length)),(15,.pv (num k))] [(0,bx [tys g,fms hs]),(1,bx zs4),(3,.arr v 1 4 (pvE A))] 4 []) (.exit 0)
   (st [(1,.loc 0 0),(2,.loc 1 0),(3,.arr 3 v' (A.length+r.length)),(4,.pv (num (l+qZs r)))] [(0,bx [tys g,fms hs]),(1,bx zs4),(3,.arr v' 1 4 (pvE (A++r.map qYr)))] 4 [])
 | [],k,l,v,A,h,hA,hlk,hr=>by
  have e:ltI (.ofNat k) (.ofNat (hs.map Fm.c).length)=false:=qZv (by simpa using qZp h)
  simp only [List.map_nil,List.append_nil,List.length_nil,Nat.add_zero,qZs]
  exact⟨v,y1 [(16,.H)] ⟨[1,2,3,4],[0,1,3],4,[]⟩ e (qQn A)⟩
 | f::r,k,l,v,A,h,hA,hlk,hr=>by
  have hm:=qQc
  have hb:=qQh
  obtain⟨d1,d2,d3⟩:=qZo h
  have e:ltI (.ofNat k) (.ofNat (hs.map Fm.c).length)=true:=qQy (by simpa using d2)
  have g1:=(hr f (by simp)).a70 hn
  have g2:=qEv (A:=A) (v:=v) (ty:=4) (m:=1) (c:=qYr f) (show 0<1 by decide) rfl rfl (by simp only [maxLen];omega) (by omega)
  have g3:=qQ9 (a:=l) (b:=1) (by omega)
  have g4:=qQ9 (a:=k) (b:=1) (by omega)
  have el:(A++[qYr f]).length=A.length+1:=by simp
  cases hf:f.has
  ·obtain⟨v',ih⟩:=qIr g hl hn r (k+1) l (v+1) (A++[qYr f]) d3 (by simp [hA]) (by omega) (fun x hx=>hr x (by simp [hx]))
   rw [qZy,el,show A.length+1+r.length=A.length+(f::r).length by simp;omega,List.append_assoc] at ih
   have ec:qZs (f::r)=qZs r:=by simp only [qZs,hf,qE1];omega
   rw [ec]
   exact⟨v',n8 [(16,.G),(17,.i f.c),(21,.U [.bool f.has,num 0]),(27,.ok),(28,.H),(31,.z (k+1))] zC7 e (qQi d1 Fm.c_len) g1 g2 hf g4 (qQq A (qYr f)) ih⟩
  ·obtain⟨v',ih⟩:=qIr g hl hn r (k+1) (l+1) (v+1) (A++[qYr f]) d3 (by simp [hA]) (by omega) (fun x hx=>hr x (by simp [hx]))
   rw [qZy,el,show A.length+1+r.length=A.length+(f::r).length by simp;omega,List.append_assoc] at ih
   have ec:l+qZs (f::r)=l+1+qZs r:=by simp only [qZs,hf,qE1];omega
   rw [ec]
   exact⟨v',n9 [(16,.G),(17,.i f.c),(21,.U [.bool f.has,num 0]),(27,.ok),(28,.G),(30,.z (l+1)),(31,.z (k+1))] zC7 e (qQi d1 Fm.c_len) g1 g2 hf g3 g4 (qQq A (qYr f)) ih⟩
def stL:List Fm→Nat→Sc→Sc
 | [],_,s=>s
 | f::r,l,s=>match f.has with
  | true=>stL r (l-1) (s.hyp (.v (l-1)))
  | false=>stL r l s.bare
abbrev Sc.cs (s:Sc):List PV:=[num s.dep,num s.hyps,.slice (s.vs.map ec),.slice (s.ks.map Hy.c)]
theorem qIs {hs:List Fm} (hl:hs.length≤mid):∀ (r:List Fm) (k l:Nat) (s:Sc),hs.drop k=r→l=qZs r→s.ks.length≤k→s.hyps≤k →
  Lp 25 1 0 (st [(2,.loc 1 0),(4,.pv (num l)),(9,.loc 4 0),(37,.pv (.slice (hs.map qYr))),(38,.pv (num (hs.map qYr).length)),(39,.pv (num k))] [(1,bx zs4),(4,bx s.cs)] 5 []) (.exit 2) (st [(2,.loc 1 0),(9,.loc 4 0)] [(1,bx zs4),(4,bx (stL r l s).cs)] 5 [])
 | [],k,l,s,h,hc,h1,h2=>by
  have e:ltI (.ofNat k) (.ofNat (hs.map qYr).length)=false:=qZv (by simpa using qZp h)
  exact x1 [(40,.H)] ⟨[2,9],[1,4],5,[]⟩ e
 | f::r,k,l,s,h,hc,h1,h2=>by
  have hm:=qQc
  have hb:=qQh
  obtain⟨d1,d2,d3⟩:=qZo h
  have e:ltI (.ofNat k) (.ofNat (hs.map qYr).length)=true:=qQy (by simpa using d2)
  have g4:=qQ9 (a:=k) (b:=1) (by omega)
  have hcl:qZs (f::r)≤mid:=by
   have:∀ r:List Fm,qZs r≤r.length:=by
    intro r
    induction r with
    | nil=>exact Nat.le_refl _
    | cons x r ih=>simp only [qZs,List.length_cons];cases x.has<;>simp only [qE1]<;>omega
   have h3:=this (f::r)
   have h4:(f::r).length≤hs.length:=by rw [← h];simp
   omega
  cases hf:f.has
  ·have ec:l=qZs r:=by rw [hc];simp only [qZs,hf,qE1];omega
   have es:stL (f::r) l s=stL r l s.bare:=by simp only [stL,hf]
   rw [es]
   have ih:=qIs hl r (k+1) l s.bare d3 ec (by simp [Sc.bare];omega) (by show s.hyps+1≤k+1;omega)
   exact n6 [(40,.G),(41,.i (qYr f)),(44,.G),(46,.r s.bare.p),(53,.z (k+1))] ⟨[2,4,9,37,38,39],[1,4],5,[]⟩ e (qQi d1 qMf) (show (!f.has)=true by rw [hf];rfl) (a72 s (by omega) (by omega)) g4 ih
  ·have ec:l=qZs r+1:=by rw [hc];simp only [qZs,hf,qE1];omega
   have es:stL (f::r) l s=stL r (l-1) (s.hyp (.v (l-1))):=by simp only [stL,hf]
   rw [es]
   have ih:=qIs hl r (k+1) (l-1) (s.hyp (.v (l-1))) d3 (by omega) (by simp [Sc.hyp];omega) (by show s.hyps+1≤k+1;omega)
   have g1:=qVm (a:=l) (by omega) (by omega)
   exact n8 [(40,.G),(41,.i (qYr f)),(44,.H),(48,.z (l-1)),(51,.r (Tm.v (l-1)).p),(52,.r (s.hyp (.v (l-1))).p),(53,.z (k+1))] ⟨[2,4,9,37,38,39],[1,4],5,[]⟩ e (qQi d1 qMf) (show (!f.has)=false by rw [hf];rfl) g1 (a74 (l-1)) (a73 s (.v (l-1)) (by omega) (by omega)) g4 ih
abbrev stS (g:List Ty) (hs:List Fm):Sc:=stL hs (qZs hs) (qG3 g.length (qZs hs))
theorem qE7:∀ r:List Fm,qZs r≤r.length
 | []=>Nat.le_refl _
 | x::r=>by have:=qE7 r;simp only [qZs,List.length_cons];cases x.has<;>simp only [qE1]<;>omega
theorem a25 (g:List Ty) (hs:List Fm) {n:Nat} (hn:n≤lim) (hh:∀ f∈hs,FK n f) (hg:g.length≤16) (hl:hs.length≤16):A 25 [qJs g hs] (stS g hs).p:=by
 have hm:=qQc
 have hb:=qQh
 have hc:=qE7 hs
 have g1:=a71 (g.map Ty.c).length (qZs hs) (by simp;omega)
 rw [show qG3 (g.map Ty.c).length (qZs hs)=qG3 g.length (qZs hs) by simp] at g1
 cases hs with
 | nil=>exact f1 [(36,.r (qG3 g.length (qZs [])).p)] g1
 | cons f r =>
  have hl:r.length+1≤16:=by simpa using hl
  generalize hL:qZs (f::r)=L at *
  have e:ltI (.ofNat 0) (.ofNat ((f::r).map Fm.c).length)=true:=qQy (by simp)
  have g2:=(hh f (by simp)).a70 hn
  have g3:=qQ9 (a:=0) (b:=1) (by omega)
  have key:∃ l0,l0≤1∧l0+qZs r=L ∧ ∀ (sl':IS),Lp 25 0 0 (st [(1,.loc 0 0),(2,.loc 1 0),(3,.arr 3 1 1),(4,.pv (num l0)),(13,.pv (fms (f::r))),(14,.pv (num ((f::r).map Fm.c).length)),(15,.pv (num 1))] [(0,bx [tys g,fms (f::r)]),(1,bx zs4),(3,.arr 1 1 4 (pvE [qYr f]))] 4 []) (.exit 0) sl' →
    Lp 25 0 0 (st [(1,.loc 0 0),(2,.loc 1 0),(3,.pv .nils),(4,.pv (num 0)),(13,.pv (fms (f::r))),(14,.pv (num ((f::r).map Fm.c).length)),(15,.pv (num 0))] [(0,bx [tys g,fms (f::r)]),(1,bx zs4)] 2 []) (.exit 0) sl':=by
   cases hf:f.has
   ·refine⟨0,by omega,by rw [← hL];simp only [qZs,hf,qE1],fun sl' ih => ?_⟩
    exact n6 [(16,.G),(17,.i f.c),(21,.U [.bool f.has,num 0]),(28,.H)] zC7 e (qQi (g:=f::r) (k:=0) rfl Fm.c_len) g2 hf (qQq [] (qYr f)) ih
   ·refine⟨1,by omega,by rw [← hL];simp only [qZs,hf,qE1],fun sl' ih => ?_⟩
    exact n6 [(16,.G),(17,.i f.c),(21,.U [.bool f.has,num 0]),(28,.G)] zC7 e (qQi (g:=f::r) (k:=0) rfl Fm.c_len) g2 hf (qQq [] (qYr f)) ih
  obtain⟨l0,q1,q2,q3⟩:=key
  obtain⟨v,h1⟩:=qIr g (hs:=f::r) (by simp;omega) hn r 1 l0 1 [qYr f] rfl rfl q1 (fun x hx=>hh x (by simp [hx]))
  rw [q2,show [qYr f]++r.map qYr=(f::r).map qYr from rfl] at h1
  have h2:=LoopIs.fz (by simp) h1 3 (ver:=v) (sz:=1) (ty:=4) (ps:=(f::r).map qYr) rfl (by kernel_rfl)
  simp (decide:=true) only [fzS,fzO,qY0,qJb,qY8,bx,zs4,List.map,qC3,and_self,↓reduceIte,List.take_of_length_le (show (qYr f::r.map qYr).length≤[qYr f].length+r.length by simp;omega)] at h2
  have h3:=q3 _ h2
  have h4:=qIs (hs:=f::r) (by simp;omega) (f::r) 0 L (qG3 g.length L) rfl hL.symm (Nat.le_refl _) (Nat.le_refl _)
  exact f3 [(100004,.l ⟨[1,2,3,4,13,14,15],[0,1],2,[]⟩ (.exit 0) (st [(1,.loc 0 0),(2,.loc 1 0),(3,.pv (.slice ((f::r).map qYr))),(4,.pv (num L))] [(0,bx [tys g,fms (f::r)]),(1,bx zs4)] 4 [])),(36,.r (qG3 g.length L).p),(100013,.l ⟨[2,4,9,37,38,39],[1,4],5,[]⟩ (.exit 2) (st [(2,.loc 1 0),(9,.loc 4 0)] [(1,bx zs4),(4,bx (stL (f::r) L (qG3 g.length L)).cs)] 5 []))] h3 g1 h4
open Go.Lg
set_option maxRecDepth 100000
section
variable {f i bs:Nat} {s s':IS} {e:AE}
theorem x6 (tp:Di) (ko:Kp) {H1 H2 H3 H4 H5 H6:Prop} (h1:H1) (h2:H2) (h3:H3) (h4:H4) (h5:H5) (h6:H6) (q:(H1∧H2∧H3∧H4∧H5∧H6∧e=e∧s'=s')=Rd f i bs s tp ko ko e s':=by kernel_rfl):Lp f i bs s e s':=rk tp ko ko ⟨h1,h2,h3,h4,h5,h6,rfl,rfl⟩ q
end
theorem qR8 {n:Nat} : ∀ (r:List Fm) (l:Nat) (s:Sc) (bs:List Bool),ScOK n bs s→l=qZs r→l≤s.dep→ScOK n (bs++r.map Fm.has) (stL r l s)
 | [],l,s,bs,h,_,_=>by simpa [stL] using h
 | f::r,l,s,bs,h,hl,hd=>by
  rw [show bs++(f::r).map Fm.has=(bs++[f.has])++r.map Fm.has by simp]
  cases hf:f.has
  ·have ec:l=qZs r:=by rw [hl];simp only [qZs,hf,qE1];omega
   have es:stL (f::r) l s=stL r l s.bare:=by simp only [stL,hf]
   rw [es]
   exact qR8 r l s.bare _ h.bare ec hd
  ·have ec:l=qZs r+1:=by rw [hl];simp only [qZs,hf,qE1];omega
   have es:stL (f::r) l s=stL r (l-1) (s.hyp (.v (l-1))):=by simp only [stL,hf]
   rw [es]
   exact qR8 r (l-1) _ _ (h.hyp (TKv (by omega)) true) (by omega) (by show l-1≤s.dep;omega)
theorem qIt:∀ (r:List Fm) (l:Nat) (s:Sc),(stL r l s).dep=s.dep
 | [],_,_=>rfl
 | f::r,l,s=>by
  simp only [stL]
  cases f.has
  ·exact qIt r l s.bare
  ·exact qIt r (l-1) (s.hyp (.v (l-1)))
theorem qE8:∀ (r:List Fm) (l:Nat) (s:Sc),(stL r l s).hyps=s.hyps+r.length
 | [],_,_=>rfl
 | f::r,l,s=>by
  simp only [stL,List.length_cons]
  cases f.has
  ·have:=qE8 r l s.bare
   simp only [Sc.bare] at this ⊢
   omega
  ·have:=qE8 r (l-1) (s.hyp (.v (l-1)))
   simp only [Sc.hyp] at this ⊢
   omega
theorem zKx {R U:Nat→Prop} : ∀ (r:List Fm) (l L:Nat) (s:Sc),ScR R U s→l=qZs r→l≤L→L≤s.dep→(∀ x,s.dep-L≤x→x<s.dep→R x)→ScR R U (stL r l s)
 | [],_,_,_,h,_,_,_,_=>h
 | f::r,l,L,s,h,hc,hl,hL,hR=>by
  cases hf:f.has
  ·have ec:l=qZs r:=by rw [hc];simp only [qZs,hf,qE1];omega
   simp only [stL,hf]
   exact zKx r l L s.bare h.bare ec hl hL hR
  ·have ec:l=qZs r+1:=by rw [hc];simp only [qZs,hf,qE1];omega
   simp only [stL,hf]
   exact zKx r (l-1) L _ (h.hyp (zE6 fun hd=>hR _ (by omega) (by omega))) (by omega) (by omega) hL hR
theorem qR9 (d:Nat):∀ (n i k:Nat),k<n→(nvs d i n)[k]? = some (.v (d-1-(i+k)),d)
 | 0,_,_,h=>absurd h (Nat.not_lt_zero _)
 | n+1,i,0,_=>rfl
 | n+1,i,k+1,h=>by
  have:=qR9 d n (i+1) k (by omega)
  simp only [nvs,List.getElem?_cons_succ]
  rw [this,show i+1+k=i+(k+1) by omega]
theorem qSa (d:Nat):∀ (n i:Nat) (e:Tm × Nat),e∈nvs d i n→∃ k,e=(.v (d-1-k),d)
 | 0,_,_,h=>by cases h
 | n+1,i,e,h=>by
  rcases List.mem_cons.1 h with rfl|h
  ·exact⟨i,rfl⟩
  ·exact qSa d n (i+1) e h
theorem qSb (a b:Nat):ScOK a [] (qG3 a b):=by
 refine⟨qE6 _ _ _,rfl,fun e he => ?_,(fun h hh=>by cases hh),fun i hi=>by simp at hi⟩
 cases a with
 | zero=>cases he
 | succ a =>
  obtain⟨k,rfl⟩:=qSa _ _ _ _ he
  exact⟨Nat.le_refl _,TKv (by omega)⟩
theorem zBj (a b:Nat) {U:Nat→Prop} : ScR (fun l=>a≤l ∨ ∃ v,U v∧l+v+1=a) U (qG3 a b):=by
 refine⟨fun v e he hu => ?_,fun h hh=>by cases hh⟩
 unfold ent at he
 rw [qE6] at he
 split at he
 ·rename_i hv
  rw [qR9 _ _ _ _ (by omega)] at he
  cases he
  refine zE6 fun hd => .inr ⟨v,hu,?_⟩
  simp only at hd ⊢
  omega
 ·cases he
theorem a36 (a b:Ty):A 36 [a.p,b.p] (.bool (a.same b)):=f1 [(7,.r (.bool (a.same b)))] (a96 a b)
abbrev zC8:Kp:=⟨[1,15,16,17],[],0,[]⟩
theorem zJ8 {ls:List Fm} {tl:List Tm} (hl:ls.length≤mid) (he:ls.length=tl.length) (hF:∀ f∈ls,FK 0 f) (hT:∀ t∈tl,t.tsz≤mid∧t.cnt≤mid):∀ (r:List Fm) (k:Nat),ls.drop k=r →
  (Lp 15 0 0 (st [(1,.pv (row tl)),(15,.pv (fms ls)),(16,.pv (num (ls.map Fm.c).length)),(17,.pv (num k))] [] 0 []) (.exit 0) (st [] [] 0 []) ∧ ∀ t∈tl.drop k,TK 0 t) ∨
  ∃ e,Lp 15 0 0 (st [(1,.pv (row tl)),(15,.pv (fms ls)),(16,.pv (num (ls.map Fm.c).length)),(17,.pv (num k))] [] 0 []) .ret (st [(4,.pv (num (e+1)))] [] 0 [])
 | [],k,h=>by
  refine .inl ⟨x1 [(18,.H)] (kp []) (show ltI (.ofNat k) (.ofNat (ls.map Fm.c).length)=false from qZv (by simpa using qZp h)),fun t ht => ?_⟩
  rw [List.drop_of_length_le (by have:=qZp h;omega)] at ht
  cases ht
 | f::r,k,h=>by
  have hm:=qQc
  have hb:=qQh
  obtain⟨d1,d2,d3⟩:=qZo h
  have e:ltI (.ofNat k) (.ofNat (ls.map Fm.c).length)=true:=qQy (by simpa using d2)
  obtain⟨T,g1,_⟩:=(hF f (List.mem_of_getElem? d1)).a34
  obtain⟨t,ht⟩:∃ t,tl[k]? = some t:=⟨_,List.getElem?_eq_getElem (by omega)⟩
  have hm:=hT t (List.mem_of_getElem? ht)
  obtain⟨T2,g2,_,q2⟩:=a35 [] t (fun s h=>by cases h) hm.1 hm.2 (Nat.zero_le _)
  cases T with
  | er n=>exact .inr ⟨n,x3 [(18,.G),(20,.i f.c),(24,.r (TR.er n).p)] (kp [4]) e (qQi d1 Fm.c_len) g1⟩
  | ok s=>cases T2 with
   | er n=>exact .inr ⟨n,x5 [(18,.G),(20,.i f.c),(24,.r (TR.ok s).p),(33,.i t.c),(35,.r (TR.er n).p)] (kp [4]) e (qQi d1 Fm.c_len) g1 (qQi ht Tm.c_len) g2⟩
   | ok u =>
    have g3:=a36 u s
    cases es:u.same s<;>rw [es] at g3
    ·exact .inr ⟨6,x6 [(18,.G),(20,.i f.c),(24,.r (TR.ok s).p),(33,.i t.c),(35,.r (TR.ok u).p),(43,.F)] (kp [4]) e (qQi d1 Fm.c_len) g1 (qQi ht Tm.c_len) g2 g3⟩
    ·have g4:=qQ9 (a:=k) (b:=1) (by omega)
     have hk:TK 0 t:=by
      obtain⟨c1,c2⟩:=q2 u rfl
      obtain⟨c3,c4⟩:=Tm.chk0 c1
      exact⟨c3,c4,c2⟩
     rcases zJ8 hl he hF hT r (k+1) d3 with ⟨ih,q⟩|⟨n,ih⟩
     ·refine .inl ⟨n8 [(18,.G),(20,.i f.c),(24,.r (TR.ok s).p),(33,.i t.c),(35,.r (TR.ok u).p),(43,.T),(45,.z (k+1))] zC8 e (qQi d1 Fm.c_len) g1 (qQi ht Tm.c_len) g2 g3 g4 ih,fun x hx => ?_⟩
      have hd:tl.drop k=t::tl.drop (k+1):=by
       obtain⟨hlt,hge⟩:=List.getElem?_eq_some_iff.1 ht
       rw [List.drop_eq_getElem_cons hlt,hge]
      rw [hd] at hx
      rcases List.mem_cons.1 hx with rfl|hx
      ·exact hk
      ·exact q x hx
     ·exact .inr ⟨n,n8 [(18,.G),(20,.i f.c),(24,.r (TR.ok s).p),(33,.i t.c),(35,.r (TR.ok u).p),(43,.T),(45,.z (k+1))] zC8 e (qQi d1 Fm.c_len) g1 (qQi ht Tm.c_len) g2 g3 g4 ih⟩
theorem a15 (ls:List Fm) (tl:List Tm) (hl:ls.length≤mid) (hF:∀ f∈ls,FK 0 f) (hT:∀ t∈tl,t.tsz≤mid∧t.cnt≤mid):∃ e,A 15 [fms ls,row tl] (num e)∧(e=0→ls.length=tl.length ∧ ∀ t∈tl,TK 0 t):=by
 by_cases h:ls.length=tl.length
 ·have e:(!eqI (.ofNat (ls.map Fm.c).length) (.ofNat (tl.map Tm.c).length))=false:=qJc (by simpa using h)
  rcases zJ8 hl h hF hT ls 0 rfl with ⟨g,q⟩|⟨n,g⟩
  ·exact⟨0,f2 [(14,.H),(100004,.l zC8 (.exit 0) (st [] [] 0 []))] e g,fun _=>⟨h,q⟩⟩
  ·exact⟨n+1,f2 [(14,.H),(100004,.l zC8 .ret (st [(4,.pv (num (n+1)))] [] 0 []))] e g,nofun⟩
 ·have e:(!eqI (.ofNat (ls.map Fm.c).length) (.ofNat (tl.map Tm.c).length))=true:=qX4 (by simpa using h)
  exact⟨9,f1 [(14,.G)] e,nofun⟩
theorem a23 (ls:List Fm) (g:List Ty) (hs:List Fm) (p:Pf) (hl1:∀ f∈ls,f.cnt≤mid∧f.tsz≤mid) (hl2:∀ f∈hs,f.cnt≤mid∧f.tsz≤mid) (hg:∀ s∈g,s.size≤mid) (hgl:g.length≤mid) (h1:ls.length≤mid) (h2:hs.length≤mid) (hp:p.cnt≤16384) (hp':p.tsz≤big) :
  (∃ e,A 23 [fms ls,qJs g hs,p.p] (.tuple [.nil,num (e+1)])) ∨ ∃ j:Jt,A 23 [fms ls,qJs g hs,p.p] (.tuple [j.ptr hs,num 0])∧SQ ls g hs∧j.p=p∧j.OK ls g.length hs:=by
 have hm:=qQc
 have hb:=qQh
 obtain⟨y,L,e,g1,q1⟩:=a67 ls g hs p hl1 hl2 hg hgl h1 h2 (by omega) hp'
 cases e with
 | succ e=>exact .inl ⟨e,f1 [(14,.U [.agg [num y.k,num y.tk,.slice y.te,.slice y.ts,.slice y.es,qQl L],num (e+1)])] g1⟩
 | zero =>
  obtain⟨hq,j,rfl,_,h3⟩:=q1 rfl
  have c1:=hq.gl
  have c2:=hq.hl
  have g2:=a68 (ls:=ls) j g.length hs hq.hs (by omega) (by omega) h3
  exact .inr ⟨j,f2 [(14,.U [.agg [num y.k,num y.tk,.slice y.te,.slice y.ts,.slice y.es,qQl L],num 0]),(24,.r (j.ptr hs))] g1 g2,hq,rfl,h3⟩
theorem a10 (ls:List Fm) (tl:List Tm) (g:List Ty) (hs:List Fm) (p:Pf) (hl1:∀ f∈ls,f.cnt≤mid∧f.tsz≤mid) (hl2:∀ f∈hs,f.cnt≤mid∧f.tsz≤mid) (hT:∀ t∈tl,t.tsz≤mid∧t.cnt≤mid) (hg:∀ s∈g,s.size≤mid) (hgl:g.length≤mid) (h1:ls.length≤mid) (h2:hs.length≤mid) (hp:p.cnt≤16384) (hp':p.tsz≤big) :
  ∃ r:XR,A 10 [fms ls,row tl,qJs g hs,p.p] r.p ∧ ∀ t,r = .ok t→∃ j:Jt,j.p=p∧j.OK ls g.length hs∧SQ ls g hs∧TK (g.length+qZs hs) t ∧ ∀ v,t.occ v≠0→v<qZs hs∨j.us (v-qZs hs):=by
 have hm:=qQc
 have hb:=qQh
 have hlm:lim=100000:=rfl
 rcases a23 ls g hs p hl1 hl2 hg hgl h1 h2 hp hp' with ⟨e,g1⟩|⟨j,g1,hq,rfl,hj⟩
 ·exact⟨.er .z e,f1 [(17,.U [.nil,num (e+1)])] g1,fun t h=>by cases h⟩
 ·have c1:=hq.gl
  have c2:=hq.hl
  obtain⟨e,g2,q2⟩:=a15 ls tl h1 hq.ls hT
  cases e with
  | succ e=>exact⟨.er .z e,f2 [(17,.U [j.ptr hs,num 0]),(26,.N (e+1))] g1 g2,fun t h=>by cases h⟩
  | zero =>
   obtain⟨q3,q4⟩:=q2 rfl
   cases hf:j.f.has
   ·exact⟨.er .z 39,f3 [(17,.U [j.ptr hs,num 0]),(26,.N 0),(34,.H)] g1 g2 hf,fun t h=>by cases h⟩
   ·have g3:=a25 g hs (n:=g.length) (by omega) hq.hs c1 c2
    have hc:=qE7 hs
    have hd:(stS g hs).dep=g.length+qZs hs:=qIt _ _ _
    have hh:(stS g hs).hyps=0+hs.length:=qE8 _ _ _
    have hS:ScOK g.length (hs.map Fm.has) (stS g hs):=by
     have:=qR8 hs (qZs hs) _ _ (qSb g.length (qZs hs)) rfl (by show qZs hs≤g.length+qZs hs;omega)
     simpa using this
    obtain⟨r,g4,q5⟩:=a69 (ls:=ls) (tl:=tl) (fun i f h=>by
     obtain⟨t,ht⟩:∃ t,tl[i]? = some t:=⟨_,List.getElem?_eq_getElem (by rw [← q3];exact (List.getElem?_eq_some_iff.1 h).1)⟩
     exact⟨t,ht,q4 t (List.mem_of_getElem? ht)⟩) j g.length hs (stS g hs) hj hf hS (by omega) (by omega) (by omega) (by omega)
    have g5:A 24 [row tl,j.ptr hs,(stS g hs).p] r.p:=f1 [(12,.r r.p)] g4
    refine⟨r,f5 [(17,.U [j.ptr hs,num 0]),(26,.N 0),(34,.G),(40,.r (stS g hs).p),(41,.r r.p)] g1 g2 hf g3 g5,fun t h=>⟨j,rfl,hj,hq,?_⟩⟩
    subst h
    obtain⟨k1,k2⟩:=q5
    rw [hd] at k1 k2
    refine⟨k1,fun v hv => ?_⟩
    have hR:ScR (fun l=>g.length≤l ∨ ∃ v,j.us v∧l+v+1=g.length) j.us (stS g hs):=zKx hs (qZs hs) (qZs hs) _ (zBj g.length (qZs hs)) rfl (Nat.le_refl _) (by show qZs hs≤g.length+qZs hs;omega) fun x hx _ => .inl (by have:g.length+qZs hs-qZs hs≤x:=hx;omega)
    have hlt:v<g.length+qZs hs:=by
     refine Classical.byContradiction fun hn=>hv (qWu t v ?_)
     have:=(qXo t _).1 k1.sc
     omega
    rcases k2 _ hR v hv hlt with h|⟨w,h1,h2⟩
    ·left;omega
    ·right
     rwa [show v-qZs hs=w by omega]
abbrev zHh (ls hs:List Fm) (g:List Ty) (k:Nat):IS:=st [(3,.loc 0 0),(15,.pv (fms ls)),(16,.pv (num (ls.map Fm.c).length)),(17,.pv (num k))] [(0,bx [tys g,fms hs])] 1 []
abbrev zBk (hs:List Fm) (g:List Ty):IS:=st [(3,.loc 0 0)] [(0,bx [tys g,fms hs])] 1 []
theorem qSc (hs:List Fm) (g:List Ty) {ls:List Fm} (hl:ls.length≤mid):∀ (r:List Fm) (k:Nat),ls.drop k=r→(∀ f∈r,f.cnt+1024≤mid∧f.tsz≤mid) →
  (Lp 61 0 0 (zHh ls hs g k) (.exit 0) (zBk hs g) ∧ ∀ f∈r,f.chk=0) ∨ ∃ e,Lp 61 0 0 (zHh ls hs g k) .ret (st [(4,.pv (num (e+1)))] [] 1 [])
 | [],k,h,_ => .inl ⟨x1 [(18,.H)] ⟨[3],[0],1,[]⟩ (show ltI (.ofNat k) (.ofNat (ls.map Fm.c).length)=false from qZv (by simpa using qZp h)),fun f h=>by cases h⟩
 | f::r,k,h,hb=>by
  obtain⟨h1,h2,h3⟩:=qZo h
  have hm:=qQc
  have hlt:ltI (.ofNat k) (.ofNat (ls.map Fm.c).length)=true:=qQy (by simpa using h2)
  have hf:=hb f (by simp)
  obtain⟨e,g1,q1⟩:=zCl [] f (fun s h=>by cases h) hf.2 (by have:=hf.1;simp;omega)
  cases e with
  | succ e=>exact .inr ⟨e,x3 [(18,.G),(19,.i f.c),(22,.N (e+1))] ⟨[4],[],1,[]⟩ hlt (qQi h1 Fm.c_len) g1⟩
  | zero =>
   have q2:=q1 rfl
   rcases qSc hs g hl r (k+1) h3 (fun t ht=>hb t (by simp [ht])) with ⟨ih,q⟩|⟨e,ih⟩
   ·refine .inl ⟨n5 [(18,.G),(19,.i f.c),(22,.N 0),(26,.ok)] ⟨[3,15,16,17],[0],1,[]⟩ hlt (qQi h1 Fm.c_len) g1 (inN (show k+1≤_ by omega)) ih,fun x hx => ?_⟩
    rcases List.mem_cons.1 hx with rfl|hx
    ·exact q2
    ·exact q x hx
   ·exact .inr ⟨e,n5 [(18,.G),(19,.i f.c),(22,.N 0),(26,.ok)] ⟨[3,15,16,17],[0],1,[]⟩ hlt (qQi h1 Fm.c_len) g1 (inN (show k+1≤_ by omega)) ih⟩
abbrev zHi (hs:List Fm) (g:List Ty) (k:Nat):IS:=st [(3,.loc 0 0),(38,.pv (fms hs)),(39,.pv (num (hs.map Fm.c).length)),(40,.pv (num k))] [(0,bx [tys g,fms hs])] 1 []
theorem qSd (g:List Ty) (hg:∀ s∈g,s.size≤mid) (hgl:g.length≤1024) {hs:List Fm} (hl:hs.length≤mid):∀ (r:List Fm) (k:Nat),hs.drop k=r→(∀ f∈r,f.cnt+1024≤mid∧f.tsz≤mid) →
  (Lp 61 1 0 (zHi hs g k) (.exit 2) (st [] [] 1 []) ∧ ∀ f∈r,f.chk=0) ∨ ∃ e,Lp 61 1 0 (zHi hs g k) .ret (st [(4,.pv (num (e+1)))] [] 1 [])
 | [],k,h,_ => .inl ⟨x1 [(41,.H)] ⟨[],[],1,[]⟩ (show ltI (.ofNat k) (.ofNat (hs.map Fm.c).length)=false from qZv (by simpa using qZp h)),fun f h=>by cases h⟩
 | f::r,k,h,hb=>by
  obtain⟨h1,h2,h3⟩:=qZo h
  have hm:=qQc
  have hlt:ltI (.ofNat k) (.ofNat (hs.map Fm.c).length)=true:=qQy (by simpa using h2)
  have hf:=hb f (by simp)
  obtain⟨e,g1,q1⟩:=zCl g f hg hf.2 (by have:=hf.1;omega)
  cases e with
  | succ e=>exact .inr ⟨e,x3 [(41,.G),(42,.i f.c),(47,.N (e+1))] ⟨[4],[],1,[]⟩ hlt (qQi h1 Fm.c_len) g1⟩
  | zero =>
   have q2:=q1 rfl
   rcases qSd g hg hgl hl r (k+1) h3 (fun t ht=>hb t (by simp [ht])) with ⟨ih,q⟩|⟨e,ih⟩
   ·refine .inl ⟨n5 [(41,.G),(42,.i f.c),(47,.N 0),(51,.ok)] ⟨[3,38,39,40],[0],1,[]⟩ hlt (qQi h1 Fm.c_len) g1 (inN (show k+1≤_ by omega)) ih,fun x hx => ?_⟩
    rcases List.mem_cons.1 hx with rfl|hx
    ·exact q2
    ·exact q x hx
   ·exact .inr ⟨e,n5 [(41,.G),(42,.i f.c),(47,.N 0),(51,.ok)] ⟨[3,38,39,40],[0],1,[]⟩ hlt (qQi h1 Fm.c_len) g1 (inN (show k+1≤_ by omega)) ih⟩
structure SQ2 (ls:List Fm) (g:List Ty) (hs:List Fm):Prop where
 ls:∀ f∈ls,f.chk=0
 gl:g.length≤16
 gs:∀ s∈g,s.size≤64
 hl:hs.length≤16
 hs:∀ f∈hs,f.chk=0
theorem a61 (ls:List Fm) (g:List Ty) (hs:List Fm) (hl1:∀ f∈ls,f.cnt+1024≤mid∧f.tsz≤mid) (hl2:∀ f∈hs,f.cnt+1024≤mid∧f.tsz≤mid) (hg:∀ s∈g,s.size≤mid) (hgl:g.length≤1024) (h1:ls.length≤mid) (h2:hs.length≤mid):∃ e,A 61 [fms ls,qJs g hs] (num e)∧(e=0→SQ2 ls g hs):=by
 have hm:=qQc
 have hb:=qQh
 cases e0:ltI (.ofNat 32) (.ofNat (ls.map Fm.c).length)
 rotate_left
 ·exact⟨3,f1 [(14,.G)] e0,nofun⟩
 rcases qSc hs g h1 ls 0 rfl hl1 with ⟨g1,q1⟩|⟨e,g1⟩
 rotate_left
 ·exact⟨e+1,f2 [(14,.H),(100004,.l ⟨[3,15,16,17],[0],1,[]⟩ .ret (st [(4,.pv (num (e+1)))] [] 1 []))] e0 g1,nofun⟩
 have g2:=a29 g (fun s h=>by have:=hg s h;omega)
 cases e2:qNg g with
 | succ e =>
  rw [e2] at g2
  exact⟨e+1,f3 [(14,.H),(100004,.l ⟨[3,15,16,17],[0],1,[]⟩ (.exit 0) (zBk hs g)),(29,.N (e+1))] e0 g1 g2,nofun⟩
 | zero =>
  rw [e2] at g2
  obtain⟨c1,c2⟩:=qGp e2
  cases e3:ltI (.ofNat 16) (.ofNat (hs.map Fm.c).length)
  rotate_left
  ·exact⟨3,f4 [(14,.H),(100004,.l ⟨[3,15,16,17],[0],1,[]⟩ (.exit 0) (zBk hs g)),(29,.N 0),(36,.G)] e0 g1 g2 e3,nofun⟩
  have c3:hs.length≤16:=by
   rw [qQs] at e3
   simp at e3
   omega
  rcases qSd g hg hgl h2 hs 0 rfl hl2 with ⟨g4,q4⟩|⟨e,g4⟩
  ·exact⟨0,f5 [(14,.H),(100004,.l ⟨[3,15,16,17],[0],1,[]⟩ (.exit 0) (zBk hs g)),(29,.N 0),(36,.H),(100016,.l ⟨[3,38,39,40],[0],1,[]⟩ (.exit 2) (st [] [] 1 []))] e0 g1 g2 e3 g4,fun _=>⟨q1,c1,c2,c3,q4⟩⟩
  ·exact⟨e+1,f5 [(14,.H),(100004,.l ⟨[3,15,16,17],[0],1,[]⟩ (.exit 0) (zBk hs g)),(29,.N 0),(36,.H),(100016,.l ⟨[3,38,39,40],[0],1,[]⟩ .ret (st [(4,.pv (num (e+1)))] [] 1 []))] e0 g1 g2 e3 g4,nofun⟩
theorem zFb (p:Pf) (h:p.cnt≤big):∃ r,A 107 [p.p] (.bool r)∧(r=true→p.cnt≤16384):=by
 obtain⟨r,h1⟩:=qNz p h
 cases r
 ·exact⟨false,f1 [(4,.F)] h1,nofun⟩
 ·by_cases hc:p.cnt≤16384
  ·have e:(!ltI (.ofNat 16384) (.ofNat p.cnt))=true:=by rw [qZv hc];rfl
   exact⟨true,f3 [(4,.T),(7,.N p.cnt),(8,.G)] h1 (qLv p h) e,fun _=>hc⟩
  ·have e:(!ltI (.ofNat 16384) (.ofNat p.cnt))=false:=by rw [qQy (Nat.lt_of_not_le hc)];rfl
   exact⟨false,f3 [(4,.T),(7,.N p.cnt),(8,.H)] h1 (qLv p h) e,nofun⟩
theorem zLa (p:Pf) (h:p.cnt≤big) (h':p.tsz≤mid):∃ e,A 62 [p.p] (num e)∧(e=0→p.cnt≤16384):=by
 obtain⟨r,h1⟩:=qN0 p h'
 cases r
 ·exact⟨2,f1 [(4,.F)] h1,nofun⟩
 ·obtain⟨q,h2,h3⟩:=zFb p h
  cases q
  ·exact⟨4,f2 [(4,.T),(7,.F)] h1 h2,nofun⟩
  ·exact⟨0,f2 [(4,.T),(7,.T)] h1 h2,fun _=>h3 rfl⟩
theorem qMg:∀ u:List Nat,qY1 1 (pvE (u.map ic))=true∧qJl (pvE (u.map ic))=true
 | []=>⟨rfl,rfl⟩
 | n::r=>qMg r
structure Bd2 (X:Nat) (ls:List Fm) (g:List Ty) (hs:List Fm) (p:Pf):Prop where
 l1:∀ f∈ls,f.cnt+1024≤mid∧f.tsz≤mid∧f.mx≤X
 h1:∀ f∈hs,f.cnt+1024≤mid∧f.tsz≤mid∧f.mx≤X
 g1:∀ s∈g,s.size≤mid
 gl:g.length≤1024
 hl:hs.length≤1000
 ll:ls.length≤1024
 cnt:p.cnt≤big
 tsz:p.tsz≤mid
 mx:p.mx≤X
 X:X+qQf * 16384≤cmx
theorem a20 (H:MF) {X:Nat} {ls:List Fm} {g:List Ty} {hs:List Fm} {p:Pf} (hb:Bd2 X ls g hs p):∃ r:PR,A 20 [fms ls,qJs g hs,p.p] r.p ∧ ∀ f u,r = .ok f u→SQ2 ls g hs∧p.cnt≤16384∧FO (X+qQf * 16384) f∧(∀ v,us (ls.map Fm.sp) (hs.map Fm.sp) p v→v∈u)∧u.length≤16384:=by
 have hm:=qQc
 have hbg:=qQh
 have b1:=hb.gl
 have b2:=hb.hl
 have b3:=hb.ll
 obtain⟨e,g1,q1⟩:=a61 ls g hs (fun f hf=>⟨(hb.l1 f hf).1,(hb.l1 f hf).2.1⟩) (fun f hf=>⟨(hb.h1 f hf).1,(hb.h1 f hf).2.1⟩) hb.g1 (by omega) (by omega) (by omega)
 cases e with
 | succ e=>exact⟨.er e,f1 [(14,.N (e+1))] g1,fun f u h=>by cases h⟩
 | zero =>
  have hq:=q1 rfl
  obtain⟨e,g2,q2⟩:=zLa p hb.cnt hb.tsz
  cases e with
  | succ e=>exact⟨.er e,f2 [(14,.N 0),(20,.N (e+1))] g1 g2,fun f u h=>by cases h⟩
  | zero =>
   have hc:=q2 rfl
   have hX:=hb.X
   have c1:qQf * p.cnt≤qQf * 16384:=Nat.mul_le_mul_left _ hc
   have hpre:Pre ls g hs X p:=⟨fun f hf=>⟨(Fm.chk0 (hq.ls f hf)).1,(hb.l1 f hf).2.2,(hb.l1 f hf).2.1⟩,fun f hf=>⟨(Fm.chk0 (hq.hs f hf)).1,(hb.h1 f hf).2.2,(hb.h1 f hf).2.1⟩,hb.g1,hb.gl,hb.hl,hb.ll,by omega,hb.tsz,hb.mx,by omega⟩
   obtain⟨r,g3,q3⟩:=qZ7 H p ls g hs X hpre
   cases r with
   | er n=>exact⟨.er n,f3 [(14,.N 0),(20,.N 0),(33,.r (PR.er n).p)] g1 g2 g3,fun f u h=>by cases h⟩
   | ok f u =>
    obtain⟨k1,k2,k3,k4,k5⟩:=q3
    obtain⟨s1,s2⟩:=qMg u
    have g5:(Nat.blt 0 1 && qY1 1 (pvE (u.map ic)) && qJl (pvE (u.map ic)) && Nat.ble (pvE (u.map ic)).length maxLen && Nat.ble ((pvE (u.map ic)).length * 8) 140737488355328)=true:=by
     rw [s1,s2,pvE_len,List.length_map,Nat.ble_eq_true_of_le (show u.length≤maxLen by simp only [maxLen];omega),Nat.ble_eq_true_of_le (show u.length * 8≤140737488355328 by omega)]
     rfl
    have g6:A 20 [fms ls,qJs g hs,p.p] (.tuple [.agg [num f.kd,num f.tk,.slice f.te,.slice f.ts,.slice f.es,.slice (List.take (pvE (u.map ic)).length (u.map ic))],num 0]) :=
     f6 [(14,.N 0),(20,.N 0),(33,.r (PR.ok f u).p),(42,.r f.p),(45,.ok),(300010,.f 4 (u.map ic))] g1 g2 g3 (a64 f) g5 (rfl:pvE (u.map ic)=pvE (u.map ic))
    rw [pvE_len,List.take_length] at g6
    refine⟨.ok f u,g6,fun f' u' h => ?_⟩
    cases h
    exact⟨hq,hc,⟨k1.1,by have:=k1.2.1;omega,k1.2.2⟩,k3,by omega⟩
open Go.Lg
set_option maxRecDepth 100000
def Fm.csz:Fm→Nat
 | .eq _ _=>1
 | .bin _ f g=>1+f.csz+g.csz
 | .q _ s f=>1+s.size+f.csz
theorem a27:A 27 [] Ty.unit.p:=f0 []
theorem zX0 (s u:Ty):A 131 [s.p,u.p] (Ty.two false s u).p:=f0 []
theorem zC9 (s u:Ty):A 132 [s.p,u.p] (Ty.two true s u).p:=f0 []
abbrev xty (k:Nat) (s:Ty) (r:TR):PV:=.agg [num k,.slice [s.c,[num r.k,.slice r.l]]]
theorem zKy (s:Ty) (r:TR):A 131 [s.p,.agg [num r.k,.slice r.l]] (xty 3 s r):=f0 []
theorem zBl (s:Ty) (r:TR):A 132 [s.p,.agg [num r.k,.slice r.l]] (xty 4 s r):=f0 []
theorem qB5 (k:Nat) (es:List (List PV)) (n:Nat):A 130 [.agg [num k,.slice es],num (n+1)] (TR.er n).p:=f0 []
theorem zLb (t:Ty) (h:t.size≤big):∃ (n e:Nat),A 209 [t.p] (.tuple [num n,num e])∧(e=0↔t.size≤64):=by
 have g1:=a84 t h
 rcases qZe t with e|e
 ·rw [e] at g1
  exact⟨t.size,0,f2 [(6,.N 0),(11,.N t.size)] g1 (zY2 t h),by simp [chk0 e]⟩
 ·rw [e] at g1
  refine⟨0,4,f1 [(6,.N 4)] g1,(nofun),fun hn => ?_⟩
  rw [qWs,ckE_0.2 hn] at e
  cases e
theorem zLc (t:Ty) (h:t.size≤big):∃ r:TR,A 130 [t.p,num 0] r.p∧r.sz≤64∧(t.size≤64→r = .ok t):=by
 obtain⟨n,e,g,q⟩:=zLb t h
 cases e with
 | zero=>exact⟨.ok t,f1 [(12,.U [num n,num 0])] g,q.1 rfl,fun _=>rfl⟩
 | succ e=>exact⟨.er e,f1 [(12,.U [num n,num (e+1)])] g,Nat.zero_le _,fun h=>by have:=q.2 h;cases this⟩
theorem zLd {f:Fm} (h:f.shp=true) (h':f.cnt≤4096):f.chk=0:=by
 unfold Fm.chk
 rw [h]
 simp only
 rw [qZv h']
theorem a30 (f:Fm) (h:f.shp=true) (h':f.cnt≤4096):A 30 [f.p] (.bool f.has):=by
 have hm:=qQc
 have hb:=qQh
 obtain⟨b,e,g,q⟩:=a85 f (by have:=qJi f h;omega) (by omega)
 obtain⟨rfl,rfl⟩:=q (zLd h h')
 exact f1 [(7,.U [.bool f.has,num 0])] g
def TR.Cs (m:Nat) (r:TR):Prop:=r.sz≤64∧(m≤64→∃ s,r = .ok s∧s.size≤m)
theorem TR.Cs.up {m n:Nat} {r:TR} (h:r.Cs m) (hn:m≤n):r.Cs n:=⟨h.1,fun hl=>by obtain⟨s,e,h2⟩:=h.2 (by omega);exact⟨s,e,by omega⟩⟩
theorem qSe (k:Bool) (F:Nat) (hF:∀ s u:Ty,A F [s.p,u.p] (Ty.two k s u).p) (s:Ty) (r:TR) (m n:Nat) (hs:s.size≤m) (hs2:s.size≤64) (h:r.Cs n):∃ q:TR,(∀ u,r = .ok u→A 130 [(Ty.two k s u).p,num 0] q.p)∧(∀ e,r = .er e→q = .er e)∧q.Cs (1+m+n):=by
 have hb:=qQh
 cases r with
 | er e=>exact⟨.er e,fun u h=>(by cases h),fun e' h=>by cases h;rfl,Nat.zero_le _,fun hl=>by obtain⟨s,e,_⟩:=h.2 (by omega);cases e⟩
 | ok u =>
  have hu:u.size≤64:=h.1
  obtain⟨q,g,q1,q2⟩:=zLc (.two k s u) (by simp only [Ty.size];omega)
  refine⟨q,fun u' h=>(by cases h;exact g),fun e h=>(by cases h),q1,fun hl => ?_⟩
  obtain⟨s',e,h2⟩:=h.2 (by omega)
  cases e
  exact⟨.two k s u,q2 (by simp only [Ty.size];omega),by simp only [Ty.size];omega⟩
theorem a76:∀ (f:Fm),f.shp=true→f.cnt≤4096→∃ r:TR,A 76 [f.p] r.p∧r.Cs f.csz
 | .eq a b,h,h'=>by
  have g1:=a30 _ h h'
  exact⟨.ok .unit,f2 [(15,.F),(17,.r Ty.unit.p)] g1 a27,by decide,fun _=>⟨.unit,rfl,Nat.le_refl _⟩⟩
 | .bin k f g,h,h'=>by
  obtain⟨h1,h2⟩:=qQ3 h
  simp only [Fm.cnt] at h'
  have g1:=a30 (.bin k f g) h (by simp only [Fm.cnt];omega)
  have gf:=a30 f h1 (by omega)
  have gg:=a30 g h2 (by omega)
  obtain⟨r1,g2,q1⟩:=a76 f h1 (by omega)
  obtain⟨r2,g3,q2⟩:=a76 g h2 (by omega)
  cases hh:(Fm.bin k f g).has<;>rw [hh] at g1
  ·have hu:A 76 [(Fm.bin k f g).p] (TR.ok .unit).p:=by cases k<;>exact f2 [(15,.F),(17,.r Ty.unit.p)] g1 a27
   exact⟨.ok .unit,hu,by decide,fun _=>⟨.unit,rfl,by simp only [Fm.csz,Ty.size];omega⟩⟩
  ·cases hf:f.has<;>rw [hf] at gf
   ·have hu:A 76 [(Fm.bin k f g).p] r2.p:=by
     cases k
     ·exact f3 [(15,.T),(26,.F),(32,.r r2.p)] g1 gf g3
     ·exact f3 [(15,.T),(81,.F),(87,.r r2.p)] g1 gf g3
    exact⟨r2,hu,q2.up (by simp only [Fm.csz];omega)⟩
   ·cases k
    ·cases hg:g.has<;>rw [hg] at gg
     ·exact⟨r1,f4 [(15,.T),(26,.T),(39,.F),(45,.r r1.p)] g1 gf gg g2,q1.up (by simp only [Fm.csz];omega)⟩
     ·cases r1 with
      | er n=>exact⟨.er n,f4 [(15,.T),(26,.T),(39,.T),(53,.r (TR.er n).p)] g1 gf gg g2,Nat.zero_le _,fun hl=>by
        obtain⟨s,e,_⟩:=q1.2 (by simp only [Fm.csz] at hl;omega)
        cases e⟩
      | ok s =>
       by_cases hm:f.csz≤64
       ·obtain⟨s',e,hs⟩:=q1.2 hm
        cases e
        obtain⟨q,j1,j2,j3⟩:=qSe false 131 zX0 s r2 f.csz g.csz hs q1.1 q2
        cases r2 with
        | er n =>
         rw [j2 n rfl] at j3
         exact⟨.er n,f7 [(15,.T),(26,.T),(39,.T),(53,.r (TR.ok s).p),(65,.r (TR.er n).p),(70,.r (xty 3 s (.er n))),(72,.r (TR.er n).p)] g1 gf gg g2 g3 (zKy s (.er n)) (qB5 3 [s.c,[num (TR.er n).k,.slice (TR.er n).l]] n),j3⟩
        | ok u=>exact⟨q,f7 [(15,.T),(26,.T),(39,.T),(53,.r (TR.ok s).p),(65,.r (TR.ok u).p),(70,.r (Ty.two false s u).p),(72,.r q.p)] g1 gf gg g2 g3 (zX0 s u) (j1 u rfl),j3⟩
       ·obtain⟨q,j1,j2,j3⟩:=qSe false 131 zX0 s r2 s.size g.csz (Nat.le_refl _) q1.1 q2
        have j4:q.Cs (1+f.csz+g.csz):=⟨j3.1,fun hl=>by omega⟩
        cases r2 with
        | er n =>
         rw [j2 n rfl] at j4
         exact⟨.er n,f7 [(15,.T),(26,.T),(39,.T),(53,.r (TR.ok s).p),(65,.r (TR.er n).p),(70,.r (xty 3 s (.er n))),(72,.r (TR.er n).p)] g1 gf gg g2 g3 (zKy s (.er n)) (qB5 3 [s.c,[num (TR.er n).k,.slice (TR.er n).l]] n),j4⟩
        | ok u=>exact⟨q,f7 [(15,.T),(26,.T),(39,.T),(53,.r (TR.ok s).p),(65,.r (TR.ok u).p),(70,.r (Ty.two false s u).p),(72,.r q.p)] g1 gf gg g2 g3 (zX0 s u) (j1 u rfl),j4⟩
    ·cases r1 with
     | er n=>exact⟨.er n,f3 [(15,.T),(81,.T),(95,.r (TR.er n).p)] g1 gf g2,Nat.zero_le _,fun hl=>by
       obtain⟨s,e,_⟩:=q1.2 (by simp only [Fm.csz] at hl;omega)
       cases e⟩
     | ok s =>
      have key:∃ m,s.size≤m ∧ ∀ q:TR,q.Cs (1+m+g.csz)→q.Cs (1+f.csz+g.csz):=by
       by_cases hm:f.csz≤64
       ·obtain⟨s',e,hs⟩:=q1.2 hm
        cases e
        exact⟨f.csz,hs,fun q h=>h⟩
       ·exact⟨s.size,Nat.le_refl _,fun q h=>⟨h.1,fun hl=>by omega⟩⟩
      obtain⟨m,hs,hq⟩:=key
      obtain⟨q,j1,j2,j3⟩:=qSe true 132 zC9 s r2 m g.csz hs q1.1 q2
      have j4:=hq q j3
      cases r2 with
      | er n =>
       rw [j2 n rfl] at j4
       exact⟨.er n,f6 [(15,.T),(81,.T),(95,.r (TR.ok s).p),(107,.r (TR.er n).p),(112,.r (xty 4 s (.er n))),(114,.r (TR.er n).p)] g1 gf g2 g3 (zBl s (.er n)) (qB5 4 [s.c,[num (TR.er n).k,.slice (TR.er n).l]] n),j4⟩
      | ok u=>exact⟨q,f6 [(15,.T),(81,.T),(95,.r (TR.ok s).p),(107,.r (TR.ok u).p),(112,.r (Ty.two true s u).p),(114,.r q.p)] g1 gf g2 g3 (zC9 s u) (j1 u rfl),j4⟩
 | .q k s f,h,h'=>by
  obtain⟨h1,h2⟩:=qQ3 h
  have hs:=qNm h1
  simp only [Fm.cnt] at h'
  have g1:=a30 (.q k s f) h (by simp only [Fm.cnt];omega)
  have gf:=a30 f h2 (by omega)
  obtain⟨r,g2,q1⟩:=a76 f h2 (by omega)
  cases hh:(Fm.q k s f).has<;>rw [hh] at g1
  ·have hu:A 76 [(Fm.q k s f).p] (TR.ok .unit).p:=by cases k<;>exact f2 [(15,.F),(17,.r Ty.unit.p)] g1 a27
   exact⟨.ok .unit,hu,by decide,fun _=>⟨.unit,rfl,by simp only [Fm.csz,Ty.size];omega⟩⟩
  ·cases k
   ·obtain⟨q,j1,j2,j3⟩:=qSe true 132 zC9 s r s.size f.csz (Nat.le_refl _) hs q1
    cases r with
    | er n =>
     rw [j2 n rfl] at j3
     exact⟨.er n,f4 [(15,.T),(124,.r (TR.er n).p),(130,.r (xty 4 s (.er n))),(132,.r (TR.er n).p)] g1 g2 (zBl s (.er n)) (qB5 4 [s.c,[num (TR.er n).k,.slice (TR.er n).l]] n),j3⟩
    | ok u=>exact⟨q,f4 [(15,.T),(124,.r (TR.ok u).p),(130,.r (Ty.two true s u).p),(132,.r q.p)] g1 g2 (zC9 s u) (j1 u rfl),j3⟩
   ·cases hf:f.has<;>rw [hf] at gf
    ·exact⟨.ok s,f2 [(15,.T),(141,.F)] g1 gf,hs,fun _=>⟨s,rfl,by simp only [Fm.csz];omega⟩⟩
    ·obtain⟨q,j1,j2,j3⟩:=qSe false 131 zX0 s r s.size f.csz (Nat.le_refl _) hs q1
     cases r with
     | er n =>
      rw [j2 n rfl] at j3
      exact⟨.er n,f5 [(15,.T),(141,.T),(150,.r (TR.er n).p),(156,.r (xty 3 s (.er n))),(158,.r (TR.er n).p)] g1 gf g2 (zKy s (.er n)) (qB5 3 [s.c,[num (TR.er n).k,.slice (TR.er n).l]] n),j3⟩
     | ok u=>exact⟨q,f5 [(15,.T),(141,.T),(150,.r (TR.ok u).p),(156,.r (Ty.two false s u).p),(158,.r q.p)] g1 gf g2 (zX0 s u) (j1 u rfl),j3⟩
   ·exact⟨r,f2 [(15,.T),(165,.r r.p)] g1 g2,q1.up (by simp only [Fm.csz];omega)⟩
   ·exact⟨r,f2 [(15,.T),(165,.r r.p)] g1 g2,q1.up (by simp only [Fm.csz];omega)⟩
theorem a26 (f:Fm) (h1:f.tsz≤mid) (h2:f.cnt≤big):∃ r:TR,A 26 [f.p] r.p∧r.sz≤64∧(f.chk=0→f.csz≤64→∃ s,r = .ok s∧s.size≤f.csz):=by
 have g1:=a75 f h1 h2
 cases e:f.chk with
 | succ n =>
  rw [e] at g1
  exact⟨.er n,f1 [(6,.N (n+1))] g1,Nat.zero_le _,nofun⟩
 | zero =>
  rw [e] at g1
  obtain⟨c1,c2⟩:=Fm.chk0 e
  obtain⟨r,g2,q⟩:=a76 f c2 c1
  exact⟨r,f2 [(6,.N 0),(12,.r r.p)] g1 g2,q.1,fun _=>q.2⟩
abbrev zFc:Kp:=⟨[1,5,6],[0,1],2,[]⟩
theorem qSf (g:List Ty) {hs:List Fm} (hl:hs.length≤mid):∀ (r:List Fm) (k v:Nat) (A:List (List PV)),hs.drop k=r→A.length≤100+k→(∀ f∈r,f.chk=0∧f.csz≤64) →
  ∃ (v':Nat) (G:List Ty),G.length=qZs r∧Lp 12 0 0 (st [(1,.loc 0 0),(5,.arr 1 v A.length),(6,.pv (num k))] [(0,bx [tys g,fms hs]),(1,.arr v 2 34 (pvE A))] 2 []) (.exit 0) (st [(5,.arr 1 v' (A.length+G.length))] [(1,.arr v' 2 34 (pvE (A++G.map Ty.c)))] 2 [])
 | [],k,v,A,h,hA,hr=>by
  have e:ltI (.ofNat k) (.ofNat (hs.map Fm.c).length)=false:=qZv (by simpa using qZp h)
  refine⟨v,[],rfl,?_⟩
  simp only [List.map_nil,List.append_nil,List.length_nil,Nat.add_zero]
  exact y1 [(26,.H)] ⟨[5],[1],2,[]⟩ e (qQn A)
 | f::r,k,v,A,h,hA,hr=>by
  have hm:=qQc
  have hb:=qQh
  obtain⟨d1,d2,d3⟩:=qZo h
  have e:ltI (.ofNat k) (.ofNat (hs.map Fm.c).length)=true:=qQy (by simpa using d2)
  obtain⟨q1,q2⟩:=hr f (by simp)
  obtain⟨c1,c2⟩:=Fm.chk0 q1
  obtain⟨T,g1,_,q3⟩:=a26 f (by have:=qJi f c2;omega) (by omega)
  obtain⟨s,rfl,q4⟩:=q3 q1 q2
  have g2:=a30 f c2 c1
  have g4:=qQ9 (a:=k) (b:=1) (by omega)
  have gi:=qQi d1 Fm.c_len
  cases hf:f.has<;>rw [hf] at g2
  ·obtain⟨v',G,hG,ih⟩:=qSf g hl r (k+1) v A d3 (by omega) (fun x hx=>hr x (by simp [hx]))
   exact⟨v',G,by simp only [qZs,hf,qE1];omega,n8 [(26,.G),(33,.i f.c),(35,.r (TR.ok s).p),(44,.i f.c),(46,.F),(28,.z (k+1))] zFc e gi g1 gi g2 g4 (qQn A) ih⟩
  ·have g3:=qEv (A:=A) (v:=v) (ty:=34) (m:=32) (c:=s.c) (show 0<2 by decide) rfl rfl (by simp only [maxLen];omega) (by omega)
   obtain⟨v',G,hG,ih⟩:=qSf g hl r (k+1) (v+1) (A++[s.c]) d3 (by simp;omega) (fun x hx=>hr x (by simp [hx]))
   rw [qZy,show (A++[s.c]).length=A.length+1 by simp,show A.length+1+G.length=A.length+(s::G).length by simp;omega,List.append_assoc] at ih
   exact⟨v',s::G,by simp only [qZs,hf,qE1,List.length_cons];omega,n9 [(26,.G),(33,.i f.c),(35,.r (TR.ok s).p),(44,.i f.c),(46,.T),(50,.ok),(28,.z (k+1))] zFc e gi g1 gi g2 g3 g4 (qQq A s.c) ih⟩
theorem qSg:∀ g:List Ty,qY1 2 (pvE (g.map Ty.c))=true∧qJl (pvE (g.map Ty.c))=true
 | []=>⟨rfl,rfl⟩
 | n::r=>qSg r
theorem a12 (g:List Ty) (hs:List Fm) (h1:qNg g=0) (h2:hs.length≤16) (hr:∀ f∈hs,f.chk=0∧f.csz≤64):∃ G:List Ty,A 12 [qJs g hs] (.tuple [tys G,num 0])∧G.length=g.length+qZs hs:=by
 have hm:=qQc
 have hb:=qQh
 obtain⟨c1,c2⟩:=qGp h1
 have g1:=a29 g fun t ht=>by have:=c2 t ht;omega
 rw [h1] at g1
 have g2:ltI (.ofNat 16) (.ofNat (hs.map Fm.c).length)=false:=qZv (by simpa using h2)
 obtain⟨s1,s2⟩:=qSg g
 have g3:(Nat.blt 0 2 && qY1 2 (pvE (g.map Ty.c)) && qJl (pvE (g.map Ty.c)) && Nat.ble (pvE (g.map Ty.c)).length maxLen && Nat.ble ((pvE (g.map Ty.c)).length * 32) 140737488355328)=true:=by
  rw [s1,s2,pvE_len,List.length_map,Nat.ble_eq_true_of_le (show g.length≤maxLen by simp only [maxLen];omega),Nat.ble_eq_true_of_le (show g.length * 32≤140737488355328 by omega)]
  rfl
 obtain⟨v,G,hG,h3⟩:=qSf g (hs:=hs) (by omega) hs 0 1 (g.map Ty.c) rfl (by simp;omega) hr
 rw [← List.map_append] at h3
 have h4:=LoopIs.fz (by simp) h3 1 (ver:=v) (sz:=2) (ty:=34) (ps:=(g++G).map Ty.c) rfl (by kernel_rfl)
 simp (decide:=true) only [fzS,fzO,qY0,qJb,qY8,bx,List.map,qC3,and_self,↓reduceIte,List.take_of_length_le (show ((g++G).map Ty.c).length≤(g.map Ty.c).length+G.length by simp)] at h4
 rw [← pvE_len (g.map Ty.c)] at h4
 refine⟨g++G,?_,by simp [hG]⟩
 exact f5 [(11,.N 0),(18,.H),(21,.ok),(100008,.l zFc (.exit 0) (st [(5,.pv (tys (g++G)))] [] 2 []))] g1 g2 g3 (qQn (g.map Ty.c)) h4
end Go.Proofs.YtmcockinhpiomaaGreatDoor
