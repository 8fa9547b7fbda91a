/- Contracts of functions; no conditions. -/
import Derived.Test.YtbbbnbikmbaejaaGreatDoorConC5
import Derived.Test.YtbbbnbikmbaejaaGreatDoorConB2
set_option linter.all false
set_option maxHeartbeats 4000000
namespace Go.Proofs.YtbbbnbikmbaejaaGreatDoor
open Go.Lg
set_option maxRecDepth 100000
theorem zDs {s:Ty} (h:s.size≤64):Nat.beq s.chk 0=true:=by rw [qWo,ckE_0.2 h];rfl
theorem qV1:∀ t:Tm,t.tsz≤64→t.shp=true
 | .v _,_=>rfl
 | .lam s b,h=>by
  have h:max s.size b.tsz≤64:=h
  show (_ && _)=true
  rw [qV1 b (by omega),zDs (by omega)];rfl
 | .n0 _,_=>rfl
 | .n1 _ a,h=>qV1 a h
 | .n2 _ a b,h=>by
  have h:max a.tsz b.tsz≤64:=h
  show (_ && _)=true
  rw [qV1 a (by omega),qV1 b (by omega)];rfl
 | .n3 _ s a b c,h=>by
  simp only [Tm.tsz] at h
  simp only [Tm.shp]
  rw [qV1 a (by omega),qV1 b (by omega),qV1 c (by omega),zDs (by omega)];rfl
theorem qDf {f:Nat} {args:List PV} {x:PV} (n:Nat) (e:(x=x)=zAg ev Tryz.prog 100 n f args [] x):A f args x:=qNx evOK (Eq.mp e rfl)
theorem y36 {m:Nat} (h:m<6):A 36 [vl m] (.tuple [(qZt m).p,num 0]):=by
 match m,h with
 | 0,_=>exact qDf 20 (by kernel_rfl)
 | 1,_=>exact qDf 20 (by kernel_rfl)
 | 2,_=>exact qDf 20 (by kernel_rfl)
 | 3,_=>exact qDf 20 (by kernel_rfl)
 | 4,_=>exact qDf 20 (by kernel_rfl)
 | 5,_=>exact qDf 20 (by kernel_rfl)
theorem y12 {m:Nat} (h:m<6):A 12 [num m] (qZt m).p:=by
 match m,h with
 | 0,_=>exact qDf 20 (by kernel_rfl)
 | 1,_=>exact qDf 20 (by kernel_rfl)
 | 2,_=>exact qDf 20 (by kernel_rfl)
 | 3,_=>exact qDf 20 (by kernel_rfl)
 | 4,_=>exact qDf 20 (by kernel_rfl)
 | 5,_=>exact qDf 20 (by kernel_rfl)
theorem qV2 {w:Tm} {s:Ty} (hs:∀ c z,w.sh c z=w) (hw:∀ G,w.tyR G = .ok s):∀ (t:Tm) (G:List Ty),(t.put 0 w G.length).tyR G=t.tyR (s::G)
 | .v i,G=>by
  simp only [Tm.put,Nat.zero_add,hs]
  split
  ·rename_i e
   rw [hw]
   simp [Tm.tyR,tyV,e]
  ·rename_i e
   split
   ·rename_i e'
    simp only [Tm.tyR,tyV]
    rw [if_neg (by omega),if_neg (by simp;omega)]
   ·rename_i e'
    simp only [Tm.tyR,tyV]
    rw [if_pos (by omega),if_pos (by simp;omega)]
    rw [show (s::G).length-1-i=(G.length-1-i)+1 by simp;omega,List.getElem?_cons_succ]
 | .lam u b,G=>by
  have:=qV2 hs hw b (G++[u])
  rw [List.length_append] at this
  show tyL u ((b.put 0 w (G.length+1)).tyR (G++[u]))=tyL u (b.tyR ((s::G)++[u]))
  exact congrArg _ this
 | .n0 _,_=>rfl
 | .n1 k a,G=>congrArg (ty1 k) (qV2 hs hw a G)
 | .n2 k a b,G=>by
  show ty2 k _ _=ty2 k _ _
  rw [qV2 hs hw a G,qV2 hs hw b G]
 | .n3 k u a b c,G=>by
  show ty3 k u _ _ _=ty3 k u _ _ _
  rw [qV2 hs hw a G,qV2 hs hw b G,qV2 hs hw c G]
theorem qWh:∀ m:Nat,(qZt m).cnt=m+1
 | 0=>rfl
 | m+1=>by show 1+(qZt m).cnt=_;rw [qWh m];omega
theorem qWi:∀ m:Nat,(qZt m).tsz=0
 | 0=>rfl
 | m+1=>qWi m
theorem qAc:∀ m:Nat,(qZt m).mx=0
 | 0=>rfl
 | m+1=>qAc m
abbrev NV (t:Tm):Prop:=TT [.nat] .nat 236 3 t
theorem NV.put {t:Tm} (h:NV t) {m:Nat} (hm:m<6):CN (t.put 0 (qZt m) 0)∧(t.put 0 (qZt m) 0).cnt≤1600:=by
 have h1:=qK5 0 (qZt m) t 0
 have h2:=h.cnt
 have h3:=qQp t (0+0)
 have h4:=qVi 0 (qZt m) t 0
 rw [qWh] at h1
 rw [qWi] at h4
 have h5:=h.tsz
 have h6:t.occ (0+0) * (m+1)≤t.occ (0+0) * 6:=Nat.mul_le_mul_left _ (by omega)
 have hm:=qQh
 have h7:(t.put 0 (qZt m) 0).cnt≤1600:=by omega
 exact⟨⟨Tm.chk_i (qV1 _ (by omega)) (by omega),by omega,by omega,(qV2 (qDe · · m) (qW1 · m) t []).trans h.ty⟩,h7⟩
theorem NV.chk {t:Tm} (h:NV t):t.chk=0:=Tm.chk_i (qV1 _ (by have:=h.tsz;omega)) (by have:=h.cnt;omega)
section
variable {t u:Tm} {w:Nat} (ht:CN t) (hu:CN u) (hw:w≤65536)
include ht hw
theorem zDt:(∃ v k,E (.ev .en t) (.n v)∧k≤w∧A 171 [t.p,num w] (.tuple [num v,num k,num 0]))∨A 171 [t.p,num w] (.tuple [num 0,num w,num 5]):=by
 have hb:=qQk
 rcases y14 ht hw with ⟨v,a,h1,h2,h3⟩|h
 ·exact .inl ⟨v,w-a,h1,by omega,f2 [13,21] h3 (qCx (a:=w) (b:=a) (z:=.ofNat (w-a)) (by omega) (by omega) (by simp;omega))⟩
 ·exact .inr (f2 [13,21] h (qCx (a:=w) (b:=0) (z:=.ofNat w) (by omega) (by omega) (by simp)))
include hu
theorem y96:(∃ a b k,E (.ev .en t) (.n a)∧E (.ev .en u) (.n b)∧k≤w∧A 96 [(Fm.eq t u).p,num w] (.tuple [.bool (decide (a=b)),num k,num 0])) ∨ ∃ x k,k≤w∧A 96 [(Fm.eq t u).p,num w] (.tuple [.bool x,num k,num 5]):=by
 rcases zDt ht hw with ⟨a,k,h1,h2,h3⟩|h
 ·rcases zDt (t:=u) hu (w:=k) (by omega) with ⟨b,j,k1,k2,k3⟩|k1
  ·left
   refine⟨a,b,j,h1,k1,by omega,?_⟩
   by_cases e:a=b
   ·subst e
    rw [decide_eq_true rfl]
    exact f3 [36,49,55] h3 k3 (qLg a)
   ·rw [decide_eq_false e]
    exact f3 [36,49,55] h3 k3 (qGo e)
  ·right
   cases a with
   | zero=>exact⟨true,k,h2,f2 [36,49] h3 k1⟩
   | succ a=>exact⟨false,k,h2,f3 [36,49,55] h3 k1 (qGo (Nat.succ_ne_zero a))⟩
 ·exact .inr ⟨false,0,Nat.zero_le _,f1 [36] h⟩
omit hw in
theorem y94 (hc:(Fm.eq t u).chk=0):A 94 [tys [],(Fm.eq t u).p] (num 0):=by
 have hm:=qQh
 have hb:=qQk
 have h1:=ht.tsz
 have h2:=hu.tsz
 have h3:=ht.cnt
 have h4:=hu.cnt
 have g1:=a75 (Fm.eq t u) (by show max _ _≤_;omega) (by show 1+_+_≤_;omega)
 rw [hc] at g1
 have g2:A 242 [tys [],(Fm.eq t u).p] (num 0):=f4 [22,30,22,30] (zCc ht) (zZ5 (show Ty.nat.kd=1 from rfl)) (zCc hu) (zZ5 (show Ty.nat.kd=1 from rfl))
 have g3:A 169 [tys [],(Fm.eq t u).p] (num 0):=f2 [7,13] g1 g2
 exact f2 [7,13] (a29 [] (fun _ h=>nomatch h)) g3
theorem y38 (hc:(Fm.eq t u).chk=0):(∃ a b k,E (.ev .en t) (.n a)∧E (.ev .en u) (.n b)∧A 38 [(Fm.eq t u).p,num w] (.tuple [.bool (decide (a=b)),num k,num 0]))∨A 38 [(Fm.eq t u).p,num w] (.tuple [.bool false,num 0,num 5]):=by
 have hm:=qQh
 have hb:=qQk
 have h1:=ht.tsz
 have h2:=hu.tsz
 have h3:=ht.cnt
 have h4:=hu.cnt
 have g0:=a75 (Fm.eq t u) (by show max _ _≤_;omega) (by show 1+_+_≤_;omega)
 rw [hc] at g0
 have g1:A 170 [(Fm.eq t u).p] (.bool true):=f0 []
 have g2:A 95 [(Fm.eq t u).p] (.tuple [.bool true,num 0]):=f2 [6,11] g0 g1
 have g3:ltI 65536 (.ofNat w)=false:=qZ4 (a:=65536) hw
 rcases y96 ht hu hw with ⟨a,b,k,k1,k2,k3,k4⟩|⟨x,k,k3,k4⟩
 ·exact .inl ⟨a,b,w-k,k1,k2,f5 [14,20,29,34,44] (y94 ht hu hc) g2 g3 k4 (qCx (a:=w) (b:=k) (z:=.ofNat (w-k)) (by omega) (by omega) (by simp;omega))⟩
 ·exact .inr (f4 [14,20,29,34] (y94 ht hu hc) g2 g3 k4)
end
theorem y15 {t u:Tm} (ht:NV t) (hu:NV u) {m:Nat} (hm:m<6):(∃ a b k,E (.ev .en (t.put 0 (qZt m) 0)) (.n a)∧E (.ev .en (u.put 0 (qZt m) 0)) (.n b)∧A 15 [(Fm.eq t u).p,.slice [[num 1,num m,.slice [],.slice []]],num 20000] (.tuple [.bool (decide (a=b)),num k,num 0])) ∨ ∃ e,Lm e∧A 15 [(Fm.eq t u).p,.slice [[num 1,num m,.slice [],.slice []]],num 20000] (.tuple [.bool false,num 0,num e]):=by
 have hmd:=qQh
 have hb:=qQk
 have c1:=ht.cnt
 have c2:=hu.cnt
 have z1:=ht.tsz
 have z2:=hu.tsz
 have m1:=qC2 t 1 ht.sc
 have m2:=qC2 u 1 hu.sc
 have hc:(Fm.eq t u).chk=0:=Fm.chk_i (by show (_ && _)=true;rw [qV1 t (by omega),qV1 u (by omega)];rfl) (by show 1+_+_≤_;omega)
 have g1:=a75 (Fm.eq t u) (by show max _ _≤_;omega) (by show 1+_+_≤_;omega)
 rw [hc] at g1
 have hq:5000≤mid * mid:=by decide
 obtain⟨r,g2,g3⟩:=zEd (.eq t u) (qZt m) (by show 1+_+_≤_;omega) (by show max _ _≤_;exact Nat.le_trans (by omega) hq) (by show max _ _≤_;omega) (by rw [qWh];omega) (by rw [qAc];omega) (by rw [qWi];omega)
 rcases g3 with ⟨n,rfl,g3⟩|⟨rfl,g3⟩
 ·cases g3 ⟨hc,by show max _ _≤_;omega⟩ ⟨Tm.chk_i (qV1 _ (by rw [qWi];omega)) (by rw [qWh];omega),by rw [qAc];omega⟩
  exact .inr ⟨4,by decide,f3 [19,31,55] g1 (y36 hm) g2⟩
 ·obtain⟨p1,p2⟩:=ht.put hm
  obtain⟨q1,q2⟩:=hu.put hm
  have hc':(Fm.eq (t.put 0 (qZt m) 0) (u.put 0 (qZt m) 0)).chk=0:=Fm.chk_i (by show (_ && _)=true;rw [(Tm.chk0 p1.chk).2,(Tm.chk0 q1.chk).2];rfl) g3
  rcases y38 p1 q1 (w:=20000) (by decide) hc' with ⟨a,b,k,k1,k2,k3⟩|k3
  ·exact .inl ⟨a,b,k,k1,k2,f4 [19,31,55,64] g1 (y36 hm) g2 k3⟩
  ·exact .inr ⟨5,by decide,f4 [19,31,55,64] g1 (y36 hm) g2 k3⟩
theorem qTe:∀ (t:Tm) (d b:Nat),t.sc b→t.ps [] d b=t
 | .v i,d,b,h=>if_pos h
 | .lam s t,d,b,h=>congrArg _ (qTe t d (b+1) h)
 | .n0 k,_,_,_=>rfl
 | .n1 k a,d,b,h=>congrArg _ (qTe a d b h)
 | .n2 k x y,d,b,h=>by simp only [Tm.ps,qTe x d b h.1,qTe y d b h.2]
 | .n3 k s x y z,d,b,h=>by simp only [Tm.ps,qTe x d b h.1,qTe y d b h.2.1,qTe z d b h.2.2]
abbrev zeT:Tm:=.n0 .zero
section
variable {t u:Tm} (ht:NV t) (hu:NV u)
include ht hu
theorem qXl:t.cnt≤236∧u.cnt≤236∧t.chk=0∧u.chk=0∧t.shp=true∧u.shp=true∧t.sc 1∧u.sc 1∧(Fm.eq t u).mx≤300:=by
 have h1:=ht.tsz
 have h2:=hu.tsz
 have h3:=qC2 t 1 ht.sc
 have h4:=qC2 u 1 hu.sc
 have h5:=ht.cnt
 have h6:=hu.cnt
 exact⟨ht.cnt,hu.cnt,ht.chk,hu.chk,qV1 t (by omega),qV1 u (by omega),ht.sc,hu.sc,by show max _ _≤_;omega⟩
theorem qDg:FK 0 (hq t u):=by
 obtain⟨c1,c2,_,_,s1,s2,k1,k2,_⟩:=qXl ht hu
 exact⟨by show 1+(1+_+_)≤_;omega,by show (_ && (_ && _))=true;rw [s1,s2];decide,⟨k1,k2⟩⟩
theorem zXp:(Fm.eq t u).mx≤mid:=Nat.le_trans (qXl ht hu).2.2.2.2.2.2.2.2 (by decide)
theorem zFl:A 347 [Ty.nat.p,(apart t u).p,zeT.p,oneT.p] (.tuple [(qU1 t u).p,num 0]):=by
 have hm:=qQh
 obtain⟨c1,c2,_⟩:=qXl ht hu
 have hd:distT.cnt≤100:=by decide
 have ha:(apart t u).cnt≤600:=by show 1+(1+_+_)+_≤_;omega
 have g:=zXa .re .nat oneT (.lam .nat (.lam .nat zeT)) (apart t u) (by show 2+3+_≤_;omega)
 rw [XR.fit,if_pos (show (qU1 t u).cnt≤4096 by show 1+2+3+_≤_;omega)] at g
 exact f3 [12,15,20] zE3 (qC7 1 (by decide) zeT 0 (Nat.zero_le _) (by decide)) g
theorem zFm:A 226 [(Fm.eq t u).p] (.tuple [(qU1 t u).p,num 0]):=by
 have hm:=qQh
 obtain⟨c1,c2,c3,c4,_⟩:=qXl ht hu
 have hx:=zXp ht hu
 have k:=(qDg ht hu).eqq
 have g1:A 293 [(Fm.eq t u).p] (.tuple [(qU1 t u).p,num 0]):=f3 [19,22,33] zFi (zFj c3 c4 (by omega)) (zFl ht hu)
 have g2:A 292 [(Fm.eq t u).p] (.bool true):=f0 []
 exact f4 [6,12,16,19] k.a89 g2 (s68 (.eq t u) (by have:=k.cnt;omega) (Nat.le_trans hx (by rw [hm];decide))) g1
theorem zFn {s:Sc} (hs:s.vs=[]) (hd:s.dep≤lim):A 224 [s.p,(hq t u).p] (.tuple [(hq t u).p,num 0]):=by
 have hb:=qQk
 obtain⟨c1,c2,c3,c4,_,_,k1,k2,_⟩:=qXl ht hu
 have hv:EOK s.dep s.vs:=by rw [hs];exact fun _ h=>nomatch h
 have hl:s.vs.length≤lim:=by rw [hs];exact Nat.zero_le _
 have g1:=zDk hv hd hl t 1 (by omega) (by rw [hs];exact k1) (by decide)
 have g2:=zDk hv hd hl u 1 (by omega) (by rw [hs];exact k2) (by decide)
 rw [hs,qTe t _ 1 k1,XR.fit,if_pos (show t.cnt≤4096 by omega)] at g1
 rw [hs,qTe u _ 1 k2,XR.fit,if_pos (show u.cnt≤4096 by omega)] at g2
 have g3:=zV6 (.eq t u) (by show 1+_+_≤_;omega)
 have g4:A 288 [s.p,(Fm.eq t u).p,num 1] (.tuple [(Fm.eq t u).p,num 0]):=f5 [40,40,(300017,.f 6 [t.c,u.c]),80,81] g1 g2 (rfl:pvE [t.c,u.c]=pvE [t.c,u.c]) g3 (qZ4 (show (Fm.eq t u).cnt≤4096 by show 1+_+_≤_;omega))
 have g5:=zV6 (hq t u) (by show 1+(1+_+_)≤_;omega)
 have g6:A 288 [s.p,(hq t u).p,num 0] (.tuple [(hq t u).p,num 0]):=f5 [28,65,(300023,.f 6 [(Fm.eq t u).c]),80,81] (qQv (a:=0) (b:=1) (by decide)) g4 (rfl:pvE [(Fm.eq t u).c]=pvE [(Fm.eq t u).c]) g5 (qZ4 (show (hq t u).cnt≤4096 by show 1+(1+_+_)≤_;omega))
 exact f1 [8] g6
end
open Go.Lg
set_option maxRecDepth 100000
theorem qTf {f m:Nat} {args:List V} {objs ch:List (Nat × Ob)} {x:V} {B:Prop} (n:Nat) (tp:Di) (h:B) (e:B=zAh ev Tryz.prog 100 n f args objs m tp x ch):O f args objs x ch:=qNy evOK (Eq.mp e h)
abbrev chA (t u:Tm):Tm:=qPz t u (.v 0) (.v 3)
abbrev btN:PV:=bth .unit .nat
section
variable {t u:Tm} (ht:NV t) (hu:NV u)
include ht hu
theorem zYw:A 63 [(hq t u).p] btN:=y63 (zYu (qDg ht hu))
theorem zFo:O 73 [.loc 0 0,.pv (anP t u),.pv (num 0),.pv sc1.bind.p,.pv (Tm.v 0).p] [(0,bx0),(1,tb1)] (.pv (chA t u).p) [(0,bx0),(1,tb1)] :=
 have h:=zYw ht hu
 qTf 20 (m:=2) [(46,.o [0,1] [] (.pv btN)),(55,.o [0,1] [] (.pv btN)),(64,.n [(19,.n [(18,.r btN)])]),(68,.n [(19,.n [(18,.r btN)])]),(69,.n [(41,.r btN),(54,.U [(hq t u).p,num 0]),(71,.U [(Fm.eq t u).p,num 0]),(80,.U [(qU1 t u).p,num 0])])]
  (cj8 (zXf h) (zXf h) h h h (zFn ht hu (s:=sc1.bind.bind) rfl (by decide)) (zFh (qDg ht hu) (zXp ht hu)) (zFm ht hu) (Eq.refl (V.pv (chA t u).p,[(0,bx0),(1,tb1)]))) (by kernel_rfl)
end
abbrev btP:PV:=bth .unit (.two false .nat .nat)
abbrev fnA (t u:Tm):PV:=.agg ((Tm.n0 .unit).c++[.slice [[.bool true]],.slice [(chA t u).c]])
theorem y69 {x:Tm} (h:x.cnt≤4096):A 69 [x.p] x.p:=f2 [4,5] (qDl x (by have:=qQk;omega)) (qZ4 h)
section
variable {t u:Tm} (ht:NV t) (hu:NV u)
include ht hu
theorem qG2:(chA t u).cnt≤1000:=by
 obtain⟨c1,c2,_⟩:=qXl ht hu
 have hd:distT.cnt≤100:=by decide
 simp only [Tm.cnt]
 omega
theorem zVc:FK 0 (.bin .and (hq t u) (hq t u)):=by
 have k:=qDg ht hu
 obtain⟨c1,c2,_⟩:=qXl ht hu
 exact⟨by show 1+(1+(1+_+_))+(1+(1+_+_))≤_;omega,by show (_ && _)=true;rw [k.shp];rfl,k.sc,k.sc⟩
theorem zDu:O 64 [.loc 0 0,.pv (anP t u)] [(0,bx0),(1,tb1)] (.pv btP) [(0,bx0),(1,tb1)]:=y64 (x0:=3) (w0:=wk0) (c0:=ck0) (w1:=wk1) (c1:=ck1) (y63 (y98 (zVc ht hu) (zB1 t u) (zB0 t u)))
theorem zDv:O 31 [.loc 0 0,.pv (anP t u),.pv (num 0)] [(0,bx0),(1,tb1)] (.pv (fnA t u)) [(0,bx0),(1,tb1)] :=
 have h:=zYw ht hu
 qTf 20 (m:=2) [(32,.r btN),(69,.o [0,1] [] (.pv (Tm.n0 .unit).p)),(102,.o [0,1] [] (.pv btP)),(115,.o [0,1] [] (.pv (chA t u).p)),(116,.r (chA t u).p)]
  (cj5 h (zFc h) (zDu ht hu) (zFo ht hu) (y69 (Nat.le_trans (qG2 ht hu) (by decide))) (Eq.refl (V.pv (fnA t u),[(0,bx0),(1,tb1)]))) (by kernel_rfl)
theorem zFp:O 30 [.loc 0 0,.pv (anP t u),.pv (num 0)] [(0,bx0),(1,tb0)] (.pv (.tuple [])) [(0,bx0),(1,tb1)] :=
 have h:=zYw ht hu
 qTf 20 (m:=2) [(53,.o [0] [(1,tb1)] (.pv (.tuple []))),(53,.o [0,1] [] (.pv (.tuple []))),(70,.o [0,1] [] (.pv btP)),(74,.o [0,1] [] (.pv (fnA t u)))]
  (cj4 (zXg h) (zFb h) (zDu ht hu) (zDv ht hu) (Eq.refl (V.pv (.tuple []),[(0,bx0),(1,tb1)]))) (by kernel_rfl)
end
open Go.Lg
set_option maxRecDepth 100000
theorem zXq (ρ : Operand → Value) (h : ρ (.tmp 5) = .nilIface) (hc : ρ (.const .nilIface) = .nilIface) (w : World) : (execOp ρ ({ dst := some 7, op := Op.binOp BinOp.eql 20 (Operand.tmp 5) (Operand.const Value.nilIface) 20, type := 4, pos := "functional.go:73", after := #[], guard := none } : Oper)).run Tryz.prog w = .ok (.value (.bool true)) w := by
 have hT:=evOK.T
 have hti:TIOK Tryz.prog 20 ⟨.iface,1,16,zV .nilif,[.nilif]⟩:=hT 20 _ rfl
 obtain⟨d,hd,hk⟩:=hti.desc
 simp only [qK9] at hk
 have heq:(Op.equal 20 .nilIface .nilIface).run Tryz.prog w = .ok true w:=qQr fun d=>by
  obtain⟨ms,rfl⟩:=hk
  simp [Op.equalIn,run_underlying hd]
 have hg:(eqGuard BinOp.eql 20 (Operand.tmp 5) (Operand.const Value.nilIface) Value.nilIface Value.nilIface).run Tryz.prog w = .ok () w:=by
  simp [eqGuard]
 simp [execOp,h,hc,hg,binOp,heq]
theorem zXr:zQs Tryz.prog 29 2:=by
 intro w vs hl
 obtain⟨x,y,rfl⟩:∃ x y,vs=[x,y]:=by
  match vs,hl with
  | [x,y],_=>exact⟨x,y,rfl⟩
 refine callsD_of_wpS (P:=Tryz.prog) (fn:=Tryz.f29) (evOK.F 29 _ rfl).1 rfl fun c₀ cs hu => ?_
 apply wpS_seq
 apply wpS_region
 simp only [List.size_toArray,List.length_cons,List.length_nil,Nat.zero_add,List.range_succ,List.range_zero,List.nil_append]
 simp only [wpOpsS,List.getElem?_toArray,List.getElem?_cons_zero,Region.wanted,if_true]
 have hrec : ∀ ρ w, (execOp ρ ({ dst := some 5, op := Op.call { callee := Callee.builtin Builtin.recover, args := #[], argTypes := #[] }, type := 20, pos := "functional.go:73", after := #[], guard := none } : Oper)).run Tryz.prog w = .ok .recover w := fun _ _ => rfl
 simp only [hrec,recoverD,hu,Exit.thenS]
 refine wpS_of_wp ?_
 have hta:({ tmps:=#[x,y]++Array.replicate (Tryz.f29.ntmps-(1+1)) undef,defers:=[] } : Act).put (some 5) Value.nilIface = { tmps:=#[x,y,undef,undef,undef,.nilIface,undef,undef,undef,undef,undef,undef,undef],defers:=[] }:=rfl
 rw [hta]
 clear hta hrec hl
 generalize hQ:(fun (e:Exit) (a':Act) (w':World)=>bodyPostS Tryz.prog Tryz.f29 c₀ cs (fun e u' w'=>(∃ r,e=Ending.returned r)∧u'=FrameMode.returning∧w'=w) e a' (c₀::cs) w')=Q
 have hend:∀ a':Act,a'.defers=[]→Q .normal a' w:=by
  intro a' ha
  rw [← hQ]
  refine⟨ha,.returning,by rw [← hu],.tuple #[],?_,⟨_,rfl⟩,rfl,rfl⟩
  simp [results,Tryz.f29]
 clear hQ hu
 apply wp_block
 apply wp_seq
 apply wp_region_list
 refine wpList_plain rfl fun K hK => ?_
 unfold Oper.wp
 rw [zXq _ rfl rfl,Oper.upon_value]
 apply hK
 show Code.wp _ _ _ _ _
 refine wp_cond_true rfl ?_
 apply wp_region_list
 refine wpList_plain rfl fun K hK => ?_
 unfold Oper.wp
 have hm : ∀ ρ w, (execOp ρ ({ dst := some 2, op := Op.assign (Operand.tmp 5), type := 20, pos := "functional.go:73", after := #[], guard := none } : Oper)).run Tryz.prog w = .ok (.value (ρ (.tmp 5))) w := fun _ _ => rfl
 rw [hm,Oper.upon_value]
 apply hK
 exact hend _ rfl
abbrev oA : Oper := { dst := some 46, op := Op.makeFunc (Fn.func 29) #[] #[Operand.tmp 8, Operand.tmp 9], type := 1, pos := "functional.go:72", after := #[], guard := none }
abbrev oB : Oper := { dst := none, op := Op.defer { callee := Callee.value (Operand.tmp 46), args := #[], argTypes := #[] }, type := 0, pos := "functional.go:72", after := #[{ on := 0, ground := Ground.data }], guard := none }
abbrev zYx:List V:=[.loc 2 0,.loc 3 0]
abbrev co9:Array Operand:=#[.tmp 8,.tmp 9]
theorem zFq:Dfr ev Tryz.prog 9 oA oB co9 zYx 46 29:=⟨⟨Tryz.f29,(evOK.F 29 _ rfl).1,rfl,rfl⟩,rfl,rfl,rfl,rfl,rfl,rfl,zXr⟩
def zDw:Nat→Nat
 | 0=>5
 | 1=>4
 | 4=>1
 | 5=>0
 | n=>n
theorem qU5:∀ n,zDw (zDw n)=n
 | 0=>rfl
 | 1=>rfl
 | 2=>rfl
 | 3=>rfl
 | 4=>rfl
 | 5=>rfl
 | _+6=>rfl
theorem y18:A 18 [fms [],row []] (num 0):=f0 []
section
variable {g:List Ty} {hs:List Fm} {j:Jt} {x:Tm} {us cs gs:List (List PV)} {w0 c0:Nat→Nat} {w1 c1:Nat→List (List PV)}
theorem y9 (h1:A 27 [fms [],qE4 g hs,j.p.p] (.tuple [j.ptr hs,num 0])) (h2:A 17 [qE4 g hs] (.tuple [.slice gs,num 0])) (h3:A 28 [j.p.p] (.bool false))
  (h4:O 30 [.loc 0 0,.pv (j.ptr hs),.pv (num (g.map Ty.c).length)] [(0,bx0),(1,tb0)] (.pv (.tuple [])) [(0,bx0),(1,tbl w0 c0 w1 c1)])
  (h5:O 31 [.loc 0 0,.pv (j.ptr hs),.pv (num (g.map Ty.c).length)] [(0,bx0),(1,tbl w0 c0 w1 c1)] (.pv (.agg (x.c++[.slice us,.slice cs]))) [(0,bx0),(1,tbl w0 c0 w1 c1)]) :
  A 9 [fms [],row [],qE4 g hs,j.p.p] (.tuple [.agg (x.c++[.slice us,.slice cs]),num 0]):=by
 have k4:=AC.ren qU5 h4
 have k5:=AC.ren qU5 h5
 have k4:O 30 [.loc 5 0,.pv (j.ptr hs),.pv (num (g.map Ty.c).length)] [(5,.box [.pv (.slice []),.map 4]),(4,tb0)] (.pv (.tuple [])) [(5,.box [.pv (.slice []),.map 4]),(4,tbl w0 c0 w1 c1)]:=k4
 have k5:O 31 [.loc 5 0,.pv (j.ptr hs),.pv (num (g.map Ty.c).length)] [(5,.box [.pv (.slice []),.map 4]),(4,tbl w0 c0 w1 c1)] (.pv (.agg (x.c++[.slice us,.slice cs]))) [(5,.box [.pv (.slice []),.map 4]),(4,tbl w0 c0 w1 c1)]:=k5
 let tp:Di:=[(20,.U [j.ptr hs,num 0]),(29,.N 0),(36,.U [.slice gs,num 0]),(44,.F),(56,.o [5] [(4,tbl w0 c0 w1 c1)] (.pv (.tuple []))),(62,.o [5,4] [] (.pv (.agg (x.c++[.slice us,.slice cs]))))]
 let y:PV:=.tuple [.agg (x.c++[.slice us,.slice cs]),num 0]
 have h0:(A 27 [fms [],qE4 g hs,j.p.p] (.tuple [j.ptr hs,num 0])∧A 18 [fms [],row []] (num 0)∧A 17 [qE4 g hs] (.tuple [.slice gs,num 0])∧A 28 [j.p.p] (.bool false) ∧ #[oA,oB] = #[oA,oB]∧zYx=zYx ∧
   O 30 [.loc 5 0,.pv (j.ptr hs),.pv (num (g.map Ty.c).length)] [(5,.box [.pv (.slice []),.map 4]),(4,tb0)] (.pv (.tuple [])) [(5,.box [.pv (.slice []),.map 4]),(4,tbl w0 c0 w1 c1)] ∧
   O 31 [.loc 5 0,.pv (j.ptr hs),.pv (num (g.map Ty.c).length)] [(5,.box [.pv (.slice []),.map 4]),(4,tbl w0 c0 w1 c1)] (.pv (.agg (x.c++[.slice us,.slice cs]))) [(5,.box [.pv (.slice []),.map 4]),(4,tbl w0 c0 w1 c1)]∧V.pv y=V.pv y) =
  zCp ev Tryz.prog 100 6 9 12 [fms [],row [],qE4 g hs,j.p.p] oA oB co9 zYx 46 29 tp y:=by kernel_rfl
 exact zZw evOK (Eq.mp h0 ⟨h1,y18,h2,h3,rfl,rfl,k4,k5,rfl⟩) zFq
end
section
variable {t u:Tm} (ht:NV t) (hu:NV u)
include ht hu
theorem y17:A 17 [qE4 [] [hq t u]] (.tuple [.slice [],num 0]):=f1 [32] (y41 (zYu (qDg ht hu)))
theorem zDx:SQ2 [] [] [hq t u]:=by
 obtain⟨c1,c2,c3,c4,s1,s2,k1,k2,_⟩:=qXl ht hu
 refine⟨nofun,by simp,nofun,by simp,fun f hf => ?_⟩
 cases List.mem_singleton.1 hf
 exact⟨Fm.chk_i (qDg ht hu).shp (qDg ht hu).cnt,⟨c3,ht.ty⟩,c4,hu.ty⟩
theorem zCd:(Jt.leaf false 0 (hq t u)).D [] [] [hq t u]:=⟨Fm.chk_i (qDg ht hu).shp (qDg ht hu).cnt,Nat.zero_lt_one,rfl⟩
theorem zFr:(anJ t u).D [] [] [hq t u]:=⟨Fm.chk_i (zVc ht hu).shp (zVc ht hu).cnt,zCd ht hu,zCd ht hu,rfl⟩
theorem y9a:A 9 [fms [],row [],qE4 [] [hq t u],(anJ t u).p.p] (.tuple [fnA t u,num 0]) :=
 y9 (j:=anJ t u) (w85 (zDx ht hu) (by decide) (anJ t u) (zFr ht hu) ⟨trivial,trivial⟩ (show 3≤16384 by decide)).1 (y17 ht hu) (f0 []) (zFp ht hu) (zDv ht hu)
theorem y9h:A 9 [fms [],row [],qE4 [] [hq t u],(Jt.leaf false 0 (hq t u)).p.p] (.tuple [fnH,num 0]) :=
 have h:=zYw ht hu
 y9 (j:=.leaf false 0 (hq t u)) (w85 (zDx ht hu) (by decide) (.leaf false 0 (hq t u)) (zCd ht hu) trivial (show 1≤16384 by decide)).1 (y17 ht hu) (f0 []) (zXg h) (zB3 h)
end
open Go.Lg
set_option maxRecDepth 100000
abbrev fE:Fm:=.q .ex .nat (.eq (.v 0) (.n1 .succ (.v 1)))
abbrev tE:Tm:=.n1 .succ (.v 0)
abbrev jR:Jt:=.refl tE
abbrev jE:Jt:=.ex false fE tE jR
abbrev jA:Jt:=.all false .nat jE
abbrev wa0:Nat→Nat
 | 8=>4
 | 10=>1
 | _=>5
abbrev wa1:Nat→List (List PV)
 | 8=>[[num 1,.slice []],[num 1,.slice []]]
 | _=>[]
abbrev ca0:Nat→Nat
 | 8=>1
 | _=>5
abbrev ca1:Nat→List (List PV):=fun _=>[]
abbrev tbA:Ob:=tbl wa0 ca0 wa1 ca1
abbrev bR:PV:=bth .unit .unit
abbrev bE:PV:=bth .nat .unit
abbrev bA:PV:=bth (.two true .nat .nat) .nat
abbrev fnX (x:Tm):PV:=.agg (x.c++[.slice [],.slice []])
theorem zDy:A 63 [jR.f.p] bR:=qDf 20 (by kernel_rfl)
theorem zDz:A 63 [jE.f.p] bE:=qDf 20 (by kernel_rfl)
theorem zFs:A 63 [jA.f.p] bA:=qDf 20 (by kernel_rfl)
theorem zD0:O 64 [.loc 0 0,.pv (jR.ptr [])] [(0,bx0),(1,tbA)] (.pv bR) [(0,bx0),(1,tbA)]:=y64 (x0:=18) (w0:=wa0) (c0:=ca0) (w1:=wa1) (c1:=ca1) zDy
theorem zCe:O 64 [.loc 0 0,.pv (jR.ptr [])] [(0,bx0),(1,tb0)] (.pv bR) [(0,bx0),(1,tbA)]:=zXd (x0:=18) (w0:=wa0) (c0:=ca0) (w1:=wa1) (c1:=ca1) zDy
theorem zD1:O 64 [.loc 0 0,.pv (jE.ptr [])] [(0,bx0),(1,tbA)] (.pv bE) [(0,bx0),(1,tbA)]:=y64 (x0:=10) (w0:=wa0) (c0:=ca0) (w1:=wa1) (c1:=ca1) zDz
theorem zFt:O 64 [.loc 0 0,.pv (jA.ptr [])] [(0,bx0),(1,tbA)] (.pv bA) [(0,bx0),(1,tbA)]:=y64 (x0:=8) (w0:=wa0) (c0:=ca0) (w1:=wa1) (c1:=ca1) zFs
theorem zFu:O 31 [.loc 0 0,.pv (jR.ptr []),.pv (num 1)] [(0,bx0),(1,tbA)] (.pv (fnX (.n0 .unit))) [(0,bx0),(1,tbA)] :=
 qTf 20 (m:=2) [] (Eq.refl (V.pv (fnX (.n0 .unit)),[(0,bx0),(1,tbA)])) (by kernel_rfl)
theorem zFv:O 31 [.loc 0 0,.pv (jE.ptr []),.pv (num 1)] [(0,bx0),(1,tbA)] (.pv (fnX tE)) [(0,bx0),(1,tbA)] :=
 qTf 20 (m:=2) [(69,.n [(217,.o [0,1] [] (.pv bR))])] (cj1 zD0 (Eq.refl (V.pv (fnX tE),[(0,bx0),(1,tbA)]))) (by kernel_rfl)
theorem zD2:O 31 [.loc 0 0,.pv (jA.ptr []),.pv (num 0)] [(0,bx0),(1,tbA)] (.pv (fnX (.lam .nat tE))) [(0,bx0),(1,tbA)] :=
 qTf 20 (m:=2) [(69,.n [(167,.o [0,1] [] (.pv bE)),(171,.n [(25,.n [(17,.n [(217,.o [0,1] [] (.pv bR))])])])])] (cj2 zD1 zD0 (Eq.refl (V.pv (fnX (.lam .nat tE)),[(0,bx0),(1,tbA)]))) (by kernel_rfl)
theorem zFw:O 30 [.loc 0 0,.pv (jR.ptr []),.pv (num 1)] [(0,bx0),(1,tb0)] (.pv (.tuple [])) [(0,bx0),(1,tbA)] :=
 qTf 20 (m:=2) [(70,.o [0] [(1,tbA)] (.pv bR)),(74,.o [0,1] [] (.pv (fnX (.n0 .unit))))] (cj2 zCe zFu (Eq.refl (V.pv (.tuple []),[(0,bx0),(1,tbA)]))) (by kernel_rfl)
theorem zFx:O 30 [.loc 0 0,.pv (jE.ptr []),.pv (num 1)] [(0,bx0),(1,tb0)] (.pv (.tuple [])) [(0,bx0),(1,tbA)] :=
 qTf 20 (m:=2) [(53,.o [0] [(1,tbA)] (.pv (.tuple []))),(66,.r bE),(70,.o [0,1] [] (.pv bE)),(74,.o [0,1] [] (.pv (fnX tE)))] (cj4 zFw zDz zD1 zFv (Eq.refl (V.pv (.tuple []),[(0,bx0),(1,tbA)]))) (by kernel_rfl)
theorem zFy:O 30 [.loc 0 0,.pv (jA.ptr []),.pv (num 0)] [(0,bx0),(1,tb0)] (.pv (.tuple [])) [(0,bx0),(1,tbA)] :=
 qTf 20 (m:=2) [(53,.o [0] [(1,tbA)] (.pv (.tuple []))),(70,.o [0,1] [] (.pv bA)),(74,.o [0,1] [] (.pv (fnX (.lam .nat tE))))] (cj3 zFx zFt zD2 (Eq.refl (V.pv (.tuple []),[(0,bx0),(1,tbA)]))) (by kernel_rfl)
theorem zFz:jA.D [] [] []:=by
 refine⟨by decide,by decide,?_,nofun⟩
 exact⟨⟨by decide,⟨by decide,rfl⟩,by decide,rfl⟩,by decide,⟨by decide,by decide,rfl⟩,.nat,.eq (.v 0) (.n1 .succ (.v 1)),.eq tE tE,rfl,rfl,rfl,.inl rfl,.inl rfl⟩
theorem k9:A 9 [fms [],row [],qE4 [] [],jA.p.p] (.tuple [fnX (.lam .nat tE),num 0]) :=
 y9 (g:=[]) (hs:=[]) (j:=jA) (w85 (ls:=[]) (g:=[]) (hs:=[]) ⟨nofun,by decide,nofun,by decide,nofun⟩ (by decide) jA zFz ⟨by decide,by decide,by decide,(by decide:tE.chk=0)⟩ (by decide)).1 (gs:=[]) (qDf 20 (by kernel_rfl)) (qDf 20 (by kernel_rfl)) zFy zD2
abbrev fFl:Fm:=.eq (.n0 .zero) (.n1 .succ (.n0 .zero))
theorem k16:A 16 [] fFl.p:=qDf 20 (by kernel_rfl)
theorem k17:A 17 [qE4 [.nat] []] (.tuple [tys [.nat],num 0]):=qDf 20 (by kernel_rfl)
theorem k4:A 4 [] (.bool true) :=
 f5 [41,46,52,59,104] k9 k16 (y9h (t:=qZt 0) (u:=qZt 1) ((qV0 [.nat] (by decide)).mono (by decide) (by decide)) ((qV0 [.nat] (by decide)).mono (by decide) (by decide))) k17 y18
open Go.Lg
set_option maxRecDepth 100000
theorem qWr (s:Tm):∀ (t:Tm) (d:Nat),t.sc d→t.put 0 s d=t
 | .v i,d,h=>by
  have h:i<d:=h
  simp only [Tm.put,Nat.zero_add]
  rw [if_neg (by omega),if_neg (by omega)]
 | .lam u b,d,h=>congrArg _ (qWr s b (d+1) h)
 | .n0 _,_,_=>rfl
 | .n1 k a,d,h=>congrArg _ (qWr s a d h)
 | .n2 k a b,d,h=>by simp only [Tm.put];rw [qWr s a d h.1,qWr s b d h.2]
 | .n3 k u a b c,d,h=>by simp only [Tm.put];rw [qWr s a d h.1,qWr s b d h.2.1,qWr s c d h.2.2]
theorem qAr:∀ (t:Tm) (d:Nat),t.sc d→t.occ d=0
 | .v i,d,h=>by
  have h:i<d:=h
  simp only [Tm.occ]
  rw [if_neg (by omega)]
 | .lam u b,d,h=>qAr b (d+1) h
 | .n0 _,_,_=>rfl
 | .n1 k a,d,h=>qAr a d h
 | .n2 k a b,d,h=>by simp only [Tm.occ];rw [qAr a d h.1,qAr b d h.2]
 | .n3 k u a b c,d,h=>by simp only [Tm.occ];rw [qAr a d h.1,qAr b d h.2.1,qAr c d h.2.2]
section
variable {t u:Tm} (ht:NV t) (hu:NV u) {m n:Nat} (hm:m<6) (hn:n<6)
include ht hu
theorem qU6:(chA t u).put 0 (qQy m n) 0=qPz t u (qQy m n) (qQy m n):=by
 have h1:=qWr (qQy m n) t 1 ht.sc
 have h2:=qWr (qQy m n) u 1 hu.sc
 have h3:distT.put 0 (qQy m n) 1=distT:=qWr _ distT 1 (qOz 1).sc
 have e:∀ c z,(qQy m n).sh c z=qQy m n:=fun c z=>by simp only [Tm.sh,qDe]
 simp [Tm.put,h1,h2,h3,e]
theorem qU7:(chA t u).occ 0=2:=by
 have h1:=qAr t 1 ht.sc
 have h2:=qAr u 1 hu.sc
 have h3:distT.occ 1=0:=qAr distT 1 (qOz 1).sc
 simp [Tm.occ,h1,h2,h3]
theorem zCf:(apart t u).tyR [.nat] = .ok .nat:=qQ5 (qQ5 (by rfl:distT.tyR [.nat] = .ok (.two true .nat (.two true .nat .nat))) ht.ty) hu.ty
theorem zXs:(qU1 t u).tyR [.nat] = .ok .nat:=qGy (by rfl) (by rfl) (zCf ht hu)
omit ht hu in
theorem qO5 (G:List Ty):(qQy m n).tyR G = .ok (.two false .nat .nat):=qJk (qW1 G m) (qW1 G n) (by decide)
omit ht hu in
theorem zXt {G:List Ty} {a:Tm} (h:a.tyR G = .ok .nat):(idT a).tyR G = .ok .nat:=qQ5 (qZ7 (by simp [Tm.tyR,tyV]) (by decide)) h
theorem zCg:(qPz t u (qQy m n) (qQy m n)).tyR [] = .ok .nat :=
 qQ5 (qZ7 (qGy (by rfl) (qC8 (zXt (qOw (qO5 _))) (by decide)) (zXs ht hu)) (by decide)) (zXt (qOv (qO5 [])))
include hm hn
omit ht hu in
theorem qO6:(qQy m n).cnt≤13∧(qQy m n).tsz=0∧(qQy m n).mx=0∧(qQy m n).chk=0:=by
 have e:(qQy m n).cnt=1+(m+1)+(n+1):=by show 1+_+_=_;rw [qWh,qWh]
 have h1:(qQy m n).tsz=0:=by show max _ _=0;rw [qWi,qWi];rfl
 have h2:(qQy m n).mx=0:=by show max _ _=0;rw [qAc,qAc];rfl
 exact⟨by omega,h1,h2,Tm.chk_i (qV1 _ (by omega)) (by omega)⟩
theorem zCh:CN (qPz t u (qQy m n) (qQy m n)):=by
 obtain⟨b1,b2,_⟩:=qO6 hm hn
 have h1:=qK5 0 (qQy m n) (chA t u) 0
 rw [qU6 ht hu,show 0+0=0 from rfl,qU7 ht hu] at h1
 have h2:=qG2 ht hu
 have h3:(qPz t u (qQy m n) (qQy m n)).tsz≤3:=by
  have z1:=ht.tsz
  have z2:=hu.tsz
  have z3:distT.tsz≤1:=by decide
  simp only [Tm.tsz] at b2 ⊢
  simp only [Ty.size]
  omega
 have hmd:=qQh
 exact⟨Tm.chk_i (qV1 _ (by omega)) (by omega),by omega,by omega,zCg ht hu⟩
theorem y33:A 33 [(chA t u).p,num 0,(qQy m n).p] (.tuple [(qPz t u (qQy m n) (qQy m n)).p,num 0]):=by
 have hmd:=qQh
 have hb:=qQk
 obtain⟨b1,b2,b3,b4⟩:=qO6 hm hn
 have c:=qG2 ht hu
 have z:(chA t u).tsz≤3:=by
  have z1:=ht.tsz
  have z2:=hu.tsz
  have z3:distT.tsz≤1:=by decide
  simp only [Tm.tsz,Ty.size]
  omega
 have x:(chA t u).mx≤300:=by
  have x1:=qC2 t 1 ht.sc
  have x2:=qC2 u 1 hu.sc
  have x3:distT.mx≤5:=by decide
  have x4:=ht.cnt
  have x5:=hu.cnt
  simp only [Tm.mx]
  omega
 have g1:=a31 (chA t u) (by omega) (by omega)
 rw [Tm.chk_i (qV1 _ (by omega)) (by omega)] at g1
 have g2:=a31 (qQy m n) (by omega) (by omega)
 rw [b4] at g2
 obtain⟨p,g3,q3⟩:=qLt (chA t u) 536870912
 obtain⟨q,g4,q4⟩:=qLt (qQy m n) 536870912
 rw [q3.2 (by omega)] at g3
 rw [q4.2 (by omega)] at g4
 have g5:=a87 (chA t u) (by omega)
 have g6:=qPp (chA t u) 0 (by omega)
 rw [qU7 ht hu] at g6
 have g7:=a87 (qQy m n) (by omega)
 have g8:=qFg (qR3 (qQy m n)) (by omega)
 have g9:=zW6 (a:=2) (b:=(qQy m n).cnt-1) (by omega)
 have g10:=qCy (a:=(chA t u).cnt) (b:=2 * ((qQy m n).cnt-1)) (by omega)
 have hq:5000≤mid * mid:=by decide
 have g11:=qPq (chA t u) 0 0 (qQy m n) (by omega) (by omega) (Nat.le_trans (by omega) hq) (by omega)
 rw [qU6 ht hu] at g11
 exact f13 [11,24,30,34,39,42,44,45,(46,.ok),(47,.ok),48,53,54] g1 g2 g3 g4 g5 g6 g7 g8 g9 g10 (qZ4 (show (chA t u).cnt+2 * ((qQy m n).cnt-1)≤4096 by omega)) g11 (a65 (qPz t u (qQy m n) (qQy m n)))
theorem y13:A 13 [(chA t u).p,row [qQy m n]] (.tuple [(qPz t u (qQy m n) (qQy m n)).p,.bool true]):=f1 [22] (y33 ht hu hm hn)
end
theorem y8 {L:List Int} (hL:Dk L):∃ t u b,NV t∧NV u∧b≤L.length∧O 8 [.loc 0 0,.pv (tys [.nat]),.pv (num 0)] [(0,dk L 0)] (.pv (Fm.eq t u).p) [(0,dk L b)]:=by
 have hg:∀ s∈[Ty.nat],s.size≤3:=fun s h=>by cases List.mem_singleton.1 h;decide
 obtain⟨t,b,q1,hb,g1⟩:=h28 hL (S:=3) (Nat.le_refl _) (by omega) 1 .nat [.nat] 0 (by decide) hg (by decide) (Nat.zero_le _)
 obtain⟨u,c,q2,hc,g2⟩:=h28 hL (S:=3) (Nat.le_refl _) (by omega) 1 .nat [.nat] b (by decide) hg (by decide) hb
 exact⟨t,u,c,q1,q2,hc,o4 1 [10,69,73,74] a42 g1 g2 (a43 t u)⟩
theorem a5 (L:List Int):A 5 [.slice (L.map zc1)] (.bool (decide (L.length≤500))):=by
 by_cases h:L.length≤500
 ·have e:(!ltI (.ofNat 500) (.ofNat (L.map zc1).length))=true:=by rw [qZ4 (by simp_all)];rfl
  rw [decide_eq_true h]
  exact f1 [5] e
 ·have e:(!ltI (.ofNat 500) (.ofNat (L.map zc1).length))=false:=by rw [qWz (by simp_all)];rfl
  rw [decide_eq_false h]
  exact f1 [5] e
theorem zD3 (k:Nat):(!eqI 6 0)=true∧(Int.ofNat k).tmod 6 = .ofNat (k % 6):=⟨rfl,rfl⟩
theorem y10 {e:Nat} (h:Lm e):A 10 [num e] (.bool true):=by
 have h:e=3∨e=4∨e=5:=by have h:=h;simp only [Lm] at h;omega
 rcases h with rfl|rfl|rfl<;>exact f0 []
theorem zF0:A 10 [num 0] (.bool false):=f0 []
theorem qAs {k:Nat} (h:k≤255):ro (match qHi (IntKind.i64.wrap (.ofNat k)) with
  | some y=>some y
  | none=>none)=some ⟨.pv (.int (.ofNat k)),none,false⟩:=by
 have hb:=qQk
 have e:IntKind.i64.wrap (Int.ofNat k) = .ofNat k:=qBr (by constructor<;>(simp only [Int.ofNat_eq_natCast];omega))
 rw [e]
 unfold qHi
 rw [inN (show k≤_ by omega)]
 rfl
theorem zVd {L:List Int} (hr:∀ z∈L,-9223372036854775808≤z∧z≤9223372036854775807) {k l:Nat} (hk:k≤255) (hl:l≤255):A 3 [.slice (L.map zc1),u8 k,u8 l] (.bool true):=by
 have gf:=a5 L
 by_cases hlen:L.length≤500
 rotate_left
 ·rw [decide_eq_false hlen] at gf
  exact f3 [24,28,31] k4 gf k4
 rw [decide_eq_true hlen] at gf
 have hL:Dk L:=⟨hlen,hr⟩
 obtain⟨t,u,b,ht,hu,hb,g1⟩:=y8 hL
 have g2:=y9a ht hu
 have hm:k % 6<6:=Nat.mod_lt _ (by decide)
 have hn:l % 6<6:=Nat.mod_lt _ (by decide)
 generalize hM:k % 6=m at hm
 generalize hN:l % 6=n at hn
 have g3:=zD3 k
 have g4:=zD3 l
 rw [hM] at g3
 rw [hN] at g4
 have g7:=y13 ht hu hm hn
 rcases y14 (zCh ht hu hm hn) (w:=40000) (by decide) with ⟨v,a',q1,q2,q3⟩|q3
 ·rcases y15 ht hu hm with ⟨a,b',k',p1,p2,p3⟩|⟨e,he,p3⟩
  ·have hv:=zXm q1 p1 p2
   by_cases hab:a=b'
   ·rw [if_pos hab] at hv
    rw [decide_eq_true hab] at p3
    subst hv
    exact f14 [24,28,39,51,(70,.w ⟨.pv (num k),none,false⟩),(71,.z m),(73,.w ⟨.pv (num l),none,false⟩),(74,.z v),76,78,88,95,107,127] k4 gf g1 g2 (qAs hk) g3 (qAs hl) g4 (y12 hm) (y12 hn) g7 q3 p3 (qLg v)
   ·rw [if_neg hab] at hv
    rw [decide_eq_false hab] at p3
    subst hv
    exact f14 [24,28,39,51,(70,.w ⟨.pv (num k),none,false⟩),(71,.z v),(73,.w ⟨.pv (num l),none,false⟩),(74,.z n),76,78,88,95,107,131] k4 gf g1 g2 (qAs hk) g3 (qAs hl) g4 (y12 hm) (y12 hn) g7 q3 p3 (qLg v)
  ·have he':e=3∨e=4∨e=5:=by have h:=he;simp only [Lm] at h;omega
   rcases he' with rfl|rfl|rfl<;>exact f15 [24,28,39,51,(70,.w ⟨.pv (num k),none,false⟩),(71,.z m),(73,.w ⟨.pv (num l),none,false⟩),(74,.z n),76,78,88,95,107,118,121] k4 gf g1 g2 (qAs hk) g3 (qAs hl) g4 (y12 hm) (y12 hn) g7 q3 p3 zF0 (y10 he)
 ·rcases y15 ht hu hm with ⟨a,b',k',p1,p2,p3⟩|⟨e,he,p3⟩
  ·exact f14 [24,28,39,51,(70,.w ⟨.pv (num k),none,false⟩),(71,.z m),(73,.w ⟨.pv (num l),none,false⟩),(74,.z n),76,78,88,95,107,118] k4 gf g1 g2 (qAs hk) g3 (qAs hl) g4 (y12 hm) (y12 hn) g7 q3 p3 (y10 (e:=5) (by decide))
  ·exact f14 [24,28,39,51,(70,.w ⟨.pv (num k),none,false⟩),(71,.z m),(73,.w ⟨.pv (num l),none,false⟩),(74,.z n),76,78,88,95,107,118] k4 gf g1 g2 (qAs hk) g3 (qAs hl) g4 (y12 hm) (y12 hn) g7 q3 p3 (y10 (e:=5) (by decide))
end Go.Proofs.YtbbbnbikmbaejaaGreatDoor
