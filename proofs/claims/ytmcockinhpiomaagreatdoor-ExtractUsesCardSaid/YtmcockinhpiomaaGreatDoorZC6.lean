/- Contracts of functions; no conditions. -/
import Derived.Test.YtmcockinhpiomaaGreatDoorZC5
import Derived.Test.YtmcockinhpiomaaGreatDoorZC2
import Derived.WalkKit
import Derived.Laws.Bits64b
import Derived.Lib.TrailingZeros
set_option linter.all false
set_option maxHeartbeats 4000000
namespace Go.Proofs.YtmcockinhpiomaaGreatDoor
open Go.Lg
set_option maxRecDepth 100000
theorem FK.tsz {n:Nat} {f:Fm} (h:FK n f):f.tsz≤mid:=by
 have hm:=qQc
 have:=qJi f h.shp
 omega
theorem FK.cn {n:Nat} {f:Fm} (h:FK n f):f.cnt≤mid:=by
 have hm:=qQc
 have:=h.cnt
 omega
theorem zXw {ls:List Fm} {p:Pf} (h:KI ls p) {g:List Ty} {H:List (Fm × Nat)} (hp:PlOK g H) (k:Nat):∃ (y:Sy) (z:Int) (e:Nat),U32 z∧O 234 [.loc 4 0,.pv p.p,.pv (plc g H),.pv (num k)] (ckO ls) (.pv (qQ4 y z e)) (ckO ls)∧(e=0→∃ j:Jt,j.p=p∧y=j.f.y∧j.f.kd=k∧FK g.length j.f∧j.OK ls g.length (vw g.length H)):=by
 obtain⟨y,z,e,hz,g1,q⟩:=h g H hp
 cases e with
 | succ e=>exact⟨y,z,e+1,hz,o1 5 [(16,.o [3,4] [] (.pv (qQ4 y z (e+1))))] g1,nofun⟩
 | zero =>
  obtain⟨j,k1,rfl,k2,k3⟩:=q rfl
  by_cases e:j.f.kd=k
  ·exact⟨j.f.y,z,0,hz,o2 5 [(16,.o [3,4] [] (.pv (qQ4 j.f.y z 0))),(26,.H)] g1 (qJc e),fun _=>⟨j,k1,rfl,e,k2,k3⟩⟩
  ·exact⟨.z,0,10,qJj,o2 5 [(16,.o [3,4] [] (.pv (qQ4 j.f.y z 0))),(26,.G)] g1 (qX4 e),nofun⟩
theorem zXx {ls:List Fm} {p:Pf} (h:KI ls p) {g:List Ty} {H:List (Fm × Nat)} (hp:PlOK g H) {f:Fm} {t:Tm} (hf:FK (g.length+1) f) (ht:TK g.length t):∃ (y:Sy) (z:Int) (e:Nat),U32 z∧O 244 [.loc 4 0,.pv p.p,.pv (plc g H),.pv f.p,.pv t.p] (ckO ls) (.pv (qQ4 y z e)) (ckO ls)∧(e=0→∃ j:Jt,j.p=p∧y=j.f.y∧FK g.length j.f∧j.f.sp=f.sp∧j.OK ls g.length (vw g.length H)):=by
 have hl:lim=100000:=rfl
 have hg:=hp.gl
 obtain⟨y,z,e,hz,g1,q⟩:=h g H hp
 cases e with
 | succ e=>exact⟨.z,0,e+1,qJj,o1 5 [(19,.o [3,4] [] (.pv (qQ4 y z (e+1))))] g1,nofun⟩
 | zero =>
  obtain⟨j,k1,rfl,k2,k3⟩:=q rfl
  have g2:=zXu hf ht (by omega)
  cases e:f.pt t with
  | er n =>
   rw [e] at g2
   exact⟨.z,0,n+1,qJj,o2 5 [(19,.o [3,4] [] (.pv (qQ4 j.f.y z 0))),(29,.r (FR.er n).p)] g1 g2,nofun⟩
  | ok w =>
   rw [e] at g2
   obtain⟨rfl,hw⟩:=hf.pt ht e
   obtain⟨e',g3,q3⟩:=zGw hw k2 (by omega)
   exact⟨j.f.y,z,e',hz,o3 5 [(19,.o [3,4] [] (.pv (qQ4 j.f.y z 0))),(29,.r (FR.ok (f.put 0 t 0)).p),(40,.N e')] g1 g2 g3,fun h=>⟨j,k1,rfl,k2,(q3 h).symm.trans (qJ9 0 t f 0),k3⟩⟩
theorem qU0 {ls:List Fm} {i:Nat} : KR ls 171 (.leaf false i):=by
 intro g H hp
 rcases zIy g H hp i with ⟨_,g1⟩|⟨f,h1,h2,h3,g1⟩
 ·exact⟨.z,0,8,qJj,o1 5 [(14,.U [.agg zF,.bool false])] g1,nofun⟩
 ·exact⟨f.y,0,0,qJj,o1 5 [(14,.U [f.p,.bool true])] g1,fun _=>⟨.leaf false i f,rfl,rfl,h3.sc,h3.cn,h3.tsz,fun h=>⟨h,by rw [zJs];exact h1,by rw [zJs];exact h2⟩⟩⟩
theorem qU1 {ls:List Fm} {i:Nat} (hl:∀ f∈ls,FK 0 f):KR ls 172 (.leaf true i):=by
 intro g H hp
 by_cases h:i<ls.length
 ·obtain⟨f,hj⟩:∃ x,ls[i]? = some x:=⟨_,List.getElem?_eq_getElem h⟩
  have h3:FK g.length f:=(hl f (List.mem_of_getElem? hj)).up (Nat.zero_le _)
  exact⟨f.y,0,0,qJj,o2 5 [(15,.H),(23,.i f.c)] (qNk (a:=i) (b:=(ls.map Fm.c).length) (by simpa using h)) (qQi hj Fm.c_len),fun _=>⟨.leaf true i f,rfl,rfl,h3.sc,h3.cn,h3.tsz,fun h=>⟨h,hj⟩⟩⟩
 ·exact⟨.z,0,9,qJj,o1 5 [(15,.G)] (qP7 (a:=i) (b:=(ls.map Fm.c).length) (by simpa using Nat.le_of_not_lt h)),nofun⟩
theorem zKa {ls:List Fm} {a b:Pf} (Ha:KI ls a) (Hb:KI ls b):KR ls 173 (.p2 .andI a b):=by
 intro g H hp
 obtain⟨y,z,e,hz,g1,q⟩:=Ha g H hp
 cases e with
 | succ e=>exact⟨.z,0,e+1,qJj,o1 5 [(18,.o [3,4] [] (.pv (qQ4 y z (e+1))))] g1,nofun⟩
 | zero =>
  obtain⟨j,rfl,rfl,k2,k3⟩:=q rfl
  obtain⟨y',z',e,hz',g2,q'⟩:=Hb g H hp
  cases e with
  | succ e=>exact⟨.z,0,e+1,qJj,o2 5 [(18,.o [3,4] [] (.pv (qQ4 j.f.y z 0))),(32,.o [3,4] [] (.pv (qQ4 y' z' (e+1))))] g1 g2,nofun⟩
  | zero =>
   obtain⟨i,rfl,rfl,k4,k5⟩:=q' rfl
   have hm:=qQc
   have:=k2.cnt
   have:=k4.cnt
   have:=k2.tsz
   have:=k4.tsz
   exact⟨(Fm.bin .and j.f i.f).y,qQm .or .u32 z z',0,qVa _ _ _,o3 5 [(18,.o [3,4] [] (.pv (qQ4 j.f.y z 0))),(32,.o [3,4] [] (.pv (qQ4 i.f.y z' 0))),(49,.v (u32 (qQm .or .u32 z z')))] g1 g2 (qIp z z'),
    fun _=>⟨.p2 .andI j i (.bin .and j.f i.f),rfl,rfl,⟨k2.sc,k4.sc⟩,by simp only [Jt.f,Fm.cnt];omega,by simp only [Jt.f,Fm.tsz];omega,fun h=>⟨h,k3,k5,rfl⟩⟩⟩
theorem zAz {f:Fm} (h:f.kd=2):∃ x y,f = .bin .and x y:=by
 cases f with
 | eq a b=>cases h
 | bin k a b=>cases k with
  | and=>exact⟨a,b,rfl⟩
  | imp=>cases h
 | q k s f=>cases k<;>cases h
theorem zA0 {f:Fm} (h:f.kd=3):∃ x y,f = .bin .imp x y:=by
 cases f with
 | eq a b=>cases h
 | bin k a b=>cases k with
  | and=>cases h
  | imp=>exact⟨a,b,rfl⟩
 | q k s f=>cases k<;>cases h
theorem zJt {ls:List Fm} {a:Pf} (r:Bool) (Ha:KI ls a):KR ls 174 (.p1 (match r with|false => .andL|true => .andR) a):=by
 intro g H hp
 obtain⟨y,z,e,hz,g1,q⟩:=zXw Ha hp 2
 cases e with
 | succ e=>exact⟨.z,0,e+1,qJj,by cases r<;>exact o1 5 [(18,.o [3,4] [] (.pv (qQ4 y z (e+1))))] g1,nofun⟩
 | zero =>
  obtain⟨j,rfl,rfl,k0,k2,k3⟩:=q rfl
  obtain⟨x,w,e⟩:=zAz k0
  rw [e] at g1 k2
  have h1:=k2.bin1
  have h2:=k2.bin2
  cases r
  ·exact⟨x.y,z,0,hz,o1 5 [(18,.o [3,4] [] (.pv (qQ4 (Fm.bin .and x w).y z 0)))] g1,fun _=>⟨.p1 .andL j x,rfl,rfl,h1.sc,h1.cn,h1.tsz,fun h=>⟨h,k3,w,e⟩⟩⟩
  ·exact⟨w.y,z,0,hz,o1 5 [(18,.o [3,4] [] (.pv (qQ4 (Fm.bin .and x w).y z 0)))] g1,fun _=>⟨.p1 .andR j w,rfl,rfl,h2.sc,h2.cn,h2.tsz,fun h=>⟨h,k3,x,e⟩⟩⟩
theorem PlOK.with {g:List Ty} {H:List (Fm × Nat)} (h:PlOK g H) {f:Fm} (hf:FK g.length f) (hl:H.length+1≤16):PlOK g (H++[(f,g.length)]):=by
 refine⟨h.gl,h.gs,by simp;omega,fun x hx => ?_⟩
 rcases List.mem_append.1 hx with hx|hx
 ·exact h.hs x hx
 ·simp at hx
  subst hx
  exact⟨hf,Nat.le_refl _⟩
theorem qE2 (n:Nat) (H:List (Fm × Nat)) (f:Fm):vw n (H++[(f,n)])=vw n H++[f]:=by
 simp only [vw,List.map_append,List.map_cons,List.map_nil,Nat.sub_self,qNo]
theorem zKb {ls:List Fm} {f:Fm} {a:Pf} (hf:f.chk=0) (Ha:KI ls a):KR ls 175 (.impI f a):=by
 intro g H hp
 have hm:=qQc
 have hg:=hp.gl
 have hl:=hp.hl
 have hcf:=(Fm.chk0 hf).1
 obtain⟨e,g1,q1⟩:=qUm f g hp.gs (Fm.chk0 hf).2 (by omega)
 cases e with
 | succ e=>exact⟨.z,0,e+1,qJj,o1 5 [(20,.N (e+1))] g1,nofun⟩
 | zero =>
  have hF:FK g.length f:=⟨hcf,(Fm.chk0 hf).2,q1 rfl⟩
  obtain⟨e,g2,q2⟩:=zAx g.length (H.map hyc).length 0 1 (by omega) (by simp;omega)
  cases e with
  | succ e=>exact⟨.z,0,e+1,qJj,o2 5 [(20,.N 0),(27,.N (e+1))] g1 g2,nofun⟩
  | zero =>
   have hb:=(q2 rfl).2
   have hp':=hp.with hF (by simpa using hb)
   have g3:=zXv g H f (by omega)
   obtain⟨y,z,e,hz,g4,q4⟩:=Ha g _ hp'
   cases e with
   | succ e=>exact⟨.z,0,e+1,qJj,o4 5 [(20,.N 0),(27,.N 0),(40,.r (plc g (H++[(f,g.length)]))),(41,.o [3,4] [] (.pv (qQ4 y z (e+1))))] g1 g2 g3 g4,nofun⟩
   | zero =>
    obtain⟨j,rfl,rfl,k2,k3⟩:=q4 rfl
    rw [qE2] at k3
    have:=k2.cnt
    have:=k2.tsz
    have:=hF.tsz
    exact⟨(Fm.bin .imp f j.f).y,z,0,hz,o4 5 [(20,.N 0),(27,.N 0),(40,.r (plc g (H++[(f,g.length)]))),(41,.o [3,4] [] (.pv (qQ4 j.f.y z 0)))] g1 g2 g3 g4,
     fun _=>⟨.impI f j,rfl,rfl,⟨hF.sc,k2.sc⟩,by simp only [Jt.f,Fm.cnt];omega,by simp only [Jt.f,Fm.tsz];omega,fun h=>⟨hF,h,k3⟩⟩⟩
theorem zKc {ls:List Fm} {a b:Pf} (Ha:KI ls a) (Hb:KI ls b):KR ls 176 (.p2 .impE a b):=by
 intro g H hp
 have hg:=hp.gl
 obtain⟨y,z,e,hz,g1,q⟩:=zXw Ha hp 3
 cases e with
 | succ e=>exact⟨.z,0,e+1,qJj,o1 5 [(19,.o [3,4] [] (.pv (qQ4 y z (e+1))))] g1,nofun⟩
 | zero =>
  obtain⟨j,rfl,rfl,k0,k2,k3⟩:=q rfl
  obtain⟨x,w,e0⟩:=zA0 k0
  rw [e0] at g1 k2
  have h1:=k2.bin1
  have h2:=k2.bin2
  obtain⟨y',z',e,hz',g2,q'⟩:=Hb g H hp
  cases e with
  | succ e=>exact⟨.z,0,e+1,qJj,o2 5 [(19,.o [3,4] [] (.pv (qQ4 (Fm.bin .imp x w).y z 0))),(33,.o [3,4] [] (.pv (qQ4 y' z' (e+1))))] g1 g2,nofun⟩
  | zero =>
   obtain⟨i,rfl,rfl,k4,k5⟩:=q' rfl
   obtain⟨e,g3,q3⟩:=zGw h1 k4 (by omega)
   cases e with
   | succ e=>exact⟨.z,0,e+1,qJj,o3 5 [(19,.o [3,4] [] (.pv (qQ4 (Fm.bin .imp x w).y z 0))),(33,.o [3,4] [] (.pv (qQ4 i.f.y z' 0))),(47,.N (e+1))] g1 g2 g3,nofun⟩
   | zero =>
    exact⟨w.y,qQm .or .u32 z z',0,qVa _ _ _,o4 5 [(19,.o [3,4] [] (.pv (qQ4 (Fm.bin .imp x w).y z 0))),(33,.o [3,4] [] (.pv (qQ4 i.f.y z' 0))),(47,.N 0),(61,.v (u32 (qQm .or .u32 z z')))] g1 g2 g3 (qIp z z'),
     fun _=>⟨.p2 .impE j i w,rfl,rfl,h2.sc,h2.cn,h2.tsz,fun h=>⟨h,k3,k5,x,e0⟩⟩⟩
theorem PlOK.below1 {g:List Ty} {H:List (Fm × Nat)} (h:PlOK g H) {s:Ty} (hs:s.size≤64) (hl:g.length+1≤16):PlOK (g++[s]) H:=by
 refine⟨by simp;omega,fun x hx => ?_,h.hl,fun x hx => ?_⟩
 ·rcases List.mem_append.1 hx with hx|hx
  ·exact h.gs x hx
  ·simp at hx
   subst hx
   exact hs
 ·have:=h.hs x hx
  exact⟨this.1,by simp;omega⟩
theorem PlOK.below2 {g:List Ty} {H:List (Fm × Nat)} (h:PlOK g H) {s u:Ty} (hs:s.size≤64) (hu:u.size≤64) (hl:g.length+2≤16):PlOK (g++[s,u]) H:=by
 refine⟨by simp;omega,fun x hx => ?_,h.hl,fun x hx => ?_⟩
 ·rcases List.mem_append.1 hx with hx|hx
  ·exact h.gs x hx
  ·simp at hx
   rcases hx with rfl|rfl
   ·exact hs
   ·exact hu
 ·have:=h.hs x hx
  exact⟨this.1,by simp;omega⟩
theorem qRp (k n:Nat):∀ (H:List (Fm × Nat)),(∀ h∈H,h.2≤n)→vw (n+k) H=upH k (vw n H)
 | [],_=>rfl
 | (f,v)::H,h=>by
  have h1:=qRp k n H (fun x hx=>h x (by simp [hx]))
  have h2:v≤n:=h (f,v) (by simp)
  simp only [vw,upH,List.map_cons] at h1 ⊢
  rw [h1,qL1,show n-v+k=n+k-v by omega]
theorem zA1 {ls:List Fm} {u:Bool} {s:Ty} {a:Pf} (hs:s.size≤64) (Ha:KI ls a):KR ls 177 (.all u s a):=by
 intro g H hp
 have hm:=qQc
 have hb:=qQh
 have hg:=hp.gl
 have hl:=hp.hl
 obtain⟨e,g1,q1⟩:=zAx g.length (H.map hyc).length 1 0 (by omega) (by simp;omega)
 cases e with
 | succ e=>exact⟨.z,0,e+1,qJj,by cases u<;>exact o1 5 [(14,.N (e+1))] g1,nofun⟩
 | zero =>
  have hn:=(q1 rfl).1
  have hp':=hp.below1 hs hn
  have g2:=qRo g H s (by omega) (by omega)
  obtain⟨y,z,e,hz,g3,q3⟩:=Ha _ H hp'
  cases e with
  | succ e=>exact⟨.z,0,e+1,qJj,by cases u<;>exact o3 5 [(14,.N 0),(29,.r (plc (g++[s]) H)),(30,.o [3,4] [] (.pv (qQ4 y z (e+1))))] g1 g2 g3,nofun⟩
  | zero =>
   obtain⟨j,rfl,rfl,k2,k3⟩:=q3 rfl
   have e1:(g++[s]).length=g.length+1:=by simp
   rw [e1] at k2 k3
   rw [qRp 1 g.length H (fun x hx=>(hp.hs x hx).2)] at k3
   have c1:=k2.cnt
   have c2:=k2.tsz
   obtain⟨z',hz',g4⟩:=zC2 z 1 hz
   have fin:∀ u,∃ j':Jt,j'.p = .all u s j.p∧(Fm.q (aq u) s j.f).y=j'.f.y∧j'.f.sc g.length∧j'.f.cnt≤mid∧j'.f.tsz≤mid∧(FK g.length j'.f→j'.OK ls g.length (vw g.length H)) :=
    fun u=>⟨.all u s j,rfl,rfl,k2.sc,by simp only [Jt.f,Fm.cnt];omega,by simp only [Jt.f,Fm.tsz];omega,fun h=>⟨hs,h,k3⟩⟩
   cases u
   ·exact⟨(Fm.q .all s j.f).y,z',0,hz',o4 5 [(14,.N 0),(29,.r (plc (g++[s]) H)),(30,.o [3,4] [] (.pv (qQ4 j.f.y z 0))),(53,.r (u32 z'))] g1 g2 g3 g4,fun _=>fin false⟩
   ·cases e : !eqI (qQm .and .u32 z 1) 0
    ·exact⟨(Fm.q .allU s j.f).y,z',0,hz',o6 5 [(14,.N 0),(29,.r (plc (g++[s]) H)),(30,.o [3,4] [] (.pv (qQ4 j.f.y z 0))),(42,.v (u32 (qQm .and .u32 z 1))),(43,.H),(53,.r (u32 z'))] g1 g2 g3 (qRl z 1) e g4,fun _=>fin true⟩
    ·exact⟨.z,0,12,qJj,o5 5 [(14,.N 0),(29,.r (plc (g++[s]) H)),(30,.o [3,4] [] (.pv (qQ4 j.f.y z 0))),(42,.v (u32 (qQm .and .u32 z 1))),(43,.G)] g1 g2 g3 (qRl z 1) e,nofun⟩
theorem zG4 (s u:Ty) (h:u.size≤64):∃ r,A 241 [.agg (szc s),u.p] (.bool r):=by
 have hb:=qQh
 obtain⟨r,g⟩:=zEb s u
 exact⟨r,f2 [(7,.r (.agg (szc u))),(8,.r (.bool r))] (qEu u (by omega)) g⟩
theorem qRq {f:Fm} {k:FQ} (h:f.kd=k.n):∃ s x,f = .q k s x:=by
 cases f with
 | eq a b=>cases k<;>cases h
 | bin l a b=>cases l<;>cases k<;>cases h
 | q l s x=>exact⟨s,x,by rw [FQ.inj h]⟩
def FR.y:FR→Sy
 | .ok f=>f.y
 | .er _ => .z
theorem zA2 {ls:List Fm} {u:Bool} {t:Tm} {a:Pf} (ht:t.chk=0) (Ha:KI ls a):KR ls 178 (.ins u t a):=by
 intro g H hp
 have hm:=qQc
 have hb:=qQh
 have hg:=hp.gl
 have hlm:lim=100000:=rfl
 obtain⟨hct,hst⟩:=Tm.chk0 ht
 obtain⟨r,g1,q1,q2⟩:=a94 t g hp.gs hst (by omega)
 cases r with
 | er e=>exact⟨.z,0,e+1,qJj,by cases u<;>exact o1 5 [(23,.r (TR.er e).q)] g1,nofun⟩
 | ok w =>
  have hT:TK g.length t:=⟨hct,hst,q2 w rfl⟩
  obtain⟨z1,hz1,g2⟩:=hT.a240 (by omega)
  obtain⟨y,z,e,hz,g3,q⟩:=zXw Ha hp (aq u).n
  cases e with
  | succ e=>exact⟨.z,0,e+1,qJj,by cases u<;>exact o3 5 [(23,.r (TR.ok w).q),(31,.r (u32 z1)),(43,.o [3,4] [] (.pv (qQ4 y z (e+1))))] g1 g2 g3,nofun⟩
  | zero =>
   obtain⟨j,rfl,rfl,k0,k2,k3⟩:=q rfl
   obtain⟨s,x,e0⟩:=qRq k0
   rw [e0] at g3 k2
   obtain⟨r,g4⟩:=zG4 w s k2.qs
   cases r
   ·exact⟨.z,0,7,qJj,by
     cases u
     ·exact o4 5 [(23,.r (TR.ok w).q),(31,.r (u32 z1)),(43,.o [3,4] [] (.pv (qQ4 (Fm.q .all s x).y z 0))),(54,.F)] g1 g2 g3 g4
     ·exact o4 5 [(23,.r (TR.ok w).q),(31,.r (u32 z1)),(43,.o [3,4] [] (.pv (qQ4 (Fm.q .allU s x).y z 0))),(54,.F)] g1 g2 g3 g4,nofun⟩
   ·have g5:=zXu k2.qf hT (by omega)
    have fin:∀ r,x.pt t=r→∃ (z':Int),U32 z'∧O 178 [.loc 4 0,.pv (Pf.ins u t j.p).p,.pv (plc g H)] (ckO ls) (.pv (qQ4 r.y z' r.n)) (ckO ls):=by
     intro r e
     rw [e] at g5
     cases u
     ·exact⟨qQm .or .u32 z z1,qVa _ _ _,by
      cases r with
      | ok v=>exact o6 5 [(23,.r (TR.ok w).q),(31,.r (u32 z1)),(43,.o [3,4] [] (.pv (qQ4 (Fm.q .all s x).y z 0))),(54,.T),(64,.r (FR.ok v).p),(71,.v (u32 (qQm .or .u32 z z1)))] g1 g2 g3 g4 g5 (qIp z z1)
      | er v=>exact o6 5 [(23,.r (TR.ok w).q),(31,.r (u32 z1)),(43,.o [3,4] [] (.pv (qQ4 (Fm.q .all s x).y z 0))),(54,.T),(64,.r (FR.er v).p),(71,.v (u32 (qQm .or .u32 z z1)))] g1 g2 g3 g4 g5 (qIp z z1)⟩
     ·exact⟨qQm .or .u32 z 0,qVa _ _ _,by
      cases r with
      | ok v=>exact o6 5 [(23,.r (TR.ok w).q),(31,.r (u32 z1)),(43,.o [3,4] [] (.pv (qQ4 (Fm.q .allU s x).y z 0))),(54,.T),(64,.r (FR.ok v).p),(71,.v (u32 (qQm .or .u32 z 0)))] g1 g2 g3 g4 g5 (qIp z 0)
      | er v=>exact o6 5 [(23,.r (TR.ok w).q),(31,.r (u32 z1)),(43,.o [3,4] [] (.pv (qQ4 (Fm.q .allU s x).y z 0))),(54,.T),(64,.r (FR.er v).p),(71,.v (u32 (qQm .or .u32 z 0)))] g1 g2 g3 g4 g5 (qIp z 0)⟩
    cases e:x.pt t with
    | er n =>
     obtain⟨z',hz',g6⟩:=fin _ e
     exact⟨.z,z',n+1,hz',g6,nofun⟩
    | ok f =>
     obtain⟨z',hz',g6⟩:=fin _ e
     have hf:=(k2.qf.pt hT e).2
     exact⟨f.y,z',0,hz',g6,fun _=>⟨.ins u t j f,rfl,rfl,hf.sc,hf.cn,hf.tsz,fun h=>⟨h,hT,k3,s,x,e0,e⟩⟩⟩
theorem zEx {ls:List Fm} {u:Bool} {f:Fm} {t:Tm} {a:Pf} (hf:f.chk=0) (ht:t.chk=0) (Ha:KI ls a):KR ls 179 (.ex u f t a):=by
 intro g H hp
 have hm:=qQc
 have hb:=qQh
 have hg:=hp.gl
 have hlm:lim=100000:=rfl
 obtain⟨hct,hst⟩:=Tm.chk0 ht
 have hcf:=(Fm.chk0 hf).1
 obtain⟨e,g1,q1⟩:=qUm f g hp.gs (Fm.chk0 hf).2 (by omega)
 cases e with
 | succ e=>exact⟨.z,0,e+1,qJj,by cases u<;>exact o1 5 [(30,.N (e+1))] g1,nofun⟩
 | zero =>
  have hF:FK g.length f:=⟨hcf,(Fm.chk0 hf).2,q1 rfl⟩
  by_cases k0:f.kd=(eqq u).n
  ·obtain⟨s,x,rfl⟩:=qRq k0
   obtain⟨r,g2,q3,q2⟩:=a94 t g hp.gs hst (by omega)
   cases r with
   | er e=>exact⟨.z,0,e+1,qJj,by cases u<;>exact o2 5 [(30,.N 0),(44,.r (TR.er e).q)] g1 g2,nofun⟩
   | ok w =>
    have hT:TK g.length t:=⟨hct,hst,q2 w rfl⟩
    obtain⟨r,g3⟩:=zG4 w s hF.qs
    cases r
    ·exact⟨.z,0,7,qJj,by cases u<;>exact o3 5 [(30,.N 0),(44,.r (TR.ok w).q),(54,.F)] g1 g2 g3,nofun⟩
    ·obtain⟨y,z,e,hz,g4,q4⟩:=zXx Ha hp hF.qf hT
     cases e with
     | succ e=>exact⟨.z,0,e+1,qJj,by cases u<;>exact o4 5 [(30,.N 0),(44,.r (TR.ok w).q),(54,.T),(69,.o [3,4] [] (.pv (qQ4 y z (e+1))))] g1 g2 g3 g4,nofun⟩
     | zero =>
      obtain⟨j,rfl,rfl,k2,k3,k4⟩:=q4 rfl
      obtain⟨z1,hz1,g5⟩:=hT.a240 (by omega)
      have fin:∃ j':Jt,j'.p = .ex u (.q (eqq u) s x) t j.p∧(Fm.q (eqq u) s x).y=j'.f.y∧j'.f.sc g.length∧j'.f.cnt≤mid∧j'.f.tsz≤mid∧(FK g.length j'.f→j'.OK ls g.length (vw g.length H)) :=
       ⟨.ex u (.q (eqq u) s x) t j,rfl,rfl,hF.sc,hF.cn,hF.tsz,fun h=>⟨h,hT,k4,⟨s,rfl⟩,k3⟩⟩
      refine⟨(Fm.q (eqq u) s x).y,qQm .or .u32 z (match u with|false=>z1|true=>0),0,qVa _ _ _,?_,fun _=>fin⟩
      cases u
      ·exact o6 5 [(30,.N 0),(44,.r (TR.ok w).q),(54,.T),(69,.o [3,4] [] (.pv (qQ4 j.f.y z 0))),(81,.r (u32 z1)),(82,.v (u32 (qQm .or .u32 z z1)))] g1 g2 g3 g4 g5 (qIp z z1)
      ·exact o5 5 [(30,.N 0),(44,.r (TR.ok w).q),(54,.T),(69,.o [3,4] [] (.pv (qQ4 j.f.y z 0))),(82,.v (u32 (qQm .or .u32 z 0)))] g1 g2 g3 g4 (qIp z 0)
  ·have g2:=qX4 k0
   exact⟨.z,0,10,qJj,by cases u<;>exact o2 5 [(30,.N 0),(38,.G)] g1 g2,nofun⟩
open Go.Lg
set_option maxRecDepth 100000
theorem zEy {n:Nat} {f g:Fm} (h:FK (n+1) f) (hn:n+1≤90000) (e:wtF f=some g):g.sc n∧g.shp=true∧g.cnt≤16777216∧g.sp=f.sp:=by
 have hl:lim=100000:=rfl
 have c:=h.cnt
 unfold wtF at e
 split at e
 ·rename_i h0
  cases e
  have:=h.low h0
  exact⟨this.sc,this.shp,by have:=this.cnt;omega,qJ9 0 _ f 0⟩
 ·split at e
  ·rename_i y e1
   split at e
   ·rename_i h0
    cases e
    obtain⟨k1,k2,k3,k4⟩:=qNp f (n+1) h (by omega) y e1
    refine⟨qX5 _ n y 0 k1 (.inr h0),qKe 0 _ y 0 (.inr h0) k2,?_,(qJ9 0 _ y 0).trans k4⟩
    rw [qIo h0]
    omega
   ·cases e
  ·cases e
theorem zKd {ls:List Fm} {t:Tm} (ht:t.chk=0):KR ls 182 (.refl t):=by
 intro g H hp
 have hm:=qQc
 have hg:=hp.gl
 obtain⟨hct,hst⟩:=Tm.chk0 ht
 obtain⟨e,g1,q1⟩:=zEd g t hp.gs hst (by omega)
 cases e with
 | succ e=>exact⟨.z,0,e+1,qJj,o1 5 [(17,.N (e+1))] g1,nofun⟩
 | zero =>
  have hT:TK g.length t:=⟨hct,hst,q1 rfl⟩
  have:=qZ2 t hst
  exact⟨(Fm.eq t t).y,0,0,qJj,o2 5 [(17,.N 0),(24,.r (Fm.eq t t).p)] g1 (zG0 t t),fun _=>⟨.refl t,rfl,rfl,⟨hT.sc,hT.sc⟩,by simp only [Jt.f,Fm.cnt];omega,by simp only [Jt.f,Fm.tsz];omega,fun h=>⟨hT,h⟩⟩⟩
theorem qU2 {ls:List Fm} {f:Fm} {a b:Pf} (hf:f.chk=0) (Ha:KI ls a) (Hb:KI ls b):KR ls 183 (.subst f a b):=by
 intro g H hp
 have hm:=qQc
 have hb:=qQh
 have hg:=hp.gl
 have hlm:lim=100000:=rfl
 have hcf:=(Fm.chk0 hf).1
 have g0:=qGo g .nat (by omega) (by decide)
 have el:(g++[Ty.nat]).length=g.length+1:=by simp
 obtain⟨e,g1,q1⟩:=qUm f (g++[.nat]) (fun x hx=>by
  rcases List.mem_append.1 hx with hx|hx
  ·exact hp.gs x hx
  ·simp at hx;subst hx;decide) (Fm.chk0 hf).2 (by rw [el];omega)
 cases e with
 | succ e=>exact⟨.z,0,e+1,qJj,o3 5 [(20,.Y),(22,.r (tzs (g++[.nat]))),(24,.N (e+1))] qNq g0 g1,nofun⟩
 | zero =>
  have hF:FK (g.length+1) f:=⟨hcf,(Fm.chk0 hf).2,by have:=q1 rfl;rwa [el] at this⟩
  obtain⟨y,z,e,hz,g2,q2⟩:=zXw Ha hp 1
  cases e with
  | succ e=>exact⟨.z,0,e+1,qJj,o4 5 [(20,.Y),(22,.r (tzs (g++[.nat]))),(24,.N 0),(36,.o [3,4] [] (.pv (qQ4 y z (e+1))))] qNq g0 g1 g2,nofun⟩
  | zero =>
   obtain⟨j,rfl,rfl,k0,k2,k3⟩:=q2 rfl
   obtain⟨t,w,e0⟩:∃ t w,j.f = .eq t w:=by
    cases e:j.f with
    | eq a b=>exact⟨a,b,rfl⟩
    | bin l a b=>rw [e] at k0;cases l<;>cases k0
    | q l s x=>rw [e] at k0;cases l<;>cases k0
   rw [e0] at g2 k2
   obtain⟨y',z',e,hz',g3,q3⟩:=zXx Hb hp hF k2.eq1
   cases e with
   | succ e=>exact⟨.z,0,e+1,qJj,o5 5 [(20,.Y),(22,.r (tzs (g++[.nat]))),(24,.N 0),(36,.o [3,4] [] (.pv (qQ4 (Fm.eq t w).y z 0))),(56,.o [3,4] [] (.pv (qQ4 y' z' (e+1))))] qNq g0 g1 g2 g3,nofun⟩
   | zero =>
    obtain⟨i,rfl,rfl,k4,k5,k6⟩:=q3 rfl
    have g4:=zXu hF k2.eq2 (by omega)
    cases e:f.pt w with
    | er n =>
     rw [e] at g4
     exact⟨.z,z',n+1,hz',o6 5 [(20,.Y),(22,.r (tzs (g++[.nat]))),(24,.N 0),(36,.o [3,4] [] (.pv (qQ4 (Fm.eq t w).y z 0))),(56,.o [3,4] [] (.pv (qQ4 i.f.y z' 0))),(70,.r (FR.er n).p)] qNq g0 g1 g2 g3 g4,nofun⟩
    | ok v =>
     rw [e] at g4
     have hv:=(hF.pt k2.eq2 e).2
     exact⟨v.y,z',0,hz',o6 5 [(20,.Y),(22,.r (tzs (g++[.nat]))),(24,.N 0),(36,.o [3,4] [] (.pv (qQ4 (Fm.eq t w).y z 0))),(56,.o [3,4] [] (.pv (qQ4 i.f.y z' 0))),(70,.r (FR.ok v).p)] qNq g0 g1 g2 g3 g4,
      fun _=>⟨.subst f j i v,rfl,rfl,hv.sc,hv.cn,hv.tsz,fun h=>⟨h,hF,k3,k6,k5,t,w,e0,e⟩⟩⟩
theorem zI0 (s u:Ty):A 253 [u.p,tys [s]] (Ty.two true s u).p:=f0 []
theorem qRr (n:Nat):TK (n+2) vapp:=⟨by decide,rfl,⟨by show 1<n+2;omega,by show 0<n+2;omega⟩⟩
theorem qRs {ls:List Fm} {a:Pf} (Ha:KI ls a):KR ls 184 (.p1 .choice a):=by
 intro g H hp
 have hm:=qQc
 have hb:=qQh
 have hg:=hp.gl
 have hlm:lim=100000:=rfl
 obtain⟨y,z,e,hz,g1,q1⟩:=zXw Ha hp 4
 cases e with
 | succ e=>exact⟨.z,0,e+1,qJj,o1 5 [(21,.o [3,4] [] (.pv (qQ4 y z (e+1))))] g1,nofun⟩
 | zero =>
  obtain⟨j,rfl,rfl,k0,k2,k3⟩:=q1 rfl
  obtain⟨s,x,e0⟩:=qRq (k:=.all) k0
  rw [e0] at g1 k2
  by_cases k1:x.kd=5
  ·obtain⟨u,w,rfl⟩:=qRq (k:=.ex) k1
   have h1:=k2.qf
   have h2:=h1.qf
   have hs:=k2.qs
   have hu:=h1.qs
   have g2:=zI0 s u
   have g3:=qS1 w 2 1 (by omega) (by have:=h2.cnt;omega) (by have:=h2.mx (by omega);rw [hm];omega)
   have h3:=h2.sh 2 1
   have g4:=zJr (.v 1) (.v 0)
   have g5:=zXu (n:=g.length+2) (f:=w.sh 2 (.ofNat 1)) (t:=vapp) h3 (qRr g.length) (by omega)
   cases e:(w.sh 2 (.ofNat 1)).pt vapp with
   | er n =>
    rw [e] at g5
    exact⟨.z,0,4,qJj,o7 5 [(21,.o [3,4] [] (.pv (qQ4 (Fm.q .all s (.q .ex u w)).y z 0))),(43,.r (Ty.two true s u).p),(49,.r (w.sh 2 (.ofNat 1)).p),(50,.r (Tm.v 1).p),(51,.r (Tm.v 0).p),(53,.r vapp.p),(54,.r (FR.er n).p)] g1 g2 g3 (qL5 1) (qL5 0) g4 g5,nofun⟩
   | ok v =>
    rw [e] at g5
    have hv:=(FK.pt (n:=g.length+2) h3 (qRr g.length) e).2
    have g6:=zEa (.two true s u) (by simp only [Ty.size];omega)
    rcases qAk (Ty.two true s u).size 64 with ⟨c1,_,c2⟩|⟨c1,_,c2⟩<;>rw [c2] at g6
    ·have c3:=hv.cnt
     have c4:=hv.tsz
     exact⟨(Fm.q .ex (.two true s u) (.q .all s v)).y,z,0,hz,o8 5 [(21,.o [3,4] [] (.pv (qQ4 (Fm.q .all s (.q .ex u w)).y z 0))),(43,.r (Ty.two true s u).p),(49,.r (w.sh 2 (.ofNat 1)).p),(50,.r (Tm.v 1).p),(51,.r (Tm.v 0).p),(53,.r vapp.p),(54,.r (FR.ok v).p),(61,.N 0)] g1 g2 g3 (qL5 1) (qL5 0) g4 g5 g6,
      fun _=>⟨.p1 .choice j (.q .ex (.two true s u) (.q .all s v)),rfl,rfl,hv.sc,by simp only [Jt.f,Fm.cnt];omega,by simp only [Jt.f,Fm.tsz];omega,fun h=>⟨h,k3,s,u,w,e0,v,e,rfl⟩⟩⟩
    ·exact⟨.z,0,4,qJj,o8 5 [(21,.o [3,4] [] (.pv (qQ4 (Fm.q .all s (.q .ex u w)).y z 0))),(43,.r (Ty.two true s u).p),(49,.r (w.sh 2 (.ofNat 1)).p),(50,.r (Tm.v 1).p),(51,.r (Tm.v 0).p),(53,.r vapp.p),(54,.r (FR.ok v).p),(61,.N 4)] g1 g2 g3 (qL5 1) (qL5 0) g4 g5 g6,nofun⟩
  ·exact⟨.z,0,10,qJj,o2 5 [(21,.o [3,4] [] (.pv (qQ4 (Fm.q .all s x).y z 0))),(36,.G)] g1 (qX4 k1),nofun⟩
theorem zJu {ls:List Fm} (u:Bool) {a b:Pf} (Ha:KI ls a) (Hb:KI ls b):KR ls 180 (.p2 (match u with|false => .exE|true => .exUE) a b):=by
 intro g H hp
 have hm:=qQc
 have hb:=qQh
 have hg:=hp.gl
 have hl:=hp.hl
 have hlm:lim=100000:=rfl
 obtain⟨y,z,e,hz,g1,q1⟩:=zXw Ha hp (eqq u).n
 cases e with
 | succ e=>exact⟨.z,0,e+1,qJj,by cases u<;>exact o1 5 [(27,.o [3,4] [] (.pv (qQ4 y z (e+1))))] g1,nofun⟩
 | zero =>
  obtain⟨j,rfl,rfl,k0,k2,k3⟩:=q1 rfl
  obtain⟨s,x,e0⟩:=qRq k0
  rw [e0] at g1 k2
  have hs:=k2.qs
  obtain⟨e,g2,q2⟩:=zAx g.length (H.map hyc).length 1 1 (by omega) (by simp;omega)
  have T1:∀ (tp:Di),tp=tp:=fun _=>rfl
  cases e with
  | succ e =>
   refine⟨.z,0,e+1,qJj,?_,nofun⟩
   cases u
   ·exact o2 5 [(27,.o [3,4] [] (.pv (qQ4 (Fm.q .ex s x).y z 0))),(36,.N (e+1))] g1 g2
   ·exact o2 5 [(27,.o [3,4] [] (.pv (qQ4 (Fm.q .exU s x).y z 0))),(36,.N (e+1))] g1 g2
  | zero =>
   obtain⟨n1,n2⟩:=q2 rfl
   have el:(g++[s]).length=g.length+1:=by simp
   have hx:FK (g++[s]).length x:=by rw [el];exact k2.qf
   have hp':=(hp.below1 hs n1).with hx (by simpa using n2)
   have g3:=qRo g H s (by omega) (by omega)
   have g4:=zXv (g++[s]) H x (by omega)
   obtain⟨y',z',e,hz',g5,q5⟩:=Hb _ _ hp'
   cases e with
   | succ e =>
    refine⟨.z,0,e+1,qJj,?_,nofun⟩
    cases u
    ·exact o5 5 [(27,.o [3,4] [] (.pv (qQ4 (Fm.q .ex s x).y z 0))),(36,.N 0),(52,.r (plc (g++[s]) H)),(58,.r (plc (g++[s]) (H++[(x,(g++[s]).length)]))),(59,.o [3,4] [] (.pv (qQ4 y' z' (e+1))))] g1 g2 g3 g4 g5
    ·exact o5 5 [(27,.o [3,4] [] (.pv (qQ4 (Fm.q .exU s x).y z 0))),(36,.N 0),(52,.r (plc (g++[s]) H)),(58,.r (plc (g++[s]) (H++[(x,(g++[s]).length)]))),(59,.o [3,4] [] (.pv (qQ4 y' z' (e+1))))] g1 g2 g3 g4 g5
   | zero =>
    obtain⟨i,rfl,rfl,k4,k5⟩:=q5 rfl
    rw [qE2,el,qRp 1 g.length H (fun x hx=>(hp.hs x hx).2)] at k5
    rw [el] at k4
    obtain⟨r,g6,q6⟩:=zIn k4 (by omega)
    cases r with
    | er n =>
     refine⟨.z,0,n+1,qJj,?_,nofun⟩
     cases u
     ·exact o6 5 [(27,.o [3,4] [] (.pv (qQ4 (Fm.q .ex s x).y z 0))),(36,.N 0),(52,.r (plc (g++[s]) H)),(58,.r (plc (g++[s]) (H++[(x,(g++[s]).length)]))),(59,.o [3,4] [] (.pv (qQ4 i.f.y z' 0))),(69,.r (FR.er n).p)] g1 g2 g3 g4 g5 g6
     ·exact o6 5 [(27,.o [3,4] [] (.pv (qQ4 (Fm.q .exU s x).y z 0))),(36,.N 0),(52,.r (plc (g++[s]) H)),(58,.r (plc (g++[s]) (H++[(x,(g++[s]).length)]))),(59,.o [3,4] [] (.pv (qQ4 i.f.y z' 0))),(69,.r (FR.er n).p)] g1 g2 g3 g4 g5 g6
    | ok v =>
     have hw:=q6 v rfl
     obtain⟨w1,w2,w3,w4⟩:=zEy k4 (by omega) hw
     have w5:=qJi v w2
     obtain⟨z'',hz'',g7⟩:=zC2 z' 1 hz'
     cases u
     ·exact⟨v.y,qQm .or .u32 z z'',0,qVa _ _ _,o8 5 [(27,.o [3,4] [] (.pv (qQ4 (Fm.q .ex s x).y z 0))),(36,.N 0),(52,.r (plc (g++[s]) H)),(58,.r (plc (g++[s]) (H++[(x,(g++[s]).length)]))),(59,.o [3,4] [] (.pv (qQ4 i.f.y z' 0))),(69,.r (FR.ok v).p),(89,.r (u32 z'')),(90,.v (u32 (qQm .or .u32 z z'')))] g1 g2 g3 g4 g5 g6 g7 (qIp z z''),
       fun _=>⟨.p2 .exE j i v,rfl,rfl,w1,by show v.cnt≤mid;omega,by show v.tsz≤mid;omega,fun h=>⟨h,k3,by rw [e0];exact k5,⟨s,by rw [e0];rfl⟩,hw⟩⟩⟩
     ·cases e : !eqI (qQm .and .u32 z' 1) 0
      ·exact⟨v.y,qQm .or .u32 z z'',0,qVa _ _ _,o10 5 [(27,.o [3,4] [] (.pv (qQ4 (Fm.q .exU s x).y z 0))),(36,.N 0),(52,.r (plc (g++[s]) H)),(58,.r (plc (g++[s]) (H++[(x,(g++[s]).length)]))),(59,.o [3,4] [] (.pv (qQ4 i.f.y z' 0))),(69,.r (FR.ok v).p),(80,.v (u32 (qQm .and .u32 z' 1))),(81,.H),(89,.r (u32 z'')),(90,.v (u32 (qQm .or .u32 z z'')))] g1 g2 g3 g4 g5 g6 (qRl z' 1) e g7 (qIp z z''),
        fun _=>⟨.p2 .exUE j i v,rfl,rfl,w1,by show v.cnt≤mid;omega,by show v.tsz≤mid;omega,fun h=>⟨h,k3,by rw [e0];exact k5,⟨s,by rw [e0];rfl⟩,hw⟩⟩⟩
      ·exact⟨.z,0,12,qJj,o8 5 [(27,.o [3,4] [] (.pv (qQ4 (Fm.q .exU s x).y z 0))),(36,.N 0),(52,.r (plc (g++[s]) H)),(58,.r (plc (g++[s]) (H++[(x,(g++[s]).length)]))),(59,.o [3,4] [] (.pv (qQ4 i.f.y z' 0))),(69,.r (FR.ok v).p),(80,.v (u32 (qQm .and .u32 z' 1))),(81,.G)] g1 g2 g3 g4 g5 g6 (qRl z' 1) e,nofun⟩
abbrev sucT1:Tm:=.n1 .succ (.v 0)
abbrev conT:Tm:=.n2 .cons (.v 1) (.v 0)
abbrev zJv:PV:=.agg ([num 1]++(Tm.n0 .zero).c++[tys [.nat]]++sucT1.c)
abbrev zJw:PV:=.agg ([num 2]++(Tm.n0 .nil).c++[tys [.nat,.list]]++conT.c)
theorem zI1:A 276 [] Ty.list.p:=f0 []
theorem qBz:A 246 [num 16] zJv:=f4 [(5,.r (Tm.n0 .zero).p),(6,.Y),(8,.r (Tm.v 0).p),(10,.r sucT1.p)] (qL6 .zero) qNq (qL5 0) (zJp .succ (.v 0))
theorem qB0:A 246 [num 17] zJw:=f6 [(12,.r (Tm.n0 .nil).p),(13,.Y),(14,.r Ty.list.p),(16,.r (Tm.v 1).p),(17,.r (Tm.v 0).p),(19,.r conT.p)] (qL6 .nil) qNq zI1 (qL5 1) (qL5 0) (qL7 .cons (.v 1) (.v 0))
theorem TK0 (k:K0) (n:Nat):TK n (.n0 k):=⟨by show 1≤4096;decide,rfl,trivial⟩
theorem zKe (n:Nat):TK (n+1) sucT1:=⟨by decide,rfl,by show 0<n+1;omega⟩
theorem zKf (n:Nat):TK (n+2) conT:=⟨by decide,rfl,⟨by show 1<n+2;omega,by show 0<n+2;omega⟩⟩
theorem o11 {f:Nat} {args:List V} {objs:List (Nat × Ob)} {x:V} {objs':List (Nat × Ob)} (m:Nat) (tp:Di) {H1 H2 H3 H4 H5 H6 H7 H8 H9 H10 H11:Prop} (h1:H1) (h2:H2) (h3:H3) (h4:H4) (h5:H5) (h6:H6) (h7:H7) (h8:H8) (h9:H9) (h10:H10) (h11:H11) (e:(H1∧H2∧H3∧H4∧H5∧H6∧H7∧H8∧H9∧H10∧H11∧(x,objs')=(x,objs'))=UO f args objs m tp x objs':=by kernel_rfl):O f args objs x objs':=ok m tp ⟨h1,h2,h3,h4,h5,h6,h7,h8,h9,h10,h11,rfl⟩ e
theorem o12 {f:Nat} {args:List V} {objs:List (Nat × Ob)} {x:V} {objs':List (Nat × Ob)} (m:Nat) (tp:Di) {H1 H2 H3 H4 H5 H6 H7 H8 H9 H10 H11 H12:Prop} (h1:H1) (h2:H2) (h3:H3) (h4:H4) (h5:H5) (h6:H6) (h7:H7) (h8:H8) (h9:H9) (h10:H10) (h11:H11) (h12:H12) (e:(H1∧H2∧H3∧H4∧H5∧H6∧H7∧H8∧H9∧H10∧H11∧H12∧(x,objs')=(x,objs'))=UO f args objs m tp x objs':=by kernel_rfl):O f args objs x objs':=ok m tp ⟨h1,h2,h3,h4,h5,h6,h7,h8,h9,h10,h11,h12,rfl⟩ e
theorem o13 {f:Nat} {args:List V} {objs:List (Nat × Ob)} {x:V} {objs':List (Nat × Ob)} (m:Nat) (tp:Di) {H1 H2 H3 H4 H5 H6 H7 H8 H9 H10 H11 H12 H13:Prop} (h1:H1) (h2:H2) (h3:H3) (h4:H4) (h5:H5) (h6:H6) (h7:H7) (h8:H8) (h9:H9) (h10:H10) (h11:H11) (h12:H12) (h13:H13) (e:(H1∧H2∧H3∧H4∧H5∧H6∧H7∧H8∧H9∧H10∧H11∧H12∧H13∧(x,objs')=(x,objs'))=UO f args objs m tp x objs':=by kernel_rfl):O f args objs x objs':=ok m tp ⟨h1,h2,h3,h4,h5,h6,h7,h8,h9,h10,h11,h12,h13,rfl⟩ e
theorem o14 {f:Nat} {args:List V} {objs:List (Nat × Ob)} {x:V} {objs':List (Nat × Ob)} (m:Nat) (tp:Di) {H1 H2 H3 H4 H5 H6 H7 H8 H9 H10 H11 H12 H13 H14:Prop} (h1:H1) (h2:H2) (h3:H3) (h4:H4) (h5:H5) (h6:H6) (h7:H7) (h8:H8) (h9:H9) (h10:H10) (h11:H11) (h12:H12) (h13:H13) (h14:H14) (e:(H1∧H2∧H3∧H4∧H5∧H6∧H7∧H8∧H9∧H10∧H11∧H12∧H13∧H14∧(x,objs')=(x,objs'))=UO f args objs m tp x objs':=by kernel_rfl):O f args objs x objs':=ok m tp ⟨h1,h2,h3,h4,h5,h6,h7,h8,h9,h10,h11,h12,h13,h14,rfl⟩ e
theorem o15 {f:Nat} {args:List V} {objs:List (Nat × Ob)} {x:V} {objs':List (Nat × Ob)} (m:Nat) (tp:Di) {H1 H2 H3 H4 H5 H6 H7 H8 H9 H10 H11 H12 H13 H14 H15:Prop} (h1:H1) (h2:H2) (h3:H3) (h4:H4) (h5:H5) (h6:H6) (h7:H7) (h8:H8) (h9:H9) (h10:H10) (h11:H11) (h12:H12) (h13:H13) (h14:H14) (h15:H15) (e:(H1∧H2∧H3∧H4∧H5∧H6∧H7∧H8∧H9∧H10∧H11∧H12∧H13∧H14∧H15∧(x,objs')=(x,objs'))=UO f args objs m tp x objs':=by kernel_rfl):O f args objs x objs':=ok m tp ⟨h1,h2,h3,h4,h5,h6,h7,h8,h9,h10,h11,h12,h13,h14,h15,rfl⟩ e
theorem o16 {f:Nat} {args:List V} {objs:List (Nat × Ob)} {x:V} {objs':List (Nat × Ob)} (m:Nat) (tp:Di) {H1 H2 H3 H4 H5 H6 H7 H8 H9 H10 H11 H12 H13 H14 H15 H16:Prop} (h1:H1) (h2:H2) (h3:H3) (h4:H4) (h5:H5) (h6:H6) (h7:H7) (h8:H8) (h9:H9) (h10:H10) (h11:H11) (h12:H12) (h13:H13) (h14:H14) (h15:H15) (h16:H16) (e:(H1∧H2∧H3∧H4∧H5∧H6∧H7∧H8∧H9∧H10∧H11∧H12∧H13∧H14∧H15∧H16∧(x,objs')=(x,objs'))=UO f args objs m tp x objs':=by kernel_rfl):O f args objs x objs':=ok m tp ⟨h1,h2,h3,h4,h5,h6,h7,h8,h9,h10,h11,h12,h13,h14,h15,h16,rfl⟩ e
theorem zKg {ls:List Fm} {f:Fm} {t:Tm} {a b:Pf} (hf:f.chk=0) (ht:t.chk=0) (Ha:KI ls a) (Hb:KI ls b):KR ls 181 (.ind false f t a b):=by
 intro g H hp
 have hm:=qQc
 have hb:=qQh
 have hg:=hp.gl
 have hl:=hp.hl
 have hlm:lim=100000:=rfl
 have hcf:=(Fm.chk0 hf).1
 obtain⟨hct,hst⟩:=Tm.chk0 ht
 have g0:=qGo g .nat (by omega) (by decide)
 have el:(g++[Ty.nat]).length=g.length+1:=by simp
 have el2:(g++[Ty.nat]).length=g.length+1:=by simp
 obtain⟨e,g1,q1⟩:=qUm f (g++[.nat]) (fun x hx=>by
  rcases List.mem_append.1 hx with hx|hx
  ·exact hp.gs x hx
  ·simp at hx;subst hx;decide) (Fm.chk0 hf).2 (by rw [el];omega)
 cases e with
 | succ e=>exact⟨.z,0,e+1,qJj,o3 5 [(29,.r zJv),(36,.r (tzs (g++[.nat]))),(38,.N (e+1))] qBz g0 g1,nofun⟩
 | zero =>
 have hF:FK (g.length+1) f:=⟨hcf,(Fm.chk0 hf).2,by have:=q1 rfl;rwa [el] at this⟩
 obtain⟨e,g2,q2⟩:=zEc g t 1 hp.gs hst (by omega)
 cases e with
 | succ e=>exact⟨.z,0,e+1,qJj,o4 5 [(29,.r zJv),(36,.r (tzs (g++[.nat]))),(38,.N 0),(48,.N (e+1))] qBz g0 g1 g2,nofun⟩
 | zero =>
 have hT:TK g.length t:=⟨hct,hst,q2 rfl⟩
 obtain⟨y,z,e,hz,g3,q3⟩:=zXx Ha hp hF (TK0 .zero g.length)
 cases e with
 | succ e=>exact⟨.z,0,e+1,qJj,o5 5 [(29,.r zJv),(36,.r (tzs (g++[.nat]))),(38,.N 0),(48,.N 0),(63,.o [3,4] [] (.pv (qQ4 y z (e+1))))] qBz g0 g1 g2 g3,nofun⟩
 | zero =>
 obtain⟨j,rfl,rfl,k2,k3,k4⟩:=q3 rfl
 obtain⟨e,g4,q4⟩:=zAx g.length (H.map hyc).length 1 1 (by omega) (by simp;omega)
 cases e with
 | succ e=>exact⟨.z,0,e+1,qJj,o6 5 [(29,.r zJv),(36,.r (tzs (g++[.nat]))),(38,.N 0),(48,.N 0),(63,.o [3,4] [] (.pv (qQ4 j.f.y z 0))),(75,.N (e+1))] qBz g0 g1 g2 g3 g4,nofun⟩
 | zero =>
 obtain⟨n1,n2⟩:=q4 rfl
 have hx:FK (g++[Ty.nat]).length f:=by rw [el2];exact hF
 have hp':=(hp.below1 (s:=.nat) (by decide) n1).with hx (by simpa using n2)
 have g5:=qRo g H .nat (by omega) (by decide)
 have g6:A 249 [f.p,num 1,num 0] f.p:=by have:=qS1 f 1 0 (by omega) (by omega) (by have:=hF.mx (by omega);rw [hm];omega);rwa [qNo] at this
 have g7:=zXv (g++[Ty.nat]) H f (by omega)
 have g8:=qS1 f 1 1 (by omega) (by omega) (by have:=hF.mx (by omega);rw [hm];omega)
 have hn:FK ((g++[Ty.nat]).length+1) (f.sh 1 (.ofNat 1)):=by rw [el2];exact hF.sh 1 1
 obtain⟨y',z',e,hz',g9,q9⟩:=zXx Hb hp' hn (by rw [el2];exact zKe g.length)
 cases e with
 | succ e=>exact⟨.z,0,e+1,qJj,o11 5 [(29,.r zJv),(36,.r (tzs (g++[.nat]))),(38,.N 0),(48,.N 0),(63,.o [3,4] [] (.pv (qQ4 j.f.y z 0))),(75,.N 0),(83,.r (plc (g++[Ty.nat]) H)),(89,.r f.p),(90,.r (plc (g++[Ty.nat]) (H++[(f,(g++[Ty.nat]).length)]))),(102,.r (f.sh 1 (.ofNat 1)).p),(105,.o [3,4] [] (.pv (qQ4 y' z' (e+1))))] qBz g0 g1 g2 g3 g4 g5 g6 g7 g8 g9,nofun⟩
 | zero =>
 obtain⟨i,rfl,rfl,k5,k6,k7⟩:=q9 rfl
 rw [qE2,el2,qRp 1 g.length H (fun x hx=>(hp.hs x hx).2)] at k7
 obtain⟨z1,hz1,g10⟩:=hT.a240 (by omega)
 obtain⟨z2,hz2,g11⟩:=zC2 z' 1 hz'
 have g12:=zXu hF hT (by omega)
 have o1':=qIp z1 z
 have o2':=qIp (qQm .or .u32 z1 z) z2
 cases e:f.pt t with
 | er n =>
  rw [e] at g12
  exact⟨.z,qQm .or .u32 (qQm .or .u32 z1 z) z2,n+1,qVa _ _ _,o16 5 [(29,.r zJv),(36,.r (tzs (g++[.nat]))),(38,.N 0),(48,.N 0),(63,.o [3,4] [] (.pv (qQ4 j.f.y z 0))),(75,.N 0),(83,.r (plc (g++[Ty.nat]) H)),(89,.r f.p),(90,.r (plc (g++[Ty.nat]) (H++[(f,(g++[Ty.nat]).length)]))),(102,.r (f.sh 1 (.ofNat 1)).p),(105,.o [3,4] [] (.pv (qQ4 i.f.y z' 0))),(115,.r (FR.er n).p),(120,.r (u32 z1)),(123,.v (u32 (qQm .or .u32 z1 z))),(129,.r (u32 z2)),(130,.v (u32 (qQm .or .u32 (qQm .or .u32 z1 z) z2)))] qBz g0 g1 g2 g3 g4 g5 g6 g7 g8 g9 g12 g10 o1' g11 o2',nofun⟩
 | ok v =>
  rw [e] at g12
  have hv:=(hF.pt hT e).2
  exact⟨v.y,qQm .or .u32 (qQm .or .u32 z1 z) z2,0,qVa _ _ _,o16 5 [(29,.r zJv),(36,.r (tzs (g++[.nat]))),(38,.N 0),(48,.N 0),(63,.o [3,4] [] (.pv (qQ4 j.f.y z 0))),(75,.N 0),(83,.r (plc (g++[Ty.nat]) H)),(89,.r f.p),(90,.r (plc (g++[Ty.nat]) (H++[(f,(g++[Ty.nat]).length)]))),(102,.r (f.sh 1 (.ofNat 1)).p),(105,.o [3,4] [] (.pv (qQ4 i.f.y z' 0))),(115,.r (FR.ok v).p),(120,.r (u32 z1)),(123,.v (u32 (qQm .or .u32 z1 z))),(129,.r (u32 z2)),(130,.v (u32 (qQm .or .u32 (qQm .or .u32 z1 z) z2)))] qBz g0 g1 g2 g3 g4 g5 g6 g7 g8 g9 g12 g10 o1' g11 o2',
   fun _=>⟨.ind false f t j i v,rfl,rfl,hv.sc,hv.cn,hv.tsz,fun h=>⟨h,hF,hT,k4,e,⟨k3,k6.trans (qXn _ f 1)⟩,k7⟩⟩⟩
theorem zKh {ls:List Fm} {f:Fm} {t:Tm} {a b:Pf} (hf:f.chk=0) (ht:t.chk=0) (Ha:KI ls a) (Hb:KI ls b):KR ls 181 (.ind true f t a b):=by
 intro g H hp
 have hm:=qQc
 have hb:=qQh
 have hg:=hp.gl
 have hl:=hp.hl
 have hlm:lim=100000:=rfl
 have hcf:=(Fm.chk0 hf).1
 obtain⟨hct,hst⟩:=Tm.chk0 ht
 have g0:=qGo g .list (by omega) (by decide)
 have el:(g++[Ty.list]).length=g.length+1:=by simp
 have el2:(g++[Ty.nat,.list]).length=g.length+2:=by simp
 obtain⟨e,g1,q1⟩:=qUm f (g++[.list]) (fun x hx=>by
  rcases List.mem_append.1 hx with hx|hx
  ·exact hp.gs x hx
  ·simp at hx;subst hx;decide) (Fm.chk0 hf).2 (by rw [el];omega)
 cases e with
 | succ e=>exact⟨.z,0,e+1,qJj,o3 5 [(29,.r zJw),(36,.r (tzs (g++[.list]))),(38,.N (e+1))] qB0 g0 g1,nofun⟩
 | zero =>
 have hF:FK (g.length+1) f:=⟨hcf,(Fm.chk0 hf).2,by have:=q1 rfl;rwa [el] at this⟩
 obtain⟨e,g2,q2⟩:=zEc g t 2 hp.gs hst (by omega)
 cases e with
 | succ e=>exact⟨.z,0,e+1,qJj,o4 5 [(29,.r zJw),(36,.r (tzs (g++[.list]))),(38,.N 0),(48,.N (e+1))] qB0 g0 g1 g2,nofun⟩
 | zero =>
 have hT:TK g.length t:=⟨hct,hst,q2 rfl⟩
 obtain⟨y,z,e,hz,g3,q3⟩:=zXx Ha hp hF (TK0 .nil g.length)
 cases e with
 | succ e=>exact⟨.z,0,e+1,qJj,o5 5 [(29,.r zJw),(36,.r (tzs (g++[.list]))),(38,.N 0),(48,.N 0),(63,.o [3,4] [] (.pv (qQ4 y z (e+1))))] qB0 g0 g1 g2 g3,nofun⟩
 | zero =>
 obtain⟨j,rfl,rfl,k2,k3,k4⟩:=q3 rfl
 obtain⟨e,g4,q4⟩:=zAx g.length (H.map hyc).length 2 1 (by omega) (by simp;omega)
 cases e with
 | succ e=>exact⟨.z,0,e+1,qJj,o6 5 [(29,.r zJw),(36,.r (tzs (g++[.list]))),(38,.N 0),(48,.N 0),(63,.o [3,4] [] (.pv (qQ4 j.f.y z 0))),(75,.N (e+1))] qB0 g0 g1 g2 g3 g4,nofun⟩
 | zero =>
 obtain⟨n1,n2⟩:=q4 rfl
 have hx:FK (g++[Ty.nat,.list]).length (f.sh 1 (.ofNat 1)):=by rw [el2];exact hF.sh 1 1
 have hp':=(hp.below2 (s:=.nat) (u:=.list) (by decide) (by decide) n1).with hx (by simpa using n2)
 have g5:=zAy g H .nat .list (by omega) (by decide) (by decide)
 have g6:A 249 [f.p,num 1,num 1] (f.sh 1 (.ofNat 1)).p:=qS1 f 1 1 (by omega) (by omega) (by have:=hF.mx (by omega);rw [hm];omega)
 have g7:=zXv (g++[Ty.nat,.list]) H (f.sh 1 (.ofNat 1)) (by omega)
 have g8:=qS1 f 1 2 (by omega) (by omega) (by have:=hF.mx (by omega);rw [hm];omega)
 have hn:FK ((g++[Ty.nat,.list]).length+1) (f.sh 1 (.ofNat 2)):=by rw [el2];have:=hF.sh 1 2;rwa [show g.length+1+2=g.length+2+1 by omega] at this
 obtain⟨y',z',e,hz',g9,q9⟩:=zXx Hb hp' hn (by rw [el2];exact zKf g.length)
 cases e with
 | succ e=>exact⟨.z,0,e+1,qJj,o11 5 [(29,.r zJw),(36,.r (tzs (g++[.list]))),(38,.N 0),(48,.N 0),(63,.o [3,4] [] (.pv (qQ4 j.f.y z 0))),(75,.N 0),(83,.r (plc (g++[Ty.nat,.list]) H)),(89,.r (f.sh 1 (.ofNat 1)).p),(90,.r (plc (g++[Ty.nat,.list]) (H++[((f.sh 1 (.ofNat 1)),(g++[Ty.nat,.list]).length)]))),(102,.r (f.sh 1 (.ofNat 2)).p),(105,.o [3,4] [] (.pv (qQ4 y' z' (e+1))))] qB0 g0 g1 g2 g3 g4 g5 g6 g7 g8 g9,nofun⟩
 | zero =>
 obtain⟨i,rfl,rfl,k5,k6,k7⟩:=q9 rfl
 rw [qE2,el2,qRp 2 g.length H (fun x hx=>(hp.hs x hx).2)] at k7
 obtain⟨z1,hz1,g10⟩:=hT.a240 (by omega)
 obtain⟨z2,hz2,g11⟩:=zC2 z' 2 hz'
 have g12:=zXu hF hT (by omega)
 have o1':=qIp z1 z
 have o2':=qIp (qQm .or .u32 z1 z) z2
 cases e:f.pt t with
 | er n =>
  rw [e] at g12
  exact⟨.z,qQm .or .u32 (qQm .or .u32 z1 z) z2,n+1,qVa _ _ _,o16 5 [(29,.r zJw),(36,.r (tzs (g++[.list]))),(38,.N 0),(48,.N 0),(63,.o [3,4] [] (.pv (qQ4 j.f.y z 0))),(75,.N 0),(83,.r (plc (g++[Ty.nat,.list]) H)),(89,.r (f.sh 1 (.ofNat 1)).p),(90,.r (plc (g++[Ty.nat,.list]) (H++[((f.sh 1 (.ofNat 1)),(g++[Ty.nat,.list]).length)]))),(102,.r (f.sh 1 (.ofNat 2)).p),(105,.o [3,4] [] (.pv (qQ4 i.f.y z' 0))),(115,.r (FR.er n).p),(120,.r (u32 z1)),(123,.v (u32 (qQm .or .u32 z1 z))),(129,.r (u32 z2)),(130,.v (u32 (qQm .or .u32 (qQm .or .u32 z1 z) z2)))] qB0 g0 g1 g2 g3 g4 g5 g6 g7 g8 g9 g12 g10 o1' g11 o2',nofun⟩
 | ok v =>
  rw [e] at g12
  have hv:=(hF.pt hT e).2
  exact⟨v.y,qQm .or .u32 (qQm .or .u32 z1 z) z2,0,qVa _ _ _,o16 5 [(29,.r zJw),(36,.r (tzs (g++[.list]))),(38,.N 0),(48,.N 0),(63,.o [3,4] [] (.pv (qQ4 j.f.y z 0))),(75,.N 0),(83,.r (plc (g++[Ty.nat,.list]) H)),(89,.r (f.sh 1 (.ofNat 1)).p),(90,.r (plc (g++[Ty.nat,.list]) (H++[((f.sh 1 (.ofNat 1)),(g++[Ty.nat,.list]).length)]))),(102,.r (f.sh 1 (.ofNat 2)).p),(105,.o [3,4] [] (.pv (qQ4 i.f.y z' 0))),(115,.r (FR.ok v).p),(120,.r (u32 z1)),(123,.v (u32 (qQm .or .u32 z1 z))),(129,.r (u32 z2)),(130,.v (u32 (qQm .or .u32 (qQm .or .u32 z1 z) z2)))] qB0 g0 g1 g2 g3 g4 g5 g6 g7 g8 g9 g12 g10 o1' g11 o2',
   fun _=>⟨.ind true f t j i v,rfl,rfl,hv.sc,hv.cn,hv.tsz,fun h=>⟨h,hF,hT,k4,e,⟨k3,k6.trans (qXn _ f 1)⟩,k7⟩⟩⟩
theorem qZq {ls:List Fm} (hl:∀ f∈ls,FK 0 f):∀ p:Pf,p.ck→KI ls p
 | .leaf false i,_=>ki _ qU0
 | .leaf true i,_=>ki _ (qU1 hl)
 | .refl t,h=>ki _ (zKd h)
 | .p1 .andL a,h=>ki _ (zJt false (qZq hl a h))
 | .p1 .andR a,h=>ki _ (zJt true (qZq hl a h))
 | .p1 .choice a,h=>ki _ (qRs (qZq hl a h))
 | .p2 .andI a b,h=>ki _ (zKa (qZq hl a h.1) (qZq hl b h.2))
 | .p2 .impE a b,h=>ki _ (zKc (qZq hl a h.1) (qZq hl b h.2))
 | .p2 .exE a b,h=>ki _ (zJu false (qZq hl a h.1) (qZq hl b h.2))
 | .p2 .exUE a b,h=>ki _ (zJu true (qZq hl a h.1) (qZq hl b h.2))
 | .impI f a,h=>ki _ (zKb h.1 (qZq hl a h.2))
 | .all u s a,h=>ki _ (zA1 h.1 (qZq hl a h.2))
 | .ins u t a,h=>ki _ (zA2 h.1 (qZq hl a h.2))
 | .ex u f t a,h=>ki _ (zEx h.2.1 h.1 (qZq hl a h.2.2))
 | .ind false f t a b,h=>ki _ (zKg h.2.1 h.1 (qZq hl a h.2.2.1) (qZq hl b h.2.2.2))
 | .ind true f t a b,h=>ki _ (zKh h.2.1 h.1 (qZq hl a h.2.2.1) (qZq hl b h.2.2.2))
 | .subst f a b,h=>ki _ (qU2 h.1 (qZq hl a h.2.1) (qZq hl b h.2.2))
open Go.Lg
set_option maxRecDepth 100000
abbrev qJs (g:List Ty) (hs:List Fm):PV:=.agg [tys g,fms hs]
abbrev HH (n:Nat) (hs:List Fm):List (Fm × Nat):=hs.map fun f=>(f,n)
abbrev zpl:List PV:=[.int 0,.int 0,.nils,.nils]
abbrev pcs (g:List Ty) (K:List (Fm × Nat)):List PV:=[num g.length,num (K.map hyc).length,tzs g,.slice (K.map hyc)]
abbrev zEz (hs:List Fm) (k:Nat) (c:List PV):IS:=st [(2,.loc 1 0),(3,.loc 2 0),(16,.pv (fms hs)),(17,.pv (num (hs.map Fm.c).length)),(18,.pv (num k))] [(1,bx zpl),(2,bx c)] 3 []
abbrev zA3 (c:List PV):IS:=st [(2,.loc 1 0),(3,.loc 2 0)] [(1,bx zpl),(2,bx c)] 3 []
abbrev qU3:Kp:=⟨[2,3,16,17,18],[1,2],3,[]⟩
abbrev zA4:Kp:=⟨[2,3],[1,2],3,[]⟩
theorem qRt (g:List Ty) {hs:List Fm} (hl:hs.length≤1000):∀ (r:List Fm) (k:Nat) (K:List (Fm × Nat)),hs.drop k=r→K.length≤k→Lp 114 0 0 (zEz hs k (pcs g K)) (.exit 0) (zA3 (pcs g (K++HH g.length r)))
 | [],k,K,h,hk=>by
  have e:pcs g (K++HH g.length [])=pcs g K:=by simp
  rw [e]
  exact x1 [(19,.H)] zA4 (show ltI (.ofNat k) (.ofNat (hs.map Fm.c).length)=false from qZv (by simpa using qZp h))
 | f::r,k,K,h,hk=>by
  obtain⟨h1,h2,h3⟩:=qZo h
  have hm:=qQc
  have hb:=qQh
  have hlt:ltI (.ofNat k) (.ofNat (hs.map Fm.c).length)=true:=qQy (by simpa using h2)
  have g1:=zXv g K f (by omega)
  have ih:=qRt g hl r (k+1) (K++[(f,g.length)]) h3 (by simp;omega)
  have e:K++HH g.length (f::r)=(K++[(f,g.length)])++HH g.length r:=by simp
  rw [e]
  exact n5 [(19,.G),(20,.i f.c),(24,.r (plc g (K++[(f,g.length)]))),(25,.ok)] qU3 hlt (qQi h1 Fm.c_len) g1 (inN (show k+1≤_ by omega)) ih
theorem zI2 (g:List Ty) (hs:List Fm) (hg:g.length≤mid) (hgs:∀ s∈g,s.size≤64) (hl:hs.length≤1000):A 114 [qJs g hs] (plc g (HH g.length hs)):=by
 have hb:=qQh
 have g0:=a93 g hg (fun s h=>by have:=hgs s h;omega)
 have el:num (g.map Ty.c).length=num g.length:=by rw [List.length_map]
 cases hs with
 | nil =>
  have g1:Lp 114 0 0 (zEz [] 0 [num (g.map Ty.c).length,.int 0,tzs g,.nils]) (.exit 0) (zA3 [num (g.map Ty.c).length,.int 0,tzs g,.nils]):=x0 [] zA4
  have g2:A 114 [qJs g []] (.agg [num (g.map Ty.c).length,num 0,tzs g,.slice []]):=f2 [(8,.r (tzs g)),(100004,.l qU3 (.exit 0) (zA3 [num (g.map Ty.c).length,.int 0,tzs g,.nils]))] g0 g1
  rwa [el] at g2
 | cons f r =>
  have hm:=qQc
  have ih:=qRt g hl r 1 [(f,g.length)] rfl (by simp)
  have g1':=zXv g [] f (by simp)
  have g1:A 185 [.agg [num (g.map Ty.c).length,num 0,tzs g,.slice []],f.p] (plc g [(f,g.length)]):=by rw [el];exact g1'
  have g3:qXf ((f::r).map Fm.c) 0=some f.c∧qYf 5 ((f::r).map Fm.c)=true:=qQi (g:=f::r) (k:=0) rfl Fm.c_len
  have g2:Lp 114 0 0 (zEz (f::r) 0 [num (g.map Ty.c).length,.int 0,tzs g,.nils]) (.exit 0) (zA3 (pcs g (HH g.length (f::r)))) :=
   n3 [(20,.i f.c),(24,.r (plc g [(f,g.length)]))] qU3 g3 g1 ih
  exact f2 [(8,.r (tzs g)),(100004,.l qU3 (.exit 0) (zA3 (pcs g (HH g.length (f::r)))))] g0 g2
abbrev zA5 (ls hs:List Fm) (g:List Ty) (k:Nat):IS:=st [(3,.loc 0 0),(15,.pv (fms ls)),(16,.pv (num (ls.map Fm.c).length)),(17,.pv (num k))] [(0,bx [tys g,fms hs])] 1 []
abbrev qRu (hs:List Fm) (g:List Ty):IS:=st [(3,.loc 0 0)] [(0,bx [tys g,fms hs])] 1 []
theorem qL8 (hs:List Fm) (g:List Ty) {ls:List Fm} (hl:ls.length≤mid):∀ (r:List Fm) (k:Nat),ls.drop k=r→(∀ f∈r,f.cnt≤mid∧f.tsz≤mid) →
  (Lp 110 0 0 (zA5 ls hs g k) (.exit 0) (qRu hs g) ∧ ∀ f∈r,FK 0 f) ∨ ∃ e,Lp 110 0 0 (zA5 ls hs g k) .ret (st [(4,.pv (num (e+1)))] [] 1 [])
 | [],k,h,_ => .inl ⟨x1 [(18,.H)] ⟨[3],[0],1,[]⟩ (show ltI (.ofNat k) (.ofNat (ls.map Fm.c).length)=false from qZv (by simpa using qZp h)),fun f h=>by cases h⟩
 | f::r,k,h,hb=>by
  obtain⟨h1,h2,h3⟩:=qZo h
  have hm:=qQc
  have hlt:ltI (.ofNat k) (.ofNat (ls.map Fm.c).length)=true:=qQy (by simpa using h2)
  have hf:=hb f (by simp)
  obtain⟨e,g1,q1⟩:=zGo [] f (fun s h=>by cases h) hf.2 hf.1 (Nat.zero_le _)
  cases e with
  | succ e=>exact .inr ⟨e,x3 [(18,.G),(19,.i f.c),(22,.N (e+1))] ⟨[4],[],1,[]⟩ hlt (qQi h1 Fm.c_len) g1⟩
  | zero =>
   obtain⟨q2,q3,_⟩:=q1 rfl
   rcases qL8 hs g hl r (k+1) h3 (fun t ht=>hb t (by simp [ht])) with ⟨ih,q⟩|⟨e,ih⟩
   ·refine .inl ⟨n5 [(18,.G),(19,.i f.c),(22,.N 0),(26,.ok)] ⟨[3,15,16,17],[0],1,[]⟩ hlt (qQi h1 Fm.c_len) g1 (inN (show k+1≤_ by omega)) ih,fun x hx => ?_⟩
    rcases List.mem_cons.1 hx with rfl|hx
    ·exact⟨(Fm.chk0 q2).1,(Fm.chk0 q2).2,q3⟩
    ·exact q x hx
   ·exact .inr ⟨e,n5 [(18,.G),(19,.i f.c),(22,.N 0),(26,.ok)] ⟨[3,15,16,17],[0],1,[]⟩ hlt (qQi h1 Fm.c_len) g1 (inN (show k+1≤_ by omega)) ih⟩
abbrev zA6 (hs:List Fm) (g:List Ty) (k:Nat):IS:=st [(3,.loc 0 0),(38,.pv (fms hs)),(39,.pv (num (hs.map Fm.c).length)),(40,.pv (num k))] [(0,bx [tys g,fms hs])] 1 []
theorem qL9 (g:List Ty) (hg:∀ s∈g,s.size≤mid) (hgl:g.length≤mid) {hs:List Fm} (hl:hs.length≤mid):∀ (r:List Fm) (k:Nat),hs.drop k=r→(∀ f∈r,f.cnt≤mid∧f.tsz≤mid) →
  (Lp 110 1 0 (zA6 hs g k) (.exit 2) (st [] [] 1 []) ∧ ∀ f∈r,FK g.length f) ∨ ∃ e,Lp 110 1 0 (zA6 hs g k) .ret (st [(4,.pv (num (e+1)))] [] 1 [])
 | [],k,h,_ => .inl ⟨x1 [(41,.H)] ⟨[],[],1,[]⟩ (show ltI (.ofNat k) (.ofNat (hs.map Fm.c).length)=false from qZv (by simpa using qZp h)),fun f h=>by cases h⟩
 | f::r,k,h,hb=>by
  obtain⟨h1,h2,h3⟩:=qZo h
  have hm:=qQc
  have hlt:ltI (.ofNat k) (.ofNat (hs.map Fm.c).length)=true:=qQy (by simpa using h2)
  have hf:=hb f (by simp)
  obtain⟨e,g1,q1⟩:=zGo g f hg hf.2 hf.1 hgl
  cases e with
  | succ e=>exact .inr ⟨e,x3 [(41,.G),(42,.i f.c),(47,.N (e+1))] ⟨[4],[],1,[]⟩ hlt (qQi h1 Fm.c_len) g1⟩
  | zero =>
   obtain⟨q2,q3,_⟩:=q1 rfl
   rcases qL9 g hg hgl hl r (k+1) h3 (fun t ht=>hb t (by simp [ht])) with ⟨ih,q⟩|⟨e,ih⟩
   ·refine .inl ⟨n5 [(41,.G),(42,.i f.c),(47,.N 0),(51,.ok)] ⟨[3,38,39,40],[0],1,[]⟩ hlt (qQi h1 Fm.c_len) g1 (inN (show k+1≤_ by omega)) ih,fun x hx => ?_⟩
    rcases List.mem_cons.1 hx with rfl|hx
    ·exact⟨(Fm.chk0 q2).1,(Fm.chk0 q2).2,q3⟩
    ·exact q x hx
   ·exact .inr ⟨e,n5 [(41,.G),(42,.i f.c),(47,.N 0),(51,.ok)] ⟨[3,38,39,40],[0],1,[]⟩ hlt (qQi h1 Fm.c_len) g1 (inN (show k+1≤_ by omega)) ih⟩
structure SQ (ls:List Fm) (g:List Ty) (hs:List Fm):Prop where
 ls:∀ f∈ls,FK 0 f
 gl:g.length≤16
 gs:∀ s∈g,s.size≤64
 hl:hs.length≤16
 hs:∀ f∈hs,FK g.length f
theorem zI3 (ls:List Fm) (g:List Ty) (hs:List Fm) (hl1:∀ f∈ls,f.cnt≤mid∧f.tsz≤mid) (hl2:∀ f∈hs,f.cnt≤mid∧f.tsz≤mid) (hg:∀ s∈g,s.size≤mid) (hgl:g.length≤mid) (h1:ls.length≤mid) (h2:hs.length≤mid):∃ e,A 110 [fms ls,qJs g hs] (num e)∧(e=0→SQ ls g hs):=by
 have hm:=qQc
 have hb:=qQh
 cases e0:ltI (.ofNat 32) (.ofNat (ls.map Fm.c).length)
 rotate_left
 ·exact⟨3,f1 [(14,.G)] e0,nofun⟩
 rcases qL8 hs g h1 ls 0 rfl hl1 with ⟨g1,q1⟩|⟨e,g1⟩
 rotate_left
 ·exact⟨e+1,f2 [(14,.H),(100004,.l ⟨[3,15,16,17],[0],1,[]⟩ .ret (st [(4,.pv (num (e+1)))] [] 1 []))] e0 g1,nofun⟩
 have g2:=a91 g (fun s h=>by have:=hg s h;omega)
 cases e2:qNg g with
 | succ e =>
  rw [e2] at g2
  exact⟨e+1,f3 [(14,.H),(100004,.l ⟨[3,15,16,17],[0],1,[]⟩ (.exit 0) (qRu hs g)),(29,.N (e+1))] e0 g1 g2,nofun⟩
 | zero =>
  rw [e2] at g2
  obtain⟨c1,c2⟩:=qGp e2
  cases e3:ltI (.ofNat 16) (.ofNat (hs.map Fm.c).length)
  rotate_left
  ·exact⟨3,f4 [(14,.H),(100004,.l ⟨[3,15,16,17],[0],1,[]⟩ (.exit 0) (qRu hs g)),(29,.N 0),(36,.G)] e0 g1 g2 e3,nofun⟩
  have c3:hs.length≤16:=by
   rw [qQs] at e3
   simp at e3
   omega
  rcases qL9 g hg hgl h2 hs 0 rfl hl2 with ⟨g4,q4⟩|⟨e,g4⟩
  ·exact⟨0,f5 [(14,.H),(100004,.l ⟨[3,15,16,17],[0],1,[]⟩ (.exit 0) (qRu hs g)),(29,.N 0),(36,.H),(100016,.l ⟨[3,38,39,40],[0],1,[]⟩ (.exit 2) (st [] [] 1 []))] e0 g1 g2 e3 g4,fun _=>⟨q1,c1,c2,c3,q4⟩⟩
  ·exact⟨e+1,f5 [(14,.H),(100004,.l ⟨[3,15,16,17],[0],1,[]⟩ (.exit 0) (qRu hs g)),(29,.N 0),(36,.H),(100016,.l ⟨[3,38,39,40],[0],1,[]⟩ .ret (st [(4,.pv (num (e+1)))] [] 1 []))] e0 g1 g2 e3 g4,nofun⟩
theorem zKi (w:World):Calls Tryz.prog 189 #[.int .u32 0] w fun e w'=>e = .returned (.int .i64 32)∧w'=w:=by
 go_enter Tryz.func189,Tryz.ntmps189
 go_wp2
 go_ret
 exact⟨rfl,rfl⟩
theorem qRv (n:Int):IntKind.u32.wrap n=n % 4294967296:=by simp [IntKind.wrap,IntKind.signed,IntKind.bits]
theorem zJx (a b:Nat) (ha:a<4294967296) (hb:b<4294967296):bits .and .u32 (a:Int) (b:Int)=((a &&& b:Nat):Int):=by
 have hx:a &&& b<2 ^ 32:=Nat.and_lt_two_pow _ (by omega)
 have h1:(BitVec.ofInt 32 (a:Int)).toNat=a:=by
  rw [BitVec.ofInt_natCast,BitVec.toNat_ofNat];exact Nat.mod_eq_of_lt (by omega)
 have h2:(BitVec.ofInt 32 (b:Int)).toNat=b:=by
  rw [BitVec.ofInt_natCast,BitVec.toNat_ofNat];exact Nat.mod_eq_of_lt (by omega)
 show IntKind.u32.wrap ((BitVec.ofInt 32 (a:Int) &&& BitVec.ofInt 32 (b:Int)).toNat:Int)=_
 rw [BitVec.toNat_and,h1,h2,qRv]
 omega
theorem zA7 (x a:Nat) (hx:x<4294967296) (hx0:x≠0) (hlow:x &&& (4294967296-x)=a) :
  bits BinOp.and IntKind.u32 (x:Int) (-(x:Int) % 4294967296) * 125613361 % 4294967296 / 134217728=((a * 125613361 % 4294967296 / 134217728:Nat):Int):=by
 have e1 : -(x:Int) % 4294967296=((4294967296-x:Nat):Int):=by omega
 rw [e1,zJx x _ hx (by omega),hlow]
 omega
theorem zKj (x k idx:Nat) (w:World) (hx0:((x:Int) == 0)=false)
  (key:bits BinOp.and IntKind.u32 (x:Int) (-(x:Int) % 4294967296) * 125613361 % 4294967296 / 134217728=(idx:Int))
  (hi:idx<32) (hk:k<32) (hcell:w.cell? ⟨0,idx,none⟩=some (.int .u8 k)) :
  Calls Tryz.prog 189 #[.int .u32 x] w fun e w'=>e = .returned (.int .i64 k)∧w'=w:=by
 go_enter Tryz.func189,Tryz.ntmps189
 go_wp2_with (simp only [key])
 go_ret
 exact⟨rfl,rfl⟩
theorem qMa {H:Hp} : ∀ {cs:List PV} {vs:List Value} {i:Nat} {k:IntKind} {n:Int},RepL H cs vs→cs[i]? = some (.num k n)→vs[i]? = some (.int k n)
 | [],_,_,_,_,_,h=>by simp at h
 | c::cs,[],i,k,n,r,h=>by simp only [RepL] at r
 | c::cs,v::vs,0,k,n,r,h=>by
  simp only [RepL] at r
  simp only [List.getElem?_cons_zero,Option.some.injEq] at h
  subst h
  have:=r.1
  simp only [RepP] at this
  rw [this.1];rfl
 | c::cs,v::vs,i+1,k,n,r,h=>by
  simp only [RepL] at r
  exact qMa (i:=i) r.2 (by simpa using h)
theorem zA8:∀ i,i<32→deB[i]? = some (.num .u8 (.ofNat (Go.Lib.deBruijn32tab.getD i 0)))
 | 0,_=>rfl
 | 1,_=>rfl
 | 2,_=>rfl
 | 3,_=>rfl
 | 4,_=>rfl
 | 5,_=>rfl
 | 6,_=>rfl
 | 7,_=>rfl
 | 8,_=>rfl
 | 9,_=>rfl
 | 10,_=>rfl
 | 11,_=>rfl
 | 12,_=>rfl
 | 13,_=>rfl
 | 14,_=>rfl
 | 15,_=>rfl
 | 16,_=>rfl
 | 17,_=>rfl
 | 18,_=>rfl
 | 19,_=>rfl
 | 20,_=>rfl
 | 21,_=>rfl
 | 22,_=>rfl
 | 23,_=>rfl
 | 24,_=>rfl
 | 25,_=>rfl
 | 26,_=>rfl
 | 27,_=>rfl
 | 28,_=>rfl
 | 29,_=>rfl
 | 30,_=>rfl
 | 31,_=>rfl
 | n+32,h=>absurd h (by omega)
theorem zG5 (z:Int) (hz:0≤z∧z<4294967296):∃ n:Nat,n≤32∧AC Tryz.prog gl 189 [.pv (.num .u32 z)] [] (.ret (.pv (.int (.ofNat n)))) []:=by
 obtain⟨x,rfl⟩:∃ x:Nat,z=x:=⟨z.toNat,by omega⟩
 have hx:x<4294967296:=by omega
 refine⟨Go.Lib.ctz 32 x,?_,?_,?_,?_,?_⟩
 ·by_cases h0:x=0
  ·subst h0;simp [Go.Lib.ctz]
  ·exact Nat.le_of_lt (Go.Lib.lowest_bit 32 x h0 hx).2
 ·exact⟨Tryz.f189,rfl,rfl,rfl⟩
 ·intro n hn;cases hn
 ·intro m o ho;cases ho
 ·intro E w vs hB hl hr
  have hv:vs=[.int .u32 (x:Int)]:=by
   cases vs with
   | nil=>cases hl
   | cons v r =>
    cases r with
    | cons _ _=>simp at hl
    | nil =>
     simp only [RepVL,RepV,RepP] at hr
     rw [hr.1.1]
  subst hv
  have fin:∀ (e:Ending) (w':World),e = .returned (.int .i64 (Go.Lib.ctz 32 x:Nat))∧w'=w→∃ E',zXc E w [] E' w' []∧qOk E' (.ret (.pv (.int (.ofNat (Go.Lib.ctz 32 x))))) e:=by
   rintro e w' ⟨rfl,rfl⟩
   refine⟨E,⟨hB.heap,fun n o h=>(by cases h),fun n m o o' h=>(by cases h),Hle.refl _,Nat.le_refl _,⟨rfl,rfl,rfl⟩,fun b _ _=>⟨fun _=>rfl,rfl⟩,fun n o b h=>(by cases h),fun n o h=>(by cases h),fun n _ _=>⟨rfl,rfl,rfl⟩⟩,_,rfl,?_⟩
   simp only [RepV,RepP]
   rfl
  by_cases h0:x=0
  ·subst h0
   exact (zKi w).mono fin
  ·obtain⟨hlow,hk⟩:=Go.Lib.lowest_bit 32 x h0 hx
   obtain⟨hi,htab⟩:=Go.Lib.deBruijn32_at _ hk
   have hg:RepL E.H deB (E.H 0):=hB.glob 0 deB rfl
   have h1:=qMa hg (zA8 _ hi)
   rw [htab] at h1
   have hne:E.H 0≠[]:=by intro e;rw [e] at h1;simp at h1
   obtain⟨c,T,fr,hc,hm,_⟩:=hB.heap 0 hne
   have h2:=hm.2.1 _ _ h1 (by simp [qYt]) (by intro b;cases b<;>exact nofun)
   refine (zKj x _ _ w (by simp;omega) (zA7 x _ hx h0 hlow) hi hk ?_).mono fin
   simp only [World.cell?,hc]
   simpa using h2
open Go.Lg
set_option maxRecDepth 100000
theorem qMb {x:Nat} (h0:x≠0) (hx:x<4294967296):∃ y:Nat,y<x∧qQm .and .u32 (x:Int) (IntKind.u32.wrap ((x:Int)-1))=(y:Int):=by
 refine⟨x &&& (x-1),?_,?_⟩
 ·have:x &&& (x-1)≤x-1:=Nat.and_le_right
  omega
 ·have e:IntKind.u32.wrap ((x:Int)-1)=((x-1:Nat):Int):=by rw [qRv];omega
  rw [e]
  exact zJx x (x-1) hx (by omega)
theorem zA9 (z:Int):(bif qY2 .u32 .u32 then inB (IntKind.u32.wrap (z-1)) else false)=true∧u32 (IntKind.u32.wrap (z-1))=u32 (IntKind.u32.wrap (z-1)):=⟨(show inB (IntKind.u32.wrap (z-1))=true from inS (qRk _)),rfl⟩
theorem zJy {z w:Int} {y:Nat} (h:qQm .and .u32 z w=(y:Int)):(bif qY2 .u32 .u32 then inB (qQm .and .u32 z w) else false)=true∧u32 (qQm .and .u32 z w)=u32 (.ofNat y):=⟨(qRl z w).1,by rw [h];rfl⟩
abbrev zG6:Kp:=⟨[0,3],[0],1,[]⟩
theorem qRw:∀ (N x:Nat) (L:List Nat) (v:Nat),x≤N→x<4294967296→L.length+N≤8589934592 →
  ∃ (v':Nat) (L':List Nat),Lp 116 0 0 (st [(0,.pv (u32 (.ofNat x))),(3,.arr 0 v (L.map ic).length)] [(0,.arr v 1 3 (pvE (L.map ic)))] 1 []) (.exit 0) (st [(3,.arr 0 v' (L'.map ic).length)] [(0,.arr v' 1 3 (pvE (L'.map ic)))] 1 [])
 | N,0,L,v,h1,h2,h3=>⟨v,L,y1 [(5,.H)] ⟨[3],[0],1,[]⟩ (qWb 0) (qQn (L.map ic))⟩
 | 0,x+1,L,v,h1,h2,h3=>absurd h1 (by omega)
 | N+1,x+1,L,v,h1,h2,h3=>by
  obtain⟨y,hy,ey⟩:=qMb (x:=x+1) (by omega) h2
  obtain⟨n,hn,g1⟩:=zG5 (x+1:Nat) (by omega)
  obtain⟨v',L',ih⟩:=qRw N y (L++[n]) (v+1) (by omega) (by omega) (by simp;omega)
  have g5:=qEv (A:=L.map ic) (v:=v) (ty:=3) (m:=8) (c:=ic n) (show 0<1 by decide) rfl rfl (by simp only [List.length_map,maxLen];omega) (by simp;omega)
  have e1:(L++[n]).map ic=L.map ic++[ic n]:=by simp
  rw [e1,qZy,show (L.map ic++[ic n]).length=(L.map ic).length+1 by simp] at ih
  exact⟨v',L',n7 [(5,.G),(12,.N n),(14,.ok),(8,.v (u32 (IntKind.u32.wrap (.ofNat (x+1)-1)))),(9,.v (u32 (.ofNat y)))] zG6 (qX4 (m:=x+1) (n:=0) (by omega)) g1 g5 (zA9 (.ofNat (x+1))) (zJy ey) (qQq (L.map ic) (ic n)) ih⟩
theorem zI4 (z:Int) (hz:U32 z):∃ L:List Nat,A 116 [u32 z] (qQl L):=by
 obtain⟨x,rfl⟩:∃ x:Nat,z = .ofNat x:=⟨z.toNat,by have:=hz.1;simp;omega⟩
 have hx:x<4294967296:=by have:=hz.2;simp at this;omega
 cases x with
 | zero=>exact⟨[],f0 []⟩
 | succ x =>
  obtain⟨y,hy,ey⟩:=qMb (x:=x+1) (by omega) hx
  obtain⟨n,hn,g1⟩:=zG5 (x+1:Nat) (by omega)
  obtain⟨v,L,h⟩:=qRw 4294967296 y [n] 1 (by omega) (by omega) (by simp)
  have h2:=LoopIs.fz (by simp) h 0 (ver:=v) (sz:=1) (ty:=3) (ps:=L.map ic) rfl (by kernel_rfl)
  simp (decide:=true) only [fzS,fzO,qY0,qJb,qY8,qC3,and_self,↓reduceIte,List.take_of_length_le (Nat.le_refl (L.map ic).length)] at h2
  have h3:Lp 116 0 0 (st [(0,.pv (u32 (.ofNat (x+1)))),(3,.pv .nils)] [] 0 []) (.exit 0) (st [(3,.pv (qQl L))] [] 1 []) :=
   n6 [(5,.G),(12,.N n),(8,.v (u32 (IntKind.u32.wrap (.ofNat (x+1)-1)))),(9,.v (u32 (.ofNat y)))] zG6 (qX4 (m:=x+1) (n:=0) (by omega)) g1 (zA9 (.ofNat (x+1))) (zJy ey) (qQq [] (ic n)) h2
  exact⟨L,f1 [(100002,.l ⟨[0,3],[],0,[]⟩ (.exit 0) (st [(3,.pv (qQl L))] [] 1 []))] h3⟩
theorem a67 (ls:List Fm) (g:List Ty) (hs:List Fm) (p:Pf) (hl1:∀ f∈ls,f.cnt≤mid∧f.tsz≤mid) (hl2:∀ f∈hs,f.cnt≤mid∧f.tsz≤mid) (hg:∀ s∈g,s.size≤mid) (hgl:g.length≤mid) (h1:ls.length≤mid) (h2:hs.length≤mid) (hp:p.cnt≤big) (hp':p.tsz≤big) :
  ∃ (y:Sy) (L:List Nat) (e:Nat),A 67 [fms ls,qJs g hs,p.p] (.tuple [.agg [num y.k,num y.tk,.slice y.te,.slice y.ts,.slice y.es,qQl L],num e])∧(e=0→SQ ls g hs ∧ ∃ j:Jt,j.p=p∧FK g.length j.f∧j.OK ls g.length hs):=by
 have hm:=qQc
 obtain⟨e,g1,q1⟩:=zI3 ls g hs hl1 hl2 hg hgl h1 h2
 cases e with
 | succ e=>exact⟨.z,[],e+1,f1 [(15,.N (e+1))] g1,nofun⟩
 | zero =>
  have hq:=q1 rfl
  obtain⟨e,g2,q2⟩:=zIx p hp hp'
  cases e with
  | succ e=>exact⟨.z,[],e+1,f2 [(15,.N 0),(21,.N (e+1))] g1 g2,nofun⟩
  | zero =>
   have g3:=zI2 g hs hgl hq.gs (by have:=hq.hl;omega)
   have hpl:PlOK g (HH g.length hs):=⟨by have:=hq.gl;omega,hq.gs,by have:=hq.hl;simp;omega,fun h hh=>by
    obtain⟨f,hf,rfl⟩:=List.mem_map.1 hh
    exact⟨hq.hs f hf,Nat.le_refl _⟩⟩
   obtain⟨y,z,e,hz,g4,q4⟩:=qZq hq.ls p (q2 rfl) g (HH g.length hs) hpl
   cases e with
   | succ e=>exact⟨.z,[],e+1,f4 [(15,.N 0),(21,.N 0),(34,.r (plc g (HH g.length hs))),(35,.o [3,4] [] (.pv (qQ4 y z (e+1))))] g1 g2 g3 g4,nofun⟩
   | zero =>
    obtain⟨j,rfl,rfl,k2,k3⟩:=q4 rfl
    obtain⟨L,g5⟩:=zI4 z hz
    have g6:=zIh j.f k2.cn
    have ev:vw g.length (HH g.length hs)=hs:=by
     simp only [vw,HH,List.map_map]
     conv=>rhs;rw [← List.map_id hs]
     refine List.map_congr_left fun f _ => ?_
     show f.sh 0 (.ofNat (g.length-g.length))=f
     rw [Nat.sub_self,qNo]
    rw [ev] at k3
    exact⟨j.f.y,L,0,f6 [(15,.N 0),(21,.N 0),(34,.r (plc g (HH g.length hs))),(35,.o [3,4] [] (.pv (qQ4 j.f.y z 0))),(44,.r j.f.p),(47,.r (qQl L))] g1 g2 g3 g4 g6 g5,fun _=>⟨hq,j,rfl,k2,k3⟩⟩
def zG7 (hs:List Fm) (x:Fm):Bool→List Fm
 | false=>upH 1 hs++[x]
 | true=>upH 2 hs++[x.sh 1 (.ofNat 1)]
def Jt.pts:List Fm→Jt→List (List PV)
 | _,.leaf _ _ _=>[]
 | _,.refl _=>[]
 | hs,.p1 _ a _=>[[.ptr [num a.p.kd,num a.p.ix,num a.p.tk,.slice a.p.te,.slice a.p.ts,.slice a.p.fs,.slice a.p.es,num a.f.kd,num a.f.tk,.slice a.f.te,.slice a.f.ts,.slice a.f.es,fms hs,.bool a.f.has,.slice (a.pts hs)]]]
 | hs,.p2 k a b _=>match k with
  | .andI=>[[.ptr [num a.p.kd,num a.p.ix,num a.p.tk,.slice a.p.te,.slice a.p.ts,.slice a.p.fs,.slice a.p.es,num a.f.kd,num a.f.tk,.slice a.f.te,.slice a.f.ts,.slice a.f.es,fms hs,.bool a.f.has,.slice (a.pts hs)]],[.ptr [num b.p.kd,num b.p.ix,num b.p.tk,.slice b.p.te,.slice b.p.ts,.slice b.p.fs,.slice b.p.es,num b.f.kd,num b.f.tk,.slice b.f.te,.slice b.f.ts,.slice b.f.es,fms hs,.bool b.f.has,.slice (b.pts hs)]]]
  | .impE=>[[.ptr [num a.p.kd,num a.p.ix,num a.p.tk,.slice a.p.te,.slice a.p.ts,.slice a.p.fs,.slice a.p.es,num a.f.kd,num a.f.tk,.slice a.f.te,.slice a.f.ts,.slice a.f.es,fms hs,.bool a.f.has,.slice (a.pts hs)]],[.ptr [num b.p.kd,num b.p.ix,num b.p.tk,.slice b.p.te,.slice b.p.ts,.slice b.p.fs,.slice b.p.es,num b.f.kd,num b.f.tk,.slice b.f.te,.slice b.f.ts,.slice b.f.es,fms hs,.bool b.f.has,.slice (b.pts hs)]]]
  | .exE=>[[.ptr [num a.p.kd,num a.p.ix,num a.p.tk,.slice a.p.te,.slice a.p.ts,.slice a.p.fs,.slice a.p.es,num a.f.kd,num a.f.tk,.slice a.f.te,.slice a.f.ts,.slice a.f.es,fms hs,.bool a.f.has,.slice (a.pts hs)]],[.ptr [num b.p.kd,num b.p.ix,num b.p.tk,.slice b.p.te,.slice b.p.ts,.slice b.p.fs,.slice b.p.es,num b.f.kd,num b.f.tk,.slice b.f.te,.slice b.f.ts,.slice b.f.es,fms (upH 1 hs++[a.f.bd]),.bool b.f.has,.slice (b.pts (upH 1 hs++[a.f.bd]))]]]
  | .exUE=>[[.ptr [num a.p.kd,num a.p.ix,num a.p.tk,.slice a.p.te,.slice a.p.ts,.slice a.p.fs,.slice a.p.es,num a.f.kd,num a.f.tk,.slice a.f.te,.slice a.f.ts,.slice a.f.es,fms hs,.bool a.f.has,.slice (a.pts hs)]],[.ptr [num b.p.kd,num b.p.ix,num b.p.tk,.slice b.p.te,.slice b.p.ts,.slice b.p.fs,.slice b.p.es,num b.f.kd,num b.f.tk,.slice b.f.te,.slice b.f.ts,.slice b.f.es,fms (upH 1 hs++[a.f.bd]),.bool b.f.has,.slice (b.pts (upH 1 hs++[a.f.bd]))]]]
 | hs,.impI x a=>[[.ptr [num a.p.kd,num a.p.ix,num a.p.tk,.slice a.p.te,.slice a.p.ts,.slice a.p.fs,.slice a.p.es,num a.f.kd,num a.f.tk,.slice a.f.te,.slice a.f.ts,.slice a.f.es,fms (hs++[x]),.bool a.f.has,.slice (a.pts (hs++[x]))]]]
 | hs,.all _ _ a=>[[.ptr [num a.p.kd,num a.p.ix,num a.p.tk,.slice a.p.te,.slice a.p.ts,.slice a.p.fs,.slice a.p.es,num a.f.kd,num a.f.tk,.slice a.f.te,.slice a.f.ts,.slice a.f.es,fms (upH 1 hs),.bool a.f.has,.slice (a.pts (upH 1 hs))]]]
 | hs,.ins _ _ a _=>[[.ptr [num a.p.kd,num a.p.ix,num a.p.tk,.slice a.p.te,.slice a.p.ts,.slice a.p.fs,.slice a.p.es,num a.f.kd,num a.f.tk,.slice a.f.te,.slice a.f.ts,.slice a.f.es,fms hs,.bool a.f.has,.slice (a.pts hs)]]]
 | hs,.ex _ _ _ a=>[[.ptr [num a.p.kd,num a.p.ix,num a.p.tk,.slice a.p.te,.slice a.p.ts,.slice a.p.fs,.slice a.p.es,num a.f.kd,num a.f.tk,.slice a.f.te,.slice a.f.ts,.slice a.f.es,fms hs,.bool a.f.has,.slice (a.pts hs)]]]
 | hs,.ind l x _ a b _=>[[.ptr [num a.p.kd,num a.p.ix,num a.p.tk,.slice a.p.te,.slice a.p.ts,.slice a.p.fs,.slice a.p.es,num a.f.kd,num a.f.tk,.slice a.f.te,.slice a.f.ts,.slice a.f.es,fms hs,.bool a.f.has,.slice (a.pts hs)]],[.ptr [num b.p.kd,num b.p.ix,num b.p.tk,.slice b.p.te,.slice b.p.ts,.slice b.p.fs,.slice b.p.es,num b.f.kd,num b.f.tk,.slice b.f.te,.slice b.f.ts,.slice b.f.es,fms (zG7 hs x l),.bool b.f.has,.slice (b.pts (zG7 hs x l))]]]
 | hs,.subst _ a b _=>[[.ptr [num a.p.kd,num a.p.ix,num a.p.tk,.slice a.p.te,.slice a.p.ts,.slice a.p.fs,.slice a.p.es,num a.f.kd,num a.f.tk,.slice a.f.te,.slice a.f.ts,.slice a.f.es,fms hs,.bool a.f.has,.slice (a.pts hs)]],[.ptr [num b.p.kd,num b.p.ix,num b.p.tk,.slice b.p.te,.slice b.p.ts,.slice b.p.fs,.slice b.p.es,num b.f.kd,num b.f.tk,.slice b.f.te,.slice b.f.ts,.slice b.f.es,fms hs,.bool b.f.has,.slice (b.pts hs)]]]
abbrev Jt.ptr (hs:List Fm) (a:Jt):PV:=.ptr [num a.p.kd,num a.p.ix,num a.p.tk,.slice a.p.te,.slice a.p.ts,.slice a.p.fs,.slice a.p.es,num a.f.kd,num a.f.tk,.slice a.f.te,.slice a.f.ts,.slice a.f.es,fms hs,.bool a.f.has,.slice (a.pts hs)]
abbrev J68 (ls hs:List Fm) (j:Jt):Prop:=A 68 [fms ls,fms hs,j.p.p] (j.ptr hs)
open Go.Lg
set_option maxRecDepth 100000
theorem zBa (hs:List Fm) (f:Fm) (h:hs.length≤mid):A 191 [fms hs,f.p] (fms (hs++[f])):=by
 have hm:=qQc
 have g1:=qVw (hs.map Fm.c).length
 have g2:=qXl 5 88 Fm.c_len (by decide) hs f (by omega) (by simp only [maxLen];omega)
 rw [show fms (hs++[f]) = .slice (hs.map Fm.c++[f.c]) by simp [fms]]
 exact f2 [(10,.ok),(13,.ok)] g1 g2
abbrev zBb (hs:List Fm) (n k:Nat) (x:V):List (Nat × V):=[(1,.pv (num n)),(5,x),(10,.pv (fms hs)),(11,.pv (num (hs.map Fm.c).length)),(12,.pv (num k))]
abbrev zG8:Kp:=⟨[1,5,10,11,12],[2],3,[]⟩
theorem qRx {hs:List Fm} (n:Nat) (hl:hs.length≤mid) (H:∀ f∈hs,A 257 [f.p,num 0,num n] (FR.ok (f.sh 0 (.ofNat n))).p):∀ (r:List Fm) (k v:Nat) (A:List (List PV)),hs.drop k=r→A.length=k →
  ∃ v',Lp 192 0 0 (st (zBb hs n k (.arr 2 v A.length)) [(2,.arr v 5 40 (pvE A))] 3 []) (.exit 0) (st [(5,.arr 2 v' (A.length+r.length))] [(2,.arr v' 5 40 (pvE (A++r.map fun f=>(f.sh 0 (.ofNat n)).c)))] 3 [])
 | [],k,v,A,h,hA=>by
  have e:ltI (.ofNat k) (.ofNat (hs.map Fm.c).length)=false:=qZv (by simpa using qZp h)
  simp only [List.map_nil,List.append_nil,List.length_nil,Nat.add_zero]
  exact⟨v,y1 [(13,.H)] ⟨[5],[2],3,[]⟩ e (qQn A)⟩
 | f::r,k,v,A,h,hA=>by
  have hm:=qQc
  obtain⟨d1,d2,d3⟩:=qZo h
  have e:ltI (.ofNat k) (.ofNat (hs.map Fm.c).length)=true:=qQy (by simpa using d2)
  have g3:=inN (show k+1≤_ by omega)
  have g5:=qEv (A:=A) (v:=v) (ty:=40) (m:=88) (c:=(f.sh 0 (.ofNat n)).c) (show 0<5 by decide) rfl rfl (by simp only [maxLen];omega) (by omega)
  obtain⟨v',ih⟩:=qRx n hl H r (k+1) (v+1) (A++[(f.sh 0 (.ofNat n)).c]) d3 (by simp [hA])
  rw [qZy,show (A++[(f.sh 0 (.ofNat n)).c]).length=A.length+1 by simp,show A.length+1+r.length=A.length+(f::r).length by simp;omega,List.append_assoc] at ih
  exact⟨v',n7 [(13,.G),(14,.i f.c),(19,.r (FR.ok (f.sh 0 (.ofNat n))).p),(25,.ok),(26,.ok)] zG8 e (qQi d1 Fm.c_len) (H f (List.mem_of_getElem? d1)) g5 g3 (qQq A (f.sh 0 (.ofNat n)).c) ih⟩
theorem zG9 (hs:List Fm) (n:Nat) (hl:hs.length≤mid) (H:∀ f∈hs,A 257 [f.p,num 0,num n] (FR.ok (f.sh 0 (.ofNat n))).p):A 192 [fms hs,num n] (fms (upH n hs)):=by
 cases hs with
 | nil=>exact f0 []
 | cons f r =>
  have hm:=qQc
  have e:ltI (.ofNat 0) (.ofNat ((f::r).map Fm.c).length)=true:=qQy (by simp)
  obtain⟨v,h⟩:=qRx n hl H r 1 1 [(f.sh 0 (.ofNat n)).c] rfl rfl
  have em:(f.sh 0 (.ofNat n)).c::r.map (fun f=>(f.sh 0 (.ofNat n)).c)=(upH n (f::r)).map Fm.c:=by simp [Function.comp_def]
  have h2:=LoopIs.fz (by simp) h 2 (ver:=v) (sz:=5) (ty:=40) (ps:=(f.sh 0 (.ofNat n)).c::r.map (fun f=>(f.sh 0 (.ofNat n)).c)) rfl (by kernel_rfl)
  simp (decide:=true) only [fzS,fzO,qY0,qJb,qY8,List.map,qC3,and_self,↓reduceIte,List.take_of_length_le (show ((f.sh 0 (.ofNat n)).c::r.map (fun f=>(f.sh 0 (.ofNat n)).c)).length≤[(f.sh 0 (.ofNat n)).c].length+r.length by simp;omega)] at h2
  rw [em] at h2
  have h3:Lp 192 0 0 (st (zBb (f::r) n 0 (.pv .nils)) [] 0 []) (.exit 0) (st [(5,.pv (fms (upH n (f::r))))] [] 3 []) :=
   n6 [(13,.G),(14,.i f.c),(19,.r (FR.ok (f.sh 0 (.ofNat n))).p),(26,.ok)] zG8 e (qQi (g:=f::r) (k:=0) rfl Fm.c_len) (H f (by simp)) (inN (show 0+1≤_ by omega)) (qQq [] (f.sh 0 (.ofNat n)).c) h2
  exact f1 [(100003,.l ⟨[1,5,10,11,12],[],0,[]⟩ (.exit 0) (st [(5,.pv (fms (upH n (f::r))))] [] 3 []))] h3
theorem up1 {n:Nat} {hs:List Fm} (hl:hs.length≤mid) (h:∀ f∈hs,FK n f) (hn:n≤lim):A 192 [fms hs,num 1] (fms (upH 1 hs)):=zG9 hs 1 hl fun f hf=>zW5 (h f hf) hn
theorem up2 {n:Nat} {hs:List Fm} (hl:hs.length≤mid) (h:∀ f∈hs,FK n f) (hn:n≤lim):A 192 [fms hs,num 2] (fms (upH 2 hs)):=zG9 hs 2 hl fun f hf=>zW6 (h f hf) hn
theorem zC3 {n:Nat} {f g:Fm} {t:Tm} (h:FK (n+1) f) (ht:TK n t) (hn:n+1≤lim) (e:f.pt t = .ok g):A 193 [f.p,t.p] g.p:=by
 have g1:=zIm h ht hn
 rw [e] at g1
 exact f1 [(10,.r (FR.ok g).p)] g1
theorem zC4:∀ (f:Fm) (n:Nat),FK n f→n+f.cnt≤lim→∀ g,nmF f=some g→A 260 [f.p] g.p
 | .eq a b,n,h,hn,g,e=>by
  simp only [Fm.cnt] at hn
  have g1:=(qIn h.eq1 (by omega)).1
  have g2:=(qIn h.eq2 (by omega)).1
  unfold nmF at e
  split at e
  ·rename_i x j e1
   split at e
   ·rename_i y l e2
    cases e
    rw [e1] at g1
    rw [e2] at g2
    exact f2 [(23,.r (NF.ok x j).p),(23,.r (NF.ok y l).p)] g1 g2
   ·cases e
  ·cases e
 | .bin k a b,n,h,hn,g,e=>by
  simp only [Fm.cnt] at hn
  unfold nmF at e
  split at e
  ·rename_i x e1
   split at e
   ·rename_i y e2
    cases e
    have g1:=zC4 a n h.bin1 (by omega) x e1
    have g2:=zC4 b n h.bin2 (by omega) y e2
    cases k<;>exact f2 [(44,.r x.p),(44,.r y.p)] g1 g2
   ·cases e
  ·cases e
 | .q k s a,n,h,hn,g,e=>by
  simp only [Fm.cnt] at hn
  unfold nmF at e
  split at e
  ·rename_i x e1
   cases e
   have g1:=zC4 a (n+1) h.qf (by omega) x e1
   cases k<;>exact f1 [(44,.r x.p)] g1
  ·cases e
theorem zHa {n:Nat} {f g:Fm} (h:FK (n+1) f) (hg:FK n g) (hn:n+1≤90000) (e:wtF f=some g):A 194 [f.p] g.p:=by
 have hl:lim=100000:=rfl
 have c:=h.cnt
 have g1:=zGx h (by omega)
 unfold wtF at e
 split at e
 ·rename_i h0
  cases e
  rw [if_pos h0] at g1
  exact f1 [(9,.r (FR.ok f.low).p)] g1
 ·rename_i h0
  rw [if_neg h0] at g1
  split at e
  ·rename_i y e1
   split at e
   ·rename_i h1
    cases e
    obtain⟨k1,k2,k3,k4⟩:=qNp f (n+1) h (by omega) y e1
    have hy:FK (n+1) y:=⟨by have:=hg.cnt;rwa [qIo h1] at this,k2,k1⟩
    have g2:=zC4 f (n+1) h (by omega) y e1
    have g3:=zGx hy (by omega)
    rw [if_pos h1] at g3
    exact f3 [(9,.r (FR.er 5).p),(17,.r y.p),(18,.r (FR.ok y.low).p)] g1 g2 g3
   ·cases e
  ·cases e
abbrev qZ5 (p:Pf) (f:Fm) (hs:List Fm) (pts:List (List PV)):PV:=.ptr [num p.kd,num p.ix,num p.tk,.slice p.te,.slice p.ts,.slice p.fs,.slice p.es,num f.kd,num f.tk,.slice f.te,.slice f.ts,.slice f.es,fms hs,.bool f.has,.slice pts]
abbrev Jt.pf (a:Jt) (hs:List Fm) (F:Fm):PV:=qZ5 a.p F hs (a.pts hs)
abbrev Q70 (f:Fm):Prop:=A 70 [f.p] (.tuple [.bool f.has,num 0])
abbrev Q68 (ls hs:List Fm) (a:Jt) (F:Fm):Prop:=A 68 [fms ls,fms hs,a.p.p] (a.pf hs F)
theorem qU4 {ls hs:List Fm} {a:Jt} {f y:Fm} (ha:Q68 ls hs a (.bin .and f y)) (hc:Q70 f):A 68 [fms ls,fms hs,(Pf.p1 .andL a.p).p] (qZ5 (Pf.p1 .andL a.p) f hs [[a.pf hs (.bin .and f y)]]):=by
 exact f3 [(17,.n [(53,.n [(23,.r (a.pf hs (.bin .and f y)))])]),(26,.U [.bool f.has,num 0]),(300003,.f 7 [[a.pf hs (.bin .and f y)]]),(300004,.fb 1 none)] ha hc (rfl:pvE [[a.pf hs (.bin .and f y)]]=pvE [[a.pf hs (.bin .and f y)]])
theorem qU5 {ls hs:List Fm} {a:Jt} {f y:Fm} (ha:Q68 ls hs a (.bin .and y f)) (hc:Q70 f):A 68 [fms ls,fms hs,(Pf.p1 .andR a.p).p] (qZ5 (Pf.p1 .andR a.p) f hs [[a.pf hs (.bin .and y f)]]):=by
 exact f3 [(17,.n [(62,.n [(23,.r (a.pf hs (.bin .and y f)))])]),(26,.U [.bool f.has,num 0]),(300003,.f 7 [[a.pf hs (.bin .and y f)]]),(300004,.fb 1 none)] ha hc (rfl:pvE [[a.pf hs (.bin .and y f)]]=pvE [[a.pf hs (.bin .and y f)]])
theorem qU6 {ls hs:List Fm} {a b:Jt} {x y:Fm} (ha:Q68 ls hs a x) (hb:Q68 ls hs b y) (hc:Q70 (Fm.bin .and x y)):A 68 [fms ls,fms hs,(Pf.p2 .andI a.p b.p).p] (qZ5 (Pf.p2 .andI a.p b.p) (Fm.bin .and x y) hs [[a.pf hs x],[b.pf hs y]]):=by
 exact f4 [(17,.n [(40,.n [(23,.r (a.pf hs x))]),(45,.n [(23,.r (b.pf hs y))])]),(26,.U [.bool (Fm.bin .and x y).has,num 0]),(300003,.f 7 [[a.pf hs x],[b.pf hs y]]),(300004,.fb 1 none)] ha hb hc (rfl:pvE [[a.pf hs x],[b.pf hs y]]=pvE [[a.pf hs x],[b.pf hs y]])
theorem qU7 {ls hs:List Fm} {a b:Jt} {x y f:Fm} (ha:Q68 ls hs a (.bin .imp x f)) (hb:Q68 ls hs b y) (hc:Q70 f):A 68 [fms ls,fms hs,(Pf.p2 .impE a.p b.p).p] (qZ5 (Pf.p2 .impE a.p b.p) f hs [[a.pf hs (.bin .imp x f)],[b.pf hs y]]):=by
 exact f4 [(17,.n [(88,.n [(23,.r (a.pf hs (.bin .imp x f)))]),(92,.n [(23,.r (b.pf hs y))])]),(26,.U [.bool f.has,num 0]),(300003,.f 7 [[a.pf hs (.bin .imp x f)],[b.pf hs y]]),(300004,.fb 1 none)] ha hb hc (rfl:pvE [[a.pf hs (.bin .imp x f)],[b.pf hs y]]=pvE [[a.pf hs (.bin .imp x f)],[b.pf hs y]])
theorem qU8 {ls hs:List Fm} {a:Jt} {x y:Fm} (hw:A 191 [fms hs,x.p] (fms (hs++[x]))) (ha:Q68 ls (hs++[x]) a y) (hc:Q70 (Fm.bin .imp x y)):A 68 [fms ls,fms hs,(Pf.impI x a.p).p] (qZ5 (Pf.impI x a.p) (Fm.bin .imp x y) hs [[a.pf (hs++[x]) y]]):=by
 exact f4 [(17,.n [(79,.r (fms (hs++[x]))),(80,.n [(23,.r (a.pf (hs++[x]) y))])]),(26,.U [.bool (Fm.bin .imp x y).has,num 0]),(300003,.f 7 [[a.pf (hs++[x]) y]]),(300004,.fb 1 none)] hw ha hc (rfl:pvE [[a.pf (hs++[x]) y]]=pvE [[a.pf (hs++[x]) y]])
theorem qU9 {ls hs:List Fm} {s:Ty} {a:Jt} {y:Fm} (hw:A 192 [fms hs,num 1] (fms (upH 1 hs))) (ha:Q68 ls (upH 1 hs) a y) (hc:Q70 (Fm.q .all s y)):A 68 [fms ls,fms hs,(Pf.all false s a.p).p] (qZ5 (Pf.all false s a.p) (Fm.q .all s y) hs [[a.pf (upH 1 hs) y]]):=by
 exact f4 [(17,.n [(104,.r (fms (upH 1 hs))),(105,.n [(23,.r (a.pf (upH 1 hs) y))])]),(26,.U [.bool (Fm.q .all s y).has,num 0]),(300003,.f 7 [[a.pf (upH 1 hs) y]]),(300004,.fb 1 none)] hw ha hc (rfl:pvE [[a.pf (upH 1 hs) y]]=pvE [[a.pf (upH 1 hs) y]])
theorem zQa {ls hs:List Fm} {s:Ty} {a:Jt} {y:Fm} (hw:A 192 [fms hs,num 1] (fms (upH 1 hs))) (ha:Q68 ls (upH 1 hs) a y) (hc:Q70 (Fm.q .allU s y)):A 68 [fms ls,fms hs,(Pf.all true s a.p).p] (qZ5 (Pf.all true s a.p) (Fm.q .allU s y) hs [[a.pf (upH 1 hs) y]]):=by
 exact f4 [(17,.n [(115,.r (fms (upH 1 hs))),(116,.n [(23,.r (a.pf (upH 1 hs) y))])]),(26,.U [.bool (Fm.q .allU s y).has,num 0]),(300003,.f 7 [[a.pf (upH 1 hs) y]]),(300004,.fb 1 none)] hw ha hc (rfl:pvE [[a.pf (upH 1 hs) y]]=pvE [[a.pf (upH 1 hs) y]])
theorem zQb {ls hs:List Fm} {t:Tm} {s:Ty} {a:Jt} {x f:Fm} (ha:Q68 ls hs a (.q .all s x)) (hp:A 193 [x.p,t.p] f.p) (hc:Q70 f):A 68 [fms ls,fms hs,(Pf.ins false t a.p).p] (qZ5 (Pf.ins false t a.p) f hs [[a.pf hs (.q .all s x)]]):=by
 exact f4 [(17,.n [(125,.n [(23,.r (a.pf hs (.q .all s x)))]),(133,.r f.p)]),(26,.U [.bool f.has,num 0]),(300003,.f 7 [[a.pf hs (.q .all s x)]]),(300004,.fb 1 none)] ha hp hc (rfl:pvE [[a.pf hs (.q .all s x)]]=pvE [[a.pf hs (.q .all s x)]])
theorem zQc {ls hs:List Fm} {t:Tm} {s:Ty} {a:Jt} {x f:Fm} (ha:Q68 ls hs a (.q .allU s x)) (hp:A 193 [x.p,t.p] f.p) (hc:Q70 f):A 68 [fms ls,fms hs,(Pf.ins true t a.p).p] (qZ5 (Pf.ins true t a.p) f hs [[a.pf hs (.q .allU s x)]]):=by
 exact f4 [(17,.n [(125,.n [(23,.r (a.pf hs (.q .allU s x)))]),(133,.r f.p)]),(26,.U [.bool f.has,num 0]),(300003,.f 7 [[a.pf hs (.q .allU s x)]]),(300004,.fb 1 none)] ha hp hc (rfl:pvE [[a.pf hs (.q .allU s x)]]=pvE [[a.pf hs (.q .allU s x)]])
theorem zBc {ls hs:List Fm} {u:Bool} {t:Tm} {a:Jt} {x y:Fm} (ha:Q68 ls hs a y) (hc:Q70 x):A 68 [fms ls,fms hs,(Pf.ex u x t a.p).p] (qZ5 (Pf.ex u x t a.p) x hs [[a.pf hs y]]):=by
 cases u<;>exact f3 [(17,.n [(140,.n [(23,.r (a.pf hs y))])]),(26,.U [.bool x.has,num 0]),(300003,.f 7 [[a.pf hs y]]),(300004,.fb 1 none)] ha hc (rfl:pvE [[a.pf hs y]]=pvE [[a.pf hs y]])
theorem zKk {ls hs:List Fm} {s:Ty} {a b:Jt} {x y f:Fm} (ha:Q68 ls hs a (.q .ex s x)) (hw:A 192 [fms hs,num 1] (fms (upH 1 hs))) (hw2:A 191 [fms (upH 1 hs),x.p] (fms (upH 1 hs++[x]))) (hb:Q68 ls (upH 1 hs++[x]) b y) (hl:A 194 [y.p] f.p) (hc:Q70 f):A 68 [fms ls,fms hs,(Pf.p2 .exE a.p b.p).p] (qZ5 (Pf.p2 .exE a.p b.p) f hs [[a.pf hs (.q .ex s x)],[b.pf (upH 1 hs++[x]) y]]):=by
 exact f7 [(17,.n [(151,.n [(23,.r (a.pf hs (.q .ex s x)))]),(155,.r (fms (upH 1 hs))),(160,.r (fms (upH 1 hs++[x]))),(161,.n [(23,.r (b.pf (upH 1 hs++[x]) y))]),(162,.r f.p)]),(26,.U [.bool f.has,num 0]),(300003,.f 7 [[a.pf hs (.q .ex s x)],[b.pf (upH 1 hs++[x]) y]]),(300004,.fb 1 none)] ha hw hw2 hb hl hc (rfl:pvE [[a.pf hs (.q .ex s x)],[b.pf (upH 1 hs++[x]) y]]=pvE [[a.pf hs (.q .ex s x)],[b.pf (upH 1 hs++[x]) y]])
theorem zQd {ls hs:List Fm} {s:Ty} {a b:Jt} {x y f:Fm} (ha:Q68 ls hs a (.q .exU s x)) (hw:A 192 [fms hs,num 1] (fms (upH 1 hs))) (hw2:A 191 [fms (upH 1 hs),x.p] (fms (upH 1 hs++[x]))) (hb:Q68 ls (upH 1 hs++[x]) b y) (hl:A 194 [y.p] f.p) (hc:Q70 f):A 68 [fms ls,fms hs,(Pf.p2 .exUE a.p b.p).p] (qZ5 (Pf.p2 .exUE a.p b.p) f hs [[a.pf hs (.q .exU s x)],[b.pf (upH 1 hs++[x]) y]]):=by
 exact f7 [(17,.n [(151,.n [(23,.r (a.pf hs (.q .exU s x)))]),(155,.r (fms (upH 1 hs))),(160,.r (fms (upH 1 hs++[x]))),(161,.n [(23,.r (b.pf (upH 1 hs++[x]) y))]),(162,.r f.p)]),(26,.U [.bool f.has,num 0]),(300003,.f 7 [[a.pf hs (.q .exU s x)],[b.pf (upH 1 hs++[x]) y]]),(300004,.fb 1 none)] ha hw hw2 hb hl hc (rfl:pvE [[a.pf hs (.q .exU s x)],[b.pf (upH 1 hs++[x]) y]]=pvE [[a.pf hs (.q .exU s x)],[b.pf (upH 1 hs++[x]) y]])
theorem zQe {ls hs:List Fm} {t:Tm} {a b:Jt} {x y z f:Fm} (ha:Q68 ls hs a y) (hw:A 192 [fms hs,num 1] (fms (upH 1 hs))) (hw2:A 191 [fms (upH 1 hs),x.p] (fms (upH 1 hs++[x]))) (hb:Q68 ls (upH 1 hs++[x]) b z) (hp:A 193 [x.p,t.p] f.p) (hc:Q70 f):A 68 [fms ls,fms hs,(Pf.ind false x t a.p b.p).p] (qZ5 (Pf.ind false x t a.p b.p) f hs [[a.pf hs y],[b.pf (upH 1 hs++[x]) z]]):=by
 exact f7 [(17,.n [(164,.n [(23,.n [(23,.r (a.pf hs y))]),(27,.r (fms (upH 1 hs))),(32,.r (fms (upH 1 hs++[x]))),(33,.n [(23,.r (b.pf (upH 1 hs++[x]) z))]),(42,.r f.p)])]),(26,.U [.bool f.has,num 0]),(300003,.f 10 [[a.pf hs y],[b.pf (upH 1 hs++[x]) z]]),(300004,.fb 1 none)] ha hw hw2 hb hp hc (rfl:pvE [[a.pf hs y],[b.pf (upH 1 hs++[x]) z]]=pvE [[a.pf hs y],[b.pf (upH 1 hs++[x]) z]])
theorem zQf {ls hs:List Fm} {t:Tm} {a b:Jt} {x y z f:Fm} (ha:Q68 ls hs a y) (hx:A 257 [x.p,num 1,num 1] (FR.ok (x.sh 1 (.ofNat 1))).p) (hw:A 192 [fms hs,num 2] (fms (upH 2 hs))) (hw2:A 191 [fms (upH 2 hs),(x.sh 1 (.ofNat 1)).p] (fms (upH 2 hs++[(x.sh 1 (.ofNat 1))]))) (hb:Q68 ls (upH 2 hs++[(x.sh 1 (.ofNat 1))]) b z) (hp:A 193 [x.p,t.p] f.p) (hc:Q70 f):A 68 [fms ls,fms hs,(Pf.ind true x t a.p b.p).p] (qZ5 (Pf.ind true x t a.p b.p) f hs [[a.pf hs y],[b.pf (upH 2 hs++[(x.sh 1 (.ofNat 1))]) z]]):=by
 exact f8 [(17,.n [(164,.n [(48,.n [(23,.r (a.pf hs y))]),(54,.r (FR.ok (x.sh 1 (.ofNat 1))).p),(60,.r (fms (upH 2 hs))),(62,.r (fms (upH 2 hs++[(x.sh 1 (.ofNat 1))]))),(63,.n [(23,.r (b.pf (upH 2 hs++[(x.sh 1 (.ofNat 1))]) z))]),(72,.r f.p)])]),(26,.U [.bool f.has,num 0]),(300003,.f 10 [[a.pf hs y],[b.pf (upH 2 hs++[(x.sh 1 (.ofNat 1))]) z]]),(300004,.fb 1 none)] ha hx hw hw2 hb hp hc (rfl:pvE [[a.pf hs y],[b.pf (upH 2 hs++[(x.sh 1 (.ofNat 1))]) z]]=pvE [[a.pf hs y],[b.pf (upH 2 hs++[(x.sh 1 (.ofNat 1))]) z]])
theorem zQg {ls hs:List Fm} {t:Tm}  (hc:Q70 (Fm.eq t t)):A 68 [fms ls,fms hs,(Pf.refl t).p] (qZ5 (Pf.refl t) (Fm.eq t t) hs []):=by
 exact f1 [(17,.n [(164,.n [])]),(26,.U [.bool (Fm.eq t t).has,num 0]),(300004,.fb 1 none)] hc
theorem qRy {ls hs:List Fm} {a b:Jt} {t u:Tm} {x y f:Fm} (ha:Q68 ls hs a (.eq t u)) (hb:Q68 ls hs b y) (hp:A 193 [x.p,u.p] f.p) (hc:Q70 f):A 68 [fms ls,fms hs,(Pf.subst x a.p b.p).p] (qZ5 (Pf.subst x a.p b.p) f hs [[a.pf hs (.eq t u)],[b.pf hs y]]):=by
 exact f5 [(17,.n [(164,.n [(90,.n [(23,.r (a.pf hs (.eq t u)))]),(94,.n [(23,.r (b.pf hs y))]),(103,.r f.p)])]),(26,.U [.bool f.has,num 0]),(300003,.f 10 [[a.pf hs (.eq t u)],[b.pf hs y]]),(300004,.fb 1 none)] ha hb hp hc (rfl:pvE [[a.pf hs (.eq t u)],[b.pf hs y]]=pvE [[a.pf hs (.eq t u)],[b.pf hs y]])
theorem qNr {ls hs:List Fm} {a:Jt} {s u:Ty} {x y:Fm} (ha:Q68 ls hs a (.q .all s (.q .ex u x))) (hx:A 257 [x.p,num 2,num 1] (FR.ok (x.sh 2 (.ofNat 1))).p) (hp:A 193 [(x.sh 2 (.ofNat 1)).p,vapp.p] y.p) (hc:Q70 (Fm.q .ex (.two true s u) (.q .all s y))):A 68 [fms ls,fms hs,(Pf.p1 .choice a.p).p] (qZ5 (Pf.p1 .choice a.p) (Fm.q .ex (.two true s u) (.q .all s y)) hs [[a.pf hs (.q .all s (.q .ex u x))]]):=by
 exact f5 [(17,.n [(164,.n [(107,.n [(23,.r (a.pf hs (.q .all s (.q .ex u x))))]),(125,.r (FR.ok (x.sh 2 (.ofNat 1))).p),(133,.r y.p)])]),(26,.U [.bool (Fm.q .ex (.two true s u) (.q .all s y)).has,num 0]),(300003,.f 10 [[a.pf hs (.q .all s (.q .ex u x))]]),(300004,.fb 1 none)] ha hx hp hc (rfl:pvE [[a.pf hs (.q .all s (.q .ex u x))]]=pvE [[a.pf hs (.q .all s (.q .ex u x))]])
open Go.Lg
set_option maxRecDepth 100000
theorem qRz {ls hs:List Fm} {i:Nat} {f:Fm} (hl:hs.length≤mid) (hi:i<hs.length) (e:hs[hs.length-1-i]? = some f) (hc:Q70 f):A 68 [fms ls,fms hs,(Pf.leaf false i).p] (qZ5 (Pf.leaf false i) f hs []):=by
 have hm:=qQc
 have hb:=qQh
 have h1:=qVm (a:=(hs.map Fm.c).length) (by simp;omega) (by simp;omega)
 have h2:inB (Int.ofNat ((hs.map Fm.c).length-1) - .ofNat i)=true∧Int.ofNat ((hs.map Fm.c).length-1) - .ofNat i = .ofNat (hs.length-1-i):=by
  have e:Int.ofNat ((hs.map Fm.c).length-1) - .ofNat i = .ofNat (hs.length-1-i):=by simp;omega
  exact⟨by rw [e];exact inN (by omega),e⟩
 exact f4 [(17,.n [(21,.z ((hs.map Fm.c).length-1)),(24,.z (hs.length-1-i)),(25,.i f.c)]),(26,.U [.bool f.has,num 0]),(300004,.fb 1 none)] h1 h2 (qQi e Fm.c_len) hc
theorem qR0 {ls hs:List Fm} {i:Nat} {f:Fm} (e:ls[i]? = some f) (hc:Q70 f):A 68 [fms ls,fms hs,(Pf.leaf true i).p] (qZ5 (Pf.leaf true i) f hs []):=by
 exact f2 [(17,.n [(33,.i f.c)]),(26,.U [.bool f.has,num 0]),(300004,.fb 1 none)] (qQi e Fm.c_len) hc
theorem qR1 (p:Pf):1≤p.cnt:=by cases p<;>simp [Pf.cnt]<;>omega
theorem Jt.FKj {ls:List Fm} : ∀ {j:Jt} {n:Nat} {hs:List Fm},j.OK ls n hs→FK n j.f
 | .leaf _ _ _,_,_,h=>h.1
 | .refl _,_,_,h=>h.2
 | .p1 _ _ _,_,_,h=>h.1
 | .p2 _ _ _ _,_,_,h=>h.1
 | .impI _ _,_,_,h=>h.2.1
 | .all _ _ _,_,_,h=>h.2.1
 | .ins _ _ _ _,_,_,h=>h.1
 | .ex _ _ _ _,_,_,h=>h.1
 | .ind _ _ _ _ _ _,_,_,h=>h.1
 | .subst _ _ _ _,_,_,h=>h.1
theorem qGx {n k:Nat} {hs:List Fm} (h:∀ f∈hs,FK n f):∀ f∈upH k hs,FK (n+k) f:=by
 intro f hf
 obtain⟨g,hg,rfl⟩:=List.mem_map.1 hf
 exact (h g hg).sh 0 k
theorem qGy {n:Nat} {hs:List Fm} {x:Fm} (h:∀ f∈hs,FK n f) (hx:FK n x):∀ f∈hs++[x],FK n f:=by
 intro f hf
 rcases List.mem_append.1 hf with hf|hf
 ·exact h f hf
 ·simp at hf;subst hf;exact hx
theorem zQh (n:Nat):TK (n+2) vapp:=⟨by decide,rfl,by show 1<n+2∧0<n+2;omega⟩
theorem a68 {ls:List Fm} : ∀ (j:Jt) (n:Nat) (hs:List Fm),(∀ f∈hs,FK n f)→hs.length+j.p.cnt≤mid→n+j.p.cnt≤90000→j.OK ls n hs→J68 ls hs j
 | .leaf u i f,n,hs,hh,hl,hn,h=>by
  have hlm:lim=100000:=rfl
  simp only [Jt.p,Pf.cnt] at hl hn
  obtain⟨h0,h⟩:=h
  cases u
  ·exact qRz (by omega) h.1 h.2 (h0.a70 (by omega))
  ·exact qR0 h (h0.a70 (by omega))
 | .refl t,n,hs,hh,hl,hn,h=>zQg (h.2.a70 (by have hlm:lim=100000:=rfl;omega))
 | .p1 k a f,n,hs,hh,hl,hn,⟨h0,h1,h2⟩=>by
  have hlm:lim=100000:=rfl
  simp only [Jt.p,Pf.cnt] at hl hn
  have ih:=a68 a n hs hh (by omega) (by omega) h1
  have hc:=h0.a70 (by omega)
  cases k
  ·obtain⟨y,e⟩:=h2
   have g:=qU4 (a:=a) (f:=f) (y:=y) (by rw [← e];exact ih) hc
   rw [← e] at g
   exact g
  ·obtain⟨y,e⟩:=h2
   have g:=qU5 (a:=a) (f:=f) (y:=y) (by rw [← e];exact ih) hc
   rw [← e] at g
   exact g
  ·obtain⟨s,u,x,e,y,e1,e2⟩:=h2
   subst e2
   have hx:FK (n+2) x:=by
    have:=Jt.FKj h1
    rw [e] at this
    exact this.qf.qf
   have g:=qNr (a:=a) (s:=s) (u:=u) (x:=x) (y:=y) (by rw [← e];exact ih) (zW8 hx (by omega)) (zC3 (n:=n+2) (hx.sh 2 1) (zQh n) (by omega) e1) hc
   rw [← e] at g
   exact g
 | .p2 k a b f,n,hs,hh,hl,hn,⟨h0,h1,h2⟩=>by
  have hlm:lim=100000:=rfl
  simp only [Jt.p,Pf.cnt] at hl hn
  have ca:=qR1 a.p
  have ih:=a68 a n hs hh (by omega) (by omega) h1
  have hc:=h0.a70 (by omega)
  cases k
  ·obtain⟨h3,e⟩:=h2
   subst e
   exact qU6 ih (a68 b n hs hh (by omega) (by omega) h3) hc
  ·obtain⟨h3,x,e⟩:=h2
   have g:=qU7 (a:=a) (b:=b) (x:=x) (f:=f) (by rw [← e];exact ih) (a68 b n hs hh (by omega) (by omega) h3) hc
   rw [← e] at g
   exact g
  ·obtain⟨h3,⟨s,e⟩,e1⟩:=h2
   generalize hx:a.f.bd=x at *
   have hF:FK (n+1) x:=by
    have:=Jt.FKj h1
    rw [e] at this
    exact this.qf
   have hl2:(upH 1 hs).length=hs.length:=by simp
   have g:=zKk (a:=a) (b:=b) (s:=s) (x:=x) (y:=b.f) (f:=f) (by rw [← e];exact ih) (up1 (n:=n) (by omega) hh (by omega)) (zBa _ _ (by omega)) (a68 b (n+1) _ (qGy (qGx hh) hF) (by simp;omega) (by omega) h3) (zHa (Jt.FKj h3) h0 (by omega) e1) hc
   rw [← e,← hx] at g
   exact g
  ·obtain⟨h3,⟨s,e⟩,e1⟩:=h2
   generalize hx:a.f.bd=x at *
   have hF:FK (n+1) x:=by
    have:=Jt.FKj h1
    rw [e] at this
    exact this.qf
   have hl2:(upH 1 hs).length=hs.length:=by simp
   have g:=zQd (a:=a) (b:=b) (s:=s) (x:=x) (y:=b.f) (f:=f) (by rw [← e];exact ih) (up1 (n:=n) (by omega) hh (by omega)) (zBa _ _ (by omega)) (a68 b (n+1) _ (qGy (qGx hh) hF) (by simp;omega) (by omega) h3) (zHa (Jt.FKj h3) h0 (by omega) e1) hc
   rw [← e,← hx] at g
   exact g
 | .impI x a,n,hs,hh,hl,hn,⟨h0,h1,h2⟩=>by
  have hlm:lim=100000:=rfl
  simp only [Jt.p,Pf.cnt] at hl hn
  exact qU8 (zBa _ _ (by omega)) (a68 a n _ (qGy hh h0) (by simp;omega) (by omega) h2) (h1.a70 (by omega))
 | .all u s a,n,hs,hh,hl,hn,⟨h0,h1,h2⟩=>by
  have hlm:lim=100000:=rfl
  simp only [Jt.p,Pf.cnt] at hl hn
  have ih:=a68 a (n+1) _ (qGx hh) (by simp;omega) (by omega) h2
  cases u
  ·exact qU9 (up1 (n:=n) (by omega) hh (by omega)) ih (h1.a70 (by omega))
  ·exact zQa (up1 (n:=n) (by omega) hh (by omega)) ih (h1.a70 (by omega))
 | .ins u t a f,n,hs,hh,hl,hn,⟨h0,h1,h2,s,x,e,e1⟩=>by
  have hlm:lim=100000:=rfl
  simp only [Jt.p,Pf.cnt] at hl hn
  have ih:=a68 a n hs hh (by omega) (by omega) h2
  have hF:FK (n+1) x:=by
   have:=Jt.FKj h2
   rw [e] at this
   exact this.qf
  have hp:=zC3 hF h1 (by omega) e1
  cases u
  ·have g:=zQb (t:=t) (a:=a) (s:=s) (x:=x) (f:=f) (by rw [show Fm.q .all s x=a.f from e.symm];exact ih) hp (h0.a70 (by omega))
   rw [show Fm.q .all s x=a.f from e.symm] at g
   exact g
  ·have g:=zQc (t:=t) (a:=a) (s:=s) (x:=x) (f:=f) (by rw [show Fm.q .allU s x=a.f from e.symm];exact ih) hp (h0.a70 (by omega))
   rw [show Fm.q .allU s x=a.f from e.symm] at g
   exact g
 | .ex u x t a,n,hs,hh,hl,hn,⟨h0,h1,h2,_,_⟩=>by
  have hlm:lim=100000:=rfl
  simp only [Jt.p,Pf.cnt] at hl hn
  exact zBc (a68 a n hs hh (by omega) (by omega) h2) (h0.a70 (by omega))
 | .ind l x t a b f,n,hs,hh,hl,hn,⟨h0,h1,h2,h3,e,_,h4⟩=>by
  have hlm:lim=100000:=rfl
  simp only [Jt.p,Pf.cnt] at hl hn
  have ca:=qR1 a.p
  have ct:=qB8 t
  have ih:=a68 a n hs hh (by omega) (by omega) h3
  have hp:=zC3 h1 h2 (by omega) e
  have hl2:(upH 1 hs).length=hs.length:=by simp
  have hl3:(upH 2 hs).length=hs.length:=by simp
  cases l
  ·exact zQe ih (up1 (n:=n) (by omega) hh (by omega)) (zBa _ _ (by omega)) (a68 b (n+1) _ (qGy (qGx hh) h1) (by simp;omega) (by omega) h4) hp (h0.a70 (by omega))
  ·exact zQf ih (zW7 h1 (by omega)) (up2 (n:=n) (by omega) hh (by omega)) (zBa _ _ (by omega)) (a68 b (n+2) _ (qGy (qGx hh) (h1.sh 1 1)) (by simp;omega) (by omega) h4) hp (h0.a70 (by omega))
 | .subst x a b f,n,hs,hh,hl,hn,⟨h0,h1,h2,h3,_,t,u,e,e1⟩=>by
  have hlm:lim=100000:=rfl
  simp only [Jt.p,Pf.cnt] at hl hn
  have ih:=a68 a n hs hh (by omega) (by omega) h2
  have hT:TK n u:=by
   have:=Jt.FKj h2
   rw [e] at this
   exact this.eq2
  have g:=qRy (a:=a) (b:=b) (t:=t) (u:=u) (x:=x) (f:=f) (by rw [← e];exact ih) (a68 b n hs hh (by omega) (by omega) h3) (zC3 h1 hT (by omega) e1) (h0.a70 (by omega))
  rw [← e] at g
  exact g
inductive Hy where
 | bare (pl:Nat)
 | hy (t:Tm) (d pl:Nat)
def Hy.k:Hy→Nat
 | .bare _=>0 | .hy t _ _=>t.kd
def Hy.i:Hy→Nat
 | .bare _=>0 | .hy t _ _=>t.ix
def Hy.tk:Hy→Nat
 | .bare _=>0 | .hy t _ _=>t.tk
def Hy.te:Hy→List (List PV)
 | .bare _=>[] | .hy t _ _=>t.te
def Hy.es:Hy→List (List PV)
 | .bare _=>[] | .hy t _ _=>t.es
def Hy.d:Hy→Nat
 | .bare _=>0 | .hy _ d _=>d
def Hy.has:Hy→Bool
 | .bare _=>false | .hy _ _ _=>true
def Hy.pl:Hy→Nat
 | .bare p=>p | .hy _ _ p=>p
abbrev Hy.c (h:Hy):List PV:=[num h.k,num h.i,num h.tk,.slice h.te,.slice h.es,num h.d,.bool h.has,num h.pl]
abbrev ec (e:Tm × Nat):List PV:=[num e.1.kd,num e.1.ix,num e.1.tk,.slice e.1.te,.slice e.1.es,num e.2]
theorem zJz (e:Tm × Nat):(ec e).length=6:=rfl
theorem Hy.c_len (h:Hy):h.c.length=8:=rfl
structure Sc where
 dep:Nat
 hyps:Nat
 vs:List (Tm × Nat)
 ks:List Hy
abbrev Sc.p (s:Sc):PV:=.agg [num s.dep,num s.hyps,.slice (s.vs.map ec),.slice (s.ks.map Hy.c)]
def ent (vs:List (Tm × Nat)) (v:Nat):Option (Tm × Nat):=if v<vs.length then vs[vs.length-1-v]? else none
def Tm.ps (vs:List (Tm × Nat)) (d:Nat):Tm→Nat→Tm
 | .v i,b=>if i<b then .v i else match ent vs (i-b) with
  | some e=>e.1.sh 0 (.ofNat (d-e.2+b))
  | none => .v i
 | .lam s t,b => .lam s (t.ps vs d (b+1))
 | .n0 k,_ => .n0 k
 | .n1 k a,b => .n1 k (a.ps vs d b)
 | .n2 k x y,b => .n2 k (x.ps vs d b) (y.ps vs d b)
 | .n3 k s x y z,b => .n3 k s (x.ps vs d b) (y.ps vs d b) (z.ps vs d b)
theorem qXp (k:Nat):∀ (t:Tm) (c w:Nat),(t.sh c (.ofNat k)).occ w≠0→(w<c∧t.occ w≠0)∨(c+k≤w∧t.occ (w-k)≠0)
 | .v i,c,w,h=>by
  unfold Tm.sh at h
  split at h
  ·rename_i hc
   rw [show (Int.ofNat i+Int.ofNat k).toNat=i+k from rfl] at h
   simp only [Tm.occ] at h ⊢
   split at h
   ·rename_i e
    right
    exact⟨by omega,by rw [if_pos (by omega)];decide⟩
   ·exact absurd rfl h
  ·rename_i hc
   simp only [Tm.occ] at h ⊢
   split at h
   ·rename_i e
    left
    exact⟨by omega,by rw [if_pos e];decide⟩
   ·exact absurd rfl h
 | .lam s b,c,w,h=>by
  rcases qXp k b (c+1) (w+1) h with ⟨h1,h2⟩|⟨h1,h2⟩
  ·exact .inl ⟨by omega,h2⟩
  ·refine .inr ⟨by omega,?_⟩
   rw [show w+1-k=w-k+1 by omega] at h2
   exact h2
 | .n0 _,c,w,h=>absurd rfl h
 | .n1 _ a,c,w,h=>qXp k a c w h
 | .n2 _ a b,c,w,h=>by
  simp only [Tm.sh,Tm.occ] at h ⊢
  have h1:=qXp k a c w
  have h2:=qXp k b c w
  by_cases e:(a.sh c (.ofNat k)).occ w=0
  ·rcases h2 (by omega) with h|h
   ·exact .inl ⟨h.1,by omega⟩
   ·exact .inr ⟨h.1,by omega⟩
  ·rcases h1 e with h|h
   ·exact .inl ⟨h.1,by omega⟩
   ·exact .inr ⟨h.1,by omega⟩
 | .n3 _ _ a b d,c,w,h=>by
  simp only [Tm.sh,Tm.occ] at h ⊢
  have h1:=qXp k a c w
  have h2:=qXp k b c w
  have h3:=qXp k d c w
  by_cases e:(a.sh c (.ofNat k)).occ w=0
  ·by_cases e':(b.sh c (.ofNat k)).occ w=0
   ·rcases h3 (by omega) with h|h
    ·exact .inl ⟨h.1,by omega⟩
    ·exact .inr ⟨h.1,by omega⟩
   ·rcases h2 e' with h|h
    ·exact .inl ⟨h.1,by omega⟩
    ·exact .inr ⟨h.1,by omega⟩
  ·rcases h1 e with h|h
   ·exact .inl ⟨h.1,by omega⟩
   ·exact .inr ⟨h.1,by omega⟩
theorem qMc {vs:List (Tm × Nat)} {v:Nat} (h:v<vs.length):∃ e,ent vs v=some e∧e∈vs:=by
 unfold ent
 rw [if_pos h]
 obtain⟨e,he⟩:∃ e,vs[vs.length-1-v]? = some e:=⟨_,List.getElem?_eq_getElem (by omega)⟩
 exact⟨e,he,List.mem_of_getElem? he⟩
theorem qIq {vs:List (Tm × Nat)} {v:Nat} {e:Tm × Nat} (h:ent vs v=some e):e∈vs:=by
 unfold ent at h
 split at h
 ·exact List.mem_of_getElem? h
 ·cases h
theorem zE0 (vs:List (Tm × Nat)) (e:Tm × Nat):ent (vs++[e]) 0=some e:=by
 unfold ent
 rw [if_pos (by simp)]
 simp
theorem zE1 (vs:List (Tm × Nat)) (e:Tm × Nat) (v:Nat):ent (vs++[e]) (v+1)=ent vs v:=by
 unfold ent
 by_cases h:v<vs.length
 ·rw [if_pos h,if_pos (by simp;omega)]
  rw [List.getElem?_append_left (by simp;omega)]
  congr 1
  simp
  omega
 ·rw [if_neg h,if_neg (by simp;omega)]
def EOK (d:Nat) (vs:List (Tm × Nat)):Prop:=∀ e∈vs,e.2≤d∧TK e.2 e.1
def OP (vs:List (Tm × Nat)) (d:Nat) (t:Tm) (b w:Nat):Prop:=(w<b∧t.occ w≠0)∨(∃ v e,ent vs v=some e∧t.occ (v+b)≠0∧b+(d-e.2)≤w∧e.1.occ (w-b-(d-e.2))≠0)∨(vs.length+b≤w∧t.occ w≠0)
theorem OP.mono {vs:List (Tm × Nat)} {d b w:Nat} {t t':Tm} (hm:∀ w,t.occ w≠0→t'.occ w≠0) (h:OP vs d t b w):OP vs d t' b w:=by
 rcases h with ⟨h1,h2⟩|⟨v,e,h1,h2,h3,h4⟩|⟨h1,h2⟩
 ·exact .inl ⟨h1,hm _ h2⟩
 ·exact .inr (.inl ⟨v,e,h1,hm _ h2,h3,h4⟩)
 ·exact .inr (.inr ⟨h1,hm _ h2⟩)
theorem or2 {a b:Nat} (h:a+b≠0):a≠0∨b≠0:=by omega
theorem zC5 {a b:Nat} (h:a≠0):a+b≠0:=by omega
theorem zE2 {a b:Nat} (h:b≠0):a+b≠0:=by omega
theorem qYl (vs:List (Tm × Nat)) (d:Nat):∀ (t:Tm) (b w:Nat),(t.ps vs d b).occ w≠0→OP vs d t b w
 | .v i,b,w,h=>by
  unfold Tm.ps at h
  split at h
  ·rename_i hb
   simp only [Tm.occ] at h
   split at h
   ·rename_i e;subst e
    exact .inl ⟨hb,by simp [Tm.occ]⟩
   ·exact absurd rfl h
  ·rename_i hb
   split at h
   ·rename_i e he
    rcases qXp _ _ _ _ h with ⟨h1,_⟩|⟨h1,h2⟩
    ·omega
    ·refine .inr (.inl ⟨i-b,e,he,?_,by omega,?_⟩)
     ·simp only [Tm.occ];rw [if_pos (by omega)];decide
     ·rw [show w-b-(d-e.2)=w-(d-e.2+b) by omega];simpa using h2
   ·rename_i he
    simp only [Tm.occ] at h
    split at h
    ·rename_i e;subst e
     refine .inr (.inr ⟨?_,by simp [Tm.occ]⟩)
     unfold ent at he
     split at he
     ·rename_i hl
      rw [List.getElem?_eq_getElem (by omega)] at he
      cases he
     ·omega
    ·exact absurd rfl h
 | .lam s t,b,w,h=>by
  rcases qYl vs d t (b+1) (w+1) h with ⟨h1,h2⟩|⟨v,e,h1,h2,h3,h4⟩|⟨h1,h2⟩
  ·exact .inl ⟨by omega,h2⟩
  ·exact .inr (.inl ⟨v,e,h1,h2,by omega,by rw [show w-b-(d-e.2)=w+1-(b+1)-(d-e.2) by omega];exact h4⟩)
  ·exact .inr (.inr ⟨by omega,h2⟩)
 | .n0 _,b,w,h=>absurd rfl h
 | .n1 _ a,b,w,h=>(qYl vs d a b w h).mono fun _ h=>h
 | .n2 _ x y,b,w,h=>by
  rcases or2 h with h|h
  ·exact (qYl vs d x b w h).mono fun _ h=>zC5 h
  ·exact (qYl vs d y b w h).mono fun _ h=>zE2 h
 | .n3 _ _ x y z,b,w,h=>by
  rcases or2 h with h|h
  ·rcases or2 h with h|h
   ·exact (qYl vs d x b w h).mono fun _ h=>zC5 (zC5 h)
   ·exact (qYl vs d y b w h).mono fun _ h=>zC5 (zE2 h)
  ·exact (qYl vs d z b w h).mono fun _ h=>zE2 h
theorem qYm {vs:List (Tm × Nat)} {d:Nat} (hv:EOK d vs):∀ (t:Tm) (b:Nat),(t.ps vs d b).cnt≤4096 * t.cnt
 | .v i,b=>by
  unfold Tm.ps
  split
  ·simp [Tm.cnt]
  ·split
   ·rename_i e he
    rw [qQu]
    have:=(hv e (qIq he)).2.cnt
    simp only [Tm.cnt];omega
   ·simp [Tm.cnt]
 | .lam s t,b=>by have:=qYm hv t (b+1);simp only [Tm.ps,Tm.cnt];omega
 | .n0 _,b=>by simp only [Tm.ps,Tm.cnt];omega
 | .n1 _ a,b=>by have:=qYm hv a b;simp only [Tm.ps,Tm.cnt];omega
 | .n2 _ x y,b=>by have:=qYm hv x b;have:=qYm hv y b;simp only [Tm.ps,Tm.cnt];omega
 | .n3 _ _ x y z,b=>by have:=qYm hv x b;have:=qYm hv y b;have:=qYm hv z b;simp only [Tm.ps,Tm.cnt];omega
theorem qYn {vs:List (Tm × Nat)} {d:Nat} (hv:EOK d vs):∀ (t:Tm) (b:Nat),t.shp=true→(t.ps vs d b).shp=true
 | .v i,b,h=>by
  unfold Tm.ps
  split
  ·rfl
  ·split
   ·rename_i e he
    rw [qWv]
    exact (hv e (qIq he)).2.shp
   ·rfl
 | .lam s t,b,h=>by
  obtain⟨h1,h2⟩:=qQ3 h
  show (_ && _)=true
  rw [h1,qYn hv t (b+1) h2];rfl
 | .n0 _,b,h=>rfl
 | .n1 _ a,b,h=>qYn hv a b h
 | .n2 _ x y,b,h=>by
  obtain⟨h1,h2⟩:=qQ3 h
  show (_ && _)=true
  rw [qYn hv x b h1,qYn hv y b h2];rfl
 | .n3 _ _ x y z,b,h=>by
  obtain⟨h1,h2⟩:=qQ3 h
  obtain⟨h2,h3⟩:=qQ3 h2
  obtain⟨h3,h4⟩:=qQ3 h3
  show (_ && (_ && (_ && _)))=true
  rw [h1,qYn hv x b h2,qYn hv y b h3,qYn hv z b h4];rfl
theorem qGz {vs:List (Tm × Nat)} {d:Nat} (hv:EOK d vs):∀ (t:Tm) (b:Nat),t.sc (vs.length+b)→(t.ps vs d b).sc (d+b)
 | .v i,b,h=>by
  have h:i<vs.length+b:=h
  unfold Tm.ps
  split
  ·show i<d+b;omega
  ·obtain⟨e,he,hm⟩:=qMc (vs:=vs) (v:=i-b) (by omega)
   rw [he]
   simp only
   obtain⟨h1,h2⟩:=hv e hm
   have:=qY3 (d-e.2+b) e.1 0 e.2 h2.sc
   rwa [show e.2+(d-e.2+b)=d+b by omega] at this
 | .lam s t,b,h=>qGz hv t (b+1) h
 | .n0 _,b,h=>trivial
 | .n1 _ a,b,h=>qGz hv a b h
 | .n2 _ x y,b,h=>⟨qGz hv x b h.1,qGz hv y b h.2⟩
 | .n3 _ _ x y z,b,h=>⟨qGz hv x b h.1,qGz hv y b h.2.1,qGz hv z b h.2.2⟩
def Tm.lv (R:Nat→Prop) (d:Nat) (t:Tm):Prop:=∀ w,t.occ w≠0→w<d→R (d-1-w)
theorem zE3 {R:Nat→Prop} {d:Nat} {t:Tm} (h:t.lv R d) (k:Nat):(t.sh 0 (.ofNat k)).lv R (d+k):=by
 intro w hw hd
 rcases qXp k t 0 w hw with ⟨h1,_⟩|⟨h1,h2⟩
 ·omega
 ·have:=h (w-k) h2 (by omega)
  rwa [show d-1-(w-k)=d+k-1-w by omega] at this
theorem qR2 {R Q:Nat→Prop} {d:Nat} {t:Tm} (hq:∀ l,R l→l<d→Q l) (h:t.lv R d):t.lv Q d:=fun w hw hd=>hq _ (h w hw hd) (by omega)
theorem zE4 {R:Nat→Prop} {vs:List (Tm × Nat)} {d:Nat} (hv:EOK d vs) {t:Tm} (ht:t.sc vs.length) (h:∀ v e,ent vs v=some e→t.occ v≠0→e.1.lv R e.2):(t.ps vs d 0).lv R d:=by
 intro w hw hd
 rcases qYl vs d t 0 w hw with ⟨h1,_⟩|⟨v,e,h1,h2,h3,h4⟩|⟨h1,h2⟩
 ·omega
 ·have he:=(hv e (qIq h1)).1
  have:=h v e h1 h2 _ h4 (by omega)
  rwa [show e.2-1-(w-0-(d-e.2))=d-1-w by omega] at this
 ·exact absurd (qWu t w (by have:=(qXo t _).1 ht;omega)) h2
theorem zBd {R:Nat→Prop} {d:Nat} {s:Ty} {t:Tm} (h:t.lv (fun l=>R l∨d≤l) (d+1)):(Tm.lam s t).lv R d:=by
 intro w hw hd
 rcases h (w+1) hw (by omega) with h|h
 ·rwa [show d+1-1-(w+1)=d-1-w by omega] at h
 ·omega
theorem zE5 {R:Nat→Prop} {d:Nat} {k:K1} {a:Tm} (h:a.lv R d):(Tm.n1 k a).lv R d:=h
theorem zHb {R:Nat→Prop} {d:Nat} {k:K2} {a b:Tm} (h:a.lv R d) (h':b.lv R d):(Tm.n2 k a b).lv R d:=by
 intro w hw hd
 by_cases e:a.occ w=0
 ·exact h' w (by simp only [Tm.occ] at hw;omega) hd
 ·exact h w e hd
theorem zHc {R:Nat→Prop} {d:Nat} {k:K3} {s:Ty} {a b c:Tm} (h:a.lv R d) (h':b.lv R d) (h'':c.lv R d):(Tm.n3 k s a b c).lv R d:=by
 intro w hw hd
 by_cases e:a.occ w=0
 ·by_cases e':b.occ w=0
  ·exact h'' w (by simp only [Tm.occ] at hw;omega) hd
  ·exact h' w e' hd
 ·exact h w e hd
theorem zBe {R:Nat→Prop} {d:Nat} {t:Tm} (h:t.sc 0):t.lv R d:=fun w hw _=>absurd (qWu t w (by have:=(qXo t _).1 h;omega)) hw
theorem zE6 {R:Nat→Prop} {d i:Nat} (h:i<d→R (d-1-i)):(Tm.v i).lv R d:=by
 intro w hw hd
 simp only [Tm.occ] at hw
 split at hw
 ·rename_i e;subst e;exact h hd
 ·exact absurd rfl hw
open Go.Lg
set_option maxRecDepth 100000
theorem qMd:∀ f g:Fm,nmF f=some g→g.sp=f.sp
 | .eq a b,g,e=>by
  unfold nmF at e
  split at e
  ·split at e
   ·cases e;rfl
   ·cases e
  ·cases e
 | .bin k a b,g,e=>by
  unfold nmF at e
  split at e
  ·rename_i x e1
   split at e
   ·rename_i y e2
    cases e
    simp only [Fm.sp,qMd a x e1,qMd b y e2]
   ·cases e
  ·cases e
 | .q k s a,g,e=>by
  unfold nmF at e
  split at e
  ·rename_i x e1
   cases e
   simp only [Fm.sp,qMd a x e1]
  ·cases e
theorem qMe {f g:Fm} (e:wtF f=some g):g.sp=f.sp:=by
 unfold wtF at e
 split at e
 ·cases e;exact qJ9 0 (.v 0) f 0
 ·split at e
  ·rename_i y e1
   split at e
   ·cases e
    rw [← qMd f y e1]
    exact qJ9 0 (.v 0) y 0
   ·cases e
  ·cases e
theorem qE3 {f g:Fm} {t:Tm} (e:f.pt t = .ok g):g.sp=f.sp:=by
 unfold Fm.pt at e
 split at e
 ·cases e;exact qJ9 0 t f 0
 ·cases e
theorem qWx {f g:Fm} (e:f.sp=g.sp):f.has=g.has:=by rw [← qKl,← qKl,e]
theorem qYo (k:Nat) (hs:List Fm):(upH k hs).map Fm.sp=hs.map Fm.sp:=by
 simp only [upH,List.map_map]
 exact List.map_congr_left fun f _=>qXn _ f 0
theorem qWy (k:Nat) (hs:List Fm):(upH k hs).map Fm.has=hs.map Fm.has:=by
 simp only [upH,List.map_map]
 exact List.map_congr_left fun f _=>qWx (qXn _ f 0)
def lN:Bool→Nat
 | false=>1
 | true=>2
def Jt.us:Jt→Nat→Prop
 | .leaf _ _ _,_=>False
 | .refl _,_=>False
 | .p1 _ a f,v=>f.has=true∧a.us v
 | .p2 k a b f,v=>f.has=true∧(a.us v∨match k with
  | .andI=>b.us v
  | .impE=>b.us v
  | _=>b.us (v+1))
 | .impI x a,v=>(Fm.bin .imp x a.f).has=true∧a.us v
 | .all u s a,v=>(Fm.q (aq u) s a.f).has=true∧a.us (v+1)
 | .ins u t a f,v=>f.has=true∧(a.us v∨u=false∧t.occ v≠0)
 | .ex u x t a,v=>x.has=true∧(a.us v∨u=false∧t.occ v≠0)
 | .ind l x t a b f,v=>f.has=true∧(t.occ v≠0∨a.us v∨b.us (v+lN l))
 | .subst x a b f,v=>f.has=true∧b.us v
theorem qKo (ls:List Fm):∀ (j:Jt) (n:Nat) (hs:List Fm),j.OK ls n hs→shp (ls.map Fm.sp) (hs.map Fm.sp) j.p=some j.f.sp
 | .leaf u i f,n,hs,h=>by
  obtain⟨_,h⟩:=h
  cases u
  ·obtain⟨h1,h2⟩:=h
   simp [Jt.p,Jt.f,shp,h1,h2]
  ·simp only [] at h
   simp [Jt.p,Jt.f,shp,h]
 | .refl t,n,hs,h=>rfl
 | .p1 k a f,n,hs,⟨_,h1,h2⟩=>by
  have ih:=qKo ls a n hs h1
  cases k
  ·obtain⟨y,e⟩:=h2
   rw [e] at ih
   simp only [Fm.sp] at ih
   simp only [Jt.p,Jt.f,shp,ih]
  ·obtain⟨y,e⟩:=h2
   rw [e] at ih
   simp only [Fm.sp] at ih
   simp only [Jt.p,Jt.f,shp,ih]
  ·obtain⟨s,u,x,e,y,e1,e2⟩:=h2
   rw [e] at ih
   simp only [Fm.sp] at ih
   have e3:=qE3 e1
   rw [qXn] at e3
   simp only [Jt.p,Jt.f,shp,ih,e2,Fm.sp,e3]
 | .p2 k a b f,n,hs,⟨_,h1,h2⟩=>by
  have ih:=qKo ls a n hs h1
  cases k
  ·obtain⟨h3,e⟩:=h2
   have ib:=qKo ls b n hs h3
   simp only [Jt.p,Jt.f,shp,ih,ib,e,Fm.sp,Option.map_some]
  ·obtain⟨h3,x,e⟩:=h2
   rw [e] at ih
   simp only [Fm.sp] at ih
   simp only [Jt.p,Jt.f,shp,ih]
  ·obtain⟨h3,⟨s,e⟩,e1⟩:=h2
   have ib:=qKo ls b (n+1) _ h3
   rw [List.map_append,qYo] at ib
   rw [e] at ih
   simp only [Fm.sp] at ih
   simp only [Jt.p,Jt.f,shp,ih]
   rw [qMe e1]
   exact ib
  ·obtain⟨h3,⟨s,e⟩,e1⟩:=h2
   have ib:=qKo ls b (n+1) _ h3
   rw [List.map_append,qYo] at ib
   rw [e] at ih
   simp only [Fm.sp] at ih
   simp only [Jt.p,Jt.f,shp,ih]
   rw [qMe e1]
   exact ib
 | .impI x a,n,hs,⟨_,_,h1⟩=>by
  have ih:=qKo ls a n _ h1
  rw [List.map_append] at ih
  simp only [List.map_cons,List.map_nil] at ih
  simp only [Jt.p,Jt.f,shp,ih,Fm.sp,Option.map_some]
 | .all u s a,n,hs,⟨_,_,h1⟩=>by
  have ih:=qKo ls a (n+1) _ h1
  rw [qYo] at ih
  simp only [Jt.p,Jt.f,shp,ih,Fm.sp,Option.map_some]
 | .ins u t a f,n,hs,⟨_,_,h1,s,x,e,e1⟩=>by
  have ih:=qKo ls a n hs h1
  rw [e] at ih
  simp only [Fm.sp] at ih
  simp only [Jt.p,Jt.f,shp,ih,qE3 e1]
 | .ex u x t a,n,hs,h=>rfl
 | .ind l x t a b f,n,hs,⟨_,_,_,_,e,_⟩=>by simp only [Jt.p,Jt.f,shp,qE3 e]
 | .subst x a b f,n,hs,⟨_,_,_,_,_,t,u,_,e⟩=>by simp only [Jt.p,Jt.f,shp,qE3 e]
theorem qG0 {ls:List Fm} {j:Jt} {n:Nat} {hs:List Fm} (h:j.OK ls n hs) (e:j.f.has=true):zJa (shp (ls.map Fm.sp) (hs.map Fm.sp) j.p)=true:=by
 rw [qKo ls j n hs h]
 show j.f.sp.has=true
 rw [qKl,e]
theorem qKz (ls:List Fm):∀ (j:Jt) (n:Nat) (hs:List Fm) (v:Nat),j.OK ls n hs→j.us v→us (ls.map Fm.sp) (hs.map Fm.sp) j.p v
 | .leaf _ _ _,n,hs,v,h,hu=>hu
 | .refl _,n,hs,v,h,hu=>hu
 | .p1 k a f,n,hs,v,h,hu=>⟨qG0 h hu.1,qKz ls a n hs v h.2.1 hu.2⟩
 | .p2 k a b f,n,hs,v,h,hu=>by
  refine⟨qG0 h hu.1,?_⟩
  obtain⟨_,h1,h2⟩:=h
  have ih:=qKo ls a n hs h1
  rcases hu.2 with hu|hu
  ·exact .inl (qKz ls a n hs v h1 hu)
  ·right
   cases k
   ·exact qKz ls b n hs v h2.1 hu
   ·exact qKz ls b n hs v h2.1 hu
   ·obtain⟨h3,⟨s,e⟩,e1⟩:=h2
    have ib:=qKz ls b (n+1) _ (v+1) h3 hu
    rw [List.map_append,qYo] at ib
    rw [e] at ih
    simp only [Fm.sp] at ih
    show match P2.exE,shp (ls.map Fm.sp) (hs.map Fm.sp) a.p with
     | .andI,_=>us (ls.map Fm.sp) (hs.map Fm.sp) b.p v
     | .impE,_=>us (ls.map Fm.sp) (hs.map Fm.sp) b.p v
     | _,some (.q _ x)=>us (ls.map Fm.sp) (hs.map Fm.sp++[x]) b.p (v+1)
     | _,_=>False
    rw [ih]
    exact ib
   ·obtain⟨h3,⟨s,e⟩,e1⟩:=h2
    have ib:=qKz ls b (n+1) _ (v+1) h3 hu
    rw [List.map_append,qYo] at ib
    rw [e] at ih
    simp only [Fm.sp] at ih
    show match P2.exUE,shp (ls.map Fm.sp) (hs.map Fm.sp) a.p with
     | .andI,_=>us (ls.map Fm.sp) (hs.map Fm.sp) b.p v
     | .impE,_=>us (ls.map Fm.sp) (hs.map Fm.sp) b.p v
     | _,some (.q _ x)=>us (ls.map Fm.sp) (hs.map Fm.sp++[x]) b.p (v+1)
     | _,_=>False
    rw [ih]
    exact ib
 | .impI x a,n,hs,v,h,hu=>by
  refine⟨qG0 h hu.1,?_⟩
  have ih:=qKz ls a n _ v h.2.2 hu.2
  rw [List.map_append] at ih
  exact ih
 | .all u s a,n,hs,v,h,hu=>by
  refine⟨qG0 h hu.1,?_⟩
  have ih:=qKz ls a (n+1) _ (v+1) h.2.2 hu.2
  rw [qYo] at ih
  exact ih
 | .ins u t a f,n,hs,v,h,hu=>by
  refine⟨qG0 h hu.1,?_⟩
  rcases hu.2 with hu|hu
  ·exact .inl (qKz ls a n hs v h.2.2.1 hu)
  ·exact .inr hu
 | .ex u x t a,n,hs,v,h,hu=>by
  refine⟨by rw [qKl];exact hu.1,?_⟩
  rcases hu.2 with hu|hu
  ·exact .inl (qKz ls a n hs v h.2.2.1 hu)
  ·exact .inr hu
 | .ind l x t a b f,n,hs,v,h,hu=>by
  obtain⟨_,_,_,h1,e,_,h2⟩:=h
  refine⟨by rw [← qE3 e,qKl];exact hu.1,?_⟩
  rcases hu.2 with hu|hu|hu
  ·exact .inl hu
  ·exact .inr (.inl (qKz ls a n hs v h1 hu))
  ·refine .inr (.inr ?_)
   cases l
   ·have ib:=qKz ls b _ _ _ h2 hu
    rw [List.map_append,qYo] at ib
    exact ib
   ·have ib:=qKz ls b _ _ _ h2 hu
    rw [List.map_append,qYo,List.map_cons,qXn] at ib
    exact ib
 | .subst x a b f,n,hs,v,h,hu=>by
  obtain⟨_,_,h1,h2,_,t,u,_,e⟩:=h
  exact⟨by rw [← qE3 e,qKl];exact hu.1,qKz ls b n hs v h2 hu.2⟩
structure ScOK (n:Nat) (bs:List Bool) (s:Sc):Prop where
 vl:s.vs.length=n
 kl:s.ks.length=bs.length
 ve:EOK s.dep s.vs
 ke:∀ h∈s.ks,∀ t d p,h=Hy.hy t d p→d≤s.dep∧TK d t
 kh:∀ i:Nat,bs[i]? = some true→∃ t d p,s.ks[i]? = some (Hy.hy t d p)
structure ScR (R U:Nat→Prop) (s:Sc):Prop where
 v:∀ v e,ent s.vs v=some e→U v→e.1.lv R e.2
 k:∀ h∈s.ks,∀ t d p,h=Hy.hy t d p→t.lv R d
def Sc.bind (s:Sc):Sc:=⟨s.dep+1,s.hyps,s.vs,s.ks⟩
def Sc.var (s:Sc) (t:Tm):Sc:=⟨s.dep,s.hyps,s.vs++[(t,s.dep)],s.ks⟩
def Sc.hyp (s:Sc) (t:Tm):Sc:=⟨s.dep,s.hyps+1,s.vs,s.ks++[.hy t s.dep s.hyps]⟩
def Sc.bare (s:Sc):Sc:=⟨s.dep,s.hyps+1,s.vs,s.ks++[.bare s.hyps]⟩
theorem ScOK.bind {n:Nat} {bs:List Bool} {s:Sc} (h:ScOK n bs s):ScOK n bs s.bind :=
 ⟨h.vl,h.kl,fun e he=>⟨Nat.le_succ_of_le (h.ve e he).1,(h.ve e he).2⟩,fun x hx t d p e=>⟨Nat.le_succ_of_le (h.ke x hx t d p e).1,(h.ke x hx t d p e).2⟩,h.kh⟩
theorem ScOK.var {n:Nat} {bs:List Bool} {s:Sc} {t:Tm} (h:ScOK n bs s) (ht:TK s.dep t):ScOK (n+1) bs (s.var t) :=
 ⟨by simp [Sc.var,h.vl],h.kl,fun e he=>by
  rcases List.mem_append.1 he with he|he
  ·exact h.ve e he
  ·simp at he;subst he;exact⟨Nat.le_refl _,ht⟩,h.ke,h.kh⟩
theorem zJ0 {bs:List Bool} {ks:List Hy} {x:Hy} {b:Bool} (hl:ks.length=bs.length) (h:∀ i:Nat,bs[i]? = some true→∃ t d p,ks[i]? = some (Hy.hy t d p)) (hx:b=true→∃ t d p,x=Hy.hy t d p) (i:Nat) (hi:(bs++[b])[i]? = some true):∃ t d p,(ks++[x])[i]? = some (Hy.hy t d p):=by
 by_cases hlt:i<bs.length
 ·rw [List.getElem?_append_left hlt] at hi
  rw [List.getElem?_append_left (by omega)]
  exact h i hi
 ·rw [List.getElem?_append_right (by omega)] at hi
  rw [List.getElem?_append_right (by omega),hl]
  by_cases e:i-bs.length=0
  ·rw [e] at hi ⊢
   simp at hi
   obtain⟨t,d,p,e⟩:=hx hi
   exact⟨t,d,p,by simp [e]⟩
  ·have : [b][i-bs.length]? = none:=by simp;omega
   rw [this] at hi;cases hi
theorem ScOK.hyp {n:Nat} {bs:List Bool} {s:Sc} {t:Tm} (h:ScOK n bs s) (ht:TK s.dep t) (b:Bool):ScOK n (bs++[b]) (s.hyp t) :=
 ⟨h.vl,by simp [Sc.hyp,h.kl],h.ve,(fun x hx t' d p e=>by
  rcases List.mem_append.1 hx with hx|hx
  ·exact h.ke x hx t' d p e
  ·simp at hx;subst hx;cases e;exact⟨Nat.le_refl _,ht⟩),zJ0 h.kl h.kh fun _=>⟨_,_,_,rfl⟩⟩
theorem ScOK.bare {n:Nat} {bs:List Bool} {s:Sc} (h:ScOK n bs s):ScOK n (bs++[false]) s.bare :=
 ⟨h.vl,by simp [Sc.bare,h.kl],h.ve,(fun x hx t' d p e=>by
  rcases List.mem_append.1 hx with hx|hx
  ·exact h.ke x hx t' d p e
  ·simp at hx;subst hx;cases e),zJ0 h.kl h.kh nofun⟩
abbrev orR (R:Nat→Prop) (d:Nat):Nat→Prop:=fun l=>R l∨d≤l
theorem ScR.mono {R Q U W:Nat→Prop} {s:Sc} (h:ScR R U s) (hq:∀ l,R l→Q l) (hu:∀ v,W v→U v):ScR Q W s :=
 ⟨fun v e he hw=>qR2 (fun l hl _=>hq l hl) (h.v v e he (hu v hw)),fun x hx t d p e=>qR2 (fun l hl _=>hq l hl) (h.k x hx t d p e)⟩
theorem ScR.bind {R U:Nat→Prop} {s:Sc} (h:ScR R U s):ScR (orR R s.dep) U s.bind:=⟨(h.mono (fun _ h => .inl h) fun _ h=>h).v,(h.mono (fun _ h => .inl h) fun _ h=>h).k⟩
theorem ScR.var {R U W:Nat→Prop} {s:Sc} {t:Tm} (h:ScR R U s) (ht:W 0→t.lv R s.dep) (hu:∀ v,W (v+1)→U v):ScR R W (s.var t) :=
 ⟨fun v e he hw=>by
  cases v with
  | zero =>
   rw [Sc.var,zE0] at he
   cases he
   exact ht hw
  | succ v =>
   rw [Sc.var,zE1] at he
   exact h.v v e he (hu v hw),h.k⟩
theorem ScR.hyp {R U:Nat→Prop} {s:Sc} {t:Tm} (h:ScR R U s) (ht:t.lv R s.dep):ScR R U (s.hyp t) :=
 ⟨h.v,fun x hx t' d p e=>by
  rcases List.mem_append.1 hx with hx|hx
  ·exact h.k x hx t' d p e
  ·simp at hx;subst hx;cases e;exact ht⟩
theorem ScR.bare {R U:Nat→Prop} {s:Sc} (h:ScR R U s):ScR R U s.bare :=
 ⟨h.v,fun x hx t' d p e=>by
  rcases List.mem_append.1 hx with hx|hx
  ·exact h.k x hx t' d p e
  ·simp at hx;subst hx;cases e⟩
theorem TKv {n i:Nat} (h:i<n):TK n (.v i):=⟨by simp [Tm.cnt],rfl,h⟩
theorem TK1 {n:Nat} {k:K1} {a:Tm} (h:TK n a) (hc:a.cnt<4096):TK n (.n1 k a):=⟨by simp only [Tm.cnt];omega,h.shp,h.sc⟩
theorem zI5 {n m:Nat} {t:Tm} (h:TK n t) (hm:n≤m):TK m t:=⟨h.cnt,h.shp,qUu t hm h.sc⟩
theorem TK.sh {n:Nat} {t:Tm} (h:TK n t) (k:Nat):TK (n+k) (t.sh 0 (.ofNat k)):=⟨by rw [qQu];exact h.cnt,by rw [qWv];exact h.shp,qY3 k t 0 n h.sc⟩
inductive XR where
 | er (x:Sx) (n:Nat)
 | ok (t:Tm)
def XR.k:XR→Nat
 | .er x _=>x.k | .ok t=>t.kd
def XR.i:XR→Nat
 | .er x _=>x.i | .ok t=>t.ix
def XR.tk:XR→Nat
 | .er x _=>x.tk | .ok t=>t.tk
def XR.te:XR→List (List PV)
 | .er x _=>x.te | .ok t=>t.te
def XR.es:XR→List (List PV)
 | .er x _=>x.es | .ok t=>t.es
def XR.e:XR→Nat
 | .er _ n=>n+1 | .ok _=>0
def XR.p (r:XR):PV:=.tuple [.agg [num r.k,num r.i,num r.tk,.slice r.te,.slice r.es],num r.e]
end Go.Proofs.YtmcockinhpiomaaGreatDoor
