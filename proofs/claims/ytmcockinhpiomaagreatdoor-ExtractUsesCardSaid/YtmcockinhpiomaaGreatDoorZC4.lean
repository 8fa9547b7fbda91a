/- Contracts of functions; no conditions. -/
import Derived.Test.YtmcockinhpiomaaGreatDoorZC3
set_option linter.all false
set_option maxHeartbeats 4000000
namespace Go.Proofs.YtmcockinhpiomaaGreatDoor
open Go.Lg
set_option maxRecDepth 100000
theorem qUi (u:Bool) (i:Nat):Rul 108 (.leaf u i):=by
 intro ls g hs M hp
 have hm:=qQc
 have hhl:=hp.hl
 have hll:=hp.ll
 cases u
 ·by_cases h:i<hs.length
  ·obtain⟨f,hx⟩:∃ f,hs[hs.length-1-i]? = some f:=⟨_,List.getElem?_eq_getElem (by omega)⟩
   have h1:(!ltI (.ofNat i) (.ofNat (hs.map Fm.c).length))=false:=by rw [qQy (by simpa using h)];rfl
   have h2:inB (Int.ofNat (hs.map Fm.c).length-1)=true∧Int.ofNat (hs.map Fm.c).length-1 = .ofNat (hs.length-1):=by
    have e:Int.ofNat (hs.map Fm.c).length-1 = .ofNat (hs.length-1):=by simp;omega
    exact⟨by rw [e];exact inN (by omega),e⟩
   have h3:inB (Int.ofNat (hs.length-1) - .ofNat i)=true∧Int.ofNat (hs.length-1) - .ofNat i = .ofNat (hs.length-1-i):=by
    have e:Int.ofNat (hs.length-1) - .ofNat i = .ofNat (hs.length-1-i):=by simp;omega
    exact⟨by rw [e];exact inN (by omega),e⟩
   have hF:=hp.h1 f (List.mem_of_getElem? hx)
   exact⟨.of f [] 0,f4 [(30,.H),(37,.z (hs.length-1)),(40,.z (hs.length-1-i)),(41,.i f.c)] h1 h2 h3 (qQi hx Fm.c_len),fun _=>⟨f,rfl,⟨by have:=hF.1;omega,by have:=hF.2.1;omega,hF.2.2,by simp only [shp,List.length_map,if_pos h,List.getElem?_map,hx];rfl,fun v hv=>hv.elim,(fun x hx=>by cases hx),Nat.zero_le _⟩⟩⟩
  ·have h1:(!ltI (.ofNat i) (.ofNat (hs.map Fm.c).length))=true:=by rw [qZv (by simp;omega)];rfl
   exact⟨.er 7,f1 [(30,.G)] h1,RR.good_er (Nat.succ_ne_zero 7)⟩
 ·by_cases h:i<ls.length
  ·obtain⟨f,hx⟩:∃ f,ls[i]? = some f:=⟨_,List.getElem?_eq_getElem h⟩
   have h1:(!ltI (.ofNat i) (.ofNat (ls.map Fm.c).length))=false:=by rw [qQy (by simpa using h)];rfl
   have hF:=hp.l1 f (List.mem_of_getElem? hx)
   exact⟨.of f [] 0,f2 [(50,.H),(56,.i f.c)] h1 (qQi hx Fm.c_len),fun _=>⟨f,rfl,⟨by have:=hF.1;omega,by have:=hF.2.1;omega,hF.2.2,by simp only [shp,List.getElem?_map,hx];rfl,fun v hv=>hv.elim,(fun x hx=>by cases hx),Nat.zero_le _⟩⟩⟩
  ·have h1:(!ltI (.ofNat i) (.ofNat (ls.map Fm.c).length))=true:=by rw [qZv (by simp;omega)];rfl
   exact⟨.er 8,f1 [(50,.G)] h1,RR.good_er (Nat.succ_ne_zero 8)⟩
theorem qUj (t:Tm):Rul 108 (.refl t):=by
 intro ls g hs M hp
 have hm:=qQc
 have hgl:=hp.gl
 have hcn:1+t.cnt≤65536:=hp.cnt
 have hmx:t.mx≤M:=hp.mx
 have htz:t.tsz≤mid:=hp.tsz
 obtain⟨e,g1,_⟩:=zD7 ls g hs t 1 hp.g1 htz (by omega)
 refine⟨.of (.eq t t) [] e,f2 [(280,.r (Fm.eq t t).p),(286,.N e)] (a43 t t) g1,fun he => ?_⟩
 have he:e=0:=he
 subst he
 exact⟨_,rfl,⟨by show 1+t.cnt+t.cnt≤mid;omega,by show max t.mx t.mx≤M+_;omega,by show max t.tsz t.tsz≤mid;omega,rfl,fun v hv=>hv.elim,(fun x hx=>by cases hx),Nat.zero_le _⟩⟩
theorem zAa (k:P1) {a:Pf} (Ha:Inf a):Rul 108 (.p1 k a):=by
 intro ls g hs M hp
 have hm:=qQc
 have hk:qQf=8388608:=rfl
 have hK:qQf * (1+a.cnt)=qQf+qQf * a.cnt:=by rw [Nat.mul_add,Nat.mul_one]
 have hpa:Pre ls g hs M a:=hp.sub (by show a.cnt≤1+a.cnt;omega) (Nat.le_refl _) (Nat.le_refl _)
 cases k with
 | choice =>
  obtain⟨c,g1,g2⟩:=zIf Ha ls g hs M hp
  exact⟨c,f1 [(297,.r c.p)] g1,g2⟩
 | andL =>
  obtain⟨r,g1,q⟩:=Ha _ _ _ _ hpa
  cases r with
  | er n=>exact⟨.er n,f1 [(102,.r (PR.er n).p)] g1,RR.good_er (Nat.succ_ne_zero n)⟩
  | ok fa w =>
  obtain⟨q1,p1,p2,p3,p4⟩:=q
  have bad:fa.kd≠2→∃ c:RR,A 108 [ckp ls g hs,(Pf.p1 .andL a).p] c.p∧c.Good ls hs M (.p1 .andL a):=fun hne=>⟨.er 9,f2 [(102,.r (PR.ok fa w).p),(112,.G)] g1 (qX4 hne),RR.good_er (Nat.succ_ne_zero 9)⟩
  cases fa with
  | eq x y=>exact bad (nofun)
  | q k s x=>exact bad (by cases k<;>exact nofun)
  | bin k x y =>
   cases k with
   | imp=>exact bad (nofun)
   | and =>
    have e1:1+x.cnt+y.cnt≤4096:=q1.1
    have e2:max x.mx y.mx≤M+qQf * a.cnt:=q1.2.1
    have e3:max x.tsz y.tsz≤mid:=q1.2.2
    exact⟨.of x w 0,f1 [(102,.r (PR.ok (.bin .and x y) w).p)] g1,fun _=>⟨_,rfl,⟨by omega,by show x.mx≤M+qQf * (1+a.cnt);rw [hK];omega,by omega,by simp only [shp,p1,Fm.sp],fun v hv=>p2 v hv.2,fun v hv=>by have:=p3 v hv;show v≤M+qQf * (1+a.cnt);rw [hK];omega,by show w.length≤1+a.cnt;omega⟩⟩⟩
 | andR =>
  obtain⟨r,g1,q⟩:=Ha _ _ _ _ hpa
  cases r with
  | er n=>exact⟨.er n,f1 [(102,.r (PR.er n).p)] g1,RR.good_er (Nat.succ_ne_zero n)⟩
  | ok fa w =>
  obtain⟨q1,p1,p2,p3,p4⟩:=q
  have bad:fa.kd≠2→∃ c:RR,A 108 [ckp ls g hs,(Pf.p1 .andR a).p] c.p∧c.Good ls hs M (.p1 .andR a):=fun hne=>⟨.er 9,f2 [(102,.r (PR.ok fa w).p),(112,.G)] g1 (qX4 hne),RR.good_er (Nat.succ_ne_zero 9)⟩
  cases fa with
  | eq x y=>exact bad (nofun)
  | q k s x=>exact bad (by cases k<;>exact nofun)
  | bin k x y =>
   cases k with
   | imp=>exact bad (nofun)
   | and =>
    have e1:1+x.cnt+y.cnt≤4096:=q1.1
    have e2:max x.mx y.mx≤M+qQf * a.cnt:=q1.2.1
    have e3:max x.tsz y.tsz≤mid:=q1.2.2
    exact⟨.of y w 0,f1 [(102,.r (PR.ok (.bin .and x y) w).p)] g1,fun _=>⟨_,rfl,⟨by omega,by show y.mx≤M+qQf * (1+a.cnt);rw [hK];omega,by omega,by simp only [shp,p1,Fm.sp],fun v hv=>p2 v hv.2,fun v hv=>by have:=p3 v hv;show v≤M+qQf * (1+a.cnt);rw [hK];omega,by show w.length≤1+a.cnt;omega⟩⟩⟩
theorem qUk (f:Fm) {a:Pf} (Ha:Inf a):Rul 108 (.impI f a):=by
 intro ls g hs M hp
 have hm:=qQc
 have hk:qQf=8388608:=rfl
 have hgl:=hp.gl
 have hhl:=hp.hl
 have hmb:M+qQf * (1+f.cnt+a.cnt)≤cmx:=hp.mb
 have htz:max f.tsz a.tsz≤mid:=hp.tsz
 have hmx:max f.mx a.mx≤M:=hp.mx
 have hcn:1+f.cnt+a.cnt≤65536:=hp.cnt
 have hK:qQf * (1+f.cnt+a.cnt)=qQf+qQf * f.cnt+qQf * a.cnt:=by rw [Nat.mul_add,Nat.mul_add,Nat.mul_one]
 rw [hK] at hmb
 obtain⟨e,g1,q0⟩:=zCl g f hp.g1 (by omega) (by omega)
 cases e with
 | succ n=>exact⟨.er n,f1 [(132,.N (n+1))] g1,RR.good_er (Nat.succ_ne_zero n)⟩
 | zero =>
 have hfc:=Fm.chk0 (q0 rfl)
 obtain⟨e,g2,q1⟩:=zY8 ls g hs 0 1 (by omega) (by omega)
 cases e with
 | succ n=>exact⟨.er n,f2 [(132,.N 0),(138,.N (n+1))] g1 g2,RR.good_er (Nat.succ_ne_zero n)⟩
 | zero =>
 have hroom:=q1 rfl
 have g3:=zCn ls g hs f (by omega)
 have hpa:Pre ls g (hs++[f]) M a:=hp.to (Nat.le_refl _) (by
  intro x hx
  rcases List.mem_append.1 hx with h|h
  ·exact hp.h1 x h
  ·simp at h;subst h;exact⟨hfc.1,by omega,by omega⟩) hp.g1 hp.gl (by simp;omega) (by show a.cnt≤1+f.cnt+a.cnt;omega) (by show a.tsz≤max f.tsz a.tsz;omega) (by show a.mx≤max f.mx a.mx;omega) (by omega)
 obtain⟨r,g4,q⟩:=Ha _ _ _ _ hpa
 cases r with
 | er n=>exact⟨⟨3,0,[],[],[f.c,zfc],[],n+1⟩,f5 [(132,.N 0),(138,.N 0),(149,.r (ckp ls g (hs++[f]))),(154,.r (PR.er n).p),(163,.r (.agg [num 3,num 0,.slice [],.slice [],.slice [f.c,zfc]]))] g1 g2 g3 g4 (zGk .imp f),RR.good_er (Nat.succ_ne_zero n)⟩
 | ok fa w =>
  obtain⟨q1,p1,p2,p3,p4⟩:=q
  have hmap:(hs++[f]).map Fm.sp=hs.map Fm.sp++[f.sp]:=by simp
  rw [hmap] at p1 p2
  have e1:=q1.1
  have e2:=q1.2.1
  have e3:=q1.2.2
  exact⟨.of (.bin .imp f fa) w 0,f5 [(132,.N 0),(138,.N 0),(149,.r (ckp ls g (hs++[f]))),(154,.r (PR.ok fa w).p),(163,.r (Fm.bin .imp f fa).p)] g1 g2 g3 g4 (a39 .imp f fa),fun _=>⟨_,rfl,⟨by show 1+f.cnt+fa.cnt≤mid;omega,by show max f.mx fa.mx≤M+qQf * (1+f.cnt+a.cnt);rw [hK];omega,by show max f.tsz fa.tsz≤mid;omega,by simp only [shp,p1,Option.map_some,Fm.sp],fun v hv=>p2 v hv.2,fun v hv=>by have:=p3 v hv;show v≤M+qQf * (1+f.cnt+a.cnt);rw [hK];omega,by show w.length≤1+f.cnt+a.cnt;omega⟩⟩⟩
theorem zAb (H:MF) (k:P2) {a b:Pf} (Ha:Inf a) (Hb:Inf b):Rul 108 (.p2 k a b):=by
 intro ls g hs M hp
 have hm:=qQc
 have hbb:=qQh
 have hk:qQf=8388608:=rfl
 have hcx:cmx=mid * mid-1001 * 4096:=rfl
 have hmb:M+qQf * (1+a.cnt+b.cnt)≤cmx:=hp.mb
 have hcn:1+a.cnt+b.cnt≤65536:=hp.cnt
 have hK:qQf * (1+a.cnt+b.cnt)=qQf+qQf * a.cnt+qQf * b.cnt:=by rw [Nat.mul_add,Nat.mul_add,Nat.mul_one]
 rw [hK] at hmb
 rw [hm] at hcx
 have hpa:Pre ls g hs M a:=hp.sub (by show a.cnt≤1+a.cnt+b.cnt;omega) (by show a.tsz≤max a.tsz b.tsz;omega) (by show a.mx≤max a.mx b.mx;omega)
 have hpb:Pre ls g hs M b:=hp.sub (by show b.cnt≤1+a.cnt+b.cnt;omega) (by show b.tsz≤max a.tsz b.tsz;omega) (by show b.mx≤max a.mx b.mx;omega)
 cases k with
 | exE =>
  obtain⟨c,g1,g2⟩:=zGj H false Ha Hb ls g hs M hp
  exact⟨c,f1 [(250,.r c.p)] g1,g2⟩
 | exUE =>
  obtain⟨c,g1,g2⟩:=zGj H true Ha Hb ls g hs M hp
  exact⟨c,f1 [(250,.r c.p)] g1,g2⟩
 | andI =>
  obtain⟨r,g1,q⟩:=Ha _ _ _ _ hpa
  cases r with
  | er n=>exact⟨.er n,f1 [(66,.r (PR.er n).p)] g1,RR.good_er (Nat.succ_ne_zero n)⟩
  | ok fa w =>
  obtain⟨q1,p1,p2,p3,p4⟩:=q
  obtain⟨r,g2,q⟩:=Hb _ _ _ _ hpb
  cases r with
  | er n =>
   obtain⟨w2,g3,_⟩:=H.union w [] (by simp;omega) (fun z hz=>by have:=p3 z hz;omega) (fun z hz=>by cases hz)
   exact⟨⟨2,0,[],[],[fa.c,zfc],w2,n+1⟩,f4 [(66,.r (PR.ok fa w).p),(79,.r (PR.er n).p),(86,.r (.agg [num 2,num 0,.slice [],.slice [],.slice [fa.c,zfc]])),(91,.r (qQl w2))] g1 g2 (zGk .and fa) g3,RR.good_er (Nat.succ_ne_zero n)⟩
  | ok fb v =>
   obtain⟨r1,s1,s2,s3,s4⟩:=q
   obtain⟨w2,g3,t1,t2,t3⟩:=H.union w v (by omega) (fun z hz=>by have:=p3 z hz;omega) (fun z hz=>by have:=s3 z hz;omega)
   have e1:=q1.1
   have e2:=q1.2.1
   have e3:=q1.2.2
   have d1:=r1.1
   have d2:=r1.2.1
   have d3:=r1.2.2
   refine⟨.of (.bin .and fa fb) w2 0,f4 [(66,.r (PR.ok fa w).p),(79,.r (PR.ok fb v).p),(86,.r (Fm.bin .and fa fb).p),(91,.r (qQl w2))] g1 g2 (a39 .and fa fb) g3,fun _=>⟨_,rfl,⟨by show 1+fa.cnt+fb.cnt≤mid;omega,by show max fa.mx fb.mx≤M+qQf * (1+a.cnt+b.cnt);rw [hK];omega,by show max fa.tsz fb.tsz≤mid;omega,by simp only [shp,p1,s1,Option.map_some,Fm.sp],fun z hz => ?_,fun z hz => ?_,by show w2.length≤1+a.cnt+b.cnt;omega⟩⟩⟩
   ·rcases hz.2 with h|h
    ·exact t1 z (.inl (p2 z h))
    ·rw [p1] at h;exact t1 z (.inr (s2 z h))
   ·show z≤M+qQf * (1+a.cnt+b.cnt)
    rw [hK]
    rcases t2 z hz with h|h
    ·have:=p3 z h;omega
    ·have:=s3 z h;omega
 | impE =>
  obtain⟨r,g1,q⟩:=Ha _ _ _ _ hpa
  cases r with
  | er n=>exact⟨.er n,f1 [(175,.r (PR.er n).p)] g1,RR.good_er (Nat.succ_ne_zero n)⟩
  | ok fa w =>
  obtain⟨q1,p1,p2,p3,p4⟩:=q
  have bad:fa.kd≠3→∃ c:RR,A 108 [ckp ls g hs,(Pf.p2 .impE a b).p] c.p∧c.Good ls hs M (.p2 .impE a b):=fun hne=>⟨.er 9,f2 [(175,.r (PR.ok fa w).p),(185,.G)] g1 (qX4 hne),RR.good_er (Nat.succ_ne_zero 9)⟩
  cases fa with
  | eq x y=>exact bad (nofun)
  | q k s x=>exact bad (by cases k<;>exact nofun)
  | bin k x y =>
  cases k with
  | and=>exact bad (nofun)
  | imp =>
  have e1:1+x.cnt+y.cnt≤4096:=q1.1
  have e2:max x.mx y.mx≤M+qQf * a.cnt:=q1.2.1
  have e3:max x.tsz y.tsz≤mid:=q1.2.2
  obtain⟨r,g2,q⟩:=Hb _ _ _ _ hpb
  cases r with
  | er n=>exact⟨.er n,f2 [(175,.r (PR.ok (.bin .imp x y) w).p),(193,.r (PR.er n).p)] g1 g2,RR.good_er (Nat.succ_ne_zero n)⟩
  | ok fb v =>
   obtain⟨r1,s1,s2,s3,s4⟩:=q
   have d1:=r1.1
   have d2:=r1.2.1
   have d3:=r1.2.2
   obtain⟨w2,g3,t1,t2,t3⟩:=H.union w v (by omega) (fun z hz=>by have:=p3 z hz;omega) (fun z hz=>by have:=s3 z hz;omega)
   obtain⟨e,g4⟩:=zGh x fb (by omega) (by omega) (by omega) (by omega) (by omega) d3
   refine⟨.of y w2 e,f4 [(175,.r (PR.ok (.bin .imp x y) w).p),(193,.r (PR.ok fb v).p),(209,.r (qQl w2)),(217,.N e)] g1 g2 g3 g4,fun he => ?_⟩
   have he:e=0:=he
   subst he
   refine⟨_,rfl,⟨by omega,by show y.mx≤M+qQf * (1+a.cnt+b.cnt);rw [hK];omega,by omega,by simp only [shp,p1,Fm.sp],fun z hz => ?_,fun z hz => ?_,by show w2.length≤1+a.cnt+b.cnt;omega⟩⟩
   ·rcases hz.2 with h|h
    ·exact t1 z (.inl (p2 z h))
    ·rw [p1] at h;exact t1 z (.inr (s2 z h))
   ·show z≤M+qQf * (1+a.cnt+b.cnt)
    rw [hK]
    rcases t2 z hz with h|h
    ·have:=p3 z h;omega
    ·have:=s3 z h;omega
theorem qZ7 (H:MF):∀ p:Pf,Inf p
 | .leaf u i=>qKm (qUi u i)
 | .refl t=>qKm (qUj t)
 | .p1 k a=>qKm (zAa k (qZ7 H a))
 | .p2 k a b=>qKm (zAb H k (qZ7 H a) (qZ7 H b))
 | .impI f a=>qKm (qUk f (qZ7 H a))
 | .all u s a=>qKm fun ls g hs M hp=>by
  obtain⟨c,g1,g2⟩:=zH6 u s (qZ7 H a) ls g hs M hp
  cases u<;>exact⟨c,f1 [(223,.r c.p)] g1,g2⟩
 | .ins u t a=>qKm fun ls g hs M hp=>by
  obtain⟨c,g1,g2⟩:=zH7 H u t (qZ7 H a) ls g hs M hp
  cases u<;>exact⟨c,f1 [(232,.r c.p)] g1,g2⟩
 | .ex u f t a=>qKm fun ls g hs M hp=>by
  obtain⟨c,g1,g2⟩:=zH8 H u f t (qZ7 H a) ls g hs M hp
  cases u<;>exact⟨c,f1 [(241,.r c.p)] g1,g2⟩
 | .ind l f t a b=>qKm fun ls g hs M hp=>by
  cases l
  ·obtain⟨c,g1,g2⟩:=zIa H f t (qZ7 H a) (qZ7 H b) ls g hs M hp
   exact⟨c,f1 [(258,.r c.p)] g1,g2⟩
  ·obtain⟨c,g1,g2⟩:=zIb H f t (qZ7 H a) (qZ7 H b) ls g hs M hp
   exact⟨c,f1 [(266,.r c.p)] g1,g2⟩
 | .subst f a b=>qKm fun ls g hs M hp=>by
  obtain⟨c,g1,g2⟩:=zH9 f (qZ7 H a) (qZ7 H b) ls g hs M hp
  exact⟨c,f1 [(291,.r c.p)] g1,g2⟩
theorem a95:∀ t:Ty,A 95 [t.p] t.p
 | .nat=>f0 []
 | .list=>f0 []
 | .unit=>f0 []
 | .two k a b=>f2 [(19,.r a.p),(19,.r b.p)] (a95 a) (a95 b)
theorem qB9:A 95 [zt] zt:=f0 []
theorem a96 (a b:Ty):A 96 [a.p,b.p] (.bool (a.same b)):=by
 induction a generalizing b with
 | two k a b h1 h2=>cases b with
  | two l c d =>
   have h1:=h1 c
   have h2:=h2 d
   show A 96 [(Ty.two k a b).p,(Ty.two l c d).p] (.bool ((k == l) && (a.same c && b.same d)))
   generalize a.same c=p at *
   generalize b.same d=q at *
   by_cases e:k=l
   ·subst e
    cases p
    ·cases k<;>exact f1 [(35,.F)] h1
    ·cases q
     ·cases k<;>exact f2 [(35,.T),(35,.F)] h1 h2
     ·cases k<;>exact f2 [(35,.T),(35,.T)] h1 h2
   ·cases k<;>cases l<;>first|exact absurd rfl e|exact f0 []
  | _=>cases k<;>exact f0 []
 | _=>cases b with
  | two l c d=>cases l<;>exact f0 []
  | _=>exact f0 []
theorem zCr:∀ t:Ty,t.size≤big→A 272 [t.p] (.tuple [num t.size,.bool true])
 | .nat,_=>f0 []
 | .list,_=>f0 []
 | .unit,_=>f0 []
 | .two k a b,h=>by
  have h:1+a.size+b.size≤big:=h
  have h1:=zCr a (by omega)
  have h2:=zCr b (by omega)
  have h3:inB (.ofNat (1+a.size))=true:=inb (by omega)
  cases k<;>exact f4 [(33,.U [num a.size,.bool true]),(40,.ok),(33,.U [num b.size,.bool true]),(40,.ok)] h1 h3 h2 (inb h)
def ckN (n m:Nat):Nat:=match ltI (.ofNat m) (.ofNat n) with
 | true=>0
 | false=>n
def ckE (n m:Nat):Nat:=match ltI (.ofNat m) (.ofNat n) with
 | true=>4
 | false=>0
theorem qUl {n m:Nat} (h:n≤m):ckN n m=n∧ckE n m=0:=by
 have e:ltI (.ofNat m) (.ofNat n)=false:=qZv h
 unfold ckN ckE
 rw [e]
 exact⟨rfl,rfl⟩
theorem zD9 {n m:Nat} (h:m<n):ckN n m=0∧ckE n m=4:=by
 have e:ltI (.ofNat m) (.ofNat n)=true:=qQy h
 unfold ckN ckE
 rw [e]
 exact⟨rfl,rfl⟩
theorem qAk (n m:Nat):(n≤m∧ckN n m=n∧ckE n m=0)∨(m<n∧ckN n m=0∧ckE n m=4):=by
 by_cases h:n≤m
 ·exact .inl ⟨h,qUl h⟩
 ·exact .inr ⟨by omega,zD9 (by omega)⟩
theorem ckE_0 {n m:Nat} : ckE n m=0↔n≤m:=by
 rcases qAk n m with ⟨h,_,e⟩|⟨h,_,e⟩<;>rw [e]<;>simp<;>omega
theorem zXo (t:Ty) (h:t.size≤big):A 211 [t.p] (.tuple [num (ckN t.size 64),num (ckE t.size 64)]):=by
 unfold ckN ckE
 cases e:ltI (.ofNat 64) (.ofNat t.size)
 ·exact f2 [(8,.U [num t.size,.bool true]),(16,.H)] (zCr t h) e
 ·exact f2 [(8,.U [num t.size,.bool true]),(16,.G)] (zCr t h) e
theorem zEa (t:Ty) (h:t.size≤big):A 143 [t.p] (num (ckE t.size 64)):=f1 [(7,.U [num (ckN t.size 64),num (ckE t.size 64)])] (zXo t h)
theorem qZ8:A 275 [zt] (.bool true):=f0 []
open Go.Lg
set_option maxRecDepth 100000
def Tm.nd (t:Tm):Nat:=match t.shp with
 | true=>t.cnt
 | false=>0
theorem qWs (s:Ty):s.chk=ckE s.size 64:=rfl
theorem qSz:∀ t:Tm,t.tsz≤big→t.cnt≤big→A 212 [t.p] (.tuple [num t.nd,.bool t.shp])
 | .v i,_,_=>by cases i<;>exact f0 []
 | .n0 k,_,_=>by cases k<;>exact f0 []
 | .lam s b,h,hc=>by
  have h:max s.size b.tsz≤big:=h
  have hc:1+b.cnt≤big:=hc
  have h1:=zXo s (by omega)
  have h2:=qSz b (by omega) (by omega)
  unfold Tm.nd at *
  unfold Tm.shp
  rcases qZe s with e|e<;>rw [qWs] at e<;>rw [e] at h1<;>rw [qWs,e]
  ·cases e2:b.shp<;>rw [e2] at h2
   ·exact f2 [(49,.U [num (ckN s.size 64),num 0]),(67,.U [num 0,.bool false])] h1 h2
   ·exact f3 [(49,.U [num (ckN s.size 64),num 0]),(67,.U [num b.cnt,.bool true]),(74,.ok)] h1 h2 (inb hc)
  ·exact f1 [(49,.U [num (ckN s.size 64),num 4])] h1
 | .n1 k a,h,hc=>by
  have hc:1+a.cnt≤big:=hc
  have h2:=qSz a h (by omega)
  unfold Tm.nd at *
  show A 212 [(Tm.n1 k a).p] (.tuple [num (match a.shp with|true=>1+a.cnt|false=>0),.bool a.shp])
  cases e2:a.shp<;>rw [e2] at h2
  ·cases k<;>exact f1 [(67,.U [num 0,.bool false])] h2
  ·cases k<;>exact f2 [(67,.U [num a.cnt,.bool true]),(74,.ok)] h2 (inb hc)
 | .n2 k a b,h,hc=>by
  have h:max a.tsz b.tsz≤big:=h
  have hc:1+a.cnt+b.cnt≤big:=hc
  have h1:=qSz a (by omega) (by omega)
  have h2:=qSz b (by omega) (by omega)
  have hc1:inB (.ofNat (1+a.cnt))=true:=inb (by omega)
  unfold Tm.nd at *
  show A 212 [(Tm.n2 k a b).p] (.tuple [num (match a.shp && b.shp with|true=>1+a.cnt+b.cnt|false=>0),.bool (a.shp && b.shp)])
  cases e1:a.shp<;>rw [e1] at h1
  ·cases k<;>exact f1 [(67,.U [num 0,.bool false])] h1
  ·cases e2:b.shp<;>rw [e2] at h2
   ·cases k<;>exact f3 [(67,.U [num a.cnt,.bool true]),(74,.ok),(67,.U [num 0,.bool false])] h1 hc1 h2
   ·cases k<;>exact f4 [(67,.U [num a.cnt,.bool true]),(74,.ok),(67,.U [num b.cnt,.bool true]),(74,.ok)] h1 hc1 h2 (inb hc)
 | .n3 k s a b c,h,hc=>by
  have h:max (max s.size a.tsz) (max b.tsz c.tsz)≤big:=h
  have hc:1+a.cnt+b.cnt+c.cnt≤big:=hc
  have h0:=zXo s (by omega)
  have h1:=qSz a (by omega) (by omega)
  have h2:=qSz b (by omega) (by omega)
  have h3:=qSz c (by omega) (by omega)
  have hc1:inB (.ofNat (1+a.cnt))=true:=inb (by omega)
  have hc2:inB (.ofNat (1+a.cnt+b.cnt))=true:=inb (by omega)
  unfold Tm.nd at *
  unfold Tm.shp
  rcases qZe s with e|e<;>rw [qWs] at e<;>rw [e] at h0<;>rw [qWs,e]
  ·cases e1:a.shp<;>rw [e1] at h1
   ·cases k<;>exact f2 [(49,.U [num (ckN s.size 64),num 0]),(67,.U [num 0,.bool false])] h0 h1
   ·cases e2:b.shp<;>rw [e2] at h2
    ·cases k<;>exact f4 [(49,.U [num (ckN s.size 64),num 0]),(67,.U [num a.cnt,.bool true]),(74,.ok),(67,.U [num 0,.bool false])] h0 h1 hc1 h2
    ·cases e3:c.shp<;>rw [e3] at h3
     ·cases k<;>exact f6 [(49,.U [num (ckN s.size 64),num 0]),(67,.U [num a.cnt,.bool true]),(74,.ok),(67,.U [num b.cnt,.bool true]),(74,.ok),(67,.U [num 0,.bool false])] h0 h1 hc1 h2 hc2 h3
     ·cases k<;>exact f7 [(49,.U [num (ckN s.size 64),num 0]),(67,.U [num a.cnt,.bool true]),(74,.ok),(67,.U [num b.cnt,.bool true]),(74,.ok),(67,.U [num c.cnt,.bool true]),(74,.ok)] h0 h1 hc1 h2 hc2 h3 (inb hc)
  ·cases k<;>exact f1 [(49,.U [num (ckN s.size 64),num 4])] h0
def Tm.ckn (t:Tm):Nat:=match t.chk with
 | 0=>t.cnt
 | _=>0
theorem zCs (t:Tm) (h1:t.tsz≤big) (h2:t.cnt≤big):A 144 [t.p] (.tuple [num t.ckn,num t.chk]):=by
 have h3:=qSz t h1 h2
 unfold Tm.nd at h3
 unfold Tm.ckn Tm.chk
 cases e:t.shp<;>rw [e] at h3
 ·exact f1 [(8,.U [num 0,.bool false])] h3
 ·cases e2:ltI (.ofNat 4096) (.ofNat t.cnt)
  ·exact f2 [(8,.U [num t.cnt,.bool true]),(16,.H)] h3 e2
  ·exact f2 [(8,.U [num t.cnt,.bool true]),(16,.G)] h3 e2
theorem a297 (t:Tm) (h1:t.tsz≤big) (h2:t.cnt≤big):A 297 [t.p] (.tuple [num t.ckn,num t.chk]):=f1 [(5,.U [num t.ckn,num t.chk])] (zCs t h1 h2)
theorem a92 (t:Tm) (h1:t.tsz≤big) (h2:t.cnt≤big):A 92 [t.p] (num t.chk):=f1 [(7,.U [num t.ckn,num t.chk])] (zCs t h1 h2)
theorem Tm.chk0 {t:Tm} (h:t.chk=0):t.cnt≤4096∧t.shp=true:=by
 unfold Tm.chk at h
 cases e1:t.shp with
 | false=>rw [e1] at h;cases h
 | true =>
  rw [e1] at h
  cases e2:ltI (.ofNat 4096) (.ofNat t.cnt) with
  | true=>rw [e2] at h;cases h
  | false =>
   rw [qQs] at e2
   simp at e2
   exact⟨by omega,rfl⟩
theorem Tm.ckn0 {t:Tm} (h:t.chk=0):t.ckn=t.cnt:=by unfold Tm.ckn;split<;>simp_all
theorem qHb:A 96 [.agg [num 0,.slice []],.agg [num 0,.slice []]] (.bool true):=f0 []
theorem zXp {a:Tm} (H:∀ b:Tm,a.kd=b.kd→∃ r,A 328 [a.p,b.p] (.bool r)) (b:Tm):∃ r,A 328 [a.p,b.p] (.bool r):=by
 by_cases h:a.kd=b.kd
 ·exact H b h
 ·exact⟨false,f1 [(11,.G)] (qX4 h)⟩
theorem qS0:∀ a b:Tm,∃ r,A 328 [a.p,b.p] (.bool r)
 | .v i=>zXp fun b h=>by
  cases b with
  | v j =>
   by_cases e:i=j
   ·subst e;exact⟨true,f2 [(17,.H),(24,.T)] (qWb i) qHb⟩
   ·exact⟨false,f1 [(17,.G)] (qX4 e)⟩
  | _=>have:=congrArg qNi h;rw [qQ1,qQ1] at this;cases this
 | .n0 k=>zXp fun b h=>by
  cases b with
  | n0 l=>cases K0.inj h;exact⟨true,f2 [(11,.H),(24,.T)] (qWb k.n) qHb⟩
  | _=>have:=congrArg qNi h;rw [qQ1,qQ1] at this;cases this
 | .lam s a=>zXp fun b h=>by
  cases b with
  | lam u b =>
   have h1:=a96 s u
   cases e:s.same u<;>rw [e] at h1
   ·exact⟨false,f1 [(24,.F)] h1⟩
   ·obtain⟨r,h3⟩:=qS0 a b
    cases r
    ·exact⟨false,f2 [(24,.T),(50,.F)] h1 h3⟩
    ·exact⟨true,f2 [(24,.T),(50,.T)] h1 h3⟩
  | _=>have:=congrArg qNi h;rw [qQ1,qQ1] at this;cases this
 | .n1 k a=>zXp fun b h=>by
  cases b with
  | n1 l b =>
   cases K1.inj h
   obtain⟨r,h3⟩:=qS0 a b
   cases r
   ·exact⟨false,f3 [(11,.H),(24,.T),(50,.F)] (qWb k.n) qHb h3⟩
   ·exact⟨true,f3 [(11,.H),(24,.T),(50,.T)] (qWb k.n) qHb h3⟩
  | _=>have:=congrArg qNi h;rw [qQ1,qQ1] at this;cases this
 | .n2 k a c=>zXp fun b h=>by
  cases b with
  | n2 l b d =>
   cases K2.inj h
   obtain⟨r,h3⟩:=qS0 a b
   obtain⟨q,h4⟩:=qS0 c d
   cases r
   ·exact⟨false,f3 [(11,.H),(24,.T),(50,.F)] (qWb k.n) qHb h3⟩
   ·cases q
    ·exact⟨false,f4 [(11,.H),(24,.T),(50,.T),(50,.F)] (qWb k.n) qHb h3 h4⟩
    ·exact⟨true,f4 [(11,.H),(24,.T),(50,.T),(50,.T)] (qWb k.n) qHb h3 h4⟩
  | _=>have:=congrArg qNi h;rw [qQ1,qQ1] at this;cases this
 | .n3 k s a c e=>zXp fun b h=>by
  cases b with
  | n3 l u b d f =>
   cases K3.inj h
   have h2:=a96 s u
   obtain⟨r,h3⟩:=qS0 a b
   obtain⟨q,h4⟩:=qS0 c d
   obtain⟨p,h5⟩:=qS0 e f
   cases e2:s.same u<;>rw [e2] at h2
   ·exact⟨false,f2 [(11,.H),(24,.F)] (qWb k.n) h2⟩
   cases r
   ·exact⟨false,f3 [(11,.H),(24,.T),(50,.F)] (qWb k.n) h2 h3⟩
   cases q
   ·exact⟨false,f4 [(11,.H),(24,.T),(50,.T),(50,.F)] (qWb k.n) h2 h3 h4⟩
   cases p
   ·exact⟨false,f5 [(11,.H),(24,.T),(50,.T),(50,.T),(50,.F)] (qWb k.n) h2 h3 h4 h5⟩
   ·exact⟨true,f5 [(11,.H),(24,.T),(50,.T),(50,.T),(50,.T)] (qWb k.n) h2 h3 h4 h5⟩
  | _=>have:=congrArg qNi h;rw [qQ1,qQ1] at this;cases this
theorem zGl (a b:Tm):∃ r,A 336 [a.p,b.p] (.bool r):=by
 obtain⟨r,h⟩:=qS0 a b
 exact⟨r,f1 [(7,.r (.bool r))] h⟩
abbrev szc (s:Ty):List PV:=[num s.kd,.slice s.es,num (ckN s.size 64)]
abbrev tzs (g:List Ty):PV:=.slice (g.map szc)
theorem qEt (s:Ty):(szc s).length=3:=rfl
def TR.nn:TR→Nat
 | .er _=>0
 | .ok s=>ckN s.size 64
def TR.q (r:TR):PV:=.tuple [.agg [num r.k,.slice r.l,num r.nn],num r.n]
theorem qEu (s:Ty) (h:s.size≤big):A 145 [s.p] (.agg (szc s)):=f1 [(7,.U [num (ckN s.size 64),num (ckE s.size 64)])] (zXo s h)
theorem zEb (s u:Ty):∃ r,A 216 [.agg (szc s),.agg (szc u)] (.bool r):=by
 cases e:eqI (.ofNat (ckN s.size 64)) (.ofNat (ckN u.size 64))
 ·exact⟨false,f1 [(9,.H)] e⟩
 ·exact⟨s.same u,f2 [(9,.G),(15,.r (.bool (s.same u)))] e (a96 s u)⟩
theorem zGm (k:Bool) (s u:Ty) (h1:s.size≤64) (h2:u.size≤64):∃ r:TR,A 146 [num (bn k 3 4),.agg (szc s),.agg (szc u)] r.q∧r.sz≤64:=by
 have e1:=(qUl h1).1
 have e2:=(qUl h2).1
 unfold szc
 rw [e1,e2]
 have hb:=qQh
 have g1:inB (.ofNat (1+s.size))=true:=inb (by omega)
 have g2:inB (.ofNat (1+s.size+u.size))=true:=inb (by omega)
 by_cases h:1+s.size+u.size≤64
 ·have e:ltI (.ofNat 64) (.ofNat (1+s.size+u.size))=false:=qZv h
  have e3:ckN (1+s.size+u.size) 64=1+s.size+u.size:=(qUl h).1
  have e4:(TR.ok (.two k s u)).q = .tuple [.agg [num (bn k 3 4),.slice [s.c,u.c],num (1+s.size+u.size)],num 0]:=by
   show PV.tuple [.agg [num (Ty.two k s u).kd,.slice [s.c,u.c],num (ckN (1+s.size+u.size) 64)],num 0]=_
   rw [e3]
   cases k<;>rfl
  refine⟨.ok (.two k s u),?_,h⟩
  rw [e4]
  exact f3 [(11,.ok),(14,.ok),(16,.H)] g1 g2 e
 ·have e:ltI (.ofNat 64) (.ofNat (1+s.size+u.size))=true:=qQy (by omega)
  exact⟨.er 3,f3 [(11,.ok),(14,.ok),(16,.G)] g1 g2 e,Nat.zero_le _⟩
abbrev zs3:List PV:=[num 0,.slice [],num 0]
theorem zAc (k:K0):∃ r:TR,A 147 [(Tm.n0 k).p,.agg (zs3++zs3++zs3)] r.q∧r.sz≤64:=by
 cases k
 ·exact⟨.ok .nat,f1 [(37,.r (.agg (szc .nat)))] (qEu .nat (by decide)),by decide⟩
 ·exact⟨.ok .list,f1 [(37,.r (.agg (szc .list)))] (qEu .list (by decide)),by decide⟩
 ·exact⟨.ok .unit,f1 [(37,.r (.agg (szc .unit)))] (qEu .unit (by decide)),by decide⟩
theorem zAd (k:K1) (a:Tm) (s:Ty) (h:s.size≤64):∃ r:TR,A 147 [(Tm.n1 k a).p,.agg (szc s++zs3++zs3)] r.q∧r.sz≤64:=by
 have hb:=qQh
 cases k
 ·cases s with
  | nat=>exact⟨.ok .nat,f1 [(37,.r (.agg (szc .nat)))] (qEu .nat (by decide)),by decide⟩
  | two k s u=>cases k<;>exact⟨.er 6,f0 [],Nat.zero_le _⟩
  | _=>exact⟨.er 6,f0 [],Nat.zero_le _⟩
 ·cases s with
  | two k s u =>
   have h:1+s.size+u.size≤64:=h
   cases k
   ·exact⟨.ok s,f1 [(110,.n [(11,.r (.agg (szc s)))])] (qEu s (by omega)),by show s.size≤64;omega⟩
   ·exact⟨.er 6,f0 [],Nat.zero_le _⟩
  | _=>exact⟨.er 6,f0 [],Nat.zero_le _⟩
 ·cases s with
  | two k s u =>
   have h:1+s.size+u.size≤64:=h
   cases k
   ·exact⟨.ok u,f1 [(113,.n [(11,.r (.agg (szc u)))])] (qEu u (by omega)),by show u.size≤64;omega⟩
   ·exact⟨.er 6,f0 [],Nat.zero_le _⟩
  | _=>exact⟨.er 6,f0 [],Nat.zero_le _⟩
theorem zAe (k:K2) (a b:Tm) (s v:Ty) (h:s.size≤64) (h':v.size≤64):∃ r:TR,A 147 [(Tm.n2 k a b).p,.agg (szc s++szc v++zs3)] r.q∧r.sz≤64:=by
 have hb:=qQh
 cases k
 ·cases s with
  | two k s u =>
   have h:1+s.size+u.size≤64:=h
   cases k
   ·exact⟨.er 6,f0 [],Nat.zero_le _⟩
   ·obtain⟨b,g⟩:=zEb s v
    cases b
    ·exact⟨.er 6,f2 [(49,.n [(11,.r (.agg (szc s)))]),(52,.F)] (qEu s (by omega)) g,Nat.zero_le _⟩
    ·exact⟨.ok u,f3 [(49,.n [(11,.r (.agg (szc s)))]),(52,.T),(58,.n [(11,.r (.agg (szc u)))])] (qEu s (by omega)) g (qEu u (by omega)),by show u.size≤64;omega⟩
  | _=>exact⟨.er 6,f0 [],Nat.zero_le _⟩
 ·cases s with
  | nat=>cases v with
   | list=>exact⟨.ok .list,f1 [(37,.r (.agg (szc .list)))] (qEu .list (by decide)),by decide⟩
   | two k s u=>cases k<;>exact⟨.er 6,f0 [],Nat.zero_le _⟩
   | _=>exact⟨.er 6,f0 [],Nat.zero_le _⟩
  | two k s u=>cases k<;>exact⟨.er 6,f0 [],Nat.zero_le _⟩
  | _=>exact⟨.er 6,f0 [],Nat.zero_le _⟩
 ·obtain⟨r,g,g'⟩:=zGm false s v h h'
  cases r with
  | er n=>exact⟨.er n,f1 [(97,.r (TR.er n).q)] g,g'⟩
  | ok w=>exact⟨.ok w,f1 [(97,.r (TR.ok w).q)] g,g'⟩
def qIl:K3→Ty→Ty
 | .re,s => .two true .nat (.two true s s)
 | .fo,s => .two true .nat (.two true .list (.two true s s))
theorem zIg (k:K3) (s:Ty) (a b c:Tm):A 217 [(Tm.n3 k s a b c).p] (qIl k s).p:=by
 cases k<;>exact f0 []
theorem zAf (k:K3) (z:Ty) (a b c:Tm) (s v w:Ty) (h:z.size≤64):∃ r:TR,A 147 [(Tm.n3 k z a b c).p,.agg (szc s++szc v++szc w)] r.q∧r.sz≤64:=by
 have hb:=qQh
 have g1:=qEu z (by omega)
 obtain⟨b1,g2⟩:=zEb s z
 have g3:=zIg k z a b c
 have g4:=a96 v (qIl k z)
 cases b1
 ·cases k<;>exact⟨.er 6,f2 [(64,.r (.agg (szc z))),(71,.F)] g1 g2,Nat.zero_le _⟩
 cases e:v.same (qIl k z)<;>rw [e] at g4
 ·cases k
  ·exact⟨.er 6,f4 [(64,.r (.agg (szc z))),(71,.T),(78,.r (qIl .re z).p),(79,.F)] g1 g2 g3 g4,Nat.zero_le _⟩
  ·exact⟨.er 6,f4 [(64,.r (.agg (szc z))),(71,.T),(78,.r (qIl .fo z).p),(79,.F)] g1 g2 g3 g4,Nat.zero_le _⟩
 ·have key:(∃ r:TR,A 147 [(Tm.n3 k z a b c).p,.agg (szc s++szc v++szc w)] r.q∧r.sz≤64):=by
   cases w with
   | two l w1 w2 =>
    cases l<;>cases k
    ·exact⟨.er 6,f4 [(64,.r (.agg (szc z))),(71,.T),(78,.r (qIl .re z).p),(79,.T)] g1 g2 g3 g4,Nat.zero_le _⟩
    ·exact⟨.er 6,f4 [(64,.r (.agg (szc z))),(71,.T),(78,.r (qIl .fo z).p),(79,.T)] g1 g2 g3 g4,Nat.zero_le _⟩
    ·exact⟨.er 6,f4 [(64,.r (.agg (szc z))),(71,.T),(78,.r (qIl .re z).p),(79,.T)] g1 g2 g3 g4,Nat.zero_le _⟩
    ·exact⟨.er 6,f4 [(64,.r (.agg (szc z))),(71,.T),(78,.r (qIl .fo z).p),(79,.T)] g1 g2 g3 g4,Nat.zero_le _⟩
   | nat =>
     cases k
     ·exact⟨.ok z,f4 [(64,.r (.agg (szc z))),(71,.T),(78,.r (qIl .re z).p),(79,.T)] g1 g2 g3 g4,h⟩
     ·exact⟨.er 6,f4 [(64,.r (.agg (szc z))),(71,.T),(78,.r (qIl .fo z).p),(79,.T)] g1 g2 g3 g4,Nat.zero_le _⟩
   | list =>
     cases k
     ·exact⟨.er 6,f4 [(64,.r (.agg (szc z))),(71,.T),(78,.r (qIl .re z).p),(79,.T)] g1 g2 g3 g4,Nat.zero_le _⟩
     ·exact⟨.ok z,f4 [(64,.r (.agg (szc z))),(71,.T),(78,.r (qIl .fo z).p),(79,.T)] g1 g2 g3 g4,h⟩
   | unit =>
    cases k
    ·exact⟨.er 6,f4 [(64,.r (.agg (szc z))),(71,.T),(78,.r (qIl .re z).p),(79,.T)] g1 g2 g3 g4,Nat.zero_le _⟩
    ·exact⟨.er 6,f4 [(64,.r (.agg (szc z))),(71,.T),(78,.r (qIl .fo z).p),(79,.T)] g1 g2 g3 g4,Nat.zero_le _⟩
  exact key
open Go.Lg
set_option maxRecDepth 100000
def Tm.sc:Nat→Tm→Prop
 | n,.v i=>i<n
 | n,.lam _ b=>b.sc (n+1)
 | _,.n0 _=>True
 | n,.n1 _ a=>a.sc n
 | n,.n2 _ a b=>a.sc n∧b.sc n
 | n,.n3 _ _ a b d=>a.sc n∧b.sc n∧d.sc n
theorem qQ3 {a b:Bool} (h:(a && b)=true):a=true∧b=true:=by simpa using h
theorem qNm {s:Ty} (h:Nat.beq s.chk 0=true):s.size≤64:=ckE_0.1 (Nat.eq_of_beq_eq_true h)
abbrev T94 (g:List Ty) (t:Tm) (r:TR):Prop:=A 94 [tzs g,t.p] r.q∧r.sz≤64 ∧ ∀ s,r = .ok s→t.sc g.length
theorem zJb {g:List Ty} {t:Tm} {n:Nat} (h:A 94 [tzs g,t.p] (TR.er n).q):∃ r:TR,T94 g t r:=⟨.er n,h,Nat.zero_le _,fun s e=>by cases e⟩
theorem qNn {g:List Ty} {t:Tm} {r:TR} (h:t.sc g.length) (h1:A 94 [tzs g,t.p] r.q) (h2:r.sz≤64):∃ r:TR,T94 g t r:=⟨r,h1,h2,fun _ _=>h⟩
theorem a94:∀ (t:Tm) (g:List Ty),(∀ s∈g,s.size≤64)→t.shp=true→g.length+t.cnt≤mid→∃ r:TR,T94 g t r
 | .v i,g,hg,_,hl=>by
  have hm:=qQc
  by_cases h:i<g.length
  ·obtain⟨s,hx⟩:∃ s,g[g.length-1-i]? = some s:=⟨_,List.getElem?_eq_getElem (by omega)⟩
   have h1:(!ltI (.ofNat i) (.ofNat (g.map szc).length))=false:=by rw [qQy (by simpa using h)];rfl
   have h2:inB (Int.ofNat (g.map szc).length-1)=true∧Int.ofNat (g.map szc).length-1 = .ofNat (g.length-1):=by
    have e:Int.ofNat (g.map szc).length-1 = .ofNat (g.length-1):=by simp;omega
    exact⟨by rw [e];exact inN (by omega),e⟩
   have h3:inB (Int.ofNat (g.length-1) - .ofNat i)=true∧Int.ofNat (g.length-1) - .ofNat i = .ofNat (g.length-1-i):=by
    have e:Int.ofNat (g.length-1) - .ofNat i = .ofNat (g.length-1-i):=by simp;omega
    exact⟨by rw [e];exact inN (by omega),e⟩
   exact qNn (r:=.ok s) h (f4 [(21,.H),(26,.z (g.length-1)),(29,.z (g.length-1-i)),(30,.i (szc s))] h1 h2 h3 (qQi hx qEt)) (hg s (List.mem_of_getElem? hx))
  ·have h1:(!ltI (.ofNat i) (.ofNat (g.map szc).length))=true:=by rw [qZv (by simpa using h)];rfl
   exact zJb (n:=5) (f1 [(21,.G)] h1)
 | .lam s b,g,hg,hs,hl=>by
  have hm:=qQc
  have hb:=qQh
  have hl:g.length+(1+b.cnt)≤mid:=hl
  obtain⟨hs1,hs2⟩:=qQ3 hs
  have hz:=qNm hs1
  have g1:=qVw (g.map szc).length
  have g2:=qXl 3 40 qEt (by decide) g s (by omega) (by simp only [maxLen];omega)
  obtain⟨r,q1,q2,q3⟩:=a94 b (g++[s]) (fun u hu=>by rcases List.mem_append.1 hu with h|h;exact hg u h;simp at h;subst h;exact hz) hs2 (by simp;omega)
  rw [show tzs (g++[s]) = .slice (g.map szc++[szc s]) by simp [tzs]] at q1
  cases r with
  | er n=>exact zJb (n:=n) (f4 [(37,.r (.agg (szc s))),(44,.ok),(47,.ok),(52,.r (TR.er n).q)] (qEu s (by omega)) g1 g2 q1)
  | ok u =>
   have hsc:(Tm.lam s b).sc g.length:=by have:=q3 u rfl;simpa [Tm.sc] using this
   obtain⟨r,q4,q5⟩:=zGm true s u hz q2
   exact qNn hsc (f5 [(37,.r (.agg (szc s))),(44,.ok),(47,.ok),(52,.r (TR.ok u).q),(61,.r r.q)] (qEu s (by omega)) g1 g2 q1 q4) q5
 | .n0 k,g,hg,hs,hl=>by
  obtain⟨r,q4,q5⟩:=zAc k
  cases k<;>exact qNn trivial (f1 [(88,.r r.q)] q4) q5
 | .n1 k a,g,hg,hs,hl=>by
  have hl:g.length+(1+a.cnt)≤mid:=hl
  obtain⟨r,q1,q2,q3⟩:=a94 a g hg hs (by omega)
  cases r with
  | er n=>cases k<;>exact zJb (n:=n) (f1 [(75,.r (TR.er n).q)] q1)
  | ok u =>
   have hsc:(Tm.n1 k a).sc g.length:=q3 u rfl
   obtain⟨r,q4,q5⟩:=zAd k a u q2
   cases k<;>exact qNn hsc (f2 [(75,.r (TR.ok u).q),(88,.r r.q)] q1 q4) q5
 | .n2 k a b,g,hg,hs,hl=>by
  have hl:g.length+(1+a.cnt+b.cnt)≤mid:=hl
  obtain⟨hs1,hs2⟩:=qQ3 hs
  obtain⟨r,q1,q2,q3⟩:=a94 a g hg hs1 (by omega)
  cases r with
  | er n=>cases k<;>exact zJb (n:=n) (f1 [(75,.r (TR.er n).q)] q1)
  | ok u =>
   obtain⟨r,p1,p2,p3⟩:=a94 b g hg hs2 (by omega)
   cases r with
   | er n=>cases k<;>exact zJb (n:=n) (f2 [(75,.r (TR.ok u).q),(75,.r (TR.er n).q)] q1 p1)
   | ok v =>
    have hsc:(Tm.n2 k a b).sc g.length:=⟨q3 u rfl,p3 v rfl⟩
    obtain⟨r,q4,q5⟩:=zAe k a b u v q2 p2
    cases k<;>exact qNn hsc (f3 [(75,.r (TR.ok u).q),(75,.r (TR.ok v).q),(88,.r r.q)] q1 p1 q4) q5
 | .n3 k s a b c,g,hg,hs,hl=>by
  have hl:g.length+(1+a.cnt+b.cnt+c.cnt)≤mid:=hl
  obtain⟨hs0,hs⟩:=qQ3 hs
  obtain⟨hs1,hs⟩:=qQ3 hs
  obtain⟨hs2,hs3⟩:=qQ3 hs
  obtain⟨r,q1,q2,q3⟩:=a94 a g hg hs1 (by omega)
  cases r with
  | er n=>cases k<;>exact zJb (n:=n) (f1 [(75,.r (TR.er n).q)] q1)
  | ok u =>
   obtain⟨r,p1,p2,p3⟩:=a94 b g hg hs2 (by omega)
   cases r with
   | er n=>cases k<;>exact zJb (n:=n) (f2 [(75,.r (TR.ok u).q),(75,.r (TR.er n).q)] q1 p1)
   | ok v =>
    obtain⟨r,o1,o2,o3⟩:=a94 c g hg hs3 (by omega)
    cases r with
    | er n=>cases k<;>exact zJb (n:=n) (f3 [(75,.r (TR.ok u).q),(75,.r (TR.ok v).q),(75,.r (TR.er n).q)] q1 p1 o1)
    | ok w =>
     have hsc:(Tm.n3 k s a b c).sc g.length:=⟨q3 u rfl,p3 v rfl,o3 w rfl⟩
     obtain⟨r,q4,q5⟩:=zAf k s a b c u v w (qNm hs0)
     cases k<;>exact qNn hsc (f4 [(75,.r (TR.ok u).q),(75,.r (TR.ok v).q),(75,.r (TR.ok w).q),(88,.r r.q)] q1 p1 o1 q4) q5
theorem zEc (g:List Ty) (t:Tm) (n:Nat) (hg:∀ s∈g,s.size≤64) (h1:t.shp=true) (h2:g.length+t.cnt≤mid):∃ e,A 248 [tzs g,t.p,num n] (num e)∧(e=0→t.sc g.length):=by
 obtain⟨r,q1,q2,q3⟩:=a94 t g hg h1 h2
 cases r with
 | er e=>exact⟨e+1,f1 [(12,.r (TR.er e).q)] q1,nofun⟩
 | ok s =>
  by_cases c:s.kd=n
  ·exact⟨0,f2 [(12,.r (TR.ok s).q),(20,.n [(9,.G)])] q1 (show eqI (.ofNat s.kd) (.ofNat n)=true by rw [c];exact qUb n),fun _=>q3 s rfl⟩
  ·exact⟨7,f2 [(12,.r (TR.ok s).q),(20,.n [(9,.H)])] q1 (qNh c),nofun⟩
theorem zEd (g:List Ty) (t:Tm) (hg:∀ s∈g,s.size≤64) (h1:t.shp=true) (h2:g.length+t.cnt≤mid):∃ e,A 250 [tzs g,t.p] (num e)∧(e=0→t.sc g.length):=by
 obtain⟨e,q1,q2⟩:=zEc g t 1 hg h1 h2
 exact⟨e,f1 [(7,.N e)] q1,q2⟩
def Fm.frm:Fm→Bool
 | .q _ s _=>Nat.beq s.chk 0
 | _=>true
theorem zEe (f:Fm) (h:f.tsz≤big):A 271 [f.p] (.bool f.frm):=by
 cases f with
 | eq a b=>exact f1 [(31,.T)] qZ8
 | bin k f g=>cases k<;>exact f1 [(31,.T)] qZ8
 | q k s f =>
  have h:max s.size f.tsz≤big:=h
  have h1:=zXo s (by omega)
  show A 271 [(Fm.q k s f).p] (.bool (Nat.beq s.chk 0))
  rcases qZe s with e|e<;>rw [qWs] at e<;>rw [e] at h1<;>rw [qWs,e]
  ·cases k<;>exact f1 [(24,.U [num (ckN s.size 64),num 0])] h1
  ·cases k<;>exact f1 [(24,.U [num (ckN s.size 64),num 4])] h1
def Fm.nd (f:Fm):Nat:=match f.shp with
 | true=>f.cnt
 | false=>0
theorem zCt:∀ f:Fm,f.tsz≤big→f.cnt≤big→A 210 [f.p] (.tuple [num f.nd,.bool f.shp])
 | .eq a b,h,hc=>by
  have h:max a.tsz b.tsz≤big:=h
  have hc:1+a.cnt+b.cnt≤big:=hc
  have h1:=qSz a (by omega) (by omega)
  have h2:=qSz b (by omega) (by omega)
  have hc1:inB (.ofNat (1+a.cnt))=true:=inb (by omega)
  have h0:=zEe (.eq a b) h
  unfold Fm.nd Tm.nd at *
  show A 210 [(Fm.eq a b).p] (.tuple [num (match a.shp && b.shp with|true=>1+a.cnt+b.cnt|false=>0),.bool (a.shp && b.shp)])
  cases e1:a.shp<;>rw [e1] at h1
  ·exact f2 [(14,.T),(25,.U [num 0,.bool false])] h0 h1
  ·cases e2:b.shp<;>rw [e2] at h2
   ·exact f4 [(14,.T),(25,.U [num a.cnt,.bool true]),(32,.ok),(25,.U [num 0,.bool false])] h0 h1 hc1 h2
   ·exact f5 [(14,.T),(25,.U [num a.cnt,.bool true]),(32,.ok),(25,.U [num b.cnt,.bool true]),(32,.ok)] h0 h1 hc1 h2 (inb hc)
 | .bin k a b,h,hc=>by
  have h:max a.tsz b.tsz≤big:=h
  have hc:1+a.cnt+b.cnt≤big:=hc
  have h1:=zCt a (by omega) (by omega)
  have h2:=zCt b (by omega) (by omega)
  have hc1:inB (.ofNat (1+a.cnt))=true:=inb (by omega)
  have h0:=zEe (.bin k a b) h
  unfold Fm.nd at *
  show A 210 [(Fm.bin k a b).p] (.tuple [num (match a.shp && b.shp with|true=>1+a.cnt+b.cnt|false=>0),.bool (a.shp && b.shp)])
  cases e1:a.shp<;>rw [e1] at h1
  ·cases k<;>exact f2 [(14,.T),(43,.U [num 0,.bool false])] h0 h1
  ·cases e2:b.shp<;>rw [e2] at h2
   ·cases k<;>exact f4 [(14,.T),(43,.U [num a.cnt,.bool true]),(50,.ok),(43,.U [num 0,.bool false])] h0 h1 hc1 h2
   ·cases k<;>exact f5 [(14,.T),(43,.U [num a.cnt,.bool true]),(50,.ok),(43,.U [num b.cnt,.bool true]),(50,.ok)] h0 h1 hc1 h2 (inb hc)
 | .q k s a,h,hc=>by
  have h0:A 271 [(Fm.q k s a).p] (.bool (Nat.beq s.chk 0)):=zEe (.q k s a) h
  have h:max s.size a.tsz≤big:=h
  have hc:1+a.cnt≤big:=hc
  have h1:=zCt a (by omega) (by omega)
  unfold Fm.nd at *
  show A 210 [(Fm.q k s a).p] (.tuple [num (match Nat.beq s.chk 0 && a.shp with|true=>1+a.cnt|false=>0),.bool (Nat.beq s.chk 0 && a.shp)])
  cases e0:Nat.beq s.chk 0<;>rw [e0] at h0
  ·cases k<;>exact f1 [(14,.F)] h0
  ·cases e1:a.shp<;>rw [e1] at h1
   ·cases k<;>exact f2 [(14,.T),(43,.U [num 0,.bool false])] h0 h1
   ·cases k<;>exact f3 [(14,.T),(43,.U [num a.cnt,.bool true]),(50,.ok)] h0 h1 (inb hc)
def Fm.ckn (f:Fm):Nat:=match f.chk with
 | 0=>f.cnt
 | _=>0
theorem zCu (f:Fm) (h1:f.tsz≤big) (h2:f.cnt≤big):A 141 [f.p] (.tuple [num f.ckn,num f.chk]):=by
 have h3:=zCt f h1 h2
 unfold Fm.nd at h3
 unfold Fm.ckn Fm.chk
 cases e:f.shp<;>rw [e] at h3
 ·exact f1 [(8,.U [num 0,.bool false])] h3
 ·cases e2:ltI (.ofNat 4096) (.ofNat f.cnt)
  ·exact f2 [(8,.U [num f.cnt,.bool true]),(16,.H)] h3 e2
  ·exact f2 [(8,.U [num f.cnt,.bool true]),(16,.G)] h3 e2
theorem Fm.ckn0 {f:Fm} (h:f.chk=0):f.ckn=f.cnt:=by unfold Fm.ckn;split<;>simp_all
theorem a89 (f:Fm) (h1:f.tsz≤big) (h2:f.cnt≤big):A 89 [f.p] (num f.chk):=f1 [(7,.U [num f.ckn,num f.chk])] (zCu f h1 h2)
theorem a296 (f:Fm) (h1:f.tsz≤big) (h2:f.cnt≤big):A 296 [f.p] (.tuple [num f.ckn,num f.chk]):=f1 [(5,.U [num f.ckn,num f.chk])] (zCu f h1 h2)
open Go.Lg
set_option maxRecDepth 100000
def Fm.sc:Nat→Fm→Prop
 | n,.eq a b=>a.sc n∧b.sc n
 | n,.bin _ f g=>f.sc n∧g.sc n
 | n,.q _ _ f=>f.sc (n+1)
theorem zEf:A 93 [tys []] (tzs []):=f0 []
theorem zEg (s:Ty) (h:s.size≤big):A 93 [tys [s]] (tzs [s]):=f1 [(14,.r (.agg (szc s)))] (qEu s h)
theorem zEh (s u:Ty) (h:s.size≤big) (h':u.size≤big):A 93 [tys [s,u]] (tzs [s,u]):=f2 [(14,.r (.agg (szc s))),(14,.r (.agg (szc u)))] (qEu s h) (qEu u h')
theorem qGo (g:List Ty) (s:Ty) (hg:g.length≤mid) (h:s.size≤big):A 247 [tzs g,tys [s]] (tzs (g++[s])):=by
 have hm:=qQc
 have g1:=qVw (g.map szc).length
 have g2:=qXl 3 40 qEt (by decide) g s (by omega) (by simp only [maxLen];omega)
 rw [show tzs (g++[s]) = .slice (g.map szc++[szc s]) by simp [tzs]]
 exact f3 [(10,.ok),(12,.r (tzs [s])),(13,.ok)] g1 (zEg s h) g2
theorem zAg (g:List Ty) (s u:Ty) (hg:g.length≤mid) (h:s.size≤big) (h':u.size≤big):A 247 [tzs g,tys [s,u]] (tzs (g++[s,u])):=by
 have hm:=qQc
 have g1:=qVw (g.map szc).length
 have g2:=zZ9 3 40 qEt (by decide) g s u (by omega) (by simp only [maxLen];omega)
 rw [show tzs (g++[s,u]) = .slice (g.map szc++[szc s,szc u]) by simp [tzs]]
 exact f3 [(10,.ok),(12,.r (tzs [s,u])),(13,.ok)] g1 (zEh s u h h') g2
theorem qUm:∀ (f:Fm) (g:List Ty),(∀ s∈g,s.size≤64)→f.shp=true→g.length+f.cnt≤mid→∃ e,A 230 [tzs g,f.p] (num e)∧(e=0→f.sc g.length)
 | .eq a b,g,hg,hs,hl=>by
  have hl:g.length+(1+a.cnt+b.cnt)≤mid:=hl
  obtain⟨hs1,hs2⟩:=qQ3 hs
  obtain⟨e,q1,q2⟩:=zEd g a hg hs1 (by omega)
  cases e with
  | succ n=>exact⟨n+1,f1 [(50,.N (n+1))] q1,nofun⟩
  | zero =>
   obtain⟨e,p1,p2⟩:=zEd g b hg hs2 (by omega)
   cases e with
   | succ n=>exact⟨n+1,f2 [(50,.N 0),(50,.N (n+1))] q1 p1,nofun⟩
   | zero=>exact⟨0,f2 [(50,.N 0),(50,.N 0)] q1 p1,fun _=>⟨q2 rfl,p2 rfl⟩⟩
 | .bin k a b,g,hg,hs,hl=>by
  have hl:g.length+(1+a.cnt+b.cnt)≤mid:=hl
  obtain⟨hs1,hs2⟩:=qQ3 hs
  obtain⟨e,q1,q2⟩:=qUm a g hg hs1 (by omega)
  cases e with
  | succ n=>cases k<;>exact⟨n+1,f1 [(36,.N (n+1))] q1,nofun⟩
  | zero =>
   obtain⟨e,p1,p2⟩:=qUm b g hg hs2 (by omega)
   cases e with
   | succ n=>cases k<;>exact⟨n+1,f2 [(36,.N 0),(36,.N (n+1))] q1 p1,nofun⟩
   | zero=>cases k<;>exact⟨0,f2 [(36,.N 0),(36,.N 0)] q1 p1,fun _=>⟨q2 rfl,p2 rfl⟩⟩
 | .q k s a,g,hg,hs,hl=>by
  have hm:=qQc
  have hb:=qQh
  have hl:g.length+(1+a.cnt)≤mid:=hl
  obtain⟨hs1,hs2⟩:=qQ3 hs
  have hz:=qNm hs1
  have g1:=qGo g s (by omega) (by omega)
  obtain⟨e,q1,q2⟩:=qUm a (g++[s]) (fun u hu=>by rcases List.mem_append.1 hu with h|h;exact hg u h;simp at h;subst h;exact hz) hs2 (by simp;omega)
  cases e with
  | succ n=>cases k<;>exact⟨n+1,f2 [(26,.r (tzs (g++[s]))),(36,.N (n+1))] g1 q1,nofun⟩
  | zero=>cases k<;>exact⟨0,f2 [(26,.r (tzs (g++[s]))),(36,.N 0)] g1 q1,fun _=>by have:=q2 rfl;simpa [Fm.sc] using this⟩
theorem zJc {g:List Ty} (hl:g.length≤16):∀ (r:List Ty) (k:Nat),g.drop k=r→(∀ t∈r,t.size≤big) →
  (qNx r=0∧Lp 91 0 0 (st [(9,.pv (tys g)),(10,.pv (num (g.map Ty.c).length)),(11,.pv (num k))] [] 0 []) (.exit 0) (st [] [] 0 []))∨qNx r=4∧Lp 91 0 0 (st [(9,.pv (tys g)),(10,.pv (num (g.map Ty.c).length)),(11,.pv (num k))] [] 0 []) .ret (st [(2,.pv (num 4))] [] 0 [])
 | [],k,h,_ => .inl ⟨rfl,x1 [(12,.H)] (kp []) (show ltI (.ofNat k) (.ofNat (g.map Ty.c).length)=false from qZv (by simpa using qZp h))⟩
 | t::r,k,h,hb=>by
  obtain⟨h1,h2,h3⟩:=qZo h
  have hc:=zEa t (hb t (by simp))
  have hlt:ltI (.ofNat k) (.ofNat (g.map Ty.c).length)=true:=qQy (by simpa using h2)
  unfold qNx
  rcases qZe t with e|e<;>rw [qWs] at e<;>rw [e] at hc<;>rw [qWs,e]
  ·rcases zJc hl r (k+1) h3 (fun t ht=>hb t (by simp [ht])) with ⟨e1,ih⟩|⟨e1,ih⟩
   ·exact .inl ⟨e1,n5 [(12,.G),(13,.i t.c),(16,.N 0),(20,.ok)] (kp [9,10,11]) hlt (qQi h1 Ty.c_len) hc (inN (show k+1≤_ by omega)) ih⟩
   ·exact .inr ⟨e1,n5 [(12,.G),(13,.i t.c),(16,.N 0),(20,.ok)] (kp [9,10,11]) hlt (qQi h1 Ty.c_len) hc (inN (show k+1≤_ by omega)) ih⟩
  ·exact .inr ⟨rfl,x3 [(12,.G),(13,.i t.c),(16,.N 4)] (kp [2]) hlt (qQi h1 Ty.c_len) hc⟩
theorem a91 (g:List Ty) (hb:∀ t∈g,t.size≤big):A 91 [tys g] (num (qNg g)):=by
 unfold qNg
 cases e:ltI (.ofNat 16) (.ofNat (g.map Ty.c).length)
 ·have hl:g.length≤16:=by
   rw [qQs] at e
   simp at e
   omega
  rcases zJc hl g 0 rfl hb with ⟨h1,h2⟩|⟨h1,h2⟩<;>rw [h1]
  ·exact f2 [(8,.H),(100004,.l (kp [9,10,11]) (.exit 0) (st [] [] 0 []))] e h2
  ·exact f2 [(8,.H),(100004,.l (kp [9,10,11]) .ret (st [(2,.pv (num 4))] [] 0 []))] e h2
 ·exact f1 [(8,.G)] e
theorem zJd:∀ {g:List Ty},qNx g=0→∀ s∈g,s.size≤64
 | [],_,s,h=>by cases h
 | t::r,e,s,h=>by
  unfold qNx at e
  split at e
  ·rename_i e1
   rcases List.mem_cons.1 h with rfl|h
   ·exact Go.Proofs.YtmcockinhpiomaaGreatDoor.chk0 e1
   ·exact zJd e s h
  ·cases e
theorem qGp {g:List Ty} (e:qNg g=0):g.length≤16 ∧ ∀ s∈g,s.size≤64:=by
 unfold qNg at e
 split at e
 ·cases e
 ·rename_i e1
  rw [qQs] at e1
  simp at e1
  exact⟨by omega,zJd e⟩
theorem qEv {A:List (List PV)} {v sz ty m:Nat} {c:List PV} (h0:0<sz) (h1:qY1 sz [pvL c]=true) (h2:qJl [pvL c]=true) (h3:A.length+1≤maxLen) (h4:(A.length+1) * m≤140737488355328) :
  (Nat.beq v v && Nat.ble A.length (pvE A).length && Nat.beq ty ty && Nat.beq sz sz && Nat.blt 0 sz && qY1 sz [pvL c] && qJl [pvL c] && Nat.ble (A.length+[pvL c].length) maxLen && Nat.ble ((A.length+[pvL c].length) * m) 140737488355328)=true :=
 qRc (pvE_len A) h0 h1 h2 h3 h4
abbrev zGn (g:List Ty) (k:Nat) (x:V):List (Nat × V):=[(3,x),(6,.pv (tys g)),(7,.pv (num (g.map Ty.c).length)),(8,.pv (num k))]
abbrev k93:Kp:=⟨[3,6,7,8],[1],2,[]⟩
theorem zJe {g:List Ty} (hl:g.length≤mid):∀ (r:List Ty) (k v:Nat) (A:List (List PV)),g.drop k=r→(∀ t∈r,t.size≤big)→A.length=k →
  ∃ v',Lp 93 0 0 (st (zGn g k (.arr 1 v A.length)) [(1,.arr v 3 139 (pvE A))] 2 []) (.exit 0) (st [(3,.arr 1 v' (A.length+r.length))] [(1,.arr v' 3 139 (pvE (A++r.map szc)))] 2 [])
 | [],k,v,A,h,hb,hA=>by
  have e:ltI (.ofNat k) (.ofNat (g.map Ty.c).length)=false:=qZv (by simpa using qZp h)
  simp only [List.map_nil,List.append_nil,List.length_nil,Nat.add_zero]
  exact⟨v,y1 [(9,.H)] ⟨[3],[1],2,[]⟩ e (qQn A)⟩
 | t::r,k,v,A,h,hb,hA=>by
  have hm:=qQc
  obtain⟨d1,d2,d3⟩:=qZo h
  have e:ltI (.ofNat k) (.ofNat (g.map Ty.c).length)=true:=qQy (by simpa using d2)
  have g3:=inN (show k+1≤_ by omega)
  have g5:=qEv (A:=A) (v:=v) (ty:=139) (m:=40) (c:=szc t) (show 0<3 by decide) rfl rfl (by simp only [maxLen];omega) (by omega)
  obtain⟨v',ih⟩:=zJe hl r (k+1) (v+1) (A++[szc t]) d3 (fun u hu=>hb u (by simp [hu])) (by simp [hA])
  rw [qZy,show (A++[szc t]).length=A.length+1 by simp,show A.length+1+r.length=A.length+(t::r).length by simp;omega,List.append_assoc] at ih
  exact⟨v',n7 [(9,.G),(10,.i t.c),(14,.r (.agg (szc t))),(16,.ok),(17,.ok)] k93 e (qQi d1 Ty.c_len) (qEu t (hb t (by simp))) g5 g3 (qQq A (szc t)) ih⟩
theorem a93 (g:List Ty) (hl:g.length≤mid) (hb:∀ t∈g,t.size≤big):A 93 [tys g] (tzs g):=by
 cases g with
 | nil=>exact zEf
 | cons t r =>
  have e:ltI (.ofNat 0) (.ofNat ((t::r).map Ty.c).length)=true:=qQy (by simp)
  obtain⟨v,h⟩:=zJe hl r 1 1 [szc t] rfl (fun u hu=>hb u (by simp [hu])) rfl
  have h2:=LoopIs.fz (by simp) h 1 (ver:=v) (sz:=3) (ty:=139) (ps:=(t::r).map szc) rfl (by kernel_rfl)
  simp (decide:=true) only [fzS,fzO,qY0,qJb,qY8,List.map,qC3,and_self,↓reduceIte,List.take_of_length_le (show (szc t::r.map szc).length≤[szc t].length+r.length by simp;omega)] at h2
  have h3:Lp 93 0 0 (st (zGn (t::r) 0 (.pv .nils)) [] 0 []) (.exit 0) (st [(3,.pv (tzs (t::r)))] [] 2 []) :=
   n6 [(9,.G),(10,.i t.c),(14,.r (.agg (szc t))),(17,.ok)] k93 e (qQi (g:=t::r) (k:=0) rfl Ty.c_len) (qEu t (hb t (by simp))) (inN (show 0+1≤_ by omega)) (qQq [] (szc t)) h2
  exact f1 [(100003,.l ⟨[3,6,7,8],[],0,[]⟩ (.exit 0) (st [(3,.pv (tzs (t::r)))] [] 2 []))] h3
theorem zGo (g:List Ty) (f:Fm) (hg:∀ s∈g,s.size≤mid) (h1:f.tsz≤mid) (h2:f.cnt≤mid) (h3:g.length≤mid):∃ e,A 169 [tys g,f.p] (num e)∧(e=0→f.chk=0∧f.sc g.length ∧ ∀ s∈g,s.size≤64):=by
 have hm:=qQc
 have hb:=qQh
 have q1:=a91 g (fun s hs=>by have:=hg s hs;omega)
 obtain⟨n,hn⟩:=qGm g
 rw [hn] at q1
 cases n with
 | succ n=>exact⟨n+1,f1 [(8,.N (n+1))] q1,nofun⟩
 | zero =>
  obtain⟨l1,l2⟩:=qGp hn
  have q2:=a89 f (by omega) (by omega)
  cases e:f.chk with
  | succ n=>rw [e] at q2;exact⟨n+1,f2 [(8,.N 0),(13,.N (n+1))] q1 q2,nofun⟩
  | zero =>
   rw [e] at q2
   obtain⟨c1,c2⟩:=Fm.chk0 e
   have q3:=a93 g h3 (fun s hs=>by have:=hg s hs;omega)
   obtain⟨e',q4,q5⟩:=qUm f g l2 c2 (by omega)
   exact⟨e',f4 [(8,.N 0),(13,.N 0),(18,.r (tzs g)),(20,.N e')] q1 q2 q3 q4,fun h=>⟨rfl,q5 h,l2⟩⟩
theorem a35 (g:List Ty) (t:Tm) (hg:∀ s∈g,s.size≤mid) (h1:t.tsz≤mid) (h2:t.cnt≤mid) (h3:g.length≤mid):∃ r:TR,A 35 [tys g,t.p] r.p∧r.sz≤64 ∧ ∀ s,r = .ok s→t.chk=0∧t.sc g.length:=by
 have hm:=qQc
 have hb:=qQh
 have q1:=a91 g (fun s hs=>by have:=hg s hs;omega)
 obtain⟨n,hn⟩:=qGm g
 rw [hn] at q1
 cases n with
 | succ n=>exact⟨.er n,f1 [(11,.N (n+1))] q1,Nat.zero_le _,fun _ h=>by cases h⟩
 | zero =>
  obtain⟨l1,l2⟩:=qGp hn
  have q2:=a92 t (by omega) (by omega)
  cases e:t.chk with
  | succ n=>rw [e] at q2;exact⟨.er n,f2 [(11,.N 0),(17,.N (n+1))] q1 q2,Nat.zero_le _,fun _ h=>by cases h⟩
  | zero =>
   rw [e] at q2
   obtain⟨c1,c2⟩:=Tm.chk0 e
   have q3:=a93 g h3 (fun s hs=>by have:=hg s hs;omega)
   obtain⟨r,q4,q5,q6⟩:=a94 t g l2 c2 (by omega)
   cases r with
   | er n=>exact⟨.er n,f4 [(11,.N 0),(17,.N 0),(24,.r (tzs g)),(26,.r (TR.er n).q)] q1 q2 q3 q4,Nat.zero_le _,fun _ h=>by cases h⟩
   | ok s=>exact⟨.ok s,f5 [(11,.N 0),(17,.N 0),(24,.r (tzs g)),(26,.r (TR.ok s).q),(35,.r s.p)] q1 q2 q3 q4 (a95 s),q5,fun u h=>⟨rfl,q6 s rfl⟩⟩
open Go.Lg
set_option maxRecDepth 100000
theorem zEi {x:Int} {a:Nat} (h:(a:Int)≤x):(!ltI x (.ofNat a))=true:=by rw [qQs];simp;exact h
theorem zEj {x:Int} {a:Nat} (h:x<(a:Int)):(!ltI x (.ofNat a))=false:=by rw [qQs];simp;exact h
theorem qUn {x:Int} {a:Nat} (h:x=(a:Int)):eqI x (.ofNat a)=true:=by rw [qVe];simp;exact h
theorem zAh {x:Int} {a:Nat} (h:x≠(a:Int)):eqI x (.ofNat a)=false:=by rw [qVe];simp;exact h
theorem zEk {x:Int} {a:Nat} (h:(a:Int)<x):ltI (.ofNat a) x=true:=by rw [qQs];simp;exact h
theorem zEl {x:Int} {a:Nat} (h:x≤(a:Int)):ltI (.ofNat a) x=false:=by rw [qQs];simp;exact h
theorem zXq {i d:Nat} (h:i≤big) (h':d≤big):inB (Int.ofNat i - .ofNat d)=true∧Int.ofNat i - .ofNat d=Int.ofNat i - .ofNat d:=⟨(qBt h h' rfl).1,rfl⟩
theorem qQ9 {a b:Nat} (h:a+b≤big):inB (Int.ofNat a + .ofNat b)=true∧Int.ofNat a + .ofNat b = .ofNat (a+b):=⟨inb (n:=a+b) h,rfl⟩
abbrev obF (c:V) (own:List (Nat × Ob)):List (Nat × Ob):=(5,.box [c])::(7,.box [.fn 342 [.loc 5 0,.loc 7 0]])::own
abbrev zGp (a b:Nat):List (Nat × Ob):=obF (.fn 323 [.loc 1 0,.loc 2 0]) [(1,bx [num a]),(2,bx [num b])]
theorem qGq (a z:Nat) (ha:a≤mid) (hz:z≤2 * mid):∀ (t:Tm) (d:Nat),d+t.cnt≤mid→t.mx≤mid * mid→O 342 [.pv t.p,.pv (num d),.loc 5 0,.loc 7 0] (zGp a z) (.pv (t.sh (a+d) (.ofNat z)).p) (zGp a z)
 | .v i,d,hd,hm=>by
  have hmm:=qQc
  have hi:i≤mid * mid:=hm
  have hd:d+1≤mid:=hd
  rw [hmm] at hi
  have hb:=qQh
  have g1:=zXq (i:=i) (d:=d) (by omega) (by omega)
  by_cases h:a+d≤i
  ·have e:(Tm.v i).sh (a+d) (.ofNat z) = .v (i+z):=by simp only [Tm.sh,if_pos h];rfl
   rw [e]
   have g2:(!ltI (Int.ofNat i - .ofNat d) (.ofNat a))=true:=zEi (by simp;omega)
   have g3:=qQ9 (a:=i) (b:=z) (by omega)
   exact o3 8 [(17,.n [(9,.y (Int.ofNat i - .ofNat d)),(11,.G),(14,.z (i+z))])] g1 g2 g3
  ·have e:(Tm.v i).sh (a+d) (.ofNat z) = .v i:=by simp only [Tm.sh,if_neg h]
   rw [e]
   have g2:(!ltI (Int.ofNat i - .ofNat d) (.ofNat a))=false:=zEj (by simp;omega)
   exact o2 8 [(17,.n [(9,.y (Int.ofNat i - .ofNat d)),(11,.H)])] g1 g2
 | .lam s b,d,hd,hm=>by
  have hd:d+(1+b.cnt)≤mid:=hd
  have hmm:=qQc
  have hb:=qQh
  have g:=qGq a z ha hz b (d+1) (by omega) hm
  exact o3 8 [(24,.r s.p),(30,.z (d+1)),(43,.o [5,7,1,2] [] (.pv (b.sh (a+(d+1)) (.ofNat z)).p))] (a95 s) (qQ9 (a:=d) (b:=1) (by omega)) g
 | .n0 k,d,_,_=>by cases k<;>exact o1 8 [(24,.r zt)] qB9
 | .n1 k b,d,hd,hm=>by
  have hd:d+(1+b.cnt)≤mid:=hd
  have g:=qGq a z ha hz b d (by omega) hm
  cases k<;>exact o2 8 [(24,.r zt),(43,.o [5,7,1,2] [] (.pv (b.sh (a+d) (.ofNat z)).p))] qB9 g
 | .n2 k b c,d,hd,hm=>by
  have hd:d+(1+b.cnt+c.cnt)≤mid:=hd
  have hm:max b.mx c.mx≤mid * mid:=hm
  have g:=qGq a z ha hz b d (by omega) (by omega)
  have g':=qGq a z ha hz c d (by omega) (by omega)
  cases k<;>exact o3 8 [(24,.r zt),(43,.o [5,7,1,2] [] (.pv (b.sh (a+d) (.ofNat z)).p)),(43,.o [5,7,1,2] [] (.pv (c.sh (a+d) (.ofNat z)).p))] qB9 g g'
 | .n3 k s b c e,d,hd,hm=>by
  have hd:d+(1+b.cnt+c.cnt+e.cnt)≤mid:=hd
  have hm:max b.mx (max c.mx e.mx)≤mid * mid:=hm
  have g:=qGq a z ha hz b d (by omega) (by omega)
  have g':=qGq a z ha hz c d (by omega) (by omega)
  have g'':=qGq a z ha hz e d (by omega) (by omega)
  cases k<;>exact o4 8 [(24,.r s.p),(43,.o [5,7,1,2] [] (.pv (b.sh (a+d) (.ofNat z)).p)),(43,.o [5,7,1,2] [] (.pv (c.sh (a+d) (.ofNat z)).p)),(43,.o [5,7,1,2] [] (.pv (e.sh (a+d) (.ofNat z)).p))] (a95 s) g g' g''
theorem zEm (t:Tm) (a z:Nat) (ha:a≤mid) (hz:z≤2 * mid) (h1:t.cnt≤mid) (h2:t.mx≤mid * mid):A 293 [t.p,num a,num z] (t.sh a (.ofNat z)).p :=
 f1 [(9,.n [(9,.o [5,7,1,2] [] (.pv (t.sh a (.ofNat z)).p))])] (qGq a z ha hz t 0 (by omega) h2)
structure Sx where
 k:Nat
 i:Nat
 tk:Nat
 te:List (List PV)
 es:List (List PV)
abbrev Sx.c (s:Sx):List PV:=[num s.k,num s.i,num s.tk,.slice s.te,.slice s.es]
abbrev Tm.x (t:Tm):Sx:=⟨t.kd,t.ix,t.tk,t.te,t.es⟩
abbrev Sx.z:Sx:=⟨0,0,0,[],[]⟩
abbrev zGq (a:Nat) (s:Sx):List (Nat × Ob):=obF (.fn 337 [.loc 1 0,.loc 2 0]) [(1,bx [num a]),(2,bx s.c)]
def Lf (s:Sx) (S:Tm):Prop:=∀ n,n≤2 * mid→A 293 [.agg s.c,num 0,num n] (S.sh 0 (.ofNat n)).p
theorem qGr (a:Nat) (s:Sx) (S:Tm) (ha:a≤mid):∀ (t:Tm) (d:Nat),(Lf s S∨t.occ (a+d)=0)→d+t.cnt≤mid→t.mx≤mid * mid→O 342 [.pv t.p,.pv (num d),.loc 5 0,.loc 7 0] (zGq a s) (.pv (t.put a S d).p) (zGq a s)
 | .v i,d,hS,hd,hm=>by
  have hmm:=qQc
  have hi:i≤mid * mid:=hm
  have hd:d+1≤mid:=hd
  rw [hmm] at hi
  have hb:=qQh
  have g1:=zXq (i:=i) (d:=d) (by omega) (by omega)
  by_cases h:i=a+d
  ·have e:(Tm.v i).put a S d=S.sh 0 (.ofNat (a+d)):=by simp only [Tm.put,if_pos h]
   rw [e]
   have g2:eqI (Int.ofNat i - .ofNat d) (.ofNat a)=true:=qUn (by simp;omega)
   have g3:=qQ9 (a:=a) (b:=d) (by omega)
   rcases hS with hS|hS
   ·exact o4 8 [(17,.n [(10,.y (Int.ofNat i - .ofNat d)),(14,.G),(18,.z (a+d)),(19,.r (S.sh 0 (.ofNat (a+d))).p)])] g1 g2 g3 (hS (a+d) (by omega))
   ·simp [Tm.occ,h] at hS
  ·have g2:eqI (Int.ofNat i - .ofNat d) (.ofNat a)=false:=zAh (by simp;omega)
   by_cases h':a+d<i
   ·have e:(Tm.v i).put a S d = .v (i-1):=by simp only [Tm.put,if_neg h,if_pos h']
    rw [e]
    have g3:ltI (.ofNat a) (Int.ofNat i - .ofNat d)=true:=zEk (by simp;omega)
    have g4:=qVm (a:=i) (by omega) (by omega)
    exact o4 8 [(17,.n [(10,.y (Int.ofNat i - .ofNat d)),(14,.H),(23,.G),(25,.z (i-1))])] g1 g2 g3 g4
   ·have e:(Tm.v i).put a S d = .v i:=by simp only [Tm.put,if_neg h,if_neg h']
    rw [e]
    have g3:ltI (.ofNat a) (Int.ofNat i - .ofNat d)=false:=zEl (by simp;omega)
    exact o3 8 [(17,.n [(10,.y (Int.ofNat i - .ofNat d)),(14,.H),(23,.H)])] g1 g2 g3
 | .lam s b,d,hS,hd,hm=>by
  have hd:d+(1+b.cnt)≤mid:=hd
  have hmm:=qQc
  have hb:=qQh
  have g:=qGr a _ S ha b (d+1) hS (by omega) hm
  exact o3 8 [(24,.r s.p),(30,.z (d+1)),(43,.o [5,7,1,2] [] (.pv (b.put a S (d+1)).p))] (a95 s) (qQ9 (a:=d) (b:=1) (by omega)) g
 | .n0 k,d,_,_,_=>by cases k<;>exact o1 8 [(24,.r zt)] qB9
 | .n1 k b,d,hS,hd,hm=>by
  have hd:d+(1+b.cnt)≤mid:=hd
  have g:=qGr a s S ha b d hS (by omega) hm
  cases k<;>exact o2 8 [(24,.r zt),(43,.o [5,7,1,2] [] (.pv (b.put a S d).p))] qB9 g
 | .n2 k b c,d,hS,hd,hm=>by
  have hd:d+(1+b.cnt+c.cnt)≤mid:=hd
  have hm:max b.mx c.mx≤mid * mid:=hm
  have hS:Lf s S∨b.occ (a+d)+c.occ (a+d)=0:=hS
  have g:=qGr a s S ha b d (hS.imp id (by omega)) (by omega) (by omega)
  have g':=qGr a s S ha c d (hS.imp id (by omega)) (by omega) (by omega)
  cases k<;>exact o3 8 [(24,.r zt),(43,.o [5,7,1,2] [] (.pv (b.put a S d).p)),(43,.o [5,7,1,2] [] (.pv (c.put a S d).p))] qB9 g g'
 | .n3 k u b c e,d,hS,hd,hm=>by
  have hd:d+(1+b.cnt+c.cnt+e.cnt)≤mid:=hd
  have hm:max b.mx (max c.mx e.mx)≤mid * mid:=hm
  have hS:Lf s S∨b.occ (a+d)+c.occ (a+d)+e.occ (a+d)=0:=hS
  have g:=qGr a s S ha b d (hS.imp id (by omega)) (by omega) (by omega)
  have g':=qGr a s S ha c d (hS.imp id (by omega)) (by omega) (by omega)
  have g'':=qGr a s S ha e d (hS.imp id (by omega)) (by omega) (by omega)
  cases k<;>exact o4 8 [(24,.r u.p),(43,.o [5,7,1,2] [] (.pv (b.put a S d).p)),(43,.o [5,7,1,2] [] (.pv (c.put a S d).p)),(43,.o [5,7,1,2] [] (.pv (e.put a S d).p))] (a95 u) g g' g''
theorem zGr (t:Tm) (a:Nat) (s:Sx) (S:Tm) (hS:Lf s S∨t.occ a=0) (ha:a≤mid) (h1:t.cnt≤mid) (h2:t.mx≤mid * mid):A 317 [t.p,num a,.agg s.c] (t.put a S 0).p :=
 f1 [(9,.n [(9,.o [5,7,1,2] [] (.pv (t.put a S 0).p))])] (qGr a s S ha t 0 hS (by omega) h2)
theorem Lf.of (S:Tm) (h1:S.cnt≤mid) (h2:S.mx≤mid * mid) (B:∀ n,n≤2 * mid→A 293 [S.p,num 0,num n] (S.sh 0 (.ofNat n)).p):Lf S.x S:=B
theorem qUo:∀ t:Tm,A 188 [t.p] t.p
 | .v i=>f1 [(12,.r zt)] qB9
 | .lam s b=>f2 [(12,.r s.p),(24,.r b.p)] (a95 s) (qUo b)
 | .n0 k=>by cases k<;>exact f1 [(12,.r zt)] qB9
 | .n1 k b=>by have g:=qUo b;cases k<;>exact f2 [(12,.r zt),(24,.r b.p)] qB9 g
 | .n2 k b c=>by have g:=qUo b;have g':=qUo c;cases k<;>exact f3 [(12,.r zt),(24,.r b.p),(24,.r c.p)] qB9 g g'
 | .n3 k s b c d=>by have g:=qUo b;have g':=qUo c;have g'':=qUo d;cases k<;>exact f4 [(12,.r s.p),(24,.r b.p),(24,.r c.p),(24,.r d.p)] (a95 s) g g' g''
open Go.Lg
set_option maxRecDepth 100000
abbrev far:Nat:=536870912
def nrF:Bool→Tm→Bool
 | b,.v i=>match b with
  | true => !ltI (.ofNat far) (.ofNat i)
  | false=>false
 | b,.lam _ t=>nrF b t
 | b,.n0 _=>b
 | b,.n1 _ t=>nrF b t
 | b,.n2 _ t u=>nrF (nrF b t) u
 | b,.n3 _ _ t u w=>nrF (nrF (nrF b t) u) w
theorem qWt:∀ (t:Tm),t.mx≤far→nrF true t=true
 | .v i,h=>by
  have h:i≤far:=h
  show (!ltI (.ofNat far) (.ofNat i))=true
  rw [qZv h];rfl
 | .lam _ t,h=>qWt t h
 | .n0 _,_=>rfl
 | .n1 _ t,h=>qWt t h
 | .n2 _ t u,h=>by
  have h:max t.mx u.mx≤far:=h
  simp only [nrF,qWt t (by omega),qWt u (by omega)]
 | .n3 _ _ t u w,h=>by
  have h:max t.mx (max u.mx w.mx)≤far:=h
  simp only [nrF,qWt t (by omega),qWt u (by omega),qWt w (by omega)]
abbrev ut:PV:=.tuple []
abbrev obE (i j:Nat) (c:V) (own:List (Nat × Ob)):List (Nat × Ob):=(i,.box [c])::(j,.box [.fn 313 [.loc i 0,.loc j 0]])::own
abbrev obN (b:Bool):List (Nat × Ob):=obE 3 4 (.fn 325 [.loc 1 0]) [(1,bx [.bool b])]
abbrev chN (b:Bool):List (Nat × Ob):=[(1,bx [.bool b])]
theorem qGs:∀ (t:Tm) (b:Bool) (d:Nat),d+t.cnt≤mid→O 313 [.pv t.p,.pv (num d),.loc 3 0,.loc 4 0] (obN b) (.pv ut) (obN (nrF b t))
 | .v i,b,d,hd=>by
  cases b
  ·exact o0 5 []
  ·show O 313 _ _ _ (obN (!ltI (.ofNat far) (.ofNat i)))
   cases e : !ltI (.ofNat far) (.ofNat i)
   ·exact o1 5 [(15,.n [(8,.H)])] e
   ·exact o1 5 [(15,.n [(8,.G)])] e
 | .lam s a,b,d,hd=>by
  have hd:d+(1+a.cnt)≤mid:=hd
  have hm:=qQc
  have hb:=qQh
  exact o2 5 [(20,.z (d+1)),(31,.o [3,4] (chN (nrF b a)) (.pv ut))] (qQ9 (a:=d) (b:=1) (by omega)) (qGs a b (d+1) (by omega))
 | .n0 k,b,d,hd=>by cases k<;>exact o0 5 []
 | .n1 k a,b,d,hd=>by
  have hd:d+(1+a.cnt)≤mid:=hd
  have g:=qGs a b d (by omega)
  cases k<;>exact o1 5 [(31,.o [3,4] (chN (nrF b a)) (.pv ut))] g
 | .n2 k a c,b,d,hd=>by
  have hd:d+(1+a.cnt+c.cnt)≤mid:=hd
  have g:=qGs a b d (by omega)
  have g':=qGs c (nrF b a) d (by omega)
  cases k<;>exact o2 5 [(31,.o [3,4] (chN (nrF b a)) (.pv ut)),(31,.o [3,4] (chN (nrF (nrF b a) c)) (.pv ut))] g g'
 | .n3 k s a c e,b,d,hd=>by
  have hd:d+(1+a.cnt+c.cnt+e.cnt)≤mid:=hd
  have g:=qGs a b d (by omega)
  have g':=qGs c (nrF b a) d (by omega)
  have g'':=qGs e (nrF (nrF b a) c) d (by omega)
  cases k<;>exact o3 5 [(31,.o [3,4] (chN (nrF b a)) (.pv ut)),(31,.o [3,4] (chN (nrF (nrF b a) c)) (.pv ut)),(31,.o [3,4] (chN (nrF (nrF (nrF b a) c) e)) (.pv ut))] g g' g''
theorem a298 (t:Tm) (h:t.cnt≤mid):A 298 [t.p] (.bool (nrF true t)) :=
 f1 [(6,.n [(8,.o [3,4] (chN (nrF true t)) (.pv ut))])] (qGs t true 0 (by omega))
abbrev obC (a n:Nat):List (Nat × Ob):=obE 4 5 (.fn 327 [.loc 1 0,.loc 2 0]) [(1,bx [num a]),(2,bx [num n])]
abbrev chC (n:Nat):List (Nat × Ob):=[(2,bx [num n])]
theorem qGt (a:Nat) (ha:a≤mid):∀ (t:Tm) (n d:Nat),d+t.cnt≤mid→t.mx≤mid * mid→n+t.cnt≤big→O 313 [.pv t.p,.pv (num d),.loc 4 0,.loc 5 0] (obC a n) (.pv ut) (obC a (n+t.occ (a+d)))
 | .v i,n,d,hd,hm,hn=>by
  have hmm:=qQc
  have hi:i≤mid * mid:=hm
  have hd:d+1≤mid:=hd
  have hn:n+1≤big:=hn
  rw [hmm] at hi
  have hb:=qQh
  have g1:=zXq (i:=i) (d:=d) (by omega) (by omega)
  by_cases h:i=a+d
  ·have g2:eqI (Int.ofNat i - .ofNat d) (.ofNat a)=true:=qUn (by simp;omega)
   have e:(Tm.v i).occ (a+d)=1:=by simp only [Tm.occ,if_pos h]
   rw [e]
   exact o3 6 [(15,.n [(8,.y (Int.ofNat i - .ofNat d)),(10,.G),(12,.z (n+1))])] g1 g2 (qQ9 (a:=n) (b:=1) (by omega))
  ·have g2:eqI (Int.ofNat i - .ofNat d) (.ofNat a)=false:=zAh (by simp;omega)
   have e:(Tm.v i).occ (a+d)=0:=by simp only [Tm.occ,if_neg h]
   rw [e]
   exact o2 6 [(15,.n [(8,.y (Int.ofNat i - .ofNat d)),(10,.H)])] g1 g2
 | .lam s b,n,d,hd,hm,hn=>by
  have hd:d+(1+b.cnt)≤mid:=hd
  have hn:n+(1+b.cnt)≤big:=hn
  have hmm:=qQc
  have hb:=qQh
  exact o2 6 [(20,.z (d+1)),(31,.o [4,5,1] (chC (n+b.occ (a+(d+1)))) (.pv ut))] (qQ9 (a:=d) (b:=1) (by omega)) (qGt a ha b n (d+1) (by omega) hm (by omega))
 | .n0 k,n,d,_,_,_=>by cases k<;>exact o0 6 []
 | .n1 k b,n,d,hd,hm,hn=>by
  have hd:d+(1+b.cnt)≤mid:=hd
  have hn:n+(1+b.cnt)≤big:=hn
  have g:=qGt a ha b n d (by omega) hm (by omega)
  cases k<;>exact o1 6 [(31,.o [4,5,1] (chC (n+b.occ (a+d))) (.pv ut))] g
 | .n2 k b c,n,d,hd,hm,hn=>by
  have hd:d+(1+b.cnt+c.cnt)≤mid:=hd
  have hn:n+(1+b.cnt+c.cnt)≤big:=hn
  have hm:max b.mx c.mx≤mid * mid:=hm
  have:=qQz b (a+d)
  have g:=qGt a ha b n d (by omega) (by omega) (by omega)
  have g':=qGt a ha c (n+b.occ (a+d)) d (by omega) (by omega) (by omega)
  have e:n+(Tm.n2 k b c).occ (a+d)=n+b.occ (a+d)+c.occ (a+d):=(Nat.add_assoc _ _ _).symm
  rw [e]
  cases k<;>exact o2 6 [(31,.o [4,5,1] (chC (n+b.occ (a+d))) (.pv ut)),(31,.o [4,5,1] (chC (n+b.occ (a+d)+c.occ (a+d))) (.pv ut))] g g'
 | .n3 k s b c f,n,d,hd,hm,hn=>by
  have hd:d+(1+b.cnt+c.cnt+f.cnt)≤mid:=hd
  have hn:n+(1+b.cnt+c.cnt+f.cnt)≤big:=hn
  have hm:max b.mx (max c.mx f.mx)≤mid * mid:=hm
  have:=qQz b (a+d)
  have:=qQz c (a+d)
  have g:=qGt a ha b n d (by omega) (by omega) (by omega)
  have g':=qGt a ha c (n+b.occ (a+d)) d (by omega) (by omega) (by omega)
  have g'':=qGt a ha f (n+b.occ (a+d)+c.occ (a+d)) d (by omega) (by omega) (by omega)
  have e:n+(Tm.n3 k s b c f).occ (a+d)=n+b.occ (a+d)+c.occ (a+d)+f.occ (a+d):=by simp only [Tm.occ];omega
  rw [e]
  cases k<;>exact o3 6 [(31,.o [4,5,1] (chC (n+b.occ (a+d))) (.pv ut)),(31,.o [4,5,1] (chC (n+b.occ (a+d)+c.occ (a+d))) (.pv ut)),(31,.o [4,5,1] (chC (n+b.occ (a+d)+c.occ (a+d)+f.occ (a+d))) (.pv ut))] g g' g''
theorem zGs (t:Tm) (a:Nat) (ha:a≤mid) (h:t.cnt≤mid) (hm:t.mx≤mid * mid):A 302 [t.p,num a] (num (t.occ a)):=by
 have hmm:=qQc
 have hb:=qQh
 have g:=qGt a ha t 0 0 (by omega) hm (by omega)
 rw [Nat.zero_add] at g
 exact f1 [(8,.n [(8,.o [4,5,1] (chC (t.occ a)) (.pv ut))])] g
abbrev oLf (a z:Nat):List (Nat × Ob):=[(1,bx [num a]),(2,bx [num z])]
theorem qUp (a z:Nat) (ha:a≤mid) (hz:z≤2 * mid):∀ (f:Fm) (d:Nat),a+d+f.cnt≤mid→f.mx≤mid * mid→O 186 [.pv f.p,.pv (num d),.fn 292 [.loc 1 0,.loc 2 0]] (oLf a z) (.pv (f.sh (a+d) (.ofNat z)).p) (oLf a z)
 | .eq t u,d,hd,hm=>by
  have hmm:=qQc
  have hb:=qQh
  have hd:a+d+(1+t.cnt+u.cnt)≤mid:=hd
  have hm:max t.mx u.mx≤mid * mid:=hm
  have g:=qQ9 (a:=a) (b:=d) (by omega)
  have g1:=zEm t (a+d) z (by omega) hz (by omega) (by omega)
  have g2:=zEm u (a+d) z (by omega) hz (by omega) (by omega)
  exact o5 3 [(16,.r zt),(30,.n [(10,.z (a+d)),(12,.r (t.sh (a+d) (.ofNat z)).p)]),(30,.n [(10,.z (a+d)),(12,.r (u.sh (a+d) (.ofNat z)).p)])] qB9 g g1 g g2
 | .bin k f g,d,hd,hm=>by
  have hd:a+d+(1+f.cnt+g.cnt)≤mid:=hd
  have hm:max f.mx g.mx≤mid * mid:=hm
  have g1:=qUp a z ha hz f d (by omega) (by omega)
  have g2:=qUp a z ha hz g d (by omega) (by omega)
  cases k<;>exact o3 3 [(16,.r zt),(52,.o [1,2] [] (.pv (f.sh (a+d) (.ofNat z)).p)),(52,.o [1,2] [] (.pv (g.sh (a+d) (.ofNat z)).p))] qB9 g1 g2
 | .q k s f,d,hd,hm=>by
  have hmm:=qQc
  have hb:=qQh
  have hd:a+d+(1+f.cnt)≤mid:=hd
  have g:=qQ9 (a:=d) (b:=1) (by omega)
  have g1:=qUp a z ha hz f (d+1) (by omega) hm
  cases k<;>exact o3 3 [(16,.r s.p),(39,.z (d+1)),(52,.o [1,2] [] (.pv (f.sh (a+(d+1)) (.ofNat z)).p))] (a95 s) g g1
theorem qS1 (f:Fm) (a z:Nat) (hz:z≤2 * mid) (h1:a+f.cnt≤mid) (h2:f.mx≤mid * mid):A 249 [f.p,num a,num z] (f.sh a (.ofNat z)).p :=
 f1 [(9,.o [1,2] [] (.pv (f.sh a (.ofNat z)).p))] (qUp a z (by omega) hz f 0 (by omega) h2)
theorem qVi (S:Tm):∀ (t:Tm) (c d:Nat),t.put (c+1) S d=t.put c S (d+1)
 | .v i,c,d=>by simp only [Tm.put,show c+1+d=c+(d+1) by omega]
 | .lam s b,c,d=>by simp only [Tm.put,qVi S b]
 | .n0 k,c,d=>rfl
 | .n1 k a,c,d=>by simp only [Tm.put,qVi S a]
 | .n2 k a b,c,d=>by simp only [Tm.put,qVi S a,qVi S b]
 | .n3 k s a b e,c,d=>by simp only [Tm.put,qVi S a,qVi S b,qVi S e]
theorem qEw (S:Tm):∀ (f:Fm) (c d:Nat),f.put (c+1) S d=f.put c S (d+1)
 | .eq a b,c,d=>by simp only [Fm.put,qVi S a,qVi S b]
 | .bin k f g,c,d=>by simp only [Fm.put,qEw S f,qEw S g]
 | .q k s f,c,d=>by simp only [Fm.put,qEw S f]
abbrev oPf (a:Nat) (s:Sx):List (Nat × Ob):=[(1,bx [num a]),(2,bx s.c)]
theorem qUq (a:Nat) (s:Sx) (S:Tm) (ha:a≤mid):∀ (f:Fm) (d:Nat),(Lf s S∨f.occ (a+d)=0)→a+d+f.cnt≤mid→f.mx≤mid * mid→O 186 [.pv f.p,.pv (num d),.fn 316 [.loc 1 0,.loc 2 0]] (oPf a s) (.pv (f.put (a+d) S 0).p) (oPf a s)
 | .eq t u,d,hS,hd,hm=>by
  have hmm:=qQc
  have hb:=qQh
  have hd:a+d+(1+t.cnt+u.cnt)≤mid:=hd
  have hm:max t.mx u.mx≤mid * mid:=hm
  have hS:Lf s S∨t.occ (a+d)+u.occ (a+d)=0:=hS
  have g:=qQ9 (a:=a) (b:=d) (by omega)
  have g1:=zGr t (a+d) s S (hS.imp id (by omega)) (by omega) (by omega) (by omega)
  have g2:=zGr u (a+d) s S (hS.imp id (by omega)) (by omega) (by omega) (by omega)
  exact o5 3 [(16,.r zt),(30,.n [(10,.z (a+d)),(12,.r (t.put (a+d) S 0).p)]),(30,.n [(10,.z (a+d)),(12,.r (u.put (a+d) S 0).p)])] qB9 g g1 g g2
 | .bin k f g,d,hS,hd,hm=>by
  have hd:a+d+(1+f.cnt+g.cnt)≤mid:=hd
  have hm:max f.mx g.mx≤mid * mid:=hm
  have hS:Lf s S∨f.occ (a+d)+g.occ (a+d)=0:=hS
  have g1:=qUq a s S ha f d (hS.imp id (by omega)) (by omega) (by omega)
  have g2:=qUq a s S ha g d (hS.imp id (by omega)) (by omega) (by omega)
  cases k<;>exact o3 3 [(16,.r zt),(52,.o [1,2] [] (.pv (f.put (a+d) S 0).p)),(52,.o [1,2] [] (.pv (g.put (a+d) S 0).p))] qB9 g1 g2
 | .q k u f,d,hS,hd,hm=>by
  have hmm:=qQc
  have hb:=qQh
  have hd:a+d+(1+f.cnt)≤mid:=hd
  have g:=qQ9 (a:=d) (b:=1) (by omega)
  have g1:=qUq a s S ha f (d+1) hS (by omega) hm
  have e:f.put (a+(d+1)) S 0=f.put (a+d) S (0+1):=qEw S f (a+d) 0
  rw [e] at g1
  cases k<;>exact o3 3 [(16,.r u.p),(39,.z (d+1)),(52,.o [1,2] [] (.pv (f.put (a+d) S (0+1)).p))] (a95 u) g g1
theorem zAi (f:Fm) (a:Nat) (s:Sx) (S:Tm) (hS:Lf s S∨f.occ a=0) (h1:a+f.cnt≤mid) (h2:f.mx≤mid * mid):A 288 [f.p,num a,.agg s.c] (f.put a S 0).p :=
 f1 [(9,.o [1,2] [] (.pv (f.put a S 0).p))] (qUq a s S (by omega) f 0 hS (by omega) h2)
theorem qUr:∀ (f:Fm) (d:Nat),d+f.cnt≤mid→O 186 [.pv f.p,.pv (num d),.fn 187 []] [] (.pv f.p) []
 | .eq t u,d,hd=>o3 0 [(16,.r zt),(30,.n [(6,.r t.p)]),(30,.n [(6,.r u.p)])] qB9 (qUo t) (qUo u)
 | .bin k f g,d,hd=>by
  have hd:d+(1+f.cnt+g.cnt)≤mid:=hd
  have g1:=qUr f d (by omega)
  have g2:=qUr g d (by omega)
  cases k<;>exact o3 0 [(16,.r zt),(52,.o [] [] (.pv f.p)),(52,.o [] [] (.pv g.p))] qB9 g1 g2
 | .q k s f,d,hd=>by
  have hmm:=qQc
  have hb:=qQh
  have hd:d+(1+f.cnt)≤mid:=hd
  have g:=qQ9 (a:=d) (b:=1) (by omega)
  have g1:=qUr f (d+1) (by omega)
  cases k<;>exact o3 0 [(16,.r s.p),(39,.z (d+1)),(52,.o [] [] (.pv f.p))] (a95 s) g g1
theorem zIh (f:Fm) (h:f.cnt≤mid):A 115 [f.p] f.p:=f1 [(4,.o [] [] (.pv f.p))] (qUr f 0 (by omega))
def nr2 (b:Bool) (t:Tm):Bool:=match b with
 | true=>nrF true t
 | false=>false
def qLy:Bool→Fm→Bool
 | b,.eq t u=>nr2 (nr2 b t) u
 | b,.bin _ f g=>qLy (qLy b f) g
 | b,.q _ _ f=>qLy b f
theorem qEx:∀ (f:Fm),f.mx≤far→qLy true f=true
 | .eq t u,h=>by
  have h:max t.mx u.mx≤far:=h
  simp only [qLy,nr2,qWt t (by omega),qWt u (by omega)]
 | .bin _ f g,h=>by
  have h:max f.mx g.mx≤far:=h
  simp only [qLy,qEx f (by omega),qEx g (by omega)]
 | .q _ _ f,h=>qEx f h
theorem zGt (t:Tm) (b:Bool) (d:Nat) (h:t.cnt≤mid):O 324 [.pv t.p,.pv (num d),.loc 1 0] (chN b) (.pv ut) (chN (nr2 b t)):=by
 cases b
 ·exact o0 2 []
 ·exact o1 2 [(8,.r (.bool (nrF true t)))] (a298 t h)
theorem qUs:∀ (f:Fm) (b:Bool) (d:Nat),d+f.cnt≤mid→O 314 [.pv f.p,.pv (num d),.fn 324 [.loc 1 0]] (chN b) (.pv ut) (chN (qLy b f))
 | .eq t u,b,d,hd=>by
  have hd:d+(1+t.cnt+u.cnt)≤mid:=hd
  exact o2 2 [(20,.o [] (chN (nr2 b t)) (.pv ut)),(20,.o [] (chN (nr2 (nr2 b t) u)) (.pv ut))] (zGt t b d (by omega)) (zGt u (nr2 b t) d (by omega))
 | .bin k f g,b,d,hd=>by
  have hd:d+(1+f.cnt+g.cnt)≤mid:=hd
  have g1:=qUs f b d (by omega)
  have g2:=qUs g (qLy b f) d (by omega)
  cases k<;>exact o2 2 [(37,.o [] (chN (qLy b f)) (.pv ut)),(37,.o [] (chN (qLy (qLy b f) g)) (.pv ut))] g1 g2
 | .q k s f,b,d,hd=>by
  have hmm:=qQc
  have hb:=qQh
  have hd:d+(1+f.cnt)≤mid:=hd
  have g:=qQ9 (a:=d) (b:=1) (by omega)
  have g1:=qUs f b (d+1) (by omega)
  cases k<;>exact o2 2 [(26,.z (d+1)),(37,.o [] (chN (qLy b f)) (.pv ut))] g g1
theorem a295 (f:Fm) (h:f.cnt≤mid):A 295 [f.p] (.bool (qLy true f)) :=
 f1 [(6,.o [] (chN (qLy true f)) (.pv ut))] (qUs f true 0 (by omega))
theorem zGu (t:Tm) (a n d:Nat) (ha:a+d≤mid) (h:t.cnt≤mid) (hm:t.mx≤mid * mid) (hn:n+t.cnt≤big):O 315 [.pv t.p,.pv (num d),.loc 2 0,.loc 1 0] [(1,bx [num a]),(2,bx [num n])] (.pv ut) [(1,bx [num a]),(2,bx [num (n+t.occ (a+d))])]:=by
 have hmm:=qQc
 have hb:=qQh
 have:=qQz t (a+d)
 have g:=qQ9 (a:=a) (b:=d) (by omega)
 have g':=qQ9 (a:=n) (b:=t.occ (a+d)) (by omega)
 exact o3 3 [(10,.z (a+d)),(11,.N (t.occ (a+d))),(12,.z (n+t.occ (a+d)))] g (zGs t (a+d) ha h hm) g'
theorem qUt (a:Nat):∀ (f:Fm) (n d:Nat),a+d+f.cnt≤mid→f.mx≤mid * mid→n+f.cnt≤big→O 314 [.pv f.p,.pv (num d),.fn 315 [.loc 2 0,.loc 1 0]] [(1,bx [num a]),(2,bx [num n])] (.pv ut) [(1,bx [num a]),(2,bx [num (n+f.occ (a+d))])]
 | .eq t u,n,d,hd,hm,hn=>by
  have hd:a+d+(1+t.cnt+u.cnt)≤mid:=hd
  have hm:max t.mx u.mx≤mid * mid:=hm
  have hn:n+(1+t.cnt+u.cnt)≤big:=hn
  have:=qQz t (a+d)
  have g1:=zGu t a n d (by omega) (by omega) (by omega) (by omega)
  have g2:=zGu u a (n+t.occ (a+d)) d (by omega) (by omega) (by omega) (by omega)
  have e:n+(Fm.eq t u).occ (a+d)=n+t.occ (a+d)+u.occ (a+d):=(Nat.add_assoc _ _ _).symm
  rw [e]
  exact o2 3 [(20,.o [1] (chC (n+t.occ (a+d))) (.pv ut)),(20,.o [1] (chC (n+t.occ (a+d)+u.occ (a+d))) (.pv ut))] g1 g2
 | .bin k f g,n,d,hd,hm,hn=>by
  have hd:a+d+(1+f.cnt+g.cnt)≤mid:=hd
  have hm:max f.mx g.mx≤mid * mid:=hm
  have hn:n+(1+f.cnt+g.cnt)≤big:=hn
  have:=qVh f (a+d)
  have g1:=qUt a f n d (by omega) (by omega) (by omega)
  have g2:=qUt a g (n+f.occ (a+d)) d (by omega) (by omega) (by omega)
  have e:n+(Fm.bin k f g).occ (a+d)=n+f.occ (a+d)+g.occ (a+d):=(Nat.add_assoc _ _ _).symm
  rw [e]
  cases k<;>exact o2 3 [(37,.o [1] (chC (n+f.occ (a+d))) (.pv ut)),(37,.o [1] (chC (n+f.occ (a+d)+g.occ (a+d))) (.pv ut))] g1 g2
 | .q k s f,n,d,hd,hm,hn=>by
  have hmm:=qQc
  have hb:=qQh
  have hd:a+d+(1+f.cnt)≤mid:=hd
  have hn:n+(1+f.cnt)≤big:=hn
  have g:=qQ9 (a:=d) (b:=1) (by omega)
  have g1:=qUt a f n (d+1) (by omega) hm (by omega)
  cases k<;>exact o2 3 [(26,.z (d+1)),(37,.o [1] (chC (n+f.occ (a+(d+1)))) (.pv ut))] g g1
theorem zAj (f:Fm) (a:Nat) (h:a+f.cnt≤mid) (hm:f.mx≤mid * mid):A 287 [f.p,num a] (num (f.occ a)):=by
 have hmm:=qQc
 have hb:=qQh
 have g:=qUt a f 0 0 (by omega) hm (by omega)
 rw [Nat.zero_add] at g
 exact f1 [(8,.o [1] (chC (f.occ a)) (.pv ut))] g
open Go.Lg
set_option maxRecDepth 100000
def Tm.fr:Tm→Nat
 | .v i=>i+1
 | .lam _ b=>b.fr-1
 | .n0 _=>0
 | .n1 _ a=>a.fr
 | .n2 _ a b=>max a.fr b.fr
 | .n3 _ _ a b c=>max (max a.fr b.fr) c.fr
def Tm.nf:Tm→Bool
 | .v _=>true
 | .lam _ b=>b.nf
 | .n0 _=>true
 | .n1 k a=>(Tm.n1 k a).red.isNone && a.nf
 | .n2 k a b=>(Tm.n2 k a b).red.isNone && (a.nf && b.nf)
 | .n3 k s a b c=>(Tm.n3 k s a b c).red.isNone && (a.nf && (b.nf && c.nf))
def Tm.nas:Tm→List (List PV)
 | .lam _ b=>[[.nptr [num b.kd,num b.ix,num b.tk,.slice b.te,.slice b.nas,num b.cnt,num b.fr,.flg b.nf]]]
 | .n1 _ a=>[[.nptr [num a.kd,num a.ix,num a.tk,.slice a.te,.slice a.nas,num a.cnt,num a.fr,.flg a.nf]]]
 | .n2 _ a b=>[[.nptr [num a.kd,num a.ix,num a.tk,.slice a.te,.slice a.nas,num a.cnt,num a.fr,.flg a.nf]],[.nptr [num b.kd,num b.ix,num b.tk,.slice b.te,.slice b.nas,num b.cnt,num b.fr,.flg b.nf]]]
 | .n3 _ _ a b c=>[[.nptr [num a.kd,num a.ix,num a.tk,.slice a.te,.slice a.nas,num a.cnt,num a.fr,.flg a.nf]],[.nptr [num b.kd,num b.ix,num b.tk,.slice b.te,.slice b.nas,num b.cnt,num b.fr,.flg b.nf]],[.nptr [num c.kd,num c.ix,num c.tk,.slice c.te,.slice c.nas,num c.cnt,num c.fr,.flg c.nf]]]
 | _=>[]
abbrev Tm.nd' (t:Tm):PV:=.nptr [num t.kd,num t.ix,num t.tk,.slice t.te,.slice t.nas,num t.cnt,num t.fr,.flg t.nf]
theorem qXo:∀ (t:Tm) (n:Nat),t.sc n↔t.fr≤n
 | .v i,n=>by simp only [Tm.sc,Tm.fr];omega
 | .lam s b,n=>by have:=qXo b (n+1);simp only [Tm.sc,Tm.fr,this];omega
 | .n0 k,n=>by simp [Tm.sc,Tm.fr]
 | .n1 k a,n=>by simpa only [Tm.sc,Tm.fr] using qXo a n
 | .n2 k a b,n=>by simp only [Tm.sc,Tm.fr,qXo a n,qXo b n];omega
 | .n3 k s a b d,n=>by simp only [Tm.sc,Tm.fr,qXo a n,qXo b n,qXo d n];omega
theorem qGu (z:Int):∀ (t:Tm) (c:Nat),t.fr≤c→t.sh c z=t
 | .v i,c,h=>by simp only [Tm.fr] at h;simp only [Tm.sh,if_neg (show ¬ c≤i by omega)]
 | .lam s b,c,h=>by simp only [Tm.fr] at h;simp only [Tm.sh,qGu z b (c+1) (by omega)]
 | .n0 k,c,h=>rfl
 | .n1 k a,c,h=>by simp only [Tm.fr] at h;simp only [Tm.sh,qGu z a c h]
 | .n2 k a b,c,h=>by simp only [Tm.fr] at h;simp only [Tm.sh,qGu z a c (by omega),qGu z b c (by omega)]
 | .n3 k s a b d,c,h=>by simp only [Tm.fr] at h;simp only [Tm.sh,qGu z a c (by omega),qGu z b c (by omega),qGu z d c (by omega)]
theorem qS2:∀ (t:Tm) (c:Nat),t.sh c (.ofNat 0)=t
 | .v i,c=>by simp only [Tm.sh];split<;>simp
 | .lam s b,c=>by simp only [Tm.sh,qS2 b]
 | .n0 k,c=>rfl
 | .n1 k a,c=>by simp only [Tm.sh,qS2 a]
 | .n2 k a b,c=>by simp only [Tm.sh,qS2 a,qS2 b]
 | .n3 k s a b d,c=>by simp only [Tm.sh,qS2 a,qS2 b,qS2 d]
theorem qYk (c:Nat) (S:Tm):∀ (t:Tm) (d:Nat),t.fr≤c+d→t.put c S d=t
 | .v i,d,h=>by simp only [Tm.fr] at h;simp only [Tm.put,if_neg (show ¬ i=c+d by omega),if_neg (show ¬ c+d<i by omega)]
 | .lam s b,d,h=>by simp only [Tm.fr] at h;simp only [Tm.put,qYk c S b (d+1) (by omega)]
 | .n0 k,d,h=>rfl
 | .n1 k a,d,h=>by simp only [Tm.fr] at h;simp only [Tm.put,qYk c S a d h]
 | .n2 k a b,d,h=>by simp only [Tm.fr] at h;simp only [Tm.put,qYk c S a d (by omega),qYk c S b d (by omega)]
 | .n3 k s a b e,d,h=>by simp only [Tm.fr] at h;simp only [Tm.put,qYk c S a d (by omega),qYk c S b d (by omega),qYk c S e d (by omega)]
theorem qWu:∀ (t:Tm) (c:Nat),t.fr≤c→t.occ c=0
 | .v i,c,h=>by simp only [Tm.fr] at h;simp only [Tm.occ,if_neg (show ¬ i=c by omega)]
 | .lam s b,c,h=>by simp only [Tm.fr] at h;simp only [Tm.occ,qWu b (c+1) (by omega)]
 | .n0 k,c,h=>rfl
 | .n1 k a,c,h=>by simp only [Tm.fr] at h;simp only [Tm.occ,qWu a c h]
 | .n2 k a b,c,h=>by simp only [Tm.fr] at h;simp only [Tm.occ,qWu a c (by omega),qWu b c (by omega)]
 | .n3 k s a b d,c,h=>by simp only [Tm.fr] at h;simp only [Tm.occ,qWu a c (by omega),qWu b c (by omega),qWu d c (by omega)]
theorem qBw:∀ t:Tm,t.fr≤t.mx+1
 | .v i=>by simp [Tm.fr,Tm.mx]
 | .lam s b=>by have:=qBw b;simp only [Tm.fr,Tm.mx];omega
 | .n0 k=>by simp [Tm.fr]
 | .n1 k a=>qBw a
 | .n2 k a b=>by have:=qBw a;have:=qBw b;simp only [Tm.fr,Tm.mx];omega
 | .n3 k s a b d=>by have:=qBw a;have:=qBw b;have:=qBw d;simp only [Tm.fr,Tm.mx];omega
theorem qBx:∀ (t:Tm) (n:Nat),t.sc n→t.mx≤n+t.cnt
 | .v i,n,h=>by simp only [Tm.sc] at h;simp only [Tm.mx];omega
 | .lam s b,n,h=>by have:=qBx b (n+1) h;simp only [Tm.mx,Tm.cnt];omega
 | .n0 k,n,h=>by simp [Tm.mx]
 | .n1 k a,n,h=>by have:=qBx a n h;simp only [Tm.mx,Tm.cnt];omega
 | .n2 k a b,n,h=>by have:=qBx a n h.1;have:=qBx b n h.2;simp only [Tm.mx,Tm.cnt];omega
 | .n3 k s a b d,n,h=>by have:=qBx a n h.1;have:=qBx b n h.2.1;have:=qBx d n h.2.2;simp only [Tm.mx,Tm.cnt];omega
theorem qUu:∀ (t:Tm) {n m:Nat},n≤m→t.sc n→t.sc m:=fun t n m h h'=>(qXo t m).2 (Nat.le_trans ((qXo t n).1 h') h)
theorem qY3 (z:Nat):∀ (t:Tm) (c n:Nat),t.sc n→(t.sh c (.ofNat z)).sc (n+z)
 | .v i,c,n,h=>by
  have h:i<n:=h
  simp only [Tm.sh]
  split
  ·show ((Int.ofNat i + .ofNat z).toNat)<n+z
   have:(Int.ofNat i + .ofNat z).toNat=i+z:=rfl
   omega
  ·show i<n+z
   omega
 | .lam s b,c,n,h=>by
  have:=qY3 z b (c+1) (n+1) h
  rw [show n+1+z=n+z+1 by omega] at this
  exact this
 | .n0 k,c,n,h=>trivial
 | .n1 k a,c,n,h=>qY3 z a c n h
 | .n2 k a b,c,n,h=>⟨qY3 z a c n h.1,qY3 z b c n h.2⟩
 | .n3 k s a b d,c,n,h=>⟨qY3 z a c n h.1,qY3 z b c n h.2.1,qY3 z d c n h.2.2⟩
theorem qKn (S:Tm) (n:Nat):∀ (t:Tm) (d:Nat),t.sc (n+d+1)→(S.sc n∨t.occ d=0)→(t.put 0 S d).sc (n+d)
 | .v i,d,h,hS=>by
  have h:i<n+d+1:=h
  simp only [Tm.put,Nat.zero_add]
  split
  ·rename_i e
   rcases hS with hS|hS
   ·exact qY3 d S 0 n hS
   ·simp [Tm.occ,e] at hS
  ·split
   ·show i-1<n+d
    omega
   ·show i<n+d
    omega
 | .lam s b,d,h,hS=>by
  have h:b.sc (n+d+1+1):=h
  have:=qKn S n b (d+1) (by rw [show n+(d+1)+1=n+d+1+1 by omega];exact h) hS
  exact this
 | .n0 k,d,h,hS=>trivial
 | .n1 k a,d,h,hS=>qKn S n a d h hS
 | .n2 k a b,d,h,hS=>by
  simp only [Tm.occ] at hS
  exact⟨qKn S n a d h.1 (hS.imp id (by omega)),qKn S n b d h.2 (hS.imp id (by omega))⟩
 | .n3 k s a b e,d,h,hS=>by
  simp only [Tm.occ] at hS
  exact⟨qKn S n a d h.1 (hS.imp id (by omega)),qKn S n b d h.2.1 (hS.imp id (by omega)),qKn S n e d h.2.2 (hS.imp id (by omega))⟩
theorem qEy (z w:Nat):∀ (t:Tm) (c:Nat),(t.sh c (.ofNat z)).sh c (.ofNat w)=t.sh c (.ofNat (z+w))
 | .v i,c=>by
  simp only [Tm.sh]
  split
  ·have e:(Int.ofNat i + .ofNat z).toNat=i+z:=rfl
   simp only [Tm.sh,e,if_pos (show c≤i+z by omega)]
   have e1:(Int.ofNat (i+z) + .ofNat w).toNat=i+z+w:=rfl
   have e2:(Int.ofNat i + .ofNat (z+w)).toNat=i+(z+w):=rfl
   rw [e1,e2,Nat.add_assoc]
  ·rename_i h
   simp only [Tm.sh,if_neg h]
 | .lam s b,c=>by simp only [Tm.sh,qEy z w b]
 | .n0 k,c=>rfl
 | .n1 k a,c=>by simp only [Tm.sh,qEy z w a]
 | .n2 k a b,c=>by simp only [Tm.sh,qEy z w a,qEy z w b]
 | .n3 k s a b d,c=>by simp only [Tm.sh,qEy z w a,qEy z w b,qEy z w d]
theorem qWv (z:Int):∀ (t:Tm) (c:Nat),(t.sh c z).shp=t.shp
 | .v i,c=>by simp only [Tm.sh];split<;>rfl
 | .lam s b,c=>by simp only [Tm.sh,Tm.shp,qWv z b]
 | .n0 k,c=>rfl
 | .n1 k a,c=>by simp only [Tm.sh,Tm.shp,qWv z a]
 | .n2 k a b,c=>by simp only [Tm.sh,Tm.shp,qWv z a,qWv z b]
 | .n3 k s a b d,c=>by simp only [Tm.sh,Tm.shp,qWv z a,qWv z b,qWv z d]
theorem qVj (c:Nat) (S:Tm):∀ (t:Tm) (d:Nat),(S.shp=true∨t.occ (c+d)=0)→t.shp=true→(t.put c S d).shp=true
 | .v i,d,hS,h=>by
  simp only [Tm.put]
  split
  ·rename_i e
   rcases hS with hS|hS
   ·rw [qWv];exact hS
   ·simp [Tm.occ,e] at hS
  ·split<;>rfl
 | .lam s b,d,hS,h=>by
  obtain⟨h1,h2⟩:=qQ3 h
  show (_ && _)=true
  rw [h1,qVj c S b (d+1) hS h2];rfl
 | .n0 k,d,hS,h=>rfl
 | .n1 k a,d,hS,h=>qVj c S a d hS h
 | .n2 k a b,d,hS,h=>by
  obtain⟨h1,h2⟩:=qQ3 h
  simp only [Tm.occ] at hS
  show (_ && _)=true
  rw [qVj c S a d (hS.imp id (by omega)) h1,qVj c S b d (hS.imp id (by omega)) h2];rfl
 | .n3 k s a b e,d,hS,h=>by
  obtain⟨h1,h2⟩:=qQ3 h
  obtain⟨h2,h3⟩:=qQ3 h2
  obtain⟨h3,h4⟩:=qQ3 h3
  simp only [Tm.occ] at hS
  show (_ && (_ && (_ && _)))=true
  rw [h1,qVj c S a d (hS.imp id (by omega)) h2,qVj c S b d (hS.imp id (by omega)) h3,qVj c S e d (hS.imp id (by omega)) h4];rfl
theorem zAk (n:Nat):∀ {t r:Tm},t.red=some r→t.sc n→t.shp=true→r.sc n∧r.shp=true:=by
 refine @qJ3 (fun t r=>t.sc n→t.shp=true→r.sc n∧r.shp=true) ?_ ?_ ?_ ?_ ?_ ?_ ?_
 ·intro a b h hs
  exact⟨h.1,(qQ3 hs).1⟩
 ·intro a b h hs
  exact⟨h.2,(qQ3 hs).2⟩
 ·intro s b a h hs
  obtain⟨h1,h2⟩:=qQ3 hs
  obtain⟨_,h3⟩:=qQ3 h1
  exact⟨qKn a n b 0 h.1 (.inl h.2),qVj 0 a b 0 (.inl h2) h3⟩
 ·intro s b f h hs
  obtain⟨_,h2⟩:=qQ3 hs
  exact⟨h.1,(qQ3 h2).1⟩
 ·intro s b f m h hs
  obtain⟨h1,h2⟩:=qQ3 hs
  obtain⟨h2,h3⟩:=qQ3 h2
  obtain⟨h3,h4⟩:=qQ3 h3
  have h4:m.shp=true:=h4
  refine⟨⟨⟨h.2.1,h.2.2⟩,h.1,h.2.1,h.2.2⟩,?_⟩
  show ((_ && _) && (_ && (_ && (_ && _))))=true
  rw [h1,h2,h3,h4];rfl
 ·intro s b f h hs
  obtain⟨_,h2⟩:=qQ3 hs
  exact⟨h.1,(qQ3 h2).1⟩
 ·intro s b f x l h hs
  obtain⟨h1,h2⟩:=qQ3 hs
  obtain⟨h2,h3⟩:=qQ3 h2
  obtain⟨h3,h4⟩:=qQ3 h3
  obtain⟨h4,h5⟩:=qQ3 h4
  have h':=h.2.2
  refine⟨⟨⟨⟨h.2.1,h'.1⟩,h'.2⟩,h.1,h.2.1,h'.2⟩,?_⟩
  show (((_ && _) && _) && (_ && (_ && (_ && _))))=true
  rw [h1,h2,h3,h4,h5];rfl
open Go.Lg
set_option maxRecDepth 100000
theorem qDh:∀ (f:Fm) (n:Nat),f.sc n→f.mx≤n+f.cnt
 | .eq a b,n,h=>by have:=qBx a n h.1;have:=qBx b n h.2;simp only [Fm.mx,Fm.cnt];omega
 | .bin k a b,n,h=>by have:=qDh a n h.1;have:=qDh b n h.2;simp only [Fm.mx,Fm.cnt];omega
 | .q k s a,n,h=>by have:=qDh a (n+1) h;simp only [Fm.mx,Fm.cnt];omega
theorem qLz:∀ (f:Fm) {n m:Nat},n≤m→f.sc n→f.sc m
 | .eq a b,n,m,h,h'=>⟨qUu a h h'.1,qUu b h h'.2⟩
 | .bin k a b,n,m,h,h'=>⟨qLz a h h'.1,qLz b h h'.2⟩
 | .q k s a,n,m,h,h'=>qLz a (Nat.succ_le_succ h) h'
theorem qL0 (z:Nat):∀ (f:Fm) (c n:Nat),f.sc n→(f.sh c (.ofNat z)).sc (n+z)
 | .eq a b,c,n,h=>⟨qY3 z a c n h.1,qY3 z b c n h.2⟩
 | .bin k a b,c,n,h=>⟨qL0 z a c n h.1,qL0 z b c n h.2⟩
 | .q k s a,c,n,h=>by
  have:=qL0 z a (c+1) (n+1) h
  rw [show n+1+z=n+z+1 by omega] at this
  exact this
theorem qX5 (S:Tm) (n:Nat):∀ (f:Fm) (d:Nat),f.sc (n+d+1)→(S.sc n∨f.occ d=0)→(f.put 0 S d).sc (n+d)
 | .eq a b,d,h,hS=>by
  simp only [Fm.occ] at hS
  exact⟨qKn S n a d h.1 (hS.imp id (by omega)),qKn S n b d h.2 (hS.imp id (by omega))⟩
 | .bin k a b,d,h,hS=>by
  simp only [Fm.occ] at hS
  exact⟨qX5 S n a d h.1 (hS.imp id (by omega)),qX5 S n b d h.2 (hS.imp id (by omega))⟩
 | .q k s a,d,h,hS=>by
  have h:a.sc (n+d+1+1):=h
  exact qX5 S n a (d+1) (by rw [show n+(d+1)+1=n+d+1+1 by omega];exact h) hS
theorem qL1 (z w:Nat):∀ (f:Fm) (c:Nat),(f.sh c (.ofNat z)).sh c (.ofNat w)=f.sh c (.ofNat (z+w))
 | .eq a b,c=>by simp only [Fm.sh,qEy z w a,qEy z w b]
 | .bin k a b,c=>by simp only [Fm.sh,qL1 z w a,qL1 z w b]
 | .q k s a,c=>by simp only [Fm.sh,qL1 z w a]
theorem qNo:∀ (f:Fm) (c:Nat),f.sh c (.ofNat 0)=f
 | .eq a b,c=>by simp only [Fm.sh,qS2]
 | .bin k a b,c=>by simp only [Fm.sh,qNo a,qNo b]
 | .q k s a,c=>by simp only [Fm.sh,qNo a]
theorem qEz (z:Int):∀ (f:Fm) (c:Nat),(f.sh c z).shp=f.shp
 | .eq a b,c=>by simp only [Fm.sh,Fm.shp,qWv]
 | .bin k a b,c=>by simp only [Fm.sh,Fm.shp,qEz z a,qEz z b]
 | .q k s a,c=>by simp only [Fm.sh,Fm.shp,qEz z a]
theorem qKe (c:Nat) (S:Tm):∀ (f:Fm) (d:Nat),(S.shp=true∨f.occ (c+d)=0)→f.shp=true→(f.put c S d).shp=true
 | .eq a b,d,hS,h=>by
  obtain⟨h1,h2⟩:=qQ3 h
  simp only [Fm.occ] at hS
  show (_ && _)=true
  rw [qVj c S a d (hS.imp id (by omega)) h1,qVj c S b d (hS.imp id (by omega)) h2];rfl
 | .bin k a b,d,hS,h=>by
  obtain⟨h1,h2⟩:=qQ3 h
  simp only [Fm.occ] at hS
  show (_ && _)=true
  rw [qKe c S a d (hS.imp id (by omega)) h1,qKe c S b d (hS.imp id (by omega)) h2];rfl
 | .q k s a,d,hS,h=>by
  obtain⟨h1,h2⟩:=qQ3 h
  show (_ && _)=true
  rw [h1,qKe c S a (d+1) hS h2];rfl
structure FK (n:Nat) (f:Fm):Prop where
 cnt:f.cnt≤4096
 shp:f.shp=true
 sc:f.sc n
theorem qZ2:∀ t:Tm,t.shp=true→t.tsz≤64
 | .v i,h=>Nat.zero_le _
 | .lam s b,h=>by
  obtain⟨h1,h2⟩:=qQ3 h
  have:=qNm h1
  have:=qZ2 b h2
  simp only [Tm.tsz];omega
 | .n0 k,h=>Nat.zero_le _
 | .n1 k a,h=>qZ2 a h
 | .n2 k a b,h=>by
  obtain⟨h1,h2⟩:=qQ3 h
  have:=qZ2 a h1
  have:=qZ2 b h2
  simp only [Tm.tsz];omega
 | .n3 k s a b d,h=>by
  obtain⟨h1,h2⟩:=qQ3 h
  obtain⟨h2,h3⟩:=qQ3 h2
  obtain⟨h3,h4⟩:=qQ3 h3
  have:=qNm h1
  have:=qZ2 a h2
  have:=qZ2 b h3
  have:=qZ2 d h4
  simp only [Tm.tsz];omega
theorem qJi:∀ f:Fm,f.shp=true→f.tsz≤64
 | .eq a b,h=>by
  obtain⟨h1,h2⟩:=qQ3 h
  have:=qZ2 a h1
  have:=qZ2 b h2
  simp only [Fm.tsz];omega
 | .bin k a b,h=>by
  obtain⟨h1,h2⟩:=qQ3 h
  have:=qJi a h1
  have:=qJi b h2
  simp only [Fm.tsz];omega
 | .q k s a,h=>by
  obtain⟨h1,h2⟩:=qQ3 h
  have:=qNm h1
  have:=qJi a h2
  simp only [Fm.tsz];omega
theorem zCv (a b:Nat):true=true∧(bif ltI (.ofNat a) (.ofNat b) then Int.ofNat b else .ofNat a) = .ofNat (max a b):=by
 refine⟨rfl,?_⟩
 by_cases h:a<b
 ·rw [qQy h];show Int.ofNat b=_;rw [Nat.max_eq_right (by omega)]
 ·rw [qZv (by omega)];show Int.ofNat a=_;rw [Nat.max_eq_left (by omega)]
theorem zAl (b:Nat):true=true∧(bif ltI (.ofNat 0) (.ofNat b) then Int.ofNat b else .ofNat 0) = .ofNat b:=by
 have:=zCv 0 b
 rwa [Nat.zero_max] at this
theorem zIi (b:Nat):true=true∧(bif ltI 0 (.ofNat b-1) then Int.ofNat b-1 else 0) = .ofNat (b-1):=by
 refine⟨rfl,?_⟩
 cases b with
 | zero=>rfl
 | succ n =>
  have e:(Int.ofNat (n+1)-1) = .ofNat n:=by simp
  rw [e]
  exact (zAl n).2
theorem zEn (b:Nat) (h:b≤big):inB (Int.ofNat b-1)=true∧Int.ofNat b-1=Int.ofNat b-1:=by
 have hb:=qQh
 exact⟨zXl (by simp;omega) (by simp;omega),rfl⟩
theorem qUv (n:Nat) (h:1+n≤big):inB (1+Int.ofNat n)=true∧1+Int.ofNat n=Int.ofNat (1+n):=qQ9 (a:=1) (b:=n) h
theorem qRe (i:Nat) (h:i+1≤big):A 338 [num 1,num i,zt,.slice []] (Tm.v i).nd' :=
 f1 [(53,.z (i+1)),(300013,.fb 1 (some true))] (qQ9 (a:=i) (b:=1) h)
theorem zAm (k:K0):A 338 [num k.n,num 0,zt,.slice []] (Tm.n0 k).nd':=by
 cases k<;>exact f0 [(300013,.fb 1 (some true))]
theorem zJf (s:Ty) (b:Tm) (h:1+b.cnt≤big) (h':b.fr≤big):A 338 [num 2,num 0,s.p,.slice [[b.nd']]] (Tm.lam s b).nd' :=
 f4 [(32,.z (1+b.cnt)),(44,.z b.fr),(63,.y (Int.ofNat b.fr-1)),(64,.z (b.fr-1)),(300013,.fb 1 (some b.nf))] (qUv b.cnt h) (zAl b.fr) (zEn b.fr h') (zIi b.fr)
theorem zJg (k:K1) (a:Tm) (h:1+a.cnt≤big):A 338 [num k.n,num 0,zt,.slice [[a.nd']]] (Tm.n1 k a).nd':=by
 have g1:=qUv a.cnt h
 have g2:=zAl a.fr
 cases k with
 | succ=>exact f2 [(32,.z (1+a.cnt)),(44,.z a.fr),(300013,.fb 1 (some (Tm.n1 .succ a).nf))] g1 g2
 | fst=>exact f2 [(32,.z (1+a.cnt)),(44,.z a.fr),(300013,.fb 1 (some (Tm.n1 .fst a).nf))] g1 g2
 | snd=>exact f2 [(32,.z (1+a.cnt)),(44,.z a.fr),(300013,.fb 1 (some (Tm.n1 .snd a).nf))] g1 g2
theorem qGv (k:K2) (a b:Tm) (h:1+a.cnt+b.cnt≤big):A 338 [num k.n,num 0,zt,.slice [[a.nd'],[b.nd']]] (Tm.n2 k a b).nd':=by
 have g1:=qUv a.cnt (by omega)
 have g2:=zAl a.fr
 have g3:=qQ9 (a:=1+a.cnt) (b:=b.cnt) h
 have g4:=zCv a.fr b.fr
 cases k with
 | app=>exact f4 [(32,.z (1+a.cnt)),(44,.z a.fr),(32,.z (1+a.cnt+b.cnt)),(44,.z (max a.fr b.fr)),(300013,.fb 1 (some (Tm.n2 .app a b).nf))] g1 g2 g3 g4
 | cons=>exact f4 [(32,.z (1+a.cnt)),(44,.z a.fr),(32,.z (1+a.cnt+b.cnt)),(44,.z (max a.fr b.fr)),(300013,.fb 1 (some (Tm.n2 .cons a b).nf))] g1 g2 g3 g4
 | pair=>exact f4 [(32,.z (1+a.cnt)),(44,.z a.fr),(32,.z (1+a.cnt+b.cnt)),(44,.z (max a.fr b.fr)),(300013,.fb 1 (some (Tm.n2 .pair a b).nf))] g1 g2 g3 g4
theorem zJh (k:K3) (s:Ty) (a b c:Tm) (h:1+a.cnt+b.cnt+c.cnt≤big):A 338 [num k.n,num 0,s.p,.slice [[a.nd'],[b.nd'],[c.nd']]] (Tm.n3 k s a b c).nd':=by
 have g1:=qUv a.cnt (by omega)
 have g2:=zAl a.fr
 have g3:=qQ9 (a:=1+a.cnt) (b:=b.cnt) (by omega)
 have g4:=zCv a.fr b.fr
 have g5:=qQ9 (a:=1+a.cnt+b.cnt) (b:=c.cnt) h
 have g6:=zCv (max a.fr b.fr) c.fr
 cases k with
 | re=>exact f6 [(32,.z (1+a.cnt)),(44,.z a.fr),(32,.z (1+a.cnt+b.cnt)),(44,.z (max a.fr b.fr)),(32,.z (1+a.cnt+b.cnt+c.cnt)),(44,.z (max (max a.fr b.fr) c.fr)),(300013,.fb 1 (some (Tm.n3 .re s a b c).nf))] g1 g2 g3 g4 g5 g6
 | fo=>exact f6 [(32,.z (1+a.cnt)),(44,.z a.fr),(32,.z (1+a.cnt+b.cnt)),(44,.z (max a.fr b.fr)),(32,.z (1+a.cnt+b.cnt+c.cnt)),(44,.z (max (max a.fr b.fr) c.fr)),(300013,.fb 1 (some (Tm.n3 .fo s a b c).nf))] g1 g2 g3 g4 g5 g6
theorem qRf (s:Ty) (b x:Tm) (h:1+x.cnt≤big) (h':x.fr≤big):A 348 [(Tm.lam s b).nd',.slice [[x.nd']]] (Tm.lam s x).nd':=f1 [(18,.r (Tm.lam s x).nd')] (zJf s x h h')
theorem qRg (k:K1) (b x:Tm) (h:1+x.cnt≤big):A 348 [(Tm.n1 k b).nd',.slice [[x.nd']]] (Tm.n1 k x).nd':=f1 [(18,.r (Tm.n1 k x).nd')] (zJg k x h)
theorem qL2 (k:K2) (a b x y:Tm) (h:1+x.cnt+y.cnt≤big):A 348 [(Tm.n2 k a b).nd',.slice [[x.nd'],[y.nd']]] (Tm.n2 k x y).nd':=f1 [(18,.r (Tm.n2 k x y).nd')] (qGv k x y h)
theorem qBy (k:K3) (s:Ty) (a b c x y z:Tm) (h:1+x.cnt+y.cnt+z.cnt≤big):A 348 [(Tm.n3 k s a b c).nd',.slice [[x.nd'],[y.nd'],[z.nd']]] (Tm.n3 k s x y z).nd':=f1 [(18,.r (Tm.n3 k s x y z).nd')] (zJh k s x y z h)
theorem qRh (f a:Tm) (h:1+f.cnt+a.cnt≤big):A 353 [f.nd',.slice [[a.nd']]] (Tm.n2 .app f a).nd':=f1 [(17,.r (Tm.n2 .app f a).nd')] (qGv .app f a h)
theorem zAn (f a b:Tm) (h:1+(1+f.cnt+a.cnt)+b.cnt≤big):A 353 [f.nd',.slice [[a.nd'],[b.nd']]] (Tm.n2 .app (.n2 .app f a) b).nd' :=
 f2 [(17,.r (Tm.n2 .app f a).nd'),(17,.r (Tm.n2 .app (.n2 .app f a) b).nd')] (qGv .app f a (by omega)) (qGv .app (.n2 .app f a) b h)
theorem zEo (t:Tm) {n:Nat} (h:t.mx+1≤n):t.fr≤n:=Nat.le_trans (qBw t) h
theorem zJi:∀ t:Tm,t.cnt≤big→t.mx+1≤big→A 318 [t.p] t.nd'
 | .v i,h,h'=>f1 [(26,.r (Tm.v i).nd')] (qRe i h')
 | .lam s b,h,h'=>by
  have h:1+b.cnt≤big:=h
  exact f3 [(15,.r b.nd'),(300003,.ok),(300003,.f 2 [[b.nd']]),(26,.r (Tm.lam s b).nd')] (zJi b (by omega) h') (rfl:pvE [[b.nd']]=pvE [[b.nd']]) (zJf s b h (zEo b h'))
 | .n0 k,h,h'=>f1 [(26,.r (Tm.n0 k).nd')] (zAm k)
 | .n1 k a,h,h'=>by
  have h:1+a.cnt≤big:=h
  exact f3 [(15,.r a.nd'),(300003,.ok),(300003,.f 2 [[a.nd']]),(26,.r (Tm.n1 k a).nd')] (zJi a (by omega) h') (rfl:pvE [[a.nd']]=pvE [[a.nd']]) (zJg k a h)
 | .n2 k a b,h,h'=>by
  have h:1+a.cnt+b.cnt≤big:=h
  have h':max a.mx b.mx+1≤big:=h'
  exact f4 [(15,.r a.nd'),(15,.r b.nd'),(300003,.ok),(300003,.ok),(300003,.f 2 [[a.nd'],[b.nd']]),(26,.r (Tm.n2 k a b).nd')] (zJi a (by omega) (by omega)) (zJi b (by omega) (by omega)) (rfl:pvE [[a.nd'],[b.nd']]=pvE [[a.nd'],[b.nd']]) (qGv k a b h)
 | .n3 k s a b c,h,h'=>by
  have h:1+a.cnt+b.cnt+c.cnt≤big:=h
  have h':max a.mx (max b.mx c.mx)+1≤big:=h'
  exact f5 [(15,.r a.nd'),(15,.r b.nd'),(15,.r c.nd'),(300003,.ok),(300003,.ok),(300003,.ok),(300003,.f 2 [[a.nd'],[b.nd'],[c.nd']]),(26,.r (Tm.n3 k s a b c).nd')] (zJi a (by omega) (by omega)) (zJi b (by omega) (by omega)) (zJi c (by omega) (by omega)) (rfl:pvE [[a.nd'],[b.nd'],[c.nd']]=pvE [[a.nd'],[b.nd'],[c.nd']]) (zJh k s a b c h)
theorem qUw:∀ t:Tm,A 320 [t.nd'] t.p
 | .v i=>f1 [(18,.r zt)] qB9
 | .lam s b=>f2 [(18,.r s.p),(32,.r b.p)] (a95 s) (qUw b)
 | .n0 k=>f1 [(18,.r zt)] qB9
 | .n1 k b=>f2 [(18,.r zt),(32,.r b.p)] qB9 (qUw b)
 | .n2 k b c=>f3 [(18,.r zt),(32,.r b.p),(32,.r c.p)] qB9 (qUw b) (qUw c)
 | .n3 k s b c d=>f4 [(18,.r s.p),(32,.r b.p),(32,.r c.p),(32,.r d.p)] (a95 s) (qUw b) (qUw c) (qUw d)
theorem qL3 (t:Tm):A 341 [t.nd'] (.bool t.red.isSome):=by
 cases t with
 | v i=>exact f0 []
 | lam s b=>exact f0 []
 | n0 k=>cases k<;>exact f0 []
 | n1 k a=>cases k with
  | succ=>exact f0 []
  | _=>cases a with
   | v i=>exact f0 []
   | lam s b=>exact f0 []
   | n0 l=>cases l<;>exact f0 []
   | n1 l a=>cases l<;>exact f0 []
   | n2 l a b=>cases l<;>exact f0 []
   | n3 l s a b c=>cases l<;>exact f0 []
 | n2 k f b=>cases k with
  | app=>cases f with
   | v i=>exact f0 []
   | lam s b=>exact f0 []
   | n0 l=>cases l<;>exact f0 []
   | n1 l a=>cases l<;>exact f0 []
   | n2 l a b=>cases l<;>exact f0 []
   | n3 l s a b c=>cases l<;>exact f0 []
  | _=>exact f0 []
 | n3 k s a b d=>cases k<;>cases d with
   | v i=>exact f0 []
   | lam s b=>exact f0 []
   | n0 l=>cases l<;>exact f0 []
   | n1 l a=>cases l<;>exact f0 []
   | n2 l a b=>cases l<;>exact f0 []
   | n3 l s a b c=>cases l<;>exact f0 []
open Go.Lg
set_option maxRecDepth 100000
theorem zXr {t:Tm} {c z:Nat} (H:(!ltI (.ofNat c) (.ofNat t.fr))=false→eqI (.ofNat z) (.ofNat 0)=false→c<t.fr→A 355 [t.nd',num c,num z] (t.sh c (.ofNat z)).nd'):A 355 [t.nd',num c,num z] (t.sh c (.ofNat z)).nd':=by
 by_cases h:t.fr≤c
 ·rw [qGu _ t c h]
  exact f1 [(15,.G)] (qP7 (a:=c) (b:=t.fr) h)
 ·by_cases h1:z=0
  ·subst h1
   rw [qS2]
   exact f2 [(15,.H),(18,.G)] (qNk (a:=c) (b:=t.fr) (by omega)) (qUb 0)
  ·exact H (qNk (by omega)) (qNh h1) (by omega)
theorem zEp {t:Tm} {c z:Nat} (hz:z≤2 * mid) (h:t.mx≤mid * mid):(t.sh c (.ofNat z)).fr≤big:=by
 have h1:=qBw (t.sh c (.ofNat z))
 have h2:=qKy (.ofNat z) t c
 have hm:=qQc
 have hb:=qQh
 rw [hm] at h hz
 have e:(Int.ofNat z).toNat=z:=rfl
 rw [e] at h2
 omega
theorem zJj (z:Nat) (hz:z≤2 * mid):∀ (t:Tm) (c:Nat),c+t.cnt≤mid→t.mx≤mid * mid→A 355 [t.nd',num c,num z] (t.sh c (.ofNat z)).nd'
 | .v i,c,h,h'=>zXr fun g1 g2 hc=>by
  have hm:=qQc
  have hb:=qQh
  have h':i≤mid * mid:=h'
  rw [hm] at h'
  have hc:c<i+1:=hc
  have e:(Tm.v i).sh c (.ofNat z) = .v (i+z):=by simp only [Tm.sh,if_pos (show c≤i by omega)];rfl
  rw [e]
  exact f4 [(15,.H),(18,.H),(35,.z (i+z)),(40,.r (Tm.v (i+z)).nd')] g1 g2 (qQ9 (a:=i) (b:=z) (by omega)) (qRe (i+z) (by omega))
 | .lam s b,c,h,h'=>zXr fun g1 g2 hc=>by
  have hm:=qQc
  have hb:=qQh
  have h:c+(1+b.cnt)≤mid:=h
  have g3:=qQ9 (a:=c) (b:=1) (by omega)
  have g4:=zJj z hz b (c+1) (by omega) h'
  have e:=qQu (.ofNat z) b (c+1)
  have g5:=qRf s b (b.sh (c+1) (.ofNat z)) (by omega) (zEp hz h')
  exact f6 [(15,.H),(18,.H),(55,.z (c+1)),(57,.r (b.sh (c+1) (.ofNat z)).nd'),(300007,.ok),(300007,.f 0 [[(b.sh (c+1) (.ofNat z)).nd']]),(63,.r (Tm.lam s (b.sh (c+1) (.ofNat z))).nd')] g1 g2 g3 g4 (rfl:pvE [[(b.sh (c+1) (.ofNat z)).nd']]=pvE [[(b.sh (c+1) (.ofNat z)).nd']]) g5
 | .n0 k,c,h,h'=>zXr fun g1 g2 hc=>absurd hc (Nat.not_lt_zero _)
 | .n1 k b,c,h,h'=>zXr fun g1 g2 hc=>by
  have hm:=qQc
  have hb:=qQh
  have h:c+(1+b.cnt)≤mid:=h
  have g3:=qQ9 (a:=c) (b:=0) (by omega)
  have g4:=zJj z hz b c (by omega) h'
  have e:=qQu (.ofNat z) b c
  have g5:=qRg k b (b.sh c (.ofNat z)) (by omega)
  cases k with
  | succ=>exact f6 [(15,.H),(18,.H),(55,.z c),(57,.r (b.sh c (.ofNat z)).nd'),(300007,.ok),(300007,.f 0 [[(b.sh c (.ofNat z)).nd']]),(63,.r (Tm.n1 .succ (b.sh c (.ofNat z))).nd')] g1 g2 g3 g4 (rfl:pvE [[(b.sh c (.ofNat z)).nd']]=pvE [[(b.sh c (.ofNat z)).nd']]) g5
  | fst=>exact f6 [(15,.H),(18,.H),(55,.z c),(57,.r (b.sh c (.ofNat z)).nd'),(300007,.ok),(300007,.f 0 [[(b.sh c (.ofNat z)).nd']]),(63,.r (Tm.n1 .fst (b.sh c (.ofNat z))).nd')] g1 g2 g3 g4 (rfl:pvE [[(b.sh c (.ofNat z)).nd']]=pvE [[(b.sh c (.ofNat z)).nd']]) g5
  | snd=>exact f6 [(15,.H),(18,.H),(55,.z c),(57,.r (b.sh c (.ofNat z)).nd'),(300007,.ok),(300007,.f 0 [[(b.sh c (.ofNat z)).nd']]),(63,.r (Tm.n1 .snd (b.sh c (.ofNat z))).nd')] g1 g2 g3 g4 (rfl:pvE [[(b.sh c (.ofNat z)).nd']]=pvE [[(b.sh c (.ofNat z)).nd']]) g5
 | .n2 k b d,c,h,h'=>zXr fun g1 g2 hc=>by
  have hm:=qQc
  have hb:=qQh
  have h:c+(1+b.cnt+d.cnt)≤mid:=h
  have h':max b.mx d.mx≤mid * mid:=h'
  have g3:=qQ9 (a:=c) (b:=0) (by omega)
  have g4:=zJj z hz b c (by omega) (by omega)
  have g4':=zJj z hz d c (by omega) (by omega)
  have e:=qQu (.ofNat z) b c
  have e':=qQu (.ofNat z) d c
  have g5:=qL2 k b d (b.sh c (.ofNat z)) (d.sh c (.ofNat z)) (by omega)
  cases k with
  | app=>exact f8 [(15,.H),(18,.H),(55,.z c),(57,.r (b.sh c (.ofNat z)).nd'),(300007,.ok),(55,.z c),(57,.r (d.sh c (.ofNat z)).nd'),(300007,.ok),(300007,.f 0 [[(b.sh c (.ofNat z)).nd'],[(d.sh c (.ofNat z)).nd']]),(63,.r (Tm.n2 .app (b.sh c (.ofNat z)) (d.sh c (.ofNat z))).nd')] g1 g2 g3 g4 g3 g4' (rfl:pvE [[(b.sh c (.ofNat z)).nd'],[(d.sh c (.ofNat z)).nd']]=pvE [[(b.sh c (.ofNat z)).nd'],[(d.sh c (.ofNat z)).nd']]) g5
  | cons=>exact f8 [(15,.H),(18,.H),(55,.z c),(57,.r (b.sh c (.ofNat z)).nd'),(300007,.ok),(55,.z c),(57,.r (d.sh c (.ofNat z)).nd'),(300007,.ok),(300007,.f 0 [[(b.sh c (.ofNat z)).nd'],[(d.sh c (.ofNat z)).nd']]),(63,.r (Tm.n2 .cons (b.sh c (.ofNat z)) (d.sh c (.ofNat z))).nd')] g1 g2 g3 g4 g3 g4' (rfl:pvE [[(b.sh c (.ofNat z)).nd'],[(d.sh c (.ofNat z)).nd']]=pvE [[(b.sh c (.ofNat z)).nd'],[(d.sh c (.ofNat z)).nd']]) g5
  | pair=>exact f8 [(15,.H),(18,.H),(55,.z c),(57,.r (b.sh c (.ofNat z)).nd'),(300007,.ok),(55,.z c),(57,.r (d.sh c (.ofNat z)).nd'),(300007,.ok),(300007,.f 0 [[(b.sh c (.ofNat z)).nd'],[(d.sh c (.ofNat z)).nd']]),(63,.r (Tm.n2 .pair (b.sh c (.ofNat z)) (d.sh c (.ofNat z))).nd')] g1 g2 g3 g4 g3 g4' (rfl:pvE [[(b.sh c (.ofNat z)).nd'],[(d.sh c (.ofNat z)).nd']]=pvE [[(b.sh c (.ofNat z)).nd'],[(d.sh c (.ofNat z)).nd']]) g5
 | .n3 k s b d w,c,h,h'=>zXr fun g1 g2 hc=>by
  have hm:=qQc
  have hb:=qQh
  have h:c+(1+b.cnt+d.cnt+w.cnt)≤mid:=h
  have h':max b.mx (max d.mx w.mx)≤mid * mid:=h'
  have g3:=qQ9 (a:=c) (b:=0) (by omega)
  have g4:=zJj z hz b c (by omega) (by omega)
  have g4':=zJj z hz d c (by omega) (by omega)
  have g4'':=zJj z hz w c (by omega) (by omega)
  have e:=qQu (.ofNat z) b c
  have e':=qQu (.ofNat z) d c
  have e'':=qQu (.ofNat z) w c
  have g5:=qBy k s b d w (b.sh c (.ofNat z)) (d.sh c (.ofNat z)) (w.sh c (.ofNat z)) (by omega)
  cases k with
  | re=>exact f10 [(15,.H),(18,.H),(55,.z c),(57,.r (b.sh c (.ofNat z)).nd'),(300007,.ok),(55,.z c),(57,.r (d.sh c (.ofNat z)).nd'),(300007,.ok),(55,.z c),(57,.r (w.sh c (.ofNat z)).nd'),(300007,.ok),(300007,.f 0 [[(b.sh c (.ofNat z)).nd'],[(d.sh c (.ofNat z)).nd'],[(w.sh c (.ofNat z)).nd']]),(63,.r (Tm.n3 .re s (b.sh c (.ofNat z)) (d.sh c (.ofNat z)) (w.sh c (.ofNat z))).nd')] g1 g2 g3 g4 g3 g4' g3 g4'' (rfl:pvE [[(b.sh c (.ofNat z)).nd'],[(d.sh c (.ofNat z)).nd'],[(w.sh c (.ofNat z)).nd']]=pvE [[(b.sh c (.ofNat z)).nd'],[(d.sh c (.ofNat z)).nd'],[(w.sh c (.ofNat z)).nd']]) g5
  | fo=>exact f10 [(15,.H),(18,.H),(55,.z c),(57,.r (b.sh c (.ofNat z)).nd'),(300007,.ok),(55,.z c),(57,.r (d.sh c (.ofNat z)).nd'),(300007,.ok),(55,.z c),(57,.r (w.sh c (.ofNat z)).nd'),(300007,.ok),(300007,.f 0 [[(b.sh c (.ofNat z)).nd'],[(d.sh c (.ofNat z)).nd'],[(w.sh c (.ofNat z)).nd']]),(63,.r (Tm.n3 .fo s (b.sh c (.ofNat z)) (d.sh c (.ofNat z)) (w.sh c (.ofNat z))).nd')] g1 g2 g3 g4 g3 g4' g3 g4'' (rfl:pvE [[(b.sh c (.ofNat z)).nd'],[(d.sh c (.ofNat z)).nd'],[(w.sh c (.ofNat z)).nd']]=pvE [[(b.sh c (.ofNat z)).nd'],[(d.sh c (.ofNat z)).nd'],[(w.sh c (.ofNat z)).nd']]) g5
end Go.Proofs.YtmcockinhpiomaaGreatDoor
