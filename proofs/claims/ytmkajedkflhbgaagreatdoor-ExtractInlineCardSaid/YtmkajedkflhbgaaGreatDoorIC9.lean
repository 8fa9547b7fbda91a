/- Contracts of functions; no conditions. -/
import Derived.Test.YtmkajedkflhbgaaGreatDoorIC8
import Derived.Maps.RangeRun
import Derived.Test.YtmkajedkflhbgaaGreatDoorIB3
import Derived.Test.YtmkajedkflhbgaaGreatDoorIC7
set_option linter.all false
set_option maxHeartbeats 4000000
namespace Go.Proofs.YtmkajedkflhbgaaGreatDoor
open Go.Lg
set_option maxRecDepth 100000
theorem fu (f:Fm):O 16 [.pv f.p] [] (.agg [.undef,.pv (num f.tk),.pv (.slice f.te),.pv (.slice f.ts),.pv (.slice f.es)]) []:=by
 have h:A 16 [f.p] f.p:=MB f;refine⟨h.direct,λ n hn=>by simp [Out.names,V.names,GA] at hn,h.namesO,λ E w vs hB hv hR=>(h.calls E w vs hB hv hR).mono ?_⟩
 rintro e w' ⟨E',hd,v,he,hr⟩
 refine⟨E',hd,v,he,?_⟩;have hr:RepP E'.H (.agg f.c) v:=hr;simp only [RepP] at hr;obtain⟨us,e1,e2,e3⟩:=hr;refine⟨us,e1,e2,?_⟩
 match us,e3 with
 | [],e3=>exact e3.elim
 | u::us,e3 =>
  refine⟨trivial,?_⟩;have e4:=e3.2
  match us,e4 with
  | [],e4=>exact e4.elim
  | u2::us,e4 =>
   refine⟨e4.1,?_⟩;have e5:=e4.2
   match us,e5 with
   | [],e5=>exact e5.elim
   | u3::us,e5 =>
    refine⟨e5.1,?_⟩;have e6:=e5.2
    match us,e6 with
    | [],e6=>exact e6.elim
    | u4::us,e6 =>
     refine⟨e6.1,?_⟩;have e7:=e6.2
     match us,e7 with
     | [],e7=>exact e7.elim
     | u5::us,e7=>exact⟨e7.1,trivial⟩
abbrev qE (x:Tm):Fm:=.eq (x.sh 0 1) (.v 0)
abbrev JK (x:Tm):Pf:=.ex true (.q .exU .nat (qE x)) x (.refl x)
theorem lu {L:List Int} (hL:Dk L) {k:Nat} (hk:iB L k) (hkl:k<=9:=by omega):fY L k:=by
 intro Z ls g hs a hS hg hh hZ ha;have hm:=jA;have hbg:=uA;have e20:PA=1048576:=rfl;have eW:=mD;have hz1:=hS.z;have e1:cp (k+1)=2 * cp k+10000:=rfl;have e2:cm (k+1)=2 * cm k+uC+4 * PA:=rfl;have e3:=YC k;have gs:=nB (a:=k+1);obtain⟨x,b,qx,hb,g1⟩:=eC hL (t:=.nat) (g:=g) (by decide) hS.gs (by omega) ha;have c1:=qx.cnt;have c2:=qx.tsz;have c3:=qx.mx;have m1:=nE 1 x 0;have e5:(1:Int).toNat=1:=rfl;have gu:=OT x (by omega) (by rw [hm];omega);have hE:FBd (Z+1) (qE x):=⟨by simp only [Fm.cnt,wC,Tm.cnt];omega,by simp only [Fm.tsz,TD,Tm.tsz];omega,by simp only [Fm.mx,Tm.mx];omega⟩;obtain⟨w,c,hw,hc,gw⟩:=nx hL hb (n:=3) (by omega) (by omega);have gB:=PN g hs .nat (by omega) (by omega) (λ f hf=>by have:=hS.hb f hf;rw [hm];omega);have gW:=vY (g++[.nat]) (qC hs) (qE x) (by simp;omega);have S1:S19 (Z+1) ls (g++[.nat]) (qC hs++[qE x]):=(hS.below (t:=.nat) (by decide) hg).with hE (Nat.le_refl _) (by simpa using hh);obtain⟨q,d,qq,hd,g2⟩:=hk (Z+1) ls (g++[.nat]) (qC hs++[qE x]) c S1 (by omega) hc;have d1:=qq.cnt;have d2:=qq.tsz;have d3:=qq.mx;obtain⟨v,e,hv,he,gv⟩:=nx hL hd (n:=2) (by omega) (by omega);have bd:∀ (u:P2) (P Q:Pf),P.cnt<=800->P.tsz<=qA->P.mx<=Z+cm k+10->Q.cnt<=cp k+800->Q.tsz<=qA->Q.mx<=Z+cm k+10->(∀ w,P.dpw w<=2+w)->(∀ w,Q.dpw w<=k+2+w)->PG (cp (k+1)) (Z+cm (k+1)) ((k+1)+2) (.p2 u P Q):=λ u P Q b1 b2 b3 b4 b5 b6 b7 b8 =>
  ⟨by simp only [Pf.cnt];omega,by simp only [Pf.tsz];omega,by simp only [Pf.mx];omega,λ w=>by have:=b7 w;have:=b8 w;cases u<;>simp only [Pf.dpw]<;>omega⟩
 have bS:∀ (u:Bool) (kk:FQ),(Pf.ex u (.q kk .nat (qE x)) x (.refl x)).cnt<=800/\(Pf.ex u (.q kk .nat (qE x)) x (.refl x)).tsz<=qA/\(Pf.ex u (.q kk .nat (qE x)) x (.refl x)).mx<=Z+cm k+10:=λ u kk =>
  ⟨by simp only [Pf.cnt,Fm.cnt,wC,Tm.cnt];omega,by simp only [Pf.tsz,Fm.tsz,TD,Tm.tsz,Ty.size];omega,by simp only [Pf.mx,Fm.mx,Tm.mx];omega⟩
 have bG:∀ (u:Bool) (kk:FQ),(Pf.ex u ((Fm.q kk .nat (qE x)).sh 0 1) (.v 0) (.leaf false 0)).cnt<=cp k+800/\(Pf.ex u ((Fm.q kk .nat (qE x)).sh 0 1) (.v 0) (.leaf false 0)).tsz<=qA/\(Pf.ex u ((Fm.q kk .nat (qE x)).sh 0 1) (.v 0) (.leaf false 0)).mx<=Z+cm k+10:=λ u kk=>by
  have m2:=DE 1 (Fm.q kk .nat (qE x)) 0;have m3:(Fm.q kk .nat (qE x)).mx<=x.mx+1:=by simp only [Fm.mx,Tm.mx];omega
  exact⟨by simp only [Pf.cnt,GD,Fm.cnt,wC,Tm.cnt];omega,by simp only [Pf.tsz,VD,Fm.tsz,TD,Tm.tsz,Ty.size];omega,by simp only [Pf.mx,Tm.mx];omega⟩
 have gF:∀ kk:FQ,A 69 [(Fm.q kk .nat (qE x)).p,num 0,.int 1] ((Fm.q kk .nat (qE x)).sh 0 1).p:=λ kk=>bD _ 0 1 (by omega) (by omega) (by simp only [Fm.mx,Tm.mx];rw [hm];omega) (by simp only [Fm.cnt,wC,Tm.cnt];omega)
 cases w with
 | zero =>
  have g9:A 62 [num 10,x.p,(Pf.refl x).p] (pn 10 [x.c] [] [(Pf.refl x).c]):=UW 10 x (.refl x);have gq:=fu (.q .ex .nat (qE x))
  cases v with
  | zero=>exact⟨.p2 .exUE (JK x) (.ex true ((Fm.q .exU .nat (qE x)).sh 0 1) (.v 0) (.leaf false 0)),e,(bd .exUE (JK x) (.ex true ((Fm.q .exU .nat (qE x)).sh 0 1) (.v 0) (.leaf false 0)) (bS true .exU).1 (bS true .exU).2.1 (bS true .exU).2.2 (bG true .exU).1 (bG true .exU).2.1 (bG true .exU).2.2 (λ _=>Nat.zero_le _) (λ _=>Nat.zero_le _)),he,ln 1 [(16,.n [(7,.Y),(12,.D L b (.pv x.p)),(15,.r (x.sh 0 1).p),(16,.r (Tm.v 0).p),(17,.r (qE x).p),(18,.r (Fm.q .ex .nat (qE x)).p),(21,.r (Pf.refl x).p),(22,.n [(13,.r (pn 10 [x.c] [] [(Pf.refl x).c])),(15,.o [] [] (.agg [.undef,.pv (num (Fm.q .ex .nat (qE x)).tk),.pv (.slice (Fm.q .ex .nat (qE x)).te),.pv (.slice (Fm.q .ex .nat (qE x)).ts),.pv (.slice (Fm.q .ex .nat (qE x)).es)]))])]),(18,.D L c (.pv (num 0))),(300005,.f 12 [(Fm.q .exU .nat (qE x)).c]),(35,.Y),(37,.r (VA (g++[.nat]) (qC hs))),(39,.r (VA (g++[.nat]) (qC hs++[qE x]))),(41,.z k),(42,.D L d (.pv q.p)),(44,.D L e (.pv (num 0))),(50,.r ((Fm.q .exU .nat (qE x)).sh 0 1).p),(54,.r (Tm.v 0).p),(55,.r (Pf.leaf false 0).p),(56,.r (Pf.ex true ((Fm.q .exU .nat (qE x)).sh 0 1) (.v 0) (.leaf false 0)).p),(61,.r (Pf.p2 .exUE (JK x) (.ex true ((Fm.q .exU .nat (qE x)).sh 0 1) (.v 0) (.leaf false 0))).p)] iA g1 gu (gE 0) (rE (x.sh 0 1) (.v 0)) (sD .ex .nat (qE x)) (rB x) g9 gq gw (rfl:vA [(Fm.q .exU .nat (qE x)).c]=vA [(Fm.q .exU .nat (qE x)).c]) iA gB gW gs g2 gv (gF .exU) (gE 0) (pF 0) (JI true ((Fm.q .exU .nat (qE x)).sh 0 1) (.v 0) (.leaf false 0)) (DH 15 (JK x) (.ex true ((Fm.q .exU .nat (qE x)).sh 0 1) (.v 0) (.leaf false 0)))⟩
  | succ v=>exact⟨.p2 .exUE (JK x) q,e,(bd .exUE (JK x) q (bS true .exU).1 (bS true .exU).2.1 (bS true .exU).2.2 (by omega) d2 (by omega) (λ _=>Nat.zero_le _) qq.dp),he,vd 1 [(16,.n [(7,.Y),(12,.D L b (.pv x.p)),(15,.r (x.sh 0 1).p),(16,.r (Tm.v 0).p),(17,.r (qE x).p),(18,.r (Fm.q .ex .nat (qE x)).p),(21,.r (Pf.refl x).p),(22,.n [(13,.r (pn 10 [x.c] [] [(Pf.refl x).c])),(15,.o [] [] (.agg [.undef,.pv (num (Fm.q .ex .nat (qE x)).tk),.pv (.slice (Fm.q .ex .nat (qE x)).te),.pv (.slice (Fm.q .ex .nat (qE x)).ts),.pv (.slice (Fm.q .ex .nat (qE x)).es)]))])]),(18,.D L c (.pv (num 0))),(300005,.f 12 [(Fm.q .exU .nat (qE x)).c]),(35,.Y),(37,.r (VA (g++[.nat]) (qC hs))),(39,.r (VA (g++[.nat]) (qC hs++[qE x]))),(41,.z k),(42,.D L d (.pv q.p)),(44,.D L e (.pv (num (v+1)))),(61,.r (Pf.p2 .exUE (JK x) q).p)] iA g1 gu (gE 0) (rE (x.sh 0 1) (.v 0)) (sD .ex .nat (qE x)) (rB x) g9 gq gw (rfl:vA [(Fm.q .exU .nat (qE x)).c]=vA [(Fm.q .exU .nat (qE x)).c]) iA gB gW gs g2 gv (DH 15 (JK x) q)⟩
 | succ w =>
  cases v with
  | zero=>exact⟨.p2 .exE (eD x) (.ex false ((Fm.q .ex .nat (qE x)).sh 0 1) (.v 0) (.leaf false 0)),e,(bd .exE (eD x) (.ex false ((Fm.q .ex .nat (qE x)).sh 0 1) (.v 0) (.leaf false 0)) (bS false .ex).1 (bS false .ex).2.1 (bS false .ex).2.2 (bG false .ex).1 (bG false .ex).2.1 (bG false .ex).2.2 (λ _=>Nat.zero_le _) (λ _=>Nat.zero_le _)),he,dn 1 [(16,.n [(7,.Y),(12,.D L b (.pv x.p)),(15,.r (x.sh 0 1).p),(16,.r (Tm.v 0).p),(17,.r (qE x).p),(18,.r (Fm.q .ex .nat (qE x)).p),(21,.r (Pf.refl x).p),(22,.r (eD x).p)]),(18,.D L c (.pv (num (w+1)))),(35,.Y),(37,.r (VA (g++[.nat]) (qC hs))),(39,.r (VA (g++[.nat]) (qC hs++[qE x]))),(41,.z k),(42,.D L d (.pv q.p)),(44,.D L e (.pv (num 0))),(50,.r ((Fm.q .ex .nat (qE x)).sh 0 1).p),(54,.r (Tm.v 0).p),(55,.r (Pf.leaf false 0).p),(56,.r (Pf.ex false ((Fm.q .ex .nat (qE x)).sh 0 1) (.v 0) (.leaf false 0)).p),(61,.r (Pf.p2 .exE (eD x) (.ex false ((Fm.q .ex .nat (qE x)).sh 0 1) (.v 0) (.leaf false 0))).p)] iA g1 gu (gE 0) (rE (x.sh 0 1) (.v 0)) (sD .ex .nat (qE x)) (rB x) (JI false (.q .ex .nat (qE x)) x (.refl x)) gw iA gB gW gs g2 gv (gF .ex) (gE 0) (pF 0) (JI false ((Fm.q .ex .nat (qE x)).sh 0 1) (.v 0) (.leaf false 0)) (DH 11 (eD x) (.ex false ((Fm.q .ex .nat (qE x)).sh 0 1) (.v 0) (.leaf false 0)))⟩
  | succ v=>exact⟨.p2 .exE (eD x) q,e,(bd .exE (eD x) q (bS false .ex).1 (bS false .ex).2.1 (bS false .ex).2.2 (by omega) d2 (by omega) (λ _=>Nat.zero_le _) qq.dp),he,PW 1 [(16,.n [(7,.Y),(12,.D L b (.pv x.p)),(15,.r (x.sh 0 1).p),(16,.r (Tm.v 0).p),(17,.r (qE x).p),(18,.r (Fm.q .ex .nat (qE x)).p),(21,.r (Pf.refl x).p),(22,.r (eD x).p)]),(18,.D L c (.pv (num (w+1)))),(35,.Y),(37,.r (VA (g++[.nat]) (qC hs))),(39,.r (VA (g++[.nat]) (qC hs++[qE x]))),(41,.z k),(42,.D L d (.pv q.p)),(44,.D L e (.pv (num (v+1)))),(61,.r (Pf.p2 .exE (eD x) q).p)] iA g1 gu (gE 0) (rE (x.sh 0 1) (.v 0)) (sD .ex .nat (qE x)) (rB x) (JI false (.q .ex .nat (qE x)) x (.refl x)) gw iA gB gW gs g2 gv (DH 11 (eD x) q)⟩
theorem zH (H:MF) {L:List Int} (hL:Dk L):∀ k,k<=9->iB L k
 | 0,_=>Ot hL
 | k+1,h=>du H hL (zH H hL k (by omega)) (lu hL (zH H hL k (by omega)))
theorem YT {t:Tm} (h:t.chk=0):t.tsz<=qA->A 194 [t.p] (.bool true):=λ k=>by
 have hm:=jA;have hb:=uA;have q:=lE t (by omega);rwa [(Tm.chk0 h).2] at q
theorem ZT {t:Fm} (h:t.chk=0):t.tsz<=qA->A 195 [t.p] (.bool true):=λ k=>by
 have q:=GI t k;rwa [(Fm.chk0 h).2] at q
theorem mu {s:Ty} (h:s.size<=64):A 191 [s.p] (num 0):=by
 have hb:=uA;have q:=QJ s;have e:s.chk=0:=by
  rcases XF s with e|e
  ·exact e
  ·exfalso;unfold Ty.chk at e;rw [CA h] at e;cases e
 rwa [e] at q
theorem rG:∀ p:Pf,p.ck->p.tsz<=qA->A 126 [p.p] (.bool true)
 | .leaf u i,_,_=>by cases u<;>exact f1 [(73,.T)] WA
 | .refl t,h,k=>f2 [(73,.T),(85,.T)] WA (YT h k)
 | .p1 q a,h,k=>by cases q<;>exact f2 [(73,.T),(107,.T)] WA (rG a h k)
 | .p2 q a b,h,k=>by
  have k:max a.tsz b.tsz<=qA:=k;cases q<;>exact f3 [(73,.T),(107,.T),(107,.T)] WA (rG a h.1 (by omega)) (rG b h.2 (by omega))
 | .impI f a,h,k=>by
  have k:max f.tsz a.tsz<=qA:=k;exact f3 [(73,.T),(96,.T),(107,.T)] WA (ZT h.1 (by omega)) (rG a h.2 (by omega))
 | .all u s a,h,k=>by
  have k:max a.tsz s.size<=qA:=k;cases u<;>exact f2 [(63,.N 0),(107,.T)] (mu h.1) (rG a h.2 (by omega))
 | .ins u t a,h,k=>by
  have k:max t.tsz a.tsz<=qA:=k;cases u<;>exact f3 [(73,.T),(85,.T),(107,.T)] WA (YT h.1 (by omega)) (rG a h.2 (by omega))
 | .ex u f t a,h,k=>by
  have k:max (max t.tsz f.tsz) a.tsz<=qA:=k;cases u<;>exact f4 [(73,.T),(85,.T),(96,.T),(107,.T)] WA (YT h.1 (by omega)) (ZT h.2.1 (by omega)) (rG a h.2.2 (by omega))
 | .ind l f t a b,h,k=>by
  have k:max (max (max t.tsz f.tsz) a.tsz) b.tsz<=qA:=k;cases l<;>exact f5 [(73,.T),(85,.T),(96,.T),(107,.T),(107,.T)] WA (YT h.1 (by omega)) (ZT h.2.1 (by omega)) (rG a h.2.2.1 (by omega)) (rG b h.2.2.2 (by omega))
 | .subst f a b,h,k=>by
  have k:max (max f.tsz a.tsz) b.tsz<=qA:=k;exact f4 [(73,.T),(96,.T),(107,.T),(107,.T)] WA (ZT h.1 (by omega)) (rG a h.2.1 (by omega)) (rG b h.2.2 (by omega))
theorem KK {t:Tm} (h:t.chk=0):A 101 [t.p] (num t.cnt)/\kA (.ofNat 4096) (.ofNat t.cnt)=false:=by
 have hb:=uA;have k:=(Tm.chk0 h).1;exact⟨yB t (by omega),CA k⟩
theorem LK {t:Fm} (h:t.chk=0):A 102 [t.p] (num t.cnt)/\kA (.ofNat 4096) (.ofNat t.cnt)=false:=by
 have hb:=uA;have k:=(Fm.chk0 h).1;exact⟨UD t (by omega),CA k⟩
theorem sG:∀ p:Pf,p.ck->A 196 [p.p] (.bool true)
 | .leaf u i,_=>f0 []
 | .refl t,h=>f2 [(17,.N t.cnt),(18,.H)] (KK h).1 (KK h).2
 | .p1 q a,h=>f1 [(39,.T)] (sG a h)
 | .p2 q a b,h=>f2 [(39,.T),(39,.T)] (sG a h.1) (sG b h.2)
 | .impI f a,h=>f3 [(28,.N f.cnt),(29,.H),(39,.T)] (LK h.1).1 (LK h.1).2 (sG a h.2)
 | .all u s a,h=>f1 [(39,.T)] (sG a h.2)
 | .ins u t a,h=>f3 [(17,.N t.cnt),(18,.H),(39,.T)] (KK h.1).1 (KK h.1).2 (sG a h.2)
 | .ex u f t a,h=>f5 [(17,.N t.cnt),(18,.H),(28,.N f.cnt),(29,.H),(39,.T)] (KK h.1).1 (KK h.1).2 (LK h.2.1).1 (LK h.2.1).2 (sG a h.2.2)
 | .ind l f t a b,h=>f6 [(17,.N t.cnt),(18,.H),(28,.N f.cnt),(29,.H),(39,.T),(39,.T)] (KK h.1).1 (KK h.1).2 (LK h.2.1).1 (LK h.2.1).2 (sG a h.2.2.1) (sG b h.2.2.2)
 | .subst f a b,h=>f4 [(28,.N f.cnt),(29,.H),(39,.T),(39,.T)] (LK h.1).1 (LK h.1).2 (sG a h.2.1) (sG b h.2.2)
theorem mg (p:Pf) (h:p.cnt<=16384) (h':p.tsz<=qA) (hc:p.ck):A 78 [p.p] (num 0):=by
 have hb:=uA;have e:(!kA (.ofNat 16384) (.ofNat p.cnt))=true:=by rw [CA h];rfl
 have g:A 127 [p.p] (.bool true):=f3 [(4,.T),(7,.N p.cnt),(8,.G)] (sG p hc) (aC p (by omega)) e;exact f2 [(4,.T),(7,.T)] (rG p hc h') g
theorem gY (g:List Ty) (t:Tm) (hg:∀ s∈g,s.size<=qA) (h1:t.tsz<=qA) (h2:g.length+t.cnt<=qA) (hc:t.chk=0):A 299 [cA g,t.p] (t.tyR g).p:=by
 have hm:=jA;have hb:=uA;have g1:=cH t;rw [hc] at g1;obtain⟨r,g2,_,rfl⟩:=AI t g hg h1 h2;exact f2 [(8,.N 0),(15,.r (t.tyR g).p)] g1 g2
theorem qU:∀ (f:Fm) (g:List Ty),(∀ s∈g,s.size<=qA)->f.tsz<=qA->g.length+f.cnt<=qA->f.ty g->A 261 [cA g,f.p] (num 0)
 | .eq a b,g,hg,ht,hl,⟨⟨c1,k1⟩,c2,k2⟩=>by
  have ht:max a.tsz b.tsz<=qA:=ht;have hl:g.length+(1+a.cnt+b.cnt)<=qA:=hl;have g1:=gY g a hg (by omega) (by omega) c1;have g2:=gY g b hg (by omega) (by omega) c2;rw [k1] at g1;rw [k2] at g2;exact f2 [(22,.r (TR.ok .nat).p),(22,.r (TR.ok .nat).p)] g1 g2
 | .bin k f h,g,hg,ht,hl,⟨k1,k2⟩=>by
  have ht:max f.tsz h.tsz<=qA:=ht;have hl:g.length+(1+f.cnt+h.cnt)<=qA:=hl;cases k<;>exact f2 [(54,.N 0),(54,.N 0)] (qU f g hg (by omega) (by omega) k1) (qU h g hg (by omega) (by omega) k2)
 | .q k s f,g,hg,ht,hl,k1=>by
  have ht:max s.size f.tsz<=qA:=ht;have hl:g.length+(1+f.cnt)<=qA:=hl;have hm:=jA;have h1:=qU f (g++[s]) (by intro u hu;rcases List.mem_append.1 hu with h|h;exact hg u h;simp at h;subst h;omega) (by omega) (by simp;omega) k1;simp only [cA,List.map_append,List.map_cons,List.map_nil] at h1;have h3:=mE 2 32 Ty.c_len (by decide) g s (by omega) (by simp only [maxLen];omega);cases k<;>exact f3 [(40,.ok),(44,.ok),(54,.N 0)] (CE (g.map Ty.c).length) h3 h1
theorem hY {f:Fm} (h:f.chk=0):f.tsz<=qA:=Nat.le_trans (yK f (Fm.chk0 h).2) (by have:=jA;omega)
theorem ng {f:Fm} (hc:f.chk=0) (h:f.ty []):A 124 [cA [],f.p] (num 0):=by
 have hm:=jA;have hb:=uA;have c:=(Fm.chk0 hc).1;have ht:=hY hc;have g1:=TJ f ht;rw [hc] at g1;have g2:=qU f [] (λ s h=>nomatch h) ht (by simp;omega) h;have g3:A 190 [cA [],f.p] (num 0):=f2 [(7,.N 0),(13,.N 0)] g1 g2;exact f2 [(7,.N 0),(13,.N 0)] (YM [] (λ s h=>nomatch h)) g3
theorem pg (g:List Ty) {ls:List Fm} (hl:ls.length<=qA):∀ (r:List Fm) (k:Nat),ls.drop k=r->(∀ f∈r,f.chk=0/\f.ty [])->Lp 77 0 0 (XX ls [] g k) (.exit 0) (kM [] g)
 | [],k,h,_=>x1 [(18,.H)] ⟨[3],[0],1,[]⟩ (show kA (.ofNat k) (.ofNat (ls.map Fm.c).length)=false from CA (by simpa using TC h))
 | f::r,k,h,hb=>by
  obtain⟨h1,h2,h3⟩:=SC h;have hm:=jA;have hlt:kA (.ofNat k) (.ofNat (ls.map Fm.c).length)=true:=aA (by simpa using h2);have hf:=hb f (by simp);have ih:=pg g hl r (k+1) h3 λ t ht=>hb t (by simp [ht])
  exact n5 [(18,.G),(19,.i f.c),(22,.N 0),(26,.ok)] ⟨[3,15,16,17],[0],1,[]⟩ hlt (KA h1 Fm.c_len) (ng hf.1 hf.2) (eA (show k+1<=_ by omega)) ih
theorem nu {ls:List Fm} (hl:ls.length<=32) (h:∀ f∈ls,f.chk=0/\f.ty []):A 77 [fA ls,VA [] []] (num 0):=by
 have hm:=jA;have e0:kA (.ofNat 32) (.ofNat (ls.map Fm.c).length)=false:=CA (by simpa using hl);have g1:=pg [] (ls:=ls) (by omega) ls 0 rfl h;have g2:=YM [] (λ s h=>nomatch h);have g4:Lp 77 1 0 (YX [] [] 0) (.exit 2) (st [] [] 1 []):=x0 [] ⟨[],[],1,[]⟩;exact f4 [(14,.H),(100004,.l ⟨[3,15,16,17],[0],1,[]⟩ (.exit 0) (kM [] [])),(29,.N 0),(100016,.l ⟨[3,38,39,40],[0],1,[]⟩ (.exit 2) (st [] [] 1 []))] e0 g1 g2 g4
theorem pu {ls:List Fm} (hl:ls.length<=32) (h:∀ f∈ls,f.chk=0/\f.ty []) {t:Tm} (hc:t.chk=0) (hc2:(Fm.eq t t).chk=0) (ht:t.tyR [] = .ok .nat):A 30 [fA ls,VA [] [],(Pf.refl t).p] (PR.ok (.eq t t) []).p:=by
 have hm:=jA;have hb:=uA;have c1:=(Tm.chk0 hc).1;have c3:=hY hc2;have c4:max t.tsz t.tsz<=qA:=c3;have c2:=(Fm.chk0 hc2).1;have g1:=gY [] t (λ s h=>nomatch h) (by omega) (by simp;omega) hc;rw [ht] at g1;have g2:A 269 [cA [],t.p] (TR.ok .nat).p:=f2 [(8,.N 0),(15,.r (TR.ok .nat).p)] (YM [] (λ s h=>nomatch h)) g1;have g3:A 207 [IA ls [] [],t.p,num 1] (num 0):=f1 [(13,.r (TR.ok .nat).p)] g2;have g4:A 128 [IA ls [] [],(Pf.refl t).p] (RR.of (.eq t t) [] 0).p:=f2 [(280,.r (Fm.eq t t).p),(286,.N 0)] (rE t t) g3;have g5:=TJ (.eq t t) c3;rw [hc2] at g5;obtain⟨b,e',g6,q⟩:=od (.eq t t) c3;obtain⟨rfl,rfl⟩:=q hc2;have g7:A 79 [IA ls [] [],(Pf.refl t).p] (PR.ok (.eq t t) []).p:=f3 [(14,.r (RR.of (.eq t t) [] 0).p),(23,.N 0),(28,.U [.bool false,num 0])] g4 g5 g6;have g8:=mg (.refl t) (by simp only [Pf.cnt];omega) (by simp only [Pf.tsz];omega) hc;have g9:(Nat.blt 0 1 && bC 1 (vA (([]:List Nat).map ic)) && SB (vA (([]:List Nat).map ic)) && Nat.ble (vA (([]:List Nat).map ic)).length maxLen && Nat.ble ((vA (([]:List Nat).map ic)).length * 8) 140737488355328)=true:=rfl;exact f6 [(14,.N 0),(20,.N 0),(33,.r (PR.ok (.eq t t) []).p),(42,.r (Fm.eq t t).p),(45,.ok),(300010,.f 4 ([].map ic))] (nu hl h) g8 g7 (MB (.eq t t)) g9 (rfl:vA (([]:List Nat).map ic)=vA (([]:List Nat).map ic))
open Go.Lg
theorem a5 (L:List Int):A 5 [.slice (L.map jJ)] (.bool (decide (L.length<=500))):=by
 by_cases h:L.length<=500
 ·have e:(!kA (.ofNat 500) (.ofNat (L.map jJ).length))=true:=by rw [CA (by simpa using h)];rfl
  rw [decide_eq_true h];exact f1 [(5,.G)] e
 ·have e:(!kA (.ofNat 500) (.ofNat (L.map jJ).length))=false:=by rw [aA (by simpa using h)];rfl
  rw [decide_eq_false h];exact f1 [(5,.H)] e
abbrev PR.v (r:PR):PV:=.agg [num r.k,num r.tk,.slice r.te,.slice r.ts,.slice r.es,bA r.u]
def RQ (ls:List Fm) (p:Pf) (f:Fm):Prop:=p.ck/\p.cnt<=16384 /\ ∃ j:Jt,j.p=p/\j.f=f/\j.D ls [] []
theorem zU (H:MF) {Z k:Nat} {ls:List Fm} {p:Pf} (hS:S19 Z ls [] []) (hp:PG (cp k) (Z+cm k) (k+2) p) (hk:k<=10) (hz:Z+cm k<=281474976710656):∃ r:PR,A 30 [fA ls,VA [] [],p.p] r.p /\ ∀ f u,r = .ok f u->RQ ls p f:=by
 have hm:=jA;have hbg:=uA;have e2:=QN k hk;have h1:=hS.ll;have hc:fB=1125899902742528:=rfl;have e3:mA=8388608:=rfl;obtain⟨r,g1,q⟩:=Yf H (X:=Z+cm k) (ls:=ls) (g:=[]) (hs:=[]) (p:=p) ⟨λ f hf=>by have:=hS.lb f hf;exact⟨by omega,this.2.1,by omega⟩,(λ f hf=>nomatch hf),(λ s hs'=>nomatch hs'),Nat.zero_le _,Nat.zero_le _,by omega,by have:=hp.cnt;omega,hp.tsz,hp.mx,by rw [hc];omega⟩;exact⟨r,g1,λ f u e=>by
  obtain⟨_,k2,k3,_,⟨j,j1,j2,j3,_⟩,_⟩:=q f u e;exact⟨k2,k3,j,j1,j2,j3⟩⟩
theorem a9 (H:MF) {L:List Int} (hL:Dk L) {ls:List Fm} {a:Nat} (hS:S19 PA ls [] []) (hl:∀ f∈ls,f.chk=0/\f.ty []) (ha:a<=L.length):∃ (p:Pf) (f:Fm) (u:List Nat) (b:Nat),PG (cp 2) (PA+cm 2) (2+2) p/\RQ ls p f/\b<=L.length /\
  O 15 [.loc 0 0,.pv (fA ls),.pv (VA [] []),.pv (num 2)] [(0,dk L a)] (.pv (.tuple [p.p,(PR.ok f u).v])) [(0,dk L b)]:=by
 have hm:=jA;have hz:PA+cm 2<=281474976710656:=by decide
 have h3:=zH H hL 2 (by omega);have hll:=hS.ll;obtain⟨p1,b1,q1,hb1,g1⟩:=h3 PA ls [] [] a hS hz ha;obtain⟨r1,k1,z1⟩:=zU H hS q1 (by omega) hz
 cases r1 with
 | ok f u=>exact⟨p1,f,u,b1,q1,z1 f u rfl,hb1,o2 1 [(22,.D L b1 (.pv p1.p)),(27,.r (PR.ok f u).p)] g1 k1⟩
 | er n1 =>
 obtain⟨p2,b2,q2,hb2,g2⟩:=h3 PA ls [] [] b1 hS hz hb1;obtain⟨r2,k2,z2⟩:=zU H hS q2 (by omega) hz
 cases r2 with
 | ok f u=>exact⟨p2,f,u,b2,q2,z2 f u rfl,hb2,o4 1 [(22,.D L b1 (.pv p1.p)),(27,.r (PR.er n1).p),(22,.D L b2 (.pv p2.p)),(27,.r (PR.ok f u).p)] g1 k1 g2 k2⟩
 | er n2 =>
 obtain⟨p3,b3,q3,hb3,g3⟩:=h3 PA ls [] [] b2 hS hz hb2;obtain⟨r3,k3,z3⟩:=zU H hS q3 (by omega) hz
 cases r3 with
 | ok f u=>exact⟨p3,f,u,b3,q3,z3 f u rfl,hb3,o6 1 [(22,.D L b1 (.pv p1.p)),(27,.r (PR.er n1).p),(22,.D L b2 (.pv p2.p)),(27,.r (PR.er n2).p),(22,.D L b3 (.pv p3.p)),(27,.r (PR.ok f u).p)] g1 k1 g2 k2 g3 k3⟩
 | er n3 =>
 obtain⟨p4,b4,q4,hb4,g4⟩:=h3 PA ls [] [] b3 hS hz hb3;obtain⟨r4,k4,z4⟩:=zU H hS q4 (by omega) hz
 cases r4 with
 | ok f u=>exact⟨p4,f,u,b4,q4,z4 f u rfl,hb4,o8 1 [(22,.D L b1 (.pv p1.p)),(27,.r (PR.er n1).p),(22,.D L b2 (.pv p2.p)),(27,.r (PR.er n2).p),(22,.D L b3 (.pv p3.p)),(27,.r (PR.er n3).p),(22,.D L b4 (.pv p4.p)),(27,.r (PR.ok f u).p)] g1 k1 g2 k2 g3 k3 g4 k4⟩
 | er n4 =>
 obtain⟨y,b5,hy,hb5,g5⟩:=nx hL hb4 (n:=4) (by omega) (by omega);have qr:PG (cp 2) (PA+cm 2) (2+2) (.refl (TA y))/\(TA y).chk=0/\(Fm.eq (TA y) (TA y)).chk=0:=by
  rcases y with _|_|_|_|y
  ·exact⟨⟨by decide,by decide,by decide,λ _=>Nat.zero_le _⟩,rfl,rfl⟩
  ·exact⟨⟨by decide,by decide,by decide,λ _=>Nat.zero_le _⟩,rfl,rfl⟩
  ·exact⟨⟨by decide,by decide,by decide,λ _=>Nat.zero_le _⟩,rfl,rfl⟩
  ·exact⟨⟨by decide,by decide,by decide,λ _=>Nat.zero_le _⟩,rfl,rfl⟩
  ·omega
 obtain⟨qr,qc,qe⟩:=qr;have k5:=pu (by omega) hl qc qe (LN [] y);exact⟨.refl (TA y),.eq (TA y) (TA y),[],b5,qr,⟨qc,Nat.le_trans (Nat.add_le_add_left (Tm.chk0 qc).1 1) (by omega),.refl (TA y),rfl,rfl,qe,qc,LN [] y⟩,hb5,iI 1 [(22,.D L b1 (.pv p1.p)),(27,.r (PR.er n1).p),(22,.D L b2 (.pv p2.p)),(27,.r (PR.er n2).p),(22,.D L b3 (.pv p3.p)),(27,.r (PR.er n3).p),(22,.D L b4 (.pv p4.p)),(27,.r (PR.er n4).p),(36,.D L b5 (.pv (num y))),(37,.r (TA y).p),(38,.r (Pf.refl (TA y)).p),(43,.r (PR.ok (.eq (TA y) (TA y)) []).p)] g1 k1 g2 k2 g3 k3 g4 k4 g5 (VH hy) (rB (TA y)) k5⟩
abbrev sT:Tm:=.n1 .succ (.v 0)
abbrev sF:Fm:=.q .ex .nat (.eq (.v 0) (.n1 .succ (.v 1)))
abbrev sP:Pf:=.all false .nat (.ex false sF sT (.refl sT))
abbrev sJ:Jt:=.all false .nat (.ex false sF sT (.refl sT))
abbrev sR:Tm:=.lam .nat sT
theorem ru:A 12 [] sP.p:=f0 []
abbrev kX:PV:=.tuple [.agg [num 4,num 1,.slice [],.slice [],.slice [sF.c],.slice []],num 0]
theorem au:A 35 [fA [],VA [] [],sP.p] kX:=by
 have e:(kX=kX)=wW ev Tryz.prog 100 40 35 [fA [],VA [] [],sP.p] [] kX:=by kernel_rfl
 exact Db tH (e ▸ rfl)
theorem cu:sJ.OK [] 0 []:=by
 have h1:FK 1 sF:=⟨by decide,rfl,by simp [Fm.sc,Tm.sc]⟩;have h2:TK 1 sT:=⟨by decide,rfl,by simp [Tm.sc]⟩;have h3:FK 1 (.eq sT sT):=⟨by decide,rfl,by simp [Fm.sc,Tm.sc]⟩;exact⟨by decide,⟨by decide,rfl,h1.sc⟩,h1,h2,⟨h2,h3⟩,⟨.nat,rfl⟩,rfl⟩
theorem iu:A 18 [fA [],VA [] [],sP.p] (.tuple [sJ.ptr [],num 0]):=by
 have g2:=HD (ls:=[]) sJ 0 [] (by simp) (by decide) (by decide) cu;exact f2 [(14,.r kX),(24,.r (sJ.ptr []))] au g2
theorem ou:A 37 [zB [],sJ.ptr [],(ZB 0 0).p] (XR.ok sR).p:=by
 have hS:=(WX 0 0).bind.var (t:=.v 0) (WD (by decide));have gp:=GT ((ZB 0 0).bind.var (.v 0)) sT 1 hS.vl.symm hS.ve (by decide) (by decide) ⟨by decide,rfl,by simp [Tm.sc]⟩;have g:=Mf (tl:=[]) (hs:=[]) (a:=.refl sT) (x:=sF) (y:=.eq sT sT) (w:=sT) rfl gp;exact Kf (tl:=[]) (hs:=[]) (u:=.nat) (a:=.ex false sF sT (.refl sT)) (y:=sF) (QH (ZB 0 0) (by decide)) (RH (ZB 0 0).bind (.v 0) (by decide)) g (by decide)
theorem xu:A 8 [fA [],row [],VA [] [],sP.p] (XR.ok sR).p:=by
 have g2:A 13 [fA [],row []] (num 0):=f0 [];have g3:A 20 [VA [] []] (ZB 0 0).p:=Sf [] (by decide);have g5:A 19 [row [],sJ.ptr [],(ZB 0 0).p] (XR.ok sR).p:=f1 [(12,.r (XR.ok sR).p)] ou;exact f4 [(17,.U [sJ.ptr [],num 0]),(26,.N 0),(40,.r (ZB 0 0).p),(41,.r (XR.ok sR).p)] iu g2 g3 g5
theorem a4:A 4 [] (.bool true):=by
 have g2:A 13 [fA [],row []] (num 0):=f0 [];exact f3 [(5,.r sP.p),(6,.r (XR.ok sR).p),(31,.N 0)] ru xu g2
end Go.Proofs.YtmkajedkflhbgaaGreatDoor
namespace Go.Lg
theorem Ga.swapO {C:Ctx} {E:Env} {σ:St} {a:Act} {w:World} (h:Ga C E σ a w) {n:Nat} {o o':Ob} (hn:zA σ.objs n=some o) (ho:ObOK E w n o') (hu:∀ m∈o'.names,m∈σ.used):Ga C E ⟨σ.slots,kB σ.objs n o',σ.used⟩ a w:=by
 have hg:∀ m,zA (kB σ.objs n o') m=if m=n then some o' else zA σ.objs m:=λ m=>QC _ _ _ _
 have hs:∀ m q,zA (kB σ.objs n o') m=some q->∃ q',zA σ.objs m=some q':=λ m q h=>by
  rw [hg] at h;split at h
  ·rename_i e;subst e;exact⟨o,hn⟩
  ·exact⟨q,h⟩
 refine⟨h.slots,h.size,h.defers,h.heap,?_,?_,h.usedS,?_,h.usedG,h.grown,h.rest,h.same,h.hle,?_,h.ext,?_⟩
 ·intro m q hm;simp only [hg] at hm;split at hm
  ·rename_i e;cases hm;subst e;exact ho
  ·exact h.objs m q hm
 ·intro m m' q q' hm hm' hne b hb;obtain⟨p,hp⟩:=hs m q hm;obtain⟨p',hp'⟩:=hs m' q' hm';exact h.apart m m' p p' hp hp' hne b hb
 ·intro m q hm;simp only [hg] at hm;split at hm
  ·rename_i e;cases hm;subst e;exact⟨(h.usedO _ _ hn).1,hu⟩
  ·exact h.usedO m q hm
 ·intro m q b hm hb hlt;obtain⟨p,hp⟩:=hs m q hm;exact h.own m p b hp hb hlt
 ·intro m hm;obtain⟨k1,k2,k3⟩:=h.keep m hm;refine⟨k1,?_,k3⟩;simp only [hg];split
  ·rename_i e;subst e;rw [hn] at k2;cases k2
  ·exact k2
theorem Ga.slotW {C:Ctx} {E:Env} {σ:St} {a:Act} {w:World} (h:Ga C E σ a w) {d:Nat} {x:V} {v:Value} (hx:RepV E x v) (hn:∀ n∈x.names,n∈σ.used) (hd:d<C.nt):Ga C E ⟨(d,x)::σ.slots,σ.objs,σ.used⟩ (a.put (some d) v) w :=
 h.pure E.H (some d) x v (Hle.refl _) (Nat.le_refl _) ⟨rfl,rfl,rfl⟩ (λ _ _=>⟨rfl,rfl⟩) h.heap hx hn (λ _ e=>by cases e;exact hd)
theorem nQ {C:Ctx} {E:Env} {σ:St} {a:Act} {w:World} (h:Ga C E σ a w) {d:Nat} (hd:d<C.nt) (v:Value):(a.put (some d) v).eval (.tmp d)=v:=by
 have:d<a.tmps.size:=by rw [h.size];exact hd
 simp [Act.put,Act.eval,this]
section
variable {X:NA} {id:Nat} {σ:St} {Q:AB->St->Prop} {t1 t2 t3:Nat} {p1 p2 p3:String} {f1 f2 f3:Array Edge}
theorem AWP.range {n r b ck t kt vt:Nat} {ms:Array MapEntry} {s d1 d2:Nat} (hs:JA σ.slots s = .map n) (ho:zA σ.objs n=some (.raw (.map (some b)) (.map ms ck))) (hr:r ∉ σ.used) (hu:X.P.underlying t=some (.map kt vt)) (h1:d1<X.nt) (h2:d2<X.nt)
  (hQ:∀ rb,Q .normal ⟨(d2,.loc r 0)::(d1,.map n)::σ.slots,kB σ.objs r (.raw (.pointer (some ⟨rb,0,none⟩)) (.mapIter (some b) ck #[] ck)),r::σ.used⟩) :
  AWP X (.region id #[⟨some d1,.move (.tmp s),t1,p1,f1,none⟩,⟨some d2,.range t (.tmp d1),t2,p2,f2,none⟩] false) σ Q:=by
 intro C E a w hC hG;have hd1:d1<C.nt:=by rw [hC.nt];exact h1
 have hd2:d2<C.nt:=by rw [hC.nt];exact h2
 have hv:=hG.slots s;rw [hs] at hv;simp only [RepV] at hv;obtain⟨b',hg,hv⟩:=hv;obtain⟨hg',b0,hb0,hcell,hfree⟩:=hG.objs n _ ho;rw [hg'] at hg;cases hg;cases hb0;have hG1:Ga C E ⟨(d1,.map n)::σ.slots,σ.objs,σ.used⟩ (a.put (some d1) (a.eval (.tmp s))) w:=hG.slotW (x:=.map n) (v:=a.eval (.tmp s)) (by
  simp only [RepV];exact⟨b,hg',hv⟩) (λ m hm=>by
   have:=hG.usedS s;rw [hs] at this;exact this m hm) hd1
 have hv1:(a.put (some d1) (a.eval (.tmp s))).eval (.tmp d1) = .map (some b):=by rw [nQ hG hd1];exact hv
 have hrun:=run_range_map (P:=X.P) w t kt vt b ms ck hu hcell;refine wp_region_list ?_;refine wpList_plain rfl λ K hK => ?_
 refine OpRes.wp (v:=a.eval (.tmp s)) (w':=w) (.inl (by simp [execOp])) (hK _ _ ?_);refine wpList_plain rfl λ K hK => ?_
 refine OpRes.wp (v:=.pointer (some ⟨w.heap.size,0,none⟩)) (w':=w.alloc (.mapIter (some b) ck #[] ck)) (.inl (by
  simp only [execOp,hv1,Sem.run_bind,hrun,Result.andThen_ok,Sem.run_pure])) (hK _ _ ?_)
 let E':Env:={ E with g:=λ m=>if m=r then .pointer (some ⟨w.heap.size,0,none⟩) else E.g m };have hgr:E'.g r = .pointer (some ⟨w.heap.size,0,none⟩):=by simp [E']
 have hE:∀ m,m≠r->E'.g m=E.g m/\E'.ver m=E.ver m/\E'.sz m=E.sz m:=λ m hm=>⟨by simp [E',hm],rfl,rfl⟩
 refine⟨E',_,.normal,?_,rfl,hQ w.heap.size⟩;refine hG1.change (E':=E') r (some (.raw (.pointer (some ⟨w.heap.size,0,none⟩)) (.mapIter (some b) ck #[] ck))) _ (r::σ.used) (some d2) (.loc r 0) _ (λ m=>QC _ _ _ _) (Hle.refl _) hE (λ hk=>absurd hk hr) (λ hk=>absurd hk hr)
  (by simp) ⟨rfl,rfl,rfl⟩ (λ b hb _=>⟨@heap_alloc_old w _ b hb,rfl⟩) (dO hG1.heap _ E' rfl) ?_ ?_ (λ m hm=>by simp [hm]) ?_ ?_ (λ _ e=>by cases e;exact hd2)
 ·intro o' e;cases e;exact⟨⟨hgr,w.heap.size,rfl,heap_alloc_new w _,hG1.heap.lt (Nat.le_refl _)⟩,by simp,by simp [Ob.names]⟩
 ·intro o' b e hb;rw [hgr] at hb;simp [xA] at hb;omega
 ·exact⟨_,hgr,rfl⟩
 ·simp [V.names]
theorem AWP.next {n r b rb ck since c0:Nat} {ms:Array MapEntry} {seen:Array Nat} {s d1 d2:Nat} (hne:n≠r) (hs:JA σ.slots s = .loc r 0) (ho:zA σ.objs n=some (.raw (.map (some b)) (.map ms ck))) (hi:zA σ.objs r=some (.raw (.pointer (some ⟨rb,0,none⟩)) (.mapIter (some b) since seen c0)))
  (hold:∀ x∈ms.toList,x.born<since) (hsc:since<=c0) (h1:d1<X.nt) (h2:d2<X.nt)
  (hQ0:(leftOf ms seen).size=0->Q .normal ⟨(d2,.pv (.bool false))::(d1,.undef)::σ.slots,σ.objs,σ.used⟩)
  (hQ1:∀ e∈(leftOf ms seen).toList,Q .normal ⟨(d2,.pv (.bool true))::(d1,.undef)::σ.slots,kB σ.objs r (.raw (.pointer (some ⟨rb,0,none⟩)) (.mapIter (some b) since (seen.push e.born) ck)),σ.used⟩) :
  AWP X (.region id #[⟨some d1,.next (.tmp s) false,t1,p1,f1,none⟩,⟨some d2,.extract (.tmp d1) 0,t2,p2,f2,none⟩] false) σ Q:=by
 intro C E a w hC hG;have hd1:d1<C.nt:=by rw [hC.nt];exact h1
 have hd2:d2<C.nt:=by rw [hC.nt];exact h2
 have hv:=hG.slots s;rw [hs] at hv;simp only [RepV] at hv;obtain⟨b1,hg1,hv⟩:=hv;obtain⟨hgm,b2,hb2,hcell,hfree⟩:=hG.objs n _ ho;obtain⟨hgr,b3,hb3,hcr,hfr⟩:=hG.objs r _ hi;rw [hgr] at hg1;cases hg1;cases hb2;cases hb3;have hbr:b≠rb:=λ e=>hG.apart n r _ _ ho hi hne b (by rw [hgm];rfl) (by rw [hgr,e];rfl)
 have hrl:rb<w.heap.size:=(Array.getElem?_eq_some_iff.1 hcr).1;have hv:a.eval (.tmp s) = .pointer (some ⟨rb,0,none⟩):=hv;refine wp_region_list ?_;refine wpList_plain rfl λ K hK => ?_
 rcases run_next_at (P:=X.P) w t1 rb b since c0 seen ms ck hcr hcell hold hsc with ⟨h0,hrun⟩|⟨e,he,w1,hal,hrun⟩
 ·refine OpRes.wp (v:=.tuple #[.bool false]) (w':=w) (.inl (by simp only [execOp,hv,Sem.run_bind,hrun,Result.andThen_ok,Sem.run_pure])) (hK _ _ ?_);have hG1:Ga C E ⟨(d1,.undef)::σ.slots,σ.objs,σ.used⟩ (a.put (some d1) (.tuple #[.bool false])) w:=hG.slotW (x:=.undef) trivial (λ m hm=>by cases hm) hd1;refine wpList_plain rfl λ K hK => ?_
  refine OpRes.wp (v:=.bool false) (w':=w) (.inl (by simp only [execOp,nQ hG hd1];rfl)) (hK _ _ ?_);exact⟨E,_,.normal,hG1.slotW (x:=.pv (.bool false)) (by simp [RepV,RepP]) (λ m hm=>by cases hm) hd2,rfl,hQ0 h0⟩
 ·have hw1:w1.heap=w.heap/\w1.os=w.os/\w1.tape=w.tape/\w1.output=w.output:=by rcases hal with rfl|rfl<;>exact⟨rfl,rfl,rfl,rfl⟩
  refine OpRes.wp (v:=.tuple #[.bool true,e.key,e.val]) (w':=ChangeMaps.setBlock w1 rb (.mapIter (some b) since (seen.push e.born) ck)) (.inl (by simp only [execOp,hv,Sem.run_bind,hrun,Result.andThen_ok,Sem.run_pure])) (hK _ _ ?_);have hset:∀ i,(ChangeMaps.setBlock w1 rb (.mapIter (some b) since (seen.push e.born) ck)).heap[i]? = if i=rb then some (.mapIter (some b) since (seen.push e.born) ck) else w.heap[i]?:=by
   intro i;simp only [ChangeMaps.setBlock,hw1.1];by_cases hi:i=rb
   ·subst hi;simp [hrl]
   ·rw [if_neg hi,Array.getElem?_setIfInBounds_ne (λ h=>hi h.symm)]
  have hG1:Ga C E ⟨(d1,.undef)::σ.slots,kB σ.objs r (.raw (.pointer (some ⟨rb,0,none⟩)) (.mapIter (some b) since (seen.push e.born) ck)),σ.used⟩ (a.put (some d1) (.tuple #[.bool true,e.key,e.val])) (ChangeMaps.setBlock w1 rb (.mapIter (some b) since (seen.push e.born) ck)):=by
   refine hG.change (E':=E) r (some (.raw (.pointer (some ⟨rb,0,none⟩)) (.mapIter (some b) since (seen.push e.born) ck))) _ σ.used (some d1) .undef _ (λ m=>QC _ _ _ _) (Hle.refl _) (λ _ _=>⟨rfl,rfl,rfl⟩) (λ _=>EExt.refl _ _) (λ _=>⟨_,hi⟩)
    (by simp [ChangeMaps.setBlock,hw1.1]) ⟨hw1.2.1,hw1.2.2.1,hw1.2.2.2⟩ (λ i hlt hne'=>⟨by rw [hset,if_neg (λ h=>hne' _ hi (by rw [hgr,h];rfl))],rfl⟩) ?_ ?_ ?_ (λ _ h=>h) trivial (λ m hm=>by cases hm) (λ _ e=>by cases e;exact hd1)
   ·intro i hi';have:i≠rb:=λ h=>hi' (h ▸ hfr)
    obtain⟨c,T',fr,hc,hp⟩:=hG.heap i hi';exact⟨c,T',fr,by rw [hset,if_neg this];exact hc,hp⟩
   ·intro o' e';cases e';exact⟨⟨hgr,rb,rfl,by rw [hset,if_pos rfl],hfr⟩,(hG.usedO r _ hi).1,by simp [Ob.names]⟩
   ·intro o' b' e' hb';exact .inr ⟨hb',_,hi⟩
  refine wpList_plain rfl λ K hK => ?_
  refine OpRes.wp (v:=.bool true) (w':=_) (.inl (by simp only [execOp,nQ hG hd1];rfl)) (hK _ _ ?_);exact⟨E,_,.normal,hG1.slotW (x:=.pv (.bool true)) (by simp [RepV,RepP]) (λ m hm=>by cases hm) hd2,rfl,hQ1 e he⟩
theorem AWP.entry {n r b rb ck since:Nat} {ms:Array MapEntry} {seen:Array Nat} {e:MapEntry} {z:Int} {s d1 d2 d3:Nat} (hs:JA σ.slots s = .loc r 0) (ho:zA σ.objs n=some (.raw (.map (some b)) (.map ms ck))) (hi:zA σ.objs r=some (.raw (.pointer (some ⟨rb,0,none⟩)) (.mapIter (some b) since (seen.push e.born) ck)))
  (he:e∈ms.toList) (hnd:(ms.toList.map (·.born)).Nodup) (hz:e.key = .int .i64 z) (h1:d1<X.nt) (h2:d2<X.nt) (h3:d3<X.nt)
  (hQ:Q .normal ⟨(d3,.pv (.int z))::(d2,.pv (.int z))::(d1,.undef)::σ.slots,σ.objs,σ.used⟩) :
  AWP X (.region id #[⟨some d1,.entry (.tmp s),t1,p1,f1,none⟩,⟨some d2,.extract (.tmp d1) 0,t2,p2,f2,none⟩,⟨some d3,.assign (.tmp d2),t3,p3,f3,none⟩] false) σ Q:=by
 intro C E a w hC hG;have hd1:d1<C.nt:=by rw [hC.nt];exact h1
 have hd2:d2<C.nt:=by rw [hC.nt];exact h2
 have hd3:d3<C.nt:=by rw [hC.nt];exact h3
 have hv:=hG.slots s;rw [hs] at hv;simp only [RepV] at hv;obtain⟨b1,hg1,hv⟩:=hv;obtain⟨hgm,b2,hb2,hcell,hfree⟩:=hG.objs n _ ho;obtain⟨hgr,b3,hb3,hcr,hfr⟩:=hG.objs r _ hi;rw [hgr] at hg1;cases hg1;cases hb2;cases hb3;have hv:a.eval (.tmp s) = .pointer (some ⟨rb,0,none⟩):=hv;have hrun:=run_entry_at (P:=X.P) w rb b since seen ms ck e hcr hcell he hnd;refine wp_region_list ?_;refine wpList_plain rfl λ K hK => ?_
 refine OpRes.wp (v:=.tuple #[e.key,e.val]) (w':=w) (.inl (by simp only [execOp,hv,Sem.run_bind,hrun,Result.andThen_ok,Sem.run_pure])) (hK _ _ ?_);have hG1:Ga C E ⟨(d1,.undef)::σ.slots,σ.objs,σ.used⟩ (a.put (some d1) (.tuple #[e.key,e.val])) w:=hG.slotW (x:=.undef) trivial (λ m hm=>by cases hm) hd1;refine wpList_plain rfl λ K hK => ?_
 refine OpRes.wp (v:=.int .i64 z) (w':=w) (.inl (by simp only [execOp,nQ hG hd1,hz];rfl)) (hK _ _ ?_);have hG2:=hG1.slotW (d:=d2) (x:=.pv (.int z)) (v:=.int .i64 z) (by simp [RepV,RepP]) (λ m hm=>by cases hm) hd2;refine wpList_plain rfl λ K hK => ?_
 refine OpRes.wp (v:=.int .i64 z) (w':=w) (.inl (by simp only [execOp,nQ hG1 hd2];rfl)) (hK _ _ ?_);exact⟨E,_,.normal,hG2.slotW (x:=.pv (.int z)) (by simp [RepV,RepP]) (λ m hm=>by cases hm) hd3,rfl,hQ⟩
end
end Go.Lg
namespace Go.Proofs.YtmkajedkflhbgaaGreatDoor
open Go.Lg
set_option maxRecDepth 100000
abbrev vN (L:List Nat):List (List V):=vA (L.map ic)
theorem lY (A B:List Nat) (x:Nat):QB (vN (A++x::B)) A.length=some [.pv (num x)]:=by
 rw [BG,Cj];simp [ic,oA]
theorem rg (A:List Nat):(vN A).length=A.length:=by simp [vN,vA]
theorem sg (A B:List Nat) (x y:Nat):(vN (A++x::B)).set A.length [.pv (num y)]=vN (A++y::B):=by
 simp only [vN,vA,List.map_append,List.map_cons];rw [show A.length=(List.map oA (List.map ic A)).length by simp,List.set_append_right _ _ (Nat.le_refl _),Nat.sub_self];rfl
theorem mY {n v k len:Nat} {es:List (List V)} (h1:k<len:=by omega) (h2:len<=es.length:=by omega):ro (bif Nat.beq v v then (bif Nat.blt k len then (bif Nat.beq 1 1 then (bif Nat.ble len es.length then some (V.eloc n v k 0) else none) else none) else none) else none)=some ⟨.eloc n v k 0,none,false⟩:=by
 rw [vE rfl,show Nat.blt k len=true from Nat.ble_eq_true_of_le h1,show Nat.ble len es.length=true from Nat.ble_eq_true_of_le h2];rfl
theorem Au {v k:Nat} {es:List (List V)} {x:V} (h:QB es k=some [x]):ro (match QB es k with
   | some e=>bif Nat.beq v v then EO false 1 (AJ e 0) else none
   | none=>none)=some ⟨x,none,false⟩:=by
 rw [h,vE rfl];rfl
theorem tg {n v k:Nat} {es es':List (List V)} {x y:V} (h:QB es k=some [x]) (h':es.set k [y]=es'):(bif Nat.beq v v then (bif Nat.ble (0+1) 1 then (match QB es k with
    | some e=>some (⟨.undef,some (n,.arr v 1 3 (es.set k (qD e 0 [y]))),false⟩:RB)
    | none=>none) else none) else none)=some ⟨.undef,some (n,.arr v 1 3 es'),false⟩:=by
 rw [h,vE rfl];subst h';rfl
theorem Bu {a:Nat} (h:a<=dA:=by omega):rA (Int.ofNat (a+1)-1)=true/\Int.ofNat (a+1)-1 = .ofNat a:=by
 have e:Int.ofNat (a+1)-1 = .ofNat a:=by simp
 exact⟨by rw [e];exact qN (by simp;try omega) (by have:=h;simp [dA] at *;omega),e⟩
abbrev bM (mv:Value) (mo:Obj) (iv:Value) (io:Obj) (v:Nat) (L:List Nat):List (Nat × Ob):=[(0,.raw mv mo),(1,.raw iv io),(2,.arr v 1 3 (vN L))]
abbrev RN (v len n i:Nat):List (Nat × V):=[(3,.arr 2 v len),(4,.pv (num n)),(5,.pv (num i)),(7,.loc 1 0)]
abbrev SN:Kp:=⟨[3,4,5,7],[0,1,2],3,[]⟩
section
variable {mv iv:Value} {mo io:Obj} {n v len:Nat}
theorem cg:∀ (k:Nat) (A:List Nat) (y:Nat) (B:List Nat),A.length=k->len=A.length+1+B.length->len<=dA ->
  ∃ (A':List Nat) (y':Nat) (B':List Nat),A'++B'=A++B/\(∀ x∈B',x∈B\/n<x)/\(∀ h:A'≠[],A'.getLast h<=n) /\
   Lp 44 1 1 (st (RN v len n A.length) (bM mv mo iv io v (A++y::B)) 3 []) (.exit 2) (st (RN v len n A'.length) (bM mv mo iv io v (A'++y'::B')) 3 [])
 | 0,A,y,B,hk,hl,hb=>by
  have e:A=[]:=List.length_eq_zero_iff.1 hk;subst e;exact⟨[],y,B,rfl,λ x hx => .inl hx,λ h=>absurd rfl h,y1 [(19,.H)] SN (CA (Nat.le_refl 0)) (MC ((y::B).map ic))⟩
 | k+1,A,y,B,hk,hl,hb=>by
  have hne:A≠[]:=λ e=>by subst e;cases hk
  obtain⟨A0,x,rfl⟩:∃ A0 x,A=A0++[x]:=⟨A.dropLast,A.getLast hne,(List.dropLast_concat_getLast hne).symm⟩;have e0:A0.length=k:=by simpa using hk
  have el:(A0++[x]).length=A0.length+1:=by simp
  have ea:A0++[x]++y::B=A0++x::y::B:=by simp
  have gl:(vN (A0++x::y::B)).length=len:=by rw [rg];simp at hl ⊢;omega
  rw [el] at hl ⊢;rw [ea];have g1:=aA (show 0<A0.length+1 by omega);have g2:=Bu (a:=A0.length);have g3:=mY (n:=2) (v:=v) (k:=A0.length) (len:=len) (es:=vN (A0++x::y::B));have g4:=Au (v:=v) (lY A0 (y::B) x);by_cases hx:n<x
  ·obtain⟨A',y',B',h1,h2,h3,ih⟩:=cg k A0 x (x::B) e0 (by simp;omega) hb;have g6:=mY (n:=2) (v:=v) (k:=A0.length+1) (len:=len) (es:=vN (A0++x::y::B));have g7:=tg (n:=2) (v:=v) (k:=A0.length+1) (es:=vN (A0++x::y::B)) (es':=vN (A0++x::x::B)) (y:=.pv (num x)) (by
    have:=lY (A0++[x]) B y;simpa using this) (by
    have:=sg (A0++[x]) B y x;simpa using this)
   refine⟨A',y',B',by simpa using h1,λ z hz => ?_,h3,?_⟩
   ·rcases h2 z hz with h|h
    ·rcases List.mem_cons.1 h with rfl|h
     ·exact .inr hx
     ·exact .inl h
    ·exact .inr h
   ·exact rk [(19,.G),(23,.z A0.length),(24,.w ⟨.eloc 2 v A0.length 0,none,false⟩),(25,.w ⟨.pv (num x),none,false⟩),(27,.G),(33,.z A0.length),(34,.w ⟨.eloc 2 v A0.length 0,none,false⟩),(35,.w ⟨.pv (num x),none,false⟩),(36,.w ⟨.eloc 2 v (A0.length+1) 0,none,false⟩),(99999,.w ⟨.undef,some (2,.arr v 1 3 (vN (A0++x::x::B))),false⟩),(38,.z A0.length)] SN SN (And.intro g1 (And.intro g2 (And.intro g3 (And.intro g4 (And.intro (aA hx) (And.intro g2 (And.intro g3 (And.intro g4 (And.intro g6 (And.intro g7 (And.intro g2 (And.intro (MC ((A0++x::x::B).map ic)) ih))))))))))))
  ·refine⟨A0++[x],y,B,by simp,λ z hz => .inl hz,λ _=>by simp;omega,?_⟩;rw [el,ea];exact y5 [(19,.G),(23,.z A0.length),(24,.w ⟨.eloc 2 v A0.length 0,none,false⟩),(25,.w ⟨.pv (num x),none,false⟩),(27,.H)] SN g1 g2 g3 g4 (CA (show x<=n by omega)) (MC ((A0++x::y::B).map ic))
end
end Go.Proofs.YtmkajedkflhbgaaGreatDoor
namespace Go.Lg
section
variable {ev:jB} {P:Program}
def nY (ev:jB) (P:Program) (n N nt bs:Nat) (b:Code) (s:IS) (tp:Di) (ko:Kp) (e:AE) (s':IS):Prop :=
 yE ev P (MJ ev P N n) N nt bs b s tp λ e1 s1 _=>e1=e/\gd (rI ko bs s1) (wF s1.ob ko.on (HF ko s1=s'))
theorem Reach.of_go (he:KJ ev P) {n N nt bs:Nat} {b:Code} {s s':IS} {tp:Di} {ko:Kp} {e:AE} (h:nY ev P n N nt bs b s tp ko e s'):Reach ev P nt bs b s e s':=by
 obtain⟨e1,s1,OA,h1,rfl,h2⟩:=vD (SM he N n) _ _ _ _ h;obtain⟨hk,h2⟩:=QD h2;obtain⟨h2,ha⟩:=lH h2;exact h2 ▸ h1.keep (BL hk ha)
theorem Rel.slotT {s:IS} {σ:St} (h:Rel s σ) (d:Nat) (x:V):Rel ⟨s.sl.put d (some x),s.ob,s.nx,s.dt⟩ ⟨(d,x)::σ.slots,σ.objs,σ.used⟩:=by
 refine⟨λ t => ?_,h.ob,h.us⟩;show (if d=t then x else JA σ.slots t)=_;rw [Tr.get_put];by_cases e:t=d
 ·subst e;simp
 ·rw [if_neg e,if_neg (λ h=>e h.symm)];exact h.sl t
theorem Rel.objT {s:IS} {σ:St} (h:Rel s σ) (n:Nat) (o:Ob):Rel ⟨s.sl,s.ob.put n (some o),s.nx,s.dt⟩ ⟨σ.slots,kB σ.objs n o,σ.used⟩:=by
 refine⟨h.sl,λ m => ?_,h.us⟩;show zA (kB σ.objs n o) m=_;rw [QC,Tr.get_put];by_cases e:m=n
 ·rw [if_pos e,if_pos e]
 ·rw [if_neg e,if_neg e];exact h.ob m
theorem Rel.newT {s:IS} {σ:St} (h:Rel s σ) (o:Ob):Rel ⟨s.sl,s.ob.put s.nx (some o),s.nx+1,s.dt⟩ ⟨σ.slots,kB σ.objs s.nx o,s.nx::σ.used⟩:=by
 have:=h.objT s.nx o;exact⟨this.sl,this.ob,λ m hm=>by
  rcases List.mem_cons.1 hm with rfl|hm
  ·exact Nat.lt_succ_self _
  ·exact Nat.lt_succ_of_lt (h.us m hm)⟩
theorem Rel.keep {nt bs:Nat} {X:NA} (hX:HX X ev P nt bs) {s s':IS} {σ:St} (h:Rel s σ) (k:Kp) (hk:rI k bs s=true) (ha:wF s.ob k.on True) (he:HF k s=s'):∃ τ,oL X σ τ/\Rel s' τ:=he ▸ (BL hk (lH ha).2).wk hX h
end
end Go.Lg
namespace Go.Proofs.YtmkajedkflhbgaaGreatDoor
open Go.Lg
set_option maxRecDepth 100000
def cs1:Code->Code
 | .seq a _=>a
 | c=>c
def cs2:Code->Code
 | .seq _ b=>b
 | c=>c
def eg:Code->Code
 | .block _ b=>b
 | .loop b=>b
 | c=>c
noncomputable def wJ:Code:=OW 44 0
noncomputable def ig:Code:=cs1 wJ
noncomputable def pY:Code:=cs1 (cs2 wJ)
noncomputable def rY:Code:=cs1 (eg (cs2 (cs2 wJ)))
noncomputable def sY:Code:=cs2 (eg (cs2 (cs2 wJ)))
theorem Cu:wJ = .seq ig (.seq pY (.block 1 (.seq rY sY))):=by kernel_rfl
theorem Du:∃ i t1 t2 p1 p2 f1 f2,ig = .region i #[⟨some 8,.next (.tmp 7) false,t1,p1,f1,none⟩,⟨some 9,.extract (.tmp 8) 0,t2,p2,f2,none⟩] false:=⟨_,_,_,_,_,_,_,rfl⟩
theorem Eu:∃ i t1 t2 t3 p1 p2 p3 f1 f2 f3,rY = .region i #[⟨some 10,.entry (.tmp 7),t1,p1,f1,none⟩,⟨some 11,.extract (.tmp 10) 0,t2,p2,f2,none⟩,⟨some 4,.assign (.tmp 11),t3,p3,f3,none⟩] false:=⟨_,_,_,_,_,_,_,_,_,_,rfl⟩
noncomputable def tG:Code:=match (fnc 44).body with
 | some c=>c
 | none => .skip
theorem Fu:tG = .seq (cs1 tG) (.seq (cs1 (cs2 tG)) (.seq (.seq (cs1 (cs1 (cs2 (cs2 tG)))) (.block 0 (.loop wJ))) (cs2 (cs2 (cs2 tG))))):=by kernel_rfl
theorem Gu:∃ i t1 t2 p1 p2 f1 f2,cs1 (cs1 (cs2 (cs2 tG))) = .region i #[⟨some 6,.move (.tmp 0),t1,p1,f1,none⟩,⟨some 7,.range 108 (.tmp 6),t2,p2,f2,none⟩] false:=⟨_,_,_,_,_,_,_,rfl⟩
theorem tY:(fnc 44).ntmps=44:=by kernel_rfl
abbrev Rc (bs f:Nat) (c:Code) (s:IS) (e:AE) (s':IS):Prop:=Go.Lg.Reach ev Tryz.prog (fnc f).ntmps bs c s e s'
section
variable {f bs:Nat} {c:Code} {s s':IS} {e:AE}
theorem TN (tp:Di) (ko:Kp) {B:Prop} (h:B) (q:B=nY ev Tryz.prog 6 100 (fnc f).ntmps bs c s tp ko e s':=by kernel_rfl):Rc bs f c s e s':=Reach.of_go tH (q ▸ h)
variable (tp:Di) (ko:Kp) {H1 H2 H3 H4 H5 H6 N:Prop} (h1:H1) (h2:H2) (h3:H3) (h4:H4) (h5:H5) (h6:H6) (w:N)
def kJ:=@TN f bs c s s' e tp ko _ (⟨rfl,w,rfl⟩:e=e/\N/\s'=s')
def dM:=@TN f bs c s s' e tp ko _ (⟨h1,rfl,w,rfl⟩:H1/\e=e/\N/\s'=s')
def pQ:=@TN f bs c s s' e tp ko _ (⟨h1,h2,rfl,w,rfl⟩:H1/\H2/\e=e/\N/\s'=s')
def Hu:=@TN f bs c s s' e tp ko _ (⟨h1,h2,h3,rfl,w,rfl⟩:H1/\H2/\H3/\e=e/\N/\s'=s')
def og:=@TN f bs c s s' e tp ko _ (⟨h1,h2,h3,h4,rfl,w,rfl⟩:H1/\H2/\H3/\H4/\e=e/\N/\s'=s')
def xg:=@TN f bs c s s' e tp ko _ (⟨h1,h2,h3,h4,h5,h6,rfl,w,rfl⟩:H1/\H2/\H3/\H4/\H5/\H6/\e=e/\N/\s'=s')
end
section
variable (mv iv:Value) (mo io:Obj)
def hs:Nat->List Nat->IS
 | 0,_=>st [(3,.pv .nils),(7,.loc 1 0)] [(0,.raw mv mo),(1,.raw iv io)] 2 []
 | v+1,L=>st [(3,.arr 2 (v+1) (v+1)),(7,.loc 1 0)] (bM mv mo iv io (v+1) L) 3 []
def qs (n:Nat):Nat->List Nat->IS
 | 0,_=>st [(3,.pv .nils),(4,.pv (num n)),(7,.loc 1 0)] [(0,.raw mv mo),(1,.raw iv io)] 2 []
 | v+1,L=>st [(3,.arr 2 (v+1) (v+1)),(4,.pv (num n)),(7,.loc 1 0)] (bM mv mo iv io (v+1) L) 3 []
def fM:Nat->List Nat->IS
 | 0,_=>st [(3,.pv .nils)] [(0,.raw mv mo)] 3 []
 | v+1,L=>st [(3,.arr 2 (v+1) (v+1))] [(0,.raw mv mo),(2,.arr (v+1) 1 3 (vN L))] 3 []
end
theorem Iu {v len:Nat} : ro (bif Nat.beq v v then some (V.pv (.int (.ofNat len))) else none)=some ⟨.pv (num len),none,false⟩:=by rw [vE rfl];rfl
theorem Ju {A:List (List PV)} {k v sz ty m:Nat} {c:List PV} (hk:A.length=k) (h0:0<sz) (h1:bC sz [oA c]=true) (h2:SB [oA c]=true) (h3:k+1<=maxLen) (h4:(k+1) * m<=140737488355328) :
  (Nat.beq v v && Nat.ble k (vA A).length && Nat.beq ty ty && Nat.beq sz sz && Nat.blt 0 sz && bC sz [oA c] && SB [oA c] && Nat.ble (k+[oA c].length) maxLen && Nat.ble ((k+[oA c].length) * m) 140737488355328)=true:=by
 subst hk;exact PL h0 h1 h2 h3 h4
section
variable {mv iv:Value} {mo io:Obj}
theorem Ku (n v:Nat) (L:List Nat) (hv:L.length=v) (hb:v+1<=dA) (hm:v+1<=maxLen) (hm':(v+1) * 8<=140737488355328:=by omega) :
  ∃ A B,A++B=L/\(∀ x∈B,n<x)/\(∀ h:A≠[],A.getLast h<=n)/\Rc 1 44 sY (qs mv iv mo io n v L) .normal (hs mv iv mo io (v+1) (A++n::B)):=by
 obtain⟨A,y,B,h1,h2,h3,h⟩:=cg (mv:=mv) (mo:=mo) (iv:=iv) (io:=io) (n:=n) (v:=v+1) (len:=v+1) v L n [] hv (by simp;omega) hb;rw [List.append_nil] at h1;have h2:∀ x∈B,n<x:=λ x hx=>(h2 x hx).resolve_left (by simp)
 have hl:A.length+B.length=v:=by rw [<- hv,<- h1];simp
 have gl:(vN (A++y::B)).length=v+1:=by rw [rg];simp;omega
 have g6:=mY (n:=2) (v:=v+1) (k:=A.length) (len:=v+1) (es:=vN (A++y::B));have g7:=tg (n:=2) (v:=v+1) (k:=A.length) (es:=vN (A++y::B)) (es':=vN (A++n::B)) (y:=.pv (num n)) (lY A B y) (sg A B y n);refine⟨A,B,h1,h2,h3,?_⟩;rw [hv] at h
 cases v with
 | zero =>
  have e:=List.length_eq_zero_iff.1 hv;subst e;exact og [(100007,.l SN (.exit 2) (st (RN 1 1 n A.length) (bM mv mo iv io 1 (A++y::B)) 3 [])),(42,.w ⟨.eloc 2 1 A.length 0,none,false⟩),(99999,.w ⟨.undef,some (2,.arr 1 1 3 (vN (A++n::B))),false⟩)] ⟨[3,7],[0,1,2],3,[]⟩ (MC [ic n]) h g6 g7 (MC ((A++n::B).map ic))
 | succ v =>
  have e1:vN (L++[n])=(vN L).take (v+1)++[oA (ic n)]:=by
   have:=LI (L.map ic) (ic n);rw [List.length_map,hv] at this;rw [<- this];show vA ((L++[n]).map ic)=_;rw [List.map_append];rfl
  have g5:=Ju (A:=L.map ic) (v:=v+1) (ty:=3) (m:=8) (c:=ic n) (k:=v+1) (by simpa using hv) (show 0<1 by decide) rfl rfl hm hm';have g8:qB ((vN L).take (v+1)++[oA (ic n)])=[]:=by rw [<- e1];exact MC ((L++[n]).map ic)
  have h:Lp 44 1 1 (st (RN (v+1+1) (v+1+1) n (v+1)) [(0,.raw mv mo),(1,.raw iv io),(2,.arr (v+1+1) 1 3 ((vN L).take (v+1)++[oA (ic n)]))] 3 []) (.exit 2) (st (RN (v+1+1) (v+1+1) n A.length) (bM mv mo iv io (v+1+1) (A++y::B)) 3 []):=by rw [<- e1];exact h
  exact xg [(13,.w ⟨.pv (num (v+1)),none,false⟩),(17,.ok),(100007,.l SN (.exit 2) (st (RN (v+1+1) (v+1+1) n A.length) (bM mv mo iv io (v+1+1) (A++y::B)) 3 [])),(42,.w ⟨.eloc 2 (v+1+1) A.length 0,none,false⟩),(99999,.w ⟨.undef,some (2,.arr (v+1+1) 1 3 (vN (A++n::B))),false⟩)] ⟨[3,7],[0,1,2],3,[]⟩ (Iu (v:=v+1) (len:=v+1)) g5 g8 h g6 g7 (MC ((A++n::B).map ic))
end
end Go.Proofs.YtmkajedkflhbgaaGreatDoor
namespace Go.Proofs.YtmkajedkflhbgaaGreatDoor
open Go.Lg
set_option maxRecDepth 100000
section
variable {f bs:Nat} {c:Code} {s s':IS} {e:AE}
theorem Ag (tp:Di) (ko:Kp) (q:(e=e/\s'=s')=nY ev Tryz.prog 6 100 (fnc f).ntmps bs c s tp ko e s':=by kernel_rfl):Rc bs f c s e s':=Reach.of_go tH (q ▸ (⟨rfl,rfl⟩:e=e/\s'=s'))
end
theorem Bg:∀ {L S:List Nat},WB L->WB S->(∀ x,x∈L↔x∈S)->L=S
 | [],[],_,_,_=>rfl
 | [],y::S,_,_,h=>absurd ((h y).2 (List.mem_cons_self ..)) (by simp)
 | x::L,[],_,_,h=>absurd ((h x).1 (List.mem_cons_self ..)) (by simp)
 | x::L,y::S,h1,h2,h=>by
  obtain⟨a1,b1⟩:=List.pairwise_cons.1 h1;obtain⟨a2,b2⟩:=List.pairwise_cons.1 h2;have e:x=y:=by
   rcases List.mem_cons.1 ((h x).1 (List.mem_cons_self ..)) with e|hx
   ·exact e
   rcases List.mem_cons.1 ((h y).2 (List.mem_cons_self ..)) with e|hy
   ·exact e.symm
   have:=a1 y hy;have:=a2 x hx;omega
  subst e;rw [Bg b1 b2 λ z=>⟨λ hz=>(List.mem_cons.1 ((h z).1 (List.mem_cons_of_mem _ hz))).resolve_left (λ e=>by have:=a1 z hz;omega),λ hz=>(List.mem_cons.1 ((h z).2 (List.mem_cons_of_mem _ hz))).resolve_left (λ e=>by have:=a2 z hz;omega)⟩]
theorem aY:∀ {S L:List Nat},WB L->WB S->(∀ x∈L,x∈S)->L.length<=S.length
 | S,[],_,_,_=>Nat.zero_le _
 | [],x::L,_,_,h=>absurd (h x (List.mem_cons_self ..)) (by simp)
 | y::S,x::L,h1,h2,h=>by
  obtain⟨a1,b1⟩:=List.pairwise_cons.1 h1;obtain⟨a2,b2⟩:=List.pairwise_cons.1 h2;by_cases e:x=y
  ·subst e;exact Nat.succ_le_succ (aY b1 b2 λ z hz=>(List.mem_cons.1 (h z (List.mem_cons_of_mem _ hz))).resolve_left (λ e=>by have:=a1 z hz;omega))
  ·have hx:x∈S:=(List.mem_cons.1 (h x (List.mem_cons_self ..))).resolve_left e;have:=a2 x hx;have:=aY (S:=S) h1 b2 λ z hz=>(List.mem_cons.1 (h z hz)).resolve_left (λ e=>by
    rcases List.mem_cons.1 hz with rfl|hz
    ·omega
    ·have:=a1 z hz;omega)
   exact Nat.le_succ_of_le this
theorem Lu {A B:List Nat} {n:Nat} (h:WB (A++B)) (hn:n ∉ A++B) (h1:∀ x∈B,n<x) (h2:∀ h:A≠[],A.getLast h<=n):WB (A++n::B):=by
 obtain⟨a,b,c⟩:=List.pairwise_append.1 h;have ha:∀ x∈A,x<n:=by
  intro x hx;have hne:A≠[]:=λ e=>by subst e;cases hx
  have hl:=h2 hne;have hx':x<=A.getLast hne:=by
   have e:=List.dropLast_concat_getLast hne;rw [<- e] at hx a;rcases List.mem_append.1 hx with hx|hx
   ·exact Nat.le_of_lt ((List.pairwise_append.1 a).2.2 x hx _ (by simp))
   ·simp at hx;omega
  have:x≠n:=λ e=>hn (List.mem_append_left _ (e ▸ hx))
  omega
 refine List.pairwise_append.2 ⟨a,List.pairwise_cons.2 ⟨h1,b⟩,λ x hx y hy => ?_⟩;rcases List.mem_cons.1 hy with rfl|hy
 ·exact ha x hx
 ·exact c x hx y hy
abbrev km (b:Nat):Value:=.map (some b)
abbrev yJ (rb:Nat):Value:=.pointer (some ⟨rb,0,none⟩)
abbrev oi (b ck:Nat) (seen:Array Nat):Obj:=.mapIter (some b) ck seen ck
section
variable {X:NA} {b rb ck:Nat} {ms:Array MapEntry} {S:List Nat}
theorem Mu {mv iv:Value} {mo io:Obj} (v:Nat) (L:List Nat) :
  Rc 1 44 (.seq pY (.block 1 (.seq rY sY))) ⟨((hs mv iv mo io v L).sl.put 8 (some .undef)).put 9 (some (.pv (.bool false))),(hs mv iv mo io v L).ob,(hs mv iv mo io v L).nx,(hs mv iv mo io v L).dt⟩ (.exit 0) (fM mv mo v L):=by
 cases v with
 | zero=>exact Ag [] ⟨[3],[0],3,[]⟩
 | succ v=>exact kJ [] ⟨[3],[0,2],3,[]⟩ (MC (L.map ic))
theorem Nu {mv iv:Value} {mo io io':Obj} (v:Nat) (L:List Nat) :
  Rc 1 44 pY ⟨((hs mv iv mo io v L).sl.put 8 (some .undef)).put 9 (some (.pv (.bool true))),(hs mv iv mo io v L).ob.put 1 (some (.raw iv io')),(hs mv iv mo io v L).nx,(hs mv iv mo io v L).dt⟩ .normal (hs mv iv mo io' v L):=by
 cases v with
 | zero=>exact Ag [] ⟨[3,7],[0,1],2,[]⟩
 | succ v=>exact kJ [] ⟨[3,7],[0,1,2],3,[]⟩ (MC (L.map ic))
theorem Ou (hX:HX X ev Tryz.prog (fnc 44).ntmps 1) {mv iv:Value} {mo io:Obj} (v:Nat) (L:List Nat) (n:Nat) {σ:St} (h:Rel (hs mv iv mo io v L) σ) :
  ∃ τ,oL X ⟨(4,.pv (num n))::(11,.pv (num n))::(10,.undef)::σ.slots,σ.objs,σ.used⟩ τ/\Rel (qs mv iv mo io n v L) τ:=by
 have h3:=((h.slotT 10 .undef).slotT 11 (.pv (num n))).slotT 4 (.pv (num n))
 cases v with
 | zero=>exact h3.keep hX ⟨[3,4,7],[0,1],2,[]⟩ (by kernel_rfl) True.intro (by kernel_rfl)
 | succ v=>exact h3.keep hX ⟨[3,4,7],[0,1,2],3,[]⟩ (by kernel_rfl) ⟨MC (L.map ic),True.intro⟩ (by kernel_rfl)
theorem Cg {mv iv:Value} {mo io:Obj} (v:Nat) (L:List Nat) {σ:St} (h:Rel (hs mv iv mo io v L) σ):JA σ.slots 7 = .loc 1 0/\zA σ.objs 0=some (.raw mv mo)/\zA σ.objs 1=some (.raw iv io):=by
 have h1:=h.sl 7;have h2:=h.ob 0;have h3:=h.ob 1;cases v<;>exact⟨h1,h2,h3⟩
structure cY (ms:Array MapEntry) (seen:Array Nat) (L:List Nat):Prop where
 asc:WB L
 mem:∀ x:Nat,x∈L ↔ ∃ e∈ms.toList,e.key = .int .i64 (.ofNat x)/\seen.contains e.born=true
structure UN (ms:Array MapEntry) (ck:Nat) (S:List Nat):Prop where
 hold:∀ x∈ms.toList,x.born<ck
 nd:(ms.toList.map (·.born)).Nodup
 kn:∀ e∈ms.toList,∃ z:Nat,e.key = .int .i64 (.ofNat z)
 inj:∀ e∈ms.toList,∀ e'∈ms.toList,e.key=e'.key->e=e'
 asc:WB S
 mem:∀ x:Nat,x∈S ↔ ∃ e∈ms.toList,e.key = .int .i64 (.ofNat x)
 len:S.length<=8589934592
theorem Dg:∀ {l:List MapEntry},(l.map (·.born)).Nodup->∀ {e e':MapEntry},e∈l->e'∈l->e.born=e'.born->e=e'
 | x::l,h,e,e',he,he',hb=>by
  obtain⟨h1,h2⟩:=List.nodup_cons.1 h;rcases List.mem_cons.1 he with k1|k1<;>rcases List.mem_cons.1 he' with k2|k2
  ·rw [k1,k2]
  ·exact absurd (List.mem_map.2 ⟨e',k2,by rw [<- hb,k1]⟩) h1
  ·exact absurd (List.mem_map.2 ⟨e,k1,by rw [hb,k2]⟩) h1
  ·exact Dg h2 k1 k2 hb
theorem Eg (hX:HX X ev Tryz.prog (fnc 44).ntmps 1) (hM:UN ms ck S) (seen:Array Nat) (v:Nat) (L:List Nat) (σ:St) (hW:cY ms seen L) (hv:L.length=v) (hR:Rel (hs (km b) (yJ rb) (.map ms ck) (oi b ck seen) v L) σ) (Q:AB->St->Prop)
  (q1:∀ σ',xL (.exit 0) (fM (km b) (.map ms ck) S.length S) (.exit 0) σ'->Q (.exit 0) σ')
  (q2:∀ seen' L' σ',(leftOf ms seen').size<(leftOf ms seen).size->cY ms seen' L'->L'.length=v+1->Rel (hs (km b) (yJ rb) (.map ms ck) (oi b ck seen') (v+1) L') σ'->Q .normal σ'):AWP X wJ σ Q:=by
 have hnt:X.nt=44:=by rw [hX.nt];exact tY
 have hsub:∀ x∈L,x∈S:=λ x hx=>by
  obtain⟨e,he,h1,_⟩:=(hW.mem x).1 hx;exact (hM.mem x).2 ⟨e,he,h1⟩
 obtain⟨g1,g2,g3⟩:=Cg v L hR;rw [Cu];refine AWP.seq ?_;obtain⟨i,t1,t2,p1,p2,f1,f2,hn⟩:=Du;rw [hn];refine AWP.next (n:=0) (r:=1) (by decide) g1 g2 g3 hM.hold (Nat.le_refl _) (by rw [hnt];decide) (by rw [hnt];decide) ?_ ?_
 ·intro h0;have e:L=S:=Bg hW.asc hM.asc λ x=>⟨λ hx=>hsub x hx,λ hx=>by
   obtain⟨e,he,h1⟩:=(hM.mem x).1 hx;exact (hW.mem x).2 ⟨e,he,h1,all_seen ms seen h0 e he⟩⟩
  have hR1:=(hR.slotT 8 .undef).slotT 9 (.pv (.bool false));refine AWP.mono ((Mu v L).awp X hX _ hR1) ?_
  rintro ae σ' ⟨rfl,h⟩
  rw [hv.symm,e] at h;exact q1 σ' ⟨rfl,h⟩
 ·intro e he;obtain⟨hem,hes⟩:=mem_left he;obtain⟨n,hz⟩:=hM.kn e hem;have hR1:=((hR.slotT 8 .undef).slotT 9 (.pv (.bool true))).objT 1 (.raw (yJ rb) (oi b ck (seen.push e.born)));refine AWP.seq (AWP.mono ((Nu v L).awp X hX _ hR1) ?_)
  rintro ae σ' ⟨rfl,hR2⟩
  refine AWP.block (AWP.seq ?_);obtain⟨g1,g2,g3⟩:=Cg v L hR2;obtain⟨i,t1,t2,t3,p1,p2,p3,f1,f2,f3,hn⟩:=Eu;rw [hn];refine AWP.entry g1 g2 g3 hem hM.nd hz (by rw [hnt];decide) (by rw [hnt];decide) (by rw [hnt];decide) ?_;obtain⟨τ,hw,hR3⟩:=Ou hX v L n hR2;have hnL:n ∉ L:=λ hn=>by
   obtain⟨e',he',h1,h2⟩:=(hW.mem n).1 hn;rw [hM.inj e hem e' he' (hz.trans h1.symm),h2] at hes;cases hes
  have hlt:=aY hW.asc hM.asc hsub;have hSl:=hM.len;obtain⟨A,B,e1,h2,h3,hr⟩:=Ku (mv:=km b) (iv:=yJ rb) (mo:=.map ms ck) (io:=oi b ck (seen.push e.born)) n v L hv (by simp only [dA];omega) (by simp only [maxLen];omega);refine AWP.wkX hw (AWP.mono (hr.awp X hX τ hR3) ?_)
  rintro ae σ3 ⟨rfl,hR4⟩
  refine q2 (seen.push e.born) (A++n::B) σ3 (left_shrinks ms seen e he) ⟨Lu (e1 ▸ hW.asc) (e1 ▸ hnL) h2 h3,λ x => ?_⟩ (by have:=congrArg List.length e1;simp at this ⊢;omega) hR4;have hx:x∈A++n::B↔x=n\/x∈L:=by rw [<- e1];simp;constructor<;>(rintro (h|h|h)<;>simp [h])
  rw [hx,hW.mem];constructor
  ·rintro (rfl|⟨e',he',h1,h2⟩)
   ·exact⟨e,hem,hz,by simp⟩
   ·exact⟨e',he',h1,by simp at h2 ⊢;exact .inl h2⟩
  ·rintro⟨e',he',h1,h2⟩
   by_cases hq:seen.contains e'.born=true
   ·exact .inr ⟨e',he',h1,hq⟩
   ·have hb:e'.born=e.born:=by simp at h2 hq;exact h2.resolve_left hq
    have:=Dg hM.nd he' hem hb;subst this;rw [hz] at h1;left;simp at h1;omega
theorem Fg (hX:HX X ev Tryz.prog (fnc 44).ntmps 1) (hM:UN ms ck S):∀ (k:Nat) (seen:Array Nat) (v:Nat) (L:List Nat) (σ:St),(leftOf ms seen).size<=k->cY ms seen L->L.length=v ->
   Rel (hs (km b) (yJ rb) (.map ms ck) (oi b ck seen) v L) σ->uH X wJ (xL (.exit 0) (fM (km b) (.map ms ck) S.length S)) (k+1) σ
 | 0,seen,v,L,σ,hk,hW,hv,hR=>iO (Eg hX hM seen v L σ hW hv hR _ (λ _ h=>h) (λ _ _ _ h=>by omega))
 | k+1,seen,v,L,σ,hk,hW,hv,hR=>iO (Eg hX hM seen v L σ hW hv hR _ (λ _ h=>h) (λ seen' L' σ' h hW' hv' hR'=>Fg hX hM k seen' (v+1) L' σ' (by omega) hW' hv' hR'))
end
end Go.Proofs.YtmkajedkflhbgaaGreatDoor
namespace Go.Lg
theorem Pu {ev:jB} {P:Program} {f m nx:Nat} {args:List V} {objs:List (Nat × Ob)} {ks:List Nat} {y:V} {ro o1:List (Nat × Ob)} (hd:HG (sC objs)=true) (hk:eL (sC objs) ks=true)
  (hC:Called P ev.gl ⟨.nil,DB objs .nil,m,[]⟩ f args ⟨y,[],[],nx⟩ ks ro o1):AC P ev.gl f args objs (.ret y) objs:=by
 have hd:=AL hd;rw [kF] at hd;have hk:=uP hk;rw [kF] at hk;have hs0:∀ k,(DB objs .nil).get k=zA objs k:=λ k=>by
  rw [QR objs _ hd];cases zA objs k<;>rfl
 have h1:o1=[]:=by
  cases o1 with
  | nil=>rfl
  | cons p r=>have:=hC.inch p.1 (keysO_mem.2 ⟨p.2,List.mem_cons_self ..⟩);cases this
 subst h1;have hsub:∀ p∈ro,zA objs p.1=some p.2:=λ p hp=>by rw [<- hs0];exact hC.subs p (by simpa using hp)
 have hget:∀ k,zA ro k=zA objs k:=by
  intro k
  cases e:zA ro k with
  | some o=>exact (hsub (k,o) (IJ e)).symm
  | none =>
   cases e2:zA objs k with
   | none=>rfl
   | some o =>
    have h1:=hC.all k (hk k (getO_iff.2 (by rw [e2];rfl)));rw [List.append_nil,getO_iff,e] at h1;cases h1
 have hac:AC P ev.gl f args ro (.ret y) ro:=by simpa using hC.ac
 refine AC.cong hac hget hget λ k hk => ?_
 obtain⟨p,hp,hkp⟩:=mem_mentO.1 hk;exact mem_mentO.2 ⟨p,IJ (hsub p hp),hkp⟩
end Go.Lg
namespace Go.Proofs.YtmkajedkflhbgaaGreatDoor
open Go.Lg
set_option maxRecDepth 100000
def se (U:List Nat):List (SK × V):=U.map λ n=>(.int (.ofNat n),.pv (.bool true))
theorem wB:∀ U:List Nat,OB (se U)=[]
 | []=>rfl
 | n::U=>by show ([]:List Nat)++OB (se U)=[];rw [wB U];rfl
theorem Gg {E E':Env} : ∀ {U:List Nat} {ms:List MapEntry},EntsS E false (se U) ms->EntsS E' false (se U) ms
 | [],[],_=>True.intro
 | n::U,e::ms,h=>⟨⟨h.1.1,h.1.2.1,h.1.2.2.1,h.1.2.2.2⟩,Gg h.2⟩
 | [],_::_,h=>h.elim
 | _::_,[],h=>h.elim
theorem Ig {E:Env} : ∀ {U:List Nat} {ms:List MapEntry},EntsS E false (se U) ms->ms.map (·.key)=U.map λ n => .int .i64 (.ofNat n)
 | [],[],_=>rfl
 | n::U,e::ms,h=>by
  show e.key::ms.map (·.key)=_::U.map _;rw [Ig h.2,h.1.1];rfl
 | [],_::_,h=>h.elim
 | _::_,[],h=>h.elim
theorem Jg:∀ {l:List MapEntry},(l.map (·.key)).Nodup->∀ {e e':MapEntry},e∈l->e'∈l->e.key=e'.key->e=e'
 | x::l,h,e,e',he,he',hb=>by
  obtain⟨h1,h2⟩:=List.nodup_cons.1 h;rcases List.mem_cons.1 he with k1|k1<;>rcases List.mem_cons.1 he' with k2|k2
  ·rw [k1,k2]
  ·exact absurd (List.mem_map.2 ⟨e',k2,by rw [<- hb,k1]⟩) h1
  ·exact absurd (List.mem_map.2 ⟨e,k1,by rw [hb,k2]⟩) h1
  ·exact Jg h2 k1 k2 hb
theorem Qu {U:List Nat} (h:U.Nodup):(U.map λ n=>Value.int .i64 (.ofNat n)).Nodup:=by
 refine List.Pairwise.map _ (λ a b hab e=>hab ?_) h;have:Int.ofNat a=Int.ofNat b:=(Value.int.injEq .. ▸ e).2;exact Int.ofNat.inj this
structure VN (U S:List Nat):Prop where
 nd:U.Nodup
 asc:WB S
 mem:∀ x:Nat,x∈S↔x∈U
 len:S.length<=8589934592
theorem Ru {E:Env} {U S:List Nat} {ms:Array MapEntry} {ck:Nat} (h:VN U S) (he:EntsS E false (se U) ms.toList) (hs:StampOK ms.toList ck):UN ms ck S:=by
 have hk:=Ig he;have hmem:∀ v,(∃ e∈ms.toList,e.key=v) ↔ ∃ n∈U,Value.int .i64 (.ofNat n)=v:=λ v=>by
  have:v∈ms.toList.map (·.key)↔v∈U.map λ n=>Value.int .i64 (.ofNat n):=by rw [hk]
  simpa only [List.mem_map] using this
 refine⟨hs.1,hs.2,λ e he => ?_,λ e he e' he' hkk=>Jg (hk ▸ Qu h.nd) he he' hkk,h.asc,λ x => ?_,h.len⟩
 ·obtain⟨n,_,e2⟩:=(hmem e.key).1 ⟨e,he,rfl⟩;exact⟨n,e2.symm⟩
 ·rw [h.mem,hmem];constructor
  ·exact λ hx=>⟨x,hx,rfl⟩
  ·rintro⟨n,hn,e⟩
   have:Int.ofNat n=Int.ofNat x:=(Value.int.injEq .. ▸ e).2;rwa [<- Int.ofNat.inj this]
section
variable {b rb ck:Nat} {ms:Array MapEntry} {S:List Nat}
theorem Su (hM:UN ms ck S):Lp 44 0 1 (hs (km b) (yJ rb) (.map ms ck) (oi b ck #[]) 0 []) (.exit 0) (fM (km b) (.map ms ck) S.length S):=by
 refine⟨λ sub hI => ?_,(leftOf ms #[]).size+1,λ X hX σ hR=>Fg hX hM _ #[] 0 [] σ (Nat.le_refl _) ⟨List.Pairwise.nil,λ x=>⟨λ h=>(by cases h),λ ⟨e,_,_,h⟩=>(by simp at h)⟩⟩ rfl hR⟩;have h0:∀ n,n<1->n=0:=λ n h=>by omega
 have g0:∀ v,(fM (km b) (.map ms ck) v S).ob.get 0=some (.raw (km b) (.map ms ck)):=λ v=>by cases v<;>rfl
 have g1:∀ v,(fM (km b) (.map ms ck) v S).dt=[]/\(fM (km b) (.map ms ck) v S).nx=3:=λ v=>by cases v<;>exact⟨rfl,rfl⟩
 refine⟨by rw [(g1 _).2];omega,λ n hn _ => ?_,λ n hn _ => ?_,hI.names,λ n hn => ?_⟩
 ·rw [h0 n hn,g0];exact hI.same 0 (by omega) (by simp [hs])
 ·rw [h0 n hn];exact hI.old 0 (by omega) rfl
 ·rw [(g1 _).1] at hn;cases hn
def MK (o:Ob):List Nat->IS
 | []=>st [(3,.pv .nils)] [(0,o)] 3 []
 | x::S=>st [(3,.pv (bA (x::S)))] [(0,o)] 3 []
theorem Tu (hM:UN ms ck S):Lp 44 0 1 (hs (km b) (yJ rb) (.map ms ck) (oi b ck #[]) 0 []) (.exit 0) (MK (.raw (km b) (.map ms ck)) S):=by
 have h:=Su (b:=b) (rb:=rb) hM
 cases S with
 | nil=>exact h
 | cons x S =>
  have h2:=LoopIs.fz (by simp) (show Lp 44 0 1 _ (.exit 0) (st [(3,.arr 2 (S.length+1) (S.length+1))] [(0,.raw (km b) (.map ms ck)),(2,.arr (S.length+1) 1 3 (vA ((x::S).map ic)))] 3 []) from h) 2 (ver:=S.length+1) (sz:=1) (ty:=3) (ps:=(x::S).map ic) rfl (by kernel_rfl);have e:((x::S).map ic).take (S.length+1)=(x::S).map ic:=List.take_of_length_le (by simp);simp (decide:=true) only [uE,CD,rC,JC,pD,and_self,↓reduceIte,e] at h2;exact h2
abbrev nA (U:List Nat):Ob:=.smap false (se U)
abbrev eY (U:List Nat):IS:=st [(0,.map 0),(3,.pv .nils)] [(0,nA U)] 1 []
theorem Uu:Tryz.prog.underlying 108=some (.map 3 4):=by kernel_rfl
noncomputable abbrev Kg:Code:=.seq (cs1 (cs1 (cs2 (cs2 tG)))) (.block 0 (.loop wJ))
theorem Vu {X:NA} (hX:HX X ev Tryz.prog (fnc 44).ntmps 1) (hM:UN ms ck S) {U:List Nat} {σ:St} (hR:Rel (eY U) σ) :
  AWP X Kg ⟨σ.slots,kB σ.objs 0 (.raw (km b) (.map ms ck)),σ.used⟩ (xL .normal (MK (.raw (km b) (.map ms ck)) S)):=by
 have hnt:X.nt=44:=by rw [hX.nt];exact tY
 have hR1:=hR.objT 0 (.raw (km b) (.map ms ck));refine AWP.seq ?_;obtain⟨i,t1,t2,p1,p2,f1,f2,hn⟩:=Gu;rw [hn];refine AWP.range (n:=0) (r:=1) (b:=b) (ck:=ck) (ms:=ms) (hR.sl 0) (hR1.ob 0) (λ h=>(by have:1<1:=hR.us 1 h;exact absurd this (by decide))) (by rw [hX.P];exact Uu) (by rw [hnt];decide) (by rw [hnt];decide) ?_;intro rb;have hR2:=((hR1.slotT 6 (.map 0)).slotT 7 (.loc 1 0)).newT (.raw (yJ rb) (oi b ck #[]));obtain⟨τ,hw,hR3⟩:=hR2.keep hX (s':=hs (km b) (yJ rb) (.map ms ck) (oi b ck #[]) 0 []) ⟨[3,7],[0,1],2,[]⟩ (by kernel_rfl) (cast (show True=wF _ _ True by kernel_rfl) True.intro) (by kernel_rfl);refine AWP.wkX hw (AWP.block (AWP.mono ((Tu hM).reach.awp X hX τ hR3) ?_))
 rintro ae σ' ⟨rfl,h⟩
 exact⟨rfl,h⟩
theorem Wu {U:List Nat} (hU:VN U S):Rc 1 44 Kg (eY U) .normal (MK (nA U) S):=by
 refine⟨λ sub hI => ?_,λ X hX σ hR C E a w hC hG => ?_⟩
 ·have h0:∀ n,n<1->n=0:=λ n h=>by omega
  have g0:(MK (nA U) S).ob.get 0=some (nA U):=by cases S<;>rfl
  have g1:(MK (nA U) S).dt=[]/\(MK (nA U) S).nx=3:=by cases S<;>exact⟨rfl,rfl⟩
  refine⟨by rw [g1.2];omega,λ n hn _ => ?_,λ n hn _ => ?_,hI.names,λ n hn => ?_⟩
  ·rw [h0 n hn,g0];exact hI.same 0 (by omega) (by simp)
  ·rw [h0 n hn];exact hI.old 0 (by omega) rfl
  ·rw [g1.1] at hn;cases hn
 ·have ho:zA σ.objs 0=some (nA U):=hR.ob 0;obtain⟨b,ms,ck,hg,hcell,hfree,hents,hst⟩:=hG.objs 0 _ ho;have hG1:=hG.swapO (o':=.raw (km b) (.map ms ck)) ho ⟨hg,b,rfl,hcell,hfree⟩ (by simp [Ob.names]);refine wp_mono (Vu hX (Ru hU hents hst) hR C E a w hC hG1) ?_
  rintro e a' w' ⟨E',σ',ae,hG',hrel,rfl,hR'⟩
  have ho':zA σ'.objs 0=some (.raw (km b) (.map ms ck)):=by rw [hR'.ob 0];cases S<;>rfl
  obtain⟨hg',b',hb',hcell',hfree'⟩:=hG'.objs 0 _ ho';cases hb';have hG2:=hG'.swapO (o':=nA U) ho' ⟨b,ms,ck,hg',hcell',hfree',Gg hents,hst⟩ (by simp [Ob.names,wB]);refine⟨E',_,.normal,hG2,hrel,rfl,?_⟩;have hR2:=hR'.objT 0 (nA U);cases S<;>exact⟨hR2.sl,λ n=>(hR2.ob n).trans (by simp only [MK,Tr.get_put];by_cases e:n=0<;>simp [e,DB,Tr.get_put];done),hR2.us⟩
end
end Go.Proofs.YtmkajedkflhbgaaGreatDoor
namespace Go.Lg
end Go.Lg
namespace Go.Proofs.YtmkajedkflhbgaaGreatDoor
open Go.Lg
set_option maxRecDepth 100000
theorem iY (U:List Nat) (m:Nat) (hm:Nat.blt 0 m=true):reach m (DB [(0,nA U)] .nil) 1000000 [0] .nil []=some (Tr.nil.put 0 (some (nA U)),[0]):=by
 have e:reach m (DB [(0,nA U)] .nil) 1000000 [0] .nil []=bif Nat.blt 0 m then reach m (DB [(0,nA U)] .nil) 999999 (OB (se U)++[]) (Tr.nil.put 0 (some (nA U))) [0] else none:=by kernel_rfl
 rw [e,hm,wB];rfl
def jU:List Nat->PV
 | [] => .nils
 | x::S=>bA (x::S)
theorem Xu:∀ S:List Nat,PV.w 4 (jU S)=bA S
 | []=>rfl
 | _::_=>rfl
section
variable {U S:List Nat}
theorem p33_0:Rc 1 44 (cs1 tG) ⟨iE 0 [.map 0] .nil,Tr.nil.put 0 (some (nA U)),1,[]⟩ .normal (st [(0,.map 0)] [(0,nA U)] 1 []):=kJ [] ⟨[0],[0],1,[]⟩ (wB U)
theorem p33_1:Rc 1 44 (cs1 (cs2 tG)) (st [(0,.map 0)] [(0,nA U)] 1 []) .normal (eY U):=kJ [] ⟨[0,3],[0],1,[]⟩ (wB U)
theorem Yu:Rc 1 44 (cs2 (cs2 (cs2 tG))) (MK (nA U) S) .ret (st [(2,.pv (jU S))] [(0,nA U)] 3 []):=by
 cases S with
 | nil=>exact kJ [] ⟨[2],[0],3,[]⟩ (wB U)
 | cons x S=>exact kJ [] ⟨[2],[0],3,[]⟩ (wB U)
theorem Zu (hU:VN U S):Rc 1 44 tG ⟨iE 0 [.map 0] .nil,Tr.nil.put 0 (some (nA U)),1,[]⟩ .ret (st [(2,.pv (jU S))] [(0,nA U)] 3 []):=by
 rw [Fu];exact p33_0.seq (p33_1.seq ((Wu hU).seq Yu))
theorem Mg (hU:VN U S):O 44 [.map 0] [(0,nA U)] (.pv (bA S)) [(0,nA U)]:=by
 obtain⟨ro,o1,hC⟩:=qP (s:=⟨.nil,DB [(0,nA U)] .nil,1,[]⟩) (OR (Zu hU)) tH (f:=44) (fn:=fnc 44) (c:=tG) (by kernel_rfl) (by kernel_rfl) (args:=[.map 0]) (by rw [tY];decide) (iY U 1 rfl) (r:=⟨.pv (jU S),[],[],3⟩) (by
  unfold tL CL;simp only [and_self,if_true];cases S<;>kernel_rfl)
 have h:=Pu (objs:=[(0,nA U)]) (by kernel_rfl) (by kernel_rfl) hC;rw [<- Xu S];exact AC.wO 4 h
end
end Go.Proofs.YtmkajedkflhbgaaGreatDoor
namespace Go.Lg
theorem Ng {ev:jB} {P:Program} {f m nx:Nat} {args:List V} {objs ch:List (Nat × Ob)} {ks:List Nat} {y:V} {ro o1:List (Nat × Ob)} (hd:HG (sC objs)=true) (hk:eL (sC objs) ks=true) (hn:HG (sC ch)=true)
  (hC:Called P ev.gl ⟨.nil,DB objs .nil,m,[]⟩ f args ⟨y,ch,[],nx⟩ ks ro o1):AC P ev.gl f args objs (.ret y) (RM ch objs):=by
 have hd:=AL hd;rw [kF] at hd;have hk:=uP hk;rw [kF] at hk;have hn:=AL hn;rw [kF] at hn;have hs0:∀ k,(DB objs .nil).get k=zA objs k:=λ k=>by
  rw [QR objs _ hd];cases zA objs k<;>rfl
 have hsub:∀ p∈ro++o1,zA objs p.1=some p.2:=λ p hp=>by rw [<- hs0];exact hC.subs p hp
 have hget:∀ k,zA (ro++o1) k=zA objs k:=by
  intro k
  cases e:zA (ro++o1) k with
  | some o=>exact (hsub (k,o) (IJ e)).symm
  | none =>
   cases e2:zA objs k with
   | none=>rfl
   | some o =>
    have h1:=hC.all k (hk k (getO_iff.2 (by rw [e2];rfl)));rw [getO_iff,e] at h1;cases h1
 refine AC.cong hC.ac hget (λ k => ?_) (λ k hk => ?_)
 ·rw [pW,<- hget,List.append_nil,UR,UR]
  cases e:zA ro k with
  | some o =>
   have h1:=(hC.apart k (getO_iff.2 (by rw [e];rfl))).2;have h2:zA ch k=none:=by
    cases e2:zA ch k with
    | none=>rfl
    | some o=>exact absurd (by simpa using getO_iff.2 (by rw [e2];rfl)) h1
   simp only [Option.map_some,dP,h2]
  | none =>
   simp only
   cases e2:zA o1 k with
   | some o =>
    have h1:=hC.inch k (getO_iff.2 (by rw [e2];rfl));obtain⟨o',ho'⟩:=Option.isSome_iff_exists.1 (getO_iff.1 h1);have ho':zA ch k=some o':=ho';simp only [Option.map_some,dP,ho']
   | none =>
    cases e3:zA ch k with
    | none=>rfl
    | some o =>
     have h1:=(hC.chs k (getO_iff.2 (by rw [e3];rfl))).2.2;rw [getO_iff,e2] at h1;cases h1
 ·obtain⟨p,hp,hkp⟩:=mem_mentO.1 hk;exact mem_mentO.2 ⟨p,IJ (hsub p hp),hkp⟩
end Go.Lg
namespace Go.Proofs.YtmkajedkflhbgaaGreatDoor
open Go.Lg
set_option maxRecDepth 100000
def oB:List Nat->Nat->List Nat
 | [],n=>[n]
 | m::U,n=>if n=m then m::U else m::oB U n
theorem mem_ins1:∀ {U:List Nat} {n x:Nat},x∈oB U n↔x=n\/x∈U
 | [],n,x=>by simp [oB]
 | m::U,n,x=>by
  unfold oB;split
  ·rename_i e;subst e;simp
  ·rw [List.mem_cons,mem_ins1 (U:=U),List.mem_cons];constructor<;>(rintro (h|h|h)<;>simp [h])
theorem rQ:∀ {U:List Nat} {n:Nat},U.Nodup->(oB U n).Nodup
 | [],n,_=>by simp [oB]
 | m::U,n,h=>by
  obtain⟨h1,h2⟩:=List.nodup_cons.1 h;unfold oB;split
  ·exact h
  ·rename_i e;exact List.nodup_cons.2 ⟨λ hm=>(mem_ins1.1 hm).elim (λ h=>e h.symm) h1,rQ h2⟩
theorem sQ:∀ (U:List Nat) (n:Nat),(oB U n).length<=U.length+1
 | [],n=>by simp [oB]
 | m::U,n=>by
  unfold oB;split
  ·simp
  ·have:=sQ U n;simp;omega
theorem Og:∀ (U:List Nat) (n:Nat),HC (se U) (.int (.ofNat n)) (.pv (.bool true))=se (oB U n)
 | [],n=>rfl
 | m::U,n=>by
  show (bif SK.eqB (.int (.ofNat n)) (.int (.ofNat m)) then _::se U else _::HC (se U) _ _)=_;unfold oB;by_cases e:n=m
  ·subst e;rw [(SK.eqB_iff _ _).2 rfl,if_pos rfl];rfl
  ·rw [if_neg e];have:SK.eqB (.int (.ofNat n)) (.int (.ofNat m))=false:=by
    cases h:SK.eqB (.int (.ofNat n)) (.int (.ofNat m)) with
    | false=>rfl
    | true=>have:=(SK.eqB_iff _ _).1 h;injection this with h;exact absurd (Int.ofNat.inj h) e
   rw [this,cond_false,Og U n];rfl
theorem tQ (k:Nat) (U:List Nat) (n:Nat):some (⟨.undef,some (k,.smap false (HC (se U) (.int (.ofNat n)) (.pv (.bool true)))),false⟩:RB)=some ⟨.undef,some (k,nA (oB U n)),false⟩:=by rw [Og]
def SA:Tm->Nat->List Nat->List Nat
 | .v i,c,U=>if c<=i then oB U (i-c) else U
 | .lam _ b,c,U=>SA b (c+1) U
 | .n0 _,_,U=>U
 | .n1 _ a,c,U=>SA a c U
 | .n2 _ a b,c,U=>SA b c (SA a c U)
 | .n3 _ _ a b d,c,U=>SA d c (SA b c (SA a c U))
noncomputable def Pg:Code:=match (fnc 324).body with
 | some c=>c
 | none => .skip
abbrev qv (t:Tm) (c:Nat) (U:List Nat):IS:=⟨iE 0 [.pv t.p,.pv (num c),.map 0] .nil,Tr.nil.put 0 (some (nA U)),1,[]⟩
theorem gM {t:Tm} {c:Nat} {U U':List Nat} (h:Rc 1 324 Pg (qv t c U) .normal (st [] [(0,nA U')] 2 [0])):O 324 [.pv t.p,.pv (num c),.map 0] [(0,nA U)] (.pv (.tuple [])) [(0,nA U')]:=by
 obtain⟨ro,o1,hC⟩:=qP (s:=⟨.nil,DB [(0,nA U)] .nil,1,[]⟩) (OR h) tH (f:=324) (fn:=fnc 324) (c:=Pg) (by kernel_rfl) (by kernel_rfl) (args:=[.pv t.p,.pv (num c),.map 0]) (Nat.le_of_ble_eq_true (show Nat.ble 3 (fnc 324).ntmps=true by kernel_rfl)) (iY U 1 rfl) (r:=⟨.pv (.tuple []),[(0,nA U')],[],2⟩) (by
  unfold tL CL;simp only [and_self,if_true]
  have e:rL ev.T 1 (Tr.nil.put 0 (some (nA U))) (fnc 324).results.toList .normal (st [] [(0,nA U')] 2 [0])=(match nI 1 2 (Tr.nil.put 0 (some (nA U))) (DB [(0,nA U')] .nil) 1000000 (OB (se U')++[]) .nil [] with
   | some nw=>some ⟨.pv (.tuple []),[(0,nA U')],nw,2⟩
   | none=>none):=by kernel_rfl
  refine e.trans ?_;rw [wB];rfl)
 exact AC.wO 4 (Ng (objs:=[(0,nA U)]) (by kernel_rfl) (by kernel_rfl) (by kernel_rfl) hC)
theorem WN {c:Nat} (h:c<=qA:=by omega):rA (Int.ofNat c+0)=true/\Int.ofNat c+0 = .ofNat c:=⟨by rw [Int.add_zero];exact eA (by have:=jA;omega),Int.add_zero _⟩
theorem zv {c:Nat} (h:c+1<=qA:=by omega):rA (Int.ofNat c+1)=true/\Int.ofNat c+1 = .ofNat (c+1):=⟨eA (n:=c+1) (by have:=jA;omega),rfl⟩
theorem jv {i c:Nat} (h:c<=i) (hi:i<=qA * qA):rA (Int.ofNat i-Int.ofNat c)=true/\Int.ofNat i-Int.ofNat c = .ofNat (i-c):=by
 have e:Int.ofNat i-Int.ofNat c = .ofNat (i-c):=by simp;omega
 exact⟨by rw [e];exact eA (by have e2:qA * qA=1125899906842624:=rfl;omega),e⟩
abbrev iD:Kp:=⟨[],[0],2,[0]⟩
theorem NK:∀ (t:Tm) (c:Nat) (U:List Nat),c+t.cnt<=qA->t.mx<=qA * qA->O 324 [.pv t.p,.pv (num c),.map 0] [(0,nA U)] (.pv (.tuple [])) [(0,nA (SA t c U))]
 | .v i,c,U,h1,h2=>by
  unfold SA;by_cases h:c<=i
  ·rw [if_pos h];exact gM (Hu [(15,.G),(21,.z (i-c)),(99999,.w ⟨.undef,some (0,nA (oB U (i-c))),false⟩)] iD (show (!kA (.ofNat i) (.ofNat c))=true by rw [CA h];rfl) (jv h h2) (tQ 0 U (i-c)) (wB (oB U (i-c))))
  ·rw [if_neg h];exact gM (dM [(15,.H)] iD (show (!kA (.ofNat i) (.ofNat c))=false by rw [aA];rfl) (wB U))
 | .n0 k,c,U,h1,h2=>by cases k<;>exact gM (kJ [] iD (wB U))
 | .lam s b,c,U,h1,h2=>by
  simp only [Tm.cnt] at h1;have g:=NK b (c+1) U (by omega) h2;exact gM (pQ [(33,.z (c+1)),(35,.d 0 (nA (SA b (c+1) U)) (.pv (.tuple [])))] iD (zv (c:=c)) g (wB (SA b (c+1) U)))
 | .n1 k a,c,U,h1,h2=>by
  simp only [Tm.cnt] at h1;have g:=NK a c U (by omega) h2;cases k<;>exact gM (pQ [(33,.z c),(35,.d 0 (nA (SA a c U)) (.pv (.tuple [])))] iD (WN (c:=c)) g (wB (SA a c U)))
 | .n2 k a b,c,U,h1,h2=>by
  simp only [Tm.cnt] at h1;simp only [Tm.mx] at h2;have g:=NK a c U (by omega) (by omega);have g':=NK b c (SA a c U) (by omega) (by omega);cases k<;>exact gM (og [(33,.z c),(35,.d 0 (nA (SA a c U)) (.pv (.tuple []))),(33,.z c),(35,.d 0 (nA (SA b c (SA a c U))) (.pv (.tuple [])))] iD (WN (c:=c)) g (WN (c:=c)) g' (wB (SA b c (SA a c U))))
 | .n3 k s a b d,c,U,h1,h2=>by
  simp only [Tm.cnt] at h1;simp only [Tm.mx] at h2;have g:=NK a c U (by omega) (by omega);have g':=NK b c (SA a c U) (by omega) (by omega);have g'':=NK d c (SA b c (SA a c U)) (by omega) (by omega);cases k<;>exact gM (xg [(33,.z c),(35,.d 0 (nA (SA a c U)) (.pv (.tuple []))),(33,.z c),(35,.d 0 (nA (SA b c (SA a c U))) (.pv (.tuple []))),(33,.z c),(35,.d 0 (nA (SA d c (SA b c (SA a c U)))) (.pv (.tuple [])))] iD (WN (c:=c)) g (WN (c:=c)) g' (WN (c:=c)) g'' (wB (SA d c (SA b c (SA a c U)))))
end Go.Proofs.YtmkajedkflhbgaaGreatDoor
namespace Go.Proofs.YtmkajedkflhbgaaGreatDoor
open Go.Lg
set_option maxRecDepth 100000
theorem Qg (n:Nat):∀ {S:List Nat},WB S->n ∉ S->∃ S',WB S'/\(∀ x,x∈S'↔x=n\/x∈S)/\S'.length=S.length+1
 | [],_,_=>⟨[n],List.pairwise_singleton _ _,λ x=>by simp,rfl⟩
 | y::S,h,hn=>by
  obtain⟨a,b⟩:=List.pairwise_cons.1 h;have hy:n≠y:=λ e=>hn (e ▸ List.mem_cons_self ..)
  by_cases c:n<y
  ·refine⟨n::y::S,List.pairwise_cons.2 ⟨λ x hx => ?_,h⟩,λ x=>List.mem_cons,rfl⟩;rcases List.mem_cons.1 hx with rfl|hx
   ·exact c
   ·have:=a x hx;omega
  ·obtain⟨S',h1,h2,h3⟩:=Qg n b (λ h=>hn (List.mem_cons_of_mem _ h));refine⟨y::S',List.pairwise_cons.2 ⟨λ x hx => ?_,h1⟩,λ x => ?_,by simp [h3]⟩
   ·rcases (h2 x).1 hx with rfl|hx
    ·omega
    ·exact a x hx
   ·rw [List.mem_cons,h2,List.mem_cons];constructor<;>(rintro (h|h|h)<;>simp [h])
theorem Rg:∀ {U:List Nat},U.Nodup->∃ S,WB S/\(∀ x,x∈S↔x∈U)/\S.length=U.length
 | [],_=>⟨[],List.Pairwise.nil,λ _=>Iff.rfl,rfl⟩
 | n::U,h=>by
  obtain⟨h1,h2⟩:=List.nodup_cons.1 h;obtain⟨S,a,b,c⟩:=Rg h2;obtain⟨S',a',b',c'⟩:=Qg n a (λ h=>h1 ((b n).1 h));exact⟨S',a',λ x=>by rw [b',b,List.mem_cons],by rw [c',c];rfl⟩
theorem vU {U:List Nat} (h:U.Nodup) (hl:U.length<=8589934592:=by omega):∃ S,VN U S/\S.length=U.length:=by
 obtain⟨S,a,b,c⟩:=Rg h;exact⟨S,⟨h,a,b,by omega⟩,c⟩
theorem PK:∀ (t:Tm) (c:Nat) (U:List Nat) (x:Nat),x∈SA t c U↔x∈U\/t.occ (c+x)≠0
 | .v i,c,U,x=>by
  simp only [SA,Tm.occ];split
  ·rw [mem_ins1];split
   ·simp;left;omega
   ·simp;omega
  ·split
   ·omega
   ·simp
 | .n0 k,c,U,x=>by simp [SA,Tm.occ]
 | .lam s b,c,U,x=>by simp only [SA,Tm.occ];rw [PK b,show c+1+x=c+x+1 by omega]
 | .n1 k a,c,U,x=>by simp only [SA,Tm.occ];exact PK a c U x
 | .n2 k a b,c,U,x=>by simp only [SA,Tm.occ];rw [PK b,PK a];constructor<;>(intro h;by_cases h1:x∈U<;>simp_all<;>omega)
 | .n3 k s a b d,c,U,x=>by simp only [SA,Tm.occ];rw [PK d,PK b,PK a];constructor<;>(intro h;by_cases h1:x∈U<;>simp_all<;>omega)
theorem QK:∀ (t:Tm) (c:Nat) {U:List Nat},U.Nodup->(SA t c U).Nodup
 | .v i,c,U,h=>by
  unfold SA;split
  ·exact rQ h
  ·exact h
 | .n0 k,c,U,h=>h
 | .lam s b,c,U,h=>QK b (c+1) h
 | .n1 k a,c,U,h=>QK a c h
 | .n2 k a b,c,U,h=>QK b c (QK a c h)
 | .n3 k s a b d,c,U,h=>QK d c (QK b c (QK a c h))
theorem RK:∀ (t:Tm) (c:Nat) (U:List Nat),(SA t c U).length<=U.length+t.cnt
 | .v i,c,U=>by
  simp only [SA,Tm.cnt];split
  ·exact sQ U _
  ·omega
 | .n0 k,c,U=>by simp [SA]
 | .lam s b,c,U=>by have:=RK b (c+1) U;simp only [SA,Tm.cnt];omega
 | .n1 k a,c,U=>by have:=RK a c U;simp only [SA,Tm.cnt];omega
 | .n2 k a b,c,U=>by have:=RK a c U;have:=RK b c (SA a c U);simp only [SA,Tm.cnt];omega
 | .n3 k s a b d,c,U=>by have:=RK a c U;have:=RK b c (SA a c U);have:=RK d c (SA b c (SA a c U));simp only [SA,Tm.cnt];omega
theorem UK:∀ (t:Tm) (v:Nat),t.occ v≠0->v<=t.mx
 | .v i,v,h=>by simp only [Tm.occ] at h;simp only [Tm.mx];split at h<;>omega
 | .n0 k,v,h=>absurd rfl h
 | .lam s b,v,h=>by have:=UK b (v+1) h;simp only [Tm.mx];omega
 | .n1 k a,v,h=>UK a v h
 | .n2 k a b,v,h=>by
  simp only [Tm.occ] at h;simp only [Tm.mx];by_cases h1:a.occ v=0
  ·have:=UK b v (by omega);omega
  ·have:=UK a v h1;omega
 | .n3 k s a b d,v,h=>by
  simp only [Tm.occ] at h;simp only [Tm.mx];by_cases h1:a.occ v=0
  ·by_cases h2:b.occ v=0
   ·have:=UK d v (by omega);omega
   ·have:=UK b v h2;omega
  ·have:=UK a v h1;omega
def XH:Nat->Nat
 | 0=>1
 | 1=>0
 | n=>n
theorem oY:∀ n,XH (XH n)=n
 | 0=>rfl
 | 1=>rfl
 | _+2=>rfl
theorem Sg (ρ:Nat->Nat):∀ U:List Nat,fI ρ (se U)=se U
 | []=>rfl
 | n::U=>by show (_,_)::fI ρ (se U)=_::se U;rw [Sg ρ U];rfl
theorem xY (U:List Nat):(nA U).ren XH=nA U:=by show Ob.smap false (fI XH (se U))=_;rw [Sg]
theorem wv (t:Tm) (h1:t.cnt<=qA) (h2:t.mx<=qA * qA):O 324 [.pv t.p,.pv (num 0),.map 1] [(1,.smap false [])] (.pv (.tuple [])) [(1,nA (SA t 0 []))]:=by
 have h:=AC.ren oY (NK t 0 [] (by omega) h2);have e:MD XH [(0,nA (SA t 0 []))]=[(1,nA (SA t 0 []))]:=by show [(1,(nA _).ren XH)]=_;rw [xY]
 rw [e] at h;exact h
theorem AY {U S:List Nat} (h:VN U S):O 44 [.map 1] [(1,nA U)] (.pv (bA S)) [(1,nA U)]:=by
 have h:=AC.ren oY (Mg h);have e:MD XH [(0,nA U)]=[(1,nA U)]:=by show [(1,(nA _).ren XH)]=_;rw [xY]
 rw [e] at h;exact h
theorem kv (t:Tm) (h1:t.cnt<=qA) (h2:t.tsz<=dA) (h3:t.mx<=qA * qA):∃ u:List Nat,A 301 [t.p] (.tuple [bA u,num t.chk])/\(t.chk=0->∀ v,v∈u↔t.occ v≠0)/\(t.chk≠0->u=[])/\u.length<=t.cnt/\WB u:=by
 have hm:=jA;have hbb:=uA;have g1:=cH t h2
 cases e:t.chk with
 | succ k =>
  rw [e] at g1;exact⟨[],f2 [(7,.N (k+1)),(9,.G)] g1 (BC (m:=k+1) (n:=0)),λ h=>(by cases h),λ _=>rfl,Nat.zero_le _,.nil⟩
 | zero =>
  rw [e] at g1;have hl:=RK t 0 [];obtain⟨S,h,h'⟩:=vU (QK t 0 (U:=[]) List.nodup_nil) (by simp at hl;omega);refine⟨S,f3 [(7,.N 0),(14,.d 1 (nA (SA t 0 [])) (.pv (.tuple []))),(16,.o [1] [] (.pv (bA S)))] g1 (wv t h1 h3) (AY h),λ _ v => ?_,λ h=>absurd rfl h,by simp at hl;omega,h.asc⟩;rw [h.mem,PK,Nat.zero_add];simp
def XD (U:List Nat):List Nat->List Nat
 | []=>U
 | x::r=>XD (oB U x) r
theorem BY:∀ (r U:List Nat) (x:Nat),x∈XD U r↔x∈U\/x∈r
 | [],U,x=>by simp [XD]
 | y::r,U,x=>by simp only [XD];rw [BY r,mem_ins1,List.mem_cons];exact⟨λ h=>h.elim (λ h=>h.elim (λ h => .inr (.inl h)) .inl) (λ h => .inr (.inr h)),λ h=>h.elim (λ h => .inl (.inr h)) (λ h=>h.elim (λ h => .inl (.inl h)) .inr)⟩
theorem CY:∀ (r:List Nat) {U:List Nat},U.Nodup->(XD U r).Nodup
 | [],_,h=>h
 | y::r,_,h=>CY r (rQ h)
theorem DY:∀ (r U:List Nat),(XD U r).length<=U.length+r.length
 | [],U=>by simp [XD]
 | y::r,U=>by have:=DY r (oB U y);have:=sQ U y;simp only [XD,List.length_cons];omega
abbrev uv (a b:List Nat) (k:Nat):List (Nat × V):=[(1,.pv (bA b)),(5,.map 0),(11,.pv (bA a)),(12,.pv (num (a.map ic).length)),(13,.pv (num k))]
abbrev dv (b:List Nat) (k:Nat):List (Nat × V):=[(5,.map 0),(20,.pv (bA b)),(21,.pv (num (b.map ic).length)),(22,.pv (num k))]
theorem Tg (a b:List Nat) (hl:a.length<=qA):∀ (r:List Nat) (k:Nat) (U:List Nat),a.drop k=r ->
  Lp 197 0 0 (st (uv a b k) [(0,nA U)] 1 []) (.exit 0) (st [(1,.pv (bA b)),(5,.map 0)] [(0,nA (XD U r))] 1 [])
 | [],k,U,h=>by
  have e:kA (.ofNat k) (.ofNat (a.map ic).length)=false:=CA (by simpa using TC h);exact y1 [(14,.H)] ⟨[1,5],[0],1,[]⟩ e (wB U)
 | x::r,k,U,h=>by
  have hm:=jA;obtain⟨d1,d2,d3⟩:=SC h;have e:kA (.ofNat k) (.ofNat (a.map ic).length)=true:=aA (by simpa using d2);have g3:=eA (show k+1<=_ by omega);have ih:=Tg a b hl r (k+1) (oB U x) d3;exact n6 [(14,.G),(15,.i (ic x)),(99999,.w ⟨.undef,some (0,nA (oB U x)),false⟩),(19,.ok)] ⟨[1,5,11,12,13],[0],1,[]⟩ e (KA d1 VJ) (tQ 0 U x) g3 (wB (oB U x)) ih
theorem Ug (b:List Nat) (hl:b.length<=qA):∀ (r:List Nat) (k:Nat) (U:List Nat),b.drop k=r ->
  Lp 197 1 0 (st (dv b k) [(0,nA U)] 1 []) (.exit 2) (st [(5,.map 0)] [(0,nA (XD U r))] 1 [])
 | [],k,U,h=>by
  have e:kA (.ofNat k) (.ofNat (b.map ic).length)=false:=CA (by simpa using TC h);exact y1 [(23,.H)] ⟨[5],[0],1,[]⟩ e (wB U)
 | x::r,k,U,h=>by
  have hm:=jA;obtain⟨d1,d2,d3⟩:=SC h;have e:kA (.ofNat k) (.ofNat (b.map ic).length)=true:=aA (by simpa using d2);have g3:=eA (show k+1<=_ by omega);have ih:=Ug b hl r (k+1) (oB U x) d3;exact n6 [(23,.G),(24,.i (ic x)),(99999,.w ⟨.undef,some (0,nA (oB U x)),false⟩),(28,.ok)] ⟨[5,20,21,22],[0],1,[]⟩ e (KA d1 VJ) (tQ 0 U x) g3 (wB (oB U x)) ih
theorem fv (a b:List Nat) (ha:a.length<=qA:=by omega) (hb:b.length<=qA:=by omega):∃ u:List Nat,A 197 [bA a,bA b] (bA u)/\(∀ v,v∈u↔v∈a\/v∈b)/\u.length<=a.length+b.length/\WB u:=by
 have hm:=jA;have h1:=DY a [];have h2:=DY b (XD [] a);obtain⟨S,h,h'⟩:=vU (CY b (CY a (U:=[]) List.nodup_nil)) (by simp at h1;omega);have l1:=Tg a b ha a 0 [] rfl;have l2:=Ug b hb b 0 (XD [] a) rfl;refine⟨S,fk [(100003,.l ⟨[1,5,11,12,13],[0],1,[]⟩ (.exit 0) (st [(1,.pv (bA b)),(5,.map 0)] [(0,nA (XD [] a))] 1 [])),(100008,.l ⟨[5,20,21,22],[0],1,[]⟩ (.exit 2) (st [(5,.map 0)] [(0,nA (XD (XD [] a) b))] 1 [])),(30,.o [0] [] (.pv (bA S)))] (And.intro (wB []) (And.intro l1 (And.intro (wB (XD [] a)) (And.intro l2 (And.intro (Mg h) (rfl:bA S=bA S)))))),λ v => ?_,by simp at h1;omega,h.asc⟩;rw [h.mem,BY,BY];simp
theorem lv:MF where
 uses t h1 h2 h3:=by
  have hm:=jA;obtain⟨u,g1,g2,g3,g4,g5⟩:=kv t h1 (by have:=uA;omega) h3;refine⟨u,t.chk,g1,λ h=>⟨h,λ v hv=>(g2 h v).2 hv⟩,λ x hx => ?_,g4,g5⟩;by_cases e:t.chk=0
  ·exact UK t x ((g2 e x).1 hx)
  ·rw [g3 e] at hx;cases hx
 union a b h1 h2 h3:=by
  obtain⟨u,g1,g2,g3,g4⟩:=fv a b;exact⟨u,g1,λ v hv=>(g2 v).2 hv,λ v hv=>(g2 v).1 hv,g3,g4⟩
theorem VK:∀ (t:Tm) (ρ:Nat->Nat),(t.ren ρ).cnt=t.cnt
 | .v _,_=>rfl
 | .lam s b,ρ=>by simp only [Tm.ren,Tm.cnt,VK b]
 | .n0 _,_=>rfl
 | .n1 _ a,ρ=>by simp only [Tm.ren,Tm.cnt,VK a]
 | .n2 _ a b,ρ=>by simp only [Tm.ren,Tm.cnt,VK a,VK b]
 | .n3 _ _ a b d,ρ=>by simp only [Tm.ren,Tm.cnt,VK a,VK b,VK d]
theorem WK:∀ (t:Tm) (ρ:Nat->Nat),(t.ren ρ).shp=t.shp
 | .v _,_=>rfl
 | .lam s b,ρ=>by simp only [Tm.ren,Tm.shp,WK b]
 | .n0 _,_=>rfl
 | .n1 _ a,ρ=>by simp only [Tm.ren,Tm.shp,WK a]
 | .n2 _ a b,ρ=>by simp only [Tm.ren,Tm.shp,WK a,WK b]
 | .n3 _ _ a b d,ρ=>by simp only [Tm.ren,Tm.shp,WK a,WK b,WK d]
theorem Vg (t:Tm) (ρ:Nat->Nat):(t.ren ρ).chk=t.chk:=by unfold Tm.chk;rw [WK,VK]
theorem rv (ρ:Nat->Nat):EC (λ i => .v (ρ i))=λ i => .v (ZI ρ i):=by
 funext i
 cases i with
 | zero=>rfl
 | succ i=>simp [EC,ZI,Tm.sh]
theorem uJ:∀ (t:Tm) (ρ:Nat->Nat),t.ren ρ=t.sub λ i => .v (ρ i)
 | .v _,_=>rfl
 | .lam s b,ρ=>by simp only [Tm.ren,Tm.sub,rv,uJ b]
 | .n0 _,_=>rfl
 | .n1 _ a,ρ=>by simp only [Tm.ren,Tm.sub,uJ a]
 | .n2 _ a b,ρ=>by simp only [Tm.ren,Tm.sub,uJ a,uJ b]
 | .n3 _ _ a b d,ρ=>by simp only [Tm.ren,Tm.sub,uJ a,uJ b,uJ d]
theorem sv (s:Tm):(Tm.v 0).put 0 s 0=s:=by
 simp only [Tm.put,Nat.add_zero,if_true];exact tF s 0
theorem EY (s:Tm) (i:Nat):(Tm.v (i+1)).put 0 s 0 = .v i:=by
 simp [Tm.put]
def RNg (g g':List Ty) (ρ:Nat->Nat):Prop:=∀ i s,vB g i = .ok s->vB g' (ρ i) = .ok s
theorem aG (g:List Ty) (s:Ty):vB (g++[s]) 0 = .ok s:=by
 unfold vB;rw [if_pos (by simp)];simp
theorem YH (g:List Ty) (s:Ty) (i:Nat):vB (g++[s]) (i+1)=vB g i:=by
 unfold vB;by_cases h:i<g.length
 ·rw [if_pos (by simp;omega),if_pos h,List.length_append,List.length_singleton,show g.length+1-1-(i+1)=g.length-1-i by omega,List.getElem?_append_left (by omega)]
 ·rw [if_neg (by simp;omega),if_neg h]
theorem RNg.up {g g':List Ty} {ρ:Nat->Nat} (h:RNg g g' ρ) (u:Ty):RNg (g++[u]) (g'++[u]) (ZI ρ):=λ i s e=>by
 cases i with
 | zero=>rw [aG] at e;show vB _ 0=_;rw [aG];exact e
 | succ i=>rw [YH] at e;show vB _ (ρ i+1)=_;rw [YH];exact h i s e
theorem iF:∀ (t:Tm) (g g':List Ty) (ρ:Nat->Nat) (s:Ty),RNg g g' ρ->t.tyR g = .ok s->(t.ren ρ).tyR g' = .ok s
 | .v i,g,g',ρ,s,h,e=>h i s e
 | .lam u b,g,g',ρ,s,h,e=>by
  simp only [Tm.tyR,Tm.ren] at e ⊢
  cases e1:b.tyR (g++[u]) with
  | er n=>rw [e1] at e;cases e
  | ok x=>rw [e1] at e;rw [iF b _ _ _ x (h.up u) e1];exact e
 | .n0 k,_,_,_,_,_,e=>e
 | .n1 k a,g,g',ρ,s,h,e=>by
  simp only [Tm.tyR,Tm.ren] at e ⊢
  cases e1:a.tyR g with
  | er n=>rw [e1] at e;cases e
  | ok x=>rw [e1] at e;rw [iF a _ _ _ x h e1];exact e
 | .n2 k a b,g,g',ρ,s,h,e=>by
  simp only [Tm.tyR,Tm.ren] at e ⊢
  cases e1:a.tyR g with
  | er n=>rw [e1] at e;cases e
  | ok x=>cases e2:b.tyR g with
   | er n=>rw [e1,e2] at e;cases e
   | ok y=>rw [e1,e2] at e;rw [iF a _ _ _ x h e1,iF b _ _ _ y h e2];exact e
 | .n3 k u a b c,g,g',ρ,s,h,e=>by
  simp only [Tm.tyR,Tm.ren] at e ⊢
  cases e1:a.tyR g with
  | er n=>rw [e1] at e;cases e
  | ok x=>cases e2:b.tyR g with
   | er n=>rw [e1,e2] at e;cases e
   | ok y=>cases e3:c.tyR g with
    | er n=>rw [e1,e2,e3] at e;cases e
    | ok w=>rw [e1,e2,e3] at e;rw [iF a _ _ _ x h e1,iF b _ _ _ y h e2,iF c _ _ _ w h e3];exact e
open Go.Lg
def Fm.ren:(Nat->Nat)->Fm->Fm
 | ρ,.eq a b => .eq (a.ren ρ) (b.ren ρ)
 | ρ,.bin k f g => .bin k (f.ren ρ) (g.ren ρ)
 | ρ,.q k s f => .q k s (f.ren (ZI ρ))
def Fm.sub:(Nat->Tm)->Fm->Fm
 | σ,.eq a b => .eq (a.sub σ) (b.sub σ)
 | σ,.bin k f g => .bin k (f.sub σ) (g.sub σ)
 | σ,.q k s f => .q k s (f.sub (EC σ))
def ZH (c k i:Nat):Nat:=if c<=i then i+k else i
theorem FY (c k:Nat):ZI (ZH c k)=ZH (c+1) k:=by
 funext i
 cases i with
 | zero=>rfl
 | succ i=>simp only [ZI,ZH];split<;>split<;>omega
theorem wU:∀ (f:Fm) (σ τ:Nat->Tm),(∀ i,f.occ i≠0->σ i=τ i)->f.sub σ=f.sub τ
 | .eq a b,σ,τ,h=>by
  simp only [Fm.sub];rw [nG a σ τ λ i hi=>h i (by simp only [Fm.occ];omega),nG b σ τ λ i hi=>h i (by simp only [Fm.occ];omega)]
 | .bin k f g,σ,τ,h=>by
  simp only [Fm.sub];rw [wU f σ τ λ i hi=>h i (by simp only [Fm.occ];omega),wU g σ τ λ i hi=>h i (by simp only [Fm.occ];omega)]
 | .q k s f,σ,τ,h=>by
  simp only [Fm.sub];rw [wU f (EC σ) (EC τ) λ i hi=>by
   cases i with
   | zero=>rfl
   | succ i=>simp only [EC];rw [h i hi]]
theorem kU (k:Nat):∀ (f:Fm) (c:Nat),f.sh c (.ofNat k)=f.ren (ZH c k)
 | .eq a b,c=>by
  simp only [Fm.sh,Fm.ren];rw [mG k a,mG k b];rfl
 | .bin l f g,c=>by simp only [Fm.sh,Fm.ren];rw [kU k f,kU k g]
 | .q l s f,c=>by simp only [Fm.sh,Fm.ren];rw [kU k f,FY]
theorem av (c:Nat) (S:Tm) (d:Nat):EC (λ i=>(Tm.v i).put c S d)=λ i=>(Tm.v i).put c S (d+1):=by
 funext i;symm
 cases i with
 | zero =>
  simp only [Tm.put,EC];rw [if_neg (by omega),if_neg (by omega)]
 | succ i =>
  simp only [Tm.put,EC];by_cases e:i=c+d
  ·rw [if_pos (by omega),if_pos e,bQ];rfl
  ·rw [if_neg (by omega),if_neg e];by_cases e':c+d<i
   ·rw [if_pos (by omega),if_pos e'];simp only [Tm.sh,Nat.zero_le,if_true];congr 1;show i=(Int.ofNat (i-1)+Int.ofNat 1).toNat;simp;omega
   ·rw [if_neg (by omega),if_neg e'];simp [Tm.sh]
theorem XN (c:Nat) (S:Tm):∀ (f:Fm) (d:Nat),f.put c S d=f.sub λ i=>(Tm.v i).put c S d
 | .eq a b,d=>by simp only [Fm.put,Fm.sub];rw [UH c S a,UH c S b]
 | .bin l f g,d=>by simp only [Fm.put,Fm.sub];rw [XN c S f,XN c S g]
 | .q l s f,d=>by simp only [Fm.put,Fm.sub];rw [XN c S f,av]
theorem yU:∀ (f:Fm) (g g':List Ty) (ρ:Nat->Nat),RNg g g' ρ->f.ty g->(f.ren ρ).ty g'
 | .eq a b,g,g',ρ,h,⟨⟨h1,h2⟩,h3,h4⟩=>⟨⟨by rw [Vg];exact h1,iF a g g' ρ _ h h2⟩,by rw [Vg];exact h3,iF b g g' ρ _ h h4⟩
 | .bin _ f k,g,g',ρ,h,⟨h1,h2⟩=>⟨yU f g g' ρ h h1,yU k g g' ρ h h2⟩
 | .q _ s f,g,g',ρ,h,h1=>yU f _ _ _ (h.up s) h1
end Go.Proofs.YtmkajedkflhbgaaGreatDoor
namespace Go.Proofs.YtmkajedkflhbgaaGreatDoor
open Go.Lg
set_option maxRecDepth 100000
theorem Wg (g:List Ty) (s:Ty):RNg g (g++[s]) (· + 1):=λ i u e=>by rw [YH];exact e
theorem ov (g:List Ty) (s:Ty):RNg g (s::g) (λ i=>i):=λ i u e=>by
 unfold vB at e ⊢;by_cases h:i<g.length
 ·rw [if_pos h] at e;rw [if_pos (by simp;omega),List.length_cons,show g.length+1-1-i=(g.length-1-i)+1 by omega,List.getElem?_cons_succ];exact e
 ·rw [if_neg h] at e;cases e
theorem xv:ZI (λ i=>i)=λ i=>i:=by
 funext i;cases i<;>rfl
theorem Xg (t:Tm):t.ren (λ i=>i)=t:=by rw [uJ];exact zJ t
theorem aQ:∀ f:Fm,f.ren (λ i=>i)=f
 | .eq a b=>by simp only [Fm.ren,Xg]
 | .bin _ f g=>by simp only [Fm.ren,aQ f,aQ g]
 | .q _ _ f=>by simp only [Fm.ren,xv,aQ f]
def Ht:List Ty->Tm->Ty->Prop
 | G,.v i,u=>vB G i = .ok u
 | G,.lam s b,u => ∃ w,u = .two true s w/\Ht (G++[s]) b w
 | _,.n0 k,u=>u=match k with
  | .zero => .nat
  | .nil => .list
  | .unit => .unit
 | G,.n1 k a,u=>match k with
  | .succ=>u = .nat/\Ht G a .nat
  | .fst => ∃ w,Ht G a (.two false u w)
  | .snd => ∃ w,Ht G a (.two false w u)
 | G,.n2 k a b,u=>match k with
  | .app => ∃ s,Ht G a (.two true s u)/\Ht G b s
  | .cons=>u = .list/\Ht G a .nat/\Ht G b .list
  | .pair => ∃ s w,u = .two false s w/\Ht G a s/\Ht G b w
 | G,.n3 k s a b c,u=>u=s/\Ht G a s/\match k with
  | .re=>Ht G b (.two true .nat (.two true s s))/\Ht G c .nat
  | .fo=>Ht G b (.two true .nat (.two true .list (.two true s s)))/\Ht G c .list
theorem uU (s:Ty):s.same s=true:=(uD s s).2 rfl
theorem lM {x y u:Ty} {r:TR} (h:(bif x.same y then r else .er 6) = .ok u):x=y/\r = .ok u:=by
 cases e:x.same y
 ·rw [e] at h;cases h
 ·rw [e] at h;exact⟨(uD x y).1 e,h⟩
theorem Yg (t:Ty):TR.fit t = .ok t\/TR.fit t = .er 3:=by
 unfold TR.fit;split
 ·exact .inl rfl
 ·exact .inr rfl
theorem UE:∀ (t:Tm) (G:List Ty) (u:Ty),Ht G t u->t.tyR G = .ok u\/t.tyR G = .er 3
 | .v _,_,_,h => .inl h
 | .lam s b,G,u,⟨w,e,h⟩=>by
  show ZF s (b.tyR (G++[s]))=_\/_;rcases UE b _ w h with h|h
  ·rw [show (Tm.lam s b).tyR G=ZF s (b.tyR (G++[s])) from rfl,h,e];exact Yg _
  ·rw [show (Tm.lam s b).tyR G=ZF s (b.tyR (G++[s])) from rfl,h];exact .inr rfl
 | .n0 k,_,_,h => .inl (by cases k<;>subst h<;>rfl)
 | .n1 k a,G,u,h=>by
  show SD k (a.tyR G)=_\/SD k (a.tyR G)=_;cases k
  ·obtain⟨rfl,h⟩:=h;rcases UE a _ _ h with h|h<;>rw [h]
   ·exact .inl rfl
   ·exact .inr rfl
  ·obtain⟨w,h⟩:=h;rcases UE a _ _ h with h|h<;>rw [h]
   ·exact .inl rfl
   ·exact .inr rfl
  ·obtain⟨w,h⟩:=h;rcases UE a _ _ h with h|h<;>rw [h]
   ·exact .inl rfl
   ·exact .inr rfl
 | .n2 k a b,G,u,h=>by
  show mC k (a.tyR G) (b.tyR G)=_\/mC k (a.tyR G) (b.tyR G)=_;cases k
  ·obtain⟨s,h1,h2⟩:=h;rcases UE a _ _ h1 with h|h<;>rw [h]
   ·rcases UE b _ _ h2 with h|h<;>rw [h]
    ·exact .inl (by simp only [mC,uU,cond_true])
    ·exact .inr rfl
   ·exact .inr rfl
  ·obtain⟨rfl,h1,h2⟩:=h;rcases UE a _ _ h1 with h|h<;>rw [h]
   ·rcases UE b _ _ h2 with h|h<;>rw [h]
    ·exact .inl rfl
    ·exact .inr rfl
   ·exact .inr rfl
  ·obtain⟨s,w,rfl,h1,h2⟩:=h;rcases UE a _ _ h1 with h|h<;>rw [h]
   ·rcases UE b _ _ h2 with h|h<;>rw [h]
    ·exact Yg _
    ·exact .inr rfl
   ·exact .inr rfl
 | .n3 k s a b c,G,u,h=>by
  show bB k s (a.tyR G) (b.tyR G) (c.tyR G)=_\/bB k s (a.tyR G) (b.tyR G) (c.tyR G)=_;obtain⟨rfl,h1,h⟩:=h;cases k<;>obtain⟨h2,h3⟩:=h
  all_goals
   rcases UE a _ _ h1 with h|h<;>rw [h]
   ·rcases UE b _ _ h2 with h|h<;>rw [h]
    ·rcases UE c _ _ h3 with h|h<;>rw [h]
     ·exact .inl (by simp only [bB,uU,cond_true])
     ·exact .inr rfl
    ·exact .inr rfl
   ·exact .inr rfl
theorem Zg {t u:Ty} (h:TR.fit t = .ok u):u=t:=by
 unfold TR.fit at h;split at h
 ·cases h;rfl
 ·cases h
def TI (G:List Ty):Tm->Ty->Prop
 | .v i,u=>vB G i = .ok u
 | .lam s b,u => ∃ w,u = .two true s w/\b.tyR (G++[s]) = .ok w
 | .n0 k,u=>u=match k with
  | .zero => .nat
  | .nil => .list
  | .unit => .unit
 | .n1 k a,u=>match k with
  | .succ=>u = .nat/\a.tyR G = .ok .nat
  | .fst => ∃ w,a.tyR G = .ok (.two false u w)
  | .snd => ∃ w,a.tyR G = .ok (.two false w u)
 | .n2 k a b,u=>match k with
  | .app => ∃ s,a.tyR G = .ok (.two true s u)/\b.tyR G = .ok s
  | .cons=>u = .list/\a.tyR G = .ok .nat/\b.tyR G = .ok .list
  | .pair => ∃ s w,u = .two false s w/\a.tyR G = .ok s/\b.tyR G = .ok w
 | .n3 k s a b c,u=>u=s/\a.tyR G = .ok s/\match k with
  | .re=>b.tyR G = .ok (.two true .nat (.two true s s))/\c.tyR G = .ok .nat
  | .fo=>b.tyR G = .ok (.two true .nat (.two true .list (.two true s s)))/\c.tyR G = .ok .list
theorem PC (t:Tm) (G:List Ty) (u:Ty) (h:t.tyR G = .ok u):TI G t u:=by
 cases t with
 | v i=>exact h
 | lam s b =>
  have h:ZF s (b.tyR (G++[s])) = .ok u:=h
  cases e:b.tyR (G++[s]) with
  | er n=>rw [e] at h;cases h
  | ok w=>rw [e] at h;exact⟨w,Zg h,e⟩
 | n0 k=>cases k<;>cases h<;>rfl
 | n1 k a =>
  have h:SD k (a.tyR G) = .ok u:=h
  cases e:a.tyR G with
  | er n=>rw [e] at h;cases h
  | ok s =>
   rw [e] at h;cases k
   ·obtain⟨rfl,h⟩:=lM h;cases h;exact⟨rfl,e⟩
   all_goals
    cases s with
    | two q c d =>
     cases q
     ·cases h;exact⟨_,e⟩
     ·cases h
    | _=>cases h
 | n2 k a b =>
  have h:mC k (a.tyR G) (b.tyR G) = .ok u:=h
  cases e:a.tyR G with
  | er n=>rw [e] at h;cases h
  | ok s=>cases e2:b.tyR G with
   | er n=>rw [e,e2] at h;cases h
   | ok w =>
    rw [e,e2] at h;cases k
    ·cases s with
     | two q c d =>
      cases q
      ·cases h
      ·obtain⟨q1,q⟩:=lM h;cases q;exact⟨c,e,q1 ▸ e2⟩
     | _=>cases h
    ·obtain⟨rfl,h⟩:=lM h;obtain⟨rfl,h⟩:=lM h;cases h;exact⟨rfl,e,e2⟩
    ·exact⟨s,w,Zg h,e,e2⟩
 | n3 k s a b c =>
  have h:bB k s (a.tyR G) (b.tyR G) (c.tyR G) = .ok u:=h
  cases e:a.tyR G with
  | er n=>rw [e] at h;cases h
  | ok x=>cases e2:b.tyR G with
   | er n=>rw [e,e2] at h;cases h
   | ok y=>cases e3:c.tyR G with
    | er n=>rw [e,e2,e3] at h;cases h
    | ok z =>
     rw [e,e2,e3] at h;cases k
     all_goals
      obtain⟨q1,k⟩:=lM h;obtain⟨q2,k⟩:=lM k;obtain⟨q3,k⟩:=lM k;cases k;subst q1 q2 q3;exact⟨rfl,e,e2,e3⟩
theorem VE:∀ (t:Tm) (G:List Ty) (u:Ty),t.tyR G = .ok u->Ht G t u
 | .v _,_,_,h=>h
 | .lam s b,G,u,h=>by
  obtain⟨w,e,k⟩:=PC _ _ _ h;exact⟨w,e,VE b _ _ k⟩
 | .n0 k,G,u,h=>PC _ _ _ h
 | .n1 k a,G,u,h=>by
  have h:=PC _ _ _ h;cases k
  ·exact⟨h.1,VE a _ _ h.2⟩
  ·exact⟨_,VE a _ _ h.choose_spec⟩
  ·exact⟨_,VE a _ _ h.choose_spec⟩
 | .n2 k a b,G,u,h=>by
  have h:=PC _ _ _ h;cases k
  ·exact⟨_,VE a _ _ h.choose_spec.1,VE b _ _ h.choose_spec.2⟩
  ·exact⟨h.1,VE a _ _ h.2.1,VE b _ _ h.2.2⟩
  ·obtain⟨s,w,e,k1,k2⟩:=h;exact⟨s,w,e,VE a _ _ k1,VE b _ _ k2⟩
 | .n3 k s a b c,G,u,h=>by
  have h:=PC _ _ _ h;exact⟨h.1,VE a _ _ h.2.1,by cases k<;>exact⟨VE b _ _ h.2.2.1,VE c _ _ h.2.2.2⟩⟩
theorem aE:∀ (t:Tm) (g g':List Ty) (ρ:Nat->Nat) (u:Ty),RNg g g' ρ->Ht g t u->Ht g' (t.ren ρ) u
 | .v i,_,_,_,_,h,k=>h i _ k
 | .lam s b,_,_,_,_,h,⟨w,e,k⟩=>⟨w,e,aE b _ _ _ _ (h.up s) k⟩
 | .n0 _,_,_,_,_,_,k=>k
 | .n1 q a,g,g',ρ,u,h,k=>by
  cases q
  ·exact⟨k.1,aE a _ _ _ _ h k.2⟩
  ·exact⟨_,aE a _ _ _ _ h k.choose_spec⟩
  ·exact⟨_,aE a _ _ _ _ h k.choose_spec⟩
 | .n2 q a b,g,g',ρ,u,h,k=>by
  cases q
  ·obtain⟨s,k1,k2⟩:=k;exact⟨s,aE a _ _ _ _ h k1,aE b _ _ _ _ h k2⟩
  ·exact⟨k.1,aE a _ _ _ _ h k.2.1,aE b _ _ _ _ h k.2.2⟩
  ·obtain⟨s,w,e,k1,k2⟩:=k;exact⟨s,w,e,aE a _ _ _ _ h k1,aE b _ _ _ _ h k2⟩
 | .n3 q s a b c,g,g',ρ,u,h,⟨e,k1,k2⟩=>⟨e,aE a _ _ _ _ h k1,by cases q<;>exact⟨aE b _ _ _ _ h k2.1,aE c _ _ _ _ h k2.2⟩⟩
theorem GY {G:List Ty} {t:Tm} {u:Ty} (s:Ty) (h:Ht G t u):Ht (G++[s]) (t.sh 0 (.ofNat 1)) u:=by
 rw [vM];exact aE t _ _ _ _ (λ i u e=>by rw [YH];exact e) h
def Hg (g g':List Ty) (σ:Nat->Tm):Prop:=∀ i s,vB g i = .ok s->Ht g' (σ i) s
theorem Hg.up {g g':List Ty} {σ:Nat->Tm} (h:Hg g g' σ) (u:Ty):Hg (g++[u]) (g'++[u]) (EC σ):=λ i s e=>by
 cases i with
 | zero=>rw [aG] at e;show vB _ 0=_;rw [aG];exact e
 | succ i=>rw [YH] at e;exact GY u (h i s e)
theorem WE:∀ (t:Tm) (g g':List Ty) (σ:Nat->Tm) (u:Ty),Hg g g' σ->Ht g t u->Ht g' (t.sub σ) u
 | .v i,_,_,_,_,h,k=>h i _ k
 | .lam s b,_,_,_,_,h,⟨w,e,k⟩=>⟨w,e,WE b _ _ _ _ (h.up s) k⟩
 | .n0 _,_,_,_,_,_,k=>k
 | .n1 q a,g,g',ρ,u,h,k=>by
  cases q
  ·exact⟨k.1,WE a _ _ _ _ h k.2⟩
  ·exact⟨_,WE a _ _ _ _ h k.choose_spec⟩
  ·exact⟨_,WE a _ _ _ _ h k.choose_spec⟩
 | .n2 q a b,g,g',ρ,u,h,k=>by
  cases q
  ·obtain⟨s,k1,k2⟩:=k;exact⟨s,WE a _ _ _ _ h k1,WE b _ _ _ _ h k2⟩
  ·exact⟨k.1,WE a _ _ _ _ h k.2.1,WE b _ _ _ _ h k.2.2⟩
  ·obtain⟨s,w,e,k1,k2⟩:=k;exact⟨s,w,e,WE a _ _ _ _ h k1,WE b _ _ _ _ h k2⟩
 | .n3 q s a b c,g,g',ρ,u,h,⟨e,k1,k2⟩=>⟨e,WE a _ _ _ _ h k1,by cases q<;>exact⟨WE b _ _ _ _ h k2.1,WE c _ _ _ _ h k2.2⟩⟩
open Go.Lg
def SNg (g g':List Ty) (σ:Nat->Tm):Prop:=∀ i s,vB g i = .ok s->(σ i).tyR g' = .ok s
theorem SNg.up {g g':List Ty} {σ:Nat->Tm} (h:SNg g g' σ) (u:Ty):SNg (g++[u]) (g'++[u]) (EC σ):=λ i s e=>by
 cases i with
 | zero=>rw [aG] at e;show vB _ 0=_;rw [aG];exact e
 | succ i =>
  rw [YH] at e;show ((σ i).sh 0 (.ofNat 1)).tyR _=_;rw [vM];exact iF _ _ _ _ _ (Wg g' u) (h i s e)
theorem qh {k:K1} {a b:Tm} {g g':List Ty} {u:Ty} (ha:∀ w,a.tyR g = .ok w->b.tyR g' = .ok w) (h:(Tm.n1 k a).tyR g = .ok u):(Tm.n1 k b).tyR g' = .ok u:=by
 have h:SD k (a.tyR g) = .ok u:=h;show SD k (b.tyR g')=_
 cases e:a.tyR g with
 | er n=>rw [e] at h;cases h
 | ok w=>rw [ha w e,<- e];exact h
theorem HY {k:K2} {a b c d:Tm} {g g':List Ty} {u:Ty} (ha:∀ w,a.tyR g = .ok w->b.tyR g' = .ok w) (hc:∀ w,c.tyR g = .ok w->d.tyR g' = .ok w) (h:(Tm.n2 k a c).tyR g = .ok u):(Tm.n2 k b d).tyR g' = .ok u:=by
 have h:mC k (a.tyR g) (c.tyR g) = .ok u:=h;show mC k (b.tyR g') (d.tyR g')=_
 cases e:a.tyR g with
 | er n=>rw [e] at h;cases h
 | ok w=>cases e2:c.tyR g with
  | er n=>rw [e,e2] at h;cases h
  | ok v=>rw [ha w e,hc v e2,<- e,<- e2];exact h
theorem bU {k:K3} {s:Ty} {a b c d e f:Tm} {g g':List Ty} {u:Ty} (ha:∀ w,a.tyR g = .ok w->b.tyR g' = .ok w) (hc:∀ w,c.tyR g = .ok w->d.tyR g' = .ok w) (he:∀ w,e.tyR g = .ok w->f.tyR g' = .ok w) (h:(Tm.n3 k s a c e).tyR g = .ok u):(Tm.n3 k s b d f).tyR g' = .ok u:=by
 have h:bB k s (a.tyR g) (c.tyR g) (e.tyR g) = .ok u:=h;show bB k s (b.tyR g') (d.tyR g') (f.tyR g')=_
 cases e1:a.tyR g with
 | er n=>rw [e1] at h;cases h
 | ok w=>cases e2:c.tyR g with
  | er n=>rw [e1,e2] at h;cases h
  | ok v=>cases e3:e.tyR g with
   | er n=>rw [e1,e2,e3] at h;cases h
   | ok x=>rw [ha w e1,hc v e2,he x e3,<- e1,<- e2,<- e3];exact h
theorem zh {s:Ty} {a b:Tm} {g g':List Ty} {u:Ty} (ha:∀ w,a.tyR (g++[s]) = .ok w->b.tyR (g'++[s]) = .ok w) (h:(Tm.lam s a).tyR g = .ok u):(Tm.lam s b).tyR g' = .ok u:=by
 have h:ZF s (a.tyR (g++[s])) = .ok u:=h;show ZF s (b.tyR (g'++[s]))=_
 cases e:a.tyR (g++[s]) with
 | er n=>rw [e] at h;cases h
 | ok w=>rw [ha w e,<- e];exact h
theorem qI:∀ (t:Tm) (g g':List Ty) (σ:Nat->Tm) (s:Ty),SNg g g' σ->t.tyR g = .ok s->(t.sub σ).tyR g' = .ok s
 | .v i,g,g',σ,s,h,e=>h i s e
 | .lam u b,_,_,_,_,h,e=>zh (λ w=>qI b _ _ _ w (h.up u)) e
 | .n0 k,_,_,_,_,_,e=>e
 | .n1 k a,_,_,_,_,h,e=>qh (λ w=>qI a _ _ _ w h) e
 | .n2 k a b,_,_,_,_,h,e=>HY (λ w=>qI a _ _ _ w h) (λ w=>qI b _ _ _ w h) e
 | .n3 k u a b c,_,_,_,_,h,e=>bU (λ w=>qI a _ _ _ w h) (λ w=>qI b _ _ _ w h) (λ w=>qI c _ _ _ w h) e
theorem jh {g:List Ty} {t:Tm} {s:Ty} (h:t.tyR g = .ok s):SNg (g++[s]) g λ i=>(Tm.v i).put 0 t 0:=λ i u e=>by
 cases i with
 | zero=>rw [aG] at e;cases e;show ((Tm.v 0).put 0 t 0).tyR g=_;rw [sv];exact h
 | succ i=>rw [YH] at e;show ((Tm.v (i+1)).put 0 t 0).tyR g=_;rw [EY];exact e
theorem Av {g:List Ty} {b t:Tm} {s u:Ty} (hb:b.tyR (g++[s]) = .ok u) (h:t.tyR g = .ok s):(b.put 0 t 0).tyR g = .ok u:=by
 rw [UH];exact qI b _ _ _ u (jh h) hb
theorem YN {g:List Ty} {f x:Tm} {s u:Ty} (h1:f.tyR g = .ok (.two true s u)) (h2:x.tyR g = .ok s):(Tm.n2 .app f x).tyR g = .ok u:=by
 show mC .app (f.tyR g) (x.tyR g)=_;rw [h1,h2];simp only [mC,uU,cond_true]
theorem vh {k:K3} {g:List Ty} {s u:Ty} {a b c c':Tm} (h:(Tm.n3 k s a b c).tyR g = .ok u) (hc:c'.tyR g=c.tyR g):(Tm.n3 k s a b c').tyR g = .ok u:=by
 show bB k s (a.tyR g) (b.tyR g) (c'.tyR g)=_;rw [hc];exact h
theorem IY (g:List Ty) (u:Ty):∀ {t r:Tm},t.red=some r->t.tyR g = .ok u->r.tyR g = .ok u:=by
 refine RJ (P:=λ t r=>t.tyR g = .ok u->r.tyR g = .ok u) (λ a b h => ?_) (λ a b h => ?_) (λ s b a h => ?_) (λ s b f h => ?_) (λ s b f n h => ?_) (λ s b f h => ?_) (λ s b f x l h => ?_)
 ·obtain⟨w,h⟩:=PC _ _ _ h;obtain⟨s,w,e,h1,_⟩:=PC _ _ _ h;cases e;exact h1
 ·obtain⟨w,h⟩:=PC _ _ _ h;obtain⟨s,w,e,_,h1⟩:=PC _ _ _ h;cases e;exact h1
 ·obtain⟨w,h,h2⟩:=PC _ _ _ h;obtain⟨v,e,h1⟩:=PC _ _ _ h;cases e;exact Av h1 h2
 ·obtain⟨e,h1,_⟩:=PC _ _ _ h;rw [e];exact h1
 ·obtain⟨e,h1,h2,h3⟩:=PC _ _ _ h;subst e;have h4:=(PC _ _ _ h3).2;exact YN (YN h2 h4) (vh h (h4.trans h3.symm))
 ·obtain⟨e,h1,_⟩:=PC _ _ _ h;rw [e];exact h1
 ·obtain⟨e,h1,h2,h3⟩:=PC _ _ _ h;subst e;obtain⟨_,h4,h5⟩:=PC _ _ _ h3;exact YN (YN (YN h2 h4) h5) (vh h (h5.trans h3.symm))
theorem JY {z:Int} {t r x:Tm} (h:rt z t r = .ok x):x=r:=by
 unfold rt at h;cases e1:kA z ((r.cnt:Int)-t.cnt)<;>rw [e1] at h<;>cases h;rfl
theorem XK (z:Int):∀ (t:Tm) {x:Tm} {g:List Ty} {u:Ty},t.st z = .ok x->t.tyR g = .ok u->x.tyR g = .ok u
 | .v _,_,_,_,h,_=>by cases h
 | .n0 _,_,_,_,h,_=>by cases h
 | .lam s b,_,_,_,h,k=>by
  rcases LC h with ⟨y,e,rfl⟩|⟨_,h⟩
  ·exact zh (λ w=>XK z b e) k
  ·cases h
 | .n1 q a,_,g,u,h,k=>by
  cases hr:(Tm.n1 q a).red with
  | some r=>rw [jG hr] at h;rw [JY h];exact IY g u hr k
  | none =>
   simp only [Tm.st,hr] at h;rcases LC h with ⟨y,e,rfl⟩|⟨_,h⟩
   ·exact qh (λ w=>XK z a e) k
   ·cases h
 | .n2 q a b,_,g,u,h,k=>by
  cases hr:(Tm.n2 q a b).red with
  | some r=>rw [jG hr] at h;rw [JY h];exact IY g u hr k
  | none =>
   simp only [Tm.st,hr] at h;rcases LC h with ⟨y,e,rfl⟩|⟨_,h⟩
   ·exact HY (λ w=>XK z a e) (λ w e=>e) k
   ·rcases LC h with ⟨y,e,rfl⟩|⟨_,h⟩
    ·exact HY (λ w e=>e) (λ w=>XK z b e) k
    ·cases h
 | .n3 q s a b c,_,g,u,h,k=>by
  cases hr:(Tm.n3 q s a b c).red with
  | some r=>rw [jG hr] at h;rw [JY h];exact IY g u hr k
  | none =>
   simp only [Tm.st,hr] at h;rcases LC h with ⟨y,e,rfl⟩|⟨_,h⟩
   ·exact bU (λ w=>XK z a e) (λ w e=>e) (λ w e=>e) k
   ·rcases LC h with ⟨y,e,rfl⟩|⟨_,h⟩
    ·exact bU (λ w e=>e) (λ w=>XK z b e) (λ w e=>e) k
    ·rcases LC h with ⟨y,e,rfl⟩|⟨_,h⟩
     ·exact bU (λ w e=>e) (λ w e=>e) (λ w=>XK z c e) k
     ·cases h
theorem KY:∀ (r n:Nat) (t:Tm) {x:Tm} {k:Nat} {g:List Ty} {u:Ty},rD r n t = .ok x k->t.tyR g = .ok u->x.tyR g = .ok u
 | 0,n,t,x,k,g,u,h,q=>by
  unfold rD at h;split at h
  ·cases h;exact q
  ·cases h
 | r+1,n,t,x,k,g,u,h,q=>by
  unfold rD at h;split at h
  ·cases h;exact q
  ·cases h
  ·rename_i y e;exact KY r _ y h (XK _ t e q)
def Fm.tq:List Ty->Fm->Prop
 | g,.eq a b=>a.tyR g = .ok .nat/\b.tyR g = .ok .nat
 | g,.bin _ f h=>f.tq g/\h.tq g
 | g,.q _ s f=>f.tq (g++[s])
theorem bJ:∀ (f:Fm) (g:List Ty),f.ty g->f.tq g
 | .eq _ _,_,⟨⟨_,h2⟩,_,h4⟩=>⟨h2,h4⟩
 | .bin _ f k,g,⟨h1,h2⟩=>⟨bJ f g h1,bJ k g h2⟩
 | .q _ _ f,_,h=>bJ f _ h
theorem wh {t:Tm} (h1:t.shp=true) (h2:t.cnt<=4096:=by omega):t.chk=0:=by
 unfold Tm.chk;rw [h1];simp only;rw [CA h2]
theorem dU:∀ (f:Fm) (g:List Ty),f.shp=true->f.cnt<=4096->f.tq g->f.ty g
 | .eq a b,_,h,hc,⟨h1,h2⟩=>by
  have hc:1+a.cnt+b.cnt<=4096:=hc;exact⟨⟨wh (DA h).1,h1⟩,wh (DA h).2,h2⟩
 | .bin _ f k,g,h,hc,⟨h1,h2⟩=>by
  have hc:1+f.cnt+k.cnt<=4096:=hc;exact⟨dU f g (DA h).1 (by omega) h1,dU k g (DA h).2 (by omega) h2⟩
 | .q _ _ f,_,h,hc,k=>by
  have hc:1+f.cnt<=4096:=hc;exact dU f _ (DA h).2 (by omega) k
theorem fU:∀ (f:Fm) (g g':List Ty) (σ:Nat->Tm),SNg g g' σ->f.tq g->(f.sub σ).tq g'
 | .eq a b,g,g',σ,h,⟨h2,h4⟩=>⟨qI a g g' σ _ h h2,qI b g g' σ _ h h4⟩
 | .bin _ f k,g,g',σ,h,⟨h1,h2⟩=>⟨fU f g g' σ h h1,fU k g g' σ h h2⟩
 | .q _ s f,g,g',σ,h,h1=>fU f _ _ _ (h.up s) h1
theorem yh {f:Fm} {g:List Ty} {t:Tm} {s:Ty} (h:f.tq (g++[s])) (ht:t.tyR g = .ok s):(f.put 0 t 0).tq g:=by
 rw [XN];exact fU f _ _ _ (jh ht) h
theorem gU {f y:Fm} {g:List Ty} {t:Tm} {s:Ty} (e:f.pt t = .ok y) (h:f.tq (g++[s])) (ht:t.tyR g = .ok s):y.tq g:=by
 unfold Fm.pt at e;split at e
 ·cases e;exact yh h ht
 ·cases e
theorem cQ:∀ (f:Fm) (g g':List Ty) (ρ:Nat->Nat),RNg g g' ρ->f.tq g->(f.ren ρ).tq g'
 | .eq a b,g,g',σ,h,⟨h2,h4⟩=>⟨iF a g g' σ _ h h2,iF b g g' σ _ h h4⟩
 | .bin _ f k,g,g',σ,h,⟨h1,h2⟩=>⟨cQ f g g' σ h h1,cQ k g g' σ h h2⟩
 | .q _ s f,g,g',σ,h,h1=>cQ f _ _ _ (h.up s) h1
theorem uh {f:Fm} {g g':List Ty} {c k:Nat} (h:RNg g g' (ZH c k)) (hf:f.tq g):(f.sh c (.ofNat k)).tq g':=by
 rw [kU];exact cQ f g g' _ h hf
theorem ZN {g:List Ty} {i:Nat} {t:Ty} (h:vB g i = .ok t):i<g.length:=by
 unfold vB at h;split at h
 ·assumption
 ·cases h
theorem Bv (k:Nat):ZH 0 k=(· + k):=by funext i;simp [ZH]
theorem lU (g:List Ty) (s:Ty):RNg g (g++[s]) (ZH 0 1):=by rw [Bv];exact Wg g s
theorem LY {g g':List Ty} {hs:List Fm} {k:Nat} (h:RNg g g' (ZH 0 k)) (hh:∀ f∈hs,f.tq g):∀ f∈lA k hs,f.tq g':=λ f hf=>by
 obtain⟨x,hx,rfl⟩:=List.mem_map.1 hf;exact uh h (hh x hx)
theorem MY {g:List Ty} {hs:List Fm} {x:Fm} (hh:∀ f∈hs,f.tq g) (hx:x.tq g):∀ f∈hs++[x],f.tq g:=λ f hf=>by
 rcases List.mem_append.1 hf with h|h
 ·exact hh f h
 ·simp at h;subst h;exact hx
theorem mU:∀ (f y:Fm) (g:List Ty),VB f=some y->f.tq g->y.tq g
 | .eq a b,y,g,e,⟨h1,h2⟩=>by
  unfold VB at e;split at e
  ·rename_i e1;split at e
   ·rename_i e2;cases e;exact⟨KY _ _ _ e1 h1,KY _ _ _ e2 h2⟩
   ·cases e
  ·cases e
 | .bin k f h,y,g,e,⟨h1,h2⟩=>by
  unfold VB at e;split at e
  ·rename_i e1;split at e
   ·rename_i e2;cases e;exact⟨mU f _ g e1 h1,mU h _ g e2 h2⟩
   ·cases e
  ·cases e
 | .q k s f,y,g,e,h=>by
  unfold VB at e;split at e
  ·rename_i x e1;cases e;exact mU f x (g++[s]) e1 h
  ·cases e
theorem nU:∀ (t:Ty) (g:List Ty),t.size<=64->t.ini.tyR g = .ok t
 | .nat,_,_=>rfl
 | .list,_,_=>rfl
 | .unit,_,_=>rfl
 | .two false a b,g,h=>by
  have h':1+a.size+b.size<=64:=h;show mC .pair (a.ini.tyR g) (b.ini.tyR g)=_;rw [nU a g (by omega),nU b g (by omega)];exact if_pos h
 | .two true a b,g,h=>by
  have h':1+a.size+b.size<=64:=h;show ZF a (b.ini.tyR (g++[a]))=_;rw [nU b _ (by omega)];exact if_pos h
theorem bh {f:Fm} {g:List Ty} {s:Ty} (hs:s.size<=64) (h0:f.occ 0=0) (h:f.tq (g++[s])):f.low.tq g:=by
 rw [show f.low=f.put 0 s.ini 0 by
  rw [Fm.low,XN,XN];exact wU f _ _ λ i hi=>by
   cases i with
   | zero=>exact absurd h0 hi
   | succ i=>rw [EY,EY]]
 exact yh h (nU s g hs)
theorem dh {f y:Fm} {g:List Ty} {s:Ty} (hs:s.size<=64) (e:VC f=some y) (h:f.tq (g++[s])):y.tq g:=by
 unfold VC at e;split at e
 ·rename_i h0;cases e;exact bh hs h0 h
 ·split at e
  ·rename_i z e1;split at e
   ·rename_i h0;cases e;exact bh hs h0 (mU f z _ e1 h)
   ·cases e
  ·cases e
theorem fh {k:FQ} {s:Ty} {f:Fm} (h:(Fm.q k s f).chk=0):s.size<=64:=IE (DA (Fm.chk0 h).2).1
theorem Cv (g:List Ty) (s u:Ty):vapp.tyR (g++[.two true s u,s]) = .ok u:=by
 rw [show g++[Ty.two true s u,s]=g++[.two true s u]++[s] by simp];exact YN (s:=s) (by show vB _ (0+1)=_;rw [YH,aG]) (by show vB _ 0=_;rw [aG])
theorem Dv (g:List Ty) (s t u:Ty):RNg (g++[s]++[t]) (g++[u]++[s]++[t]) (ZH 2 1):=by
 have:=((lU g u).up s).up t;rwa [FY,FY] at this
theorem jI {ls:List Fm} (hl:∀ f∈ls,f.tq []):∀ (j:Jt) (g:List Ty) (hs:List Fm),(∀ f∈hs,f.tq g)->j.D ls g hs->j.f.tq g
 | .leaf u i f,g,hs,hh,⟨_,h⟩=>by
  cases u
  ·exact hh f (List.mem_of_getElem? h.2)
  ·have:=cQ f [] g (λ i=>i) (λ i s e=>absurd (ZN e) (Nat.not_lt_zero _)) (hl f (List.mem_of_getElem? h));rwa [aQ] at this
 | .refl t,_,_,_,⟨_,_,h⟩=>⟨h,h⟩
 | .p1 k a f,g,hs,hh,⟨_,hD,h⟩=>by
  have ih:=jI hl a g hs hh hD;cases k
  ·obtain⟨y,e⟩:=h;rw [e] at ih;exact ih.1
  ·obtain⟨y,e⟩:=h;rw [e] at ih;exact ih.2
  ·obtain⟨s,u,x,e,_,y,e2,e3⟩:=h;rw [e] at ih;have ih:x.tq (g++[s]++[u]):=ih;rw [e3];show y.tq (g++[.two true s u]++[s]);exact gU e2 (uh (Dv g s u (.two true s u)) ih) (by have:=Cv g s u;simpa using this)
 | .p2 k a b f,g,hs,hh,⟨_,hD,h⟩=>by
  have ih:=jI hl a g hs hh hD;cases k
  ·obtain⟨hD2,e⟩:=h;rw [e];exact⟨ih,jI hl b g hs hh hD2⟩
  ·obtain⟨_,x,e,_⟩:=h;rw [e] at ih;exact ih.2
  all_goals
   obtain⟨⟨u,e,hD2⟩,_,h⟩:=h;have hq:=NX hD;rw [e] at hq;have hx:a.f.bd.tq (g++[u]):=by rw [e] at ih;exact ih
  ·exact dh (fh hq) h (jI hl b _ _ (MY (LY (lU g u) hh) hx) hD2)
  ·exact dh (fh hq) h.1 (jI hl b _ _ (MY (LY (lU g u) hh) hx) hD2)
 | .impI x a,g,hs,hh,⟨_,⟨_,hx⟩,_,hD⟩=>⟨bJ x g hx,jI hl a g _ (MY hh (bJ x g hx)) hD⟩
 | .all u s a,g,hs,hh,⟨_,_,hD,_⟩=>jI hl a _ _ (LY (lU g s) hh) hD
 | .ins u t a f,g,hs,hh,⟨_,_,hD,s,x,e0,e,e2⟩=>by
  have ih:=jI hl a g hs hh hD;rw [e] at ih;exact gU e2 ih e0
 | .ex u x t a,g,hs,hh,⟨⟨_,hx⟩,_⟩=>bJ x g hx
 | .ind l x t a b f,g,hs,hh,⟨_,⟨_,hx⟩,⟨_,ht⟩,_,_,_,e⟩=>gU e (bJ x _ hx) ht
 | .subst x a b f,g,hs,hh,⟨_,⟨_,hx⟩,hD,_,t,u,w,e,_,_,e2⟩=>by
  have ih:=jI hl a g hs hh hD;rw [e] at ih;exact gU e2 (bJ x _ hx) ih.2
end Go.Proofs.YtmkajedkflhbgaaGreatDoor
