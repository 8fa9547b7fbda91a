/- Contracts of functions; no conditions. -/
import Derived.Test.YtgleiiajjamgpaaGreatDoorUC8
import Derived.Maps.RangeRun
import Derived.Test.YtgleiiajjamgpaaGreatDoorUB3
import Derived.Test.YtgleiiajjamgpaaGreatDoorUC7
set_option linter.all false
set_option maxHeartbeats 4000000
namespace Go.Proofs.YtgleiiajjamgpaaGreatDoor
open Go.Lg
set_option maxRecDepth 100000
section
variable {f:Nat} {args:List V} {objs:List (Nat × Ob)} {x:V} {objs':List (Nat × Ob)}
theorem o22 (m:Nat) (tp:Di) {H1 H2 H3 H4 H5 H6 H7 H8 H9 H10 H11 H12 H13 H14 H15 H16 H17 H18 H19 H20 H21 H22:Prop} (h1:H1) (h2:H2) (h3:H3) (h4:H4) (h5:H5) (h6:H6) (h7:H7) (h8:H8) (h9:H9) (h10:H10) (h11:H11) (h12:H12) (h13:H13) (h14:H14) (h15:H15) (h16:H16) (h17:H17) (h18:H18) (h19:H19) (h20:H20) (h21:H21) (h22:H22) (e:(H1∧H2∧H3∧H4∧H5∧H6∧H7∧H8∧H9∧H10∧H11∧H12∧H13∧H14∧H15∧H16∧H17∧H18∧H19∧H20∧H21∧H22∧(x,objs')=(x,objs'))=UO f args objs m tp x objs':=by kernel_rfl):O f args objs x objs':=ok m tp ⟨h1,h2,h3,h4,h5,h6,h7,h8,h9,h10,h11,h12,h13,h14,h15,h16,h17,h18,h19,h20,h21,h22,rfl⟩ e
end
theorem zLo (f:Fm):O 64 [.pv f.p] [] (.agg [.undef,.pv (num f.tk),.pv (.slice f.te),.pv (.slice f.ts),.pv (.slice f.es)]) []:=by
 have h:A 64 [f.p] f.p:=a64 f
 refine⟨h.direct,fun n hn=>by simp [Out.names,V.names,qQj] at hn,h.namesO,fun E w vs hB hv hR=>(h.calls E w vs hB hv hR).mono ?_⟩
 rintro e w' ⟨E',hd,v,he,hr⟩
 refine⟨E',hd,v,he,?_⟩
 have hr:RepP E'.H (.agg f.c) v:=hr
 simp only [RepP] at hr
 obtain⟨us,e1,e2,e3⟩:=hr
 refine⟨us,e1,e2,?_⟩
 match us,e3 with
 | [],e3=>exact e3.elim
 | u::us,e3 =>
  refine⟨trivial,?_⟩
  have e4:=e3.2
  match us,e4 with
  | [],e4=>exact e4.elim
  | u2::us,e4 =>
   refine⟨e4.1,?_⟩
   have e5:=e4.2
   match us,e5 with
   | [],e5=>exact e5.elim
   | u3::us,e5 =>
    refine⟨e5.1,?_⟩
    have e6:=e5.2
    match us,e6 with
    | [],e6=>exact e6.elim
    | u4::us,e6 =>
     refine⟨e6.1,?_⟩
     have e7:=e6.2
     match us,e7 with
     | [],e7=>exact e7.elim
     | u5::us,e7=>exact⟨e7.1,trivial⟩
abbrev qE (x:Tm):Fm:=.eq (x.sh 0 1) (.v 0)
abbrev qHj (x:Tm):Pf:=.ex true (.q .exU .nat (qE x)) x (.refl x)
theorem zGd {L:List Int} (hL:Dk L) {k:Nat} (hk:H19 L k) (hkl:k≤9):H54 L k:=by
 intro Z ls g hs a hS hg hh hZ ha
 have hm:=qQd
 have hbg:=qQi
 have e20:M20=1048576:=rfl
 have eW:=qCv
 have hz1:=hS.z
 have hgl:=hS.gl
 have hhl:=hS.hl
 have e1:cp (k+1)=2 * cp k+10000:=rfl
 have e2:cm (k+1)=2 * cm k+W37+4 * M20:=rfl
 have e3:=qVj k
 have gs:=qVx (a:=k+1) (by omega) (by omega)
 obtain⟨x,b,qx,hb,g1⟩:=tm1 hL (t:=.nat) (g:=g) (by decide) hS.gs (by omega) ha
 have c1:=qx.cnt;have c2:=qx.tsz;have c3:=qx.mx
 have m1:=qK5 1 x 0
 have e5:(1:Int).toNat=1:=rfl
 have gu:=a50 x (by omega) (by rw [hm];omega)
 have hE:FBd (Z+1) (qE x):=⟨by simp only [Fm.cnt,qQt,Tm.cnt];omega,by simp only [Fm.tsz,qQ5,Tm.tsz];omega,by simp only [Fm.mx,Tm.mx];omega⟩
 obtain⟨w,c,hw,hc,gw⟩:=nx hL hb (n:=3) (by omega) (by omega)
 have gB:=a48 g hs .nat (by omega) (by omega) (fun f hf=>by have:=hS.hb f hf;rw [hm];omega)
 have gW:=a46 (g++[.nat]) (qYg hs) (qE x) (by simp;omega)
 have S1:S19 (Z+1) ls (g++[.nat]) (qYg hs++[qE x]):=(hS.below (t:=.nat) (by decide) hg).with hE (Nat.le_refl _) (by simpa using hh)
 obtain⟨q,d,qq,hd,g2⟩:=hk (Z+1) ls (g++[.nat]) (qYg hs++[qE x]) c S1 (by omega) hc
 have d1:=qq.cnt;have d2:=qq.tsz;have d3:=qq.mx
 obtain⟨v,e,hv,he,gv⟩:=nx hL hd (n:=2) (by omega) (by omega)
 have bd:∀ (u:P2) (P Q:Pf),P.cnt≤800→P.tsz≤mid→P.mx≤Z+cm k+10→Q.cnt≤cp k+800→Q.tsz≤mid→Q.mx≤Z+cm k+10→PG (cp (k+1)) (Z+cm (k+1)) (.p2 u P Q):=fun u P Q b1 b2 b3 b4 b5 b6 =>
  ⟨by simp only [Pf.cnt];omega,by simp only [Pf.tsz];omega,by simp only [Pf.mx];omega⟩
 have bS:∀ (u:Bool) (kk:FQ),(Pf.ex u (.q kk .nat (qE x)) x (.refl x)).cnt≤800∧(Pf.ex u (.q kk .nat (qE x)) x (.refl x)).tsz≤mid∧(Pf.ex u (.q kk .nat (qE x)) x (.refl x)).mx≤Z+cm k+10:=fun u kk =>
  ⟨by simp only [Pf.cnt,Fm.cnt,qQt,Tm.cnt];omega,by simp only [Pf.tsz,Fm.tsz,qQ5,Tm.tsz,Ty.size];omega,by simp only [Pf.mx,Fm.mx,Tm.mx];omega⟩
 have bG:∀ (u:Bool) (kk:FQ),(Pf.ex u ((Fm.q kk .nat (qE x)).sh 0 1) (.v 0) (.leaf false 0)).cnt≤cp k+800∧(Pf.ex u ((Fm.q kk .nat (qE x)).sh 0 1) (.v 0) (.leaf false 0)).tsz≤mid∧(Pf.ex u ((Fm.q kk .nat (qE x)).sh 0 1) (.v 0) (.leaf false 0)).mx≤Z+cm k+10:=fun u kk=>by
  have m2:=qJ8 1 (Fm.q kk .nat (qE x)) 0
  have m3:(Fm.q kk .nat (qE x)).mx≤x.mx+1:=by simp only [Fm.mx,Tm.mx];omega
  exact⟨by simp only [Pf.cnt,qQr,Fm.cnt,qQt,Tm.cnt];omega,by simp only [Pf.tsz,qQu,Fm.tsz,qQ5,Tm.tsz,Ty.size];omega,by simp only [Pf.mx,Tm.mx];omega⟩
 have gF:∀ kk:FQ,A 54 [(Fm.q kk .nat (qE x)).p,num 0,.int 1] ((Fm.q kk .nat (qE x)).sh 0 1).p:=fun kk=>a53 _ 0 1 (by omega) (by omega) (by simp only [Fm.mx,Tm.mx];rw [hm];omega) (by simp only [Fm.cnt,qQt,Tm.cnt];omega)
 cases w with
 | zero =>
  have g9:A 47 [num 10,x.p,(Pf.refl x).p] (pn 10 [x.c] [] [(Pf.refl x).c]):=zEk 10 x (.refl x)
  have gq:=zLo (.q .ex .nat (qE x))
  cases v with
  | zero=>exact⟨.p2 .exUE (qHj x) (.ex true ((Fm.q .exU .nat (qE x)).sh 0 1) (.v 0) (.leaf false 0)),e,(bd .exUE (qHj x) (.ex true ((Fm.q .exU .nat (qE x)).sh 0 1) (.v 0) (.leaf false 0)) (bS true .exU).1 (bS true .exU).2.1 (bS true .exU).2.2 (bG true .exU).1 (bG true .exU).2.1 (bG true .exU).2.2),he,o22 1 [(16,.n [(7,.Y),(12,.D L b (.pv x.p)),(15,.r (x.sh 0 1).p),(16,.r (Tm.v 0).p),(17,.r (qE x).p),(18,.r (Fm.q .ex .nat (qE x)).p),(21,.r (Pf.refl x).p),(22,.n [(13,.r (pn 10 [x.c] [] [(Pf.refl x).c])),(15,.o [] [] (.agg [.undef,.pv (num (Fm.q .ex .nat (qE x)).tk),.pv (.slice (Fm.q .ex .nat (qE x)).te),.pv (.slice (Fm.q .ex .nat (qE x)).ts),.pv (.slice (Fm.q .ex .nat (qE x)).es)]))])]),(18,.D L c (.pv (num 0))),(300005,.f 12 [(Fm.q .exU .nat (qE x)).c]),(35,.Y),(37,.r (qJ3 (g++[.nat]) (qYg hs))),(39,.r (qJ3 (g++[.nat]) (qYg hs++[qE x]))),(41,.z k),(42,.D L d (.pv q.p)),(44,.D L e (.pv (num 0))),(50,.r ((Fm.q .exU .nat (qE x)).sh 0 1).p),(54,.r (Tm.v 0).p),(55,.r (Pf.leaf false 0).p),(56,.r (Pf.ex true ((Fm.q .exU .nat (qE x)).sh 0 1) (.v 0) (.leaf false 0)).p),(61,.r (Pf.p2 .exUE (qHj x) (.ex true ((Fm.q .exU .nat (qE x)).sh 0 1) (.v 0) (.leaf false 0))).p)] a42 g1 gu (a51 0) (a43 (x.sh 0 1) (.v 0)) (a40 .ex .nat (qE x)) (a21 x) g9 gq gw (rfl:pvE [(Fm.q .exU .nat (qE x)).c]=pvE [(Fm.q .exU .nat (qE x)).c]) a42 gB gW gs g2 gv (gF .exU) (a51 0) (a56 0) (a52 true ((Fm.q .exU .nat (qE x)).sh 0 1) (.v 0) (.leaf false 0)) (qCt 15 (qHj x) (.ex true ((Fm.q .exU .nat (qE x)).sh 0 1) (.v 0) (.leaf false 0)))⟩
  | succ v=>exact⟨.p2 .exUE (qHj x) q,e,(bd .exUE (qHj x) q (bS true .exU).1 (bS true .exU).2.1 (bS true .exU).2.2 (by omega) d2 (by omega)),he,o18 1 [(16,.n [(7,.Y),(12,.D L b (.pv x.p)),(15,.r (x.sh 0 1).p),(16,.r (Tm.v 0).p),(17,.r (qE x).p),(18,.r (Fm.q .ex .nat (qE x)).p),(21,.r (Pf.refl x).p),(22,.n [(13,.r (pn 10 [x.c] [] [(Pf.refl x).c])),(15,.o [] [] (.agg [.undef,.pv (num (Fm.q .ex .nat (qE x)).tk),.pv (.slice (Fm.q .ex .nat (qE x)).te),.pv (.slice (Fm.q .ex .nat (qE x)).ts),.pv (.slice (Fm.q .ex .nat (qE x)).es)]))])]),(18,.D L c (.pv (num 0))),(300005,.f 12 [(Fm.q .exU .nat (qE x)).c]),(35,.Y),(37,.r (qJ3 (g++[.nat]) (qYg hs))),(39,.r (qJ3 (g++[.nat]) (qYg hs++[qE x]))),(41,.z k),(42,.D L d (.pv q.p)),(44,.D L e (.pv (num (v+1)))),(61,.r (Pf.p2 .exUE (qHj x) q).p)] a42 g1 gu (a51 0) (a43 (x.sh 0 1) (.v 0)) (a40 .ex .nat (qE x)) (a21 x) g9 gq gw (rfl:pvE [(Fm.q .exU .nat (qE x)).c]=pvE [(Fm.q .exU .nat (qE x)).c]) a42 gB gW gs g2 gv (qCt 15 (qHj x) q)⟩
 | succ w =>
  cases v with
  | zero=>exact⟨.p2 .exE (qWi x) (.ex false ((Fm.q .ex .nat (qE x)).sh 0 1) (.v 0) (.leaf false 0)),e,(bd .exE (qWi x) (.ex false ((Fm.q .ex .nat (qE x)).sh 0 1) (.v 0) (.leaf false 0)) (bS false .ex).1 (bS false .ex).2.1 (bS false .ex).2.2 (bG false .ex).1 (bG false .ex).2.1 (bG false .ex).2.2),he,o20 1 [(16,.n [(7,.Y),(12,.D L b (.pv x.p)),(15,.r (x.sh 0 1).p),(16,.r (Tm.v 0).p),(17,.r (qE x).p),(18,.r (Fm.q .ex .nat (qE x)).p),(21,.r (Pf.refl x).p),(22,.r (qWi x).p)]),(18,.D L c (.pv (num (w+1)))),(35,.Y),(37,.r (qJ3 (g++[.nat]) (qYg hs))),(39,.r (qJ3 (g++[.nat]) (qYg hs++[qE x]))),(41,.z k),(42,.D L d (.pv q.p)),(44,.D L e (.pv (num 0))),(50,.r ((Fm.q .ex .nat (qE x)).sh 0 1).p),(54,.r (Tm.v 0).p),(55,.r (Pf.leaf false 0).p),(56,.r (Pf.ex false ((Fm.q .ex .nat (qE x)).sh 0 1) (.v 0) (.leaf false 0)).p),(61,.r (Pf.p2 .exE (qWi x) (.ex false ((Fm.q .ex .nat (qE x)).sh 0 1) (.v 0) (.leaf false 0))).p)] a42 g1 gu (a51 0) (a43 (x.sh 0 1) (.v 0)) (a40 .ex .nat (qE x)) (a21 x) (a52 false (.q .ex .nat (qE x)) x (.refl x)) gw a42 gB gW gs g2 gv (gF .ex) (a51 0) (a56 0) (a52 false ((Fm.q .ex .nat (qE x)).sh 0 1) (.v 0) (.leaf false 0)) (qCt 11 (qWi x) (.ex false ((Fm.q .ex .nat (qE x)).sh 0 1) (.v 0) (.leaf false 0)))⟩
  | succ v=>exact⟨.p2 .exE (qWi x) q,e,(bd .exE (qWi x) q (bS false .ex).1 (bS false .ex).2.1 (bS false .ex).2.2 (by omega) d2 (by omega)),he,o16 1 [(16,.n [(7,.Y),(12,.D L b (.pv x.p)),(15,.r (x.sh 0 1).p),(16,.r (Tm.v 0).p),(17,.r (qE x).p),(18,.r (Fm.q .ex .nat (qE x)).p),(21,.r (Pf.refl x).p),(22,.r (qWi x).p)]),(18,.D L c (.pv (num (w+1)))),(35,.Y),(37,.r (qJ3 (g++[.nat]) (qYg hs))),(39,.r (qJ3 (g++[.nat]) (qYg hs++[qE x]))),(41,.z k),(42,.D L d (.pv q.p)),(44,.D L e (.pv (num (v+1)))),(61,.r (Pf.p2 .exE (qWi x) q).p)] a42 g1 gu (a51 0) (a43 (x.sh 0 1) (.v 0)) (a40 .ex .nat (qE x)) (a21 x) (a52 false (.q .ex .nat (qE x)) x (.refl x)) gw a42 gB gW gs g2 gv (qCt 11 (qWi x) q)⟩
theorem h19 (H:MF) {L:List Int} (hL:Dk L):∀ k,k≤9→H19 L k
 | 0,_=>zFz hL
 | k+1,h=>zGc H hL (h19 H hL k (by omega)) (zGd hL (h19 H hL k (by omega)) (by omega)) (by omega)
theorem a5 (L:List Int):A 5 [.slice (L.map zc1)] (.bool (decide (L.length≤500))):=by
 by_cases h:L.length≤500
 ·have e:(!ltI (.ofNat 500) (.ofNat (L.map zc1).length))=true:=by rw [qZ7 (by simpa using h)];rfl
  rw [decide_eq_true h]
  exact f1 [(5,.G)] e
 ·have e:(!ltI (.ofNat 500) (.ofNat (L.map zc1).length))=false:=by rw [qQ6 (by simpa using h)];rfl
  rw [decide_eq_false h]
  exact f1 [(5,.H)] e
abbrev PR.v (r:PR):PV:=.agg [num r.k,num r.tk,.slice r.te,.slice r.ts,.slice r.es,qQk r.u]
def RQ (ls:List Fm) (g:List Ty) (hs:List Fm) (p:Pf) (r:PR):Prop:=∀ f u,r = .ok f u→SQ2 ls g hs∧p.ck∧p.cnt≤16384∧(∃ j:Jt,j.p=p∧j.f=f∧j.D ls g hs ∧ ∀ v,j.us v→v∈u)∧u.length≤16384
theorem ask (H:MF) {Z k:Nat} {ls:List Fm} {g:List Ty} {hs:List Fm} {p:Pf} (hS:S19 Z ls g hs) (hp:PG (cp k) (Z+cm k) p) (hk:k≤10) (hz:Z+cm k≤281474976710656):∃ r:PR,A 23 [fms ls,qJ3 g hs,p.p] r.p∧RQ ls g hs p r:=by
 have hm:=qQd
 have hbg:=qQi
 have e2:=qN5 k hk
 have h1:=hS.ll
 have h2:=hS.gl
 have h3:=hS.hl
 have hc:cmx=1125899902742528:=rfl
 have e3:qQf=8388608:=rfl
 obtain⟨r,g1,q⟩:=a20 H (X:=Z+cm k) (ls:=ls) (g:=g) (hs:=hs) (p:=p) ⟨fun f hf=>by have:=hS.lb f hf;exact⟨by omega,this.2.1,by omega⟩,fun f hf=>by have:=hS.hb f hf;exact⟨by omega,this.2.1,by omega⟩,fun s hs'=>by have:=hS.gs s hs';omega,by omega,by omega,by omega,by have:=hp.cnt;omega,hp.tsz,hp.mx,by rw [hc];omega⟩
 exact⟨r,g1,fun f u e=>by
  obtain⟨k1,k2,k3,_,k4⟩:=q f u e
  exact⟨k1,k2,k3,k4⟩⟩
theorem a9 (H:MF) {L:List Int} (hL:Dk L) {ls:List Fm} {g:List Ty} {hs:List Fm} {a:Nat} (hS:S19 M20 ls g hs) (ha:a≤L.length):∃ (p:Pf) (r:PR) (b:Nat),((∃ f u,r = .ok f u) ∨ ∃ t,p = .refl t∧t.cnt≤10)∧PG (cp 3) (M20+cm 3) p∧RQ ls g hs p r∧b≤L.length ∧
  O 8 [.loc 0 0,.pv (fms ls),.pv (qJ3 g hs),.pv (num 3)] [(0,dk L a)] (.pv (.tuple [p.p,r.v])) [(0,dk L b)]:=by
 have hm:=qQd
 have hz:M20+cm 3≤281474976710656:=by decide
 have h3:=h19 H hL 3 (by omega)
 obtain⟨p1,b1,q1,hb1,g1⟩:=h3 M20 ls g hs a hS hz ha
 obtain⟨r1,k1,z1⟩:=ask H hS q1 (by omega) hz
 cases r1 with
 | ok f u=>exact⟨p1,.ok f u,b1,.inl ⟨f,u,rfl⟩,q1,z1,hb1,o2 1 [(22,.D L b1 (.pv p1.p)),(27,.r (PR.ok f u).p)] g1 k1⟩
 | er n1 =>
 obtain⟨p2,b2,q2,hb2,g2⟩:=h3 M20 ls g hs b1 hS hz hb1
 obtain⟨r2,k2,z2⟩:=ask H hS q2 (by omega) hz
 cases r2 with
 | ok f u=>exact⟨p2,.ok f u,b2,.inl ⟨f,u,rfl⟩,q2,z2,hb2,o4 1 [(22,.D L b1 (.pv p1.p)),(27,.r (PR.er n1).p),(22,.D L b2 (.pv p2.p)),(27,.r (PR.ok f u).p)] g1 k1 g2 k2⟩
 | er n2 =>
 obtain⟨p3,b3,q3,hb3,g3⟩:=h3 M20 ls g hs b2 hS hz hb2
 obtain⟨r3,k3,z3⟩:=ask H hS q3 (by omega) hz
 cases r3 with
 | ok f u=>exact⟨p3,.ok f u,b3,.inl ⟨f,u,rfl⟩,q3,z3,hb3,o6 1 [(22,.D L b1 (.pv p1.p)),(27,.r (PR.er n1).p),(22,.D L b2 (.pv p2.p)),(27,.r (PR.er n2).p),(22,.D L b3 (.pv p3.p)),(27,.r (PR.ok f u).p)] g1 k1 g2 k2 g3 k3⟩
 | er n3 =>
 obtain⟨p4,b4,q4,hb4,g4⟩:=h3 M20 ls g hs b3 hS hz hb3
 obtain⟨r4,k4,z4⟩:=ask H hS q4 (by omega) hz
 cases r4 with
 | ok f u=>exact⟨p4,.ok f u,b4,.inl ⟨f,u,rfl⟩,q4,z4,hb4,o8 1 [(22,.D L b1 (.pv p1.p)),(27,.r (PR.er n1).p),(22,.D L b2 (.pv p2.p)),(27,.r (PR.er n2).p),(22,.D L b3 (.pv p3.p)),(27,.r (PR.er n3).p),(22,.D L b4 (.pv p4.p)),(27,.r (PR.ok f u).p)] g1 k1 g2 k2 g3 k3 g4 k4⟩
 | er n4 =>
 obtain⟨y,b5,hy,hb5,g5⟩:=nx hL hb4 (n:=4) (by omega) (by omega)
 have c5:(qJq y).cnt≤10:=by
  rcases y with _|_|_|_|y
  ·decide
  ·decide
  ·decide
  ·decide
  ·omega
 have qr:PG (cp 3) (M20+cm 3) (.refl (qJq y)):=by
  rcases y with _|_|_|_|y
  ·exact⟨by decide,by decide,by decide⟩
  ·exact⟨by decide,by decide,by decide⟩
  ·exact⟨by decide,by decide,by decide⟩
  ·exact⟨by decide,by decide,by decide⟩
  ·omega
 obtain⟨r5,k5,z5⟩:=ask H hS qr (by omega) hz
 cases r5 with
 | ok f u=>exact⟨.refl (qJq y),.ok f u,b5,.inr ⟨_,rfl,c5⟩,qr,z5,hb5,o12 1 [(22,.D L b1 (.pv p1.p)),(27,.r (PR.er n1).p),(22,.D L b2 (.pv p2.p)),(27,.r (PR.er n2).p),(22,.D L b3 (.pv p3.p)),(27,.r (PR.er n3).p),(22,.D L b4 (.pv p4.p)),(27,.r (PR.er n4).p),(36,.D L b5 (.pv (num y))),(37,.r (qJq y).p),(38,.r (Pf.refl (qJq y)).p),(43,.r (PR.ok f u).p)] g1 k1 g2 k2 g3 k3 g4 k4 g5 (a22 hy) (a21 (qJq y)) k5⟩
 | er n5=>exact⟨.refl (qJq y),.er n5,b5,.inr ⟨_,rfl,c5⟩,qr,z5,hb5,o12 1 [(22,.D L b1 (.pv p1.p)),(27,.r (PR.er n1).p),(22,.D L b2 (.pv p2.p)),(27,.r (PR.er n2).p),(22,.D L b3 (.pv p3.p)),(27,.r (PR.er n3).p),(22,.D L b4 (.pv p4.p)),(27,.r (PR.er n4).p),(36,.D L b5 (.pv (num y))),(37,.r (qJq y).p),(38,.r (Pf.refl (qJq y)).p),(43,.r (PR.er n5).p)] g1 k1 g2 k2 g3 k3 g4 k4 g5 (a22 hy) (a21 (qJq y)) k5⟩
open Go.Lg
set_option maxRecDepth 100000
abbrev sT:Tm:=.n1 .succ (.v 0)
abbrev sF:Fm:=.q .ex .nat (.eq (.v 0) (.n1 .succ (.v 1)))
abbrev sP:Pf:=.all false .nat (.ex false sF sT (.refl sT))
abbrev sJ:Jt:=.all false .nat (.ex false sF sT (.refl sT))
abbrev sR:Tm:=.lam .nat sT
theorem a14:A 14 [] sP.p:=f0 []
abbrev kX:PV:=.tuple [.agg [num 4,num 1,.slice [],.slice [],.slice [sF.c],.slice []],num 0]
theorem zLp:A 68 [fms [],qJ3 [] [],sP.p] kX:=by
 have e:(kX=kX)=zEb ev Tryz.prog 100 40 68 [fms [],qJ3 [] [],sP.p] [] kX:=by kernel_rfl
 exact qRd qDo (e ▸ rfl)
theorem zGe:sJ.OK [] 0 []:=by
 have h1:FK 1 sF:=⟨by decide,rfl,by simp [Fm.sc,Tm.sc]⟩
 have h2:TK 1 sT:=⟨by decide,rfl,by simp [Tm.sc]⟩
 have h3:FK 1 (.eq sT sT):=⟨by decide,rfl,by simp [Fm.sc,Tm.sc]⟩
 exact⟨by decide,⟨by decide,rfl,h1.sc⟩,h1,h2,⟨h2,h3⟩,⟨.nat,rfl⟩,rfl⟩
theorem zLq:A 28 [fms [],qJ3 [] [],sP.p] (.tuple [sJ.ptr [],num 0]):=by
 have hm:=qQd
 have g2:=a68 (ls:=[]) sJ 0 [] (by simp) (by decide) (by decide) zGe
 exact f2 [(14,.r kX),(24,.r (sJ.ptr []))] zLp g2
theorem zLr:A 70 [blp [],sJ.ptr [],(qCh 0 0).p] (XR.ok sR).p:=by
 have hS:=(qFj 0 0).bind.var (t:=.v 0) (TKv (by decide))
 have gp:=zDu ((qCh 0 0).bind.var (.v 0)) sT 1 hS.vl.symm hS.ve (by decide) (by decide) ⟨by decide,rfl,by simp [Tm.sc]⟩
 have g:=qSf (tl:=[]) (hs:=[]) (a:=.refl sT) (x:=sF) (y:=.eq sT sT) (w:=sT) rfl gp
 exact zJ8 (tl:=[]) (hs:=[]) (u:=.nat) (a:=.ex false sF sT (.refl sT)) (y:=sF) (qTj (qCh 0 0) (by decide)) (qTk (qCh 0 0).bind (.v 0) (by decide)) g (by decide)
theorem zLs:A 10 [fms [],row [],qJ3 [] [],sP.p] (XR.ok sR).p:=by
 have g2:A 15 [fms [],row []] (num 0):=f0 []
 have g3:A 30 [qJ3 [] []] (qCh 0 0).p:=a25 [] (by decide)
 have g5:A 29 [row [],sJ.ptr [],(qCh 0 0).p] (XR.ok sR).p:=f1 [(12,.r (XR.ok sR).p)] zLr
 exact f4 [(17,.U [sJ.ptr [],num 0]),(26,.N 0),(40,.r (qCh 0 0).p),(41,.r (XR.ok sR).p)] zLq g2 g3 g5
theorem a4:A 4 [] (.bool true):=by
 have g2:A 15 [fms [],row []] (num 0):=f0 []
 exact f3 [(5,.r sP.p),(6,.r (XR.ok sR).p),(31,.N 0)] a14 zLs g2
end Go.Proofs.YtgleiiajjamgpaaGreatDoor
namespace Go.Lg
theorem Ga.swapO {C:Ctx} {E:Env} {σ:St} {a:Act} {w:World} (h:Ga C E σ a w) {n:Nat} {o o':Ob} (hn:qQc σ.objs n=some o) (ho:ObOK E w n o') (hu:∀ m∈o'.names,m∈σ.used):Ga C E ⟨σ.slots,qVa σ.objs n o',σ.used⟩ a w:=by
 have hg:∀ m,qQc (qVa σ.objs n o') m=if m=n then some o' else qQc σ.objs m:=fun m=>qQo _ _ _ _
 have hs:∀ m q,qQc (qVa σ.objs n o') m=some q→∃ q',qQc σ.objs m=some q':=fun m q h=>by
  rw [hg] at h
  split at h
  ·rename_i e;subst e;exact⟨o,hn⟩
  ·exact⟨q,h⟩
 refine⟨h.slots,h.size,h.defers,h.heap,?_,?_,h.usedS,?_,h.usedG,h.grown,h.rest,h.same,h.hle,?_,h.ext,?_⟩
 ·intro m q hm
  simp only [hg] at hm
  split at hm
  ·rename_i e;cases hm;subst e;exact ho
  ·exact h.objs m q hm
 ·intro m m' q q' hm hm' hne b hb
  obtain⟨p,hp⟩:=hs m q hm
  obtain⟨p',hp'⟩:=hs m' q' hm'
  exact h.apart m m' p p' hp hp' hne b hb
 ·intro m q hm
  simp only [hg] at hm
  split at hm
  ·rename_i e;cases hm;subst e;exact⟨(h.usedO _ _ hn).1,hu⟩
  ·exact h.usedO m q hm
 ·intro m q b hm hb hlt
  obtain⟨p,hp⟩:=hs m q hm
  exact h.own m p b hp hb hlt
 ·intro m hm
  obtain⟨k1,k2,k3⟩:=h.keep m hm
  refine⟨k1,?_,k3⟩
  simp only [hg]
  split
  ·rename_i e;subst e;rw [hn] at k2;cases k2
  ·exact k2
theorem Ga.slotW {C:Ctx} {E:Env} {σ:St} {a:Act} {w:World} (h:Ga C E σ a w) {d:Nat} {x:V} {v:Value} (hx:RepV E x v) (hn:∀ n∈x.names,n∈σ.used) (hd:d<C.nt):Ga C E ⟨(d,x)::σ.slots,σ.objs,σ.used⟩ (a.put (some d) v) w :=
 h.pure E.H (some d) x v (Hle.refl _) (Nat.le_refl _) ⟨rfl,rfl,rfl⟩ (fun _ _=>⟨rfl,rfl⟩) h.heap hx hn (fun _ e=>by cases e;exact hd)
theorem qXw {C:Ctx} {E:Env} {σ:St} {a:Act} {w:World} (h:Ga C E σ a w) {d:Nat} (hd:d<C.nt) (v:Value):(a.put (some d) v).eval (.tmp d)=v:=by
 have:d<a.tmps.size:=by rw [h.size];exact hd
 simp [Act.put,Act.eval,this]
section
variable {X:qZ5} {id:Nat} {σ:St} {Q:AEx→St→Prop} {t1 t2 t3:Nat} {p1 p2 p3:String} {f1 f2 f3:Array Edge}
theorem AWP.range {n r b ck t kt vt:Nat} {ms:Array MapEntry} {s d1 d2:Nat} (hs:qZw σ.slots s = .map n) (ho:qQc σ.objs n=some (.raw (.map (some b)) (.map ms ck))) (hr:r ∉ σ.used) (hu:X.P.underlying t=some (.map kt vt)) (h1:d1<X.nt) (h2:d2<X.nt)
  (hQ:∀ rb,Q .normal ⟨(d2,.loc r 0)::(d1,.map n)::σ.slots,qVa σ.objs r (.raw (.pointer (some ⟨rb,0,none⟩)) (.mapIter (some b) ck #[] ck)),r::σ.used⟩) :
  AWP X (.region id #[⟨some d1,.move (.tmp s),t1,p1,f1,none⟩,⟨some d2,.range t (.tmp d1),t2,p2,f2,none⟩] false) σ Q:=by
 intro C E a w hC hG
 have hd1:d1<C.nt:=by rw [hC.nt];exact h1
 have hd2:d2<C.nt:=by rw [hC.nt];exact h2
 have hv:=hG.slots s
 rw [hs] at hv
 simp only [RepV] at hv
 obtain⟨b',hg,hv⟩:=hv
 obtain⟨hg',b0,hb0,hcell,hfree⟩:=hG.objs n _ ho
 rw [hg'] at hg
 cases hg
 cases hb0
 have hG1:Ga C E ⟨(d1,.map n)::σ.slots,σ.objs,σ.used⟩ (a.put (some d1) (a.eval (.tmp s))) w:=hG.slotW (x:=.map n) (v:=a.eval (.tmp s)) (by
  simp only [RepV];exact⟨b,hg',hv⟩) (fun m hm=>by
   have:=hG.usedS s;rw [hs] at this;exact this m hm) hd1
 have hv1:(a.put (some d1) (a.eval (.tmp s))).eval (.tmp d1) = .map (some b):=by rw [qXw hG hd1];exact hv
 have hrun:=run_range_map (P:=X.P) w t kt vt b ms ck hu hcell
 refine wp_region_list ?_
 refine wpList_plain rfl fun K hK => ?_
 refine OpRes.wp (v:=a.eval (.tmp s)) (w':=w) (.inl (by simp [execOp])) (hK _ _ ?_)
 refine wpList_plain rfl fun K hK => ?_
 refine OpRes.wp (v:=.pointer (some ⟨w.heap.size,0,none⟩)) (w':=w.alloc (.mapIter (some b) ck #[] ck)) (.inl (by
  simp only [execOp,hv1,Sem.run_bind,hrun,Result.andThen_ok,Sem.run_pure])) (hK _ _ ?_)
 let E':Env:={ E with g:=fun m=>if m=r then .pointer (some ⟨w.heap.size,0,none⟩) else E.g m }
 have hgr:E'.g r = .pointer (some ⟨w.heap.size,0,none⟩):=by simp [E']
 have hE:∀ m,m≠r→E'.g m=E.g m∧E'.ver m=E.ver m∧E'.sz m=E.sz m:=fun m hm=>⟨by simp [E',hm],rfl,rfl⟩
 refine⟨E',_,.normal,?_,rfl,hQ w.heap.size⟩
 refine hG1.change (E':=E') r (some (.raw (.pointer (some ⟨w.heap.size,0,none⟩)) (.mapIter (some b) ck #[] ck))) _ (r::σ.used) (some d2) (.loc r 0) _ (fun m=>qQo _ _ _ _) (Hle.refl _) hE (fun hk=>absurd hk hr) (fun hk=>absurd hk hr)
  (by simp) ⟨rfl,rfl,rfl⟩ (fun b hb _=>⟨@heap_alloc_old w _ b hb,rfl⟩) (qZg hG1.heap _ E' rfl) ?_ ?_ (fun m hm=>by simp [hm]) ?_ ?_ (fun _ e=>by cases e;exact hd2)
 ·intro o' e
  cases e
  exact⟨⟨hgr,w.heap.size,rfl,heap_alloc_new w _,hG1.heap.lt (Nat.le_refl _)⟩,by simp,by simp [Ob.names]⟩
 ·intro o' b e hb
  rw [hgr] at hb
  simp [blk] at hb
  omega
 ·exact⟨_,hgr,rfl⟩
 ·simp [V.names]
theorem AWP.next {n r b rb ck since c0:Nat} {ms:Array MapEntry} {seen:Array Nat} {s d1 d2:Nat} (hne:n≠r) (hs:qZw σ.slots s = .loc r 0) (ho:qQc σ.objs n=some (.raw (.map (some b)) (.map ms ck))) (hi:qQc σ.objs r=some (.raw (.pointer (some ⟨rb,0,none⟩)) (.mapIter (some b) since seen c0)))
  (hold:∀ x∈ms.toList,x.born<since) (hsc:since≤c0) (h1:d1<X.nt) (h2:d2<X.nt)
  (hQ0:(leftOf ms seen).size=0→Q .normal ⟨(d2,.pv (.bool false))::(d1,.undef)::σ.slots,σ.objs,σ.used⟩)
  (hQ1:∀ e∈(leftOf ms seen).toList,Q .normal ⟨(d2,.pv (.bool true))::(d1,.undef)::σ.slots,qVa σ.objs r (.raw (.pointer (some ⟨rb,0,none⟩)) (.mapIter (some b) since (seen.push e.born) ck)),σ.used⟩) :
  AWP X (.region id #[⟨some d1,.next (.tmp s) false,t1,p1,f1,none⟩,⟨some d2,.extract (.tmp d1) 0,t2,p2,f2,none⟩] false) σ Q:=by
 intro C E a w hC hG
 have hd1:d1<C.nt:=by rw [hC.nt];exact h1
 have hd2:d2<C.nt:=by rw [hC.nt];exact h2
 have hv:=hG.slots s
 rw [hs] at hv
 simp only [RepV] at hv
 obtain⟨b1,hg1,hv⟩:=hv
 obtain⟨hgm,b2,hb2,hcell,hfree⟩:=hG.objs n _ ho
 obtain⟨hgr,b3,hb3,hcr,hfr⟩:=hG.objs r _ hi
 rw [hgr] at hg1
 cases hg1
 cases hb2
 cases hb3
 have hbr:b≠rb:=fun e=>hG.apart n r _ _ ho hi hne b (by rw [hgm];rfl) (by rw [hgr,e];rfl)
 have hrl:rb<w.heap.size:=(Array.getElem?_eq_some_iff.1 hcr).1
 have hv:a.eval (.tmp s) = .pointer (some ⟨rb,0,none⟩):=hv
 refine wp_region_list ?_
 refine wpList_plain rfl fun K hK => ?_
 rcases run_next_at (P:=X.P) w t1 rb b since c0 seen ms ck hcr hcell hold hsc with ⟨h0,hrun⟩|⟨e,he,w1,hal,hrun⟩
 ·refine OpRes.wp (v:=.tuple #[.bool false]) (w':=w) (.inl (by simp only [execOp,hv,Sem.run_bind,hrun,Result.andThen_ok,Sem.run_pure])) (hK _ _ ?_)
  have hG1:Ga C E ⟨(d1,.undef)::σ.slots,σ.objs,σ.used⟩ (a.put (some d1) (.tuple #[.bool false])) w:=hG.slotW (x:=.undef) trivial (fun m hm=>by cases hm) hd1
  refine wpList_plain rfl fun K hK => ?_
  refine OpRes.wp (v:=.bool false) (w':=w) (.inl (by simp only [execOp,qXw hG hd1];rfl)) (hK _ _ ?_)
  exact⟨E,_,.normal,hG1.slotW (x:=.pv (.bool false)) (by simp [RepV,RepP]) (fun m hm=>by cases hm) hd2,rfl,hQ0 h0⟩
 ·have hw1:w1.heap=w.heap∧w1.os=w.os∧w1.tape=w.tape∧w1.output=w.output:=by rcases hal with rfl|rfl<;>exact⟨rfl,rfl,rfl,rfl⟩
  refine OpRes.wp (v:=.tuple #[.bool true,e.key,e.val]) (w':=ChangeMaps.setBlock w1 rb (.mapIter (some b) since (seen.push e.born) ck)) (.inl (by simp only [execOp,hv,Sem.run_bind,hrun,Result.andThen_ok,Sem.run_pure])) (hK _ _ ?_)
  have hset:∀ i,(ChangeMaps.setBlock w1 rb (.mapIter (some b) since (seen.push e.born) ck)).heap[i]? = if i=rb then some (.mapIter (some b) since (seen.push e.born) ck) else w.heap[i]?:=by
   intro i
   simp only [ChangeMaps.setBlock,hw1.1]
   by_cases hi:i=rb
   ·subst hi
    simp [hrl]
   ·rw [if_neg hi,Array.getElem?_setIfInBounds_ne (fun h=>hi h.symm)]
  have hG1:Ga C E ⟨(d1,.undef)::σ.slots,qVa σ.objs r (.raw (.pointer (some ⟨rb,0,none⟩)) (.mapIter (some b) since (seen.push e.born) ck)),σ.used⟩ (a.put (some d1) (.tuple #[.bool true,e.key,e.val])) (ChangeMaps.setBlock w1 rb (.mapIter (some b) since (seen.push e.born) ck)):=by
   refine hG.change (E':=E) r (some (.raw (.pointer (some ⟨rb,0,none⟩)) (.mapIter (some b) since (seen.push e.born) ck))) _ σ.used (some d1) .undef _ (fun m=>qQo _ _ _ _) (Hle.refl _) (fun _ _=>⟨rfl,rfl,rfl⟩) (fun _=>EExt.refl _ _) (fun _=>⟨_,hi⟩)
    (by simp [ChangeMaps.setBlock,hw1.1]) ⟨hw1.2.1,hw1.2.2.1,hw1.2.2.2⟩ (fun i hlt hne'=>⟨by rw [hset,if_neg (fun h=>hne' _ hi (by rw [hgr,h];rfl))],rfl⟩) ?_ ?_ ?_ (fun _ h=>h) trivial (fun m hm=>by cases hm) (fun _ e=>by cases e;exact hd1)
   ·intro i hi'
    have:i≠rb:=fun h=>hi' (h ▸ hfr)
    obtain⟨c,T',fr,hc,hp⟩:=hG.heap i hi'
    exact⟨c,T',fr,by rw [hset,if_neg this];exact hc,hp⟩
   ·intro o' e'
    cases e'
    exact⟨⟨hgr,rb,rfl,by rw [hset,if_pos rfl],hfr⟩,(hG.usedO r _ hi).1,by simp [Ob.names]⟩
   ·intro o' b' e' hb'
    exact .inr ⟨hb',_,hi⟩
  refine wpList_plain rfl fun K hK => ?_
  refine OpRes.wp (v:=.bool true) (w':=_) (.inl (by simp only [execOp,qXw hG hd1];rfl)) (hK _ _ ?_)
  exact⟨E,_,.normal,hG1.slotW (x:=.pv (.bool true)) (by simp [RepV,RepP]) (fun m hm=>by cases hm) hd2,rfl,hQ1 e he⟩
theorem AWP.entry {n r b rb ck since:Nat} {ms:Array MapEntry} {seen:Array Nat} {e:MapEntry} {z:Int} {s d1 d2 d3:Nat} (hs:qZw σ.slots s = .loc r 0) (ho:qQc σ.objs n=some (.raw (.map (some b)) (.map ms ck))) (hi:qQc σ.objs r=some (.raw (.pointer (some ⟨rb,0,none⟩)) (.mapIter (some b) since (seen.push e.born) ck)))
  (he:e∈ms.toList) (hnd:(ms.toList.map (·.born)).Nodup) (hz:e.key = .int .i64 z) (h1:d1<X.nt) (h2:d2<X.nt) (h3:d3<X.nt)
  (hQ:Q .normal ⟨(d3,.pv (.int z))::(d2,.pv (.int z))::(d1,.undef)::σ.slots,σ.objs,σ.used⟩) :
  AWP X (.region id #[⟨some d1,.entry (.tmp s),t1,p1,f1,none⟩,⟨some d2,.extract (.tmp d1) 0,t2,p2,f2,none⟩,⟨some d3,.assign (.tmp d2),t3,p3,f3,none⟩] false) σ Q:=by
 intro C E a w hC hG
 have hd1:d1<C.nt:=by rw [hC.nt];exact h1
 have hd2:d2<C.nt:=by rw [hC.nt];exact h2
 have hd3:d3<C.nt:=by rw [hC.nt];exact h3
 have hv:=hG.slots s
 rw [hs] at hv
 simp only [RepV] at hv
 obtain⟨b1,hg1,hv⟩:=hv
 obtain⟨hgm,b2,hb2,hcell,hfree⟩:=hG.objs n _ ho
 obtain⟨hgr,b3,hb3,hcr,hfr⟩:=hG.objs r _ hi
 rw [hgr] at hg1
 cases hg1
 cases hb2
 cases hb3
 have hv:a.eval (.tmp s) = .pointer (some ⟨rb,0,none⟩):=hv
 have hrun:=run_entry_at (P:=X.P) w rb b since seen ms ck e hcr hcell he hnd
 refine wp_region_list ?_
 refine wpList_plain rfl fun K hK => ?_
 refine OpRes.wp (v:=.tuple #[e.key,e.val]) (w':=w) (.inl (by simp only [execOp,hv,Sem.run_bind,hrun,Result.andThen_ok,Sem.run_pure])) (hK _ _ ?_)
 have hG1:Ga C E ⟨(d1,.undef)::σ.slots,σ.objs,σ.used⟩ (a.put (some d1) (.tuple #[e.key,e.val])) w:=hG.slotW (x:=.undef) trivial (fun m hm=>by cases hm) hd1
 refine wpList_plain rfl fun K hK => ?_
 refine OpRes.wp (v:=.int .i64 z) (w':=w) (.inl (by simp only [execOp,qXw hG hd1,hz];rfl)) (hK _ _ ?_)
 have hG2:=hG1.slotW (d:=d2) (x:=.pv (.int z)) (v:=.int .i64 z) (by simp [RepV,RepP]) (fun m hm=>by cases hm) hd2
 refine wpList_plain rfl fun K hK => ?_
 refine OpRes.wp (v:=.int .i64 z) (w':=w) (.inl (by simp only [execOp,qXw hG1 hd2];rfl)) (hK _ _ ?_)
 exact⟨E,_,.normal,hG2.slotW (x:=.pv (.int z)) (by simp [RepV,RepP]) (fun m hm=>by cases hm) hd3,rfl,hQ⟩
end
end Go.Lg
namespace Go.Proofs.YtgleiiajjamgpaaGreatDoor
open Go.Lg
set_option maxRecDepth 100000
abbrev vN (L:List Nat):List (List V):=pvE (L.map ic)
theorem qSr (A B:List Nat) (x:Nat):qXx (vN (A++x::B)) A.length=some [.pv (num x)]:=by
 rw [qJy,zV3]
 simp [ic,pvL]
theorem zVd (A:List Nat):(vN A).length=A.length:=by simp [vN,pvE]
theorem zVe (A B:List Nat) (x y:Nat):(vN (A++x::B)).set A.length [.pv (num y)]=vN (A++y::B):=by
 simp only [vN,pvE,List.map_append,List.map_cons]
 rw [show A.length=(List.map pvL (List.map ic A)).length by simp,List.set_append_right _ _ (Nat.le_refl _),Nat.sub_self]
 rfl
theorem ixA {n v k len:Nat} {es:List (List V)} (h1:k<len) (h2:len≤es.length):ro (bif Nat.beq v v then (bif Nat.blt k len then (bif Nat.beq 1 1 then (bif Nat.ble len es.length then some (V.eloc n v k 0) else none) else none) else none) else none)=some ⟨.eloc n v k 0,none,false⟩:=by
 rw [qIi rfl,show Nat.blt k len=true from Nat.ble_eq_true_of_le h1,show Nat.ble len es.length=true from Nat.ble_eq_true_of_le h2]
 rfl
theorem ldA {v k:Nat} {es:List (List V)} {x:V} (h:qXx es k=some [x]):ro (match qXx es k with
   | some e=>bif Nat.beq v v then zYy false 1 (qGf e 0) else none
   | none=>none)=some ⟨x,none,false⟩:=by
 rw [h,qIi rfl]
 rfl
theorem stA {n v k:Nat} {es es':List (List V)} {x y:V} (h:qXx es k=some [x]) (h':es.set k [y]=es'):(bif Nat.beq v v then (bif Nat.ble (0+1) 1 then (match qXx es k with
    | some e=>some (⟨.undef,some (n,.arr v 1 3 (es.set k (qDy e 0 [y]))),false⟩:RB)
    | none=>none) else none) else none)=some ⟨.undef,some (n,.arr v 1 3 es'),false⟩:=by
 rw [h,qIi rfl]
 subst h'
 rfl
theorem zGf {a:Nat} (h:a≤big):inB (Int.ofNat (a+1)-1)=true∧Int.ofNat (a+1)-1 = .ofNat a:=by
 have e:Int.ofNat (a+1)-1 = .ofNat a:=by simp
 exact⟨by rw [e];exact zYa (by simp;try omega) (by have:=h;simp [big] at *;omega),e⟩
abbrev zXm (mv:Value) (mo:Obj) (iv:Value) (io:Obj) (v:Nat) (L:List Nat):List (Nat × Ob):=[(0,.raw mv mo),(1,.raw iv io),(2,.arr v 1 3 (vN L))]
abbrev zYm (v len n i:Nat):List (Nat × V):=[(3,.arr 2 v len),(4,.pv (num n)),(5,.pv (num i)),(7,.loc 1 0)]
abbrev k33:Kp:=⟨[3,4,5,7],[0,1,2],3,[]⟩
section
variable {mv iv:Value} {mo io:Obj} {n v len:Nat}
theorem qSs:∀ (k:Nat) (A:List Nat) (y:Nat) (B:List Nat),A.length=k→len=A.length+1+B.length→len≤big →
  ∃ (A':List Nat) (y':Nat) (B':List Nat),A'++B'=A++B∧(∀ x∈B',x∈B∨n<x)∧(∀ h:A'≠[],A'.getLast h≤n) ∧
   Lp 208 1 1 (st (zYm v len n A.length) (zXm mv mo iv io v (A++y::B)) 3 []) (.exit 2) (st (zYm v len n A'.length) (zXm mv mo iv io v (A'++y'::B')) 3 [])
 | 0,A,y,B,hk,hl,hb=>by
  have e:A=[]:=List.length_eq_zero_iff.1 hk
  subst e
  exact⟨[],y,B,rfl,fun x hx => .inl hx,fun h=>absurd rfl h,y1 [(19,.H)] k33 (qZ7 (Nat.le_refl 0)) (qQp ((y::B).map ic))⟩
 | k+1,A,y,B,hk,hl,hb=>by
  have hne:A≠[]:=fun e=>by subst e;cases hk
  obtain⟨A0,x,rfl⟩:∃ A0 x,A=A0++[x]:=⟨A.dropLast,A.getLast hne,(List.dropLast_concat_getLast hne).symm⟩
  have e0:A0.length=k:=by simpa using hk
  have el:(A0++[x]).length=A0.length+1:=by simp
  have ea:A0++[x]++y::B=A0++x::y::B:=by simp
  have gl:(vN (A0++x::y::B)).length=len:=by rw [zVd];simp at hl ⊢;omega
  rw [el] at hl ⊢
  rw [ea]
  have g1:=qQ6 (show 0<A0.length+1 by omega)
  have g2:=zGf (a:=A0.length) (by omega)
  have g3:=ixA (n:=2) (v:=v) (k:=A0.length) (len:=len) (es:=vN (A0++x::y::B)) (by omega) (by omega)
  have g4:=ldA (v:=v) (qSr A0 (y::B) x)
  by_cases hx:n<x
  ·obtain⟨A',y',B',h1,h2,h3,ih⟩:=qSs k A0 x (x::B) e0 (by simp;omega) hb
   have g6:=ixA (n:=2) (v:=v) (k:=A0.length+1) (len:=len) (es:=vN (A0++x::y::B)) (by omega) (by omega)
   have g7:=stA (n:=2) (v:=v) (k:=A0.length+1) (es:=vN (A0++x::y::B)) (es':=vN (A0++x::x::B)) (y:=.pv (num x)) (by
    have:=qSr (A0++[x]) B y;simpa using this) (by
    have:=zVe (A0++[x]) B y x;simpa using this)
   refine⟨A',y',B',by simpa using h1,fun z hz => ?_,h3,?_⟩
   ·rcases h2 z hz with h|h
    ·rcases List.mem_cons.1 h with rfl|h
     ·exact .inr hx
     ·exact .inl h
    ·exact .inr h
   ·exact rk [(19,.G),(23,.z A0.length),(24,.w ⟨.eloc 2 v A0.length 0,none,false⟩),(25,.w ⟨.pv (num x),none,false⟩),(27,.G),(33,.z A0.length),(34,.w ⟨.eloc 2 v A0.length 0,none,false⟩),(35,.w ⟨.pv (num x),none,false⟩),(36,.w ⟨.eloc 2 v (A0.length+1) 0,none,false⟩),(99999,.w ⟨.undef,some (2,.arr v 1 3 (vN (A0++x::x::B))),false⟩),(38,.z A0.length)] k33 k33 (And.intro g1 (And.intro g2 (And.intro g3 (And.intro g4 (And.intro (qQ6 hx) (And.intro g2 (And.intro g3 (And.intro g4 (And.intro g6 (And.intro g7 (And.intro g2 (And.intro (qQp ((A0++x::x::B).map ic)) ih))))))))))))
  ·refine⟨A0++[x],y,B,by simp,fun z hz => .inl hz,fun _=>by simp;omega,?_⟩
   rw [el,ea]
   exact y5 [(19,.G),(23,.z A0.length),(24,.w ⟨.eloc 2 v A0.length 0,none,false⟩),(25,.w ⟨.pv (num x),none,false⟩),(27,.H)] k33 g1 g2 g3 g4 (qZ7 (show x≤n by omega)) (qQp ((A0++x::y::B).map ic))
end
end Go.Proofs.YtgleiiajjamgpaaGreatDoor
namespace Go.Lg
section
variable {ev:qVk} {P:Program}
def goT (ev:qVk) (P:Program) (n N nt bs:Nat) (b:Code) (s:IS) (tp:Di) (ko:Kp) (e:AE) (s':IS):Prop :=
 qIs ev P (qGv ev P N n) N nt bs b s tp fun e1 s1 _=>e1=e∧gd (qUd ko bs s1) (qNr s1.ob ko.on (kpT ko s1=s'))
theorem Reach.of_go (he:zZz ev P) {n N nt bs:Nat} {b:Code} {s s':IS} {tp:Di} {ko:Kp} {e:AE} (h:goT ev P n N nt bs b s tp ko e s'):Reach ev P nt bs b s e s':=by
 obtain⟨e1,s1,tp1,h1,rfl,h2⟩:=qZa (qKi he N n) _ _ _ _ h
 obtain⟨hk,h2⟩:=qKm h2
 obtain⟨h2,ha⟩:=qVe h2
 exact h2 ▸ h1.keep (qK3 hk ha)
theorem Rel.slotT {s:IS} {σ:St} (h:Rel s σ) (d:Nat) (x:V):Rel ⟨s.sl.put d (some x),s.ob,s.nx,s.dt⟩ ⟨(d,x)::σ.slots,σ.objs,σ.used⟩:=by
 refine⟨fun t => ?_,h.ob,h.us⟩
 show (if d=t then x else qZw σ.slots t)=_
 rw [Tr.get_put]
 by_cases e:t=d
 ·subst e;simp
 ·rw [if_neg e,if_neg (fun h=>e h.symm)];exact h.sl t
theorem Rel.objT {s:IS} {σ:St} (h:Rel s σ) (n:Nat) (o:Ob):Rel ⟨s.sl,s.ob.put n (some o),s.nx,s.dt⟩ ⟨σ.slots,qVa σ.objs n o,σ.used⟩:=by
 refine⟨h.sl,fun m => ?_,h.us⟩
 show qQc (qVa σ.objs n o) m=_
 rw [qQo,Tr.get_put]
 by_cases e:m=n
 ·rw [if_pos e,if_pos e]
 ·rw [if_neg e,if_neg e];exact h.ob m
theorem Rel.newT {s:IS} {σ:St} (h:Rel s σ) (o:Ob):Rel ⟨s.sl,s.ob.put s.nx (some o),s.nx+1,s.dt⟩ ⟨σ.slots,qVa σ.objs s.nx o,s.nx::σ.used⟩:=by
 have:=h.objT s.nx o
 exact⟨this.sl,this.ob,fun m hm=>by
  rcases List.mem_cons.1 hm with rfl|hm
  ·exact Nat.lt_succ_self _
  ·exact Nat.lt_succ_of_lt (h.us m hm)⟩
theorem Rel.keep {nt bs:Nat} {X:qZ5} (hX:HX X ev P nt bs) {s s':IS} {σ:St} (h:Rel s σ) (k:Kp) (hk:qUd k bs s=true) (ha:qNr s.ob k.on True) (he:kpT k s=s'):∃ τ,WkX X σ τ∧Rel s' τ:=he ▸ (qK3 hk (qVe ha).2).wk hX h
end
end Go.Lg
namespace Go.Proofs.YtgleiiajjamgpaaGreatDoor
open Go.Lg
set_option maxRecDepth 100000
def cs1:Code→Code
 | .seq a _=>a
 | c=>c
def cs2:Code→Code
 | .seq _ b=>b
 | c=>c
def cbk:Code→Code
 | .block _ b=>b
 | .loop b=>b
 | c=>c
noncomputable def b33:Code:=lpc 208 0
noncomputable def n33:Code:=cs1 b33
noncomputable def c33:Code:=cs1 (cs2 b33)
noncomputable def e33:Code:=cs1 (cbk (cs2 (cs2 b33)))
noncomputable def r33:Code:=cs2 (cbk (cs2 (cs2 b33)))
theorem zLt:b33 = .seq n33 (.seq c33 (.block 1 (.seq e33 r33))):=by kernel_rfl
theorem zLu:∃ i t1 t2 p1 p2 f1 f2,n33 = .region i #[⟨some 8,.next (.tmp 7) false,t1,p1,f1,none⟩,⟨some 9,.extract (.tmp 8) 0,t2,p2,f2,none⟩] false:=⟨_,_,_,_,_,_,_,rfl⟩
theorem zLv:∃ i t1 t2 t3 p1 p2 p3 f1 f2 f3,e33 = .region i #[⟨some 10,.entry (.tmp 7),t1,p1,f1,none⟩,⟨some 11,.extract (.tmp 10) 0,t2,p2,f2,none⟩,⟨some 4,.assign (.tmp 11),t3,p3,f3,none⟩] false:=⟨_,_,_,_,_,_,_,_,_,_,rfl⟩
noncomputable def a33:Code:=match (fnc 208).body with
 | some c=>c
 | none => .skip
theorem zLw:a33 = .seq (cs1 a33) (.seq (cs1 (cs2 a33)) (.seq (.seq (cs1 (cs1 (cs2 (cs2 a33)))) (.block 0 (.loop b33))) (cs2 (cs2 (cs2 a33))))):=by kernel_rfl
theorem zLx:∃ i t1 t2 p1 p2 f1 f2,cs1 (cs1 (cs2 (cs2 a33))) = .region i #[⟨some 6,.move (.tmp 0),t1,p1,f1,none⟩,⟨some 7,.range 231 (.tmp 6),t2,p2,f2,none⟩] false:=⟨_,_,_,_,_,_,_,rfl⟩
theorem zGg:(fnc 208).ntmps=44:=by kernel_rfl
abbrev Rc (bs f:Nat) (c:Code) (s:IS) (e:AE) (s':IS):Prop:=Go.Lg.Reach ev Tryz.prog (fnc f).ntmps bs c s e s'
section
variable {f bs:Nat} {c:Code} {s s':IS} {e:AE}
theorem rg0 (tp:Di) (ko:Kp) {N:Prop}  (m:N) (q:(e=e∧N∧s'=s')=goT ev Tryz.prog 6 100 (fnc f).ntmps bs c s tp ko e s':=by kernel_rfl):Rc bs f c s e s':=Reach.of_go qDo (q ▸ (⟨rfl,m,rfl⟩:e=e∧N∧s'=s'))
theorem rg1 (tp:Di) (ko:Kp) {H1 N:Prop} (h1:H1) (m:N) (q:(H1∧e=e∧N∧s'=s')=goT ev Tryz.prog 6 100 (fnc f).ntmps bs c s tp ko e s':=by kernel_rfl):Rc bs f c s e s':=Reach.of_go qDo (q ▸ (⟨h1,rfl,m,rfl⟩:H1∧e=e∧N∧s'=s'))
theorem rg2 (tp:Di) (ko:Kp) {H1 H2 N:Prop} (h1:H1) (h2:H2) (m:N) (q:(H1∧H2∧e=e∧N∧s'=s')=goT ev Tryz.prog 6 100 (fnc f).ntmps bs c s tp ko e s':=by kernel_rfl):Rc bs f c s e s':=Reach.of_go qDo (q ▸ (⟨h1,h2,rfl,m,rfl⟩:H1∧H2∧e=e∧N∧s'=s'))
theorem rg3 (tp:Di) (ko:Kp) {H1 H2 H3 N:Prop} (h1:H1) (h2:H2) (h3:H3) (m:N) (q:(H1∧H2∧H3∧e=e∧N∧s'=s')=goT ev Tryz.prog 6 100 (fnc f).ntmps bs c s tp ko e s':=by kernel_rfl):Rc bs f c s e s':=Reach.of_go qDo (q ▸ (⟨h1,h2,h3,rfl,m,rfl⟩:H1∧H2∧H3∧e=e∧N∧s'=s'))
theorem rg4 (tp:Di) (ko:Kp) {H1 H2 H3 H4 N:Prop} (h1:H1) (h2:H2) (h3:H3) (h4:H4) (m:N) (q:(H1∧H2∧H3∧H4∧e=e∧N∧s'=s')=goT ev Tryz.prog 6 100 (fnc f).ntmps bs c s tp ko e s':=by kernel_rfl):Rc bs f c s e s':=Reach.of_go qDo (q ▸ (⟨h1,h2,h3,h4,rfl,m,rfl⟩:H1∧H2∧H3∧H4∧e=e∧N∧s'=s'))
theorem rg6 (tp:Di) (ko:Kp) {H1 H2 H3 H4 H5 H6 N:Prop} (h1:H1) (h2:H2) (h3:H3) (h4:H4) (h5:H5) (h6:H6) (m:N) (q:(H1∧H2∧H3∧H4∧H5∧H6∧e=e∧N∧s'=s')=goT ev Tryz.prog 6 100 (fnc f).ntmps bs c s tp ko e s':=by kernel_rfl):Rc bs f c s e s':=Reach.of_go qDo (q ▸ (⟨h1,h2,h3,h4,h5,h6,rfl,m,rfl⟩:H1∧H2∧H3∧H4∧H5∧H6∧e=e∧N∧s'=s'))
end
section
variable (mv iv:Value) (mo io:Obj)
def hs:Nat→List Nat→IS
 | 0,_=>st [(3,.pv .nils),(7,.loc 1 0)] [(0,.raw mv mo),(1,.raw iv io)] 2 []
 | v+1,L=>st [(3,.arr 2 (v+1) (v+1)),(7,.loc 1 0)] (zXm mv mo iv io (v+1) L) 3 []
def qs (n:Nat):Nat→List Nat→IS
 | 0,_=>st [(3,.pv .nils),(4,.pv (num n)),(7,.loc 1 0)] [(0,.raw mv mo),(1,.raw iv io)] 2 []
 | v+1,L=>st [(3,.arr 2 (v+1) (v+1)),(4,.pv (num n)),(7,.loc 1 0)] (zXm mv mo iv io (v+1) L) 3 []
def zXn:Nat→List Nat→IS
 | 0,_=>st [(3,.pv .nils)] [(0,.raw mv mo)] 3 []
 | v+1,L=>st [(3,.arr 2 (v+1) (v+1))] [(0,.raw mv mo),(2,.arr (v+1) 1 3 (vN L))] 3 []
end
theorem lnA {v len:Nat} : ro (bif Nat.beq v v then some (V.pv (.int (.ofNat len))) else none)=some ⟨.pv (num len),none,false⟩:=by rw [qIi rfl];rfl
theorem zCg {A:List (List PV)} {k v sz ty m:Nat} {c:List PV} (hk:A.length=k) (h0:0<sz) (h1:qBi sz [pvL c]=true) (h2:qJk [pvL c]=true) (h3:k+1≤maxLen) (h4:(k+1) * m≤140737488355328) :
  (Nat.beq v v && Nat.ble k (pvE A).length && Nat.beq ty ty && Nat.beq sz sz && Nat.blt 0 sz && qBi sz [pvL c] && qJk [pvL c] && Nat.ble (k+[pvL c].length) maxLen && Nat.ble ((k+[pvL c].length) * m) 140737488355328)=true:=by
 subst hk
 exact qI2 h0 h1 h2 h3 h4
section
variable {mv iv:Value} {mo io:Obj}
theorem zCh (n v:Nat) (L:List Nat) (hv:L.length=v) (hb:v+1≤big) (hm:v+1≤maxLen) (hm':(v+1) * 8≤140737488355328) :
  ∃ A B,A++B=L∧(∀ x∈B,n<x)∧(∀ h:A≠[],A.getLast h≤n)∧Rc 1 208 r33 (qs mv iv mo io n v L) .normal (hs mv iv mo io (v+1) (A++n::B)):=by
 obtain⟨A,y,B,h1,h2,h3,h⟩:=qSs (mv:=mv) (mo:=mo) (iv:=iv) (io:=io) (n:=n) (v:=v+1) (len:=v+1) v L n [] hv (by simp;omega) hb
 rw [List.append_nil] at h1
 have h2:∀ x∈B,n<x:=fun x hx=>(h2 x hx).resolve_left (by simp)
 have hl:A.length+B.length=v:=by rw [← hv,← h1];simp
 have gl:(vN (A++y::B)).length=v+1:=by rw [zVd];simp;omega
 have g6:=ixA (n:=2) (v:=v+1) (k:=A.length) (len:=v+1) (es:=vN (A++y::B)) (by omega) (by omega)
 have g7:=stA (n:=2) (v:=v+1) (k:=A.length) (es:=vN (A++y::B)) (es':=vN (A++n::B)) (y:=.pv (num n)) (qSr A B y) (zVe A B y n)
 refine⟨A,B,h1,h2,h3,?_⟩
 rw [hv] at h
 cases v with
 | zero =>
  have e:=List.length_eq_zero_iff.1 hv
  subst e
  exact rg4 [(100007,.l k33 (.exit 2) (st (zYm 1 1 n A.length) (zXm mv mo iv io 1 (A++y::B)) 3 [])),(42,.w ⟨.eloc 2 1 A.length 0,none,false⟩),(99999,.w ⟨.undef,some (2,.arr 1 1 3 (vN (A++n::B))),false⟩)] ⟨[3,7],[0,1,2],3,[]⟩ (qQp [ic n]) h g6 g7 (qQp ((A++n::B).map ic))
 | succ v =>
  have e1:vN (L++[n])=(vN L).take (v+1)++[pvL (ic n)]:=by
   have:=qJm (L.map ic) (ic n)
   rw [List.length_map,hv] at this
   rw [← this]
   show pvE ((L++[n]).map ic)=_
   rw [List.map_append]
   rfl
  have g5:=zCg (A:=L.map ic) (v:=v+1) (ty:=3) (m:=8) (c:=ic n) (k:=v+1) (by simpa using hv) (show 0<1 by decide) rfl rfl hm hm'
  have g8:qQn ((vN L).take (v+1)++[pvL (ic n)])=[]:=by rw [← e1];exact qQp ((L++[n]).map ic)
  have h:Lp 208 1 1 (st (zYm (v+1+1) (v+1+1) n (v+1)) [(0,.raw mv mo),(1,.raw iv io),(2,.arr (v+1+1) 1 3 ((vN L).take (v+1)++[pvL (ic n)]))] 3 []) (.exit 2) (st (zYm (v+1+1) (v+1+1) n A.length) (zXm mv mo iv io (v+1+1) (A++y::B)) 3 []):=by rw [← e1];exact h
  exact rg6 [(13,.w ⟨.pv (num (v+1)),none,false⟩),(17,.ok),(100007,.l k33 (.exit 2) (st (zYm (v+1+1) (v+1+1) n A.length) (zXm mv mo iv io (v+1+1) (A++y::B)) 3 [])),(42,.w ⟨.eloc 2 (v+1+1) A.length 0,none,false⟩),(99999,.w ⟨.undef,some (2,.arr (v+1+1) 1 3 (vN (A++n::B))),false⟩)] ⟨[3,7],[0,1,2],3,[]⟩ (lnA (v:=v+1) (len:=v+1)) g5 g8 h g6 g7 (qQp ((A++n::B).map ic))
end
end Go.Proofs.YtgleiiajjamgpaaGreatDoor
namespace Go.Proofs.YtgleiiajjamgpaaGreatDoor
open Go.Lg
set_option maxRecDepth 100000
section
variable {f bs:Nat} {c:Code} {s s':IS} {e:AE}
theorem rz0 (tp:Di) (ko:Kp) (q:(e=e∧s'=s')=goT ev Tryz.prog 6 100 (fnc f).ntmps bs c s tp ko e s':=by kernel_rfl):Rc bs f c s e s':=Reach.of_go qDo (q ▸ (⟨rfl,rfl⟩:e=e∧s'=s'))
end
theorem qDw:∀ {L S:List Nat},Asc L→Asc S→(∀ x,x∈L↔x∈S)→L=S
 | [],[],_,_,_=>rfl
 | [],y::S,_,_,h=>absurd ((h y).2 (List.mem_cons_self ..)) (by simp)
 | x::L,[],_,_,h=>absurd ((h x).1 (List.mem_cons_self ..)) (by simp)
 | x::L,y::S,h1,h2,h=>by
  obtain⟨a1,b1⟩:=List.pairwise_cons.1 h1
  obtain⟨a2,b2⟩:=List.pairwise_cons.1 h2
  have e:x=y:=by
   rcases List.mem_cons.1 ((h x).1 (List.mem_cons_self ..)) with e|hx
   ·exact e
   rcases List.mem_cons.1 ((h y).2 (List.mem_cons_self ..)) with e|hy
   ·exact e.symm
   have:=a1 y hy
   have:=a2 x hx
   omega
  subst e
  rw [qDw b1 b2 fun z=>⟨fun hz=>(List.mem_cons.1 ((h z).1 (List.mem_cons_of_mem _ hz))).resolve_left (fun e=>by have:=a1 z hz;omega),fun hz=>(List.mem_cons.1 ((h z).2 (List.mem_cons_of_mem _ hz))).resolve_left (fun e=>by have:=a2 z hz;omega)⟩]
theorem qLc:∀ {S L:List Nat},Asc L→Asc S→(∀ x∈L,x∈S)→L.length≤S.length
 | S,[],_,_,_=>Nat.zero_le _
 | [],x::L,_,_,h=>absurd (h x (List.mem_cons_self ..)) (by simp)
 | y::S,x::L,h1,h2,h=>by
  obtain⟨a1,b1⟩:=List.pairwise_cons.1 h1
  obtain⟨a2,b2⟩:=List.pairwise_cons.1 h2
  by_cases e:x=y
  ·subst e
   exact Nat.succ_le_succ (qLc b1 b2 fun z hz=>(List.mem_cons.1 (h z (List.mem_cons_of_mem _ hz))).resolve_left (fun e=>by have:=a1 z hz;omega))
  ·have hx:x∈S:=(List.mem_cons.1 (h x (List.mem_cons_self ..))).resolve_left e
   have:=a2 x hx
   have:=qLc (S:=S) h1 b2 fun z hz=>(List.mem_cons.1 (h z hz)).resolve_left (fun e=>by
    rcases List.mem_cons.1 hz with rfl|hz
    ·omega
    ·have:=a1 z hz;omega)
   exact Nat.le_succ_of_le this
theorem zXo {A B:List Nat} {n:Nat} (h:Asc (A++B)) (hn:n ∉ A++B) (h1:∀ x∈B,n<x) (h2:∀ h:A≠[],A.getLast h≤n):Asc (A++n::B):=by
 obtain⟨a,b,c⟩:=List.pairwise_append.1 h
 have ha:∀ x∈A,x<n:=by
  intro x hx
  have hne:A≠[]:=fun e=>by subst e;cases hx
  have hl:=h2 hne
  have hx':x≤A.getLast hne:=by
   have e:=List.dropLast_concat_getLast hne
   rw [← e] at hx a
   rcases List.mem_append.1 hx with hx|hx
   ·exact Nat.le_of_lt ((List.pairwise_append.1 a).2.2 x hx _ (by simp))
   ·simp at hx;omega
  have:x≠n:=fun e=>hn (List.mem_append_left _ (e ▸ hx))
  omega
 refine List.pairwise_append.2 ⟨a,List.pairwise_cons.2 ⟨h1,b⟩,fun x hx y hy => ?_⟩
 rcases List.mem_cons.1 hy with rfl|hy
 ·exact ha x hx
 ·exact c x hx y hy
abbrev km (b:Nat):Value:=.map (some b)
abbrev ki' (rb:Nat):Value:=.pointer (some ⟨rb,0,none⟩)
abbrev oi (b ck:Nat) (seen:Array Nat):Obj:=.mapIter (some b) ck seen ck
section
variable {X:qZ5} {b rb ck:Nat} {ms:Array MapEntry} {S:List Nat}
theorem zGh {mv iv:Value} {mo io:Obj} (v:Nat) (L:List Nat) :
  Rc 1 208 (.seq c33 (.block 1 (.seq e33 r33))) ⟨((hs mv iv mo io v L).sl.put 8 (some .undef)).put 9 (some (.pv (.bool false))),(hs mv iv mo io v L).ob,(hs mv iv mo io v L).nx,(hs mv iv mo io v L).dt⟩ (.exit 0) (zXn mv mo v L):=by
 cases v with
 | zero=>exact rz0 [] ⟨[3],[0],3,[]⟩
 | succ v=>exact rg0 [] ⟨[3],[0,2],3,[]⟩ (qQp (L.map ic))
theorem zGi {mv iv:Value} {mo io io':Obj} (v:Nat) (L:List Nat) :
  Rc 1 208 c33 ⟨((hs mv iv mo io v L).sl.put 8 (some .undef)).put 9 (some (.pv (.bool true))),(hs mv iv mo io v L).ob.put 1 (some (.raw iv io')),(hs mv iv mo io v L).nx,(hs mv iv mo io v L).dt⟩ .normal (hs mv iv mo io' v L):=by
 cases v with
 | zero=>exact rz0 [] ⟨[3,7],[0,1],2,[]⟩
 | succ v=>exact rg0 [] ⟨[3,7],[0,1,2],3,[]⟩ (qQp (L.map ic))
theorem zGj (hX:HX X ev Tryz.prog (fnc 208).ntmps 1) {mv iv:Value} {mo io:Obj} (v:Nat) (L:List Nat) (n:Nat) {σ:St} (h:Rel (hs mv iv mo io v L) σ) :
  ∃ τ,WkX X ⟨(4,.pv (num n))::(11,.pv (num n))::(10,.undef)::σ.slots,σ.objs,σ.used⟩ τ∧Rel (qs mv iv mo io n v L) τ:=by
 have h3:=((h.slotT 10 .undef).slotT 11 (.pv (num n))).slotT 4 (.pv (num n))
 cases v with
 | zero=>exact h3.keep hX ⟨[3,4,7],[0,1],2,[]⟩ (by kernel_rfl) True.intro (by kernel_rfl)
 | succ v=>exact h3.keep hX ⟨[3,4,7],[0,1,2],3,[]⟩ (by kernel_rfl) ⟨qQp (L.map ic),True.intro⟩ (by kernel_rfl)
theorem zH8 {mv iv:Value} {mo io:Obj} (v:Nat) (L:List Nat) {σ:St} (h:Rel (hs mv iv mo io v L) σ):qZw σ.slots 7 = .loc 1 0∧qQc σ.objs 0=some (.raw mv mo)∧qQc σ.objs 1=some (.raw iv io):=by
 have h1:=h.sl 7
 have h2:=h.ob 0
 have h3:=h.ob 1
 cases v<;>exact⟨h1,h2,h3⟩
structure zGk (ms:Array MapEntry) (seen:Array Nat) (L:List Nat):Prop where
 asc:Asc L
 mem:∀ x:Nat,x∈L ↔ ∃ e∈ms.toList,e.key = .int .i64 (.ofNat x)∧seen.contains e.born=true
structure zYn (ms:Array MapEntry) (ck:Nat) (S:List Nat):Prop where
 hold:∀ x∈ms.toList,x.born<ck
 nd:(ms.toList.map (·.born)).Nodup
 kn:∀ e∈ms.toList,∃ z:Nat,e.key = .int .i64 (.ofNat z)
 inj:∀ e∈ms.toList,∀ e'∈ms.toList,e.key=e'.key→e=e'
 asc:Asc S
 mem:∀ x:Nat,x∈S ↔ ∃ e∈ms.toList,e.key = .int .i64 (.ofNat x)
 len:S.length≤8589934592
theorem qMq:∀ {l:List MapEntry},(l.map (·.born)).Nodup→∀ {e e':MapEntry},e∈l→e'∈l→e.born=e'.born→e=e'
 | x::l,h,e,e',he,he',hb=>by
  obtain⟨h1,h2⟩:=List.nodup_cons.1 h
  rcases List.mem_cons.1 he with k1|k1<;>rcases List.mem_cons.1 he' with k2|k2
  ·rw [k1,k2]
  ·exact absurd (List.mem_map.2 ⟨e',k2,by rw [← hb,k1]⟩) h1
  ·exact absurd (List.mem_map.2 ⟨e,k1,by rw [hb,k2]⟩) h1
  ·exact qMq h2 k1 k2 hb
theorem zVf (hX:HX X ev Tryz.prog (fnc 208).ntmps 1) (hM:zYn ms ck S) (seen:Array Nat) (v:Nat) (L:List Nat) (σ:St) (hW:zGk ms seen L) (hv:L.length=v) (hR:Rel (hs (km b) (ki' rb) (.map ms ck) (oi b ck seen) v L) σ) (Q:AEx→St→Prop)
  (q1:∀ σ',qIr (.exit 0) (zXn (km b) (.map ms ck) S.length S) (.exit 0) σ'→Q (.exit 0) σ')
  (q2:∀ seen' L' σ',(leftOf ms seen').size<(leftOf ms seen).size→zGk ms seen' L'→L'.length=v+1→Rel (hs (km b) (ki' rb) (.map ms ck) (oi b ck seen') (v+1) L') σ'→Q .normal σ'):AWP X b33 σ Q:=by
 have hnt:X.nt=44:=by rw [hX.nt];exact zGg
 have hsub:∀ x∈L,x∈S:=fun x hx=>by
  obtain⟨e,he,h1,_⟩:=(hW.mem x).1 hx
  exact (hM.mem x).2 ⟨e,he,h1⟩
 obtain⟨g1,g2,g3⟩:=zH8 v L hR
 rw [zLt]
 refine AWP.seq ?_
 obtain⟨i,t1,t2,p1,p2,f1,f2,hn⟩:=zLu
 rw [hn]
 refine AWP.next (n:=0) (r:=1) (by decide) g1 g2 g3 hM.hold (Nat.le_refl _) (by rw [hnt];decide) (by rw [hnt];decide) ?_ ?_
 ·intro h0
  have e:L=S:=qDw hW.asc hM.asc fun x=>⟨fun hx=>hsub x hx,fun hx=>by
   obtain⟨e,he,h1⟩:=(hM.mem x).1 hx
   exact (hW.mem x).2 ⟨e,he,h1,all_seen ms seen h0 e he⟩⟩
  have hR1:=(hR.slotT 8 .undef).slotT 9 (.pv (.bool false))
  refine AWP.mono ((zGh v L).awp X hX _ hR1) ?_
  rintro ae σ' ⟨rfl,h⟩
  rw [hv.symm,e] at h
  exact q1 σ' ⟨rfl,h⟩
 ·intro e he
  obtain⟨hem,hes⟩:=mem_left he
  obtain⟨n,hz⟩:=hM.kn e hem
  have hR1:=((hR.slotT 8 .undef).slotT 9 (.pv (.bool true))).objT 1 (.raw (ki' rb) (oi b ck (seen.push e.born)))
  refine AWP.seq (AWP.mono ((zGi v L).awp X hX _ hR1) ?_)
  rintro ae σ' ⟨rfl,hR2⟩
  refine AWP.block (AWP.seq ?_)
  obtain⟨g1,g2,g3⟩:=zH8 v L hR2
  obtain⟨i,t1,t2,t3,p1,p2,p3,f1,f2,f3,hn⟩:=zLv
  rw [hn]
  refine AWP.entry g1 g2 g3 hem hM.nd hz (by rw [hnt];decide) (by rw [hnt];decide) (by rw [hnt];decide) ?_
  obtain⟨τ,hw,hR3⟩:=zGj hX v L n hR2
  have hnL:n ∉ L:=fun hn=>by
   obtain⟨e',he',h1,h2⟩:=(hW.mem n).1 hn
   rw [hM.inj e hem e' he' (hz.trans h1.symm),h2] at hes
   cases hes
  have hlt:=qLc hW.asc hM.asc hsub
  have hSl:=hM.len
  obtain⟨A,B,e1,h2,h3,hr⟩:=zCh (mv:=km b) (iv:=ki' rb) (mo:=.map ms ck) (io:=oi b ck (seen.push e.born)) n v L hv (by simp only [big];omega) (by simp only [maxLen];omega) (by omega)
  refine AWP.wkX hw (AWP.mono (hr.awp X hX τ hR3) ?_)
  rintro ae σ3 ⟨rfl,hR4⟩
  refine q2 (seen.push e.born) (A++n::B) σ3 (left_shrinks ms seen e he) ⟨zXo (e1 ▸ hW.asc) (e1 ▸ hnL) h2 h3,fun x => ?_⟩ (by have:=congrArg List.length e1;simp at this ⊢;omega) hR4
  have hx:x∈A++n::B↔x=n∨x∈L:=by rw [← e1];simp;constructor<;>(rintro (h|h|h)<;>simp [h])
  rw [hx,hW.mem]
  constructor
  ·rintro (rfl|⟨e',he',h1,h2⟩)
   ·exact⟨e,hem,hz,by simp⟩
   ·exact⟨e',he',h1,by simp at h2 ⊢;exact .inl h2⟩
  ·rintro⟨e',he',h1,h2⟩
   by_cases hq:seen.contains e'.born=true
   ·exact .inr ⟨e',he',h1,hq⟩
   ·have hb:e'.born=e.born:=by simp at h2 hq;exact h2.resolve_left hq
    have:=qMq hM.nd he' hem hb
    subst this
    rw [hz] at h1
    left
    simp at h1
    omega
theorem zVg (hX:HX X ev Tryz.prog (fnc 208).ntmps 1) (hM:zYn ms ck S):∀ (k:Nat) (seen:Array Nat) (v:Nat) (L:List Nat) (σ:St),(leftOf ms seen).size≤k→zGk ms seen L→L.length=v →
   Rel (hs (km b) (ki' rb) (.map ms ck) (oi b ck seen) v L) σ→qKq X b33 (qIr (.exit 0) (zXn (km b) (.map ms ck) S.length S)) (k+1) σ
 | 0,seen,v,L,σ,hk,hW,hv,hR=>qXk (zVf hX hM seen v L σ hW hv hR _ (fun _ h=>h) (fun _ _ _ h=>by omega))
 | k+1,seen,v,L,σ,hk,hW,hv,hR=>qXk (zVf hX hM seen v L σ hW hv hR _ (fun _ h=>h) (fun seen' L' σ' h hW' hv' hR'=>zVg hX hM k seen' (v+1) L' σ' (by omega) hW' hv' hR'))
end
end Go.Proofs.YtgleiiajjamgpaaGreatDoor
namespace Go.Lg
theorem qSt {ev:qVk} {P:Program} {f m nx:Nat} {args:List V} {objs:List (Nat × Ob)} {ks:List Nat} {y:V} {ro o1:List (Nat × Ob)} (hd:qP1 (qJ0 objs)=true) (hk:zWp (qJ0 objs) ks=true)
  (hC:Called P ev.gl ⟨.nil,obL objs .nil,m,[]⟩ f args ⟨y,[],[],nx⟩ ks ro o1):AC P ev.gl f args objs (.ret y) objs:=by
 have hd:=qK2 hd
 rw [qZn] at hd
 have hk:=qBw hk
 rw [qZn] at hk
 have hs0:∀ k,(obL objs .nil).get k=qQc objs k:=fun k=>by
  rw [qE0 objs _ hd]
  cases qQc objs k<;>rfl
 have h1:o1=[]:=by
  cases o1 with
  | nil=>rfl
  | cons p r=>have:=hC.inch p.1 (keysO_mem.2 ⟨p.2,List.mem_cons_self ..⟩);cases this
 subst h1
 have hsub:∀ p∈ro,qQc objs p.1=some p.2:=fun p hp=>by rw [← hs0];exact hC.subs p (by simpa using hp)
 have hget:∀ k,qQc ro k=qQc objs k:=by
  intro k
  cases e:qQc ro k with
  | some o=>exact (hsub (k,o) (qJ7 e)).symm
  | none =>
   cases e2:qQc objs k with
   | none=>rfl
   | some o =>
    have h1:=hC.all k (hk k (getO_iff.2 (by rw [e2];rfl)))
    rw [List.append_nil,getO_iff,e] at h1
    cases h1
 have hac:AC P ev.gl f args ro (.ret y) ro:=by simpa using hC.ac
 refine AC.cong hac hget hget fun k hk => ?_
 obtain⟨p,hp,hkp⟩:=mem_mentO.1 hk
 exact mem_mentO.2 ⟨p,qJ7 (hsub p hp),hkp⟩
end Go.Lg
namespace Go.Proofs.YtgleiiajjamgpaaGreatDoor
open Go.Lg
set_option maxRecDepth 100000
def se (U:List Nat):List (SK × V):=U.map fun n=>(.int (.ofNat n),.pv (.bool true))
theorem qQv:∀ U:List Nat,qZd (se U)=[]
 | []=>rfl
 | n::U=>by show ([]:List Nat)++qZd (se U)=[];rw [qQv U];rfl
theorem qMr {E E':Env} : ∀ {U:List Nat} {ms:List MapEntry},EntsS E false (se U) ms→EntsS E' false (se U) ms
 | [],[],_=>True.intro
 | n::U,e::ms,h=>⟨⟨h.1.1,h.1.2.1,h.1.2.2.1,h.1.2.2.2⟩,qMr h.2⟩
 | [],_::_,h=>h.elim
 | _::_,[],h=>h.elim
theorem qHk {E:Env} : ∀ {U:List Nat} {ms:List MapEntry},EntsS E false (se U) ms→ms.map (·.key)=U.map fun n => .int .i64 (.ofNat n)
 | [],[],_=>rfl
 | n::U,e::ms,h=>by
  show e.key::ms.map (·.key)=_::U.map _
  rw [qHk h.2,h.1.1]
  rfl
 | [],_::_,h=>h.elim
 | _::_,[],h=>h.elim
theorem qSu:∀ {l:List MapEntry},(l.map (·.key)).Nodup→∀ {e e':MapEntry},e∈l→e'∈l→e.key=e'.key→e=e'
 | x::l,h,e,e',he,he',hb=>by
  obtain⟨h1,h2⟩:=List.nodup_cons.1 h
  rcases List.mem_cons.1 he with k1|k1<;>rcases List.mem_cons.1 he' with k2|k2
  ·rw [k1,k2]
  ·exact absurd (List.mem_map.2 ⟨e',k2,by rw [← hb,k1]⟩) h1
  ·exact absurd (List.mem_map.2 ⟨e,k1,by rw [hb,k2]⟩) h1
  ·exact qSu h2 k1 k2 hb
theorem qN6 {U:List Nat} (h:U.Nodup):(U.map fun n=>Value.int .i64 (.ofNat n)).Nodup:=by
 refine List.Pairwise.map _ (fun a b hab e=>hab ?_) h
 have:Int.ofNat a=Int.ofNat b:=(Value.int.injEq .. ▸ e).2
 exact Int.ofNat.inj this
structure qDx (U S:List Nat):Prop where
 nd:U.Nodup
 asc:Asc S
 mem:∀ x:Nat,x∈S↔x∈U
 len:S.length≤8589934592
theorem zGl {E:Env} {U S:List Nat} {ms:Array MapEntry} {ck:Nat} (h:qDx U S) (he:EntsS E false (se U) ms.toList) (hs:StampOK ms.toList ck):zYn ms ck S:=by
 have hk:=qHk he
 have hmem:∀ v,(∃ e∈ms.toList,e.key=v) ↔ ∃ n∈U,Value.int .i64 (.ofNat n)=v:=fun v=>by
  have:v∈ms.toList.map (·.key)↔v∈U.map fun n=>Value.int .i64 (.ofNat n):=by rw [hk]
  simpa only [List.mem_map] using this
 refine⟨hs.1,hs.2,fun e he => ?_,fun e he e' he' hkk=>qSu (hk ▸ qN6 h.nd) he he' hkk,h.asc,fun x => ?_,h.len⟩
 ·obtain⟨n,_,e2⟩:=(hmem e.key).1 ⟨e,he,rfl⟩
  exact⟨n,e2.symm⟩
 ·rw [h.mem,hmem]
  constructor
  ·exact fun hx=>⟨x,hx,rfl⟩
  ·rintro⟨n,hn,e⟩
   have:Int.ofNat n=Int.ofNat x:=(Value.int.injEq .. ▸ e).2
   rwa [← Int.ofNat.inj this]
section
variable {b rb ck:Nat} {ms:Array MapEntry} {S:List Nat}
theorem zLy (hM:zYn ms ck S):Lp 208 0 1 (hs (km b) (ki' rb) (.map ms ck) (oi b ck #[]) 0 []) (.exit 0) (zXn (km b) (.map ms ck) S.length S):=by
 refine⟨fun sub hI => ?_,(leftOf ms #[]).size+1,fun X hX σ hR=>zVg hX hM _ #[] 0 [] σ (Nat.le_refl _) ⟨List.Pairwise.nil,fun x=>⟨fun h=>(by cases h),fun ⟨e,_,_,h⟩=>(by simp at h)⟩⟩ rfl hR⟩
 have h0:∀ n,n<1→n=0:=fun n h=>by omega
 have g0:∀ v,(zXn (km b) (.map ms ck) v S).ob.get 0=some (.raw (km b) (.map ms ck)):=fun v=>by cases v<;>rfl
 have g1:∀ v,(zXn (km b) (.map ms ck) v S).dt=[]∧(zXn (km b) (.map ms ck) v S).nx=3:=fun v=>by cases v<;>exact⟨rfl,rfl⟩
 refine⟨by rw [(g1 _).2];omega,fun n hn _ => ?_,fun n hn _ => ?_,hI.names,fun n hn => ?_⟩
 ·rw [h0 n hn,g0];exact hI.same 0 (by omega) (by simp [hs])
 ·rw [h0 n hn];exact hI.old 0 (by omega) rfl
 ·rw [(g1 _).1] at hn;cases hn
def zVh (o:Ob):List Nat→IS
 | []=>st [(3,.pv .nils)] [(0,o)] 3 []
 | x::S=>st [(3,.pv (qQk (x::S)))] [(0,o)] 3 []
theorem zGm (hM:zYn ms ck S):Lp 208 0 1 (hs (km b) (ki' rb) (.map ms ck) (oi b ck #[]) 0 []) (.exit 0) (zVh (.raw (km b) (.map ms ck)) S):=by
 have h:=zLy (b:=b) (rb:=rb) hM
 cases S with
 | nil=>exact h
 | cons x S =>
  have h2:=LoopIs.fz (by simp) (show Lp 208 0 1 _ (.exit 0) (st [(3,.arr 2 (S.length+1) (S.length+1))] [(0,.raw (km b) (.map ms ck)),(2,.arr (S.length+1) 1 3 (pvE ((x::S).map ic)))] 3 []) from h) 2 (ver:=S.length+1) (sz:=1) (ty:=3) (ps:=(x::S).map ic) rfl (by kernel_rfl)
  have e:((x::S).map ic).take (S.length+1)=(x::S).map ic:=List.take_of_length_le (by simp)
  simp (decide:=true) only [fzS,fzO,qBg,qJg,qCd,qFt,and_self,↓reduceIte,e] at h2
  exact h2
abbrev qZo (U:List Nat):Ob:=.smap false (se U)
abbrev zGn (U:List Nat):IS:=st [(0,.map 0),(3,.pv .nils)] [(0,qZo U)] 1 []
theorem zLz:Tryz.prog.underlying 231=some (.map 3 4):=by kernel_rfl
noncomputable abbrev m33:Code:=.seq (cs1 (cs1 (cs2 (cs2 a33)))) (.block 0 (.loop b33))
theorem zXp {X:qZ5} (hX:HX X ev Tryz.prog (fnc 208).ntmps 1) (hM:zYn ms ck S) {U:List Nat} {σ:St} (hR:Rel (zGn U) σ) :
  AWP X m33 ⟨σ.slots,qVa σ.objs 0 (.raw (km b) (.map ms ck)),σ.used⟩ (qIr .normal (zVh (.raw (km b) (.map ms ck)) S)):=by
 have hnt:X.nt=44:=by rw [hX.nt];exact zGg
 have hR1:=hR.objT 0 (.raw (km b) (.map ms ck))
 refine AWP.seq ?_
 obtain⟨i,t1,t2,p1,p2,f1,f2,hn⟩:=zLx
 rw [hn]
 refine AWP.range (n:=0) (r:=1) (b:=b) (ck:=ck) (ms:=ms) (hR.sl 0) (hR1.ob 0) (fun h=>(by have:1<1:=hR.us 1 h;exact absurd this (by decide))) (by rw [hX.P];exact zLz) (by rw [hnt];decide) (by rw [hnt];decide) ?_
 intro rb
 have hR2:=((hR1.slotT 6 (.map 0)).slotT 7 (.loc 1 0)).newT (.raw (ki' rb) (oi b ck #[]))
 obtain⟨τ,hw,hR3⟩:=hR2.keep hX (s':=hs (km b) (ki' rb) (.map ms ck) (oi b ck #[]) 0 []) ⟨[3,7],[0,1],2,[]⟩ (by kernel_rfl) (cast (show True=qNr _ _ True by kernel_rfl) True.intro) (by kernel_rfl)
 refine AWP.wkX hw (AWP.block (AWP.mono ((zGm hM).reach.awp X hX τ hR3) ?_))
 rintro ae σ' ⟨rfl,h⟩
 exact⟨rfl,h⟩
theorem zCi {U:List Nat} (hU:qDx U S):Rc 1 208 m33 (zGn U) .normal (zVh (qZo U) S):=by
 refine⟨fun sub hI => ?_,fun X hX σ hR C E a w hC hG => ?_⟩
 ·have h0:∀ n,n<1→n=0:=fun n h=>by omega
  have g0:(zVh (qZo U) S).ob.get 0=some (qZo U):=by cases S<;>rfl
  have g1:(zVh (qZo U) S).dt=[]∧(zVh (qZo U) S).nx=3:=by cases S<;>exact⟨rfl,rfl⟩
  refine⟨by rw [g1.2];omega,fun n hn _ => ?_,fun n hn _ => ?_,hI.names,fun n hn => ?_⟩
  ·rw [h0 n hn,g0];exact hI.same 0 (by omega) (by simp)
  ·rw [h0 n hn];exact hI.old 0 (by omega) rfl
  ·rw [g1.1] at hn;cases hn
 ·have ho:qQc σ.objs 0=some (qZo U):=hR.ob 0
  obtain⟨b,ms,ck,hg,hcell,hfree,hents,hst⟩:=hG.objs 0 _ ho
  have hG1:=hG.swapO (o':=.raw (km b) (.map ms ck)) ho ⟨hg,b,rfl,hcell,hfree⟩ (by simp [Ob.names])
  refine wp_mono (zXp hX (zGl hU hents hst) hR C E a w hC hG1) ?_
  rintro e a' w' ⟨E',σ',ae,hG',hrel,rfl,hR'⟩
  have ho':qQc σ'.objs 0=some (.raw (km b) (.map ms ck)):=by rw [hR'.ob 0];cases S<;>rfl
  obtain⟨hg',b',hb',hcell',hfree'⟩:=hG'.objs 0 _ ho'
  cases hb'
  have hG2:=hG'.swapO (o':=qZo U) ho' ⟨b,ms,ck,hg',hcell',hfree',qMr hents,hst⟩ (by simp [Ob.names,qQv])
  refine⟨E',_,.normal,hG2,hrel,rfl,?_⟩
  have hR2:=hR'.objT 0 (qZo U)
  cases S<;>exact⟨hR2.sl,fun n=>(hR2.ob n).trans (by simp only [zVh,Tr.get_put];by_cases e:n=0<;>simp [e,obL,Tr.get_put];done),hR2.us⟩
end
end Go.Proofs.YtgleiiajjamgpaaGreatDoor
namespace Go.Lg
end Go.Lg
namespace Go.Proofs.YtgleiiajjamgpaaGreatDoor
open Go.Lg
set_option maxRecDepth 100000
theorem qMs (U:List Nat) (m:Nat) (hm:Nat.blt 0 m=true):reach m (obL [(0,qZo U)] .nil) 1000000 [0] .nil []=some (Tr.nil.put 0 (some (qZo U)),[0]):=by
 have e:reach m (obL [(0,qZo U)] .nil) 1000000 [0] .nil []=bif Nat.blt 0 m then reach m (obL [(0,qZo U)] .nil) 999999 (qZd (se U)++[]) (Tr.nil.put 0 (some (qZo U))) [0] else none:=by kernel_rfl
 rw [e,hm,qQv]
 rfl
def zDx:List Nat→PV
 | [] => .nils
 | x::S=>qQk (x::S)
theorem zL0:∀ S:List Nat,PV.w 4 (zDx S)=qQk S
 | []=>rfl
 | _::_=>rfl
section
variable {U S:List Nat}
theorem p33_0:Rc 1 208 (cs1 a33) ⟨qJa 0 [.map 0] .nil,Tr.nil.put 0 (some (qZo U)),1,[]⟩ .normal (st [(0,.map 0)] [(0,qZo U)] 1 []):=rg0 [] ⟨[0],[0],1,[]⟩ (qQv U)
theorem p33_1:Rc 1 208 (cs1 (cs2 a33)) (st [(0,.map 0)] [(0,qZo U)] 1 []) .normal (zGn U):=rg0 [] ⟨[0,3],[0],1,[]⟩ (qQv U)
theorem zGo:Rc 1 208 (cs2 (cs2 (cs2 a33))) (zVh (qZo U) S) .ret (st [(2,.pv (zDx S))] [(0,qZo U)] 3 []):=by
 cases S with
 | nil=>exact rg0 [] ⟨[2],[0],3,[]⟩ (qQv U)
 | cons x S=>exact rg0 [] ⟨[2],[0],3,[]⟩ (qQv U)
theorem zXq (hU:qDx U S):Rc 1 208 a33 ⟨qJa 0 [.map 0] .nil,Tr.nil.put 0 (some (qZo U)),1,[]⟩ .ret (st [(2,.pv (zDx S))] [(0,qZo U)] 3 []):=by
 rw [zLw]
 exact p33_0.seq (p33_1.seq ((zCi hU).seq zGo))
theorem zCj (hU:qDx U S):O 208 [.map 0] [(0,qZo U)] (.pv (qQk S)) [(0,qZo U)]:=by
 obtain⟨ro,o1,hC⟩:=qAj (s:=⟨.nil,obL [(0,qZo U)] .nil,1,[]⟩) (qBy (zXq hU)) qDo (f:=208) (fn:=fnc 208) (c:=a33) (by kernel_rfl) (by kernel_rfl) (args:=[.map 0]) (by rw [zGg];decide) (qMs U 1 rfl) (r:=⟨.pv (zDx S),[],[],3⟩) (by
  unfold qDj zX7
  simp only [and_self,if_true]
  cases S<;>kernel_rfl)
 have h:=qSt (objs:=[(0,qZo U)]) (by kernel_rfl) (by kernel_rfl) hC
 rw [← zL0 S]
 exact AC.wO 4 h
end
end Go.Proofs.YtgleiiajjamgpaaGreatDoor
namespace Go.Lg
theorem qSv {ev:qVk} {P:Program} {f m nx:Nat} {args:List V} {objs ch:List (Nat × Ob)} {ks:List Nat} {y:V} {ro o1:List (Nat × Ob)} (hd:qP1 (qJ0 objs)=true) (hk:zWp (qJ0 objs) ks=true) (hn:qP1 (qJ0 ch)=true)
  (hC:Called P ev.gl ⟨.nil,obL objs .nil,m,[]⟩ f args ⟨y,ch,[],nx⟩ ks ro o1):AC P ev.gl f args objs (.ret y) (zX6 ch objs):=by
 have hd:=qK2 hd
 rw [qZn] at hd
 have hk:=qBw hk
 rw [qZn] at hk
 have hn:=qK2 hn
 rw [qZn] at hn
 have hs0:∀ k,(obL objs .nil).get k=qQc objs k:=fun k=>by
  rw [qE0 objs _ hd]
  cases qQc objs k<;>rfl
 have hsub:∀ p∈ro++o1,qQc objs p.1=some p.2:=fun p hp=>by rw [← hs0];exact hC.subs p hp
 have hget:∀ k,qQc (ro++o1) k=qQc objs k:=by
  intro k
  cases e:qQc (ro++o1) k with
  | some o=>exact (hsub (k,o) (qJ7 e)).symm
  | none =>
   cases e2:qQc objs k with
   | none=>rfl
   | some o =>
    have h1:=hC.all k (hk k (getO_iff.2 (by rw [e2];rfl)))
    rw [getO_iff,e] at h1
    cases h1
 refine AC.cong hC.ac hget (fun k => ?_) (fun k hk => ?_)
 ·rw [qE1,← hget,List.append_nil,qXq,qXq]
  cases e:qQc ro k with
  | some o =>
   have h1:=(hC.apart k (getO_iff.2 (by rw [e];rfl))).2
   have h2:qQc ch k=none:=by
    cases e2:qQc ch k with
    | none=>rfl
    | some o=>exact absurd (by simpa using getO_iff.2 (by rw [e2];rfl)) h1
   simp only [Option.map_some,qXp,h2]
  | none =>
   simp only
   cases e2:qQc o1 k with
   | some o =>
    have h1:=hC.inch k (getO_iff.2 (by rw [e2];rfl))
    obtain⟨o',ho'⟩:=Option.isSome_iff_exists.1 (getO_iff.1 h1)
    have ho':qQc ch k=some o':=ho'
    simp only [Option.map_some,qXp,ho']
   | none =>
    cases e3:qQc ch k with
    | none=>rfl
    | some o =>
     have h1:=(hC.chs k (getO_iff.2 (by rw [e3];rfl))).2.2
     rw [getO_iff,e2] at h1
     cases h1
 ·obtain⟨p,hp,hkp⟩:=mem_mentO.1 hk
  exact mem_mentO.2 ⟨p,qJ7 (hsub p hp),hkp⟩
end Go.Lg
namespace Go.Proofs.YtgleiiajjamgpaaGreatDoor
open Go.Lg
set_option maxRecDepth 100000
def qAq:List Nat→Nat→List Nat
 | [],n=>[n]
 | m::U,n=>if n=m then m::U else m::qAq U n
theorem mem_ins1:∀ {U:List Nat} {n x:Nat},x∈qAq U n↔x=n∨x∈U
 | [],n,x=>by simp [qAq]
 | m::U,n,x=>by
  unfold qAq
  split
  ·rename_i e;subst e;simp
  ·rw [List.mem_cons,mem_ins1 (U:=U),List.mem_cons];constructor<;>(rintro (h|h|h)<;>simp [h])
theorem qLd:∀ {U:List Nat} {n:Nat},U.Nodup→(qAq U n).Nodup
 | [],n,_=>by simp [qAq]
 | m::U,n,h=>by
  obtain⟨h1,h2⟩:=List.nodup_cons.1 h
  unfold qAq
  split
  ·exact h
  ·rename_i e
   exact List.nodup_cons.2 ⟨fun hm=>(mem_ins1.1 hm).elim (fun h=>e h.symm) h1,qLd h2⟩
theorem qFm:∀ (U:List Nat) (n:Nat),(qAq U n).length≤U.length+1
 | [],n=>by simp [qAq]
 | m::U,n=>by
  unfold qAq
  split
  ·simp
  ·have:=qFm U n;simp;omega
theorem qSw:∀ (U:List Nat) (n:Nat),qFs (se U) (.int (.ofNat n)) (.pv (.bool true))=se (qAq U n)
 | [],n=>rfl
 | m::U,n=>by
  show (bif SK.eqB (.int (.ofNat n)) (.int (.ofNat m)) then _::se U else _::qFs (se U) _ _)=_
  unfold qAq
  by_cases e:n=m
  ·subst e
   rw [(SK.eqB_iff _ _).2 rfl,if_pos rfl]
   rfl
  ·rw [if_neg e]
   have:SK.eqB (.int (.ofNat n)) (.int (.ofNat m))=false:=by
    cases h:SK.eqB (.int (.ofNat n)) (.int (.ofNat m)) with
    | false=>rfl
    | true=>have:=(SK.eqB_iff _ _).1 h;injection this with h;exact absurd (Int.ofNat.inj h) e
   rw [this,cond_false,qSw U n]
   rfl
theorem qSx (k:Nat) (U:List Nat) (n:Nat):some (⟨.undef,some (k,.smap false (qFs (se U) (.int (.ofNat n)) (.pv (.bool true)))),false⟩:RB)=some ⟨.undef,some (k,qZo (qAq U n)),false⟩:=by rw [qSw]
def qJe:Tm→Nat→List Nat→List Nat
 | .v i,c,U=>if c≤i then qAq U (i-c) else U
 | .lam _ b,c,U=>qJe b (c+1) U
 | .n0 _,_,U=>U
 | .n1 _ a,c,U=>qJe a c U
 | .n2 _ a b,c,U=>qJe b c (qJe a c U)
 | .n3 _ _ a b d,c,U=>qJe d c (qJe b c (qJe a c U))
noncomputable def b32:Code:=match (fnc 295).body with
 | some c=>c
 | none => .skip
abbrev zL1 (t:Tm) (c:Nat) (U:List Nat):IS:=⟨qJa 0 [.pv t.p,.pv (num c),.map 0] .nil,Tr.nil.put 0 (some (qZo U)),1,[]⟩
theorem o32 {t:Tm} {c:Nat} {U U':List Nat} (h:Rc 1 295 b32 (zL1 t c U) .normal (st [] [(0,qZo U')] 2 [0])):O 295 [.pv t.p,.pv (num c),.map 0] [(0,qZo U)] (.pv (.tuple [])) [(0,qZo U')]:=by
 obtain⟨ro,o1,hC⟩:=qAj (s:=⟨.nil,obL [(0,qZo U)] .nil,1,[]⟩) (qBy h) qDo (f:=295) (fn:=fnc 295) (c:=b32) (by kernel_rfl) (by kernel_rfl) (args:=[.pv t.p,.pv (num c),.map 0]) (Nat.le_of_ble_eq_true (show Nat.ble 3 (fnc 295).ntmps=true by kernel_rfl)) (qMs U 1 rfl) (r:=⟨.pv (.tuple []),[(0,qZo U')],[],2⟩) (by
  unfold qDj zX7
  simp only [and_self,if_true]
  have e:zX4 ev.T 1 (Tr.nil.put 0 (some (qZo U))) (fnc 295).results.toList .normal (st [] [(0,qZo U')] 2 [0])=(match qYp 1 2 (Tr.nil.put 0 (some (qZo U))) (obL [(0,qZo U')] .nil) 1000000 (qZd (se U')++[]) .nil [] with
   | some nw=>some ⟨.pv (.tuple []),[(0,qZo U')],nw,2⟩
   | none=>none):=by kernel_rfl
  refine e.trans ?_
  rw [qQv]
  rfl)
 exact AC.wO 4 (qSv (objs:=[(0,qZo U)]) (by kernel_rfl) (by kernel_rfl) (by kernel_rfl) hC)
theorem ad0 {c:Nat} (h:c≤mid):inB (Int.ofNat c+0)=true∧Int.ofNat c+0 = .ofNat c:=⟨by rw [Int.add_zero];exact inN (by have:=qQd;omega),Int.add_zero _⟩
theorem ad1 {c:Nat} (h:c+1≤mid):inB (Int.ofNat c+1)=true∧Int.ofNat c+1 = .ofNat (c+1):=⟨inN (n:=c+1) (by have:=qQd;omega),rfl⟩
theorem sbc {i c:Nat} (h:c≤i) (hi:i≤mid * mid):inB (Int.ofNat i-Int.ofNat c)=true∧Int.ofNat i-Int.ofNat c = .ofNat (i-c):=by
 have e:Int.ofNat i-Int.ofNat c = .ofNat (i-c):=by simp;omega
 exact⟨by rw [e];exact inN (by have e2:mid * mid=1125899906842624:=rfl;omega),e⟩
abbrev k32:Kp:=⟨[],[0],2,[0]⟩
theorem a32:∀ (t:Tm) (c:Nat) (U:List Nat),c+t.cnt≤mid→t.mx≤mid * mid→O 295 [.pv t.p,.pv (num c),.map 0] [(0,qZo U)] (.pv (.tuple [])) [(0,qZo (qJe t c U))]
 | .v i,c,U,h1,h2=>by
  unfold qJe
  by_cases h:c≤i
  ·rw [if_pos h]
   exact o32 (rg3 [(15,.G),(21,.z (i-c)),(99999,.w ⟨.undef,some (0,qZo (qAq U (i-c))),false⟩)] k32 (show (!ltI (.ofNat i) (.ofNat c))=true by rw [qZ7 h];rfl) (sbc h h2) (qSx 0 U (i-c)) (qQv (qAq U (i-c))))
  ·rw [if_neg h]
   exact o32 (rg1 [(15,.H)] k32 (show (!ltI (.ofNat i) (.ofNat c))=false by rw [qQ6 (by omega)];rfl) (qQv U))
 | .n0 k,c,U,h1,h2=>by cases k<;>exact o32 (rg0 [] k32 (qQv U))
 | .lam s b,c,U,h1,h2=>by
  simp only [Tm.cnt] at h1
  have g:=a32 b (c+1) U (by omega) h2
  exact o32 (rg2 [(33,.z (c+1)),(35,.d 0 (qZo (qJe b (c+1) U)) (.pv (.tuple [])))] k32 (ad1 (c:=c) (by omega)) g (qQv (qJe b (c+1) U)))
 | .n1 k a,c,U,h1,h2=>by
  simp only [Tm.cnt] at h1
  have g:=a32 a c U (by omega) h2
  cases k<;>exact o32 (rg2 [(33,.z c),(35,.d 0 (qZo (qJe a c U)) (.pv (.tuple [])))] k32 (ad0 (c:=c) (by omega)) g (qQv (qJe a c U)))
 | .n2 k a b,c,U,h1,h2=>by
  simp only [Tm.cnt] at h1
  simp only [Tm.mx] at h2
  have g:=a32 a c U (by omega) (by omega)
  have g':=a32 b c (qJe a c U) (by omega) (by omega)
  cases k<;>exact o32 (rg4 [(33,.z c),(35,.d 0 (qZo (qJe a c U)) (.pv (.tuple []))),(33,.z c),(35,.d 0 (qZo (qJe b c (qJe a c U))) (.pv (.tuple [])))] k32 (ad0 (c:=c) (by omega)) g (ad0 (c:=c) (by omega)) g' (qQv (qJe b c (qJe a c U))))
 | .n3 k s a b d,c,U,h1,h2=>by
  simp only [Tm.cnt] at h1
  simp only [Tm.mx] at h2
  have g:=a32 a c U (by omega) (by omega)
  have g':=a32 b c (qJe a c U) (by omega) (by omega)
  have g'':=a32 d c (qJe b c (qJe a c U)) (by omega) (by omega)
  cases k<;>exact o32 (rg6 [(33,.z c),(35,.d 0 (qZo (qJe a c U)) (.pv (.tuple []))),(33,.z c),(35,.d 0 (qZo (qJe b c (qJe a c U))) (.pv (.tuple []))),(33,.z c),(35,.d 0 (qZo (qJe d c (qJe b c (qJe a c U)))) (.pv (.tuple [])))] k32 (ad0 (c:=c) (by omega)) g (ad0 (c:=c) (by omega)) g' (ad0 (c:=c) (by omega)) g'' (qQv (qJe d c (qJe b c (qJe a c U)))))
end Go.Proofs.YtgleiiajjamgpaaGreatDoor
namespace Go.Proofs.YtgleiiajjamgpaaGreatDoor
open Go.Lg
set_option maxRecDepth 100000
theorem zVi (n:Nat):∀ {S:List Nat},Asc S→n ∉ S→∃ S',Asc S'∧(∀ x,x∈S'↔x=n∨x∈S)∧S'.length=S.length+1
 | [],_,_=>⟨[n],List.pairwise_singleton _ _,fun x=>by simp,rfl⟩
 | y::S,h,hn=>by
  obtain⟨a,b⟩:=List.pairwise_cons.1 h
  have hy:n≠y:=fun e=>hn (e ▸ List.mem_cons_self ..)
  by_cases c:n<y
  ·refine⟨n::y::S,List.pairwise_cons.2 ⟨fun x hx => ?_,h⟩,fun x=>List.mem_cons,rfl⟩
   rcases List.mem_cons.1 hx with rfl|hx
   ·exact c
   ·have:=a x hx;omega
  ·obtain⟨S',h1,h2,h3⟩:=zVi n b (fun h=>hn (List.mem_cons_of_mem _ h))
   refine⟨y::S',List.pairwise_cons.2 ⟨fun x hx => ?_,h1⟩,fun x => ?_,by simp [h3]⟩
   ·rcases (h2 x).1 hx with rfl|hx
    ·omega
    ·exact a x hx
   ·rw [List.mem_cons,h2,List.mem_cons];constructor<;>(rintro (h|h|h)<;>simp [h])
theorem qSy:∀ {U:List Nat},U.Nodup→∃ S,Asc S∧(∀ x,x∈S↔x∈U)∧S.length=U.length
 | [],_=>⟨[],List.Pairwise.nil,fun _=>Iff.rfl,rfl⟩
 | n::U,h=>by
  obtain⟨h1,h2⟩:=List.nodup_cons.1 h
  obtain⟨S,a,b,c⟩:=qSy h2
  obtain⟨S',a',b',c'⟩:=zVi n a (fun h=>h1 ((b n).1 h))
  exact⟨S',a',fun x=>by rw [b',b,List.mem_cons],by rw [c',c];rfl⟩
theorem qHl {U:List Nat} (h:U.Nodup) (hl:U.length≤8589934592):∃ S,qDx U S∧S.length=U.length:=by
 obtain⟨S,a,b,c⟩:=qSy h
 exact⟨S,⟨h,a,b,by omega⟩,c⟩
theorem qYx:∀ (t:Tm) (c:Nat) (U:List Nat) (x:Nat),x∈qJe t c U↔x∈U∨t.occ (c+x)≠0
 | .v i,c,U,x=>by
  simp only [qJe,Tm.occ]
  split
  ·rw [mem_ins1]
   split
   ·simp;left;omega
   ·simp;omega
  ·split
   ·omega
   ·simp
 | .n0 k,c,U,x=>by simp [qJe,Tm.occ]
 | .lam s b,c,U,x=>by simp only [qJe,Tm.occ];rw [qYx b,show c+1+x=c+x+1 by omega]
 | .n1 k a,c,U,x=>by simp only [qJe,Tm.occ];exact qYx a c U x
 | .n2 k a b,c,U,x=>by simp only [qJe,Tm.occ];rw [qYx b,qYx a];constructor<;>(intro h;by_cases h1:x∈U<;>simp_all<;>omega)
 | .n3 k s a b d,c,U,x=>by simp only [qJe,Tm.occ];rw [qYx d,qYx b,qYx a];constructor<;>(intro h;by_cases h1:x∈U<;>simp_all<;>omega)
theorem qHm:∀ (t:Tm) (c:Nat) {U:List Nat},U.Nodup→(qJe t c U).Nodup
 | .v i,c,U,h=>by
  unfold qJe
  split
  ·exact qLd h
  ·exact h
 | .n0 k,c,U,h=>h
 | .lam s b,c,U,h=>qHm b (c+1) h
 | .n1 k a,c,U,h=>qHm a c h
 | .n2 k a b,c,U,h=>qHm b c (qHm a c h)
 | .n3 k s a b d,c,U,h=>qHm d c (qHm b c (qHm a c h))
theorem qYy:∀ (t:Tm) (c:Nat) (U:List Nat),(qJe t c U).length≤U.length+t.cnt
 | .v i,c,U=>by
  simp only [qJe,Tm.cnt]
  split
  ·exact qFm U _
  ·omega
 | .n0 k,c,U=>by simp [qJe]
 | .lam s b,c,U=>by have:=qYy b (c+1) U;simp only [qJe,Tm.cnt];omega
 | .n1 k a,c,U=>by have:=qYy a c U;simp only [qJe,Tm.cnt];omega
 | .n2 k a b,c,U=>by have:=qYy a c U;have:=qYy b c (qJe a c U);simp only [qJe,Tm.cnt];omega
 | .n3 k s a b d,c,U=>by have:=qYy a c U;have:=qYy b c (qJe a c U);have:=qYy d c (qJe b c (qJe a c U));simp only [qJe,Tm.cnt];omega
theorem qW5:∀ (t:Tm) (v:Nat),t.occ v≠0→v≤t.mx
 | .v i,v,h=>by simp only [Tm.occ] at h;simp only [Tm.mx];split at h<;>omega
 | .n0 k,v,h=>absurd rfl h
 | .lam s b,v,h=>by have:=qW5 b (v+1) h;simp only [Tm.mx];omega
 | .n1 k a,v,h=>qW5 a v h
 | .n2 k a b,v,h=>by
  simp only [Tm.occ] at h
  simp only [Tm.mx]
  by_cases h1:a.occ v=0
  ·have:=qW5 b v (by omega);omega
  ·have:=qW5 a v h1;omega
 | .n3 k s a b d,v,h=>by
  simp only [Tm.occ] at h
  simp only [Tm.mx]
  by_cases h1:a.occ v=0
  ·by_cases h2:b.occ v=0
   ·have:=qW5 d v (by omega);omega
   ·have:=qW5 b v h2;omega
  ·have:=qW5 a v h1;omega
def zVj:Nat→Nat
 | 0=>1
 | 1=>0
 | n=>n
theorem zVk:∀ n,zVj (zVj n)=n
 | 0=>rfl
 | 1=>rfl
 | _+2=>rfl
theorem zVl (ρ:Nat→Nat):∀ U:List Nat,qTx ρ (se U)=se U
 | []=>rfl
 | n::U=>by show (_,_)::qTx ρ (se U)=_::se U;rw [zVl ρ U];rfl
theorem zVm (U:List Nat):(qZo U).ren zVj=qZo U:=by show Ob.smap false (qTx zVj (se U))=_;rw [zVl]
theorem zGp (t:Tm) (h1:t.cnt≤mid) (h2:t.mx≤mid * mid):O 295 [.pv t.p,.pv (num 0),.map 1] [(1,.smap false [])] (.pv (.tuple [])) [(1,qZo (qJe t 0 []))]:=by
 have h:=AC.ren zVk (a32 t 0 [] (by omega) h2)
 have e:qIh zVj [(0,qZo (qJe t 0 []))]=[(1,qZo (qJe t 0 []))]:=by show [(1,(qZo _).ren zVj)]=_;rw [zVm]
 rw [e] at h
 exact h
theorem zGq {U S:List Nat} (h:qDx U S):O 208 [.map 1] [(1,qZo U)] (.pv (qQk S)) [(1,qZo U)]:=by
 have h:=AC.ren zVk (zCj h)
 have e:qIh zVj [(0,qZo U)]=[(1,qZo U)]:=by show [(1,(qZo _).ren zVj)]=_;rw [zVm]
 rw [e] at h
 exact h
theorem a13 (t:Tm) (h1:t.cnt≤mid) (h2:t.tsz≤big) (h3:t.mx≤mid * mid):∃ u:List Nat,A 268 [t.p] (.tuple [qQk u,num t.chk])∧(t.chk=0→∀ v,v∈u↔t.occ v≠0)∧(t.chk≠0→u=[])∧u.length≤t.cnt∧Asc u:=by
 have hm:=qQd
 have hbb:=qQi
 have g1:=a31 t h2 (by omega)
 cases e:t.chk with
 | succ k =>
  rw [e] at g1
  exact⟨[],f2 [(7,.N (k+1)),(9,.G)] g1 (qB0 (m:=k+1) (n:=0) (by omega)),fun h=>(by cases h),fun _=>rfl,Nat.zero_le _,.nil⟩
 | zero =>
  rw [e] at g1
  have hl:=qYy t 0 []
  obtain⟨S,h,h'⟩:=qHl (qHm t 0 (U:=[]) List.nodup_nil) (by simp at hl;omega)
  refine⟨S,f3 [(7,.N 0),(14,.d 1 (qZo (qJe t 0 [])) (.pv (.tuple []))),(16,.o [1] [] (.pv (qQk S)))] g1 (zGp t h1 h3) (zGq h),fun _ v => ?_,fun h=>absurd rfl h,by simp at hl;omega,h.asc⟩
  rw [h.mem,qYx,Nat.zero_add]
  simp
def qHs (U:List Nat):List Nat→List Nat
 | []=>U
 | x::r=>qHs (qAq U x) r
theorem qFn:∀ (r U:List Nat) (x:Nat),x∈qHs U r↔x∈U∨x∈r
 | [],U,x=>by simp [qHs]
 | y::r,U,x=>by simp only [qHs];rw [qFn r,mem_ins1,List.mem_cons];exact⟨fun h=>h.elim (fun h=>h.elim (fun h => .inr (.inl h)) .inl) (fun h => .inr (.inr h)),fun h=>h.elim (fun h => .inl (.inr h)) (fun h=>h.elim (fun h => .inl (.inl h)) .inr)⟩
theorem qLe:∀ (r:List Nat) {U:List Nat},U.Nodup→(qHs U r).Nodup
 | [],_,h=>h
 | y::r,_,h=>qLe r (qLd h)
theorem qFo:∀ (r U:List Nat),(qHs U r).length≤U.length+r.length
 | [],U=>by simp [qHs]
 | y::r,U=>by have:=qFo r (qAq U y);have:=qFm U y;simp only [qHs,List.length_cons];omega
abbrev zGr (a b:List Nat) (k:Nat):List (Nat × V):=[(1,.pv (qQk b)),(5,.map 0),(11,.pv (qQk a)),(12,.pv (num (a.map ic).length)),(13,.pv (num k))]
abbrev zGs (b:List Nat) (k:Nat):List (Nat × V):=[(5,.map 0),(20,.pv (qQk b)),(21,.pv (num (b.map ic).length)),(22,.pv (num k))]
theorem qMt (a b:List Nat) (hl:a.length≤mid):∀ (r:List Nat) (k:Nat) (U:List Nat),a.drop k=r →
  Lp 143 0 0 (st (zGr a b k) [(0,qZo U)] 1 []) (.exit 0) (st [(1,.pv (qQk b)),(5,.map 0)] [(0,qZo (qHs U r))] 1 [])
 | [],k,U,h=>by
  have e:ltI (.ofNat k) (.ofNat (a.map ic).length)=false:=qZ7 (by simpa using qVu h)
  exact y1 [(14,.H)] ⟨[1,5],[0],1,[]⟩ e (qQv U)
 | x::r,k,U,h=>by
  have hm:=qQd
  obtain⟨d1,d2,d3⟩:=qVt h
  have e:ltI (.ofNat k) (.ofNat (a.map ic).length)=true:=qQ6 (by simpa using d2)
  have g3:=inN (show k+1≤_ by omega)
  have ih:=qMt a b hl r (k+1) (qAq U x) d3
  exact n6 [(14,.G),(15,.i (ic x)),(99999,.w ⟨.undef,some (0,qZo (qAq U x)),false⟩),(19,.ok)] ⟨[1,5,11,12,13],[0],1,[]⟩ e (qQm d1 qWz) (qSx 0 U x) g3 (qQv (qAq U x)) ih
theorem qMu (b:List Nat) (hl:b.length≤mid):∀ (r:List Nat) (k:Nat) (U:List Nat),b.drop k=r →
  Lp 143 1 0 (st (zGs b k) [(0,qZo U)] 1 []) (.exit 2) (st [(5,.map 0)] [(0,qZo (qHs U r))] 1 [])
 | [],k,U,h=>by
  have e:ltI (.ofNat k) (.ofNat (b.map ic).length)=false:=qZ7 (by simpa using qVu h)
  exact y1 [(23,.H)] ⟨[5],[0],1,[]⟩ e (qQv U)
 | x::r,k,U,h=>by
  have hm:=qQd
  obtain⟨d1,d2,d3⟩:=qVt h
  have e:ltI (.ofNat k) (.ofNat (b.map ic).length)=true:=qQ6 (by simpa using d2)
  have g3:=inN (show k+1≤_ by omega)
  have ih:=qMu b hl r (k+1) (qAq U x) d3
  exact n6 [(23,.G),(24,.i (ic x)),(99999,.w ⟨.undef,some (0,qZo (qAq U x)),false⟩),(28,.ok)] ⟨[5,20,21,22],[0],1,[]⟩ e (qQm d1 qWz) (qSx 0 U x) g3 (qQv (qAq U x)) ih
theorem zL2 (a b:List Nat) (ha:a.length≤mid) (hb:b.length≤mid):∃ u:List Nat,A 143 [qQk a,qQk b] (qQk u)∧(∀ v,v∈u↔v∈a∨v∈b)∧u.length≤a.length+b.length∧Asc u:=by
 have hm:=qQd
 have h1:=qFo a []
 have h2:=qFo b (qHs [] a)
 obtain⟨S,h,h'⟩:=qHl (qLe b (qLe a (U:=[]) List.nodup_nil)) (by simp at h1;omega)
 have l1:=qMt a b ha a 0 [] rfl
 have l2:=qMu b hb b 0 (qHs [] a) rfl
 refine⟨S,fk [(100003,.l ⟨[1,5,11,12,13],[0],1,[]⟩ (.exit 0) (st [(1,.pv (qQk b)),(5,.map 0)] [(0,qZo (qHs [] a))] 1 [])),(100008,.l ⟨[5,20,21,22],[0],1,[]⟩ (.exit 2) (st [(5,.map 0)] [(0,qZo (qHs (qHs [] a) b))] 1 [])),(30,.o [0] [] (.pv (qQk S)))] (And.intro (qQv []) (And.intro l1 (And.intro (qQv (qHs [] a)) (And.intro l2 (And.intro (zCj h) (rfl:qQk S=qQk S)))))),fun v => ?_,by simp at h1;omega,h.asc⟩
 rw [h.mem,qFn,qFn]
 simp
theorem zCk:MF where
 uses t h1 h2 h3:=by
  have hm:=qQd
  obtain⟨u,g1,g2,g3,g4,g5⟩:=a13 t h1 (by have:=qQi;omega) h3
  refine⟨u,t.chk,g1,fun h=>⟨h,fun v hv=>(g2 h v).2 hv⟩,fun x hx => ?_,g4,g5⟩
  by_cases e:t.chk=0
  ·exact qW5 t x ((g2 e x).1 hx)
  ·rw [g3 e] at hx;cases hx
 union a b h1 h2 h3:=by
  obtain⟨u,g1,g2,g3,g4⟩:=zL2 a b (by omega) (by omega)
  exact⟨u,g1,fun v hv=>(g2 v).2 hv,fun v hv=>(g2 v).1 hv,g3,g4⟩
theorem qHn (z:Int):∀ (t:Tm) (n c:Nat),t.sc n→n≤c→t.sh c z=t
 | .v i,n,c,h,hc=>by
  have h:i<n:=h
  simp only [Tm.sh]
  rw [if_neg (by omega)]
 | .lam s b,n,c,h,hc=>by simp only [Tm.sh];rw [qHn z b (n+1) (c+1) h (by omega)]
 | .n0 _,_,_,_,_=>rfl
 | .n1 _ a,n,c,h,hc=>by simp only [Tm.sh];rw [qHn z a n c h hc]
 | .n2 _ a b,n,c,h,hc=>by simp only [Tm.sh];rw [qHn z a n c h.1 hc,qHn z b n c h.2 hc]
 | .n3 _ _ a b d,n,c,h,hc=>by simp only [Tm.sh];rw [qHn z a n c h.1 hc,qHn z b n c h.2.1 hc,qHn z d n c h.2.2 hc]
theorem l12 {t:Tm} (h:TK 0 t):A 12 [t.p,num 0] (.tuple [t.p,num 0]):=by
 have hm:=qQd
 have hb:=qQi
 have c:=h.cnt
 have c2:=qZy t h.shp
 have c3:=h.mx (Nat.zero_le _)
 have e2:mid * mid=1125899906842624:=rfl
 have g1:=a31 t (by omega) (by omega)
 rw [h.chk] at g1
 obtain⟨r,g2,q⟩:=qTc t 0 (by omega)
 have er:r=false:=by
  cases r with
  | false=>rfl
  | true=>exact absurd (qHe h.sc (q.1 rfl)) (Nat.not_lt_zero 0)
 subst er
 have g3:=qNv t 1 (-1) (by decide) (by omega) (by omega) (by omega)
 rw [qHn (-1) t 0 1 h.sc (by omega)] at g3
 exact f4 [(8,.N 0),(22,.F),(27,.r t.p),(28,.r t.p)] g1 g2 g3 (a65 t)
abbrev kU:Kp:=⟨[4,5,7,44,45,46],[1,2],4,[]⟩
abbrev sU (t:Ty) (p:Pf) (us:List Nat) (b:Bool) (k:Nat):IS:=st [(4,.loc 1 0),(5,.loc 2 0),(7,.pv (.bool b)),(44,.pv (qQk us)),(45,.pv (num (us.map ic).length)),(46,.pv (num k))] [(1,bx t.c),(2,bx p.c)] 4 []
abbrev eU (t:Ty) (p:Pf) (b:Bool):IS:=st [(4,.loc 1 0),(5,.loc 2 0),(7,.pv (.bool b))] [(1,bx t.c),(2,bx p.c)] 4 []
theorem qSz (t:Ty) (p:Pf) {us:List Nat} (hl:us.length≤mid):∀ (r:List Nat) (k:Nat) (b:Bool),us.drop k=r→Lp 3 0 0 (sU t p us b k) (.exit 0) (eU t p (b && r.all fun x => !Nat.beq x 0))
 | [],k,b,h=>by
  have e:ltI (.ofNat k) (.ofNat (us.map ic).length)=false:=qZ7 (by simpa using qVu h)
  rw [List.all_nil,Bool.and_true]
  exact x1 [(47,.H)] ⟨[4,5,7],[1,2],4,[]⟩ e
 | x::r,k,b,h=>by
  have hm:=qQd
  obtain⟨d1,d2,d3⟩:=qVt h
  have e:ltI (.ofNat k) (.ofNat (us.map ic).length)=true:=qQ6 (by simpa using d2)
  have g3:=inN (show k+1≤_ by omega)
  rw [List.all_cons]
  cases b
  ·have ih:=qSz t p hl r (k+1) false d3
   exact n4 [(47,.G),(48,.i (ic x)),(55,.ok)] kU e (qQm d1 qWz) g3 ih
  ·by_cases c:x=0
   ·subst c
    have ih:=qSz t p hl r (k+1) false d3
    exact n5 [(47,.G),(48,.i (ic 0)),(53,.H),(55,.ok)] kU e (qQm d1 qWz) (qWw 0) g3 ih
   ·have ih:=qSz t p hl r (k+1) true d3
    have ec:Nat.beq x 0=false:=by cases x with
     | zero=>exact absurd rfl c
     | succ x=>rfl
    rw [ec]
    exact n5 [(47,.G),(48,.i (ic x)),(53,.G),(55,.ok)] kU e (qQm d1 qWz) (qB0 c) g3 ih
theorem zCl {u:List Nat} (h:(u.all fun x => !Nat.beq x 0)=true):0 ∉ u:=fun k=>by
 have:=List.all_eq_true.1 h 0 k
 cases this
theorem l9z:A 9 [.agg [num 0,num 0,.slice [],.slice [],.slice []]] (.tuple [.bool false,num 2]):=f0 []
theorem zXr (H:MF) (hA:A 4 [] (.bool true)) {L:List Int} (hr:∀ z∈L,-9223372036854775808≤z∧z≤9223372036854775807):A 3 [.slice (L.map zc1)] (.bool true):=by
 have hm:=qQd
 have hbg:=qQi
 have gf:=a5 L
 by_cases hlen:L.length≤500
 rotate_left
 ·rw [decide_eq_false hlen] at gf
  exact f3 [(17,.T),(21,.F),(24,.T)] hA gf hA
 rw [decide_eq_true hlen] at gf
 have hL:Dk L:=⟨hlen,hr⟩
 obtain⟨t,b1,ht,hb1,g1⟩:=a37 hL 1 (by omega) (a:=0) (Nat.zero_le _)
 have ht:t.size≤3:=ht
 have hS:S19 M20 [] [t] []:=⟨by simp,by simp,by simp,by simpa using ht,by simp,by simp,Nat.le_refl _⟩
 obtain⟨p,r,b2,hr3,qp,qr,hb2,g2⟩:=a9 H hL hS hb1
 cases r with
 | er n =>
  have g4:=qSz t p (us:=[]) (Nat.zero_le _) [] 0 false rfl
  exact f6 [(17,.T),(21,.T),(28,.D L b1 (.pv t.p)),(34,.D L b2 (.pv (.tuple [p.p,(PR.er n).v]))),(40,.U [.bool false,num 2]),(100008,.l kU (.exit 0) (eU t p false))] hA gf g1 g2 l9z g4
 | ok f u =>
  obtain⟨-,hc,hp,⟨j,rfl,rfl,hD,hus⟩,hul⟩:=qr f u rfl
  have hk:=qRy hD
  have c1:=Fm.chk0 hk
  obtain⟨b,e,g3,q3⟩:=a85 j.f (by have:=qJo j.f c1.2;omega) (by omega)
  obtain⟨rfl,rfl⟩:=q3 hk
  have g4:=qSz t j.p (us:=u) (by omega) u 0 j.f.has rfl
  cases hs:(j.f.has && u.all fun x => !Nat.beq x 0)
  ·rw [hs] at g4
   exact f6 [(17,.T),(21,.T),(28,.D L b1 (.pv t.p)),(34,.D L b2 (.pv (.tuple [j.p.p,(PR.ok j.f u).v]))),(40,.U [.bool j.f.has,num 0]),(100008,.l kU (.exit 0) (eU t j.p false))] hA gf g1 g2 g3 g4
  ·rw [hs] at g4
   obtain⟨hf,hu⟩:=qZu hs
   have hu0:¬j.us 0:=fun k=>zCl hu (hus 0 k)
   have hgs:∀ s∈[t],s.size≤64:=by simp;omega
   obtain⟨r1,g5,q5⟩:=a10 [t] (by simp) hgs j hD hc hp hf
   obtain⟨r2,g6,q6⟩:=zXk (by omega) j hD hu0 hc hp hf
   rw [zB5 (by omega) (a23 [t] (by simp) hgs j hD hc hp).2 hu0 hf] at q6
   cases r1 with
   | er x n =>
    have q5:n=3:=q5
    subst q5
    exact f8 [(17,.T),(21,.T),(28,.D L b1 (.pv t.p)),(34,.D L b2 (.pv (.tuple [j.p.p,(PR.ok j.f u).v]))),(40,.U [.bool j.f.has,num 0]),(100008,.l kU (.exit 0) (eU t j.p true)),(63,.r (XR.er x 3).p),(72,.r r2.p)] hA gf g1 g2 g3 g4 g5 g6
   | ok t1=>cases r2 with
    | er x n =>
     have q6:n=3:=q6
     subst q6
     exact f8 [(17,.T),(21,.T),(28,.D L b1 (.pv t.p)),(34,.D L b2 (.pv (.tuple [j.p.p,(PR.ok j.f u).v]))),(40,.U [.bool j.f.has,num 0]),(100008,.l kU (.exit 0) (eU t j.p true)),(63,.r (XR.ok t1).p),(72,.r (XR.er x 3).p)] hA gf g1 g2 g3 g4 g5 g6
    | ok t2 =>
     obtain⟨-,e1⟩:=q5
     obtain⟨k2,e2⟩:=q6
     have e3:t2=t1:=e2.trans e1.symm
     subst e3
     obtain⟨w,g8,q8⟩:=qS9 t2 t2
     rw [q8.2 rfl] at g8
     exact f10 [(17,.T),(21,.T),(28,.D L b1 (.pv t.p)),(34,.D L b2 (.pv (.tuple [j.p.p,(PR.ok j.f u).v]))),(40,.U [.bool j.f.has,num 0]),(100008,.l kU (.exit 0) (eU t j.p true)),(63,.r (XR.ok t2).p),(72,.r (XR.ok t2).p),(89,.U [t2.p,num 0]),(97,.T)] hA gf g1 g2 g3 g4 g5 g6 (l12 k2) g8
end Go.Proofs.YtgleiiajjamgpaaGreatDoor
