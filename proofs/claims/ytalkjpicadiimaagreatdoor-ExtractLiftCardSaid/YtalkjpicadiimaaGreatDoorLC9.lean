/- Contracts of functions; no conditions. -/
import Derived.Test.YtalkjpicadiimaaGreatDoorLC8
import Derived.Maps.RangeRun
import Derived.Test.YtalkjpicadiimaaGreatDoorLB3
import Derived.Test.YtalkjpicadiimaaGreatDoorLC7
set_option linter.all false
set_option maxHeartbeats 4000000
namespace Go.Proofs.YtalkjpicadiimaaGreatDoor
open Go.Lg
set_option maxRecDepth 100000
section
variable {f:Nat} {args:List V} {objs:List (Nat × Ob)} {x:V} {objs':List (Nat × Ob)}
theorem o22 (m:Nat) (tp:Di) {H1 H2 H3 H4 H5 H6 H7 H8 H9 H10 H11 H12 H13 H14 H15 H16 H17 H18 H19 H20 H21 H22:Prop} (h1:H1) (h2:H2) (h3:H3) (h4:H4) (h5:H5) (h6:H6) (h7:H7) (h8:H8) (h9:H9) (h10:H10) (h11:H11) (h12:H12) (h13:H13) (h14:H14) (h15:H15) (h16:H16) (h17:H17) (h18:H18) (h19:H19) (h20:H20) (h21:H21) (h22:H22) (e:(H1∧H2∧H3∧H4∧H5∧H6∧H7∧H8∧H9∧H10∧H11∧H12∧H13∧H14∧H15∧H16∧H17∧H18∧H19∧H20∧H21∧H22∧(x,objs')=(x,objs'))=UO f args objs m tp x objs':=by kernel_rfl):O f args objs x objs':=ok m tp ⟨h1,h2,h3,h4,h5,h6,h7,h8,h9,h10,h11,h12,h13,h14,h15,h16,h17,h18,h19,h20,h21,h22,rfl⟩ e
end
theorem zM8 (f:Fm):O 65 [.pv f.p] [] (.agg [.undef,.pv (num f.tk),.pv (.slice f.te),.pv (.slice f.ts),.pv (.slice f.es)]) []:=by
 have h:A 65 [f.p] f.p:=a64 f
 refine⟨h.direct,fun n hn=>by simp [Out.names,V.names,qQj] at hn,h.namesO,fun E w vs hB hv hR=>(h.calls E w vs hB hv hR).mono ?_⟩
 rintro e w' ⟨E',hd,v,he,hr⟩
 refine⟨E',hd,v,he,?_⟩
 have hr:RepP E'.H (.agg f.c) v:=hr
 simp only [RepP] at hr
 obtain⟨us,e1,e2,e3⟩:=hr
 refine⟨us,e1,e2,?_⟩
 match us,e3 with
 | [],e3=>exact e3.elim
 | u::us,e3 =>
  refine⟨trivial,?_⟩
  have e4:=e3.2
  match us,e4 with
  | [],e4=>exact e4.elim
  | u2::us,e4 =>
   refine⟨e4.1,?_⟩
   have e5:=e4.2
   match us,e5 with
   | [],e5=>exact e5.elim
   | u3::us,e5 =>
    refine⟨e5.1,?_⟩
    have e6:=e5.2
    match us,e6 with
    | [],e6=>exact e6.elim
    | u4::us,e6 =>
     refine⟨e6.1,?_⟩
     have e7:=e6.2
     match us,e7 with
     | [],e7=>exact e7.elim
     | u5::us,e7=>exact⟨e7.1,trivial⟩
abbrev qE (x:Tm):Fm:=.eq (x.sh 0 1) (.v 0)
abbrev qIc (x:Tm):Pf:=.ex true (.q .exU .nat (qE x)) x (.refl x)
theorem zHt {L:List Int} (hL:Dk L) {k:Nat} (hk:H19 L k) (hkl:k≤9):H54 L k:=by
 intro Z ls g hs a hS hg hh hZ ha
 have hm:=qQd
 have hbg:=qQh
 have e20:M20=1048576:=rfl
 have eW:=qDn
 have hz1:=hS.z
 have hgl:=hS.gl
 have hhl:=hS.hl
 have e1:cp (k+1)=2 * cp k+10000:=rfl
 have e2:cm (k+1)=2 * cm k+W37+4 * M20:=rfl
 have e3:=qVw k
 have gs:=qV7 (a:=k+1) (by omega) (by omega)
 obtain⟨x,b,qx,hb,g1⟩:=tm1 hL (t:=.nat) (g:=g) (by decide) hS.gs (by omega) ha
 have c1:=qx.cnt;have c2:=qx.tsz;have c3:=qx.mx
 have m1:=qXp 1 x 0
 have e5:(1:Int).toNat=1:=rfl
 have gu:=a50 x (by omega) (by rw [hm];omega)
 have hE:FBd (Z+1) (qE x):=⟨by simp only [Fm.cnt,qQs,Tm.cnt];omega,by simp only [Fm.tsz,qQ4,Tm.tsz];omega,by simp only [Fm.mx,Tm.mx];omega⟩
 obtain⟨w,c,hw,hc,gw⟩:=nx hL hb (n:=3) (by omega) (by omega)
 have gB:=a48 g hs .nat (by omega) (by omega) (fun f hf=>by have:=hS.hb f hf;rw [hm];omega)
 have gW:=a46 (g++[.nat]) (qY5 hs) (qE x) (by simp;omega)
 have S1:S19 (Z+1) ls (g++[.nat]) (qY5 hs++[qE x]):=(hS.below (t:=.nat) (by decide) hg).with hE (Nat.le_refl _) (by simpa using hh)
 obtain⟨q,d,qq,hd,g2⟩:=hk (Z+1) ls (g++[.nat]) (qY5 hs++[qE x]) c S1 (by omega) hc
 have d1:=qq.cnt;have d2:=qq.tsz;have d3:=qq.mx
 obtain⟨v,e,hv,he,gv⟩:=nx hL hd (n:=2) (by omega) (by omega)
 have bd:∀ (u:P2) (P Q:Pf),P.cnt≤800→P.tsz≤mid→P.mx≤Z+cm k+10→Q.cnt≤cp k+800→Q.tsz≤mid→Q.mx≤Z+cm k+10→P.dp≤2→Q.dp≤k+2→PG (cp (k+1)) (Z+cm (k+1)) ((k+1)+2) (.p2 u P Q):=fun u P Q b1 b2 b3 b4 b5 b6 b7 b8 =>
  ⟨by simp only [Pf.cnt];omega,by simp only [Pf.tsz];omega,by simp only [Pf.mx];omega,by cases u<;>simp only [Pf.dp]<;>omega⟩
 have bS:∀ (u:Bool) (kk:FQ),(Pf.ex u (.q kk .nat (qE x)) x (.refl x)).cnt≤800∧(Pf.ex u (.q kk .nat (qE x)) x (.refl x)).tsz≤mid∧(Pf.ex u (.q kk .nat (qE x)) x (.refl x)).mx≤Z+cm k+10:=fun u kk =>
  ⟨by simp only [Pf.cnt,Fm.cnt,qQs,Tm.cnt];omega,by simp only [Pf.tsz,Fm.tsz,qQ4,Tm.tsz,Ty.size];omega,by simp only [Pf.mx,Fm.mx,Tm.mx];omega⟩
 have bG:∀ (u:Bool) (kk:FQ),(Pf.ex u ((Fm.q kk .nat (qE x)).sh 0 1) (.v 0) (.leaf false 0)).cnt≤cp k+800∧(Pf.ex u ((Fm.q kk .nat (qE x)).sh 0 1) (.v 0) (.leaf false 0)).tsz≤mid∧(Pf.ex u ((Fm.q kk .nat (qE x)).sh 0 1) (.v 0) (.leaf false 0)).mx≤Z+cm k+10:=fun u kk=>by
  have m2:=qVl 1 (Fm.q kk .nat (qE x)) 0
  have m3:(Fm.q kk .nat (qE x)).mx≤x.mx+1:=by simp only [Fm.mx,Tm.mx];omega
  exact⟨by simp only [Pf.cnt,qQq,Fm.cnt,qQs,Tm.cnt];omega,by simp only [Pf.tsz,qQt,Fm.tsz,qQ4,Tm.tsz,Ty.size];omega,by simp only [Pf.mx,Tm.mx];omega⟩
 have gF:∀ kk:FQ,A 56 [(Fm.q kk .nat (qE x)).p,num 0,.int 1] ((Fm.q kk .nat (qE x)).sh 0 1).p:=fun kk=>a53 _ 0 1 (by omega) (by omega) (by simp only [Fm.mx,Tm.mx];rw [hm];omega) (by simp only [Fm.cnt,qQs,Tm.cnt];omega)
 cases w with
 | zero =>
  have g9:A 49 [num 10,x.p,(Pf.refl x).p] (pn 10 [x.c] [] [(Pf.refl x).c]):=zF1 10 x (.refl x)
  have gq:=zM8 (.q .ex .nat (qE x))
  cases v with
  | zero=>exact⟨.p2 .exUE (qIc x) (.ex true ((Fm.q .exU .nat (qE x)).sh 0 1) (.v 0) (.leaf false 0)),e,(bd .exUE (qIc x) (.ex true ((Fm.q .exU .nat (qE x)).sh 0 1) (.v 0) (.leaf false 0)) (bS true .exU).1 (bS true .exU).2.1 (bS true .exU).2.2 (bG true .exU).1 (bG true .exU).2.1 (bG true .exU).2.2 (Nat.zero_le _) (Nat.zero_le _)),he,o22 1 [(16,.n [(7,.Y),(12,.D L b (.pv x.p)),(15,.r (x.sh 0 1).p),(16,.r (Tm.v 0).p),(17,.r (qE x).p),(18,.r (Fm.q .ex .nat (qE x)).p),(21,.r (Pf.refl x).p),(22,.n [(13,.r (pn 10 [x.c] [] [(Pf.refl x).c])),(15,.o [] [] (.agg [.undef,.pv (num (Fm.q .ex .nat (qE x)).tk),.pv (.slice (Fm.q .ex .nat (qE x)).te),.pv (.slice (Fm.q .ex .nat (qE x)).ts),.pv (.slice (Fm.q .ex .nat (qE x)).es)]))])]),(18,.D L c (.pv (num 0))),(300005,.f 12 [(Fm.q .exU .nat (qE x)).c]),(35,.Y),(37,.r (qJy (g++[.nat]) (qY5 hs))),(39,.r (qJy (g++[.nat]) (qY5 hs++[qE x]))),(41,.z k),(42,.D L d (.pv q.p)),(44,.D L e (.pv (num 0))),(50,.r ((Fm.q .exU .nat (qE x)).sh 0 1).p),(54,.r (Tm.v 0).p),(55,.r (Pf.leaf false 0).p),(56,.r (Pf.ex true ((Fm.q .exU .nat (qE x)).sh 0 1) (.v 0) (.leaf false 0)).p),(61,.r (Pf.p2 .exUE (qIc x) (.ex true ((Fm.q .exU .nat (qE x)).sh 0 1) (.v 0) (.leaf false 0))).p)] a42 g1 gu (a51 0) (a43 (x.sh 0 1) (.v 0)) (a40 .ex .nat (qE x)) (a21 x) g9 gq gw (rfl:pvE [(Fm.q .exU .nat (qE x)).c]=pvE [(Fm.q .exU .nat (qE x)).c]) a42 gB gW gs g2 gv (gF .exU) (a51 0) (a56 0) (a52 true ((Fm.q .exU .nat (qE x)).sh 0 1) (.v 0) (.leaf false 0)) (qDl 15 (qIc x) (.ex true ((Fm.q .exU .nat (qE x)).sh 0 1) (.v 0) (.leaf false 0)))⟩
  | succ v=>exact⟨.p2 .exUE (qIc x) q,e,(bd .exUE (qIc x) q (bS true .exU).1 (bS true .exU).2.1 (bS true .exU).2.2 (by omega) d2 (by omega) (Nat.zero_le _) qq.dp),he,o18 1 [(16,.n [(7,.Y),(12,.D L b (.pv x.p)),(15,.r (x.sh 0 1).p),(16,.r (Tm.v 0).p),(17,.r (qE x).p),(18,.r (Fm.q .ex .nat (qE x)).p),(21,.r (Pf.refl x).p),(22,.n [(13,.r (pn 10 [x.c] [] [(Pf.refl x).c])),(15,.o [] [] (.agg [.undef,.pv (num (Fm.q .ex .nat (qE x)).tk),.pv (.slice (Fm.q .ex .nat (qE x)).te),.pv (.slice (Fm.q .ex .nat (qE x)).ts),.pv (.slice (Fm.q .ex .nat (qE x)).es)]))])]),(18,.D L c (.pv (num 0))),(300005,.f 12 [(Fm.q .exU .nat (qE x)).c]),(35,.Y),(37,.r (qJy (g++[.nat]) (qY5 hs))),(39,.r (qJy (g++[.nat]) (qY5 hs++[qE x]))),(41,.z k),(42,.D L d (.pv q.p)),(44,.D L e (.pv (num (v+1)))),(61,.r (Pf.p2 .exUE (qIc x) q).p)] a42 g1 gu (a51 0) (a43 (x.sh 0 1) (.v 0)) (a40 .ex .nat (qE x)) (a21 x) g9 gq gw (rfl:pvE [(Fm.q .exU .nat (qE x)).c]=pvE [(Fm.q .exU .nat (qE x)).c]) a42 gB gW gs g2 gv (qDl 15 (qIc x) q)⟩
 | succ w =>
  cases v with
  | zero=>exact⟨.p2 .exE (qW2 x) (.ex false ((Fm.q .ex .nat (qE x)).sh 0 1) (.v 0) (.leaf false 0)),e,(bd .exE (qW2 x) (.ex false ((Fm.q .ex .nat (qE x)).sh 0 1) (.v 0) (.leaf false 0)) (bS false .ex).1 (bS false .ex).2.1 (bS false .ex).2.2 (bG false .ex).1 (bG false .ex).2.1 (bG false .ex).2.2 (Nat.zero_le _) (Nat.zero_le _)),he,o20 1 [(16,.n [(7,.Y),(12,.D L b (.pv x.p)),(15,.r (x.sh 0 1).p),(16,.r (Tm.v 0).p),(17,.r (qE x).p),(18,.r (Fm.q .ex .nat (qE x)).p),(21,.r (Pf.refl x).p),(22,.r (qW2 x).p)]),(18,.D L c (.pv (num (w+1)))),(35,.Y),(37,.r (qJy (g++[.nat]) (qY5 hs))),(39,.r (qJy (g++[.nat]) (qY5 hs++[qE x]))),(41,.z k),(42,.D L d (.pv q.p)),(44,.D L e (.pv (num 0))),(50,.r ((Fm.q .ex .nat (qE x)).sh 0 1).p),(54,.r (Tm.v 0).p),(55,.r (Pf.leaf false 0).p),(56,.r (Pf.ex false ((Fm.q .ex .nat (qE x)).sh 0 1) (.v 0) (.leaf false 0)).p),(61,.r (Pf.p2 .exE (qW2 x) (.ex false ((Fm.q .ex .nat (qE x)).sh 0 1) (.v 0) (.leaf false 0))).p)] a42 g1 gu (a51 0) (a43 (x.sh 0 1) (.v 0)) (a40 .ex .nat (qE x)) (a21 x) (a52 false (.q .ex .nat (qE x)) x (.refl x)) gw a42 gB gW gs g2 gv (gF .ex) (a51 0) (a56 0) (a52 false ((Fm.q .ex .nat (qE x)).sh 0 1) (.v 0) (.leaf false 0)) (qDl 11 (qW2 x) (.ex false ((Fm.q .ex .nat (qE x)).sh 0 1) (.v 0) (.leaf false 0)))⟩
  | succ v=>exact⟨.p2 .exE (qW2 x) q,e,(bd .exE (qW2 x) q (bS false .ex).1 (bS false .ex).2.1 (bS false .ex).2.2 (by omega) d2 (by omega) (Nat.zero_le _) qq.dp),he,o16 1 [(16,.n [(7,.Y),(12,.D L b (.pv x.p)),(15,.r (x.sh 0 1).p),(16,.r (Tm.v 0).p),(17,.r (qE x).p),(18,.r (Fm.q .ex .nat (qE x)).p),(21,.r (Pf.refl x).p),(22,.r (qW2 x).p)]),(18,.D L c (.pv (num (w+1)))),(35,.Y),(37,.r (qJy (g++[.nat]) (qY5 hs))),(39,.r (qJy (g++[.nat]) (qY5 hs++[qE x]))),(41,.z k),(42,.D L d (.pv q.p)),(44,.D L e (.pv (num (v+1)))),(61,.r (Pf.p2 .exE (qW2 x) q).p)] a42 g1 gu (a51 0) (a43 (x.sh 0 1) (.v 0)) (a40 .ex .nat (qE x)) (a21 x) (a52 false (.q .ex .nat (qE x)) x (.refl x)) gw a42 gB gW gs g2 gv (qDl 11 (qW2 x) q)⟩
theorem h19 (H:MF) {L:List Int} (hL:Dk L):∀ k,k≤9→H19 L k
 | 0,_=>zHf hL
 | k+1,h=>zHs H hL (h19 H hL k (by omega)) (zHt hL (h19 H hL k (by omega)) (by omega)) (by omega)
theorem a5 (L:List Int):A 5 [.slice (L.map zc1)] (.bool (decide (L.length≤500))):=by
 by_cases h:L.length≤500
 ·have e:(!ltI (.ofNat 500) (.ofNat (L.map zc1).length))=true:=by rw [qZ7 (by simpa using h)];rfl
  rw [decide_eq_true h]
  exact f1 [(5,.G)] e
 ·have e:(!ltI (.ofNat 500) (.ofNat (L.map zc1).length))=false:=by rw [qQ7 (by simpa using h)];rfl
  rw [decide_eq_false h]
  exact f1 [(5,.H)] e
abbrev PR.v (r:PR):PV:=.agg [num r.k,num r.tk,.slice r.te,.slice r.ts,.slice r.es,qQk r.u]
def RQ (ls:List Fm) (g:List Ty) (hs:List Fm) (p:Pf) (r:PR):Prop:=∀ f u,r = .ok f u→SQ2 ls g hs∧p.ck∧p.cnt≤16384∧(∃ j:Jt,j.p=p∧j.f=f∧j.D ls g hs ∧ ∀ v,j.us v→v∈u)∧u.length≤16384
theorem ask (H:MF) {Z k:Nat} {ls:List Fm} {g:List Ty} {hs:List Fm} {p:Pf} (hS:S19 Z ls g hs) (hp:PG (cp k) (Z+cm k) (k+2) p) (hk:k≤10) (hz:Z+cm k≤281474976710656):∃ r:PR,A 19 [fms ls,qJy g hs,p.p] r.p∧RQ ls g hs p r:=by
 have hm:=qQd
 have hbg:=qQh
 have e2:=qO1 k hk
 have h1:=hS.ll
 have h2:=hS.gl
 have h3:=hS.hl
 have hc:cmx=1125899902742528:=rfl
 have e3:qQf=8388608:=rfl
 obtain⟨r,g1,q⟩:=a20 H (X:=Z+cm k) (ls:=ls) (g:=g) (hs:=hs) (p:=p) ⟨fun f hf=>by have:=hS.lb f hf;exact⟨by omega,this.2.1,by omega⟩,fun f hf=>by have:=hS.hb f hf;exact⟨by omega,this.2.1,by omega⟩,fun s hs'=>by have:=hS.gs s hs';omega,by omega,by omega,by omega,by have:=hp.cnt;omega,hp.tsz,hp.mx,by rw [hc];omega⟩
 exact⟨r,g1,fun f u e=>by
  obtain⟨k1,k2,k3,_,k4⟩:=q f u e
  exact⟨k1,k2,k3,k4⟩⟩
theorem a9 (H:MF) {L:List Int} (hL:Dk L) {ls:List Fm} {g:List Ty} {hs:List Fm} {a:Nat} (hS:S19 M20 ls g hs) (ha:a≤L.length):∃ (p:Pf) (r:PR) (b:Nat),((∃ f u,r = .ok f u) ∨ ∃ y,p = .refl (qJt y)∧y<4)∧PG (cp 3) (M20+cm 3) (3+2) p∧RQ ls g hs p r∧b≤L.length ∧
  O 8 [.loc 0 0,.pv (fms ls),.pv (qJy g hs),.pv (num 3)] [(0,dk L a)] (.pv (.tuple [p.p,r.v])) [(0,dk L b)]:=by
 have hm:=qQd
 have hz:M20+cm 3≤281474976710656:=by decide
 have h3:=h19 H hL 3 (by omega)
 obtain⟨p1,b1,q1,hb1,g1⟩:=h3 M20 ls g hs a hS hz ha
 obtain⟨r1,k1,z1⟩:=ask H hS q1 (by omega) hz
 cases r1 with
 | ok f u=>exact⟨p1,.ok f u,b1,.inl ⟨f,u,rfl⟩,q1,z1,hb1,o2 1 [(22,.D L b1 (.pv p1.p)),(27,.r (PR.ok f u).p)] g1 k1⟩
 | er n1 =>
 obtain⟨p2,b2,q2,hb2,g2⟩:=h3 M20 ls g hs b1 hS hz hb1
 obtain⟨r2,k2,z2⟩:=ask H hS q2 (by omega) hz
 cases r2 with
 | ok f u=>exact⟨p2,.ok f u,b2,.inl ⟨f,u,rfl⟩,q2,z2,hb2,o4 1 [(22,.D L b1 (.pv p1.p)),(27,.r (PR.er n1).p),(22,.D L b2 (.pv p2.p)),(27,.r (PR.ok f u).p)] g1 k1 g2 k2⟩
 | er n2 =>
 obtain⟨p3,b3,q3,hb3,g3⟩:=h3 M20 ls g hs b2 hS hz hb2
 obtain⟨r3,k3,z3⟩:=ask H hS q3 (by omega) hz
 cases r3 with
 | ok f u=>exact⟨p3,.ok f u,b3,.inl ⟨f,u,rfl⟩,q3,z3,hb3,o6 1 [(22,.D L b1 (.pv p1.p)),(27,.r (PR.er n1).p),(22,.D L b2 (.pv p2.p)),(27,.r (PR.er n2).p),(22,.D L b3 (.pv p3.p)),(27,.r (PR.ok f u).p)] g1 k1 g2 k2 g3 k3⟩
 | er n3 =>
 obtain⟨p4,b4,q4,hb4,g4⟩:=h3 M20 ls g hs b3 hS hz hb3
 obtain⟨r4,k4,z4⟩:=ask H hS q4 (by omega) hz
 cases r4 with
 | ok f u=>exact⟨p4,.ok f u,b4,.inl ⟨f,u,rfl⟩,q4,z4,hb4,o8 1 [(22,.D L b1 (.pv p1.p)),(27,.r (PR.er n1).p),(22,.D L b2 (.pv p2.p)),(27,.r (PR.er n2).p),(22,.D L b3 (.pv p3.p)),(27,.r (PR.er n3).p),(22,.D L b4 (.pv p4.p)),(27,.r (PR.ok f u).p)] g1 k1 g2 k2 g3 k3 g4 k4⟩
 | er n4 =>
 obtain⟨y,b5,hy,hb5,g5⟩:=nx hL hb4 (n:=4) (by omega) (by omega)
 have c5:(qJt y).cnt≤10:=by
  rcases y with _|_|_|_|y
  ·decide
  ·decide
  ·decide
  ·decide
  ·omega
 have qr:PG (cp 3) (M20+cm 3) (3+2) (.refl (qJt y)):=by
  rcases y with _|_|_|_|y
  ·exact⟨by decide,by decide,by decide,by decide⟩
  ·exact⟨by decide,by decide,by decide,by decide⟩
  ·exact⟨by decide,by decide,by decide,by decide⟩
  ·exact⟨by decide,by decide,by decide,by decide⟩
  ·omega
 obtain⟨r5,k5,z5⟩:=ask H hS qr (by omega) hz
 cases r5 with
 | ok f u=>exact⟨.refl (qJt y),.ok f u,b5,.inr ⟨y,rfl,hy⟩,qr,z5,hb5,o12 1 [(22,.D L b1 (.pv p1.p)),(27,.r (PR.er n1).p),(22,.D L b2 (.pv p2.p)),(27,.r (PR.er n2).p),(22,.D L b3 (.pv p3.p)),(27,.r (PR.er n3).p),(22,.D L b4 (.pv p4.p)),(27,.r (PR.er n4).p),(36,.D L b5 (.pv (num y))),(37,.r (qJt y).p),(38,.r (Pf.refl (qJt y)).p),(43,.r (PR.ok f u).p)] g1 k1 g2 k2 g3 k3 g4 k4 g5 (a22 hy) (a21 (qJt y)) k5⟩
 | er n5=>exact⟨.refl (qJt y),.er n5,b5,.inr ⟨y,rfl,hy⟩,qr,z5,hb5,o12 1 [(22,.D L b1 (.pv p1.p)),(27,.r (PR.er n1).p),(22,.D L b2 (.pv p2.p)),(27,.r (PR.er n2).p),(22,.D L b3 (.pv p3.p)),(27,.r (PR.er n3).p),(22,.D L b4 (.pv p4.p)),(27,.r (PR.er n4).p),(36,.D L b5 (.pv (num y))),(37,.r (qJt y).p),(38,.r (Pf.refl (qJt y)).p),(43,.r (PR.er n5).p)] g1 k1 g2 k2 g3 k3 g4 k4 g5 (a22 hy) (a21 (qJt y)) k5⟩
open Go.Lg
set_option maxRecDepth 100000
abbrev sT:Tm:=.n1 .succ (.v 0)
abbrev sF:Fm:=.q .ex .nat (.eq (.v 0) (.n1 .succ (.v 1)))
abbrev sP:Pf:=.all false .nat (.ex false sF sT (.refl sT))
abbrev sJ:Jt:=.all false .nat (.ex false sF sT (.refl sT))
abbrev sR:Tm:=.lam .nat sT
theorem a14:A 15 [] sP.p:=f0 []
abbrev kX:PV:=.tuple [.agg [num 4,num 1,.slice [],.slice [],.slice [sF.c],.slice []],num 0]
theorem zM9:A 67 [fms [],qJy [] [],sP.p] kX:=by
 have e:(kX=kX)=zFo ev Tryz.prog 100 40 67 [fms [],qJy [] [],sP.p] [] kX:=by kernel_rfl
 exact qSb qEd (e ▸ rfl)
theorem zHu:sJ.OK [] 0 []:=by
 have h1:FK 1 sF:=⟨by decide,rfl,by simp [Fm.sc,Tm.sc]⟩
 have h2:TK 1 sT:=⟨by decide,rfl,by simp [Tm.sc]⟩
 have h3:FK 1 (.eq sT sT):=⟨by decide,rfl,by simp [Fm.sc,Tm.sc]⟩
 exact⟨by decide,⟨by decide,rfl,h1.sc⟩,h1,h2,⟨h2,h3⟩,⟨.nat,rfl⟩,rfl⟩
theorem zNa:A 22 [fms [],qJy [] [],sP.p] (.tuple [sJ.ptr [],num 0]):=by
 have hm:=qQd
 have g2:=a68 (ls:=[]) sJ 0 [] (by simp) (by decide) (by decide) zHu
 exact f2 [(14,.r kX),(24,.r (sJ.ptr []))] zM9 g2
theorem zNb:A 69 [blp [],sJ.ptr [],(qAm 0 0).p] (XR.ok sR).p:=by
 have hS:=(qF9 0 0).bind.var (t:=.v 0) (TKv (by decide))
 have gp:=zE5 ((qAm 0 0).bind.var (.v 0)) sT 1 hS.vl.symm hS.ve (by decide) (by decide) ⟨by decide,rfl,by simp [Tm.sc]⟩
 have g:=qTb (tl:=[]) (hs:=[]) (a:=.refl sT) (x:=sF) (y:=.eq sT sT) (w:=sT) rfl gp
 exact zV6 (tl:=[]) (hs:=[]) (u:=.nat) (a:=.ex false sF sT (.refl sT)) (y:=sF) (qUl (qAm 0 0) (by decide)) (qUm (qAm 0 0).bind (.v 0) (by decide)) g (by decide)
theorem zNc:A 9 [fms [],row [],qJy [] [],sP.p] (XR.ok sR).p:=by
 have g2:A 16 [fms [],row []] (num 0):=f0 []
 have g3:A 24 [qJy [] []] (qAm 0 0).p:=a25 [] (by decide)
 have g5:A 23 [row [],sJ.ptr [],(qAm 0 0).p] (XR.ok sR).p:=f1 [(12,.r (XR.ok sR).p)] zNb
 exact f4 [(17,.U [sJ.ptr [],num 0]),(26,.N 0),(40,.r (qAm 0 0).p),(41,.r (XR.ok sR).p)] zNa g2 g3 g5
theorem a4:A 4 [] (.bool true):=by
 have g2:A 16 [fms [],row []] (num 0):=f0 []
 exact f3 [(5,.r sP.p),(6,.r (XR.ok sR).p),(31,.N 0)] a14 zNc g2
end Go.Proofs.YtalkjpicadiimaaGreatDoor
namespace Go.Lg
theorem Ga.swapO {C:Ctx} {E:Env} {σ:St} {a:Act} {w:World} (h:Ga C E σ a w) {n:Nat} {o o':Ob} (hn:qQc σ.objs n=some o) (ho:ObOK E w n o') (hu:∀ m∈o'.names,m∈σ.used):Ga C E ⟨σ.slots,qWa σ.objs n o',σ.used⟩ a w:=by
 have hg:∀ m,qQc (qWa σ.objs n o') m=if m=n then some o' else qQc σ.objs m:=fun m=>qQv _ _ _ _
 have hs:∀ m q,qQc (qWa σ.objs n o') m=some q→∃ q',qQc σ.objs m=some q':=fun m q h=>by
  rw [hg] at h
  split at h
  ·rename_i e;subst e;exact⟨o,hn⟩
  ·exact⟨q,h⟩
 refine⟨h.slots,h.size,h.defers,h.heap,?_,?_,h.usedS,?_,h.usedG,h.grown,h.rest,h.same,h.hle,?_,h.ext,?_⟩
 ·intro m q hm
  simp only [hg] at hm
  split at hm
  ·rename_i e;cases hm;subst e;exact ho
  ·exact h.objs m q hm
 ·intro m m' q q' hm hm' hne b hb
  obtain⟨p,hp⟩:=hs m q hm
  obtain⟨p',hp'⟩:=hs m' q' hm'
  exact h.apart m m' p p' hp hp' hne b hb
 ·intro m q hm
  simp only [hg] at hm
  split at hm
  ·rename_i e;cases hm;subst e;exact⟨(h.usedO _ _ hn).1,hu⟩
  ·exact h.usedO m q hm
 ·intro m q b hm hb hlt
  obtain⟨p,hp⟩:=hs m q hm
  exact h.own m p b hp hb hlt
 ·intro m hm
  obtain⟨k1,k2,k3⟩:=h.keep m hm
  refine⟨k1,?_,k3⟩
  simp only [hg]
  split
  ·rename_i e;subst e;rw [hn] at k2;cases k2
  ·exact k2
theorem Ga.slotW {C:Ctx} {E:Env} {σ:St} {a:Act} {w:World} (h:Ga C E σ a w) {d:Nat} {x:V} {v:Value} (hx:RepV E x v) (hn:∀ n∈x.names,n∈σ.used) (hd:d<C.nt):Ga C E ⟨(d,x)::σ.slots,σ.objs,σ.used⟩ (a.put (some d) v) w :=
 h.pure E.H (some d) x v (Hle.refl _) (Nat.le_refl _) ⟨rfl,rfl,rfl⟩ (fun _ _=>⟨rfl,rfl⟩) h.heap hx hn (fun _ e=>by cases e;exact hd)
theorem qYh {C:Ctx} {E:Env} {σ:St} {a:Act} {w:World} (h:Ga C E σ a w) {d:Nat} (hd:d<C.nt) (v:Value):(a.put (some d) v).eval (.tmp d)=v:=by
 have:d<a.tmps.size:=by rw [h.size];exact hd
 simp [Act.put,Act.eval,this]
section
variable {X:qZ9} {id:Nat} {σ:St} {Q:AEx→St→Prop} {t1 t2 t3:Nat} {p1 p2 p3:String} {f1 f2 f3:Array Edge}
theorem AWP.range {n r b ck t kt vt:Nat} {ms:Array MapEntry} {s d1 d2:Nat} (hs:qZy σ.slots s = .map n) (ho:qQc σ.objs n=some (.raw (.map (some b)) (.map ms ck))) (hr:r ∉ σ.used) (hu:X.P.underlying t=some (.map kt vt)) (h1:d1<X.nt) (h2:d2<X.nt)
  (hQ:∀ rb,Q .normal ⟨(d2,.loc r 0)::(d1,.map n)::σ.slots,qWa σ.objs r (.raw (.pointer (some ⟨rb,0,none⟩)) (.mapIter (some b) ck #[] ck)),r::σ.used⟩) :
  AWP X (.region id #[⟨some d1,.move (.tmp s),t1,p1,f1,none⟩,⟨some d2,.range t (.tmp d1),t2,p2,f2,none⟩] false) σ Q:=by
 intro C E a w hC hG
 have hd1:d1<C.nt:=by rw [hC.nt];exact h1
 have hd2:d2<C.nt:=by rw [hC.nt];exact h2
 have hv:=hG.slots s
 rw [hs] at hv
 simp only [RepV] at hv
 obtain⟨b',hg,hv⟩:=hv
 obtain⟨hg',b0,hb0,hcell,hfree⟩:=hG.objs n _ ho
 rw [hg'] at hg
 cases hg
 cases hb0
 have hG1:Ga C E ⟨(d1,.map n)::σ.slots,σ.objs,σ.used⟩ (a.put (some d1) (a.eval (.tmp s))) w:=hG.slotW (x:=.map n) (v:=a.eval (.tmp s)) (by
  simp only [RepV];exact⟨b,hg',hv⟩) (fun m hm=>by
   have:=hG.usedS s;rw [hs] at this;exact this m hm) hd1
 have hv1:(a.put (some d1) (a.eval (.tmp s))).eval (.tmp d1) = .map (some b):=by rw [qYh hG hd1];exact hv
 have hrun:=run_range_map (P:=X.P) w t kt vt b ms ck hu hcell
 refine wp_region_list ?_
 refine wpList_plain rfl fun K hK => ?_
 refine OpRes.wp (v:=a.eval (.tmp s)) (w':=w) (.inl (by simp [execOp])) (hK _ _ ?_)
 refine wpList_plain rfl fun K hK => ?_
 refine OpRes.wp (v:=.pointer (some ⟨w.heap.size,0,none⟩)) (w':=w.alloc (.mapIter (some b) ck #[] ck)) (.inl (by
  simp only [execOp,hv1,Sem.run_bind,hrun,Result.andThen_ok,Sem.run_pure])) (hK _ _ ?_)
 let E':Env:={ E with g:=fun m=>if m=r then .pointer (some ⟨w.heap.size,0,none⟩) else E.g m }
 have hgr:E'.g r = .pointer (some ⟨w.heap.size,0,none⟩):=by simp [E']
 have hE:∀ m,m≠r→E'.g m=E.g m∧E'.ver m=E.ver m∧E'.sz m=E.sz m:=fun m hm=>⟨by simp [E',hm],rfl,rfl⟩
 refine⟨E',_,.normal,?_,rfl,hQ w.heap.size⟩
 refine hG1.change (E':=E') r (some (.raw (.pointer (some ⟨w.heap.size,0,none⟩)) (.mapIter (some b) ck #[] ck))) _ (r::σ.used) (some d2) (.loc r 0) _ (fun m=>qQv _ _ _ _) (Hle.refl _) hE (fun hk=>absurd hk hr) (fun hk=>absurd hk hr)
  (by simp) ⟨rfl,rfl,rfl⟩ (fun b hb _=>⟨@heap_alloc_old w _ b hb,rfl⟩) (qJn hG1.heap _ E' rfl) ?_ ?_ (fun m hm=>by simp [hm]) ?_ ?_ (fun _ e=>by cases e;exact hd2)
 ·intro o' e
  cases e
  exact⟨⟨hgr,w.heap.size,rfl,heap_alloc_new w _,hG1.heap.lt (Nat.le_refl _)⟩,by simp,by simp [Ob.names]⟩
 ·intro o' b e hb
  rw [hgr] at hb
  simp [blk] at hb
  omega
 ·exact⟨_,hgr,rfl⟩
 ·simp [V.names]
theorem AWP.next {n r b rb ck since c0:Nat} {ms:Array MapEntry} {seen:Array Nat} {s d1 d2:Nat} (hne:n≠r) (hs:qZy σ.slots s = .loc r 0) (ho:qQc σ.objs n=some (.raw (.map (some b)) (.map ms ck))) (hi:qQc σ.objs r=some (.raw (.pointer (some ⟨rb,0,none⟩)) (.mapIter (some b) since seen c0)))
  (hold:∀ x∈ms.toList,x.born<since) (hsc:since≤c0) (h1:d1<X.nt) (h2:d2<X.nt)
  (hQ0:(leftOf ms seen).size=0→Q .normal ⟨(d2,.pv (.bool false))::(d1,.undef)::σ.slots,σ.objs,σ.used⟩)
  (hQ1:∀ e∈(leftOf ms seen).toList,Q .normal ⟨(d2,.pv (.bool true))::(d1,.undef)::σ.slots,qWa σ.objs r (.raw (.pointer (some ⟨rb,0,none⟩)) (.mapIter (some b) since (seen.push e.born) ck)),σ.used⟩) :
  AWP X (.region id #[⟨some d1,.next (.tmp s) false,t1,p1,f1,none⟩,⟨some d2,.extract (.tmp d1) 0,t2,p2,f2,none⟩] false) σ Q:=by
 intro C E a w hC hG
 have hd1:d1<C.nt:=by rw [hC.nt];exact h1
 have hd2:d2<C.nt:=by rw [hC.nt];exact h2
 have hv:=hG.slots s
 rw [hs] at hv
 simp only [RepV] at hv
 obtain⟨b1,hg1,hv⟩:=hv
 obtain⟨hgm,b2,hb2,hcell,hfree⟩:=hG.objs n _ ho
 obtain⟨hgr,b3,hb3,hcr,hfr⟩:=hG.objs r _ hi
 rw [hgr] at hg1
 cases hg1
 cases hb2
 cases hb3
 have hbr:b≠rb:=fun e=>hG.apart n r _ _ ho hi hne b (by rw [hgm];rfl) (by rw [hgr,e];rfl)
 have hrl:rb<w.heap.size:=(Array.getElem?_eq_some_iff.1 hcr).1
 have hv:a.eval (.tmp s) = .pointer (some ⟨rb,0,none⟩):=hv
 refine wp_region_list ?_
 refine wpList_plain rfl fun K hK => ?_
 rcases run_next_at (P:=X.P) w t1 rb b since c0 seen ms ck hcr hcell hold hsc with ⟨h0,hrun⟩|⟨e,he,w1,hal,hrun⟩
 ·refine OpRes.wp (v:=.tuple #[.bool false]) (w':=w) (.inl (by simp only [execOp,hv,Sem.run_bind,hrun,Result.andThen_ok,Sem.run_pure])) (hK _ _ ?_)
  have hG1:Ga C E ⟨(d1,.undef)::σ.slots,σ.objs,σ.used⟩ (a.put (some d1) (.tuple #[.bool false])) w:=hG.slotW (x:=.undef) trivial (fun m hm=>by cases hm) hd1
  refine wpList_plain rfl fun K hK => ?_
  refine OpRes.wp (v:=.bool false) (w':=w) (.inl (by simp only [execOp,qYh hG hd1];rfl)) (hK _ _ ?_)
  exact⟨E,_,.normal,hG1.slotW (x:=.pv (.bool false)) (by simp [RepV,RepP]) (fun m hm=>by cases hm) hd2,rfl,hQ0 h0⟩
 ·have hw1:w1.heap=w.heap∧w1.os=w.os∧w1.tape=w.tape∧w1.output=w.output:=by rcases hal with rfl|rfl<;>exact⟨rfl,rfl,rfl,rfl⟩
  refine OpRes.wp (v:=.tuple #[.bool true,e.key,e.val]) (w':=ChangeMaps.setBlock w1 rb (.mapIter (some b) since (seen.push e.born) ck)) (.inl (by simp only [execOp,hv,Sem.run_bind,hrun,Result.andThen_ok,Sem.run_pure])) (hK _ _ ?_)
  have hset:∀ i,(ChangeMaps.setBlock w1 rb (.mapIter (some b) since (seen.push e.born) ck)).heap[i]? = if i=rb then some (.mapIter (some b) since (seen.push e.born) ck) else w.heap[i]?:=by
   intro i
   simp only [ChangeMaps.setBlock,hw1.1]
   by_cases hi:i=rb
   ·subst hi
    simp [hrl]
   ·rw [if_neg hi,Array.getElem?_setIfInBounds_ne (fun h=>hi h.symm)]
  have hG1:Ga C E ⟨(d1,.undef)::σ.slots,qWa σ.objs r (.raw (.pointer (some ⟨rb,0,none⟩)) (.mapIter (some b) since (seen.push e.born) ck)),σ.used⟩ (a.put (some d1) (.tuple #[.bool true,e.key,e.val])) (ChangeMaps.setBlock w1 rb (.mapIter (some b) since (seen.push e.born) ck)):=by
   refine hG.change (E':=E) r (some (.raw (.pointer (some ⟨rb,0,none⟩)) (.mapIter (some b) since (seen.push e.born) ck))) _ σ.used (some d1) .undef _ (fun m=>qQv _ _ _ _) (Hle.refl _) (fun _ _=>⟨rfl,rfl,rfl⟩) (fun _=>EExt.refl _ _) (fun _=>⟨_,hi⟩)
    (by simp [ChangeMaps.setBlock,hw1.1]) ⟨hw1.2.1,hw1.2.2.1,hw1.2.2.2⟩ (fun i hlt hne'=>⟨by rw [hset,if_neg (fun h=>hne' _ hi (by rw [hgr,h];rfl))],rfl⟩) ?_ ?_ ?_ (fun _ h=>h) trivial (fun m hm=>by cases hm) (fun _ e=>by cases e;exact hd1)
   ·intro i hi'
    have:i≠rb:=fun h=>hi' (h ▸ hfr)
    obtain⟨c,T',fr,hc,hp⟩:=hG.heap i hi'
    exact⟨c,T',fr,by rw [hset,if_neg this];exact hc,hp⟩
   ·intro o' e'
    cases e'
    exact⟨⟨hgr,rb,rfl,by rw [hset,if_pos rfl],hfr⟩,(hG.usedO r _ hi).1,by simp [Ob.names]⟩
   ·intro o' b' e' hb'
    exact .inr ⟨hb',_,hi⟩
  refine wpList_plain rfl fun K hK => ?_
  refine OpRes.wp (v:=.bool true) (w':=_) (.inl (by simp only [execOp,qYh hG hd1];rfl)) (hK _ _ ?_)
  exact⟨E,_,.normal,hG1.slotW (x:=.pv (.bool true)) (by simp [RepV,RepP]) (fun m hm=>by cases hm) hd2,rfl,hQ1 e he⟩
theorem AWP.entry {n r b rb ck since:Nat} {ms:Array MapEntry} {seen:Array Nat} {e:MapEntry} {z:Int} {s d1 d2 d3:Nat} (hs:qZy σ.slots s = .loc r 0) (ho:qQc σ.objs n=some (.raw (.map (some b)) (.map ms ck))) (hi:qQc σ.objs r=some (.raw (.pointer (some ⟨rb,0,none⟩)) (.mapIter (some b) since (seen.push e.born) ck)))
  (he:e∈ms.toList) (hnd:(ms.toList.map (·.born)).Nodup) (hz:e.key = .int .i64 z) (h1:d1<X.nt) (h2:d2<X.nt) (h3:d3<X.nt)
  (hQ:Q .normal ⟨(d3,.pv (.int z))::(d2,.pv (.int z))::(d1,.undef)::σ.slots,σ.objs,σ.used⟩) :
  AWP X (.region id #[⟨some d1,.entry (.tmp s),t1,p1,f1,none⟩,⟨some d2,.extract (.tmp d1) 0,t2,p2,f2,none⟩,⟨some d3,.assign (.tmp d2),t3,p3,f3,none⟩] false) σ Q:=by
 intro C E a w hC hG
 have hd1:d1<C.nt:=by rw [hC.nt];exact h1
 have hd2:d2<C.nt:=by rw [hC.nt];exact h2
 have hd3:d3<C.nt:=by rw [hC.nt];exact h3
 have hv:=hG.slots s
 rw [hs] at hv
 simp only [RepV] at hv
 obtain⟨b1,hg1,hv⟩:=hv
 obtain⟨hgm,b2,hb2,hcell,hfree⟩:=hG.objs n _ ho
 obtain⟨hgr,b3,hb3,hcr,hfr⟩:=hG.objs r _ hi
 rw [hgr] at hg1
 cases hg1
 cases hb2
 cases hb3
 have hv:a.eval (.tmp s) = .pointer (some ⟨rb,0,none⟩):=hv
 have hrun:=run_entry_at (P:=X.P) w rb b since seen ms ck e hcr hcell he hnd
 refine wp_region_list ?_
 refine wpList_plain rfl fun K hK => ?_
 refine OpRes.wp (v:=.tuple #[e.key,e.val]) (w':=w) (.inl (by simp only [execOp,hv,Sem.run_bind,hrun,Result.andThen_ok,Sem.run_pure])) (hK _ _ ?_)
 have hG1:Ga C E ⟨(d1,.undef)::σ.slots,σ.objs,σ.used⟩ (a.put (some d1) (.tuple #[e.key,e.val])) w:=hG.slotW (x:=.undef) trivial (fun m hm=>by cases hm) hd1
 refine wpList_plain rfl fun K hK => ?_
 refine OpRes.wp (v:=.int .i64 z) (w':=w) (.inl (by simp only [execOp,qYh hG hd1,hz];rfl)) (hK _ _ ?_)
 have hG2:=hG1.slotW (d:=d2) (x:=.pv (.int z)) (v:=.int .i64 z) (by simp [RepV,RepP]) (fun m hm=>by cases hm) hd2
 refine wpList_plain rfl fun K hK => ?_
 refine OpRes.wp (v:=.int .i64 z) (w':=w) (.inl (by simp only [execOp,qYh hG1 hd2];rfl)) (hK _ _ ?_)
 exact⟨E,_,.normal,hG2.slotW (x:=.pv (.int z)) (by simp [RepV,RepP]) (fun m hm=>by cases hm) hd3,rfl,hQ⟩
end
end Go.Lg
namespace Go.Proofs.YtalkjpicadiimaaGreatDoor
open Go.Lg
set_option maxRecDepth 100000
abbrev vN (L:List Nat):List (List V):=pvE (L.map ic)
theorem qTn (A B:List Nat) (x:Nat):qYl (vN (A++x::B)) A.length=some [.pv (num x)]:=by
 rw [qJ7,zW0]
 simp [ic,pvL]
theorem zWb (A:List Nat):(vN A).length=A.length:=by simp [vN,pvE]
theorem zWc (A B:List Nat) (x y:Nat):(vN (A++x::B)).set A.length [.pv (num y)]=vN (A++y::B):=by
 simp only [vN,pvE,List.map_append,List.map_cons]
 rw [show A.length=(List.map pvL (List.map ic A)).length by simp,List.set_append_right _ _ (Nat.le_refl _),Nat.sub_self]
 rfl
theorem ixA {n v k len:Nat} {es:List (List V)} (h1:k<len) (h2:len≤es.length):ro (bif Nat.beq v v then (bif Nat.blt k len then (bif Nat.beq 1 1 then (bif Nat.ble len es.length then some (V.eloc n v k 0) else none) else none) else none) else none)=some ⟨.eloc n v k 0,none,false⟩:=by
 rw [qLb rfl,show Nat.blt k len=true from Nat.ble_eq_true_of_le h1,show Nat.ble len es.length=true from Nat.ble_eq_true_of_le h2]
 rfl
theorem ldA {v k:Nat} {es:List (List V)} {x:V} (h:qYl es k=some [x]):ro (match qYl es k with
   | some e=>bif Nat.beq v v then zAz false 1 (qG6 e 0) else none
   | none=>none)=some ⟨x,none,false⟩:=by
 rw [h,qLb rfl]
 rfl
theorem stA {n v k:Nat} {es es':List (List V)} {x y:V} (h:qYl es k=some [x]) (h':es.set k [y]=es'):(bif Nat.beq v v then (bif Nat.ble (0+1) 1 then (match qYl es k with
    | some e=>some (⟨.undef,some (n,.arr v 1 3 (es.set k (qEo e 0 [y]))),false⟩:RB)
    | none=>none) else none) else none)=some ⟨.undef,some (n,.arr v 1 3 es'),false⟩:=by
 rw [h,qLb rfl]
 subst h'
 rfl
theorem zHv {a:Nat} (h:a≤big):inB (Int.ofNat (a+1)-1)=true∧Int.ofNat (a+1)-1 = .ofNat a:=by
 have e:Int.ofNat (a+1)-1 = .ofNat a:=by simp
 exact⟨by rw [e];exact zAa (by simp;try omega) (by have:=h;simp [big] at *;omega),e⟩
abbrev zYi (mv:Value) (mo:Obj) (iv:Value) (io:Obj) (v:Nat) (L:List Nat):List (Nat × Ob):=[(0,.raw mv mo),(1,.raw iv io),(2,.arr v 1 3 (vN L))]
abbrev zAn (v len n i:Nat):List (Nat × V):=[(3,.arr 2 v len),(4,.pv (num n)),(5,.pv (num i)),(7,.loc 1 0)]
abbrev k33:Kp:=⟨[3,4,5,7],[0,1,2],3,[]⟩
section
variable {mv iv:Value} {mo io:Obj} {n v len:Nat}
theorem qTo:∀ (k:Nat) (A:List Nat) (y:Nat) (B:List Nat),A.length=k→len=A.length+1+B.length→len≤big →
  ∃ (A':List Nat) (y':Nat) (B':List Nat),A'++B'=A++B∧(∀ x∈B',x∈B∨n<x)∧(∀ h:A'≠[],A'.getLast h≤n) ∧
   Lp 215 1 1 (st (zAn v len n A.length) (zYi mv mo iv io v (A++y::B)) 3 []) (.exit 2) (st (zAn v len n A'.length) (zYi mv mo iv io v (A'++y'::B')) 3 [])
 | 0,A,y,B,hk,hl,hb=>by
  have e:A=[]:=List.length_eq_zero_iff.1 hk
  subst e
  exact⟨[],y,B,rfl,fun x hx => .inl hx,fun h=>absurd rfl h,y1 [(19,.H)] k33 (qZ7 (Nat.le_refl 0)) (qQo ((y::B).map ic))⟩
 | k+1,A,y,B,hk,hl,hb=>by
  have hne:A≠[]:=fun e=>by subst e;cases hk
  obtain⟨A0,x,rfl⟩:∃ A0 x,A=A0++[x]:=⟨A.dropLast,A.getLast hne,(List.dropLast_concat_getLast hne).symm⟩
  have e0:A0.length=k:=by simpa using hk
  have el:(A0++[x]).length=A0.length+1:=by simp
  have ea:A0++[x]++y::B=A0++x::y::B:=by simp
  have gl:(vN (A0++x::y::B)).length=len:=by rw [zWb];simp at hl ⊢;omega
  rw [el] at hl ⊢
  rw [ea]
  have g1:=qQ7 (show 0<A0.length+1 by omega)
  have g2:=zHv (a:=A0.length) (by omega)
  have g3:=ixA (n:=2) (v:=v) (k:=A0.length) (len:=len) (es:=vN (A0++x::y::B)) (by omega) (by omega)
  have g4:=ldA (v:=v) (qTn A0 (y::B) x)
  by_cases hx:n<x
  ·obtain⟨A',y',B',h1,h2,h3,ih⟩:=qTo k A0 x (x::B) e0 (by simp;omega) hb
   have g6:=ixA (n:=2) (v:=v) (k:=A0.length+1) (len:=len) (es:=vN (A0++x::y::B)) (by omega) (by omega)
   have g7:=stA (n:=2) (v:=v) (k:=A0.length+1) (es:=vN (A0++x::y::B)) (es':=vN (A0++x::x::B)) (y:=.pv (num x)) (by
    have:=qTn (A0++[x]) B y;simpa using this) (by
    have:=zWc (A0++[x]) B y x;simpa using this)
   refine⟨A',y',B',by simpa using h1,fun z hz => ?_,h3,?_⟩
   ·rcases h2 z hz with h|h
    ·rcases List.mem_cons.1 h with rfl|h
     ·exact .inr hx
     ·exact .inl h
    ·exact .inr h
   ·exact rk [(19,.G),(23,.z A0.length),(24,.w ⟨.eloc 2 v A0.length 0,none,false⟩),(25,.w ⟨.pv (num x),none,false⟩),(27,.G),(33,.z A0.length),(34,.w ⟨.eloc 2 v A0.length 0,none,false⟩),(35,.w ⟨.pv (num x),none,false⟩),(36,.w ⟨.eloc 2 v (A0.length+1) 0,none,false⟩),(99999,.w ⟨.undef,some (2,.arr v 1 3 (vN (A0++x::x::B))),false⟩),(38,.z A0.length)] k33 k33 (And.intro g1 (And.intro g2 (And.intro g3 (And.intro g4 (And.intro (qQ7 hx) (And.intro g2 (And.intro g3 (And.intro g4 (And.intro g6 (And.intro g7 (And.intro g2 (And.intro (qQo ((A0++x::x::B).map ic)) ih))))))))))))
  ·refine⟨A0++[x],y,B,by simp,fun z hz => .inl hz,fun _=>by simp;omega,?_⟩
   rw [el,ea]
   exact y5 [(19,.G),(23,.z A0.length),(24,.w ⟨.eloc 2 v A0.length 0,none,false⟩),(25,.w ⟨.pv (num x),none,false⟩),(27,.H)] k33 g1 g2 g3 g4 (qZ7 (show x≤n by omega)) (qQo ((A0++x::y::B).map ic))
end
end Go.Proofs.YtalkjpicadiimaaGreatDoor
namespace Go.Lg
section
variable {ev:qVq} {P:Program}
def goT (ev:qVq) (P:Program) (n N nt bs:Nat) (b:Code) (s:IS) (tp:Di) (ko:Kp) (e:AE) (s':IS):Prop :=
 qLl ev P (qHm ev P N n) N nt bs b s tp fun e1 s1 _=>e1=e∧gd (zQb ko bs s1) (qOo s1.ob ko.on (kpT ko s1=s'))
theorem Reach.of_go (he:zJy ev P) {n N nt bs:Nat} {b:Code} {s s':IS} {tp:Di} {ko:Kp} {e:AE} (h:goT ev P n N nt bs b s tp ko e s'):Reach ev P nt bs b s e s':=by
 obtain⟨e1,s1,tp1,h1,rfl,h2⟩:=qZa (qK0 he N n) _ _ _ _ h
 obtain⟨hk,h2⟩:=qK4 h2
 obtain⟨h2,ha⟩:=qVr h2
 exact h2 ▸ h1.keep (qXn hk ha)
theorem Rel.slotT {s:IS} {σ:St} (h:Rel s σ) (d:Nat) (x:V):Rel ⟨s.sl.put d (some x),s.ob,s.nx,s.dt⟩ ⟨(d,x)::σ.slots,σ.objs,σ.used⟩:=by
 refine⟨fun t => ?_,h.ob,h.us⟩
 show (if d=t then x else qZy σ.slots t)=_
 rw [Tr.get_put]
 by_cases e:t=d
 ·subst e;simp
 ·rw [if_neg e,if_neg (fun h=>e h.symm)];exact h.sl t
theorem Rel.objT {s:IS} {σ:St} (h:Rel s σ) (n:Nat) (o:Ob):Rel ⟨s.sl,s.ob.put n (some o),s.nx,s.dt⟩ ⟨σ.slots,qWa σ.objs n o,σ.used⟩:=by
 refine⟨h.sl,fun m => ?_,h.us⟩
 show qQc (qWa σ.objs n o) m=_
 rw [qQv,Tr.get_put]
 by_cases e:m=n
 ·rw [if_pos e,if_pos e]
 ·rw [if_neg e,if_neg e];exact h.ob m
theorem Rel.newT {s:IS} {σ:St} (h:Rel s σ) (o:Ob):Rel ⟨s.sl,s.ob.put s.nx (some o),s.nx+1,s.dt⟩ ⟨σ.slots,qWa σ.objs s.nx o,s.nx::σ.used⟩:=by
 have:=h.objT s.nx o
 exact⟨this.sl,this.ob,fun m hm=>by
  rcases List.mem_cons.1 hm with rfl|hm
  ·exact Nat.lt_succ_self _
  ·exact Nat.lt_succ_of_lt (h.us m hm)⟩
theorem Rel.keep {nt bs:Nat} {X:qZ9} (hX:HX X ev P nt bs) {s s':IS} {σ:St} (h:Rel s σ) (k:Kp) (hk:zQb k bs s=true) (ha:qOo s.ob k.on True) (he:kpT k s=s'):∃ τ,WkX X σ τ∧Rel s' τ:=he ▸ (qXn hk (qVr ha).2).wk hX h
end
end Go.Lg
namespace Go.Proofs.YtalkjpicadiimaaGreatDoor
open Go.Lg
set_option maxRecDepth 100000
def cs1:Code→Code
 | .seq a _=>a
 | c=>c
def cs2:Code→Code
 | .seq _ b=>b
 | c=>c
def cbk:Code→Code
 | .block _ b=>b
 | .loop b=>b
 | c=>c
noncomputable def b33:Code:=lpc 215 0
noncomputable def n33:Code:=cs1 b33
noncomputable def c33:Code:=cs1 (cs2 b33)
noncomputable def e33:Code:=cs1 (cbk (cs2 (cs2 b33)))
noncomputable def r33:Code:=cs2 (cbk (cs2 (cs2 b33)))
theorem zNd:b33 = .seq n33 (.seq c33 (.block 1 (.seq e33 r33))):=by kernel_rfl
theorem zNe:∃ i t1 t2 p1 p2 f1 f2,n33 = .region i #[⟨some 8,.next (.tmp 7) false,t1,p1,f1,none⟩,⟨some 9,.extract (.tmp 8) 0,t2,p2,f2,none⟩] false:=⟨_,_,_,_,_,_,_,rfl⟩
theorem zNf:∃ i t1 t2 t3 p1 p2 p3 f1 f2 f3,e33 = .region i #[⟨some 10,.entry (.tmp 7),t1,p1,f1,none⟩,⟨some 11,.extract (.tmp 10) 0,t2,p2,f2,none⟩,⟨some 4,.assign (.tmp 11),t3,p3,f3,none⟩] false:=⟨_,_,_,_,_,_,_,_,_,_,rfl⟩
noncomputable def a33:Code:=match (fnc 215).body with
 | some c=>c
 | none => .skip
theorem zNg:a33 = .seq (cs1 a33) (.seq (cs1 (cs2 a33)) (.seq (.seq (cs1 (cs1 (cs2 (cs2 a33)))) (.block 0 (.loop b33))) (cs2 (cs2 (cs2 a33))))):=by kernel_rfl
theorem zNh:∃ i t1 t2 p1 p2 f1 f2,cs1 (cs1 (cs2 (cs2 a33))) = .region i #[⟨some 6,.move (.tmp 0),t1,p1,f1,none⟩,⟨some 7,.range 236 (.tmp 6),t2,p2,f2,none⟩] false:=⟨_,_,_,_,_,_,_,rfl⟩
theorem zHw:(fnc 215).ntmps=44:=by kernel_rfl
abbrev Rc (bs f:Nat) (c:Code) (s:IS) (e:AE) (s':IS):Prop:=Go.Lg.Reach ev Tryz.prog (fnc f).ntmps bs c s e s'
section
variable {f bs:Nat} {c:Code} {s s':IS} {e:AE}
theorem rg0 (tp:Di) (ko:Kp) {N:Prop}  (m:N) (q:(e=e∧N∧s'=s')=goT ev Tryz.prog 6 100 (fnc f).ntmps bs c s tp ko e s':=by kernel_rfl):Rc bs f c s e s':=Reach.of_go qEd (q ▸ (⟨rfl,m,rfl⟩:e=e∧N∧s'=s'))
theorem rg1 (tp:Di) (ko:Kp) {H1 N:Prop} (h1:H1) (m:N) (q:(H1∧e=e∧N∧s'=s')=goT ev Tryz.prog 6 100 (fnc f).ntmps bs c s tp ko e s':=by kernel_rfl):Rc bs f c s e s':=Reach.of_go qEd (q ▸ (⟨h1,rfl,m,rfl⟩:H1∧e=e∧N∧s'=s'))
theorem rg2 (tp:Di) (ko:Kp) {H1 H2 N:Prop} (h1:H1) (h2:H2) (m:N) (q:(H1∧H2∧e=e∧N∧s'=s')=goT ev Tryz.prog 6 100 (fnc f).ntmps bs c s tp ko e s':=by kernel_rfl):Rc bs f c s e s':=Reach.of_go qEd (q ▸ (⟨h1,h2,rfl,m,rfl⟩:H1∧H2∧e=e∧N∧s'=s'))
theorem rg3 (tp:Di) (ko:Kp) {H1 H2 H3 N:Prop} (h1:H1) (h2:H2) (h3:H3) (m:N) (q:(H1∧H2∧H3∧e=e∧N∧s'=s')=goT ev Tryz.prog 6 100 (fnc f).ntmps bs c s tp ko e s':=by kernel_rfl):Rc bs f c s e s':=Reach.of_go qEd (q ▸ (⟨h1,h2,h3,rfl,m,rfl⟩:H1∧H2∧H3∧e=e∧N∧s'=s'))
theorem rg4 (tp:Di) (ko:Kp) {H1 H2 H3 H4 N:Prop} (h1:H1) (h2:H2) (h3:H3) (h4:H4) (m:N) (q:(H1∧H2∧H3∧H4∧e=e∧N∧s'=s')=goT ev Tryz.prog 6 100 (fnc f).ntmps bs c s tp ko e s':=by kernel_rfl):Rc bs f c s e s':=Reach.of_go qEd (q ▸ (⟨h1,h2,h3,h4,rfl,m,rfl⟩:H1∧H2∧H3∧H4∧e=e∧N∧s'=s'))
theorem rg6 (tp:Di) (ko:Kp) {H1 H2 H3 H4 H5 H6 N:Prop} (h1:H1) (h2:H2) (h3:H3) (h4:H4) (h5:H5) (h6:H6) (m:N) (q:(H1∧H2∧H3∧H4∧H5∧H6∧e=e∧N∧s'=s')=goT ev Tryz.prog 6 100 (fnc f).ntmps bs c s tp ko e s':=by kernel_rfl):Rc bs f c s e s':=Reach.of_go qEd (q ▸ (⟨h1,h2,h3,h4,h5,h6,rfl,m,rfl⟩:H1∧H2∧H3∧H4∧H5∧H6∧e=e∧N∧s'=s'))
end
section
variable (mv iv:Value) (mo io:Obj)
def hs:Nat→List Nat→IS
 | 0,_=>st [(3,.pv .nils),(7,.loc 1 0)] [(0,.raw mv mo),(1,.raw iv io)] 2 []
 | v+1,L=>st [(3,.arr 2 (v+1) (v+1)),(7,.loc 1 0)] (zYi mv mo iv io (v+1) L) 3 []
def qs (n:Nat):Nat→List Nat→IS
 | 0,_=>st [(3,.pv .nils),(4,.pv (num n)),(7,.loc 1 0)] [(0,.raw mv mo),(1,.raw iv io)] 2 []
 | v+1,L=>st [(3,.arr 2 (v+1) (v+1)),(4,.pv (num n)),(7,.loc 1 0)] (zYi mv mo iv io (v+1) L) 3 []
def zYj:Nat→List Nat→IS
 | 0,_=>st [(3,.pv .nils)] [(0,.raw mv mo)] 3 []
 | v+1,L=>st [(3,.arr 2 (v+1) (v+1))] [(0,.raw mv mo),(2,.arr (v+1) 1 3 (vN L))] 3 []
end
theorem lnA {v len:Nat} : ro (bif Nat.beq v v then some (V.pv (.int (.ofNat len))) else none)=some ⟨.pv (num len),none,false⟩:=by rw [qLb rfl];rfl
theorem zDi {A:List (List PV)} {k v sz ty m:Nat} {c:List PV} (hk:A.length=k) (h0:0<sz) (h1:qAx sz [pvL c]=true) (h2:qJq [pvL c]=true) (h3:k+1≤maxLen) (h4:(k+1) * m≤140737488355328) :
  (Nat.beq v v && Nat.ble k (pvE A).length && Nat.beq ty ty && Nat.beq sz sz && Nat.blt 0 sz && qAx sz [pvL c] && qJq [pvL c] && Nat.ble (k+[pvL c].length) maxLen && Nat.ble ((k+[pvL c].length) * m) 140737488355328)=true:=by
 subst hk
 exact qLu h0 h1 h2 h3 h4
section
variable {mv iv:Value} {mo io:Obj}
theorem zDj (n v:Nat) (L:List Nat) (hv:L.length=v) (hb:v+1≤big) (hm:v+1≤maxLen) (hm':(v+1) * 8≤140737488355328) :
  ∃ A B,A++B=L∧(∀ x∈B,n<x)∧(∀ h:A≠[],A.getLast h≤n)∧Rc 1 215 r33 (qs mv iv mo io n v L) .normal (hs mv iv mo io (v+1) (A++n::B)):=by
 obtain⟨A,y,B,h1,h2,h3,h⟩:=qTo (mv:=mv) (mo:=mo) (iv:=iv) (io:=io) (n:=n) (v:=v+1) (len:=v+1) v L n [] hv (by simp;omega) hb
 rw [List.append_nil] at h1
 have h2:∀ x∈B,n<x:=fun x hx=>(h2 x hx).resolve_left (by simp)
 have hl:A.length+B.length=v:=by rw [← hv,← h1];simp
 have gl:(vN (A++y::B)).length=v+1:=by rw [zWb];simp;omega
 have g6:=ixA (n:=2) (v:=v+1) (k:=A.length) (len:=v+1) (es:=vN (A++y::B)) (by omega) (by omega)
 have g7:=stA (n:=2) (v:=v+1) (k:=A.length) (es:=vN (A++y::B)) (es':=vN (A++n::B)) (y:=.pv (num n)) (qTn A B y) (zWc A B y n)
 refine⟨A,B,h1,h2,h3,?_⟩
 rw [hv] at h
 cases v with
 | zero =>
  have e:=List.length_eq_zero_iff.1 hv
  subst e
  exact rg4 [(100007,.l k33 (.exit 2) (st (zAn 1 1 n A.length) (zYi mv mo iv io 1 (A++y::B)) 3 [])),(42,.w ⟨.eloc 2 1 A.length 0,none,false⟩),(99999,.w ⟨.undef,some (2,.arr 1 1 3 (vN (A++n::B))),false⟩)] ⟨[3,7],[0,1,2],3,[]⟩ (qQo [ic n]) h g6 g7 (qQo ((A++n::B).map ic))
 | succ v =>
  have e1:vN (L++[n])=(vN L).take (v+1)++[pvL (ic n)]:=by
   have:=qJw (L.map ic) (ic n)
   rw [List.length_map,hv] at this
   rw [← this]
   show pvE ((L++[n]).map ic)=_
   rw [List.map_append]
   rfl
  have g5:=zDi (A:=L.map ic) (v:=v+1) (ty:=3) (m:=8) (c:=ic n) (k:=v+1) (by simpa using hv) (show 0<1 by decide) rfl rfl hm hm'
  have g8:qQm ((vN L).take (v+1)++[pvL (ic n)])=[]:=by rw [← e1];exact qQo ((L++[n]).map ic)
  have h:Lp 215 1 1 (st (zAn (v+1+1) (v+1+1) n (v+1)) [(0,.raw mv mo),(1,.raw iv io),(2,.arr (v+1+1) 1 3 ((vN L).take (v+1)++[pvL (ic n)]))] 3 []) (.exit 2) (st (zAn (v+1+1) (v+1+1) n A.length) (zYi mv mo iv io (v+1+1) (A++y::B)) 3 []):=by rw [← e1];exact h
  exact rg6 [(13,.w ⟨.pv (num (v+1)),none,false⟩),(17,.ok),(100007,.l k33 (.exit 2) (st (zAn (v+1+1) (v+1+1) n A.length) (zYi mv mo iv io (v+1+1) (A++y::B)) 3 [])),(42,.w ⟨.eloc 2 (v+1+1) A.length 0,none,false⟩),(99999,.w ⟨.undef,some (2,.arr (v+1+1) 1 3 (vN (A++n::B))),false⟩)] ⟨[3,7],[0,1,2],3,[]⟩ (lnA (v:=v+1) (len:=v+1)) g5 g8 h g6 g7 (qQo ((A++n::B).map ic))
end
end Go.Proofs.YtalkjpicadiimaaGreatDoor
namespace Go.Proofs.YtalkjpicadiimaaGreatDoor
open Go.Lg
set_option maxRecDepth 100000
section
variable {f bs:Nat} {c:Code} {s s':IS} {e:AE}
theorem rz0 (tp:Di) (ko:Kp) (q:(e=e∧s'=s')=goT ev Tryz.prog 6 100 (fnc f).ntmps bs c s tp ko e s':=by kernel_rfl):Rc bs f c s e s':=Reach.of_go qEd (q ▸ (⟨rfl,rfl⟩:e=e∧s'=s'))
end
theorem qEk:∀ {L S:List Nat},Asc L→Asc S→(∀ x,x∈L↔x∈S)→L=S
 | [],[],_,_,_=>rfl
 | [],y::S,_,_,h=>absurd ((h y).2 (List.mem_cons_self ..)) (by simp)
 | x::L,[],_,_,h=>absurd ((h x).1 (List.mem_cons_self ..)) (by simp)
 | x::L,y::S,h1,h2,h=>by
  obtain⟨a1,b1⟩:=List.pairwise_cons.1 h1
  obtain⟨a2,b2⟩:=List.pairwise_cons.1 h2
  have e:x=y:=by
   rcases List.mem_cons.1 ((h x).1 (List.mem_cons_self ..)) with e|hx
   ·exact e
   rcases List.mem_cons.1 ((h y).2 (List.mem_cons_self ..)) with e|hy
   ·exact e.symm
   have:=a1 y hy
   have:=a2 x hx
   omega
  subst e
  rw [qEk b1 b2 fun z=>⟨fun hz=>(List.mem_cons.1 ((h z).1 (List.mem_cons_of_mem _ hz))).resolve_left (fun e=>by have:=a1 z hz;omega),fun hz=>(List.mem_cons.1 ((h z).2 (List.mem_cons_of_mem _ hz))).resolve_left (fun e=>by have:=a2 z hz;omega)⟩]
theorem qL3:∀ {S L:List Nat},Asc L→Asc S→(∀ x∈L,x∈S)→L.length≤S.length
 | S,[],_,_,_=>Nat.zero_le _
 | [],x::L,_,_,h=>absurd (h x (List.mem_cons_self ..)) (by simp)
 | y::S,x::L,h1,h2,h=>by
  obtain⟨a1,b1⟩:=List.pairwise_cons.1 h1
  obtain⟨a2,b2⟩:=List.pairwise_cons.1 h2
  by_cases e:x=y
  ·subst e
   exact Nat.succ_le_succ (qL3 b1 b2 fun z hz=>(List.mem_cons.1 (h z (List.mem_cons_of_mem _ hz))).resolve_left (fun e=>by have:=a1 z hz;omega))
  ·have hx:x∈S:=(List.mem_cons.1 (h x (List.mem_cons_self ..))).resolve_left e
   have:=a2 x hx
   have:=qL3 (S:=S) h1 b2 fun z hz=>(List.mem_cons.1 (h z hz)).resolve_left (fun e=>by
    rcases List.mem_cons.1 hz with rfl|hz
    ·omega
    ·have:=a1 z hz;omega)
   exact Nat.le_succ_of_le this
theorem zYk {A B:List Nat} {n:Nat} (h:Asc (A++B)) (hn:n ∉ A++B) (h1:∀ x∈B,n<x) (h2:∀ h:A≠[],A.getLast h≤n):Asc (A++n::B):=by
 obtain⟨a,b,c⟩:=List.pairwise_append.1 h
 have ha:∀ x∈A,x<n:=by
  intro x hx
  have hne:A≠[]:=fun e=>by subst e;cases hx
  have hl:=h2 hne
  have hx':x≤A.getLast hne:=by
   have e:=List.dropLast_concat_getLast hne
   rw [← e] at hx a
   rcases List.mem_append.1 hx with hx|hx
   ·exact Nat.le_of_lt ((List.pairwise_append.1 a).2.2 x hx _ (by simp))
   ·simp at hx;omega
  have:x≠n:=fun e=>hn (List.mem_append_left _ (e ▸ hx))
  omega
 refine List.pairwise_append.2 ⟨a,List.pairwise_cons.2 ⟨h1,b⟩,fun x hx y hy => ?_⟩
 rcases List.mem_cons.1 hy with rfl|hy
 ·exact ha x hx
 ·exact c x hx y hy
abbrev km (b:Nat):Value:=.map (some b)
abbrev ki' (rb:Nat):Value:=.pointer (some ⟨rb,0,none⟩)
abbrev oi (b ck:Nat) (seen:Array Nat):Obj:=.mapIter (some b) ck seen ck
section
variable {X:qZ9} {b rb ck:Nat} {ms:Array MapEntry} {S:List Nat}
theorem zHx {mv iv:Value} {mo io:Obj} (v:Nat) (L:List Nat) :
  Rc 1 215 (.seq c33 (.block 1 (.seq e33 r33))) ⟨((hs mv iv mo io v L).sl.put 8 (some .undef)).put 9 (some (.pv (.bool false))),(hs mv iv mo io v L).ob,(hs mv iv mo io v L).nx,(hs mv iv mo io v L).dt⟩ (.exit 0) (zYj mv mo v L):=by
 cases v with
 | zero=>exact rz0 [] ⟨[3],[0],3,[]⟩
 | succ v=>exact rg0 [] ⟨[3],[0,2],3,[]⟩ (qQo (L.map ic))
theorem zHy {mv iv:Value} {mo io io':Obj} (v:Nat) (L:List Nat) :
  Rc 1 215 c33 ⟨((hs mv iv mo io v L).sl.put 8 (some .undef)).put 9 (some (.pv (.bool true))),(hs mv iv mo io v L).ob.put 1 (some (.raw iv io')),(hs mv iv mo io v L).nx,(hs mv iv mo io v L).dt⟩ .normal (hs mv iv mo io' v L):=by
 cases v with
 | zero=>exact rz0 [] ⟨[3,7],[0,1],2,[]⟩
 | succ v=>exact rg0 [] ⟨[3,7],[0,1,2],3,[]⟩ (qQo (L.map ic))
theorem zHz (hX:HX X ev Tryz.prog (fnc 215).ntmps 1) {mv iv:Value} {mo io:Obj} (v:Nat) (L:List Nat) (n:Nat) {σ:St} (h:Rel (hs mv iv mo io v L) σ) :
  ∃ τ,WkX X ⟨(4,.pv (num n))::(11,.pv (num n))::(10,.undef)::σ.slots,σ.objs,σ.used⟩ τ∧Rel (qs mv iv mo io n v L) τ:=by
 have h3:=((h.slotT 10 .undef).slotT 11 (.pv (num n))).slotT 4 (.pv (num n))
 cases v with
 | zero=>exact h3.keep hX ⟨[3,4,7],[0,1],2,[]⟩ (by kernel_rfl) True.intro (by kernel_rfl)
 | succ v=>exact h3.keep hX ⟨[3,4,7],[0,1,2],3,[]⟩ (by kernel_rfl) ⟨qQo (L.map ic),True.intro⟩ (by kernel_rfl)
theorem zLl {mv iv:Value} {mo io:Obj} (v:Nat) (L:List Nat) {σ:St} (h:Rel (hs mv iv mo io v L) σ):qZy σ.slots 7 = .loc 1 0∧qQc σ.objs 0=some (.raw mv mo)∧qQc σ.objs 1=some (.raw iv io):=by
 have h1:=h.sl 7
 have h2:=h.ob 0
 have h3:=h.ob 1
 cases v<;>exact⟨h1,h2,h3⟩
structure zH0 (ms:Array MapEntry) (seen:Array Nat) (L:List Nat):Prop where
 asc:Asc L
 mem:∀ x:Nat,x∈L ↔ ∃ e∈ms.toList,e.key = .int .i64 (.ofNat x)∧seen.contains e.born=true
structure zAo (ms:Array MapEntry) (ck:Nat) (S:List Nat):Prop where
 hold:∀ x∈ms.toList,x.born<ck
 nd:(ms.toList.map (·.born)).Nodup
 kn:∀ e∈ms.toList,∃ z:Nat,e.key = .int .i64 (.ofNat z)
 inj:∀ e∈ms.toList,∀ e'∈ms.toList,e.key=e'.key→e=e'
 asc:Asc S
 mem:∀ x:Nat,x∈S ↔ ∃ e∈ms.toList,e.key = .int .i64 (.ofNat x)
 len:S.length≤8589934592
theorem qNk:∀ {l:List MapEntry},(l.map (·.born)).Nodup→∀ {e e':MapEntry},e∈l→e'∈l→e.born=e'.born→e=e'
 | x::l,h,e,e',he,he',hb=>by
  obtain⟨h1,h2⟩:=List.nodup_cons.1 h
  rcases List.mem_cons.1 he with k1|k1<;>rcases List.mem_cons.1 he' with k2|k2
  ·rw [k1,k2]
  ·exact absurd (List.mem_map.2 ⟨e',k2,by rw [← hb,k1]⟩) h1
  ·exact absurd (List.mem_map.2 ⟨e,k1,by rw [hb,k2]⟩) h1
  ·exact qNk h2 k1 k2 hb
theorem zWd (hX:HX X ev Tryz.prog (fnc 215).ntmps 1) (hM:zAo ms ck S) (seen:Array Nat) (v:Nat) (L:List Nat) (σ:St) (hW:zH0 ms seen L) (hv:L.length=v) (hR:Rel (hs (km b) (ki' rb) (.map ms ck) (oi b ck seen) v L) σ) (Q:AEx→St→Prop)
  (q1:∀ σ',qLk (.exit 0) (zYj (km b) (.map ms ck) S.length S) (.exit 0) σ'→Q (.exit 0) σ')
  (q2:∀ seen' L' σ',(leftOf ms seen').size<(leftOf ms seen).size→zH0 ms seen' L'→L'.length=v+1→Rel (hs (km b) (ki' rb) (.map ms ck) (oi b ck seen') (v+1) L') σ'→Q .normal σ'):AWP X b33 σ Q:=by
 have hnt:X.nt=44:=by rw [hX.nt];exact zHw
 have hsub:∀ x∈L,x∈S:=fun x hx=>by
  obtain⟨e,he,h1,_⟩:=(hW.mem x).1 hx
  exact (hM.mem x).2 ⟨e,he,h1⟩
 obtain⟨g1,g2,g3⟩:=zLl v L hR
 rw [zNd]
 refine AWP.seq ?_
 obtain⟨i,t1,t2,p1,p2,f1,f2,hn⟩:=zNe
 rw [hn]
 refine AWP.next (n:=0) (r:=1) (by decide) g1 g2 g3 hM.hold (Nat.le_refl _) (by rw [hnt];decide) (by rw [hnt];decide) ?_ ?_
 ·intro h0
  have e:L=S:=qEk hW.asc hM.asc fun x=>⟨fun hx=>hsub x hx,fun hx=>by
   obtain⟨e,he,h1⟩:=(hM.mem x).1 hx
   exact (hW.mem x).2 ⟨e,he,h1,all_seen ms seen h0 e he⟩⟩
  have hR1:=(hR.slotT 8 .undef).slotT 9 (.pv (.bool false))
  refine AWP.mono ((zHx v L).awp X hX _ hR1) ?_
  rintro ae σ' ⟨rfl,h⟩
  rw [hv.symm,e] at h
  exact q1 σ' ⟨rfl,h⟩
 ·intro e he
  obtain⟨hem,hes⟩:=mem_left he
  obtain⟨n,hz⟩:=hM.kn e hem
  have hR1:=((hR.slotT 8 .undef).slotT 9 (.pv (.bool true))).objT 1 (.raw (ki' rb) (oi b ck (seen.push e.born)))
  refine AWP.seq (AWP.mono ((zHy v L).awp X hX _ hR1) ?_)
  rintro ae σ' ⟨rfl,hR2⟩
  refine AWP.block (AWP.seq ?_)
  obtain⟨g1,g2,g3⟩:=zLl v L hR2
  obtain⟨i,t1,t2,t3,p1,p2,p3,f1,f2,f3,hn⟩:=zNf
  rw [hn]
  refine AWP.entry g1 g2 g3 hem hM.nd hz (by rw [hnt];decide) (by rw [hnt];decide) (by rw [hnt];decide) ?_
  obtain⟨τ,hw,hR3⟩:=zHz hX v L n hR2
  have hnL:n ∉ L:=fun hn=>by
   obtain⟨e',he',h1,h2⟩:=(hW.mem n).1 hn
   rw [hM.inj e hem e' he' (hz.trans h1.symm),h2] at hes
   cases hes
  have hlt:=qL3 hW.asc hM.asc hsub
  have hSl:=hM.len
  obtain⟨A,B,e1,h2,h3,hr⟩:=zDj (mv:=km b) (iv:=ki' rb) (mo:=.map ms ck) (io:=oi b ck (seen.push e.born)) n v L hv (by simp only [big];omega) (by simp only [maxLen];omega) (by omega)
  refine AWP.wkX hw (AWP.mono (hr.awp X hX τ hR3) ?_)
  rintro ae σ3 ⟨rfl,hR4⟩
  refine q2 (seen.push e.born) (A++n::B) σ3 (left_shrinks ms seen e he) ⟨zYk (e1 ▸ hW.asc) (e1 ▸ hnL) h2 h3,fun x => ?_⟩ (by have:=congrArg List.length e1;simp at this ⊢;omega) hR4
  have hx:x∈A++n::B↔x=n∨x∈L:=by rw [← e1];simp;constructor<;>(rintro (h|h|h)<;>simp [h])
  rw [hx,hW.mem]
  constructor
  ·rintro (rfl|⟨e',he',h1,h2⟩)
   ·exact⟨e,hem,hz,by simp⟩
   ·exact⟨e',he',h1,by simp at h2 ⊢;exact .inl h2⟩
  ·rintro⟨e',he',h1,h2⟩
   by_cases hq:seen.contains e'.born=true
   ·exact .inr ⟨e',he',h1,hq⟩
   ·have hb:e'.born=e.born:=by simp at h2 hq;exact h2.resolve_left hq
    have:=qNk hM.nd he' hem hb
    subst this
    rw [hz] at h1
    left
    simp at h1
    omega
theorem zWe (hX:HX X ev Tryz.prog (fnc 215).ntmps 1) (hM:zAo ms ck S):∀ (k:Nat) (seen:Array Nat) (v:Nat) (L:List Nat) (σ:St),(leftOf ms seen).size≤k→zH0 ms seen L→L.length=v →
   Rel (hs (km b) (ki' rb) (.map ms ck) (oi b ck seen) v L) σ→qXa X b33 (qLk (.exit 0) (zYj (km b) (.map ms ck) S.length S)) (k+1) σ
 | 0,seen,v,L,σ,hk,hW,hv,hR=>qX4 (zWd hX hM seen v L σ hW hv hR _ (fun _ h=>h) (fun _ _ _ h=>by omega))
 | k+1,seen,v,L,σ,hk,hW,hv,hR=>qX4 (zWd hX hM seen v L σ hW hv hR _ (fun _ h=>h) (fun seen' L' σ' h hW' hv' hR'=>zWe hX hM k seen' (v+1) L' σ' (by omega) hW' hv' hR'))
end
end Go.Proofs.YtalkjpicadiimaaGreatDoor
namespace Go.Lg
theorem qTp {ev:qVq} {P:Program} {f m nx:Nat} {args:List V} {objs:List (Nat × Ob)} {ks:List Nat} {y:V} {ro o1:List (Nat × Ob)} (hd:qRz (qJ9 objs)=true) (hk:zKm (qJ9 objs) ks=true)
  (hC:Called P ev.gl ⟨.nil,obL objs .nil,m,[]⟩ f args ⟨y,[],[],nx⟩ ks ro o1):AC P ev.gl f args objs (.ret y) objs:=by
 have hd:=qXm hd
 rw [qZn] at hd
 have hk:=qCp hk
 rw [qZn] at hk
 have hs0:∀ k,(obL objs .nil).get k=qQc objs k:=fun k=>by
  rw [qFp objs _ hd]
  cases qQc objs k<;>rfl
 have h1:o1=[]:=by
  cases o1 with
  | nil=>rfl
  | cons p r=>have:=hC.inch p.1 (keysO_mem.2 ⟨p.2,List.mem_cons_self ..⟩);cases this
 subst h1
 have hsub:∀ p∈ro,qQc objs p.1=some p.2:=fun p hp=>by rw [← hs0];exact hC.subs p (by simpa using hp)
 have hget:∀ k,qQc ro k=qQc objs k:=by
  intro k
  cases e:qQc ro k with
  | some o=>exact (hsub (k,o) (qVk e)).symm
  | none =>
   cases e2:qQc objs k with
   | none=>rfl
   | some o =>
    have h1:=hC.all k (hk k (getO_iff.2 (by rw [e2];rfl)))
    rw [List.append_nil,getO_iff,e] at h1
    cases h1
 have hac:AC P ev.gl f args ro (.ret y) ro:=by simpa using hC.ac
 refine AC.cong hac hget hget fun k hk => ?_
 obtain⟨p,hp,hkp⟩:=mem_mentO.1 hk
 exact mem_mentO.2 ⟨p,qVk (hsub p hp),hkp⟩
end Go.Lg
namespace Go.Proofs.YtalkjpicadiimaaGreatDoor
open Go.Lg
set_option maxRecDepth 100000
def se (U:List Nat):List (SK × V):=U.map fun n=>(.int (.ofNat n),.pv (.bool true))
theorem qQu:∀ U:List Nat,qZg (se U)=[]
 | []=>rfl
 | n::U=>by show ([]:List Nat)++qZg (se U)=[];rw [qQu U];rfl
theorem qNl {E E':Env} : ∀ {U:List Nat} {ms:List MapEntry},EntsS E false (se U) ms→EntsS E' false (se U) ms
 | [],[],_=>True.intro
 | n::U,e::ms,h=>⟨⟨h.1.1,h.1.2.1,h.1.2.2.1,h.1.2.2.2⟩,qNl h.2⟩
 | [],_::_,h=>h.elim
 | _::_,[],h=>h.elim
theorem qId {E:Env} : ∀ {U:List Nat} {ms:List MapEntry},EntsS E false (se U) ms→ms.map (·.key)=U.map fun n => .int .i64 (.ofNat n)
 | [],[],_=>rfl
 | n::U,e::ms,h=>by
  show e.key::ms.map (·.key)=_::U.map _
  rw [qId h.2,h.1.1]
  rfl
 | [],_::_,h=>h.elim
 | _::_,[],h=>h.elim
theorem qTq:∀ {l:List MapEntry},(l.map (·.key)).Nodup→∀ {e e':MapEntry},e∈l→e'∈l→e.key=e'.key→e=e'
 | x::l,h,e,e',he,he',hb=>by
  obtain⟨h1,h2⟩:=List.nodup_cons.1 h
  rcases List.mem_cons.1 he with k1|k1<;>rcases List.mem_cons.1 he' with k2|k2
  ·rw [k1,k2]
  ·exact absurd (List.mem_map.2 ⟨e',k2,by rw [← hb,k1]⟩) h1
  ·exact absurd (List.mem_map.2 ⟨e,k1,by rw [hb,k2]⟩) h1
  ·exact qTq h2 k1 k2 hb
theorem qO2 {U:List Nat} (h:U.Nodup):(U.map fun n=>Value.int .i64 (.ofNat n)).Nodup:=by
 refine List.Pairwise.map _ (fun a b hab e=>hab ?_) h
 have:Int.ofNat a=Int.ofNat b:=(Value.int.injEq .. ▸ e).2
 exact Int.ofNat.inj this
structure qEl (U S:List Nat):Prop where
 nd:U.Nodup
 asc:Asc S
 mem:∀ x:Nat,x∈S↔x∈U
 len:S.length≤8589934592
theorem zH1 {E:Env} {U S:List Nat} {ms:Array MapEntry} {ck:Nat} (h:qEl U S) (he:EntsS E false (se U) ms.toList) (hs:StampOK ms.toList ck):zAo ms ck S:=by
 have hk:=qId he
 have hmem:∀ v,(∃ e∈ms.toList,e.key=v) ↔ ∃ n∈U,Value.int .i64 (.ofNat n)=v:=fun v=>by
  have:v∈ms.toList.map (·.key)↔v∈U.map fun n=>Value.int .i64 (.ofNat n):=by rw [hk]
  simpa only [List.mem_map] using this
 refine⟨hs.1,hs.2,fun e he => ?_,fun e he e' he' hkk=>qTq (hk ▸ qO2 h.nd) he he' hkk,h.asc,fun x => ?_,h.len⟩
 ·obtain⟨n,_,e2⟩:=(hmem e.key).1 ⟨e,he,rfl⟩
  exact⟨n,e2.symm⟩
 ·rw [h.mem,hmem]
  constructor
  ·exact fun hx=>⟨x,hx,rfl⟩
  ·rintro⟨n,hn,e⟩
   have:Int.ofNat n=Int.ofNat x:=(Value.int.injEq .. ▸ e).2
   rwa [← Int.ofNat.inj this]
section
variable {b rb ck:Nat} {ms:Array MapEntry} {S:List Nat}
theorem zNi (hM:zAo ms ck S):Lp 215 0 1 (hs (km b) (ki' rb) (.map ms ck) (oi b ck #[]) 0 []) (.exit 0) (zYj (km b) (.map ms ck) S.length S):=by
 refine⟨fun sub hI => ?_,(leftOf ms #[]).size+1,fun X hX σ hR=>zWe hX hM _ #[] 0 [] σ (Nat.le_refl _) ⟨List.Pairwise.nil,fun x=>⟨fun h=>(by cases h),fun ⟨e,_,_,h⟩=>(by simp at h)⟩⟩ rfl hR⟩
 have h0:∀ n,n<1→n=0:=fun n h=>by omega
 have g0:∀ v,(zYj (km b) (.map ms ck) v S).ob.get 0=some (.raw (km b) (.map ms ck)):=fun v=>by cases v<;>rfl
 have g1:∀ v,(zYj (km b) (.map ms ck) v S).dt=[]∧(zYj (km b) (.map ms ck) v S).nx=3:=fun v=>by cases v<;>exact⟨rfl,rfl⟩
 refine⟨by rw [(g1 _).2];omega,fun n hn _ => ?_,fun n hn _ => ?_,hI.names,fun n hn => ?_⟩
 ·rw [h0 n hn,g0];exact hI.same 0 (by omega) (by simp [hs])
 ·rw [h0 n hn];exact hI.old 0 (by omega) rfl
 ·rw [(g1 _).1] at hn;cases hn
def zWf (o:Ob):List Nat→IS
 | []=>st [(3,.pv .nils)] [(0,o)] 3 []
 | x::S=>st [(3,.pv (qQk (x::S)))] [(0,o)] 3 []
theorem zH2 (hM:zAo ms ck S):Lp 215 0 1 (hs (km b) (ki' rb) (.map ms ck) (oi b ck #[]) 0 []) (.exit 0) (zWf (.raw (km b) (.map ms ck)) S):=by
 have h:=zNi (b:=b) (rb:=rb) hM
 cases S with
 | nil=>exact h
 | cons x S =>
  have h2:=LoopIs.fz (by simp) (show Lp 215 0 1 _ (.exit 0) (st [(3,.arr 2 (S.length+1) (S.length+1))] [(0,.raw (km b) (.map ms ck)),(2,.arr (S.length+1) 1 3 (pvE ((x::S).map ic)))] 3 []) from h) 2 (ver:=S.length+1) (sz:=1) (ty:=3) (ps:=(x::S).map ic) rfl (by kernel_rfl)
  have e:((x::S).map ic).take (S.length+1)=(x::S).map ic:=List.take_of_length_le (by simp)
  simp (decide:=true) only [fzS,fzO,qB8,qJo,qC5,qGn,and_self,↓reduceIte,e] at h2
  exact h2
abbrev qZr (U:List Nat):Ob:=.smap false (se U)
abbrev zH3 (U:List Nat):IS:=st [(0,.map 0),(3,.pv .nils)] [(0,qZr U)] 1 []
theorem zNj:Tryz.prog.underlying 236=some (.map 3 4):=by kernel_rfl
noncomputable abbrev m33:Code:=.seq (cs1 (cs1 (cs2 (cs2 a33)))) (.block 0 (.loop b33))
theorem zYl {X:qZ9} (hX:HX X ev Tryz.prog (fnc 215).ntmps 1) (hM:zAo ms ck S) {U:List Nat} {σ:St} (hR:Rel (zH3 U) σ) :
  AWP X m33 ⟨σ.slots,qWa σ.objs 0 (.raw (km b) (.map ms ck)),σ.used⟩ (qLk .normal (zWf (.raw (km b) (.map ms ck)) S)):=by
 have hnt:X.nt=44:=by rw [hX.nt];exact zHw
 have hR1:=hR.objT 0 (.raw (km b) (.map ms ck))
 refine AWP.seq ?_
 obtain⟨i,t1,t2,p1,p2,f1,f2,hn⟩:=zNh
 rw [hn]
 refine AWP.range (n:=0) (r:=1) (b:=b) (ck:=ck) (ms:=ms) (hR.sl 0) (hR1.ob 0) (fun h=>(by have:1<1:=hR.us 1 h;exact absurd this (by decide))) (by rw [hX.P];exact zNj) (by rw [hnt];decide) (by rw [hnt];decide) ?_
 intro rb
 have hR2:=((hR1.slotT 6 (.map 0)).slotT 7 (.loc 1 0)).newT (.raw (ki' rb) (oi b ck #[]))
 obtain⟨τ,hw,hR3⟩:=hR2.keep hX (s':=hs (km b) (ki' rb) (.map ms ck) (oi b ck #[]) 0 []) ⟨[3,7],[0,1],2,[]⟩ (by kernel_rfl) (cast (show True=qOo _ _ True by kernel_rfl) True.intro) (by kernel_rfl)
 refine AWP.wkX hw (AWP.block (AWP.mono ((zH2 hM).reach.awp X hX τ hR3) ?_))
 rintro ae σ' ⟨rfl,h⟩
 exact⟨rfl,h⟩
theorem zDk {U:List Nat} (hU:qEl U S):Rc 1 215 m33 (zH3 U) .normal (zWf (qZr U) S):=by
 refine⟨fun sub hI => ?_,fun X hX σ hR C E a w hC hG => ?_⟩
 ·have h0:∀ n,n<1→n=0:=fun n h=>by omega
  have g0:(zWf (qZr U) S).ob.get 0=some (qZr U):=by cases S<;>rfl
  have g1:(zWf (qZr U) S).dt=[]∧(zWf (qZr U) S).nx=3:=by cases S<;>exact⟨rfl,rfl⟩
  refine⟨by rw [g1.2];omega,fun n hn _ => ?_,fun n hn _ => ?_,hI.names,fun n hn => ?_⟩
  ·rw [h0 n hn,g0];exact hI.same 0 (by omega) (by simp)
  ·rw [h0 n hn];exact hI.old 0 (by omega) rfl
  ·rw [g1.1] at hn;cases hn
 ·have ho:qQc σ.objs 0=some (qZr U):=hR.ob 0
  obtain⟨b,ms,ck,hg,hcell,hfree,hents,hst⟩:=hG.objs 0 _ ho
  have hG1:=hG.swapO (o':=.raw (km b) (.map ms ck)) ho ⟨hg,b,rfl,hcell,hfree⟩ (by simp [Ob.names])
  refine wp_mono (zYl hX (zH1 hU hents hst) hR C E a w hC hG1) ?_
  rintro e a' w' ⟨E',σ',ae,hG',hrel,rfl,hR'⟩
  have ho':qQc σ'.objs 0=some (.raw (km b) (.map ms ck)):=by rw [hR'.ob 0];cases S<;>rfl
  obtain⟨hg',b',hb',hcell',hfree'⟩:=hG'.objs 0 _ ho'
  cases hb'
  have hG2:=hG'.swapO (o':=qZr U) ho' ⟨b,ms,ck,hg',hcell',hfree',qNl hents,hst⟩ (by simp [Ob.names,qQu])
  refine⟨E',_,.normal,hG2,hrel,rfl,?_⟩
  have hR2:=hR'.objT 0 (qZr U)
  cases S<;>exact⟨hR2.sl,fun n=>(hR2.ob n).trans (by simp only [zWf,Tr.get_put];by_cases e:n=0<;>simp [e,obL,Tr.get_put];done),hR2.us⟩
end
end Go.Proofs.YtalkjpicadiimaaGreatDoor
namespace Go.Lg
end Go.Lg
namespace Go.Proofs.YtalkjpicadiimaaGreatDoor
open Go.Lg
set_option maxRecDepth 100000
theorem qNm (U:List Nat) (m:Nat) (hm:Nat.blt 0 m=true):reach m (obL [(0,qZr U)] .nil) 1000000 [0] .nil []=some (Tr.nil.put 0 (some (qZr U)),[0]):=by
 have e:reach m (obL [(0,qZr U)] .nil) 1000000 [0] .nil []=bif Nat.blt 0 m then reach m (obL [(0,qZr U)] .nil) 999999 (qZg (se U)++[]) (Tr.nil.put 0 (some (qZr U))) [0] else none:=by kernel_rfl
 rw [e,hm,qQu]
 rfl
def zE8:List Nat→PV
 | [] => .nils
 | x::S=>qQk (x::S)
theorem zNk:∀ S:List Nat,PV.w 4 (zE8 S)=qQk S
 | []=>rfl
 | _::_=>rfl
section
variable {U S:List Nat}
theorem p33_0:Rc 1 215 (cs1 a33) ⟨qJe 0 [.map 0] .nil,Tr.nil.put 0 (some (qZr U)),1,[]⟩ .normal (st [(0,.map 0)] [(0,qZr U)] 1 []):=rg0 [] ⟨[0],[0],1,[]⟩ (qQu U)
theorem p33_1:Rc 1 215 (cs1 (cs2 a33)) (st [(0,.map 0)] [(0,qZr U)] 1 []) .normal (zH3 U):=rg0 [] ⟨[0,3],[0],1,[]⟩ (qQu U)
theorem zH4:Rc 1 215 (cs2 (cs2 (cs2 a33))) (zWf (qZr U) S) .ret (st [(2,.pv (zE8 S))] [(0,qZr U)] 3 []):=by
 cases S with
 | nil=>exact rg0 [] ⟨[2],[0],3,[]⟩ (qQu U)
 | cons x S=>exact rg0 [] ⟨[2],[0],3,[]⟩ (qQu U)
theorem zYm (hU:qEl U S):Rc 1 215 a33 ⟨qJe 0 [.map 0] .nil,Tr.nil.put 0 (some (qZr U)),1,[]⟩ .ret (st [(2,.pv (zE8 S))] [(0,qZr U)] 3 []):=by
 rw [zNg]
 exact p33_0.seq (p33_1.seq ((zDk hU).seq zH4))
theorem zDl (hU:qEl U S):O 215 [.map 0] [(0,qZr U)] (.pv (qQk S)) [(0,qZr U)]:=by
 obtain⟨ro,o1,hC⟩:=qBb (s:=⟨.nil,obL [(0,qZr U)] .nil,1,[]⟩) (qCr (zYm hU)) qEd (f:=215) (fn:=fnc 215) (c:=a33) (by kernel_rfl) (by kernel_rfl) (args:=[.map 0]) (by rw [zHw];decide) (qNm U 1 rfl) (r:=⟨.pv (zE8 S),[],[],3⟩) (by
  unfold qD8 zY7
  simp only [and_self,if_true]
  cases S<;>kernel_rfl)
 have h:=qTp (objs:=[(0,qZr U)]) (by kernel_rfl) (by kernel_rfl) hC
 rw [← zNk S]
 exact AC.wO 4 h
end
end Go.Proofs.YtalkjpicadiimaaGreatDoor
namespace Go.Lg
theorem qTr {ev:qVq} {P:Program} {f m nx:Nat} {args:List V} {objs ch:List (Nat × Ob)} {ks:List Nat} {y:V} {ro o1:List (Nat × Ob)} (hd:qRz (qJ9 objs)=true) (hk:zKm (qJ9 objs) ks=true) (hn:qRz (qJ9 ch)=true)
  (hC:Called P ev.gl ⟨.nil,obL objs .nil,m,[]⟩ f args ⟨y,ch,[],nx⟩ ks ro o1):AC P ev.gl f args objs (.ret y) (zY6 ch objs):=by
 have hd:=qXm hd
 rw [qZn] at hd
 have hk:=qCp hk
 rw [qZn] at hk
 have hn:=qXm hn
 rw [qZn] at hn
 have hs0:∀ k,(obL objs .nil).get k=qQc objs k:=fun k=>by
  rw [qFp objs _ hd]
  cases qQc objs k<;>rfl
 have hsub:∀ p∈ro++o1,qQc objs p.1=some p.2:=fun p hp=>by rw [← hs0];exact hC.subs p hp
 have hget:∀ k,qQc (ro++o1) k=qQc objs k:=by
  intro k
  cases e:qQc (ro++o1) k with
  | some o=>exact (hsub (k,o) (qVk e)).symm
  | none =>
   cases e2:qQc objs k with
   | none=>rfl
   | some o =>
    have h1:=hC.all k (hk k (getO_iff.2 (by rw [e2];rfl)))
    rw [getO_iff,e] at h1
    cases h1
 refine AC.cong hC.ac hget (fun k => ?_) (fun k hk => ?_)
 ·rw [qFq,← hget,List.append_nil,qYa,qYa]
  cases e:qQc ro k with
  | some o =>
   have h1:=(hC.apart k (getO_iff.2 (by rw [e];rfl))).2
   have h2:qQc ch k=none:=by
    cases e2:qQc ch k with
    | none=>rfl
    | some o=>exact absurd (by simpa using getO_iff.2 (by rw [e2];rfl)) h1
   simp only [Option.map_some,qX9,h2]
  | none =>
   simp only
   cases e2:qQc o1 k with
   | some o =>
    have h1:=hC.inch k (getO_iff.2 (by rw [e2];rfl))
    obtain⟨o',ho'⟩:=Option.isSome_iff_exists.1 (getO_iff.1 h1)
    have ho':qQc ch k=some o':=ho'
    simp only [Option.map_some,qX9,ho']
   | none =>
    cases e3:qQc ch k with
    | none=>rfl
    | some o =>
     have h1:=(hC.chs k (getO_iff.2 (by rw [e3];rfl))).2.2
     rw [getO_iff,e2] at h1
     cases h1
 ·obtain⟨p,hp,hkp⟩:=mem_mentO.1 hk
  exact mem_mentO.2 ⟨p,qVk (hsub p hp),hkp⟩
end Go.Lg
namespace Go.Proofs.YtalkjpicadiimaaGreatDoor
open Go.Lg
set_option maxRecDepth 100000
def qBj:List Nat→Nat→List Nat
 | [],n=>[n]
 | m::U,n=>if n=m then m::U else m::qBj U n
theorem mem_ins1:∀ {U:List Nat} {n x:Nat},x∈qBj U n↔x=n∨x∈U
 | [],n,x=>by simp [qBj]
 | m::U,n,x=>by
  unfold qBj
  split
  ·rename_i e;subst e;simp
  ·rw [List.mem_cons,mem_ins1 (U:=U),List.mem_cons];constructor<;>(rintro (h|h|h)<;>simp [h])
theorem qL4:∀ {U:List Nat} {n:Nat},U.Nodup→(qBj U n).Nodup
 | [],n,_=>by simp [qBj]
 | m::U,n,h=>by
  obtain⟨h1,h2⟩:=List.nodup_cons.1 h
  unfold qBj
  split
  ·exact h
  ·rename_i e
   exact List.nodup_cons.2 ⟨fun hm=>(mem_ins1.1 hm).elim (fun h=>e h.symm) h1,qL4 h2⟩
theorem qGd:∀ (U:List Nat) (n:Nat),(qBj U n).length≤U.length+1
 | [],n=>by simp [qBj]
 | m::U,n=>by
  unfold qBj
  split
  ·simp
  ·have:=qGd U n;simp;omega
theorem qTs:∀ (U:List Nat) (n:Nat),qGm (se U) (.int (.ofNat n)) (.pv (.bool true))=se (qBj U n)
 | [],n=>rfl
 | m::U,n=>by
  show (bif SK.eqB (.int (.ofNat n)) (.int (.ofNat m)) then _::se U else _::qGm (se U) _ _)=_
  unfold qBj
  by_cases e:n=m
  ·subst e
   rw [(SK.eqB_iff _ _).2 rfl,if_pos rfl]
   rfl
  ·rw [if_neg e]
   have:SK.eqB (.int (.ofNat n)) (.int (.ofNat m))=false:=by
    cases h:SK.eqB (.int (.ofNat n)) (.int (.ofNat m)) with
    | false=>rfl
    | true=>have:=(SK.eqB_iff _ _).1 h;injection this with h;exact absurd (Int.ofNat.inj h) e
   rw [this,cond_false,qTs U n]
   rfl
theorem qTt (k:Nat) (U:List Nat) (n:Nat):some (⟨.undef,some (k,.smap false (qGm (se U) (.int (.ofNat n)) (.pv (.bool true)))),false⟩:RB)=some ⟨.undef,some (k,qZr (qBj U n)),false⟩:=by rw [qTs]
def qJj:Tm→Nat→List Nat→List Nat
 | .v i,c,U=>if c≤i then qBj U (i-c) else U
 | .lam _ b,c,U=>qJj b (c+1) U
 | .n0 _,_,U=>U
 | .n1 _ a,c,U=>qJj a c U
 | .n2 _ a b,c,U=>qJj b c (qJj a c U)
 | .n3 _ _ a b d,c,U=>qJj d c (qJj b c (qJj a c U))
noncomputable def b32:Code:=match (fnc 303).body with
 | some c=>c
 | none => .skip
abbrev zNl (t:Tm) (c:Nat) (U:List Nat):IS:=⟨qJe 0 [.pv t.p,.pv (num c),.map 0] .nil,Tr.nil.put 0 (some (qZr U)),1,[]⟩
theorem o32 {t:Tm} {c:Nat} {U U':List Nat} (h:Rc 1 303 b32 (zNl t c U) .normal (st [] [(0,qZr U')] 2 [0])):O 303 [.pv t.p,.pv (num c),.map 0] [(0,qZr U)] (.pv (.tuple [])) [(0,qZr U')]:=by
 obtain⟨ro,o1,hC⟩:=qBb (s:=⟨.nil,obL [(0,qZr U)] .nil,1,[]⟩) (qCr h) qEd (f:=303) (fn:=fnc 303) (c:=b32) (by kernel_rfl) (by kernel_rfl) (args:=[.pv t.p,.pv (num c),.map 0]) (Nat.le_of_ble_eq_true (show Nat.ble 3 (fnc 303).ntmps=true by kernel_rfl)) (qNm U 1 rfl) (r:=⟨.pv (.tuple []),[(0,qZr U')],[],2⟩) (by
  unfold qD8 zY7
  simp only [and_self,if_true]
  have e:zY4 ev.T 1 (Tr.nil.put 0 (some (qZr U))) (fnc 303).results.toList .normal (st [] [(0,qZr U')] 2 [0])=(match qAd 1 2 (Tr.nil.put 0 (some (qZr U))) (obL [(0,qZr U')] .nil) 1000000 (qZg (se U')++[]) .nil [] with
   | some nw=>some ⟨.pv (.tuple []),[(0,qZr U')],nw,2⟩
   | none=>none):=by kernel_rfl
  refine e.trans ?_
  rw [qQu]
  rfl)
 exact AC.wO 4 (qTr (objs:=[(0,qZr U)]) (by kernel_rfl) (by kernel_rfl) (by kernel_rfl) hC)
theorem ad0 {c:Nat} (h:c≤mid):inB (Int.ofNat c+0)=true∧Int.ofNat c+0 = .ofNat c:=⟨by rw [Int.add_zero];exact inN (by have:=qQd;omega),Int.add_zero _⟩
theorem ad1 {c:Nat} (h:c+1≤mid):inB (Int.ofNat c+1)=true∧Int.ofNat c+1 = .ofNat (c+1):=⟨inN (n:=c+1) (by have:=qQd;omega),rfl⟩
theorem sbc {i c:Nat} (h:c≤i) (hi:i≤mid * mid):inB (Int.ofNat i-Int.ofNat c)=true∧Int.ofNat i-Int.ofNat c = .ofNat (i-c):=by
 have e:Int.ofNat i-Int.ofNat c = .ofNat (i-c):=by simp;omega
 exact⟨by rw [e];exact inN (by have e2:mid * mid=1125899906842624:=rfl;omega),e⟩
abbrev k32:Kp:=⟨[],[0],2,[0]⟩
theorem a32:∀ (t:Tm) (c:Nat) (U:List Nat),c+t.cnt≤mid→t.mx≤mid * mid→O 303 [.pv t.p,.pv (num c),.map 0] [(0,qZr U)] (.pv (.tuple [])) [(0,qZr (qJj t c U))]
 | .v i,c,U,h1,h2=>by
  unfold qJj
  by_cases h:c≤i
  ·rw [if_pos h]
   exact o32 (rg3 [(15,.G),(21,.z (i-c)),(99999,.w ⟨.undef,some (0,qZr (qBj U (i-c))),false⟩)] k32 (show (!ltI (.ofNat i) (.ofNat c))=true by rw [qZ7 h];rfl) (sbc h h2) (qTt 0 U (i-c)) (qQu (qBj U (i-c))))
  ·rw [if_neg h]
   exact o32 (rg1 [(15,.H)] k32 (show (!ltI (.ofNat i) (.ofNat c))=false by rw [qQ7 (by omega)];rfl) (qQu U))
 | .n0 k,c,U,h1,h2=>by cases k<;>exact o32 (rg0 [] k32 (qQu U))
 | .lam s b,c,U,h1,h2=>by
  simp only [Tm.cnt] at h1
  have g:=a32 b (c+1) U (by omega) h2
  exact o32 (rg2 [(33,.z (c+1)),(35,.d 0 (qZr (qJj b (c+1) U)) (.pv (.tuple [])))] k32 (ad1 (c:=c) (by omega)) g (qQu (qJj b (c+1) U)))
 | .n1 k a,c,U,h1,h2=>by
  simp only [Tm.cnt] at h1
  have g:=a32 a c U (by omega) h2
  cases k<;>exact o32 (rg2 [(33,.z c),(35,.d 0 (qZr (qJj a c U)) (.pv (.tuple [])))] k32 (ad0 (c:=c) (by omega)) g (qQu (qJj a c U)))
 | .n2 k a b,c,U,h1,h2=>by
  simp only [Tm.cnt] at h1
  simp only [Tm.mx] at h2
  have g:=a32 a c U (by omega) (by omega)
  have g':=a32 b c (qJj a c U) (by omega) (by omega)
  cases k<;>exact o32 (rg4 [(33,.z c),(35,.d 0 (qZr (qJj a c U)) (.pv (.tuple []))),(33,.z c),(35,.d 0 (qZr (qJj b c (qJj a c U))) (.pv (.tuple [])))] k32 (ad0 (c:=c) (by omega)) g (ad0 (c:=c) (by omega)) g' (qQu (qJj b c (qJj a c U))))
 | .n3 k s a b d,c,U,h1,h2=>by
  simp only [Tm.cnt] at h1
  simp only [Tm.mx] at h2
  have g:=a32 a c U (by omega) (by omega)
  have g':=a32 b c (qJj a c U) (by omega) (by omega)
  have g'':=a32 d c (qJj b c (qJj a c U)) (by omega) (by omega)
  cases k<;>exact o32 (rg6 [(33,.z c),(35,.d 0 (qZr (qJj a c U)) (.pv (.tuple []))),(33,.z c),(35,.d 0 (qZr (qJj b c (qJj a c U))) (.pv (.tuple []))),(33,.z c),(35,.d 0 (qZr (qJj d c (qJj b c (qJj a c U)))) (.pv (.tuple [])))] k32 (ad0 (c:=c) (by omega)) g (ad0 (c:=c) (by omega)) g' (ad0 (c:=c) (by omega)) g'' (qQu (qJj d c (qJj b c (qJj a c U)))))
end Go.Proofs.YtalkjpicadiimaaGreatDoor
namespace Go.Proofs.YtalkjpicadiimaaGreatDoor
open Go.Lg
set_option maxRecDepth 100000
theorem zWg (n:Nat):∀ {S:List Nat},Asc S→n ∉ S→∃ S',Asc S'∧(∀ x,x∈S'↔x=n∨x∈S)∧S'.length=S.length+1
 | [],_,_=>⟨[n],List.pairwise_singleton _ _,fun x=>by simp,rfl⟩
 | y::S,h,hn=>by
  obtain⟨a,b⟩:=List.pairwise_cons.1 h
  have hy:n≠y:=fun e=>hn (e ▸ List.mem_cons_self ..)
  by_cases c:n<y
  ·refine⟨n::y::S,List.pairwise_cons.2 ⟨fun x hx => ?_,h⟩,fun x=>List.mem_cons,rfl⟩
   rcases List.mem_cons.1 hx with rfl|hx
   ·exact c
   ·have:=a x hx;omega
  ·obtain⟨S',h1,h2,h3⟩:=zWg n b (fun h=>hn (List.mem_cons_of_mem _ h))
   refine⟨y::S',List.pairwise_cons.2 ⟨fun x hx => ?_,h1⟩,fun x => ?_,by simp [h3]⟩
   ·rcases (h2 x).1 hx with rfl|hx
    ·omega
    ·exact a x hx
   ·rw [List.mem_cons,h2,List.mem_cons];constructor<;>(rintro (h|h|h)<;>simp [h])
theorem qTu:∀ {U:List Nat},U.Nodup→∃ S,Asc S∧(∀ x,x∈S↔x∈U)∧S.length=U.length
 | [],_=>⟨[],List.Pairwise.nil,fun _=>Iff.rfl,rfl⟩
 | n::U,h=>by
  obtain⟨h1,h2⟩:=List.nodup_cons.1 h
  obtain⟨S,a,b,c⟩:=qTu h2
  obtain⟨S',a',b',c'⟩:=zWg n a (fun h=>h1 ((b n).1 h))
  exact⟨S',a',fun x=>by rw [b',b,List.mem_cons],by rw [c',c];rfl⟩
theorem qIe {U:List Nat} (h:U.Nodup) (hl:U.length≤8589934592):∃ S,qEl U S∧S.length=U.length:=by
 obtain⟨S,a,b,c⟩:=qTu h
 exact⟨S,⟨h,a,b,by omega⟩,c⟩
theorem qAn:∀ (t:Tm) (c:Nat) (U:List Nat) (x:Nat),x∈qJj t c U↔x∈U∨t.occ (c+x)≠0
 | .v i,c,U,x=>by
  simp only [qJj,Tm.occ]
  split
  ·rw [mem_ins1]
   split
   ·simp;left;omega
   ·simp;omega
  ·split
   ·omega
   ·simp
 | .n0 k,c,U,x=>by simp [qJj,Tm.occ]
 | .lam s b,c,U,x=>by simp only [qJj,Tm.occ];rw [qAn b,show c+1+x=c+x+1 by omega]
 | .n1 k a,c,U,x=>by simp only [qJj,Tm.occ];exact qAn a c U x
 | .n2 k a b,c,U,x=>by simp only [qJj,Tm.occ];rw [qAn b,qAn a];constructor<;>(intro h;by_cases h1:x∈U<;>simp_all<;>omega)
 | .n3 k s a b d,c,U,x=>by simp only [qJj,Tm.occ];rw [qAn d,qAn b,qAn a];constructor<;>(intro h;by_cases h1:x∈U<;>simp_all<;>omega)
theorem qIf:∀ (t:Tm) (c:Nat) {U:List Nat},U.Nodup→(qJj t c U).Nodup
 | .v i,c,U,h=>by
  unfold qJj
  split
  ·exact qL4 h
  ·exact h
 | .n0 k,c,U,h=>h
 | .lam s b,c,U,h=>qIf b (c+1) h
 | .n1 k a,c,U,h=>qIf a c h
 | .n2 k a b,c,U,h=>qIf b c (qIf a c h)
 | .n3 k s a b d,c,U,h=>qIf d c (qIf b c (qIf a c h))
theorem qAo:∀ (t:Tm) (c:Nat) (U:List Nat),(qJj t c U).length≤U.length+t.cnt
 | .v i,c,U=>by
  simp only [qJj,Tm.cnt]
  split
  ·exact qGd U _
  ·omega
 | .n0 k,c,U=>by simp [qJj]
 | .lam s b,c,U=>by have:=qAo b (c+1) U;simp only [qJj,Tm.cnt];omega
 | .n1 k a,c,U=>by have:=qAo a c U;simp only [qJj,Tm.cnt];omega
 | .n2 k a b,c,U=>by have:=qAo a c U;have:=qAo b c (qJj a c U);simp only [qJj,Tm.cnt];omega
 | .n3 k s a b d,c,U=>by have:=qAo a c U;have:=qAo b c (qJj a c U);have:=qAo d c (qJj b c (qJj a c U));simp only [qJj,Tm.cnt];omega
theorem qKn:∀ (t:Tm) (v:Nat),t.occ v≠0→v≤t.mx
 | .v i,v,h=>by simp only [Tm.occ] at h;simp only [Tm.mx];split at h<;>omega
 | .n0 k,v,h=>absurd rfl h
 | .lam s b,v,h=>by have:=qKn b (v+1) h;simp only [Tm.mx];omega
 | .n1 k a,v,h=>qKn a v h
 | .n2 k a b,v,h=>by
  simp only [Tm.occ] at h
  simp only [Tm.mx]
  by_cases h1:a.occ v=0
  ·have:=qKn b v (by omega);omega
  ·have:=qKn a v h1;omega
 | .n3 k s a b d,v,h=>by
  simp only [Tm.occ] at h
  simp only [Tm.mx]
  by_cases h1:a.occ v=0
  ·by_cases h2:b.occ v=0
   ·have:=qKn d v (by omega);omega
   ·have:=qKn b v h2;omega
  ·have:=qKn a v h1;omega
def zWh:Nat→Nat
 | 0=>1
 | 1=>0
 | n=>n
theorem zWi:∀ n,zWh (zWh n)=n
 | 0=>rfl
 | 1=>rfl
 | _+2=>rfl
theorem zWj (ρ:Nat→Nat):∀ U:List Nat,qUv ρ (se U)=se U
 | []=>rfl
 | n::U=>by show (_,_)::qUv ρ (se U)=_::se U;rw [zWj ρ U];rfl
theorem zWk (U:List Nat):(qZr U).ren zWh=qZr U:=by show Ob.smap false (qUv zWh (se U))=_;rw [zWj]
theorem zH5 (t:Tm) (h1:t.cnt≤mid) (h2:t.mx≤mid * mid):O 303 [.pv t.p,.pv (num 0),.map 1] [(1,.smap false [])] (.pv (.tuple [])) [(1,qZr (qJj t 0 []))]:=by
 have h:=AC.ren zWi (a32 t 0 [] (by omega) h2)
 have e:qLa zWh [(0,qZr (qJj t 0 []))]=[(1,qZr (qJj t 0 []))]:=by show [(1,(qZr _).ren zWh)]=_;rw [zWk]
 rw [e] at h
 exact h
theorem zH6 {U S:List Nat} (h:qEl U S):O 215 [.map 1] [(1,qZr U)] (.pv (qQk S)) [(1,qZr U)]:=by
 have h:=AC.ren zWi (zDl h)
 have e:qLa zWh [(0,qZr U)]=[(1,qZr U)]:=by show [(1,(qZr _).ren zWh)]=_;rw [zWk]
 rw [e] at h
 exact h
theorem a13 (t:Tm) (h1:t.cnt≤mid) (h2:t.tsz≤big) (h3:t.mx≤mid * mid):∃ u:List Nat,A 275 [t.p] (.tuple [qQk u,num t.chk])∧(t.chk=0→∀ v,v∈u↔t.occ v≠0)∧(t.chk≠0→u=[])∧u.length≤t.cnt∧Asc u:=by
 have hm:=qQd
 have hbb:=qQh
 have g1:=a31 t h2 (by omega)
 cases e:t.chk with
 | succ k =>
  rw [e] at g1
  exact⟨[],f2 [(7,.N (k+1)),(9,.G)] g1 (qC8 (m:=k+1) (n:=0) (by omega)),fun h=>(by cases h),fun _=>rfl,Nat.zero_le _,.nil⟩
 | zero =>
  rw [e] at g1
  have hl:=qAo t 0 []
  obtain⟨S,h,h'⟩:=qIe (qIf t 0 (U:=[]) List.nodup_nil) (by simp at hl;omega)
  refine⟨S,f3 [(7,.N 0),(14,.d 1 (qZr (qJj t 0 [])) (.pv (.tuple []))),(16,.o [1] [] (.pv (qQk S)))] g1 (zH5 t h1 h3) (zH6 h),fun _ v => ?_,fun h=>absurd rfl h,by simp at hl;omega,h.asc⟩
  rw [h.mem,qAn,Nat.zero_add]
  simp
def qIl (U:List Nat):List Nat→List Nat
 | []=>U
 | x::r=>qIl (qBj U x) r
theorem qGe:∀ (r U:List Nat) (x:Nat),x∈qIl U r↔x∈U∨x∈r
 | [],U,x=>by simp [qIl]
 | y::r,U,x=>by simp only [qIl];rw [qGe r,mem_ins1,List.mem_cons];exact⟨fun h=>h.elim (fun h=>h.elim (fun h => .inr (.inl h)) .inl) (fun h => .inr (.inr h)),fun h=>h.elim (fun h => .inl (.inr h)) (fun h=>h.elim (fun h => .inl (.inl h)) .inr)⟩
theorem qL5:∀ (r:List Nat) {U:List Nat},U.Nodup→(qIl U r).Nodup
 | [],_,h=>h
 | y::r,_,h=>qL5 r (qL4 h)
theorem qGf:∀ (r U:List Nat),(qIl U r).length≤U.length+r.length
 | [],U=>by simp [qIl]
 | y::r,U=>by have:=qGf r (qBj U y);have:=qGd U y;simp only [qIl,List.length_cons];omega
abbrev zH7 (a b:List Nat) (k:Nat):List (Nat × V):=[(1,.pv (qQk b)),(5,.map 0),(11,.pv (qQk a)),(12,.pv (num (a.map ic).length)),(13,.pv (num k))]
abbrev zH8 (b:List Nat) (k:Nat):List (Nat × V):=[(5,.map 0),(20,.pv (qQk b)),(21,.pv (num (b.map ic).length)),(22,.pv (num k))]
theorem qNn (a b:List Nat) (hl:a.length≤mid):∀ (r:List Nat) (k:Nat) (U:List Nat),a.drop k=r →
  Lp 148 0 0 (st (zH7 a b k) [(0,qZr U)] 1 []) (.exit 0) (st [(1,.pv (qQk b)),(5,.map 0)] [(0,qZr (qIl U r))] 1 [])
 | [],k,U,h=>by
  have e:ltI (.ofNat k) (.ofNat (a.map ic).length)=false:=qZ7 (by simpa using qWx h)
  exact y1 [(14,.H)] ⟨[1,5],[0],1,[]⟩ e (qQu U)
 | x::r,k,U,h=>by
  have hm:=qQd
  obtain⟨d1,d2,d3⟩:=qWw h
  have e:ltI (.ofNat k) (.ofNat (a.map ic).length)=true:=qQ7 (by simpa using d2)
  have g3:=inN (show k+1≤_ by omega)
  have ih:=qNn a b hl r (k+1) (qBj U x) d3
  exact n6 [(14,.G),(15,.i (ic x)),(99999,.w ⟨.undef,some (0,qZr (qBj U x)),false⟩),(19,.ok)] ⟨[1,5,11,12,13],[0],1,[]⟩ e (qQn d1 qAf) (qTt 0 U x) g3 (qQu (qBj U x)) ih
theorem qNo (b:List Nat) (hl:b.length≤mid):∀ (r:List Nat) (k:Nat) (U:List Nat),b.drop k=r →
  Lp 148 1 0 (st (zH8 b k) [(0,qZr U)] 1 []) (.exit 2) (st [(5,.map 0)] [(0,qZr (qIl U r))] 1 [])
 | [],k,U,h=>by
  have e:ltI (.ofNat k) (.ofNat (b.map ic).length)=false:=qZ7 (by simpa using qWx h)
  exact y1 [(23,.H)] ⟨[5],[0],1,[]⟩ e (qQu U)
 | x::r,k,U,h=>by
  have hm:=qQd
  obtain⟨d1,d2,d3⟩:=qWw h
  have e:ltI (.ofNat k) (.ofNat (b.map ic).length)=true:=qQ7 (by simpa using d2)
  have g3:=inN (show k+1≤_ by omega)
  have ih:=qNo b hl r (k+1) (qBj U x) d3
  exact n6 [(23,.G),(24,.i (ic x)),(99999,.w ⟨.undef,some (0,qZr (qBj U x)),false⟩),(28,.ok)] ⟨[5,20,21,22],[0],1,[]⟩ e (qQn d1 qAf) (qTt 0 U x) g3 (qQu (qBj U x)) ih
theorem zNm (a b:List Nat) (ha:a.length≤mid) (hb:b.length≤mid):∃ u:List Nat,A 148 [qQk a,qQk b] (qQk u)∧(∀ v,v∈u↔v∈a∨v∈b)∧u.length≤a.length+b.length∧Asc u:=by
 have hm:=qQd
 have h1:=qGf a []
 have h2:=qGf b (qIl [] a)
 obtain⟨S,h,h'⟩:=qIe (qL5 b (qL5 a (U:=[]) List.nodup_nil)) (by simp at h1;omega)
 have l1:=qNn a b ha a 0 [] rfl
 have l2:=qNo b hb b 0 (qIl [] a) rfl
 refine⟨S,fk [(100003,.l ⟨[1,5,11,12,13],[0],1,[]⟩ (.exit 0) (st [(1,.pv (qQk b)),(5,.map 0)] [(0,qZr (qIl [] a))] 1 [])),(100008,.l ⟨[5,20,21,22],[0],1,[]⟩ (.exit 2) (st [(5,.map 0)] [(0,qZr (qIl (qIl [] a) b))] 1 [])),(30,.o [0] [] (.pv (qQk S)))] (And.intro (qQu []) (And.intro l1 (And.intro (qQu (qIl [] a)) (And.intro l2 (And.intro (zDl h) (rfl:qQk S=qQk S)))))),fun v => ?_,by simp at h1;omega,h.asc⟩
 rw [h.mem,qGe,qGe]
 simp
theorem zDm:MF where
 uses t h1 h2 h3:=by
  have hm:=qQd
  obtain⟨u,g1,g2,g3,g4,g5⟩:=a13 t h1 (by have:=qQh;omega) h3
  refine⟨u,t.chk,g1,fun h=>⟨h,fun v hv=>(g2 h v).2 hv⟩,fun x hx => ?_,g4,g5⟩
  by_cases e:t.chk=0
  ·exact qKn t x ((g2 e x).1 hx)
  ·rw [g3 e] at hx;cases hx
 union a b h1 h2 h3:=by
  obtain⟨u,g1,g2,g3,g4⟩:=zNm a b (by omega) (by omega)
  exact⟨u,g1,fun v hv=>(g2 v).2 hv,fun v hv=>(g2 v).1 hv,g3,g4⟩
theorem qZf:∀ (t:Tm) (ρ:Nat→Nat),(t.ren ρ).cnt=t.cnt
 | .v _,_=>rfl
 | .lam s b,ρ=>by simp only [Tm.ren,Tm.cnt,qZf b]
 | .n0 _,_=>rfl
 | .n1 _ a,ρ=>by simp only [Tm.ren,Tm.cnt,qZf a]
 | .n2 _ a b,ρ=>by simp only [Tm.ren,Tm.cnt,qZf a,qZf b]
 | .n3 _ _ a b d,ρ=>by simp only [Tm.ren,Tm.cnt,qZf a,qZf b,qZf d]
theorem qWq:∀ (t:Tm) (ρ:Nat→Nat),(t.ren ρ).shp=t.shp
 | .v _,_=>rfl
 | .lam s b,ρ=>by simp only [Tm.ren,Tm.shp,qWq b]
 | .n0 _,_=>rfl
 | .n1 _ a,ρ=>by simp only [Tm.ren,Tm.shp,qWq a]
 | .n2 _ a b,ρ=>by simp only [Tm.ren,Tm.shp,qWq a,qWq b]
 | .n3 _ _ a b d,ρ=>by simp only [Tm.ren,Tm.shp,qWq a,qWq b,qWq d]
theorem qVx (t:Tm) (ρ:Nat→Nat):(t.ren ρ).chk=t.chk:=by unfold Tm.chk;rw [qWq,qZf]
theorem qWr:∀ (t:Tm) (ρ:Nat→Nat) (c c':Nat),(∀ j,ρ j=c↔j=c')→(t.ren ρ).occ c=t.occ c'
 | .v i,ρ,c,c',h=>by
  simp only [Tm.ren,Tm.occ]
  by_cases e:i=c'
  ·rw [if_pos e,if_pos ((h i).2 e)]
  ·rw [if_neg e,if_neg fun k=>e ((h i).1 k)]
 | .lam s b,ρ,c,c',h=>qWr b (upR ρ) (c+1) (c'+1) fun j=>by
  cases j with
  | zero=>simp only [upR];omega
  | succ j=>have:=h j;simp only [upR];omega
 | .n0 _,_,_,_,_=>rfl
 | .n1 _ a,ρ,c,c',h=>qWr a ρ c c' h
 | .n2 _ a b,ρ,c,c',h=>by simp only [Tm.ren,Tm.occ,qWr a ρ c c' h,qWr b ρ c c' h]
 | .n3 _ _ a b d,ρ,c,c',h=>by simp only [Tm.ren,Tm.occ,qWr a ρ c c' h,qWr b ρ c c' h,qWr d ρ c c' h]
theorem qVy:∀ (t:Tm) (ρ:Nat→Nat) (c:Nat),(t.ren ρ).occ c≠0→∃ j,t.occ j≠0∧ρ j=c
 | .v i,ρ,c,h=>by
  refine⟨i,by simp [Tm.occ],?_⟩
  simp only [Tm.ren,Tm.occ] at h
  by_cases e:ρ i=c
  ·exact e
  ·rw [if_neg e] at h;exact absurd rfl h
 | .lam s b,ρ,c,h=>by
  obtain⟨j,h1,h2⟩:=qVy b (upR ρ) (c+1) h
  cases j with
  | zero=>simp only [upR] at h2;omega
  | succ j=>exact⟨j,h1,by simp only [upR] at h2;omega⟩
 | .n0 _,_,_,h=>absurd rfl h
 | .n1 _ a,ρ,c,h=>qVy a ρ c h
 | .n2 _ a b,ρ,c,h=>by
  simp only [Tm.ren,Tm.occ] at h
  by_cases e:(a.ren ρ).occ c=0
  ·obtain⟨j,h1,h2⟩:=qVy b ρ c (by omega)
   exact⟨j,by simp only [Tm.occ];omega,h2⟩
  ·obtain⟨j,h1,h2⟩:=qVy a ρ c e
   exact⟨j,by simp only [Tm.occ];omega,h2⟩
 | .n3 _ _ a b d,ρ,c,h=>by
  simp only [Tm.ren,Tm.occ] at h
  by_cases e:(a.ren ρ).occ c=0
  ·by_cases e2:(b.ren ρ).occ c=0
   ·obtain⟨j,h1,h2⟩:=qVy d ρ c (by omega)
    exact⟨j,by simp only [Tm.occ];omega,h2⟩
   ·obtain⟨j,h1,h2⟩:=qVy b ρ c e2
    exact⟨j,by simp only [Tm.occ];omega,h2⟩
  ·obtain⟨j,h1,h2⟩:=qVy a ρ c e
   exact⟨j,by simp only [Tm.occ];omega,h2⟩
theorem qGg (ρ:Nat→Nat):upS (fun i => .v (ρ i))=fun i => .v (upR ρ i):=by
 funext i
 cases i with
 | zero=>rfl
 | succ i=>simp [upS,upR,Tm.sh]
theorem qWy:∀ (t:Tm) (ρ:Nat→Nat),t.ren ρ=t.sub fun i => .v (ρ i)
 | .v _,_=>rfl
 | .lam s b,ρ=>by simp only [Tm.ren,Tm.sub,qGg,qWy b]
 | .n0 _,_=>rfl
 | .n1 _ a,ρ=>by simp only [Tm.ren,Tm.sub,qWy a]
 | .n2 _ a b,ρ=>by simp only [Tm.ren,Tm.sub,qWy a,qWy b]
 | .n3 _ _ a b d,ρ=>by simp only [Tm.ren,Tm.sub,qWy a,qWy b,qWy d]
theorem zE9 (s:Tm):(Tm.v 0).put 0 s 0=s:=by
 simp only [Tm.put,Nat.add_zero,if_true]
 exact qM5 s 0
theorem zAp (s:Tm) (i:Nat):(Tm.v (i+1)).put 0 s 0 = .v i:=by
 simp [Tm.put]
theorem zYn (t s:Tm) (ρ:Nat→Nat):(t.put 0 s 0).ren ρ=(t.ren (upR ρ)).put 0 (s.ren ρ) 0:=by
 rw [qVe,qVd,qVe 0 (s.ren ρ),qVc]
 congr 1
 funext i
 cases i with
 | zero=>rw [zE9];exact (zE9 _).symm
 | succ i=>rw [zAp];exact (zAp _ _).symm
theorem qL6 (t:Tm) (ρ:Nat→Nat):(t.ren ρ).red=t.red.map (Tm.ren ρ):=by
 cases t with
 | v i=>rfl
 | lam s b=>rfl
 | n0 k=>rfl
 | n1 k a=>cases k with
  | succ=>rfl
  | fst=>cases a with
   | n2 l x y=>cases l<;>rfl
   | _=>rfl
  | snd=>cases a with
   | n2 l x y=>cases l<;>rfl
   | _=>rfl
 | n2 k a b=>cases k with
  | app=>cases a with
   | lam s x =>
    show some _=some _
    rw [zYn]
   | _=>rfl
  | _=>rfl
 | n3 k s a b d=>cases k with
  | re=>cases d with
   | n0 l=>cases l<;>rfl
   | n1 l x=>cases l<;>rfl
   | _=>rfl
  | fo=>cases d with
   | n0 l=>cases l<;>rfl
   | n2 l x y=>cases l<;>rfl
   | _=>rfl
def SR.ren (ρ:Nat→Nat):SR→SR
 | .no => .no
 | .er => .er
 | .ok x => .ok (x.ren ρ)
theorem qC3 (ρ τ:Nat→Nat) (f f':Tm→Tm) (h:∀ x,f' (x.ren τ)=(f x).ren ρ) (r q:SR):SR.or f' (r.ren ρ) (q.ren τ)=(SR.or f r q).ren ρ:=by
 cases q with
 | no=>rfl
 | er=>rfl
 | ok x=>show SR.ok _=SR.ok _;rw [h]
theorem qTv (z:Int) (t r:Tm) (ρ:Nat→Nat):rt z (t.ren ρ) (r.ren ρ)=(rt z t r).ren ρ:=by
 unfold rt
 rw [qZf,qZf]
 cases ltI z ((r.cnt:Int)-t.cnt)<;>rfl
theorem qYi (z:Int):∀ (t:Tm) (ρ:Nat→Nat),(t.ren ρ).st z=(t.st z).ren ρ
 | .v _,_=>rfl
 | .n0 _,_=>rfl
 | .lam s b,ρ=>by
  show SR.or (.lam s) .no ((b.ren (upR ρ)).st z)=_
  rw [qYi z b]
  exact qC3 ρ (upR ρ) (.lam s) (.lam s) (fun x=>rfl) .no (b.st z)
 | .n1 k a,ρ=>by
  have h:=qL6 (.n1 k a) ρ
  cases e:(Tm.n1 k a).red with
  | some r =>
   rw [e] at h
   rw [qZ0 e,qZ0 h,qTv]
  | none =>
   rw [e] at h
   have h:(Tm.n1 k (a.ren ρ)).red=none:=h
   show (Tm.n1 k (a.ren ρ)).st z=_
   simp only [Tm.st,e,h]
   rw [qYi z a]
   exact qC3 ρ ρ (.n1 k) (.n1 k) (fun x=>rfl) .no (a.st z)
 | .n2 k a b,ρ=>by
  have h:=qL6 (.n2 k a b) ρ
  cases e:(Tm.n2 k a b).red with
  | some r =>
   rw [e] at h
   rw [qZ0 e,qZ0 h,qTv]
  | none =>
   rw [e] at h
   have h:(Tm.n2 k (a.ren ρ) (b.ren ρ)).red=none:=h
   show (Tm.n2 k (a.ren ρ) (b.ren ρ)).st z=_
   simp only [Tm.st,e,h]
   rw [qYi z a,qYi z b,show SR.or (.n2 k (a.ren ρ)) .no ((b.st z).ren ρ)=(SR.or (.n2 k a) .no (b.st z)).ren ρ from qC3 ρ ρ (.n2 k a) (.n2 k (a.ren ρ)) (fun x=>rfl) .no (b.st z)]
   exact qC3 ρ ρ (fun x => .n2 k x b) (fun x => .n2 k x (b.ren ρ)) (fun x=>rfl) _ (a.st z)
 | .n3 k s a b c,ρ=>by
  have h:=qL6 (.n3 k s a b c) ρ
  cases e:(Tm.n3 k s a b c).red with
  | some r =>
   rw [e] at h
   rw [qZ0 e,qZ0 h,qTv]
  | none =>
   rw [e] at h
   have h:(Tm.n3 k s (a.ren ρ) (b.ren ρ) (c.ren ρ)).red=none:=h
   show (Tm.n3 k s (a.ren ρ) (b.ren ρ) (c.ren ρ)).st z=_
   simp only [Tm.st,e,h]
   rw [qYi z a,qYi z b,qYi z c,show SR.or (.n3 k s (a.ren ρ) (b.ren ρ)) .no ((c.st z).ren ρ)=(SR.or (.n3 k s a b) .no (c.st z)).ren ρ from qC3 ρ ρ (.n3 k s a b) (.n3 k s (a.ren ρ) (b.ren ρ)) (fun x=>rfl) .no (c.st z),
    show SR.or (fun x => .n3 k s (a.ren ρ) x (c.ren ρ)) ((SR.or (.n3 k s a b) .no (c.st z)).ren ρ) ((b.st z).ren ρ)=(SR.or (fun x => .n3 k s a x c) (SR.or (.n3 k s a b) .no (c.st z)) (b.st z)).ren ρ from qC3 ρ ρ (fun x => .n3 k s a x c) (fun x => .n3 k s (a.ren ρ) x (c.ren ρ)) (fun x=>rfl) _ (b.st z)]
   exact qC3 ρ ρ (fun x => .n3 k s x b c) (fun x => .n3 k s x (b.ren ρ) (c.ren ρ)) (fun x=>rfl) _ (a.st z)
def NF.ren (ρ:Nat→Nat):NF→NF
 | .ok x n => .ok (x.ren ρ) n
 | .er e => .er e
theorem qTw (ρ:Nat→Nat):∀ (r n:Nat) (t:Tm),nfl r n (t.ren ρ)=(nfl r n t).ren ρ
 | 0,n,t=>by
  unfold nfl
  rw [qYi,qZf]
  cases t.st (4096-t.cnt)<;>rfl
 | r+1,n,t=>by
  unfold nfl
  rw [qYi,qZf]
  cases t.st (4096-t.cnt) with
  | no=>rfl
  | er=>rfl
  | ok x=>exact qTw ρ r (n+1) x
theorem qGh (t:Tm) (ρ:Nat→Nat):nrm (t.ren ρ)=(nrm t).ren ρ:=qTw ρ 1000 0 t
theorem zWl {a b:Tm} (h:a.mt b) (ρ:Nat→Nat):(a.ren ρ).mt (b.ren ρ):=by
 rcases h with rfl|⟨x,k,l,h1,h2⟩
 ·exact .inl rfl
 ·refine .inr ⟨x.ren ρ,k,l,?_,?_⟩
  ·rw [qGh,h1];rfl
  ·rw [qGh,h2];rfl
def RNg (g g':List Ty) (ρ:Nat→Nat):Prop:=∀ i s,tyV g i = .ok s→tyV g' (ρ i) = .ok s
theorem zDn (g:List Ty) (s:Ty):tyV (g++[s]) 0 = .ok s:=by
 unfold tyV
 rw [if_pos (by simp)]
 simp
theorem zYo (g:List Ty) (s:Ty) (i:Nat):tyV (g++[s]) (i+1)=tyV g i:=by
 unfold tyV
 by_cases h:i<g.length
 ·rw [if_pos (by simp;omega),if_pos h,List.length_append,List.length_singleton,show g.length+1-1-(i+1)=g.length-1-i by omega,List.getElem?_append_left (by omega)]
 ·rw [if_neg (by simp;omega),if_neg h]
theorem RNg.up {g g':List Ty} {ρ:Nat→Nat} (h:RNg g g' ρ) (u:Ty):RNg (g++[u]) (g'++[u]) (upR ρ):=fun i s e=>by
 cases i with
 | zero=>rw [zDn] at e;show tyV _ 0=_;rw [zDn];exact e
 | succ i=>rw [zYo] at e;show tyV _ (ρ i+1)=_;rw [zYo];exact h i s e
theorem qJk:∀ (t:Tm) (g g':List Ty) (ρ:Nat→Nat) (s:Ty),RNg g g' ρ→t.tyR g = .ok s→(t.ren ρ).tyR g' = .ok s
 | .v i,g,g',ρ,s,h,e=>h i s e
 | .lam u b,g,g',ρ,s,h,e=>by
  simp only [Tm.tyR,Tm.ren] at e ⊢
  cases e1:b.tyR (g++[u]) with
  | er n=>rw [e1] at e;cases e
  | ok x=>rw [e1] at e;rw [qJk b _ _ _ x (h.up u) e1];exact e
 | .n0 k,_,_,_,_,_,e=>e
 | .n1 k a,g,g',ρ,s,h,e=>by
  simp only [Tm.tyR,Tm.ren] at e ⊢
  cases e1:a.tyR g with
  | er n=>rw [e1] at e;cases e
  | ok x=>rw [e1] at e;rw [qJk a _ _ _ x h e1];exact e
 | .n2 k a b,g,g',ρ,s,h,e=>by
  simp only [Tm.tyR,Tm.ren] at e ⊢
  cases e1:a.tyR g with
  | er n=>rw [e1] at e;cases e
  | ok x=>cases e2:b.tyR g with
   | er n=>rw [e1,e2] at e;cases e
   | ok y=>rw [e1,e2] at e;rw [qJk a _ _ _ x h e1,qJk b _ _ _ y h e2];exact e
 | .n3 k u a b c,g,g',ρ,s,h,e=>by
  simp only [Tm.tyR,Tm.ren] at e ⊢
  cases e1:a.tyR g with
  | er n=>rw [e1] at e;cases e
  | ok x=>cases e2:b.tyR g with
   | er n=>rw [e1,e2] at e;cases e
   | ok y=>cases e3:c.tyR g with
    | er n=>rw [e1,e2,e3] at e;cases e
    | ok w=>rw [e1,e2,e3] at e;rw [qJk a _ _ _ x h e1,qJk b _ _ _ y h e2,qJk c _ _ _ w h e3];exact e
open Go.Lg
set_option maxRecDepth 100000
def Fm.ren:(Nat→Nat)→Fm→Fm
 | ρ,.eq a b => .eq (a.ren ρ) (b.ren ρ)
 | ρ,.bin k f g => .bin k (f.ren ρ) (g.ren ρ)
 | ρ,.q k s f => .q k s (f.ren (upR ρ))
def Fm.sub:(Nat→Tm)→Fm→Fm
 | σ,.eq a b => .eq (a.sub σ) (b.sub σ)
 | σ,.bin k f g => .bin k (f.sub σ) (g.sub σ)
 | σ,.q k s f => .q k s (f.sub (upS σ))
def shR (c k i:Nat):Nat:=if c≤i then i+k else i
theorem zDo (ρ τ:Nat→Nat):(fun i=>upR τ (upR ρ i))=upR fun i=>τ (ρ i):=by
 funext i
 cases i<;>rfl
theorem zDp (ρ:Nat→Nat) (σ:Nat→Tm):(fun i=>upS σ (upR ρ i))=upS fun i=>σ (ρ i):=by
 funext i
 cases i<;>rfl
theorem zDq (σ:Nat→Tm) (ρ:Nat→Nat):(fun i=>(upS σ i).ren (upR ρ))=upS fun i=>(σ i).ren ρ:=by
 funext i
 cases i with
 | zero=>rfl
 | succ i=>simp only [upS,qWn,qVb];rfl
theorem qKo (c k:Nat):upR (shR c k)=shR (c+1) k:=by
 funext i
 cases i with
 | zero=>rfl
 | succ i=>simp only [upR,shR];split<;>split<;>omega
theorem qYj:∀ (f:Fm) (ρ τ:Nat→Nat),(f.ren ρ).ren τ=f.ren fun i=>τ (ρ i)
 | .eq a b,ρ,τ=>by simp only [Fm.ren,qVb]
 | .bin k f g,ρ,τ=>by simp only [Fm.ren];rw [qYj f,qYj g]
 | .q k s f,ρ,τ=>by simp only [Fm.ren];rw [qYj f,zDo]
theorem qBk:∀ (f:Fm) (ρ:Nat→Nat) (σ:Nat→Tm),(f.ren ρ).sub σ=f.sub fun i=>σ (ρ i)
 | .eq a b,ρ,σ=>by simp only [Fm.ren,Fm.sub,qVc]
 | .bin k f g,ρ,σ=>by simp only [Fm.ren,Fm.sub];rw [qBk f,qBk g]
 | .q k s f,ρ,σ=>by simp only [Fm.ren,Fm.sub];rw [qBk f,zDp]
theorem qBl:∀ (f:Fm) (σ:Nat→Tm) (ρ:Nat→Nat),(f.sub σ).ren ρ=f.sub fun i=>(σ i).ren ρ
 | .eq a b,σ,ρ=>by simp only [Fm.ren,Fm.sub,qVd]
 | .bin k f g,σ,ρ=>by simp only [Fm.ren,Fm.sub];rw [qBl f,qBl g]
 | .q k s f,σ,ρ=>by simp only [Fm.ren,Fm.sub];rw [qBl f,zDq]
theorem qBm:∀ (f:Fm) (σ τ:Nat→Tm),(∀ i,f.occ i≠0→σ i=τ i)→f.sub σ=f.sub τ
 | .eq a b,σ,τ,h=>by
  simp only [Fm.sub]
  rw [qJi a σ τ fun i hi=>h i (by simp only [Fm.occ];omega),qJi b σ τ fun i hi=>h i (by simp only [Fm.occ];omega)]
 | .bin k f g,σ,τ,h=>by
  simp only [Fm.sub]
  rw [qBm f σ τ fun i hi=>h i (by simp only [Fm.occ];omega),qBm g σ τ fun i hi=>h i (by simp only [Fm.occ];omega)]
 | .q k s f,σ,τ,h=>by
  simp only [Fm.sub]
  rw [qBm f (upS σ) (upS τ) fun i hi=>by
   cases i with
   | zero=>rfl
   | succ i=>simp only [upS];rw [h i hi]]
theorem qWs (k:Nat):∀ (f:Fm) (c:Nat),f.sh c (.ofNat k)=f.ren (shR c k)
 | .eq a b,c=>by
  simp only [Fm.sh,Fm.ren]
  rw [qV8 k a,qV8 k b];rfl
 | .bin l f g,c=>by simp only [Fm.sh,Fm.ren];rw [qWs k f,qWs k g]
 | .q l s f,c=>by simp only [Fm.sh,Fm.ren];rw [qWs k f,qKo]
theorem zYp (c:Nat) (S:Tm) (d:Nat):upS (fun i=>(Tm.v i).put c S d)=fun i=>(Tm.v i).put c S (d+1):=by
 funext i
 symm
 cases i with
 | zero =>
  simp only [Tm.put,upS]
  rw [if_neg (by omega),if_neg (by omega)]
 | succ i =>
  simp only [Tm.put,upS]
  by_cases e:i=c+d
  ·rw [if_pos (by omega),if_pos e,qH7];rfl
  ·rw [if_neg (by omega),if_neg e]
   by_cases e':c+d<i
   ·rw [if_pos (by omega),if_pos e']
    simp only [Tm.sh,Nat.zero_le,if_true]
    congr 1
    show i=(Int.ofNat (i-1)+Int.ofNat 1).toNat
    simp;omega
   ·rw [if_neg (by omega),if_neg e']
    simp [Tm.sh]
theorem qWt (c:Nat) (S:Tm):∀ (f:Fm) (d:Nat),f.put c S d=f.sub fun i=>(Tm.v i).put c S d
 | .eq a b,d=>by simp only [Fm.put,Fm.sub];rw [qVe c S a,qVe c S b]
 | .bin l f g,d=>by simp only [Fm.put,Fm.sub];rw [qWt c S f,qWt c S g]
 | .q l s f,d=>by simp only [Fm.put,Fm.sub];rw [qWt c S f,zYp]
theorem qNp (f:Fm) (s:Tm) (ρ:Nat→Nat):(f.put 0 s 0).ren ρ=(f.ren (upR ρ)).put 0 (s.ren ρ) 0:=by
 rw [qWt,qBl,qWt 0 (s.ren ρ),qBk]
 congr 1
 funext i
 cases i with
 | zero=>rw [zE9];exact (zE9 _).symm
 | succ i=>rw [zAp];exact (zAp _ _).symm
theorem qJz:∀ (f:Fm) (ρ:Nat→Nat),(f.ren ρ).cnt=f.cnt
 | .eq a b,ρ=>by simp only [Fm.ren,Fm.cnt,qZf]
 | .bin _ f g,ρ=>by simp only [Fm.ren,Fm.cnt,qJz f,qJz g]
 | .q _ _ f,ρ=>by simp only [Fm.ren,Fm.cnt,qJz f]
theorem qBn:∀ (f:Fm) (ρ:Nat→Nat),(f.ren ρ).shp=f.shp
 | .eq a b,ρ=>by simp only [Fm.ren,Fm.shp,qWq]
 | .bin _ f g,ρ=>by simp only [Fm.ren,Fm.shp,qBn f,qBn g]
 | .q _ _ f,ρ=>by simp only [Fm.ren,Fm.shp,qBn f]
theorem qQ5 (f:Fm) (ρ:Nat→Nat):(f.ren ρ).chk=f.chk:=by unfold Fm.chk;rw [qBn,qJz]
theorem qZo:∀ (f:Fm) (ρ:Nat→Nat),(f.ren ρ).has=f.has
 | .eq a b,ρ=>rfl
 | .bin k f g,ρ=>by cases k<;>simp only [Fm.ren,Fm.has,qZo f,qZo g]
 | .q k _ f,ρ=>by cases k<;>simp only [Fm.ren,Fm.has,qZo f]
theorem qXs:∀ (f:Fm) (ρ:Nat→Nat),(f.ren ρ).er=f.er
 | .eq a b,ρ=>rfl
 | .bin k f g,ρ=>by simp only [Fm.ren,Fm.er,qXs f,qXs g]
 | .q k _ f,ρ=>by simp only [Fm.ren,Fm.er,qXs f]
theorem qWu:∀ (f:Fm) (ρ:Nat→Nat) (c c':Nat),(∀ j,ρ j=c↔j=c')→(f.ren ρ).occ c=f.occ c'
 | .eq a b,ρ,c,c',h=>by simp only [Fm.ren,Fm.occ,qWr a ρ c c' h,qWr b ρ c c' h]
 | .bin _ f g,ρ,c,c',h=>by simp only [Fm.ren,Fm.occ,qWu f ρ c c' h,qWu g ρ c c' h]
 | .q _ _ f,ρ,c,c',h=>qWu f (upR ρ) (c+1) (c'+1) fun j=>by
  cases j with
  | zero=>simp only [upR];omega
  | succ j=>have:=h j;simp only [upR];omega
theorem qTx (ρ:Nat→Nat) (j:Nat):upR ρ j=0↔j=0:=by cases j<;>simp [upR]
theorem qXt:∀ (f:Fm) (g g':List Ty) (ρ:Nat→Nat),RNg g g' ρ→f.ty g→(f.ren ρ).ty g'
 | .eq a b,g,g',ρ,h,⟨⟨h1,h2⟩,h3,h4⟩=>⟨⟨by rw [qVx];exact h1,qJk a g g' ρ _ h h2⟩,by rw [qVx];exact h3,qJk b g g' ρ _ h h4⟩
 | .bin _ f k,g,g',ρ,h,⟨h1,h2⟩=>⟨qXt f g g' ρ h h1,qXt k g g' ρ h h2⟩
 | .q _ s f,g,g',ρ,h,h1=>qXt f _ _ _ (h.up s) h1
theorem qKp:∀ (f g:Fm) (ρ:Nat→Nat),f.mt g→(f.ren ρ).mt (g.ren ρ)
 | .eq a c,.eq b d,ρ,⟨h1,h2⟩=>⟨zWl h1 ρ,zWl h2 ρ⟩
 | .bin k f g,.bin l f' g',ρ,⟨h0,h1,h2⟩=>⟨h0,qKp f f' ρ h1,qKp g g' ρ h2⟩
 | .q k s f,.q l u g,ρ,⟨h0,h1,h2⟩=>⟨h0,h1,qKp f g _ h2⟩
 | .eq _ _,.bin _ _ _,_,h=>h.elim
 | .eq _ _,.q _ _ _,_,h=>h.elim
 | .bin _ _ _,.eq _ _,_,h=>h.elim
 | .bin _ _ _,.q _ _ _,_,h=>h.elim
 | .q _ _ _,.eq _ _,_,h=>h.elim
 | .q _ _ _,.bin _ _ _,_,h=>h.elim
theorem qGi:∀ (f g:Fm) (ρ:Nat→Nat),nmF f=some g→nmF (f.ren ρ)=some (g.ren ρ)
 | .eq a b,g,ρ,h=>by
  simp only [nmF,Fm.ren] at h ⊢
  rw [qGh,qGh]
  cases e1:nrm a with
  | er n=>rw [e1] at h;cases h
  | ok x k=>cases e2:nrm b with
   | er n=>rw [e1,e2] at h;cases h
   | ok y l=>rw [e1,e2] at h;cases h;rfl
 | .bin k a b,g,ρ,h=>by
  simp only [nmF,Fm.ren] at h ⊢
  cases e1:nmF a with
  | none=>rw [e1] at h;cases h
  | some x=>cases e2:nmF b with
   | none=>rw [e1,e2] at h;cases h
   | some y=>rw [e1,e2] at h;cases h;rw [qGi a x ρ e1,qGi b y ρ e2];rfl
 | .q k s a,g,ρ,h=>by
  simp only [nmF,Fm.ren] at h ⊢
  cases e1:nmF a with
  | none=>rw [e1] at h;cases h
  | some x=>rw [e1] at h;cases h;rw [qGi a x _ e1];rfl
theorem qAp {f y:Fm} {t:Tm} (ρ:Nat→Nat) (h:f.pt t = .ok y):(f.ren (upR ρ)).pt (t.ren ρ) = .ok (y.ren ρ):=by
 unfold Fm.pt at h ⊢
 rw [qJz,qWu f (upR ρ) 0 0 (qTx ρ),qZf]
 split at h
 ·rename_i e
  cases h
  rw [if_pos e,qNp]
 ·cases h
theorem qTy {f:Fm} (ρ:Nat→Nat) (h:f.occ 0=0):(f.ren (upR ρ)).low=f.low.ren ρ:=by
 show (f.ren (upR ρ)).put 0 (.v 0) 0=(f.put 0 (.v 0) 0).ren ρ
 rw [qNp,qWt 0 (Tm.ren ρ (.v 0)) (f.ren (upR ρ)) 0,qWt 0 (.v 0) (f.ren (upR ρ)) 0]
 refine qBm _ _ _ fun i hi => ?_
 cases i with
 | zero=>rw [qWu f (upR ρ) 0 0 (qTx ρ)] at hi;exact absurd h hi
 | succ i=>rw [zAp,zAp]
theorem qTz {f g:Fm} (ρ:Nat→Nat) (h:wtF f=some g):wtF (f.ren (upR ρ))=some (g.ren ρ):=by
 unfold wtF at h ⊢
 rw [qWu f (upR ρ) 0 0 (qTx ρ)]
 split at h
 ·rename_i e
  cases h
  rw [if_pos e,qTy ρ e]
 ·rename_i e
  rw [if_neg e]
  split at h
  ·rename_i x e1
   rw [qGi f x (upR ρ) e1]
   split at h
   ·rename_i e2
    cases h
    show (if (x.ren (upR ρ)).occ 0=0 then _ else _)=_
    rw [qWu x (upR ρ) 0 0 (qTx ρ),if_pos e2,qTy ρ e2]
   ·cases h
  ·cases h
theorem qY6 {c k:Nat} {ρ τ:Nat→Nat} (h:∀ i,τ (shR c k i)=shR c k (ρ i)) (f:Fm):(f.sh c (.ofNat k)).ren τ=(f.ren ρ).sh c (.ofNat k):=by
 rw [qWs,qWs,qYj,qYj]
 congr 1
 funext i
 exact h i
theorem zNn (ρ:Nat→Nat):∀ i,upR ρ (shR 0 1 i)=shR 0 1 (ρ i):=fun i=>by simp [shR,upR]
theorem zNo (ρ:Nat→Nat):∀ i,upR (upR ρ) (shR 0 2 i)=shR 0 2 (ρ i):=fun i=>by simp [shR,upR]
theorem zLm (ρ:Nat→Nat):∀ i,upR (upR ρ) (shR 1 1 i)=shR 1 1 (upR ρ i):=fun i=>by cases i<;>simp [shR,upR]
theorem zNp (ρ:Nat→Nat):∀ i,upR (upR (upR ρ)) (shR 1 2 i)=shR 1 2 (upR ρ i):=fun i=>by cases i<;>simp [shR,upR]
theorem zNq (ρ:Nat→Nat):∀ i,upR (upR (upR ρ)) (shR 2 1 i)=shR 2 1 (upR (upR ρ) i):=fun i=>by
 rcases i with _|_|i<;>simp [shR,upR]
theorem qNq (hs:List Fm) (ρ:Nat→Nat):(upH 1 hs).map (Fm.ren (upR ρ))=upH 1 (hs.map (Fm.ren ρ)):=by
 simp only [upH,List.map_map]
 exact List.map_congr_left fun f _=>qY6 (zNn ρ) f
theorem zJj (hs:List Fm) (ρ:Nat→Nat):(upH 2 hs).map (Fm.ren (upR (upR ρ)))=upH 2 (hs.map (Fm.ren ρ)):=by
 simp only [upH,List.map_map]
 exact List.map_congr_left fun f _=>qY6 (zNo ρ) f
def Jt.dp:Jt→Nat
 | .leaf _ _ _=>0
 | .refl _=>0
 | .p1 _ a _=>a.dp
 | .p2 k a b _=>max a.dp (match k with
  | .andI=>b.dp
  | .impE=>b.dp
  | _=>b.dp+1)
 | .impI _ a=>a.dp
 | .all _ _ a=>a.dp+1
 | .ins _ _ a _=>a.dp
 | .ex _ _ _ a=>a.dp
 | .ind l _ _ a b _=>max a.dp (b.dp+lN l)
 | .subst _ a b _=>max a.dp b.dp
def upN:Bool→(Nat→Nat)→Nat→Nat
 | false,ρ=>upR ρ
 | true,ρ=>upR (upR ρ)
def Jt.ren:(Nat→Nat)→Jt→Jt
 | ρ,.leaf u i f => .leaf u i (f.ren ρ)
 | ρ,.refl t => .refl (t.ren ρ)
 | ρ,.p1 k a f => .p1 k (a.ren ρ) (f.ren ρ)
 | ρ,.p2 k a b f => .p2 k (a.ren ρ) (b.ren (match k with
  | .andI=>ρ
  | .impE=>ρ
  | _=>upR ρ)) (f.ren ρ)
 | ρ,.impI x a => .impI (x.ren ρ) (a.ren ρ)
 | ρ,.all u s a => .all u s (a.ren (upR ρ))
 | ρ,.ins u t a f => .ins u (t.ren ρ) (a.ren ρ) (f.ren ρ)
 | ρ,.ex u x t a => .ex u (x.ren ρ) (t.ren ρ) (a.ren ρ)
 | ρ,.ind l x t a b f => .ind l (x.ren (upR ρ)) (t.ren ρ) (a.ren ρ) (b.ren (upN l ρ)) (f.ren ρ)
 | ρ,.subst x a b f => .subst (x.ren (upR ρ)) (a.ren ρ) (b.ren ρ) (f.ren ρ)
theorem qZe:∀ (j:Jt) (ρ:Nat→Nat),(j.ren ρ).f=j.f.ren ρ
 | .leaf _ _ _,_=>rfl
 | .refl _,_=>rfl
 | .p1 _ _ _,_=>rfl
 | .p2 _ _ _ _,_=>rfl
 | .impI x a,ρ=>by show Fm.bin .imp (x.ren ρ) (a.ren ρ).f=_;rw [qZe a];rfl
 | .all u s a,ρ=>by show Fm.q (aq u) s (a.ren (upR ρ)).f=_;rw [qZe a];rfl
 | .ins _ _ _ _,_=>rfl
 | .ex _ _ _ _,_=>rfl
 | .ind _ _ _ _ _ _,_=>rfl
 | .subst _ _ _ _,_=>rfl
theorem qWz:∀ (j:Jt) (ρ:Nat→Nat),PX (fun i => .v (ρ i)) j.p (j.ren ρ).p
 | .leaf _ _ _,_=>rfl
 | .refl t,ρ=>⟨t.ren ρ,rfl⟩
 | .p1 _ a _,ρ=>⟨_,rfl,qWz a ρ⟩
 | .p2 k a b _,ρ=>⟨_,_,rfl,qWz a ρ,by cases k<;>simp only [qGg]<;>exact qWz b _⟩
 | .impI x a,ρ=>⟨_,_,rfl,qXs x ρ,qWz a ρ⟩
 | .all _ _ a,ρ=>⟨_,rfl,by rw [qGg];exact qWz a _⟩
 | .ins _ t a _,ρ=>⟨_,_,rfl,fun _=>qWy t ρ,qWz a ρ⟩
 | .ex _ x t a,ρ=>⟨_,_,_,rfl,qXs x ρ,fun _=>qWy t ρ,qWz a ρ⟩
 | .ind l x t a b _,ρ=>⟨_,_,_,_,rfl,qXs x _,qWy t ρ,qWz a ρ,by cases l<;>simp only [qGg]<;>exact qWz b _⟩
 | .subst x a b _,ρ=>⟨_,_,_,rfl,qXs x _,qWz a ρ,qWz b ρ⟩
theorem qO3 {ρ:Nat→Nat} {P:Nat→Prop} {w:Nat} (h:∃ v,P v∧upR ρ v=w+1):∃ v,P (v+1)∧ρ v=w:=by
 obtain⟨v,h1,h2⟩:=h
 cases v with
 | zero=>simp only [upR] at h2;omega
 | succ v=>exact⟨v,h1,by simp only [upR] at h2;omega⟩
theorem qVf:∀ (j:Jt) (ρ:Nat→Nat) (w:Nat),(j.ren ρ).us w→∃ v,j.us v∧ρ v=w
 | .leaf _ _ _,_,_,h=>h.elim
 | .refl _,_,_,h=>h.elim
 | .p1 _ a f,ρ,w,⟨h0,h⟩=>by
  obtain⟨v,h1,h2⟩:=qVf a ρ w h
  exact⟨v,⟨by rw [← qZo f ρ];exact h0,h1⟩,h2⟩
 | .p2 k a b f,ρ,w,⟨h0,h⟩=>by
  have h0:f.has=true:=by rw [← qZo f ρ];exact h0
  rcases h with h|h
  ·obtain⟨v,h1,h2⟩:=qVf a ρ w h
   exact⟨v,⟨h0,.inl h1⟩,h2⟩
  ·cases k
   ·obtain⟨v,h1,h2⟩:=qVf b ρ w h
    exact⟨v,⟨h0,.inr h1⟩,h2⟩
   ·obtain⟨v,h1,h2⟩:=qVf b ρ w h
    exact⟨v,⟨h0,.inr h1⟩,h2⟩
   ·obtain⟨v,h1,h2⟩:=qO3 (qVf b (upR ρ) (w+1) h)
    exact⟨v,⟨h0,.inr h1⟩,h2⟩
   ·obtain⟨v,h1,h2⟩:=qO3 (qVf b (upR ρ) (w+1) h)
    exact⟨v,⟨h0,.inr h1⟩,h2⟩
 | .impI x a,ρ,w,⟨h0,h⟩=>by
  obtain⟨v,h1,h2⟩:=qVf a ρ w h
  refine⟨v,⟨?_,h1⟩,h2⟩
  rw [qZe] at h0
  rw [← qZo (.bin .imp x a.f) ρ];exact h0
 | .all u s a,ρ,w,⟨h0,h⟩=>by
  obtain⟨v,h1,h2⟩:=qO3 (qVf a (upR ρ) (w+1) h)
  refine⟨v,⟨?_,h1⟩,h2⟩
  rw [qZe] at h0
  rw [← qZo (.q (aq u) s a.f) ρ];exact h0
 | .ins u t a f,ρ,w,⟨h0,h⟩=>by
  have h0:f.has=true:=by rw [← qZo f ρ];exact h0
  rcases h with h|⟨hu,h⟩
  ·obtain⟨v,h1,h2⟩:=qVf a ρ w h
   exact⟨v,⟨h0,.inl h1⟩,h2⟩
  ·obtain⟨v,h1,h2⟩:=qVy t ρ w h
   exact⟨v,⟨h0,.inr ⟨hu,h1⟩⟩,h2⟩
 | .ex u x t a,ρ,w,⟨h0,h⟩=>by
  have h0:x.has=true:=by rw [← qZo x ρ];exact h0
  rcases h with h|⟨hu,h⟩
  ·obtain⟨v,h1,h2⟩:=qVf a ρ w h
   exact⟨v,⟨h0,.inl h1⟩,h2⟩
  ·obtain⟨v,h1,h2⟩:=qVy t ρ w h
   exact⟨v,⟨h0,.inr ⟨hu,h1⟩⟩,h2⟩
 | .ind l x t a b f,ρ,w,⟨h0,h⟩=>by
  have h0:f.has=true:=by rw [← qZo f ρ];exact h0
  rcases h with h|h|h
  ·obtain⟨v,h1,h2⟩:=qVy t ρ w h
   exact⟨v,⟨h0,.inl h1⟩,h2⟩
  ·obtain⟨v,h1,h2⟩:=qVf a ρ w h
   exact⟨v,⟨h0,.inr (.inl h1)⟩,h2⟩
  ·cases l
   ·obtain⟨v,h1,h2⟩:=qO3 (qVf b (upR ρ) (w+1) h)
    exact⟨v,⟨h0,.inr (.inr h1)⟩,h2⟩
   ·obtain⟨v,h1,h2⟩:=qO3 (P:=fun i=>b.us (i+1)) (qO3 (qVf b (upR (upR ρ)) (w+2) h))
    exact⟨v,⟨h0,.inr (.inr h1)⟩,h2⟩
 | .subst x a b f,ρ,w,⟨h0,h⟩=>by
  obtain⟨v,h1,h2⟩:=qVf b ρ w h
  exact⟨v,⟨by rw [← qZo f ρ];exact h0,h1⟩,h2⟩
theorem qT0 {j:Jt} (ρ:Nat→Nat) (h:¬j.us 0):¬(j.ren (upR ρ)).us 0:=fun k=>by
 obtain⟨v,h1,h2⟩:=qVf j (upR ρ) 0 k
 rw [(qTx ρ v).1 h2] at h1
 exact h h1
theorem qL7 (hs:List Fm) (x:Fm) (ρ:Nat→Nat):(upH 1 hs++[x]).map (Fm.ren (upR ρ))=upH 1 (hs.map (Fm.ren ρ))++[x.ren (upR ρ)]:=by
 rw [List.map_append,qNq];rfl
theorem zJk (hs:List Fm) (x:Fm) (l:Bool) (ρ:Nat→Nat):(zBs hs x l).map (Fm.ren (upN l ρ))=zBs (hs.map (Fm.ren ρ)) (x.ren (upR ρ)) l:=by
 cases l
 ·exact qL7 hs x ρ
 ·show (upH 2 hs++[x.sh 1 (.ofNat 1)]).map (Fm.ren (upR (upR ρ)))=_
  rw [List.map_append,zJj,List.map_cons,List.map_nil,qY6 (zLm ρ)];rfl
theorem RNg.upG {g g':List Ty} {ρ:Nat→Nat} (h:RNg g g' ρ) (l:Bool):RNg (g++lG l) (g'++lG l) (upN l ρ):=by
 cases l
 ·exact h.up .nat
 ·have:=(h.up .nat).up .list
  simpa [lG,upN] using this
theorem zDr (l:Bool) (ρ:Nat→Nat):(l0 l).ren ρ=l0 l:=by cases l<;>rfl
theorem zDs (l:Bool) (ρ:Nat→Nat):(l1 l).ren (upN l ρ)=l1 l:=by cases l<;>rfl
theorem zNr (l:Bool) (x:Fm) (ρ:Nat→Nat):(x.sh 1 (.ofNat (lN l))).ren (upR (upN l ρ))=(x.ren (upR ρ)).sh 1 (.ofNat (lN l)):=by
 cases l
 ·exact qY6 (zLm ρ) x
 ·exact qY6 (zNp ρ) x
theorem qK6:∀ (j:Jt) (g g':List Ty) (hs:List Fm) (ρ:Nat→Nat),RNg g g' ρ→g'.length+j.dp≤16→j.D [] g hs→(j.ren ρ).D [] g' (hs.map (Fm.ren ρ))
 | .leaf u i f,g,g',hs,ρ,hr,hd,⟨h0,h⟩=>⟨by rw [qQ5];exact h0,by
  cases u
  ·exact⟨by rw [List.length_map];exact h.1,by rw [List.length_map,List.getElem?_map,h.2];rfl⟩
  ·simp at h⟩
 | .refl t,g,g',hs,ρ,hr,hd,⟨h0,h1,h2⟩=>⟨by rw [show Fm.eq (t.ren ρ) (t.ren ρ)=(Fm.eq t t).ren ρ from rfl,qQ5];exact h0,by rw [qVx];exact h1,qJk t g g' ρ _ hr h2⟩
 | .p1 k a f,g,g',hs,ρ,hr,hd,⟨h0,h1,h2⟩=>⟨by rw [qQ5];exact h0,qK6 a g g' hs ρ hr hd h1,by
  cases k
  ·obtain⟨y,e⟩:=h2
   exact⟨y.ren ρ,by rw [qZe,e];rfl⟩
  ·obtain⟨y,e⟩:=h2
   exact⟨y.ren ρ,by rw [qZe,e];rfl⟩
  ·obtain⟨s,u,x,e,hs,y,e1,e2⟩:=h2
   refine⟨s,u,x.ren (upR (upR ρ)),by rw [qZe,e];rfl,hs,y.ren (upR (upR ρ)),?_,by rw [e2];rfl⟩
   rw [← qY6 (zNq ρ)]
   exact qAp (upR (upR ρ)) e1⟩
 | .p2 k a b f,g,g',hs,ρ,hr,hd,⟨h0,h1,h2⟩=>by
  have hd:g'.length+max a.dp _≤16:=hd
  refine⟨by rw [qQ5];exact h0,qK6 a g g' hs ρ hr (by omega) h1,?_⟩
  cases k
  ·obtain⟨h3,e⟩:=h2
   exact⟨qK6 b g g' hs ρ hr (by simp only at hd;omega) h3,by rw [qZe,qZe,e];rfl⟩
  ·obtain⟨h3,x,e,h4⟩:=h2
   exact⟨qK6 b g g' hs ρ hr (by simp only at hd;omega) h3,x.ren ρ,by rw [qZe,e];rfl,by rw [qZe];exact qKp _ _ ρ h4⟩
  ·obtain⟨⟨s,e,h3⟩,⟨l1,l2⟩,h4⟩:=h2
   simp only at hd
   have e':(a.ren ρ).f = .q .ex s (a.f.bd.ren (upR ρ)):=by rw [qZe,e];rfl
   refine⟨⟨s,by rw [e'];rfl,?_⟩,⟨by omega,by rw [List.length_map];exact l2⟩,by rw [qZe];exact qTz ρ h4⟩
   have:=qK6 b _ _ _ (upR ρ) (hr.up s) (by simp;omega) h3
   rw [qL7] at this
   rw [e']
   exact this
  ·obtain⟨⟨s,e,h3⟩,⟨l1,l2⟩,h4,h5⟩:=h2
   simp only at hd
   have e':(a.ren ρ).f = .q .exU s (a.f.bd.ren (upR ρ)):=by rw [qZe,e];rfl
   refine⟨⟨s,by rw [e'];rfl,?_⟩,⟨by omega,by rw [List.length_map];exact l2⟩,by rw [qZe];exact qTz ρ h4,qT0 ρ h5⟩
   have:=qK6 b _ _ _ (upR ρ) (hr.up s) (by simp;omega) h3
   rw [qL7] at this
   rw [e']
   exact this
 | .impI x a,g,g',hs,ρ,hr,hd,⟨h0,⟨h1,h2⟩,h3,h4⟩=>by
  refine⟨by rw [qZe,show Fm.bin .imp (x.ren ρ) (a.f.ren ρ)=(Fm.bin .imp x a.f).ren ρ from rfl,qQ5];exact h0,⟨by rw [qQ5];exact h1,qXt x g g' ρ hr h2⟩,by rw [List.length_map];exact h3,?_⟩
  have:=qK6 a g g' _ ρ hr hd h4
  rw [List.map_append] at this
  exact this
 | .all u s a,g,g',hs,ρ,hr,hd,⟨h0,h1,h2,h3⟩=>by
  have hd:g'.length+(a.dp+1)≤16:=hd
  refine⟨by rw [qZe,show Fm.q (aq u) s (a.f.ren (upR ρ))=(Fm.q (aq u) s a.f).ren ρ from rfl,qQ5];exact h0,by omega,?_,fun hu=>qT0 ρ (h3 hu)⟩
  have:=qK6 a _ _ _ (upR ρ) (hr.up s) (by simp;omega) h2
  rw [qNq] at this
  exact this
 | .ins u t a f,g,g',hs,ρ,hr,hd,⟨h0,h1,h2,s,x,e1,e2,e3⟩ =>
  ⟨by rw [qQ5];exact h0,by rw [qVx];exact h1,qK6 a g g' hs ρ hr hd h2,s,x.ren (upR ρ),qJk t g g' ρ _ hr e1,by rw [qZe,e2];rfl,qAp ρ e3⟩
 | .ex u x t a,g,g',hs,ρ,hr,hd,⟨⟨h0,h1⟩,h2,h3,s,y,w,e1,e2,e3,e4⟩ =>
  ⟨⟨by rw [qQ5];exact h0,qXt x g g' ρ hr h1⟩,by rw [qVx];exact h2,qK6 a g g' hs ρ hr hd h3,s,y.ren (upR ρ),w.ren ρ,qJk t g g' ρ _ hr e1,by rw [e2];rfl,qAp ρ e3,by rw [qZe];exact qKp _ _ ρ e4⟩
 | .ind l x t a b f,g,g',hs,ρ,hr,hd,⟨h0,⟨h1,h2⟩,⟨h3,h4⟩,⟨h5,w,h6,h7⟩,⟨h8,h9⟩,⟨h10,w',h11,h12⟩,h13⟩=>by
  have hd:g'.length+max a.dp (b.dp+lN l)≤16:=hd
  refine⟨by rw [qQ5];exact h0,⟨by rw [qQ5];exact h1,qXt x _ _ _ (hr.up (lT l)) h2⟩,⟨by rw [qVx];exact h3,qJk t g g' ρ _ hr h4⟩,
   ⟨qK6 a g g' hs ρ hr (by omega) h5,w.ren ρ,?_,by rw [qZe];exact qKp _ _ ρ h7⟩,⟨by omega,by rw [List.length_map];exact h9⟩,⟨?_,w'.ren (upN l ρ),?_,by rw [qZe];exact qKp _ _ _ h12⟩,qAp ρ h13⟩
  ·have:=qAp ρ h6
   rwa [zDr] at this
  ·have:=qK6 b _ _ _ (upN l ρ) (hr.upG l) (by cases l<;>simp [lG,lN] at hd ⊢<;>omega) h10
   rwa [zJk] at this
  ·have:=qAp (upN l ρ) h11
   rwa [zDs,zNr] at this
 | .subst x a b f,g,g',hs,ρ,hr,hd,⟨h0,⟨h1,h2⟩,h3,h4,t,u,w,e1,e2,e3,e4⟩=>by
  have hd:g'.length+max a.dp b.dp≤16:=hd
  exact⟨by rw [qQ5];exact h0,⟨by rw [qQ5];exact h1,qXt x _ _ _ (hr.up .nat) h2⟩,qK6 a g g' hs ρ hr (by omega) h3,qK6 b g g' hs ρ hr (by omega) h4,t.ren ρ,u.ren ρ,w.ren ρ,by rw [qZe,e1];rfl,qAp ρ e2,by rw [qZe];exact qKp _ _ ρ e3,qAp ρ e4⟩
open Go.Lg
set_option maxRecDepth 100000
theorem zLn {n v:Nat} (h:v<n):(Tm.v v).ps (qAm n 0).vs n 0 = .v v:=by
 have e:ent (qAm n 0).vs v=some (.v v,n):=by
  unfold ent
  show (if v<(nvs (n+0) 0 n).length then (nvs (n+0) 0 n)[(nvs (n+0) 0 n).length-1-v]? else none)=_
  rw [qY4,if_pos h,qTg _ _ _ _ (by omega)]
  simp only [Nat.add_zero,Nat.zero_add]
  rw [show n-1-(n-1-v)=v by omega]
 rw [vps e]
 show (Tm.v v).sh 0 (.ofNat (n-n)) = .v v
 rw [Nat.sub_self,qM5]
theorem zDt {j:Jt} {n n':Nat} {ρ:Nat→Nat} (hO:j.OK [] n []) (hO':(j.ren ρ).OK [] n' []) (h:∀ i,i<n→ρ i<n') (hf:j.f.has=true):(j.ren ρ).xt [] (qAm n' 0)=(j.xt [] (qAm n 0)).ren ρ:=by
 rw [qWy]
 refine qZh (ls:=[]) (tl:=[]) (fun i t h=>by simp at h) j (j.ren ρ) n n' [] [] (fun i => .v (ρ i)) _ (qAm n 0) (qAm n' 0) hO hO' rfl (qWz j ρ) (qF9 n 0) (qF9 n' 0) ⟨fun v _ hl => ?_,rfl,fun i hi=>absurd hi (Nat.not_lt_zero i)⟩ hf
 have hl:v<n:=by
  have:v<(nvs (n+0) 0 n).length:=hl
  rwa [qY4] at this
 refine⟨?_,?_⟩
 ·show ρ v<(nvs (n'+0) 0 n').length
  rw [qY4];exact h v hl
 ·show (Tm.v (ρ v)).ps (qAm n' 0).vs n' 0=((Tm.v v).ps (qAm n 0).vs n 0).sub _
  rw [zLn hl,zLn (h v hl)];rfl
theorem qT1 (g:List Ty) (s:Ty):RNg g (g++[s]) (· + 1):=fun i u e=>by rw [zYo];exact e
theorem qNr (g:List Ty) (s:Ty):RNg g (s::g) (fun i=>i):=fun i u e=>by
 unfold tyV at e ⊢
 by_cases h:i<g.length
 ·rw [if_pos h] at e
  rw [if_pos (by simp;omega),List.length_cons,show g.length+1-1-i=(g.length-1-i)+1 by omega,List.getElem?_cons_succ]
  exact e
 ·rw [if_neg h] at e;cases e
theorem qEm:upR (fun i=>i)=fun i=>i:=by
 funext i
 cases i<;>rfl
theorem qEn (t:Tm):t.ren (fun i=>i)=t:=by rw [qWy];exact qF8 t
theorem qVg:∀ f:Fm,f.ren (fun i=>i)=f
 | .eq a b=>by simp only [Fm.ren,qEn]
 | .bin _ f g=>by simp only [Fm.ren,qVg f,qVg g]
 | .q _ _ f=>by simp only [Fm.ren,qEm,qVg f]
theorem zDu (l:Bool):upN l (fun i=>i)=fun i=>i:=by cases l<;>simp only [upN,qEm]
theorem qJs:∀ j:Jt,j.ren (fun i=>i)=j
 | .leaf _ _ f=>by simp only [Jt.ren,qVg]
 | .refl t=>by simp only [Jt.ren,qEn]
 | .p1 _ a f=>by simp only [Jt.ren,qVg,qJs a]
 | .p2 k a b f=>by cases k<;>simp only [Jt.ren,qVg,qEm,qJs a,qJs b]
 | .impI x a=>by simp only [Jt.ren,qVg,qJs a]
 | .all _ _ a=>by simp only [Jt.ren,qEm,qJs a]
 | .ins _ t a f=>by simp only [Jt.ren,qVg,qEn,qJs a]
 | .ex _ x t a=>by simp only [Jt.ren,qVg,qEn,qJs a]
 | .ind l x t a b f=>by simp only [Jt.ren,qEm,zDu,qVg,qEn,qJs a,qJs b]
 | .subst x a b f=>by simp only [Jt.ren,qEm,qVg,qJs a,qJs b]
theorem qA1:∀ j:Jt,j.p.dp=j.dp
 | .leaf _ _ _=>rfl
 | .refl _=>rfl
 | .p1 _ a _=>qA1 a
 | .p2 k a b _=>by cases k<;>simp only [Jt.p,Pf.dp,Jt.dp,qA1 a,qA1 b]
 | .impI _ a=>qA1 a
 | .all _ _ a=>by simp only [Jt.p,Pf.dp,Jt.dp,qA1 a]
 | .ins _ _ a _=>qA1 a
 | .ex _ _ _ a=>qA1 a
 | .ind l _ _ a b _=>by simp only [Jt.p,Pf.dp,Jt.dp,qA1 a,qA1 b]
 | .subst _ a b _=>by simp only [Jt.p,Pf.dp,Jt.dp,qA1 a,qA1 b]
theorem qZp:∀ (j:Jt) (ρ:Nat→Nat),(j.ren ρ).p.cnt=j.p.cnt
 | .leaf _ _ _,_=>rfl
 | .refl t,ρ=>by simp only [Jt.ren,Jt.p,Pf.cnt,qZf]
 | .p1 _ a _,ρ=>by simp only [Jt.ren,Jt.p,Pf.cnt,qZp a]
 | .p2 _ a b _,ρ=>by simp only [Jt.ren,Jt.p,Pf.cnt,qZp a,qZp b]
 | .impI x a,ρ=>by simp only [Jt.ren,Jt.p,Pf.cnt,qJz,qZp a]
 | .all _ _ a,ρ=>by simp only [Jt.ren,Jt.p,Pf.cnt,qZp a]
 | .ins _ t a _,ρ=>by simp only [Jt.ren,Jt.p,Pf.cnt,qZf,qZp a]
 | .ex _ x t a,ρ=>by simp only [Jt.ren,Jt.p,Pf.cnt,qZf,qJz,qZp a]
 | .ind _ x t a b _,ρ=>by simp only [Jt.ren,Jt.p,Pf.cnt,qZf,qJz,qZp a,qZp b]
 | .subst x a b _,ρ=>by simp only [Jt.ren,Jt.p,Pf.cnt,qJz,qZp a,qZp b]
theorem qV9:∀ (j:Jt) (ρ:Nat→Nat),j.p.ck→(j.ren ρ).p.ck
 | .leaf _ _ _,_,h=>h
 | .refl t,ρ,h=>by show (t.ren ρ).chk=0;rw [qVx];exact h
 | .p1 _ a _,ρ,h=>qV9 a ρ h
 | .p2 _ a b _,ρ,⟨h1,h2⟩=>⟨qV9 a ρ h1,qV9 b _ h2⟩
 | .impI x a,ρ,⟨h1,h2⟩=>⟨by rw [qQ5];exact h1,qV9 a ρ h2⟩
 | .all _ _ a,ρ,⟨h1,h2⟩=>⟨h1,qV9 a _ h2⟩
 | .ins _ t a _,ρ,⟨h1,h2⟩=>⟨by rw [qVx];exact h1,qV9 a ρ h2⟩
 | .ex _ x t a,ρ,⟨h1,h2,h3⟩=>⟨by rw [qVx];exact h1,by rw [qQ5];exact h2,qV9 a ρ h3⟩
 | .ind _ x t a b _,ρ,⟨h1,h2,h3,h4⟩=>⟨by rw [qVx];exact h1,by rw [qQ5];exact h2,qV9 a ρ h3,qV9 b _ h4⟩
 | .subst x a b _,ρ,⟨h1,h2,h3⟩=>⟨by rw [qQ5];exact h1,qV9 a ρ h2,qV9 b ρ h3⟩
def Pf.lf (k:Nat):Nat→Pf→Pf
 | _,.leaf u i => .leaf u i
 | c,.refl t => .refl (t.sh c (.ofNat k))
 | c,.p1 q a => .p1 q (a.lf k c)
 | c,.p2 q a b => .p2 q (a.lf k c) (b.lf k (match q with
  | .andI=>c
  | .impE=>c
  | _=>c+1))
 | c,.impI x a => .impI (x.sh c (.ofNat k)) (a.lf k c)
 | c,.all u s a => .all u s (a.lf k (c+1))
 | c,.ins u t a => .ins u (t.sh c (.ofNat k)) (a.lf k c)
 | c,.ex u x t a => .ex u (x.sh c (.ofNat k)) (t.sh c (.ofNat k)) (a.lf k c)
 | c,.ind l x t a b => .ind l (x.sh (c+1) (.ofNat k)) (t.sh c (.ofNat k)) (a.lf k c) (b.lf k (c+lN l))
 | c,.subst x a b => .subst (x.sh (c+1) (.ofNat k)) (a.lf k c) (b.lf k c)
theorem qC4 (k:Nat) (t:Tm) (c:Nat):t.sh c (.ofNat k)=t.ren (shR c k):=qV8 k t c
theorem zYq (l:Bool) (c k:Nat):upN l (shR c k)=shR (c+lN l) k:=by
 cases l
 ·exact qKo c k
 ·show upR (upR (shR c k))=_
  rw [qKo,qKo];rfl
theorem qW0 (k:Nat):∀ (j:Jt) (c:Nat),(j.ren (shR c k)).p=j.p.lf k c
 | .leaf _ _ _,_=>rfl
 | .refl t,c=>by simp only [Jt.ren,Jt.p,Pf.lf,qC4]
 | .p1 _ a _,c=>by simp only [Jt.ren,Jt.p,Pf.lf,qW0 k a]
 | .p2 q a b _,c=>by cases q<;>simp only [Jt.ren,Jt.p,Pf.lf,qKo,qW0 k a,qW0 k b]
 | .impI x a,c=>by simp only [Jt.ren,Jt.p,Pf.lf,qWs,qW0 k a]
 | .all _ _ a,c=>by simp only [Jt.ren,Jt.p,Pf.lf,qKo,qW0 k a]
 | .ins _ t a _,c=>by simp only [Jt.ren,Jt.p,Pf.lf,qC4,qW0 k a]
 | .ex _ x t a,c=>by simp only [Jt.ren,Jt.p,Pf.lf,qWs,qC4,qW0 k a]
 | .ind l x t a b _,c=>by simp only [Jt.ren,Jt.p,Pf.lf,qKo,zYq,qWs,qC4,qW0 k a,qW0 k b]
 | .subst x a b _,c=>by simp only [Jt.ren,Jt.p,Pf.lf,qKo,qWs,qW0 k a,qW0 k b]
theorem zWm (g:List Ty) (hg:g.length≤16) (hgs:∀ s∈g,s.size≤64) (j:Jt) (hD:j.D [] g []) (hc:j.p.ck) (hp:j.p.cnt≤16384) (hf:j.f.has=false):A 9 [fms [],row [],qJy g [],j.p.p] (XR.er .z 39).p:=by
 obtain⟨g1,_⟩:=a23 g hg hgs j hD hc hp
 exact f3 [(17,.U [j.ptr [],num 0]),(26,.N 0),(34,.H)] g1 a15 hf
theorem qT2 {g g':List Ty} {ρ:Nat→Nat} (hg:g.length≤16) (hgs:∀ s∈g,s.size≤64) (hg':g'.length≤16) (hgs':∀ s∈g',s.size≤64) {j:Jt} (hr:RNg g g' ρ) (hi:∀ i,i<g.length→ρ i<g'.length) (hd:g'.length+j.dp≤16) (hD:j.D [] g []) (hc:j.p.ck) (hp:j.p.cnt≤16384) (hf:j.f.has=true):∃ r:XR,A 9 [fms [],row [],qJy g' [],(j.ren ρ).p.p] r.p∧r.Gd g'.length ((j.xt [] (qAm g.length 0)).ren ρ):=by
 have hD':=qK6 j g g' [] ρ hr hd hD
 have hc':=qV9 j ρ hc
 have hp':(j.ren ρ).p.cnt≤16384:=by rw [qZp];exact hp
 have hf':(j.ren ρ).f.has=true:=by rw [qZe,qZo];exact hf
 obtain⟨r,g1,q⟩:=a10 g' hg' hgs' (j.ren ρ) hD' hc' hp' hf'
 rw [zDt (a23 g hg hgs j hD hc hp).2 (a23 g' hg' hgs' (j.ren ρ) hD' hc' hp').2 hi hf] at q
 exact⟨r,g1,q⟩
theorem qT3 {g g':List Ty} {ρ:Nat→Nat} (hg':g'.length≤16) (hgs':∀ s∈g',s.size≤64) {j:Jt} (hr:RNg g g' ρ) (hd:g'.length+j.dp≤16) (hD:j.D [] g []) (hc:j.p.ck) (hp:j.p.cnt≤16384) (hf:j.f.has=false):A 9 [fms [],row [],qJy g' [],(j.ren ρ).p.p] (XR.er .z 39).p :=
 zWm g' hg' hgs' (j.ren ρ) (qK6 j g g' [] ρ hr hd hD) (qV9 j ρ hc) (by rw [qZp];exact hp) (by rw [qZe,qZo];exact hf)
end Go.Proofs.YtalkjpicadiimaaGreatDoor
