/- Contracts of functions; no conditions. -/
import Derived.Test.YtjobiknipefjdaaGreatDoorSolC10
import Derived.Test.YtjobiknipefjdaaGreatDoorSolC9
set_option linter.all false
set_option maxHeartbeats 4000000
namespace Go.Proofs.YtjobiknipefjdaaGreatDoor
open Go.Lg
set_option maxRecDepth 100000
def wU{g:Tm}(h:Sml 1000 g):Rs 24 [g.p] (WM g):=by
 let P1:=(Px.o.a 8 QO);obtain⟨d,b⟩:=uI (Sml.mono h (by decide)) (dE .nat .nat)
 cases d with|succ e=>exact .inl ⟨e,(P1.a 9 b).f (by kernel_rfl)⟩|zero=>
 let P2:=((((((((P1.a 9 b).a 16 (FD 0)).a 18 (XM g (.v 0))).a 19 aC).a 21 (YF (Sml.mono (Sml.n2 .app h (vS 0)) (by decide)))).a 22 (SO .nat (YA (gB g (.v 0))))).a 23 aC).a 25 (YF (Sml.mono (Sml.n2 .app h (vS 0)) (by decide))));let c:=(((P2.a 28 (fJ (gB g (.v 0)))).a 29 (gJ (YA (gB g (.v 0))) (gB g (.v 0)) (.refl (gB g (.v 0))))).a 30 (TQ .nat (.ex false (YA (gB g (.v 0))) (gB g (.v 0)) (.refl (gB g (.v 0))))));rcases UQ (F:=(.q .all .nat (YA (gB g (.v 0))))) (p:=WM g) (SmF.all (by decide) (SmF.is (Sml.n2 .app h (vS 0)))) (OO h) (by decide) (by decide)with ⟨e,a⟩|⟨F,a⟩
 ·exact .inl ⟨e,(c.a 31 a).f (by kernel_rfl)⟩
 exact .inr ⟨F,(c.a 31 a).f (by kernel_rfl)⟩
def Nt{b g:Tm}(a:Sml 1000 b)(h:Sml 1000 g):Rs 16 [b.p,g.p] (gZ b g):=by
 let P1:=(Px.o.a 15 aC);obtain⟨j,d⟩:=uI (Sml.mono a (by decide)) .nat
 cases j with|succ e=>exact .inl ⟨e,(P1.a 16 d).f (by kernel_rfl)⟩|zero=>
 let P2:=((((P1.a 16 d).a 23 aC).a 24 QO).a 25 (SQ .nat (dE .nat .nat)));obtain⟨k,f⟩:=uI (Sml.mono h (by decide)) (dE .nat (dE .nat .nat))
 cases k with|succ e=>exact .inl ⟨e,(P2.a 26 f).f (by kernel_rfl)⟩|zero=>
 let l:=((((((((P2.a 26 f).a 33 (vB 1)).a 34 (vB 0)).a 36 (YM g (.v 1) (.v 0))).a 38 (vU (Sml.mono (Sml.n2 .app (Sml.n2 .app h (vS 1)) (vS 0)) (by decide)))).a 40 (vB 2)).a 41 (vB 0)).a 43 (YM g (.v 2) (.v 0)));let m:=((((((((l.a 44 (bJ ((lA g (.v 1) (.v 0)).sh 0 (.ofNat 1)) (lA g (.v 2) (.v 0)))).a 45 (dJ 0)).a 47 (fJ (lA g (.v 1) (.v 0)))).a 48 (WO (.eq ((lA g (.v 1) (.v 0)).sh 0 (.ofNat 1)) (lA g (.v 2) (.v 0))) (.leaf false 0) (.refl (lA g (.v 1) (.v 0))))).a 49 (dJ 0)).a 52 (vB 1)).a 54 (yI .succ (.v 1))).a 55 (TO .re b g (.n1 .succ (.v 1))));let n:=((((((((m.a 56 (YF (Sml.mono (Sml.n3 (s:=.nat) .re (by decide) a h (Sml.n1 .succ (vS 1))) (by decide)))).a 59 (gJ (YA (.n3 .re .nat b g (.n1 .succ (.v 1)))) (lA g (.v 1) (.v 0)) (.subst (.eq ((lA g (.v 1) (.v 0)).sh 0 (.ofNat 1)) (lA g (.v 2) (.v 0))) (.leaf false 0) (.refl (lA g (.v 1) (.v 0)))))).a 60 (VO (.leaf false 0) (.ex false (YA (.n3 .re .nat b g (.n1 .succ (.v 1)))) (lA g (.v 1) (.v 0)) (.subst (.eq ((lA g (.v 1) (.v 0)).sh 0 (.ofNat 1)) (lA g (.v 2) (.v 0))) (.leaf false 0) (.refl (lA g (.v 1) (.v 0))))))).a 63 (nZ .zero)).a 64 (TO .re b g (.n0 .zero))).a 65 (YF (Sml.mono (Sml.n3 (s:=.nat) .re (by decide) a h (Sml.n0 .zero)) (by decide)))).a 68 (fJ b)).a 69 (gJ (YA (.n3 .re .nat b g (.n0 .zero))) b (.refl b)));let o:=((((((((n.a 72 (vB 0)).a 73 (TO .re b g (.v 0))).a 74 (YF (Sml.mono (Sml.n3 (s:=.nat) .re (by decide) a h (vS 0)) (by decide)))).a 75 aC).a 77 (SO .nat (YA (.n3 .re .nat b g (.v 0))))).a 78 aC).a 80 (vB 0)).a 83 (th (YA (.n3 .re .nat b g (.v 0))) (.v 0) (.ex false (YA (.n3 .re .nat b g (.n0 .zero))) b (.refl b)) (.p2 .exE (.leaf false 0) (.ex false (YA (.n3 .re .nat b g (.n1 .succ (.v 1)))) (lA g (.v 1) (.v 0)) (.subst (.eq ((lA g (.v 1) (.v 0)).sh 0 (.ofNat 1)) (lA g (.v 2) (.v 0))) (.leaf false 0) (.refl (lA g (.v 1) (.v 0))))))));let i:=(o.a 84 (TQ .nat (.ind false (YA (.n3 .re .nat b g (.v 0))) (.v 0) (.ex false (YA (.n3 .re .nat b g (.n0 .zero))) b (.refl b)) (.p2 .exE (.leaf false 0) (.ex false (YA (.n3 .re .nat b g (.n1 .succ (.v 1)))) (lA g (.v 1) (.v 0)) (.subst (.eq ((lA g (.v 1) (.v 0)).sh 0 (.ofNat 1)) (lA g (.v 2) (.v 0))) (.leaf false 0) (.refl (lA g (.v 1) (.v 0)))))))));rcases UQ (F:=(.q .all .nat (YA (.n3 .re .nat b g (.v 0))))) (p:=gZ b g) (SmF.all (by decide) (SmF.is (Sml.n3 (s:=.nat) .re (by decide) a h (vS 0)))) (bh a h) (by decide) (by decide)with ⟨e,c⟩|⟨F,c⟩
 ·exact .inl ⟨e,(i.a 85 c).f (by kernel_rfl)⟩
 exact .inr ⟨F,(i.a 85 c).f (by kernel_rfl)⟩
def Ot{b g:Tm}(a:Sml 1000 b)(h:Sml 1000 g):Rs 19 [b.p,g.p] (hZ b g):=by
 let P1:=(Px.o.a 15 aC);obtain⟨j,d⟩:=uI (Sml.mono a (by decide)) .nat
 cases j with|succ e=>exact .inl ⟨e,(P1.a 16 d).f (by kernel_rfl)⟩|zero=>
 let P2:=((((((P1.a 16 d).a 23 aC).a 24 NK).a 25 QO).a 26 (SQ .list (dE .nat .nat))).a 27 (SQ .nat (dE .list (dE .nat .nat))));obtain⟨k,f⟩:=uI (Sml.mono h (by decide)) (dE .nat (dE .list (dE .nat .nat)))
 cases k with|succ e=>exact .inl ⟨e,(P2.a 28 f).f (by kernel_rfl)⟩|zero=>
 let l:=((((((((P2.a 28 f).a 35 (vB 2)).a 36 (vB 1)).a 37 (vB 0)).a 39 (nh g (.v 2) (.v 1) (.v 0))).a 41 (vU (Sml.mono (Sml.n2 .app (Sml.n2 .app (Sml.n2 .app h (vS 2)) (vS 1)) (vS 0)) (by decide)))).a 43 (vB 3)).a 44 (vB 2));let m:=((((((((l.a 45 (vB 0)).a 47 (nh g (.v 3) (.v 2) (.v 0))).a 48 (bJ ((vC g (.v 2) (.v 1) (.v 0)).sh 0 (.ofNat 1)) (vC g (.v 3) (.v 2) (.v 0)))).a 49 (dJ 0)).a 51 (fJ (vC g (.v 2) (.v 1) (.v 0)))).a 52 (WO (.eq ((vC g (.v 2) (.v 1) (.v 0)).sh 0 (.ofNat 1)) (vC g (.v 3) (.v 2) (.v 0))) (.leaf false 0) (.refl (vC g (.v 2) (.v 1) (.v 0))))).a 53 (dJ 0)).a 56 (vB 2));let n:=((((((((m.a 57 (vB 1)).a 59 (pZ .cons (.v 2) (.v 1))).a 60 (TO .fo b g (.n2 .cons (.v 2) (.v 1)))).a 61 (YF (Sml.mono (Sml.n3 (s:=.nat) .fo (by decide) a h (Sml.n2 .cons (vS 2) (vS 1))) (by decide)))).a 64 (gJ (YA (.n3 .fo .nat b g (.n2 .cons (.v 2) (.v 1)))) (vC g (.v 2) (.v 1) (.v 0)) (.subst (.eq ((vC g (.v 2) (.v 1) (.v 0)).sh 0 (.ofNat 1)) (vC g (.v 3) (.v 2) (.v 0))) (.leaf false 0) (.refl (vC g (.v 2) (.v 1) (.v 0)))))).a 65 (VO (.leaf false 0) (.ex false (YA (.n3 .fo .nat b g (.n2 .cons (.v 2) (.v 1)))) (vC g (.v 2) (.v 1) (.v 0)) (.subst (.eq ((vC g (.v 2) (.v 1) (.v 0)).sh 0 (.ofNat 1)) (vC g (.v 3) (.v 2) (.v 0))) (.leaf false 0) (.refl (vC g (.v 2) (.v 1) (.v 0))))))).a 68 (nZ .nil)).a 69 (TO .fo b g (.n0 .nil)));let o:=((((((((n.a 70 (YF (Sml.mono (Sml.n3 (s:=.nat) .fo (by decide) a h (Sml.n0 .nil)) (by decide)))).a 73 (fJ b)).a 74 (gJ (YA (.n3 .fo .nat b g (.n0 .nil))) b (.refl b))).a 77 (vB 0)).a 78 (TO .fo b g (.v 0))).a 79 (YF (Sml.mono (Sml.n3 (s:=.nat) .fo (by decide) a h (vS 0)) (by decide)))).a 80 NK).a 82 (SO .list (YA (.n3 .fo .nat b g (.v 0)))));let i:=((((o.a 83 NK).a 85 (vB 0)).a 88 (Gt (YA (.n3 .fo .nat b g (.v 0))) (.v 0) (.ex false (YA (.n3 .fo .nat b g (.n0 .nil))) b (.refl b)) (.p2 .exE (.leaf false 0) (.ex false (YA (.n3 .fo .nat b g (.n2 .cons (.v 2) (.v 1)))) (vC g (.v 2) (.v 1) (.v 0)) (.subst (.eq ((vC g (.v 2) (.v 1) (.v 0)).sh 0 (.ofNat 1)) (vC g (.v 3) (.v 2) (.v 0))) (.leaf false 0) (.refl (vC g (.v 2) (.v 1) (.v 0)))))))).a 89 (TQ .list (.ind true (YA (.n3 .fo .nat b g (.v 0))) (.v 0) (.ex false (YA (.n3 .fo .nat b g (.n0 .nil))) b (.refl b)) (.p2 .exE (.leaf false 0) (.ex false (YA (.n3 .fo .nat b g (.n2 .cons (.v 2) (.v 1)))) (vC g (.v 2) (.v 1) (.v 0)) (.subst (.eq ((vC g (.v 2) (.v 1) (.v 0)).sh 0 (.ofNat 1)) (vC g (.v 3) (.v 2) (.v 0))) (.leaf false 0) (.refl (vC g (.v 2) (.v 1) (.v 0)))))))));rcases UQ (F:=(.q .all .list (YA (.n3 .fo .nat b g (.v 0))))) (p:=hZ b g) (SmF.all (by decide) (SmF.is (Sml.n3 (s:=.nat) .fo (by decide) a h (vS 0)))) (dh a h) (by decide) (by decide)with ⟨e,c⟩|⟨F,c⟩
 ·exact .inl ⟨e,(i.a 90 c).f (by kernel_rfl)⟩
 exact .inr ⟨F,(i.a 90 c).f (by kernel_rfl)⟩
def Pt(H:MF){f g:Tm}{p q:Pf}(a:Sml 1000 f)(h:Sml 1000 g)(c:SmP 100000 p)(hq:SmP 100000 q):Rs 25 [f.p,p.p,g.p,q.p] (lZ f p g q):=by
 let P1:=(Px.o.a 19 QO);obtain⟨o,d⟩:=uI (Sml.mono a (by decide)) (dE .nat .nat)
 cases o with|succ e=>exact .inl ⟨e,(P1.a 20 d).f (by kernel_rfl)⟩|zero=>
 let P2:=((P1.a 20 d).a 27 QO);obtain⟨r,i⟩:=uI (Sml.mono h (by decide)) (dE .nat .nat)
 cases r with|succ e=>exact .inl ⟨e,(P2.a 28 i).f (by kernel_rfl)⟩|zero=>
 let j:=(P2.a 28 i);obtain⟨s,k⟩:=oh H (Sml.mono a (by decide)) (c.mono (by decide))
 cases s with|succ e=>exact .inl ⟨e,(j.a 36 k).f (by kernel_rfl)⟩|zero=>
 let l:=(j.a 36 k);obtain⟨t,m⟩:=oh H (Sml.mono h (by decide)) (hq.mono (by decide))
 cases t with|succ e=>exact .inl ⟨e,(l.a 44 m).f (by kernel_rfl)⟩|zero=>
 let u:=((((((((l.a 44 m).a 50 (vB 1)).a 52 (vB 0)).a 54 (XM g (.v 0))).a 55 (bJ (.v 1) (gB g (.v 0)))).a 56 (dJ 1)).a 57 (dJ 0)).a 58 (WO (.eq (.v 1) (gB g (.v 0))) (.leaf false 1) (.leaf false 0)));let v:=((((((((u.a 61 (vB 2)).a 63 (XM f (.v 2))).a 65 (XM g (gB f (.v 2)))).a 66 (YF (Sml.mono (Sml.n2 .app h (Sml.n2 .app a (vS 2))) (by decide)))).a 67 (vB 0)).a 69 (gJ (YA (gB g (gB f (.v 2)))) (.v 0) (.subst (.eq (.v 1) (gB g (.v 0))) (.leaf false 1) (.leaf false 0)))).a 70 aC).a 71 (vB 0));let w:=((((((((v.a 73 (rh (.v 0) p)).a 74 (vB 0)).a 76 (rh (.v 0) q)).a 78 (VO (.ins false (.v 0) q) (.ex false (YA (gB g (gB f (.v 2)))) (.v 0) (.subst (.eq (.v 1) (gB g (.v 0))) (.leaf false 1) (.leaf false 0))))).a 79 (VO (.ins false (.v 0) p) (.p2 .exE (.ins false (.v 0) q) (.ex false (YA (gB g (gB f (.v 2)))) (.v 0) (.subst (.eq (.v 1) (gB g (.v 0))) (.leaf false 1) (.leaf false 0)))))).a 80 (TQ .nat (.p2 .exE (.ins false (.v 0) p) (.p2 .exE (.ins false (.v 0) q) (.ex false (YA (gB g (gB f (.v 2)))) (.v 0) (.subst (.eq (.v 1) (gB g (.v 0))) (.leaf false 1) (.leaf false 0))))))).a 81 aC).a 84 (vB 0));let n:=((((w.a 86 (XM f (.v 0))).a 88 (XM g (gB f (.v 0)))).a 89 (YF (Sml.mono (Sml.n2 .app h (Sml.n2 .app a (vS 0))) (by decide)))).a 90 (SO .nat (YA (gB g (gB f (.v 0))))));rcases UQ (F:=(.q .all .nat (YA (gB g (gB f (.v 0)))))) (p:=lZ f p g q) (SmF.all (by decide) (SmF.is (Sml.n2 .app h (Sml.n2 .app a (vS 0))))) (fh a h c hq) (by decide) (by decide)with ⟨e,b⟩|⟨F,b⟩
 ·exact .inl ⟨e,(n.a 92 b).f (by kernel_rfl)⟩
 exact .inr ⟨F,(n.a 92 b).f (by kernel_rfl)⟩
def Qt{b c g:Tm}(a:Sml 1000 b)(d:Sml 1000 c)(h:Sml 1000 g):Rs 21 [b.p,c.p,g.p] (mZ b c g):=by
 let P1:=(Px.o.a 26 aC);obtain⟨s,n⟩:=uI (Sml.mono a (by decide)) .nat
 cases s with|succ e=>exact .inl ⟨e,(P1.a 27 n).f (by kernel_rfl)⟩|zero=>
 let P2:=((P1.a 27 n).a 34 aC);obtain⟨t,o⟩:=uI (Sml.mono d (by decide)) .nat
 cases t with|succ e=>exact .inl ⟨e,(P2.a 35 o).f (by kernel_rfl)⟩|zero=>
 let p:=((((P2.a 35 o).a 42 aC).a 43 QO).a 44 (SQ .nat (dE .nat .nat)));obtain⟨u,r⟩:=uI (Sml.mono h (by decide)) (dE .nat (dE .nat .nat))
 cases u with|succ e=>exact .inl ⟨e,(p.a 45 r).f (by kernel_rfl)⟩|zero=>
 let v:=((((((((p.a 45 r).a 51 aC).a 52 (vB 0)).a 53 (lJ (.v 0))).a 55 (vB 0)).a 56 (hJ (.v 0))).a 57 (vB 0)).a 58 (lJ (.v 0)));let w:=((((((((v.a 60 (YM g (sF (.v 0)) (gA (.v 0)))).a 61 (rZ (gA (.v 0)) (lA g (sF (.v 0)) (gA (.v 0))))).a 62 (dJ 0)).a 64 (It (.leaf false 0))).a 65 (dJ 0)).a 67 (Kt (.leaf false 0))).a 69 (vB 1)).a 70 (hJ (.v 1)));let x:=((((((((w.a 71 (vB 1)).a 72 (lJ (.v 1))).a 74 (YM g (sF (.v 1)) (gA (.v 1)))).a 75 (vB 1)).a 76 (lJ (.v 1))).a 77 (vB 0)).a 78 (bJ (gA (.v 1)) (.v 0))).a 80 (vB 0));let y:=((((((((x.a 81 (lJ (.v 0))).a 82 (fJ (gA (.v 0)))).a 83 (WO (.eq (gA (.v 1)) (.v 0)) (.p1 .andR (.leaf false 0)) (.refl (gA (.v 0))))).a 86 (vB 0)).a 87 (vB 1)).a 88 (lJ (.v 1))).a 90 (YM g (.v 0) (gA (.v 1)))).a 91 (bJ (lA g (sF (.v 1)) (gA (.v 1))) (lA g (.v 0) (gA (.v 1)))));let z:=((((((((y.a 94 (vB 0)).a 95 (hJ (.v 0))).a 96 (vB 0)).a 97 (lJ (.v 0))).a 99 (YM g (sF (.v 0)) (gA (.v 0)))).a 100 (fJ (lA g (sF (.v 0)) (gA (.v 0))))).a 101 (WO (.eq (lA g (sF (.v 1)) (gA (.v 1))) (lA g (.v 0) (gA (.v 1)))) (.p1 .andL (.leaf false 0)) (.refl (lA g (sF (.v 0)) (gA (.v 0)))))).a 107 (vB 2));let A:=((((((((z.a 108 (YO b c (.n2 .pair (gA (.v 0)) (lA g (sF (.v 0)) (gA (.v 0)))) (.v 2))).a 109 (hJ (aB b c (.n2 .pair (gA (.v 0)) (lA g (sF (.v 0)) (gA (.v 0)))) (.v 2)))).a 110 (vB 0)).a 112 (YM g (sF (aB b c (.n2 .pair (gA (.v 0)) (lA g (sF (.v 0)) (gA (.v 0)))) (.v 2))) (.v 0))).a 113 (bJ (lA g (sF (.v 1)) (gA (.v 1))) (lA g (sF (aB b c (.n2 .pair (gA (.v 0)) (lA g (sF (.v 0)) (gA (.v 0)))) (.v 2))) (.v 0)))).a 116 (WO (.eq (lA g (sF (.v 1)) (gA (.v 1))) (lA g (sF (aB b c (.n2 .pair (gA (.v 0)) (lA g (sF (.v 0)) (gA (.v 0)))) (.v 2))) (.v 0))) (.p1 .andR (.leaf false 0)) (.subst (.eq (lA g (sF (.v 1)) (gA (.v 1))) (lA g (.v 0) (gA (.v 1)))) (.p1 .andL (.leaf false 0)) (.refl (lA g (sF (.v 0)) (gA (.v 0))))))).a 120 (vB 1)).a 122 (yI .succ (.v 1)));let i:=((((((((A.a 123 (YO b c (.n2 .pair (gA (.v 0)) (lA g (sF (.v 0)) (gA (.v 0)))) (.n1 .succ (.v 1)))).a 124 (sZ (Sml.mono (Sml.crs a d (Sml.n2 .pair (Sml.n1 .snd (vS 0)) (Sml.n2 .app (Sml.n2 .app h (Sml.n1 .fst (vS 0))) (Sml.n1 .snd (vS 0)))) (Sml.n1 .succ (vS 1))) (by decide)))).a 125 (dJ 0)).a 131 (ah (.subst (.eq (gA (.v 1)) (.v 0)) (.p1 .andR (.leaf false 0)) (.refl (gA (.v 0)))) (.subst (.eq (lA g (sF (.v 1)) (gA (.v 1))) (lA g (sF (aB b c (.n2 .pair (gA (.v 0)) (lA g (sF (.v 0)) (gA (.v 0)))) (.v 2))) (.v 0))) (.p1 .andR (.leaf false 0)) (.subst (.eq (lA g (sF (.v 1)) (gA (.v 1))) (lA g (.v 0) (gA (.v 1)))) (.p1 .andL (.leaf false 0)) (.refl (lA g (sF (.v 0)) (gA (.v 0)))))))).a 132 (gJ (WD (aB b c (.n2 .pair (gA (.v 0)) (lA g (sF (.v 0)) (gA (.v 0)))) (.n1 .succ (.v 1)))) (.n2 .pair (gA (.v 0)) (lA g (sF (.v 0)) (gA (.v 0)))) (.p2 .andI (.subst (.eq (gA (.v 1)) (.v 0)) (.p1 .andR (.leaf false 0)) (.refl (gA (.v 0)))) (.subst (.eq (lA g (sF (.v 1)) (gA (.v 1))) (lA g (sF (aB b c (.n2 .pair (gA (.v 0)) (lA g (sF (.v 0)) (gA (.v 0)))) (.v 2))) (.v 0))) (.p1 .andR (.leaf false 0)) (.subst (.eq (lA g (sF (.v 1)) (gA (.v 1))) (lA g (.v 0) (gA (.v 1)))) (.p1 .andL (.leaf false 0)) (.refl (lA g (sF (.v 0)) (gA (.v 0))))))))).a 133 (VO (.leaf false 0) (.ex false (WD (aB b c (.n2 .pair (gA (.v 0)) (lA g (sF (.v 0)) (gA (.v 0)))) (.n1 .succ (.v 1)))) (.n2 .pair (gA (.v 0)) (lA g (sF (.v 0)) (gA (.v 0)))) (.p2 .andI (.subst (.eq (gA (.v 1)) (.v 0)) (.p1 .andR (.leaf false 0)) (.refl (gA (.v 0)))) (.subst (.eq (lA g (sF (.v 1)) (gA (.v 1))) (lA g (sF (aB b c (.n2 .pair (gA (.v 0)) (lA g (sF (.v 0)) (gA (.v 0)))) (.v 2))) (.v 0))) (.p1 .andR (.leaf false 0)) (.subst (.eq (lA g (sF (.v 1)) (gA (.v 1))) (lA g (.v 0) (gA (.v 1)))) (.p1 .andL (.leaf false 0)) (.refl (lA g (sF (.v 0)) (gA (.v 0)))))))))).a 137 (nZ .zero)).a 138 (YO b c (.n2 .pair (gA (.v 0)) (lA g (sF (.v 0)) (gA (.v 0)))) (.n0 .zero)));let j:=((((((((i.a 139 (sZ (Sml.mono (Sml.crs a d (Sml.n2 .pair (Sml.n1 .snd (vS 0)) (Sml.n2 .app (Sml.n2 .app h (Sml.n1 .fst (vS 0))) (Sml.n1 .snd (vS 0)))) (Sml.n0 .zero)) (by decide)))).a 142 (rZ b c)).a 144 (fJ b)).a 146 (fJ c)).a 148 (ah (.refl b) (.refl c))).a 149 (gJ (WD (aB b c (.n2 .pair (gA (.v 0)) (lA g (sF (.v 0)) (gA (.v 0)))) (.n0 .zero))) (.n2 .pair b c) (.p2 .andI (.refl b) (.refl c)))).a 153 (vB 0)).a 154 (YO b c (.n2 .pair (gA (.v 0)) (lA g (sF (.v 0)) (gA (.v 0)))) (.v 0)));let k:=((((((((j.a 155 (sZ (Sml.mono (Sml.crs a d (Sml.n2 .pair (Sml.n1 .snd (vS 0)) (Sml.n2 .app (Sml.n2 .app h (Sml.n1 .fst (vS 0))) (Sml.n1 .snd (vS 0)))) (vS 0)) (by decide)))).a 156 (vB 0)).a 159 (th (WD (aB b c (.n2 .pair (gA (.v 0)) (lA g (sF (.v 0)) (gA (.v 0)))) (.v 0))) (.v 0) (.ex false (WD (aB b c (.n2 .pair (gA (.v 0)) (lA g (sF (.v 0)) (gA (.v 0)))) (.n0 .zero))) (.n2 .pair b c) (.p2 .andI (.refl b) (.refl c))) (.p2 .exE (.leaf false 0) (.ex false (WD (aB b c (.n2 .pair (gA (.v 0)) (lA g (sF (.v 0)) (gA (.v 0)))) (.n1 .succ (.v 1)))) (.n2 .pair (gA (.v 0)) (lA g (sF (.v 0)) (gA (.v 0)))) (.p2 .andI (.subst (.eq (gA (.v 1)) (.v 0)) (.p1 .andR (.leaf false 0)) (.refl (gA (.v 0)))) (.subst (.eq (lA g (sF (.v 1)) (gA (.v 1))) (lA g (sF (aB b c (.n2 .pair (gA (.v 0)) (lA g (sF (.v 0)) (gA (.v 0)))) (.v 2))) (.v 0))) (.p1 .andR (.leaf false 0)) (.subst (.eq (lA g (sF (.v 1)) (gA (.v 1))) (lA g (.v 0) (gA (.v 1)))) (.p1 .andL (.leaf false 0)) (.refl (lA g (sF (.v 0)) (gA (.v 0))))))))))).a 165 (vB 1)).a 166 (YO b c (.n2 .pair (gA (.v 0)) (lA g (sF (.v 0)) (gA (.v 0)))) (.v 1))).a 167 (hJ (aB b c (.n2 .pair (gA (.v 0)) (lA g (sF (.v 0)) (gA (.v 0)))) (.v 1)))).a 168 (YF (Sml.mono (Sml.n1 .fst (Sml.crs a d (Sml.n2 .pair (Sml.n1 .snd (vS 0)) (Sml.n2 .app (Sml.n2 .app h (Sml.n1 .fst (vS 0))) (Sml.n1 .snd (vS 0)))) (vS 1))) (by decide)))).a 169 (vB 0));let l:=((((((((k.a 170 (hJ (.v 0))).a 172 (gJ (YA (sF (aB b c (.n2 .pair (gA (.v 0)) (lA g (sF (.v 0)) (gA (.v 0)))) (.v 1)))) (sF (.v 0)) (.p1 .andL (.leaf false 0)))).a 173 (VO (.ind false (WD (aB b c (.n2 .pair (gA (.v 0)) (lA g (sF (.v 0)) (gA (.v 0)))) (.v 0))) (.v 0) (.ex false (WD (aB b c (.n2 .pair (gA (.v 0)) (lA g (sF (.v 0)) (gA (.v 0)))) (.n0 .zero))) (.n2 .pair b c) (.p2 .andI (.refl b) (.refl c))) (.p2 .exE (.leaf false 0) (.ex false (WD (aB b c (.n2 .pair (gA (.v 0)) (lA g (sF (.v 0)) (gA (.v 0)))) (.n1 .succ (.v 1)))) (.n2 .pair (gA (.v 0)) (lA g (sF (.v 0)) (gA (.v 0)))) (.p2 .andI (.subst (.eq (gA (.v 1)) (.v 0)) (.p1 .andR (.leaf false 0)) (.refl (gA (.v 0)))) (.subst (.eq (lA g (sF (.v 1)) (gA (.v 1))) (lA g (sF (aB b c (.n2 .pair (gA (.v 0)) (lA g (sF (.v 0)) (gA (.v 0)))) (.v 2))) (.v 0))) (.p1 .andR (.leaf false 0)) (.subst (.eq (lA g (sF (.v 1)) (gA (.v 1))) (lA g (.v 0) (gA (.v 1)))) (.p1 .andL (.leaf false 0)) (.refl (lA g (sF (.v 0)) (gA (.v 0)))))))))) (.ex false (YA (sF (aB b c (.n2 .pair (gA (.v 0)) (lA g (sF (.v 0)) (gA (.v 0)))) (.v 1)))) (sF (.v 0)) (.p1 .andL (.leaf false 0))))).a 174 (TQ .nat (.p2 .exE (.ind false (WD (aB b c (.n2 .pair (gA (.v 0)) (lA g (sF (.v 0)) (gA (.v 0)))) (.v 0))) (.v 0) (.ex false (WD (aB b c (.n2 .pair (gA (.v 0)) (lA g (sF (.v 0)) (gA (.v 0)))) (.n0 .zero))) (.n2 .pair b c) (.p2 .andI (.refl b) (.refl c))) (.p2 .exE (.leaf false 0) (.ex false (WD (aB b c (.n2 .pair (gA (.v 0)) (lA g (sF (.v 0)) (gA (.v 0)))) (.n1 .succ (.v 1)))) (.n2 .pair (gA (.v 0)) (lA g (sF (.v 0)) (gA (.v 0)))) (.p2 .andI (.subst (.eq (gA (.v 1)) (.v 0)) (.p1 .andR (.leaf false 0)) (.refl (gA (.v 0)))) (.subst (.eq (lA g (sF (.v 1)) (gA (.v 1))) (lA g (sF (aB b c (.n2 .pair (gA (.v 0)) (lA g (sF (.v 0)) (gA (.v 0)))) (.v 2))) (.v 0))) (.p1 .andR (.leaf false 0)) (.subst (.eq (lA g (sF (.v 1)) (gA (.v 1))) (lA g (.v 0) (gA (.v 1)))) (.p1 .andL (.leaf false 0)) (.refl (lA g (sF (.v 0)) (gA (.v 0)))))))))) (.ex false (YA (sF (aB b c (.n2 .pair (gA (.v 0)) (lA g (sF (.v 0)) (gA (.v 0)))) (.v 1)))) (sF (.v 0)) (.p1 .andL (.leaf false 0)))))).a 179 (vB 0)).a 180 (YO b c (.n2 .pair (gA (.v 0)) (lA g (sF (.v 0)) (gA (.v 0)))) (.v 0))).a 181 (hJ (aB b c (.n2 .pair (gA (.v 0)) (lA g (sF (.v 0)) (gA (.v 0)))) (.v 0)))).a 182 (YF (Sml.mono (Sml.n1 .fst (Sml.crs a d (Sml.n2 .pair (Sml.n1 .snd (vS 0)) (Sml.n2 .app (Sml.n2 .app h (Sml.n1 .fst (vS 0))) (Sml.n1 .snd (vS 0)))) (vS 0))) (by decide))));let f:=(l.a 183 (SO .nat (YA (sF (aB b c (.n2 .pair (gA (.v 0)) (lA g (sF (.v 0)) (gA (.v 0)))) (.v 0))))));rcases UQ (F:=(.q .all .nat (YA (sF (aB b c (.n2 .pair (gA (.v 0)) (lA g (sF (.v 0)) (gA (.v 0)))) (.v 0)))))) (p:=mZ b c g) (SmF.all (by decide) (SmF.is (Sml.n1 .fst (Sml.crs a d (Sml.n2 .pair (Sml.n1 .snd (vS 0)) (Sml.n2 .app (Sml.n2 .app h (Sml.n1 .fst (vS 0))) (Sml.n1 .snd (vS 0)))) (vS 0))))) (lh a d h) (by decide) (by decide)with ⟨e,m⟩|⟨F,m⟩
 ·exact .inl ⟨e,(f.a 185 m).f (by kernel_rfl)⟩
 exact .inr ⟨F,(f.a 185 m).f (by kernel_rfl)⟩
abbrev dO(L:List Int)(a:Nat):List (Nat×Ob):=[(0,dk L a)]
def kU(L:List Int)(f:Nat):Prop:=∀a,a<=L.length->∃(x:Tm)(b:Nat),Sml 1000 x/\b<=L.length/\O f [.loc 0 0] (dO L a) (.pv x.p) (dO L b)
def TG.sml{n C B:Nat}{x:Tm}(h:TG n C 3 x)(k:n+C<=B):Sml B x:=by
 obtain⟨a,b,c⟩:=h;have:=vV x n a;exact⟨by omega,by omega,by omega⟩
def tZ(t:Tm):A 65 [t.p] (Tm.n1 .succ t).p:=f1 [5] (yI .succ t)
def distT:Tm:=.lam .nat (.lam .nat (lA plusT (lA subT (.v 1) (.v 0)) (lA subT (.v 0) (.v 1))))
def aZ(a b c:Tm):A 139 [a.p,b.p,c.p] (lA a b c).p:=f2 [10,13] (JG 3 a b) (JG 3 (.n2 .app a b) c)
def xh:A 68 [] distT.p:=bU [1,2,3,4,5,6,7,8,9,10,11,12] kN yN (zP 1) (zP 0) (aZ subT (.v 1) (.v 0)) yN (zP 0) (zP 1) (aZ subT (.v 0) (.v 1)) (aZ plusT (lA subT (.v 1) (.v 0)) (lA subT (.v 0) (.v 1))) (yG (lA plusT (lA subT (.v 1) (.v 0)) (lA subT (.v 0) (.v 1)))) (yG (.lam .nat (lA plusT (lA subT (.v 1) (.v 0)) (lA subT (.v 0) (.v 1)))))
def cZ{y:Nat}(h:y<3):Sml 10 (eC y):=by
 rcases y with _|_|_|y
 ·exact⟨by decide,by decide,by decide⟩
 ·exact⟨by decide,by decide,by decide⟩
 ·exact⟨by decide,by decide,by decide⟩
 omega
variable{L:List Int}(hL:Dk L)
include hL
theorem Ah:kU L 17:=λa c=>by
 obtain⟨x,b,q,d,h⟩:=PM hL (S:=3) (Nat.le_refl _) (by omega) 2 .nat [] a (by decide) nofun (by simp) c;exact⟨x,b,q.sml (by decide),d,o2 1 [4,5] SE h⟩
theorem eZ:kU L 23:=λa c=>by
 obtain⟨x,b,q,d,h⟩:=PM hL (S:=3) (Nat.le_refl _) (by omega) 2 .nat [.nat] a (by decide) (by simp[Ty.size]) (by simp) c;exact⟨.lam .nat x,b,(Sml.lam (by decide) (q.sml (B:=999) (by decide))),d,o5 1 [3,5,7,8,9] SE SE SE h (ZB .nat x)⟩
theorem Bh:kU L 18:=λa j=>by
 obtain⟨n,b,m,e,g⟩:=nx hL j (n:=6) (by omega) (by decide);have f {A:Nat} {x:Tm} (k:Sml A x):Sml (A+1+1) (.lam .nat (.lam .nat x)):=.lam (by decide) (.lam (by decide) k);rcases n with _|_|_|_|_|_|n
 ·exact⟨.lam .nat (.lam .nat (.n1 .succ (.v 0))),b,(f (.n1 .succ (vS 0))).mono (by decide),e,o6 1 [4,6,11,12,13,14] SE g (FD 0) (tZ (.v 0)) (ZB .nat (.n1 .succ (.v 0))) (ZB .nat (.lam .nat (.n1 .succ (.v 0))))⟩
 ·exact⟨.lam .nat (.lam .nat (lA subT (.v 1) (.v 0))),b,⟨by decide,by decide,by decide⟩,e,o8 1 [4,6,19,20,21,23,24,25] SE g yN (FD 1) (FD 0) (cG subT (.v 1) (.v 0)) (ZB .nat (lA subT (.v 1) (.v 0))) (ZB .nat (.lam .nat (lA subT (.v 1) (.v 0))))⟩
 ·obtain⟨y,c,hy,i,l⟩:=nx hL e (n:=3) (by omega) (by decide);have d:Sml 200 distT:=⟨by decide,by decide,by decide⟩;exact⟨.lam .nat (.lam .nat (lA distT (.v 0) (eC y))),c,(f (.n2 .app (.n2 .app d (vS 0)) (cZ hy))).mono (by decide),i,
   o9 1 [4,6,30,31,33,34,36,37,38] SE g xh (FD 0) l (MH (Nat.lt_trans hy (by decide))) (cG distT (.v 0) (eC y)) (ZB .nat (lA distT (.v 0) (eC y))) (ZB .nat (.lam .nat (lA distT (.v 0) (eC y))))⟩
 ·exact⟨.lam .nat (.lam .nat (.n1 .succ (.n1 .succ (.v 1)))),b,(f (.n1 .succ (.n1 .succ (vS 1)))).mono (by decide),e,o7 1 [4,6,43,44,45,46,47] SE g (FD 1) (tZ (.v 1)) (tZ (.n1 .succ (.v 1))) (ZB .nat (.n1 .succ (.n1 .succ (.v 1)))) (ZB .nat (.lam .nat (.n1 .succ (.n1 .succ (.v 1)))))⟩
 ·obtain⟨x,c,q,i,h⟩:=PM hL (S:=3) (Nat.le_refl _) (by omega) 1 .nat [.nat,.nat] b (by decide) (by simp[Ty.size]) (by simp) e;exact⟨.lam .nat (.lam .nat x),c,(f (q.sml (B:=300) (by decide))).mono (by decide),i,o5 1 [4,6,57,58,59] SE g h (ZB .nat x) (ZB .nat (.lam .nat x))⟩
 ·exact⟨.lam .nat (.lam .nat (lA plusT (.v 0) (.v 1))),b,⟨by decide,by decide,by decide⟩,e,o8 1 [4,6,62,63,64,66,67,68] SE g kN (FD 0) (FD 1) (cG plusT (.v 0) (.v 1)) (ZB .nat (lA plusT (.v 0) (.v 1))) (ZB .nat (.lam .nat (lA plusT (.v 0) (.v 1))))⟩
 omega
theorem Tt:kU L 20:=λa f=>by
 obtain⟨n,b,j,d,g⟩:=nx hL f (n:=4) (by omega) (by decide);have e {A:Nat} {x:Tm} (k:Sml A x):Sml (A+1+1+1) (.lam .nat (.lam .list (.lam .nat x))):=.lam (by decide) (.lam (by decide) (.lam (by decide) k));rcases n with _|_|_|_|n
 ·exact⟨.lam .nat (.lam .list (.lam .nat (lA plusT (.v 0) (.v 2)))),b,⟨by decide,by decide,by decide⟩,d,WQ 1 [5,6,8,10,13,14,15,17,35,38,39,40] SE (FD 0) (yI .succ (.v 0)) g kN (FD 0) (FD 2) (cG plusT (.v 0) (.v 2)) NK (ZB .nat (lA plusT (.v 0) (.v 2))) (ZB .list (.lam .nat (lA plusT (.v 0) (.v 2)))) (ZB .nat (.lam .list (.lam .nat (lA plusT (.v 0) (.v 2)))))⟩
 ·exact⟨.lam .nat (.lam .list (.lam .nat (lA distT (.v 0) (.v 2)))),b,⟨by decide,by decide,by decide⟩,d,WQ 1 [5,6,8,10,20,21,22,24,35,38,39,40] SE (FD 0) (yI .succ (.v 0)) g xh (FD 0) (FD 2) (cG distT (.v 0) (.v 2)) NK (ZB .nat (lA distT (.v 0) (.v 2))) (ZB .list (.lam .nat (lA distT (.v 0) (.v 2)))) (ZB .nat (.lam .list (.lam .nat (lA distT (.v 0) (.v 2)))))⟩
 ·obtain⟨x,c,q,i,h⟩:=PM hL (S:=3) (Nat.le_refl _) (by omega) 1 .nat [.nat,.list,.nat] b (by decide) (by simp[Ty.size]) (by simp) d;exact⟨.lam .nat (.lam .list (.lam .nat x)),c,(e (q.sml (B:=300) (by decide))).mono (by decide),i,aH 1 [5,6,8,10,29,33,35,38,39,40] SE (FD 0) (yI .succ (.v 0)) g NK h NK (ZB .nat x) (ZB .list (.lam .nat x)) (ZB .nat (.lam .list (.lam .nat x)))⟩
 ·exact⟨.lam .nat (.lam .list (.lam .nat (.n1 .succ (.v 0)))),b,(e (.n1 .succ (vS 0))).mono (by decide),d,o8 1 [5,6,8,10,35,38,39,40] SE (FD 0) (yI .succ (.v 0)) g NK (ZB .nat (.n1 .succ (.v 0))) (ZB .list (.lam .nat (.n1 .succ (.v 0)))) (ZB .nat (.lam .list (.lam .nat (.n1 .succ (.v 0)))))⟩
 omega
end Go.Proofs.YtjobiknipefjdaaGreatDoor
namespace Go.Proofs.YtjobiknipefjdaaGreatDoor
open Go.Lg
set_option maxRecDepth 100000
abbrev Ch:List PV:=[num 0,num 0,.nils,.nils,.nils]
abbrev XD:Kp:=⟨[0,2,3,18],[0,1,2],3,[0]⟩
abbrev Ut(L:List Int)(k a:Nat):IS:=st [(0,.loc 0 0),(2,.loc 1 0),(3,.loc 2 0),(18,.pv (num k))] [(0,dk L a),(1,bx Ch),(2,bx z9)] 3 [0]
abbrev Dh(L:List Int)(a:Nat):IS:=st [(0,.loc 0 0),(2,.loc 1 0),(3,.loc 2 0)] [(0,dk L a),(1,bx Ch),(2,bx z9)] 3 [0]
abbrev Eh(L:List Int)(b:Nat)(F:Fm)(p:Pf):IS:=st [(2,.loc 1 0),(3,.loc 2 0)] [(0,dk L b),(1,bx F.c),(2,bx p.c)] 3 [0]
abbrev VQ:Kp:=⟨[2,3],[0,1,2],3,[0]⟩
def Rt(L:List Int)(s:IS):Prop:=(∃(b:Nat)(F:Fm)(p:Pf),b<=L.length/\jU [] [] [] p/\Lp 6 0 1 s .ret (Eh L b F p))\/∃b,b<=L.length/\Lp 6 0 1 s (.exit 0) (Dh L b)
def Rt.cont{L:List Int}{s c:IS}(h:Rt L c)(k:∀e t,Lp 6 0 1 c e t->Lp 6 0 1 s e t):Rt L s:=by
 rcases h with ⟨b,F,p,a,d,h⟩|⟨b,a,h⟩
 ·exact .inl ⟨b,F,p,a,d,k _ _ h⟩
 exact .inr ⟨b,a,k _ _ h⟩
def Fh(H:MF){L:List Int}(B:Dk L):∀(r k a:Nat),k+r=3->a<=L.length->Rt L (Ut L k a)
 |0,k,a,h,J=>by
  have e:fA (.ofNat k) (.ofNat 3)=false:=HA (by omega);exact .inr ⟨a,J,x1 [19] ⟨[0,2,3],[0,1,2],3,[0]⟩ e⟩
 |r+1,k,a,h,J=>by
  have e:fA (.ofNat k) (.ofNat 3)=true:=NA (by omega);have v:=nA (a:=k) (b:=1) (by have:=uA;omega);have A:=λb E=>Fh H B r (k+1) b (by omega) E
  obtain⟨n,b,V,E,g⟩:=nx B J (n:=5) (by omega) (by decide);rcases n with _|_|_|_|_|n
  ·obtain⟨x,c,p,D,l⟩:=Ah B b E;obtain⟨y,d,hy,s,o⟩:=Bh B c D;rcases Nt p hy with ⟨m,i⟩|⟨F,i⟩
   ·exact(A d s).cont λC t h=>n7 [19,23,35,37,38,118] XD e g l o i v h
   obtain⟨q,j,z⟩:=RQ H ((bh p hy).mono (by decide))
   cases q with|er m=>exact(A d s).cont λC t h=>n8 [19,23,35,37,38,111,118] XD e g l o i j v h|ok f u=>exact .inl ⟨d,F,_,s,z f u rfl,x6 [19,23,35,37,38,111] VQ e g l o i j⟩
  ·obtain⟨x,c,p,D,l⟩:=Ah B b E;obtain⟨y,d,hy,s,o⟩:=Tt B c D;rcases Ot p hy with ⟨m,i⟩|⟨F,i⟩
   ·exact(A d s).cont λC t h=>n7 [19,23,46,48,49,118] XD e g l o i v h
   obtain⟨q,j,z⟩:=RQ H ((dh p hy).mono (by decide))
   cases q with|er m=>exact(A d s).cont λC t h=>n8 [19,23,46,48,49,111,118] XD e g l o i j v h|ok f u=>exact .inl ⟨d,F,_,s,z f u rfl,x6 [19,23,46,48,49,111] VQ e g l o i j⟩
  ·obtain⟨x,c,p,D,l⟩:=nx B E (n:=3) (by omega) (by decide);obtain⟨y,d,hy,s,o⟩:=nx B D (n:=3) (by omega) (by decide);obtain⟨w,K,O,G,i⟩:=Bh B d s;have M:=MH (show x<4 by omega);have N:=MH (show y<4 by omega);have P:Sml 1000 (eC x):=(cZ p).mono (by decide);have Q:Sml 1000 (eC y):=(cZ hy).mono (by decide);rcases Qt P Q O with ⟨m,j⟩|⟨F,j⟩
   ·exact(A K G).cont λC t h=>rk [19,23,57,58,60,61,63,64,118] XD XD (And.intro e (And.intro g (And.intro l (And.intro M (And.intro o (And.intro N (And.intro i (And.intro j (And.intro v h)))))))))
   obtain⟨q,I,z⟩:=RQ H ((lh P Q O).mono (by decide))
   cases q with|er m=>exact(A K G).cont λC t h=>rk [19,23,57,58,60,61,63,64,111,118] XD XD (And.intro e (And.intro g (And.intro l (And.intro M (And.intro o (And.intro N (And.intro i (And.intro j (And.intro I (And.intro v h))))))))))|ok f u=>exact .inl ⟨K,F,_,G,z f u rfl,x9 [19,23,57,58,60,61,63,64,111] VQ e g l M o N i j I⟩
  ·obtain⟨x,c,p,D,l⟩:=eZ B b E;obtain⟨y,d,hy,s,o⟩:=eZ B c D;rcases wU p with ⟨m,i⟩|⟨F,i⟩
   ·rcases wU hy with ⟨S,j⟩|⟨T,j⟩
    ·exact(A d s).cont λC t h=>n8 [19,23,71,73,76,82,118] XD e g l o i j v h
    exact(A d s).cont λC t h=>n8 [19,23,71,73,76,82,118] XD e g l o i j v h
   rcases wU hy with ⟨S,j⟩|⟨T,j⟩
   ·exact(A d s).cont λC t h=>n8 [19,23,71,73,76,82,118] XD e g l o i j v h
   rcases Pt H p hy (OO p) (OO hy)with ⟨m,I⟩|⟨U,I⟩
   ·exact(A d s).cont λC t h=>n9 [19,23,71,73,76,82,97,118] XD e g l o i j I v h
   obtain⟨q,R,z⟩:=RQ H (fh p hy (OO p) (OO hy))
   cases q with|er m=>exact(A d s).cont λC t h=>rk [19,23,71,73,76,82,97,111,118] XD XD (And.intro e (And.intro g (And.intro l (And.intro o (And.intro i (And.intro j (And.intro I (And.intro R (And.intro v h)))))))))|ok f u=>exact .inl ⟨d,U,_,s,z f u rfl,x8 [19,23,71,73,76,82,97,111] VQ e g l o i j I R⟩
  ·obtain⟨x,c,p,D,l⟩:=eZ B b E;rcases wU p with ⟨m,i⟩|⟨F,i⟩
   ·exact(A c D).cont λC t h=>n6 [19,23,26,27,118] XD e g l i v h
   obtain⟨q,j,z⟩:=RQ H ((OO p).mono (by decide))
   cases q with|er m=>exact(A c D).cont λC t h=>n7 [19,23,26,27,111,118] XD e g l i j v h|ok f u=>exact .inl ⟨c,F,_,D,z f u rfl,x5 [19,23,26,27,111] VQ e g l i j⟩
  omega
def Vt:A 24 [sSuc.p] (.tuple [(Fm.q .all .nat (YA (gB sSuc (.v 0)))).p,(WM sSuc).p,num 0]):=XL 20 (by kernel_rfl)
def u6(H:MF){L:List Int}(a:Dk L):∃(F:Fm)(p:Pf)(b:Nat),jU [] [] [] p/\O 6 [.loc 0 0] (dO L 0) (.pv (.tuple [F.p,p.p])) (dO L b):=by
 rcases Fh H a 3 0 0 rfl (Nat.zero_le _)with ⟨b,F,p,_,c,h⟩|⟨b,_,h⟩
 ·exact⟨F,p,b,c,o1 1 [(100002,.l XD .ret (Eh L b F p))] h⟩
 exact⟨.q .all .nat (YA (gB sSuc (.v 0))),WM sSuc,b,Ft,o6 1 [(100002,.l XD (.exit 0) (Dh L b)),120,121,123,124,125] h SE (FD 0) (yI .succ (.v 0)) (ZB .nat (.n1 .succ (.v 0))) Vt⟩
def a4:A 4 [] (.bool true):=
 f6 [14,20,24,28,60,61] i5 B5 Vl d5 Vl u5
def yU{e:Nat}(h:Lm e):A 10 [num e] (.bool true):=by
 have h:e=3\/e=4\/e=5:=by have h:=h;simp only[Lm]at h;omega
 rcases h with rfl|rfl|rfl<;>exact f0 []
def Wt:A 10 [num 0] (.bool false):=f0 []
def a5(L:List Int):A 5 [.slice (L.map ZJ)] (.bool (decide (L.length<=500))):=by
 by_cases h:L.length<=500
 ·have e:(!fA (.ofNat 500) (.ofNat (L.map ZJ).length))=true:=by rw[HA (by simp_all)];rfl
  rw[decide_eq_true h];exact f1 [5] e
 have e:(!fA (.ofNat 500) (.ofNat (L.map ZJ).length))=false:=by rw[NA (by simp_all)];rfl
 rw[decide_eq_false h];exact f1 [5] e
def Xt{L:List Int}(r:∀z∈L,-9223372036854775808<=z/\z<=9223372036854775807):A 3 [.slice (L.map ZJ)] (.bool true):=by
 have d:=a5 L;by_cases a:L.length<=500;rotate_left
 ·rw[decide_eq_false a]at d;exact f3 [10,14,17] a4 d a4
 rw[decide_eq_true a]at d;have t:Dk L:=⟨a,r⟩;have f:∀s∈([]:List Ty),s.size<=64:=nofun;obtain⟨F,p,b,⟨l,m,u,j,rfl,i⟩,h⟩:=u6 wh t;have n:=yF (ls:=[]) nofun j [] [] nofun i u;obtain⟨v,hs⟩:=Cl (by simp) f i l m n;obtain⟨_,c⟩:=s9 (by simp) f i l m n;rcases hs with hs|⟨hs,w⟩
 ·have g:A 8 [dA [],row [],qB [] [],j.p.p] (FR.er 3).p:=f1 [19] hs;rcases c with c|⟨_,_,c⟩
  ·exact f6 [10,14,21,27,33,43] a4 d h g c (yU (e:=4) (by decide))
  exact f6 [10,14,21,27,33,43] a4 d h g c (yU (e:=4) (by decide))
 have g:A 8 [dA [],row [],qB [] [],j.p.p] (FR.ok (j.gl 0)).p:=f1 [19] hs;rcases c with c|⟨x,y,c⟩
 ·exact f7 [10,14,21,27,33,43,46] a4 d h g c Wt (yU (e:=4) (by decide))
 obtain⟨e,o,k⟩:=Dt (by simp) f i v wh rfl x y w;rcases k with rfl|k
 ·exact f6 [10,14,21,27,33,51] a4 d h g c o
 have B:=yU k;obtain rfl|rfl|rfl:e=3\/e=4\/e=5:=by simp only[Lm]at k;omega
 all_goals exact f7 [10,14,21,27,33,51,56] a4 d h g c o B
end Go.Proofs.YtjobiknipefjdaaGreatDoor
