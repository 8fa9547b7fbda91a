/- Contracts of functions; no conditions. -/
import Derived.Test.YtjobiknipefjdaaGreatDoorSolC8
import Derived.Test.YtjobiknipefjdaaGreatDoorSolC7
import Derived.Test.YtjobiknipefjdaaGreatDoorSolC5
import Derived.Test.YtjobiknipefjdaaGreatDoorSolB3
set_option linter.all false
set_option maxHeartbeats 4000000
namespace Go.Proofs.YtjobiknipefjdaaGreatDoor
open Go.Lg
set_option maxRecDepth 100000
def Al(k:K1){t:Tm}{n:Nat}(h:TK n t):XO 166 [num k.n,DV,row [t]] n (.n1 k t):=.of ⟨_,La k t (by have:=h.cnt;have:=vA;omega),PJ h.shp h.sc rfl⟩
section
variable{tl:List Tm}{hs hb:List Fm}{s:Sc}{f x:Fm}{u:Ty}{a b:Jt}{p q:Pf}{t:Tm}{m n:Nat}
def Q3(g:u.size<=64)(B:SB (m+2) n s)(d:FK (n+1) x)(e:x.has=false)(i:XO 99 [eA tl,a.pf hs (.q .ex u x),s.p] s.dep t)(j:PO 96 [eA tl,x.p,b.ptr hb,(sv s).p] q)(k:PO 34 [eA tl,a.pf hs (.q .ex u x),s.p] p):PO 104 [eA tl,aA (.p2 .exE a.p b.p) f hs [[a.pf hs (.q .ex u x)],[b.ptr hb]],s.p] (.p2 .impE (.ins false t (.all false u q)) p):=by
 have c:=UL d (by have:=B.n;have:iA=100000:=rfl;omega);rw[e]at c;let P:=Px.o;refine P.x 2 29 32 i λd i=>?_
 let P:=((((P.a 29 i).a 32 (BD t)).a 47 B.g80).a 48 (TA 0)).a 49 (SB.g81 (SB.bind (m:=m+1) B) (.v 0));refine P.p 3 50 j λi j=>?_
 let P:=P.a 50 j;refine P.p 3 51 (fS g i) λg i=>?_
 let P:=P.a 51 i;refine P.p 4 56 (c.imp (λh=>(⟨trivial,h⟩:True/\_)) id) λ_ c=>?_
 let P:=P.a 56 c;refine P.p 7 78 (YJ (t:=t) (by have:=d.cnt;omega) d.shp g) λc d=>?_
 let P:=P.a 78 d;refine P.p 8 88 k λd g=>?_
 let P:=P.a 88 g;refine P.p 8 90 (NI .impE c d) λd c=>?_
 let P:=P.a 90 c;exact .inl ⟨d,P.f (by kernel_rfl)⟩
def R3(g:u.size<=64)(B:SB (m+2) n s)(d:FK (n+1) x)(e:x.has=true)(i:XO 99 [eA tl,a.pf hs (.q .ex u x),s.p] s.dep t)(j:PO 96 [eA tl,x.p,b.ptr hb,(sv s).p] q)(k:PO 34 [eA tl,a.pf hs (.q .ex u x),s.p] p):PO 104 [eA tl,aA (.p2 .exE a.p b.p) f hs [[a.pf hs (.q .ex u x)],[b.ptr hb]],s.p] (.p2 .impE (.ins false (.n1 .snd t) (.ins false (.n1 .fst t) (.all false u q))) p):=by
 have c:=UL d (by have:=B.n;have:iA=100000:=rfl;omega);rw[e]at c;let P:=Px.o;refine P.x 2 29 32 i λd i=>?_
 let P:=((((P.a 29 i).a 32 (BD t)).a 47 B.g80).a 48 (TA 0)).a 49 (SB.g81 (SB.bind (m:=m+1) B) (.v 0));refine P.p 3 50 j λi j=>?_
 let P:=P.a 50 j;refine P.p 3 51 (fS g i) λg i=>?_
 let P:=P.a 51 i;refine P.p 4 56 (c.imp (λh=>(⟨trivial,h⟩:True/\_)) id) λ_ c=>?_
 let P:=P.a 56 c;refine P.x 5 60 63 (Al .fst d) λc i=>?_
 let P:=(P.a 60 i).a 63 (BD (Tm.n1 .fst t));refine P.x 5 67 70 (Al .snd d) λd i=>?_
 let P:=(P.a 67 i).a 70 (BD (Tm.n1 .snd t));refine P.p 6 74 (YJ (t:=.n1 .fst t) (by have:=c.cnt;omega) c.shp g) λg c=>?_
 let P:=P.a 74 c;refine P.p 6 75 (YJ (t:=.n1 .snd t) (by have:=d.cnt;omega) d.shp g) λd c=>?_
 let P:=P.a 75 c;refine P.p 8 88 k λg c=>?_
 let P:=P.a 88 c;refine P.p 8 90 (NI .impE d g) λd c=>?_
 let P:=P.a 90 c;exact .inl ⟨d,P.f (by kernel_rfl)⟩
def S3{w:Tm}(hu:u.chk=0)(B:SB (m+2) n s)(c:FK (n+1) x)(d:x.gx)(e:TK n t)(g:XO 99 [eA tl,a.ptr hs,s.bind.p] (s.dep+1) w)(h:PO 34 [eA tl,a.ptr hs,s.p] p):PO 105 [eA tl,aA (.ex true (.q .exU u x) t a.p) f hs [[a.ptr hs]],s.p] (.ex true (.q .exU u (rz x (sS (sv s)) w)) (t.ps s.vs s.dep 0) p):=by
 let P:=((Px.o.a 11 B.g80).a 13 (TA 0)).a 14 (SB.g81 (SB.bind (m:=m+1) B) (.v 0));refine P.x 2 33 36 g λg i=>?_
 let P:=(P.a 33 i).a 36 (BD w);refine P.p 2 37 ((SB.sv B).real c d g) λc d=>?_
 let P:=P.a 37 d;refine P.x 4 64 67 (B.term e) λd e=>?_
 let P:=(P.a 64 e).a 67 (BD (t.ps s.vs s.dep 0));refine P.p 4 77 h λe g=>?_
 let P:=P.a 77 g;refine P.p 4 80 (zH (p:=.ex true (.q .exU u (rz x (sS (sv s)) w)) (t.ps s.vs s.dep 0) p) (by have:=c.cnt;have:=d.cnt;have:=uA;show 1+_+(1+_)+_<=_;omega) ⟨d.shp,(show(Nat.beq u.chk 0&&_)=true by rw[hu,c.shp];rfl),e.2⟩) λc d=>?_
 let P:=P.a 80 d;exact .inl ⟨c,P.f (by kernel_rfl)⟩
def T3(B:SB (m+2) n s)(d:FK (n+1) x)(e:x.has=false)(g:PO 34 [eA tl,a.pf hs (.q .exU u x),s.p] p)(i:PO 34 [eA tl,b.ptr hb,(sv s).bare.p] q):PO 106 [eA tl,aA (.p2 .exUE a.p b.p) f hs [[a.pf hs (.q .exU u x)],[b.ptr hb]],s.p] (.p2 .exUE p q):=by
 have c:=UL d (by have:=B.n;have:iA=100000:=rfl;omega);rw[e]at c;let P:=Px.o;refine P.p 1 32 g λd g=>?_
 let P:=(P.a 32 g).a 34 B.g80;refine P.p 2 36 (c.imp (λh=>(⟨trivial,h⟩:True/\_)) id) λ_ c=>?_
 let P:=(((P.a 36 c).a 52 (TA 0)).a 53 (SB.g81 (SB.bind (m:=m+1) B) (.v 0))).a 54 (SB.g123 (SB.sv (m:=m) B));refine P.p 3 55 i λc g=>?_
 let P:=P.a 55 g;refine P.p 3 57 (NI .exUE d c) λc d=>?_
 let P:=P.a 57 d;exact .inl ⟨c,P.f (by kernel_rfl)⟩
def U3(B:SB (m+2) n s)(d:FK (n+1) x)(e:x.has=true)(g:PO 34 [eA tl,a.pf hs (.q .exU u x),s.p] p)(i:XO 99 [eA tl,a.pf hs (.q .exU u x),s.bind.p] (s.dep+1) t)(j:PO 96 [eA tl,x.p,b.ptr hb,(sv s).skip.p] q):PO 106 [eA tl,aA (.p2 .exUE a.p b.p) f hs [[a.pf hs (.q .exU u x)],[b.ptr hb]],s.p] (.p2 .exUE p (.p2 .impE (.ins false t q) (.leaf false 0))):=by
 have c:=UL d (by have:=B.n;have:iA=100000:=rfl;omega);rw[e]at c;let P:=Px.o;refine P.p 1 32 g λd g=>?_
 let P:=(P.a 32 g).a 34 B.g80;refine P.p 2 36 (c.imp (λh=>(⟨trivial,h⟩:True/\_)) id) λ_ c=>?_
 let P:=P.a 36 c;refine P.x 4 66 69 i λc g=>?_
 let P:=((((P.a 66 g).a 69 (BD t)).a 79 (TA 0)).a 80 (SB.g81 (SB.bind (m:=m+1) B) (.v 0))).a 81 (SB.g139 (SB.sv (m:=m) B));refine P.p 5 82 j λg i=>?_
 let P:=P.a 82 i;refine P.p 6 91 (YJ (t:=t) (by have:=c.cnt;omega) c.shp g) λc g=>?_
 let P:=P.a 91 g;refine P.p 6 94 (NI .impE (b:=.leaf false 0) c ⟨by simp only[Pf.cnt];omega,trivial⟩) λg c=>?_
 let P:=P.a 94 c;refine P.p 6 96 (NI .exUE d g) λd c=>?_
 let P:=P.a 96 c;exact .inl ⟨d,P.f (by kernel_rfl)⟩
def V3(B:SB (m+4) n s)(c:FK (n+1) x)(g:x.gx)(i:TK n t)(d:hs.length<=qA)(e:x.has=false)(j:PO 34 [eA tl,a.ptr hs,s.p] p)(k:PO 34 [eA tl,b.ptr (bA 1 hs++[x]),(sv s).bare.p] q):PO 107 [eA tl,aA (.ind false x t a.p b.p) f hs [[a.ptr hs],[b.ptr (bA 1 hs++[x])]],s.p] (.ind false (rz x (sS (sv s)) (.n0 .unit)) (t.ps s.vs s.dep 0) p q):=by
 have d:=UL c (by have:=B.n;have:iA=100000:=rfl;omega);rw[e]at d;let P:=Px.o;refine P.p 1 31 (d.imp (λh=>(⟨trivial,h⟩:True/\_)) id) λ_ d=>?_
 let P:=(((((P.a 31 d).a 33 B.g80).a 34 (TA 0)).a 35 (SB.g81 (SB.bind (m:=m+3) B) (.v 0))).a 36 fG).a 37 fG;refine P.p 10 71 ((SB.sv (m:=m+2) B).real c g (pW _)) λd c=>?_
 let P:=P.a 71 c;refine P.p 11 80 j λj c=>?_
 let P:=(P.a 80 c).a 140 (SB.g123 (SB.sv (m:=m+2) B));refine P.p 19 141 k λg c=>?_
 let P:=P.a 141 c;refine P.x 20 157 160 (B.term i) λi c=>?_
 let P:=(P.a 157 c).a 160 (BD (t.ps s.vs s.dep 0));refine P.p 20 166 (zH (p:=.ind false (rz x (sS (sv s)) (.n0 .unit)) (t.ps s.vs s.dep 0) p q) (by have:=d.cnt;have:=i.cnt;have:=uA;have:=g.1;show 1+_+_+_+Pf.cnt _<=_;omega) ⟨i.shp,d.shp,j.2,g.2⟩) λd c=>?_
 let P:=P.a 166 c;exact .inl ⟨d,P.f (by kernel_rfl)⟩
def X3{r r2:Tm}(B:SB (m+4) n s)(d:FK (n+1) x)(g:x.gx)(i:TK n t)(c:hs.length<=qA)(e:x.has=true)(j:XO 168 [row tl,aA (.ind false x t a.p b.p) f hs [[a.ptr hs],[b.ptr (bA 1 hs++[x])]],s.bind.p,(Tm.v 0).p] (s.dep+1) r)(k:PO 34 [eA tl,a.ptr hs,s.p] p)(l:PO 96 [eA tl,x.p,b.ptr (bA 1 hs++[x]),(sv s).skip.p] q):PO 107 [eA tl,aA (.ind false x t a.p b.p) f hs [[a.ptr hs],[b.ptr (bA 1 hs++[x])]],s.p] (.ind false (rz x (sS (sv s)) r) (t.ps s.vs s.dep 0) p (.p2 .impE (.ins false r q) (.leaf false 0))):=by
 have c:=UL d (by have:=B.n;have:iA=100000:=rfl;omega);rw[e]at c;let P:=Px.o;refine P.p 1 31 (c.imp (λh=>(⟨trivial,h⟩:True/\_)) id) λ_ c=>?_
 let P:=(((((((P.a 31 c).a 33 B.g80).a 34 (TA 0)).a 35 (SB.g81 (SB.bind (m:=m+3) B) (.v 0))).a 36 fG).a 37 fG).a 43 B.g80).a 44 (TA 0);refine P.x 5 45 48 j λc j=>?_
 let P:=(P.a 45 j).a 48 (BD r);refine P.p 10 71 ((SB.sv (m:=m+2) B).real d g c) λg d=>?_
 let P:=P.a 71 d;refine P.p 11 80 k λj d=>?_
 let P:=(P.a 80 d).a 126 (SB.g139 (SB.sv (m:=m+2) B));refine P.p 18 127 l λk d=>?_
 let P:=P.a 127 d;refine P.p 18 128 (YJ (t:=r) (by have:=c.cnt;omega) c.shp k) λd c=>?_
 let P:=P.a 128 c;refine P.p 18 131 (NI .impE (b:=.leaf false 0) d ⟨by simp only[Pf.cnt];omega,trivial⟩) λd c=>?_
 let P:=P.a 131 c;refine P.x 20 157 160 (B.term i) λi c=>?_
 let P:=(P.a 157 c).a 160 (BD (t.ps s.vs s.dep 0));refine P.p 20 166 (zH (p:=.ind false (rz x (sS (sv s)) r) (t.ps s.vs s.dep 0) p (.p2 .impE (.ins false r q) (.leaf false 0))) (by have:=g.cnt;have:=i.cnt;have:=uA;have:=d.1;show 1+_+_+_+Pf.cnt _<=_;omega) ⟨i.shp,g.shp,j.2,d.2⟩) λd c=>?_
 let P:=P.a 166 c;exact .inl ⟨d,P.f (by kernel_rfl)⟩
def Y3(B:SB (m+4) n s)(c:FK (n+1) x)(i:x.gx)(j:TK n t)(d:hs.length<=qA)(e:x.has=false)(k:PO 34 [eA tl,a.ptr hs,s.p] p)(l:PO 34 [eA tl,b.ptr (bA 2 hs++[x.sh 1 (.ofNat 1)]),(sv (sv s)).bare.p] q):PO 107 [eA tl,aA (.ind true x t a.p b.p) f hs [[a.ptr hs],[b.ptr (bA 2 hs++[x.sh 1 (.ofNat 1)])]],s.p] (.ind true (rz x (sS (sv s)) (.n0 .unit)) (t.ps s.vs s.dep 0) p q):=by
 have d:=UL c (by have:=B.n;have:iA=100000:=rfl;omega);rw[e]at d;have z0:((bA 2 hs++[x.sh 1 (.ofNat 1)]).map Fm.c).length=hs.length+1:=by rw[List.length_map,List.length_append,List.length_map];rfl
 have g:=wD (a:=hs.length+1) (b:=1) (z:=.ofNat hs.length) (by have:=uA;have:=vA;omega) (by have:=uA;omega) (by simp only[Int.ofNat_eq_natCast];omega);rw[<-z0]at g;have o:=kB (c:=Fm.c) (g:=bA 2 hs++[x.sh 1 (.ofNat 1)]) (k:=hs.length) (t:=x.sh 1 (.ofNat 1)) (by simp) Fm.c_len;let P:=Px.o;refine P.p 1 31 (d.imp (λh=>(⟨trivial,h⟩:True/\_)) id) λ_ d=>?_
 let P:=(((((P.a 31 d).a 33 B.g80).a 34 (TA 0)).a 35 (SB.g81 (SB.bind (m:=m+3) B) (.v 0))).a 36 fG).a 37 fG;refine P.p 10 71 ((SB.sv (m:=m+2) B).real c i (pW _)) λd c=>?_
 let P:=P.a 71 c;refine P.p 11 80 k λk c=>?_
 let P:=((((((P.a 80 c).a 90 (SB.g80 (SB.sv (m:=m+2) B))).a 91 (TA 0)).a 92 (SB.g81 (SB.bind (m:=m+1) (SB.sv (m:=m+2) B)) (.v 0))).a 112 g).a 113 o).a 140 (SB.g123 (SB.sv (m:=m) (SB.sv (m:=m+2) B)));refine P.p 19 141 l λg c=>?_
 let P:=P.a 141 c;refine P.x 20 157 160 (B.term j) λi c=>?_
 let P:=(P.a 157 c).a 160 (BD (t.ps s.vs s.dep 0));refine P.p 20 166 (zH (p:=.ind true (rz x (sS (sv s)) (.n0 .unit)) (t.ps s.vs s.dep 0) p q) (by have:=d.cnt;have:=i.cnt;have:=uA;have:=g.1;show 1+_+_+_+Pf.cnt _<=_;omega) ⟨i.shp,d.shp,k.2,g.2⟩) λd c=>?_
 let P:=P.a 166 c;exact .inl ⟨d,P.f (by kernel_rfl)⟩
def Z3{r c:Tm}(B:SB (m+4) n s)(g:FK (n+1) x)(k:x.gx)(l:TK n t)(d:hs.length<=qA)(e:x.has=true)(j:XO 168 [row tl,aA (.ind true x t a.p b.p) f hs [[a.ptr hs],[b.ptr (bA 2 hs++[x.sh 1 (.ofNat 1)])]],s.bind.p,(Tm.v 0).p] (s.dep+1) r)(o:XO 168 [row tl,aA (.ind true x t a.p b.p) f hs [[a.ptr hs],[b.ptr (bA 2 hs++[x.sh 1 (.ofNat 1)])]],s.bind.bind.p,(Tm.v 0).p] (s.dep+2) c)(v:PO 34 [eA tl,a.ptr hs,s.p] p)(w:PO 96 [eA tl,(x.sh 1 (.ofNat 1)).p,b.ptr (bA 2 hs++[x.sh 1 (.ofNat 1)]),(sv (sv s)).skip.p] q):PO 107 [eA tl,aA (.ind true x t a.p b.p) f hs [[a.ptr hs],[b.ptr (bA 2 hs++[x.sh 1 (.ofNat 1)])]],s.p] (.ind true (rz x (sS (sv s)) r) (t.ps s.vs s.dep 0) p (.p2 .impE (.ins false c q) (.leaf false 0))):=by
 have d:=UL g (by have:=B.n;have:iA=100000:=rfl;omega);rw[e]at d;have z0:((bA 2 hs++[x.sh 1 (.ofNat 1)]).map Fm.c).length=hs.length+1:=by rw[List.length_map,List.length_append,List.length_map];rfl
 have i:=wD (a:=hs.length+1) (b:=1) (z:=.ofNat hs.length) (by have:=uA;have:=vA;omega) (by have:=uA;omega) (by simp only[Int.ofNat_eq_natCast];omega);rw[<-z0]at i;have y:=kB (c:=Fm.c) (g:=bA 2 hs++[x.sh 1 (.ofNat 1)]) (k:=hs.length) (t:=x.sh 1 (.ofNat 1)) (by simp) Fm.c_len;let P:=Px.o;refine P.p 1 31 (d.imp (λh=>(⟨trivial,h⟩:True/\_)) id) λ_ d=>?_
 let P:=(((((((P.a 31 d).a 33 B.g80).a 34 (TA 0)).a 35 (SB.g81 (SB.bind (m:=m+3) B) (.v 0))).a 36 fG).a 37 fG).a 43 B.g80).a 44 (TA 0);refine P.x 5 45 48 j λz d=>?_
 let P:=((((P.a 45 d).a 48 (BD r)).a 61 B.g80).a 62 (SB.g80 (SB.bind (m:=m+3) B))).a 63 (TA 0);refine P.x 9 64 67 o λj d=>?_
 let P:=(P.a 64 d).a 67 (BD c);refine P.p 10 71 ((SB.sv (m:=m+2) B).real g k z) λg d=>?_
 let P:=P.a 71 d;refine P.p 11 80 v λk d=>?_
 let P:=((((((P.a 80 d).a 90 (SB.g80 (SB.sv (m:=m+2) B))).a 91 (TA 0)).a 92 (SB.g81 (SB.bind (m:=m+1) (SB.sv (m:=m+2) B)) (.v 0))).a 112 i).a 113 y).a 126 (SB.g139 (SB.sv (m:=m) (SB.sv (m:=m+2) B)));refine P.p 18 127 w λi d=>?_
 let P:=P.a 127 d;refine P.p 18 128 (YJ (t:=c) (by have:=j.cnt;omega) j.shp i) λi d=>?_
 let P:=P.a 128 d;refine P.p 18 131 (NI .impE (b:=.leaf false 0) i ⟨by simp only[Pf.cnt];omega,trivial⟩) λi d=>?_
 let P:=P.a 131 d;refine P.x 20 157 160 (B.term l) λj d=>?_
 let P:=(P.a 157 d).a 160 (BD (t.ps s.vs s.dep 0));refine P.p 20 166 (zH (p:=.ind true (rz x (sS (sv s)) r) (t.ps s.vs s.dep 0) p (.p2 .impE (.ins false c q) (.leaf false 0))) (by have:=g.cnt;have:=j.cnt;have:=uA;have:=i.1;show 1+_+_+_+Pf.cnt _<=_;omega) ⟨j.shp,g.shp,k.2,i.2⟩) λd c=>?_
 let P:=P.a 166 c;exact .inl ⟨d,P.f (by kernel_rfl)⟩
end
def Jt.gx:Jt->Prop|.leaf _ _ f=>f.gx|.refl _=>True|.p1 _ a f=>f.gx/\a.gx|.p2 _ a b f=>f.gx/\a.gx/\b.gx|.impI x a=>x.gx/\a.gx|.all _ _ a=>a.gx|.ins _ _ a f=>f.gx/\a.gx|.ex _ x _ a=>x.gx/\a.gx|.ind _ x _ a b f=>f.gx/\x.gx/\a.gx/\b.gx|.subst x a b f=>f.gx/\x.gx/\a.gx/\b.gx
def LH:∀j:Jt,j.gx->j.f.gx|.leaf _ _ _,h=>h|.refl _,_=>trivial|.p1 _ _ _,h=>h.1|.p2 _ _ _ _,h=>h.1|.impI _ a,h=>⟨h.1,LH a h.2⟩|.all u _ a,h=>⟨LH a h,λe=>by cases u<;>cases e⟩|.ins _ _ _ _,h=>h.1|.ex _ _ _ _,h=>h.1|.ind _ _ _ _ _ _,h=>h.1|.subst _ _ _ _,h=>h.1
structure SW(m n:Nat)(hs:List Fm)(s:Sc):Prop where
 S:ScOK n (hs.map Fm.has) s
 p:∀y∈s.ks,y.pl<s.hyps
 n:n+m<=85000
 d:s.dep+m<=85000
 h:s.hyps+m<=85000
 k:s.ks.length+m<=85000
section
variable{m n:Nat}{hs:List Fm}{s:Sc}
def SW.B(W:SW m n hs s):SB m n s:=⟨W.S.ve,W.S.vl,W.n,W.d,W.h,W.k⟩
def SW.kl(W:SW m n hs s):s.ks.length=hs.length:=by have:=W.S.kl;simpa using this
def SW.le{m':Nat}(W:SW m n hs s)(a:m'<=m):SW m' n hs s:=⟨W.S,W.p,by have:=W.n;omega,by have:=W.d;omega,by have:=W.h;omega,by have:=W.k;omega⟩
theorem SW.bind(W:SW (m+1) n hs s):SW m n hs s.bind:=⟨W.S.bind,W.p,by have:=W.n;omega,by have:=W.d;show s.dep+1+m<=_;omega,by have:=W.h;show s.hyps+m<=_;omega,by have:=W.k;show s.ks.length+m<=_;omega⟩
def SW.sv(W:SW (m+2) n hs s):SW m (n+1) (bA 1 hs) (sv s):=⟨by rw[OD];exact W.S.bind.var (yC (Nat.succ_pos _)),W.p,by have:=W.n;omega,by have:=W.d;show s.dep+1+m<=_;omega,by have:=W.h;show s.hyps+m<=_;omega,by have:=W.k;show s.ks.length+m<=_;omega⟩
theorem SW.skip(W:SW (m+1) n hs s):SW m n hs s.skip:=⟨⟨W.S.vl,W.S.kl,W.S.ve,W.S.ke,W.S.kh⟩,λy hy=>Nat.lt_succ_of_lt (W.p y hy),by have:=W.n;omega,by have:=W.d;show s.dep+m<=_;omega,by have:=W.h;show s.hyps+1+m<=_;omega,by have:=W.k;show s.ks.length+m<=_;omega⟩
def SW.psh{x:Fm}{y:Hy}(W:SW (m+1) n hs s)(hy:y.pl=s.hyps)(b:ScOK n ((hs++[x]).map Fm.has) ⟨s.dep,s.hyps+1,s.vs,s.ks++[y]⟩):SW m n (hs++[x]) ⟨s.dep,s.hyps+1,s.vs,s.ks++[y]⟩:=
 ⟨b,λz a=>by
  rcases List.mem_append.1 a with a|a
  ·exact Nat.lt_succ_of_lt (W.p z a)
  simp at a;subst a;show z.pl<s.hyps+1;omega,by have:=W.n;omega,by have:=W.d;show s.dep+m<=_;omega,by have:=W.h;show s.hyps+1+m<=_;omega,by have:=W.k;show(s.ks++_).length+m<=_;simp;omega⟩
theorem SW.bare(W:SW (m+1) n hs s){x:Fm}(e:x.has=false):SW m n (hs++[x]) s.bare:=W.psh rfl (by rw[List.map_append,List.map_cons,e];exact W.S.bare)
theorem SW.un(W:SW (m+2) n hs s)(x:Fm):SW m n (hs++[x]) (bif x.has then s.bind.hyp (.v 0)else s.bare):=by
 cases e:x.has
 ·exact(W.le (m':=m+1) (by omega)).bare e
 exact SW.psh (SW.bind (m:=m+1) W) rfl (by rw[List.map_append,List.map_cons,e];exact W.S.bind.hyp (yC (Nat.succ_pos _)) true)
end
section
variable{ls:List Fm}{tl:List Tm}(HT:∀(i:Nat)(f:Fm),ls[i]? =some f->∃t,tl[i]? =some t/\TK 0 t){m n:Nat}{hs:List Fm}{s:Sc}{j:Jt}
include HT
theorem bt(W:SW m n hs s)(a:j.OK ls n hs)(b:j.p.cnt<=m)(e:j.f.has=true):BT tl hs j s:=uC HT j n hs s a e W.S (by have:=W.n;omega) (by have:=W.k;have:=W.kl;have:=vA;omega) (by have:=W.d;omega) (by have:=W.h;have:=vA;omega)
theorem RP(W:SW m n hs s)(a:j.OK ls n hs)(b:j.p.cnt<=m):XO 99 [eA tl,j.ptr hs,s.p] s.dep (j.tx tl s):=by
 unfold Jt.tx;cases e:j.f.has
 ·rw[ptb e];exact .inr ⟨pW _,f1 [13] fG⟩
 obtain⟨r,g,q⟩:=bt HT W a b e;have g:=dz g;rw[ptb e]at g⊢;exact .of ⟨r,f1 [18] g,q⟩
theorem Nb{l:Bool}{x:Fm}{t:Tm}{a b:Jt}{f:Fm}(W:SW (m+8) n hs s)(o:(Jt.ind l x t a b f).OK ls n hs)(y:a.p.cnt<=m)(z:b.p.cnt<=m)(e:x.has=true):XO 168 [row tl,(Jt.ind l x t a b f).ptr hs,s.bind.p,(Tm.v 0).p] (s.dep+1) (YC tl l x a b s.bind (.v 0)):=by
 obtain⟨A,p,B,u,_,⟨v,h⟩,k⟩:=o;have:=vA;have c:=SW.bind (m:=m+7) W;have:=c.kl;have:=c.n;have:=c.d;have:=c.h;have:=c.k;have W2:=SW.sv (m:=m+5) c;obtain⟨r,g,q⟩:=Fj (tl:=tl) (l:=l) (t:=t) (T:=.v 0) (a:=a) (b:=b) (f:=f) p e c.S (yC (Nat.succ_pos _)) (by omega) (by omega) (by omega) (by omega) (bt HT c u (by omega) (by rw[SA v];exact e)) (by
  cases l
  ·have d:=SW.un (m:=m+3) W2 x;rw[e]at d;exact bt HT d k (by omega) (by rw[SA h];exact e)
  have d:=SW.un (m:=m+1) (SW.sv (m:=m+3) W2) (x.sh 1 (.ofNat 1));have w:(x.sh 1 (.ofNat 1)).has=true:=by rw[SA (JD _ x 1)];exact e
  rw[w,show bA 1 (bA 1 hs)=bA 2 hs from wW hs]at d;exact bt HT d k (by omega) (by rw[SA h];exact e))
 exact .of ⟨r,f1 [15] g,q⟩
end
open Go.Lg
def rW{a:Jt}{b:List Fm}{F:Fm}(e:a.f=F):a.ptr b=a.pf b F:=by subst e;rfl
def PD{ls:List Fm}{tl:List Tm}(g:∀(i:Nat)(f:Fm),ls[i]? =some f->∃t,tl[i]? =some t/\TK 0 t):∀(j:Jt)(m n:Nat)(c:List Fm)(s:Sc),j.OK ls n c->j.gx->SW m n c s->5*j.p.cnt<=m->bB tl (j.ptr c) s (j.pv tl s).p
 |.leaf false i f,m,n,c,s,⟨_,V,_⟩,_,W,_=>by
  have I:=W.kl;obtain⟨y,hy⟩:∃y,s.ks[s.ks.length-1-i]? =some y:=⟨_,List.getElem?_eq_getElem (by omega)⟩;exact Q2 W.B (by omega) hy (W.p y (List.mem_of_getElem? hy))
 |.leaf true i f,m,n,c,s,_,_,_,_=>O2|.refl t,m,n,c,s,⟨A,_⟩,_,W,_=>N3 W.B A|.p1 k a f,m,n,c,s,⟨_,r,_⟩,⟨_,ga⟩,W,p=>by
  have p:5*(1+a.p.cnt)<=m:=p;have H:=PD g a m n c s r ga W (by omega);cases k
  ·exact R2 H
  ·exact T2 H
  exact U2 H
 |.impI x a,m,n,c,s,⟨d,_,r⟩,⟨gx,ga⟩,W,p=>by
  have p:5*(1+x.cnt+a.p.cnt)<=m:=p;have W:=W.le (m':=m-5+2) (by omega);exact Y2 (gS (SB.le W.B) d gx λK e=>by subst e;exact PD g a (m-5) n _ _ r ga (W.un x) (by omega))
 |.all u w a,m,n,c,s,⟨R,_,r⟩,ga,W,p=>by
  have p:5*(1+a.p.cnt)<=m:=p;have W:=W.le (m':=m-5+2) (by omega);have H:=PD g a (m-5) (n+1) _ _ r ga W.sv (by omega);cases u
  ·exact B3 R W.B H
  exact C3 R W.B H
 |.ins u t a f,m,n,c,s,⟨_,A,r,_⟩,⟨_,ga⟩,W,p=>by
  have p:5*(1+t.cnt+a.p.cnt)<=m:=p;have H:=PD g a m n c s r ga W (by omega);cases u
  ·exact D3 W.B A H
  exact F3 W.B A H
 |.ex u x t a,m,n,c,s,⟨d,A,r,⟨w,e⟩,er⟩,⟨gx,ga⟩,W,p=>by
  have p:5*(1+t.cnt+x.cnt+a.p.cnt)<=m:=p;have H:=PD g a m n c s r ga W (by omega);cases u
  ·exact V2 H
  have W:=W.le (m':=m-5+2) (by omega);have T:=RP g (SW.bind (m:=m-5+1) W) r (by omega);rw[e]at d gx⊢;generalize x.bd=y at d gx⊢;have hy:FK (n+1) y:=⟨by have:1+y.cnt<=4096:=d.cnt;omega,(EA d.shp).2,d.sc⟩;exact I3 (S3 (hu:=Nat.eq_of_beq_eq_true (EA d.shp).1) W.B hy gx.1 A T H)
 |.subst x a b f,m,n,c,s,⟨_,d,r,o,_⟩,⟨_,gx,ga,v⟩,W,p=>by
  have p:5*(1+x.cnt+a.p.cnt+b.p.cnt)<=m:=p;have H:=PD g a m n c s r ga W (by omega);have D:=PD g b m n c s o v W (by omega);have W:=W.le (m':=m-5+2) (by omega);exact O3 W.B d gx H D (RP g (SW.bind (m:=m-5+1) W) o (by omega))
 |.p2 k a b f,m,n,c,s,⟨_,r,h⟩,⟨_,ga,v⟩,W,p=>by
  have p:5*(1+a.p.cnt+b.p.cnt)<=m:=p;have H:=PD g a m n c s r ga W (by omega)
  cases k with
  |andI=>exact X2 H (PD g b m n c s h.1 v W (by omega))|impE=>
   obtain⟨o,_⟩:=h;have D:=PD g b m n c s o v W (by omega);have L:=RP g W o (by omega);unfold Jt.tx at L;show bB tl (aA (.p2 .impE a.p b.p) f c [[a.ptr c],[b.ptr c]]) s (im (bif b.f.has then ou (b.xt tl s) (a.pv tl s)else a.pv tl s) (b.pv tl s)).p;cases e:b.f.has
   ·rw[ptb e]at D⊢;exact Z2 H D
   rw[e]at L;rw[ptb e]at D L⊢;exact A3 H D L
  |exE=>
   obtain⟨o,⟨u,e⟩,_⟩:=h;have z:=RP g W r (by omega);have B:=Jt.FKj r;have C:=LH a ga;have M:(Jt.p2 .exE a b f).ptr c=aA (.p2 .exE a.p b.p) f c [[a.ptr c],[b.ptr (bA 1 c++[a.f.bd])]]:=rfl;rw[M];show bB tl _ s (im (bif a.f.bd.has then ou (.n1 .snd (a.xt tl s)) (ou (.n1 .fst (a.xt tl s)) (.all false a.f.qs (un a.f.bd (b.pv tl) (sv s))))else ou (a.xt tl s) (.all false a.f.qs (un a.f.bd (b.pv tl) (sv s)))) (a.pv tl s)).p;unfold Jt.tx at z;have hq:a.f.qs=u:=by rw[e];rfl
   have N:a.f.has=true:=by rw[e];rfl
   rw[N]at z;rw[hq];generalize a.f.bd=x at e o⊢;rw[e]at B C;rw[rW e]at H z;have d:FK (n+1) x:=⟨by have:1+x.cnt<=4096:=B.cnt;omega,(EA B.shp).2,B.sc⟩;have W:=W.le (m':=m-5+4) (by omega);have W2:=SW.sv (m:=m-5+2) W;have D:PO 96 [eA tl,x.p,b.ptr (bA 1 c++[x]),(sv s).p] (un x (b.pv tl) (sv s)).p:=gS (SB.le W2.B) d C.1 λK e=>by subst e;exact PD g b (m-5) (n+1) _ _ o v (W2.un x) (by omega)
   refine G3 (ha:=c) ?_;rw[rW e];cases F:x.has
   ·exact Q3 (m:=m-5+2) (kD (EA B.shp).1) W.B d F z D H
   exact R3 (m:=m-5+2) (kD (EA B.shp).1) W.B d F z D H
  |exUE=>
   obtain⟨o,⟨u,e⟩,_⟩:=h;have W:=W.le (m':=m-5+5) (by omega);have z:=RP g (SW.bind (m:=m-5+4) W) r (by omega);have B:=Jt.FKj r;have C:=LH a ga;have M:(Jt.p2 .exUE a b f).ptr c=aA (.p2 .exUE a.p b.p) f c [[a.ptr c],[b.ptr (bA 1 c++[a.f.bd])]]:=rfl;rw[M];show bB tl _ s (Jt.p2 .exUE (a.pv tl s) (bif a.f.bd.has then im (ou (a.xt tl s.bind) (un a.f.bd (b.pv tl) (sv s).skip)) (.leaf false 0 (rz a.f.bd (sS (sv s)) (a.xt tl s.bind)))else b.pv tl (sv s).bare) _).p;unfold Jt.tx at z;have N:a.f.has=a.f.bd.has:=by rw[e];rfl
   rw[N]at z;generalize a.f.bd=x at e o z⊢;rw[e]at B C;rw[rW e]at H z;have d:FK (n+1) x:=⟨by have:1+x.cnt<=4096:=B.cnt;omega,(EA B.shp).2,B.sc⟩;have W2:=SW.sv (m:=m-5+3) W;refine J3 (ha:=c) ?_;rw[rW e];cases F:x.has
   ·exact T3 (m:=m-5+3) W.B d F H (PD g b (m-5) (n+1) _ _ o v ((SW.bare (m:=m-5+2) W2 F).le (by omega)) (by omega))
   rw[F]at z;have J:=SW.skip (m:=m-5+2) W2;exact U3 (m:=m-5+3) W.B d F H z (gS (SB.le J.B) d C.1 λK e=>by subst e;exact PD g b (m-5) (n+1) _ _ o v ((SW.un (m:=m-5+0) J x).le (by omega)) (by omega))
 |.ind l x t a b f,m,n,c,s,r,⟨_,gx,ga,v⟩,W,p=>by
  have G:=r;obtain⟨_,d,A,O,_,⟨X,Y⟩,E⟩:=r;have p:5*(1+t.cnt+x.cnt+a.p.cnt+b.p.cnt)<=m:=p;have H:=PD g a m n c s O ga W (by omega);have:=fE t;have:=GV x;have I:c.length<=qA:=by have:=W.k;have:=W.kl;have:=vA;omega
  have W:=W.le (m':=m-15+14) (by omega);have W2:=SW.sv (m:=m-15+12) W;cases l
  ·refine L3 ?_;cases e:x.has
   ·show PO 107 _ (Pf.ind false (rz x (sS (sv s)) (bif x.has then _ else _)) _ _ (Jt.p (bif x.has then _ else _)));rw[e];exact V3 (m:=m-15+10) W.B d gx A I e H (PD g b (m-15) (n+1) _ _ E v ((SW.bare (m:=m-15+11) W2 e).le (by omega)) (by omega))
   show PO 107 _ (Pf.ind false (rz x (sS (sv s)) (bif x.has then _ else _)) _ _ (Jt.p (bif x.has then _ else _)));rw[e];have J:=SW.skip (m:=m-15+11) W2;exact X3 (r2:=.v 0) (m:=m-15+10) W.B d gx A I e (Nb g (m:=m-15+6) W G (by omega) (by omega) e) H (gS (SB.le J.B) d gx λK e=>by subst e;exact PD g b (m-15) (n+1) _ _ E v ((SW.un (m:=m-15+9) J x).le (by omega)) (by omega))
  have P:=SW.sv (m:=m-15+10) W2;rw[show bA 1 (bA 1 c)=bA 2 c from wW c]at P;have U:(x.sh 1 (.ofNat 1)).has=x.has:=SA (JD _ x 1);refine M3 ?_;cases e:x.has
  ·show PO 107 _ (Pf.ind true (rz x (sS (sv s)) (bif x.has then _ else _)) _ _ (Jt.p (bif x.has then _ else _)));rw[e];exact Y3 (m:=m-15+10) W.B d gx A I e H (PD g b (m-15) (n+2) _ _ E v ((SW.bare (m:=m-15+9) P (U.trans e)).le (by omega)) (by omega))
  show PO 107 _ (Pf.ind true (rz x (sS (sv s)) (bif x.has then _ else _)) _ _ (Jt.p (bif x.has then _ else _)));rw[e];have S:=SW.skip (m:=m-15+9) P;have Q:FK (n+1+1) (x.sh 1 (.ofNat 1)):=⟨by rw[XE];exact d.cnt,by rw[yP];exact d.shp,xI 1 x 1 _ d.sc⟩;exact Z3 (m:=m-15+10) W.B d gx A I e (Nb g (m:=m-15+6) W G (by omega) (by omega) e) (Nb g (m:=m-15+5) (SW.bind (m:=m-15+13) W) G (by omega) (by omega) e) H (gS (SB.le S.B) Q (by rw[wS];exact MI x _ gx) λK e=>by subst e;exact PD g b (m-15) (n+2) _ _ E v ((SW.un (m:=m-15+7) S _).le (by omega)) (by omega))
section
variable{ls:List Fm}{tl:List Tm}(HT:∀(i:Nat)(f:Fm),ls[i]? =some f->∃t,tl[i]? =some t/\TK 0 t){m n:Nat}{hs:List Fm}{s:Sc}{j:Jt}
include HT
theorem z4(W:SW m n hs s)(b:j.OK ls n hs)(l:j.gx)(o:j.p.cnt<=m):∃r:FR,A 86 [eA tl,j.ptr hs,s.p] r.p/\r.Gd s.dep (rz j.f (sS s) (j.tx tl s)):=by
 have:iA=100000:=rfl;have B:=W.B;have kf:=Jt.FKj b;rw[<-W.S.vl]at kf;rcases RP HT W b o with ⟨w,a⟩|⟨p,a⟩
 ·exact⟨.er 3,f1 [15] a,rfl⟩
 obtain⟨r,d,g⟩:=Yk W.S.ve (by have:=W.d;omega) (by have:=W.n;rw[W.S.vl];omega) kf
 cases r with
 |er k=>
  obtain rfl:k=3:=g;exact⟨.er 3,f2 [15,28] a d,rfl⟩
 |ok F=>
  obtain⟨u,rfl⟩:=g;have e:rz (j.f.sub (sS s)) Tm.v (j.tx tl s)=rz j.f (sS s) (j.tx tl s):=by
   rw[tG];congr 1;funext i;exact xC _
  obtain⟨r,v,h⟩:=yl u (MI j.f _ (LH j l)) p (by have:=W.d;omega);rw[e]at h;exact⟨r,f3 [15,28,37] a d v,h⟩
end
abbrev y4:PV:=.agg [num 0,num 0,.slice [],.slice []]
def Bl{n:Nat}(a:n<=16):SW 84984 n [] (yB n 0):=⟨MV n 0,nofun,by omega,by show n+84984<=85000;omega,by show 0+84984<=85000;omega,by show 0+84984<=85000;omega⟩
abbrev Jt.gl(n:Nat)(j:Jt):Fm:=rz j.f (sS (yB n 0)) (j.tx [] (yB n 0))
def Cl{g:List Ty}(a:g.length<=16)(b:∀s∈g,s.size<=64){j:Jt}(m:j.D [] g [])(n:j.p.ck)(o:j.p.cnt<=16384)(p:j.gx):j.OK [] g.length []/\(A 31 [dA [],row [],qB g [],j.p.p] (.tuple [.nil,y4,.agg zF,num 4])\/(A 31 [dA [],row [],qB g [],j.p.p] (.tuple [j.ptr [],(yB g.length 0).p,(j.gl g.length).p,num 0])/\FK g.length (j.gl g.length))):=by
 obtain⟨c,d⟩:=Oj g a b j m n o;refine⟨d,?_⟩;obtain⟨r,e,l⟩:=z4 (ls:=[]) (tl:=[]) (λi f h=>by simp at h) (Bl a) d p (by omega)
 cases r with
 |er k=>
  obtain rfl:k=3:=l;exact .inl (f4 [22,32,39,45] c Ta (Sa g a) e)
 |ok F=>
  obtain⟨t,rfl⟩:=l;exact .inr ⟨f4 [22,32,39,45] c Ta (Sa g a) e,t⟩
open Go.Lg
def ZC:∀{t:Tm}{g:List Ty}{s:Ty},Ht g t s->t.mx<=g.length+t.cnt
 |.v i,g,s,h=>by
  have:=GP h
  grind[Tm.mx,Tm.cnt]
 |.lam w b,g,s,⟨_,_,h⟩=>by
  have:=ZC h
  grind[List.length_append,List.length_cons,List.length_nil,Tm.mx,Tm.cnt]
 |.n0 _,_,_,_=>by simp[Tm.mx]|.n1 k a,g,s,h=>by
  have:a.mx<=g.length+a.cnt:=by
   cases k
   ·exact ZC h.2
   ·obtain⟨_,h⟩:=h;exact ZC h
   obtain⟨_,h⟩:=h;exact ZC h
  grind[Tm.mx,Tm.cnt]
 |.n2 k a b,g,s,h=>by
  have:a.mx<=g.length+a.cnt/\b.mx<=g.length+b.cnt:=by
   cases k
   ·obtain⟨_,d,e⟩:=h;exact⟨ZC d,ZC e⟩
   ·exact⟨ZC h.2.1,ZC h.2.2⟩
   obtain⟨_,_,_,d,e⟩:=h;exact⟨ZC d,ZC e⟩
  grind[Tm.mx,Tm.cnt]
 |.n3 k w a b c,g,s,h=>by
  have d:=ZC h.2.1;have:b.mx<=g.length+b.cnt/\c.mx<=g.length+c.cnt:=by
   cases k
   ·exact⟨ZC h.2.2.1,ZC h.2.2.2⟩
   exact⟨ZC h.2.2.1,ZC h.2.2.2⟩
  grind[Tm.mx,Tm.cnt]
def OI:∀{f:Fm}{g:List Ty},f.hq g->f.mx<=g.length+f.cnt
 |.eq a b,g,h=>by
  have c:=ZC h.1;have d:=ZC h.2
  grind[Fm.mx,Fm.cnt]
 |.bin _ a b,g,h=>by
  have c:=OI h.1;have d:=OI h.2
  grind[Fm.mx,Fm.cnt]
 |.q _ s a,g,h=>by
  have:=OI (f:=a) h
  grind[List.length_append,List.length_cons,List.length_nil,Fm.mx,Fm.cnt]
def d4{f a:Fm}(h:FCv f a):∀{g b:Fm},VA f=some g->VA a=some b->g=b:=by
 induction h with
 |eq h k=>
  grind[VA,Uj]
 |bin k _ _ c d=>
  grind[VA]
 |q k s _ e=>
  grind[VA]
def Dl{f g y:Fm}(h:VA f=some g)(e:FCv f y)(k:y.occ 0=0):g.occ 0=0:=by
 have a:=e.ren λi=>max i 1
 have b:y.ren (λi=>max i 1)=y:=by
  rw[sG];refine(IL y _ Tm.v λi c=>?_).trans (ab y)
  grind
 rw[b]at a;rw[d4 (e.trans a.symm) h (NV _ _ _ h)];simp[OP]
def HC(b a:List Fm):Prop:=b.length=a.length/\∀(i:Nat)(x:Fm),b[i]? =some x->∃y,a[i]? =some y/\FCv y x
theorem HC.refl(a:List Fm):HC a a:=⟨rfl,λ_ x h=>⟨x,h,.refl x⟩⟩
def HC.up{b a:List Fm}(h:HC b a)(k:Nat):HC (bA k b) (bA k a):=⟨by simp[h.1],λi x e=>by
 rw[bA,List.getElem?_map]at e;obtain⟨x0,c,rfl⟩:=Option.map_eq_some_iff.1 e;obtain⟨y,d,f⟩:=h.2 i x0 c;exact⟨_,by rw[bA,List.getElem?_map,d];rfl,f.sh 0 k⟩⟩
theorem HC.sn{b a:List Fm}(h:HC b a){x y:Fm}(e:FCv y x):HC (b++[x]) (a++[y]):=⟨by simp[h.1],λi z k=>by
 rcases Nat.lt_or_ge i b.length with c|c
 ·rw[List.getElem?_append_left c]at k;obtain⟨w,d,f⟩:=h.2 i z k
  grind
 rw[List.getElem?_append_right c]at k;have:i-b.length=0:=by
  have:=(List.getElem?_eq_some_iff.1 k).1;simp_all
 rw[this]at k;cases k;exact⟨y,by rw[List.getElem?_append_right (h.1▸c),<-h.1,this];rfl,e⟩⟩
def HC.ind{b a:List Fm}(h:HC b a)(x:Fm)(l:Bool):HC (xJ b x l) (xJ a x l):=by
 cases l
 ·exact(h.up 1).sn (.refl _)
 exact(h.up 2).sn (.refl _)
def qD{r:List Fm}:∀{p:Pf}{g:List Ty}{m c:List Fm}{f:Fm},HC m c->p.W r g m f->p.W r g c f
 |.leaf u i,g,m,c,f,H,h=>by
  cases u
  ·obtain⟨d,x,e,j⟩:=h;obtain⟨y,n,o⟩:=H.2 _ _ e;exact⟨H.1▸d,y,H.1▸n,o.trans j⟩
  exact h
 |.refl _,_,_,_,_,_,h=>h|.p1 k a,g,m,c,f,H,h=>by
  cases k
  ·exact h.imp λ_=>qD H
  ·exact h.imp λ_=>qD H
  obtain⟨s,u,x,d,e⟩:=h;exact⟨s,u,x,qD H d,e⟩
 |.p2 k a b,g,m,c,f,H,h=>by
  cases k
  ·obtain⟨x,y,d,e,j⟩:=h;exact⟨x,y,qD H d,qD H e,j⟩
  ·obtain⟨x,d,e⟩:=h;exact⟨x,qD H d,qD H e⟩
  ·obtain⟨s,x,y,d,e,j⟩:=h;exact⟨s,x,y,qD H d,qD ((H.up 1).sn (.refl _)) e,j⟩
  obtain⟨s,x,y,d,e,j⟩:=h;exact⟨s,x,y,qD H d,qD ((H.up 1).sn (.refl _)) e,j⟩
 |.impI x a,g,m,c,f,H,⟨d,y,e,j⟩=>⟨d,y,qD (H.sn (.refl _)) e,j⟩|.all u s a,g,m,c,f,H,⟨d,y,e,j⟩=>⟨d,y,qD (H.up 1) e,j⟩|.ins u t a,g,m,c,f,H,⟨d,s,x,e,j,n⟩=>⟨d,s,x,e,qD H j,n⟩|.ex u x t a,g,m,c,f,H,⟨d,e,s,y,j,n,o,v⟩=>⟨d,e,s,y,j,n,qD H o,v⟩|.ind l x t a b,g,m,c,f,H,⟨d,e,j,n,o⟩=>⟨d,e,qD H j,qD (H.ind x l) n,o⟩|.subst x a b,g,m,c,f,H,⟨d,t,u,e,j,n⟩=>⟨d,t,u,qD H e,qD H j,n⟩
def QD{v:List Fm}:∀{p:Pf}{g:List Ty}{m:List Fm}{f n:Fm},p.W v g m f->FCv f n->p.W v g m n
 |.leaf u i,g,m,f,n,h,e=>by
  cases u
  ·obtain⟨d,x,c,j⟩:=h;exact⟨d,x,c,j.trans e⟩
  obtain⟨x,c,j⟩:=h;exact⟨x,c,j.trans e⟩
 |.refl _,_,_,_,_,⟨d,c,j⟩,e=>⟨d,c,j.trans e⟩|.p1 k a,g,m,f,n,h,e=>by
  cases k
  ·obtain⟨y,h⟩:=h;exact⟨y,QD h (.bin _ e (.refl _))⟩
  ·obtain⟨y,h⟩:=h;exact⟨y,QD h (.bin _ (.refl _) e)⟩
  obtain⟨s,u,x,d,c⟩:=h;exact⟨s,u,x,d,c.trans e⟩
 |.p2 k a b,g,m,f,n,h,e=>by
  cases k
  ·obtain⟨x,y,d,c,j⟩:=h;exact⟨x,y,d,c,j.trans e⟩
  ·obtain⟨x,d,c⟩:=h;exact⟨x,QD d (.bin _ (.refl _) e),c⟩
  ·obtain⟨s,x,y,d,c,j,o⟩:=h;exact⟨s,x,y,d,c,j,o.trans e⟩
  obtain⟨s,x,y,d,c,j,o,r⟩:=h;exact⟨s,x,y,d,c,j,o.trans e,r⟩
 |.impI x a,g,m,f,n,⟨d,y,c,j⟩,e=>⟨d,y,c,j.trans e⟩|.all u s a,g,m,f,n,⟨d,y,c,j⟩,e=>⟨d,y,c,j.trans e⟩|.ins u t a,g,m,f,n,⟨d,s,x,c,j,o⟩,e=>⟨d,s,x,c,j,o.trans e⟩|.ex u x t a,g,m,f,n,⟨d,c,s,y,j,o,r,w⟩,e=>⟨d,c,s,y,j,o,r,w.trans e⟩|.ind l x t a b,g,m,f,n,⟨d,c,j,o,r⟩,e=>⟨d,c,j,o,r.trans e⟩|.subst x a b,g,m,f,n,⟨d,t,u,c,j,o⟩,e=>⟨d,t,u,c,j,o.trans e⟩
def El{f F f' y x:Fm}(e:nC F=some f)(h:FCv F y)(k:FCv y.low x):FCv f x:=by
 have:=((xb e).symm.trans h).put (.v 0) 0 0;rw[show((f.sh 0 (.ofNat 1)).put 0 (.v 0) 0)=f from Nk f]at this;exact this.trans k
def wF{C:List Fm}:∀{j:Jt}{g:List Ty}{m:List Fm}{f:Fm},j.D C g m->j.p.W C g m f->FCv j.f f
 |.leaf u i f0,g,m,f,⟨_,h⟩,w=>by
  cases u
  ·obtain⟨_,x,o,v⟩:=w;rw[h.2]at o;cases o;exact v
  obtain⟨x,o,v⟩:=w;rw[h]at o;cases o;exact v
 |.refl t,_,_,_,_,⟨_,_,h⟩=>h|.p1 k a f0,g,m,f,⟨_,c,h⟩,w=>by
  cases k
  ·obtain⟨y,e⟩:=h;obtain⟨z,w⟩:=w;have:=wF c w;rw[e]at this;cases this with|bin _ d _=>exact d
  ·obtain⟨y,e⟩:=h;obtain⟨z,w⟩:=w;have:=wF c w;rw[e]at this;cases this with|bin _ _ d=>exact d
  obtain⟨s,u,x,e,_,y,D,rfl⟩:=h;obtain⟨A,E,F,w,n⟩:=w;have:=wF c w;rw[e]at this;obtain rfl:=ZG D;cases this with|q _ _ d=>cases d with|q _ _ o=>exact FCv.trans (.q _ _ (.q _ _ ((o.sh 2 1).put vapp 0 0))) n
 |.p2 k a b f0,g,m,f,⟨_,c,h⟩,w=>by
  cases k
  ·obtain⟨p,rfl⟩:=h;obtain⟨x,y,w1,w2,w3⟩:=w;exact FCv.trans (.bin _ (wF c w1) (wF p w2)) w3
  ·obtain⟨p,x,e,_⟩:=h;obtain⟨y,w1,_⟩:=w;have:=wF c w1;rw[e]at this;cases this with|bin _ _ d=>exact d
  ·obtain⟨⟨s,e,p⟩,_,B⟩:=h;obtain⟨A,x,y,w1,w2,_,w4⟩:=w;have:=wF c w1;rw[e]at this;cases this with|q _ _ d=>exact El (f':=f) B (wF p (qD ((HC.refl _).sn d) w2)) w4
  obtain⟨⟨s,e,p⟩,_,B,_⟩:=h;obtain⟨A,x,y,w1,w2,_,w4,_⟩:=w;have:=wF c w1;rw[e]at this;cases this with|q _ _ d=>exact El (f':=f) B (wF p (qD ((HC.refl _).sn d) w2)) w4
 |.impI x a,g,m,f,⟨_,_,_,c⟩,⟨_,y,w,n⟩=>FCv.trans (.bin _ (.refl _) (wF c w)) n|.all u s a,g,m,f,⟨_,_,c,_⟩,⟨G,y,w,n⟩=>by
  subst G;exact FCv.trans (.q _ _ (wF c w)) n
 |.ins u t a f0,g,m,f,⟨_,_,c,s,x,_,e,r⟩,⟨_,A,F,_,w,n⟩=>by
  have:=wF c w;rw[e]at this;obtain rfl:=ZG r;cases this with|q _ _ d=>exact(d.put t 0 0).trans n
 |.ex u x t a,g,m,f,_,⟨_,_,_,_,_,_,_,h⟩=>h|.ind l x t a b f0,g,m,f,⟨_,_,_,_,_,_,r⟩,⟨_,_,_,_,h⟩=>by
  obtain rfl:=ZG r;exact h
 |.subst x a b f0,g,m,f,⟨_,_,c,_,t,u,_,e,_,_,r⟩,⟨_,H,E,w,_,n⟩=>by
  have:=wF c w;rw[e]at this;obtain rfl:=ZG r;cases this with|eq _ d=>exact(Xj d x).trans n
instance:PA:=⟨Uj,λh=>FF _ _ _ h⟩
def m4(g:List Ty):RNg (g++[.list]) (g++[.nat,.list]) (bD 1 1):=by
 have h:=(ML g .nat).up .list;rw[UR,List.append_assoc]at h;exact h
instance:PB where
 un:=wF
 cv:=QD
 ft h k:=h.trans k
 pc h:=Xj h _
 hc h e:=qD ((HC.refl _).sn e) h
 tq h d:=GF h.1 _ _ _ h.2 d
 mx h:=OI (JH _ _ h)
 mt h:=ZC (rE _ _ _ h)
 up1 h:=FP (k:=1) (ML _ _) h
 up2 {g s u _} h:=FP (k:=2) (by have:=Dz g s u;rw[List.append_assoc]at this;exact this) h
 si h:=FP (k:=1) (m4 _) h
 oc:=Dl
def kF{J:List Fm}:∀{j:Jt}{g:List Ty}{d:List Fm},j.W J g d->j.p.ck->j.p.W J g d j.f
 |.leaf u i f,g,d,h,_=>by cases u<;>exact h
 |.refl t,_,_,h,c=>⟨c,h,.refl _⟩|.p1 k a f,g,d,⟨h,r⟩,c=>by
  have v:=kF h c;cases k
  ·obtain⟨y,e⟩:=r;exact⟨y,QD v e⟩
  ·obtain⟨y,e⟩:=r;exact⟨y,QD v e⟩
  obtain⟨s,u,x,e,F⟩:=r;exact⟨s,u,x,QD v e,F.symm⟩
 |.p2 k a b f,g,d,⟨h,r⟩,⟨K,D⟩=>by
  have v:=kF h K;cases k
  ·obtain⟨w,e⟩:=r;exact⟨_,_,v,kF w D,e.symm⟩
  ·obtain⟨w,x,e,F⟩:=r;exact⟨x,QD v e,QD (kF w D) F.symm⟩
  ·obtain⟨s,x,y,e,w,E,G,H⟩:=r;exact⟨s,x,y,QD v e,QD (kF w D) E,G,H.symm⟩
  obtain⟨⟨s,x,y,e,w,E,G,H⟩,L⟩:=r;exact⟨s,x,y,QD v e,QD (kF w D) E,G,H.symm,E.has▸L⟩
 |.impI x a,g,d,⟨m,n⟩,⟨o,p⟩=>⟨⟨o,m⟩,_,kF n p,.refl _⟩|.all u s a,g,d,⟨m,n⟩,⟨_,c⟩=>by
  subst n;exact⟨rfl,_,kF m c,.refl _⟩
 |.ins u t a f,g,d,⟨m,s,x,n,z,A⟩,⟨o,p⟩=>⟨o,s,x,n,QD (kF m p) z,A.symm⟩|.ex u x t a,g,d,⟨m,n,s,y,z,A,B⟩,⟨o,p,C⟩=>⟨⟨p,m⟩,o,s,y,z,A,QD (kF n C) B.symm,.refl _⟩|.ind l x t a b f,g,d,⟨m,n,⟨z,A⟩,⟨B,I⟩,M⟩,⟨o,p,C,N⟩=>⟨⟨p,m⟩,⟨o,n⟩,QD (kF z C) A.symm,QD (kF B N) I.symm,M.symm⟩|.subst x a b f,g,d,⟨m,n,z,t,u,A,B,I⟩,⟨o,p,C⟩=>⟨⟨o,m⟩,t,u,QD (kF n p) A,QD (kF z C) B.symm,I.symm⟩
def sW{t:Tm}(h:t.chk=0):t.tsz<=qA->A 201 [t.p] (.bool true):=λk=>by
 have:=vA;have:=uA;have q:=UE t (by omega);rwa[(Tm.chk0 h).2]at q
def tW{t:Fm}(h:t.chk=0):t.tsz<=qA->A 176 [t.p] (.bool true):=λk=>by
 have q:=eJ t k;rwa[(Fm.chk0 h).2]at q
def A4{s:Ty}(h:s.size<=64):A 174 [s.p] (num 0):=by
 have:=uA;have q:=QK s;have e:s.chk=0:=by
  rcases IG s with e|e
  ·exact e
  unfold Ty.chk at e;rw[HA h]at e;cases e
 rwa[e]at q
def jH:∀p:Pf,p.ck->p.tsz<=qA->A 142 [p.p] (.bool true)
 |.leaf u i,_,_=>by cases u<;>exact f1 [73] XA
 |.refl t,h,k=>f2 [73,85] XA (sW h k)|.p1 q a,h,k=>by cases q<;>exact f2 [73,107] XA (jH a h k)
 |.p2 q a b,h,k=>by
  have k:max a.tsz b.tsz<=qA:=k;cases q<;>exact f3 [73,107,107] XA (jH a h.1 (by omega)) (jH b h.2 (by omega))
 |.impI f a,h,k=>by
  have k:max f.tsz a.tsz<=qA:=k;exact f3 [73,96,107] XA (tW h.1 (by omega)) (jH a h.2 (by omega))
 |.all u s a,h,k=>by
  have k:max a.tsz s.size<=qA:=k;cases u<;>exact f2 [63,107] (A4 h.1) (jH a h.2 (by omega))
 |.ins u t a,h,k=>by
  have k:max t.tsz a.tsz<=qA:=k;cases u<;>exact f3 [73,85,107] XA (sW h.1 (by omega)) (jH a h.2 (by omega))
 |.ex u f t a,h,k=>by
  have k:max (max t.tsz f.tsz) a.tsz<=qA:=k;cases u<;>exact f4 [73,85,96,107] XA (sW h.1 (by omega)) (tW h.2.1 (by omega)) (jH a h.2.2 (by omega))
 |.ind l f t a b,h,k=>by
  have k:max (max (max t.tsz f.tsz) a.tsz) b.tsz<=qA:=k;cases l<;>exact f5 [73,85,96,107,107] XA (sW h.1 (by omega)) (tW h.2.1 (by omega)) (jH a h.2.2.1 (by omega)) (jH b h.2.2.2 (by omega))
 |.subst f a b,h,k=>by
  have k:max (max f.tsz a.tsz) b.tsz<=qA:=k;exact f4 [73,96,107,107] XA (tW h.1 (by omega)) (jH a h.2.1 (by omega)) (jH b h.2.2 (by omega))
def VL{t:Tm}(h:t.chk=0):A 243 [t.p] (num t.cnt)/\fA (.ofNat 4096) (.ofNat t.cnt)=false:=by
 have:=uA;have k:=(Tm.chk0 h).1;exact⟨uB t (by omega),HA k⟩
def WL{t:Fm}(h:t.chk=0):A 177 [t.p] (num t.cnt)/\fA (.ofNat 4096) (.ofNat t.cnt)=false:=by
 have:=uA;have k:=(Fm.chk0 h).1;exact⟨WE t (by omega),HA k⟩
def vH:∀p:Pf,p.ck->A 202 [p.p] (.bool true)|.leaf u i,_=>f0 []|.refl t,h=>f2 [17,18] (VL h).1 (VL h).2|.p1 q a,h=>f1 [39] (vH a h)|.p2 q a b,h=>f2 [39,39] (vH a h.1) (vH b h.2)|.impI f a,h=>f3 [28,29,39] (WL h.1).1 (WL h.1).2 (vH a h.2)|.all u s a,h=>f1 [39] (vH a h.2)|.ins u t a,h=>f3 [17,18,39] (VL h.1).1 (VL h.1).2 (vH a h.2)|.ex u f t a,h=>f5 [17,18,28,29,39] (VL h.1).1 (VL h.1).2 (WL h.2.1).1 (WL h.2.1).2 (vH a h.2.2)|.ind l f t a b,h=>f6 [17,18,28,29,39,39] (VL h.1).1 (VL h.1).2 (WL h.2.1).1 (WL h.2.1).2 (vH a h.2.2.1) (vH b h.2.2.2)|.subst f a b,h=>f4 [28,29,39,39] (WL h.1).1 (WL h.1).2 (vH a h.2.1) (vH b h.2.2)
def B4(p:Pf)(h:p.cnt<=16384)(b:p.tsz<=qA)(a:p.ck):A 81 [p.p] (num 0):=by
 have:=uA;have e:(!fA (.ofNat 16384) (.ofNat p.cnt))=true:=by rw[HA h];rfl
 have g:A 143 [p.p] (.bool true):=f3 [4,7,8] (vH p a) (mF p (by omega)) e;exact f2 [4,7] (jH p a b) g
open Go.Lg
def Pf.gx:Pf->Prop|.leaf _ _=>True|.refl _=>True|.p1 _ a=>a.gx|.p2 _ a b=>a.gx/\b.gx|.impI f a=>f.gx/\a.gx|.all _ _ a=>a.gx|.ins _ _ a=>a.gx|.ex _ f _ a=>f.gx/\a.gx|.ind _ f _ a b=>f.gx/\a.gx/\b.gx|.subst f a b=>f.gx/\a.gx/\b.gx
def aW:∀f:Fm,f.er.ne=f.ne|.eq _ _=>rfl|.bin _ f g=>by simp[Fm.er,Fm.ne,aW]|.q k _ f=>by cases k<;>simp only[Fm.er,Fm.ne,aW f]
theorem cW:∀f g:Fm,VA f=some g->f.gx->g.gx
 |.eq a b,g,e,_=>by
  simp only[VA]at e;split at e
  ·split at e
   ·cases e;trivial
   cases e
  cases e
 |.bin k f d,g,e,h=>by
  simp only[VA]at e;split at e
  ·rename_i x c;split at e
   ·rename_i y i;cases e;exact⟨cW f x c h.1,cW d y i h.2⟩
   cases e
  cases e
 |.q k s f,g,e,h=>by
  simp only[VA]at e;split at e
  ·rename_i x c;cases e;refine⟨cW f x c h.1,λek=>(h.2 ek).imp (λj=>Dl c (.refl f) j) λl=>?_⟩;rw[<-aW,yR f x c,aW];exact l
  cases e
theorem Fl(f:Fm)(t:Tm)(h:f.gx):(f.put 0 t 0).gx:=by rw[dD];exact MI f _ h
theorem Pb(f:Fm)(c k:Nat)(h:f.gx):(f.sh c (.ofNat k)).gx:=by rw[wS];exact MI f _ h
def eW{f g:Fm}{t:Tm}(e:f.pt t=.ok g)(h:f.gx):g.gx:=by
 grind[Fm.pt,Fl]
def Gl{f g:Fm}(e:nC f=some g)(h:f.gx):g.gx:=by
 grind[nC,Fl,cW]
theorem C4{s u:Ty}{x y:Fm}(h:(Fm.q .all s (.q .ex u x)).gx)(e:(x.sh 2 (.ofNat 1)).pt vapp=.ok y):(Fm.q .ex (.two true s u) (.q .all s y)).gx:=by
 have b:x.gx:=h.1.1;refine⟨⟨eW e (Pb x 2 1 b),nofun⟩,λ_=>?_⟩;unfold Fm.pt at e;split at e
 ·cases e;refine(h.1.2 rfl).imp (λd=>?_) (λc=>?_)
  ·show((x.sh 2 (.ofNat 1)).put 0 vapp 0).occ 1=0;rw[NP,wS,Cb,IL x _ (λi=>.v (if i<=1 then 0 else i)) λi a=>?_,<-sG]
   ·grind[OP]
   match i,a with
   |0,a=>omega|1,_=>rfl|i+2,_=>
    rfl
  show Fm.ne ((x.sh 2 (.ofNat 1)).put 0 vapp 0)<=1;rw[NP,PP,wS,PP];exact c
 cases e
def Hl{a:List Fm}{i:Nat}{f:Fm}(h:∀x∈a,x.gx)(e:a[i]? =some f):f.gx:=h f (List.mem_of_getElem? e)
def lS{a:List Fm}{k:Nat}(h:∀x∈a,x.gx):∀x∈bA k a,x.gx:=λx a=>by
 grind[Pb]
def mS{a:List Fm}{f:Fm}(h:∀x∈a,x.gx)(b:f.gx):∀x∈a++[f],x.gx:=λx a=>by
 grind
def yF{ls:List Fm}(p:∀x∈ls,x.gx):∀(j:Jt)(g:List Ty)(n:List Fm),(∀x∈n,x.gx)->j.D ls g n->j.p.gx->j.gx
 |.leaf false i f,g,n,d,r,_=>Hl d r.2.2|.leaf true i f,g,n,d,r,_=>Hl p r.2|.refl t,_,_,_,_,_=>trivial|.p1 k a f,g,n,d,⟨_,r,h⟩,c=>by
  have v:=yF p a g n d r c;have o:=LH a v;refine⟨?_,v⟩
  cases k with
  |andL=>obtain⟨y,e⟩:=h;rw[e]at o;exact o.1|andR=>obtain⟨y,e⟩:=h;rw[e]at o;exact o.2|choice=>
   obtain⟨s,u,x,e,_,y,D,rfl⟩:=h;rw[e]at o
   grind[C4]
 |.p2 k a b f,g,n,d,⟨_,r,h⟩,c=>by
  have v:=yF p a g n d r c.1;have o:=LH a v
  cases k with
  |andI=>
   obtain⟨m,rfl⟩:=h;have z:=yF p b g n d m c.2;exact⟨⟨o,LH b z⟩,v,z⟩
  |impE=>
   obtain⟨m,x,e,_⟩:=h;rw[e]at o;exact⟨o.2,v,yF p b g n d m c.2⟩
  |exE=>
   obtain⟨⟨s,e,m⟩,_,C⟩:=h;have A:a.f.bd.gx:=by rw[e]at o;exact o.1
   have z:=yF p b _ _ (mS (lS d) A) m c.2;exact⟨Gl C (LH b z),v,z⟩
  |exUE=>
   obtain⟨⟨s,e,m⟩,_,C,_⟩:=h;have A:a.f.bd.gx:=by rw[e]at o;exact o.1
   have z:=yF p b _ _ (mS (lS d) A) m c.2;exact⟨Gl C (LH b z),v,z⟩
 |.impI x a,g,n,d,⟨_,_,_,r⟩,c=>⟨c.1,yF p a g _ (mS d c.1) r c.2⟩|.all u s a,g,n,d,⟨_,_,r,_⟩,c=>yF p a _ _ (lS d) r c|.ins u t a f,g,n,d,⟨_,_,r,s,x,_,e,D⟩,c=>by
  have v:=yF p a g n d r c;have o:=LH a v;rw[e]at o;exact⟨eW D o.1,v⟩
 |.ex u x t a,g,n,d,⟨_,_,r,_⟩,c=>⟨c.1,yF p a g n d r c.2⟩|.ind l x t a b f,g,n,d,⟨_,_,_,⟨B,_⟩,_,⟨m,_⟩,e⟩,c=>by
  refine⟨eW e c.1,c.1,yF p a g n d B c.2.1,yF p b _ _ ?_ m c.2.2⟩;cases l
  ·exact mS (lS d) c.1
  exact mS (lS d) (Pb x 1 1 c.1)
 |.subst x a b f,g,n,d,⟨_,_,B,m,t,u,w,_,_,_,e⟩,c=>⟨eW e c.1,c.1,yF p a g n d B c.2.1,yF p b g n d m c.2.2⟩
abbrev Il(ls hs:List Fm)(g:List Ty)(k:Nat):IS:=st [(3,.loc 0 0),(15,.pv (dA ls)),(16,.pv (num (ls.map Fm.c).length)),(17,.pv (num k))] [(0,bx [OA g,dA hs])] 1 []
abbrev nS(hs:List Fm)(g:List Ty):IS:=st [(3,.loc 0 0)] [(0,bx [OA g,dA hs])] 1 []
def Jl(d:List Fm)(g:List Ty){b:List Fm}(n:b.length<=qA):∀(r:List Fm)(k:Nat),b.drop k=r->(∀f∈r,f.cnt+1024<=qA/\f.tsz<=qA)->
  (Lp 80 0 0 (Il b d g k) (.exit 0) (nS d g)/\∀f∈r,f.chk=0/\f.ty [])\/∃e,Lp 80 0 0 (Il b d g k) .ret (st [(4,.pv (num (e+1)))] [] 1 [])/\((∀f∈r,f.chk=0/\f.hq [])->Lm (e+1))
 |[],k,h,_=>.inl ⟨x1 [18] ⟨[3],[0],1,[]⟩ (show fA (.ofNat k) (.ofNat (b.map Fm.c).length)=false from HA (by simp_all)),λf h=>by cases h⟩|f::r,k,h,m=>by
  obtain⟨i,z,o⟩:=tH h;have:=vA;have a:fA (.ofNat k) (.ofNat (b.map Fm.c).length)=true:=NA (by simp_all);have p:=m f (by simp);obtain⟨e,j,u,v⟩:=qR [] f (λs h=>by cases h) p.2 (by simp;omega)
  cases e with
  |succ e=>exact .inr ⟨e,x3 [18,(19,.i f.c),22] ⟨[4],[],1,[]⟩ a (kB i Fm.c_len) j,λh=>(v (h f (by simp)).1 (h f (by simp)).2).resolve_left (by simp)⟩|zero=>
   have w:=u rfl;rcases Jl d g n r (k+1) o (λt y=>m t (by simp[y]))with ⟨l,q⟩|⟨e,l,q⟩
   ·refine .inl ⟨n5 [18,(19,.i f.c),22,(26,.ok)] ⟨[3,15,16,17],[0],1,[]⟩ a (kB i Fm.c_len) j (AA (show k+1<=_ by omega)) l,λx c=>?_⟩;rcases List.mem_cons.1 c with rfl|c
    ·exact w
    exact q x c
   exact .inr ⟨e,n5 [18,(19,.i f.c),22,(26,.ok)] ⟨[3,15,16,17],[0],1,[]⟩ a (kB i Fm.c_len) j (AA (show k+1<=_ by omega)) l,λh=>q λx c=>h x (by simp[c])⟩
abbrev Kl(hs:List Fm)(g:List Ty)(k:Nat):IS:=st [(3,.loc 0 0),(38,.pv (dA hs)),(39,.pv (num (hs.map Fm.c).length)),(40,.pv (num k))] [(0,bx [OA g,dA hs])] 1 []
def Ll(g:List Ty)(l:∀s∈g,s.size<=qA)(c:g.length<=1024){b:List Fm}(o:b.length<=qA):∀(r:List Fm)(k:Nat),b.drop k=r->(∀f∈r,f.cnt+1024<=qA/\f.tsz<=qA)->
  (Lp 80 1 0 (Kl b g k) (.exit 2) (st [] [] 1 [])/\∀f∈r,f.chk=0/\f.ty g)\/∃e,Lp 80 1 0 (Kl b g k) .ret (st [(4,.pv (num (e+1)))] [] 1 [])/\((∀f∈r,f.chk=0/\f.hq g)->Lm (e+1))
 |[],k,h,_=>.inl ⟨x1 [41] ⟨[],[],1,[]⟩ (show fA (.ofNat k) (.ofNat (b.map Fm.c).length)=false from HA (by simp_all)),λf h=>by cases h⟩|f::r,k,h,m=>by
  obtain⟨d,y,p⟩:=tH h;have:=vA;have a:fA (.ofNat k) (.ofNat (b.map Fm.c).length)=true:=NA (by simp_all);have u:=m f (by simp);obtain⟨e,i,A,v⟩:=qR g f l u.2
  cases e with
  |succ e=>exact .inr ⟨e,x3 [41,(42,.i f.c),47] ⟨[4],[],1,[]⟩ a (kB d Fm.c_len) i,λh=>(v (h f (by simp)).1 (h f (by simp)).2).resolve_left (by simp)⟩|zero=>
   rcases Ll g l c o r (k+1) p (λt w=>m t (by simp[w]))with ⟨j,q⟩|⟨e,j,q⟩
   ·refine .inl ⟨n5 [41,(42,.i f.c),47,(51,.ok)] ⟨[3,38,39,40],[0],1,[]⟩ a (kB d Fm.c_len) i (AA (show k+1<=_ by omega)) j,λx n=>?_⟩
    grind
   exact .inr ⟨e,n5 [41,(42,.i f.c),47,(51,.ok)] ⟨[3,38,39,40],[0],1,[]⟩ a (kB d Fm.c_len) i (AA (show k+1<=_ by omega)) j,λh=>q λx n=>h x (by simp[n])⟩
structure Ml(ls:List Fm)(g:List Ty)(hs:List Fm):Prop where
 ls:∀f∈ls,f.chk=0/\f.ty []
 gl:g.length<=16
 gs:∀s∈g,s.size<=64
 hl:hs.length<=16
 hs:∀f∈hs,f.chk=0/\f.ty g
def Nl(a:List Fm)(g:List Ty)(b:List Fm):Prop:=(∀f∈a,f.chk=0/\f.hq [])/\∀f∈b,f.chk=0/\f.hq g
def D4(b:List Fm)(g:List Ty)(a:List Fm)(l:∀f∈b,f.cnt+1024<=qA/\f.tsz<=qA)(m:∀f∈a,f.cnt+1024<=qA/\f.tsz<=qA)(t:∀s∈g,s.size<=qA)(n:g.length<=1024:=by omega)(u:b.length<=qA:=by omega)(v:a.length<=qA:=by omega):∃e,A 80 [dA b,qB g a] (num e)/\(e=0->Ml b g a)/\(Nl b g a->e=0\/Lm e):=by
 have:=vA;have:=uA;cases c:fA (.ofNat 32) (.ofNat (b.map Fm.c).length);rotate_left
 ·exact⟨3,f1 [14] c,nofun,λ_=>.inr (by decide)⟩
 rcases Jl a g u b 0 rfl l with ⟨d,o⟩|⟨e,d,o⟩;rotate_left
 ·exact⟨e+1,f2 [14,(100004,.l ⟨[3,15,16,17],[0],1,[]⟩ .ret (st [(4,.pv (num (e+1)))] [] 1 []))] c d,nofun,λh=>.inr (o h.1)⟩
 have i:=xZ g (λs h=>by have:=t s h;omega)
 cases j:ZF g with
 |succ e=>
  rw[j]at i;exact⟨e+1,f3 [14,(100004,.l ⟨[3,15,16,17],[0],1,[]⟩ (.exit 0) (nS a g)),29] c d i,nofun,λ_=>.inr (CZ j)⟩
 |zero=>
  rw[j]at i;obtain⟨w,x⟩:=uv j;cases k:fA (.ofNat 16) (.ofNat (a.map Fm.c).length);rotate_left
  ·exact⟨3,f4 [14,(100004,.l ⟨[3,15,16,17],[0],1,[]⟩ (.exit 0) (nS a g)),29,36] c d i k,nofun,λ_=>.inr (by decide)⟩
  have y:a.length<=16:=by
   rw[UB]at k
   grind
  rcases Ll g t n v a 0 rfl m with ⟨p,r⟩|⟨e,p,r⟩
  ·exact⟨0,f5 [14,(100004,.l ⟨[3,15,16,17],[0],1,[]⟩ (.exit 0) (nS a g)),29,36,(100016,.l ⟨[3,38,39,40],[0],1,[]⟩ (.exit 2) (st [] [] 1 []))] c d i k p,λ_=>⟨o,w,x,y,r⟩,λ_=>.inl rfl⟩
  exact⟨e+1,f5 [14,(100004,.l ⟨[3,15,16,17],[0],1,[]⟩ (.exit 0) (nS a g)),29,36,(100016,.l ⟨[3,38,39,40],[0],1,[]⟩ .ret (st [(4,.pv (num (e+1)))] [] 1 []))] c d i k p,nofun,λh=>.inr (r h.2)⟩
def Ol:∀u:List Nat,KC 1 (kA (u.map ic))=true/\lC (kA (u.map ic))=true|[]=>⟨rfl,rfl⟩|n::r=>Ol r
structure F4(X:Nat)(ls:List Fm)(g:List Ty)(hs:List Fm)(p:Pf):Prop where
 l1:∀f∈ls,f.cnt+1024<=qA/\f.tsz<=qA/\f.mx<=X
 h1:∀f∈hs,f.cnt+1024<=qA/\f.tsz<=qA/\f.mx<=X
 g1:∀s∈g,s.size<=qA
 gl:g.length<=1024
 hl:hs.length<=1000
 ll:ls.length<=1024
 cnt:p.cnt<=yA
 tsz:p.tsz<=qA
 mx:p.mx<=X
 X:X+rA*16384<=mB
def Qb(H:MF){X:Nat}{ls:List Fm}{g:List Ty}{hs:List Fm}{p:Pf}(a:F4 X ls g hs p):∃r:PR,A 26 [dA ls,qB g hs,p.p] r.p/\(∀f u,r=.ok f u->Ml ls g hs/\p.ck/\p.cnt<=16384/\FO (X+rA*16384) f/\(f.has=false->u=[])/\(∃j:Jt,j.p=p/\j.f=f/\j.D ls g hs/\∀v,j.us v->v∈u)/\u.length<=16384)/\
  ∀n,r=.er n->Nl ls g hs->p.ck->p.cnt<=16384->∀f,p.W ls g hs f->Lm (n+1):=by
 have:=vA;have:=a.gl;have:=a.hl;have:=a.ll;obtain⟨e,i,E,l⟩:=D4 ls g hs (λf b=>⟨(a.l1 f b).1,(a.l1 f b).2.1⟩) (λf b=>⟨(a.h1 f b).1,(a.h1 f b).2.1⟩) a.g1
 cases e with
 |succ e=>exact⟨.er e,f1 [14] i,nofun,λn h k _ _ _ _=>by cases h;exact(l k).resolve_left (by simp)⟩|zero=>
  have hq:=E rfl;obtain⟨e,c,o,s⟩:∃e,A 81 [p.p] (num e)/\(e=0->p.ck/\p.cnt<=16384)/\(p.ck->p.cnt<=16384->e=0):=by
   by_cases h:p.ck/\p.cnt<=16384
   ·exact⟨0,B4 p h.2 a.tsz h.1,λ_=>h,λ_ _=>rfl⟩
   obtain⟨e,c,o⟩:=Qh p a.cnt a.tsz;exact⟨e,c,o,λt x=>absurd ⟨t,x⟩ h⟩
  cases e with
  |succ e=>exact⟨.er e,f2 [14,20] i c,nofun,λn _ _ t x _ _=>absurd (s t x) (by simp)⟩|zero=>
   obtain⟨F,z⟩:=o rfl;have:=a.X;have:rA*p.cnt<=rA*16384:=Nat.mul_le_mul_left _ z;have d:Pre ls g hs X p:=⟨λf b=>⟨(Fm.chk0 (hq.ls f b).1).1,(a.l1 f b).2.2,(a.l1 f b).2.1⟩,λf b=>⟨(Fm.chk0 (hq.hs f b).1).1,(a.h1 f b).2.2,(a.h1 f b).2.1⟩,a.g1,a.gl,a.hl,a.ll,by omega,a.tsz,a.mx,by omega⟩;obtain⟨r,B,C⟩:=tF H p ls g hs X d
   cases r with
   |er n=>exact⟨.er n,f3 [14,20,33] i c B,nofun,λm h _ _ _ f w=>by cases h;exact C ⟨λf b=>tD f _ (hq.ls f b).2,λf b=>tD f _ (hq.hs f b).2⟩ f w⟩|ok f u=>
    obtain⟨y,G,I,S,T,U⟩:=C;obtain⟨J,K⟩:=Ol u;have L:(Nat.blt 0 1&&KC 1 (kA (u.map ic))&&lC (kA (u.map ic))&&Nat.ble (kA (u.map ic)).length maxLen&&Nat.ble ((kA (u.map ic)).length*8) 140737488355328)=true:=by
     rw[J,K,pvE_len,List.length_map,Nat.ble_eq_true_of_le (show u.length<=maxLen by simp only[maxLen];omega),Nat.ble_eq_true_of_le (show u.length*8<=140737488355328 by omega)];rfl
    have D:A 26 [dA ls,qB g hs,p.p] (.tuple [.agg [num f.kd,num f.tk,.slice f.te,.slice f.ts,.slice f.es,.slice (List.take (kA (u.map ic)).length (u.map ic))],num 0]):=
     f6 [14,20,33,42,(45,.ok),(300010,.f 4 (u.map ic))] i c B (cJ f) L (rfl:kA (u.map ic)=kA (u.map ic))
    rw[pvE_len,List.take_length]at D;refine⟨.ok f u,D,λV W h=>?_,nofun⟩;cases h;exact⟨hq,F,z,⟨y.1,by have:=y.2.1;omega,y.2.2⟩,G,I,by omega⟩
open Go.Lg
end Go.Proofs.YtjobiknipefjdaaGreatDoor
namespace Go.Proofs.YtjobiknipefjdaaGreatDoor
open Go.Lg
set_option maxRecDepth 100000
abbrev ZJ(z:Int):List PV:=[.int z]
def G4(z:Int):(ZJ z).length=1:=rfl
abbrev dk(L:List Int)(a:Nat):Ob:=bx [.slice (L.map ZJ),num a]
abbrev _root_.Go.Lg.De.D(L:List Int)(b:Nat)(x:V):De:=.d 0 (dk L b) x
structure Dk(L:List Int):Prop where
 len:L.length<=500
 rng:∀z∈L,-9223372036854775808<=z/\z<=9223372036854775807
def I4(z:Int)(k:Nat)(h:1<=k)(j:k<=qA)(l: -9223372036854775808<=z/\z<=9223372036854775807):∃x,x<k/\A 44 [.int z,num k] (num x):=by
 have a:(!fB (.ofNat k) 0)=true:=by
  rw[XH];simp;omega
 have: -(k:Int)<z.tmod (.ofNat k)/\z.tmod (.ofNat k)<k:=by
  constructor
  ·have:=Int.lt_tmod_of_pos z (show(0:Int)<.ofNat k by simp;omega);omega
  have:=Int.tmod_lt_of_pos z (show(0:Int)<.ofNat k by simp;omega);omega
 have b:0<=z.tmod (.ofNat k)+.ofNat k:=by
  grind
 have c:0<=(z.tmod (.ofNat k)+.ofNat k).tmod (.ofNat k)/\(z.tmod (.ofNat k)+.ofNat k).tmod (.ofNat k)<k:=by
  refine⟨Int.tmod_nonneg _ b,?_⟩;have:=Int.tmod_lt_of_pos (z.tmod (.ofNat k)+.ofNat k) (show(0:Int)<.ofNat k by simp;omega);omega
 have d:z.tmod (.ofNat k)+.ofNat k<=1152921504606846976:=by
  grind
 obtain⟨x,e⟩:=Int.eq_ofNat_of_zero_le c.1;have f:(!fB (.ofNat k) 0)=true/\z.tmod (.ofNat k)=z.tmod (.ofNat k):=⟨a,rfl⟩;have g:xA (z.tmod (.ofNat k)+.ofNat k)=true/\z.tmod (.ofNat k)+.ofNat k=z.tmod (.ofNat k)+.ofNat k:=⟨wP (by omega) d,rfl⟩;have i:(!fB (.ofNat k) 0)=true/\(z.tmod (.ofNat k)+.ofNat k).tmod (.ofNat k)=.ofNat x:=⟨a,e⟩;exact⟨x,by omega,f3 [(7,.y (z.tmod (.ofNat k))),(9,.y (z.tmod (.ofNat k)+.ofNat k)),(11,.z x)] f g i⟩
def nx{L:List Int}(d:Dk L){a:Nat}(g:a<=L.length){n:Nat}(i:1<=n)(j:n<=qA):∃x b,x<n/\b<=L.length/\O 15 [.loc 0 0,.pv (num n)] [(0,dk L a)] (.pv (num x)) [(0,dk L b)]:=by
 have:=d.len;have:=uA;have e:fA (.ofNat n) 1=false:=by rw[UB];simp;omega
 by_cases h:a=L.length
 ·have c:(!fA (.ofNat a) (.ofNat (L.map ZJ).length))=true:=dI (by simp;omega);exact⟨0,a,by omega,g,o2 1 [7,18] e c⟩
 have c:(!fA (.ofNat a) (.ofNat (L.map ZJ).length))=false:=vG (by simp;omega);obtain⟨z,f⟩:∃z,L[a]? =some z:=⟨_,List.getElem?_eq_getElem (by omega)⟩;obtain⟨x,k,l⟩:=I4 z n i j (d.rng z (List.mem_of_getElem? f));exact⟨x,a+1,k,by omega,o5 1 [7,18,(28,.i (ZJ z)),34,39] e c (kB f G4) (nA (a:=a) (b:=1)) l⟩
def tE:A 134 [] Ty.nat.p:=f0 []
def NN:A 135 [] Ty.list.p:=f0 []
def J4:A 196 [] Ty.unit.p:=f0 []
def SP:Nat->Nat|0=>1|k+1=>1+2*SP k
def K4(k:Nat):1<=SP k:=by cases k<;>simp[SP]
def PI{L:List Int}(g:Dk L):∀(k:Nat),k<=qA->∀{a:Nat},a<=L.length->∃(t:Ty)(b:Nat),t.size<=SP k/\b<=L.length/\O 131 [.loc 0 0,.pv (num k)] [(0,dk L a)] (.pv t.p) [(0,dk L b)]
 |k,r,a,n=>by
  have:=vA;have:=uA;obtain⟨x,b,w,e,f⟩:=nx g n (n:=7) (by omega) (by omega);have t1:=K4 k;rcases x with _|_|_|_|_|_|_|x
  ·exact⟨.nat,b,t1,e,o2 1 [6,11] f tE⟩
  ·exact⟨.nat,b,t1,e,o2 1 [6,11] f tE⟩
  ·exact⟨.nat,b,t1,e,o2 1 [6,11] f tE⟩
  ·exact⟨.list,b,t1,e,o2 1 [6,14] f NN⟩
  ·exact⟨.unit,b,t1,e,o2 1 [6,17] f J4⟩
  ·cases k with
   |zero=>exact⟨.nat,b,t1,e,o2 1 [6,44] f tE⟩|succ k=>
    have h:=rD (a:=k+1);obtain⟨t,c,o,i,j⟩:=PI g k (by omega) e;obtain⟨u,d,p,l,m⟩:=PI g k (by omega) i;exact⟨.two false t u,d,by grind[Ty.size,SP],l,o6 1 [6,24,25,28,29,30] f h j h m (Ih t u)⟩
  ·cases k with
   |zero=>exact⟨.nat,b,t1,e,o2 1 [6,44] f tE⟩|succ k=>
    have h:=rD (a:=k+1);obtain⟨t,c,o,i,j⟩:=PI g k (by omega) e;obtain⟨u,d,p,l,m⟩:=PI g k (by omega) i;exact⟨.two true t u,d,by grind[Ty.size,SP],l,o6 1 [6,37,38,41,42,43] f h j h m (ZM t u)⟩
  omega
def MH{n:Nat}(h:n<4:=by omega):A 22 [num n] (eC n).p:=f1 [7] (mu h)
def cG(f a b:Tm):A 66 [f.p,row [a,b]] (Tm.n2 .app (.n2 .app f a) b).p:=by
 have h:∀x y:Tm,A 41 [num 3,row [x,y]] (Tm.n2 .app x y).p:=λx y=>JG 3 x y
 exact f2 [16,16] (h f a) (h (.n2 .app f a) b)
def Sb{α:Type}{c:α->List PV}{n:Nat}(d:∀t,(c t).length=n)(f:∀t,lC [DA (c t)]=true):∀g:List α,KC n (kA (g.map c))=true/\lC (kA (g.map c))=true
 |[]=>⟨rfl,rfl⟩|t::r=>by
  obtain⟨a,b⟩:=Sb d f r;have e:kA ((t::r).map c)=DA (c t)::kA (r.map c):=rfl;rw[e];constructor
  ·unfold KC;rw[iE (show(DA (c t)).length=n by simp[DA,d]),cond_true];exact a
  grind[lC]
def Pl{α:Type}{c:α->List PV}{n m:Nat}(d:∀t,(c t).length=n)(e:∀t,lC [DA (c t)]=true)(j:0<n)(g:List α)(h:g.length*m<=140737488355328)(f:g.length<=maxLen):
  (Nat.blt 0 n&&KC n (kA (g.map c))&&lC (kA (g.map c))&&Nat.ble (kA (g.map c)).length maxLen&&Nat.ble ((kA (g.map c)).length*m) 140737488355328)=true:=by
 obtain⟨a,b⟩:=Sb d e g;have i:Nat.blt 0 n=true:=by simp_all
 rw[i,a,b,pvE_len,List.length_map,Nat.ble_eq_true_of_le f,Nat.ble_eq_true_of_le h];rfl
def L4{A B:List (List PV)}:List.take ((kA A).length+(kA B).length) (A++B)=A++B:=List.take_of_length_le (by simp[pvE_len])
def M4(A B:List (List PV)):List.take (kA A).length (kA A)++kA B=kA (A++B):=by
 rw[List.take_length];simp[kA]
def wH(g l:List Ty)(h:g.length+l.length<=qA):A 133 [OA g,OA l] (OA (g++l)):=by
 have:=vA;have b:=Pl (c:=Ty.c) (n:=2) (m:=32) Ty.c_len (λ_=>rfl) (by decide) g (by omega) (by simp only[maxLen];omega);obtain⟨c,d⟩:=Sb (c:=Ty.c) (n:=2) Ty.c_len (λ_=>rfl) l;have e:(Nat.beq 1 1&&Nat.ble (kA (g.map Ty.c)).length (kA (g.map Ty.c)).length&&Nat.beq 34 34&&Nat.beq 2 2&&Nat.blt 0 2&&KC 2 (kA (l.map Ty.c))&&lC (kA (l.map Ty.c))&&Nat.ble ((kA (g.map Ty.c)).length+(kA (l.map Ty.c)).length) maxLen&&Nat.ble (((kA (g.map Ty.c)).length+(kA (l.map Ty.c)).length)*32) 140737488355328)=true:=
  GU rfl (by decide) c d (by rw[pvE_len,pvE_len];simp only[List.length_map,maxLen];omega) (by rw[pvE_len,pvE_len];grind)
 have a:A 133 [OA g,OA l] (.slice (List.take ((kA (g.map Ty.c)).length+(kA (l.map Ty.c)).length) (g.map Ty.c++l.map Ty.c))):=
  f3 [(6,.ok),(8,.ok),(300001,.f 0 (g.map Ty.c++l.map Ty.c))] b e (M4 (g.map Ty.c) (l.map Ty.c))
 rw[L4,<-List.map_append]at a;exact a
abbrev Tb:Kp:=⟨[0,3,5,8,9],[0,1],2,[]⟩
def Ub{g:List Ty}{k:Nat}(b:k<g.length:=by omega)(c:g.length<=qA:=by omega):∃s,(xA (Int.ofNat (g.map Ty.c).length-1)=true/\Int.ofNat (g.map Ty.c).length-1=.ofNat ((g.map Ty.c).length-1))/\(xA (Int.ofNat ((g.map Ty.c).length-1)-.ofNat k)=true/\Int.ofNat ((g.map Ty.c).length-1)-.ofNat k=.ofNat (g.length-1-k))/\(TB (g.map Ty.c) (g.length-1-k)=some (Ty.c s)/\YB 2 (g.map Ty.c)=true)/\s∈g/\sB g k=.ok s:=by
 have:=vA;have:=uA;obtain⟨s,a⟩:∃s,g[g.length-1-k]? =some s:=⟨_,List.getElem?_eq_getElem (by omega)⟩;refine⟨s,rD (a:=(g.map Ty.c).length) (by simp;omega) (by simp;omega),?_,kB a Ty.c_len,List.mem_of_getElem? a,by unfold sB;rw[if_pos b,a]⟩
 grind[AA]
def Vb(t:Ty){g:List Ty}(c:g.length<=qA):∀(r k v:Nat)(A:List (List PV)),k+r=g.length->A.length<=k->
  ∃(a:Nat)(l:List Nat),(∀x∈l,sB g x=.ok t)/\l.length<=r/\Lp 129 0 0 (st [(0,.pv (OA g)),(3,.loc 0 0),(5,.arr 1 v A.length),(8,.pv (num (g.map Ty.c).length)),(9,.pv (num k))] [(0,bx t.c),(1,.arr v 1 3 (kA A))] 2 []) (.exit 0) (st [(5,.arr 1 a (A.length+l.length))] [(1,.arr a 1 3 (kA (A++l.map ic)))] 2 [])
 |0,k,v,A,h,u=>by
  have e:fA (.ofNat k) (.ofNat (g.map Ty.c).length)=false:=HA (by simp;omega);refine⟨v,[],by simp,Nat.le_refl _,?_⟩;simp only[List.map_nil,List.append_nil,List.length_nil,Nat.add_zero];exact y1 [10] ⟨[5],[1],2,[]⟩ e (sD A)
 |r+1,k,v,A,h,u=>by
  have:=vA;have:=uA;have e:fA (.ofNat k) (.ofNat (g.map Ty.c).length)=true:=NA (by simp;omega);obtain⟨s,f,i,j,_,w⟩:=Ub (g:=g) (k:=k) (by omega) c;have d:=YD s t;have m:=nA (a:=k) (b:=1);cases n:s.same t<;>rw[n]at d
  ·obtain⟨a,l,o,y,b⟩:=Vb t c r (k+1) v A (by omega) (by omega);exact⟨a,l,o,by omega,n8 [10,15,17,(18,.i s.c),21,26] Tb e f i j d m (sD A) b⟩
  have z:=mP (A:=A) (v:=v) (ty:=3) (m:=8) (c:=ic k) (show 0<1 by decide) rfl rfl (by simp only[maxLen];omega) (by omega);obtain⟨a,l,o,y,b⟩:=Vb t c r (k+1) (v+1) (A++[ic k]) (by omega) (by simp;omega);rw[ZK,show(A++[ic k]).length=A.length+1 by simp,show A.length+1+l.length=A.length+(k::l).length by simp;omega,List.append_assoc]at b;exact⟨a,k::l,λx p=>by
   rcases List.mem_cons.1 p with rfl|p
   ·rw[w,(nD s t).1 n]
   simp_all,by simp;omega,n9 [10,15,17,(18,.i s.c),21,(25,.ok),26] Tb e f i j d z m (xH A (ic k)) b⟩
def Ql(t:Ty){g:List Ty}(c:g.length<=qA):∀(r k:Nat),k+r=g.length->
  Lp 129 0 0 (st [(0,.pv (OA g)),(3,.loc 0 0),(5,.pv .nils),(8,.pv (num (g.map Ty.c).length)),(9,.pv (num k))] [(0,bx t.c)] 1 []) (.exit 0) (st [(5,.pv .nils)] [] 2 [])\/
  ∃l:List Nat,(∀x∈l,sB g x=.ok t)/\1<=l.length/\l.length<=r/\Lp 129 0 0 (st [(0,.pv (OA g)),(3,.loc 0 0),(5,.pv .nils),(8,.pv (num (g.map Ty.c).length)),(9,.pv (num k))] [(0,bx t.c)] 1 []) (.exit 0) (st [(5,.pv (JA l))] [] 2 [])
 |0,k,h=>by
  have e:fA (.ofNat k) (.ofNat (g.map Ty.c).length)=false:=HA (by simp;omega);exact .inl (x1 [10] ⟨[5],[],2,[]⟩ e)
 |r+1,k,h=>by
  have:=vA;have:=uA;have e:fA (.ofNat k) (.ofNat (g.map Ty.c).length)=true:=NA (by simp;omega);obtain⟨s,d,f,i,_,w⟩:=Ub (g:=g) (k:=k) (by omega) c;have b:=YD s t;have j:=nA (a:=k) (b:=1);cases m:s.same t<;>rw[m]at b
  ·rcases Ql t c r (k+1) (by omega)with a|⟨l,n,o,B,a⟩
   ·exact .inl (n7 [10,15,17,(18,.i s.c),21,26] ⟨[0,3,5,8,9],[0],1,[]⟩ e d f i b j a)
   exact .inr ⟨l,n,o,by omega,n7 [10,15,17,(18,.i s.c),21,26] ⟨[0,3,5,8,9],[0],1,[]⟩ e d f i b j a⟩
  right;by_cases y:k=0\/1<=k
  ·obtain⟨v,l,n,o,a⟩:=Vb t c r (k+1) 1 [ic k] (by omega) (by simp);have p:=LoopIs.fz (by simp) a 1 (ver:=v) (sz:=1) (ty:=3) (ps:=(k::l).map ic) rfl (by kernel_rfl);simp (decide:=true) only[XF,OE,RC,bx,List.map,yE,and_self,↓reduceIte,List.take_of_length_le (show(ic k::l.map ic).length<=[ic k].length+l.length by simp;omega)]at p;refine⟨k::l,λx u=>?_,by simp,by simp;omega,n8 [10,15,17,(18,.i s.c),21,26] Tb e d f i b j (xH [] (ic k)) p⟩;rcases List.mem_cons.1 u with rfl|u
   ·rw[w,(nD s t).1 m]
   simp_all
  omega
def N4(g:List Ty)(t:Ty)(a:g.length<=qA:=by omega):∃l:List Nat,(∀x∈l,sB g x=.ok t)/\l.length<=g.length/\A 129 [OA g,t.p] (JA l):=by
 rcases Ql t a g.length 0 (by omega)with h|⟨l,b,d,c,h⟩
 ·exact⟨[],by simp,by simp,f1 [(100003,.l ⟨[0,3,5,8,9],[0],1,[]⟩ (.exit 0) (st [(5,.pv .nils)] [] 2 []))] h⟩
 exact⟨l,b,c,f1 [(100003,.l ⟨[0,3,5,8,9],[0],1,[]⟩ (.exit 0) (st [(5,.pv (JA l))] [] 2 []))] h⟩
open Go.Lg
def O4{t:Ty}(h:t.size<=64):t.size<=yA:=by have:=uA;omega
def Q4{g:List Ty}(c:g.length<=16)(a:∀s∈g,s.size<=64):A 154 [qB g []] (.tuple [OA g,.slice [],num 0]):=by
 have:=uA;have b:=yi g λt d=>O4 (a t d)
 rw[kj c a]at b;have c:=Pl (c:=Ty.c) (n:=2) (m:=32) Ty.c_len (λ_=>rfl) (by decide) g (by omega) (by simp only[maxLen];omega);have a:A 154 [qB g []] (.tuple [.slice (List.take (kA (g.map Ty.c)).length (g.map Ty.c)),.slice [],num 0]):=
  f3 [12,(23,.ok),(300006,.f 1 (g.map Ty.c))] b c (show kA (g.map Ty.c)=kA (g.map Ty.c)from rfl)
 rw[pvE_len,List.take_length]at a;exact a
def Rl{g:List Ty}(b:g.length<=16)(a:∀s∈g,s.size<=64):A 32 [qB g []] (.tuple [qB g [],num 0]):=by
 have h:=Q4 b a;have a:A 87 [qB g []] (.tuple [OA g,num 0]):=f1 [9] h;have b:A 88 [qB g []] (.tuple [.slice [],num 0]):=f1 [9] h;have c:=wD (a:=(g.map Ty.c).length) (b:=(g.map Ty.c).length) (z:=.ofNat 0) (by simp;have:=uA;omega) (by simp;have:=uA;omega) (by simp);have d:fA 16 (.ofNat (g.map Ty.c).length)=false:=HA (by simp;omega);exact f4 [18,27,37,93] a b c d
abbrev QB(n:Nat)(l:Bool):List (Nat×Ob):=[(1,bx [num n,.bool l])]
def Sl(k n:Nat)(l:Bool)(h:n+k<=yA):O 239 [.loc 1 0,.pv (num k),.pv (num 0)] (QB n l) (.pv (.bool true)) (QB (n+k) l):=by
 have g:=nA (a:=n) (b:=k) h;cases l<;>exact o1 2 [12] g
def Tl(k n:Nat)(l:Bool)(h:n+k<=yA:=by omega):O 239 [.loc 1 0,.pv (num k),.pv (num 4)] (QB n l) (.pv (.bool true)) (QB (n+k) true):=by
 have g:=nA (a:=n) (b:=k) h;cases l<;>exact o1 2 [12] g
def cT{t:Tm}(h:t.shp=true)(n:Nat)(l:Bool)(b:n+t.cnt<=yA:=by omega):∃(k e:Nat)(a:Bool),A 186 [t.p] (.tuple [num k,num e])/\k<=t.cnt/\(a=false->l=false/\t.chk=0)/\O 239 [.loc 1 0,.pv (num k),.pv (num e)] (QB n l) (.pv (.bool true)) (QB (n+k) a):=by
 have g:=fR t (by have:=MD t h;have:=uA;omega) (by omega);rcases Tm.chk_3 t with e|e|e
 ·rw[e,Tm.ckn0 e]at g;exact⟨_,_,l,g,Nat.le_refl _,λh=>⟨h,e⟩,Sl _ _ _ b⟩
 ·grind[Tm.chk]
 have c:t.ckn=0:=by unfold Tm.ckn;rw[e];rfl
 rw[e,c]at g;exact⟨_,_,true,g,Nat.zero_le _,nofun,Tl _ _ _⟩
def cF{t:Fm}(h:t.shp=true)(n:Nat)(l:Bool)(b:n+t.cnt<=yA:=by omega):∃(k e:Nat)(a:Bool),A 185 [t.p] (.tuple [num k,num e])/\k<=t.cnt/\(a=false->l=false/\t.chk=0)/\O 239 [.loc 1 0,.pv (num k),.pv (num e)] (QB n l) (.pv (.bool true)) (QB (n+k) a):=by
 have g:=gR t (by have:=ZE t h;have:=uA;omega) (by omega);rcases Fm.chk_3 t with e|e|e
 ·rw[e,Fm.ckn0 e]at g;exact⟨_,_,l,g,Nat.le_refl _,λh=>⟨h,e⟩,Sl _ _ _ b⟩
 ·grind[Fm.chk]
 have c:t.ckn=0:=by unfold Fm.ckn;rw[e];rfl
 rw[e,c]at g;exact⟨_,_,true,g,Nat.zero_le _,nofun,Tl _ _ _⟩
def kH:∀(p:Pf)(n:Nat)(l:Bool),n+p.cnt<=yA->p.wk->∃(D:Nat)(E:Bool),D<=n+p.cnt/\(E=false->l=false/\p.ck)/\O 173 [.loc 1 0,.pv p.p] (QB n l) (.pv (.bool true)) (QB D E)
 |.leaf u i,n,l,c,_=>by
  have c:n+1<=yA:=c;exact⟨n+1,l,Nat.le_refl _,λh=>⟨h,trivial⟩,by cases u<;>cases i<;>exact o2 2 [66,81] (nA (a:=n) (b:=1)) aD⟩
 |.refl t,n,l,c,h=>by
  have c:n+(1+t.cnt)<=yA:=c;obtain⟨k,e,l1,gt,x,q,ut⟩:=cT (t:=t) h (n+1) l;exact⟨n+1+k,l1,by show _<=n+(1+t.cnt);omega,q,o4 2 [66,81,92,(95,.o [] (QB (n+1+k) l1) (.pv (.bool true)))] (nA (a:=n) (b:=1)) aD gt ut⟩
 |.p1 k a,n,l,c,h=>by
  have c:n+(1+a.cnt)<=yA:=c;obtain⟨n1,l1,F,g,ga⟩:=kH a (n+1) l (by omega) h;have o:=nA (a:=n) (b:=1);exact⟨n1,l1,by show _<=n+(1+a.cnt);omega,g,by cases k<;>exact o3 2 [66,81,(122,.o [] (QB n1 l1) (.pv (.bool true)))] o aD ga⟩
 |.p2 k a b,n,l,c,h=>by
  have c:n+(1+a.cnt+b.cnt)<=yA:=c;obtain⟨n1,l1,F,g,ga⟩:=kH a (n+1) l (by omega) h.1;obtain⟨n2,j,B,d,y⟩:=kH b n1 l1 (by omega) h.2;have o:=nA (a:=n) (b:=1);exact⟨n2,j,by show _<=n+(1+a.cnt+b.cnt);omega,λe=>⟨(g (d e).1).1,(g (d e).1).2,(d e).2⟩,by cases k<;>exact o4 2 [66,81,(122,.o [] (QB n1 l1) (.pv (.bool true))),(122,.o [] (QB n2 j) (.pv (.bool true)))] o aD ga y⟩
 |.impI f a,n,l,c,h=>by
  have c:n+(1+f.cnt+a.cnt)<=yA:=c;obtain⟨k,e,l1,v,x,g,w⟩:=cF h.1 (n+1) l;obtain⟨n2,j,B,d,ga⟩:=kH a (n+1+k) l1 (by omega) h.2;exact⟨n2,j,by show _<=n+(1+f.cnt+a.cnt);omega,λe=>⟨(g (d e).1).1,(g (d e).1).2,(d e).2⟩,o5 2 [66,81,107,(110,.o [] (QB (n+1+k) l1) (.pv (.bool true))),(122,.o [] (QB n2 j) (.pv (.bool true)))] (nA (a:=n) (b:=1)) aD v w ga⟩
 |.all u s a,n,l,c,h=>by
  have:=uA;have c:n+(1+a.cnt)<=yA:=c;have G:=mN s (by have:=h.1;omega);rw[(BJ h.1).1,(BJ h.1).2]at G;obtain⟨n1,l1,F,g,ga⟩:=kH a (n+1) l (by omega) h.2;have o:=nA (a:=n) (b:=1);exact⟨n1,l1,by show _<=n+(1+a.cnt);omega,λe=>⟨(g e).1,h.1,(g e).2⟩,by cases u<;>exact o3 2 [66,74,(122,.o [] (QB n1 l1) (.pv (.bool true)))] o G ga⟩
 |.ins u t a,n,l,c,h=>by
  have c:n+(1+t.cnt+a.cnt)<=yA:=c;obtain⟨k,e,l1,gt,x,g,ut⟩:=cT h.1 (n+1) l;obtain⟨n2,j,B,d,ga⟩:=kH a (n+1+k) l1 (by omega) h.2;have o:=nA (a:=n) (b:=1);exact⟨n2,j,by show _<=n+(1+t.cnt+a.cnt);omega,λe=>⟨(g (d e).1).1,(g (d e).1).2,(d e).2⟩,by cases u<;>exact o5 2 [66,81,92,(95,.o [] (QB (n+1+k) l1) (.pv (.bool true))),(122,.o [] (QB n2 j) (.pv (.bool true)))] o aD gt ut ga⟩
 |.ex u f t a,n,l,c,h=>by
  have c:n+(1+t.cnt+f.cnt+a.cnt)<=yA:=c;obtain⟨k,e,l1,gt,x,g,ut⟩:=cT h.1 (n+1) l;obtain⟨z,I,j,v,C,d,w⟩:=cF h.2.1 (n+1+k) l1;obtain⟨n3,r,H,m,ga⟩:=kH a (n+1+k+z) j (by omega) h.2.2;have o:=nA (a:=n) (b:=1);exact⟨n3,r,by show _<=n+(1+t.cnt+f.cnt+a.cnt);omega,λe=>⟨(g (d (m e).1).1).1,(g (d (m e).1).1).2,(d (m e).1).2,(m e).2⟩,by cases u<;>exact o7 2 [66,81,92,(95,.o [] (QB (n+1+k) l1) (.pv (.bool true))),107,(110,.o [] (QB (n+1+k+z) j) (.pv (.bool true))),(122,.o [] (QB n3 r) (.pv (.bool true)))] o aD gt ut v w ga⟩
 |.ind u f t a b,n,l,c,h=>by
  have c:n+(1+t.cnt+f.cnt+a.cnt+b.cnt)<=yA:=c;obtain⟨k,e,l1,gt,x,g,ut⟩:=cT h.1 (n+1) l;obtain⟨z,I,j,v,C,d,w⟩:=cF h.2.1 (n+1+k) l1;obtain⟨n3,r,H,m,ga⟩:=kH a (n+1+k+z) j (by omega) h.2.2.1;obtain⟨n4,l4,K,A,y⟩:=kH b n3 r (by omega) h.2.2.2;have o:=nA (a:=n) (b:=1);exact⟨n4,l4,by show _<=n+(1+t.cnt+f.cnt+a.cnt+b.cnt);omega,λe=>⟨(g (d (m (A e).1).1).1).1,(g (d (m (A e).1).1).1).2,(d (m (A e).1).1).2,(m (A e).1).2,(A e).2⟩,by cases u<;>exact o8 2 [66,81,92,(95,.o [] (QB (n+1+k) l1) (.pv (.bool true))),107,(110,.o [] (QB (n+1+k+z) j) (.pv (.bool true))),(122,.o [] (QB n3 r) (.pv (.bool true))),(122,.o [] (QB n4 l4) (.pv (.bool true)))] o aD gt ut v w ga y⟩
 |.subst f a b,n,l,c,h=>by
  have c:n+(1+f.cnt+a.cnt+b.cnt)<=yA:=c;obtain⟨k,e,l1,v,x,g,w⟩:=cF h.1 (n+1) l;obtain⟨n2,j,B,d,ga⟩:=kH a (n+1+k) l1 (by omega) h.2.1;obtain⟨n3,r,H,m,y⟩:=kH b n2 j (by omega) h.2.2;exact⟨n3,r,by show _<=n+(1+f.cnt+a.cnt+b.cnt);omega,λe=>⟨(g (d (m e).1).1).1,(g (d (m e).1).1).2,(d (m e).1).2,(m e).2⟩,o6 2 [66,81,107,(110,.o [] (QB (n+1+k) l1) (.pv (.bool true))),(122,.o [] (QB n2 j) (.pv (.bool true))),(122,.o [] (QB n3 r) (.pv (.bool true)))] (nA (a:=n) (b:=1)) aD v w ga y⟩
def R4{p:Pf}(h:p.K):(p.ck/\A 35 [p.p] (num 0))\/A 35 [p.p] (num 4):=by
 by_cases d:p.ck
 ·grind[Ba]
 have:=uA;obtain⟨a,b,i,j,g⟩:=kH p 0 false (by omega) h.2;have e:b=true:=by
  simp_all
 subst e;have c:A 110 [p.p] (.tuple [num 0,num 4]):=f1 [(10,.o [] (QB a true) (.pv (.bool true)))] g;exact .inr (f1 [7] c)
open Go.Lg
def S4(ρ:Operand->Value)(h:ρ (.tmp 5)=.nilIface)(c:ρ (.const .nilIface)=.nilIface)(w:World):(execOp ρ ({dst:=some 7,op:=Op.binOp BinOp.eql 20 (Operand.tmp 5) (Operand.const Value.nilIface) 20,type:=4,pos:= "sound.go:66",after:= #[],guard:=none}:Oper)).run Tryz.prog w=.ok (.value (.bool true)) w:=by
 have e:=evOK.T;have a:TIOK Tryz.prog 20 ⟨.iface,1,16,zV .nilif,[.nilif]⟩:=e 20 _ rfl;obtain⟨d,f,b⟩:=a.desc;simp only[EC]at b;have heq:(Op.equal 20 .nilIface .nilIface).run Tryz.prog w=.ok true w:=bF λd=>by
  obtain⟨i,rfl⟩:=b;simp[Op.equalIn,run_underlying f]
 have g:(eqGuard BinOp.eql 20 (Operand.tmp 5) (Operand.const Value.nilIface) Value.nilIface Value.nilIface).run Tryz.prog w=.ok () w:=by
  simp[eqGuard]
 simp[execOp,h,c,g,binOp,heq]
def T4:rX Tryz.prog 33 2:=by
 intro w i j;obtain⟨x,y,rfl⟩:∃x y,i=[x,y]:=by
  match i,j with
  |[x,y],_=>exact⟨x,y,rfl⟩
 refine callsD_of_wpS (P:=Tryz.prog) (fn:=Tryz.f33) (evOK.F 33 _ rfl).1 rfl λk cs f=>?_
 apply wpS_seq;apply wpS_region;simp only[List.size_toArray,List.length_cons,List.length_nil,Nat.zero_add,List.range_succ,List.range_zero,List.nil_append];simp only[wpOpsS,List.getElem?_toArray,List.getElem?_cons_zero,Region.wanted,if_true];have a:∀ρ w,(execOp ρ ({dst:=some 5,op:=Op.call {callee:=Callee.builtin Builtin.recover,args:= #[],argTypes:= #[]},type:=20,pos:= "sound.go:66",after:= #[],guard:=none}:Oper)).run Tryz.prog w=.ok .recover w:=λ_ _=>rfl
 simp only[a,recoverD,f,Exit.thenS];refine wpS_of_wp ?_;have b:({tmps:=#[x,y]++Array.replicate (Tryz.f33.ntmps-(1+1)) undef,defers:=[]}:Act).put (some 5) Value.nilIface={tmps:=#[x,y,undef,undef,undef,.nilIface,undef,undef,undef,undef,undef,undef,undef],defers:=[]}:=rfl;rw[b];clear b a j;generalize l:(λ(e:Exit)(c:Act)(g:World)=>bodyPostS Tryz.prog Tryz.f33 k cs (λe m g=>(∃r,e=Ending.returned r)/\m=FrameMode.returning/\g=w) e c (k::cs) g)=Q;have d:∀c:Act,c.defers=[]->Q .normal c w:=by
  intro c n;rw[<-l];refine⟨n,.returning,by rw[<-f],.tuple #[],?_,⟨_,rfl⟩,rfl,rfl⟩;simp[results,Tryz.f33]
 clear l f;apply wp_block;apply wp_seq;apply wp_region_list;refine wpList_plain rfl λK h=>?_
 unfold Oper.wp;rw[S4 _ rfl rfl,Oper.upon_value];apply h;show Code.wp _ _ _ _ _;refine wp_cond_true rfl ?_;apply wp_region_list;refine wpList_plain rfl λK h=>?_
 unfold Oper.wp;have o:∀ρ w,(execOp ρ ({dst:=some 2,op:=Op.assign (Operand.tmp 5),type:=20,pos:= "sound.go:66",after:= #[],guard:=none}:Oper)).run Tryz.prog w=.ok (.value (ρ (.tmp 5))) w:=λ_ _=>rfl
 rw[o,Oper.upon_value];apply h;exact d _ rfl
abbrev oA:Oper:={dst:=some 40,op:=Op.makeFunc (Fn.func 33) #[] #[Operand.tmp 8,Operand.tmp 9],type:=1,pos:= "sound.go:65",after:= #[],guard:=none}
abbrev oB:Oper:={dst:=none,op:=Op.defer {callee:=Callee.value (Operand.tmp 40),args:= #[],argTypes:= #[]},type:=0,pos:= "sound.go:65",after:= #[{on:=0,ground:=Ground.data}],guard:=none}
abbrev FE:List V:=[.loc 2 0,.loc 3 0]
abbrev pS:Array Operand:=#[.tmp 8,.tmp 9]
def iW:WT ev Tryz.prog 9 oA oB pS FE 40 33:=⟨⟨Tryz.f33,(evOK.F 33 _ rfl).1,rfl,rfl⟩,rfl,rfl,rfl,rfl,rfl,rfl,T4⟩
abbrev z9:List PV:=[num 0,num 0,num 0,.nils,.nils,.nils,.nils]
abbrev oW:List (Nat×Ob):=[(2,bx z9),(3,bx [num 0])]
abbrev xW:List (Nat×Ob):=[(2,bx z9),(3,bx [num 4])]
def U4:nQ Tryz.prog gl 33 FE oW pE xW:=by
 have h:ST ev Tryz.prog 100 6 33 FE oW 4 5 [] pE (.pv (.tuple [])) xW:=by
  have a:(some (bx z9)=some (bx z9)/\some (bx [num 4])=some (bx [num 4])/\V.pv (PV.tuple [])=V.pv (PV.tuple []))=ST ev Tryz.prog 100 6 33 FE oW 4 5 [] pE (.pv (.tuple [])) xW:=by kernel_rfl
  exact a▸⟨rfl,rfl,rfl⟩
 exact vr (fn:=Tryz.f33) evOK h rfl rfl (λ_ _=>rfl) rfl rfl (by decide) (by decide) (by simp[eE,CA,V.names,gC,bx,DA,Ob.names,jA]) (by simp[eE,CA,V.names,gC,bx,DA,Ob.names,jA])
abbrev Ul:PV:=.agg [num 0,num 0,num 0,.slice [],.slice [],.slice [],.slice []]
def w9:PV.w 4 (.tuple [.agg z9,num 4])=.tuple [Ul,num 4]:=rfl
section
variable{g:List Ty}(hg:g.length<=16)(hgs:∀s∈g,s.size<=64){j:Jt}(hD:j.D [] g [])(hc:j.p.ck)(hp:j.p.cnt<=16384)(hx:j.gx)
include hg hgs hD hc hp hx
theorem s9:j.OK [] g.length []/\(A 9 [dA [],row [],qB g [],j.p.p] (.tuple [Ul,num 4])\/((j.pv [] (yB g.length 0)).p.ck/\(j.pv [] (yB g.length 0)).p.cnt<=16384/\A 9 [dA [],row [],qB g [],j.p.p] (.tuple [(j.pv [] (yB g.length 0)).p.p,num 0]))):=by
 obtain⟨l,h⟩:=Cl hg hgs hD hc hp hx;refine⟨l,?_⟩;rcases h with h|⟨h,_⟩
 ·exact .inl (f1 [22] h)
 generalize m:(j.pv [] (yB g.length 0)).p=X;have H:=PD (ls:=[]) (tl:=[]) (λi f h=>by simp at h) j 84984 g.length [] (yB g.length 0) l hx (Bl hg) (by omega);rw[m]at H;have d:=Rl hg hgs;rcases H with ⟨k,c⟩|c
 ·rcases R4 k with ⟨n,e⟩|e
  ·have a:(A 31 [dA [],row [],qB g [],j.p.p] (.tuple [j.ptr [],(yB g.length 0).p,(j.gl g.length).p,num 0])/\A 32 [qB g []] (.tuple [qB g [],num 0])/\ #[oA,oB]= #[oA,oB]/\FE=FE/\A 34 [eA [],j.ptr [],(yB g.length 0).p] X.p/\A 35 [X.p] (num 0)/\V.pv (.tuple [X.p,num 0])=V.pv (.tuple [X.p,num 0]))=VT ev Tryz.prog 100 6 9 7 [dA [],row [],qB g [],j.p.p] oA oB pS FE 40 33 [(22,.U [j.ptr [],(yB g.length 0).p,(j.gl g.length).p,num 0]),(33,.U [qB g [],num 0]),(45,.r X.p),(47,.N 0)] (.tuple [X.p,num 0]):=by kernel_rfl
   exact .inr ⟨n,k.1,RY evOK (Eq.mp a ⟨h,d,rfl,rfl,c,e,rfl⟩) iW⟩
  have a:(A 31 [dA [],row [],qB g [],j.p.p] (.tuple [j.ptr [],(yB g.length 0).p,(j.gl g.length).p,num 0])/\A 32 [qB g []] (.tuple [qB g [],num 0])/\ #[oA,oB]= #[oA,oB]/\FE=FE/\A 34 [eA [],j.ptr [],(yB g.length 0).p] X.p/\A 35 [X.p] (num 4)/\V.pv (.tuple [.agg z9,num 4])=V.pv (.tuple [.agg z9,num 4]))=VT ev Tryz.prog 100 6 9 7 [dA [],row [],qB g [],j.p.p] oA oB pS FE 40 33 [(22,.U [j.ptr [],(yB g.length 0).p,(j.gl g.length).p,num 0]),(33,.U [qB g [],num 0]),(45,.r X.p),(47,.N 4)] (.tuple [.agg z9,num 4]):=by kernel_rfl
  have b:=AC.wO (ev:=ev) 4 (RY evOK (Eq.mp a ⟨h,d,rfl,rfl,c,e,rfl⟩) iW);rw[w9]at b;exact .inl b
 have a:(A 31 [dA [],row [],qB g [],j.p.p] (.tuple [j.ptr [],(yB g.length 0).p,(j.gl g.length).p,num 0])/\A 32 [qB g []] (.tuple [qB g [],num 0])/\ #[oA,oB]= #[oA,oB]/\FE=FE/\Pn 34 [eA [],j.ptr [],(yB g.length 0).p]/\some (bx z9)=some (bx z9)/\some (bx [num 0])=some (bx [num 0])/\V.pv (.tuple [.agg z9,num 4])=V.pv (.tuple [.agg z9,num 4]))=Cf ev Tryz.prog 100 6 9 7 8 45 [dA [],row [],qB g [],j.p.p] oA oB pS FE 40 33 oW xW [(22,.U [j.ptr [],(yB g.length 0).p,(j.gl g.length).p,num 0]),(33,.U [qB g [],num 0]),(45,.N 0)] pE (.tuple [.agg z9,num 4]):=by kernel_rfl
 have b:=AC.wO (ev:=ev) 4 (kr evOK (Eq.mp a ⟨h,d,rfl,rfl,c,rfl,rfl,rfl⟩) iW U4 rfl (by simp[gC,bx,DA,Ob.names,CA,V.names,jA]) (by decide));rw[w9]at b;exact .inl b
end
def yH:∀p:Pf,p.ck->p.tsz<=64|.leaf _ _,_=>Nat.zero_le _|.refl t,h=>MD t (Tm.chk0 h).2|.p1 _ a,h=>yH a h|.p2 _ a b,h=>Nat.max_le.2 ⟨yH a h.1,yH b h.2⟩|.impI f a,h=>Nat.max_le.2 ⟨ZE f (Fm.chk0 h.1).2,yH a h.2⟩|.all _ s a,h=>Nat.max_le.2 ⟨yH a h.2,h.1⟩|.ins _ t a,h=>Nat.max_le.2 ⟨MD t (Tm.chk0 h.1).2,yH a h.2⟩|.ex _ f t a,h=>Nat.max_le.2 ⟨Nat.max_le.2 ⟨MD t (Tm.chk0 h.1).2,ZE f (Fm.chk0 h.2.1).2⟩,yH a h.2.2⟩|.ind _ f t a b,h=>Nat.max_le.2 ⟨Nat.max_le.2 ⟨Nat.max_le.2 ⟨MD t (Tm.chk0 h.1).2,ZE f (Fm.chk0 h.2.1).2⟩,yH a h.2.2.1⟩,yH b h.2.2.2⟩|.subst f a b,h=>Nat.max_le.2 ⟨Nat.max_le.2 ⟨ZE f (Fm.chk0 h.1).2,yH a h.2.1⟩,yH b h.2.2⟩
def uH{r:List Fm}:∀(p:Pf)(g:List Ty)(d:List Fm)(f:Fm),p.W r g d f->p.mx<=g.length+2*p.cnt
 |.leaf _ _,_,_,_,_=>Nat.zero_le _|.refl t,g,_,_,h=>by have:=ZC h.2.1;grind[Pf.mx,Pf.cnt]|.p1 k a,g,d,f,h=>by
  have:∃j,a.W r g d j:=by
   cases k
   ·exact⟨_,h.choose_spec⟩
   ·exact⟨_,h.choose_spec⟩
   obtain⟨s,u,x,h,_⟩:=h;grind
  obtain⟨j,z⟩:=this;have:=uH a g d j z
  grind[Pf.mx,Pf.cnt]
 |.p2 k a b,g,d,f,h=>by
  have:∃j v m n,a.W r g d j/\b.W r v m n/\v.length<=g.length+1:=by
   cases k
   ·obtain⟨x,y,i,c,_⟩:=h;grind
   ·obtain⟨x,i,c⟩:=h;grind
   ·obtain⟨s,x,y,i,c,_⟩:=h;grind
   obtain⟨s,x,y,i,c,_⟩:=h;grind
  obtain⟨j,v,m,n,i,c,w⟩:=this;have:=uH a g d j i;have:=uH b v m n c
  grind[Pf.mx,Pf.cnt]
 |.impI x a,g,d,f,⟨i,y,c,_⟩=>by
  have:=OI i.2;have:=uH a _ _ _ c
  grind[Pf.mx,Pf.cnt]
 |.all u s a,g,d,f,⟨_,y,c,_⟩=>by
  have:=uH a _ _ _ c
  grind[Pf.mx,Pf.cnt,List.length_append,List.length_singleton]
 |.ins u t a,g,d,f,⟨_,s,x,i,c,_⟩=>by
  have:=ZC i;have:=uH a _ _ _ c
  grind[Pf.mx,Pf.cnt]
 |.ex u x t a,g,d,f,⟨o,_,s,y,i,_,c,_⟩=>by
  have:=OI o.2;have:=ZC i;have:=uH a _ _ _ c
  grind[Pf.mx,Pf.cnt]
 |.ind l x t a b,g,d,f,⟨o,i,c,w,_⟩=>by
  have:=OI o.2;have:=ZC i.2;have:=uH a _ _ _ c;have:=uH b _ _ _ w;have e:(lG l).length<=2:=by cases l<;>decide
  grind[Pf.mx,Pf.cnt,List.length_append,List.length_singleton]
 |.subst x a b,g,d,f,⟨o,t,u,c,w,_⟩=>by
  have:=OI o.2;have:=uH a _ _ _ c;have:=uH b _ _ _ w
  grind[Pf.mx,Pf.cnt,List.length_append,List.length_singleton]
open Go.Lg
def V4:RL [] [] []:=⟨nofun,λi t h=>by simp at h,λi f h=>by simp at h,λi f h=>by simp at h⟩
def Wb(g:List Ty):SoT g g [] [] (yB g.length 0):=by
 refine⟨MV g.length 0,⟨λi s h=>?_,λi f a=>absurd a (Nat.not_lt_zero i)⟩,rfl,rfl,nofun,nofun,λi f a=>absurd a (Nat.not_lt_zero i)⟩;show Ht g ((Tm.v i).ps (yB g.length 0).vs g.length 0) s;rw[pz (GP h)];exact h
def XL{f:Nat}{args:List PV}{x:PV}(n:Nat)(e:(x=x)=AY ev Tryz.prog 100 n f args [] x):A f args x:=IY evOK (Eq.mp e rfl)
abbrev falF:Fm:=.eq (.n0 .zero) (.n1 .succ (.n0 .zero))
abbrev rf0:Pf:=.refl (.n0 .zero)
abbrev eq0:Fm:=.eq (.n0 .zero) (.n0 .zero)
abbrev rj0:Jt:=.refl (.n0 .zero)
def Vl:A 13 [] falF.p:=XL 20 (by kernel_rfl)
def X4:A 39 [eq0.p,(Tm.n0 .unit).p] (FR.ok eq0).p:=XL 20 (by kernel_rfl)
def Y4:A 108 [rf0.p] rf0.p:=XL 20 (by kernel_rfl)
def Z4:A 153 [(yB 0 0).p,eq0.p] (FR.ok eq0).p:=XL 20 (by kernel_rfl)
def j5:A 39 [falF.p,(Tm.n0 .unit).p] (FR.ok falF).p:=XL 20 (by kernel_rfl)
def v5:A 38 [dA [falF],row [.n0 .unit]] (num 0):=XL 20 (by kernel_rfl)
def u5:A 14 [falF.p,falF.p] (.bool true):=XL 20 (by kernel_rfl)
def d5:A 12 [dA [falF],row [.n0 .unit]] (.tuple [dA [falF],num 0]):=f2 [14,31] v5 j5
def m5:rj0.D [] [] []:=⟨rfl,rfl,rfl⟩
def r5:A 86 [eA [],rj0.ptr [],(yB 0 0).p] (FR.ok eq0).p:=by
 have h:A 99 [eA [],rj0.ptr [],(yB 0 0).p] (XR.ok (.n0 .unit)).p:=f1 [13] fG;exact f3 [15,28,37] h Z4 X4
def Wl:A 31 [dA [],row [],qB [] [],rf0.p] (.tuple [rj0.ptr [],(yB 0 0).p,eq0.p,num 0]):=
 f4 [22,32,39,45] (Oj [] (by decide) nofun rj0 m5 rfl (by decide)).1 Ta (Sa [] (by decide)) r5
def i5:A 8 [dA [],row [],qB [] [],rf0.p] (FR.ok eq0).p:=f1 [19] Wl
def A5:A 34 [eA [],rj0.ptr [],(yB 0 0).p] rf0.p:=by
 have h:A 103 [(yB 0 0).p,(Tm.n0 .zero).p] (XR.ok (.n0 .zero)).p:=HR (yB 0 0) (.n0 .zero) 0 rfl (MV 0 0).ve (by decide) (by decide) ⟨by decide,rfl,trivial⟩;exact f3 [187,190,193] h (BD (.n0 .zero)) Y4
def B5:A 9 [dA [],row [],qB [] [],rf0.p] (.tuple [rf0.p,num 0]):=by
 have h:=Wl;have a:=Rl (g:=[]) (by decide) nofun;have b:=Ba rf0 (by decide) rfl;have c:(A 31 [dA [],row [],qB [] [],rf0.p] (.tuple [rj0.ptr [],(yB 0 0).p,eq0.p,num 0])/\A 32 [qB [] []] (.tuple [qB [] [],num 0])/\ #[oA,oB]= #[oA,oB]/\FE=FE/\A 34 [eA [],rj0.ptr [],(yB 0 0).p] rf0.p/\A 35 [rf0.p] (num 0)/\V.pv (.tuple [rf0.p,num 0])=V.pv (.tuple [rf0.p,num 0]))=VT ev Tryz.prog 100 6 9 7 [dA [],row [],qB [] [],rf0.p] oA oB pS FE 40 33 [(22,.U [rj0.ptr [],(yB 0 0).p,eq0.p,num 0]),(33,.U [qB [] [],num 0]),(45,.r rf0.p),(47,.N 0)] (.tuple [rf0.p,num 0]):=by kernel_rfl
 exact RY evOK (Eq.mp c ⟨h,a,rfl,rfl,A5,b,rfl⟩) iW
end Go.Proofs.YtjobiknipefjdaaGreatDoor
