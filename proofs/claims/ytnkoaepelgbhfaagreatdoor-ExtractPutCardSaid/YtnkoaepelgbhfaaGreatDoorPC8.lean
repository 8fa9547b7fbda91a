/- Contracts of functions; no conditions. -/
import Derived.Test.YtnkoaepelgbhfaaGreatDoorPC7
set_option linter.all false
set_option maxHeartbeats 4000000
namespace Go.Proofs.YtnkoaepelgbhfaaGreatDoor
open Go.Lg
set_option maxRecDepth 100000
section
variable {f:Nat} {args:List V} {objs:List (Nat × Ob)} {x:V} {objs':List (Nat × Ob)}
theorem Te (m:Nat) (tp:Di) {H1 H2 H3 H4 H5 H6 H7 H8 H9 H10 H11 H12 H13 H14 H15 H16 H17 BB:Prop} (h1:H1) (h2:H2) (h3:H3) (h4:H4) (h5:H5) (h6:H6) (h7:H7) (h8:H8) (h9:H9) (h10:H10) (h11:H11) (h12:H12) (h13:H13) (h14:H14) (h15:H15) (h16:H16) (h17:H17) (vD:BB) (e:(H1/\H2/\H3/\H4/\H5/\H6/\H7/\H8/\H9/\H10/\H11/\H12/\H13/\H14/\H15/\H16/\H17/\BB/\(x,objs')=(x,objs'))=UO f args objs m tp x objs':=by kernel_rfl):O f args objs x objs':=ok m tp ⟨h1,h2,h3,h4,h5,h6,h7,h8,h9,h10,h11,h12,h13,h14,h15,h16,h17,vD,rfl⟩ e
theorem gr (m:Nat) (tp:Di) {H1 H2 H3 H4 H5 H6 H7 H8 H9 H10 H11 H12 H13 H14 H15 H16 H17 BB zB:Prop} (h1:H1) (h2:H2) (h3:H3) (h4:H4) (h5:H5) (h6:H6) (h7:H7) (h8:H8) (h9:H9) (h10:H10) (h11:H11) (h12:H12) (h13:H13) (h14:H14) (h15:H15) (h16:H16) (h17:H17) (vD:BB) (OD:zB) (e:(H1/\H2/\H3/\H4/\H5/\H6/\H7/\H8/\H9/\H10/\H11/\H12/\H13/\H14/\H15/\H16/\H17/\BB/\zB/\(x,objs')=(x,objs'))=UO f args objs m tp x objs':=by kernel_rfl):O f args objs x objs':=ok m tp ⟨h1,h2,h3,h4,h5,h6,h7,h8,h9,h10,h11,h12,h13,h14,h15,h16,h17,vD,OD,rfl⟩ e
theorem lr (m:Nat) (tp:Di) {H1 H2 H3 H4 H5 H6 H7 H8 H9 H10 H11 H12 H13 H14 H15 H16 H17 BB zB H20:Prop} (h1:H1) (h2:H2) (h3:H3) (h4:H4) (h5:H5) (h6:H6) (h7:H7) (h8:H8) (h9:H9) (h10:H10) (h11:H11) (h12:H12) (h13:H13) (h14:H14) (h15:H15) (h16:H16) (h17:H17) (vD:BB) (OD:zB) (h20:H20) (e:(H1/\H2/\H3/\H4/\H5/\H6/\H7/\H8/\H9/\H10/\H11/\H12/\H13/\H14/\H15/\H16/\H17/\BB/\zB/\H20/\(x,objs')=(x,objs'))=UO f args objs m tp x objs':=by kernel_rfl):O f args objs x objs':=ok m tp ⟨h1,h2,h3,h4,h5,h6,h7,h8,h9,h10,h11,h12,h13,h14,h15,h16,h17,vD,OD,h20,rfl⟩ e
end
section
variable {f i bs:Nat} {s s':IS} {e:AE}
theorem x9 (tp:Di) (ko:Kp) {H1 H2 H3 H4 H5 H6 H7 H8 H9:Prop} (h1:H1) (h2:H2) (h3:H3) (h4:H4) (h5:H5) (h6:H6) (h7:H7) (h8:H8) (h9:H9) (q:(H1/\H2/\H3/\H4/\H5/\H6/\H7/\H8/\H9/\e=e/\s'=s')=Rd f i bs s tp ko ko e s':=by kernel_rfl):Lp f i bs s e s':=rk tp ko ko ⟨h1,h2,h3,h4,h5,h6,h7,h8,h9,rfl,rfl⟩ q
end
structure TG (n C S:Nat) (x:Tm):Prop where
 sc:x.sc n
 cnt:x.cnt<=C
 tsz:x.tsz<=S
theorem TG.mono {n C S C' S':Nat} {x:Tm} (h:TG n C S x) (hc:C<=C') (hs:S<=S'):TG n C' S' x:=⟨h.sc,Nat.le_trans h.cnt hc,Nat.le_trans h.tsz hs⟩
theorem cX {n i:Nat} (h:i<3):TG n 4 0 (UA i):=by
 rcases i with _|_|_|i
 ·exact⟨trivial,by decide,by decide⟩
 ·exact⟨trivial,by decide,by decide⟩
 ·exact⟨trivial,by decide,by decide⟩
 ·omega
structure TT (g:List Ty) (t:Ty) (C S:Nat) (x:Tm):Prop extends TG g.length C S x where
 ty:x.tyR g = .ok t
theorem TT.mono {g:List Ty} {t:Ty} {C S C' S':Nat} {x:Tm} (h:TT g t C S x) (hc:C<=C') (hs:S<=S'):TT g t C' S' x:=⟨h.toTG.mono hc hs,h.ty⟩
theorem iT (g:List Ty):∀ n:Nat,(UA n).tyR g = .ok .nat
 | 0=>rfl
 | n+1=>by show pC .succ ((UA n).tyR g)=_;rw [iT g n];rfl
theorem CN (g:List Ty) {i:Nat} (h:i<3):TT g .nat 4 0 (UA i):=⟨cX h,iT g i⟩
theorem eX (s:Ty):s.same s=true:=(HD s s).2 rfl
theorem jD {g:List Ty} {f x:Tm} {s u:Ty} (h1:f.tyR g = .ok (.two true s u)) (h2:x.tyR g = .ok s):(Tm.n2 .app f x).tyR g = .ok u:=by
 show uC .app (f.tyR g) (x.tyR g)=_;rw [h1,h2];simp only [uC,eX,cond_true]
theorem kF {g:List Ty} {b:Tm} {s u:Ty} (h:b.tyR (g++[s]) = .ok u) (hs:(Ty.two true s u).size<=64):(Tm.lam s b).tyR g = .ok (.two true s u):=by
 show vP s (b.tyR (g++[s]))=_;rw [h];exact if_pos hs
theorem iX {g:List Ty} {b:Tm} {s t u:Ty} (h:b.tyR (g++[s,t]) = .ok u) (hs:(Ty.two true s (.two true t u)).size<=64):(Tm.lam s (.lam t b)).tyR g = .ok (.two true s (.two true t u)) :=
 kF (kF (by simpa using h) (by simp only [Ty.size] at hs ⊢;omega)) hs
theorem Ue {g:List Ty} {b:Tm} {s t v u:Ty} (h:b.tyR (g++[s,t,v]) = .ok u) (hs:(Ty.two true s (.two true t (.two true v u))).size<=64):(Tm.lam s (.lam t (.lam v b))).tyR g = .ok (.two true s (.two true t (.two true v u))) :=
 kF (iX (by simpa using h) (by simp only [Ty.size] at hs ⊢;omega)) hs
theorem XH {g:List Ty} {x y:Tm} {s u:Ty} (h1:x.tyR g = .ok s) (h2:y.tyR g = .ok u) (hs:(Ty.two false s u).size<=64):(Tm.n2 .pair x y).tyR g = .ok (.two false s u):=by
 show uC .pair (x.tyR g) (y.tyR g)=_;rw [h1,h2];exact if_pos hs
theorem Ve {g:List Ty} {x:Tm} {s u:Ty} (h:x.tyR g = .ok (.two false s u)):(Tm.n1 .fst x).tyR g = .ok s:=by
 show pC .fst (x.tyR g)=_;rw [h];rfl
theorem We {g:List Ty} {x:Tm} {s u:Ty} (h:x.tyR g = .ok (.two false s u)):(Tm.n1 .snd x).tyR g = .ok u:=by
 show pC .snd (x.tyR g)=_;rw [h];rfl
theorem WP {g:List Ty} {x:Tm} (h:x.tyR g = .ok .nat):(Tm.n1 .succ x).tyR g = .ok .nat:=by
 show pC .succ (x.tyR g)=_;rw [h];rfl
theorem oT {g:List Ty} {x y:Tm} (h:x.tyR g = .ok .nat) (h':y.tyR g = .ok .list):(Tm.n2 .cons x y).tyR g = .ok .list:=by
 show uC .cons (x.tyR g) (y.tyR g)=_;rw [h,h'];rfl
theorem XP {g:List Ty} {b f d:Tm} {s:Ty} (h1:b.tyR g = .ok s) (h2:f.tyR g = .ok (.two true .nat (.two true s s))) (h3:d.tyR g = .ok .nat):(Tm.n3 .re s b f d).tyR g = .ok s:=by
 show bB .re s (b.tyR g) (f.tyR g) (d.tyR g)=_;rw [h1,h2,h3];simp only [bB,eX,cond_true]
theorem Xe {g:List Ty} {b f d:Tm} {s:Ty} (h1:b.tyR g = .ok s) (h2:f.tyR g = .ok (.two true .nat (.two true .list (.two true s s)))) (h3:d.tyR g = .ok .list):(Tm.n3 .fo s b f d).tyR g = .ok s:=by
 show bB .fo s (b.tyR g) (f.tyR g) (d.tyR g)=_;rw [h1,h2,h3];simp only [bB,eX,cond_true]
abbrev xT (L:List Int) (g:List Ty) (t:Ty) (z:PV) (a:Nat) (x:Tm) (b:Nat):Prop:=O 9 [.loc 0 0,.pv (AA g),.pv t.p,.pv z] [(0,dk L a)] (.pv x.p) [(0,dk L b)]
theorem Ye {L:List Int} (hL:Dk L) {g:List Ty} {t:Ty} (hg:g.length<=1000000) (z:PV) {a:Nat} (ha:a<=L.length) :
  (∃ (i b:Nat),cB g i = .ok t/\b<=L.length/\xT L g t z a (.v i) b)\/A 23 [AA g,t.p] (dA []) \/ ∃ (i:Nat) (r:List Nat) (b:Nat),b<=L.length/\A 23 [AA g,t.p] (dA (i::r))/\O 21 [.loc 0 0,.pv (num 3)] [(0,dk L a)] (.pv (num 0)) [(0,dk L b)]:=by
 have hm:=zA;have hb:=kA;obtain⟨l,q1,q2,g1⟩:=dr g t (by omega)
 cases l with
 | nil=>exact .inr (.inl g1)
 | cons i r =>
  obtain⟨x,b,hx,hb1,g2⟩:=nx hL ha (n:=3) (by omega) (by omega)
  cases x with
  | zero=>exact .inr (.inr ⟨i,r,b,hb1,g1,g2⟩)
  | succ x =>
   have q3:r.length+1<=g.length:=q2;have el:((i::r).map ic).length=r.length+1:=by simp
   obtain⟨y,c,hy,hc,g3⟩:=nx hL hb1 (n:=((i::r).map ic).length) (by omega) (by omega);obtain⟨w,hw⟩:∃ w,(i::r)[y]? = some w:=⟨_,List.getElem?_eq_getElem (by simpa using hy)⟩;exact .inl ⟨w,c,q1 w (List.mem_of_getElem? hw),hc,o5 1 [(19,.r (dA (i::r))),(25,.D L b (.pv (num (x+1)))),(32,.D L c (.pv (num y))),(33,.i (ic w)),(35,.r (Tm.v w).p)] g1 g2 g3 (kB (c:=ic) (n:=1) hw λ _=>rfl) (tE w)⟩
theorem Ze {g:List Ty} {i:Nat} {t:Ty} (h:cB g i = .ok t):i<g.length:=by
 unfold cB at h;split at h
 ·assumption
 ·cases h
theorem mr {z:Int} (h:z<=0):uA 0 z=false:=by rw [KB];simpa using h
theorem nr {z:Int} (h : -1000000<=z) (h':z<=1000000):aA (z-1)=true/\z-1=z-1:=⟨TM (by omega) (by omega),rfl⟩
theorem DN:A 26 [num 7,row []] (Tm.n0 .nil).p:=QM 7
theorem EN:A 26 [num 13,row []] (Tm.n0 .unit).p:=QM 13
theorem MD (k:K2) (x y:Tm):A 26 [num k.n,row [x,y]] (Tm.n2 k x y).p:=cF k.n x y
theorem EK (k:K1) (x:Tm):A 26 [num k.n,row [x]] (Tm.n1 k x).p:=RM k.n x
theorem VL {L:List Int} (hL:Dk L):∀ (t:Ty) (g:List Ty) (z:Int) (a:Nat),z<=0->-1000000+t.size<=z->g.length+t.size<=1000000->a<=L.length->t.size<=64->∃ (x:Tm) (b:Nat),TT g t (4 * t.size) t.size x/\b<=L.length/\xT L g t (.int z) a x b
 | t,g,z,a,hz,hz2,hg,ha,h64=>by
  have hm:=zA;have h0:=mr hz;have h1:=nr (z:=z) (by omega) (by omega);have ht1:1<=t.size:=by cases t<;>simp [Ty.size]<;>omega
  rcases Ye hL (g:=g) (t:=t) (by omega) (.int z) ha with ⟨i,b,hi,hb,h⟩|g0|⟨i0,r0,a0,ha0,g0,g00⟩
  ·exact⟨.v i,b,⟨⟨Ze hi,by simp only [Tm.cnt];omega,Nat.zero_le _⟩,hi⟩,hb,h⟩
  ·cases t with
   | nat =>
    obtain⟨y,b,hy,hb,g1⟩:=nx hL ha (n:=3) (by omega) (by omega);have g2:=fH (n:=y) (by omega);exact⟨UA y,b,(CN g hy).mono (by decide) (by decide),hb,o5 1 [(19,.r (dA [])),(37,.H),(218,.H),(266,.D L b (.pv (num y))),(267,.r (UA y).p)] g0 h0 h0 g1 g2⟩
   | list=>exact⟨.n0 .nil,a,⟨⟨trivial,by decide,by decide⟩,rfl⟩,ha,o4 1 [(19,.r (dA [])),(37,.H),(271,.H),(291,.r (Tm.n0 .nil).p)] g0 h0 h0 DN⟩
   | unit=>exact⟨.n0 .unit,a,⟨⟨trivial,by decide,by decide⟩,rfl⟩,ha,o3 1 [(19,.r (dA [])),(37,.H),(337,.r (Tm.n0 .unit).p)] g0 h0 EN⟩
   | two k s u =>
    simp only [Ty.size] at hz2 hg h64 ⊢
    cases k with
    | false =>
     obtain⟨x,b,q1,hb,g1⟩:=VL hL s g (z-1) a (by omega) (by omega) (by omega) ha (by omega);obtain⟨y,c,q2,hc,g2⟩:=VL hL u g (z-1) b (by omega) (by omega) (by omega) hb (by omega);exact⟨.n2 .pair x y,c,⟨⟨⟨q1.sc,q2.sc⟩,by have:=q1.cnt;have:=q2.cnt;simp only [Tm.cnt];omega,by have:=q1.tsz;have:=q2.tsz;simp only [Tm.tsz];omega⟩,XH q1.ty q2.ty (by simp only [Ty.size];omega)⟩,hc,o7 1 [(19,.r (dA [])),(37,.H),(301,.y (z-1)),(302,.D L b (.pv x.p)),(310,.y (z-1)),(311,.D L c (.pv y.p)),(313,.r (Tm.n2 .pair x y).p)] g0 h0 h1 g1 h1 g2 (MD .pair x y)⟩
    | true =>
     obtain⟨x,b,q1,hb,g1⟩:=VL hL u (g++[s]) (z-1) a (by omega) (by omega) (by simp;omega) ha (by omega);have g2:=xD g [s] (by simp;omega);exact⟨.lam s x,b,⟨⟨by have:=q1.sc;simpa [Tm.sc] using this,by have:=q1.cnt;simp only [Tm.cnt];omega,by have:=q1.tsz;simp only [Tm.tsz];omega⟩,kF q1.ty (by simp only [Ty.size];omega)⟩,hb,o6 1 [(19,.r (dA [])),(37,.H),(327,.r (AA (g++[s]))),(333,.y (z-1)),(334,.D L b (.pv x.p)),(336,.r (Tm.lam s x).p)] g0 h0 g2 h1 g1 (XC s x)⟩
  ·cases t with
   | nat =>
    obtain⟨y,b,hy,hb,g1⟩:=nx hL ha0 (n:=3) (by omega) (by omega);have g2:=fH (n:=y) (by omega);exact⟨UA y,b,(CN g hy).mono (by decide) (by decide),hb,o6 1 [(19,.r (dA (i0::r0))),(25,.D L a0 (.pv (num 0))),(37,.H),(218,.H),(266,.D L b (.pv (num y))),(267,.r (UA y).p)] g0 g00 h0 h0 g1 g2⟩
   | list=>exact⟨.n0 .nil,a0,⟨⟨trivial,by decide,by decide⟩,rfl⟩,ha0,o5 1 [(19,.r (dA (i0::r0))),(25,.D L a0 (.pv (num 0))),(37,.H),(271,.H),(291,.r (Tm.n0 .nil).p)] g0 g00 h0 h0 DN⟩
   | unit=>exact⟨.n0 .unit,a0,⟨⟨trivial,by decide,by decide⟩,rfl⟩,ha0,o4 1 [(19,.r (dA (i0::r0))),(25,.D L a0 (.pv (num 0))),(37,.H),(337,.r (Tm.n0 .unit).p)] g0 g00 h0 EN⟩
   | two k s u =>
    simp only [Ty.size] at hz2 hg h64 ⊢
    cases k with
    | false =>
     obtain⟨x,b,q1,hb,g1⟩:=VL hL s g (z-1) a0 (by omega) (by omega) (by omega) ha0 (by omega);obtain⟨y,c,q2,hc,g2⟩:=VL hL u g (z-1) b (by omega) (by omega) (by omega) hb (by omega);exact⟨.n2 .pair x y,c,⟨⟨⟨q1.sc,q2.sc⟩,by have:=q1.cnt;have:=q2.cnt;simp only [Tm.cnt];omega,by have:=q1.tsz;have:=q2.tsz;simp only [Tm.tsz];omega⟩,XH q1.ty q2.ty (by simp only [Ty.size];omega)⟩,hc,o8 1 [(19,.r (dA (i0::r0))),(25,.D L a0 (.pv (num 0))),(37,.H),(301,.y (z-1)),(302,.D L b (.pv x.p)),(310,.y (z-1)),(311,.D L c (.pv y.p)),(313,.r (Tm.n2 .pair x y).p)] g0 g00 h0 h1 g1 h1 g2 (MD .pair x y)⟩
    | true =>
     obtain⟨x,b,q1,hb,g1⟩:=VL hL u (g++[s]) (z-1) a0 (by omega) (by omega) (by simp;omega) ha0 (by omega);have g2:=xD g [s] (by simp;omega);exact⟨.lam s x,b,⟨⟨by have:=q1.sc;simpa [Tm.sc] using this,by have:=q1.cnt;simp only [Tm.cnt];omega,by have:=q1.tsz;simp only [Tm.tsz];omega⟩,kF q1.ty (by simp only [Ty.size];omega)⟩,hb,o7 1 [(19,.r (dA (i0::r0))),(25,.D L a0 (.pv (num 0))),(37,.H),(327,.r (AA (g++[s]))),(333,.y (z-1)),(334,.D L b (.pv x.p)),(336,.r (Tm.lam s x).p)] g0 g00 h0 g2 h1 g1 (XC s x)⟩
def tb (S:Nat):Nat->Nat
 | 0=>4 * S
 | k+1=>3 * tb S k+200
def YP (L:List Int) (S k:Nat):Prop:=∀ (t:Ty) (g:List Ty) (a:Nat),t.size<=S->(∀ s∈g,s.size<=S)->g.length+3 * k+S<=1000000->a<=L.length->∃ (x:Tm) (b:Nat),TT g t (tb S k) S x/\b<=L.length/\xT L g t (num k) a x b
theorem pr {L:List Int} (hL:Dk L) (S:Nat) (hS:S<=20):YP L S 0:=by
 intro t g a ht hg hl ha;obtain⟨x,b,q,hb,h⟩:=VL hL t g 0 a (Int.le_refl _) (by omega) (by omega) ha (by omega);exact⟨x,b,q.mono (by simp only [tb];omega) ht,hb,h⟩
abbrev z5:List PV:=[.int 0,.int 0,.int 0,.nils,.nils]
abbrev HB:Kp:=⟨[0,1,3,6,8,176,177],[0,1,2],3,[0]⟩
abbrev zf (L:List Int) (g:List Ty) (t:Ty) (k a i:Nat):IS:=st [(0,.loc 0 0),(1,.pv (AA g)),(3,.pv (num (k+1))),(6,.loc 1 0),(8,.loc 2 0),(176,.pv (num (g.map Ty.c).length)),(177,.pv (num i))] [(0,dk L a),(1,bx t.c),(2,bx z5)] 3 [0]
abbrev pD (L:List Int) (g:List Ty) (t:Ty) (k a:Nat):IS:=st [(0,.loc 0 0),(1,.pv (AA g)),(3,.pv (num (k+1))),(6,.loc 1 0),(8,.loc 2 0)] [(0,dk L a),(1,bx t.c),(2,bx z5)] 3 [0]
theorem oX {L:List Int} {S k:Nat} (hk:YP L S k) (t:Ty) {g:List Ty} (hg:∀ s∈g,s.size<=S) (hl:g.length+3 * k+S<=1000000) {a:Nat} (ha:a<=L.length):∀ (r i:Nat),i+r=g.length ->
  Lp 9 0 1 (zf L g t k a i) (.exit 1) (pD L g t k a) \/ ∃ (x:Tm) (b:Nat),TT g t (tb S k+2) S x/\b<=L.length/\Lp 9 0 1 (zf L g t k a i) .ret (st [(8,.loc 2 0)] [(0,dk L b),(2,bx x.c)] 3 [0])
 | 0,i,h=>by
  have e:uA (.ofNat i) (.ofNat (g.map Ty.c).length)=false:=JA (by simp;omega);exact .inl (x1 [(178,.H)] ⟨[0,1,3,6,8],[0,1,2],3,[0]⟩ e)
 | r+1,i,h=>by
  have hm:=zA;have hb:=kA;have e:uA (.ofNat i) (.ofNat (g.map Ty.c).length)=true:=cA (by simp;omega);obtain⟨s,g1,g2,g3,hs,hv⟩:=sX (g:=g) (k:=i) (by omega) (by omega);have g6:=iA (a:=i) (b:=1) (by omega);have ih:=oX hk t hg hl ha r (i+1) (by omega)
  cases s with
  | nat =>
   rcases ih with ih|⟨x,b,q,hb,ih⟩
   ·exact .inl (n6 [(178,.G),(183,.z ((g.map Ty.c).length-1)),(185,.z (g.length-1-i)),(186,.i Ty.nat.c),(212,.z (i+1))] HB e g1 g2 g3 g6 ih)
   ·exact .inr ⟨x,b,q,hb,n6 [(178,.G),(183,.z ((g.map Ty.c).length-1)),(185,.z (g.length-1-i)),(186,.i Ty.nat.c),(212,.z (i+1))] HB e g1 g2 g3 g6 ih⟩
  | list =>
   rcases ih with ih|⟨x,b,q,hb,ih⟩
   ·exact .inl (n6 [(178,.G),(183,.z ((g.map Ty.c).length-1)),(185,.z (g.length-1-i)),(186,.i Ty.list.c),(212,.z (i+1))] HB e g1 g2 g3 g6 ih)
   ·exact .inr ⟨x,b,q,hb,n6 [(178,.G),(183,.z ((g.map Ty.c).length-1)),(185,.z (g.length-1-i)),(186,.i Ty.list.c),(212,.z (i+1))] HB e g1 g2 g3 g6 ih⟩
  | unit =>
   rcases ih with ih|⟨x,b,q,hb,ih⟩
   ·exact .inl (n6 [(178,.G),(183,.z ((g.map Ty.c).length-1)),(185,.z (g.length-1-i)),(186,.i Ty.unit.c),(212,.z (i+1))] HB e g1 g2 g3 g6 ih)
   ·exact .inr ⟨x,b,q,hb,n6 [(178,.G),(183,.z ((g.map Ty.c).length-1)),(185,.z (g.length-1-i)),(186,.i Ty.unit.c),(212,.z (i+1))] HB e g1 g2 g3 g6 ih⟩
  | two c u w =>
   have hu:1+u.size+w.size<=S:=hg _ hs
   cases c with
   | false =>
    rcases ih with ih|⟨x,b,q,hb,ih⟩
    ·exact .inl (n6 [(178,.G),(183,.z ((g.map Ty.c).length-1)),(185,.z (g.length-1-i)),(186,.i (Ty.two false u w).c),(212,.z (i+1))] HB e g1 g2 g3 g6 ih)
    ·exact .inr ⟨x,b,q,hb,n6 [(178,.G),(183,.z ((g.map Ty.c).length-1)),(185,.z (g.length-1-i)),(186,.i (Ty.two false u w).c),(212,.z (i+1))] HB e g1 g2 g3 g6 ih⟩
   | true =>
    have g4:=GD w t;cases hs':w.same t<;>rw [hs'] at g4
    ·rcases ih with ih|⟨x,b,q,hb,ih⟩
     ·exact .inl (n7 [(178,.G),(183,.z ((g.map Ty.c).length-1)),(185,.z (g.length-1-i)),(186,.i (Ty.two true u w).c),(197,.F),(212,.z (i+1))] HB e g1 g2 g3 g4 g6 ih)
     ·exact .inr ⟨x,b,q,hb,n7 [(178,.G),(183,.z ((g.map Ty.c).length-1)),(185,.z (g.length-1-i)),(186,.i (Ty.two true u w).c),(197,.F),(212,.z (i+1))] HB e g1 g2 g3 g4 g6 ih⟩
    ·obtain⟨x,b,q,hb,g7⟩:=hk u g a (by omega) hg hl ha;have g8:=uB (a:=k+1) (by omega) (by omega);exact .inr ⟨.n2 .app (.v i) x,b,⟨⟨⟨by show i<g.length;omega,q.sc⟩,by have:=q.cnt;simp only [Tm.cnt];omega,by have:=q.tsz;simp only [Tm.tsz];omega⟩,jD (s:=u) (by show cB g i=_;rw [hv,(HD w t).1 hs']) q.ty⟩,hb,x9 [(178,.G),(183,.z ((g.map Ty.c).length-1)),(185,.z (g.length-1-i)),(186,.i (Ty.two true u w).c),(197,.T),(200,.r (Tm.v i).p),(208,.z k),(209,.D L b (.pv x.p)),(211,.r (Tm.n2 .app (.v i) x).p)] ⟨[8],[0,2],3,[0]⟩ e g1 g2 g3 g4 (tE i) g8 g7 (MD .app (.v i) x)⟩
theorem ND {S:Nat} {g:List Ty} {l:List Ty} (hg:∀ s∈g,s.size<=S) (hl:∀ s∈l,s.size<=S):∀ s∈g++l,s.size<=S:=λ s hs=>by
 rcases List.mem_append.1 hs with h|h
 ·exact hg s h
 ·exact hl s h
theorem AT (n S:Nat) (h:1<=S):TG n 50 S plusT:=⟨by simp [plusT,Tm.sc],by decide,Nat.le_trans (by decide:plusT.tsz<=1) h⟩
theorem CT (n S:Nat) (h:1<=S):TG n 50 S subT:=⟨by simp [subT,predT,Tm.sc],by decide,Nat.le_trans (by decide:subT.tsz<=1) h⟩
theorem ZP (g:List Ty) (s:Ty):(Tm.v 0).tyR (g++[s]) = .ok s:=by show cB _ _=_;unfold cB;simp
theorem xX (g:List Ty) (s u:Ty):(Tm.v 1).tyR (g++[s]++[u]) = .ok s:=by show cB _ _=_;unfold cB;simp
theorem qQ {g:List Ty} {b:Tm} (h:b.tyR (g++[.nat]++[.nat]) = .ok .nat):(Tm.lam .nat (.lam .nat b)).tyR g = .ok (.two true .nat (.two true .nat .nat)):=kF (kF h (by decide)) (by decide)
theorem DT (g:List Ty):plusT.tyR g = .ok (.two true .nat (.two true .nat .nat)):=qQ (XP (xX _ _ _) (qQ (WP (ZP _ _))) (ZP _ _))
theorem rr (g:List Ty):predT.tyR g = .ok (.two true .nat .nat):=kF (XP rfl (qQ (xX _ _ _)) (ZP _ _)) (by decide)
theorem ET (g:List Ty):subT.tyR g = .ok (.two true .nat (.two true .nat .nat)):=qQ (XP (xX _ _ _) (qQ (jD (rr _) (ZP _ _))) (ZP _ _))
theorem sr {L:List Int} (hL:Dk L) {S k:Nat} (hS:3<=S) (hS2:S<=20) (hk:YP L S k):YP L S (k+1):=by
 intro t g a ht hg hl ha;have hm:=zA;have hb:=kA;have gs:=uB (a:=k+1) (by omega) (by omega);have etb:tb S (k+1)=3 * tb S k+200:=rfl;rcases Ye hL (g:=g) (t:=t) (by omega) (num (k+1)) ha with ⟨i,b,hi,hb,h⟩|g0|⟨i0,r0,a0,ha0,g0,g00⟩
 ·exact⟨.v i,b,⟨⟨Ze hi,by simp only [Tm.cnt];omega,Nat.zero_le _⟩,hi⟩,hb,h⟩
 ·obtain⟨w,b,hw,hb1,gw⟩:=nx hL ha (n:=8) (by omega) (by omega);rcases w with _|_|_|_|_|_|w
  ·obtain⟨s,c,zs,hc,g1⟩:=zD hL 0 (by omega) hb1;have zs:s.size<=1:=zs;obtain⟨x,d,q1,hd,g2⟩:=hk t (g++[s]) c ht (ND hg (by simp;omega)) (by simp;omega) hc;obtain⟨y,e,q2,he,g3⟩:=hk s g d (by omega) hg (by omega) hd;have g4:=xD g [s] (by simp;omega);exact⟨.n2 .app (.lam s x) y,e,⟨⟨⟨by have:=q1.sc;simpa [Tm.sc] using this,q2.sc⟩,by have:=q1.cnt;have:=q2.cnt;simp only [Tm.cnt];omega,by have:=q1.tsz;have:=q2.tsz;simp only [Tm.tsz,Ty.size];omega⟩,jD (kF q1.ty (by simp only [Ty.size];omega)) q2.ty⟩,he,zC 1 [(19,.r (dA [])),(39,.D L b (.pv (num 0))),(43,.D L c (.pv s.p)),(49,.r (AA (g++[s]))),(52,.z k),(53,.D L d (.pv x.p)),(55,.r (Tm.lam s x).p),(60,.z k),(61,.D L e (.pv y.p)),(63,.r (Tm.n2 .app (.lam s x) y).p)] g0 gw g1 g4 gs g2 (XC s x) gs g3 (MD .app (.lam s x) y)⟩
  ·obtain⟨s,c,zs,hc,g1⟩:=zD hL 0 (by omega) hb1;have zs:s.size<=1:=zs;obtain⟨x,d,q1,hd,g2⟩:=hk t g c ht hg (by omega) hc;obtain⟨y,e,q2,he,g3⟩:=hk s g d (by omega) hg (by omega) hd;exact⟨.n1 .fst (.n2 .pair x y),e,⟨⟨⟨q1.sc,q2.sc⟩,by have:=q1.cnt;have:=q2.cnt;simp only [Tm.cnt];omega,by have:=q1.tsz;have:=q2.tsz;simp only [Tm.tsz,Ty.size];omega⟩,Ve (XH q1.ty q2.ty (by simp only [Ty.size];omega))⟩,he,o9 1 [(19,.r (dA [])),(39,.D L b (.pv (num 1))),(67,.D L c (.pv s.p)),(72,.z k),(73,.D L d (.pv x.p)),(78,.z k),(79,.D L e (.pv y.p)),(81,.r (Tm.n2 .pair x y).p),(83,.r (Tm.n1 .fst (.n2 .pair x y)).p)] g0 gw g1 gs g2 gs g3 (MD .pair x y) (EK .fst (.n2 .pair x y))⟩
  ·obtain⟨x,c,q1,hc,g1⟩:=hk t (g++[.nat,t]) b ht (ND hg (by simp [Ty.size];omega)) (by simp;omega) hb1;obtain⟨y,d,q2,hd,g2⟩:=hk t g c ht hg (by omega) hc;obtain⟨v,e,hv,he,g3⟩:=nx hL hd (n:=3) (by omega) (by omega);have g4:=xD g [.nat,t] (by simp;omega);have g5:=fH (n:=v) (by omega);have qn:TG g.length 4 0 (UA v):=cX hv;exact⟨.n3 .re t y (.lam .nat (.lam t x)) (UA v),e,⟨⟨⟨q2.sc,by have:=q1.sc;simpa [Tm.sc] using this,qn.sc⟩,by have:=q1.cnt;have:=q2.cnt;have:=qn.cnt;simp only [Tm.cnt];omega,by have:=q1.tsz;have:=q2.tsz;have:=qn.tsz;simp only [Tm.tsz,Ty.size];omega⟩,XP q2.ty (iX q1.ty (by simp only [Ty.size];omega)) (iT g v)⟩,he,Mo 1 [(19,.r (dA [])),(39,.D L b (.pv (num 2))),(86,.Y),(90,.Y),(93,.r (AA (g++[.nat,t]))),(96,.z k),(97,.D L c (.pv x.p)),(99,.r (Tm.lam t x).p),(101,.r (Tm.lam .nat (.lam t x)).p),(107,.z k),(108,.D L d (.pv y.p)),(111,.D L e (.pv (num v))),(112,.r (UA v).p),(114,.r (Tm.n3 .re t y (.lam .nat (.lam t x)) (UA v)).p)] g0 gw oA oA g4 gs g1 (XC t x) (XC .nat (.lam t x)) gs g2 g3 g5 (AL .re t y (.lam .nat (.lam t x)) (UA v))⟩
  ·obtain⟨x,c,q1,hc,g1⟩:=hk t (g++[.nat,.list,t]) b ht (ND hg (by simp [Ty.size];omega)) (by simp;omega) hb1;obtain⟨y,d,q2,hd,g2⟩:=hk t g c ht hg (by omega) hc;obtain⟨v,e,q3,he,g3⟩:=hk .list g d (by simp only [Ty.size];omega) hg (by omega) hd;have g4:=xD g [.nat,.list,t] (by simp;omega);exact⟨.n3 .fo t y (.lam .nat (.lam .list (.lam t x))) v,e,⟨⟨⟨q2.sc,by have:=q1.sc;simpa [Tm.sc] using this,q3.sc⟩,by have:=q1.cnt;have:=q2.cnt;have:=q3.cnt;simp only [Tm.cnt];omega,by have:=q1.tsz;have:=q2.tsz;have:=q3.tsz;simp only [Tm.tsz,Ty.size];omega⟩,Xe q2.ty (Ue q1.ty (by simp only [Ty.size];omega)) q3.ty⟩,he,Te 1 [(19,.r (dA [])),(39,.D L b (.pv (num 3))),(117,.Y),(118,.r Ty.list.p),(122,.Y),(123,.r Ty.list.p),(126,.r (AA (g++[.nat,.list,t]))),(129,.z k),(130,.D L c (.pv x.p)),(132,.r (Tm.lam t x).p),(134,.r (Tm.lam .list (.lam t x)).p),(136,.r (Tm.lam .nat (.lam .list (.lam t x))).p),(142,.z k),(143,.D L d (.pv y.p)),(147,.r Ty.list.p),(149,.z k),(150,.D L e (.pv v.p)),(152,.r (Tm.n3 .fo t y (.lam .nat (.lam .list (.lam t x))) v).p)] g0 gw oA DK oA DK g4 gs g1 (XC t x) (XC .list (.lam t x)) (XC .nat (.lam .list (.lam t x))) gs g2 DK gs g3 (AL .fo t y (.lam .nat (.lam .list (.lam t x))) v)⟩
  ·obtain⟨s,c,zs,hc,g1⟩:=zD hL 0 (by omega) hb1;have zs:s.size<=1:=zs;obtain⟨y,d,q2,hd,g2⟩:=hk s g c (by omega) hg (by omega) hc;obtain⟨x,e,q1,he,g3⟩:=hk t g d ht hg (by omega) hd;exact⟨.n1 .snd (.n2 .pair y x),e,⟨⟨⟨q2.sc,q1.sc⟩,by have:=q1.cnt;have:=q2.cnt;simp only [Tm.cnt];omega,by have:=q1.tsz;have:=q2.tsz;simp only [Tm.tsz,Ty.size];omega⟩,We (XH q2.ty q1.ty (by simp only [Ty.size];omega))⟩,he,o9 1 [(19,.r (dA [])),(39,.D L b (.pv (num 4))),(156,.D L c (.pv s.p)),(161,.z k),(162,.D L d (.pv y.p)),(167,.z k),(168,.D L e (.pv x.p)),(170,.r (Tm.n2 .pair y x).p),(172,.r (Tm.n1 .snd (.n2 .pair y x)).p)] g0 gw g1 gs g2 gs g3 (MD .pair y x) (EK .snd (.n2 .pair y x))⟩
  ·rcases oX hk t hg (by omega) hb1 g.length 0 (by omega) with gl|⟨x,c,q,hc,gl⟩
   ·have gl:=gl
    cases t with
    | unit=>exact⟨.n0 .unit,b,⟨⟨trivial,by simp only [Tm.cnt];omega,Nat.zero_le _⟩,rfl⟩,hb1,o4 1 [(19,.r (dA [])),(39,.D L b (.pv (num 5))),(100023,.l HB (.exit 1) (pD L g .unit k b)),(337,.r (Tm.n0 .unit).p)] g0 gw gl EN⟩
    | nat =>
     obtain⟨m,c,hm1,hc,gm⟩:=nx hL hb1 (n:=5) (by omega) (by omega);obtain⟨x,d,q1,hd,g1⟩:=hk .nat g c ht hg (by omega) hc;obtain⟨y,e,q2,he,g2⟩:=hk .nat g d ht hg (by omega) hd;rcases m with _|_|_|m
     ·exact⟨.n1 .succ x,d,⟨⟨q1.sc,by have:=q1.cnt;simp only [Tm.cnt];omega,by have:=q1.tsz;simp only [Tm.tsz,Ty.size];omega⟩,WP q1.ty⟩,hd,o7 1 [(19,.r (dA [])),(39,.D L b (.pv (num 5))),(100023,.l HB (.exit 1) (pD L g .nat k b)),(220,.D L c (.pv (num 0))),(227,.z k),(228,.D L d (.pv x.p)),(230,.r (Tm.n1 .succ x).p)] g0 gw gl gm gs g1 (EK .succ x)⟩
     ·have qT:=AT g.length S (by omega);exact⟨.n2 .app (.n2 .app plusT x) y,e,⟨⟨⟨⟨qT.sc,q1.sc⟩,q2.sc⟩,by have:=q1.cnt;have:=q2.cnt;have:=qT.cnt;simp only [Tm.cnt];omega,by have:=q1.tsz;have:=q2.tsz;have:=qT.tsz;simp only [Tm.tsz,Ty.size];omega⟩,jD (jD (DT g) q1.ty) q2.ty⟩,he,zC 1 [(19,.r (dA [])),(39,.D L b (.pv (num 5))),(100023,.l HB (.exit 1) (pD L g .nat k b)),(220,.D L c (.pv (num 1))),(233,.r plusT.p),(238,.z k),(239,.D L d (.pv x.p)),(244,.z k),(245,.D L e (.pv y.p)),(247,.r (Tm.n2 .app (.n2 .app plusT x) y).p)] g0 gw gl gm wP gs g1 gs g2 (OI plusT x y)⟩
     ·have qT:=CT g.length S (by omega);exact⟨.n2 .app (.n2 .app subT x) y,e,⟨⟨⟨⟨qT.sc,q1.sc⟩,q2.sc⟩,by have:=q1.cnt;have:=q2.cnt;have:=qT.cnt;simp only [Tm.cnt];omega,by have:=q1.tsz;have:=q2.tsz;have:=qT.tsz;simp only [Tm.tsz,Ty.size];omega⟩,jD (jD (ET g) q1.ty) q2.ty⟩,he,zC 1 [(19,.r (dA [])),(39,.D L b (.pv (num 5))),(100023,.l HB (.exit 1) (pD L g .nat k b)),(220,.D L c (.pv (num 2))),(250,.r subT.p),(255,.z k),(256,.D L d (.pv x.p)),(261,.z k),(262,.D L e (.pv y.p)),(264,.r (Tm.n2 .app (.n2 .app subT x) y).p)] g0 gw gl gm uS gs g1 gs g2 (OI subT x y)⟩
     ·obtain⟨v,d,hv,hd,gv⟩:=nx hL hc (n:=3) (by omega) (by omega);have gn:=fH (n:=v) (by omega);exact⟨UA v,d,(CN g hv).mono (by omega) (Nat.zero_le _),hd,o6 1 [(19,.r (dA [])),(39,.D L b (.pv (num 5))),(100023,.l HB (.exit 1) (pD L g .nat k b)),(220,.D L c (.pv (num (m+3)))),(266,.D L d (.pv (num v))),(267,.r (UA v).p)] g0 gw gl gm gv gn⟩
    | list =>
     obtain⟨m,c,hm1,hc,gm⟩:=nx hL hb1 (n:=2) (by omega) (by omega)
     cases m with
     | zero =>
      obtain⟨x,d,q1,hd,g1⟩:=hk .nat g c (by simp only [Ty.size];omega) hg (by omega) hc;obtain⟨y,e,q2,he,g2⟩:=hk .list g d ht hg (by omega) hd;exact⟨.n2 .cons x y,e,⟨⟨⟨q1.sc,q2.sc⟩,by have:=q1.cnt;have:=q2.cnt;simp only [Tm.cnt];omega,by have:=q1.tsz;have:=q2.tsz;simp only [Tm.tsz,Ty.size];omega⟩,oT q1.ty q2.ty⟩,he,zC 1 [(19,.r (dA [])),(39,.D L b (.pv (num 5))),(100023,.l HB (.exit 1) (pD L g .list k b)),(274,.D L c (.pv (num 0))),(279,.Y),(281,.z k),(282,.D L d (.pv x.p)),(287,.z k),(288,.D L e (.pv y.p)),(290,.r (Tm.n2 .cons x y).p)] g0 gw gl gm oA gs g1 gs g2 (MD .cons x y)⟩
     | succ m=>exact⟨.n0 .nil,c,⟨⟨trivial,by simp only [Tm.cnt];omega,Nat.zero_le _⟩,rfl⟩,hc,o5 1 [(19,.r (dA [])),(39,.D L b (.pv (num 5))),(100023,.l HB (.exit 1) (pD L g .list k b)),(274,.D L c (.pv (num (m+1)))),(291,.r (Tm.n0 .nil).p)] g0 gw gl gm DN⟩
    | two j s u =>
     have ht:1+s.size+u.size<=S:=ht
     cases j with
     | false =>
      obtain⟨x,d,q1,hd,g1⟩:=hk s g b (by omega) hg (by omega) hb1;obtain⟨y,e,q2,he,g2⟩:=hk u g d (by omega) hg (by omega) hd;exact⟨.n2 .pair x y,e,⟨⟨⟨q1.sc,q2.sc⟩,by have:=q1.cnt;have:=q2.cnt;simp only [Tm.cnt];omega,by have:=q1.tsz;have:=q2.tsz;simp only [Tm.tsz,Ty.size];omega⟩,XH q1.ty q2.ty (by simp only [Ty.size];omega)⟩,he,o8 1 [(19,.r (dA [])),(39,.D L b (.pv (num 5))),(100023,.l HB (.exit 1) (pD L g (.two false s u) k b)),(301,.z k),(302,.D L d (.pv x.p)),(310,.z k),(311,.D L e (.pv y.p)),(313,.r (Tm.n2 .pair x y).p)] g0 gw gl gs g1 gs g2 (MD .pair x y)⟩
     | true =>
      obtain⟨x,d,q1,hd,g1⟩:=hk u (g++[s]) b (by omega) (ND hg (by simp;omega)) (by simp;omega) hb1;have g2:=xD g [s] (by simp;omega);exact⟨.lam s x,d,⟨⟨(by have:=q1.sc;simpa [Tm.sc] using this),by have:=q1.cnt;simp only [Tm.cnt];omega,by have:=q1.tsz;simp only [Tm.tsz,Ty.size];omega⟩,kF q1.ty (by simp only [Ty.size];omega)⟩,hd,o7 1 [(19,.r (dA [])),(39,.D L b (.pv (num 5))),(100023,.l HB (.exit 1) (pD L g (.two true s u) k b)),(327,.r (AA (g++[s]))),(333,.z k),(334,.D L d (.pv x.p)),(336,.r (Tm.lam s x).p)] g0 gw gl g2 gs g1 (XC s x)⟩
   ·exact⟨x,c,q.mono (by omega) (Nat.le_refl _),hc,o3 1 [(19,.r (dA [])),(39,.D L b (.pv (num 5))),(100023,.l HB .ret (st [(8,.loc 2 0)] [(0,dk L c),(2,bx x.c)] 3 [0]))] g0 gw gl⟩
  ·have hw:=hw
   cases t with
   | unit=>exact⟨.n0 .unit,b,⟨⟨trivial,by simp only [Tm.cnt];omega,Nat.zero_le _⟩,rfl⟩,hb1,o3 1 [(19,.r (dA [])),(39,.D L b (.pv (num (w+6)))),(337,.r (Tm.n0 .unit).p)] g0 gw EN⟩
   | nat =>
    obtain⟨m,c,hm1,hc,gm⟩:=nx hL hb1 (n:=5) (by omega) (by omega);obtain⟨x,d,q1,hd,g1⟩:=hk .nat g c ht hg (by omega) hc;obtain⟨y,e,q2,he,g2⟩:=hk .nat g d ht hg (by omega) hd;rcases m with _|_|_|m
    ·exact⟨.n1 .succ x,d,⟨⟨q1.sc,by have:=q1.cnt;simp only [Tm.cnt];omega,by have:=q1.tsz;simp only [Tm.tsz,Ty.size];omega⟩,WP q1.ty⟩,hd,o6 1 [(19,.r (dA [])),(39,.D L b (.pv (num (w+6)))),(220,.D L c (.pv (num 0))),(227,.z k),(228,.D L d (.pv x.p)),(230,.r (Tm.n1 .succ x).p)] g0 gw gm gs g1 (EK .succ x)⟩
    ·have qT:=AT g.length S (by omega);exact⟨.n2 .app (.n2 .app plusT x) y,e,⟨⟨⟨⟨qT.sc,q1.sc⟩,q2.sc⟩,by have:=q1.cnt;have:=q2.cnt;have:=qT.cnt;simp only [Tm.cnt];omega,by have:=q1.tsz;have:=q2.tsz;have:=qT.tsz;simp only [Tm.tsz,Ty.size];omega⟩,jD (jD (DT g) q1.ty) q2.ty⟩,he,o9 1 [(19,.r (dA [])),(39,.D L b (.pv (num (w+6)))),(220,.D L c (.pv (num 1))),(233,.r plusT.p),(238,.z k),(239,.D L d (.pv x.p)),(244,.z k),(245,.D L e (.pv y.p)),(247,.r (Tm.n2 .app (.n2 .app plusT x) y).p)] g0 gw gm wP gs g1 gs g2 (OI plusT x y)⟩
    ·have qT:=CT g.length S (by omega);exact⟨.n2 .app (.n2 .app subT x) y,e,⟨⟨⟨⟨qT.sc,q1.sc⟩,q2.sc⟩,by have:=q1.cnt;have:=q2.cnt;have:=qT.cnt;simp only [Tm.cnt];omega,by have:=q1.tsz;have:=q2.tsz;have:=qT.tsz;simp only [Tm.tsz,Ty.size];omega⟩,jD (jD (ET g) q1.ty) q2.ty⟩,he,o9 1 [(19,.r (dA [])),(39,.D L b (.pv (num (w+6)))),(220,.D L c (.pv (num 2))),(250,.r subT.p),(255,.z k),(256,.D L d (.pv x.p)),(261,.z k),(262,.D L e (.pv y.p)),(264,.r (Tm.n2 .app (.n2 .app subT x) y).p)] g0 gw gm uS gs g1 gs g2 (OI subT x y)⟩
    ·obtain⟨v,d,hv,hd,gv⟩:=nx hL hc (n:=3) (by omega) (by omega);have gn:=fH (n:=v) (by omega);exact⟨UA v,d,(CN g hv).mono (by omega) (Nat.zero_le _),hd,o5 1 [(19,.r (dA [])),(39,.D L b (.pv (num (w+6)))),(220,.D L c (.pv (num (m+3)))),(266,.D L d (.pv (num v))),(267,.r (UA v).p)] g0 gw gm gv gn⟩
   | list =>
    obtain⟨m,c,hm1,hc,gm⟩:=nx hL hb1 (n:=2) (by omega) (by omega)
    cases m with
    | zero =>
     obtain⟨x,d,q1,hd,g1⟩:=hk .nat g c (by simp only [Ty.size];omega) hg (by omega) hc;obtain⟨y,e,q2,he,g2⟩:=hk .list g d ht hg (by omega) hd;exact⟨.n2 .cons x y,e,⟨⟨⟨q1.sc,q2.sc⟩,by have:=q1.cnt;have:=q2.cnt;simp only [Tm.cnt];omega,by have:=q1.tsz;have:=q2.tsz;simp only [Tm.tsz,Ty.size];omega⟩,oT q1.ty q2.ty⟩,he,o9 1 [(19,.r (dA [])),(39,.D L b (.pv (num (w+6)))),(274,.D L c (.pv (num 0))),(279,.Y),(281,.z k),(282,.D L d (.pv x.p)),(287,.z k),(288,.D L e (.pv y.p)),(290,.r (Tm.n2 .cons x y).p)] g0 gw gm oA gs g1 gs g2 (MD .cons x y)⟩
    | succ m=>exact⟨.n0 .nil,c,⟨⟨trivial,by simp only [Tm.cnt];omega,Nat.zero_le _⟩,rfl⟩,hc,o4 1 [(19,.r (dA [])),(39,.D L b (.pv (num (w+6)))),(274,.D L c (.pv (num (m+1)))),(291,.r (Tm.n0 .nil).p)] g0 gw gm DN⟩
   | two j s u =>
    have ht:1+s.size+u.size<=S:=ht
    cases j with
    | false =>
     obtain⟨x,d,q1,hd,g1⟩:=hk s g b (by omega) hg (by omega) hb1;obtain⟨y,e,q2,he,g2⟩:=hk u g d (by omega) hg (by omega) hd;exact⟨.n2 .pair x y,e,⟨⟨⟨q1.sc,q2.sc⟩,by have:=q1.cnt;have:=q2.cnt;simp only [Tm.cnt];omega,by have:=q1.tsz;have:=q2.tsz;simp only [Tm.tsz,Ty.size];omega⟩,XH q1.ty q2.ty (by simp only [Ty.size];omega)⟩,he,o7 1 [(19,.r (dA [])),(39,.D L b (.pv (num (w+6)))),(301,.z k),(302,.D L d (.pv x.p)),(310,.z k),(311,.D L e (.pv y.p)),(313,.r (Tm.n2 .pair x y).p)] g0 gw gs g1 gs g2 (MD .pair x y)⟩
    | true =>
     obtain⟨x,d,q1,hd,g1⟩:=hk u (g++[s]) b (by omega) (ND hg (by simp;omega)) (by simp;omega) hb1;have g2:=xD g [s] (by simp;omega);exact⟨.lam s x,d,⟨⟨(by have:=q1.sc;simpa [Tm.sc] using this),by have:=q1.cnt;simp only [Tm.cnt];omega,by have:=q1.tsz;simp only [Tm.tsz,Ty.size];omega⟩,kF q1.ty (by simp only [Ty.size];omega)⟩,hd,o6 1 [(19,.r (dA [])),(39,.D L b (.pv (num (w+6)))),(327,.r (AA (g++[s]))),(333,.z k),(334,.D L d (.pv x.p)),(336,.r (Tm.lam s x).p)] g0 gw g2 gs g1 (XC s x)⟩
 ·obtain⟨w,b,hw,hb1,gw⟩:=nx hL ha0 (n:=8) (by omega) (by omega);rcases w with _|_|_|_|_|_|w
  ·obtain⟨s,c,zs,hc,g1⟩:=zD hL 0 (by omega) hb1;have zs:s.size<=1:=zs;obtain⟨x,d,q1,hd,g2⟩:=hk t (g++[s]) c ht (ND hg (by simp;omega)) (by simp;omega) hc;obtain⟨y,e,q2,he,g3⟩:=hk s g d (by omega) hg (by omega) hd;have g4:=xD g [s] (by simp;omega);exact⟨.n2 .app (.lam s x) y,e,⟨⟨⟨by have:=q1.sc;simpa [Tm.sc] using this,q2.sc⟩,by have:=q1.cnt;have:=q2.cnt;simp only [Tm.cnt];omega,by have:=q1.tsz;have:=q2.tsz;simp only [Tm.tsz,Ty.size];omega⟩,jD (kF q1.ty (by simp only [Ty.size];omega)) q2.ty⟩,he,bH 1 [(19,.r (dA (i0::r0))),(25,.D L a0 (.pv (num 0))),(39,.D L b (.pv (num 0))),(43,.D L c (.pv s.p)),(49,.r (AA (g++[s]))),(52,.z k),(53,.D L d (.pv x.p)),(55,.r (Tm.lam s x).p),(60,.z k),(61,.D L e (.pv y.p)),(63,.r (Tm.n2 .app (.lam s x) y).p)] g0 g00 gw g1 g4 gs g2 (XC s x) gs g3 (MD .app (.lam s x) y)⟩
  ·obtain⟨s,c,zs,hc,g1⟩:=zD hL 0 (by omega) hb1;have zs:s.size<=1:=zs;obtain⟨x,d,q1,hd,g2⟩:=hk t g c ht hg (by omega) hc;obtain⟨y,e,q2,he,g3⟩:=hk s g d (by omega) hg (by omega) hd;exact⟨.n1 .fst (.n2 .pair x y),e,⟨⟨⟨q1.sc,q2.sc⟩,by have:=q1.cnt;have:=q2.cnt;simp only [Tm.cnt];omega,by have:=q1.tsz;have:=q2.tsz;simp only [Tm.tsz,Ty.size];omega⟩,Ve (XH q1.ty q2.ty (by simp only [Ty.size];omega))⟩,he,zC 1 [(19,.r (dA (i0::r0))),(25,.D L a0 (.pv (num 0))),(39,.D L b (.pv (num 1))),(67,.D L c (.pv s.p)),(72,.z k),(73,.D L d (.pv x.p)),(78,.z k),(79,.D L e (.pv y.p)),(81,.r (Tm.n2 .pair x y).p),(83,.r (Tm.n1 .fst (.n2 .pair x y)).p)] g0 g00 gw g1 gs g2 gs g3 (MD .pair x y) (EK .fst (.n2 .pair x y))⟩
  ·obtain⟨x,c,q1,hc,g1⟩:=hk t (g++[.nat,t]) b ht (ND hg (by simp [Ty.size];omega)) (by simp;omega) hb1;obtain⟨y,d,q2,hd,g2⟩:=hk t g c ht hg (by omega) hc;obtain⟨v,e,hv,he,g3⟩:=nx hL hd (n:=3) (by omega) (by omega);have g4:=xD g [.nat,t] (by simp;omega);have g5:=fH (n:=v) (by omega);have qn:TG g.length 4 0 (UA v):=cX hv;exact⟨.n3 .re t y (.lam .nat (.lam t x)) (UA v),e,⟨⟨⟨q2.sc,by have:=q1.sc;simpa [Tm.sc] using this,qn.sc⟩,by have:=q1.cnt;have:=q2.cnt;have:=qn.cnt;simp only [Tm.cnt];omega,by have:=q1.tsz;have:=q2.tsz;have:=qn.tsz;simp only [Tm.tsz,Ty.size];omega⟩,XP q2.ty (iX q1.ty (by simp only [Ty.size];omega)) (iT g v)⟩,he,No 1 [(19,.r (dA (i0::r0))),(25,.D L a0 (.pv (num 0))),(39,.D L b (.pv (num 2))),(86,.Y),(90,.Y),(93,.r (AA (g++[.nat,t]))),(96,.z k),(97,.D L c (.pv x.p)),(99,.r (Tm.lam t x).p),(101,.r (Tm.lam .nat (.lam t x)).p),(107,.z k),(108,.D L d (.pv y.p)),(111,.D L e (.pv (num v))),(112,.r (UA v).p),(114,.r (Tm.n3 .re t y (.lam .nat (.lam t x)) (UA v)).p)] g0 g00 gw oA oA g4 gs g1 (XC t x) (XC .nat (.lam t x)) gs g2 g3 g5 (AL .re t y (.lam .nat (.lam t x)) (UA v))⟩
  ·obtain⟨x,c,q1,hc,g1⟩:=hk t (g++[.nat,.list,t]) b ht (ND hg (by simp [Ty.size];omega)) (by simp;omega) hb1;obtain⟨y,d,q2,hd,g2⟩:=hk t g c ht hg (by omega) hc;obtain⟨v,e,q3,he,g3⟩:=hk .list g d (by simp only [Ty.size];omega) hg (by omega) hd;have g4:=xD g [.nat,.list,t] (by simp;omega);exact⟨.n3 .fo t y (.lam .nat (.lam .list (.lam t x))) v,e,⟨⟨⟨q2.sc,by have:=q1.sc;simpa [Tm.sc] using this,q3.sc⟩,by have:=q1.cnt;have:=q2.cnt;have:=q3.cnt;simp only [Tm.cnt];omega,by have:=q1.tsz;have:=q2.tsz;have:=q3.tsz;simp only [Tm.tsz,Ty.size];omega⟩,Xe q2.ty (Ue q1.ty (by simp only [Ty.size];omega)) q3.ty⟩,he,gr 1 [(19,.r (dA (i0::r0))),(25,.D L a0 (.pv (num 0))),(39,.D L b (.pv (num 3))),(117,.Y),(118,.r Ty.list.p),(122,.Y),(123,.r Ty.list.p),(126,.r (AA (g++[.nat,.list,t]))),(129,.z k),(130,.D L c (.pv x.p)),(132,.r (Tm.lam t x).p),(134,.r (Tm.lam .list (.lam t x)).p),(136,.r (Tm.lam .nat (.lam .list (.lam t x))).p),(142,.z k),(143,.D L d (.pv y.p)),(147,.r Ty.list.p),(149,.z k),(150,.D L e (.pv v.p)),(152,.r (Tm.n3 .fo t y (.lam .nat (.lam .list (.lam t x))) v).p)] g0 g00 gw oA DK oA DK g4 gs g1 (XC t x) (XC .list (.lam t x)) (XC .nat (.lam .list (.lam t x))) gs g2 DK gs g3 (AL .fo t y (.lam .nat (.lam .list (.lam t x))) v)⟩
  ·obtain⟨s,c,zs,hc,g1⟩:=zD hL 0 (by omega) hb1;have zs:s.size<=1:=zs;obtain⟨y,d,q2,hd,g2⟩:=hk s g c (by omega) hg (by omega) hc;obtain⟨x,e,q1,he,g3⟩:=hk t g d ht hg (by omega) hd;exact⟨.n1 .snd (.n2 .pair y x),e,⟨⟨⟨q2.sc,q1.sc⟩,by have:=q1.cnt;have:=q2.cnt;simp only [Tm.cnt];omega,by have:=q1.tsz;have:=q2.tsz;simp only [Tm.tsz,Ty.size];omega⟩,We (XH q2.ty q1.ty (by simp only [Ty.size];omega))⟩,he,zC 1 [(19,.r (dA (i0::r0))),(25,.D L a0 (.pv (num 0))),(39,.D L b (.pv (num 4))),(156,.D L c (.pv s.p)),(161,.z k),(162,.D L d (.pv y.p)),(167,.z k),(168,.D L e (.pv x.p)),(170,.r (Tm.n2 .pair y x).p),(172,.r (Tm.n1 .snd (.n2 .pair y x)).p)] g0 g00 gw g1 gs g2 gs g3 (MD .pair y x) (EK .snd (.n2 .pair y x))⟩
  ·rcases oX hk t hg (by omega) hb1 g.length 0 (by omega) with gl|⟨x,c,q,hc,gl⟩
   ·have gl:=gl
    cases t with
    | unit=>exact⟨.n0 .unit,b,⟨⟨trivial,by simp only [Tm.cnt];omega,Nat.zero_le _⟩,rfl⟩,hb1,o5 1 [(19,.r (dA (i0::r0))),(25,.D L a0 (.pv (num 0))),(39,.D L b (.pv (num 5))),(100023,.l HB (.exit 1) (pD L g .unit k b)),(337,.r (Tm.n0 .unit).p)] g0 g00 gw gl EN⟩
    | nat =>
     obtain⟨m,c,hm1,hc,gm⟩:=nx hL hb1 (n:=5) (by omega) (by omega);obtain⟨x,d,q1,hd,g1⟩:=hk .nat g c ht hg (by omega) hc;obtain⟨y,e,q2,he,g2⟩:=hk .nat g d ht hg (by omega) hd;rcases m with _|_|_|m
     ·exact⟨.n1 .succ x,d,⟨⟨q1.sc,by have:=q1.cnt;simp only [Tm.cnt];omega,by have:=q1.tsz;simp only [Tm.tsz,Ty.size];omega⟩,WP q1.ty⟩,hd,o8 1 [(19,.r (dA (i0::r0))),(25,.D L a0 (.pv (num 0))),(39,.D L b (.pv (num 5))),(100023,.l HB (.exit 1) (pD L g .nat k b)),(220,.D L c (.pv (num 0))),(227,.z k),(228,.D L d (.pv x.p)),(230,.r (Tm.n1 .succ x).p)] g0 g00 gw gl gm gs g1 (EK .succ x)⟩
     ·have qT:=AT g.length S (by omega);exact⟨.n2 .app (.n2 .app plusT x) y,e,⟨⟨⟨⟨qT.sc,q1.sc⟩,q2.sc⟩,by have:=q1.cnt;have:=q2.cnt;have:=qT.cnt;simp only [Tm.cnt];omega,by have:=q1.tsz;have:=q2.tsz;have:=qT.tsz;simp only [Tm.tsz,Ty.size];omega⟩,jD (jD (DT g) q1.ty) q2.ty⟩,he,bH 1 [(19,.r (dA (i0::r0))),(25,.D L a0 (.pv (num 0))),(39,.D L b (.pv (num 5))),(100023,.l HB (.exit 1) (pD L g .nat k b)),(220,.D L c (.pv (num 1))),(233,.r plusT.p),(238,.z k),(239,.D L d (.pv x.p)),(244,.z k),(245,.D L e (.pv y.p)),(247,.r (Tm.n2 .app (.n2 .app plusT x) y).p)] g0 g00 gw gl gm wP gs g1 gs g2 (OI plusT x y)⟩
     ·have qT:=CT g.length S (by omega);exact⟨.n2 .app (.n2 .app subT x) y,e,⟨⟨⟨⟨qT.sc,q1.sc⟩,q2.sc⟩,by have:=q1.cnt;have:=q2.cnt;have:=qT.cnt;simp only [Tm.cnt];omega,by have:=q1.tsz;have:=q2.tsz;have:=qT.tsz;simp only [Tm.tsz,Ty.size];omega⟩,jD (jD (ET g) q1.ty) q2.ty⟩,he,bH 1 [(19,.r (dA (i0::r0))),(25,.D L a0 (.pv (num 0))),(39,.D L b (.pv (num 5))),(100023,.l HB (.exit 1) (pD L g .nat k b)),(220,.D L c (.pv (num 2))),(250,.r subT.p),(255,.z k),(256,.D L d (.pv x.p)),(261,.z k),(262,.D L e (.pv y.p)),(264,.r (Tm.n2 .app (.n2 .app subT x) y).p)] g0 g00 gw gl gm uS gs g1 gs g2 (OI subT x y)⟩
     ·obtain⟨v,d,hv,hd,gv⟩:=nx hL hc (n:=3) (by omega) (by omega);have gn:=fH (n:=v) (by omega);exact⟨UA v,d,(CN g hv).mono (by omega) (Nat.zero_le _),hd,o7 1 [(19,.r (dA (i0::r0))),(25,.D L a0 (.pv (num 0))),(39,.D L b (.pv (num 5))),(100023,.l HB (.exit 1) (pD L g .nat k b)),(220,.D L c (.pv (num (m+3)))),(266,.D L d (.pv (num v))),(267,.r (UA v).p)] g0 g00 gw gl gm gv gn⟩
    | list =>
     obtain⟨m,c,hm1,hc,gm⟩:=nx hL hb1 (n:=2) (by omega) (by omega)
     cases m with
     | zero =>
      obtain⟨x,d,q1,hd,g1⟩:=hk .nat g c (by simp only [Ty.size];omega) hg (by omega) hc;obtain⟨y,e,q2,he,g2⟩:=hk .list g d ht hg (by omega) hd;exact⟨.n2 .cons x y,e,⟨⟨⟨q1.sc,q2.sc⟩,by have:=q1.cnt;have:=q2.cnt;simp only [Tm.cnt];omega,by have:=q1.tsz;have:=q2.tsz;simp only [Tm.tsz,Ty.size];omega⟩,oT q1.ty q2.ty⟩,he,bH 1 [(19,.r (dA (i0::r0))),(25,.D L a0 (.pv (num 0))),(39,.D L b (.pv (num 5))),(100023,.l HB (.exit 1) (pD L g .list k b)),(274,.D L c (.pv (num 0))),(279,.Y),(281,.z k),(282,.D L d (.pv x.p)),(287,.z k),(288,.D L e (.pv y.p)),(290,.r (Tm.n2 .cons x y).p)] g0 g00 gw gl gm oA gs g1 gs g2 (MD .cons x y)⟩
     | succ m=>exact⟨.n0 .nil,c,⟨⟨trivial,by simp only [Tm.cnt];omega,Nat.zero_le _⟩,rfl⟩,hc,o6 1 [(19,.r (dA (i0::r0))),(25,.D L a0 (.pv (num 0))),(39,.D L b (.pv (num 5))),(100023,.l HB (.exit 1) (pD L g .list k b)),(274,.D L c (.pv (num (m+1)))),(291,.r (Tm.n0 .nil).p)] g0 g00 gw gl gm DN⟩
    | two j s u =>
     have ht:1+s.size+u.size<=S:=ht
     cases j with
     | false =>
      obtain⟨x,d,q1,hd,g1⟩:=hk s g b (by omega) hg (by omega) hb1;obtain⟨y,e,q2,he,g2⟩:=hk u g d (by omega) hg (by omega) hd;exact⟨.n2 .pair x y,e,⟨⟨⟨q1.sc,q2.sc⟩,by have:=q1.cnt;have:=q2.cnt;simp only [Tm.cnt];omega,by have:=q1.tsz;have:=q2.tsz;simp only [Tm.tsz,Ty.size];omega⟩,XH q1.ty q2.ty (by simp only [Ty.size];omega)⟩,he,o9 1 [(19,.r (dA (i0::r0))),(25,.D L a0 (.pv (num 0))),(39,.D L b (.pv (num 5))),(100023,.l HB (.exit 1) (pD L g (.two false s u) k b)),(301,.z k),(302,.D L d (.pv x.p)),(310,.z k),(311,.D L e (.pv y.p)),(313,.r (Tm.n2 .pair x y).p)] g0 g00 gw gl gs g1 gs g2 (MD .pair x y)⟩
     | true =>
      obtain⟨x,d,q1,hd,g1⟩:=hk u (g++[s]) b (by omega) (ND hg (by simp;omega)) (by simp;omega) hb1;have g2:=xD g [s] (by simp;omega);exact⟨.lam s x,d,⟨⟨(by have:=q1.sc;simpa [Tm.sc] using this),by have:=q1.cnt;simp only [Tm.cnt];omega,by have:=q1.tsz;simp only [Tm.tsz,Ty.size];omega⟩,kF q1.ty (by simp only [Ty.size];omega)⟩,hd,o8 1 [(19,.r (dA (i0::r0))),(25,.D L a0 (.pv (num 0))),(39,.D L b (.pv (num 5))),(100023,.l HB (.exit 1) (pD L g (.two true s u) k b)),(327,.r (AA (g++[s]))),(333,.z k),(334,.D L d (.pv x.p)),(336,.r (Tm.lam s x).p)] g0 g00 gw gl g2 gs g1 (XC s x)⟩
   ·exact⟨x,c,q.mono (by omega) (Nat.le_refl _),hc,o4 1 [(19,.r (dA (i0::r0))),(25,.D L a0 (.pv (num 0))),(39,.D L b (.pv (num 5))),(100023,.l HB .ret (st [(8,.loc 2 0)] [(0,dk L c),(2,bx x.c)] 3 [0]))] g0 g00 gw gl⟩
  ·have hw:=hw
   cases t with
   | unit=>exact⟨.n0 .unit,b,⟨⟨trivial,by simp only [Tm.cnt];omega,Nat.zero_le _⟩,rfl⟩,hb1,o4 1 [(19,.r (dA (i0::r0))),(25,.D L a0 (.pv (num 0))),(39,.D L b (.pv (num (w+6)))),(337,.r (Tm.n0 .unit).p)] g0 g00 gw EN⟩
   | nat =>
    obtain⟨m,c,hm1,hc,gm⟩:=nx hL hb1 (n:=5) (by omega) (by omega);obtain⟨x,d,q1,hd,g1⟩:=hk .nat g c ht hg (by omega) hc;obtain⟨y,e,q2,he,g2⟩:=hk .nat g d ht hg (by omega) hd;rcases m with _|_|_|m
    ·exact⟨.n1 .succ x,d,⟨⟨q1.sc,by have:=q1.cnt;simp only [Tm.cnt];omega,by have:=q1.tsz;simp only [Tm.tsz,Ty.size];omega⟩,WP q1.ty⟩,hd,o7 1 [(19,.r (dA (i0::r0))),(25,.D L a0 (.pv (num 0))),(39,.D L b (.pv (num (w+6)))),(220,.D L c (.pv (num 0))),(227,.z k),(228,.D L d (.pv x.p)),(230,.r (Tm.n1 .succ x).p)] g0 g00 gw gm gs g1 (EK .succ x)⟩
    ·have qT:=AT g.length S (by omega);exact⟨.n2 .app (.n2 .app plusT x) y,e,⟨⟨⟨⟨qT.sc,q1.sc⟩,q2.sc⟩,by have:=q1.cnt;have:=q2.cnt;have:=qT.cnt;simp only [Tm.cnt];omega,by have:=q1.tsz;have:=q2.tsz;have:=qT.tsz;simp only [Tm.tsz,Ty.size];omega⟩,jD (jD (DT g) q1.ty) q2.ty⟩,he,zC 1 [(19,.r (dA (i0::r0))),(25,.D L a0 (.pv (num 0))),(39,.D L b (.pv (num (w+6)))),(220,.D L c (.pv (num 1))),(233,.r plusT.p),(238,.z k),(239,.D L d (.pv x.p)),(244,.z k),(245,.D L e (.pv y.p)),(247,.r (Tm.n2 .app (.n2 .app plusT x) y).p)] g0 g00 gw gm wP gs g1 gs g2 (OI plusT x y)⟩
    ·have qT:=CT g.length S (by omega);exact⟨.n2 .app (.n2 .app subT x) y,e,⟨⟨⟨⟨qT.sc,q1.sc⟩,q2.sc⟩,by have:=q1.cnt;have:=q2.cnt;have:=qT.cnt;simp only [Tm.cnt];omega,by have:=q1.tsz;have:=q2.tsz;have:=qT.tsz;simp only [Tm.tsz,Ty.size];omega⟩,jD (jD (ET g) q1.ty) q2.ty⟩,he,zC 1 [(19,.r (dA (i0::r0))),(25,.D L a0 (.pv (num 0))),(39,.D L b (.pv (num (w+6)))),(220,.D L c (.pv (num 2))),(250,.r subT.p),(255,.z k),(256,.D L d (.pv x.p)),(261,.z k),(262,.D L e (.pv y.p)),(264,.r (Tm.n2 .app (.n2 .app subT x) y).p)] g0 g00 gw gm uS gs g1 gs g2 (OI subT x y)⟩
    ·obtain⟨v,d,hv,hd,gv⟩:=nx hL hc (n:=3) (by omega) (by omega);have gn:=fH (n:=v) (by omega);exact⟨UA v,d,(CN g hv).mono (by omega) (Nat.zero_le _),hd,o6 1 [(19,.r (dA (i0::r0))),(25,.D L a0 (.pv (num 0))),(39,.D L b (.pv (num (w+6)))),(220,.D L c (.pv (num (m+3)))),(266,.D L d (.pv (num v))),(267,.r (UA v).p)] g0 g00 gw gm gv gn⟩
   | list =>
    obtain⟨m,c,hm1,hc,gm⟩:=nx hL hb1 (n:=2) (by omega) (by omega)
    cases m with
    | zero =>
     obtain⟨x,d,q1,hd,g1⟩:=hk .nat g c (by simp only [Ty.size];omega) hg (by omega) hc;obtain⟨y,e,q2,he,g2⟩:=hk .list g d ht hg (by omega) hd;exact⟨.n2 .cons x y,e,⟨⟨⟨q1.sc,q2.sc⟩,by have:=q1.cnt;have:=q2.cnt;simp only [Tm.cnt];omega,by have:=q1.tsz;have:=q2.tsz;simp only [Tm.tsz,Ty.size];omega⟩,oT q1.ty q2.ty⟩,he,zC 1 [(19,.r (dA (i0::r0))),(25,.D L a0 (.pv (num 0))),(39,.D L b (.pv (num (w+6)))),(274,.D L c (.pv (num 0))),(279,.Y),(281,.z k),(282,.D L d (.pv x.p)),(287,.z k),(288,.D L e (.pv y.p)),(290,.r (Tm.n2 .cons x y).p)] g0 g00 gw gm oA gs g1 gs g2 (MD .cons x y)⟩
    | succ m=>exact⟨.n0 .nil,c,⟨⟨trivial,by simp only [Tm.cnt];omega,Nat.zero_le _⟩,rfl⟩,hc,o5 1 [(19,.r (dA (i0::r0))),(25,.D L a0 (.pv (num 0))),(39,.D L b (.pv (num (w+6)))),(274,.D L c (.pv (num (m+1)))),(291,.r (Tm.n0 .nil).p)] g0 g00 gw gm DN⟩
   | two j s u =>
    have ht:1+s.size+u.size<=S:=ht
    cases j with
    | false =>
     obtain⟨x,d,q1,hd,g1⟩:=hk s g b (by omega) hg (by omega) hb1;obtain⟨y,e,q2,he,g2⟩:=hk u g d (by omega) hg (by omega) hd;exact⟨.n2 .pair x y,e,⟨⟨⟨q1.sc,q2.sc⟩,by have:=q1.cnt;have:=q2.cnt;simp only [Tm.cnt];omega,by have:=q1.tsz;have:=q2.tsz;simp only [Tm.tsz,Ty.size];omega⟩,XH q1.ty q2.ty (by simp only [Ty.size];omega)⟩,he,o8 1 [(19,.r (dA (i0::r0))),(25,.D L a0 (.pv (num 0))),(39,.D L b (.pv (num (w+6)))),(301,.z k),(302,.D L d (.pv x.p)),(310,.z k),(311,.D L e (.pv y.p)),(313,.r (Tm.n2 .pair x y).p)] g0 g00 gw gs g1 gs g2 (MD .pair x y)⟩
    | true =>
     obtain⟨x,d,q1,hd,g1⟩:=hk u (g++[s]) b (by omega) (ND hg (by simp;omega)) (by simp;omega) hb1;have g2:=xD g [s] (by simp;omega);exact⟨.lam s x,d,⟨⟨(by have:=q1.sc;simpa [Tm.sc] using this),by have:=q1.cnt;simp only [Tm.cnt];omega,by have:=q1.tsz;simp only [Tm.tsz,Ty.size];omega⟩,kF q1.ty (by simp only [Ty.size];omega)⟩,hd,o7 1 [(19,.r (dA (i0::r0))),(25,.D L a0 (.pv (num 0))),(39,.D L b (.pv (num (w+6)))),(327,.r (AA (g++[s]))),(333,.z k),(334,.D L d (.pv x.p)),(336,.r (Tm.lam s x).p)] g0 g00 gw g2 gs g1 (XC s x)⟩
theorem AX {L:List Int} (hL:Dk L) {S:Nat} (hS:3<=S) (hS2:S<=20):∀ k,YP L S k
 | 0=>pr hL S hS2
 | k+1=>sr hL hS hS2 (AX hL hS hS2 k)
structure FG (n C S K:Nat) (f:Fm):Prop where
 sc:f.sc n
 cnt:f.cnt<=C
 tsz:f.tsz<=S
 csz:f.csz<=K
def fb:Nat->Nat
 | 0=>1+2 * tb 3 1
 | k+1=>1+2 * fb k
def cb:Nat->Nat
 | 0=>1
 | k+1=>4+2 * cb k
abbrev jf (L:List Int) (g:List Ty) (k a:Nat) (f:Fm) (b:Nat):Prop:=O 55 [.loc 0 0,.pv (AA g),.pv (num k)] [(0,dk L a)] (.pv f.p) [(0,dk L b)]
theorem vf:∀ k,473<=fb (k+1)
 | 0=>by decide
 | k+1=>by have:=vf k;have e:fb (k+1+1)=1+2 * fb (k+1):=rfl;omega
def BB (L:List Int) (k:Nat):Prop:=∀ (g:List Ty) (a:Nat),(∀ s∈g,s.size<=3)->g.length+k<=100000->a<=L.length->∃ (f:Fm) (b:Nat),FG g.length (fb k) 3 (cb k) f/\b<=L.length/\jf L g k a f b
theorem xC {L:List Int} (hL:Dk L) {t:Ty} {g:List Ty} {a:Nat} (ht:t.size<=3) (hg:∀ s∈g,s.size<=3) (hl:g.length<=900000) (ha:a<=L.length):∃ (x:Tm) (b:Nat),TG g.length 236 3 x/\b<=L.length/\xT L g t (num 1) a x b:=by
 obtain⟨x,b,q,hb,h⟩:=AX hL (S:=3) (Nat.le_refl _) (by omega) 1 t g a ht hg (by omega) ha;exact⟨x,b,q.toTG,hb,h⟩
theorem ar {L:List Int} (hL:Dk L):BB L 0:=by
 intro g a hg hl ha;have ef:fb 0=473:=rfl;have ek:cb 0=1:=rfl;obtain⟨x,c,q1,hc,g1⟩:=xC hL (t:=.nat) (g:=g) (by decide) hg (by omega) ha;obtain⟨y,d,q2,hd,g2⟩:=xC hL (t:=.nat) (g:=g) (by decide) hg (by omega) hc;exact⟨.eq x y,d,⟨⟨q1.sc,q2.sc⟩,by have:=q1.cnt;have:=q2.cnt;simp only [Fm.cnt];omega,by have:=q1.tsz;have:=q2.tsz;simp only [Fm.tsz];omega,by simp only [Fm.csz];omega⟩,hd,o4 1 [(88,.Y),(92,.D L c (.pv x.p)),(96,.D L d (.pv y.p)),(97,.r (Fm.eq x y).p)] oA g1 g2 (PE x y)⟩
theorem cr {L:List Int} (hL:Dk L) {k:Nat} (hk:BB L k) (hkl:k<=100):BB L (k+1):=by
 intro g a hg hl ha;have hm:=zA;have hb:=kA;have ef:fb (k+1)=1+2 * fb k:=rfl;have ek:cb (k+1)=4+2 * cb k:=rfl;have e0:473<=fb k:=by cases k with|zero=>exact Nat.le_refl _|succ k=>exact vf _
 have gs:=uB (a:=k+1) (by omega) (by omega);obtain⟨w,b,hw,hb1,gw⟩:=nx hL ha (n:=9) (by omega) (by omega);rcases w with _|_|_|_|_|_|_|w
 ·obtain⟨x,c,q1,hc,g1⟩:=hk g b hg (by omega) hb1;obtain⟨y,d,q2,hd,g2⟩:=hk g c hg (by omega) hc;exact⟨.bin .and x y,d,⟨⟨q1.sc,q2.sc⟩,by have:=q1.cnt;have:=q2.cnt;simp only [Fm.cnt];omega,by have:=q1.tsz;have:=q2.tsz;simp only [Fm.tsz];omega,by have:=q1.csz;have:=q2.csz;simp only [Fm.csz];omega⟩,hd,o6 1 [(14,.D L b (.pv (num 0))),(20,.z k),(21,.D L c (.pv x.p)),(25,.z k),(26,.D L d (.pv y.p)),(27,.r (Fm.bin .and x y).p)] gw gs g1 gs g2 (kP .and x y)⟩
 ·obtain⟨x,c,q1,hc,g1⟩:=hk g b hg (by omega) hb1;obtain⟨y,d,q2,hd,g2⟩:=hk g c hg (by omega) hc;exact⟨.bin .imp x y,d,⟨⟨q1.sc,q2.sc⟩,by have:=q1.cnt;have:=q2.cnt;simp only [Fm.cnt];omega,by have:=q1.tsz;have:=q2.tsz;simp only [Fm.tsz];omega,by have:=q1.csz;have:=q2.csz;simp only [Fm.csz];omega⟩,hd,o6 1 [(14,.D L b (.pv (num 1))),(34,.z k),(35,.D L c (.pv x.p)),(39,.z k),(40,.D L d (.pv y.p)),(41,.r (Fm.bin .imp x y).p)] gw gs g1 gs g2 (kP .imp x y)⟩
 ·obtain⟨x,c,q1,hc,g1⟩:=hk g b hg (by omega) hb1;obtain⟨y,d,q2,hd,g2⟩:=hk g c hg (by omega) hc;exact⟨.bin .imp x y,d,⟨⟨q1.sc,q2.sc⟩,by have:=q1.cnt;have:=q2.cnt;simp only [Fm.cnt];omega,by have:=q1.tsz;have:=q2.tsz;simp only [Fm.tsz];omega,by have:=q1.csz;have:=q2.csz;simp only [Fm.csz];omega⟩,hd,o6 1 [(14,.D L b (.pv (num 2))),(34,.z k),(35,.D L c (.pv x.p)),(39,.z k),(40,.D L d (.pv y.p)),(41,.r (Fm.bin .imp x y).p)] gw gs g1 gs g2 (kP .imp x y)⟩
 ·obtain⟨s,c,zs,hc,g1⟩:=zD hL 1 (by omega) hb1;have zs:s.size<=3:=Nat.le_trans zs (by decide);obtain⟨x,d,q1,hd,g2⟩:=hk (g++[s]) c (ND hg (by simp;omega)) (by simp;omega) hc;have g4:=xD g [s] (by simp;omega);exact⟨.q .all s x,d,⟨by have:=q1.sc;simpa [Fm.sc] using this,by have:=q1.cnt;simp only [Fm.cnt];omega,by have:=q1.tsz;simp only [Fm.tsz];omega,by have:=q1.csz;simp only [Fm.csz];omega⟩,hd,o6 1 [(14,.D L b (.pv (num 3))),(46,.D L c (.pv s.p)),(52,.r (AA (g++[s]))),(54,.z k),(55,.D L d (.pv x.p)),(56,.r (Fm.q .all s x).p)] gw g1 g4 gs g2 (cD .all s x)⟩
 ·obtain⟨s,c,zs,hc,g1⟩:=zD hL 1 (by omega) hb1;have zs:s.size<=3:=Nat.le_trans zs (by decide);obtain⟨x,d,q1,hd,g2⟩:=hk (g++[s]) c (ND hg (by simp;omega)) (by simp;omega) hc;have g4:=xD g [s] (by simp;omega);exact⟨.q .all s x,d,⟨by have:=q1.sc;simpa [Fm.sc] using this,by have:=q1.cnt;simp only [Fm.cnt];omega,by have:=q1.tsz;simp only [Fm.tsz];omega,by have:=q1.csz;simp only [Fm.csz];omega⟩,hd,o6 1 [(14,.D L b (.pv (num 4))),(46,.D L c (.pv s.p)),(52,.r (AA (g++[s]))),(54,.z k),(55,.D L d (.pv x.p)),(56,.r (Fm.q .all s x).p)] gw g1 g4 gs g2 (cD .all s x)⟩
 ·obtain⟨s,c,zs,hc,g1⟩:=zD hL 1 (by omega) hb1;have zs:s.size<=3:=Nat.le_trans zs (by decide);obtain⟨x,d,q1,hd,g2⟩:=hk (g++[s]) c (ND hg (by simp;omega)) (by simp;omega) hc;have g4:=xD g [s] (by simp;omega);exact⟨.q .ex s x,d,⟨by have:=q1.sc;simpa [Fm.sc] using this,by have:=q1.cnt;simp only [Fm.cnt];omega,by have:=q1.tsz;simp only [Fm.tsz];omega,by have:=q1.csz;simp only [Fm.csz];omega⟩,hd,o6 1 [(14,.D L b (.pv (num 5))),(60,.D L c (.pv s.p)),(66,.r (AA (g++[s]))),(68,.z k),(69,.D L d (.pv x.p)),(70,.r (Fm.q .ex s x).p)] gw g1 g4 gs g2 (cD .ex s x)⟩
 ·obtain⟨s,c,zs,hc,g1⟩:=zD hL 0 (by omega) hb1;have zs:s.size<=3:=Nat.le_trans zs (by decide);obtain⟨v,c0,hv,hc0,gv⟩:=nx hL hc (n:=2) (by omega) (by omega);rcases v with _|_|v
  ·obtain⟨x,d,q1,hd,g2⟩:=hk (g++[s]) c0 (ND hg (by simp;omega)) (by simp;omega) hc0;have g4:=xD g [s] (by simp;omega);exact⟨.q .allU s x,d,⟨by have:=q1.sc;simpa [Fm.sc] using this,by have:=q1.cnt;simp only [Fm.cnt];omega,by have:=q1.tsz;simp only [Fm.tsz];omega,by have:=q1.csz;simp only [Fm.csz];omega⟩,hd,o7 1 [(14,.D L b (.pv (num 6))),(74,.D L c (.pv s.p)),(76,.D L c0 (.pv (num 0))),(83,.r (AA (g++[s]))),(85,.z k),(86,.D L d (.pv x.p)),(87,.r (Fm.q .allU s x).p)] gw g1 gv g4 gs g2 (cD .allU s x)⟩
  ·obtain⟨x,d,q1,hd,g2⟩:=hk (g++[s]) c0 (ND hg (by simp;omega)) (by simp;omega) hc0;have g4:=xD g [s] (by simp;omega);exact⟨.q .exU s x,d,⟨by have:=q1.sc;simpa [Fm.sc] using this,by have:=q1.cnt;simp only [Fm.cnt];omega,by have:=q1.tsz;simp only [Fm.tsz];omega,by have:=q1.csz;simp only [Fm.csz];omega⟩,hd,o7 1 [(14,.D L b (.pv (num 6))),(74,.D L c (.pv s.p)),(76,.D L c0 (.pv (num 1))),(83,.r (AA (g++[s]))),(85,.z k),(86,.D L d (.pv x.p)),(87,.r (Fm.q .exU s x).p)] gw g1 gv g4 gs g2 (cD .exU s x)⟩
  ·omega
 ·obtain⟨x,c,q1,hc,g1⟩:=xC hL (t:=.nat) (g:=g) (by decide) hg (by omega) hb1;obtain⟨y,d,q2,hd,g2⟩:=xC hL (t:=.nat) (g:=g) (by decide) hg (by omega) hc;exact⟨.eq x y,d,⟨⟨q1.sc,q2.sc⟩,by have:=q1.cnt;have:=q2.cnt;simp only [Fm.cnt];omega,by have:=q1.tsz;have:=q2.tsz;simp only [Fm.tsz];omega,by simp only [Fm.csz];omega⟩,hd,o5 1 [(14,.D L b (.pv (num (w+7)))),(88,.Y),(92,.D L c (.pv x.p)),(96,.D L d (.pv y.p)),(97,.r (Fm.eq x y).p)] gw oA g1 g2 (PE x y)⟩
theorem vD {L:List Int} (hL:Dk L):∀ k,k<=100->BB L k
 | 0,_=>ar hL
 | k+1,h=>cr hL (vD hL k (by omega)) (by omega)
theorem xr {L:List Int} (hL:Dk L) {g:List Ty} {a:Nat} (hg:∀ s∈g,s.size<=3) (hl:g.length<=1000) (ha:a<=L.length):∃ (f:Fm) (b:Nat),FG g.length 947 3 6 f/\b<=L.length/\jf L g 1 a f b :=
 vD hL 1 (by omega) g a hg (by omega) ha
open Go.Lg
abbrev yf:Kp:=⟨[1,4,5,14,15,16],[1,2,4],5,[]⟩
abbrev FN:List PV:=[.nils,.nils]
theorem bf (G:PV) (t:Ty) {hs:List Fm} (hl:hs.length<=qA):∀ (r:List Fm) (k v:Nat) (A:List (List PV)),hs.drop k=r->A.length=k->(∀ f∈r,f.mx<=qA * qA/\f.cnt<=qA) ->
  ∃ v',Lp 59 0 0 (st [(1,.pv (AA [t])),(4,.loc 1 0),(5,.loc 2 0),(14,.pv (fA hs)),(15,.pv (num (hs.map Fm.c).length)),(16,.pv (num k))] [(1,bx FN),(2,.box [.pv G,.arr 4 v A.length]),(4,.arr v 5 36 (vA A))] 5 []) (.exit 0) (st [(4,.loc 1 0),(5,.loc 2 0)] [(1,bx FN),(2,.box [.pv G,.arr 4 v' (A.length+r.length)]),(4,.arr v' 5 36 (vA (A++r.map λ f=>(f.sh 0 1).c)))] 5 [])
 | [],k,v,A,h,hA,hb=>by
  have e:uA (.ofNat k) (.ofNat (hs.map Fm.c).length)=false:=JA (by simpa using nG h);simp only [List.map_nil,List.append_nil,List.length_nil,Nat.add_zero];exact⟨v,y1 [(17,.H)] ⟨[4,5],[1,2,4],5,[]⟩ e (QC A)⟩
 | f::r,k,v,A,h,hA,hb=>by
  have hm:=zA;obtain⟨d1,d2,d3⟩:=mG h;have e:uA (.ofNat k) (.ofNat (hs.map Fm.c).length)=true:=cA (by simpa using d2);have hf:=hb f (by simp);have g1:=gD f 0 1 (by omega) (by omega) hf.1 (by omega);have g5:=GL (A:=A) (v:=v) (ty:=36) (m:=88) (c:=(f.sh 0 1).c) (show 0<5 by decide) rfl rfl (by simp only [maxLen];omega) (by omega);have g3:=rA (show k+1<=_ by omega);obtain⟨v',ih⟩:=bf G t hl r (k+1) (v+1) (A++[(f.sh 0 1).c]) d3 (by simp [hA]) (λ f hf=>hb f (by simp [hf]));rw [xI,show (A++[(f.sh 0 1).c]).length=A.length+1 by simp,show A.length+1+r.length=A.length+(f::r).length by simp;omega,List.append_assoc] at ih;exact⟨v',n7 [(17,.G),(18,.i f.c),(25,.r (f.sh 0 1).p),(27,.ok),(29,.ok)] yf e (kB d1 Fm.c_len) g1 g5 g3 (DF A (f.sh 0 1).c) ih⟩
abbrev XB (hs:List Fm):List Fm:=hs.map (Fm.sh 0 1)
theorem GN (g:List Ty) (hs:List Fm) (t:Ty) (hg:g.length<=1000000) (hl:hs.length<=qA) (hb:∀ f∈hs,f.mx<=qA * qA/\f.cnt<=qA):A 59 [ZA g hs,AA [t]] (ZA (g++[t]) (XB hs)):=by
 have hm:=zA;have g0:=xD g [t] (by simp;omega)
 cases hs with
 | nil=>exact f1 [(11,.r (AA (g++[t])))] g0
 | cons f r =>
  generalize hG:AA (g++[t])=G at *
  have hf:=hb f (by simp);obtain⟨v,h1⟩:=bf G t (hs:=f::r) hl r 1 1 [(f.sh 0 1).c] rfl rfl (λ x hx=>hb x (by simp [hx]));have em : [(f.sh 0 1).c]++r.map (λ f=>(f.sh 0 1).c)=(XB (f::r)).map Fm.c:=by simp [Function.comp_def]
  rw [em] at h1;have h2:=LoopIs.fz (by simp) h1 4 (ver:=v) (sz:=5) (ty:=36) (ps:=(XB (f::r)).map Fm.c) rfl (by kernel_rfl);rw [show ([(f.sh 0 1).c]:List (List PV)).length+r.length=r.length+1 by simp;omega] at h2;simp (decide:=true) only [rE,FD,cC,ZB,BC,bx,FN,List.map,tD,and_self,↓reduceIte] at h2;rw [List.take_of_length_le (by simp)] at h2;have e:uA (.ofNat 0) (.ofNat ((f::r).map Fm.c).length)=true:=cA (by simp);have h3:Lp 59 0 0 (st [(1,.pv (AA [t])),(4,.loc 1 0),(5,.loc 2 0),(14,.pv (fA (f::r))),(15,.pv (num ((f::r).map Fm.c).length)),(16,.pv (num 0))] [(1,bx FN),(2,bx [G,.nils])] 3 []) (.exit 0) (st [(4,.loc 1 0),(5,.loc 2 0)] [(1,bx FN),(2,bx [G,fA (XB (f::r))])] 5 []) :=
   n6 [(17,.G),(18,.i f.c),(25,.r (f.sh 0 1).p),(29,.ok)] yf e (kB (g:=f::r) (k:=0) rfl Fm.c_len) (gD f 0 1 (by omega) (by omega) hf.1 (by omega)) (rA (show 0+1<=_ by omega)) (DF [] (f.sh 0 1).c) h2
  subst hG;exact f2 [(11,.r (AA (g++[t]))),(100003,.l ⟨[1,4,5,14,15,16],[1,2],3,[]⟩ (.exit 0) (st [(4,.loc 1 0),(5,.loc 2 0)] [(1,bx FN),(2,bx [AA (g++[t]),fA (XB (f::r))])] 5 []))] g0 h3
def Pf.dp:Pf->Nat
 | .leaf _ _=>0
 | .refl _=>0
 | .p1 _ a=>a.dp
 | .p2 k a b=>max a.dp (match k with
  | .andI=>b.dp
  | .impE=>b.dp
  | _=>b.dp+1)
 | .impI _ a=>a.dp
 | .all _ _ a=>a.dp+1
 | .ins _ _ a=>a.dp
 | .ex _ _ _ a=>a.dp
 | .ind l _ _ a b=>max a.dp (b.dp+lN l)
 | .subst _ a b=>max a.dp b.dp
structure PG (C X D:Nat) (p:Pf):Prop where
 cnt:p.cnt<=C
 tsz:p.tsz<=qA
 mx:p.mx<=X
 dp:p.dp<=D
abbrev QA:Nat:=1048576
abbrev YB:Nat:=nA * 16384
theorem SC:YB=137438953472:=rfl
def cp:Nat->Nat
 | 0=>300
 | k+1=>2 * cp k+10000
def cm:Nat->Nat
 | 0=>QA
 | k+1=>2 * cm k+YB+4 * QA
theorem TC:∀ k,QA<=cm k
 | 0=>Nat.le_refl _
 | k+1=>by have:=TC k;have e:cm (k+1)=2 * cm k+YB+4 * QA:=rfl;omega
abbrev FBd (Z:Nat) (f:Fm):Prop:=f.cnt<=4096/\f.tsz<=qA/\f.mx<=Z
structure S19 (Z:Nat) (ls:List Fm) (g:List Ty) (hs:List Fm):Prop where
 ll:ls.length<=2
 lb:∀ f∈ls,FBd Z f
 gl:g.length<=10
 gs:∀ s∈g,s.size<=3
 hl:hs.length<=10
 hb:∀ f∈hs,FBd Z f
 z:QA<=Z
theorem FG.fbd {n C K Z:Nat} {f:Fm} (h:FG n C 3 K f) (hn:n<=1000) (hC:C<=4096) (hZ:QA<=Z):FBd Z f:=by
 have hm:=zA;have h1:=h.cnt;have h2:=h.tsz;have h3:=OH f n h.sc;have e:QA=1048576:=rfl;exact⟨by omega,by omega,by omega⟩
theorem TG.mx {n C S:Nat} {x:Tm} (h:TG n C S x):x.mx<=n+C:=by have:=xE x n h.sc;have:=h.cnt;omega
theorem S19.with {Z Z':Nat} {ls:List Fm} {g:List Ty} {hs:List Fm} {f:Fm} (h:S19 Z ls g hs) (hf:FBd Z' f) (hz:Z<=Z') (hl:hs.length<10):S19 Z' ls g (hs++[f]) :=
 ⟨h.ll,λ x hx=>⟨(h.lb x hx).1,(h.lb x hx).2.1,Nat.le_trans (h.lb x hx).2.2 hz⟩,h.gl,h.gs,by simp;omega,λ x hx=>by
  rcases List.mem_append.1 hx with hx|hx
  ·exact⟨(h.hb x hx).1,(h.hb x hx).2.1,Nat.le_trans (h.hb x hx).2.2 hz⟩
  ·simp at hx;subst hx;exact hf,Nat.le_trans h.z hz⟩
theorem FBd.up {Z:Nat} {f:Fm} (h:FBd Z f):FBd (Z+1) (f.sh 0 1):=by
 have h3:=QE 1 f 0;have e:(1:Int).toNat=1:=rfl;exact⟨by rw [DB];exact h.1,by rw [MB];exact h.2.1,by have:=h.2.2;omega⟩
theorem S19.below {Z:Nat} {ls:List Fm} {g:List Ty} {hs:List Fm} {t:Ty} (h:S19 Z ls g hs) (ht:t.size<=3) (hl:g.length<10):S19 (Z+1) ls (g++[t]) (XB hs) :=
 ⟨h.ll,λ x hx=>⟨(h.lb x hx).1,(h.lb x hx).2.1,Nat.le_succ_of_le (h.lb x hx).2.2⟩,by simp;omega,ND h.gs (by simpa using ht),by simp;exact h.hl,λ x hx=>by
  obtain⟨f,hf,rfl⟩:=List.mem_map.1 hx;exact FBd.up (h.hb f hf),Nat.le_succ_of_le h.z⟩
def gH (t:Tm):Pf:=.ind false (.eq pl0 (.v 0)) t (.refl (UA 0)) stepP
theorem Ar (t:Tm):A 69 [t.p] (gH t).p:=by
 have g1:=wP;have g2:=fH (n:=0) (by omega);have g3:A 32 [plusT.p,row [UA 0,.v 0]] pl0.p:=OI plusT (UA 0) (.v 0);have g4:=PE pl0 (.v 0);have g5:A 26 [num 5,row [.v 0]] (Tm.n1 .succ (.v 0)).p:=RM 5 (.v 0);have g6:A 27 [num 2,Ty.nat.p,row [.n1 .succ (.v 0)]] sucT.p:=XC .nat (.n1 .succ (.v 0));exact f16 [(7,.r plusT.p),(8,.r (UA 0).p),(9,.r (Tm.v 0).p),(11,.r pl0.p),(13,.r (Tm.v 0).p),(14,.r (Fm.eq pl0 (.v 0)).p),(16,.Y),(17,.r (Tm.v 0).p),(19,.r (Tm.n1 .succ (.v 0)).p),(21,.r sucT.p),(23,.r (Tm.v 0).p),(24,.r (Pf.leaf false 0).p),(25,.U [stepP.p,num 0]),(30,.r (UA 0).p),(31,.r (Pf.refl (UA 0)).p),(33,.r (gH t).p)] g1 g2 (tE 0) g3 (tE 0) g4 oA (tE 0) g5 g6 (tE 0) (CF 0) rm g2 (sB (UA 0)) (lW false (.eq pl0 (.v 0)) t (.refl (UA 0)) stepP)
abbrev AD (x:Tm):Pf:=.ex false (.q .ex .nat (.eq (x.sh 0 1) (.v 0))) x (.refl x)
theorem Br {L:List Int} (hL:Dk L) {g:List Ty} {hs:List Fm} {a:Nat} (hg:∀ s∈g,s.size<=3) (hl:g.length<=100) (ha:a<=L.length):∃ (x:Tm) (b:Nat),TG g.length 236 3 x/\b<=L.length/\O 71 [.loc 0 0,.pv (ZA g hs)] [(0,dk L a)] (.pv (AD x).p) [(0,dk L b)]:=by
 have hm:=zA;obtain⟨x,b,q,hb,g1⟩:=xC hL (t:=.nat) (by decide) hg (by omega) ha;have c1:=q.cnt;have c2:=q.mx;have g2:=eT x (by omega) (by rw [hm];omega);exact⟨x,b,q,hb,o8 1 [(7,.Y),(12,.D L b (.pv x.p)),(15,.r (x.sh 0 1).p),(16,.r (Tm.v 0).p),(17,.r (Fm.eq (x.sh 0 1) (.v 0)).p),(18,.r (Fm.q .ex .nat (.eq (x.sh 0 1) (.v 0))).p),(21,.r (Pf.refl x).p),(22,.r (AD x).p)] oA g1 g2 (tE 0) (PE (x.sh 0 1) (.v 0)) (cD .ex .nat (.eq (x.sh 0 1) (.v 0))) (sB x) (oI false (.q .ex .nat (.eq (x.sh 0 1) (.v 0))) x (.refl x))⟩
abbrev wD (L:List Int) (ls:List Fm) (g:List Ty) (hs:List Fm) (k a:Nat) (p:Pf) (b:Nat):Prop:=O 17 [.loc 0 0,.pv (fA ls),.pv (ZA g hs),.pv (num k)] [(0,dk L a)] (.pv p.p) [(0,dk L b)]
def zB (L:List Int) (k:Nat):Prop:=∀ (Z:Nat) (ls:List Fm) (g:List Ty) (hs:List Fm) (a:Nat),S19 Z ls g hs->Z+cm k<=281474976710656->a<=L.length->∃ (p:Pf) (b:Nat),PG (cp k) (Z+cm k) (k+2) p/\b<=L.length/\wD L ls g hs k a p b
def BX (L:List Int) (k:Nat):Prop:=∀ (Z:Nat) (ls:List Fm) (g:List Ty) (hs:List Fm) (a:Nat),S19 Z ls g hs->g.length<10->hs.length<10->Z+cm (k+1)<=281474976710656->a<=L.length->∃ (p:Pf) (b:Nat),PG (cp (k+1)) (Z+cm (k+1)) ((k+1)+2) p/\b<=L.length/\O 66 [.loc 0 0,.pv (fA ls),.pv (ZA g hs),.pv (num (k+1))] [(0,dk L a)] (.pv p.p) [(0,dk L b)]
theorem HN:∀ k,k<=10->cp k<=20000000
 | 0,_=>by decide
 | 1,_=>by decide
 | 2,_=>by decide
 | 3,_=>by decide
 | 4,_=>by decide
 | 5,_=>by decide
 | 6,_=>by decide
 | 7,_=>by decide
 | 8,_=>by decide
 | 9,_=>by decide
 | 10,_=>by decide
 | k+11,h=>absurd h (by omega)
theorem FT (H:MF) {Z k:Nat} {ls:List Fm} {g:List Ty} {hs:List Fm} {p:Pf} (hS:S19 Z ls g hs) (hp:PG (cp k) (Z+cm k) (k+2) p) (hk:k<=10) (hz:Z+cm (k+1)<=281474976710656):∃ r:PR,A 18 [fA ls,ZA g hs,p.p] r.p /\ ∀ f u,r = .ok f u->FBd (Z+cm k+YB) f:=by
 have hm:=zA;have hbg:=kA;have e1:cm (k+1)=2 * cm k+YB+4 * QA:=rfl;have e2:=HN k hk;have h1:=hS.ll;have h2:=hS.gl;have h3:=hS.hl;have hc:nB=1125899902742528:=rfl;have e3:nA=8388608:=rfl;have e4:YB=nA * 16384:=rfl;obtain⟨r,g1,q⟩:=Pe H (X:=Z+cm k) (ls:=ls) (g:=g) (hs:=hs) (p:=p) ⟨λ f hf=>by have:=hS.lb f hf;exact⟨by omega,this.2.1,by omega⟩,λ f hf=>by have:=hS.hb f hf;exact⟨by omega,this.2.1,by omega⟩,λ s hs'=>by have:=hS.gs s hs';omega,by omega,by omega,by omega,by have:=hp.cnt;omega,hp.tsz,hp.mx,by rw [hc];omega⟩;exact⟨r,g1,λ f u e=>by
  obtain⟨_,_,_,k1,_,_⟩:=q f u e;exact⟨k1.1,k1.2.2,k1.2.1⟩⟩
end Go.Proofs.YtnkoaepelgbhfaaGreatDoor
