/- Contracts of functions; no conditions. -/
import Derived.Test.YtmihmecnjjmdgaaGreatDoorAgainC8
import Derived.Test.YtmihmecnjjmdgaaGreatDoorAgainB2
import Derived.Test.YtmihmecnjjmdgaaGreatDoorAgainC7
set_option linter.all false
set_option maxHeartbeats 4000000
namespace Go.Proofs.YtmihmecnjjmdgaaGreatDoor
open Go.Lg
set_option maxRecDepth 100000
def O4:cs (.v 0) (TB Tm.v)=Tm.v:=by
 funext i
 cases i with|zero=>rfl|succ i=>rfl
def P4(x:Fm)(t:Tm):rz (x.sh 0 (.ofNat 1)) Tm.v t=rz x (TB Tm.v) t:=by
 have:=fS x (TB Tm.v) (.v 0) t;rwa[O4]at this
def FQ.rz:FQ->FQ|.allU=>.all|k=>k
def Tb{n:Nat}{s:Ty}{x X:Fm}{t:Tm}(k:FQ)(w:k≠.ex)(l:s.size<=64)(o:FK (n+1) x)(i:TK n t)(p:n+1<=cA)(H:RZ (n+1) x (match k with|.all=>bif x.has then t.ap else t.u1|_=>t.u1) X):
  RZ n (.q k s x) t (.q k.rz s X):=by
 have u:=vA;have:=uA;have:cA=100000:=rfl;have:200000<=qA*qA:=by rw[u];decide
 have:=i.mx (by omega);have h:=i.cnt;have a:=UC t (by omega);have b:=GA (a:=4096) h;have c:=VL t 0 1;have d:=ZN o p;have j:=nl (t:=t);obtain⟨r,g,q⟩:=H;refine⟨.un k.rz s r,?_,ml l q⟩
 cases k with
 |ex=>grind|all=>
  cases e:x.has<;>rw[e]at d g
  ·cases r with|er m=>exact f5 [13,14,65,74,84] a b c d g|ok f=>exact f6 [13,14,65,74,84,100] a b c d g (aS .all s q.1.cnt)
  cases r with|er m=>exact f6 [13,14,65,74,77,84] a b c d j g|ok f=>exact f7 [13,14,65,74,77,84,100] a b c d j g (aS .all s q.1.cnt)
 |allU=>
  cases r with|er m=>exact f4 [13,14,65,84] a b c g|ok f=>exact f5 [13,14,65,84,100] a b c g (aS .all s q.1.cnt)
 |exU=>
  cases r with|er m=>exact f4 [13,14,65,84] a b c g|ok f=>exact f5 [13,14,65,84,100] a b c g (aS .exU s q.1.cnt)
structure TL(n:Nat)(t:Tm):Prop where
 cnt:t.cnt<=8192
 shp:t.shp=true
 sc:t.sc n
def TK.tl{n:Nat}{t:Tm}(h:TK n t):TL n t:=⟨by have:=h.cnt;omega,h.shp,h.sc⟩
def TK.tl1{n:Nat}{t:Tm}(h:TK n t)(k:K1):TL n (.n1 k t):=⟨by have:=h.cnt;show 1+t.cnt<=_;omega,h.shp,h.sc⟩
def TK.tlu{n:Nat}{t:Tm}(h:TK n t):TL (n+1) t.u1:=⟨by have:=h.cnt;rw[sC];omega,by rw[UJ];exact h.shp,SF 1 t 0 n h.sc⟩
def TK.tla{n:Nat}{t:Tm}(h:TK n t):TL (n+1) t.ap:=⟨by have:=h.cnt;show 1+(t.sh 0 (.ofNat 1)).cnt+1<=_;rw[sC];omega,by show(_&&_)=true;rw[h.tlu.shp];rfl,h.tlu.sc,Nat.succ_pos n⟩
def Q4:∀(m n:Nat)(f:Fm)(t:Tm),f.fn<=m->f.cnt<=4097->f.cnt<=4096+f.ne->f.shp=true->f.sc n->f.gx->TL n t->n+m<=cA->RZ n f t (rz f Tm.v t):=by
 intro m
 induction m with
 |zero=>intro n f t h;cases f<;>simp[Fm.fn]at h<;>omega
 |succ m B=>
  intro n f t D E P H c j i hn;have hb:=uA;have hl:cA=100000:=rfl;have Q:=i.cnt;have l:=UC t (by omega);by_cases I:t.cnt<=4096;rotate_left
  ·exact⟨.er 3,f2 [13,14] l (NA (a:=4096) (Nat.lt_of_not_le I)),rfl⟩
  have A:=GA (a:=4096) I;have d:TK n t:=⟨I,i.shp,i.sc⟩
  cases f with
  |eq a b=>
   refine⟨.ok (.eq a b),f2 [13,14] l A,⟨P,H,c⟩,?_⟩;show _=Fm.eq (a.sub Tm.v) (b.sub Tm.v);rw[FC,FC]
  |bin k x y=>
   have D:1+x.fn+y.fn<=m+1:=D;have E:1+x.cnt+y.cnt<=4097:=E;have c1:=JV x;have c2:=JV y;obtain⟨o,p⟩:=DA H;have v:FK n x:=⟨by omega,o,c.1⟩;have L:FK n y:=⟨by omega,p,c.2⟩;have ix:=λu(C:TL n u)=>B n x u (by omega) (by omega) (by omega) o c.1 j.1 C (by omega)
   have F:=λu(C:TL n u)=>B n y u (by omega) (by omega) (by omega) p c.2 j.2 C (by omega)
   have G:=ZN v;have J:=ZN L
   cases k with
   |and=>
    show RZ n _ t (bif x.has&&y.has then _ else _);cases R:x.has<;>rw[R]at G
    ·obtain⟨r,g,q⟩:=cS .and (ix t i) (F t i);exact⟨r,f4 [13,14,26,50] l A G g,q⟩
    cases S:y.has<;>rw[S]at J
    ·obtain⟨r,g,q⟩:=cS .and (ix t i) (F t i);exact⟨r,f5 [13,14,26,32,50] l A G J g,q⟩
    obtain⟨r,g,q⟩:=cS .and (ix _ (d.tl1 .fst)) (F _ (d.tl1 .snd));exact⟨r,f7 [13,14,26,32,35,37,50] l A G J (tW .fst t) (tW .snd t) g,q⟩
   |imp=>
    have up:∀{z:Fm}{u:Tm},z.fn<=m->z.cnt<=4096->z.shp=true->z.sc n->z.gx->TL (n+1) u->RZ (n+1) (z.sh 0 (.ofNat 1)) u (rz z (TB Tm.v) u):=λ{z u}T a2 U V W X=>by
     rw[<-P4];have e:=rS z 0 1;exact B (n+1) (z.sh 0 (.ofNat 1)) u (by rw[e,rW];exact T) (by rw[sD];omega) (by rw[sD];omega) (by rw[lP];exact U) (RI 1 z 0 n V) (by rw[e];exact kJ z _ W) X (by omega)
    obtain⟨r,g,q⟩:=M4 (x:=x) (y:=y) (t:=t) (u:=bif x.has then rz x (TB Tm.v) (.v 0)else rz x Tm.v t) (v:=bif x.has then rz y (TB Tm.v) (bif y.has then t.ap else t.u1)else rz y Tm.v t) v L d (by omega)
     (λe=>by rw[e];exact⟨ix t i,F t i⟩) (λe=>by
      rw[e];refine⟨up (by omega) (by omega) o c.1 j.1 ⟨by simp[Tm.cnt],rfl,Nat.succ_pos n⟩,up (by omega) (by omega) p c.2 j.2 ?_⟩;cases y.has
      ·exact d.tlu
      exact d.tla)
    refine⟨r,f3 [13,14,57] l A g,?_⟩;show r.Gd n (bif x.has then _ else _);cases e:x.has<;>rw[e]at q<;>exact q
  |q k s x=>
   have D:1+x.fn<=m+1:=D;have E:1+x.cnt<=4097:=E;obtain⟨o,p⟩:=DA H;have v:FK (n+1) x:=⟨by omega,p,c⟩;have ix:=λu(C:TL (n+1) u)=>B (n+1) x u (by omega) (by omega) (by omega) p c j.1 C (by omega)
   cases k with
   |all=>
    refine Tb .all (by simp) (aD o) v d (by omega) ?_;show RZ _ _ _ (rz x (rA Tm.v) _);rw[jS];refine ix _ ?_;cases x.has
    ·exact d.tlu
    exact d.tla
   |allU=>
    refine Tb .allU (by simp) (aD o) v d (by omega) ?_;show RZ _ _ _ (rz x (rA Tm.v) _);rw[jS];exact ix _ d.tlu
   |exU=>
    refine Tb .exU (by simp) (aD o) v d (by omega) ?_;show RZ _ _ _ (rz x (rA Tm.v) _);rw[jS];exact ix _ d.tlu
   |ex=>
    obtain⟨r,g,q⟩:=N4 (s:=s) (x:=x) (t:=t) (X:=rz (.q .ex s x) Tm.v t) v d (by omega) (λw u M N wc Y=>by
     have e:=TP x w;have ne:(x.put 0 w 0).ne=x.ne:=by rw[e,VP]
     have K:w.shp=true/\w.sc n/\TL n u:=by
      subst M N;cases x.has
      ·exact⟨d.shp,d.sc,i⟩
      exact⟨d.shp,d.sc,d.tl1 .snd⟩
     have Z:rz (.q .ex s x) Tm.v t=rz (x.put 0 w 0) Tm.v u:=by
      rw[YN,FC];subst M N;show(bif x.has then _ else _)=_;cases x.has<;>rfl
     rw[Z];refine B n _ u (by rw[e,rW];omega) ?_ (by rw[ne];exact Y) (eL 0 w x 0 (.inl K.1) p) (FN w n x 0 c (.inl K.2.1)) (by rw[e];exact kJ x _ j.1) K.2.2 (by omega);rcases j.2 rfl with O|O
     ·have:=PJ 0 w x 0;rw[Nat.add_zero,O]at this;omega
     omega)
    exact⟨r,f3 [13,14,107] l A g,q⟩
def R4{f:Fm}{t:Tm}:rz f Tm.v (bif f.has then t else .n0 .unit)=rz f Tm.v t:=by
 cases e:f.has
 ·grind[yI]
 rfl
def al{n:Nat}{f:Fm}{t:Tm}(a:FK n f)(k:f.gx)(b:TK n t)(p:n<=90000):∃r:FR,A 35 [f.p,t.p] r.p/\r.Gd n (rz f Tm.v t):=by
 have:=vA;have:cA=100000:=rfl;have:=a.cnt;have:=G4 f;have:=a.mx (by omega);have:=b.mx (by omega);have d:=a.a89;have h:=b.a92;have i:=B4 f;have j:=wJ t (by omega);have c:=ZN a;have key:∀u:Tm,TL n u->RZ n f u (rz f Tm.v u):=λu o=>Q4 f.fn n f u (Nat.le_refl _) (by omega) (by omega) a.shp a.sc k o (by omega)
 rw[<-R4];cases e:f.has<;>rw[e]at c
 ·obtain⟨r,g,q⟩:=key (.n0 .unit) ⟨by simp[Tm.cnt],rfl,trivial⟩;exact⟨r,f7 [9,15,21,24,28,30,33] d h i j c JG g,q⟩
 obtain⟨r,g,q⟩:=key t b.tl;exact⟨r,f6 [9,15,21,24,28,33] d h i j c g,q⟩
abbrev pE:PV:=.iface 43 (num 4)
abbrev Po(f:Nat)(args:List V)(objs:List (Nat×Ob)):Prop:=AC Tryz.prog gl f args objs (.panic pE) []
abbrev eS(f:Nat)(args:List V)(objs:List (Nat×Ob))(m rg ds:Nat)(tp:Di):Prop:=VY ev Tryz.prog 100 6 f args objs m rg ds tp pE
abbrev Pn(f:Nat)(args:List PV):Prop:=Po f (args.map .pv) []
def iS{f:Nat}{args:List V}{a:List (Nat×Ob)}(m rg b:Nat)(c:Di){B:Prop}(h:B)(e:B=eS f args a m rg b c):Po f args a:=qU evOK (e▸h)
section
variable{f:Nat}{args:List PV}(rg ds:Nat)(tp:Di){H1 H2 H3 H4 H5 H6 H7 H8 H9 H10 H11 H12 H13 H14 H15 H16 H17 WA VA H20 H21 H22 H23 H24 H25 H26 H27 qD H29 H30:Prop}(h1:H1)(h2:H2)(h3:H3)(h4:H4)(h5:H5)(h6:H6)(h7:H7)(h8:H8)(h9:H9)(h10:H10)(h11:H11)(h12:H12)(h13:H13)(h14:H14)(h15:H15)(h16:H16)(h17:H17)(bB:WA)(nB:VA)(h20:H20)(h21:H21)(h22:H22)(h23:H23)(h24:H24)(h25:H25)(h26:H26)(h27:H27)(SH:qD)(h29:H29)(h30:H30)[Ans H1][Ans H2][Ans H3][Ans H4][Ans H5][Ans H6][Ans H7][Ans H8][Ans H9][Ans H10][Ans H11][Ans H12][Ans H13][Ans H14][Ans H15][Ans H16][Ans H17][Ans WA][Ans VA][Ans H20][Ans H21][Ans H22][Ans H23][Ans H24][Ans H25][Ans H26][Ans H27][Ans qD][Ans H29][Ans H30]
def pk{B:Prop}[AnsL B](h:B)(e:B=eS f (args.map .pv) [] 0 rg ds (fill tp (AnsL.d B))):Pn f args:=qU evOK (e▸h)
def Ub:=@pk f args rg ds tp _ _ (⟨rfl,trivial⟩:V.pv pE=V.pv pE/\True)
def oS:=@pk f args rg ds tp _ _ (⟨h1,trivial⟩:H1/\True)
def Vb:=@pk f args rg ds tp _ _ (⟨h1,h2,trivial⟩:H1/\H2/\True)
def S4:=@pk f args rg ds tp _ _ (⟨h1,h2,h3,trivial⟩:H1/\H2/\H3/\True)
def T4:=@pk f args rg ds tp _ _ (⟨h1,h2,h3,h4,trivial⟩:H1/\H2/\H3/\H4/\True)
def S8:=@pk f args rg ds tp _ _ (⟨h1,h2,h3,h4,h5,trivial⟩:H1/\H2/\H3/\H4/\H5/\True)
def T8:=@pk f args rg ds tp _ _ (⟨h1,h2,h3,h4,h5,h6,trivial⟩:H1/\H2/\H3/\H4/\H5/\H6/\True)
def U8:=@pk f args rg ds tp _ _ (⟨h1,h2,h3,h4,h5,h6,h7,trivial⟩:H1/\H2/\H3/\H4/\H5/\H6/\H7/\True)
def V8:=@pk f args rg ds tp _ _ (⟨h1,h2,h3,h4,h5,h6,h7,h8,trivial⟩:H1/\H2/\H3/\H4/\H5/\H6/\H7/\H8/\True)
def W8:=@pk f args rg ds tp _ _ (⟨h1,h2,h3,h4,h5,h6,h7,h8,h9,trivial⟩:H1/\H2/\H3/\H4/\H5/\H6/\H7/\H8/\H9/\True)
def X8:=@pk f args rg ds tp _ _ (⟨h1,h2,h3,h4,h5,h6,h7,h8,h9,h10,trivial⟩:H1/\H2/\H3/\H4/\H5/\H6/\H7/\H8/\H9/\H10/\True)
def Y8:=@pk f args rg ds tp _ _ (⟨h1,h2,h3,h4,h5,h6,h7,h8,h9,h10,h11,trivial⟩:H1/\H2/\H3/\H4/\H5/\H6/\H7/\H8/\H9/\H10/\H11/\True)
def Z8:=@pk f args rg ds tp _ _ (⟨h1,h2,h3,h4,h5,h6,h7,h8,h9,h10,h11,h12,trivial⟩:H1/\H2/\H3/\H4/\H5/\H6/\H7/\H8/\H9/\H10/\H11/\H12/\True)
def j9:=@pk f args rg ds tp _ _ (⟨h1,h2,h3,h4,h5,h6,h7,h8,h9,h10,h11,h12,h13,trivial⟩:H1/\H2/\H3/\H4/\H5/\H6/\H7/\H8/\H9/\H10/\H11/\H12/\H13/\True)
def v9:=@pk f args rg ds tp _ _ (⟨h1,h2,h3,h4,h5,h6,h7,h8,h9,h10,h11,h12,h13,h14,trivial⟩:H1/\H2/\H3/\H4/\H5/\H6/\H7/\H8/\H9/\H10/\H11/\H12/\H13/\H14/\True)
def k9:=@pk f args rg ds tp _ _ (⟨h1,h2,h3,h4,h5,h6,h7,h8,h9,h10,h11,h12,h13,h14,h15,trivial⟩:H1/\H2/\H3/\H4/\H5/\H6/\H7/\H8/\H9/\H10/\H11/\H12/\H13/\H14/\H15/\True)
def y9:=@pk f args rg ds tp _ _ (⟨h1,h2,h3,h4,h5,h6,h7,h8,h9,h10,h11,h12,h13,h14,h15,h16,trivial⟩:H1/\H2/\H3/\H4/\H5/\H6/\H7/\H8/\H9/\H10/\H11/\H12/\H13/\H14/\H15/\H16/\True)
def u9:=@pk f args rg ds tp _ _ (⟨h1,h2,h3,h4,h5,h6,h7,h8,h9,h10,h11,h12,h13,h14,h15,h16,h17,trivial⟩:H1/\H2/\H3/\H4/\H5/\H6/\H7/\H8/\H9/\H10/\H11/\H12/\H13/\H14/\H15/\H16/\H17/\True)
def d9:=@pk f args rg ds tp _ _ (⟨h1,h2,h3,h4,h5,h6,h7,h8,h9,h10,h11,h12,h13,h14,h15,h16,h17,bB,trivial⟩:H1/\H2/\H3/\H4/\H5/\H6/\H7/\H8/\H9/\H10/\H11/\H12/\H13/\H14/\H15/\H16/\H17/\WA/\True)
def l9:=@pk f args rg ds tp _ _ (⟨h1,h2,h3,h4,h5,h6,h7,h8,h9,h10,h11,h12,h13,h14,h15,h16,h17,bB,nB,trivial⟩:H1/\H2/\H3/\H4/\H5/\H6/\H7/\H8/\H9/\H10/\H11/\H12/\H13/\H14/\H15/\H16/\H17/\WA/\VA/\True)
def m9:=@pk f args rg ds tp _ _ (⟨h1,h2,h3,h4,h5,h6,h7,h8,h9,h10,h11,h12,h13,h14,h15,h16,h17,bB,nB,h20,trivial⟩:H1/\H2/\H3/\H4/\H5/\H6/\H7/\H8/\H9/\H10/\H11/\H12/\H13/\H14/\H15/\H16/\H17/\WA/\VA/\H20/\True)
def p9:=@pk f args rg ds tp _ _ (⟨h1,h2,h3,h4,h5,h6,h7,h8,h9,h10,h11,h12,h13,h14,h15,h16,h17,bB,nB,h20,h21,trivial⟩:H1/\H2/\H3/\H4/\H5/\H6/\H7/\H8/\H9/\H10/\H11/\H12/\H13/\H14/\H15/\H16/\H17/\WA/\VA/\H20/\H21/\True)
def r9:=@pk f args rg ds tp _ _ (⟨h1,h2,h3,h4,h5,h6,h7,h8,h9,h10,h11,h12,h13,h14,h15,h16,h17,bB,nB,h20,h21,h22,trivial⟩:H1/\H2/\H3/\H4/\H5/\H6/\H7/\H8/\H9/\H10/\H11/\H12/\H13/\H14/\H15/\H16/\H17/\WA/\VA/\H20/\H21/\H22/\True)
def c9:=@pk f args rg ds tp _ _ (⟨h1,h2,h3,h4,h5,h6,h7,h8,h9,h10,h11,h12,h13,h14,h15,h16,h17,bB,nB,h20,h21,h22,h23,trivial⟩:H1/\H2/\H3/\H4/\H5/\H6/\H7/\H8/\H9/\H10/\H11/\H12/\H13/\H14/\H15/\H16/\H17/\WA/\VA/\H20/\H21/\H22/\H23/\True)
def i9:=@pk f args rg ds tp _ _ (⟨h1,h2,h3,h4,h5,h6,h7,h8,h9,h10,h11,h12,h13,h14,h15,h16,h17,bB,nB,h20,h21,h22,h23,h24,trivial⟩:H1/\H2/\H3/\H4/\H5/\H6/\H7/\H8/\H9/\H10/\H11/\H12/\H13/\H14/\H15/\H16/\H17/\WA/\VA/\H20/\H21/\H22/\H23/\H24/\True)
def A9:=@pk f args rg ds tp _ _ (⟨h1,h2,h3,h4,h5,h6,h7,h8,h9,h10,h11,h12,h13,h14,h15,h16,h17,bB,nB,h20,h21,h22,h23,h24,h25,trivial⟩:H1/\H2/\H3/\H4/\H5/\H6/\H7/\H8/\H9/\H10/\H11/\H12/\H13/\H14/\H15/\H16/\H17/\WA/\VA/\H20/\H21/\H22/\H23/\H24/\H25/\True)
def B9:=@pk f args rg ds tp _ _ (⟨h1,h2,h3,h4,h5,h6,h7,h8,h9,h10,h11,h12,h13,h14,h15,h16,h17,bB,nB,h20,h21,h22,h23,h24,h25,h26,trivial⟩:H1/\H2/\H3/\H4/\H5/\H6/\H7/\H8/\H9/\H10/\H11/\H12/\H13/\H14/\H15/\H16/\H17/\WA/\VA/\H20/\H21/\H22/\H23/\H24/\H25/\H26/\True)
def C9:=@pk f args rg ds tp _ _ (⟨h1,h2,h3,h4,h5,h6,h7,h8,h9,h10,h11,h12,h13,h14,h15,h16,h17,bB,nB,h20,h21,h22,h23,h24,h25,h26,h27,trivial⟩:H1/\H2/\H3/\H4/\H5/\H6/\H7/\H8/\H9/\H10/\H11/\H12/\H13/\H14/\H15/\H16/\H17/\WA/\VA/\H20/\H21/\H22/\H23/\H24/\H25/\H26/\H27/\True)
def D9:=@pk f args rg ds tp _ _ (⟨h1,h2,h3,h4,h5,h6,h7,h8,h9,h10,h11,h12,h13,h14,h15,h16,h17,bB,nB,h20,h21,h22,h23,h24,h25,h26,h27,SH,trivial⟩:H1/\H2/\H3/\H4/\H5/\H6/\H7/\H8/\H9/\H10/\H11/\H12/\H13/\H14/\H15/\H16/\H17/\WA/\VA/\H20/\H21/\H22/\H23/\H24/\H25/\H26/\H27/\qD/\True)
def E9:=@pk f args rg ds tp _ _ (⟨h1,h2,h3,h4,h5,h6,h7,h8,h9,h10,h11,h12,h13,h14,h15,h16,h17,bB,nB,h20,h21,h22,h23,h24,h25,h26,h27,SH,h29,trivial⟩:H1/\H2/\H3/\H4/\H5/\H6/\H7/\H8/\H9/\H10/\H11/\H12/\H13/\H14/\H15/\H16/\H17/\WA/\VA/\H20/\H21/\H22/\H23/\H24/\H25/\H26/\H27/\qD/\H29/\True)
def F9:=@pk f args rg ds tp _ _ (⟨h1,h2,h3,h4,h5,h6,h7,h8,h9,h10,h11,h12,h13,h14,h15,h16,h17,bB,nB,h20,h21,h22,h23,h24,h25,h26,h27,SH,h29,h30,trivial⟩:H1/\H2/\H3/\H4/\H5/\H6/\H7/\H8/\H9/\H10/\H11/\H12/\H13/\H14/\H15/\H16/\H17/\WA/\VA/\H20/\H21/\H22/\H23/\H24/\H25/\H26/\H27/\qD/\H29/\H30/\True)
end
def LD(t:Tm):A 79 [t.p,num 0] t.p:=f0 []
abbrev FR.b(r:FR):PV:=.agg [num r.k,num r.tk,.slice r.te,.slice r.ts,.slice r.es]
def Wb(f:Fm):A 150 [f.p,num 0] f.p:=f0 []
def ol:Pn 150 [(FR.er 3).b,num 4]:=Ub 2 99999 [] (by kernel_rfl)
def Xb:A 139 [num 0,num 0] (num 0):=f0 []
def xl:Pn 139 [num 0,num 4]:=Ub 2 99999 [] (by kernel_rfl)
section
variable{f:Nat}{args:List PV}{x:PV}(tp:Di){H1 H2 H3 H4 H5 H6 H7 H8 H9 H10 H11 H12 H13 H14 H15 H16 H17 WA VA H20 H21 H22 H23 H24 H25 H26 H27 qD H29:Prop}(h1:H1)(h2:H2)(h3:H3)(h4:H4)(h5:H5)(h6:H6)(h7:H7)(h8:H8)(h9:H9)(h10:H10)(h11:H11)(h12:H12)(h13:H13)(h14:H14)(h15:H15)(h16:H16)(h17:H17)(bB:WA)(nB:VA)(h20:H20)(h21:H21)(h22:H22)(h23:H23)(h24:H24)(h25:H25)(h26:H26)(h27:H27)(SH:qD)(h29:H29)[Ans H1][Ans H2][Ans H3][Ans H4][Ans H5][Ans H6][Ans H7][Ans H8][Ans H9][Ans H10][Ans H11][Ans H12][Ans H13][Ans H14][Ans H15][Ans H16][Ans H17][Ans WA][Ans VA][Ans H20][Ans H21][Ans H22][Ans H23][Ans H24][Ans H25][Ans H26][Ans H27][Ans qD][Ans H29]
def f23:=@fk f args x tp _ _ (⟨h1,h2,h3,h4,h5,h6,h7,h8,h9,h10,h11,h12,h13,h14,h15,h16,h17,bB,nB,h20,h21,h22,h23,rfl⟩:H1/\H2/\H3/\H4/\H5/\H6/\H7/\H8/\H9/\H10/\H11/\H12/\H13/\H14/\H15/\H16/\H17/\WA/\VA/\H20/\H21/\H22/\H23/\x=x)
def G9:=@fk f args x tp _ _ (⟨h1,h2,h3,h4,h5,h6,h7,h8,h9,h10,h11,h12,h13,h14,h15,h16,h17,bB,nB,h20,h21,h22,h23,h24,rfl⟩:H1/\H2/\H3/\H4/\H5/\H6/\H7/\H8/\H9/\H10/\H11/\H12/\H13/\H14/\H15/\H16/\H17/\WA/\VA/\H20/\H21/\H22/\H23/\H24/\x=x)
def I9:=@fk f args x tp _ _ (⟨h1,h2,h3,h4,h5,h6,h7,h8,h9,h10,h11,h12,h13,h14,h15,h16,h17,bB,nB,h20,h21,h22,h23,h24,h25,rfl⟩:H1/\H2/\H3/\H4/\H5/\H6/\H7/\H8/\H9/\H10/\H11/\H12/\H13/\H14/\H15/\H16/\H17/\WA/\VA/\H20/\H21/\H22/\H23/\H24/\H25/\x=x)
def J9:=@fk f args x tp _ _ (⟨h1,h2,h3,h4,h5,h6,h7,h8,h9,h10,h11,h12,h13,h14,h15,h16,h17,bB,nB,h20,h21,h22,h23,h24,h25,h26,rfl⟩:H1/\H2/\H3/\H4/\H5/\H6/\H7/\H8/\H9/\H10/\H11/\H12/\H13/\H14/\H15/\H16/\H17/\WA/\VA/\H20/\H21/\H22/\H23/\H24/\H25/\H26/\x=x)
def K9:=@fk f args x tp _ _ (⟨h1,h2,h3,h4,h5,h6,h7,h8,h9,h10,h11,h12,h13,h14,h15,h16,h17,bB,nB,h20,h21,h22,h23,h24,h25,h26,h27,rfl⟩:H1/\H2/\H3/\H4/\H5/\H6/\H7/\H8/\H9/\H10/\H11/\H12/\H13/\H14/\H15/\H16/\H17/\WA/\VA/\H20/\H21/\H22/\H23/\H24/\H25/\H26/\H27/\x=x)
def L9:=@fk f args x tp _ _ (⟨h1,h2,h3,h4,h5,h6,h7,h8,h9,h10,h11,h12,h13,h14,h15,h16,h17,bB,nB,h20,h21,h22,h23,h24,h25,h26,h27,SH,rfl⟩:H1/\H2/\H3/\H4/\H5/\H6/\H7/\H8/\H9/\H10/\H11/\H12/\H13/\H14/\H15/\H16/\H17/\WA/\VA/\H20/\H21/\H22/\H23/\H24/\H25/\H26/\H27/\qD/\x=x)
def M9:=@fk f args x tp _ _ (⟨h1,h2,h3,h4,h5,h6,h7,h8,h9,h10,h11,h12,h13,h14,h15,h16,h17,bB,nB,h20,h21,h22,h23,h24,h25,h26,h27,SH,h29,rfl⟩:H1/\H2/\H3/\H4/\H5/\H6/\H7/\H8/\H9/\H10/\H11/\H12/\H13/\H14/\H15/\H16/\H17/\WA/\VA/\H20/\H21/\H22/\H23/\H24/\H25/\H26/\H27/\qD/\H29/\x=x)
end
abbrev oN(n:Nat):List (Nat×Ob):=[(3,.box [.fn 147 [.loc 2 0,.loc 3 0]]),(2,bx [num n])]
def AH:∀(p:Pf)(n:Nat),n+p.cnt<=yA->O 147 [.pv p.p,.loc 2 0,.loc 3 0] (oN n) (.pv ut) (oN (n+p.cnt))
 |.leaf u i,n,h=>by
  have h:n+1<=yA:=h;have g:=lA (a:=n) (b:=1);cases u<;>exact o1 4 [11] g
 |.refl t,n,h=>by
  have h:n+(1+t.cnt)<=yA:=h;have c:=lA (a:=n) (b:=1);have d:=UC t (by omega);have e:=lA (a:=n+1) (b:=t.cnt);rw[show n+Pf.cnt (.refl t)=n+1+t.cnt by show n+(1+t.cnt)=_;omega];exact o3 4 [11,21,22] c d e
 |.p1 k a,n,h=>by
  have h:n+(1+a.cnt)<=yA:=h;have c:=lA (a:=n) (b:=1);have d:=AH a (n+1) (by omega);rw[show n+Pf.cnt (.p1 k a)=n+1+a.cnt by show n+(1+a.cnt)=_;omega];cases k<;>exact o2 4 [11,(45,.o [3] [(2,bx [num (n+1+a.cnt)])] (.pv ut))] c d
 |.p2 k a b,n,h=>by
  have h:n+(1+a.cnt+b.cnt)<=yA:=h;have c:=lA (a:=n) (b:=1);have d:=AH a (n+1) (by omega);have e:=AH b (n+1+a.cnt) (by omega);rw[show n+Pf.cnt (.p2 k a b)=n+1+a.cnt+b.cnt by show n+(1+a.cnt+b.cnt)=_;omega];cases k<;>exact o3 4 [11,(45,.o [3] [(2,bx [num (n+1+a.cnt)])] (.pv ut)),(45,.o [3] [(2,bx [num (n+1+a.cnt+b.cnt)])] (.pv ut))] c d e
 |.impI f a,n,h=>by
  have h:n+(1+f.cnt+a.cnt)<=yA:=h;have c:=lA (a:=n) (b:=1);have d:=UG f (by omega);have e:=lA (a:=n+1) (b:=f.cnt);have j:=AH a (n+1+f.cnt) (by omega);rw[show n+Pf.cnt (.impI f a)=n+1+f.cnt+a.cnt by show n+(1+f.cnt+a.cnt)=_;omega];exact o4 4 [11,33,34,(45,.o [3] [(2,bx [num (n+1+f.cnt+a.cnt)])] (.pv ut))] c d e j
 |.all u s a,n,h=>by
  have h:n+(1+a.cnt)<=yA:=h;have c:=lA (a:=n) (b:=1);have d:=AH a (n+1) (by omega);rw[show n+Pf.cnt (.all u s a)=n+1+a.cnt by show n+(1+a.cnt)=_;omega];cases u<;>exact o2 4 [11,(45,.o [3] [(2,bx [num (n+1+a.cnt)])] (.pv ut))] c d
 |.ins u t a,n,h=>by
  have h:n+(1+t.cnt+a.cnt)<=yA:=h;have c:=lA (a:=n) (b:=1);have d:=UC t (by omega);have e:=lA (a:=n+1) (b:=t.cnt);have j:=AH a (n+1+t.cnt) (by omega);rw[show n+Pf.cnt (.ins u t a)=n+1+t.cnt+a.cnt by show n+(1+t.cnt+a.cnt)=_;omega];cases u<;>exact o4 4 [11,21,22,(45,.o [3] [(2,bx [num (n+1+t.cnt+a.cnt)])] (.pv ut))] c d e j
 |.ex u f t a,n,h=>by
  have h:n+(1+t.cnt+f.cnt+a.cnt)<=yA:=h;have c:=lA (a:=n) (b:=1);have d:=UC t (by omega);have e:=lA (a:=n+1) (b:=t.cnt);have j:=UG f (by omega);have m:=lA (a:=n+1+t.cnt) (b:=f.cnt);have o:=AH a (n+1+t.cnt+f.cnt) (by omega);rw[show n+Pf.cnt (.ex u f t a)=n+1+t.cnt+f.cnt+a.cnt by show n+(1+t.cnt+f.cnt+a.cnt)=_;omega];cases u<;>exact o6 4 [11,21,22,33,34,(45,.o [3] [(2,bx [num (n+1+t.cnt+f.cnt+a.cnt)])] (.pv ut))] c d e j m o
 |.ind l f t a b,n,h=>by
  have h:n+(1+t.cnt+f.cnt+a.cnt+b.cnt)<=yA:=h;have c:=lA (a:=n) (b:=1);have d:=UC t (by omega);have e:=lA (a:=n+1) (b:=t.cnt);have j:=UG f (by omega);have m:=lA (a:=n+1+t.cnt) (b:=f.cnt);have o:=AH a (n+1+t.cnt+f.cnt) (by omega);have r:=AH b (n+1+t.cnt+f.cnt+a.cnt) (by omega);rw[show n+Pf.cnt (.ind l f t a b)=n+1+t.cnt+f.cnt+a.cnt+b.cnt by show n+(1+t.cnt+f.cnt+a.cnt+b.cnt)=_;omega];cases l<;>exact o7 4 [11,21,22,33,34,(45,.o [3] [(2,bx [num (n+1+t.cnt+f.cnt+a.cnt)])] (.pv ut)),(45,.o [3] [(2,bx [num (n+1+t.cnt+f.cnt+a.cnt+b.cnt)])] (.pv ut))] c d e j m o r
 |.subst f a b,n,h=>by
  have h:n+(1+f.cnt+a.cnt+b.cnt)<=yA:=h;have c:=lA (a:=n) (b:=1);have d:=UG f (by omega);have e:=lA (a:=n+1) (b:=f.cnt);have j:=AH a (n+1+f.cnt) (by omega);have m:=AH b (n+1+f.cnt+a.cnt) (by omega);rw[show n+Pf.cnt (.subst f a b)=n+1+f.cnt+a.cnt+b.cnt by show n+(1+f.cnt+a.cnt+b.cnt)=_;omega];exact o5 4 [11,33,34,(45,.o [3] [(2,bx [num (n+1+f.cnt+a.cnt)])] (.pv ut)),(45,.o [3] [(2,bx [num (n+1+f.cnt+a.cnt+b.cnt)])] (.pv ut))] c d e j m
def U4{p:Pf}(h:p.cnt<=yA):(p.cnt<=16384/\A 89 [p.p] p.p)\/Pn 89 [p.p]:=by
 have g:=AH p 0 (by omega);rw[Nat.zero_add]at g;by_cases a:p.cnt<=16384
 ·exact .inl ⟨a,f2 [(8,.o [3] [(2,bx [num p.cnt])] (.pv ut)),10] g (GA (a:=16384) a)⟩
 exact .inr (S4 6 99999 [(8,.o [3] [(2,bx [num p.cnt])] (.pv ut)),10] g (NA (a:=16384) (Nat.lt_of_not_le a)) (rfl:V.pv pE=V.pv pE) (by kernel_rfl))
open Go.Lg
def Pf.wk:Pf->Prop|.leaf _ _=>True|.refl t=>t.shp=true|.p1 _ a=>a.wk|.p2 _ a b=>a.wk/\b.wk|.impI f a=>f.shp=true/\a.wk|.all _ s a=>s.size<=64/\a.wk|.ins _ t a=>t.shp=true/\a.wk|.ex _ f t a=>t.shp=true/\f.shp=true/\a.wk|.ind _ f t a b=>t.shp=true/\f.shp=true/\a.wk/\b.wk|.subst f a b=>f.shp=true/\a.wk/\b.wk
abbrev Pf.K(p:Pf):Prop:=p.cnt<=16384/\p.wk
abbrev PO(f:Nat)(args:List PV)(p:Pf):Prop:=(p.K/\A f args p.p)\/Pn f args
instance{l:List (List PV)}{k n:Nat}{c:List PV}:Ans (VB l k=some c/\zC n l=true):=⟨.i c⟩
structure Px where
 t:Di
 B:Prop->Prop
 h:∀{R:Prop},R->B R
def Px.o:Px:=⟨[],λR=>R,λr=>r⟩
def Px.a(P:Px)(k:Nat){H:Prop}[Ans H](g:H):Px:=⟨P.t++[(k,Ans.d H)],λR=>P.B (H/\R),λr=>P.h ⟨g,r⟩⟩
def Px.n(P:Px)(k l:Nat){H:Prop}[Ans H](g:H):Px:=⟨P.t++[(k,.n [(l,Ans.d H)])],λR=>P.B (H/\R),λr=>P.h ⟨g,r⟩⟩
def Px.f{f:Nat}{args:List PV}{x:PV}(P:Px)(e:P.B (x=x)=U f args P.t x):A f args x:=RY evOK (Eq.mp e (P.h rfl))
def Px.z{f:Nat}{args:List PV}(P:Px)(rg a:Nat)(d:Nat×De){H:Prop}(g:H)(e:P.B (H/\True)=eS f (args.map .pv) [] 0 rg a (P.t++[d])):Pn f args:=qU evOK (Eq.mp e (P.h ⟨g,trivial⟩))
def Px.p{f:Nat}{args:List PV}{p:Pf}{C A B:Prop}[Ans B](P:Px)(rg a:Nat)(H:(C/\A)\/B)(k:C->A->PO f args p)(e:P.B (B/\True)=eS f (args.map .pv) [] 0 rg a (P.t++[(a,Ans.d B)]):=by kernel_rfl):PO f args p:=H.elim (λh=>k h.1 h.2) λg=>.inr (P.z rg a _ g e)
def BH{p:Pf}(h:p.cnt<=yA)(a:p.wk):PO 89 [p.p] p:=(U4 h).imp (λh=>⟨⟨h.1,a⟩,h.2⟩) id
def Al(k:P1){a:Pf}(h:a.K):PO 76 [num k.n,.slice [a.c]] (.p1 k a):=by
 have:=uA;rcases BH (p:=.p1 k a) (by show 1+a.cnt<=_;omega) h.2 with ⟨c,g⟩|g
 ·exact .inl ⟨c,f1 [8] g⟩
 exact .inr (oS 1 8 [8] g (by kernel_rfl))
def yJ(k:P2){a b:Pf}(h:a.K)(d:b.K):PO 76 [num k.n,.slice [a.c,b.c]] (.p2 k a b):=by
 have:=uA;rcases BH (p:=.p2 k a b) (by show 1+a.cnt+b.cnt<=_;omega) ⟨h.2,d.2⟩with ⟨c,g⟩|g
 ·exact .inl ⟨c,f1 [8] g⟩
 exact .inr (oS 1 8 [8] g (by kernel_rfl))
def xS{s:Ty}(b:s.size<=64){a:Pf}(h:a.K):PO 81 [s.p,a.p] (.all false s a):=by
 have:=uA;rcases BH (p:=.all false s a) (by show 1+a.cnt<=_;omega) ⟨b,h.2⟩with ⟨c,g⟩|g
 ·exact .inl ⟨c,f1 [9] g⟩
 exact .inr (oS 1 9 [9] g (by kernel_rfl))
def tK{t:Tm}{a:Pf}(d:t.cnt<=8192)(b:t.shp=true)(h:a.K):PO 78 [t.p,a.p] (.ins false t a):=by
 have:=uA;rcases BH (p:=.ins false t a) (by show 1+t.cnt+a.cnt<=_;omega) ⟨b,h.2⟩with ⟨c,g⟩|g
 ·exact .inl ⟨c,f1 [10] g⟩
 exact .inr (oS 1 10 [10] g (by kernel_rfl))
def Bl{x:Fm}{a:Pf}(d:x.cnt<=4096)(b:x.shp=true)(h:a.K):PO 140 [x.p,a.p] (.impI x a):=by
 have:=uA;rcases BH (p:=.impI x a) (by show 1+x.cnt+a.cnt<=_;omega) ⟨b,h.2⟩with ⟨c,g⟩|g
 ·exact .inl ⟨c,f1 [10] g⟩
 exact .inr (oS 1 10 [10] g (by kernel_rfl))
abbrev Cl(f:Nat)(args:List PV)(n:Nat)(x:Fm):Prop:=(FK n x/\A f args x.p)\/Pn f args
section
variable{s:Sc}(hv:qI s.dep s.vs)(hd:s.dep<=90000)(hl:s.vs.length<=90000)
include hv hd hl
theorem V4{f:Fm}{t:Tm}(d:FK s.vs.length f)(h:f.gx)(j:TK s.dep t):Cl 90 [s.p,f.p,t.p] s.dep (rz f (sS s) t):=by
 have:cA=100000:=rfl;obtain⟨r,g,q⟩:=ul hv (by omega) (by omega) d
 cases r with
 |er n=>
  obtain rfl:n=3:=q;exact .inr (Vb 1 12 [9,12] g ol (by kernel_rfl))
 |ok F=>
  obtain⟨k,rfl⟩:=q;have e:rz (f.sub (sS s)) Tm.v t=rz f (sS s) t:=by
   rw[SG];congr 1;funext i;exact FC _
  obtain⟨l,c,a⟩:=al k (kJ f _ h) j hd;rw[e]at a
  cases l with
  |er n=>
   obtain rfl:n=3:=a;exact .inr (T4 1 17 [9,12,14,17] g (Wb (f.sub (sS s))) c ol (by kernel_rfl))
  |ok o=>
   obtain⟨m,rfl⟩:=a;exact .inl ⟨m,f4 [9,12,14,17] g (Wb (f.sub (sS s))) c (Wb (rz f (sS s) t))⟩
end
def aK{n:Nat}{f:Fm}(h:FK n f)(a:n<=cA):A 143 [f.p] (.bool f.has)\/Pn 143 [f.p]:=by
 obtain⟨r,g,c,b,_⟩:=wI h a
 cases r with
 |er m=>
  obtain rfl:m=3:=b m rfl;exact .inr (Vb 2 13 [8,13] g xl (by kernel_rfl))
 |ok w=>exact .inl (f2 [8,13] g Xb)
def X4(s:Sc)(h:s.hyps<=qA):A 145 [s.p] s.skip.p:=f1 [5] (lA (a:=s.hyps) (b:=1) (by have:=vA;have:=uA;omega))
def Y4(s:Sc)(i:Nat){y:Hy}(a:i<s.ks.length)(h:s.ks[s.ks.length-1-i]? =some y)(a:y.pl<s.hyps)(a:s.ks.length<=qA)(a:s.hyps<=qA):A 75 [s.p,num i] (num (s.pl i)):=by
 have:=vA;have:=uA;have e:s.pl i=s.hyps-1-y.pl:=by unfold Sc.pl;rw[h]
 rw[e];have:(s.ks.map Hy.c).length=s.ks.length:=List.length_map ..;have a:=rD (a:=s.hyps) (b:=1) (z:=.ofNat (s.hyps-1)) (by omega) (by omega) (by simp only[Int.ofNat_eq_natCast];omega);have b:=rD (a:=(s.ks.map Hy.c).length) (b:=1) (z:=.ofNat (s.ks.length-1)) (by omega) (by omega) (by simp only[Int.ofNat_eq_natCast];omega);have c:=rD (a:=s.ks.length-1) (b:=i) (z:=.ofNat (s.ks.length-1-i)) (by omega) (by omega) (by simp only[Int.ofNat_eq_natCast];omega);have d:=rD (a:=s.hyps-1) (b:=y.pl) (z:=.ofNat (s.hyps-1-y.pl)) (by omega) (by omega) (by simp only[Int.ofNat_eq_natCast];omega);exact f5 [7,13,15,(16,.i y.c),19] a b c (vB h Hy.c_len) d
def Z4(q:Sx):Pn 79 [.agg q.c,num 4]:=Ub 2 99999 [] (by kernel_rfl)
abbrev XO(f:Nat)(args:List PV)(n:Nat)(t:Tm):Prop:=(∃q:Sx,A f args (XR.er q 3).p)\/(TK n t/\A f args (XR.ok t).p)
def Px.x{f a:Nat}{args b:List PV}{p:Pf}{n:Nat}{t:Tm}(P:Px)(rg k c:Nat)(H:XO a b n t)(l:TK n t->A a b (XR.ok t).p->PO f args p)(e:∀q:Sx,P.B (A a b (XR.er q 3).p/\Pn 79 [.agg q.c,num 4]/\True)=eS f (args.map .pv) [] 0 rg c (P.t++[(k,.r (XR.er q 3).p),(c,.r (num 0))]):=by intro q;kernel_rfl):PO f args p:=H.elim (λ⟨q,g⟩=>.inr (qU evOK (Eq.mp (e q) (P.h ⟨g,Z4 q,trivial⟩)))) λh=>l h.1 h.2
theorem XO.of{f:Nat}{args:List PV}{n:Nat}{t:Tm}(h:∃r:XR,A f args r.p/\r.Gd n t):XO f args n t:=by
 obtain⟨r,g,q⟩:=h
 cases r with
 |er x m=>
  obtain rfl:m=3:=q;exact .inl ⟨x,g⟩
 |ok u=>
  obtain⟨k,rfl⟩:=q;exact .inr ⟨k,g⟩
structure SB(m n:Nat)(s:Sc):Prop where
 ve:qI s.dep s.vs
 vl:s.vs.length=n
 n:n+m<=85000
 d:s.dep+m<=85000
 h:s.hyps+m<=85000
 k:s.ks.length+m<=85000
def SB.le{m m' n:Nat}{s:Sc}(h:SB m n s)(a:m'<=m:=by omega):SB m' n s:=⟨h.ve,h.vl,by have:=h.n;omega,by have:=h.d;omega,by have:=h.h;omega,by have:=h.k;omega⟩
theorem SB.bind{m n:Nat}{s:Sc}(h:SB (m+1) n s):SB m n s.bind:=⟨λe a=>⟨Nat.le_succ_of_le (h.ve e a).1,(h.ve e a).2⟩,h.vl,by have:=h.n;omega,by have:=h.d;show s.dep+1+m<=_;omega,by have:=h.h;show s.hyps+m<=_;omega,by have:=h.k;show s.ks.length+m<=_;omega⟩
theorem SB.var{m n:Nat}{s:Sc}{t:Tm}(h:SB (m+1) n s)(b:TK s.dep t):SB m (n+1) (s.var t):=⟨λe a=>by
  rcases List.mem_append.1 a with a|a
  ·exact h.ve e a
  simp at a;subst a;exact⟨Nat.le_refl _,b⟩,by show(s.vs++_).length=_;simp[h.vl],by have:=h.n;omega,by have:=h.d;show s.dep+m<=_;omega,by have:=h.h;show s.hyps+m<=_;omega,by have:=h.k;show s.ks.length+m<=_;omega⟩
def SB.sv{m n:Nat}{s:Sc}(h:SB (m+2) n s):SB m (n+1) (sv s):=h.bind.var (uC (Nat.succ_pos _))
theorem SB.skip{m n:Nat}{s:Sc}(h:SB (m+1) n s):SB m n s.skip:=⟨h.ve,h.vl,by have:=h.n;omega,by have:=h.d;show s.dep+m<=_;omega,by have:=h.h;show s.hyps+1+m<=_;omega,by have:=h.k;show s.ks.length+m<=_;omega⟩
section
variable{m n:Nat}{s:Sc}(B:SB m n s)
include B
theorem SB.g80:A 82 [s.p] s.bind.p:=SL s (by have:=B.d;have:=vA;omega)
theorem SB.g81(t:Tm):A 83 [s.p,t.p] (s.var t).p:=bK s t (by have:=B.n;have:=B.vl;have:=vA;omega)
theorem SB.g123:A 129 [s.p] s.bare.p:=FV s (by have:=B.k;have:=vA;omega) (by have:=B.h;have:=vA;omega)
theorem SB.g124(t:Tm):A 130 [s.p,t.p] (s.hyp t).p:=FP s t (by have:=B.k;have:=vA;omega) (by have:=B.h;have:=vA;omega)
theorem SB.g139:A 145 [s.p] s.skip.p:=X4 s (by have:=B.h;have:=vA;omega)
theorem SB.real{f:Fm}{t:Tm}(a:FK n f)(b:f.gx)(c:TK s.dep t):Cl 90 [s.p,f.p,t.p] s.dep (rz f (sS s) t):=V4 B.ve (by have:=B.d;omega) (by have:=B.n;have:=B.vl;omega) (B.vl▸a) b c
theorem SB.term{t:Tm}(a:TK n t):XO 84 [s.p,t.p] s.dep (t.ps s.vs s.dep 0):=.of ⟨_,qS s t n B.vl.symm B.ve (by have:=B.d;have:cA=100000:=rfl;omega) (by have:=B.n;have:=B.vl;have:cA=100000:=rfl;omega) a,fK (jI B.ve t 0 a.shp) (vI B.ve t 0 (by rw[B.vl];exact a.sc)) rfl⟩
theorem SB.holds{f:Fm}(a:FK n f):(True/\A 143 [f.p] (.bool f.has))\/Pn 143 [f.p]:=(aK a (by have:=B.n;have:cA=100000:=rfl;omega)).imp (λh=>⟨trivial,h⟩) id
end
def aW(n:Nat):TK n (.n0 .unit):=⟨by simp[Tm.cnt],rfl,trivial⟩
def AS{tl:List Tm}{x:Fm}{j:Jt}{k:List Fm}{n:Nat}{s:Sc}{b:Sc->Jt}(B:SB 2 n s)(c:FK n x)(l:x.gx)(H:∀d:Sc,d=(bif x.has then s.bind.hyp (.v 0)else s.bare)->PO 24 [aA tl,j.ptr k,d.p] (b d).p):
  PO 77 [aA tl,x.p,j.ptr k,s.p] (un x b s).p:=by
 have:cA=100000:=rfl;have bn:=B.n;obtain⟨r,g,o,p,t⟩:=wI c
 cases r with
 |er m=>
  obtain rfl:m=3:=p m rfl;exact .inr (Vb 2 19 [(14,.U [.agg [num 0,.slice []],.bool x.has,num 4]),(19,.N 0)] g xl (by kernel_rfl))
 |ok w=>
 cases e:x.has<;>rw[e]at g
 ·rw[show un x b s=.impI (rz x (sS s) (.n0 .unit)) (b s.bare) by unfold un;rw[e];rfl];let P:=((Px.o.a 14 g).a 19 Xb).a 24 JG;refine P.p 4 25 (B.real c l (aW _)) λa u=>?_
  let P:=(P.a 25 u).a 29 B.g123;refine P.p 4 30 (H s.bare (by rw[e];rfl)) λf v=>?_
  let P:=P.a 30 v;refine P.p 4 31 (Bl a.cnt a.shp f) λh y=>?_
  let P:=P.a 31 y;exact .inl ⟨h,P.f (by kernel_rfl)⟩
 obtain rfl:=t w rfl e;rw[show un x b s=.all false x.cty (.impI (rz x (sS s.bind) (.v 0)) (b (s.bind.hyp (.v 0)))) by unfold un;rw[e];rfl];let P:=(((Px.o.a 14 g).a 19 Xb).a 33 B.g80).a 37 (TA 0);refine P.p 6 38 (B.bind.real c l (uC (Nat.succ_pos _))) λa z=>?_
 let P:=((P.a 38 z).a 42 (TA 0)).a 43 (B.bind.g124 (.v 0));refine P.p 6 44 (H (s.bind.hyp (.v 0)) (by rw[e];rfl)) λf A=>?_
 let P:=P.a 44 A;refine P.p 6 45 (Bl a.cnt a.shp f) λh C=>?_
 let P:=P.a 45 C;refine P.p 6 46 (xS (s:=x.cty) o h) λD i=>?_
 let P:=P.a 46 i;exact .inl ⟨D,P.f (by kernel_rfl)⟩
open Go.Lg
abbrev oM(tl:List Tm)(x:PV)(s:Sc):List (Nat×Ob):=[(0,bx [row tl]),(1,bx [x]),(2,bx [num s.dep,num s.hyps,.slice (s.vs.map ec),.slice (s.ks.map Hy.c)])]
section
variable{tl:List Tm}{hs ha hb:List Fm}{s:Sc}{f:Fm}{a b:Jt}{p q:Pf}
def WP(h:Pn 24 [aA tl,a.ptr ha,s.p]):Po 74 [.pv (num 0),.loc 0 0,.loc 1 0,.loc 2 0] (oM tl (nA p f hs [[a.ptr ha]]) s):=iS 3 1 15 [(15,.N 0)] (⟨h,trivial⟩:_/\True) (by kernel_rfl)
def Dl(h:Pn 24 [aA tl,a.ptr ha,s.p]):Po 74 [.pv (num 0),.loc 0 0,.loc 1 0,.loc 2 0] (oM tl (nA p f hs [[a.ptr ha],[b.ptr hb]]) s):=iS 3 1 15 [(15,.N 0)] (⟨h,trivial⟩:_/\True) (by kernel_rfl)
def El(h:Pn 24 [aA tl,b.ptr hb,s.p]):Po 74 [.pv (num 1),.loc 0 0,.loc 1 0,.loc 2 0] (oM tl (nA p f hs [[a.ptr ha],[b.ptr hb]]) s):=iS 3 1 15 [(15,.N 0)] (⟨h,trivial⟩:_/\True) (by kernel_rfl)
abbrev dB(tl:List Tm)(x:PV)(s:Sc)(p:Pf):Prop:=PO 24 [aA tl,x,s.p] p
def j5{i:Nat}:dB tl (nA (.leaf true i) f hs []) s (.leaf true i):=by
 exact .inl ⟨⟨by simp only[Pf.cnt];omega,trivial⟩,f0 []⟩
def v5{m n i:Nat}{y:Hy}(B:SB m n s)(c:i<s.ks.length)(h:s.ks[s.ks.length-1-i]? =some y)(d:y.pl<s.hyps):dB tl (nA (.leaf false i) f hs []) s (.leaf false (s.pl i)):=
 .inl ⟨⟨by simp only[Pf.cnt];omega,trivial⟩,f1 [(25,.N (s.pl i))] (Y4 s i c h d (by have:=B.k;have:=vA;omega) (by have:=B.h;have:=vA;omega))⟩
def d5(H:dB tl (a.ptr hs) s p):dB tl (nA (.p1 .andL a.p) f hs [[a.ptr hs]]) s (.p1 .andL p):=by
 let P:=Px.o;rcases H with ⟨d,c⟩|c;rotate_left
 ·exact .inr (P.z 11 55 (55,.o [0,1,2] [] (.pv (num 0))) (WP (p:=.p1 .andL a.p) (f:=f) (hs:=hs) c) (by kernel_rfl))
 let P:=P.n 55 15 c;refine P.p 11 57 (Al .andL d) λe g=>?_
 let P:=P.a 57 g;exact .inl ⟨e,P.f (by kernel_rfl)⟩
def m5(H:dB tl (a.ptr hs) s p):dB tl (nA (.p1 .andR a.p) f hs [[a.ptr hs]]) s (.p1 .andR p):=by
 let P:=Px.o;rcases H with ⟨d,c⟩|c;rotate_left
 ·exact .inr (P.z 11 55 (55,.o [0,1,2] [] (.pv (num 0))) (WP (p:=.p1 .andR a.p) (f:=f) (hs:=hs) c) (by kernel_rfl))
 let P:=P.n 55 15 c;refine P.p 11 57 (Al .andR d) λe g=>?_
 let P:=P.a 57 g;exact .inl ⟨e,P.f (by kernel_rfl)⟩
def i5(H:dB tl (a.ptr hs) s p):dB tl (nA (.p1 .choice a.p) f hs [[a.ptr hs]]) s (p):=by
 let P:=Px.o;rcases H with ⟨d,c⟩|c;rotate_left
 ·exact .inr (P.z 40 237 (237,.o [0,1,2] [] (.pv (num 0))) (WP (p:=.p1 .choice a.p) (f:=f) (hs:=hs) c) (by kernel_rfl))
 let P:=P.n 237 15 c;exact .inl ⟨d,P.f (by kernel_rfl)⟩
def A5{x:Fm}{t:Tm}(H:dB tl (a.ptr hs) s p):dB tl (nA (.ex false x t a.p) f hs [[a.ptr hs]]) s (p):=by
 let P:=Px.o;rcases H with ⟨d,c⟩|c;rotate_left
 ·exact .inr (P.z 40 237 (237,.o [0,1,2] [] (.pv (num 0))) (WP (p:=.ex false x t a.p) (f:=f) (hs:=hs) c) (by kernel_rfl))
 let P:=P.n 237 15 c;exact .inl ⟨d,P.f (by kernel_rfl)⟩
def B5(H:dB tl (a.ptr hs) s p)(e:dB tl (b.ptr hs) s q):dB tl (nA (.p2 .andI a.p b.p) f hs [[a.ptr hs],[b.ptr hs]]) s (.p2 .andI p q):=by
 let P:=Px.o;rcases H with ⟨g,c⟩|c;rotate_left
 ·exact .inr (P.z 8 41 (41,.o [0,1,2] [] (.pv (num 0))) (Dl (p:=.p2 .andI a.p b.p) (f:=f) (hs:=hs) (a:=a) (b:=b) (ha:=hs) (hb:=hs) c) (by kernel_rfl))
 let P:=P.n 41 15 c;rcases e with ⟨h,d⟩|d;rotate_left
 ·exact .inr (P.z 8 43 (43,.o [0,1,2] [] (.pv (num 0))) (El (p:=.p2 .andI a.p b.p) (f:=f) (hs:=hs) (a:=a) (b:=b) (ha:=hs) (hb:=hs) d) (by kernel_rfl))
 let P:=P.n 43 15 d;refine P.p 8 45 (yJ .andI g h) λi j=>?_
 let P:=P.a 45 j;exact .inl ⟨i,P.f (by kernel_rfl)⟩
def C5{x:Fm}(H:PO 77 [aA tl,x.p,a.ptr ha,s.p] p):dB tl (nA (.impI x a.p) f hs [[a.ptr ha]]) s (p):=by
 let P:=Px.o;refine P.p 13 75 H λc d=>?_
 let P:=P.a 75 d;exact .inl ⟨c,P.f (by kernel_rfl)⟩
abbrev Jt.ptb(hs:List Fm)(a:Jt)(c:Bool):PV:=.ptr [num a.p.kd,num a.p.ix,num a.p.tk,.slice a.p.te,.slice a.p.ts,.slice a.p.fs,.slice a.p.es,num a.f.kd,num a.f.tk,.slice a.f.te,.slice a.f.ts,.slice a.f.es,dA hs,.bool c,.slice (a.pts hs)]
def ptb{hs:List Fm}{a:Jt}{c:Bool}(e:a.f.has=c):a.ptr hs=a.ptb hs c:=by subst e;rfl
def Fl{c:Bool}(h:Pn 24 [aA tl,a.ptr ha,s.p]):Po 74 [.pv (num 0),.loc 0 0,.loc 1 0,.loc 2 0] (oM tl (nA p f hs [[a.ptr ha],[b.ptb hb c]]) s):=iS 3 1 15 [(15,.N 0)] (⟨h,trivial⟩:_/\True) (by kernel_rfl)
def Gl{c:Bool}(h:Pn 24 [aA tl,b.ptb hb c,s.p]):Po 74 [.pv (num 1),.loc 0 0,.loc 1 0,.loc 2 0] (oM tl (nA p f hs [[a.ptr ha],[b.ptb hb c]]) s):=iS 3 1 15 [(15,.N 0)] (⟨h,trivial⟩:_/\True) (by kernel_rfl)
def D5(H:dB tl (a.ptr hs) s p)(e:dB tl (b.ptb hs false) s q):dB tl (nA (.p2 .impE a.p b.p) f hs [[a.ptr hs],[b.ptb hs false]]) s (.p2 .impE p q):=by
 let P:=Px.o;rcases H with ⟨g,c⟩|c;rotate_left
 ·exact .inr (P.z 15 79 (79,.o [0,1,2] [] (.pv (num 0))) (Fl (p:=.p2 .impE a.p b.p) (f:=f) (hs:=hs) (a:=a) (b:=b) (ha:=hs) (hb:=hs) (c:=false) c) (by kernel_rfl))
 let P:=P.n 79 15 c;rcases e with ⟨h,d⟩|d;rotate_left
 ·exact .inr (P.z 18 105 (105,.o [0,1,2] [] (.pv (num 0))) (Gl (p:=.p2 .impE a.p b.p) (f:=f) (hs:=hs) (a:=a) (b:=b) (ha:=hs) (hb:=hs) (c:=false) d) (by kernel_rfl))
 let P:=P.n 105 15 d;refine P.p 18 107 (yJ .impE g h) λi j=>?_
 let P:=P.a 107 j;exact .inl ⟨i,P.f (by kernel_rfl)⟩
def F5{t:Tm}(H:dB tl (a.ptr hs) s p)(g:dB tl (b.ptb hs true) s q)(h:XO 80 [aA tl,b.ptb hs true,s.p] s.dep t):dB tl (nA (.p2 .impE a.p b.p) f hs [[a.ptr hs],[b.ptb hs true]]) s (.p2 .impE (.ins false t p) q):=by
 let P:=Px.o;rcases H with ⟨i,c⟩|c;rotate_left
 ·exact .inr (P.z 15 79 (79,.o [0,1,2] [] (.pv (num 0))) (Fl (p:=.p2 .impE a.p b.p) (f:=f) (hs:=hs) (a:=a) (b:=b) (ha:=hs) (hb:=hs) (c:=true) c) (by kernel_rfl))
 let P:=P.n 79 15 c;refine P.x 17 97 100 h λe j=>?_
 let P:=(P.a 97 j).a 100 (LD t);refine P.p 17 102 (tK (t:=t) (by have:=e.cnt;omega) e.shp i) λk l=>?_
 let P:=P.a 102 l;rcases g with ⟨m,d⟩|d;rotate_left
 ·exact .inr (P.z 18 105 (105,.o [0,1,2] [] (.pv (num 0))) (Gl (p:=.p2 .impE a.p b.p) (f:=f) (hs:=hs) (a:=a) (b:=b) (ha:=hs) (hb:=hs) (c:=true) d) (by kernel_rfl))
 let P:=P.n 105 15 d;refine P.p 18 107 (yJ .impE k m) λn o=>?_
 let P:=P.a 107 o;exact .inl ⟨n,P.f (by kernel_rfl)⟩
def G5{m n:Nat}{w:Ty}(c:w.size<=64)(B:SB (m+2) n s)(H:dB tl (a.ptr ha) (sv s) p):dB tl (nA (.all false w a.p) f hs [[a.ptr ha]]) s (.all false w p):=by
 let P:=((Px.o.a 124 B.g80).a 125 (TA 0)).a 126 (SB.g81 (SB.bind (m:=m+1) B) (.v 0));refine P.p 21 127 H λd e=>?_
 let P:=P.a 127 e;refine P.p 21 128 (xS c d) λc d=>?_
 let P:=P.a 128 d;exact .inl ⟨c,P.f (by kernel_rfl)⟩
def I5{m n:Nat}{w:Ty}(c:w.size<=64)(B:SB (m+2) n s)(H:dB tl (a.ptr ha) (sv s) p):dB tl (nA (.all true w a.p) f hs [[a.ptr ha]]) s (.all false w p):=by
 let P:=((Px.o.a 124 B.g80).a 125 (TA 0)).a 126 (SB.g81 (SB.bind (m:=m+1) B) (.v 0));refine P.p 21 127 H λd e=>?_
 let P:=P.a 127 e;refine P.p 21 128 (xS c d) λc d=>?_
 let P:=P.a 128 d;exact .inl ⟨c,P.f (by kernel_rfl)⟩
def J5{m n:Nat}{t:Tm}(B:SB m n s)(e:TK n t)(H:dB tl (a.ptr hs) s p):dB tl (nA (.ins false t a.p) f hs [[a.ptr hs]]) s (.ins false (t.ps s.vs s.dep 0) p):=by
 let P:=Px.o;refine P.x 24 140 143 (B.term e) λd g=>?_
 let P:=(P.a 140 g).a 143 (LD (t.ps s.vs s.dep 0));rcases H with ⟨h,c⟩|c;rotate_left
 ·exact .inr (P.z 24 145 (145,.o [0,1,2] [] (.pv (num 0))) (WP (p:=.ins false t a.p) (f:=f) (hs:=hs) c) (by kernel_rfl))
 let P:=P.n 145 15 c;refine P.p 24 146 (tK (t:=t.ps s.vs s.dep 0) (by have:=d.cnt;omega) d.shp h) λi j=>?_
 let P:=P.a 146 j;exact .inl ⟨i,P.f (by kernel_rfl)⟩
def K5{m n:Nat}{t:Tm}(B:SB m n s)(e:TK n t)(H:dB tl (a.ptr hs) s p):dB tl (nA (.ins true t a.p) f hs [[a.ptr hs]]) s (.ins false (t.ps s.vs s.dep 0) p):=by
 let P:=Px.o;refine P.x 24 140 143 (B.term e) λd g=>?_
 let P:=(P.a 140 g).a 143 (LD (t.ps s.vs s.dep 0));rcases H with ⟨h,c⟩|c;rotate_left
 ·exact .inr (P.z 24 145 (145,.o [0,1,2] [] (.pv (num 0))) (WP (p:=.ins true t a.p) (f:=f) (hs:=hs) c) (by kernel_rfl))
 let P:=P.n 145 15 c;refine P.p 24 146 (tK (t:=t.ps s.vs s.dep 0) (by have:=d.cnt;omega) d.shp h) λi j=>?_
 let P:=P.a 146 j;exact .inl ⟨i,P.f (by kernel_rfl)⟩
def L5(H:PO 85 [aA tl,nA (.p2 .exE a.p b.p) f hs [[a.ptr ha],[b.ptr hb]],s.p] p):dB tl (nA (.p2 .exE a.p b.p) f hs [[a.ptr ha],[b.ptr hb]]) s (p):=by
 let P:=Px.o;refine P.p 26 152 H λc d=>?_
 let P:=P.a 152 d;exact .inl ⟨c,P.f (by kernel_rfl)⟩
def M5{x:Fm}{t:Tm}(H:PO 86 [aA tl,nA (.ex true x t a.p) f hs [[a.ptr ha]],s.p] p):dB tl (nA (.ex true x t a.p) f hs [[a.ptr ha]]) s (p):=by
 let P:=Px.o;refine P.p 28 158 H λc d=>?_
 let P:=P.a 158 d;exact .inl ⟨c,P.f (by kernel_rfl)⟩
def N5(H:PO 87 [aA tl,nA (.p2 .exUE a.p b.p) f hs [[a.ptr ha],[b.ptr hb]],s.p] p):dB tl (nA (.p2 .exUE a.p b.p) f hs [[a.ptr ha],[b.ptr hb]]) s (p):=by
 let P:=Px.o;refine P.p 30 164 H λc d=>?_
 let P:=P.a 164 d;exact .inl ⟨c,P.f (by kernel_rfl)⟩
def O5{x:Fm}{t:Tm}(H:PO 88 [aA tl,nA (.ind false x t a.p b.p) f hs [[a.ptr ha],[b.ptr hb]],s.p] p):dB tl (nA (.ind false x t a.p b.p) f hs [[a.ptr ha],[b.ptr hb]]) s (p):=by
 let P:=Px.o;refine P.p 33 171 H λc d=>?_
 let P:=P.a 171 d;exact .inl ⟨c,P.f (by kernel_rfl)⟩
def P5{x:Fm}{t:Tm}(H:PO 88 [aA tl,nA (.ind true x t a.p b.p) f hs [[a.ptr ha],[b.ptr hb]],s.p] p):dB tl (nA (.ind true x t a.p b.p) f hs [[a.ptr ha],[b.ptr hb]]) s (p):=by
 let P:=Px.o;refine P.p 33 171 H λc d=>?_
 let P:=P.a 171 d;exact .inl ⟨c,P.f (by kernel_rfl)⟩
def Q5{m n:Nat}{t:Tm}(B:SB m n s)(c:TK n t):dB tl (nA (.refl t) f hs []) s (.refl (t.ps s.vs s.dep 0)):=by
 let P:=Px.o;refine P.x 35 187 190 (B.term c) λc d=>?_
 let P:=(P.a 187 d).a 190 (LD (t.ps s.vs s.dep 0));refine P.p 35 193 (BH (p:=.refl (t.ps s.vs s.dep 0)) (by have:=c.cnt;have:=uA;show 1+_<=_;omega) c.shp) λc d=>?_
 let P:=P.a 193 d;exact .inl ⟨c,P.f (by kernel_rfl)⟩
def R5{m n:Nat}{x:Fm}{t:Tm}(B:SB (m+2) n s)(g:FK (n+1) x)(h:x.gx)(H:dB tl (a.ptr hs) s p)(i:dB tl (b.ptr hs) s q)(j:XO 80 [aA tl,b.ptr hs,s.bind.p] (s.dep+1) t):dB tl (nA (.subst x a.p b.p) f hs [[a.ptr hs],[b.ptr hs]]) s (.subst (rz x (sS (sv s)) t) p q):=by
 let P:=Px.o.a 204 B.g80;refine P.x 37 205 208 j λk l=>?_
 let P:=((((P.a 205 l).a 208 (LD t)).a 210 B.g80).a 211 (TA 0)).a 212 (SB.g81 (SB.bind (m:=m+1) B) (.v 0));refine P.p 38 221 ((SB.sv B).real g h k) λe o=>?_
 let P:=P.a 221 o;rcases H with ⟨r,c⟩|c;rotate_left
 ·exact .inr (P.z 39 230 (230,.o [0,1,2] [] (.pv (num 0))) (Dl (p:=.subst x a.p b.p) (f:=f) (hs:=hs) (a:=a) (b:=b) (ha:=hs) (hb:=hs) c) (by kernel_rfl))
 let P:=P.n 230 15 c;rcases i with ⟨u,d⟩|d;rotate_left
 ·exact .inr (P.z 39 232 (232,.o [0,1,2] [] (.pv (num 0))) (El (p:=.subst x a.p b.p) (f:=f) (hs:=hs) (a:=a) (b:=b) (ha:=hs) (hb:=hs) d) (by kernel_rfl))
 let P:=P.n 232 15 d;refine P.p 39 235 (BH (p:=.subst (rz x (sS (sv s)) t) p q) (by have:=e.cnt;have:=uA;show 1+_+_+_<=_;omega) ⟨e.shp,r.2,u.2⟩) λv w=>?_
 let P:=P.a 235 w;exact .inl ⟨v,P.f (by kernel_rfl)⟩
end
def Hl(k:K1){t:Tm}{n:Nat}(h:TK n t):XO 144 [num k.n,GV,row [t]] n (.n1 k t):=.of ⟨_,Ta k t (by have:=h.cnt;have:=vA;omega),fK h.shp h.sc rfl⟩
section
variable{tl:List Tm}{hs hb:List Fm}{s:Sc}{f x:Fm}{u:Ty}{a b:Jt}{p q:Pf}{t:Tm}{m n:Nat}
def S5(g:u.size<=64)(B:SB (m+2) n s)(d:FK (n+1) x)(e:x.has=false)(i:XO 80 [aA tl,a.pf hs (.q .ex u x),s.p] s.dep t)(j:PO 77 [aA tl,x.p,b.ptr hb,(sv s).p] q)(k:PO 24 [aA tl,a.pf hs (.q .ex u x),s.p] p):PO 85 [aA tl,nA (.p2 .exE a.p b.p) f hs [[a.pf hs (.q .ex u x)],[b.ptr hb]],s.p] (.p2 .impE (.ins false t (.all false u q)) p):=by
 have c:=aK d (by have:=B.n;have:cA=100000:=rfl;omega);rw[e]at c;let P:=Px.o;refine P.x 2 29 32 i λd i=>?_
 let P:=((((P.a 29 i).a 32 (LD t)).a 47 B.g80).a 48 (TA 0)).a 49 (SB.g81 (SB.bind (m:=m+1) B) (.v 0));refine P.p 3 50 j λi j=>?_
 let P:=P.a 50 j;refine P.p 3 51 (xS g i) λg i=>?_
 let P:=P.a 51 i;refine P.p 4 56 (c.imp (λh=>(⟨trivial,h⟩:True/\_)) id) λ_ c=>?_
 let P:=P.a 56 c;refine P.p 7 78 (tK (t:=t) (by have:=d.cnt;omega) d.shp g) λc d=>?_
 let P:=P.a 78 d;refine P.p 8 88 k λd g=>?_
 let P:=P.a 88 g;refine P.p 8 90 (yJ .impE c d) λd c=>?_
 let P:=P.a 90 c;exact .inl ⟨d,P.f (by kernel_rfl)⟩
def T5(g:u.size<=64)(B:SB (m+2) n s)(d:FK (n+1) x)(e:x.has=true)(i:XO 80 [aA tl,a.pf hs (.q .ex u x),s.p] s.dep t)(j:PO 77 [aA tl,x.p,b.ptr hb,(sv s).p] q)(k:PO 24 [aA tl,a.pf hs (.q .ex u x),s.p] p):PO 85 [aA tl,nA (.p2 .exE a.p b.p) f hs [[a.pf hs (.q .ex u x)],[b.ptr hb]],s.p] (.p2 .impE (.ins false (.n1 .snd t) (.ins false (.n1 .fst t) (.all false u q))) p):=by
 have c:=aK d (by have:=B.n;have:cA=100000:=rfl;omega);rw[e]at c;let P:=Px.o;refine P.x 2 29 32 i λd i=>?_
 let P:=((((P.a 29 i).a 32 (LD t)).a 47 B.g80).a 48 (TA 0)).a 49 (SB.g81 (SB.bind (m:=m+1) B) (.v 0));refine P.p 3 50 j λi j=>?_
 let P:=P.a 50 j;refine P.p 3 51 (xS g i) λg i=>?_
 let P:=P.a 51 i;refine P.p 4 56 (c.imp (λh=>(⟨trivial,h⟩:True/\_)) id) λ_ c=>?_
 let P:=P.a 56 c;refine P.x 5 60 63 (Hl .fst d) λc i=>?_
 let P:=(P.a 60 i).a 63 (LD (Tm.n1 .fst t));refine P.x 5 67 70 (Hl .snd d) λd i=>?_
 let P:=(P.a 67 i).a 70 (LD (Tm.n1 .snd t));refine P.p 6 74 (tK (t:=.n1 .fst t) (by have:=c.cnt;omega) c.shp g) λg c=>?_
 let P:=P.a 74 c;refine P.p 6 75 (tK (t:=.n1 .snd t) (by have:=d.cnt;omega) d.shp g) λd c=>?_
 let P:=P.a 75 c;refine P.p 8 88 k λg c=>?_
 let P:=P.a 88 c;refine P.p 8 90 (yJ .impE d g) λd c=>?_
 let P:=P.a 90 c;exact .inl ⟨d,P.f (by kernel_rfl)⟩
def U5{w:Tm}(hu:u.chk=0)(B:SB (m+2) n s)(c:FK (n+1) x)(d:x.gx)(e:TK n t)(g:XO 80 [aA tl,a.ptr hs,s.bind.p] (s.dep+1) w)(h:PO 24 [aA tl,a.ptr hs,s.p] p):PO 86 [aA tl,nA (.ex true (.q .exU u x) t a.p) f hs [[a.ptr hs]],s.p] (.ex true (.q .exU u (rz x (sS (sv s)) w)) (t.ps s.vs s.dep 0) p):=by
 let P:=((Px.o.a 11 B.g80).a 13 (TA 0)).a 14 (SB.g81 (SB.bind (m:=m+1) B) (.v 0));refine P.x 2 33 36 g λg i=>?_
 let P:=(P.a 33 i).a 36 (LD w);refine P.p 2 37 ((SB.sv B).real c d g) λc d=>?_
 let P:=P.a 37 d;refine P.x 4 64 67 (B.term e) λd e=>?_
 let P:=(P.a 64 e).a 67 (LD (t.ps s.vs s.dep 0));refine P.p 4 77 h λe g=>?_
 let P:=P.a 77 g;refine P.p 4 80 (BH (p:=.ex true (.q .exU u (rz x (sS (sv s)) w)) (t.ps s.vs s.dep 0) p) (by have:=c.cnt;have:=d.cnt;have:=uA;show 1+_+(1+_)+_<=_;omega) ⟨d.shp,(show(Nat.beq u.chk 0&&_)=true by rw[hu,c.shp];rfl),e.2⟩) λc d=>?_
 let P:=P.a 80 d;exact .inl ⟨c,P.f (by kernel_rfl)⟩
def V5(B:SB (m+2) n s)(d:FK (n+1) x)(e:x.has=false)(g:PO 24 [aA tl,a.pf hs (.q .exU u x),s.p] p)(i:PO 24 [aA tl,b.ptr hb,(sv s).bare.p] q):PO 87 [aA tl,nA (.p2 .exUE a.p b.p) f hs [[a.pf hs (.q .exU u x)],[b.ptr hb]],s.p] (.p2 .exUE p q):=by
 have c:=aK d (by have:=B.n;have:cA=100000:=rfl;omega);rw[e]at c;let P:=Px.o;refine P.p 1 32 g λd g=>?_
 let P:=(P.a 32 g).a 34 B.g80;refine P.p 2 36 (c.imp (λh=>(⟨trivial,h⟩:True/\_)) id) λ_ c=>?_
 let P:=(((P.a 36 c).a 52 (TA 0)).a 53 (SB.g81 (SB.bind (m:=m+1) B) (.v 0))).a 54 (SB.g123 (SB.sv (m:=m) B));refine P.p 3 55 i λc g=>?_
 let P:=P.a 55 g;refine P.p 3 57 (yJ .exUE d c) λc d=>?_
 let P:=P.a 57 d;exact .inl ⟨c,P.f (by kernel_rfl)⟩
def X5(B:SB (m+2) n s)(d:FK (n+1) x)(e:x.has=true)(g:PO 24 [aA tl,a.pf hs (.q .exU u x),s.p] p)(i:XO 80 [aA tl,a.pf hs (.q .exU u x),s.bind.p] (s.dep+1) t)(j:PO 77 [aA tl,x.p,b.ptr hb,(sv s).skip.p] q):PO 87 [aA tl,nA (.p2 .exUE a.p b.p) f hs [[a.pf hs (.q .exU u x)],[b.ptr hb]],s.p] (.p2 .exUE p (.p2 .impE (.ins false t q) (.leaf false 0))):=by
 have c:=aK d (by have:=B.n;have:cA=100000:=rfl;omega);rw[e]at c;let P:=Px.o;refine P.p 1 32 g λd g=>?_
 let P:=(P.a 32 g).a 34 B.g80;refine P.p 2 36 (c.imp (λh=>(⟨trivial,h⟩:True/\_)) id) λ_ c=>?_
 let P:=P.a 36 c;refine P.x 4 66 69 i λc g=>?_
 let P:=((((P.a 66 g).a 69 (LD t)).a 79 (TA 0)).a 80 (SB.g81 (SB.bind (m:=m+1) B) (.v 0))).a 81 (SB.g139 (SB.sv (m:=m) B));refine P.p 5 82 j λg i=>?_
 let P:=P.a 82 i;refine P.p 6 91 (tK (t:=t) (by have:=c.cnt;omega) c.shp g) λc g=>?_
 let P:=P.a 91 g;refine P.p 6 94 (yJ .impE (b:=.leaf false 0) c ⟨by simp only[Pf.cnt];omega,trivial⟩) λg c=>?_
 let P:=P.a 94 c;refine P.p 6 96 (yJ .exUE d g) λd c=>?_
 let P:=P.a 96 c;exact .inl ⟨d,P.f (by kernel_rfl)⟩
def Y5(B:SB (m+4) n s)(c:FK (n+1) x)(g:x.gx)(i:TK n t)(d:hs.length<=qA)(e:x.has=false)(j:PO 24 [aA tl,a.ptr hs,s.p] p)(k:PO 24 [aA tl,b.ptr (bA 1 hs++[x]),(sv s).bare.p] q):PO 88 [aA tl,nA (.ind false x t a.p b.p) f hs [[a.ptr hs],[b.ptr (bA 1 hs++[x])]],s.p] (.ind false (rz x (sS (sv s)) (.n0 .unit)) (t.ps s.vs s.dep 0) p q):=by
 have d:=aK c (by have:=B.n;have:cA=100000:=rfl;omega);rw[e]at d;let P:=Px.o;refine P.p 1 31 (d.imp (λh=>(⟨trivial,h⟩:True/\_)) id) λ_ d=>?_
 let P:=(((((P.a 31 d).a 33 B.g80).a 34 (TA 0)).a 35 (SB.g81 (SB.bind (m:=m+3) B) (.v 0))).a 36 JG).a 37 JG;refine P.p 10 71 ((SB.sv (m:=m+2) B).real c g (aW _)) λd c=>?_
 let P:=P.a 71 c;refine P.p 11 80 j λj c=>?_
 let P:=(P.a 80 c).a 140 (SB.g123 (SB.sv (m:=m+2) B));refine P.p 19 141 k λg c=>?_
 let P:=P.a 141 c;refine P.x 20 157 160 (B.term i) λi c=>?_
 let P:=(P.a 157 c).a 160 (LD (t.ps s.vs s.dep 0));refine P.p 20 166 (BH (p:=.ind false (rz x (sS (sv s)) (.n0 .unit)) (t.ps s.vs s.dep 0) p q) (by have:=d.cnt;have:=i.cnt;have:=uA;have:=g.1;show 1+_+_+_+Pf.cnt _<=_;omega) ⟨i.shp,d.shp,j.2,g.2⟩) λd c=>?_
 let P:=P.a 166 c;exact .inl ⟨d,P.f (by kernel_rfl)⟩
def Z5{r r2:Tm}(B:SB (m+4) n s)(d:FK (n+1) x)(g:x.gx)(i:TK n t)(c:hs.length<=qA)(e:x.has=true)(j:XO 146 [row tl,nA (.ind false x t a.p b.p) f hs [[a.ptr hs],[b.ptr (bA 1 hs++[x])]],s.bind.p,(Tm.v 0).p] (s.dep+1) r)(k:PO 24 [aA tl,a.ptr hs,s.p] p)(l:PO 77 [aA tl,x.p,b.ptr (bA 1 hs++[x]),(sv s).skip.p] q):PO 88 [aA tl,nA (.ind false x t a.p b.p) f hs [[a.ptr hs],[b.ptr (bA 1 hs++[x])]],s.p] (.ind false (rz x (sS (sv s)) r) (t.ps s.vs s.dep 0) p (.p2 .impE (.ins false r q) (.leaf false 0))):=by
 have c:=aK d (by have:=B.n;have:cA=100000:=rfl;omega);rw[e]at c;let P:=Px.o;refine P.p 1 31 (c.imp (λh=>(⟨trivial,h⟩:True/\_)) id) λ_ c=>?_
 let P:=(((((((P.a 31 c).a 33 B.g80).a 34 (TA 0)).a 35 (SB.g81 (SB.bind (m:=m+3) B) (.v 0))).a 36 JG).a 37 JG).a 43 B.g80).a 44 (TA 0);refine P.x 5 45 48 j λc j=>?_
 let P:=(P.a 45 j).a 48 (LD r);refine P.p 10 71 ((SB.sv (m:=m+2) B).real d g c) λg d=>?_
 let P:=P.a 71 d;refine P.p 11 80 k λj d=>?_
 let P:=(P.a 80 d).a 126 (SB.g139 (SB.sv (m:=m+2) B));refine P.p 18 127 l λk d=>?_
 let P:=P.a 127 d;refine P.p 18 128 (tK (t:=r) (by have:=c.cnt;omega) c.shp k) λd c=>?_
 let P:=P.a 128 c;refine P.p 18 131 (yJ .impE (b:=.leaf false 0) d ⟨by simp only[Pf.cnt];omega,trivial⟩) λd c=>?_
 let P:=P.a 131 c;refine P.x 20 157 160 (B.term i) λi c=>?_
 let P:=(P.a 157 c).a 160 (LD (t.ps s.vs s.dep 0));refine P.p 20 166 (BH (p:=.ind false (rz x (sS (sv s)) r) (t.ps s.vs s.dep 0) p (.p2 .impE (.ins false r q) (.leaf false 0))) (by have:=g.cnt;have:=i.cnt;have:=uA;have:=d.1;show 1+_+_+_+Pf.cnt _<=_;omega) ⟨i.shp,g.shp,j.2,d.2⟩) λd c=>?_
 let P:=P.a 166 c;exact .inl ⟨d,P.f (by kernel_rfl)⟩
def z6(B:SB (m+4) n s)(c:FK (n+1) x)(i:x.gx)(j:TK n t)(d:hs.length<=qA)(e:x.has=false)(k:PO 24 [aA tl,a.ptr hs,s.p] p)(l:PO 24 [aA tl,b.ptr (bA 2 hs++[x.sh 1 (.ofNat 1)]),(sv (sv s)).bare.p] q):PO 88 [aA tl,nA (.ind true x t a.p b.p) f hs [[a.ptr hs],[b.ptr (bA 2 hs++[x.sh 1 (.ofNat 1)])]],s.p] (.ind true (rz x (sS (sv s)) (.n0 .unit)) (t.ps s.vs s.dep 0) p q):=by
 have d:=aK c (by have:=B.n;have:cA=100000:=rfl;omega);rw[e]at d;have z0:((bA 2 hs++[x.sh 1 (.ofNat 1)]).map Fm.c).length=hs.length+1:=by rw[List.length_map,List.length_append,List.length_map];rfl
 have g:=rD (a:=hs.length+1) (b:=1) (z:=.ofNat hs.length) (by have:=uA;have:=vA;omega) (by have:=uA;omega) (by simp only[Int.ofNat_eq_natCast];omega);rw[<-z0]at g;have o:=vB (c:=Fm.c) (g:=bA 2 hs++[x.sh 1 (.ofNat 1)]) (k:=hs.length) (t:=x.sh 1 (.ofNat 1)) (by simp) Fm.c_len;let P:=Px.o;refine P.p 1 31 (d.imp (λh=>(⟨trivial,h⟩:True/\_)) id) λ_ d=>?_
 let P:=(((((P.a 31 d).a 33 B.g80).a 34 (TA 0)).a 35 (SB.g81 (SB.bind (m:=m+3) B) (.v 0))).a 36 JG).a 37 JG;refine P.p 10 71 ((SB.sv (m:=m+2) B).real c i (aW _)) λd c=>?_
 let P:=P.a 71 c;refine P.p 11 80 k λk c=>?_
 let P:=((((((P.a 80 c).a 90 (SB.g80 (SB.sv (m:=m+2) B))).a 91 (TA 0)).a 92 (SB.g81 (SB.bind (m:=m+1) (SB.sv (m:=m+2) B)) (.v 0))).a 112 g).a 113 o).a 140 (SB.g123 (SB.sv (m:=m) (SB.sv (m:=m+2) B)));refine P.p 19 141 l λg c=>?_
 let P:=P.a 141 c;refine P.x 20 157 160 (B.term j) λi c=>?_
 let P:=(P.a 157 c).a 160 (LD (t.ps s.vs s.dep 0));refine P.p 20 166 (BH (p:=.ind true (rz x (sS (sv s)) (.n0 .unit)) (t.ps s.vs s.dep 0) p q) (by have:=d.cnt;have:=i.cnt;have:=uA;have:=g.1;show 1+_+_+_+Pf.cnt _<=_;omega) ⟨i.shp,d.shp,k.2,g.2⟩) λd c=>?_
 let P:=P.a 166 c;exact .inl ⟨d,P.f (by kernel_rfl)⟩
def j6{r c:Tm}(B:SB (m+4) n s)(g:FK (n+1) x)(k:x.gx)(l:TK n t)(d:hs.length<=qA)(e:x.has=true)(j:XO 146 [row tl,nA (.ind true x t a.p b.p) f hs [[a.ptr hs],[b.ptr (bA 2 hs++[x.sh 1 (.ofNat 1)])]],s.bind.p,(Tm.v 0).p] (s.dep+1) r)(o:XO 146 [row tl,nA (.ind true x t a.p b.p) f hs [[a.ptr hs],[b.ptr (bA 2 hs++[x.sh 1 (.ofNat 1)])]],s.bind.bind.p,(Tm.v 0).p] (s.dep+2) c)(v:PO 24 [aA tl,a.ptr hs,s.p] p)(w:PO 77 [aA tl,(x.sh 1 (.ofNat 1)).p,b.ptr (bA 2 hs++[x.sh 1 (.ofNat 1)]),(sv (sv s)).skip.p] q):PO 88 [aA tl,nA (.ind true x t a.p b.p) f hs [[a.ptr hs],[b.ptr (bA 2 hs++[x.sh 1 (.ofNat 1)])]],s.p] (.ind true (rz x (sS (sv s)) r) (t.ps s.vs s.dep 0) p (.p2 .impE (.ins false c q) (.leaf false 0))):=by
 have d:=aK g (by have:=B.n;have:cA=100000:=rfl;omega);rw[e]at d;have z0:((bA 2 hs++[x.sh 1 (.ofNat 1)]).map Fm.c).length=hs.length+1:=by rw[List.length_map,List.length_append,List.length_map];rfl
 have i:=rD (a:=hs.length+1) (b:=1) (z:=.ofNat hs.length) (by have:=uA;have:=vA;omega) (by have:=uA;omega) (by simp only[Int.ofNat_eq_natCast];omega);rw[<-z0]at i;have y:=vB (c:=Fm.c) (g:=bA 2 hs++[x.sh 1 (.ofNat 1)]) (k:=hs.length) (t:=x.sh 1 (.ofNat 1)) (by simp) Fm.c_len;let P:=Px.o;refine P.p 1 31 (d.imp (λh=>(⟨trivial,h⟩:True/\_)) id) λ_ d=>?_
 let P:=(((((((P.a 31 d).a 33 B.g80).a 34 (TA 0)).a 35 (SB.g81 (SB.bind (m:=m+3) B) (.v 0))).a 36 JG).a 37 JG).a 43 B.g80).a 44 (TA 0);refine P.x 5 45 48 j λz d=>?_
 let P:=((((P.a 45 d).a 48 (LD r)).a 61 B.g80).a 62 (SB.g80 (SB.bind (m:=m+3) B))).a 63 (TA 0);refine P.x 9 64 67 o λj d=>?_
 let P:=(P.a 64 d).a 67 (LD c);refine P.p 10 71 ((SB.sv (m:=m+2) B).real g k z) λg d=>?_
 let P:=P.a 71 d;refine P.p 11 80 v λk d=>?_
 let P:=((((((P.a 80 d).a 90 (SB.g80 (SB.sv (m:=m+2) B))).a 91 (TA 0)).a 92 (SB.g81 (SB.bind (m:=m+1) (SB.sv (m:=m+2) B)) (.v 0))).a 112 i).a 113 y).a 126 (SB.g139 (SB.sv (m:=m) (SB.sv (m:=m+2) B)));refine P.p 18 127 w λi d=>?_
 let P:=P.a 127 d;refine P.p 18 128 (tK (t:=c) (by have:=j.cnt;omega) j.shp i) λi d=>?_
 let P:=P.a 128 d;refine P.p 18 131 (yJ .impE (b:=.leaf false 0) i ⟨by simp only[Pf.cnt];omega,trivial⟩) λi d=>?_
 let P:=P.a 131 d;refine P.x 20 157 160 (B.term l) λj d=>?_
 let P:=(P.a 157 d).a 160 (LD (t.ps s.vs s.dep 0));refine P.p 20 166 (BH (p:=.ind true (rz x (sS (sv s)) r) (t.ps s.vs s.dep 0) p (.p2 .impE (.ins false c q) (.leaf false 0))) (by have:=g.cnt;have:=j.cnt;have:=uA;have:=i.1;show 1+_+_+_+Pf.cnt _<=_;omega) ⟨j.shp,g.shp,k.2,i.2⟩) λd c=>?_
 let P:=P.a 166 c;exact .inl ⟨d,P.f (by kernel_rfl)⟩
end
open Go.Lg
def Jt.gx:Jt->Prop|.leaf _ _ f=>f.gx|.refl _=>True|.p1 _ a f=>f.gx/\a.gx|.p2 _ a b f=>f.gx/\a.gx/\b.gx|.impI x a=>x.gx/\a.gx|.all _ _ a=>a.gx|.ins _ _ a f=>f.gx/\a.gx|.ex _ x _ a=>x.gx/\a.gx|.ind _ x _ a b f=>f.gx/\x.gx/\a.gx/\b.gx|.subst x a b f=>f.gx/\x.gx/\a.gx/\b.gx
def CH:∀j:Jt,j.gx->j.f.gx|.leaf _ _ _,h=>h|.refl _,_=>trivial|.p1 _ _ _,h=>h.1|.p2 _ _ _ _,h=>h.1|.impI _ a,h=>⟨h.1,CH a h.2⟩|.all u _ a,h=>⟨CH a h,λe=>by cases u<;>cases e⟩|.ins _ _ _ _,h=>h.1|.ex _ _ _ _,h=>h.1|.ind _ _ _ _ _ _,h=>h.1|.subst _ _ _ _,h=>h.1
structure SW(m n:Nat)(hs:List Fm)(s:Sc):Prop where
 S:ScOK n (hs.map Fm.has) s
 p:∀y∈s.ks,y.pl<s.hyps
 n:n+m<=85000
 d:s.dep+m<=85000
 h:s.hyps+m<=85000
 k:s.ks.length+m<=85000
section
variable{m n:Nat}{hs:List Fm}{s:Sc}
def SW.B(W:SW m n hs s):SB m n s:=⟨W.S.ve,W.S.vl,W.n,W.d,W.h,W.k⟩
def SW.kl(W:SW m n hs s):s.ks.length=hs.length:=by have:=W.S.kl;simpa using this
def SW.le{m':Nat}(W:SW m n hs s)(a:m'<=m):SW m' n hs s:=⟨W.S,W.p,by have:=W.n;omega,by have:=W.d;omega,by have:=W.h;omega,by have:=W.k;omega⟩
theorem SW.bind(W:SW (m+1) n hs s):SW m n hs s.bind:=⟨W.S.bind,W.p,by have:=W.n;omega,by have:=W.d;show s.dep+1+m<=_;omega,by have:=W.h;show s.hyps+m<=_;omega,by have:=W.k;show s.ks.length+m<=_;omega⟩
def SW.sv(W:SW (m+2) n hs s):SW m (n+1) (bA 1 hs) (sv s):=⟨by rw[XD];exact W.S.bind.var (uC (Nat.succ_pos _)),W.p,by have:=W.n;omega,by have:=W.d;show s.dep+1+m<=_;omega,by have:=W.h;show s.hyps+m<=_;omega,by have:=W.k;show s.ks.length+m<=_;omega⟩
theorem SW.skip(W:SW (m+1) n hs s):SW m n hs s.skip:=⟨⟨W.S.vl,W.S.kl,W.S.ve,W.S.ke,W.S.kh⟩,λy hy=>Nat.lt_succ_of_lt (W.p y hy),by have:=W.n;omega,by have:=W.d;show s.dep+m<=_;omega,by have:=W.h;show s.hyps+1+m<=_;omega,by have:=W.k;show s.ks.length+m<=_;omega⟩
def SW.psh{x:Fm}{y:Hy}(W:SW (m+1) n hs s)(hy:y.pl=s.hyps)(b:ScOK n ((hs++[x]).map Fm.has) ⟨s.dep,s.hyps+1,s.vs,s.ks++[y]⟩):SW m n (hs++[x]) ⟨s.dep,s.hyps+1,s.vs,s.ks++[y]⟩:=
 ⟨b,λz a=>by
  rcases List.mem_append.1 a with a|a
  ·exact Nat.lt_succ_of_lt (W.p z a)
  simp at a;subst a;show z.pl<s.hyps+1;omega,by have:=W.n;omega,by have:=W.d;show s.dep+m<=_;omega,by have:=W.h;show s.hyps+1+m<=_;omega,by have:=W.k;show(s.ks++_).length+m<=_;simp;omega⟩
theorem SW.bare(W:SW (m+1) n hs s){x:Fm}(e:x.has=false):SW m n (hs++[x]) s.bare:=W.psh rfl (by rw[List.map_append,List.map_cons,e];exact W.S.bare)
theorem SW.un(W:SW (m+2) n hs s)(x:Fm):SW m n (hs++[x]) (bif x.has then s.bind.hyp (.v 0)else s.bare):=by
 cases e:x.has
 ·exact(W.le (m':=m+1) (by omega)).bare e
 exact SW.psh (SW.bind (m:=m+1) W) rfl (by rw[List.map_append,List.map_cons,e];exact W.S.bind.hyp (uC (Nat.succ_pos _)) true)
end
section
variable{ls:List Fm}{tl:List Tm}(HT:∀(i:Nat)(f:Fm),ls[i]? =some f->∃t,tl[i]? =some t/\TK 0 t){m n:Nat}{hs:List Fm}{s:Sc}{j:Jt}
include HT
theorem bt(W:SW m n hs s)(a:j.OK ls n hs)(b:j.p.cnt<=m)(e:j.f.has=true):BT tl hs j s:=bC HT j n hs s a e W.S (by have:=W.n;omega) (by have:=W.k;have:=W.kl;have:=vA;omega) (by have:=W.d;omega) (by have:=W.h;have:=vA;omega)
theorem XP(W:SW m n hs s)(a:j.OK ls n hs)(b:j.p.cnt<=m):XO 80 [aA tl,j.ptr hs,s.p] s.dep (j.tx tl s):=by
 unfold Jt.tx;cases e:j.f.has
 ·rw[ptb e];exact .inr ⟨aW _,f1 [13] JG⟩
 obtain⟨r,g,q⟩:=bt HT W a b e;have g:=V0 g;rw[ptb e]at g⊢;exact .of ⟨r,f1 [18] g,q⟩
theorem Yb{l:Bool}{x:Fm}{t:Tm}{a b:Jt}{f:Fm}(W:SW (m+8) n hs s)(o:(Jt.ind l x t a b f).OK ls n hs)(y:a.p.cnt<=m)(z:b.p.cnt<=m)(e:x.has=true):XO 146 [row tl,(Jt.ind l x t a b f).ptr hs,s.bind.p,(Tm.v 0).p] (s.dep+1) (dD tl l x a b s.bind (.v 0)):=by
 obtain⟨A,p,B,u,_,⟨v,h⟩,k⟩:=o;have:=vA;have c:=SW.bind (m:=m+7) W;have:=c.kl;have:=c.n;have:=c.d;have:=c.h;have:=c.k;have W2:=SW.sv (m:=m+5) c;obtain⟨r,g,q⟩:=Lj (tl:=tl) (l:=l) (t:=t) (T:=.v 0) (a:=a) (b:=b) (f:=f) p e c.S (uC (Nat.succ_pos _)) (by omega) (by omega) (by omega) (by omega) (bt HT c u (by omega) (by rw[SA v];exact e)) (by
  cases l
  ·have d:=SW.un (m:=m+3) W2 x;rw[e]at d;exact bt HT d k (by omega) (by rw[SA h];exact e)
  have d:=SW.un (m:=m+1) (SW.sv (m:=m+3) W2) (x.sh 1 (.ofNat 1));have w:(x.sh 1 (.ofNat 1)).has=true:=by rw[SA (SD _ x 1)];exact e
  rw[w,show bA 1 (bA 1 hs)=bA 2 hs from uW hs]at d;exact bt HT d k (by omega) (by rw[SA h];exact e))
 exact .of ⟨r,f1 [15] g,q⟩
end
def cW{a:Jt}{b:List Fm}{F:Fm}(e:a.f=F):a.ptr b=a.pf b F:=by subst e;rfl
def YD{ls:List Fm}{tl:List Tm}(g:∀(i:Nat)(f:Fm),ls[i]? =some f->∃t,tl[i]? =some t/\TK 0 t):∀(j:Jt)(m n:Nat)(c:List Fm)(s:Sc),j.OK ls n c->j.gx->SW m n c s->5*j.p.cnt<=m->dB tl (j.ptr c) s (j.pv tl s).p
 |.leaf false i f,m,n,c,s,⟨_,V,_⟩,_,W,_=>by
  have I:=W.kl;obtain⟨y,hy⟩:∃y,s.ks[s.ks.length-1-i]? =some y:=⟨_,List.getElem?_eq_getElem (by omega)⟩;exact v5 W.B (by omega) hy (W.p y (List.mem_of_getElem? hy))
 |.leaf true i f,m,n,c,s,_,_,_,_=>j5|.refl t,m,n,c,s,⟨A,_⟩,_,W,_=>Q5 W.B A|.p1 k a f,m,n,c,s,⟨_,r,_⟩,⟨_,ga⟩,W,p=>by
  have p:5*(1+a.p.cnt)<=m:=p;have H:=YD g a m n c s r ga W (by omega);cases k
  ·exact d5 H
  ·exact m5 H
  exact i5 H
 |.impI x a,m,n,c,s,⟨d,_,r⟩,⟨gx,ga⟩,W,p=>by
  have p:5*(1+x.cnt+a.p.cnt)<=m:=p;have W:=W.le (m':=m-5+2) (by omega);exact C5 (AS (SB.le W.B) d gx λK e=>by subst e;exact YD g a (m-5) n _ _ r ga (W.un x) (by omega))
 |.all u w a,m,n,c,s,⟨R,_,r⟩,ga,W,p=>by
  have p:5*(1+a.p.cnt)<=m:=p;have W:=W.le (m':=m-5+2) (by omega);have H:=YD g a (m-5) (n+1) _ _ r ga W.sv (by omega);cases u
  ·exact G5 R W.B H
  exact I5 R W.B H
 |.ins u t a f,m,n,c,s,⟨_,A,r,_⟩,⟨_,ga⟩,W,p=>by
  have p:5*(1+t.cnt+a.p.cnt)<=m:=p;have H:=YD g a m n c s r ga W (by omega);cases u
  ·exact J5 W.B A H
  exact K5 W.B A H
 |.ex u x t a,m,n,c,s,⟨d,A,r,⟨w,e⟩,er⟩,⟨gx,ga⟩,W,p=>by
  have p:5*(1+t.cnt+x.cnt+a.p.cnt)<=m:=p;have H:=YD g a m n c s r ga W (by omega);cases u
  ·exact A5 H
  have W:=W.le (m':=m-5+2) (by omega);have T:=XP g (SW.bind (m:=m-5+1) W) r (by omega);rw[e]at d gx⊢;generalize x.bd=y at d gx⊢;have hy:FK (n+1) y:=⟨by have:1+y.cnt<=4096:=d.cnt;omega,(DA d.shp).2,d.sc⟩;exact M5 (U5 (hu:=Nat.eq_of_beq_eq_true (DA d.shp).1) W.B hy gx.1 A T H)
 |.subst x a b f,m,n,c,s,⟨_,d,r,o,_⟩,⟨_,gx,ga,v⟩,W,p=>by
  have p:5*(1+x.cnt+a.p.cnt+b.p.cnt)<=m:=p;have H:=YD g a m n c s r ga W (by omega);have D:=YD g b m n c s o v W (by omega);have W:=W.le (m':=m-5+2) (by omega);exact R5 W.B d gx H D (XP g (SW.bind (m:=m-5+1) W) o (by omega))
 |.p2 k a b f,m,n,c,s,⟨_,r,h⟩,⟨_,ga,v⟩,W,p=>by
  have p:5*(1+a.p.cnt+b.p.cnt)<=m:=p;have H:=YD g a m n c s r ga W (by omega)
  cases k with
  |andI=>exact B5 H (YD g b m n c s h.1 v W (by omega))|impE=>
   obtain⟨o,_⟩:=h;have D:=YD g b m n c s o v W (by omega);have L:=XP g W o (by omega);unfold Jt.tx at L;show dB tl (nA (.p2 .impE a.p b.p) f c [[a.ptr c],[b.ptr c]]) s (im (bif b.f.has then ou (b.xt tl s) (a.pv tl s)else a.pv tl s) (b.pv tl s)).p;cases e:b.f.has
   ·rw[ptb e]at D⊢;exact D5 H D
   rw[e]at L;rw[ptb e]at D L⊢;exact F5 H D L
  |exE=>
   obtain⟨o,⟨u,e⟩,_⟩:=h;have z:=XP g W r (by omega);have B:=Jt.FKj r;have C:=CH a ga;have M:(Jt.p2 .exE a b f).ptr c=nA (.p2 .exE a.p b.p) f c [[a.ptr c],[b.ptr (bA 1 c++[a.f.bd])]]:=rfl;rw[M];show dB tl _ s (im (bif a.f.bd.has then ou (.n1 .snd (a.xt tl s)) (ou (.n1 .fst (a.xt tl s)) (.all false a.f.qs (un a.f.bd (b.pv tl) (sv s))))else ou (a.xt tl s) (.all false a.f.qs (un a.f.bd (b.pv tl) (sv s)))) (a.pv tl s)).p;unfold Jt.tx at z;have hq:a.f.qs=u:=by rw[e];rfl
   have N:a.f.has=true:=by rw[e];rfl
   rw[N]at z;rw[hq];generalize a.f.bd=x at e o⊢;rw[e]at B C;rw[cW e]at H z;have d:FK (n+1) x:=⟨by have:1+x.cnt<=4096:=B.cnt;omega,(DA B.shp).2,B.sc⟩;have W:=W.le (m':=m-5+4) (by omega);have W2:=SW.sv (m:=m-5+2) W;have D:PO 77 [aA tl,x.p,b.ptr (bA 1 c++[x]),(sv s).p] (un x (b.pv tl) (sv s)).p:=AS (SB.le W2.B) d C.1 λK e=>by subst e;exact YD g b (m-5) (n+1) _ _ o v (W2.un x) (by omega)
   refine L5 (ha:=c) ?_;rw[cW e];cases F:x.has
   ·exact S5 (m:=m-5+2) (aD (DA B.shp).1) W.B d F z D H
   exact T5 (m:=m-5+2) (aD (DA B.shp).1) W.B d F z D H
  |exUE=>
   obtain⟨o,⟨u,e⟩,_⟩:=h;have W:=W.le (m':=m-5+5) (by omega);have z:=XP g (SW.bind (m:=m-5+4) W) r (by omega);have B:=Jt.FKj r;have C:=CH a ga;have M:(Jt.p2 .exUE a b f).ptr c=nA (.p2 .exUE a.p b.p) f c [[a.ptr c],[b.ptr (bA 1 c++[a.f.bd])]]:=rfl;rw[M];show dB tl _ s (Jt.p2 .exUE (a.pv tl s) (bif a.f.bd.has then im (ou (a.xt tl s.bind) (un a.f.bd (b.pv tl) (sv s).skip)) (.leaf false 0 (rz a.f.bd (sS (sv s)) (a.xt tl s.bind)))else b.pv tl (sv s).bare) _).p;unfold Jt.tx at z;have N:a.f.has=a.f.bd.has:=by rw[e];rfl
   rw[N]at z;generalize a.f.bd=x at e o z⊢;rw[e]at B C;rw[cW e]at H z;have d:FK (n+1) x:=⟨by have:1+x.cnt<=4096:=B.cnt;omega,(DA B.shp).2,B.sc⟩;have W2:=SW.sv (m:=m-5+3) W;refine N5 (ha:=c) ?_;rw[cW e];cases F:x.has
   ·exact V5 (m:=m-5+3) W.B d F H (YD g b (m-5) (n+1) _ _ o v ((SW.bare (m:=m-5+2) W2 F).le (by omega)) (by omega))
   rw[F]at z;have J:=SW.skip (m:=m-5+2) W2;exact X5 (m:=m-5+3) W.B d F H z (AS (SB.le J.B) d C.1 λK e=>by subst e;exact YD g b (m-5) (n+1) _ _ o v ((SW.un (m:=m-5+0) J x).le (by omega)) (by omega))
 |.ind l x t a b f,m,n,c,s,r,⟨_,gx,ga,v⟩,W,p=>by
  have G:=r;obtain⟨_,d,A,O,_,⟨X,Y⟩,E⟩:=r;have p:5*(1+t.cnt+x.cnt+a.p.cnt+b.p.cnt)<=m:=p;have H:=YD g a m n c s O ga W (by omega);have:=DE t;have:=JV x;have I:c.length<=qA:=by have:=W.k;have:=W.kl;have:=vA;omega
  have W:=W.le (m':=m-15+14) (by omega);have W2:=SW.sv (m:=m-15+12) W;cases l
  ·refine O5 ?_;cases e:x.has
   ·show PO 88 _ (Pf.ind false (rz x (sS (sv s)) (bif x.has then _ else _)) _ _ (Jt.p (bif x.has then _ else _)));rw[e];exact Y5 (m:=m-15+10) W.B d gx A I e H (YD g b (m-15) (n+1) _ _ E v ((SW.bare (m:=m-15+11) W2 e).le (by omega)) (by omega))
   show PO 88 _ (Pf.ind false (rz x (sS (sv s)) (bif x.has then _ else _)) _ _ (Jt.p (bif x.has then _ else _)));rw[e];have J:=SW.skip (m:=m-15+11) W2;exact Z5 (r2:=.v 0) (m:=m-15+10) W.B d gx A I e (Yb g (m:=m-15+6) W G (by omega) (by omega) e) H (AS (SB.le J.B) d gx λK e=>by subst e;exact YD g b (m-15) (n+1) _ _ E v ((SW.un (m:=m-15+9) J x).le (by omega)) (by omega))
  have P:=SW.sv (m:=m-15+10) W2;rw[show bA 1 (bA 1 c)=bA 2 c from uW c]at P;have U:(x.sh 1 (.ofNat 1)).has=x.has:=SA (SD _ x 1);refine P5 ?_;cases e:x.has
  ·show PO 88 _ (Pf.ind true (rz x (sS (sv s)) (bif x.has then _ else _)) _ _ (Jt.p (bif x.has then _ else _)));rw[e];exact z6 (m:=m-15+10) W.B d gx A I e H (YD g b (m-15) (n+2) _ _ E v ((SW.bare (m:=m-15+9) P (U.trans e)).le (by omega)) (by omega))
  show PO 88 _ (Pf.ind true (rz x (sS (sv s)) (bif x.has then _ else _)) _ _ (Jt.p (bif x.has then _ else _)));rw[e];have S:=SW.skip (m:=m-15+9) P;have Q:FK (n+1+1) (x.sh 1 (.ofNat 1)):=⟨by rw[sD];exact d.cnt,by rw[lP];exact d.shp,RI 1 x 1 _ d.sc⟩;exact j6 (m:=m-15+10) W.B d gx A I e (Yb g (m:=m-15+6) W G (by omega) (by omega) e) (Yb g (m:=m-15+5) (SW.bind (m:=m-15+13) W) G (by omega) (by omega) e) H (AS (SB.le S.B) Q (by rw[rS];exact kJ x _ gx) λK e=>by subst e;exact YD g b (m-15) (n+2) _ _ E v ((SW.un (m:=m-15+7) S _).le (by omega)) (by omega))
open Go.Lg
section
variable{ls:List Fm}{tl:List Tm}(HT:∀(i:Nat)(f:Fm),ls[i]? =some f->∃t,tl[i]? =some t/\TK 0 t){m n:Nat}{hs:List Fm}{s:Sc}{j:Jt}
include HT
theorem v6(W:SW m n hs s)(b:j.OK ls n hs)(l:j.gx)(o:j.p.cnt<=m):∃r:FR,A 67 [aA tl,j.ptr hs,s.p] r.p/\r.Gd s.dep (rz j.f (sS s) (j.tx tl s)):=by
 have:cA=100000:=rfl;have B:=W.B;have kf:=Jt.FKj b;rw[<-W.S.vl]at kf;rcases XP HT W b o with ⟨w,a⟩|⟨p,a⟩
 ·exact⟨.er 3,f1 [15] a,rfl⟩
 obtain⟨r,d,g⟩:=ul W.S.ve (by have:=W.d;omega) (by have:=W.n;rw[W.S.vl];omega) kf
 cases r with
 |er k=>
  obtain rfl:k=3:=g;exact⟨.er 3,f2 [15,28] a d,rfl⟩
 |ok F=>
  obtain⟨u,rfl⟩:=g;have e:rz (j.f.sub (sS s)) Tm.v (j.tx tl s)=rz j.f (sS s) (j.tx tl s):=by
   rw[SG];congr 1;funext i;exact FC _
  obtain⟨r,v,h⟩:=al u (kJ j.f _ (CH j l)) p (by have:=W.d;omega);rw[e]at h;exact⟨r,f3 [15,28,37] a d v,h⟩
end
abbrev y6:PV:=.agg [num 0,num 0,.slice [],.slice []]
def Il{n:Nat}(a:n<=16):SW 84984 n [] (wB n 0):=⟨QV n 0,nofun,by omega,by show n+84984<=85000;omega,by show 0+84984<=85000;omega,by show 0+84984<=85000;omega⟩
abbrev Jt.gl(n:Nat)(j:Jt):Fm:=rz j.f (sS (wB n 0)) (j.tx [] (wB n 0))
def Jl{g:List Ty}(a:g.length<=16)(b:∀s∈g,s.size<=64){j:Jt}(m:j.D [] g [])(n:j.p.ck)(o:j.p.cnt<=16384)(p:j.gx):j.OK [] g.length []/\(A 21 [dA [],row [],LA g [],j.p.p] (.tuple [.nil,y6,.agg zF,num 4])\/(A 21 [dA [],row [],LA g [],j.p.p] (.tuple [j.ptr [],(wB g.length 0).p,(j.gl g.length).p,num 0])/\FK g.length (j.gl g.length))):=by
 obtain⟨c,d⟩:=Uj g a b j m n o;refine⟨d,?_⟩;obtain⟨r,e,l⟩:=v6 (ls:=[]) (tl:=[]) (λi f h=>by simp at h) (Il a) d p (by omega)
 cases r with
 |er k=>
  obtain rfl:k=3:=l;exact .inl (f4 [22,32,39,45] c zb (Za g a) e)
 |ok F=>
  obtain⟨t,rfl⟩:=l;exact .inr ⟨f4 [22,32,39,45] c zb (Za g a) e,t⟩
def fD:∀{t:Tm}{g:List Ty}{s:Ty},Ht g t s->t.mx<=g.length+t.cnt
 |.v i,g,s,h=>by
  have:=MP h
  grind[Tm.mx,Tm.cnt]
 |.lam w b,g,s,⟨_,_,h⟩=>by
  have:=fD h
  grind[List.length_append,List.length_cons,List.length_nil,Tm.mx,Tm.cnt]
 |.n0 _,_,_,_=>by simp[Tm.mx]|.n1 k a,g,s,h=>by
  have:a.mx<=g.length+a.cnt:=by
   cases k
   ·exact fD h.2
   ·obtain⟨_,h⟩:=h;exact fD h
   obtain⟨_,h⟩:=h;exact fD h
  grind[Tm.mx,Tm.cnt]
 |.n2 k a b,g,s,h=>by
  have:a.mx<=g.length+a.cnt/\b.mx<=g.length+b.cnt:=by
   cases k
   ·obtain⟨_,d,e⟩:=h;exact⟨fD d,fD e⟩
   ·exact⟨fD h.2.1,fD h.2.2⟩
   obtain⟨_,_,_,d,e⟩:=h;exact⟨fD d,fD e⟩
  grind[Tm.mx,Tm.cnt]
 |.n3 k w a b c,g,s,h=>by
  have d:=fD h.2.1;have:b.mx<=g.length+b.cnt/\c.mx<=g.length+c.cnt:=by
   cases k
   ·exact⟨fD h.2.2.1,fD h.2.2.2⟩
   exact⟨fD h.2.2.1,fD h.2.2.2⟩
  grind[Tm.mx,Tm.cnt]
def uJ:∀{f:Fm}{g:List Ty},f.hq g->f.mx<=g.length+f.cnt
 |.eq a b,g,h=>by
  have c:=fD h.1;have d:=fD h.2
  grind[Fm.mx,Fm.cnt]
 |.bin _ a b,g,h=>by
  have c:=uJ h.1;have d:=uJ h.2
  grind[Fm.mx,Fm.cnt]
 |.q _ s a,g,h=>by
  have:=uJ (f:=a) h
  grind[List.length_append,List.length_cons,List.length_nil,Fm.mx,Fm.cnt]
def u6{f a:Fm}(h:FCv f a):∀{g b:Fm},XA f=some g->XA a=some b->g=b:=by
 induction h with
 |eq h k=>
  grind[XA,qk]
 |bin k _ _ c d=>
  grind[XA]
 |q k s _ e=>
  grind[XA]
def Kl{f g y:Fm}(h:XA f=some g)(e:FCv f y)(k:y.occ 0=0):g.occ 0=0:=by
 have a:=e.ren λi=>max i 1
 have b:y.ren (λi=>max i 1)=y:=by
  rw[QG];refine(wM y _ Tm.v λi c=>?_).trans (Gb y)
  grind
 rw[b]at a;rw[u6 (e.trans a.symm) h (RV _ _ _ h)];simp[UP]
def HC(b a:List Fm):Prop:=b.length=a.length/\∀(i:Nat)(x:Fm),b[i]? =some x->∃y,a[i]? =some y/\FCv y x
theorem HC.refl(a:List Fm):HC a a:=⟨rfl,λ_ x h=>⟨x,h,.refl x⟩⟩
def HC.up{b a:List Fm}(h:HC b a)(k:Nat):HC (bA k b) (bA k a):=⟨by simp[h.1],λi x e=>by
 rw[bA,List.getElem?_map]at e;obtain⟨x0,c,rfl⟩:=Option.map_eq_some_iff.1 e;obtain⟨y,d,f⟩:=h.2 i x0 c;exact⟨_,by rw[bA,List.getElem?_map,d];rfl,f.sh 0 k⟩⟩
theorem HC.sn{b a:List Fm}(h:HC b a){x y:Fm}(e:FCv y x):HC (b++[x]) (a++[y]):=⟨by simp[h.1],λi z k=>by
 rcases Nat.lt_or_ge i b.length with c|c
 ·rw[List.getElem?_append_left c]at k;obtain⟨w,d,f⟩:=h.2 i z k
  grind
 rw[List.getElem?_append_right c]at k;have:i-b.length=0:=by
  have:=(List.getElem?_eq_some_iff.1 k).1;simp_all
 rw[this]at k;cases k;exact⟨y,by rw[List.getElem?_append_right (h.1▸c),<-h.1,this];rfl,e⟩⟩
def HC.ind{b a:List Fm}(h:HC b a)(x:Fm)(l:Bool):HC (TJ b x l) (TJ a x l):=by
 cases l
 ·exact(h.up 1).sn (.refl _)
 exact(h.up 2).sn (.refl _)
def gD{r:List Fm}:∀{p:Pf}{g:List Ty}{m c:List Fm}{f:Fm},HC m c->p.W r g m f->p.W r g c f
 |.leaf u i,g,m,c,f,H,h=>by
  cases u
  ·obtain⟨d,x,e,j⟩:=h;obtain⟨y,n,o⟩:=H.2 _ _ e;exact⟨H.1▸d,y,H.1▸n,o.trans j⟩
  exact h
 |.refl _,_,_,_,_,_,h=>h|.p1 k a,g,m,c,f,H,h=>by
  cases k
  ·exact h.imp λ_=>gD H
  ·exact h.imp λ_=>gD H
  obtain⟨s,u,x,d,e⟩:=h;exact⟨s,u,x,gD H d,e⟩
 |.p2 k a b,g,m,c,f,H,h=>by
  cases k
  ·obtain⟨x,y,d,e,j⟩:=h;exact⟨x,y,gD H d,gD H e,j⟩
  ·obtain⟨x,d,e⟩:=h;exact⟨x,gD H d,gD H e⟩
  ·obtain⟨s,x,y,d,e,j⟩:=h;exact⟨s,x,y,gD H d,gD ((H.up 1).sn (.refl _)) e,j⟩
  obtain⟨s,x,y,d,e,j⟩:=h;exact⟨s,x,y,gD H d,gD ((H.up 1).sn (.refl _)) e,j⟩
 |.impI x a,g,m,c,f,H,⟨d,y,e,j⟩=>⟨d,y,gD (H.sn (.refl _)) e,j⟩|.all u s a,g,m,c,f,H,⟨d,y,e,j⟩=>⟨d,y,gD (H.up 1) e,j⟩|.ins u t a,g,m,c,f,H,⟨d,s,x,e,j,n⟩=>⟨d,s,x,e,gD H j,n⟩|.ex u x t a,g,m,c,f,H,⟨d,e,s,y,j,n,o,v⟩=>⟨d,e,s,y,j,n,gD H o,v⟩|.ind l x t a b,g,m,c,f,H,⟨d,e,j,n,o⟩=>⟨d,e,gD H j,gD (H.ind x l) n,o⟩|.subst x a b,g,m,c,f,H,⟨d,t,u,e,j,n⟩=>⟨d,t,u,gD H e,gD H j,n⟩
def ZD{v:List Fm}:∀{p:Pf}{g:List Ty}{m:List Fm}{f n:Fm},p.W v g m f->FCv f n->p.W v g m n
 |.leaf u i,g,m,f,n,h,e=>by
  cases u
  ·obtain⟨d,x,c,j⟩:=h;exact⟨d,x,c,j.trans e⟩
  obtain⟨x,c,j⟩:=h;exact⟨x,c,j.trans e⟩
 |.refl _,_,_,_,_,⟨d,c,j⟩,e=>⟨d,c,j.trans e⟩|.p1 k a,g,m,f,n,h,e=>by
  cases k
  ·obtain⟨y,h⟩:=h;exact⟨y,ZD h (.bin _ e (.refl _))⟩
  ·obtain⟨y,h⟩:=h;exact⟨y,ZD h (.bin _ (.refl _) e)⟩
  obtain⟨s,u,x,d,c⟩:=h;exact⟨s,u,x,d,c.trans e⟩
 |.p2 k a b,g,m,f,n,h,e=>by
  cases k
  ·obtain⟨x,y,d,c,j⟩:=h;exact⟨x,y,d,c,j.trans e⟩
  ·obtain⟨x,d,c⟩:=h;exact⟨x,ZD d (.bin _ (.refl _) e),c⟩
  ·obtain⟨s,x,y,d,c,j,o⟩:=h;exact⟨s,x,y,d,c,j,o.trans e⟩
  obtain⟨s,x,y,d,c,j,o,r⟩:=h;exact⟨s,x,y,d,c,j,o.trans e,r⟩
 |.impI x a,g,m,f,n,⟨d,y,c,j⟩,e=>⟨d,y,c,j.trans e⟩|.all u s a,g,m,f,n,⟨d,y,c,j⟩,e=>⟨d,y,c,j.trans e⟩|.ins u t a,g,m,f,n,⟨d,s,x,c,j,o⟩,e=>⟨d,s,x,c,j,o.trans e⟩|.ex u x t a,g,m,f,n,⟨d,c,s,y,j,o,r,w⟩,e=>⟨d,c,s,y,j,o,r,w.trans e⟩|.ind l x t a b,g,m,f,n,⟨d,c,j,o,r⟩,e=>⟨d,c,j,o,r.trans e⟩|.subst x a b,g,m,f,n,⟨d,t,u,c,j,o⟩,e=>⟨d,t,u,c,j,o.trans e⟩
def Ll{f F f' y x:Fm}(e:aC F=some f)(h:FCv F y)(k:FCv y.low x):FCv f x:=by
 have:=((Ib e).symm.trans h).put (.v 0) 0 0;rw[show((f.sh 0 (.ofNat 1)).put 0 (.v 0) 0)=f from Tk f]at this;exact this.trans k
def sF{C:List Fm}:∀{j:Jt}{g:List Ty}{m:List Fm}{f:Fm},j.D C g m->j.p.W C g m f->FCv j.f f
 |.leaf u i f0,g,m,f,⟨_,h⟩,w=>by
  cases u
  ·obtain⟨_,x,o,v⟩:=w;rw[h.2]at o;cases o;exact v
  obtain⟨x,o,v⟩:=w;rw[h]at o;cases o;exact v
 |.refl t,_,_,_,_,⟨_,_,h⟩=>h|.p1 k a f0,g,m,f,⟨_,c,h⟩,w=>by
  cases k
  ·obtain⟨y,e⟩:=h;obtain⟨z,w⟩:=w;have:=sF c w;rw[e]at this;cases this with|bin _ d _=>exact d
  ·obtain⟨y,e⟩:=h;obtain⟨z,w⟩:=w;have:=sF c w;rw[e]at this;cases this with|bin _ _ d=>exact d
  obtain⟨s,u,x,e,_,y,D,rfl⟩:=h;obtain⟨A,E,F,w,n⟩:=w;have:=sF c w;rw[e]at this;obtain rfl:=xH D;cases this with|q _ _ d=>cases d with|q _ _ o=>exact FCv.trans (.q _ _ (.q _ _ ((o.sh 2 1).put vapp 0 0))) n
 |.p2 k a b f0,g,m,f,⟨_,c,h⟩,w=>by
  cases k
  ·obtain⟨p,rfl⟩:=h;obtain⟨x,y,w1,w2,w3⟩:=w;exact FCv.trans (.bin _ (sF c w1) (sF p w2)) w3
  ·obtain⟨p,x,e,_⟩:=h;obtain⟨y,w1,_⟩:=w;have:=sF c w1;rw[e]at this;cases this with|bin _ _ d=>exact d
  ·obtain⟨⟨s,e,p⟩,_,B⟩:=h;obtain⟨A,x,y,w1,w2,_,w4⟩:=w;have:=sF c w1;rw[e]at this;cases this with|q _ _ d=>exact Ll (f':=f) B (sF p (gD ((HC.refl _).sn d) w2)) w4
  obtain⟨⟨s,e,p⟩,_,B,_⟩:=h;obtain⟨A,x,y,w1,w2,_,w4,_⟩:=w;have:=sF c w1;rw[e]at this;cases this with|q _ _ d=>exact Ll (f':=f) B (sF p (gD ((HC.refl _).sn d) w2)) w4
 |.impI x a,g,m,f,⟨_,_,_,c⟩,⟨_,y,w,n⟩=>FCv.trans (.bin _ (.refl _) (sF c w)) n|.all u s a,g,m,f,⟨_,_,c,_⟩,⟨G,y,w,n⟩=>by
  subst G;exact FCv.trans (.q _ _ (sF c w)) n
 |.ins u t a f0,g,m,f,⟨_,_,c,s,x,_,e,r⟩,⟨_,A,F,_,w,n⟩=>by
  have:=sF c w;rw[e]at this;obtain rfl:=xH r;cases this with|q _ _ d=>exact(d.put t 0 0).trans n
 |.ex u x t a,g,m,f,_,⟨_,_,_,_,_,_,_,h⟩=>h|.ind l x t a b f0,g,m,f,⟨_,_,_,_,_,_,r⟩,⟨_,_,_,_,h⟩=>by
  obtain rfl:=xH r;exact h
 |.subst x a b f0,g,m,f,⟨_,_,c,_,t,u,_,e,_,_,r⟩,⟨_,H,E,w,_,n⟩=>by
  have:=sF c w;rw[e]at this;obtain rfl:=xH r;cases this with|eq _ d=>exact(vk d x).trans n
instance:PA:=⟨qk,λh=>XF _ _ _ h⟩
def d6(g:List Ty):RNg (g++[.list]) (g++[.nat,.list]) (iD 1 1):=by
 have h:=(bM g .nat).up .list;rw[uS,List.append_assoc]at h;exact h
instance:PB where
 un:=sF
 cv:=ZD
 ft h k:=h.trans k
 pc h:=vk h _
 hc h e:=gD ((HC.refl _).sn e) h
 tq h d:=YF h.1 _ _ _ h.2 d
 mx h:=uJ (uI _ _ h)
 mt h:=fD (JE _ _ _ h)
 up1 h:=LP (k:=1) (bM _ _) h
 up2 {g s u _} h:=LP (k:=2) (by have:=X1 g s u;rw[List.append_assoc]at this;exact this) h
 si h:=LP (k:=1) (d6 _) h
 oc:=Kl
def tF{J:List Fm}:∀{j:Jt}{g:List Ty}{d:List Fm},j.W J g d->j.p.ck->j.p.W J g d j.f
 |.leaf u i f,g,d,h,_=>by cases u<;>exact h
 |.refl t,_,_,h,c=>⟨c,h,.refl _⟩|.p1 k a f,g,d,⟨h,r⟩,c=>by
  have v:=tF h c;cases k
  ·obtain⟨y,e⟩:=r;exact⟨y,ZD v e⟩
  ·obtain⟨y,e⟩:=r;exact⟨y,ZD v e⟩
  obtain⟨s,u,x,e,F⟩:=r;exact⟨s,u,x,ZD v e,F.symm⟩
 |.p2 k a b f,g,d,⟨h,r⟩,⟨K,D⟩=>by
  have v:=tF h K;cases k
  ·obtain⟨w,e⟩:=r;exact⟨_,_,v,tF w D,e.symm⟩
  ·obtain⟨w,x,e,F⟩:=r;exact⟨x,ZD v e,ZD (tF w D) F.symm⟩
  ·obtain⟨s,x,y,e,w,E,G,H⟩:=r;exact⟨s,x,y,ZD v e,ZD (tF w D) E,G,H.symm⟩
  obtain⟨⟨s,x,y,e,w,E,G,H⟩,L⟩:=r;exact⟨s,x,y,ZD v e,ZD (tF w D) E,G,H.symm,E.has▸L⟩
 |.impI x a,g,d,⟨m,n⟩,⟨o,p⟩=>⟨⟨o,m⟩,_,tF n p,.refl _⟩|.all u s a,g,d,⟨m,n⟩,⟨_,c⟩=>by
  subst n;exact⟨rfl,_,tF m c,.refl _⟩
 |.ins u t a f,g,d,⟨m,s,x,n,z,A⟩,⟨o,p⟩=>⟨o,s,x,n,ZD (tF m p) z,A.symm⟩|.ex u x t a,g,d,⟨m,n,s,y,z,A,B⟩,⟨o,p,C⟩=>⟨⟨p,m⟩,o,s,y,z,A,ZD (tF n C) B.symm,.refl _⟩|.ind l x t a b f,g,d,⟨m,n,⟨z,A⟩,⟨B,I⟩,M⟩,⟨o,p,C,N⟩=>⟨⟨p,m⟩,⟨o,n⟩,ZD (tF z C) A.symm,ZD (tF B N) I.symm,M.symm⟩|.subst x a b f,g,d,⟨m,n,z,t,u,A,B,I⟩,⟨o,p,C⟩=>⟨⟨o,m⟩,t,u,ZD (tF n p) A,ZD (tF z C) B.symm,I.symm⟩
open Go.Lg
def iW{t:Tm}(h:t.chk=0):t.tsz<=qA->A 155 [t.p] (.bool true):=λk=>by
 have:=vA;have:=uA;have q:=bF t (by omega);rwa[(Tm.chk0 h).2]at q
def oW{t:Fm}(h:t.chk=0):t.tsz<=qA->A 97 [t.p] (.bool true):=λk=>by
 have q:=OJ t k;rwa[(Fm.chk0 h).2]at q
def m6{s:Ty}(h:s.size<=64):A 152 [s.p] (num 0):=by
 have:=uA;have q:=pL s;have e:s.chk=0:=by
  rcases fH s with e|e
  ·exact e
  unfold Ty.chk at e;rw[GA h]at e;cases e
 rwa[e]at q
def DH:∀p:Pf,p.ck->p.tsz<=qA->A 93 [p.p] (.bool true)
 |.leaf u i,_,_=>by cases u<;>exact f1 [73] ZA
 |.refl t,h,k=>f2 [73,85] ZA (iW h k)|.p1 q a,h,k=>by cases q<;>exact f2 [73,107] ZA (DH a h k)
 |.p2 q a b,h,k=>by
  have k:max a.tsz b.tsz<=qA:=k;cases q<;>exact f3 [73,107,107] ZA (DH a h.1 (by omega)) (DH b h.2 (by omega))
 |.impI f a,h,k=>by
  have k:max f.tsz a.tsz<=qA:=k;exact f3 [73,96,107] ZA (oW h.1 (by omega)) (DH a h.2 (by omega))
 |.all u s a,h,k=>by
  have k:max a.tsz s.size<=qA:=k;cases u<;>exact f2 [63,107] (m6 h.1) (DH a h.2 (by omega))
 |.ins u t a,h,k=>by
  have k:max t.tsz a.tsz<=qA:=k;cases u<;>exact f3 [73,85,107] ZA (iW h.1 (by omega)) (DH a h.2 (by omega))
 |.ex u f t a,h,k=>by
  have k:max (max t.tsz f.tsz) a.tsz<=qA:=k;cases u<;>exact f4 [73,85,96,107] ZA (iW h.1 (by omega)) (oW h.2.1 (by omega)) (DH a h.2.2 (by omega))
 |.ind l f t a b,h,k=>by
  have k:max (max (max t.tsz f.tsz) a.tsz) b.tsz<=qA:=k;cases l<;>exact f5 [73,85,96,107,107] ZA (iW h.1 (by omega)) (oW h.2.1 (by omega)) (DH a h.2.2.1 (by omega)) (DH b h.2.2.2 (by omega))
 |.subst f a b,h,k=>by
  have k:max (max f.tsz a.tsz) b.tsz<=qA:=k;exact f4 [73,96,107,107] ZA (oW h.1 (by omega)) (DH a h.2.1 (by omega)) (DH b h.2.2 (by omega))
def pM{t:Tm}(h:t.chk=0):A 171 [t.p] (num t.cnt)/\fA (.ofNat 4096) (.ofNat t.cnt)=false:=by
 have:=uA;have k:=(Tm.chk0 h).1;exact⟨yB t (by omega),GA k⟩
def rM{t:Fm}(h:t.chk=0):A 98 [t.p] (num t.cnt)/\fA (.ofNat 4096) (.ofNat t.cnt)=false:=by
 have:=uA;have k:=(Fm.chk0 h).1;exact⟨SE t (by omega),GA k⟩
def EH:∀p:Pf,p.ck->A 156 [p.p] (.bool true)|.leaf u i,_=>f0 []|.refl t,h=>f2 [17,18] (pM h).1 (pM h).2|.p1 q a,h=>f1 [39] (EH a h)|.p2 q a b,h=>f2 [39,39] (EH a h.1) (EH b h.2)|.impI f a,h=>f3 [28,29,39] (rM h.1).1 (rM h.1).2 (EH a h.2)|.all u s a,h=>f1 [39] (EH a h.2)|.ins u t a,h=>f3 [17,18,39] (pM h.1).1 (pM h.1).2 (EH a h.2)|.ex u f t a,h=>f5 [17,18,28,29,39] (pM h.1).1 (pM h.1).2 (rM h.2.1).1 (rM h.2.1).2 (EH a h.2.2)|.ind l f t a b,h=>f6 [17,18,28,29,39,39] (pM h.1).1 (pM h.1).2 (rM h.2.1).1 (rM h.2.1).2 (EH a h.2.2.1) (EH b h.2.2.2)|.subst f a b,h=>f4 [28,29,39,39] (rM h.1).1 (rM h.1).2 (EH a h.2.1) (EH b h.2.2)
def r6(p:Pf)(h:p.cnt<=16384)(b:p.tsz<=qA)(a:p.ck):A 27 [p.p] (num 0):=by
 have:=uA;have e:(!fA (.ofNat 16384) (.ofNat p.cnt))=true:=by rw[GA h];rfl
 have g:A 94 [p.p] (.bool true):=f3 [4,7,8] (EH p a) (lF p (by omega)) e;exact f2 [4,7] (DH p a b) g
def Pf.gx:Pf->Prop|.leaf _ _=>True|.refl _=>True|.p1 _ a=>a.gx|.p2 _ a b=>a.gx/\b.gx|.impI f a=>f.gx/\a.gx|.all _ _ a=>a.gx|.ins _ _ a=>a.gx|.ex _ f _ a=>f.gx/\a.gx|.ind _ f _ a b=>f.gx/\a.gx/\b.gx|.subst f a b=>f.gx/\a.gx/\b.gx
def xW:∀f:Fm,f.er.ne=f.ne|.eq _ _=>rfl|.bin _ f g=>by simp[Fm.er,Fm.ne,xW]|.q k _ f=>by cases k<;>simp only[Fm.er,Fm.ne,xW f]
theorem AW:∀f g:Fm,XA f=some g->f.gx->g.gx
 |.eq a b,g,e,_=>by
  simp only[XA]at e;split at e
  ·split at e
   ·cases e;trivial
   cases e
  cases e
 |.bin k f d,g,e,h=>by
  simp only[XA]at e;split at e
  ·rename_i x c;split at e
   ·rename_i y i;cases e;exact⟨AW f x c h.1,AW d y i h.2⟩
   cases e
  cases e
 |.q k s f,g,e,h=>by
  simp only[XA]at e;split at e
  ·rename_i x c;cases e;refine⟨AW f x c h.1,λek=>(h.2 ek).imp (λj=>Kl c (.refl f) j) λl=>?_⟩;rw[<-xW,aR f x c,xW];exact l
  cases e
theorem Ml(f:Fm)(t:Tm)(h:f.gx):(f.put 0 t 0).gx:=by rw[oD];exact kJ f _ h
theorem qO(f:Fm)(c k:Nat)(h:f.gx):(f.sh c (.ofNat k)).gx:=by rw[rS];exact kJ f _ h
def BW{f g:Fm}{t:Tm}(e:f.pt t=.ok g)(h:f.gx):g.gx:=by
 grind[Fm.pt,Ml]
def Nl{f g:Fm}(e:aC f=some g)(h:f.gx):g.gx:=by
 grind[aC,Ml,AW]
theorem s6{s u:Ty}{x y:Fm}(h:(Fm.q .all s (.q .ex u x)).gx)(e:(x.sh 2 (.ofNat 1)).pt vapp=.ok y):(Fm.q .ex (.two true s u) (.q .all s y)).gx:=by
 have b:x.gx:=h.1.1;refine⟨⟨BW e (qO x 2 1 b),nofun⟩,λ_=>?_⟩;unfold Fm.pt at e;split at e
 ·cases e;refine(h.1.2 rfl).imp (λd=>?_) (λc=>?_)
  ·show((x.sh 2 (.ofNat 1)).put 0 vapp 0).occ 1=0;rw[TP,rS,Mb,wM x _ (λi=>.v (if i<=1 then 0 else i)) λi a=>?_,<-QG]
   ·grind[UP]
   match i,a with
   |0,a=>omega|1,_=>rfl|i+2,_=>
    rfl
  show Fm.ne ((x.sh 2 (.ofNat 1)).put 0 vapp 0)<=1;rw[TP,VP,rS,VP];exact c
 cases e
def Ol{a:List Fm}{i:Nat}{f:Fm}(h:∀x∈a,x.gx)(e:a[i]? =some f):f.gx:=h f (List.mem_of_getElem? e)
def YP{a:List Fm}{k:Nat}(h:∀x∈a,x.gx):∀x∈bA k a,x.gx:=λx a=>by
 grind[qO]
def ZP{a:List Fm}{f:Fm}(h:∀x∈a,x.gx)(b:f.gx):∀x∈a++[f],x.gx:=λx a=>by
 grind
def rE{ls:List Fm}(p:∀x∈ls,x.gx):∀(j:Jt)(g:List Ty)(n:List Fm),(∀x∈n,x.gx)->j.D ls g n->j.p.gx->j.gx
 |.leaf false i f,g,n,d,r,_=>Ol d r.2.2|.leaf true i f,g,n,d,r,_=>Ol p r.2|.refl t,_,_,_,_,_=>trivial|.p1 k a f,g,n,d,⟨_,r,h⟩,c=>by
  have v:=rE p a g n d r c;have o:=CH a v;refine⟨?_,v⟩
  cases k with
  |andL=>obtain⟨y,e⟩:=h;rw[e]at o;exact o.1|andR=>obtain⟨y,e⟩:=h;rw[e]at o;exact o.2|choice=>
   obtain⟨s,u,x,e,_,y,D,rfl⟩:=h;rw[e]at o
   grind[s6]
 |.p2 k a b f,g,n,d,⟨_,r,h⟩,c=>by
  have v:=rE p a g n d r c.1;have o:=CH a v
  cases k with
  |andI=>
   obtain⟨m,rfl⟩:=h;have z:=rE p b g n d m c.2;exact⟨⟨o,CH b z⟩,v,z⟩
  |impE=>
   obtain⟨m,x,e,_⟩:=h;rw[e]at o;exact⟨o.2,v,rE p b g n d m c.2⟩
  |exE=>
   obtain⟨⟨s,e,m⟩,_,C⟩:=h;have A:a.f.bd.gx:=by rw[e]at o;exact o.1
   have z:=rE p b _ _ (ZP (YP d) A) m c.2;exact⟨Nl C (CH b z),v,z⟩
  |exUE=>
   obtain⟨⟨s,e,m⟩,_,C,_⟩:=h;have A:a.f.bd.gx:=by rw[e]at o;exact o.1
   have z:=rE p b _ _ (ZP (YP d) A) m c.2;exact⟨Nl C (CH b z),v,z⟩
 |.impI x a,g,n,d,⟨_,_,_,r⟩,c=>⟨c.1,rE p a g _ (ZP d c.1) r c.2⟩|.all u s a,g,n,d,⟨_,_,r,_⟩,c=>rE p a _ _ (YP d) r c|.ins u t a f,g,n,d,⟨_,_,r,s,x,_,e,D⟩,c=>by
  have v:=rE p a g n d r c;have o:=CH a v;rw[e]at o;exact⟨BW D o.1,v⟩
 |.ex u x t a,g,n,d,⟨_,_,r,_⟩,c=>⟨c.1,rE p a g n d r c.2⟩|.ind l x t a b f,g,n,d,⟨_,_,_,⟨B,_⟩,_,⟨m,_⟩,e⟩,c=>by
  refine⟨BW e c.1,c.1,rE p a g n d B c.2.1,rE p b _ _ ?_ m c.2.2⟩;cases l
  ·exact ZP (YP d) c.1
  exact ZP (YP d) (qO x 1 1 c.1)
 |.subst x a b f,g,n,d,⟨_,_,B,m,t,u,w,_,_,_,e⟩,c=>⟨BW e c.1,c.1,rE p a g n d B c.2.1,rE p b g n d m c.2.2⟩
open Go.Lg
abbrev Pl(ls hs:List Fm)(g:List Ty)(k:Nat):IS:=st [(3,.loc 0 0),(15,.pv (dA ls)),(16,.pv (num (ls.map Fm.c).length)),(17,.pv (num k))] [(0,bx [JA g,dA hs])] 1 []
abbrev CS(hs:List Fm)(g:List Ty):IS:=st [(3,.loc 0 0)] [(0,bx [JA g,dA hs])] 1 []
def Ql(d:List Fm)(g:List Ty){b:List Fm}(n:b.length<=qA):∀(r:List Fm)(k:Nat),b.drop k=r->(∀f∈r,f.cnt+1024<=qA/\f.tsz<=qA)->
  (Lp 26 0 0 (Pl b d g k) (.exit 0) (CS d g)/\∀f∈r,f.chk=0/\f.ty [])\/∃e,Lp 26 0 0 (Pl b d g k) .ret (st [(4,.pv (num (e+1)))] [] 1 [])/\((∀f∈r,f.chk=0/\f.hq [])->Lm (e+1))
 |[],k,h,_=>.inl ⟨x1 [18] ⟨[3],[0],1,[]⟩ (show fA (.ofNat k) (.ofNat (b.map Fm.c).length)=false from GA (by simp_all)),λf h=>by cases h⟩|f::r,k,h,m=>by
  obtain⟨i,z,o⟩:=dH h;have:=vA;have a:fA (.ofNat k) (.ofNat (b.map Fm.c).length)=true:=NA (by simp_all);have p:=m f (by simp);obtain⟨e,j,u,v⟩:=gR [] f (λs h=>by cases h) p.2 (by simp;omega)
  cases e with
  |succ e=>exact .inr ⟨e,x3 [18,(19,.i f.c),22] ⟨[4],[],1,[]⟩ a (vB i Fm.c_len) j,λh=>(v (h f (by simp)).1 (h f (by simp)).2).resolve_left (by simp)⟩|zero=>
   have w:=u rfl;rcases Ql d g n r (k+1) o (λt y=>m t (by simp[y]))with ⟨l,q⟩|⟨e,l,q⟩
   ·refine .inl ⟨n5 [18,(19,.i f.c),22,(26,.ok)] ⟨[3,15,16,17],[0],1,[]⟩ a (vB i Fm.c_len) j (xA (show k+1<=_ by omega)) l,λx c=>?_⟩;rcases List.mem_cons.1 c with rfl|c
    ·exact w
    exact q x c
   exact .inr ⟨e,n5 [18,(19,.i f.c),22,(26,.ok)] ⟨[3,15,16,17],[0],1,[]⟩ a (vB i Fm.c_len) j (xA (show k+1<=_ by omega)) l,λh=>q λx c=>h x (by simp[c])⟩
abbrev Rl(hs:List Fm)(g:List Ty)(k:Nat):IS:=st [(3,.loc 0 0),(38,.pv (dA hs)),(39,.pv (num (hs.map Fm.c).length)),(40,.pv (num k))] [(0,bx [JA g,dA hs])] 1 []
def Sl(g:List Ty)(l:∀s∈g,s.size<=qA)(c:g.length<=1024){b:List Fm}(o:b.length<=qA):∀(r:List Fm)(k:Nat),b.drop k=r->(∀f∈r,f.cnt+1024<=qA/\f.tsz<=qA)->
  (Lp 26 1 0 (Rl b g k) (.exit 2) (st [] [] 1 [])/\∀f∈r,f.chk=0/\f.ty g)\/∃e,Lp 26 1 0 (Rl b g k) .ret (st [(4,.pv (num (e+1)))] [] 1 [])/\((∀f∈r,f.chk=0/\f.hq g)->Lm (e+1))
 |[],k,h,_=>.inl ⟨x1 [41] ⟨[],[],1,[]⟩ (show fA (.ofNat k) (.ofNat (b.map Fm.c).length)=false from GA (by simp_all)),λf h=>by cases h⟩|f::r,k,h,m=>by
  obtain⟨d,y,p⟩:=dH h;have:=vA;have a:fA (.ofNat k) (.ofNat (b.map Fm.c).length)=true:=NA (by simp_all);have u:=m f (by simp);obtain⟨e,i,A,v⟩:=gR g f l u.2
  cases e with
  |succ e=>exact .inr ⟨e,x3 [41,(42,.i f.c),47] ⟨[4],[],1,[]⟩ a (vB d Fm.c_len) i,λh=>(v (h f (by simp)).1 (h f (by simp)).2).resolve_left (by simp)⟩|zero=>
   rcases Sl g l c o r (k+1) p (λt w=>m t (by simp[w]))with ⟨j,q⟩|⟨e,j,q⟩
   ·refine .inl ⟨n5 [41,(42,.i f.c),47,(51,.ok)] ⟨[3,38,39,40],[0],1,[]⟩ a (vB d Fm.c_len) i (xA (show k+1<=_ by omega)) j,λx n=>?_⟩
    grind
   exact .inr ⟨e,n5 [41,(42,.i f.c),47,(51,.ok)] ⟨[3,38,39,40],[0],1,[]⟩ a (vB d Fm.c_len) i (xA (show k+1<=_ by omega)) j,λh=>q λx n=>h x (by simp[n])⟩
structure Tl(ls:List Fm)(g:List Ty)(hs:List Fm):Prop where
 ls:∀f∈ls,f.chk=0/\f.ty []
 gl:g.length<=16
 gs:∀s∈g,s.size<=64
 hl:hs.length<=16
 hs:∀f∈hs,f.chk=0/\f.ty g
def Ul(a:List Fm)(g:List Ty)(b:List Fm):Prop:=(∀f∈a,f.chk=0/\f.hq [])/\∀f∈b,f.chk=0/\f.hq g
def i6(b:List Fm)(g:List Ty)(a:List Fm)(l:∀f∈b,f.cnt+1024<=qA/\f.tsz<=qA)(m:∀f∈a,f.cnt+1024<=qA/\f.tsz<=qA)(t:∀s∈g,s.size<=qA)(n:g.length<=1024:=by omega)(u:b.length<=qA:=by omega)(v:a.length<=qA:=by omega):∃e,A 26 [dA b,LA g a] (num e)/\(e=0->Tl b g a)/\(Ul b g a->e=0\/Lm e):=by
 have:=vA;have:=uA;cases c:fA (.ofNat 32) (.ofNat (b.map Fm.c).length);rotate_left
 ·exact⟨3,f1 [14] c,nofun,λ_=>.inr (by decide)⟩
 rcases Ql a g u b 0 rfl l with ⟨d,o⟩|⟨e,d,o⟩;rotate_left
 ·exact⟨e+1,f2 [14,(100004,.l ⟨[3,15,16,17],[0],1,[]⟩ .ret (st [(4,.pv (num (e+1)))] [] 1 []))] c d,nofun,λh=>.inr (o h.1)⟩
 have i:=CZ g (λs h=>by have:=t s h;omega)
 cases j:rG g with
 |succ e=>
  rw[j]at i;exact⟨e+1,f3 [14,(100004,.l ⟨[3,15,16,17],[0],1,[]⟩ (.exit 0) (CS a g)),29] c d i,nofun,λ_=>.inr (FZ j)⟩
 |zero=>
  rw[j]at i;obtain⟨w,x⟩:=Bw j;cases k:fA (.ofNat 16) (.ofNat (a.map Fm.c).length);rotate_left
  ·exact⟨3,f4 [14,(100004,.l ⟨[3,15,16,17],[0],1,[]⟩ (.exit 0) (CS a g)),29,36] c d i k,nofun,λ_=>.inr (by decide)⟩
  have y:a.length<=16:=by
   rw[WB]at k
   grind
  rcases Sl g t n v a 0 rfl m with ⟨p,r⟩|⟨e,p,r⟩
  ·exact⟨0,f5 [14,(100004,.l ⟨[3,15,16,17],[0],1,[]⟩ (.exit 0) (CS a g)),29,36,(100016,.l ⟨[3,38,39,40],[0],1,[]⟩ (.exit 2) (st [] [] 1 []))] c d i k p,λ_=>⟨o,w,x,y,r⟩,λ_=>.inl rfl⟩
  exact⟨e+1,f5 [14,(100004,.l ⟨[3,15,16,17],[0],1,[]⟩ (.exit 0) (CS a g)),29,36,(100016,.l ⟨[3,38,39,40],[0],1,[]⟩ .ret (st [(4,.pv (num (e+1)))] [] 1 []))] c d i k p,nofun,λh=>.inr (r h.2)⟩
def Vl:∀u:List Nat,oC 1 (kA (u.map ic))=true/\mC (kA (u.map ic))=true|[]=>⟨rfl,rfl⟩|n::r=>Vl r
structure A6(X:Nat)(ls:List Fm)(g:List Ty)(hs:List Fm)(p:Pf):Prop where
 l1:∀f∈ls,f.cnt+1024<=qA/\f.tsz<=qA/\f.mx<=X
 h1:∀f∈hs,f.cnt+1024<=qA/\f.tsz<=qA/\f.mx<=X
 g1:∀s∈g,s.size<=qA
 gl:g.length<=1024
 hl:hs.length<=1000
 ll:ls.length<=1024
 cnt:p.cnt<=yA
 tsz:p.tsz<=qA
 mx:p.mx<=X
 X:X+mA*16384<=sB
def Zb(H:MF){X:Nat}{ls:List Fm}{g:List Ty}{hs:List Fm}{p:Pf}(a:A6 X ls g hs p):∃r:PR,A 10 [dA ls,LA g hs,p.p] r.p/\(∀f u,r=.ok f u->Tl ls g hs/\p.ck/\p.cnt<=16384/\FO (X+mA*16384) f/\(f.has=false->u=[])/\(∃j:Jt,j.p=p/\j.f=f/\j.D ls g hs/\∀v,j.us v->v∈u)/\u.length<=16384)/\
  ∀n,r=.er n->Ul ls g hs->p.ck->p.cnt<=16384->∀f,p.W ls g hs f->Lm (n+1):=by
 have:=vA;have:=a.gl;have:=a.hl;have:=a.ll;obtain⟨e,i,E,l⟩:=i6 ls g hs (λf b=>⟨(a.l1 f b).1,(a.l1 f b).2.1⟩) (λf b=>⟨(a.h1 f b).1,(a.h1 f b).2.1⟩) a.g1
 cases e with
 |succ e=>exact⟨.er e,f1 [14] i,nofun,λn h k _ _ _ _=>by cases h;exact(l k).resolve_left (by simp)⟩|zero=>
  have hq:=E rfl;obtain⟨e,c,o,s⟩:∃e,A 27 [p.p] (num e)/\(e=0->p.ck/\p.cnt<=16384)/\(p.ck->p.cnt<=16384->e=0):=by
   by_cases h:p.ck/\p.cnt<=16384
   ·exact⟨0,r6 p h.2 a.tsz h.1,λ_=>h,λ_ _=>rfl⟩
   obtain⟨e,c,o⟩:=Hv p a.cnt a.tsz;exact⟨e,c,o,λt x=>absurd ⟨t,x⟩ h⟩
  cases e with
  |succ e=>exact⟨.er e,f2 [14,20] i c,nofun,λn _ _ t x _ _=>absurd (s t x) (by simp)⟩|zero=>
   obtain⟨F,z⟩:=o rfl;have:=a.X;have:mA*p.cnt<=mA*16384:=Nat.mul_le_mul_left _ z;have d:Pre ls g hs X p:=⟨λf b=>⟨(Fm.chk0 (hq.ls f b).1).1,(a.l1 f b).2.2,(a.l1 f b).2.1⟩,λf b=>⟨(Fm.chk0 (hq.hs f b).1).1,(a.h1 f b).2.2,(a.h1 f b).2.1⟩,a.g1,a.gl,a.hl,a.ll,by omega,a.tsz,a.mx,by omega⟩;obtain⟨r,B,C⟩:=KF H p ls g hs X d
   cases r with
   |er n=>exact⟨.er n,f3 [14,20,33] i c B,nofun,λm h _ _ _ f w=>by cases h;exact C ⟨λf b=>ED f _ (hq.ls f b).2,λf b=>ED f _ (hq.hs f b).2⟩ f w⟩|ok f u=>
    obtain⟨y,G,I,S,T,U⟩:=C;obtain⟨J,K⟩:=Vl u;have L:(Nat.blt 0 1&&oC 1 (kA (u.map ic))&&mC (kA (u.map ic))&&Nat.ble (kA (u.map ic)).length maxLen&&Nat.ble ((kA (u.map ic)).length*8) 140737488355328)=true:=by
     rw[J,K,pvE_len,List.length_map,Nat.ble_eq_true_of_le (show u.length<=maxLen by simp only[maxLen];omega),Nat.ble_eq_true_of_le (show u.length*8<=140737488355328 by omega)];rfl
    have D:A 10 [dA ls,LA g hs,p.p] (.tuple [.agg [num f.kd,num f.tk,.slice f.te,.slice f.ts,.slice f.es,.slice (List.take (kA (u.map ic)).length (u.map ic))],num 0]):=
     f6 [14,20,33,42,(45,.ok),(300010,.f 4 (u.map ic))] i c B (dE f) L (rfl:kA (u.map ic)=kA (u.map ic))
    rw[pvE_len,List.take_length]at D;refine⟨.ok f u,D,λV W h=>?_,nofun⟩;cases h;exact⟨hq,F,z,⟨y.1,by have:=y.2.1;omega,y.2.2⟩,G,I,by omega⟩
def Fm.csz:Fm->Nat|.eq _ _=>1|.bin _ f g=>1+f.csz+g.csz|.q _ s f=>1+s.size+f.csz
open Go.Lg
abbrev cK(z:Int):List PV:=[.int z]
def B6(z:Int):(cK z).length=1:=rfl
abbrev dk(L:List Int)(a:Nat):Ob:=bx [.slice (L.map cK),num a]
abbrev _root_.Go.Lg.De.D(L:List Int)(b:Nat)(x:V):De:=.d 0 (dk L b) x
structure Dk(L:List Int):Prop where
 len:L.length<=500
 rng:∀z∈L,-9223372036854775808<=z/\z<=9223372036854775807
def C6(z:Int)(k:Nat)(h:1<=k)(j:k<=qA)(l: -9223372036854775808<=z/\z<=9223372036854775807):∃x,x<k/\A 64 [.int z,num k] (num x):=by
 have a:(!mB (.ofNat k) 0)=true:=by
  rw[aI];simp;omega
 have: -(k:Int)<z.tmod (.ofNat k)/\z.tmod (.ofNat k)<k:=by
  constructor
  ·have:=Int.lt_tmod_of_pos z (show(0:Int)<.ofNat k by simp;omega);omega
  have:=Int.tmod_lt_of_pos z (show(0:Int)<.ofNat k by simp;omega);omega
 have b:0<=z.tmod (.ofNat k)+.ofNat k:=by
  grind
 have c:0<=(z.tmod (.ofNat k)+.ofNat k).tmod (.ofNat k)/\(z.tmod (.ofNat k)+.ofNat k).tmod (.ofNat k)<k:=by
  refine⟨Int.tmod_nonneg _ b,?_⟩;have:=Int.tmod_lt_of_pos (z.tmod (.ofNat k)+.ofNat k) (show(0:Int)<.ofNat k by simp;omega);omega
 have d:z.tmod (.ofNat k)+.ofNat k<=1152921504606846976:=by
  grind
 obtain⟨x,e⟩:=Int.eq_ofNat_of_zero_le c.1;have f:(!mB (.ofNat k) 0)=true/\z.tmod (.ofNat k)=z.tmod (.ofNat k):=⟨a,rfl⟩;have g:eA (z.tmod (.ofNat k)+.ofNat k)=true/\z.tmod (.ofNat k)+.ofNat k=z.tmod (.ofNat k)+.ofNat k:=⟨bP (by omega) d,rfl⟩;have i:(!mB (.ofNat k) 0)=true/\(z.tmod (.ofNat k)+.ofNat k).tmod (.ofNat k)=.ofNat x:=⟨a,e⟩;exact⟨x,by omega,f3 [(7,.y (z.tmod (.ofNat k))),(9,.y (z.tmod (.ofNat k)+.ofNat k)),(11,.z x)] f g i⟩
def nx{L:List Int}(d:Dk L){a:Nat}(g:a<=L.length){n:Nat}(i:1<=n)(j:n<=qA):∃x b,x<n/\b<=L.length/\O 20 [.loc 0 0,.pv (num n)] [(0,dk L a)] (.pv (num x)) [(0,dk L b)]:=by
 have:=d.len;have:=uA;have e:fA (.ofNat n) 1=false:=by rw[WB];simp;omega
 by_cases h:a=L.length
 ·have c:(!fA (.ofNat a) (.ofNat (L.map cK).length))=true:=AI (by simp;omega);exact⟨0,a,by omega,g,o2 1 [7,18] e c⟩
 have c:(!fA (.ofNat a) (.ofNat (L.map cK).length))=false:=xG (by simp;omega);obtain⟨z,f⟩:∃z,L[a]? =some z:=⟨_,List.getElem?_eq_getElem (by omega)⟩;obtain⟨x,k,l⟩:=C6 z n i j (d.rng z (List.mem_of_getElem? f));exact⟨x,a+1,k,by omega,o5 1 [7,18,(28,.i (cK z)),34,39] e c (vB f B6) (lA (a:=a) (b:=1)) l⟩
def AA:A 40 [] Ty.nat.p:=f0 []
def sM:A 58 [] Ty.list.p:=f0 []
def D6:A 113 [] Ty.unit.p:=f0 []
def qQ:Nat->Nat|0=>1|k+1=>1+2*qQ k
def E6(k:Nat):1<=qQ k:=by cases k<;>simp[qQ]
def MD{L:List Int}(g:Dk L):∀(k:Nat),k<=qA->∀{a:Nat},a<=L.length->∃(t:Ty)(b:Nat),t.size<=qQ k/\b<=L.length/\O 45 [.loc 0 0,.pv (num k)] [(0,dk L a)] (.pv t.p) [(0,dk L b)]
 |k,r,a,n=>by
  have:=vA;have:=uA;obtain⟨x,b,w,e,f⟩:=nx g n (n:=7) (by omega) (by omega);have t1:=E6 k;rcases x with _|_|_|_|_|_|_|x
  ·exact⟨.nat,b,t1,e,o2 1 [6,11] f AA⟩
  ·exact⟨.nat,b,t1,e,o2 1 [6,11] f AA⟩
  ·exact⟨.nat,b,t1,e,o2 1 [6,11] f AA⟩
  ·exact⟨.list,b,t1,e,o2 1 [6,14] f sM⟩
  ·exact⟨.unit,b,t1,e,o2 1 [6,17] f D6⟩
  ·cases k with
   |zero=>exact⟨.nat,b,t1,e,o2 1 [6,44] f AA⟩|succ k=>
    have h:=SC (a:=k+1);obtain⟨t,c,o,i,j⟩:=MD g k (by omega) e;obtain⟨u,d,p,l,m⟩:=MD g k (by omega) i;exact⟨.two false t u,d,by grind[Ty.size,qQ],l,o6 1 [6,24,25,28,29,30] f h j h m (Kh t u)⟩
  ·cases k with
   |zero=>exact⟨.nat,b,t1,e,o2 1 [6,44] f AA⟩|succ k=>
    have h:=SC (a:=k+1);obtain⟨t,c,o,i,j⟩:=MD g k (by omega) e;obtain⟨u,d,p,l,m⟩:=MD g k (by omega) i;exact⟨.two true t u,d,by grind[Ty.size,qQ],l,o6 1 [6,37,38,41,42,43] f h j h m (cN t u)⟩
  omega
def bJ{n:Nat}(h:n<4:=by omega):A 19 [num n] (eB n).p:=f1 [7] (Dv h)
def eK(f a b:Tm):A 118 [f.p,row [a,b]] (Tm.n2 .app (.n2 .app f a) b).p:=by
 have h:∀x y:Tm,A 37 [num 3,row [x,y]] (Tm.n2 .app x y).p:=λx y=>tG 3 x y
 exact f2 [16,16] (h f a) (h (.n2 .app f a) b)
def jc{α:Type}{c:α->List PV}{n:Nat}(d:∀t,(c t).length=n)(f:∀t,mC [iA (c t)]=true):∀g:List α,oC n (kA (g.map c))=true/\mC (kA (g.map c))=true
 |[]=>⟨rfl,rfl⟩|t::r=>by
  obtain⟨a,b⟩:=jc d f r;have e:kA ((t::r).map c)=iA (c t)::kA (r.map c):=rfl;rw[e];constructor
  ·unfold oC;rw[NE (show(iA (c t)).length=n by simp[iA,d]),cond_true];exact a
  grind[mC]
def vc{α:Type}{c:α->List PV}{n m:Nat}(d:∀t,(c t).length=n)(e:∀t,mC [iA (c t)]=true)(j:0<n)(g:List α)(h:g.length*m<=140737488355328)(f:g.length<=maxLen):
  (Nat.blt 0 n&&oC n (kA (g.map c))&&mC (kA (g.map c))&&Nat.ble (kA (g.map c)).length maxLen&&Nat.ble ((kA (g.map c)).length*m) 140737488355328)=true:=by
 obtain⟨a,b⟩:=jc d e g;have i:Nat.blt 0 n=true:=by simp_all
 rw[i,a,b,pvE_len,List.length_map,Nat.ble_eq_true_of_le f,Nat.ble_eq_true_of_le h];rfl
def F6{A B:List (List PV)}:List.take ((kA A).length+(kA B).length) (A++B)=A++B:=List.take_of_length_le (by simp[pvE_len])
def Wl(A B:List (List PV)):List.take (kA A).length (kA A)++kA B=kA (A++B):=by
 rw[List.take_length];simp[kA]
def sE(g l:List Ty)(h:g.length+l.length<=qA):A 112 [JA g,JA l] (JA (g++l)):=by
 have:=vA;have b:=vc (c:=Ty.c) (n:=2) (m:=32) Ty.c_len (λ_=>rfl) (by decide) g (by omega) (by simp only[maxLen];omega);obtain⟨c,d⟩:=jc (c:=Ty.c) (n:=2) Ty.c_len (λ_=>rfl) l;have e:(Nat.beq 1 1&&Nat.ble (kA (g.map Ty.c)).length (kA (g.map Ty.c)).length&&Nat.beq 34 34&&Nat.beq 2 2&&Nat.blt 0 2&&oC 2 (kA (l.map Ty.c))&&mC (kA (l.map Ty.c))&&Nat.ble ((kA (g.map Ty.c)).length+(kA (l.map Ty.c)).length) maxLen&&Nat.ble (((kA (g.map Ty.c)).length+(kA (l.map Ty.c)).length)*32) 140737488355328)=true:=
  nR rfl (by decide) c d (by rw[pvE_len,pvE_len];simp only[List.length_map,maxLen];omega) (by rw[pvE_len,pvE_len];grind)
 have a:A 112 [JA g,JA l] (.slice (List.take ((kA (g.map Ty.c)).length+(kA (l.map Ty.c)).length) (g.map Ty.c++l.map Ty.c))):=
  f3 [(6,.ok),(8,.ok),(300001,.f 0 (g.map Ty.c++l.map Ty.c))] b e (Wl (g.map Ty.c) (l.map Ty.c))
 rw[F6,<-List.map_append]at a;exact a
open Go.Lg
abbrev kc:Kp:=⟨[0,3,5,8,9],[0,1],2,[]⟩
def yc{g:List Ty}{k:Nat}(b:k<g.length:=by omega)(c:g.length<=qA:=by omega):∃s,(eA (Int.ofNat (g.map Ty.c).length-1)=true/\Int.ofNat (g.map Ty.c).length-1=.ofNat ((g.map Ty.c).length-1))/\(eA (Int.ofNat ((g.map Ty.c).length-1)-.ofNat k)=true/\Int.ofNat ((g.map Ty.c).length-1)-.ofNat k=.ofNat (g.length-1-k))/\(VB (g.map Ty.c) (g.length-1-k)=some (Ty.c s)/\zC 2 (g.map Ty.c)=true)/\s∈g/\cB g k=.ok s:=by
 have:=vA;have:=uA;obtain⟨s,a⟩:∃s,g[g.length-1-k]? =some s:=⟨_,List.getElem?_eq_getElem (by omega)⟩;refine⟨s,SC (a:=(g.map Ty.c).length) (by simp;omega) (by simp;omega),?_,vB a Ty.c_len,List.mem_of_getElem? a,by unfold cB;rw[if_pos b,a]⟩
 grind[xA]
def uc(t:Ty){g:List Ty}(c:g.length<=qA):∀(r k v:Nat)(A:List (List PV)),k+r=g.length->A.length<=k->
  ∃(a:Nat)(l:List Nat),(∀x∈l,cB g x=.ok t)/\l.length<=r/\Lp 116 0 0 (st [(0,.pv (JA g)),(3,.loc 0 0),(5,.arr 1 v A.length),(8,.pv (num (g.map Ty.c).length)),(9,.pv (num k))] [(0,bx t.c),(1,.arr v 1 3 (kA A))] 2 []) (.exit 0) (st [(5,.arr 1 a (A.length+l.length))] [(1,.arr a 1 3 (kA (A++l.map ic)))] 2 [])
 |0,k,v,A,h,u=>by
  have e:fA (.ofNat k) (.ofNat (g.map Ty.c).length)=false:=GA (by simp;omega);refine⟨v,[],by simp,Nat.le_refl _,?_⟩;simp only[List.map_nil,List.append_nil,List.length_nil,Nat.add_zero];exact y1 [10] ⟨[5],[1],2,[]⟩ e (tD A)
 |r+1,k,v,A,h,u=>by
  have:=vA;have:=uA;have e:fA (.ofNat k) (.ofNat (g.map Ty.c).length)=true:=NA (by simp;omega);obtain⟨s,f,i,j,_,w⟩:=yc (g:=g) (k:=k) (by omega) c;have d:=CE s t;have m:=lA (a:=k) (b:=1);cases n:s.same t<;>rw[n]at d
  ·obtain⟨a,l,o,y,b⟩:=uc t c r (k+1) v A (by omega) (by omega);exact⟨a,l,o,by omega,n8 [10,15,17,(18,.i s.c),21,26] kc e f i j d m (tD A) b⟩
  have z:=EN (A:=A) (v:=v) (ty:=3) (m:=8) (c:=ic k) (show 0<1 by decide) rfl rfl (by simp only[maxLen];omega) (by omega);obtain⟨a,l,o,y,b⟩:=uc t c r (k+1) (v+1) (A++[ic k]) (by omega) (by simp;omega);rw[SJ,show(A++[ic k]).length=A.length+1 by simp,show A.length+1+l.length=A.length+(k::l).length by simp;omega,List.append_assoc]at b;exact⟨a,k::l,λx p=>by
   rcases List.mem_cons.1 p with rfl|p
   ·rw[w,(CD s t).1 n]
   simp_all,by simp;omega,n9 [10,15,17,(18,.i s.c),21,(25,.ok),26] kc e f i j d z m (GG A (ic k)) b⟩
abbrev il:List Nat->PV|[]=>.nils|l=>IA l
def Xl(t:Ty){g:List Ty}(c:g.length<=qA):∀(r k:Nat),k+r=g.length->
  Lp 116 0 0 (st [(0,.pv (JA g)),(3,.loc 0 0),(5,.pv .nils),(8,.pv (num (g.map Ty.c).length)),(9,.pv (num k))] [(0,bx t.c)] 1 []) (.exit 0) (st [(5,.pv .nils)] [] 2 [])\/
  ∃l:List Nat,(∀x∈l,cB g x=.ok t)/\1<=l.length/\l.length<=r/\Lp 116 0 0 (st [(0,.pv (JA g)),(3,.loc 0 0),(5,.pv .nils),(8,.pv (num (g.map Ty.c).length)),(9,.pv (num k))] [(0,bx t.c)] 1 []) (.exit 0) (st [(5,.pv (IA l))] [] 2 [])
 |0,k,h=>by
  have e:fA (.ofNat k) (.ofNat (g.map Ty.c).length)=false:=GA (by simp;omega);exact .inl (x1 [10] ⟨[5],[],2,[]⟩ e)
 |r+1,k,h=>by
  have:=vA;have:=uA;have e:fA (.ofNat k) (.ofNat (g.map Ty.c).length)=true:=NA (by simp;omega);obtain⟨s,d,f,i,_,w⟩:=yc (g:=g) (k:=k) (by omega) c;have b:=CE s t;have j:=lA (a:=k) (b:=1);cases m:s.same t<;>rw[m]at b
  ·rcases Xl t c r (k+1) (by omega)with a|⟨l,n,o,B,a⟩
   ·exact .inl (n7 [10,15,17,(18,.i s.c),21,26] ⟨[0,3,5,8,9],[0],1,[]⟩ e d f i b j a)
   exact .inr ⟨l,n,o,by omega,n7 [10,15,17,(18,.i s.c),21,26] ⟨[0,3,5,8,9],[0],1,[]⟩ e d f i b j a⟩
  right;by_cases y:k=0\/1<=k
  ·obtain⟨v,l,n,o,a⟩:=uc t c r (k+1) 1 [ic k] (by omega) (by simp);have p:=LoopIs.fz (by simp) a 1 (ver:=v) (sz:=1) (ty:=3) (ps:=(k::l).map ic) rfl (by kernel_rfl);simp (decide:=true) only[BF,QE,QC,bx,List.map,yE,and_self,↓reduceIte,List.take_of_length_le (show(ic k::l.map ic).length<=[ic k].length+l.length by simp;omega)]at p;refine⟨k::l,λx u=>?_,by simp,by simp;omega,n8 [10,15,17,(18,.i s.c),21,26] kc e d f i b j (GG [] (ic k)) p⟩;rcases List.mem_cons.1 u with rfl|u
   ·rw[w,(CD s t).1 m]
   simp_all
  omega
def G6(g:List Ty)(t:Ty)(a:g.length<=qA:=by omega):∃l:List Nat,(∀x∈l,cB g x=.ok t)/\l.length<=g.length/\A 116 [JA g,t.p] (IA l):=by
 rcases Xl t a g.length 0 (by omega)with h|⟨l,b,d,c,h⟩
 ·exact⟨[],by simp,by simp,f1 [(100003,.l ⟨[0,3,5,8,9],[0],1,[]⟩ (.exit 0) (st [(5,.pv .nils)] [] 2 []))] h⟩
 exact⟨l,b,c,f1 [(100003,.l ⟨[0,3,5,8,9],[0],1,[]⟩ (.exit 0) (st [(5,.pv (IA l))] [] 2 []))] h⟩
def bc(g:List Ty)(a:List Fm)(f:Fm)(h:a.length<=1000000:=by omega):A 44 [LA g a,f.p] (LA g (a++[f])):=by
 have c:=vc (c:=Fm.c) (n:=5) (m:=88) Fm.c_len (λ_=>rfl) (by decide) a (by omega) (by simp only[maxLen];omega);have d:(Nat.beq 1 1&&Nat.ble (kA (a.map Fm.c)).length (kA (a.map Fm.c)).length&&Nat.beq 40 40&&Nat.beq 5 5&&Nat.blt 0 5&&oC 5 [iA f.c]&&mC [iA f.c]&&Nat.ble ((kA (a.map Fm.c)).length+[iA f.c].length) maxLen&&Nat.ble (((kA (a.map Fm.c)).length+[iA f.c].length)*88) 140737488355328)=true:=
  nR rfl (by decide) rfl rfl (by rw[pvE_len];simp only[List.length_map,maxLen,List.length_singleton];omega) (by rw[pvE_len];grind)
 have b:A 44 [LA g a,f.p] (.agg [JA g,.slice (List.take ((kA (a.map Fm.c)).length+[iA f.c].length) (a.map Fm.c++[f.c]))]):=
  f3 [(9,.ok),(12,.ok),(300001,.f 3 (a.map Fm.c++[f.c]))] c d (Wl (a.map Fm.c) [f.c])
 rw[List.take_of_length_le (by rw[pvE_len];simp)]at b;rw[show LA g (a++[f])=.agg [JA g,.slice (a.map Fm.c++[f.c])] by simp];exact b
def CW(t:Tm)(h:t.cnt<=1000000)(a:t.mx<=qA*qA):A 51 [t.p] (t.sh 0 1).p:=by
 have:=vA;have a:=RD (.eq t t) 0 1 (by omega) (by omega) (by grind[Fm.mx]) (by grind[Fm.cnt]);exact f2 [5,6] (GF t t) a
def I6{t:Ty}(h:t.size<=64):t.size<=yA:=by have:=uA;omega
def J6{g:List Ty}(c:g.length<=16)(a:∀s∈g,s.size<=64):A 132 [LA g []] (.tuple [JA g,.slice [],num 0]):=by
 have:=uA;have b:=li g λt d=>I6 (a t d)
 rw[gj c a]at b;have c:=vc (c:=Ty.c) (n:=2) (m:=32) Ty.c_len (λ_=>rfl) (by decide) g (by omega) (by simp only[maxLen];omega);have a:A 132 [LA g []] (.tuple [.slice (List.take (kA (g.map Ty.c)).length (g.map Ty.c)),.slice [],num 0]):=
  f3 [12,(23,.ok),(300006,.f 1 (g.map Ty.c))] b c (show kA (g.map Ty.c)=kA (g.map Ty.c)from rfl)
 rw[pvE_len,List.take_length]at a;exact a
def Yl{g:List Ty}(b:g.length<=16)(a:∀s∈g,s.size<=64):A 22 [LA g []] (.tuple [LA g [],num 0]):=by
 have h:=J6 b a;have a:A 68 [LA g []] (.tuple [JA g,num 0]):=f1 [9] h;have b:A 69 [LA g []] (.tuple [.slice [],num 0]):=f1 [9] h;have c:=rD (a:=(g.map Ty.c).length) (b:=(g.map Ty.c).length) (z:=.ofNat 0) (by simp;have:=uA;omega) (by simp;have:=uA;omega) (by simp);have d:fA 16 (.ofNat (g.map Ty.c).length)=false:=GA (by simp;omega);exact f4 [18,27,37,93] a b c d
end Go.Proofs.YtmihmecnjjmdgaaGreatDoor
