/- Contracts of functions; no conditions. -/
import Derived.Test.YtmihmecnjjmdgaaGreatDoorAgainC6
set_option linter.all false
set_option maxHeartbeats 4000000
namespace Go.Proofs.YtmihmecnjjmdgaaGreatDoor
open Go.Lg
set_option maxRecDepth 100000
def Fm.both:Fm->Bool|.bin _ x y=>x.has&&y.has|_=>false
def YI(f:Fm)(t:Tm):Tm:=match f with|.q _ u (.q _ w x)=>bif x.has then .n2 .app (.lam (.two true u (.two false w x.cty)) (eH u)) t else t|_=>t
def Fm.qs:Fm->Ty|.q _ s _=>s|_=>.unit
def Sc.hy(s:Sc)(i:Nat):Tm:=match s.ks[s.ks.length-1-i]? with|some (.hy t d _)=>t.sh 0 (.ofNat (s.dep-d))|_=>.n0 .unit
def Jt.xt(tl:List Tm):Jt->Sc->Tm
 |.leaf u i _,s=>match u with
  |false=>s.hy i|true=>match tl[i]? with|some t=>t|none=>.n0 .unit
 |.refl _,_=>.n0 .unit|.p1 k a _,s=>match k with|.andL=>bif a.f.both then .n1 .fst (a.xt tl s)else a.xt tl s|.andR=>bif a.f.both then .n1 .snd (a.xt tl s)else a.xt tl s|.choice=>YI a.f (a.xt tl s)
 |.p2 k a b _,s=>match k with|.andI=>bif a.f.has then(bif b.f.has then .n2 .pair (a.xt tl s) (b.xt tl s)else a.xt tl s)else b.xt tl s|.impE=>bif b.f.has then .n2 .app (a.xt tl s) (b.xt tl s)else a.xt tl s|.exE=>bif a.f.bd.has then .n2 .app (.lam (.two false a.f.qs a.f.bd.cty) (b.xt tl ((s.bind.var (.n1 .fst (.v 0))).hyp (.n1 .snd (.v 0))))) (a.xt tl s)else .n2 .app (.lam a.f.qs (b.xt tl (s.bind.var (.v 0)).bare)) (a.xt tl s)|.exUE=>bif a.f.bd.has then .n2 .app (.lam a.f.bd.cty (b.xt tl ((s.bind.var a.f.qs.ini).hyp (.v 0)))) (a.xt tl s)else b.xt tl (s.var a.f.qs.ini).bare
 |.impI x a,s=>bif x.has then .lam x.cty (a.xt tl (s.bind.hyp (.v 0)))else a.xt tl s.bare|.all u t a,s=>match u with|false=>.lam t (a.xt tl (s.bind.var (.v 0)))|true=>a.xt tl (s.var t.ini)
 |.ins u t a _,s=>match u with|false=>.n2 .app (a.xt tl s) (t.ps s.vs s.dep 0)|true=>a.xt tl s
 |.ex u _ t a,s=>match u with|false=>bif a.f.has then .n2 .pair (t.ps s.vs s.dep 0) (a.xt tl s)else t.ps s.vs s.dep 0|true=>a.xt tl s
 |.ind l x t a b _,s=>match l with|false=>.n3 .re x.cty (a.xt tl s) (.lam .nat (.lam x.cty (b.xt tl ((s.bind.var (.v 0)).bind.hyp (.v 0))))) (t.ps s.vs s.dep 0)|true=>.n3 .fo x.cty (a.xt tl s) (.lam .nat (.lam .list (.lam x.cty (b.xt tl (((s.bind.var (.v 0)).bind.var (.v 0)).bind.hyp (.v 0)))))) (t.ps s.vs s.dep 0)
 |.subst _ _ b _,s=>b.xt tl s
def dD(tl:List Tm)(l:Bool)(x:Fm)(a b:Jt)(s:Sc)(n:Tm):Tm:=match l with|false=>.n3 .re x.cty (a.xt tl s) (.lam .nat (.lam x.cty (b.xt tl ((s.bind.var (.v 0)).bind.hyp (.v 0))))) n|true=>.n3 .fo x.cty (a.xt tl s) (.lam .nat (.lam .list (.lam x.cty (b.xt tl (((s.bind.var (.v 0)).bind.var (.v 0)).bind.hyp (.v 0)))))) n
abbrev BT(tl:List Tm)(hs:List Fm)(j:Jt)(s:Sc):Prop:=∃r:XR,A 211 [aA tl,j.ptr hs,s.p] r.p/\r.Gd s.dep (j.xt tl s)
def Va{n:Nat}{b:List Bool}{s:Sc}{t:Tm}(a:ScOK n b s)(b:TK n t):(XR.fit (t.ps s.vs s.dep 0)).Gd s.dep (t.ps s.vs s.dep 0):=by
 have c:t.sc (s.vs.length+0):=by rw[a.vl];exact b.sc
 exact fK (jI a.ve t 0 b.shp) (vI a.ve t 0 c) rfl
def QN{a b:Tm}{c:Bool}(h:c=true):(bif c then a else b)=a:=by rw[h];rfl
def HP{a b:Tm}{c:Bool}(h:c=false):(bif c then a else b)=b:=by rw[h];rfl
def Tm.c_len(t:Tm):t.c.length=5:=rfl
def JV(f:Fm):1<=f.cnt:=by cases f<;>simp[Fm.cnt]<;>omega
def Lj{tl:List Tm}{l:Bool}{x:Fm}{t T:Tm}{a b:Jt}{f:Fm}{n:Nat}{hs:List Fm}{s:Sc}(J:FK (n+1) x)(h:x.has=true)(z:ScOK n (hs.map Fm.has) s)(e:TK s.dep T)(P:n+1<=90000)(Q:hs.length+2<=qA)(R:s.dep+4<=90000)(S:s.hyps+2<=qA)
  (K:BT tl hs a s) (G:match l with|false=>BT tl (bA 1 hs++[x]) b ((s.bind.var (.v 0)).bind.hyp (.v 0))|true=>BT tl (bA 2 hs++[x.sh 1 (.ofNat 1)]) b (((s.bind.var (.v 0)).bind.var (.v 0)).bind.hyp (.v 0))):
  ∃r:XR,A 213 [aA tl,(Jt.ind l x t a b f).ptr hs,s.p,T.p] r.p/\r.Gd s.dep (dD tl l x a b s T):=by
 have V:=vA;have L:cA=100000:=rfl;have M:s.ks.length=hs.length:=by have:=z.kl;simpa using this
 obtain⟨U,w,N,O,zt⟩:=wI J;obtain⟨r,B,d⟩:=K
 cases U with
 |er m=>exact⟨.er .z m,by cases l<;>exact B0 w,O _ rfl⟩|ok u=>
  have y:u.size<=64:=N
  cases r with
  |er q m=>exact⟨.er .z m,by cases l<;>exact C0 w B,d⟩|ok v=>
   have H:=z.bind.var (t:=.v 0) (uC (by show 0<s.dep+1;omega));have I:=SL s;have gv:=bK s.bind (.v 0) (by rw[z.bind.vl];omega);have i:=SL (s.bind.var (.v 0)) (by show s.dep+1<=qA;omega);cases l
   ·have C:=FP (s.bind.var (.v 0)).bind (.v 0) (by show s.ks.length<=qA;omega) (by show s.hyps<=qA;omega);obtain⟨j,D,o⟩:=G;have g:=D0 (tl:=tl) (hs:=hs) (s:=s) (a:=a) (b:=b) (x:=x) (y:=a.f) (z:=b.f) (f:=f) (w:=t) e.cnt w B d.1.cnt I gv i C D o.cn;have c:((j.lam u).lam .nat).Gd s.dep _:=XI (by decide) (XI y o);refine⟨_,g,?_⟩
    cases p:(j.lam u).lam .nat with
    |er q m=>rw[p]at c;exact c|ok k=>
     rw[p]at c;refine fK ?_ ⟨d.1.sc,c.1.sc,e.sc⟩ (by rw[d.2,c.2,zt u rfl h];rfl);show(Nat.beq u.chk 0&&(_&&(_&&_)))=true;rw[NN y,d.1.shp,c.1.shp,e.shp];rfl
   have W:=H.bind.var (t:=.v 0) (uC (by show 0<s.dep+1+1;omega));have E:=bK (s.bind.var (.v 0)).bind (.v 0) (by rw[H.bind.vl];omega);have F:=SL ((s.bind.var (.v 0)).bind.var (.v 0)) (by show s.dep+1+1<=qA;omega);have C:=FP ((s.bind.var (.v 0)).bind.var (.v 0)).bind (.v 0) (by show s.ks.length<=qA;omega) (by show s.hyps<=qA;omega);obtain⟨j,D,o⟩:=G;have g:=F0 (tl:=tl) (hs:=hs) (s:=s) (a:=a) (b:=b) (x:=x) (y:=a.f) (z:=b.f) (f:=f) (w:=t) e.cnt w B d.1.cnt I gv i E F C D o.cn;have c:(((j.lam u).lam .list).lam .nat).Gd s.dep _:=XI (by decide) (XI (by decide) (XI y o));refine⟨_,g,?_⟩
   cases p:((j.lam u).lam .list).lam .nat with
   |er q m=>rw[p]at c;exact c|ok k=>
    rw[p]at c;refine fK ?_ ⟨d.1.sc,c.1.sc,e.sc⟩ (by rw[d.2,c.2,zt u rfl h];rfl);show(Nat.beq u.chk 0&&(_&&(_&&_)))=true;rw[NN y,d.1.shp,c.1.shp,e.shp];rfl
def bC{ls:List Fm}{tl:List Tm}(H:∀(i:Nat)(f:Fm),ls[i]? =some f->∃t,tl[i]? =some t/\TK 0 t):∀(j:Jt)(n:Nat)(hs:List Fm)(s:Sc),j.OK ls n hs->j.f.has=true->ScOK n (hs.map Fm.has) s->n+j.p.cnt<=90000->hs.length+j.p.cnt<=qA->s.dep+j.p.cnt<=90000->s.hyps+j.p.cnt<=qA->BT tl hs j s
 |.leaf u i f,n,hs,s,h,C,o,L,M,N,O=>by
  have hm:=vA;have hb:=uA;have S:cA=100000:=rfl;simp only[Jt.p,Pf.cnt]at L M N O;obtain⟨X,h⟩:=h;replace C:f.has=true:=C;cases u
  ·obtain⟨K,I⟩:=h;have hk:(hs.map Fm.has)[hs.length-1-i]? =some true:=by rw[List.getElem?_map,I];simp_all
   obtain⟨t,d,p,e⟩:=o.kh _ hk;obtain⟨z,U⟩:=o.ke _ (List.mem_of_getElem? e) t d p rfl;have E:=SC (a:=(hs.map Fm.c).length) (by simp;omega) (by simp;omega);have F:eA (Int.ofNat ((hs.map Fm.c).length-1)-.ofNat i)=true/\Int.ofNat ((hs.map Fm.c).length-1)-.ofNat i=.ofNat (hs.length-1-i):=by
    have e:Int.ofNat ((hs.map Fm.c).length-1)-.ofNat i=.ofNat (hs.length-1-i):=by simp;omega
    grind[xA]
   have G:=cz s _ t d p e z (by omega) U;have J:=U.sh (s.dep-d);have ed:d+(s.dep-d)=s.dep:=by omega
   rw[ed]at J;have ex:s.hy i=t.sh 0 (.ofNat (s.dep-d)):=by
    unfold Sc.hy;rw[show s.ks.length=hs.length by have:=o.kl;simp_all,e]
   refine⟨.ok (t.sh 0 (.ofNat (s.dep-d))),f3 [38,44,45] E F G,J,ex.symm⟩
  obtain⟨t,e,q⟩:=H i f h;exact⟨.ok t,f1 [(58,.i t.c)] (vB e Tm.c_len),pz q (Nat.zero_le _),by show t=(match tl[i]? with|some t=>t|none=>.n0 .unit);rw[e]⟩
 |.refl t,n,hs,s,h,C,o,L,M,N,O=>by
  have C:false=true:=C;cases C
 |.p1 k a f,n,hs,s,⟨X,K,I⟩,C,o,L,M,N,O=>by
  have hm:=vA;have S:cA=100000:=rfl;simp only[Jt.p,Pf.cnt]at L M N O;replace C:f.has=true:=C;have P:=Jt.FKj K;cases k
  ·obtain⟨y,e⟩:=I;have D:a.f.has=true:=by rw[e];show(f.has||y.has)=true;rw[C];rfl
   obtain⟨r,E,z⟩:=bC H a n hs s K D o (by omega) (by omega) (by omega) (by omega);rw[e]at P;obtain⟨t0,F,_⟩:=wI P.bin1;obtain⟨t1,G,_⟩:=wI P.bin2;rw[C]at F;cases hy:y.has<;>rw[hy]at G
   ·have g:=Dz (tl:=tl) (hs:=hs) (s:=s) (a:=a) (f:=f) (y:=y) (ra:=r) (by rw[<-e];exact E) F G z.cn;rw[<-e]at g;have ex:(Jt.p1 .andL a f).xt tl s=a.xt tl s:=HP (by rw[e];show(f.has&&y.has)=false;rw[C,hy];rfl);rw[BT,ex];exact⟨_,g,z⟩
   have g:=Cz (tl:=tl) (hs:=hs) (s:=s) (a:=a) (f:=f) (y:=y) (ra:=r) (by rw[<-e];exact E) F G z.cn;rw[<-e]at g;have ex:(Jt.p1 .andL a f).xt tl s=.n1 .fst (a.xt tl s):=QN (by rw[e];show(f.has&&y.has)=true;rw[C,hy];rfl);rw[BT,ex];exact⟨_,g,Kj z⟩
  ·obtain⟨y,e⟩:=I;have D:a.f.has=true:=by rw[e];show(y.has||f.has)=true;rw[C];cases y.has<;>rfl
   obtain⟨r,E,z⟩:=bC H a n hs s K D o (by omega) (by omega) (by omega) (by omega);rw[e]at P;obtain⟨t0,F,_⟩:=wI P.bin1;obtain⟨t1,G,_⟩:=wI P.bin2;rw[C]at G;cases hy:y.has<;>rw[hy]at F
   ·have g:=Fz (tl:=tl) (hs:=hs) (s:=s) (a:=a) (f:=f) (y:=y) (ra:=r) (by rw[<-e];exact E) F G z.cn;rw[<-e]at g;have ex:(Jt.p1 .andR a f).xt tl s=a.xt tl s:=HP (by rw[e];show(y.has&&f.has)=false;rw[C,hy];rfl);rw[BT,ex];exact⟨_,g,z⟩
   have g:=Ez (tl:=tl) (hs:=hs) (s:=s) (a:=a) (f:=f) (y:=y) (ra:=r) (by rw[<-e];exact E) F G z.cn;rw[<-e]at g;have ex:(Jt.p1 .andR a f).xt tl s=.n1 .snd (a.xt tl s):=QN (by rw[e];show(y.has&&f.has)=true;rw[C,hy];rfl);rw[BT,ex];exact⟨_,g,Kj z⟩
  obtain⟨u,w,x,e,y,e1,e2⟩:=I;have D:a.f.has=true:=by rw[e];rfl
  obtain⟨r,E,z⟩:=bC H a n hs s K D o (by omega) (by omega) (by omega) (by omega);rw[e]at P;have sw:=aD (DA P.qf.shp).1;have su:=aD (DA P.shp).1;obtain⟨T,F,z2,Y,zt⟩:=wI P.qf.qf;have ex:(Jt.p1 .choice a f).xt tl s=bif x.has then .n2 .app (.lam (.two true u (.two false w x.cty)) (eH u)) (a.xt tl s)else a.xt tl s:=by show YI a.f _=_;rw[e];rfl
  rw[BT,ex]
  cases r with
  |er q m=>
   have g:=G0 (tl:=tl) (hs:=hs) (s:=s) (a:=a) (f:=f) (u:=u) (w:=w) (x:=x) (q:=q) (n:=m) (by rw[<-e];exact E);rw[<-e]at g;exact⟨_,g,by first|exact Y _ rfl|exact ON ‹_›|exact z⟩
  |ok t=>
   have U:=z
   cases T with
   |er m=>
    have g:=I0 (tl:=tl) (hs:=hs) (s:=s) (a:=a) (f:=f) (u:=u) (w:=w) (x:=x) (t:=t) (by rw[<-e];exact E) F;rw[<-e]at g;exact⟨_,g,by first|exact Y _ rfl|exact ON ‹_›|exact z⟩
   |ok v=>
    cases Z:x.has<;>rw[Z]at F
    ·have g:=J0 (tl:=tl) (hs:=hs) (s:=s) (a:=a) (f:=f) (u:=u) (w:=w) (x:=x) (t:=t) (by rw[<-e];exact E) F;rw[<-e]at g;exact⟨_,g,U⟩
    have hv:v.size<=64:=z2;have hvc:=zt v rfl Z;have G:=Ij w v
    cases V:TR.fit (.two false w v)with
    |er m=>
     rw[V]at G;have g:=L0 (tl:=tl) (hs:=hs) (s:=s) (a:=a) (f:=f) (u:=u) (w:=w) (x:=x) (t:=t) (by rw[<-e];exact E) F G;rw[<-e]at g;exact⟨_,g,by first|exact Y _ rfl|exact ON ‹_›|exact z⟩
    |ok k=>
     rw[V]at G;have hk:k.size<=64/\k=.two false w v:=by
      unfold TR.fit at V;split at V
      ·rename_i h;cases V;exact⟨h,rfl⟩
      cases V
     have g4:=iz u k (by have:=hk.1;omega)
     cases e4:TR.fit (.two true u k)with
     |er m=>
      rw[e4]at g4;have g:=M0 (tl:=tl) (hs:=hs) (s:=s) (a:=a) (f:=f) (u:=u) (w:=w) (x:=x) (t:=t) (by rw[<-e];exact E) F G g4;rw[<-e]at g;exact⟨_,g,by first|exact Y _ rfl|exact ON ‹_›|exact z⟩
     |ok m=>
      rw[e4]at g4;have hm':m.size<=64/\m=.two true u k:=by
       unfold TR.fit at e4;split at e4
       ·rename_i h;cases e4;exact⟨h,rfl⟩
       cases e4
      have g:=N0 (tl:=tl) (hs:=hs) (s:=s) (a:=a) (f:=f) (u:=u) (w:=w) (x:=x) (t:=t) (by rw[<-e];exact E) z.1.cnt F G g4;rw[<-e]at g;refine⟨_,g,fK ?_ ?_ ?_⟩
      ·show(Nat.beq m.chk 0&&((Nat.beq u.chk 0&&_)&&(Nat.beq u.chk 0&&_))&&_)=true;rw[NN hm'.1,NN su,U.1.shp];rfl
      ·refine⟨⟨⟨?_,?_⟩,?_,?_⟩,U.1.sc⟩<;>simp only[Tm.sc]<;>omega
      rw[hm'.2,hk.2,hvc,U.2];rfl
 |.p2 k a b f,n,hs,s,⟨X,K,I⟩,C,o,L,M,N,O=>by
  have hm:=vA;have S:cA=100000:=rfl;simp only[Jt.p,Pf.cnt]at L M N O;have ca:=VR a.p;have cb:=VR b.p;replace C:f.has=true:=C;have hkl:s.ks.length=hs.length:=by have:=o.kl;simpa using this
  have P:=Jt.FKj K;cases k
  ·obtain⟨R,e⟩:=I;subst e;have hor:a.f.has=true\/b.f.has=true:=by have:(a.f.has||b.f.has)=true:=C;simpa using this
   cases D:a.f.has
   ·have A:b.f.has=true:=by rcases hor with h|h;rw[D]at h;cases h;exact h
    obtain⟨r,E,z⟩:=bC H b n hs s R A o (by omega) (by omega) (by omega) (by omega);exact⟨_,Bz D E,by show r.Gd s.dep (bif a.f.has then _ else _);rw[HP D];exact z⟩
   obtain⟨r,E,z⟩:=bC H a n hs s K D o (by omega) (by omega) (by omega) (by omega);cases A:b.f.has
   ·exact⟨_,Az D A E,by show r.Gd s.dep (bif a.f.has then(bif b.f.has then _ else _)else _);rw[QN D,HP A];exact z⟩
   obtain⟨r2,F,U⟩:=bC H b n hs s R A o (by omega) (by omega) (by omega) (by omega);exact⟨_,xz D A E F z.cn U.cn,by show XR.Gd s.dep (bif a.f.has then(bif b.f.has then _ else _)else _) _;rw[QN D,QN A];exact PN z U⟩
  ·obtain⟨R,x,e⟩:=I;have D:a.f.has=true:=by rw[e];exact C
   obtain⟨r,E,z⟩:=bC H a n hs s K D o (by omega) (by omega) (by omega) (by omega);cases A:b.f.has
   ·have g:=Jz (tl:=tl) (hs:=hs) (s:=s) (a:=a) (b:=b) (x:=x) (y:=b.f) (f:=f) (ra:=r) A (by rw[<-e];exact E);rw[<-e]at g;exact⟨_,g,by show r.Gd s.dep (bif b.f.has then _ else _);rw[HP A];exact z⟩
   obtain⟨r2,F,U⟩:=bC H b n hs s R A o (by omega) (by omega) (by omega) (by omega);have g:=Kz (tl:=tl) (hs:=hs) (s:=s) (a:=a) (b:=b) (x:=x) (y:=b.f) (f:=f) (ra:=r) (rb:=r2) A (by rw[<-e];exact E) F z.cn U.cn;rw[<-e]at g;exact⟨_,g,by show XR.Gd s.dep (bif b.f.has then _ else _) _;rw[QN A];exact PN z U⟩
  ·obtain⟨R,⟨u,e⟩,e1⟩:=I;have ex:(Jt.p2 .exE a b f).xt tl s=bif a.f.bd.has then .n2 .app (.lam (.two false a.f.qs a.f.bd.cty) (b.xt tl ((s.bind.var (.n1 .fst (.v 0))).hyp (.n1 .snd (.v 0))))) (a.xt tl s)else .n2 .app (.lam a.f.qs (b.xt tl (s.bind.var (.v 0)).bare)) (a.xt tl s):=rfl;rw[BT,ex];have eu:a.f.qs=u:=by rw[e];rfl
   rw[eu];generalize Z:a.f.bd=x at *
   have D:a.f.has=true:=by rw[e];rfl
   have A:b.f.has=true:=by rw[<-SA (IF e1)];exact C
   rw[e]at P;have su:=aD (DA P.shp).1;obtain⟨T,F,z2,Y,zt⟩:=wI P.qf;have gs:=SL s
   cases T with
   |er m=>
    have g:=Tz (tl:=tl) (hs:=hs) (s:=s) (a:=a) (b:=b) (u:=u) (x:=x) (y:=b.f) (f:=f) F;rw[<-e,<-Z]at g;exact⟨_,g,by first|exact Y _ rfl|exact ON ‹_›|exact z⟩
   |ok w=>
    have hw:w.size<=64:=z2;obtain⟨r,E,z⟩:=bC H a n hs s K D o (by omega) (by omega) (by omega) (by omega);cases B:x.has<;>rw[B]at F
    ·have Q:=(o.bind.var (t:=.v 0) (uC (by show 0<s.dep+1;omega))).bare;have gv:=bK s.bind (.v 0) (by rw[o.bind.vl];omega);have gh:=FV (s.bind.var (.v 0)) (by show s.ks.length<=qA;omega) (by show s.hyps<=qA;omega);obtain⟨r2,G,J⟩:=bC H b (n+1) _ _ R A (by rw[List.map_append,XD,List.map_cons,B];exact Q) (by omega) (by simp;omega) (by show s.dep+1+_<=_;omega) (by show s.hyps+1+_<=_;omega);have g:=Wz (tl:=tl) (hs:=hs) (s:=s) (a:=a) (b:=b) (u:=u) (x:=x) (y:=b.f) (f:=f) F gs gv gh G J.cn (by rw[<-e];exact E) z.cn;rw[<-e,<-Z]at g;exact⟨_,g,PN (XI su J) z⟩
    have W:=Ij u w
    cases V:TR.fit (.two false u w)with
    |er m=>
     rw[V]at W;have g:=Uz (tl:=tl) (hs:=hs) (s:=s) (a:=a) (b:=b) (u:=u) (x:=x) (y:=b.f) (f:=f) F gs W;rw[<-e,<-Z]at g;exact⟨_,g,by first|exact Y _ rfl|exact ON ‹_›|exact z⟩
    |ok k=>
     rw[V]at W;unfold TR.fit at V;split at V;rotate_left
     ·cases V
     rename_i hk;cases V;have hz:TK (s.dep+1) (.v 0):=uC;have S0:=o.bind.var (t:=.n1 .fst (.v 0)) (uK hz (by simp[Tm.cnt]));have Q:=S0.hyp (t:=.n1 .snd (.v 0)) (uK hz (by simp[Tm.cnt])) true;have gv:=bK s.bind (.n1 .fst (.v 0)) (by rw[o.bind.vl];omega);have gh:=FP (s.bind.var (.n1 .fst (.v 0))) (.n1 .snd (.v 0)) (by show s.ks.length<=qA;omega) (by show s.hyps<=qA;omega);obtain⟨r2,G,J⟩:=bC H b (n+1) _ _ R A (by rw[List.map_append,XD,List.map_cons,B];exact Q) (by omega) (by simp;omega) (by show s.dep+1+_<=_;omega) (by show s.hyps+1+_<=_;omega);have g:=Vz (tl:=tl) (hs:=hs) (s:=s) (a:=a) (b:=b) (u:=u) (x:=x) (y:=b.f) (f:=f) F gs W gv gh G J.cn (by rw[<-e];exact E) z.cn;rw[<-e,<-Z]at g;rw[zt w rfl B]at g hk;exact⟨_,g,PN (XI hk J) z⟩
  obtain⟨R,⟨u,e⟩,e1⟩:=I;have ex:(Jt.p2 .exUE a b f).xt tl s=bif a.f.bd.has then .n2 .app (.lam a.f.bd.cty (b.xt tl ((s.bind.var a.f.qs.ini).hyp (.v 0)))) (a.xt tl s)else b.xt tl (s.var a.f.qs.ini).bare:=rfl;rw[BT,ex];have eu:a.f.qs=u:=by rw[e];rfl
  rw[eu];generalize Z:a.f.bd=x at *
  have A:b.f.has=true:=by rw[<-SA (IF e1)];exact C
  rw[e]at P;have su:=aD (DA P.shp).1;obtain⟨T,F,z2,Y,zt⟩:=wI P.qf;have gs:=SL s
  cases T with
  |er m=>
   have g:=Xz (tl:=tl) (hs:=hs) (s:=s) (a:=a) (b:=b) (u:=u) (x:=x) (y:=b.f) (f:=f) F;rw[<-e,<-Z]at g;exact⟨_,g,by first|exact Y _ rfl|exact ON ‹_›|exact z⟩
  |ok w=>
   have hw:w.size<=64:=z2;cases B:x.has<;>rw[B]at F
   ·have Q:=(o.var (t:=u.ini) (nF u su s.dep)).bare;have gv:=bK s u.ini (by rw[o.vl];omega);have gh:=FV (s.var u.ini) (by show s.ks.length<=qA;omega) (by show s.hyps<=qA;omega);obtain⟨r2,G,J⟩:=bC H b (n+1) _ _ R A (by rw[List.map_append,XD,List.map_cons,B];exact Q) (by omega) (by simp;omega) (by show s.dep+_<=_;omega) (by show s.hyps+1+_<=_;omega);have g:=Yz (tl:=tl) (hs:=hs) (s:=s) (a:=a) (b:=b) (u:=u) (x:=x) (y:=b.f) (f:=f) F gv gh G;rw[<-e,<-Z]at g;exact⟨_,g,J⟩
   have D:a.f.has=true:=by rw[e];exact B
   obtain⟨r,E,z⟩:=bC H a n hs s K D o (by omega) (by omega) (by omega) (by omega);have S0:=o.bind.var (t:=u.ini) (nF u su _);have Q:=S0.hyp (t:=.v 0) (uC (by show 0<s.dep+1;omega)) true;have gv:=bK s.bind u.ini (by rw[o.bind.vl];omega);have gh:=FP (s.bind.var u.ini) (.v 0) (by show s.ks.length<=qA;omega) (by show s.hyps<=qA;omega);obtain⟨r2,G,J⟩:=bC H b (n+1) _ _ R A (by rw[List.map_append,XD,List.map_cons,B];exact Q) (by omega) (by simp;omega) (by show s.dep+1+_<=_;omega) (by show s.hyps+1+_<=_;omega);have g:=Zz (tl:=tl) (hs:=hs) (s:=s) (a:=a) (b:=b) (u:=u) (x:=x) (y:=b.f) (f:=f) F gs gv gh G J.cn (by rw[<-e];exact E) z.cn;rw[<-e,<-Z]at g;rw[zt w rfl B]at g hw;exact⟨_,g,PN (XI hw J) z⟩
 |.impI x a,n,hs,s,⟨X,K,I⟩,C,o,L,M,N,O=>by
  have hm:=vA;have S:cA=100000:=rfl;simp only[Jt.p,Pf.cnt]at L M N O;have hkl:s.ks.length=hs.length:=by have:=o.kl;simpa using this
  have D:a.f.has=true:=C;have ex:(Jt.impI x a).xt tl s=bif x.has then .lam x.cty (a.xt tl (s.bind.hyp (.v 0)))else a.xt tl s.bare:=rfl;rw[BT,ex];obtain⟨T,F,z2,Y,zt⟩:=wI X
  cases T with
  |er m=>exact⟨_,Gz F,Y _ rfl⟩|ok u=>
   have hu:u.size<=64:=z2;cases B:x.has<;>rw[B]at F
   ·have Q:=o.bare;have gh:=FV s;obtain⟨r2,G,J⟩:=bC H a n _ _ I D (by rw[List.map_append,List.map_cons,B];exact Q) (by omega) (by simp;omega) (by show s.dep+_<=_;omega) (by show s.hyps+1+_<=_;omega);exact⟨_,Hz F gh G,J⟩
   have Q:=o.bind.hyp (t:=.v 0) (uC (by show 0<s.dep+1;omega)) true;have gs:=SL s;have gh:=FP s.bind (.v 0) (by show s.ks.length<=qA;omega) (by show s.hyps<=qA;omega);obtain⟨r2,G,J⟩:=bC H a n _ _ I D (by rw[List.map_append,List.map_cons,B];exact Q) (by omega) (by simp;omega) (by show s.dep+1+_<=_;omega) (by show s.hyps+1+_<=_;omega);rw[zt u rfl B]at F hu;exact⟨_,Iz F gs gh G J.cn,XI hu J⟩
 |.all c u a,n,hs,s,⟨X,K,I⟩,C,o,L,M,N,O=>by
  have hm:=vA;simp only[Jt.p,Pf.cnt]at L M N O;cases c
  ·have D:a.f.has=true:=C;have Q:=o.bind.var (t:=.v 0) (uC (by show 0<s.dep+1;omega));have gs:=SL s;have gv:=bK s.bind (.v 0) (by rw[o.bind.vl];omega);obtain⟨r2,G,J⟩:=bC H a (n+1) _ _ I D (by rw[XD];exact Q) (by omega) (by simp;omega) (by show s.dep+1+_<=_;omega) (by show s.hyps+_<=_;omega);exact⟨_,Lz gs gv G J.cn,XI X J⟩
  have D:a.f.has=true:=C;have Q:=o.var (t:=u.ini) (nF u X s.dep);have gv:=bK s u.ini (by rw[o.vl];omega);obtain⟨r2,G,J⟩:=bC H a (n+1) _ _ I D (by rw[XD];exact Q) (by omega) (by simp;omega) (by show s.dep+_<=_;omega) (by show s.hyps+_<=_;omega);exact⟨_,Mz gv G,J⟩
 |.ins c t a f,n,hs,s,⟨X,K,I,u,x,e,e1⟩,C,o,L,M,N,O=>by
  have hm:=vA;have S:cA=100000:=rfl;simp only[Jt.p,Pf.cnt]at L M N O;replace C:f.has=true:=C;have B:x.has=true:=by rw[<-SA (DC e1)];exact C
  cases c
  ·have D:a.f.has=true:=by rw[e];exact B
   obtain⟨r,E,z⟩:=bC H a n hs s I D o (by omega) (by omega) (by omega) (by omega);have e:a.f=.q .all u x:=e;have W:=qS s t n o.vl.symm o.ve (by omega) (by rw[o.vl];omega) K;have qp:(XR.fit (t.ps s.vs s.dep 0)).Gd s.dep (t.ps s.vs s.dep 0):=Va o K;have g:=Nz (tl:=tl) (hs:=hs) (s:=s) (a:=a) (w:=t) (u:=u) (x:=x) (f:=f) (by rw[<-e];exact E) W z.cn qp.cn;rw[<-e]at g;exact⟨_,g,PN z qp⟩
  have D:a.f.has=true:=by rw[e];exact B
  obtain⟨r,E,z⟩:=bC H a n hs s I D o (by omega) (by omega) (by omega) (by omega);have e:a.f=.q .allU u x:=e;have g:=Oz (tl:=tl) (hs:=hs) (s:=s) (a:=a) (w:=t) (u:=u) (x:=x) (f:=f) (by rw[<-e];exact E);rw[<-e]at g;exact⟨_,g,z⟩
 |.ex c x t a,n,hs,s,⟨X,K,I,⟨u,e⟩,e1⟩,C,o,L,M,N,O=>by
  have hm:=vA;have S:cA=100000:=rfl;simp only[Jt.p,Pf.cnt]at L M N O;replace C:x.has=true:=C;cases c
  ·have W:=qS s t n o.vl.symm o.ve (by omega) (by rw[o.vl];omega) K;have qp:(XR.fit (t.ps s.vs s.dep 0)).Gd s.dep (t.ps s.vs s.dep 0):=Va o K;cases D:a.f.has
   ·exact⟨_,Pz D W,by show XR.Gd s.dep (bif a.f.has then _ else _) _;rw[HP D];exact qp⟩
   obtain⟨r,E,z⟩:=bC H a n hs s I D o (by omega) (by omega) (by omega) (by omega);exact⟨_,Qz D E W z.cn qp.cn,by show XR.Gd s.dep (bif a.f.has then _ else _) _;rw[QN D];exact PN qp z⟩
  have D:a.f.has=true:=by
   rw[SA e1];rw[e]at C;exact C
  obtain⟨r,E,z⟩:=bC H a n hs s I D o (by omega) (by omega) (by omega) (by omega);exact⟨_,Rz E,z⟩
 |.ind l x t a b f,n,hs,s,⟨X,K,I,R,e,⟨ea,eb⟩,h4⟩,C,o,L,M,N,O=>by
  have hm:=vA;have S:cA=100000:=rfl;simp only[Jt.p,Pf.cnt]at L M N O;have ct:=DE t;have cx:=JV x;have ca:=VR a.p;have hkl:s.ks.length=hs.length:=by have:=o.kl;simpa using this
  replace C:f.has=true:=C;have B:x.has=true:=by rw[<-SA (DC e)];exact C
  have D:a.f.has=true:=by rw[SA ea];exact B
  have A:b.f.has=true:=by rw[SA eb];exact B
  have W:=qS s t n o.vl.symm o.ve (by omega) (by rw[o.vl];omega) I;have qp:(XR.fit (t.ps s.vs s.dep 0)).Gd s.dep (t.ps s.vs s.dep 0):=Va o I;generalize XR.fit (t.ps s.vs s.dep 0)=rp at W qp
  cases rp with
  |er q m=>exact⟨_,j0 W,qp⟩|ok tp=>
   have S0:=o.bind.var (t:=.v 0) (uC (by show 0<s.dep+1;omega));obtain⟨r,g,q⟩:=Lj (tl:=tl) (l:=l) (t:=t) (a:=a) (b:=b) (f:=f) K B o qp.1 (by omega) (by omega) (by omega) (by omega) (bC H a n hs s R D o (by omega) (by omega) (by omega) (by omega)) (by
    cases l
    ·exact bC H b (n+1) _ _ h4 A (by rw[List.map_append,XD,List.map_cons,B];exact S0.bind.hyp (t:=.v 0) (uC (by show 0<s.dep+1+1;omega)) true) (by omega) (by simp;omega) (by show s.dep+1+1+_<=_;omega) (by show s.hyps+1+_<=_;omega)
    have hxs:(x.sh 1 (.ofNat 1)).has=true:=by rw[SA (SD _ x 1)];exact B
    exact bC H b (n+2) _ _ h4 A (by rw[List.map_append,XD,List.map_cons,hxs];exact(S0.bind.var (t:=.v 0) (uC (by show 0<s.dep+1+1;omega))).bind.hyp (t:=.v 0) (uC (by show 0<s.dep+1+1+1;omega)) true) (by omega) (by simp;omega) (by show s.dep+1+1+1+_<=_;omega) (by show s.hyps+1+_<=_;omega))
   refine⟨r,y0 W g,?_⟩;have e:(Jt.ind l x t a b f).xt tl s=dD tl l x a b s (t.ps s.vs s.dep 0):=by cases l<;>rfl
   rw[e,<-qp.2];exact q
 |.subst x a b f,n,hs,s,⟨X,K,I,R,eb,t,u,e,e1⟩,C,o,L,M,N,O=>by
  have hm:=vA;simp only[Jt.p,Pf.cnt]at L M N O;replace C:f.has=true:=C;have A:b.f.has=true:=by rw[SA eb,<-SA (DC e1)];exact C
  obtain⟨r,E,z⟩:=bC H b n hs s R A o (by omega) (by omega) (by omega) (by omega);exact⟨_,Sz E,z⟩
def dC(ρ:Nat->Nat):Nat->Nat|0=>0|n+1=>ρ n+1
def Tm.ren:(Nat->Nat)->Tm->Tm|ρ,.v i=>.v (ρ i)|ρ,.lam s b=>.lam s (b.ren (dC ρ))|_,.n0 k=>.n0 k|ρ,.n1 k a=>.n1 k (a.ren ρ)|ρ,.n2 k a b=>.n2 k (a.ren ρ) (b.ren ρ)|ρ,.n3 k s a b c=>.n3 k s (a.ren ρ) (b.ren ρ) (c.ren ρ)
def rA(σ:Nat->Tm):Nat->Tm|0=>.v 0|n+1=>(σ n).sh 0 (.ofNat 1)
def Tm.sub:(Nat->Tm)->Tm->Tm|σ,.v i=>σ i|σ,.lam s b=>.lam s (b.sub (rA σ))|_,.n0 k=>.n0 k|σ,.n1 k a=>.n1 k (a.sub σ)|σ,.n2 k a b=>.n2 k (a.sub σ) (b.sub σ)|σ,.n3 k s a b c=>.n3 k s (a.sub σ) (b.sub σ) (c.sub σ)
def GD(k:Nat):∀(t:Tm)(c:Nat),t.sh c (.ofNat k)=t.ren λi=>if c<=i then i+k else i
 |.v i,c=>by simp only[Tm.sh,Tm.ren];split<;>rfl|.lam s b,c=>by
  simp only[Tm.sh,Tm.ren,GD k b];congr 2;funext i
  cases i with|zero=>rfl|succ i=>simp only[dC];split<;>split<;>omega
 |.n0 _,_=>rfl|.n1 _ a,c=>by simp only[Tm.sh,Tm.ren,GD k a]|.n2 _ a b,c=>by simp only[Tm.sh,Tm.ren,GD k a,GD k b]|.n3 _ _ a b d,c=>by simp only[Tm.sh,Tm.ren,GD k a,GD k b,GD k d]
theorem cC(t:Tm):t.sh 0 (.ofNat 1)=t.ren (· +1):=by
 rw[GD];congr 1
def ZI:∀(t:Tm)(ρ τ:Nat->Nat),(t.ren ρ).ren τ=t.ren λi=>τ (ρ i)
 |.v i,_,_=>rfl|.lam s b,ρ,τ=>by
  simp only[Tm.ren,ZI b];congr 2;funext i;cases i<;>rfl
 |.n0 _,_,_=>rfl|.n1 _ a,_,_=>by simp only[Tm.ren,ZI a]|.n2 _ a b,_,_=>by simp only[Tm.ren,ZI a,ZI b]|.n3 _ _ a b d,_,_=>by simp only[Tm.ren,ZI a,ZI b,ZI d]
def lE:∀(t:Tm)(ρ:Nat->Nat)(σ:Nat->Tm),(t.ren ρ).sub σ=t.sub λi=>σ (ρ i)
 |.v i,_,_=>rfl|.lam s b,ρ,σ=>by
  simp only[Tm.ren,Tm.sub,lE b];congr 2;funext i;cases i<;>rfl
 |.n0 _,_,_=>rfl|.n1 _ a,_,_=>by simp only[Tm.ren,Tm.sub,lE a]|.n2 _ a b,_,_=>by simp only[Tm.ren,Tm.sub,lE a,lE b]|.n3 _ _ a b d,_,_=>by simp only[Tm.ren,Tm.sub,lE a,lE b,lE d]
theorem KG:∀(t:Tm)(σ:Nat->Tm)(ρ:Nat->Nat),(t.sub σ).ren ρ=t.sub λi=>(σ i).ren ρ
 |.v i,_,_=>rfl|.lam s b,σ,ρ=>by
  simp only[Tm.ren,Tm.sub,KG b];congr 2;funext i
  cases i with|zero=>rfl|succ i=>simp only[rA,cC,ZI];rfl
 |.n0 _,_,_=>rfl|.n1 _ a,_,_=>by simp only[Tm.ren,Tm.sub,KG a]|.n2 _ a b,_,_=>by simp only[Tm.ren,Tm.sub,KG a,KG b]|.n3 _ _ a b d,_,_=>by simp only[Tm.ren,Tm.sub,KG a,KG b,KG d]
def Wa(t:Tm)(σ:Nat->Tm):(t.sh 0 (.ofNat 1)).sub (rA σ)=(t.sub σ).sh 0 (.ofNat 1):=by
 rw[cC,lE,cC,KG];congr 1;funext i;exact cC _
def HD:∀(t:Tm)(σ τ:Nat->Tm),(t.sub σ).sub τ=t.sub λi=>(σ i).sub τ
 |.v i,_,_=>rfl|.lam s b,σ,τ=>by
  simp only[Tm.sub,HD b];congr 2;funext i
  cases i with|zero=>rfl|succ i=>exact Wa _ _
 |.n0 _,_,_=>rfl|.n1 _ a,_,_=>by simp only[Tm.sub,HD a]|.n2 _ a b,_,_=>by simp only[Tm.sub,HD a,HD b]|.n3 _ _ a b d,_,_=>by simp only[Tm.sub,HD a,HD b,HD d]
theorem GE:∀(t:Tm)(σ τ:Nat->Tm),(∀i,t.occ i≠0->σ i=τ i)->t.sub σ=t.sub τ
 |.v i,_,_,h=>h i (by simp[Tm.occ])|.lam s b,σ,τ,h=>by
  simp only[Tm.sub];rw[GE b (rA σ) (rA τ) λi c=>by
   cases i with|zero=>rfl|succ i=>simp only[rA];rw[h i c]]
 |.n0 _,_,_,_=>rfl|.n1 _ a,_,_,h=>by simp only[Tm.sub];rw[GE a _ _ h]|.n2 _ a b,_,_,h=>by
  simp only[Tm.sub];rw[GE a _ _ λi c=>h i (by simp only[Tm.occ];omega),GE b _ _ λi c=>h i (by simp only[Tm.occ];omega)]
 |.n3 _ _ a b d,_,_,h=>by
  simp only[Tm.sub];rw[GE a _ _ λi c=>h i (by simp only[Tm.occ];omega),GE b _ _ λi c=>h i (by simp only[Tm.occ];omega),GE d _ _ λi c=>h i (by simp only[Tm.occ];omega)]
def jS:rA Tm.v=Tm.v:=by
 funext i
 cases i with|zero=>rfl|succ i=>simp[rA,Tm.sh]
theorem FC:∀t:Tm,t.sub Tm.v=t|.v _=>rfl|.lam s b=>by simp[Tm.sub,jS,FC]|.n0 _=>rfl|.n1 _ a=>by simp[Tm.sub,FC]|.n2 _ a b=>by simp[Tm.sub,FC]|.n3 _ _ a b d=>by simp[Tm.sub,FC]
def vS{t:Tm}{n i:Nat}(h:t.sc n)(a:t.occ i≠0):i<n:=by
 have:=(pa t _).1 h
 grind[Nat.lt_or_ge,absurd,YJ]
theorem Mj{t:Tm}(h:t.sc 0)(σ:Nat->Tm):t.sub σ=t:=by
 rw[GE t σ .v λi a=>absurd (vS h a) (by omega),FC]
theorem IP(t:Tm)(k:Nat):(t.sh 0 (.ofNat k)).sh 0 (.ofNat 1)=t.sh 0 (.ofNat (k+1)):=by
 rw[cC,GD k t,ZI,GD];congr 1
def eD(c:List (Tm×Nat))(d:Nat):∀(t:Tm)(b:Nat),t.ps c d b=t.sub λi=>(Tm.v i).ps c d b
 |.v i,_=>rfl|.lam s t,b=>by
  simp only[Tm.ps,Tm.sub];rw[eD c d t (b+1)];congr 2;funext i
  cases i with
  |zero=>simp[Tm.ps,rA]|succ i=>
   simp only[Tm.ps,rA,Nat.add_lt_add_iff_right,Nat.add_sub_add_right];split
   ·simp[Tm.sh]
   split
   ·rw[IP];rfl
   simp[Tm.sh]
 |.n0 _,_=>rfl|.n1 _ a,b=>by simp only[Tm.ps,Tm.sub];rw[eD c d a b];rfl|.n2 _ x y,b=>by simp only[Tm.ps,Tm.sub];rw[eD c d x b,eD c d y b];rfl|.n3 _ _ x y z,b=>by simp only[Tm.ps,Tm.sub];rw[eD c d x b,eD c d y b,eD c d z b];rfl
theorem VC(c:Nat)(S:Tm):∀(t:Tm)(d:Nat),t.put c S d=t.sub λi=>(Tm.v i).put c S d
 |.v i,_=>rfl|.lam s t,d=>by
  simp only[Tm.put,Tm.sub];rw[VC c S t (d+1)];congr 2;funext i
  cases i with
  |zero=>
   simp only[Tm.put,rA];rw[if_neg (by omega),if_neg (by omega)]
  |succ i=>
   simp only[Tm.put,rA];by_cases e:i=c+d
   ·rw[if_pos (by omega),if_pos e,IP];rfl
   rw[if_neg (by omega),if_neg e];by_cases b:c+d<i
   ·rw[if_pos (by omega),if_pos b];simp only[Tm.sh,Nat.zero_le,if_true];congr 1;show i=(Int.ofNat (i-1)+Int.ofNat 1).toNat;simp;omega
   rw[if_neg (by omega),if_neg b];simp[Tm.sh]
 |.n0 _,_=>rfl|.n1 _ a,d=>by simp only[Tm.put,Tm.sub];rw[VC c S a d];rfl|.n2 _ x y,d=>by simp only[Tm.put,Tm.sub];rw[VC c S x d,VC c S y d];rfl|.n3 _ _ x y z,d=>by simp only[Tm.put,Tm.sub];rw[VC c S x d,VC c S y d,VC c S z d];rfl
open Go.Lg
def iH:∀f:Fm,f.er.cty=f.cty
 |.eq _ _=>rfl|.bin k f g=>by cases k<;>simp only[Fm.er,Fm.cty,pH,iH f,iH g]
 |.q k _ f=>by cases k<;>simp only[Fm.er,Fm.cty,pH,iH f]
def GC{f g:Fm}(e:f.er=g.er):f.cty=g.cty:=(iH f).symm.trans ((congrArg Fm.cty e).trans (iH g))
def O0:Nat->(Nat->Tm)->Nat->Tm|0,σ=>σ|n+1,σ=>rA (O0 n σ)
def PX:(Nat->Tm)->Pf->Pf->Prop|_,.leaf u i,p=>p=.leaf u i|_,.refl _,p=>∃t,p=.refl t|σ,.p1 k a,p=>∃c,p=.p1 k c/\PX σ a c|σ,.p2 k a b,p=>∃c e,p=.p2 k c e/\PX σ a c/\PX (match k with|.andI=>σ|.impE=>σ|_=>rA σ) b e|σ,.impI x a,p=>∃d c,p=.impI d c/\d.er=x.er/\PX σ a c|σ,.all u s a,p=>∃c,p=.all u s c/\PX (rA σ) a c|σ,.ins u t a,p=>∃f c,p=.ins u f c/\(u=false->f=t.sub σ)/\PX σ a c|σ,.ex u x t a,p=>∃d f c,p=.ex u d f c/\d.er=x.er/\(u=false->f=t.sub σ)/\PX σ a c|σ,.ind l x t a b,p=>∃d f c e,p=.ind l d f c e/\d.er=x.er/\f=t.sub σ/\PX σ a c/\PX (match l with|false=>rA σ|true=>rA (rA σ)) b e|σ,.subst x a b,p=>∃d c e,p=.subst d c e/\d.er=x.er/\PX σ a c/\PX σ b e
def P0{b a:List Fm}(e:a.map Fm.er=b.map Fm.er){i:Nat}{f c:Fm}(h:b[i]? =some f)(b:a[i]? =some c):c.er=f.er:=by
 have:=congrArg (λl=>l[i]?) e
 grind
def Q0{b a:List Fm}(e:a.map Fm.er=b.map Fm.er):a.length=b.length:=by
 have:=congrArg List.length e
 grind
def Xa{k f:FB}{a b c d:Fm}(e:(Fm.bin k a b).er=(Fm.bin f c d).er):a.er=c.er/\b.er=d.er:=by
 grind[Fm.er,Fm.bin.injEq]
def wS{k b:FQ}{s u:Ty}{a c:Fm}(e:(Fm.q k s a).er=(Fm.q b u c).er):s=u/\a.er=c.er:=by
 grind[Fm.er,Fm.q.injEq]
def KV{f g:Fm}(e:f.er=g.er):f.bd.er=g.bd.er:=by
 cases f<;>cases g<;>simp only[Fm.er,reduceCtorEq]at e<;>first|rfl|(simp only[Fm.bd,Fm.er]at *;first|exact e|simp_all)
def Nj{f g:Fm}(e:f.er=g.er):f.qs=g.qs:=by
 cases f<;>cases g<;>simp only[Fm.er,reduceCtorEq]at e<;>first|rfl|(injection e)
def ZL{b a:List Fm}{x c:Fm}(k:Nat)(e:a.map Fm.er=b.map Fm.er)(ex:c.er=x.er):(bA k a++[c]).map Fm.er=(bA k b++[x]).map Fm.er:=by
 rw[List.map_append,List.map_append,HI,HI,e];simp_all
def LG(D:List Fm):∀(j m:Jt)(n A:Nat)(B g:List Fm)(σ:Nat->Tm),j.OK D n B->m.OK D A g->g.map Fm.er=B.map Fm.er->PX σ j.p m.p->m.f.er=j.f.er
 |.leaf u i f,m,n,A,B,g,σ,h,o,e,r=>by
  cases m with
  |leaf M T E=>
   obtain⟨-,h⟩:=h;obtain⟨-,o⟩:=o;have r:Pf.leaf M T=.leaf u i:=r;cases r;cases u
   ·rw[Q0 e]at o;exact P0 e h.2 o.2
   simp_all
  |_=>cases r
 |.refl t,m,n,A,B,g,σ,h,o,e,r=>by
  cases m with|refl N=>rfl|_=>obtain⟨_,r⟩:=r;cases r
 |.p1 k a f,m,n,A,B,g,σ,⟨_,F,H⟩,o,e,⟨J,r,G⟩=>by
  cases m with
  |p1 U b E=>
   obtain⟨-,p,z⟩:=o;cases r;have q:=LG D a b n A B g σ F p e G;cases k
   ·obtain⟨y,v⟩:=H;obtain⟨O,w⟩:=z;rw[v,w]at q;exact(Xa q).1
   ·obtain⟨y,v⟩:=H;obtain⟨O,w⟩:=z;rw[v,w]at q;exact(Xa q).2
   obtain⟨s,u,x,v,y,P,V⟩:=H;obtain⟨Q,M,K,w,O,R,W⟩:=z;rw[v,w]at q;obtain⟨es,q⟩:=wS q;obtain⟨X,q⟩:=wS q;show E.er=f.er;rw[V,W]
   grind[Fm.er,DC,SD]
  |_=>cases r
 |.p2 k a b f,m,n,A,B,g,σ,⟨_,F,H⟩,o,e,⟨J,S,r,G,rb⟩=>by
  cases m with
  |p2 U c d E=>
   obtain⟨-,p,z⟩:=o;cases r;have q:=LG D a c n A B g σ F p e G;show E.er=f.er;cases k
   ·obtain⟨L,v⟩:=H;obtain⟨C,w⟩:=z;rw[v,w];simp only[Fm.er];rw[q,LG D b d n A B g σ L C e rb]
   ·obtain⟨L,x,v⟩:=H;obtain⟨C,K,w⟩:=z;rw[v,w]at q;exact(Xa q).2
   ·obtain⟨L,_,v⟩:=H;obtain⟨C,_,w⟩:=z;rw[IF v,IF w];exact LG D b d _ _ _ _ _ L C (ZL 1 e (KV q)) rb
   obtain⟨L,_,v⟩:=H;obtain⟨C,_,w⟩:=z;rw[IF v,IF w];exact LG D b d _ _ _ _ _ L C (ZL 1 e (KV q)) rb
  |_=>cases r
 |.impI x a,m,n,A,B,g,σ,⟨_,_,F⟩,o,e,⟨K,J,r,I,G⟩=>by
  cases m with
  |impI x2 b=>
   obtain⟨-,-,p⟩:=o;cases r;show Fm.bin .imp K.er b.f.er=Fm.bin .imp x.er a.f.er;rw[I,LG D a b n A _ _ σ F p (by rw[List.map_append,List.map_append,e];simp only[List.map_cons,List.map_nil,I]) G]
  |_=>cases r
 |.all u s a,m,n,A,B,g,σ,⟨_,_,F⟩,o,e,⟨J,r,G⟩=>by
  cases m with
  |all M Q b=>
   obtain⟨-,-,p⟩:=o;cases r;show Fm.q _ _ b.f.er=Fm.q _ _ a.f.er;rw[LG D a b _ _ _ _ _ F p (by rw[HI,HI,e]) G]
  |_=>cases r
 |.ins u t a f,m,n,A,B,g,σ,⟨_,_,F,s,x,v,P⟩,o,e,⟨N,J,r,rt,G⟩=>by
  cases m with
  |ins M t2 b E=>
   obtain⟨-,-,p,Q,K,w,R⟩:=o;cases r;have q:=LG D a b n A B g σ F p e G;rw[v,w]at q;show E.er=f.er;rw[DC P,DC R,(wS q).2]
  |_=>cases r
 |.ex u x t a,m,n,A,B,g,σ,h,o,e,⟨K,N,J,r,I,_⟩=>by
  cases m with
  |ex M x2 t2 b=>cases r;exact I
  |_=>cases r
 |.ind l x t a b f,m,n,A,B,g,σ,⟨_,_,_,_,v,_⟩,o,e,⟨K,N,J,S,r,I,_⟩=>by
  cases m with
  |ind Y x2 t2 c d E=>
   obtain⟨-,-,-,-,w,-⟩:=o;cases r;show E.er=f.er;rw[DC v,DC w,I]
  |_=>cases r
 |.subst x a b f,m,n,A,B,g,σ,⟨_,_,_,_,_,_,_,_,v⟩,o,e,⟨K,J,S,r,I,_⟩=>by
  cases m with
  |subst x2 c d E=>
   obtain⟨-,-,-,-,-,_,_,-,w⟩:=o;cases r;show E.er=f.er;rw[DC v,DC w,I]
  |_=>cases r
def kI{a:List (Tm×Nat)}{d i:Nat}{e:Tm×Nat}(h:ent a i=some e):(Tm.v i).ps a d 0=e.1.sh 0 (.ofNat (d-e.2)):=by
 simp only[Tm.ps,Nat.not_lt_zero,if_false,Nat.sub_zero,h,Nat.add_zero]
def LV{a:List (Tm×Nat)}{d:Nat}(b:qI d a){t:Tm}(c:t.sc a.length):t.ps a (d+1) 0=(t.ps a d 0).sh 0 (.ofNat 1):=by
 rw[eD,eD a d t,cC,KG];refine GE _ _ _ λi f=>?_
 obtain⟨e,h,g⟩:=ZR (vS c f);rw[kI h,kI h,<-cC,IP,show d+1-e.2=d-e.2+1 by have:=(b e g).1;omega]
def MV(a:List (Tm×Nat))(d:Nat)(e:Tm×Nat){t:Tm}(b:t.sc a.length):(t.sh 0 (.ofNat 1)).ps (a++[e]) d 0=t.ps a d 0:=by
 rw[eD,cC,lE,eD a];refine GE _ _ _ λi c=>?_
 obtain⟨x,h,_⟩:=ZR (vS b c);rw[kI h,kI (e:=x) (by rw[Sa];exact h)]
structure SX(σ τ:Nat->Tm)(U:Nat->Prop)(s s':Sc):Prop where
 v:∀v,U v->v<s.vs.length->(σ v).sc s'.vs.length/\(σ v).ps s'.vs s'.dep 0=((Tm.v v).ps s.vs s.dep 0).sub τ
 l:s'.ks.length=s.ks.length
 k:∀i,i<s.ks.length->s'.hy i=(s.hy i).sub τ
def SX.mono{σ τ:Nat->Tm}{U W:Nat->Prop}{s a:Sc}(h:SX σ τ U s a)(b:∀v,W v->U v):SX σ τ W s a:=⟨λv a=>h.v v (b v a),h.l,h.k⟩
def NV{n:Nat}{a:List Bool}{s:Sc}(h:ScOK n a s)(i:Nat):s.bind.hy i=(s.hy i).sh 0 (.ofNat 1):=by
 unfold Sc.hy;show(match s.ks[s.ks.length-1-i]? with|some (.hy t d _)=>t.sh 0 (.ofNat (s.dep+1-d))|_=>.n0 .unit)=_
 cases e:s.ks[s.ks.length-1-i]? with
 |none=>rfl|some x=>cases x with
  |bare p=>rfl|hy t d p=>
   have:=(h.ke _ (List.mem_of_getElem? e) t d p rfl).1
   grind[IP]
theorem SX.bind{σ τ:Nat->Tm}{U:Nat->Prop}{s a:Sc}{n j:Nat}{k b:List Bool}(h:SX σ τ U s a)(d:ScOK n k s)(f:ScOK j b a):SX σ (rA τ) U s.bind a.bind:=
 ⟨λv l g=>by
  obtain⟨c,e⟩:=h.v v l g;refine⟨c,?_⟩;show(σ v).ps a.vs (a.dep+1) 0=((Tm.v v).ps s.vs (s.dep+1) 0).sub (rA τ);rw[LV f.ve c,e,LV d.ve (show(Tm.v v).sc s.vs.length from g),Wa],h.l,λi m=>by rw[NV d,NV f,h.k i m,Wa]⟩
def kS(a:List (Tm×Nat))(d:Nat)(t:Tm):(Tm.v 0).ps (a++[(t,d)]) d 0=t:=by
 rw[kI (EV a (t,d))];rw[Nat.sub_self,EE]
theorem SX.var{σ τ:Nat->Tm}{U W:Nat->Prop}{s a:Sc}{t t':Tm}(h:SX σ τ U s a)(f:t'=t.sub τ)(g:∀v,W (v+1)->U v):SX (rA σ) τ W (s.var t) (a.var t'):=
 ⟨λv i b=>by
  have d:(a.var t').vs.length=a.vs.length+1:=by simp[Sc.var]
  cases v with
  |zero=>
   refine⟨by rw[d];exact Nat.succ_pos _,?_⟩;show(Tm.v 0).ps (a.vs++[(t',a.dep)]) a.dep 0=((Tm.v 0).ps (s.vs++[(t,s.dep)]) s.dep 0).sub τ;rw[kS,kS,f]
  |succ v=>
   have b:v<s.vs.length:=by grind[Sc.var]
   obtain⟨c,e⟩:=h.v v (g v i) b;refine⟨by rw[d];exact SF 1 _ 0 _ c,?_⟩;show((σ v).sh 0 (.ofNat 1)).ps (a.vs++[(t',a.dep)]) a.dep 0=((Tm.v (v+1)).ps (s.vs++[(t,s.dep)]) s.dep 0).sub τ;rw[MV _ _ _ c,e,<-MV s.vs s.dep (t,s.dep) (show(Tm.v v).sc s.vs.length from b)];rfl,h.l,h.k⟩
def JP(s:Sc)(x:Hy)(d h:Nat)(i:Nat)(a:i<s.ks.length:=by omega):(⟨s.dep,h,s.vs,s.ks++[x]⟩:Sc).hy (i+1)=s.hy i:=by
 grind[Sc.hy,List.length_append,List.length_cons,List.length_nil]
def RN(s:Sc)(x:Hy)(h:Nat):(⟨s.dep,h,s.vs,s.ks++[x]⟩:Sc).hy 0=match x with|.hy t d _=>t.sh 0 (.ofNat (s.dep-d))|_=>.n0 .unit:=by
 grind[Sc.hy]
theorem SX.hyp{σ τ:Nat->Tm}{U:Nat->Prop}{s b:Sc}{t t':Tm}(h:SX σ τ U s b)(c:t'=t.sub τ):SX σ τ U (s.hyp t) (b.hyp t'):=
 ⟨h.v,by simp[Sc.hyp,h.l],λi a=>by
  cases i with
  |zero=>
   rw[Sc.hyp,Sc.hyp,RN,RN];simp only[Nat.sub_self,EE];exact c
  |succ i=>
   have a:i<s.ks.length:=by grind[Sc.hyp]
   rw[Sc.hyp,Sc.hyp,JP s _ 0 _ i a,JP b _ 0 _ i (by rw[h.l];exact a)];exact h.k i a⟩
theorem SX.bare{σ τ:Nat->Tm}{U:Nat->Prop}{s b:Sc}(h:SX σ τ U s b):SX σ τ U s.bare b.bare:=
 ⟨h.v,by simp[Sc.bare,h.l],λi a=>by
  cases i with
  |zero=>rw[Sc.bare,Sc.bare,RN,RN];rfl|succ i=>
   have a:i<s.ks.length:=by grind[Sc.bare]
   rw[Sc.bare,Sc.bare,JP s _ 0 _ i a,JP b _ 0 _ i (by rw[h.l];exact a)];exact h.k i a⟩
def SX.tm{σ τ:Nat->Tm}{U:Nat->Prop}{s a:Sc}{n:Nat}{t:Tm}(h:SX σ τ U s a)(b:s.vs.length=n)(c:t.sc n)(d:∀v,t.occ v≠0->U v):(t.sub σ).ps a.vs a.dep 0=(t.ps s.vs s.dep 0).sub τ:=by
 rw[eD,HD,eD s.vs,HD];refine GE _ _ _ λi a=>?_
 rw[<-(h.v i (d i a) (by rw[b];exact vS c a)).2,<-eD]
def Oj{f g:Fm}(e:f.er=g.er):f.both=g.both:=by
 cases f<;>cases g<;>simp only[Fm.er,reduceCtorEq]at e<;>first|rfl|grind[Fm.bin.injEq,Fm.both,SA]
def T0{f g:Fm}(e:f.er=g.er)(τ:Nat->Tm)(t:Tm):YI f (t.sub τ)=(YI g t).sub τ:=by
 cases f with
 |q k s f=>cases g with
  |q a b g=>
   obtain⟨es,e⟩:=wS e
   cases f with
   |q l u f=>cases g with
    |q c d g=>
     obtain⟨h,e⟩:=wS e;simp only[YI,SA e,GC e,es,h];cases g.has
     ·rfl
     rfl
    |_=>cases e
   |_=>cases g with
    |q c d g=>cases e
    |_=>rfl
  |_=>cases e
 |_=>cases g with
  |q a b g=>cases e
  |_=>rfl
open Go.Lg
def LB(a:List Fm)(x:Fm)(k:Nat):(bA k a++[x]).map Fm.has=a.map Fm.has++[x.has]:=by
 rw[List.map_append,XD];rfl
def Ya(t:Ty)(τ:Nat->Tm):t.ini=t.ini.sub τ:=(Mj (zS t 0) τ).symm
def IC{ls:List Fm}{tl:List Tm}(J:∀(i:Nat)(t:Tm),tl[i]? =some t->t.sc 0):∀(j L:Jt)(n B:Nat)(E o:List Fm)(σ τ:Nat->Tm)(s g:Sc),j.OK ls n E->L.OK ls B o->o.map Fm.er=E.map Fm.er->PX σ j.p L.p->ScOK n (E.map Fm.has) s->ScOK B (E.map Fm.has) g->SX σ τ j.us s g->j.f.has=true->L.xt tl g=(j.xt tl s).sub τ
 |.leaf u i f,L,n,B,E,o,σ,τ,s,g,h,P,e,r,S,C,R,p=>by
  cases L with
  |leaf u' i' f'=>
   have r:Pf.leaf u' i'=.leaf u i:=r;cases r;cases u
   ·refine R.k i ?_;rw[S.kl,List.length_map];exact h.2.1
   show(match tl[i]? with|some t=>t|none=>.n0 .unit)=Tm.sub τ (match tl[i]? with|some t=>t|none=>.n0 .unit)
   cases M:tl[i]? with|none=>rfl|some t=>grind[Mj]
  |_=>cases r
 |.refl t,L,n,B,E,o,σ,τ,s,g,h,P,e,r,S,C,R,p=>by cases p
 |.p1 k a f,L,n,B,E,o,σ,τ,s,g,⟨g0,H,g2⟩,P,e,⟨a',r,I⟩,S,C,R,p=>by
  cases L with
  |p1 k' b f'=>
   obtain⟨-,A,Q⟩:=P;cases r;replace p:f.has=true:=p;have q:=LG ls a b n B E o σ H A e I;have Ra:SX σ τ a.us s g:=R.mono λv D=>⟨p,D⟩
   cases k
   ·obtain⟨y,M⟩:=g2;have F:a.f.has=true:=by rw[M];show(f.has||y.has)=true;rw[p];rfl
    have V:=IC J a b n B E o σ τ s g H A e I S C Ra F;show(bif b.f.both then Tm.n1 .fst (b.xt tl g)else b.xt tl g)=(bif a.f.both then Tm.n1 .fst (a.xt tl s)else a.xt tl s).sub τ;rw[Oj q,V];cases a.f.both<;>rfl
   ·obtain⟨y,M⟩:=g2;have F:a.f.has=true:=by rw[M];show(y.has||f.has)=true;rw[p];cases y.has<;>rfl
    have V:=IC J a b n B E o σ τ s g H A e I S C Ra F;show(bif b.f.both then Tm.n1 .snd (b.xt tl g)else b.xt tl g)=(bif a.f.both then Tm.n1 .snd (a.xt tl s)else a.xt tl s).sub τ;rw[Oj q,V];cases a.f.both<;>rfl
   obtain⟨u,w,x,M,_⟩:=g2;have F:a.f.has=true:=by rw[M];rfl
   have V:=IC J a b n B E o σ τ s g H A e I S C Ra F;show YI b.f (b.xt tl g)=(YI a.f (a.xt tl s)).sub τ;rw[V,T0 q]
  |_=>cases r
 |.p2 k a b f,L,n,B,E,o,σ,τ,s,g,⟨g0,H,g2⟩,P,e,⟨a',b',r,I,rb⟩,S,C,R,p=>by
  cases L with
  |p2 k' c d f'=>
   obtain⟨-,A,Q⟩:=P;cases r;replace p:f.has=true:=p;have q:=LG ls a c n B E o σ H A e I;have Ra:SX σ τ a.us s g:=R.mono λv D=>⟨p,.inl D⟩
   cases k
   ·obtain⟨X,M⟩:=g2;obtain⟨G,e2⟩:=Q;have Rb:SX σ τ b.us s g:=R.mono λv D=>⟨p,.inr D⟩
    have q2:=LG ls b d n B E o σ X G e rb;show(bif c.f.has then(bif d.f.has then Tm.n2 .pair (c.xt tl g) (d.xt tl g)else c.xt tl g)else d.xt tl g)=(bif a.f.has then(bif b.f.has then Tm.n2 .pair (a.xt tl s) (b.xt tl s)else a.xt tl s)else b.xt tl s).sub τ;rw[SA q,SA q2];have hor:(a.f.has||b.f.has)=true:=by rw[M]at p;exact p
    have N:=λF=>IC J a c n B E o σ τ s g H A e I S C Ra F
    have K:=λhb=>IC J b d n B E o σ τ s g X G e rb S C Rb hb
    cases F:a.f.has<;>cases hb:b.f.has
    ·rw[F,hb]at hor;cases hor
    ·simp_all
    ·simp_all
    show Tm.n2 .pair _ _=_;rw[N F,K hb];rfl
   ·obtain⟨X,x,M⟩:=g2;obtain⟨G,x',e2⟩:=Q;have Rb:SX σ τ b.us s g:=R.mono λv D=>⟨p,.inr D⟩
    have q2:=LG ls b d n B E o σ X G e rb;have F:a.f.has=true:=by rw[M];exact p
    have N:=IC J a c n B E o σ τ s g H A e I S C Ra F;show(bif d.f.has then Tm.n2 .app (c.xt tl g) (d.xt tl g)else c.xt tl g)=(bif b.f.has then Tm.n2 .app (a.xt tl s) (b.xt tl s)else a.xt tl s).sub τ;rw[SA q2,N];cases hb:b.f.has
    ·rfl
    show Tm.n2 .app _ _=_;rw[IC J b d n B E o σ τ s g X G e rb S C Rb hb];rfl
   ·obtain⟨X,⟨u,M⟩,e3⟩:=g2;obtain⟨G,⟨u',e2⟩,e4⟩:=Q;have O:b.f.has=true:=by rw[<-SA (IF e3)];exact p
    have Y:∀v,b.us (v+1)->Jt.us (.p2 .exE a b f) v:=λv D=>⟨p,.inr D⟩
    have F:a.f.has=true:=by rw[M];rfl
    have N:=IC J a c n B E o σ τ s g H A e I S C Ra F;have Z:=KV q;show(bif c.f.bd.has then Tm.n2 .app (.lam (.two false c.f.qs c.f.bd.cty) (d.xt tl ((g.bind.var (.n1 .fst (.v 0))).hyp (.n1 .snd (.v 0))))) (c.xt tl g)else Tm.n2 .app (.lam c.f.qs (d.xt tl (g.bind.var (.v 0)).bare)) (c.xt tl g))=(bif a.f.bd.has then Tm.n2 .app (.lam (.two false a.f.qs a.f.bd.cty) (b.xt tl ((s.bind.var (.n1 .fst (.v 0))).hyp (.n1 .snd (.v 0))))) (a.xt tl s)else Tm.n2 .app (.lam a.f.qs (b.xt tl (s.bind.var (.v 0)).bare)) (a.xt tl s)).sub τ;rw[Nj q,SA Z,GC Z,N];have RB:=R.bind S C;have z:∀{m:Nat},TK (m+1) (.v 0):=uC;cases U:a.f.bd.has
    ·have K:=IC J b d (n+1) (B+1) _ _ (rA σ) (rA τ) _ _ X G (ZL 1 e Z) rb (by rw[LB,U];exact(S.bind.var (t:=.v 0) z).bare) (by rw[LB,U];exact(C.bind.var (t:=.v 0) z).bare) (RB.var (t:=.v 0) (t':=.v 0) rfl Y).bare O;show Tm.n2 .app (.lam _ _) _=_;rw[K];rfl
    have K:=IC J b d (n+1) (B+1) _ _ (rA σ) (rA τ) _ _ X G (ZL 1 e Z) rb (by rw[LB,U];exact(S.bind.var (t:=.n1 .fst (.v 0)) (uK z (by simp[Tm.cnt]))).hyp (t:=.n1 .snd (.v 0)) (uK z (by simp[Tm.cnt])) true) (by rw[LB,U];exact(C.bind.var (t:=.n1 .fst (.v 0)) (uK z (by simp[Tm.cnt]))).hyp (t:=.n1 .snd (.v 0)) (uK z (by simp[Tm.cnt])) true) ((RB.var (t:=.n1 .fst (.v 0)) (t':=.n1 .fst (.v 0)) rfl Y).hyp (t:=.n1 .snd (.v 0)) (t':=.n1 .snd (.v 0)) rfl) O;show Tm.n2 .app (.lam _ _) _=_;rw[K];rfl
   obtain⟨X,⟨u,M⟩,e3⟩:=g2;obtain⟨G,⟨u',e2⟩,e4⟩:=Q;have O:b.f.has=true:=by rw[<-SA (IF e3)];exact p
   have Y:∀v,b.us (v+1)->Jt.us (.p2 .exUE a b f) v:=λv D=>⟨p,.inr D⟩
   have Z:=KV q;have W:a.f.qs.size<=64:=by
    have:=(Jt.FKj H);rw[M]at this⊢;exact aD (DA this.shp).1
   show(bif c.f.bd.has then Tm.n2 .app (.lam c.f.bd.cty (d.xt tl ((g.bind.var c.f.qs.ini).hyp (.v 0)))) (c.xt tl g)else d.xt tl (g.var c.f.qs.ini).bare)=(bif a.f.bd.has then Tm.n2 .app (.lam a.f.bd.cty (b.xt tl ((s.bind.var a.f.qs.ini).hyp (.v 0)))) (a.xt tl s)else b.xt tl (s.var a.f.qs.ini).bare).sub τ;rw[Nj q,SA Z,GC Z];have z:∀{m:Nat},TK (m+1) (.v 0):=uC;cases U:a.f.bd.has
   ·exact IC J b d (n+1) (B+1) _ _ (rA σ) τ _ _ X G (ZL 1 e Z) rb (by rw[LB,U];exact(S.var (t:=a.f.qs.ini) (nF _ W _)).bare) (by rw[LB,U];exact(C.var (t:=a.f.qs.ini) (nF _ W _)).bare) (R.var (Ya _ _) Y).bare O
   have F:a.f.has=true:=by rw[M]at U⊢;exact U
   have N:=IC J a c n B E o σ τ s g H A e I S C Ra F;have K:=IC J b d (n+1) (B+1) _ _ (rA σ) (rA τ) _ _ X G (ZL 1 e Z) rb (by rw[LB,U];exact(S.bind.var (t:=a.f.qs.ini) (nF _ W _)).hyp (t:=.v 0) z true) (by rw[LB,U];exact(C.bind.var (t:=a.f.qs.ini) (nF _ W _)).hyp (t:=.v 0) z true) (((R.bind S C).var (Ya _ _) Y).hyp (t:=.v 0) (t':=.v 0) rfl) O;show Tm.n2 .app (.lam _ _) _=_;rw[K,N];rfl
  |_=>cases r
 |.impI x a,L,n,B,E,o,σ,τ,s,g,⟨_,_,H⟩,P,e,⟨x',a',r,rx,I⟩,S,C,R,p=>by
  cases L with
  |impI x2 b=>
   obtain⟨-,-,A⟩:=P;cases r;have F:a.f.has=true:=p;have Ra:SX σ τ a.us s g:=R.mono λv D=>⟨p,D⟩
   have ee:(o++[x']).map Fm.er=(E++[x]).map Fm.er:=by rw[List.map_append,List.map_append,e];simp only[List.map_cons,List.map_nil,rx]
   have ex:(E++[x]).map Fm.has=E.map Fm.has++[x.has]:=by rw[List.map_append];rfl
   have z:∀{m:Nat},TK (m+1) (.v 0):=uC;show(bif x'.has then Tm.lam x'.cty (b.xt tl (g.bind.hyp (.v 0)))else b.xt tl g.bare)=(bif x.has then Tm.lam x.cty (a.xt tl (s.bind.hyp (.v 0)))else a.xt tl s.bare).sub τ;rw[SA rx,GC rx];cases U:x.has
   ·exact IC J a b n B _ _ σ τ _ _ H A ee I (by rw[ex,U];exact S.bare) (by rw[ex,U];exact C.bare) Ra.bare F
   have V:=IC J a b n B _ _ σ (rA τ) _ _ H A ee I (by rw[ex,U];exact S.bind.hyp (t:=.v 0) z true) (by rw[ex,U];exact C.bind.hyp (t:=.v 0) z true) ((Ra.bind S C).hyp (t:=.v 0) (t':=.v 0) rfl) F;show Tm.lam _ _=_;rw[V];rfl
  |_=>cases r
 |.all u w a,L,n,B,E,o,σ,τ,s,g,⟨g0,_,H⟩,P,e,⟨a',r,I⟩,S,C,R,p=>by
  cases L with
  |all u' w' b=>
   obtain⟨-,-,A⟩:=P;cases r;have ee:(bA 1 o).map Fm.er=(bA 1 E).map Fm.er:=by rw[HI,HI,e]
   cases u
   ·have F:a.f.has=true:=p;have Y:∀v,a.us (v+1)->Jt.us (.all false w a) v:=λv D=>⟨p,D⟩
    have z:∀{m:Nat},TK (m+1) (.v 0):=uC;have V:=IC J a b (n+1) (B+1) _ _ (rA σ) (rA τ) _ _ H A ee I (by rw[XD];exact S.bind.var (t:=.v 0) z) (by rw[XD];exact C.bind.var (t:=.v 0) z) ((R.bind S C).var (t:=.v 0) (t':=.v 0) rfl Y) F;show Tm.lam _ (b.xt tl (g.bind.var (.v 0)))=(Tm.lam _ (a.xt tl (s.bind.var (.v 0)))).sub τ;rw[V];rfl
   have F:a.f.has=true:=p;have Y:∀v,a.us (v+1)->Jt.us (.all true w a) v:=λv D=>⟨p,D⟩
   exact IC J a b (n+1) (B+1) _ _ (rA σ) τ _ _ H A ee I (by rw[XD];exact S.var (t:=w.ini) (nF _ g0 _)) (by rw[XD];exact C.var (t:=w.ini) (nF _ g0 _)) (R.var (Ya _ _) Y) F
  |_=>cases r
 |.ins u t a f,L,n,B,E,o,σ,τ,s,g,⟨_,g0,H,w,x,M,e3⟩,P,e,⟨t',a',r,rt,I⟩,S,C,R,p=>by
  cases L with
  |ins u' t2 b f'=>
   obtain⟨-,-,A,-⟩:=P;cases r;replace p:f.has=true:=p;have T:x.has=true:=by rw[<-SA (DC e3)];exact p
   have F:a.f.has=true:=by rw[M];cases u<;>exact T
   have V:=IC J a b n B E o σ τ s g H A e I S C (R.mono λv D=>⟨p,.inl D⟩) F;cases u
   ·show Tm.n2 .app (b.xt tl g) (t'.ps g.vs g.dep 0)=(Tm.n2 .app (a.xt tl s) (t.ps s.vs s.dep 0)).sub τ;rw[V,rt rfl,R.tm S.vl g0.sc λv D=>⟨p,.inr ⟨rfl,D⟩⟩];rfl
   exact V
  |_=>cases r
 |.ex u x t a,L,n,B,E,o,σ,τ,s,g,⟨_,g0,H,⟨w,M⟩,e3⟩,P,e,⟨x',t',a',r,rx,rt,I⟩,S,C,R,p=>by
  cases L with
  |ex u' x2 t2 b=>
   obtain⟨-,-,A,-⟩:=P;cases r;replace p:x.has=true:=p;have q:=LG ls a b n B E o σ H A e I;have V:=λF=>IC J a b n B E o σ τ s g H A e I S C (R.mono λv D=>⟨p,.inl D⟩) F
   cases u
   ·have it:=R.tm (t:=t) S.vl g0.sc λv D=>⟨p,.inr ⟨rfl,D⟩⟩
    show(bif b.f.has then Tm.n2 .pair (t'.ps g.vs g.dep 0) (b.xt tl g)else t'.ps g.vs g.dep 0)=(bif a.f.has then Tm.n2 .pair (t.ps s.vs s.dep 0) (a.xt tl s)else t.ps s.vs s.dep 0).sub τ;rw[SA q,rt rfl,it];cases F:a.f.has
    ·rfl
    show Tm.n2 .pair _ _=_;rw[V F];rfl
   refine V ?_;rw[SA e3];rw[M]at p;exact p
  |_=>cases r
 |.ind l x t a b f,L,n,B,E,o,σ,τ,s,g,⟨_,_,g0,H,M,⟨ea,Z⟩,g2⟩,P,e,⟨x',t',a',b',r,rx,rt,I,rb⟩,S,C,R,p=>by
  cases L with
  |ind l' x2 t2 c d f'=>
   obtain⟨-,-,-,A,-,-,Q⟩:=P;cases r;replace p:f.has=true:=p;have T:x.has=true:=by rw[<-SA (DC M)];exact p
   have F:a.f.has=true:=by rw[SA ea];exact T
   have O:b.f.has=true:=by rw[SA Z];exact T
   have N:=IC J a c n B E o σ τ s g H A e I S C (R.mono λv D=>⟨p,.inr (.inl D)⟩) F;have it:=R.tm (t:=t) S.vl g0.sc λv D=>⟨p,.inl D⟩
   have z:∀{m:Nat},TK (m+1) (.v 0):=uC;cases l
   ·have Y:∀v,b.us (v+1)->Jt.us (.ind false x t a b f) v:=λv D=>⟨p,.inr (.inr D)⟩
    have S1:=(S.bind.var (t:=.v 0) z).bind.hyp (t:=.v 0) z true;have S1':=(C.bind.var (t:=.v 0) z).bind.hyp (t:=.v 0) z true;have R1:=(((R.bind S C).var (t:=.v 0) (t':=.v 0) (W:=b.us) rfl Y).bind (S.bind.var (t:=.v 0) z) (C.bind.var (t:=.v 0) z)).hyp (t:=.v 0) (t':=.v 0) rfl;have K:=IC J b d (n+1) (B+1) _ _ (rA σ) (rA (rA τ)) _ _ g2 Q (ZL 1 e rx) rb (by rw[LB,T];exact S1) (by rw[LB,T];exact S1') R1 O;show Tm.n3 .re x'.cty (c.xt tl g) (.lam .nat (.lam x'.cty (d.xt tl ((g.bind.var (.v 0)).bind.hyp (.v 0))))) (t'.ps g.vs g.dep 0)=(Tm.n3 .re x.cty (a.xt tl s) (.lam .nat (.lam x.cty (b.xt tl ((s.bind.var (.v 0)).bind.hyp (.v 0))))) (t.ps s.vs s.dep 0)).sub τ;rw[GC rx,N,K,rt,it];rfl
   have Y:∀v,b.us (v+1+1)->Jt.us (.ind true x t a b f) v:=λv D=>⟨p,.inr (.inr D)⟩
   have A1:=S.bind.var (t:=.v 0) z;have A1':=C.bind.var (t:=.v 0) z;have A2:=A1.bind.var (t:=.v 0) z;have A2':=A1'.bind.var (t:=.v 0) z;have S1:=A2.bind.hyp (t:=.v 0) z true;have S1':=A2'.bind.hyp (t:=.v 0) z true;have R0:=(((R.bind S C).var (t:=.v 0) (t':=.v 0) (W:=λv=>b.us (v+1)) rfl Y).bind A1 A1').var (t:=.v 0) (t':=.v 0) (W:=b.us) rfl λv D=>D
   have R1:=(R0.bind A2 A2').hyp (t:=.v 0) (t':=.v 0) rfl;have K:=IC J b d (n+2) (B+2) _ _ (rA (rA σ)) (rA (rA (rA τ))) _ _ g2 Q (ZL 2 e (by rw[SD,SD,rx])) rb (by rw[LB,SA (SD _ x 1),T];exact S1) (by rw[LB,SA (SD _ x 1),T];exact S1') R1 O;show Tm.n3 .fo x'.cty (c.xt tl g) (.lam .nat (.lam .list (.lam x'.cty (d.xt tl (((g.bind.var (.v 0)).bind.var (.v 0)).bind.hyp (.v 0)))))) (t'.ps g.vs g.dep 0)=(Tm.n3 .fo x.cty (a.xt tl s) (.lam .nat (.lam .list (.lam x.cty (b.xt tl (((s.bind.var (.v 0)).bind.var (.v 0)).bind.hyp (.v 0)))))) (t.ps s.vs s.dep 0)).sub τ;rw[GC rx,N,K,rt,it];rfl
  |_=>cases r
 |.subst x a b f,L,n,B,E,o,σ,τ,s,g,⟨_,_,_,X,Z,t,u,M,e2⟩,P,e,⟨x',a',b',r,rx,I,rb⟩,S,C,R,p=>by
  cases L with
  |subst x2 c d f'=>
   obtain⟨-,-,-,G,-⟩:=P;cases r;have O:b.f.has=true:=by rw[SA Z,<-SA (DC e2)];exact p
   exact IC J b d n B E o σ τ s g X G e rb S C (R.mono λv D=>⟨p,D⟩) O
  |_=>cases r
def MG(d:Nat):Nat->Nat->List (Tm×Nat)|_,0=>[]|i,n+1=>(.v (d-1-i),d)::MG d (i+1) n
abbrev qM:List PV:=[.int 0,.int 0,.nils,.nils]
abbrev Pj(c a i v:Nat)(A:List (List PV)):IS:=st [(4,.loc 0 0),(5,.loc 1 0),(11,.pv (num a)),(12,.pv (num i))] [(0,bx qM),(1,.box [.pv (num c),.pv (num 0),.arr 2 v A.length,.pv .nils]),(2,.arr v 6 170 (kA A))] 3 []
abbrev Qj:Kp:=⟨[4,5,11,12],[0,1,2],3,[]⟩
def Rj(c a:Nat)(g:c<=qA)(j:a<=c):∀(r i v:Nat)(A:List (List PV)),i+r=a->A.length=i->
  ∃b,Lp 128 0 0 (Pj c a i v A) (.exit 0) (st [(4,.loc 0 0),(5,.loc 1 0)] [(0,bx qM),(1,.box [.pv (num c),.pv (num 0),.arr 2 b (A.length+r),.pv .nils]),(2,.arr b 6 170 (kA (A++(MG c i r).map ec)))] 3 [])
 |0,i,v,A,h,f=>by
  have e:fA (.ofNat i) (.ofNat a)=false:=GA (by omega);simp only[MG,List.map_nil,List.append_nil,Nat.add_zero];exact⟨v,y1 [13] ⟨[4,5],[0,1,2],3,[]⟩ e (tD A)⟩
 |r+1,i,v,A,h,f=>by
  have:=vA;have:=uA;have e:fA (.ofNat i) (.ofNat a)=true:=NA (by omega);have k:=SC (a:=c);have l:eA (Int.ofNat (c-1)-.ofNat i)=true/\Int.ofNat (c-1)-.ofNat i=.ofNat (c-1-i):=by
   have e:Int.ofNat (c-1)-.ofNat i=.ofNat (c-1-i):=by simp;omega
   exact⟨by rw[e];exact xA (by omega),e⟩
  have m:=EN (A:=A) (v:=v) (ty:=170) (m:=80) (c:=ec (.v (c-1-i),c)) (show 0<6 by decide) rfl rfl (by simp only[maxLen];omega) (by omega);have n:=lA (a:=i) (b:=1);obtain⟨b,d⟩:=Rj c a g j r (i+1) (v+1) (A++[ec (.v (c-1-i),c)]) (by omega) (by simp[f]);dsimp only[Pj]at d;rw[SJ,show(A++[ec (.v (c-1-i),c)]).length=A.length+1 by simp,show A.length+1+r=A.length+(r+1) by omega,List.append_assoc]at d;exact⟨b,n8 [13,19,21,22,(27,.ok),29] Qj e k l (TA (c-1-i)) m n (GG A (ec (.v (c-1-i),c))) d⟩
abbrev wB(a b:Nat):Sc:=⟨a+b,0,MG (a+b) 0 a,[]⟩
def OV(d:Nat):∀(n i:Nat),(MG d i n).length=n|0,_=>rfl|n+1,i=>by simp[MG,OV]
def U0(a b:Nat)(h:a+b<=qA):A 128 [num a,num b] (wB a b).p:=by
 have:=vA;have:=uA;have g:=lA (a:=a) (b:=b)
 cases a with
 |zero=>
  have d:Lp 128 0 0 (st [(4,.loc 0 0),(5,.loc 1 0),(11,.pv (num 0)),(12,.pv (num 0))] [(0,bx qM),(1,bx [num (0+b),num 0,.nils,.nils])] 2 []) (.exit 0) (st [(4,.loc 0 0),(5,.loc 1 0)] [(0,bx qM),(1,bx [num (0+b),num 0,.nils,.nils])] 2 []):=
   x0 [] ⟨[4,5],[0,1],2,[]⟩
  exact f2 [9,(100003,.l ⟨[4,5,11,12],[0,1],2,[]⟩ (.exit 0) (st [(4,.loc 0 0),(5,.loc 1 0)] [(0,bx qM),(1,bx [num (0+b),num 0,.nils,.nils])] 2 []))] g d
 |succ a=>
  generalize o:a+1+b=c at *
  obtain⟨v,d⟩:=Rj c (a+1) (by omega) (by omega) a 1 1 [ec (.v (c-1-0),c)] (by omega) rfl;have f:=LoopIs.fz (by simp) d 2 (ver:=v) (sz:=6) (ty:=170) (ps:=(MG c 0 (a+1)).map ec) rfl (by kernel_rfl);have i:(([ec (.v (c-1-0),c)]:List (List PV)).length+a)=a+1:=by simp;omega
  rw[i]at f;simp (decide:=true) only[BF,QE,QC,ND,ME,List.map,yE,and_self,↓reduceIte,List.take_of_length_le (show((MG c 0 (a+1)).map ec).length<=a+1 by simp[OV])]at f;have e:fA (.ofNat 0) (.ofNat (a+1))=true:=NA (by omega);have j:=SC (a:=c);have k:eA (Int.ofNat (c-1)-.ofNat 0)=true/\Int.ofNat (c-1)-.ofNat 0=.ofNat (c-1-0):=by
   grind
  have l:Lp 128 0 0 (st [(4,.loc 0 0),(5,.loc 1 0),(11,.pv (num (a+1))),(12,.pv (num 0))] [(0,bx qM),(1,bx [num c,num 0,.nils,.nils])] 2 []) (.exit 0) (st [(4,.loc 0 0),(5,.loc 1 0)] [(0,bx qM),(1,bx [num c,num 0,.slice ((MG c 0 (a+1)).map ec),.nils])] 3 []):=
   n6 [13,19,21,22] Qj e j k (TA (c-1-0)) (GG [] (ec (.v (c-1-0),c))) f
  exact f2 [9,(100003,.l ⟨[4,5,11,12],[0,1],2,[]⟩ (.exit 0) (st [(4,.loc 0 0),(5,.loc 1 0)] [(0,bx qM),(1,bx [num c,num 0,.slice ((MG c 0 (a+1)).map ec),.nils])] 3 []))] g l
def Za(g:List Ty)(a:g.length<=16):A 66 [LA g []] (wB g.length 0).p:=by
 have:=vA;have a:=U0 (g.map Ty.c).length 0 (by simp;omega);rw[show wB (g.map Ty.c).length 0=wB g.length 0 by simp]at a;exact f1 [36] a
open Go.Lg
def Sj(d:Nat):∀(n i k:Nat),k<n->(MG d i n)[k]? =some (.v (d-1-(i+k)),d)
 |0,_,_,h=>absurd h (Nat.not_lt_zero _)|n+1,i,0,_=>rfl|n+1,i,k+1,h=>by
  have:=Sj d n (i+1) k (by omega)
  grind[MG]
def Tj(d:Nat):∀(n i:Nat)(e:Tm×Nat),e∈MG d i n->∃k,e=(.v (d-1-k),d)
 |0,_,_,h=>by cases h
 |n+1,i,e,h=>by
  rcases List.mem_cons.1 h with rfl|h
  ·grind
  exact Tj d n (i+1) e h
def QV(a b:Nat):ScOK a [] (wB a b):=by
 refine⟨OV _ _ _,rfl,λe c=>?_,(λh d=>by cases d),λi f=>by simp at f⟩
 cases a with
 |zero=>cases c
 |succ a=>
  obtain⟨k,rfl⟩:=Tj _ _ _ _ c;exact⟨Nat.le_refl _,uC⟩
def zb:A 34 [dA [],row []] (num 0):=by
 have e:(!mB (.ofNat (([]:List Fm).map Fm.c).length) (.ofNat (([]:List Tm).map Tm.c).length))=false:=rfl;exact f1 [14] e
def Uj(g:List Ty)(b:g.length<=16)(a:∀s∈g,s.size<=64)(j:Jt)(c:j.D [] g [])(d:j.p.ck)(i:j.p.cnt<=16384):A 65 [dA [],LA g [],j.p.p] (.tuple [j.ptr [],num 0])/\j.OK [] g.length []:=by
 have:=vA;obtain⟨n,L,k⟩:=Ny g b a j c d i;have e:=(TE (ls:=[]) (λf h=>nomatch h) j g [] c a b (λf h=>nomatch h) d).1;have l:=UE (ls:=[]) j g.length [] (λf h=>nomatch h) (by simp;omega) (by omega) e;exact⟨f2 [14,24] k l,e⟩
def V0{tl:List Tm}{a:List Fm}{j:Jt}{s:Sc}{r:XR}(h:A 211 [aA tl,j.ptr a,s.p] r.p):A 141 [row tl,j.ptr a,s.p] r.p:=f1 [12] h
def zM:∀(t:Tm)(ρ:Nat->Nat),(t.ren ρ).cnt=t.cnt|.v _,_=>rfl|.lam s b,ρ=>by simp[Tm.ren,Tm.cnt,zM]|.n0 _,_=>rfl|.n1 _ a,ρ=>by simp[Tm.ren,Tm.cnt,zM]|.n2 _ a b,ρ=>by simp[Tm.ren,Tm.cnt,zM]|.n3 _ _ a b d,ρ=>by simp[Tm.ren,Tm.cnt,zM]
theorem jM:∀(t:Tm)(ρ:Nat->Nat)(c e:Nat),(∀j,ρ j=c↔j=e)->(t.ren ρ).occ c=t.occ e
 |.v i,ρ,c,e,h=>by
  grind[Tm.ren,Tm.occ]
 |.lam s b,ρ,c,e,h=>jM b (dC ρ) (c+1) (e+1) λj=>by
  cases j with|zero=>simp[dC]|succ j=>grind[dC]
 |.n0 _,_,_,_,_=>rfl|.n1 _ a,ρ,c,e,h=>jM a ρ c e h|.n2 _ a b,ρ,c,e,h=>by simp only[Tm.ren,Tm.occ,jM a ρ c e h,jM b ρ c e h]|.n3 _ _ a b d,ρ,c,e,h=>by simp only[Tm.ren,Tm.occ,jM a ρ c e h,jM b ρ c e h,jM d ρ c e h]
theorem vM:∀(t:Tm)(ρ:Nat->Nat)(c:Nat),(t.ren ρ).occ c≠0->∃j,t.occ j≠0/\ρ j=c
 |.v i,ρ,c,h=>by
  grind[Tm.occ,Tm.ren]
 |.lam s b,ρ,c,h=>by
  obtain⟨j,g,f⟩:=vM b (dC ρ) (c+1) h
  cases j with|zero=>simp only[dC]at f;omega|succ j=>exact⟨j,g,by simp only[dC]at f;omega⟩
 |.n0 _,_,_,h=>absurd rfl h|.n1 _ a,ρ,c,h=>vM a ρ c h|.n2 _ a b,ρ,c,h=>by
  simp only[Tm.ren,Tm.occ]at h;by_cases e:(a.ren ρ).occ c=0
  ·obtain⟨j,g,f⟩:=vM b ρ c (by omega);exact⟨j,by simp only[Tm.occ];omega,f⟩
  obtain⟨j,g,f⟩:=vM a ρ c e;exact⟨j,by simp only[Tm.occ];omega,f⟩
 |.n3 _ _ a b d,ρ,c,h=>by
  simp only[Tm.ren,Tm.occ]at h;by_cases e:(a.ren ρ).occ c=0
  ·by_cases k:(b.ren ρ).occ c=0
   ·obtain⟨j,g,f⟩:=vM d ρ c (by omega);exact⟨j,by simp only[Tm.occ];omega,f⟩
   obtain⟨j,g,f⟩:=vM b ρ c k;exact⟨j,by simp only[Tm.occ];omega,f⟩
  obtain⟨j,g,f⟩:=vM a ρ c e;exact⟨j,by simp only[Tm.occ];omega,f⟩
def Vj(ρ:Nat->Nat):rA (λi=>.v (ρ i))=λi=>.v (dC ρ i):=by
 funext i
 cases i with|zero=>rfl|succ i=>rfl
def WF:∀(t:Tm)(ρ:Nat->Nat),t.ren ρ=t.sub λi=>.v (ρ i)|.v _,_=>rfl|.lam s b,ρ=>by simp[Tm.ren,Tm.sub,Vj,WF]|.n0 _,_=>rfl|.n1 _ a,ρ=>by simp[Tm.ren,Tm.sub,WF]|.n2 _ a b,ρ=>by simp[Tm.ren,Tm.sub,WF]|.n3 _ _ a b d,ρ=>by simp[Tm.ren,Tm.sub,WF]
theorem ID(s:Tm):(Tm.v 0).put 0 s 0=s:=by
 exact EE s 0
theorem yS(s:Tm)(i:Nat):(Tm.v (i+1)).put 0 s 0=.v i:=by
 simp[Tm.put]
def Wj(t s:Tm)(ρ:Nat->Nat):(t.put 0 s 0).ren ρ=(t.ren (dC ρ)).put 0 (s.ren ρ) 0:=by
 rw[VC,KG,VC 0 (s.ren ρ),lE];congr 1;funext i
 cases i with|zero=>rw[ID];exact(ID _).symm|succ i=>rfl
def vb(t:Tm)(ρ:Nat->Nat):(t.ren ρ).red=t.red.map (Tm.ren ρ):=by
 cases t with
 |v i=>rfl|lam s b=>rfl|n0 k=>rfl|n1 k a=>cases k with
  |succ=>rfl|fst=>cases a with
   |n2 l x y=>cases l<;>rfl
   |_=>rfl
  |snd=>cases a with
   |n2 l x y=>cases l<;>rfl
   |_=>rfl
 |n2 k a b=>cases k with
  |app=>cases a with
   |lam s x=>
    show some _=some _;rw[Wj]
   |_=>rfl
  |_=>rfl
 |n3 k s a b d=>cases k with
  |re=>cases d with
   |n0 l=>cases l<;>rfl
   |n1 l x=>cases l<;>rfl
   |_=>rfl
  |fo=>cases d with
   |n0 l=>cases l<;>rfl
   |n2 l x y=>cases l<;>rfl
   |_=>rfl
def SR.ren(ρ:Nat->Nat):SR->SR|.no=>.no|.er=>.er|.ok x=>.ok (x.ren ρ)
def SN(ρ τ:Nat->Nat)(f a:Tm->Tm)(h:∀x,a (x.ren τ)=(f x).ren ρ)(r q:SR):SR.or a (r.ren ρ) (q.ren τ)=(SR.or f r q).ren ρ:=by
 cases q with|no=>rfl|er=>rfl|ok x=>show SR.ok _=SR.ok _;rw[h]
def yb(z:Int)(t r:Tm)(ρ:Nat->Nat):rt z (t.ren ρ) (r.ren ρ)=(rt z t r).ren ρ:=by
 unfold rt;rw[zM,zM];cases fA z ((r.cnt:Int)-t.cnt)<;>rfl
def gK(z:Int):∀(t:Tm)(ρ:Nat->Nat),(t.ren ρ).st z=(t.st z).ren ρ
 |.v _,_=>rfl|.n0 _,_=>rfl|.lam s b,ρ=>by
  show SR.or (.lam s) .no ((b.ren (dC ρ)).st z)=_;rw[gK z b];exact SN ρ (dC ρ) (.lam s) (.lam s) (λx=>rfl) .no (b.st z)
 |.n1 k a,ρ=>by
  have h:=vb (.n1 k a) ρ
  cases e:(Tm.n1 k a).red with
  |some r=>
   rw[e]at h;rw[kD e,kD h,yb]
  |none=>
   rw[e]at h;have h:(Tm.n1 k (a.ren ρ)).red=none:=h;show(Tm.n1 k (a.ren ρ)).st z=_;simp only[Tm.st,e,h];rw[gK z a];exact SN ρ ρ (.n1 k) (.n1 k) (λx=>rfl) .no (a.st z)
 |.n2 k a b,ρ=>by
  have h:=vb (.n2 k a b) ρ
  cases e:(Tm.n2 k a b).red with
  |some r=>
   rw[e]at h;rw[kD e,kD h,yb]
  |none=>
   rw[e]at h;have h:(Tm.n2 k (a.ren ρ) (b.ren ρ)).red=none:=h;show(Tm.n2 k (a.ren ρ) (b.ren ρ)).st z=_;simp only[Tm.st,e,h];rw[gK z a,gK z b,show SR.or (.n2 k (a.ren ρ)) .no ((b.st z).ren ρ)=(SR.or (.n2 k a) .no (b.st z)).ren ρ from SN ρ ρ (.n2 k a) (.n2 k (a.ren ρ)) (λx=>rfl) .no (b.st z)];exact SN ρ ρ (λx=>.n2 k x b) (λx=>.n2 k x (b.ren ρ)) (λx=>rfl) _ (a.st z)
 |.n3 k s a b c,ρ=>by
  have h:=vb (.n3 k s a b c) ρ
  cases e:(Tm.n3 k s a b c).red with
  |some r=>
   rw[e]at h;rw[kD e,kD h,yb]
  |none=>
   rw[e]at h;have h:(Tm.n3 k s (a.ren ρ) (b.ren ρ) (c.ren ρ)).red=none:=h;show(Tm.n3 k s (a.ren ρ) (b.ren ρ) (c.ren ρ)).st z=_;simp only[Tm.st,e,h];rw[gK z a,gK z b,gK z c,show SR.or (.n3 k s (a.ren ρ) (b.ren ρ)) .no ((c.st z).ren ρ)=(SR.or (.n3 k s a b) .no (c.st z)).ren ρ from SN ρ ρ (.n3 k s a b) (.n3 k s (a.ren ρ) (b.ren ρ)) (λx=>rfl) .no (c.st z),
    show SR.or (λx=>.n3 k s (a.ren ρ) x (c.ren ρ)) ((SR.or (.n3 k s a b) .no (c.st z)).ren ρ) ((b.st z).ren ρ)=(SR.or (λx=>.n3 k s a x c) (SR.or (.n3 k s a b) .no (c.st z)) (b.st z)).ren ρ from SN ρ ρ (λx=>.n3 k s a x c) (λx=>.n3 k s (a.ren ρ) x (c.ren ρ)) (λx=>rfl) _ (b.st z)]
   exact SN ρ ρ (λx=>.n3 k s x b c) (λx=>.n3 k s x (b.ren ρ) (c.ren ρ)) (λx=>rfl) _ (a.st z)
def NF.ren(ρ:Nat->Nat):NF->NF|.ok x n=>.ok (x.ren ρ) n|.er e=>.er e
def Xj(ρ:Nat->Nat):∀(r n:Nat)(t:Tm),tC r n (t.ren ρ)=(tC r n t).ren ρ
 |0,n,t=>by
  unfold tC;rw[gK,zM];cases t.st (4096-t.cnt)<;>rfl
 |r+1,n,t=>by
  unfold tC;rw[gK,zM]
  cases t.st (4096-t.cnt)with|no=>rfl|er=>rfl|ok x=>exact Xj ρ r (n+1) x
def Yj(t:Tm)(ρ:Nat->Nat):QD (t.ren ρ)=(QD t).ren ρ:=Xj ρ 1000 0 t
def RNg(g a:List Ty)(ρ:Nat->Nat):Prop:=∀i s,cB g i=.ok s->cB a (ρ i)=.ok s
def NG(g:List Ty)(s:Ty):cB (g++[s]) 0=.ok s:=by
 unfold cB;rw[if_pos (by simp)];simp
def OG(g:List Ty)(s:Ty)(i:Nat):cB (g++[s]) (i+1)=cB g i:=by
 grind[cB]
def RNg.up{g a:List Ty}{ρ:Nat->Nat}(h:RNg g a ρ)(u:Ty):RNg (g++[u]) (a++[u]) (dC ρ):=λi s e=>by
 cases i with|zero=>rw[NG]at e;show cB _ 0=_;rw[NG];exact e|succ i=>rw[OG]at e;show cB _ (ρ i+1)=_;rw[OG];exact h i s e
def qJ:∀(t:Tm)(g j:List Ty)(ρ:Nat->Nat)(s:Ty),RNg g j ρ->t.tyR g=.ok s->(t.ren ρ).tyR j=.ok s
 |.v i,g,j,ρ,s,h,e=>h i s e|.lam u b,g,j,ρ,s,h,e=>by
  simp only[Tm.tyR,Tm.ren]at e⊢
  cases d:b.tyR (g++[u])with
  |er n=>rw[d]at e;cases e
  |ok x=>rw[d]at e;rw[qJ b _ _ _ x (h.up u) d];exact e
 |.n0 k,_,_,_,_,_,e=>e|.n1 k a,g,j,ρ,s,h,e=>by
  simp only[Tm.tyR,Tm.ren]at e⊢
  cases d:a.tyR g with
  |er n=>rw[d]at e;cases e
  |ok x=>rw[d]at e;rw[qJ a _ _ _ x h d];exact e
 |.n2 k a b,g,j,ρ,s,h,e=>by
  simp only[Tm.tyR,Tm.ren]at e⊢
  cases d:a.tyR g with
  |er n=>rw[d]at e;cases e
  |ok x=>cases f:b.tyR g with
   |er n=>rw[d,f]at e;cases e
   |ok y=>rw[d,f]at e;rw[qJ a _ _ _ x h d,qJ b _ _ _ y h f];exact e
 |.n3 k u a b c,g,j,ρ,s,h,e=>by
  simp only[Tm.tyR,Tm.ren]at e⊢
  cases d:a.tyR g with
  |er n=>rw[d]at e;cases e
  |ok x=>cases f:b.tyR g with
   |er n=>rw[d,f]at e;cases e
   |ok y=>cases l:c.tyR g with
    |er n=>rw[d,f,l]at e;cases e
    |ok w=>rw[d,f,l]at e;rw[qJ a _ _ _ x h d,qJ b _ _ _ y h f,qJ c _ _ _ w h l];exact e
open Go.Lg
def Fm.ren:(Nat->Nat)->Fm->Fm|ρ,.eq a b=>.eq (a.ren ρ) (b.ren ρ)|ρ,.bin k f g=>.bin k (f.ren ρ) (g.ren ρ)|ρ,.q k s f=>.q k s (f.ren (dC ρ))
def Fm.sub:(Nat->Tm)->Fm->Fm|σ,.eq a b=>.eq (a.sub σ) (b.sub σ)|σ,.bin k f g=>.bin k (f.sub σ) (g.sub σ)|σ,.q k s f=>.q k s (f.sub (rA σ))
def iD(c k i:Nat):Nat:=if c<=i then i+k else i
def X0(σ:Nat->Tm)(ρ:Nat->Nat):(λi=>(rA σ i).ren (dC ρ))=rA λi=>(σ i).ren ρ:=by
 funext i
 cases i with|zero=>rfl|succ i=>simp only[rA,cC,ZI];rfl
def uS(c k:Nat):dC (iD c k)=iD (c+1) k:=by
 funext i
 cases i with|zero=>rfl|succ i=>grind[dC,iD]
def Y0:∀(f:Fm)(σ:Nat->Tm)(ρ:Nat->Nat),(f.sub σ).ren ρ=f.sub λi=>(σ i).ren ρ
 :=by intro x;induction x<;>simp_all[Fm.ren,Fm.sub,KG,X0]
def wM:∀(f:Fm)(σ τ:Nat->Tm),(∀i,f.occ i≠0->σ i=τ i)->f.sub σ=f.sub τ
 |.eq a b,σ,τ,h=>by
  grind[Fm.sub,GE,Fm.occ]
 |.bin k f g,σ,τ,h=>by
  simp only[Fm.sub];rw[wM f σ τ λi c=>h i (by simp only[Fm.occ];omega),wM g σ τ λi c=>h i (by simp only[Fm.occ];omega)]
 |.q k s f,σ,τ,h=>by
  simp only[Fm.sub];rw[wM f (rA σ) (rA τ) λi c=>by
   cases i with|zero=>rfl|succ i=>simp only[rA];rw[h i c]]
def HE(k:Nat):∀(f:Fm)(c:Nat),f.sh c (.ofNat k)=f.ren (iD c k)
 |.eq a b,c=>by
  simp only[Fm.sh,Fm.ren];rw[GD k a,GD k b];rfl
 |.bin l f g,c=>by simp only[Fm.sh,Fm.ren];rw[HE k f,HE k g]|.q l s f,c=>by simp only[Fm.sh,Fm.ren];rw[HE k f,uS]
def Z0(c:Nat)(S:Tm)(d:Nat):rA (λi=>(Tm.v i).put c S d)=λi=>(Tm.v i).put c S (d+1):=by
 funext i;symm
 cases i with
 |zero=>
  rfl
 |succ i=>
  simp only[Tm.put,rA];by_cases e:i=c+d
  ·rw[if_pos (by omega),if_pos e,IP];rfl
  rw[if_neg (by omega),if_neg e];by_cases a:c+d<i
  ·rw[if_pos (by omega),if_pos a];simp only[Tm.sh,Nat.zero_le,if_true]
   grind
  rw[if_neg (by omega),if_neg a];rfl
def oD(c:Nat)(S:Tm):∀(f:Fm)(d:Nat),f.put c S d=f.sub λi=>(Tm.v i).put c S d|.eq a b,d=>by grind[Fm.put,Fm.sub,VC]|.bin l f g,d=>by simp[Fm.put,Fm.sub,oD]|.q l s f,d=>by simp[Fm.put,Fm.sub,oD,Z0]
def RV:∀(f g:Fm)(ρ:Nat->Nat),XA f=some g->XA (f.ren ρ)=some (g.ren ρ)
 |.eq a b,g,ρ,h=>by
  simp only[XA,Fm.ren]at h⊢;rw[Yj,Yj]
  cases c:QD a with
  |er n=>rw[c]at h;cases h
  |ok x k=>cases d:QD b with
   |er n=>rw[c,d]at h;cases h
   |ok y l=>rw[c,d]at h;cases h;rfl
 |.bin k a b,g,ρ,h=>by
  simp only[XA,Fm.ren]at h⊢
  cases c:XA a with
  |none=>rw[c]at h;cases h
  |some x=>cases d:XA b with
   |none=>rw[c,d]at h;cases h
   |some y=>rw[c,d]at h;cases h;rw[RV a x ρ c,RV b y ρ d];rfl
 |.q k s a,g,ρ,h=>by
  simp only[XA,Fm.ren]at h⊢
  cases c:XA a with
  |none=>rw[c]at h;cases h
  |some x=>rw[c]at h;cases h;rw[RV a x _ c];rfl
def Jt.dp:Jt->Nat
 |.leaf _ _ _=>0|.refl _=>0|.p1 _ a _=>a.dp|.p2 k a b _=>max a.dp (match k with
  |.andI=>b.dp|.impE=>b.dp|_=>b.dp+1)
 |.impI _ a=>a.dp|.all _ _ a=>a.dp+1|.ins _ _ a _=>a.dp|.ex _ _ _ a=>a.dp|.ind l _ _ a b _=>max a.dp (b.dp+lN l)|.subst _ a b _=>max a.dp b.dp
def D1:Bool->(Nat->Nat)->Nat->Nat|false,ρ=>dC ρ|true,ρ=>dC (dC ρ)
def Jt.ren:(Nat->Nat)->Jt->Jt
 |ρ,.leaf u i f=>.leaf u i (f.ren ρ)|ρ,.refl t=>.refl (t.ren ρ)|ρ,.p1 k a f=>.p1 k (a.ren ρ) (f.ren ρ)|ρ,.p2 k a b f=>.p2 k (a.ren ρ) (b.ren (match k with
  |.andI=>ρ|.impE=>ρ|_=>dC ρ)) (f.ren ρ)
 |ρ,.impI x a=>.impI (x.ren ρ) (a.ren ρ)|ρ,.all u s a=>.all u s (a.ren (dC ρ))|ρ,.ins u t a f=>.ins u (t.ren ρ) (a.ren ρ) (f.ren ρ)|ρ,.ex u x t a=>.ex u (x.ren ρ) (t.ren ρ) (a.ren ρ)|ρ,.ind l x t a b f=>.ind l (x.ren (dC ρ)) (t.ren ρ) (a.ren ρ) (b.ren (D1 l ρ)) (f.ren ρ)|ρ,.subst x a b f=>.subst (x.ren (dC ρ)) (a.ren ρ) (b.ren ρ) (f.ren ρ)
open Go.Lg
def F1{n v:Nat}(h:v<n):(Tm.v v).ps (wB n 0).vs n 0=.v v:=by
 have e:ent (wB n 0).vs v=some (.v v,n):=by
  unfold ent;rw[OV,if_pos h,Sj _ _ _ _ (by omega)]
  grind
 rw[kI e];rw[Nat.sub_self,EE]
def Zj(g:List Ty)(s:Ty):RNg g (g++[s]) (· +1):=λi u e=>by rw[OG];exact e
def G1:dC (λi=>i)=λi=>i:=by
 funext i;cases i<;>rfl
def I1(t:Tm):t.ren (λi=>i)=t:=by rw[WF];exact FC t
def J1:∀f:Fm,f.ren (λi=>i)=f
 :=by intro x;induction x<;>simp_all[Fm.ren,I1,G1]
theorem Par.refl:∀t:Tm,Par t t|.v i=>.v i|.n0 k=>.n0 k|.lam s b=>.lam s (refl b)|.n1 k a=>.n1 k (refl a)|.n2 k a b=>.n2 k (refl a) (refl b)|.n3 k s a b c=>.n3 k s (refl a) (refl b) (refl c)
theorem Par.ren{t u:Tm}(h:Par t u):∀ρ:Nat->Nat,Par (t.ren ρ) (u.ren ρ):=by
 induction h with|v i=>exactλρ=>.v _|n0 k=>exactλρ=>.n0 k|lam s _ c=>exactλρ=>.lam s (c _)|n1 k _ c=>exactλρ=>.n1 k (c ρ)|n2 k _ _ d e=>exactλρ=>.n2 k (d ρ) (e ρ)|n3 k s _ _ _ d e g=>exactλρ=>.n3 k s (d ρ) (e ρ) (g ρ)|fst b _ c=>exactλρ=>.fst _ (c ρ)|snd a _ c=>exactλρ=>.snd _ (c ρ)|beta s _ _ d e=>intro ρ;rw[Wj];exact .beta s (d _) (e ρ)|re0 s f _ c=>exactλρ=>.re0 s _ (c ρ)|reS s _ _ _ d e g=>exactλρ=>.reS s (d ρ) (e ρ) (g ρ)|fo0 s f _ c=>exactλρ=>.fo0 s _ (c ρ)|foC s _ _ _ _ d e g j=>exactλρ=>.foC s (d ρ) (e ρ) (g ρ) (j ρ)
def L1(t s:Tm)(σ:Nat->Tm):(t.put 0 s 0).sub σ=(t.sub (rA σ)).put 0 (s.sub σ) 0:=by
 rw[VC,HD,VC 0 (s.sub σ),HD];congr 1;funext i
 cases i with
 |zero=>rw[ID];exact(ID _).symm|succ i=>
  show σ i=((σ i).sh 0 (.ofNat 1)).sub _;rw[cC,lE];simp[GE,yS,FC]
def Par.up{σ τ:Nat->Tm}(h:∀i,Par (σ i) (τ i)):∀i,Par (rA σ i) (rA τ i)
 |0=>.v 0|i+1=>by
  show Par ((σ i).sh 0 (.ofNat 1)) ((τ i).sh 0 (.ofNat 1));rw[cC,cC];exact(h i).ren _
theorem Par.sub{t u:Tm}(h:Par t u):∀{σ τ:Nat->Tm},(∀i,Par (σ i) (τ i))->Par (t.sub σ) (u.sub τ):=by
 induction h with|v i=>exactλk=>k i|n0 k=>exactλ_=>.n0 k|lam s _ c=>exactλk=>.lam s (c (Par.up k))|n1 k _ c=>exactλh=>.n1 k (c h)|n2 k _ _ d e=>exactλh=>.n2 k (d h) (e h)|n3 k s _ _ _ d e g=>exactλh=>.n3 k s (d h) (e h) (g h)|fst b _ c=>exactλh=>.fst _ (c h)|snd a _ c=>exactλh=>.snd _ (c h)|beta s _ _ d e=>intro σ τ h;rw[L1];exact .beta s (d (Par.up h)) (e h)|re0 s f _ c=>exactλh=>.re0 s _ (c h)|reS s _ _ _ d e g=>exactλh=>.reS s (d h) (e h) (g h)|fo0 s f _ c=>exactλh=>.fo0 s _ (c h)|foC s _ _ _ _ d e g j=>exactλh=>.foC s (d h) (e h) (g h) (j h)
theorem Par.put{t u a b:Tm}(h:Par t u)(k:Par a b):Par (t.put 0 a 0) (u.put 0 b 0):=by
 rw[VC,VC 0 b];refine h.sub λi=>?_
 cases i with|zero=>rw[ID,ID];exact k|succ i=>exact .v i
def Tm.cd:Tm->Tm|.v i=>.v i|.n0 k=>.n0 k|.lam s b=>.lam s b.cd|.n1 k a=>if(Tm.n1 k a).red.isSome then(Tm.n1 k a.cd).red.getD (.v 0)else .n1 k a.cd|.n2 k a b=>if(Tm.n2 k a b).red.isSome then(Tm.n2 k a.cd b.cd).red.getD (.v 0)else .n2 k a.cd b.cd|.n3 k s a b c=>if(Tm.n3 k s a b c).red.isSome then(Tm.n3 k s a.cd b.cd c.cd).red.getD (.v 0)else .n3 k s a.cd b.cd c.cd
def Par.cd{t u:Tm}(h:Par t u):Par u t.cd:=by
 induction h with
 |v i=>exact .v i|n0 k=>exact .n0 k|lam s _ d=>exact .lam s d|n1 k h d=>cases k with
  |succ=>exact .n1 _ d|fst=>rename_i a n;cases a with
   |n2 q x y=>cases q with
    |pair=>cases h with
     |n2 _ o hy=>cases d with|n2 _ l p=>exact .fst _ l
    |_=>exact .n1 _ d
   |_=>exact .n1 _ d
  |snd=>rename_i a n;cases a with
   |n2 q x y=>cases q with
    |pair=>cases h with
     |n2 _ o hy=>cases d with|n2 _ l p=>exact .snd _ p
    |_=>exact .n1 _ d
   |_=>exact .n1 _ d
 |n2 k h B d m=>cases k with
  |app=>rename_i a n b w;cases a with
   |lam s x=>cases h with
    |lam _ o=>cases d with|lam _ l=>exact .beta _ l m
   |_=>exact .n2 _ d m
  |_=>exact .n2 _ d m
 |n3 k s C D r e g j=>cases k with
  |re=>rename_i a n b w c A;cases c with
   |n0 q=>cases q with
    |zero=>cases r;exact .re0 _ _ e
    |_=>exact .n3 _ _ e g j
   |n1 q x=>cases q with
    |succ=>cases r with
     |n1 _ o=>cases j with|n1 _ l=>exact .reS _ e g l
    |_=>exact .n3 _ _ e g j
   |_=>exact .n3 _ _ e g j
  |fo=>rename_i a n b w c A;cases c with
   |n0 q=>cases q with
    |nil=>cases r;exact .fo0 _ _ e
    |_=>exact .n3 _ _ e g j
   |n2 q x y=>cases q with
    |cons=>cases r with
     |n2 _ o hy=>cases j with|n2 _ l p=>exact .foC _ e g l p
    |_=>exact .n3 _ _ e g j
   |_=>exact .n3 _ _ e g j
 |fst b _ d=>exact d|snd a _ d=>exact d|beta s _ _ e g=>exact e.put g|re0 s f _ d=>exact d|reS s _ _ _ e g j=>exact .n2 _ (.n2 _ g j) (.n3 _ _ e g j)|fo0 s f _ d=>exact d|foC s _ _ _ _ e g j z=>exact .n2 _ (.n2 _ (.n2 _ g j) z) (.n3 _ _ e g z)
def Ps.trans{a b c:Tm}(h:Ps a b)(k:Ps b c):Ps a c:=by
 induction h with|refl=>exact k|step p _ d=>exact .step p (d k)
def Ps.strip{a c:Tm}(h:Ps a c):∀{b:Tm},Par a b->∃d,Ps b d/\Par c d:=by
 induction h with
 |refl=>exactλp=>⟨_,.refl _,p⟩|step p _ e=>
  intro b q;obtain⟨d,f,g⟩:=e p.cd;exact⟨d,.step q.cd f,g⟩
def Ps.conf{a b:Tm}(h:Ps a b):∀{c:Tm},Ps a c->∃d,Ps b d/\Ps c d:=by
 induction h with
 |refl=>exactλk=>⟨_,k,.refl _⟩|step p _ f=>
  intro c k;obtain⟨d,g,i⟩:=k.strip p;obtain⟨e,j,l⟩:=f g;exact⟨e,j,.step i l⟩
theorem Ps.sub{a b:Tm}(h:Ps a b)(σ:Nat->Tm):Ps (a.sub σ) (b.sub σ):=by
 induction h with|refl=>exact .refl _|step p _ c=>exact .step (p.sub λi=>.refl _) c
theorem Cv.refl(a:Tm):Cv a a:=⟨a,.refl a,.refl a⟩
def Cv.trans{a b c:Tm}:Cv a b->Cv b c->Cv a c:=λ⟨w,h,k⟩ ⟨x,l,m⟩=>by
 obtain⟨d,e,f⟩:=k.conf l;exact⟨d,h.trans e,m.trans f⟩
theorem Cv.sub{a b:Tm}(σ:Nat->Tm):Cv a b->Cv (a.sub σ) (b.sub σ):=λ⟨w,h,k⟩=>⟨w.sub σ,h.sub σ,k.sub σ⟩
def ub{t r:Tm}:t.red=some r->Par t r:=
 LJ (P:=Par) (λa b=>.fst b (.refl a)) (λa b=>.snd a (.refl b)) (λs b a=>.beta s (.refl b) (.refl a)) (λs b f=>.re0 s f (.refl b)) (λs b f n=>.reS s (.refl b) (.refl f) (.refl n)) (λs b f=>.fo0 s f (.refl b)) (λs b f h l=>.foC s (.refl b) (.refl f) (.refl h) (.refl l))
def nb{z:Int}{t r x:Tm}(h:rt z t r=.ok x):x=r:=by
 unfold rt at h;cases e:fA z ((r.cnt:Int)-t.cnt)<;>rw[e]at h<;>cases h;rfl
def M1{z:Int}{t r:Tm}(h:rt z t r=.no):False:=by
 grind[rt,fA]
def kM(z:Int):∀(t:Tm){x:Tm},t.st z=.ok x->Par t x
 |.v _,_,h=>nomatch h
 |.n0 _,_,h=>nomatch h
 |.lam s b,x,h=>by
  rcases vC h with ⟨y,e,rfl⟩|⟨_,e⟩
  ·exact .lam s (kM z b e)
  cases e
 |.n1 k a,x,h=>by
  cases e:(Tm.n1 k a).red with
  |some r=>rw[kD e]at h;rw[nb h];exact ub e|none=>
   simp only[Tm.st,e]at h;rcases vC h with ⟨y,e,rfl⟩|⟨_,e⟩
   ·exact .n1 k (kM z a e)
   cases e
 |.n2 k a b,x,h=>by
  cases e:(Tm.n2 k a b).red with
  |some r=>rw[kD e]at h;rw[nb h];exact ub e|none=>
   simp only[Tm.st,e]at h;rcases vC h with ⟨y,e,rfl⟩|⟨_,h⟩
   ·exact .n2 k (kM z a e) (.refl b)
   rcases vC h with ⟨y,e,rfl⟩|⟨_,e⟩
   ·exact .n2 k (.refl a) (kM z b e)
   cases e
 |.n3 k s a b c,x,h=>by
  cases e:(Tm.n3 k s a b c).red with
  |some r=>rw[kD e]at h;rw[nb h];exact ub e|none=>
   simp only[Tm.st,e]at h;rcases vC h with ⟨y,e,rfl⟩|⟨_,h⟩
   ·exact .n3 k s (kM z a e) (.refl b) (.refl c)
   rcases vC h with ⟨y,e,rfl⟩|⟨_,h⟩
   ·exact .n3 k s (.refl a) (kM z b e) (.refl c)
   rcases vC h with ⟨y,e,rfl⟩|⟨_,e⟩
   ·exact .n3 k s (.refl a) (.refl b) (kM z c e)
   cases e
theorem SV{z:Int}{t r:Tm}(h:t.st z=.no)(e:t.red=some r):False:=by
 rw[kD e]at h;exact M1 h
def N1{t u:Tm}(h:Par t u):∀{z:Int},t.st z=.no->u=t:=by
 induction h with
 |v i=>simp|n0 k=>simp|lam s _ d=>exactλh=>by rw[d (or_nn.1 h).1]|n1 k _ d=>
  intro z h;rename_i a j _
  cases e:(Tm.n1 k a).red with
  |some r=>grind[SV]|none=>
   simp only[Tm.st,e]at h;rw[d (or_nn.1 h).1]
 |n2 k _ _ f g=>
  intro z h;rename_i a j b l _ _
  cases e:(Tm.n2 k a b).red with
  |some r=>grind[SV]|none=>
   simp only[Tm.st,e]at h;rw[f (or_nn.1 h).1,g (or_nn.1 (or_nn.1 h).2).1]
 |n3 k s _ _ _ f g m=>
  intro z h;rename_i a j b l c n _ _ _
  cases e:(Tm.n3 k s a b c).red with
  |some r=>grind[SV]|none=>
   simp only[Tm.st,e]at h;rw[f (or_nn.1 h).1,g (or_nn.1 (or_nn.1 h).2).1,m (or_nn.1 (or_nn.1 (or_nn.1 h).2).2).1]
 |_=>exactλh=>(SV h rfl).elim
theorem O1{t u:Tm}(h:Ps t u):∀{z:Int},t.st z=.no->u=t:=by
 induction h with
 |refl=>simp|step p _ a=>
  intro z h;obtain rfl:=N1 p h;exact a h
def pb:∀(r n:Nat)(t:Tm){x:Tm}{k:Nat},tC r n t=.ok x k->Ps t x/\∃z,x.st z=.no:=by
 intro r
 induction r with
 |zero=>
  intro n t x k h;simp only[tC]at h;split at h
  ·rename_i e;cases h;exact⟨.refl _,_,e⟩
  cases h
 |succ r a=>
  intro n t x k h;simp only[tC]at h;split at h
  ·rename_i e;cases h;exact⟨.refl _,_,e⟩
  ·cases h
  rename_i y e;obtain⟨b,c⟩:=a _ _ h;exact⟨.step (kM _ _ e) b,c⟩
def U1{t x:Tm}{k:Nat}(h:QD t=.ok x k):Ps t x:=(pb _ _ _ h).1
def KP{t x:Tm}{k:Nat}(h:QD t=.ok x k):Cv t x:=⟨x,U1 h,.refl x⟩
theorem qk{a b x y:Tm}{k l:Nat}(h:Cv a b)(c:QD a=.ok x k)(d:QD b=.ok y l):x=y:=by
 obtain⟨w,e,f⟩:=((KP c).symm.trans h).trans (KP d);obtain⟨z,g⟩:=(pb _ _ _ c).2;obtain⟨i,j⟩:=(pb _ _ _ d).2
 grind[O1]
def zk{a b:Tm}(h:a.mt b):Cv a b:=by
 rcases h with rfl|⟨x,k,l,c,d⟩
 ·exact .refl _
 exact(KP c).trans (KP d).symm
open Go.Lg
theorem FCv.refl:∀f:Fm,FCv f f|.eq a b=>.eq (.refl a) (.refl b)|.bin k f g=>.bin k (refl f) (refl g)|.q k s f=>.q k s (refl f)
def FCv.trans{f g:Fm}(h:FCv f g):∀{x:Fm},FCv g x->FCv f x:=by
 induction h with
 |eq h k=>intro x e;cases e with|eq a b=>exact .eq (h.trans a) (k.trans b)
 |bin k _ _ c d=>intro x e;cases e with|bin _ a b=>exact .bin k (c a) (d b)
 |q k s _ i=>intro x e;cases e with|q _ _ a=>exact .q k s (i a)
theorem FCv.sub{f g:Fm}(h:FCv f g):∀σ:Nat->Tm,FCv (f.sub σ) (g.sub σ):=by
 induction h with|eq h k=>exactλσ=>.eq (h.sub σ) (k.sub σ)|bin k _ _ a b=>exactλσ=>.bin k (a σ) (b σ)|q k s _ c=>exactλσ=>.q k s (c _)
theorem FCv.put{f g:Fm}(h:FCv f g)(t:Tm)(c d:Nat):FCv (f.put c t d) (g.put c t d):=by
 rw[oD,oD];exact h.sub _
def QG:∀(f:Fm)(ρ:Nat->Nat),f.ren ρ=f.sub λi=>.v (ρ i)
 :=by intro x;induction x<;>simp_all[Fm.ren,Fm.sub,WF,Vj]
theorem FCv.ren{f g:Fm}(h:FCv f g)(ρ:Nat->Nat):FCv (f.ren ρ) (g.ren ρ):=by
 rw[QG,QG];exact h.sub _
theorem FCv.sh{f g:Fm}(h:FCv f g)(c k:Nat):FCv (f.sh c (.ofNat k)) (g.sh c (.ofNat k)):=by
 rw[HE,HE];exact h.ren _
theorem FCv.er{f g:Fm}(h:FCv f g):f.er=g.er:=by
 induction h with|eq h k=>rfl|bin k _ _ a b=>grind[Fm.er]|q k s _ c=>grind[Fm.er]
def yM:∀{f g:Fm},f.mt g->FCv f g
 |.eq _ _,.eq _ _,h=>.eq (zk h.1) (zk h.2)|.bin k _ _,.bin l _ _,h=>by
  obtain⟨rfl,a,b⟩:=h;exact .bin k (yM a) (yM b)
 |.q k s _,.q l u _,h=>by
  obtain⟨rfl,rfl,a⟩:=h;exact .q k s (yM a)
 |.eq _ _,.bin _ _ _,h=>h.elim|.eq _ _,.q _ _ _,h=>h.elim|.bin _ _ _,.eq _ _,h=>h.elim|.bin _ _ _,.q _ _ _,h=>h.elim|.q _ _ _,.eq _ _,h=>h.elim|.q _ _ _,.bin _ _ _,h=>h.elim
theorem TV:∀(f:Fm){g:Fm},XA f=some g->FCv f g
 |.eq a b,g,h=>by
  simp only[XA]at h;split at h
  ·rename_i e;split at h
   ·rename_i c;cases h;exact .eq (KP e) (KP c)
   cases h
  cases h
 |.bin k f x,g,h=>by
  simp only[XA]at h;split at h
  ·rename_i e;split at h
   ·rename_i c;cases h;exact .bin k (TV f e) (TV x c)
   cases h
  cases h
 |.q k s f,g,h=>by
  simp only[XA]at h;split at h
  ·rename_i e;cases h;exact .q k s (TV f e)
  cases h
def UV:∀(f:Fm){σ τ:Nat->Tm},(∀i,Par (σ i) (τ i))->FCv (f.sub σ) (f.sub τ)|.eq a b,_,_,h=>.eq ⟨_,.step ((Par.refl a).sub h) (.refl _),.refl _⟩ ⟨_,.step ((Par.refl b).sub h) (.refl _),.refl _⟩|.bin k f g,_,_,h=>.bin k (UV f h) (UV g h)|.q k s f,_,_,h=>.q k s (UV f (Par.up h))
def jk{a b:Tm}(h:Ps a b)(f:Fm):FCv (f.put 0 a 0) (f.put 0 b 0):=by
 induction h with
 |refl=>exact .refl _|step p _ c=>
  refine FCv.trans ?_ c;rw[oD,oD];refine UV f λi=>?_
  cases i with|zero=>rw[ID,ID];exact p|succ i=>exact .v i
def vk{a b:Tm}(h:Cv a b)(f:Fm):FCv (f.put 0 a 0) (f.put 0 b 0):=by
 obtain⟨w,c,d⟩:=h;exact(jk c f).trans (jk d f).symm
def sb(s:Ty):s.same s=true:=(CD s s).2 rfl
def TN{x y u:Ty}{r:TR}(h:(bif x.same y then r else .er 6)=.ok u):x=y/\r=.ok u:=by
 grind[CD]
def yk(t:Ty):TR.fit t=.ok t\/TR.fit t=.er 3:=by
 grind[TR.fit]
def XF:∀(t:Tm)(G:List Ty)(u:Ty),Ht G t u->t.tyR G=.ok u\/t.tyR G=.er 3
 |.v _,_,_,h=>.inl h|.lam s b,G,u,⟨w,e,h⟩=>by
  rcases XF b _ w h with h|h
  ·rw[show(Tm.lam s b).tyR G=xI s (b.tyR (G++[s]))from rfl,h,e];exact yk _
  rw[show(Tm.lam s b).tyR G=xI s (b.tyR (G++[s]))from rfl,h];exact .inr rfl
 |.n0 k,_,_,h=>.inl (by cases k<;>subst h<;>rfl)|.n1 k a,G,u,h=>by
  show eG k (a.tyR G)=_\/eG k (a.tyR G)=_;cases k
  ·obtain⟨rfl,h⟩:=h;rcases XF a _ _ h with h|h<;>rw[h]
   ·exact .inl rfl
   exact .inr rfl
  ·obtain⟨w,h⟩:=h;rcases XF a _ _ h with h|h<;>rw[h]
   ·exact .inl rfl
   exact .inr rfl
  obtain⟨w,h⟩:=h;rcases XF a _ _ h with h|h<;>rw[h]
  ·exact .inl rfl
  exact .inr rfl
 |.n2 k a b,G,u,h=>by
  show DD k (a.tyR G) (b.tyR G)=_\/DD k (a.tyR G) (b.tyR G)=_;cases k
  ·obtain⟨s,d,f⟩:=h;rcases XF a _ _ d with h|h<;>rw[h]
   ·rcases XF b _ _ f with h|h<;>rw[h]
    ·simp[DD,sb,cond_true]
    exact .inr rfl
   exact .inr rfl
  ·obtain⟨rfl,d,f⟩:=h;rcases XF a _ _ d with h|h<;>rw[h]
   ·rcases XF b _ _ f with h|h<;>rw[h]
    ·exact .inl rfl
    exact .inr rfl
   exact .inr rfl
  obtain⟨s,w,rfl,d,f⟩:=h;rcases XF a _ _ d with h|h<;>rw[h]
  ·rcases XF b _ _ f with h|h<;>rw[h]
   ·exact yk _
   exact .inr rfl
  exact .inr rfl
 |.n3 k s a b c,G,u,h=>by
  show xB k s (a.tyR G) (b.tyR G) (c.tyR G)=_\/xB k s (a.tyR G) (b.tyR G) (c.tyR G)=_;obtain⟨rfl,d,h⟩:=h;cases k<;>obtain⟨f,g⟩:=h
  all_goals
   rcases XF a _ _ d with h|h<;>rw[h]
   ·rcases XF b _ _ f with h|h<;>rw[h]
    ·rcases XF c _ _ g with h|h<;>rw[h]
     ·exact .inl (by simp only[xB,sb,cond_true])
     exact .inr rfl
    exact .inr rfl
   exact .inr rfl
def uk{t u:Ty}(h:TR.fit t=.ok u):u=t:=by
 grind[TR.fit]
def TI(G:List Ty):Tm->Ty->Prop
 |.v i,u=>cB G i=.ok u|.lam s b,u=>∃w,u=.two true s w/\b.tyR (G++[s])=.ok w|.n0 k,u=>u=match k with
  |.zero=>.nat|.nil=>.list|.unit=>.unit
 |.n1 k a,u=>match k with|.succ=>u=.nat/\a.tyR G=.ok .nat|.fst=>∃w,a.tyR G=.ok (.two false u w)|.snd=>∃w,a.tyR G=.ok (.two false w u)
 |.n2 k a b,u=>match k with|.app=>∃s,a.tyR G=.ok (.two true s u)/\b.tyR G=.ok s|.cons=>u=.list/\a.tyR G=.ok .nat/\b.tyR G=.ok .list|.pair=>∃s w,u=.two false s w/\a.tyR G=.ok s/\b.tyR G=.ok w
 |.n3 k s a b c,u=>u=s/\a.tyR G=.ok s/\match k with
  |.re=>b.tyR G=.ok (.two true .nat (.two true s s))/\c.tyR G=.ok .nat|.fo=>b.tyR G=.ok (.two true .nat (.two true .list (.two true s s)))/\c.tyR G=.ok .list
def IE(t:Tm)(G:List Ty)(u:Ty)(h:t.tyR G=.ok u):TI G t u:=by
 cases t with
 |v i=>exact h|lam s b=>
  have h:xI s (b.tyR (G++[s]))=.ok u:=h
  cases e:b.tyR (G++[s])with
  |er n=>rw[e]at h;cases h
  |ok w=>rw[e]at h;exact⟨w,uk h,e⟩
 |n0 k=>cases k<;>cases h<;>rfl
 |n1 k a=>
  have h:eG k (a.tyR G)=.ok u:=h
  cases e:a.tyR G with
  |er n=>rw[e]at h;cases h
  |ok s=>
   rw[e]at h;cases k
   ·obtain⟨rfl,h⟩:=TN h;cases h;exact⟨rfl,e⟩
   all_goals
    cases s with
    |two q c d=>
     cases q
     ·cases h;exact⟨_,e⟩
     cases h
    |_=>cases h
 |n2 k a b=>
  have h:DD k (a.tyR G) (b.tyR G)=.ok u:=h
  cases e:a.tyR G with
  |er n=>rw[e]at h;cases h
  |ok s=>cases f:b.tyR G with
   |er n=>rw[e,f]at h;cases h
   |ok w=>
    rw[e,f]at h;cases k
    ·cases s with
     |two q c d=>
      cases q
      ·cases h
      obtain⟨g,q⟩:=TN h;cases q;exact⟨c,e,g▸f⟩
     |_=>cases h
    ·obtain⟨rfl,h⟩:=TN h;obtain⟨rfl,h⟩:=TN h;cases h;exact⟨rfl,e,f⟩
    exact⟨s,w,uk h,e,f⟩
 |n3 k s a b c=>
  have h:xB k s (a.tyR G) (b.tyR G) (c.tyR G)=.ok u:=h
  cases e:a.tyR G with
  |er n=>rw[e]at h;cases h
  |ok x=>cases f:b.tyR G with
   |er n=>rw[e,f]at h;cases h
   |ok y=>cases j:c.tyR G with
    |er n=>rw[e,f,j]at h;cases h
    |ok z=>
     rw[e,f,j]at h;cases k
     all_goals
      obtain⟨g,k⟩:=TN h;obtain⟨l,k⟩:=TN k;obtain⟨m,k⟩:=TN k;cases k;subst g l m;exact⟨rfl,e,f,j⟩
def JE:∀(t:Tm)(G:List Ty)(u:Ty),t.tyR G=.ok u->Ht G t u
 |.v _,_,_,h=>h|.lam s b,G,u,h=>by
  obtain⟨w,e,k⟩:=IE _ _ _ h;exact⟨w,e,JE b _ _ k⟩
 |.n0 k,G,u,h=>IE _ _ _ h|.n1 k a,G,u,h=>by
  have h:=IE _ _ _ h;cases k
  ·exact⟨h.1,JE a _ _ h.2⟩
  ·exact⟨_,JE a _ _ h.choose_spec⟩
  exact⟨_,JE a _ _ h.choose_spec⟩
 |.n2 k a b,G,u,h=>by
  have h:=IE _ _ _ h;cases k
  ·exact⟨_,JE a _ _ h.choose_spec.1,JE b _ _ h.choose_spec.2⟩
  ·exact⟨h.1,JE a _ _ h.2.1,JE b _ _ h.2.2⟩
  obtain⟨s,w,e,d,f⟩:=h;exact⟨s,w,e,JE a _ _ d,JE b _ _ f⟩
 |.n3 k s a b c,G,u,h=>by
  have h:=IE _ _ _ h;exact⟨h.1,JE a _ _ h.2.1,by cases k<;>exact⟨JE b _ _ h.2.2.1,JE c _ _ h.2.2.2⟩⟩
def pF:∀(t:Tm)(g f:List Ty)(ρ:Nat->Nat)(u:Ty),RNg g f ρ->Ht g t u->Ht f (t.ren ρ) u
 |.v i,_,_,_,_,h,k=>h i _ k|.lam s b,_,_,_,_,h,⟨w,e,k⟩=>⟨w,e,pF b _ _ _ _ (h.up s) k⟩|.n0 _,_,_,_,_,_,k=>k|.n1 q a,g,f,ρ,u,h,k=>by
  cases q
  ·exact⟨k.1,pF a _ _ _ _ h k.2⟩
  ·exact⟨_,pF a _ _ _ _ h k.choose_spec⟩
  exact⟨_,pF a _ _ _ _ h k.choose_spec⟩
 |.n2 q a b,g,f,ρ,u,h,k=>by
  cases q
  ·obtain⟨s,j,d⟩:=k;exact⟨s,pF a _ _ _ _ h j,pF b _ _ _ _ h d⟩
  ·exact⟨k.1,pF a _ _ _ _ h k.2.1,pF b _ _ _ _ h k.2.2⟩
  obtain⟨s,w,e,j,d⟩:=k;exact⟨s,w,e,pF a _ _ _ _ h j,pF b _ _ _ _ h d⟩
 |.n3 q s a b c,g,f,ρ,u,h,⟨e,j,d⟩=>⟨e,pF a _ _ _ _ h j,by cases q<;>exact⟨pF b _ _ _ _ h d.1,pF c _ _ _ _ h d.2⟩⟩
def mE{G:List Ty}{t:Tm}{u:Ty}(s:Ty)(h:Ht G t u):Ht (G++[s]) (t.sh 0 (.ofNat 1)) u:=by
 rw[cC];exact pF t _ _ _ _ (λi u e=>by rw[OG];exact e) h
def Hg(g a:List Ty)(σ:Nat->Tm):Prop:=∀i s,cB g i=.ok s->Ht a (σ i) s
def Hg.up{g a:List Ty}{σ:Nat->Tm}(h:Hg g a σ)(u:Ty):Hg (g++[u]) (a++[u]) (rA σ):=λi s e=>by
 cases i with|zero=>rw[NG]at e;show cB _ 0=_;rw[NG];exact e|succ i=>rw[OG]at e;exact mE u (h i s e)
def VE:∀(t:Tm)(g f:List Ty)(σ:Nat->Tm)(u:Ty),Hg g f σ->Ht g t u->Ht f (t.sub σ) u
 |.v i,_,_,_,_,h,k=>h i _ k|.lam s b,_,_,_,_,h,⟨w,e,k⟩=>⟨w,e,VE b _ _ _ _ (h.up s) k⟩|.n0 _,_,_,_,_,_,k=>k|.n1 q a,g,f,ρ,u,h,k=>by
  cases q
  ·exact⟨k.1,VE a _ _ _ _ h k.2⟩
  ·exact⟨_,VE a _ _ _ _ h k.choose_spec⟩
  exact⟨_,VE a _ _ _ _ h k.choose_spec⟩
 |.n2 q a b,g,f,ρ,u,h,k=>by
  cases q
  ·obtain⟨s,j,d⟩:=k;exact⟨s,VE a _ _ _ _ h j,VE b _ _ _ _ h d⟩
  ·exact⟨k.1,VE a _ _ _ _ h k.2.1,VE b _ _ _ _ h k.2.2⟩
  obtain⟨s,w,e,j,d⟩:=k;exact⟨s,w,e,VE a _ _ _ _ h j,VE b _ _ _ _ h d⟩
 |.n3 q s a b c,g,f,ρ,u,h,⟨e,j,d⟩=>⟨e,VE a _ _ _ _ h j,by cases q<;>exact⟨VE b _ _ _ _ h d.1,VE c _ _ _ _ h d.2⟩⟩
open Go.Lg
def SNg(g a:List Ty)(σ:Nat->Tm):Prop:=∀i s,cB g i=.ok s->(σ i).tyR a=.ok s
def SNg.up{g a:List Ty}{σ:Nat->Tm}(h:SNg g a σ)(u:Ty):SNg (g++[u]) (a++[u]) (rA σ):=λi s e=>by
 cases i with
 |zero=>rw[NG]at e;show cB _ 0=_;rw[NG];exact e|succ i=>
  rw[OG]at e;show((σ i).sh 0 (.ofNat 1)).tyR _=_;rw[cC];exact qJ _ _ _ _ _ (Zj a u) (h i s e)
def bk{k:K1}{a b:Tm}{g c:List Ty}{u:Ty}(d:∀w,a.tyR g=.ok w->b.tyR c=.ok w)(h:(Tm.n1 k a).tyR g=.ok u):(Tm.n1 k b).tyR c=.ok u:=by
 have h:eG k (a.tyR g)=.ok u:=h;show eG k (b.tyR c)=_
 cases e:a.tyR g with
 |er n=>rw[e]at h;cases h
 |ok w=>rw[d w e,<-e];exact h
def ab{k:K2}{a b c d:Tm}{g f:List Ty}{u:Ty}(j:∀w,a.tyR g=.ok w->b.tyR f=.ok w)(l:∀w,c.tyR g=.ok w->d.tyR f=.ok w)(h:(Tm.n2 k a c).tyR g=.ok u):(Tm.n2 k b d).tyR f=.ok u:=by
 have h:DD k (a.tyR g) (c.tyR g)=.ok u:=h;show DD k (b.tyR f) (d.tyR f)=_
 cases e:a.tyR g with
 |er n=>rw[e]at h;cases h
 |ok w=>cases i:c.tyR g with
  |er n=>rw[e,i]at h;cases h
  |ok v=>rw[j w e,l v i,<-e,<-i];exact h
def VV{k:K3}{s:Ty}{a b c d e f:Tm}{g i:List Ty}{u:Ty}(o:∀w,a.tyR g=.ok w->b.tyR i=.ok w)(p:∀w,c.tyR g=.ok w->d.tyR i=.ok w)(r:∀w,e.tyR g=.ok w->f.tyR i=.ok w)(h:(Tm.n3 k s a c e).tyR g=.ok u):(Tm.n3 k s b d f).tyR i=.ok u:=by
 have h:xB k s (a.tyR g) (c.tyR g) (e.tyR g)=.ok u:=h;show xB k s (b.tyR i) (d.tyR i) (f.tyR i)=_
 cases j:a.tyR g with
 |er n=>rw[j]at h;cases h
 |ok w=>cases l:c.tyR g with
  |er n=>rw[j,l]at h;cases h
  |ok v=>cases m:e.tyR g with
   |er n=>rw[j,l,m]at h;cases h
   |ok x=>rw[o w j,p v l,r x m,<-j,<-l,<-m];exact h
def gk{s:Ty}{a b:Tm}{g c:List Ty}{u:Ty}(d:∀w,a.tyR (g++[s])=.ok w->b.tyR (c++[s])=.ok w)(h:(Tm.lam s a).tyR g=.ok u):(Tm.lam s b).tyR c=.ok u:=by
 have h:xI s (a.tyR (g++[s]))=.ok u:=h;show xI s (b.tyR (c++[s]))=_
 cases e:a.tyR (g++[s])with
 |er n=>rw[e]at h;cases h
 |ok w=>rw[d w e,<-e];exact h
theorem zJ:∀(t:Tm)(g d:List Ty)(σ:Nat->Tm)(s:Ty),SNg g d σ->t.tyR g=.ok s->(t.sub σ).tyR d=.ok s|.v i,g,d,σ,s,h,e=>h i s e|.lam u b,_,_,_,_,h,e=>gk (λw=>zJ b _ _ _ w (h.up u)) e|.n0 k,_,_,_,_,_,e=>e|.n1 k a,_,_,_,_,h,e=>bk (λw=>zJ a _ _ _ w h) e|.n2 k a b,_,_,_,_,h,e=>ab (λw=>zJ a _ _ _ w h) (λw=>zJ b _ _ _ w h) e|.n3 k u a b c,_,_,_,_,h,e=>VV (λw=>zJ a _ _ _ w h) (λw=>zJ b _ _ _ w h) (λw=>zJ c _ _ _ w h) e
theorem lk{g:List Ty}{t:Tm}{s:Ty}(h:t.tyR g=.ok s):SNg (g++[s]) g λi=>(Tm.v i).put 0 t 0:=λi u e=>by
 cases i with|zero=>rw[NG]at e;grind[ID]|succ i=>rw[OG]at e;exact e
theorem V1{g:List Ty}{b t:Tm}{s u:Ty}(a:b.tyR (g++[s])=.ok u)(h:t.tyR g=.ok s):(b.put 0 t 0).tyR g=.ok u:=by
 rw[VC];grind[zJ,lk]
theorem xb{g:List Ty}{f x:Tm}{s u:Ty}(a:f.tyR g=.ok (.two true s u))(b:x.tyR g=.ok s):(Tm.n2 .app f x).tyR g=.ok u:=by
 show DD .app (f.tyR g) (x.tyR g)=_;rw[a,b];simp[DD,sb,cond_true]
theorem nk{k:K3}{g:List Ty}{s u:Ty}{a b c d:Tm}(h:(Tm.n3 k s a b c).tyR g=.ok u)(e:d.tyR g=c.tyR g):(Tm.n3 k s a b d).tyR g=.ok u:=by
 show xB k s (a.tyR g) (b.tyR g) (d.tyR g)=_;rw[e];exact h
theorem Ab(g:List Ty)(u:Ty):∀{t r:Tm},t.red=some r->t.tyR g=.ok u->r.tyR g=.ok u:=by
 refine LJ (P:=λt r=>t.tyR g=.ok u->r.tyR g=.ok u) (λa b h=>?_) (λa b h=>?_) (λs b a h=>?_) (λs b f h=>?_) (λs b f n h=>?_) (λs b f h=>?_) (λs b f x l h=>?_)
 ·obtain⟨w,h⟩:=IE _ _ _ h;obtain⟨s,w,e,c,_⟩:=IE _ _ _ h;simp_all
 ·obtain⟨w,h⟩:=IE _ _ _ h;obtain⟨s,w,e,_,c⟩:=IE _ _ _ h;simp_all
 ·obtain⟨w,h,i⟩:=IE _ _ _ h;obtain⟨v,e,c⟩:=IE _ _ _ h
  grind[V1]
 ·obtain⟨e,c,_⟩:=IE _ _ _ h;rw[e];exact c
 ·obtain⟨e,c,i,d⟩:=IE _ _ _ h;have j:=(IE _ _ _ d).2
  grind[xb,nk]
 ·obtain⟨e,c,_⟩:=IE _ _ _ h;rw[e];exact c
 obtain⟨e,c,i,d⟩:=IE _ _ _ h;obtain⟨_,j,k⟩:=IE _ _ _ d
 grind[xb,nk]
def Bb{z:Int}{t r x:Tm}(h:rt z t r=.ok x):x=r:=by
 unfold rt at h;cases a:fA z ((r.cnt:Int)-t.cnt)<;>rw[a]at h<;>cases h;rfl
def uM(z:Int):∀(t:Tm){x:Tm}{g:List Ty}{u:Ty},t.st z=.ok x->t.tyR g=.ok u->x.tyR g=.ok u
 |.v _,_,_,_,h,_=>by cases h
 |.n0 _,_,_,_,h,_=>by cases h
 |.lam s b,_,_,_,h,k=>by
  rcases vC h with ⟨y,e,rfl⟩|⟨_,h⟩
  ·exact gk (λw=>uM z b e) k
  cases h
 |.n1 q a,_,g,u,h,k=>by
  cases d:(Tm.n1 q a).red with
  |some r=>rw[kD d]at h;rw[Bb h];grind[Ab]|none=>
   simp only[Tm.st,d]at h;rcases vC h with ⟨y,e,rfl⟩|⟨_,h⟩
   ·exact bk (λw=>uM z a e) k
   cases h
 |.n2 q a b,_,g,u,h,k=>by
  cases d:(Tm.n2 q a b).red with
  |some r=>rw[kD d]at h;rw[Bb h];grind[Ab]|none=>
   simp only[Tm.st,d]at h;rcases vC h with ⟨y,e,rfl⟩|⟨_,h⟩
   ·exact ab (λw=>uM z a e) (λw e=>e) k
   rcases vC h with ⟨y,e,rfl⟩|⟨_,h⟩
   ·exact ab (λw e=>e) (λw=>uM z b e) k
   cases h
 |.n3 q s a b c,_,g,u,h,k=>by
  cases d:(Tm.n3 q s a b c).red with
  |some r=>rw[kD d]at h;rw[Bb h];grind[Ab]|none=>
   simp only[Tm.st,d]at h;rcases vC h with ⟨y,e,rfl⟩|⟨_,h⟩
   ·exact VV (λw=>uM z a e) (λw e=>e) (λw e=>e) k
   rcases vC h with ⟨y,e,rfl⟩|⟨_,h⟩
   ·exact VV (λw e=>e) (λw=>uM z b e) (λw e=>e) k
   rcases vC h with ⟨y,e,rfl⟩|⟨_,h⟩
   ·exact VV (λw e=>e) (λw e=>e) (λw=>uM z c e) k
   cases h
def Cb:∀(r n:Nat)(t:Tm){x:Tm}{k:Nat}{g:List Ty}{u:Ty},tC r n t=.ok x k->t.tyR g=.ok u->x.tyR g=.ok u
 |0,n,t,x,k,g,u,h,q=>by
  grind[tC]
 |r+1,n,t,x,k,g,u,h,q=>by
  unfold tC at h;split at h
  ·cases h;exact q
  ·cases h
  rename_i y e;exact Cb r _ y h (uM _ t e q)
theorem WV:∀(f:Fm)(g c:List Ty)(σ:Nat->Tm),SNg g c σ->f.tq g->(f.sub σ).tq c|.eq a b,g,c,σ,h,⟨d,e⟩=>⟨zJ a g c σ _ h d,zJ b g c σ _ h e⟩|.bin _ f k,g,c,σ,h,⟨e,d⟩=>⟨WV f g c σ h e,WV k g c σ h d⟩|.q _ s f,g,c,σ,h,e=>WV f _ _ _ (h.up s) e
theorem ik{f:Fm}{g:List Ty}{t:Tm}{s:Ty}(h:f.tq (g++[s]))(a:t.tyR g=.ok s):(f.put 0 t 0).tq g:=by
 rw[oD];grind[WV,lk]
def XV{f y:Fm}{g:List Ty}{t:Tm}{s:Ty}(e:f.pt t=.ok y)(h:f.tq (g++[s]))(a:t.tyR g=.ok s):y.tq g:=by
 grind[Fm.pt,ik]
theorem dS:∀(f:Fm)(g c:List Ty)(ρ:Nat->Nat),RNg g c ρ->f.tq g->(f.ren ρ).tq c|.eq a b,g,c,σ,h,⟨d,e⟩=>⟨qJ a g c σ _ h d,qJ b g c σ _ h e⟩|.bin _ f k,g,c,σ,h,⟨e,d⟩=>⟨dS f g c σ h e,dS k g c σ h d⟩|.q _ s f,g,c,σ,h,e=>dS f _ _ _ (h.up s) e
theorem LP{f:Fm}{g a:List Ty}{c k:Nat}(h:RNg g a (iD c k))(b:f.tq g):(f.sh c (.ofNat k)).tq a:=by
 rw[HE];grind[dS]
def MP{g:List Ty}{i:Nat}{t:Ty}(h:cB g i=.ok t):i<g.length:=by
 grind[cB]
def UN(k:Nat):iD 0 k=(· +k):=by funext i;simp[iD]
def bM(g:List Ty)(s:Ty):RNg g (g++[s]) (iD 0 1):=by rw[UN];exact Zj g s
def X1(g:List Ty)(s u:Ty):RNg g (g++[s]++[u]) (iD 0 2):=by
 rw[UN];exactλi w e=>by rw[OG (g++[s]) u (i+1),OG];exact e
def YV{g a:List Ty}{b:List Fm}{k:Nat}(h:RNg g a (iD 0 k))(c:∀f∈b,f.tq g):∀f∈bA k b,f.tq a:=λf a=>by
 grind[LP]
def ZV{g:List Ty}{a:List Fm}{x:Fm}(b:∀f∈a,f.tq g)(b:x.tq g):∀f∈a++[x],f.tq g:=λf a=>by
 grind
theorem qW:∀(f y:Fm)(g:List Ty),XA f=some y->f.tq g->y.tq g
 |.eq a b,y,g,e,⟨d,i⟩=>by
  unfold XA at e;split at e
  ·rename_i c;split at e
   ·rename_i j;cases e;exact⟨Cb _ _ _ c d,Cb _ _ _ j i⟩
   cases e
  cases e
 |.bin k f h,y,g,e,⟨d,i⟩=>by
  unfold XA at e;split at e
  ·rename_i c;split at e
   ·rename_i j;cases e;exact⟨qW f _ g c d,qW h _ g j i⟩
   cases e
  cases e
 |.q k s f,y,g,e,h=>by
  unfold XA at e;split at e
  ·rename_i x c;cases e;exact qW f x (g++[s]) c h
  cases e
theorem zW:∀(t:Ty)(g:List Ty),t.size<=64->t.ini.tyR g=.ok t
 |.nat,_,_=>rfl|.list,_,_=>rfl|.unit,_,_=>rfl|.two false a b,g,h=>by
  have c:1+a.size+b.size<=64:=h;show DD .pair (a.ini.tyR g) (b.ini.tyR g)=_;rw[zW a g (by omega),zW b g (by omega)];exact if_pos h
 |.two true a b,g,h=>by
  have c:1+a.size+b.size<=64:=h;show xI a (b.ini.tyR (g++[a]))=_;rw[zW b _ (by omega)];exact if_pos h
theorem Y1{f:Fm}{g:List Ty}{s:Ty}(a:s.size<=64)(b:f.occ 0=0)(h:f.tq (g++[s])):f.low.tq g:=by
 rw[show f.low=f.put 0 s.ini 0 by
  rw[Fm.low,oD,oD];exact wM f _ _ λi c=>by
   cases i with|zero=>omega|succ i=>rw[yS,yS]]
 grind[ik,zW]
def xk{f y:Fm}{g:List Ty}{s:Ty}(a:s.size<=64)(e:aC f=some y)(h:f.tq (g++[s])):y.tq g:=by
 grind[aC,Y1,qW]
def Ak{k:FQ}{s:Ty}{f:Fm}(h:(Fm.q k s f).chk=0):s.size<=64:=aD (DA (Fm.chk0 h).2).1
def Z1(g:List Ty)(s u:Ty):vapp.tyR (g++[.two true s u,s])=.ok u:=by
 rw[show g++[Ty.two true s u,s]=g++[.two true s u]++[s] by simp];exact xb (s:=s) (by show cB _ (0+1)=_;rw[OG,NG]) (by show cB _ 0=_;rw[NG])
def C2(g:List Ty)(s t u:Ty):RNg (g++[s]++[t]) (g++[u]++[s]++[t]) (iD 2 1):=by
 have:=((bM g u).up s).up t;rwa[uS,uS]at this
def YF{ls:List Fm}(p:∀f∈ls,f.tq []):∀(j:Jt)(g:List Ty)(m:List Fm),(∀f∈m,f.tq g)->j.D ls g m->j.f.tq g
 |.leaf u i f,g,m,c,⟨_,h⟩=>by
  cases u
  ·exact c f (List.mem_of_getElem? h.2)
  have:=dS f [] g (λi=>i) (λi s e=>absurd (MP e) (Nat.not_lt_zero _)) (p f (List.mem_of_getElem? h));rwa[J1]at this
 |.refl t,_,_,_,⟨_,_,h⟩=>⟨h,h⟩|.p1 k a f,g,m,c,⟨_,n,h⟩=>by
  have d:=YF p a g m c n;cases k
  ·obtain⟨y,e⟩:=h;rw[e]at d;exact d.1
  ·obtain⟨y,e⟩:=h;rw[e]at d;exact d.2
  obtain⟨s,u,x,e,_,y,v,z⟩:=h;rw[e]at d;rw[z];show y.tq (g++[.two true s u]++[s]);exact XV v (LP (C2 g s u (.two true s u)) d) (by have:=Z1 g s u;simp_all)
 |.p2 k a b f,g,m,c,⟨_,n,h⟩=>by
  have d:=YF p a g m c n;cases k
  ·obtain⟨r,e⟩:=h;rw[e];exact⟨d,YF p b g m c r⟩
  ·obtain⟨_,x,e,_⟩:=h;rw[e]at d;exact d.2
  all_goals
   obtain⟨⟨u,e,r⟩,_,h⟩:=h;have hq:=rH n;rw[e]at hq;have o:a.f.bd.tq (g++[u]):=by rw[e]at d;exact d
  ·exact xk (Ak hq) h (YF p b _ _ (ZV (YV (bM g u) c) o) r)
  exact xk (Ak hq) h.1 (YF p b _ _ (ZV (YV (bM g u) c) o) r)
 |.impI x a,g,m,c,⟨_,⟨_,o⟩,_,n⟩=>⟨ED x g o,YF p a g _ (ZV c (ED x g o)) n⟩|.all u s a,g,m,c,⟨_,_,n,_⟩=>YF p a _ _ (YV (bM g s) c) n|.ins u t a f,g,m,c,⟨_,_,n,s,x,A,e,v⟩=>by
  have d:=YF p a g m c n;rw[e]at d;exact XV v d A
 |.ex u x t a,g,m,c,⟨⟨_,o⟩,_⟩=>ED x g o|.ind l x t a b f,g,m,c,⟨_,⟨_,o⟩,⟨_,B⟩,_,_,_,e⟩=>XV e (ED x _ o) B|.subst x a b f,g,m,c,⟨_,⟨_,o⟩,n,_,t,u,w,e,_,_,v⟩=>by
  have d:=YF p a g m c n;rw[e]at d;exact XV v (ED x _ o) d.2
structure ScT(G g:List Ty)(es:List Fm)(s:Sc):Prop where
 v:Hg g G λi=>(Tm.v i).ps s.vs s.dep 0
 k:∀i f,i<es.length->es[es.length-1-i]? =some f->f.has=true->Ht G (s.hy i) f.cty
variable{G g:List Ty}{es:List Fm}{bs:List Bool}{s:Sc}
theorem ScT.bind(h:ScT G g es s)(S:ScOK g.length bs s)(u:Ty):ScT (G++[u]) g es s.bind:=
 ⟨λi w e=>by
  have a:=MP e;show Ht _ ((Tm.v i).ps s.vs (s.dep+1) 0) w;rw[LV S.ve (show(Tm.v i).sc s.vs.length by rw[S.vl];exact a)];exact mE u (h.v i w e),λi f a e b=>by rw[NV S];exact mE u (h.k i f a e b)⟩
theorem ScT.var(h:ScT G g es s)(S:ScOK g.length bs s){t:Tm}{u:Ty}(a:Ht G t u):ScT G (g++[u]) es (s.var t):=
 ⟨λi w e=>by
  cases i with
  |zero=>
   rw[NG]at e;cases e;show Ht G ((Tm.v 0).ps (s.vs++[(t,s.dep)]) s.dep 0) u;rw[kS];exact a
  |succ i=>
   rw[OG]at e;have b:=MP e;show Ht G ((Tm.v (i+1)).ps (s.vs++[(t,s.dep)]) s.dep 0) w;rw[show Tm.v (i+1)=(Tm.v i).sh 0 (.ofNat 1) by rfl,MV s.vs s.dep (t,s.dep) (show(Tm.v i).sc s.vs.length by rw[S.vl];exact b)];exact h.v i w e,h.k⟩
def ScT.psh(h:ScT G g es s)(c:s.ks.length=es.length){x:Fm}(y:Hy)(m:Nat)(hy:x.has=true->Ht G (match y with|.hy t d _=>t.sh 0 (.ofNat (s.dep-d))|_=>.n0 .unit) x.cty):ScT G g (es++[x]) ⟨s.dep,m,s.vs,s.ks++[y]⟩:=
 ⟨h.v,λi f a e b=>by
  cases i with
  |zero=>
   rw[RN]
   grind
  |succ i=>
   have a:i<es.length:=by simp_all
   rw[JP s y 0 m i];refine h.k i f a ?_ b
   grind⟩
theorem ScT.hyp(h:ScT G g es s)(a:s.ks.length=es.length){x:Fm}{t:Tm}(b:Ht G t x.cty):ScT G g (es++[x]) (s.hyp t):=
 h.psh a (.hy t s.dep s.hyps) _ λ_=>by simp only[Nat.sub_self,EE];exact b
theorem ScT.bare(h:ScT G g es s)(a:s.ks.length=es.length){x:Fm}(b:x.has=false):ScT G g (es++[x]) s.bare:=
 h.psh a _ _ λe=>by rw[b]at e;cases e
def NP:∀(t:Ty)(G:List Ty),Ht G t.ini t|.nat,_=>rfl|.list,_=>rfl|.unit,_=>rfl|.two false a b,G=>⟨a,b,rfl,NP a G,NP b G⟩|.two true a b,G=>⟨b,rfl,NP b _⟩
def D2{t:Tm}{u:Ty}(h:Ht [] t u)(G:List Ty):Ht G t u:=by
 have:=pF t [] G (λi=>i) u (λi s e=>absurd (MP e) (Nat.not_lt_zero _)) h;rwa[WF,show(λi:Nat=>Tm.v i)=Tm.v from rfl,FC]at this
def JD(G:List Ty)(u:Ty):Ht (G++[u]) (.v 0) u:=NG G u
def lK(h:ScT G g es s){t:Tm}{u:Ty}(a:t.tyR g=.ok u):Ht G (t.ps s.vs s.dep 0) u:=by
 rw[eD];exact VE t g G _ u h.v (JE t g u a)
def G2(G:List Ty)(u w v:Ty):Ht (G++[.two true u (.two false w v)]) (eH u) (.two false (.two true u w) (.two true u v)):=by
 have a:Ht (G++[.two true u (.two false w v)]++[u]) (.v 1) (.two true u (.two false w v)):=by
  show cB _ (0+1)=_;rw[OG,NG]
 exact⟨_,_,rfl,⟨w,rfl,v,u,a,JD _ u⟩,⟨v,rfl,w,u,a,JD _ u⟩⟩
def I2{u w:Ty}{x f y:Fm}{t:Tm}(b:f=.q .ex (.two true u w) (.q .all u y))(e:y.er=x.er)(a:Ht G t (Fm.q .all u (.q .ex w x)).cty):Ht G (YI (.q .all u (.q .ex w x)) t) f.cty:=by
 subst b;show Ht G (bif x.has then .n2 .app (.lam (.two true u (.two false w x.cty)) (eH u)) t else t) (bif y.has then .two false (.two true u w) (.two true u y.cty)else .two true u w);rw[SA e,GC e];have a:Ht G t (.two true u (bif x.has then .two false w x.cty else w)):=a;cases c:x.has<;>rw[c]at a
 ·exact a
 exact⟨_,⟨_,rfl,G2 G u w x.cty⟩,a⟩
end Go.Proofs.YtmihmecnjjmdgaaGreatDoor
