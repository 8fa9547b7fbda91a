/- Contracts of functions; no conditions. -/
import Derived.Test.YtbebdmlomjpamaaGreatDoorAccC6
set_option linter.all false
set_option maxHeartbeats 4000000
namespace Go.Proofs.YtbebdmlomjpamaaGreatDoor
open Go.Lg
set_option maxRecDepth 100000
def Fm.both:Fm->Bool|.bin _ x y=>x.has&&y.has|_=>false
def GJ(f:Fm)(t:Tm):Tm:=match f with|.q _ u (.q _ w x)=>bif x.has then .n2 .app (.lam (.two true u (.two false w x.cty)) (VH u)) t else t|_=>t
def Fm.qs:Fm->Ty|.q _ s _=>s|_=>.unit
def Sc.hy(s:Sc)(i:Nat):Tm:=match s.ks[s.ks.length-1-i]? with|some (.hy t d _)=>t.sh 0 (.ofNat (s.dep-d))|_=>.n0 .unit
def Jt.xt(tl:List Tm):Jt->Sc->Tm
 |.leaf u i _,s=>match u with
  |false=>s.hy i|true=>match tl[i]? with|some t=>t|none=>.n0 .unit
 |.refl _,_=>.n0 .unit|.p1 k a _,s=>match k with|.andL=>bif a.f.both then .n1 .fst (a.xt tl s)else a.xt tl s|.andR=>bif a.f.both then .n1 .snd (a.xt tl s)else a.xt tl s|.choice=>GJ a.f (a.xt tl s)
 |.p2 k a b _,s=>match k with|.andI=>bif a.f.has then(bif b.f.has then .n2 .pair (a.xt tl s) (b.xt tl s)else a.xt tl s)else b.xt tl s|.impE=>bif b.f.has then .n2 .app (a.xt tl s) (b.xt tl s)else a.xt tl s|.exE=>bif a.f.bd.has then .n2 .app (.lam (.two false a.f.qs a.f.bd.cty) (b.xt tl ((s.bind.var (.n1 .fst (.v 0))).hyp (.n1 .snd (.v 0))))) (a.xt tl s)else .n2 .app (.lam a.f.qs (b.xt tl (s.bind.var (.v 0)).bare)) (a.xt tl s)|.exUE=>bif a.f.bd.has then .n2 .app (.lam a.f.bd.cty (b.xt tl ((s.bind.var a.f.qs.ini).hyp (.v 0)))) (a.xt tl s)else b.xt tl (s.var a.f.qs.ini).bare
 |.impI x a,s=>bif x.has then .lam x.cty (a.xt tl (s.bind.hyp (.v 0)))else a.xt tl s.bare|.all u t a,s=>match u with|false=>.lam t (a.xt tl (s.bind.var (.v 0)))|true=>a.xt tl (s.var t.ini)
 |.ins u t a _,s=>match u with|false=>.n2 .app (a.xt tl s) (t.ps s.vs s.dep 0)|true=>a.xt tl s
 |.ex u _ t a,s=>match u with|false=>bif a.f.has then .n2 .pair (t.ps s.vs s.dep 0) (a.xt tl s)else t.ps s.vs s.dep 0|true=>a.xt tl s
 |.ind l x t a b _,s=>match l with|false=>.n3 .re x.cty (a.xt tl s) (.lam .nat (.lam x.cty (b.xt tl ((s.bind.var (.v 0)).bind.hyp (.v 0))))) (t.ps s.vs s.dep 0)|true=>.n3 .fo x.cty (a.xt tl s) (.lam .nat (.lam .list (.lam x.cty (b.xt tl (((s.bind.var (.v 0)).bind.var (.v 0)).bind.hyp (.v 0)))))) (t.ps s.vs s.dep 0)
 |.subst _ _ b _,s=>b.xt tl s
def GD(tl:List Tm)(l:Bool)(x:Fm)(a b:Jt)(s:Sc)(n:Tm):Tm:=match l with|false=>.n3 .re x.cty (a.xt tl s) (.lam .nat (.lam x.cty (b.xt tl ((s.bind.var (.v 0)).bind.hyp (.v 0))))) n|true=>.n3 .fo x.cty (a.xt tl s) (.lam .nat (.lam .list (.lam x.cty (b.xt tl (((s.bind.var (.v 0)).bind.var (.v 0)).bind.hyp (.v 0)))))) n
abbrev BT(tl:List Tm)(hs:List Fm)(j:Jt)(s:Sc):Prop:=∃r:XR,A 244 [eA tl,j.ptr hs,s.p] r.p/\r.Gd s.dep (j.xt tl s)
def Ee{n:Nat}{b:List Bool}{s:Sc}{t:Tm}(a:ScOK n b s)(b:TK n t):(XR.fit (t.ps s.vs s.dep 0)).Gd s.dep (t.ps s.vs s.dep 0):=by
 have c:t.sc (s.vs.length+0):=by rw[a.vl];exact b.sc
 exact PK (EI a.ve t 0 b.shp) (FI a.ve t 0 c) rfl
def LO{a b:Tm}{c:Bool}(h:c=true):(bif c then a else b)=a:=by rw[h];rfl
def OQ{a b:Tm}{c:Bool}(h:c=false):(bif c then a else b)=b:=by rw[h];rfl
def Tm.c_len(t:Tm):t.c.length=5:=rfl
def EX(f:Fm):1<=f.cnt:=by cases f<;>simp[Fm.cnt]<;>omega
def Tn{tl:List Tm}{l:Bool}{x:Fm}{t T:Tm}{a b:Jt}{f:Fm}{n:Nat}{hs:List Fm}{s:Sc}(J:FK (n+1) x)(h:x.has=true)(z:ScOK n (hs.map Fm.has) s)(e:TK s.dep T)(P:n+1<=90000)(Q:hs.length+2<=qA)(R:s.dep+4<=90000)(S:s.hyps+2<=qA)
  (K:BT tl hs a s) (G:match l with|false=>BT tl (fA 1 hs++[x]) b ((s.bind.var (.v 0)).bind.hyp (.v 0))|true=>BT tl (fA 2 hs++[x.sh 1 (.ofNat 1)]) b (((s.bind.var (.v 0)).bind.var (.v 0)).bind.hyp (.v 0))):
  ∃r:XR,A 246 [eA tl,(Jt.ind l x t a b f).ptr hs,s.p,T.p] r.p/\r.Gd s.dep (GD tl l x a b s T):=by
 have V:=zA;have L:nA=100000:=rfl;have M:s.ks.length=hs.length:=by have:=z.kl;simpa using this
 have⟨U,w,N,O,zt⟩:=GI J;have⟨r,B,d⟩:=K
 cases U with
 |er m=>exact⟨.er .z m,by cases l<;>exact r7 w,O _ rfl⟩|ok u=>
  have y:u.size<=64:=N
  cases r with
  |er q m=>exact⟨.er .z m,by cases l<;>exact s7 w B,d⟩|ok v=>
   have H:=z.bind.var (t:=.v 0) (TB (by show 0<s.dep+1;omega));have I:=GM s;have gv:=MK s.bind (.v 0) (by rw[z.bind.vl];omega);have i:=GM (s.bind.var (.v 0)) (by show s.dep+1<=qA;omega);cases l
   ·have C:=HO (s.bind.var (.v 0)).bind (.v 0) (by show s.ks.length<=qA;omega) (by show s.hyps<=qA;omega);have⟨j,D,o⟩:=G;have g:=c7 (tl:=tl) (hs:=hs) (s:=s) (a:=a) (b:=b) (x:=x) (y:=a.f) (z:=b.f) (f:=f) (w:=t) e.cnt w B d.1.cnt I gv i C D o.cn;have c:((j.lam u).lam .nat).Gd s.dep _:=FJ bb (FJ y o);refine⟨_,g,?_⟩
    cases p:(j.lam u).lam .nat with
    |er q m=>rw[p]at c;exact c|ok k=>
     rw[p]at c;refine PK ?_ ⟨d.1.sc,c.1.sc,e.sc⟩ (by rw[d.2,c.2,zt u rfl h];rfl);show(Nat.beq u.chk 0&&(_&&(_&&_)))=true;rw[DJ y,d.1.shp,c.1.shp,e.shp];rfl
   have W:=H.bind.var (t:=.v 0) (TB (by show 0<s.dep+1+1;omega));have E:=MK (s.bind.var (.v 0)).bind (.v 0) (by rw[H.bind.vl];omega);have F:=GM ((s.bind.var (.v 0)).bind.var (.v 0)) (by show s.dep+1+1<=qA;omega);have C:=HO ((s.bind.var (.v 0)).bind.var (.v 0)).bind (.v 0) (by show s.ks.length<=qA;omega) (by show s.hyps<=qA;omega);have⟨j,D,o⟩:=G;have g:=i7 (tl:=tl) (hs:=hs) (s:=s) (a:=a) (b:=b) (x:=x) (y:=a.f) (z:=b.f) (f:=f) (w:=t) e.cnt w B d.1.cnt I gv i E F C D o.cn;have c:(((j.lam u).lam .list).lam .nat).Gd s.dep _:=FJ bb (FJ bb (FJ y o));refine⟨_,g,?_⟩
   cases p:((j.lam u).lam .list).lam .nat with
   |er q m=>rw[p]at c;exact c|ok k=>
    rw[p]at c;refine PK ?_ ⟨d.1.sc,c.1.sc,e.sc⟩ (by rw[d.2,c.2,zt u rfl h];rfl);show(Nat.beq u.chk 0&&(_&&(_&&_)))=true;rw[DJ y,d.1.shp,c.1.shp,e.shp];rfl
def cC{ls:List Fm}{tl:List Tm}(H:∀(i:Nat)(f:Fm),ls[i]? =some f->∃t,tl[i]? =some t/\TK 0 t):∀(j:Jt)(n:Nat)(hs:List Fm)(s:Sc),j.OK ls n hs->j.f.has=true->ScOK n (hs.map Fm.has) s->n+j.p.cnt<=90000->hs.length+j.p.cnt<=qA->s.dep+j.p.cnt<=90000->s.hyps+j.p.cnt<=qA->BT tl hs j s
 |.leaf u i f,n,hs,s,h,C,o,L,M,N,O=>by
  have hm:=zA;have hb:=yA;have S:nA=100000:=rfl;simp only[Jt.p,Pf.cnt]at L M N O;obtain⟨X,h⟩:=h;replace C:f.has=true:=C;cases u
  ·obtain⟨K,I⟩:=h;have hk:(hs.map Fm.has)[hs.length-1-i]? =some true:=by rw[i1,I];simp_all
   obtain⟨t,d,p,e⟩:=o.kh _ hk;obtain⟨z,U⟩:=o.ke _ (gg e) t d p rfl;have E:=lC (a:=(hs.map Fm.c).length) a9 a9;have F:xA (Int.ofNat ((hs.map Fm.c).length-1)-.ofNat i)=true/\Int.ofNat ((hs.map Fm.c).length-1)-.ofNat i=.ofNat (hs.length-1-i):=by
    have e:Int.ofNat ((hs.map Fm.c).length-1)-.ofNat i=.ofNat (hs.length-1-i):=a9
    grind[BA]
   have G:=D6 s _ t d p e z a6 U;have J:=U.sh (s.dep-d);have ed:d+(s.dep-d)=s.dep:=a6
   rw[ed]at J;have ex:s.hy i=t.sh 0 (.ofNat (s.dep-d)):=by
    unfold Sc.hy;rw[show s.ks.length=hs.length by have:=o.kl;simp_all,e]
   refine⟨.ok (t.sh 0 (.ofNat (s.dep-d))),f3 [38,44,45] E F G,J,ex.symm⟩
  obtain⟨t,e,q⟩:=H i f h;exact⟨.ok t,f1 [(58,.i t.c)] (EA e Tm.c_len),A6 q (c6 _),by show t=(match tl[i]? with|some t=>t|none=>.n0 .unit);rw[e]⟩
 |.refl t,n,hs,s,h,C,o,L,M,N,O=>by
  have C:false=true:=C;cases C
 |.p1 k a f,n,hs,s,⟨X,K,I⟩,C,o,L,M,N,O=>by
  have hm:=zA;have S:nA=100000:=rfl;simp only[Jt.p,Pf.cnt]at L M N O;replace C:f.has=true:=C;have P:=Jt.FKj K;cases k
  ·obtain⟨y,e⟩:=I;have D:a.f.has=true:=by rw[e];show(f.has||y.has)=true;rw[C];rfl
   obtain⟨r,E,z⟩:=cC H a n hs s K D o a6 a6 a6 a6;rw[e]at P;obtain⟨t0,F,_⟩:=GI P.bin1;obtain⟨t1,G,_⟩:=GI P.bin2;rw[C]at F;cases hy:y.has<;>rw[hy]at G
   ·have g:=L6 (tl:=tl) (hs:=hs) (s:=s) (a:=a) (f:=f) (y:=y) (ra:=r) (by rw[<-e];exact E) F G z.cn;rw[<-e]at g;have ex:(Jt.p1 .andL a f).xt tl s=a.xt tl s:=OQ (by rw[e];show(f.has&&y.has)=false;rw[C,hy];rfl);rw[BT,ex];exact⟨_,g,z⟩
   have g:=K6 (tl:=tl) (hs:=hs) (s:=s) (a:=a) (f:=f) (y:=y) (ra:=r) (by rw[<-e];exact E) F G z.cn;rw[<-e]at g;have ex:(Jt.p1 .andL a f).xt tl s=.n1 .fst (a.xt tl s):=LO (by rw[e];show(f.has&&y.has)=true;rw[C,hy];rfl);rw[BT,ex];exact⟨_,g,Sn z⟩
  ·obtain⟨y,e⟩:=I;have D:a.f.has=true:=by rw[e];show(y.has||f.has)=true;rw[C];cases y.has<;>rfl
   obtain⟨r,E,z⟩:=cC H a n hs s K D o a6 a6 a6 a6;rw[e]at P;obtain⟨t0,F,_⟩:=GI P.bin1;obtain⟨t1,G,_⟩:=GI P.bin2;rw[C]at G;cases hy:y.has<;>rw[hy]at F
   ·have g:=N6 (tl:=tl) (hs:=hs) (s:=s) (a:=a) (f:=f) (y:=y) (ra:=r) (by rw[<-e];exact E) F G z.cn;rw[<-e]at g;have ex:(Jt.p1 .andR a f).xt tl s=a.xt tl s:=OQ (by rw[e];show(y.has&&f.has)=false;rw[C,hy];rfl);rw[BT,ex];exact⟨_,g,z⟩
   have g:=M6 (tl:=tl) (hs:=hs) (s:=s) (a:=a) (f:=f) (y:=y) (ra:=r) (by rw[<-e];exact E) F G z.cn;rw[<-e]at g;have ex:(Jt.p1 .andR a f).xt tl s=.n1 .snd (a.xt tl s):=LO (by rw[e];show(y.has&&f.has)=true;rw[C,hy];rfl);rw[BT,ex];exact⟨_,g,Sn z⟩
  obtain⟨u,w,x,e,y,e1,e2⟩:=I;have D:a.f.has=true:=by rw[e];rfl
  obtain⟨r,E,z⟩:=cC H a n hs s K D o a6 a6 a6 a6;rw[e]at P;have sw:=lD (JA P.qf.shp).1;have su:=lD (JA P.shp).1;obtain⟨T,F,z2,Y,zt⟩:=GI P.qf.qf;have ex:(Jt.p1 .choice a f).xt tl s=bif x.has then .n2 .app (.lam (.two true u (.two false w x.cty)) (VH u)) (a.xt tl s)else a.xt tl s:=by show GJ a.f _=_;rw[e];rfl
  rw[BT,ex]
  cases r with
  |er q m=>
   have g:=A7 (tl:=tl) (hs:=hs) (s:=s) (a:=a) (f:=f) (u:=u) (w:=w) (x:=x) (q:=q) (n:=m) (by rw[<-e];exact E);rw[<-e]at g;exact⟨_,g,by first|exact Y _ rfl|exact JO ‹_›|exact z⟩
  |ok t=>
   have U:=z
   cases T with
   |er m=>
    have g:=B7 (tl:=tl) (hs:=hs) (s:=s) (a:=a) (f:=f) (u:=u) (w:=w) (x:=x) (t:=t) (by rw[<-e];exact E) F;rw[<-e]at g;exact⟨_,g,by first|exact Y _ rfl|exact JO ‹_›|exact z⟩
   |ok v=>
    cases Z:x.has<;>rw[Z]at F
    ·have g:=C7 (tl:=tl) (hs:=hs) (s:=s) (a:=a) (f:=f) (u:=u) (w:=w) (x:=x) (t:=t) (by rw[<-e];exact E) F;rw[<-e]at g;exact⟨_,g,U⟩
    have hv:v.size<=64:=z2;have hvc:=zt v rfl Z;have G:=Qn w v
    cases V:TR.fit (.two false w v)with
    |er m=>
     rw[V]at G;have g:=D7 (tl:=tl) (hs:=hs) (s:=s) (a:=a) (f:=f) (u:=u) (w:=w) (x:=x) (t:=t) (by rw[<-e];exact E) F G;rw[<-e]at g;exact⟨_,g,by first|exact Y _ rfl|exact JO ‹_›|exact z⟩
    |ok k=>
     rw[V]at G;have hk:k.size<=64/\k=.two false w v:=by
      unfold TR.fit at V;split at V
      ·rename_i h;cases V;exact⟨h,rfl⟩
      cases V
     have g4:=E6 u k (by have:=hk.1;omega)
     cases e4:TR.fit (.two true u k)with
     |er m=>
      rw[e4]at g4;have g:=E7 (tl:=tl) (hs:=hs) (s:=s) (a:=a) (f:=f) (u:=u) (w:=w) (x:=x) (t:=t) (by rw[<-e];exact E) F G g4;rw[<-e]at g;exact⟨_,g,by first|exact Y _ rfl|exact JO ‹_›|exact z⟩
     |ok m=>
      rw[e4]at g4;have hm':m.size<=64/\m=.two true u k:=by
       unfold TR.fit at e4;split at e4
       ·rename_i h;cases e4;exact⟨h,rfl⟩
       cases e4
      have g:=F7 (tl:=tl) (hs:=hs) (s:=s) (a:=a) (f:=f) (u:=u) (w:=w) (x:=x) (t:=t) (by rw[<-e];exact E) z.1.cnt F G g4;rw[<-e]at g;refine⟨_,g,PK ?_ ?_ ?_⟩
      ·show(Nat.beq m.chk 0&&((Nat.beq u.chk 0&&_)&&(Nat.beq u.chk 0&&_))&&_)=true;rw[DJ hm'.1,DJ su,U.1.shp];rfl
      ·refine⟨⟨⟨?_,?_⟩,?_,?_⟩,U.1.sc⟩<;>simp only[Tm.sc]<;>omega
      rw[hm'.2,hk.2,hvc,U.2];rfl
 |.p2 k a b f,n,hs,s,⟨X,K,I⟩,C,o,L,M,N,O=>by
  have hm:=zA;have S:nA=100000:=rfl;simp only[Jt.p,Pf.cnt]at L M N O;have ca:=CT a.p;have cb:=CT b.p;replace C:f.has=true:=C;have hkl:s.ks.length=hs.length:=by have:=o.kl;simpa using this
  have P:=Jt.FKj K;cases k
  ·obtain⟨R,e⟩:=I;subst e;have hor:a.f.has=true\/b.f.has=true:=by have:(a.f.has||b.f.has)=true:=C;simpa using this
   cases D:a.f.has
   ·have A:b.f.has=true:=by rcases hor with h|h;rw[D]at h;cases h;exact h
    obtain⟨r,E,z⟩:=cC H b n hs s R A o a6 a6 a6 a6;exact⟨_,J6 D E,by show r.Gd s.dep (bif a.f.has then _ else _);rw[OQ D];exact z⟩
   obtain⟨r,E,z⟩:=cC H a n hs s K D o a6 a6 a6 a6;cases A:b.f.has
   ·exact⟨_,I6 D A E,by show r.Gd s.dep (bif a.f.has then(bif b.f.has then _ else _)else _);rw[LO D,OQ A];exact z⟩
   obtain⟨r2,F,U⟩:=cC H b n hs s R A o a6 a6 a6 a6;exact⟨_,G6 D A E F z.cn U.cn,by show XR.Gd s.dep (bif a.f.has then(bif b.f.has then _ else _)else _) _;rw[LO D,LO A];exact KO z U⟩
  ·obtain⟨R,x,e⟩:=I;have D:a.f.has=true:=by rw[e];exact C
   obtain⟨r,E,z⟩:=cC H a n hs s K D o a6 a6 a6 a6;cases A:b.f.has
   ·have g:=R6 (tl:=tl) (hs:=hs) (s:=s) (a:=a) (b:=b) (x:=x) (y:=b.f) (f:=f) (ra:=r) A (by rw[<-e];exact E);rw[<-e]at g;exact⟨_,g,by show r.Gd s.dep (bif b.f.has then _ else _);rw[OQ A];exact z⟩
   obtain⟨r2,F,U⟩:=cC H b n hs s R A o a6 a6 a6 a6;have g:=S6 (tl:=tl) (hs:=hs) (s:=s) (a:=a) (b:=b) (x:=x) (y:=b.f) (f:=f) (ra:=r) (rb:=r2) A (by rw[<-e];exact E) F z.cn U.cn;rw[<-e]at g;exact⟨_,g,by show XR.Gd s.dep (bif b.f.has then _ else _) _;rw[LO A];exact KO z U⟩
  ·obtain⟨R,⟨u,e⟩,e1⟩:=I;have ex:(Jt.p2 .exE a b f).xt tl s=bif a.f.bd.has then .n2 .app (.lam (.two false a.f.qs a.f.bd.cty) (b.xt tl ((s.bind.var (.n1 .fst (.v 0))).hyp (.n1 .snd (.v 0))))) (a.xt tl s)else .n2 .app (.lam a.f.qs (b.xt tl (s.bind.var (.v 0)).bare)) (a.xt tl s):=rfl;rw[BT,ex];have eu:a.f.qs=u:=by rw[e];rfl
   rw[eu];generalize Z:a.f.bd=x at *
   have D:a.f.has=true:=by rw[e];rfl
   have A:b.f.has=true:=by rw[<-XA (uG e1)];exact C
   rw[e]at P;have su:=lD (JA P.shp).1;obtain⟨T,F,z2,Y,zt⟩:=GI P.qf;have gs:=GM s
   cases T with
   |er m=>
    have g:=j7 (tl:=tl) (hs:=hs) (s:=s) (a:=a) (b:=b) (u:=u) (x:=x) (y:=b.f) (f:=f) F;rw[<-e,<-Z]at g;exact⟨_,g,by first|exact Y _ rfl|exact JO ‹_›|exact z⟩
   |ok w=>
    have hw:w.size<=64:=z2;obtain⟨r,E,z⟩:=cC H a n hs s K D o a6 a6 a6 a6;cases B:x.has<;>rw[B]at F
    ·have Q:=(o.bind.var (t:=.v 0) (TB (by show 0<s.dep+1;omega))).bare;have gv:=MK s.bind (.v 0) (by rw[o.bind.vl];omega);have gh:=IT (s.bind.var (.v 0)) (by show s.ks.length<=qA;omega) (by show s.hyps<=qA;omega);obtain⟨r2,G,J⟩:=cC H b (n+1) _ _ R A (by rw[gn,aE,gF,B];exact Q) a6 a9 (by show s.dep+1+_<=_;omega) (by show s.hyps+1+_<=_;omega);have g:=k7 (tl:=tl) (hs:=hs) (s:=s) (a:=a) (b:=b) (u:=u) (x:=x) (y:=b.f) (f:=f) F gs gv gh G J.cn (by rw[<-e];exact E) z.cn;rw[<-e,<-Z]at g;exact⟨_,g,KO (FJ su J) z⟩
    have W:=Qn u w
    cases V:TR.fit (.two false u w)with
    |er m=>
     rw[V]at W;have g:=v7 (tl:=tl) (hs:=hs) (s:=s) (a:=a) (b:=b) (u:=u) (x:=x) (y:=b.f) (f:=f) F gs W;rw[<-e,<-Z]at g;exact⟨_,g,by first|exact Y _ rfl|exact JO ‹_›|exact z⟩
    |ok k=>
     rw[V]at W;unfold TR.fit at V;split at V;rotate_left
     ·cases V
     rename_i hk;cases V;have hz:TK (s.dep+1) (.v 0):=TB;have S0:=o.bind.var (t:=.n1 .fst (.v 0)) (LK hz aab);have Q:=S0.hyp (t:=.n1 .snd (.v 0)) (LK hz aab) true;have gv:=MK s.bind (.n1 .fst (.v 0)) (by rw[o.bind.vl];omega);have gh:=HO (s.bind.var (.n1 .fst (.v 0))) (.n1 .snd (.v 0)) (by show s.ks.length<=qA;omega) (by show s.hyps<=qA;omega);obtain⟨r2,G,J⟩:=cC H b (n+1) _ _ R A (by rw[gn,aE,gF,B];exact Q) a6 a9 (by show s.dep+1+_<=_;omega) (by show s.hyps+1+_<=_;omega);have g:=w7 (tl:=tl) (hs:=hs) (s:=s) (a:=a) (b:=b) (u:=u) (x:=x) (y:=b.f) (f:=f) F gs W gv gh G J.cn (by rw[<-e];exact E) z.cn;rw[<-e,<-Z]at g;rw[zt w rfl B]at g hk;exact⟨_,g,KO (FJ hk J) z⟩
  obtain⟨R,⟨u,e⟩,e1⟩:=I;have ex:(Jt.p2 .exUE a b f).xt tl s=bif a.f.bd.has then .n2 .app (.lam a.f.bd.cty (b.xt tl ((s.bind.var a.f.qs.ini).hyp (.v 0)))) (a.xt tl s)else b.xt tl (s.var a.f.qs.ini).bare:=rfl;rw[BT,ex];have eu:a.f.qs=u:=by rw[e];rfl
  rw[eu];generalize Z:a.f.bd=x at *
  have A:b.f.has=true:=by rw[<-XA (uG e1)];exact C
  rw[e]at P;have su:=lD (JA P.shp).1;obtain⟨T,F,z2,Y,zt⟩:=GI P.qf;have gs:=GM s
  cases T with
  |er m=>
   have g:=u7 (tl:=tl) (hs:=hs) (s:=s) (a:=a) (b:=b) (u:=u) (x:=x) (y:=b.f) (f:=f) F;rw[<-e,<-Z]at g;exact⟨_,g,by first|exact Y _ rfl|exact JO ‹_›|exact z⟩
  |ok w=>
   have hw:w.size<=64:=z2;cases B:x.has<;>rw[B]at F
   ·have Q:=(o.var (t:=u.ini) (LF u su s.dep)).bare;have gv:=MK s u.ini (by rw[o.vl];omega);have gh:=IT (s.var u.ini) (by show s.ks.length<=qA;omega) (by show s.hyps<=qA;omega);obtain⟨r2,G,J⟩:=cC H b (n+1) _ _ R A (by rw[gn,aE,gF,B];exact Q) a6 a9 (by show s.dep+_<=_;omega) (by show s.hyps+1+_<=_;omega);have g:=b7 (tl:=tl) (hs:=hs) (s:=s) (a:=a) (b:=b) (u:=u) (x:=x) (y:=b.f) (f:=f) F gv gh G;rw[<-e,<-Z]at g;exact⟨_,g,J⟩
   have D:a.f.has=true:=by rw[e];exact B
   obtain⟨r,E,z⟩:=cC H a n hs s K D o a6 a6 a6 a6;have S0:=o.bind.var (t:=u.ini) (LF u su _);have Q:=S0.hyp (t:=.v 0) (TB (by show 0<s.dep+1;omega)) true;have gv:=MK s.bind u.ini (by rw[o.bind.vl];omega);have gh:=HO (s.bind.var u.ini) (.v 0) (by show s.ks.length<=qA;omega) (by show s.hyps<=qA;omega);obtain⟨r2,G,J⟩:=cC H b (n+1) _ _ R A (by rw[gn,aE,gF,B];exact Q) a6 a9 (by show s.dep+1+_<=_;omega) (by show s.hyps+1+_<=_;omega);have g:=d7 (tl:=tl) (hs:=hs) (s:=s) (a:=a) (b:=b) (u:=u) (x:=x) (y:=b.f) (f:=f) F gs gv gh G J.cn (by rw[<-e];exact E) z.cn;rw[<-e,<-Z]at g;rw[zt w rfl B]at g hw;exact⟨_,g,KO (FJ hw J) z⟩
 |.impI x a,n,hs,s,⟨X,K,I⟩,C,o,L,M,N,O=>by
  have hm:=zA;have S:nA=100000:=rfl;simp only[Jt.p,Pf.cnt]at L M N O;have hkl:s.ks.length=hs.length:=by have:=o.kl;simpa using this
  have D:a.f.has=true:=C;have ex:(Jt.impI x a).xt tl s=bif x.has then .lam x.cty (a.xt tl (s.bind.hyp (.v 0)))else a.xt tl s.bare:=rfl;rw[BT,ex];obtain⟨T,F,z2,Y,zt⟩:=GI X
  cases T with
  |er m=>exact⟨_,O6 F,Y _ rfl⟩|ok u=>
   have hu:u.size<=64:=z2;cases B:x.has<;>rw[B]at F
   ·have Q:=o.bare;have gh:=IT s;obtain⟨r2,G,J⟩:=cC H a n _ _ I D (by rw[gn,gF,B];exact Q) a6 a9 (by show s.dep+_<=_;omega) (by show s.hyps+1+_<=_;omega);exact⟨_,P6 F gh G,J⟩
   have Q:=o.bind.hyp (t:=.v 0) (TB (by show 0<s.dep+1;omega)) true;have gs:=GM s;have gh:=HO s.bind (.v 0) (by show s.ks.length<=qA;omega) (by show s.hyps<=qA;omega);obtain⟨r2,G,J⟩:=cC H a n _ _ I D (by rw[gn,gF,B];exact Q) a6 a9 (by show s.dep+1+_<=_;omega) (by show s.hyps+1+_<=_;omega);rw[zt u rfl B]at F hu;exact⟨_,Q6 F gs gh G J.cn,FJ hu J⟩
 |.all c u a,n,hs,s,⟨X,K,I⟩,C,o,L,M,N,O=>by
  have hm:=zA;simp only[Jt.p,Pf.cnt]at L M N O;cases c
  ·have D:a.f.has=true:=C;have Q:=o.bind.var (t:=.v 0) (TB (by show 0<s.dep+1;omega));have gs:=GM s;have gv:=MK s.bind (.v 0) (by rw[o.bind.vl];omega);obtain⟨r2,G,J⟩:=cC H a (n+1) _ _ I D (by rw[aE];exact Q) a6 a9 (by show s.dep+1+_<=_;omega) (by show s.hyps+_<=_;omega);exact⟨_,T6 gs gv G J.cn,FJ X J⟩
  have D:a.f.has=true:=C;have Q:=o.var (t:=u.ini) (LF u X s.dep);have gv:=MK s u.ini (by rw[o.vl];omega);obtain⟨r2,G,J⟩:=cC H a (n+1) _ _ I D (by rw[aE];exact Q) a6 a9 (by show s.dep+_<=_;omega) (by show s.hyps+_<=_;omega);exact⟨_,U6 gv G,J⟩
 |.ins c t a f,n,hs,s,⟨X,K,I,u,x,e,e1⟩,C,o,L,M,N,O=>by
  have hm:=zA;have S:nA=100000:=rfl;simp only[Jt.p,Pf.cnt]at L M N O;replace C:f.has=true:=C;have B:x.has=true:=by rw[<-XA (qD e1)];exact C
  cases c
  ·have D:a.f.has=true:=by rw[e];exact B
   obtain⟨r,E,z⟩:=cC H a n hs s I D o a6 a6 a6 a6;have e:a.f=.q .all u x:=e;have W:=JT s t n o.vl.symm o.ve a6 (by rw[o.vl];omega) K;have qp:(XR.fit (t.ps s.vs s.dep 0)).Gd s.dep (t.ps s.vs s.dep 0):=Ee o K;have g:=V6 (tl:=tl) (hs:=hs) (s:=s) (a:=a) (w:=t) (u:=u) (x:=x) (f:=f) (by rw[<-e];exact E) W z.cn qp.cn;rw[<-e]at g;exact⟨_,g,KO z qp⟩
  have D:a.f.has=true:=by rw[e];exact B
  obtain⟨r,E,z⟩:=cC H a n hs s I D o a6 a6 a6 a6;have e:a.f=.q .allU u x:=e;have g:=W6 (tl:=tl) (hs:=hs) (s:=s) (a:=a) (w:=t) (u:=u) (x:=x) (f:=f) (by rw[<-e];exact E);rw[<-e]at g;exact⟨_,g,z⟩
 |.ex c x t a,n,hs,s,⟨X,K,I,⟨u,e⟩,e1⟩,C,o,L,M,N,O=>by
  have hm:=zA;have S:nA=100000:=rfl;simp only[Jt.p,Pf.cnt]at L M N O;replace C:x.has=true:=C;cases c
  ·have W:=JT s t n o.vl.symm o.ve a6 (by rw[o.vl];omega) K;have qp:(XR.fit (t.ps s.vs s.dep 0)).Gd s.dep (t.ps s.vs s.dep 0):=Ee o K;cases D:a.f.has
   ·exact⟨_,X6 D W,by show XR.Gd s.dep (bif a.f.has then _ else _) _;rw[OQ D];exact qp⟩
   obtain⟨r,E,z⟩:=cC H a n hs s I D o a6 a6 a6 a6;exact⟨_,Y6 D E W z.cn qp.cn,by show XR.Gd s.dep (bif a.f.has then _ else _) _;rw[LO D];exact KO qp z⟩
  have D:a.f.has=true:=by
   rw[XA e1];rw[e]at C;exact C
  obtain⟨r,E,z⟩:=cC H a n hs s I D o a6 a6 a6 a6;exact⟨_,Z6 E,z⟩
 |.ind l x t a b f,n,hs,s,⟨X,K,I,R,e,⟨ea,eb⟩,h4⟩,C,o,L,M,N,O=>by
  have hm:=zA;have S:nA=100000:=rfl;simp only[Jt.p,Pf.cnt]at L M N O;have ct:=UE t;have cx:=EX x;have ca:=CT a.p;have hkl:s.ks.length=hs.length:=by have:=o.kl;simpa using this
  replace C:f.has=true:=C;have B:x.has=true:=by rw[<-XA (qD e)];exact C
  have D:a.f.has=true:=by rw[XA ea];exact B
  have A:b.f.has=true:=by rw[XA eb];exact B
  have W:=JT s t n o.vl.symm o.ve a6 (by rw[o.vl];omega) I;have qp:(XR.fit (t.ps s.vs s.dep 0)).Gd s.dep (t.ps s.vs s.dep 0):=Ee o I;generalize XR.fit (t.ps s.vs s.dep 0)=rp at W qp
  cases rp with
  |er q m=>exact⟨_,l7 W,qp⟩|ok tp=>
   have S0:=o.bind.var (t:=.v 0) (TB (by show 0<s.dep+1;omega));obtain⟨r,g,q⟩:=Tn (tl:=tl) (l:=l) (t:=t) (a:=a) (b:=b) (f:=f) K B o qp.1 a6 a6 a6 a6 (cC H a n hs s R D o a6 a6 a6 a6) (by
    cases l
    ·exact cC H b (n+1) _ _ h4 A (by rw[gn,aE,gF,B];exact S0.bind.hyp (t:=.v 0) (TB (by show 0<s.dep+1+1;omega)) true) a6 a9 (by show s.dep+1+1+_<=_;omega) (by show s.hyps+1+_<=_;omega)
    have hxs:(x.sh 1 (.ofNat 1)).has=true:=by rw[XA (nE _ x 1)];exact B
    exact cC H b (n+2) _ _ h4 A (by rw[gn,aE,gF,hxs];exact(S0.bind.var (t:=.v 0) (TB (by show 0<s.dep+1+1;omega))).bind.hyp (t:=.v 0) (TB (by show 0<s.dep+1+1+1;omega)) true) a6 a9 (by show s.dep+1+1+1+_<=_;omega) (by show s.hyps+1+_<=_;omega))
   refine⟨r,m7 W g,?_⟩;have e:(Jt.ind l x t a b f).xt tl s=GD tl l x a b s (t.ps s.vs s.dep 0):=by cases l<;>rfl
   rw[e,<-qp.2];exact q
 |.subst x a b f,n,hs,s,⟨X,K,I,R,eb,t,u,e,e1⟩,C,o,L,M,N,O=>by
  have hm:=zA;simp only[Jt.p,Pf.cnt]at L M N O;replace C:f.has=true:=C;have A:b.f.has=true:=by rw[XA eb,<-XA (qD e1)];exact C
  obtain⟨r,E,z⟩:=cC H b n hs s R A o a6 a6 a6 a6;exact⟨_,z7 E,z⟩
def ZD(g:Nat->Nat):Nat->Nat|0=>0|n+1=>g n+1
def Tm.ren:(Nat->Nat)->Tm->Tm|g,.v i=>.v (g i)|g,.lam s b=>.lam s (b.ren (ZD g))|_,.n0 k=>.n0 k|g,.n1 k a=>.n1 k (a.ren g)|g,.n2 k a b=>.n2 k (a.ren g) (b.ren g)|g,.n3 k s a b c=>.n3 k s (a.ren g) (b.ren g) (c.ren g)
def aA(σ:Nat->Tm):Nat->Tm|0=>.v 0|n+1=>(σ n).sh 0 (.ofNat 1)
def Tm.sub:(Nat->Tm)->Tm->Tm|σ,.v i=>σ i|σ,.lam s b=>.lam s (b.sub (aA σ))|_,.n0 k=>.n0 k|σ,.n1 k a=>.n1 k (a.sub σ)|σ,.n2 k a b=>.n2 k (a.sub σ) (b.sub σ)|σ,.n3 k s a b c=>.n3 k s (a.sub σ) (b.sub σ) (c.sub σ)
def zE(k:Nat):∀(t:Tm)(c:Nat),t.sh c (.ofNat k)=t.ren λi=>if c<=i then i+k else i
 |.v i,c=>by simp only[Tm.sh,Tm.ren];split<;>rfl|.lam s b,c=>by
  simp only[Tm.sh,Tm.ren,zE k b];congr 2;funext i
  cases i with|zero=>rfl|succ i=>simp only[ZD];split<;>split<;>omega
 |.n0 _,_=>rfl|.n1 _ a,c=>by simp only[Tm.sh,Tm.ren,zE k a]|.n2 _ a b,c=>by simp only[Tm.sh,Tm.ren,zE k a,zE k b]|.n3 _ _ a b d,c=>by simp only[Tm.sh,Tm.ren,zE k a,zE k b,zE k d]
theorem OC(t:Tm):t.sh 0 (.ofNat 1)=t.ren (· +1):=by
 rw[zE];congr 1
def HJ:∀(t:Tm)(g τ:Nat->Nat),(t.ren g).ren τ=t.ren λi=>τ (g i)
 |.v i,_,_=>rfl|.lam s b,g,τ=>by
  simp only[Tm.ren,HJ b];congr 2;funext i;cases i<;>rfl
 |.n0 _,_,_=>rfl|.n1 _ a,_,_=>by simp only[Tm.ren,HJ a]|.n2 _ a b,_,_=>by simp only[Tm.ren,HJ a,HJ b]|.n3 _ _ a b d,_,_=>by simp only[Tm.ren,HJ a,HJ b,HJ d]
def GE:∀(t:Tm)(g:Nat->Nat)(σ:Nat->Tm),(t.ren g).sub σ=t.sub λi=>σ (g i)
 |.v i,_,_=>rfl|.lam s b,g,σ=>by
  simp only[Tm.ren,Tm.sub,GE b];congr 2;funext i;cases i<;>rfl
 |.n0 _,_,_=>rfl|.n1 _ a,_,_=>by simp only[Tm.ren,Tm.sub,GE a]|.n2 _ a b,_,_=>by simp only[Tm.ren,Tm.sub,GE a,GE b]|.n3 _ _ a b d,_,_=>by simp only[Tm.ren,Tm.sub,GE a,GE b,GE d]
theorem gH:∀(t:Tm)(σ:Nat->Tm)(g:Nat->Nat),(t.sub σ).ren g=t.sub λi=>(σ i).ren g
 |.v i,_,_=>rfl|.lam s b,σ,g=>by
  simp only[Tm.ren,Tm.sub,gH b];congr 2;funext i
  cases i with|zero=>rfl|succ i=>simp only[aA,OC,HJ];rfl
 |.n0 _,_,_=>rfl|.n1 _ a,_,_=>by simp only[Tm.ren,Tm.sub,gH a]|.n2 _ a b,_,_=>by simp only[Tm.ren,Tm.sub,gH a,gH b]|.n3 _ _ a b d,_,_=>by simp only[Tm.ren,Tm.sub,gH a,gH b,gH d]
def Fe(t:Tm)(σ:Nat->Tm):(t.sh 0 (.ofNat 1)).sub (aA σ)=(t.sub σ).sh 0 (.ofNat 1):=by
 rw[OC,GE,OC,gH];congr 1;funext i;exact OC _
def jE:∀(t:Tm)(σ τ:Nat->Tm),(t.sub σ).sub τ=t.sub λi=>(σ i).sub τ
 |.v i,_,_=>rfl|.lam s b,σ,τ=>by
  simp only[Tm.sub,jE b];congr 2;funext i
  cases i with|zero=>rfl|succ i=>exact Fe _ _
 |.n0 _,_,_=>rfl|.n1 _ a,_,_=>by simp only[Tm.sub,jE a]|.n2 _ a b,_,_=>by simp only[Tm.sub,jE a,jE b]|.n3 _ _ a b d,_,_=>by simp only[Tm.sub,jE a,jE b,jE d]
def aad{p:Prop}(h:p:=by simp only[Tm.occ];omega):=h
theorem YE:∀(t:Tm)(σ τ:Nat->Tm),(∀i,t.occ i≠0->σ i=τ i)->t.sub σ=t.sub τ
 |.v i,_,_,h=>h i (by simp[Tm.occ])|.lam s b,σ,τ,h=>by
  simp only[Tm.sub];rw[YE b (aA σ) (aA τ) λi c=>by
   cases i with|zero=>rfl|succ i=>simp only[aA];rw[h i c]]
 |.n0 _,_,_,_=>rfl|.n1 _ a,_,_,h=>by simp only[Tm.sub];rw[YE a _ _ h]|.n2 _ a b,_,_,h=>by
  simp only[Tm.sub];rw[YE a _ _ λi c=>h i aad,YE b _ _ λi c=>h i aad]
 |.n3 _ _ a b d,_,_,h=>by
  simp only[Tm.sub];rw[YE a _ _ λi c=>h i aad,YE b _ _ λi c=>h i aad,YE d _ _ λi c=>h i aad]
def MM:aA Tm.v=Tm.v:=by
 funext i
 cases i with|zero=>rfl|succ i=>simp[aA,Tm.sh]
theorem eC:∀t:Tm,t.sub Tm.v=t|.v _=>rfl|.lam s b=>by simp[Tm.sub,MM,eC]|.n0 _=>rfl|.n1 _ a=>by simp[Tm.sub,eC]|.n2 _ a b=>by simp[Tm.sub,eC]|.n3 _ _ a b d=>by simp[Tm.sub,eC]
def NT{t:Tm}{n i:Nat}(h:t.sc n)(a:t.occ i≠0):i<n:=by
 have:=(Od t _).1 h
 grind[Nat.lt_or_ge,absurd,CK]
theorem Un{t:Tm}(h:t.sc 0)(σ:Nat->Tm):t.sub σ=t:=by
 rw[YE t σ .v λi a=>absurd (NT h a) a6,eC]
theorem PQ(t:Tm)(k:Nat):(t.sh 0 (.ofNat k)).sh 0 (.ofNat 1)=t.sh 0 (.ofNat (k+1)):=by
 rw[OC,zE k t,HJ,zE];congr 1
def ND(c:List (Tm×Nat))(d:Nat):∀(t:Tm)(b:Nat),t.ps c d b=t.sub λi=>(Tm.v i).ps c d b
 |.v i,_=>rfl|.lam s t,b=>by
  simp only[Tm.ps,Tm.sub];rw[ND c d t (b+1)];congr 2;funext i
  cases i with
  |zero=>simp[Tm.ps,aA]|succ i=>
   simp only[Tm.ps,aA,Nat.add_lt_add_iff_right,Nat.add_sub_add_right];split
   ·simp[Tm.sh]
   split
   ·rw[PQ];rfl
   simp[Tm.sh]
 |.n0 _,_=>rfl|.n1 _ a,b=>by simp only[Tm.ps,Tm.sub];rw[ND c d a b];rfl|.n2 _ x y,b=>by simp only[Tm.ps,Tm.sub];rw[ND c d x b,ND c d y b];rfl|.n3 _ _ x y z,b=>by simp only[Tm.ps,Tm.sub];rw[ND c d x b,ND c d y b,ND c d z b];rfl
theorem tD(c:Nat)(S:Tm):∀(t:Tm)(d:Nat),t.put c S d=t.sub λi=>(Tm.v i).put c S d
 |.v i,_=>rfl|.lam s t,d=>by
  simp only[Tm.put,Tm.sub];rw[tD c S t (d+1)];congr 2;funext i
  cases i with
  |zero=>
   simp only[Tm.put,aA];rw[e9 a6,e9 a6]
  |succ i=>
   simp only[Tm.put,aA];by_cases e:i=c+d
   ·rw[gm a6,gm e,PQ];rfl
   rw[e9 a6,e9 e];by_cases b:c+d<i
   ·rw[gm a6,gm b];simp only[Tm.sh,c6,if_true];congr 1;show i=(Int.ofNat (i-1)+Int.ofNat 1).toNat;simp;omega
   rw[e9 a6,e9 b];simp[Tm.sh]
 |.n0 _,_=>rfl|.n1 _ a,d=>by simp only[Tm.put,Tm.sub];rw[tD c S a d];rfl|.n2 _ x y,d=>by simp only[Tm.put,Tm.sub];rw[tD c S x d,tD c S y d];rfl|.n3 _ _ x y z,d=>by simp only[Tm.put,Tm.sub];rw[tD c S x d,tD c S y d,tD c S z d];rfl
open Go.Lg
def WH:∀f:Fm,f.er.cty=f.cty
 |.eq _ _=>rfl|.bin k f g=>by cases k<;>simp only[Fm.er,Fm.cty,PH,WH f,WH g]
 |.q k _ f=>by cases k<;>simp only[Fm.er,Fm.cty,PH,WH f]
def vD{f g:Fm}(e:f.er=g.er):f.cty=g.cty:=(WH f).symm.trans ((k0 Fm.cty e).trans (WH g))
def PX:(Nat->Tm)->Pf->Pf->Prop|_,.leaf u i,p=>p=.leaf u i|_,.refl _,p=>∃t,p=.refl t|σ,.p1 k a,p=>∃c,p=.p1 k c/\PX σ a c|σ,.p2 k a b,p=>∃c e,p=.p2 k c e/\PX σ a c/\PX (match k with|.andI=>σ|.impE=>σ|_=>aA σ) b e|σ,.impI x a,p=>∃d c,p=.impI d c/\d.er=x.er/\PX σ a c|σ,.all u s a,p=>∃c,p=.all u s c/\PX (aA σ) a c|σ,.ins u t a,p=>∃f c,p=.ins u f c/\(u=false->f=t.sub σ)/\PX σ a c|σ,.ex u x t a,p=>∃d f c,p=.ex u d f c/\d.er=x.er/\(u=false->f=t.sub σ)/\PX σ a c|σ,.ind l x t a b,p=>∃d f c e,p=.ind l d f c e/\d.er=x.er/\f=t.sub σ/\PX σ a c/\PX (match l with|false=>aA σ|true=>aA (aA σ)) b e|σ,.subst x a b,p=>∃d c e,p=.subst d c e/\d.er=x.er/\PX σ a c/\PX σ b e
def G7{b a:List Fm}(e:a.map Fm.er=b.map Fm.er){i:Nat}{f c:Fm}(h:b[i]? =some f)(b:a[i]? =some c):c.er=f.er:=by
 have:=k0 (λl=>l[i]?) e
 grind
def I7{b a:List Fm}(e:a.map Fm.er=b.map Fm.er):a.length=b.length:=by
 have:=k0 List.length e
 grind
def Ge{k f:FB}{a b c d:Fm}(e:(Fm.bin k a b).er=(Fm.bin f c d).er):a.er=c.er/\b.er=d.er:=by
 grind[Fm.er,Fm.bin.injEq]
def OT{k b:FQ}{s u:Ty}{a c:Fm}(e:(Fm.q k s a).er=(Fm.q b u c).er):s=u/\a.er=c.er:=by
 grind[Fm.er,Fm.q.injEq]
def FX{f g:Fm}(e:f.er=g.er):f.bd.er=g.bd.er:=by
 cases f<;>cases g<;>simp only[Fm.er,reduceCtorEq]at e<;>first|rfl|(simp only[Fm.bd,Fm.er]at *;first|exact e|simp_all)
def Vn{f g:Fm}(e:f.er=g.er):f.qs=g.qs:=by
 cases f<;>cases g<;>simp only[Fm.er,reduceCtorEq]at e<;>first|rfl|(injection e)
def NM{b a:List Fm}{x c:Fm}(k:Nat)(e:a.map Fm.er=b.map Fm.er)(ex:c.er=x.er):(fA k a++[c]).map Fm.er=(fA k b++[x]).map Fm.er:=by
 rw[gn,gn,rJ,rJ,e];simp_all
def lH(D:List Fm):∀(j m:Jt)(n A:Nat)(B g:List Fm)(σ:Nat->Tm),j.OK D n B->m.OK D A g->g.map Fm.er=B.map Fm.er->PX σ j.p m.p->m.f.er=j.f.er
 |.leaf u i f,m,n,A,B,g,σ,h,o,e,r=>by
  cases m with
  |leaf M T E=>
   obtain⟨-,h⟩:=h;obtain⟨-,o⟩:=o;have r:Pf.leaf M T=.leaf u i:=r;cases r;cases u
   ·rw[I7 e]at o;exact G7 e h.2 o.2
   simp_all
  |_=>cases r
 |.refl t,m,n,A,B,g,σ,h,o,e,r=>by
  cases m with|refl N=>rfl|_=>have⟨_,r⟩:=r;cases r
 |.p1 k a f,m,n,A,B,g,σ,⟨_,F,H⟩,o,e,⟨J,r,G⟩=>by
  cases m with
  |p1 U b E=>
   obtain⟨-,p,z⟩:=o;cases r;have q:=lH D a b n A B g σ F p e G;cases k
   ·have⟨y,v⟩:=H;have⟨O,w⟩:=z;rw[v,w]at q;exact(Ge q).1
   ·have⟨y,v⟩:=H;have⟨O,w⟩:=z;rw[v,w]at q;exact(Ge q).2
   have⟨s,u,x,v,y,P,V⟩:=H;have⟨Q,M,K,w,O,R,W⟩:=z;rw[v,w]at q;have⟨es,q⟩:=OT q;have⟨X,q⟩:=OT q;show E.er=f.er;rw[V,W]
   grind[Fm.er,qD,nE]
  |_=>cases r
 |.p2 k a b f,m,n,A,B,g,σ,⟨_,F,H⟩,o,e,⟨J,S,r,G,rb⟩=>by
  cases m with
  |p2 U c d E=>
   obtain⟨-,p,z⟩:=o;cases r;have q:=lH D a c n A B g σ F p e G;show E.er=f.er;cases k
   ·have⟨L,v⟩:=H;have⟨C,w⟩:=z;rw[v,w];simp only[Fm.er];rw[q,lH D b d n A B g σ L C e rb]
   ·have⟨L,x,v⟩:=H;have⟨C,K,w⟩:=z;rw[v,w]at q;exact(Ge q).2
   ·have⟨L,_,v⟩:=H;have⟨C,_,w⟩:=z;rw[uG v,uG w];exact lH D b d _ _ _ _ _ L C (NM 1 e (FX q)) rb
   have⟨L,_,v⟩:=H;have⟨C,_,w⟩:=z;rw[uG v,uG w];exact lH D b d _ _ _ _ _ L C (NM 1 e (FX q)) rb
  |_=>cases r
 |.impI x a,m,n,A,B,g,σ,⟨_,_,F⟩,o,e,⟨K,J,r,I,G⟩=>by
  cases m with
  |impI x2 b=>
   obtain⟨-,-,p⟩:=o;cases r;show Fm.bin .imp K.er b.f.er=Fm.bin .imp x.er a.f.er;rw[I,lH D a b n A _ _ σ F p (by rw[gn,gn,e];simp only[gF,i2,I]) G]
  |_=>cases r
 |.all u s a,m,n,A,B,g,σ,⟨_,_,F⟩,o,e,⟨J,r,G⟩=>by
  cases m with
  |all M Q b=>
   obtain⟨-,-,p⟩:=o;cases r;show Fm.q _ _ b.f.er=Fm.q _ _ a.f.er;rw[lH D a b _ _ _ _ _ F p (by rw[rJ,rJ,e]) G]
  |_=>cases r
 |.ins u t a f,m,n,A,B,g,σ,⟨_,_,F,s,x,v,P⟩,o,e,⟨N,J,r,rt,G⟩=>by
  cases m with
  |ins M t2 b E=>
   obtain⟨-,-,p,Q,K,w,R⟩:=o;cases r;have q:=lH D a b n A B g σ F p e G;rw[v,w]at q;show E.er=f.er;rw[qD P,qD R,(OT q).2]
  |_=>cases r
 |.ex u x t a,m,n,A,B,g,σ,h,o,e,⟨K,N,J,r,I,_⟩=>by
  cases m with
  |ex M x2 t2 b=>cases r;exact I
  |_=>cases r
 |.ind l x t a b f,m,n,A,B,g,σ,⟨_,_,_,_,v,_⟩,o,e,⟨K,N,J,S,r,I,_⟩=>by
  cases m with
  |ind Y x2 t2 c d E=>
   obtain⟨-,-,-,-,w,-⟩:=o;cases r;show E.er=f.er;rw[qD v,qD w,I]
  |_=>cases r
 |.subst x a b f,m,n,A,B,g,σ,⟨_,_,_,_,_,_,_,_,v⟩,o,e,⟨K,J,S,r,I,_⟩=>by
  cases m with
  |subst x2 c d E=>
   obtain⟨-,-,-,-,-,_,_,-,w⟩:=o;cases r;show E.er=f.er;rw[qD v,qD w,I]
  |_=>cases r
def HI{a:List (Tm×Nat)}{d i:Nat}{e:Tm×Nat}(h:ent a i=some e):(Tm.v i).ps a d 0=e.1.sh 0 (.ofNat (d-e.2)):=by
 simp only[Tm.ps,lh,if_false,abr,h,ir]
def GX{a:List (Tm×Nat)}{d:Nat}(b:DI d a){t:Tm}(c:t.sc a.length):t.ps a (d+1) 0=(t.ps a d 0).sh 0 (.ofNat 1):=by
 rw[ND,ND a d t,OC,gH];refine YE _ _ _ λi f=>?_
 have⟨e,h,g⟩:=GT (NT c f);rw[HI h,HI h,<-OC,PQ,show d+1-e.2=d-e.2+1 by have:=(b e g).1;omega]
def IX(a:List (Tm×Nat))(d:Nat)(e:Tm×Nat){t:Tm}(b:t.sc a.length):(t.sh 0 (.ofNat 1)).ps (a++[e]) d 0=t.ps a d 0:=by
 rw[ND,OC,GE,ND a];refine YE _ _ _ λi c=>?_
 have⟨x,h,_⟩:=GT (NT b c);rw[HI h,HI (e:=x) (by rw[Ae];exact h)]
structure SX(σ τ:Nat->Tm)(U:Nat->Prop)(s s':Sc):Prop where
 v:∀v,U v->v<s.vs.length->(σ v).sc s'.vs.length/\(σ v).ps s'.vs s'.dep 0=((Tm.v v).ps s.vs s.dep 0).sub τ
 l:s'.ks.length=s.ks.length
 k:∀i,i<s.ks.length->s'.hy i=(s.hy i).sub τ
def SX.mono{σ τ:Nat->Tm}{U W:Nat->Prop}{s a:Sc}(h:SX σ τ U s a)(b:∀v,W v->U v):SX σ τ W s a:=⟨λv a=>h.v v (b v a),h.l,h.k⟩
def JX{n:Nat}{a:List Bool}{s:Sc}(h:ScOK n a s)(i:Nat):s.bind.hy i=(s.hy i).sh 0 (.ofNat 1):=by
 unfold Sc.hy;show(match s.ks[s.ks.length-1-i]? with|some (.hy t d _)=>t.sh 0 (.ofNat (s.dep+1-d))|_=>.n0 .unit)=_
 cases e:s.ks[s.ks.length-1-i]? with
 |none=>rfl|some x=>cases x with
  |bare p=>rfl|hy t d p=>
   have:=(h.ke _ (gg e) t d p rfl).1
   grind[PQ]
theorem SX.bind{σ τ:Nat->Tm}{U:Nat->Prop}{s a:Sc}{n j:Nat}{k b:List Bool}(h:SX σ τ U s a)(d:ScOK n k s)(f:ScOK j b a):SX σ (aA τ) U s.bind a.bind:=
 ⟨λv l g=>by
  have⟨c,e⟩:=h.v v l g;refine⟨c,?_⟩;show(σ v).ps a.vs (a.dep+1) 0=((Tm.v v).ps s.vs (s.dep+1) 0).sub (aA τ);rw[GX f.ve c,e,GX d.ve (show(Tm.v v).sc s.vs.length from g),Fe],h.l,λi m=>by rw[JX d,JX f,h.k i m,Fe]⟩
def PT(a:List (Tm×Nat))(d:Nat)(t:Tm):(Tm.v 0).ps (a++[(t,d)]) d 0=t:=by
 rw[HI (AX a (t,d))];rw[aaY,VE]
def aaJ:=@Nat.succ_pos
theorem SX.var{σ τ:Nat->Tm}{U W:Nat->Prop}{s a:Sc}{t t':Tm}(h:SX σ τ U s a)(f:t'=t.sub τ)(g:∀v,W (v+1)->U v):SX (aA σ) τ W (s.var t) (a.var t'):=
 ⟨λv i b=>by
  have d:(a.var t').vs.length=a.vs.length+1:=by simp[Sc.var]
  cases v with
  |zero=>
   refine⟨by rw[d];exact aaJ _,?_⟩;show(Tm.v 0).ps (a.vs++[(t',a.dep)]) a.dep 0=((Tm.v 0).ps (s.vs++[(t,s.dep)]) s.dep 0).sub τ;rw[PT,PT,f]
  |succ v=>
   have b:v<s.vs.length:=by grind[Sc.var]
   have⟨c,e⟩:=h.v v (g v i) b;refine⟨by rw[d];exact rG 1 _ 0 _ c,?_⟩;show((σ v).sh 0 (.ofNat 1)).ps (a.vs++[(t',a.dep)]) a.dep 0=((Tm.v (v+1)).ps (s.vs++[(t,s.dep)]) s.dep 0).sub τ;rw[IX _ _ _ c,e,<-IX s.vs s.dep (t,s.dep) (show(Tm.v v).sc s.vs.length from b)];rfl,h.l,h.k⟩
def QQ(s:Sc)(x:Hy)(d h:Nat)(i:Nat)(a:i<s.ks.length:=by omega):(⟨s.dep,h,s.vs,s.ks++[x]⟩:Sc).hy (i+1)=s.hy i:=by
 grind[Sc.hy,List.length_append,List.length_cons,List.length_nil]
def MO(s:Sc)(x:Hy)(h:Nat):(⟨s.dep,h,s.vs,s.ks++[x]⟩:Sc).hy 0=match x with|.hy t d _=>t.sh 0 (.ofNat (s.dep-d))|_=>.n0 .unit:=by
 grind[Sc.hy]
theorem SX.hyp{σ τ:Nat->Tm}{U:Nat->Prop}{s b:Sc}{t t':Tm}(h:SX σ τ U s b)(c:t'=t.sub τ):SX σ τ U (s.hyp t) (b.hyp t'):=
 ⟨h.v,by simp[Sc.hyp,h.l],λi a=>by
  cases i with
  |zero=>
   rw[Sc.hyp,Sc.hyp,MO,MO];simp only[aaY,VE];exact c
  |succ i=>
   have a:i<s.ks.length:=by grind[Sc.hyp]
   rw[Sc.hyp,Sc.hyp,QQ s _ 0 _ i a,QQ b _ 0 _ i (by rw[h.l];exact a)];exact h.k i a⟩
theorem SX.bare{σ τ:Nat->Tm}{U:Nat->Prop}{s b:Sc}(h:SX σ τ U s b):SX σ τ U s.bare b.bare:=
 ⟨h.v,by simp[Sc.bare,h.l],λi a=>by
  cases i with
  |zero=>rw[Sc.bare,Sc.bare,MO,MO];rfl|succ i=>
   have a:i<s.ks.length:=by grind[Sc.bare]
   rw[Sc.bare,Sc.bare,QQ s _ 0 _ i a,QQ b _ 0 _ i (by rw[h.l];exact a)];exact h.k i a⟩
def SX.tm{σ τ:Nat->Tm}{U:Nat->Prop}{s a:Sc}{n:Nat}{t:Tm}(h:SX σ τ U s a)(b:s.vs.length=n)(c:t.sc n)(d:∀v,t.occ v≠0->U v):(t.sub σ).ps a.vs a.dep 0=(t.ps s.vs s.dep 0).sub τ:=by
 rw[ND,jE,ND s.vs,jE];refine YE _ _ _ λi a=>?_
 rw[<-(h.v i (d i a) (by rw[b];exact NT c a)).2,<-ND]
def Wn{f g:Fm}(e:f.er=g.er):f.both=g.both:=by
 cases f<;>cases g<;>simp only[Fm.er,reduceCtorEq]at e<;>first|rfl|grind[Fm.bin.injEq,Fm.both,XA]
def J7{f g:Fm}(e:f.er=g.er)(τ:Nat->Tm)(t:Tm):GJ f (t.sub τ)=(GJ g t).sub τ:=by
 cases f with
 |q k s f=>cases g with
  |q a b g=>
   have⟨es,e⟩:=OT e
   cases f with
   |q l u f=>cases g with
    |q c d g=>
     have⟨h,e⟩:=OT e;simp only[GJ,XA e,vD e,es,h];cases g.has
     ·rfl
     rfl
    |_=>cases e
   |_=>cases g with
    |q c d g=>cases e
    |_=>rfl
  |_=>cases e
 |_=>cases g with
  |q a b g=>cases e
  |_=>rfl
open Go.Lg
def UB(a:List Fm)(x:Fm)(k:Nat):(fA k a++[x]).map Fm.has=a.map Fm.has++[x.has]:=by
 rw[gn,aE];rfl
def He(t:Ty)(τ:Nat->Tm):t.ini=t.ini.sub τ:=(Un (MT t 0) τ).symm
def wD{ls:List Fm}{tl:List Tm}(J:∀(i:Nat)(t:Tm),tl[i]? =some t->t.sc 0):∀(j L:Jt)(n B:Nat)(E o:List Fm)(σ τ:Nat->Tm)(s g:Sc),j.OK ls n E->L.OK ls B o->o.map Fm.er=E.map Fm.er->PX σ j.p L.p->ScOK n (E.map Fm.has) s->ScOK B (E.map Fm.has) g->SX σ τ j.us s g->j.f.has=true->L.xt tl g=(j.xt tl s).sub τ
 |.leaf u i f,L,n,B,E,o,σ,τ,s,g,h,P,e,r,S,C,R,p=>by
  cases L with
  |leaf u' i' f'=>
   have r:Pf.leaf u' i'=.leaf u i:=r;cases r;cases u
   ·refine R.k i ?_;rw[S.kl,gB];exact h.2.1
   show(match tl[i]? with|some t=>t|none=>.n0 .unit)=Tm.sub τ (match tl[i]? with|some t=>t|none=>.n0 .unit)
   cases M:tl[i]? with|none=>rfl|some t=>grind[Un]
  |_=>cases r
 |.refl t,L,n,B,E,o,σ,τ,s,g,h,P,e,r,S,C,R,p=>by cases p
 |.p1 k a f,L,n,B,E,o,σ,τ,s,g,⟨g0,H,g2⟩,P,e,⟨a',r,I⟩,S,C,R,p=>by
  cases L with
  |p1 k' b f'=>
   obtain⟨-,A,Q⟩:=P;cases r;replace p:f.has=true:=p;have q:=lH ls a b n B E o σ H A e I;have Ra:SX σ τ a.us s g:=R.mono λv D=>⟨p,D⟩
   cases k
   ·have⟨y,M⟩:=g2;have F:a.f.has=true:=by rw[M];show(f.has||y.has)=true;rw[p];rfl
    have V:=wD J a b n B E o σ τ s g H A e I S C Ra F;show(bif b.f.both then Tm.n1 .fst (b.xt tl g)else b.xt tl g)=(bif a.f.both then Tm.n1 .fst (a.xt tl s)else a.xt tl s).sub τ;rw[Wn q,V];cases a.f.both<;>rfl
   ·have⟨y,M⟩:=g2;have F:a.f.has=true:=by rw[M];show(y.has||f.has)=true;rw[p];cases y.has<;>rfl
    have V:=wD J a b n B E o σ τ s g H A e I S C Ra F;show(bif b.f.both then Tm.n1 .snd (b.xt tl g)else b.xt tl g)=(bif a.f.both then Tm.n1 .snd (a.xt tl s)else a.xt tl s).sub τ;rw[Wn q,V];cases a.f.both<;>rfl
   have⟨u,w,x,M,_⟩:=g2;have F:a.f.has=true:=by rw[M];rfl
   have V:=wD J a b n B E o σ τ s g H A e I S C Ra F;show GJ b.f (b.xt tl g)=(GJ a.f (a.xt tl s)).sub τ;rw[V,J7 q]
  |_=>cases r
 |.p2 k a b f,L,n,B,E,o,σ,τ,s,g,⟨g0,H,g2⟩,P,e,⟨a',b',r,I,rb⟩,S,C,R,p=>by
  cases L with
  |p2 k' c d f'=>
   obtain⟨-,A,Q⟩:=P;cases r;replace p:f.has=true:=p;have q:=lH ls a c n B E o σ H A e I;have Ra:SX σ τ a.us s g:=R.mono λv D=>⟨p,.inl D⟩
   cases k
   ·have⟨X,M⟩:=g2;have⟨G,e2⟩:=Q;have Rb:SX σ τ b.us s g:=R.mono λv D=>⟨p,.inr D⟩
    have q2:=lH ls b d n B E o σ X G e rb;show(bif c.f.has then(bif d.f.has then Tm.n2 .pair (c.xt tl g) (d.xt tl g)else c.xt tl g)else d.xt tl g)=(bif a.f.has then(bif b.f.has then Tm.n2 .pair (a.xt tl s) (b.xt tl s)else a.xt tl s)else b.xt tl s).sub τ;rw[XA q,XA q2];have hor:(a.f.has||b.f.has)=true:=by rw[M]at p;exact p
    have N:=λF=>wD J a c n B E o σ τ s g H A e I S C Ra F
    have K:=λhb=>wD J b d n B E o σ τ s g X G e rb S C Rb hb
    cases F:a.f.has<;>cases hb:b.f.has
    ·rw[F,hb]at hor;cases hor
    ·simp_all
    ·simp_all
    show Tm.n2 .pair _ _=_;rw[N F,K hb];rfl
   ·have⟨X,x,M⟩:=g2;have⟨G,x',e2⟩:=Q;have Rb:SX σ τ b.us s g:=R.mono λv D=>⟨p,.inr D⟩
    have q2:=lH ls b d n B E o σ X G e rb;have F:a.f.has=true:=by rw[M];exact p
    have N:=wD J a c n B E o σ τ s g H A e I S C Ra F;show(bif d.f.has then Tm.n2 .app (c.xt tl g) (d.xt tl g)else c.xt tl g)=(bif b.f.has then Tm.n2 .app (a.xt tl s) (b.xt tl s)else a.xt tl s).sub τ;rw[XA q2,N];cases hb:b.f.has
    ·rfl
    show Tm.n2 .app _ _=_;rw[wD J b d n B E o σ τ s g X G e rb S C Rb hb];rfl
   ·have⟨X,⟨u,M⟩,e3⟩:=g2;have⟨G,⟨u',e2⟩,e4⟩:=Q;have O:b.f.has=true:=by rw[<-XA (uG e3)];exact p
    have Y:∀v,b.us (v+1)->Jt.us (.p2 .exE a b f) v:=λv D=>⟨p,.inr D⟩
    have F:a.f.has=true:=by rw[M];rfl
    have N:=wD J a c n B E o σ τ s g H A e I S C Ra F;have Z:=FX q;show(bif c.f.bd.has then Tm.n2 .app (.lam (.two false c.f.qs c.f.bd.cty) (d.xt tl ((g.bind.var (.n1 .fst (.v 0))).hyp (.n1 .snd (.v 0))))) (c.xt tl g)else Tm.n2 .app (.lam c.f.qs (d.xt tl (g.bind.var (.v 0)).bare)) (c.xt tl g))=(bif a.f.bd.has then Tm.n2 .app (.lam (.two false a.f.qs a.f.bd.cty) (b.xt tl ((s.bind.var (.n1 .fst (.v 0))).hyp (.n1 .snd (.v 0))))) (a.xt tl s)else Tm.n2 .app (.lam a.f.qs (b.xt tl (s.bind.var (.v 0)).bare)) (a.xt tl s)).sub τ;rw[Vn q,XA Z,vD Z,N];have RB:=R.bind S C;have z:∀{m:Nat},TK (m+1) (.v 0):=TB;cases U:a.f.bd.has
    ·have K:=wD J b d (n+1) (B+1) _ _ (aA σ) (aA τ) _ _ X G (NM 1 e Z) rb (by rw[UB,U];exact(S.bind.var (t:=.v 0) z).bare) (by rw[UB,U];exact(C.bind.var (t:=.v 0) z).bare) (RB.var (t:=.v 0) (t':=.v 0) rfl Y).bare O;show Tm.n2 .app (.lam _ _) _=_;rw[K];rfl
    have K:=wD J b d (n+1) (B+1) _ _ (aA σ) (aA τ) _ _ X G (NM 1 e Z) rb (by rw[UB,U];exact(S.bind.var (t:=.n1 .fst (.v 0)) (LK z aab)).hyp (t:=.n1 .snd (.v 0)) (LK z aab) true) (by rw[UB,U];exact(C.bind.var (t:=.n1 .fst (.v 0)) (LK z aab)).hyp (t:=.n1 .snd (.v 0)) (LK z aab) true) ((RB.var (t:=.n1 .fst (.v 0)) (t':=.n1 .fst (.v 0)) rfl Y).hyp (t:=.n1 .snd (.v 0)) (t':=.n1 .snd (.v 0)) rfl) O;show Tm.n2 .app (.lam _ _) _=_;rw[K];rfl
   have⟨X,⟨u,M⟩,e3⟩:=g2;have⟨G,⟨u',e2⟩,e4⟩:=Q;have O:b.f.has=true:=by rw[<-XA (uG e3)];exact p
   have Y:∀v,b.us (v+1)->Jt.us (.p2 .exUE a b f) v:=λv D=>⟨p,.inr D⟩
   have Z:=FX q;have W:a.f.qs.size<=64:=by
    have:=(Jt.FKj H);rw[M]at this⊢;exact lD (JA this.shp).1
   show(bif c.f.bd.has then Tm.n2 .app (.lam c.f.bd.cty (d.xt tl ((g.bind.var c.f.qs.ini).hyp (.v 0)))) (c.xt tl g)else d.xt tl (g.var c.f.qs.ini).bare)=(bif a.f.bd.has then Tm.n2 .app (.lam a.f.bd.cty (b.xt tl ((s.bind.var a.f.qs.ini).hyp (.v 0)))) (a.xt tl s)else b.xt tl (s.var a.f.qs.ini).bare).sub τ;rw[Vn q,XA Z,vD Z];have z:∀{m:Nat},TK (m+1) (.v 0):=TB;cases U:a.f.bd.has
   ·exact wD J b d (n+1) (B+1) _ _ (aA σ) τ _ _ X G (NM 1 e Z) rb (by rw[UB,U];exact(S.var (t:=a.f.qs.ini) (LF _ W _)).bare) (by rw[UB,U];exact(C.var (t:=a.f.qs.ini) (LF _ W _)).bare) (R.var (He _ _) Y).bare O
   have F:a.f.has=true:=by rw[M]at U⊢;exact U
   have N:=wD J a c n B E o σ τ s g H A e I S C Ra F;have K:=wD J b d (n+1) (B+1) _ _ (aA σ) (aA τ) _ _ X G (NM 1 e Z) rb (by rw[UB,U];exact(S.bind.var (t:=a.f.qs.ini) (LF _ W _)).hyp (t:=.v 0) z true) (by rw[UB,U];exact(C.bind.var (t:=a.f.qs.ini) (LF _ W _)).hyp (t:=.v 0) z true) (((R.bind S C).var (He _ _) Y).hyp (t:=.v 0) (t':=.v 0) rfl) O;show Tm.n2 .app (.lam _ _) _=_;rw[K,N];rfl
  |_=>cases r
 |.impI x a,L,n,B,E,o,σ,τ,s,g,⟨_,_,H⟩,P,e,⟨x',a',r,rx,I⟩,S,C,R,p=>by
  cases L with
  |impI x2 b=>
   obtain⟨-,-,A⟩:=P;cases r;have F:a.f.has=true:=p;have Ra:SX σ τ a.us s g:=R.mono λv D=>⟨p,D⟩
   have ee:(o++[x']).map Fm.er=(E++[x]).map Fm.er:=by rw[gn,gn,e];simp only[gF,i2,rx]
   have ex:(E++[x]).map Fm.has=E.map Fm.has++[x.has]:=by rw[gn];rfl
   have z:∀{m:Nat},TK (m+1) (.v 0):=TB;show(bif x'.has then Tm.lam x'.cty (b.xt tl (g.bind.hyp (.v 0)))else b.xt tl g.bare)=(bif x.has then Tm.lam x.cty (a.xt tl (s.bind.hyp (.v 0)))else a.xt tl s.bare).sub τ;rw[XA rx,vD rx];cases U:x.has
   ·exact wD J a b n B _ _ σ τ _ _ H A ee I (by rw[ex,U];exact S.bare) (by rw[ex,U];exact C.bare) Ra.bare F
   have V:=wD J a b n B _ _ σ (aA τ) _ _ H A ee I (by rw[ex,U];exact S.bind.hyp (t:=.v 0) z true) (by rw[ex,U];exact C.bind.hyp (t:=.v 0) z true) ((Ra.bind S C).hyp (t:=.v 0) (t':=.v 0) rfl) F;show Tm.lam _ _=_;rw[V];rfl
  |_=>cases r
 |.all u w a,L,n,B,E,o,σ,τ,s,g,⟨g0,_,H⟩,P,e,⟨a',r,I⟩,S,C,R,p=>by
  cases L with
  |all u' w' b=>
   obtain⟨-,-,A⟩:=P;cases r;have ee:(fA 1 o).map Fm.er=(fA 1 E).map Fm.er:=by rw[rJ,rJ,e]
   cases u
   ·have F:a.f.has=true:=p;have Y:∀v,a.us (v+1)->Jt.us (.all false w a) v:=λv D=>⟨p,D⟩
    have z:∀{m:Nat},TK (m+1) (.v 0):=TB;have V:=wD J a b (n+1) (B+1) _ _ (aA σ) (aA τ) _ _ H A ee I (by rw[aE];exact S.bind.var (t:=.v 0) z) (by rw[aE];exact C.bind.var (t:=.v 0) z) ((R.bind S C).var (t:=.v 0) (t':=.v 0) rfl Y) F;show Tm.lam _ (b.xt tl (g.bind.var (.v 0)))=(Tm.lam _ (a.xt tl (s.bind.var (.v 0)))).sub τ;rw[V];rfl
   have F:a.f.has=true:=p;have Y:∀v,a.us (v+1)->Jt.us (.all true w a) v:=λv D=>⟨p,D⟩
   exact wD J a b (n+1) (B+1) _ _ (aA σ) τ _ _ H A ee I (by rw[aE];exact S.var (t:=w.ini) (LF _ g0 _)) (by rw[aE];exact C.var (t:=w.ini) (LF _ g0 _)) (R.var (He _ _) Y) F
  |_=>cases r
 |.ins u t a f,L,n,B,E,o,σ,τ,s,g,⟨_,g0,H,w,x,M,e3⟩,P,e,⟨t',a',r,rt,I⟩,S,C,R,p=>by
  cases L with
  |ins u' t2 b f'=>
   obtain⟨-,-,A,-⟩:=P;cases r;replace p:f.has=true:=p;have T:x.has=true:=by rw[<-XA (qD e3)];exact p
   have F:a.f.has=true:=by rw[M];cases u<;>exact T
   have V:=wD J a b n B E o σ τ s g H A e I S C (R.mono λv D=>⟨p,.inl D⟩) F;cases u
   ·show Tm.n2 .app (b.xt tl g) (t'.ps g.vs g.dep 0)=(Tm.n2 .app (a.xt tl s) (t.ps s.vs s.dep 0)).sub τ;rw[V,rt rfl,R.tm S.vl g0.sc λv D=>⟨p,.inr ⟨rfl,D⟩⟩];rfl
   exact V
  |_=>cases r
 |.ex u x t a,L,n,B,E,o,σ,τ,s,g,⟨_,g0,H,⟨w,M⟩,e3⟩,P,e,⟨x',t',a',r,rx,rt,I⟩,S,C,R,p=>by
  cases L with
  |ex u' x2 t2 b=>
   obtain⟨-,-,A,-⟩:=P;cases r;replace p:x.has=true:=p;have q:=lH ls a b n B E o σ H A e I;have V:=λF=>wD J a b n B E o σ τ s g H A e I S C (R.mono λv D=>⟨p,.inl D⟩) F
   cases u
   ·have it:=R.tm (t:=t) S.vl g0.sc λv D=>⟨p,.inr ⟨rfl,D⟩⟩
    show(bif b.f.has then Tm.n2 .pair (t'.ps g.vs g.dep 0) (b.xt tl g)else t'.ps g.vs g.dep 0)=(bif a.f.has then Tm.n2 .pair (t.ps s.vs s.dep 0) (a.xt tl s)else t.ps s.vs s.dep 0).sub τ;rw[XA q,rt rfl,it];cases F:a.f.has
    ·rfl
    show Tm.n2 .pair _ _=_;rw[V F];rfl
   refine V ?_;rw[XA e3];rw[M]at p;exact p
  |_=>cases r
 |.ind l x t a b f,L,n,B,E,o,σ,τ,s,g,⟨_,_,g0,H,M,⟨ea,Z⟩,g2⟩,P,e,⟨x',t',a',b',r,rx,rt,I,rb⟩,S,C,R,p=>by
  cases L with
  |ind l' x2 t2 c d f'=>
   obtain⟨-,-,-,A,-,-,Q⟩:=P;cases r;replace p:f.has=true:=p;have T:x.has=true:=by rw[<-XA (qD M)];exact p
   have F:a.f.has=true:=by rw[XA ea];exact T
   have O:b.f.has=true:=by rw[XA Z];exact T
   have N:=wD J a c n B E o σ τ s g H A e I S C (R.mono λv D=>⟨p,.inr (.inl D)⟩) F;have it:=R.tm (t:=t) S.vl g0.sc λv D=>⟨p,.inl D⟩
   have z:∀{m:Nat},TK (m+1) (.v 0):=TB;cases l
   ·have Y:∀v,b.us (v+1)->Jt.us (.ind false x t a b f) v:=λv D=>⟨p,.inr (.inr D)⟩
    have S1:=(S.bind.var (t:=.v 0) z).bind.hyp (t:=.v 0) z true;have S1':=(C.bind.var (t:=.v 0) z).bind.hyp (t:=.v 0) z true;have R1:=(((R.bind S C).var (t:=.v 0) (t':=.v 0) (W:=b.us) rfl Y).bind (S.bind.var (t:=.v 0) z) (C.bind.var (t:=.v 0) z)).hyp (t:=.v 0) (t':=.v 0) rfl;have K:=wD J b d (n+1) (B+1) _ _ (aA σ) (aA (aA τ)) _ _ g2 Q (NM 1 e rx) rb (by rw[UB,T];exact S1) (by rw[UB,T];exact S1') R1 O;show Tm.n3 .re x'.cty (c.xt tl g) (.lam .nat (.lam x'.cty (d.xt tl ((g.bind.var (.v 0)).bind.hyp (.v 0))))) (t'.ps g.vs g.dep 0)=(Tm.n3 .re x.cty (a.xt tl s) (.lam .nat (.lam x.cty (b.xt tl ((s.bind.var (.v 0)).bind.hyp (.v 0))))) (t.ps s.vs s.dep 0)).sub τ;rw[vD rx,N,K,rt,it];rfl
   have Y:∀v,b.us (v+1+1)->Jt.us (.ind true x t a b f) v:=λv D=>⟨p,.inr (.inr D)⟩
   have A1:=S.bind.var (t:=.v 0) z;have A1':=C.bind.var (t:=.v 0) z;have A2:=A1.bind.var (t:=.v 0) z;have A2':=A1'.bind.var (t:=.v 0) z;have S1:=A2.bind.hyp (t:=.v 0) z true;have S1':=A2'.bind.hyp (t:=.v 0) z true;have R0:=(((R.bind S C).var (t:=.v 0) (t':=.v 0) (W:=λv=>b.us (v+1)) rfl Y).bind A1 A1').var (t:=.v 0) (t':=.v 0) (W:=b.us) rfl λv D=>D
   have R1:=(R0.bind A2 A2').hyp (t:=.v 0) (t':=.v 0) rfl;have K:=wD J b d (n+2) (B+2) _ _ (aA (aA σ)) (aA (aA (aA τ))) _ _ g2 Q (NM 2 e (by rw[nE,nE,rx])) rb (by rw[UB,XA (nE _ x 1),T];exact S1) (by rw[UB,XA (nE _ x 1),T];exact S1') R1 O;show Tm.n3 .fo x'.cty (c.xt tl g) (.lam .nat (.lam .list (.lam x'.cty (d.xt tl (((g.bind.var (.v 0)).bind.var (.v 0)).bind.hyp (.v 0)))))) (t'.ps g.vs g.dep 0)=(Tm.n3 .fo x.cty (a.xt tl s) (.lam .nat (.lam .list (.lam x.cty (b.xt tl (((s.bind.var (.v 0)).bind.var (.v 0)).bind.hyp (.v 0)))))) (t.ps s.vs s.dep 0)).sub τ;rw[vD rx,N,K,rt,it];rfl
  |_=>cases r
 |.subst x a b f,L,n,B,E,o,σ,τ,s,g,⟨_,_,_,X,Z,t,u,M,e2⟩,P,e,⟨x',a',b',r,rx,I,rb⟩,S,C,R,p=>by
  cases L with
  |subst x2 c d f'=>
   obtain⟨-,-,-,G,-⟩:=P;cases r;have O:b.f.has=true:=by rw[XA Z,<-XA (qD e2)];exact p
   exact wD J b d n B E o σ τ s g X G e rb S C (R.mono λv D=>⟨p,D⟩) O
  |_=>cases r
def OF(d:Nat):Nat->Nat->List (Tm×Nat)|_,0=>[]|i,n+1=>(.v (d-1-i),d)::OF d (i+1) n
abbrev ZE:List PV:=[.int 0,.int 0,.nils,.nils]
abbrev Xn(c a i v:Nat)(A:List (List PV)):IS:=st [(4,.loc 0 0),(5,.loc 1 0),(11,.pv (num a)),(12,.pv (num i))] [(0,bx ZE),(1,.box [.pv (num c),.pv (num 0),.arr 2 v A.length,.pv .nils]),(2,.arr v 6 177 (vA A))] 3 []
abbrev Yn:Kp:=⟨[4,5,11,12],[0,1,2],3,[]⟩
def Zn(c a:Nat)(g:c<=qA)(j:a<=c):∀(r i v:Nat)(A:List (List PV)),i+r=a->A.length=i->
  ∃b,Lp 153 0 0 (Xn c a i v A) (.exit 0) (st [(4,.loc 0 0),(5,.loc 1 0)] [(0,bx ZE),(1,.box [.pv (num c),.pv (num 0),.arr 2 b (A.length+r),.pv .nils]),(2,.arr b 6 177 (vA (A++(OF c i r).map ec)))] 3 [])
 |0,i,v,A,h,f=>by
  have e:dA (.ofNat i) (.ofNat a)=false:=iA a6;simp only[OF,i2,hI,ir];exact⟨v,y1 [13] ⟨[4,5],[0,1,2],3,[]⟩ e (BB A)⟩
 |r+1,i,v,A,h,f=>by
  have:=zA;have:=yA;have e:dA (.ofNat i) (.ofNat a)=true:=KA a6;have k:=lC (a:=c);have l:xA (Int.ofNat (c-1)-.ofNat i)=true/\Int.ofNat (c-1)-.ofNat i=.ofNat (c-1-i):=by
   have e:Int.ofNat (c-1)-.ofNat i=.ofNat (c-1-i):=a9
   exact⟨by rw[e];exact BA a6,e⟩
  have m:=YD (A:=A) (v:=v) (ty:=177) (m:=80) (c:=ec (.v (c-1-i),c)) (show 0<6 by decide) rfl rfl (by simp only[maxLen];omega) a6;have n:=lA (a:=i) (b:=1);have⟨b,d⟩:=Zn c a g j r (i+1) (v+1) (A++[ec (.v (c-1-i),c)]) a6 (by simp[f]);dsimp only[Xn]at d;rw[gD,show(A++[ec (.v (c-1-i),c)]).length=A.length+1 by simp,show A.length+1+r=A.length+(r+1) by omega,gy]at d;exact⟨b,n8 [13,19,21,22,(27,.ok),29] Yn e k l (TA (c-1-i)) m n (dB A (ec (.v (c-1-i),c))) d⟩
abbrev PC(a b:Nat):Sc:=⟨a+b,0,OF (a+b) 0 a,[]⟩
def KX(d:Nat):∀(n i:Nat),(OF d i n).length=n|0,_=>rfl|n+1,i=>by simp[OF,KX]
def qo(a b:Nat)(h:a+b<=qA):A 153 [num a,num b] (PC a b).p:=by
 have:=zA;have:=yA;have g:=lA (a:=a) (b:=b)
 cases a with
 |zero=>
  have d:Lp 153 0 0 (st [(4,.loc 0 0),(5,.loc 1 0),(11,.pv (num 0)),(12,.pv (num 0))] [(0,bx ZE),(1,bx [num (0+b),num 0,.nils,.nils])] 2 []) (.exit 0) (st [(4,.loc 0 0),(5,.loc 1 0)] [(0,bx ZE),(1,bx [num (0+b),num 0,.nils,.nils])] 2 []):=
   x0 [] ⟨[4,5],[0,1],2,[]⟩
  exact f2 [9,(100003,.l ⟨[4,5,11,12],[0,1],2,[]⟩ (.exit 0) (st [(4,.loc 0 0),(5,.loc 1 0)] [(0,bx ZE),(1,bx [num (0+b),num 0,.nils,.nils])] 2 []))] g d
 |succ a=>
  generalize o:a+1+b=c at *
  have⟨v,d⟩:=Zn c (a+1) a6 a6 a 1 1 [ec (.v (c-1-0),c)] a6 rfl;have f:=LoopIs.fz a8 d 2 (ver:=v) (sz:=6) (ty:=177) (ps:=(OF c 0 (a+1)).map ec) rfl bG;have i:(([ec (.v (c-1-0),c)]:List (List PV)).length+a)=a+1:=a9
  rw[i]at f;simp (decide:=true) only[eD,XC,VB,sC,UC,List.map,BC,and_self,↓reduceIte,gu (show((OF c 0 (a+1)).map ec).length<=a+1 by simp[KX])]at f;have e:dA (.ofNat 0) (.ofNat (a+1))=true:=KA a6;have j:=lC (a:=c);have k:xA (Int.ofNat (c-1)-.ofNat 0)=true/\Int.ofNat (c-1)-.ofNat 0=.ofNat (c-1-0):=by
   grind
  have l:Lp 153 0 0 (st [(4,.loc 0 0),(5,.loc 1 0),(11,.pv (num (a+1))),(12,.pv (num 0))] [(0,bx ZE),(1,bx [num c,num 0,.nils,.nils])] 2 []) (.exit 0) (st [(4,.loc 0 0),(5,.loc 1 0)] [(0,bx ZE),(1,bx [num c,num 0,.slice ((OF c 0 (a+1)).map ec),.nils])] 3 []):=
   n6 [13,19,21,22] Yn e j k (TA (c-1-0)) (dB [] (ec (.v (c-1-0),c))) f
  exact f2 [9,(100003,.l ⟨[4,5,11,12],[0,1],2,[]⟩ (.exit 0) (st [(4,.loc 0 0),(5,.loc 1 0)] [(0,bx ZE),(1,bx [num c,num 0,.slice ((OF c 0 (a+1)).map ec),.nils])] 3 []))] g l
def K7(g:List Ty)(a:g.length<=16):A 86 [AA g []] (PC g.length 0).p:=by
 have:=zA;have a:=qo (g.map Ty.c).length 0 a9;rw[show PC (g.map Ty.c).length 0=PC g.length 0 by simp]at a;exact f1 [36] a
open Go.Lg
def zo(d:Nat):∀(n i k:Nat),k<n->(OF d i n)[k]? =some (.v (d-1-(i+k)),d)
 |0,_,_,h=>absurd h (lh _)|n+1,i,0,_=>rfl|n+1,i,k+1,h=>by
  have:=zo d n (i+1) k a6
  grind[OF]
def jo(d:Nat):∀(n i:Nat)(e:Tm×Nat),e∈OF d i n->∃k,e=(.v (d-1-k),d)
 |0,_,_,h=>by cases h
 |n+1,i,e,h=>by
  rcases e8.1 h with rfl|h
  ·grind
  exact jo d n (i+1) e h
def vo(a b:Nat):ScOK a [] (PC a b):=by
 refine⟨KX _ _ _,rfl,λe c=>?_,(λh d=>by cases d),λi f=>by simp at f⟩
 cases a with
 |zero=>cases c
 |succ a=>
  obtain⟨k,rfl⟩:=jo _ _ _ _ c;exact⟨e6 _,TB⟩
def L7:A 34 [uA [],row []] (num 0):=by
 have e:(!sB (.ofNat (([]:List Fm).map Fm.c).length) (.ofNat (([]:List Tm).map Tm.c).length))=false:=rfl;exact f1 [14] e
def M7(g:List Ty)(b:g.length<=16)(a:∀s∈g,s.size<=64)(j:Jt)(c:j.D [] g [])(d:j.p.ck)(i:j.p.cnt<=16384):A 85 [uA [],AA g [],j.p.p] (.tuple [j.ptr [],num 0])/\j.OK [] g.length []:=by
 have:=zA;have⟨n,L,k⟩:=N5 g b a j c d i;have e:=(WE (ls:=[]) (λf h=>nomatch h) j g [] c a b (λf h=>nomatch h) d).1;have l:=XE (ls:=[]) j g.length [] (λf h=>nomatch h) a9 a6 e;exact⟨f2 [14,24] k l,e⟩
def N7{tl:List Tm}{a:List Fm}{j:Jt}{s:Sc}{r:XR}(h:A 244 [eA tl,j.ptr a,s.p] r.p):A 166 [row tl,j.ptr a,s.p] r.p:=f1 [12] h
def OM:∀(t:Tm)(g:Nat->Nat),(t.ren g).cnt=t.cnt|.v _,_=>rfl|.lam s b,g=>by simp[Tm.ren,Tm.cnt,OM]|.n0 _,_=>rfl|.n1 _ a,g=>by simp[Tm.ren,Tm.cnt,OM]|.n2 _ a b,g=>by simp[Tm.ren,Tm.cnt,OM]|.n3 _ _ a b d,g=>by simp[Tm.ren,Tm.cnt,OM]
theorem PM:∀(t:Tm)(g:Nat->Nat)(c e:Nat),(∀j,g j=c↔j=e)->(t.ren g).occ c=t.occ e
 |.v i,g,c,e,h=>by
  grind[Tm.ren,Tm.occ]
 |.lam s b,g,c,e,h=>PM b (ZD g) (c+1) (e+1) λj=>by
  cases j with|zero=>simp[ZD]|succ j=>grind[ZD]
 |.n0 _,_,_,_,_=>rfl|.n1 _ a,g,c,e,h=>PM a g c e h|.n2 _ a b,g,c,e,h=>by simp only[Tm.ren,Tm.occ,PM a g c e h,PM b g c e h]|.n3 _ _ a b d,g,c,e,h=>by simp only[Tm.ren,Tm.occ,PM a g c e h,PM b g c e h,PM d g c e h]
theorem QM:∀(t:Tm)(l:Nat->Nat)(c:Nat),(t.ren l).occ c≠0->∃j,t.occ j≠0/\l j=c
 |.v i,l,c,h=>by
  grind[Tm.occ,Tm.ren]
 |.lam s b,l,c,h=>by
  have⟨j,g,f⟩:=QM b (ZD l) (c+1) h
  cases j with|zero=>simp only[ZD]at f;omega|succ j=>exact⟨j,g,by simp only[ZD]at f;omega⟩
 |.n0 _,_,_,h=>absurd rfl h|.n1 _ a,l,c,h=>QM a l c h|.n2 _ a b,l,c,h=>by
  simp only[Tm.ren,Tm.occ]at h;by_cases e:(a.ren l).occ c=0
  ·have⟨j,g,f⟩:=QM b l c a6;exact⟨j,aad,f⟩
  have⟨j,g,f⟩:=QM a l c e;exact⟨j,aad,f⟩
 |.n3 _ _ a b d,l,c,h=>by
  simp only[Tm.ren,Tm.occ]at h;by_cases e:(a.ren l).occ c=0
  ·by_cases k:(b.ren l).occ c=0
   ·have⟨j,g,f⟩:=QM d l c a6;exact⟨j,aad,f⟩
   have⟨j,g,f⟩:=QM b l c k;exact⟨j,aad,f⟩
  have⟨j,g,f⟩:=QM a l c e;exact⟨j,aad,f⟩
def wo(g:Nat->Nat):aA (λi=>.v (g i))=λi=>.v (ZD g i):=by
 funext i
 cases i with|zero=>rfl|succ i=>rfl
def cG:∀(t:Tm)(g:Nat->Nat),t.ren g=t.sub λi=>.v (g i)|.v _,_=>rfl|.lam s b,g=>by simp[Tm.ren,Tm.sub,wo,cG]|.n0 _,_=>rfl|.n1 _ a,g=>by simp[Tm.ren,Tm.sub,cG]|.n2 _ a b,g=>by simp[Tm.ren,Tm.sub,cG]|.n3 _ _ a b d,g=>by simp[Tm.ren,Tm.sub,cG]
theorem vE(s:Tm):(Tm.v 0).put 0 s 0=s:=by
 exact VE s 0
theorem QT(s:Tm)(i:Nat):(Tm.v (i+1)).put 0 s 0=.v i:=by
 simp[Tm.put]
def uo(t s:Tm)(g:Nat->Nat):(t.put 0 s 0).ren g=(t.ren (ZD g)).put 0 (s.ren g) 0:=by
 rw[tD,gH,tD 0 (s.ren g),GE];congr 1;funext i
 cases i with|zero=>rw[vE];exact(vE _).symm|succ i=>rfl
def Ie(t:Tm)(g:Nat->Nat):(t.ren g).red=t.red.map (Tm.ren g):=by
 cases t with
 |v i=>rfl|lam s b=>rfl|n0 k=>rfl|n1 k a=>cases k with
  |succ=>rfl|fst=>cases a with
   |n2 l x y=>cases l<;>rfl
   |_=>rfl
  |snd=>cases a with
   |n2 l x y=>cases l<;>rfl
   |_=>rfl
 |n2 k a b=>cases k with
  |app=>cases a with
   |lam s x=>
    show some _=some _;rw[uo]
   |_=>rfl
  |_=>rfl
 |n3 k s a b d=>cases k with
  |re=>cases d with
   |n0 l=>cases l<;>rfl
   |n1 l x=>cases l<;>rfl
   |_=>rfl
  |fo=>cases d with
   |n0 l=>cases l<;>rfl
   |n2 l x y=>cases l<;>rfl
   |_=>rfl
def SR.ren(g:Nat->Nat):SR->SR|.no=>.no|.er=>.er|.ok x=>.ok (x.ren g)
def NO(g τ:Nat->Nat)(f a:Tm->Tm)(h:∀x,a (x.ren τ)=(f x).ren g)(r q:SR):SR.or a (r.ren g) (q.ren τ)=(SR.or f r q).ren g:=by
 cases q with|no=>rfl|er=>rfl|ok x=>show SR.ok _=SR.ok _;rw[h]
def Je(z:Int)(t r:Tm)(g:Nat->Nat):rt z (t.ren g) (r.ren g)=(rt z t r).ren g:=by
 unfold rt;rw[OM,OM];cases dA z ((r.cnt:Int)-t.cnt)<;>rfl
def QK(z:Int):∀(t:Tm)(g:Nat->Nat),(t.ren g).st z=(t.st z).ren g
 |.v _,_=>rfl|.n0 _,_=>rfl|.lam s b,g=>by
  show SR.or (.lam s) .no ((b.ren (ZD g)).st z)=_;rw[QK z b];exact NO g (ZD g) (.lam s) (.lam s) (λx=>rfl) .no (b.st z)
 |.n1 k a,g=>by
  have h:=Ie (.n1 k a) g
  cases e:(Tm.n1 k a).red with
  |some r=>
   rw[e]at h;rw[CD e,CD h,Je]
  |none=>
   rw[e]at h;have h:(Tm.n1 k (a.ren g)).red=none:=h;show(Tm.n1 k (a.ren g)).st z=_;simp only[Tm.st,e,h];rw[QK z a];exact NO g g (.n1 k) (.n1 k) (λx=>rfl) .no (a.st z)
 |.n2 k a b,g=>by
  have h:=Ie (.n2 k a b) g
  cases e:(Tm.n2 k a b).red with
  |some r=>
   rw[e]at h;rw[CD e,CD h,Je]
  |none=>
   rw[e]at h;have h:(Tm.n2 k (a.ren g) (b.ren g)).red=none:=h;show(Tm.n2 k (a.ren g) (b.ren g)).st z=_;simp only[Tm.st,e,h];rw[QK z a,QK z b,show SR.or (.n2 k (a.ren g)) .no ((b.st z).ren g)=(SR.or (.n2 k a) .no (b.st z)).ren g from NO g g (.n2 k a) (.n2 k (a.ren g)) (λx=>rfl) .no (b.st z)];exact NO g g (λx=>.n2 k x b) (λx=>.n2 k x (b.ren g)) (λx=>rfl) _ (a.st z)
 |.n3 k s a b c,g=>by
  have h:=Ie (.n3 k s a b c) g
  cases e:(Tm.n3 k s a b c).red with
  |some r=>
   rw[e]at h;rw[CD e,CD h,Je]
  |none=>
   rw[e]at h;have h:(Tm.n3 k s (a.ren g) (b.ren g) (c.ren g)).red=none:=h;show(Tm.n3 k s (a.ren g) (b.ren g) (c.ren g)).st z=_;simp only[Tm.st,e,h];rw[QK z a,QK z b,QK z c,show SR.or (.n3 k s (a.ren g) (b.ren g)) .no ((c.st z).ren g)=(SR.or (.n3 k s a b) .no (c.st z)).ren g from NO g g (.n3 k s a b) (.n3 k s (a.ren g) (b.ren g)) (λx=>rfl) .no (c.st z),
    show SR.or (λx=>.n3 k s (a.ren g) x (c.ren g)) ((SR.or (.n3 k s a b) .no (c.st z)).ren g) ((b.st z).ren g)=(SR.or (λx=>.n3 k s a x c) (SR.or (.n3 k s a b) .no (c.st z)) (b.st z)).ren g from NO g g (λx=>.n3 k s a x c) (λx=>.n3 k s (a.ren g) x (c.ren g)) (λx=>rfl) _ (b.st z)]
   exact NO g g (λx=>.n3 k s x b c) (λx=>.n3 k s x (b.ren g) (c.ren g)) (λx=>rfl) _ (a.st z)
def NF.ren(g:Nat->Nat):NF->NF|.ok x n=>.ok (x.ren g) n|.er e=>.er e
def bo(g:Nat->Nat):∀(r n:Nat)(t:Tm),MC r n (t.ren g)=(MC r n t).ren g
 |0,n,t=>by
  unfold MC;rw[QK,OM];cases t.st (4096-t.cnt)<;>rfl
 |r+1,n,t=>by
  unfold MC;rw[QK,OM]
  cases t.st (4096-t.cnt)with|no=>rfl|er=>rfl|ok x=>exact bo g r (n+1) x
def po(t:Tm)(g:Nat->Nat):lE (t.ren g)=(lE t).ren g:=bo g 1000 0 t
def RNg(g a:List Ty)(j:Nat->Nat):Prop:=∀i s,ZA g i=.ok s->ZA a (j i)=.ok s
def eG(g:List Ty)(s:Ty):ZA (g++[s]) 0=.ok s:=by
 unfold ZA;rw[gm a8];simp
def mH(g:List Ty)(s:Ty)(i:Nat):ZA (g++[s]) (i+1)=ZA g i:=by
 grind[ZA]
def RNg.up{g a:List Ty}{j:Nat->Nat}(h:RNg g a j)(u:Ty):RNg (g++[u]) (a++[u]) (ZD j):=λi s e=>by
 cases i with|zero=>rw[eG]at e;show ZA _ 0=_;rw[eG];exact e|succ i=>rw[mH]at e;show ZA _ (j i+1)=_;rw[mH];exact h i s e
def IJ:∀(t:Tm)(g j:List Ty)(o:Nat->Nat)(s:Ty),RNg g j o->t.tyR g=.ok s->(t.ren o).tyR j=.ok s
 |.v i,g,j,o,s,h,e=>h i s e|.lam u b,g,j,o,s,h,e=>by
  simp only[Tm.tyR,Tm.ren]at e⊢
  cases d:b.tyR (g++[u])with
  |er n=>rw[d]at e;cases e
  |ok x=>rw[d]at e;rw[IJ b _ _ _ x (h.up u) d];exact e
 |.n0 k,_,_,_,_,_,e=>e|.n1 k a,g,j,o,s,h,e=>by
  simp only[Tm.tyR,Tm.ren]at e⊢
  cases d:a.tyR g with
  |er n=>rw[d]at e;cases e
  |ok x=>rw[d]at e;rw[IJ a _ _ _ x h d];exact e
 |.n2 k a b,g,j,o,s,h,e=>by
  simp only[Tm.tyR,Tm.ren]at e⊢
  cases d:a.tyR g with
  |er n=>rw[d]at e;cases e
  |ok x=>cases f:b.tyR g with
   |er n=>rw[d,f]at e;cases e
   |ok y=>rw[d,f]at e;rw[IJ a _ _ _ x h d,IJ b _ _ _ y h f];exact e
 |.n3 k u a b c,g,j,o,s,h,e=>by
  simp only[Tm.tyR,Tm.ren]at e⊢
  cases d:a.tyR g with
  |er n=>rw[d]at e;cases e
  |ok x=>cases f:b.tyR g with
   |er n=>rw[d,f]at e;cases e
   |ok y=>cases l:c.tyR g with
    |er n=>rw[d,f,l]at e;cases e
    |ok w=>rw[d,f,l]at e;rw[IJ a _ _ _ x h d,IJ b _ _ _ y h f,IJ c _ _ _ w h l];exact e
open Go.Lg
def Fm.ren:(Nat->Nat)->Fm->Fm|i,.eq a b=>.eq (a.ren i) (b.ren i)|i,.bin k f g=>.bin k (f.ren i) (g.ren i)|i,.q k s f=>.q k s (f.ren (ZD i))
def Fm.sub:(Nat->Tm)->Fm->Fm|σ,.eq a b=>.eq (a.sub σ) (b.sub σ)|σ,.bin k f g=>.bin k (f.sub σ) (g.sub σ)|σ,.q k s f=>.q k s (f.sub (aA σ))
def QC(c k i:Nat):Nat:=if c<=i then i+k else i
def O7(σ:Nat->Tm)(g:Nat->Nat):(λi=>(aA σ i).ren (ZD g))=aA λi=>(σ i).ren g:=by
 funext i
 cases i with|zero=>rfl|succ i=>simp only[aA,OC,HJ];rfl
def RT(c k:Nat):ZD (QC c k)=QC (c+1) k:=by
 funext i
 cases i with|zero=>rfl|succ i=>grind[ZD,QC]
def P7:∀(f:Fm)(σ:Nat->Tm)(g:Nat->Nat),(f.sub σ).ren g=f.sub λi=>(σ i).ren g
 :=by intro x;induction x<;>simp_all[Fm.ren,Fm.sub,gH,O7]
def RM:∀(f:Fm)(σ τ:Nat->Tm),(∀i,f.occ i≠0->σ i=τ i)->f.sub σ=f.sub τ
 |.eq a b,σ,τ,h=>by
  grind[Fm.sub,YE,Fm.occ]
 |.bin k f g,σ,τ,h=>by
  simp only[Fm.sub];rw[RM f σ τ λi c=>h i (by simp only[Fm.occ];omega),RM g σ τ λi c=>h i (by simp only[Fm.occ];omega)]
 |.q k s f,σ,τ,h=>by
  simp only[Fm.sub];rw[RM f (aA σ) (aA τ) λi c=>by
   cases i with|zero=>rfl|succ i=>simp only[aA];rw[h i c]]
def qF(k:Nat):∀(f:Fm)(c:Nat),f.sh c (.ofNat k)=f.ren (QC c k)
 |.eq a b,c=>by
  simp only[Fm.sh,Fm.ren];rw[zE k a,zE k b];rfl
 |.bin l f g,c=>by simp only[Fm.sh,Fm.ren];rw[qF k f,qF k g]|.q l s f,c=>by simp only[Fm.sh,Fm.ren];rw[qF k f,RT]
def Q7(c:Nat)(S:Tm)(d:Nat):aA (λi=>(Tm.v i).put c S d)=λi=>(Tm.v i).put c S (d+1):=by
 funext i;symm
 cases i with
 |zero=>
  rfl
 |succ i=>
  simp only[Tm.put,aA];by_cases e:i=c+d
  ·rw[gm a6,gm e,PQ];rfl
  rw[e9 a6,e9 e];by_cases a:c+d<i
  ·rw[gm a6,gm a];simp only[Tm.sh,c6,if_true]
   grind
  rw[e9 a6,e9 a];rfl
def OD(c:Nat)(S:Tm):∀(f:Fm)(d:Nat),f.put c S d=f.sub λi=>(Tm.v i).put c S d|.eq a b,d=>by grind[Fm.put,Fm.sub,tD]|.bin l f g,d=>by simp[Fm.put,Fm.sub,OD]|.q l s f,d=>by simp[Fm.put,Fm.sub,OD,Q7]
def LX:∀(f g:Fm)(i:Nat->Nat),zB f=some g->zB (f.ren i)=some (g.ren i)
 |.eq a b,g,i,h=>by
  simp only[zB,Fm.ren]at h⊢;rw[po,po]
  cases c:lE a with
  |er n=>rw[c]at h;cases h
  |ok x k=>cases d:lE b with
   |er n=>rw[c,d]at h;cases h
   |ok y l=>rw[c,d]at h;cases h;rfl
 |.bin k a b,g,i,h=>by
  simp only[zB,Fm.ren]at h⊢
  cases c:zB a with
  |none=>rw[c]at h;cases h
  |some x=>cases d:zB b with
   |none=>rw[c,d]at h;cases h
   |some y=>rw[c,d]at h;cases h;rw[LX a x i c,LX b y i d];rfl
 |.q k s a,g,i,h=>by
  simp only[zB,Fm.ren]at h⊢
  cases c:zB a with
  |none=>rw[c]at h;cases h
  |some x=>rw[c]at h;cases h;rw[LX a x _ c];rfl
end Go.Proofs.YtbebdmlomjpamaaGreatDoor
namespace Go.Proofs.YtbebdmlomjpamaaGreatDoor
open Go.Lg
set_option maxRecDepth 100000
def ao(g:List Ty)(s:Ty):RNg g (g++[s]) (· +1):=λi u e=>by rw[mH];exact e
def R7:ZD (λi=>i)=λi=>i:=by
 funext i;cases i<;>rfl
def S7(t:Tm):t.ren (λi=>i)=t:=by rw[cG];exact eC t
def T7:∀f:Fm,f.ren (λi=>i)=f
 :=by intro x;induction x<;>simp_all[Fm.ren,S7,R7]
theorem Par.refl:∀t:Tm,Par t t|.v i=>.v i|.n0 k=>.n0 k|.lam s b=>.lam s (refl b)|.n1 k a=>.n1 k (refl a)|.n2 k a b=>.n2 k (refl a) (refl b)|.n3 k s a b c=>.n3 k s (refl a) (refl b) (refl c)
theorem Par.ren{t u:Tm}(h:Par t u):∀ρ:Nat->Nat,Par (t.ren ρ) (u.ren ρ):=by
 induction h with|v i=>exactλρ=>.v _|n0 k=>exactλρ=>.n0 k|lam s _ c=>exactλρ=>.lam s (c _)|n1 k _ c=>exactλρ=>.n1 k (c ρ)|n2 k _ _ d e=>exactλρ=>.n2 k (d ρ) (e ρ)|n3 k s _ _ _ d e g=>exactλρ=>.n3 k s (d ρ) (e ρ) (g ρ)|fst b _ c=>exactλρ=>.fst _ (c ρ)|snd a _ c=>exactλρ=>.snd _ (c ρ)|beta s _ _ d e=>intro ρ;rw[uo];exact .beta s (d _) (e ρ)|re0 s f _ c=>exactλρ=>.re0 s _ (c ρ)|reS s _ _ _ d e g=>exactλρ=>.reS s (d ρ) (e ρ) (g ρ)|fo0 s f _ c=>exactλρ=>.fo0 s _ (c ρ)|foC s _ _ _ _ d e g j=>exactλρ=>.foC s (d ρ) (e ρ) (g ρ) (j ρ)
def U7(t s:Tm)(σ:Nat->Tm):(t.put 0 s 0).sub σ=(t.sub (aA σ)).put 0 (s.sub σ) 0:=by
 rw[tD,jE,tD 0 (s.sub σ),jE];congr 1;funext i
 cases i with
 |zero=>rw[vE];exact(vE _).symm|succ i=>
  show σ i=((σ i).sh 0 (.ofNat 1)).sub _;rw[OC,GE];simp[YE,QT,eC]
def Par.up{σ τ:Nat->Tm}(h:∀i,Par (σ i) (τ i)):∀i,Par (aA σ i) (aA τ i)
 |0=>.v 0|i+1=>by
  show Par ((σ i).sh 0 (.ofNat 1)) ((τ i).sh 0 (.ofNat 1));rw[OC,OC];exact(h i).ren _
theorem Par.sub{t u:Tm}(h:Par t u):∀{σ τ:Nat->Tm},(∀i,Par (σ i) (τ i))->Par (t.sub σ) (u.sub τ):=by
 induction h with|v i=>exactλk=>k i|n0 k=>exactλ_=>.n0 k|lam s _ c=>exactλk=>.lam s (c (Par.up k))|n1 k _ c=>exactλh=>.n1 k (c h)|n2 k _ _ d e=>exactλh=>.n2 k (d h) (e h)|n3 k s _ _ _ d e g=>exactλh=>.n3 k s (d h) (e h) (g h)|fst b _ c=>exactλh=>.fst _ (c h)|snd a _ c=>exactλh=>.snd _ (c h)|beta s _ _ d e=>intro σ τ h;rw[U7];exact .beta s (d (Par.up h)) (e h)|re0 s f _ c=>exactλh=>.re0 s _ (c h)|reS s _ _ _ d e g=>exactλh=>.reS s (d h) (e h) (g h)|fo0 s f _ c=>exactλh=>.fo0 s _ (c h)|foC s _ _ _ _ d e g j=>exactλh=>.foC s (d h) (e h) (g h) (j h)
theorem Par.put{t u a b:Tm}(h:Par t u)(k:Par a b):Par (t.put 0 a 0) (u.put 0 b 0):=by
 rw[tD,tD 0 b];refine h.sub λi=>?_
 cases i with|zero=>rw[vE,vE];exact k|succ i=>exact .v i
def Tm.cd:Tm->Tm|.v i=>.v i|.n0 k=>.n0 k|.lam s b=>.lam s b.cd|.n1 k a=>if(Tm.n1 k a).red.isSome then(Tm.n1 k a.cd).red.getD (.v 0)else .n1 k a.cd|.n2 k a b=>if(Tm.n2 k a b).red.isSome then(Tm.n2 k a.cd b.cd).red.getD (.v 0)else .n2 k a.cd b.cd|.n3 k s a b c=>if(Tm.n3 k s a b c).red.isSome then(Tm.n3 k s a.cd b.cd c.cd).red.getD (.v 0)else .n3 k s a.cd b.cd c.cd
def Par.cd{t u:Tm}(h:Par t u):Par u t.cd:=by
 induction h with
 |v i=>exact .v i|n0 k=>exact .n0 k|lam s _ d=>exact .lam s d|n1 k h d=>cases k with
  |succ=>exact .n1 _ d|fst=>rename_i a n;cases a with
   |n2 q x y=>cases q with
    |pair=>cases h with
     |n2 _ o hy=>cases d with|n2 _ l p=>exact .fst _ l
    |_=>exact .n1 _ d
   |_=>exact .n1 _ d
  |snd=>rename_i a n;cases a with
   |n2 q x y=>cases q with
    |pair=>cases h with
     |n2 _ o hy=>cases d with|n2 _ l p=>exact .snd _ p
    |_=>exact .n1 _ d
   |_=>exact .n1 _ d
 |n2 k h B d m=>cases k with
  |app=>rename_i a n b w;cases a with
   |lam s x=>cases h with
    |lam _ o=>cases d with|lam _ l=>exact .beta _ l m
   |_=>exact .n2 _ d m
  |_=>exact .n2 _ d m
 |n3 k s C D r e g j=>cases k with
  |re=>rename_i a n b w c A;cases c with
   |n0 q=>cases q with
    |zero=>cases r;exact .re0 _ _ e
    |_=>exact .n3 _ _ e g j
   |n1 q x=>cases q with
    |succ=>cases r with
     |n1 _ o=>cases j with|n1 _ l=>exact .reS _ e g l
    |_=>exact .n3 _ _ e g j
   |_=>exact .n3 _ _ e g j
  |fo=>rename_i a n b w c A;cases c with
   |n0 q=>cases q with
    |nil=>cases r;exact .fo0 _ _ e
    |_=>exact .n3 _ _ e g j
   |n2 q x y=>cases q with
    |cons=>cases r with
     |n2 _ o hy=>cases j with|n2 _ l p=>exact .foC _ e g l p
    |_=>exact .n3 _ _ e g j
   |_=>exact .n3 _ _ e g j
 |fst b _ d=>exact d|snd a _ d=>exact d|beta s _ _ e g=>exact e.put g|re0 s f _ d=>exact d|reS s _ _ _ e g j=>exact .n2 _ (.n2 _ g j) (.n3 _ _ e g j)|fo0 s f _ d=>exact d|foC s _ _ _ _ e g j z=>exact .n2 _ (.n2 _ (.n2 _ g j) z) (.n3 _ _ e g z)
def Ps.trans{a b c:Tm}(h:Ps a b)(k:Ps b c):Ps a c:=by
 induction h with|refl=>exact k|step p _ d=>exact .step p (d k)
def Ps.strip{a c:Tm}(h:Ps a c):∀{b:Tm},Par a b->∃d,Ps b d/\Par c d:=by
 induction h with
 |refl=>exactλp=>⟨_,.refl _,p⟩|step p _ e=>
  intro b q;have⟨d,f,g⟩:=e p.cd;exact⟨d,.step q.cd f,g⟩
def Ps.conf{a b:Tm}(h:Ps a b):∀{c:Tm},Ps a c->∃d,Ps b d/\Ps c d:=by
 induction h with
 |refl=>exactλk=>⟨_,k,.refl _⟩|step p _ f=>
  intro c k;have⟨d,g,i⟩:=k.strip p;have⟨e,j,l⟩:=f g;exact⟨e,j,.step i l⟩
theorem Ps.sub{a b:Tm}(h:Ps a b)(σ:Nat->Tm):Ps (a.sub σ) (b.sub σ):=by
 induction h with|refl=>exact .refl _|step p _ c=>exact .step (p.sub λi=>.refl _) c
theorem Cv.refl(a:Tm):Cv a a:=⟨a,.refl a,.refl a⟩
def Cv.trans{a b c:Tm}:Cv a b->Cv b c->Cv a c:=λ⟨w,h,k⟩ ⟨x,l,m⟩=>by
 have⟨d,e,f⟩:=k.conf l;exact⟨d,h.trans e,m.trans f⟩
theorem Cv.sub{a b:Tm}(σ:Nat->Tm):Cv a b->Cv (a.sub σ) (b.sub σ):=λ⟨w,h,k⟩=>⟨w.sub σ,h.sub σ,k.sub σ⟩
def Ke{t r:Tm}:t.red=some r->Par t r:=
 pK (P:=Par) (λa b=>.fst b (.refl a)) (λa b=>.snd a (.refl b)) (λs b a=>.beta s (.refl b) (.refl a)) (λs b f=>.re0 s f (.refl b)) (λs b f n=>.reS s (.refl b) (.refl f) (.refl n)) (λs b f=>.fo0 s f (.refl b)) (λs b f h l=>.foC s (.refl b) (.refl f) (.refl h) (.refl l))
def Le{z:Int}{t r x:Tm}(h:rt z t r=.ok x):x=r:=by
 unfold rt at h;cases e:dA z ((r.cnt:Int)-t.cnt)<;>rw[e]at h<;>cases h;rfl
def V7{z:Int}{t r:Tm}(h:rt z t r=.no):False:=by
 grind[rt,dA]
def SM(z:Int):∀(t:Tm){x:Tm},t.st z=.ok x->Par t x
 |.v _,_,h=>nomatch h
 |.n0 _,_,h=>nomatch h
 |.lam s b,x,h=>by
  rcases mC h with ⟨y,e,rfl⟩|⟨_,e⟩
  ·exact .lam s (SM z b e)
  cases e
 |.n1 k a,x,h=>by
  cases e:(Tm.n1 k a).red with
  |some r=>rw[CD e]at h;rw[Le h];exact Ke e|none=>
   simp only[Tm.st,e]at h;rcases mC h with ⟨y,e,rfl⟩|⟨_,e⟩
   ·exact .n1 k (SM z a e)
   cases e
 |.n2 k a b,x,h=>by
  cases e:(Tm.n2 k a b).red with
  |some r=>rw[CD e]at h;rw[Le h];exact Ke e|none=>
   simp only[Tm.st,e]at h;rcases mC h with ⟨y,e,rfl⟩|⟨_,h⟩
   ·exact .n2 k (SM z a e) (.refl b)
   rcases mC h with ⟨y,e,rfl⟩|⟨_,e⟩
   ·exact .n2 k (.refl a) (SM z b e)
   cases e
 |.n3 k s a b c,x,h=>by
  cases e:(Tm.n3 k s a b c).red with
  |some r=>rw[CD e]at h;rw[Le h];exact Ke e|none=>
   simp only[Tm.st,e]at h;rcases mC h with ⟨y,e,rfl⟩|⟨_,h⟩
   ·exact .n3 k s (SM z a e) (.refl b) (.refl c)
   rcases mC h with ⟨y,e,rfl⟩|⟨_,h⟩
   ·exact .n3 k s (.refl a) (SM z b e) (.refl c)
   rcases mC h with ⟨y,e,rfl⟩|⟨_,e⟩
   ·exact .n3 k s (.refl a) (.refl b) (SM z c e)
   cases e
theorem MX{z:Int}{t r:Tm}(h:t.st z=.no)(e:t.red=some r):False:=by
 rw[CD e]at h;exact V7 h
def W7{t u:Tm}(h:Par t u):∀{z:Int},t.st z=.no->u=t:=by
 induction h with
 |v i=>simp|n0 k=>simp|lam s _ d=>exactλh=>by rw[d (or_nn.1 h).1]|n1 k _ d=>
  intro z h;rename_i a j _
  cases e:(Tm.n1 k a).red with
  |some r=>grind[MX]|none=>
   simp only[Tm.st,e]at h;rw[d (or_nn.1 h).1]
 |n2 k _ _ f g=>
  intro z h;rename_i a j b l _ _
  cases e:(Tm.n2 k a b).red with
  |some r=>grind[MX]|none=>
   simp only[Tm.st,e]at h;rw[f (or_nn.1 h).1,g (or_nn.1 (or_nn.1 h).2).1]
 |n3 k s _ _ _ f g m=>
  intro z h;rename_i a j b l c n _ _ _
  cases e:(Tm.n3 k s a b c).red with
  |some r=>grind[MX]|none=>
   simp only[Tm.st,e]at h;rw[f (or_nn.1 h).1,g (or_nn.1 (or_nn.1 h).2).1,m (or_nn.1 (or_nn.1 (or_nn.1 h).2).2).1]
 |_=>exactλh=>(MX h rfl).elim
theorem X7{t u:Tm}(h:Ps t u):∀{z:Int},t.st z=.no->u=t:=by
 induction h with
 |refl=>simp|step p _ a=>
  intro z h;obtain rfl:=W7 p h;exact a h
def Me:∀(r n:Nat)(t:Tm){x:Tm}{k:Nat},MC r n t=.ok x k->Ps t x/\∃z,x.st z=.no:=by
 intro r
 induction r with
 |zero=>
  intro n t x k h;simp only[MC]at h;split at h
  ·rename_i e;cases h;exact⟨.refl _,_,e⟩
  cases h
 |succ r a=>
  intro n t x k h;simp only[MC]at h;split at h
  ·rename_i e;cases h;exact⟨.refl _,_,e⟩
  ·cases h
  rename_i y e;have⟨b,c⟩:=a _ _ h;exact⟨.step (SM _ _ e) b,c⟩
def Y7{t x:Tm}{k:Nat}(h:lE t=.ok x k):Ps t x:=(Me _ _ _ h).1
def RQ{t x:Tm}{k:Nat}(h:lE t=.ok x k):Cv t x:=⟨x,Y7 h,.refl x⟩
theorem oo{a b x y:Tm}{k l:Nat}(h:Cv a b)(c:lE a=.ok x k)(d:lE b=.ok y l):x=y:=by
 have⟨w,e,f⟩:=((RQ c).symm.trans h).trans (RQ d);have⟨z,g⟩:=(Me _ _ _ c).2;have⟨i,j⟩:=(Me _ _ _ d).2
 grind[X7]
def Ao{a b:Tm}(h:a.mt b):Cv a b:=by
 rcases h with rfl|⟨x,k,l,c,d⟩
 ·exact .refl _
 exact(RQ c).trans (RQ d).symm
open Go.Lg
theorem FCv.refl:∀f:Fm,FCv f f|.eq a b=>.eq (.refl a) (.refl b)|.bin k f g=>.bin k (refl f) (refl g)|.q k s f=>.q k s (refl f)
def FCv.trans{f g:Fm}(h:FCv f g):∀{x:Fm},FCv g x->FCv f x:=by
 induction h with
 |eq h k=>intro x e;cases e with|eq a b=>exact .eq (h.trans a) (k.trans b)
 |bin k _ _ c d=>intro x e;cases e with|bin _ a b=>exact .bin k (c a) (d b)
 |q k s _ i=>intro x e;cases e with|q _ _ a=>exact .q k s (i a)
theorem FCv.sub{f g:Fm}(h:FCv f g):∀σ:Nat->Tm,FCv (f.sub σ) (g.sub σ):=by
 induction h with|eq h k=>exactλσ=>.eq (h.sub σ) (k.sub σ)|bin k _ _ a b=>exactλσ=>.bin k (a σ) (b σ)|q k s _ c=>exactλσ=>.q k s (c _)
theorem FCv.put{f g:Fm}(h:FCv f g)(t:Tm)(c d:Nat):FCv (f.put c t d) (g.put c t d):=by
 rw[OD,OD];exact h.sub _
def nH:∀(f:Fm)(g:Nat->Nat),f.ren g=f.sub λi=>.v (g i)
 :=by intro x;induction x<;>simp_all[Fm.ren,Fm.sub,cG,wo]
theorem FCv.ren{f g:Fm}(h:FCv f g)(i:Nat->Nat):FCv (f.ren i) (g.ren i):=by
 rw[nH,nH];exact h.sub _
theorem FCv.sh{f g:Fm}(h:FCv f g)(c k:Nat):FCv (f.sh c (.ofNat k)) (g.sh c (.ofNat k)):=by
 rw[qF,qF];exact h.ren _
theorem FCv.er{f g:Fm}(h:FCv f g):f.er=g.er:=by
 induction h with|eq h k=>rfl|bin k _ _ a b=>grind[Fm.er]|q k s _ c=>grind[Fm.er]
def TM:∀{f g:Fm},f.mt g->FCv f g
 |.eq _ _,.eq _ _,h=>.eq (Ao h.1) (Ao h.2)|.bin k _ _,.bin l _ _,h=>by
  obtain⟨rfl,a,b⟩:=h;exact .bin k (TM a) (TM b)
 |.q k s _,.q l u _,h=>by
  obtain⟨rfl,rfl,a⟩:=h;exact .q k s (TM a)
 |.eq _ _,.bin _ _ _,h=>h.elim|.eq _ _,.q _ _ _,h=>h.elim|.bin _ _ _,.eq _ _,h=>h.elim|.bin _ _ _,.q _ _ _,h=>h.elim|.q _ _ _,.eq _ _,h=>h.elim|.q _ _ _,.bin _ _ _,h=>h.elim
theorem OX:∀(f:Fm){g:Fm},zB f=some g->FCv f g
 |.eq a b,g,h=>by
  simp only[zB]at h;split at h
  ·rename_i e;split at h
   ·rename_i c;cases h;exact .eq (RQ e) (RQ c)
   cases h
  cases h
 |.bin k f x,g,h=>by
  simp only[zB]at h;split at h
  ·rename_i e;split at h
   ·rename_i c;cases h;exact .bin k (OX f e) (OX x c)
   cases h
  cases h
 |.q k s f,g,h=>by
  simp only[zB]at h;split at h
  ·rename_i e;cases h;exact .q k s (OX f e)
  cases h
def QX:∀(f:Fm){σ τ:Nat->Tm},(∀i,Par (σ i) (τ i))->FCv (f.sub σ) (f.sub τ)|.eq a b,_,_,h=>.eq ⟨_,.step ((Par.refl a).sub h) (.refl _),.refl _⟩ ⟨_,.step ((Par.refl b).sub h) (.refl _),.refl _⟩|.bin k f g,_,_,h=>.bin k (QX f h) (QX g h)|.q k s f,_,_,h=>.q k s (QX f (Par.up h))
def Bo{a b:Tm}(h:Ps a b)(f:Fm):FCv (f.put 0 a 0) (f.put 0 b 0):=by
 induction h with
 |refl=>exact .refl _|step p _ c=>
  refine FCv.trans ?_ c;rw[OD,OD];refine QX f λi=>?_
  cases i with|zero=>rw[vE,vE];exact p|succ i=>exact .v i
def Co{a b:Tm}(h:Cv a b)(f:Fm):FCv (f.put 0 a 0) (f.put 0 b 0):=by
 have⟨w,c,d⟩:=h;exact(Bo c f).trans (Bo d f).symm
def RX(s:Ty):s.same s=true:=(BD s s).2 rfl
def OO{x y u:Ty}{r:TR}(h:(bif x.same y then r else .er 6)=.ok u):x=y/\r=.ok u:=by
 grind[BD]
def Do(t:Ty):TR.fit t=.ok t\/TR.fit t=.er 3:=by
 grind[TR.fit]
def PF:∀(t:Tm)(G:List Ty)(u:Ty),Ht G t u->t.tyR G=.ok u\/t.tyR G=.er 3
 |.v _,_,_,h=>.inl h|.lam s b,G,u,⟨w,e,h⟩=>by
  rcases PF b _ w h with h|h
  ·rw[show(Tm.lam s b).tyR G=iI s (b.tyR (G++[s]))from rfl,h,e];exact Do _
  rw[show(Tm.lam s b).tyR G=iI s (b.tyR (G++[s]))from rfl,h];exact .inr rfl
 |.n0 k,_,_,h=>.inl (by cases k<;>subst h<;>rfl)|.n1 k a,G,u,h=>by
  show mF k (a.tyR G)=_\/mF k (a.tyR G)=_;cases k
  ·obtain⟨rfl,h⟩:=h;rcases PF a _ _ h with h|h<;>rw[h]
   ·exact .inl rfl
   exact .inr rfl
  ·have⟨w,h⟩:=h;rcases PF a _ _ h with h|h<;>rw[h]
   ·exact .inl rfl
   exact .inr rfl
  have⟨w,h⟩:=h;rcases PF a _ _ h with h|h<;>rw[h]
  ·exact .inl rfl
  exact .inr rfl
 |.n2 k a b,G,u,h=>by
  show ZC k (a.tyR G) (b.tyR G)=_\/ZC k (a.tyR G) (b.tyR G)=_;cases k
  ·have⟨s,d,f⟩:=h;rcases PF a _ _ d with h|h<;>rw[h]
   ·rcases PF b _ _ f with h|h<;>rw[h]
    ·simp[ZC,RX,gb]
    exact .inr rfl
   exact .inr rfl
  ·obtain⟨rfl,d,f⟩:=h;rcases PF a _ _ d with h|h<;>rw[h]
   ·rcases PF b _ _ f with h|h<;>rw[h]
    ·exact .inl rfl
    exact .inr rfl
   exact .inr rfl
  obtain⟨s,w,rfl,d,f⟩:=h;rcases PF a _ _ d with h|h<;>rw[h]
  ·rcases PF b _ _ f with h|h<;>rw[h]
   ·exact Do _
   exact .inr rfl
  exact .inr rfl
 |.n3 k s a b c,G,u,h=>by
  show rB k s (a.tyR G) (b.tyR G) (c.tyR G)=_\/rB k s (a.tyR G) (b.tyR G) (c.tyR G)=_;obtain⟨rfl,d,h⟩:=h;cases k<;>have⟨f,g⟩:=h
  all_goals
   rcases PF a _ _ d with h|h<;>rw[h]
   ·rcases PF b _ _ f with h|h<;>rw[h]
    ·rcases PF c _ _ g with h|h<;>rw[h]
     ·exact .inl (by simp only[rB,RX,gb])
     exact .inr rfl
    exact .inr rfl
   exact .inr rfl
def Eo{t u:Ty}(h:TR.fit t=.ok u):u=t:=by
 grind[TR.fit]
def TI(G:List Ty):Tm->Ty->Prop
 |.v i,u=>ZA G i=.ok u|.lam s b,u=>∃w,u=.two true s w/\b.tyR (G++[s])=.ok w|.n0 k,u=>u=match k with
  |.zero=>.nat|.nil=>.list|.unit=>.unit
 |.n1 k a,u=>match k with|.succ=>u=.nat/\a.tyR G=.ok .nat|.fst=>∃w,a.tyR G=.ok (.two false u w)|.snd=>∃w,a.tyR G=.ok (.two false w u)
 |.n2 k a b,u=>match k with|.app=>∃s,a.tyR G=.ok (.two true s u)/\b.tyR G=.ok s|.cons=>u=.list/\a.tyR G=.ok .nat/\b.tyR G=.ok .list|.pair=>∃s w,u=.two false s w/\a.tyR G=.ok s/\b.tyR G=.ok w
 |.n3 k s a b c,u=>u=s/\a.tyR G=.ok s/\match k with
  |.re=>b.tyR G=.ok (.two true .nat (.two true s s))/\c.tyR G=.ok .nat|.fo=>b.tyR G=.ok (.two true .nat (.two true .list (.two true s s)))/\c.tyR G=.ok .list
def jF(t:Tm)(G:List Ty)(u:Ty)(h:t.tyR G=.ok u):TI G t u:=by
 cases t with
 |v i=>exact h|lam s b=>
  have h:iI s (b.tyR (G++[s]))=.ok u:=h
  cases e:b.tyR (G++[s])with
  |er n=>rw[e]at h;cases h
  |ok w=>rw[e]at h;exact⟨w,Eo h,e⟩
 |n0 k=>cases k<;>cases h<;>rfl
 |n1 k a=>
  have h:mF k (a.tyR G)=.ok u:=h
  cases e:a.tyR G with
  |er n=>rw[e]at h;cases h
  |ok s=>
   rw[e]at h;cases k
   ·obtain⟨rfl,h⟩:=OO h;cases h;exact⟨rfl,e⟩
   all_goals
    cases s with
    |two q c d=>
     cases q
     ·cases h;exact⟨_,e⟩
     cases h
    |_=>cases h
 |n2 k a b=>
  have h:ZC k (a.tyR G) (b.tyR G)=.ok u:=h
  cases e:a.tyR G with
  |er n=>rw[e]at h;cases h
  |ok s=>cases f:b.tyR G with
   |er n=>rw[e,f]at h;cases h
   |ok w=>
    rw[e,f]at h;cases k
    ·cases s with
     |two q c d=>
      cases q
      ·cases h
      have⟨g,q⟩:=OO h;cases q;exact⟨c,e,g▸f⟩
     |_=>cases h
    ·obtain⟨rfl,h⟩:=OO h;obtain⟨rfl,h⟩:=OO h;cases h;exact⟨rfl,e,f⟩
    exact⟨s,w,Eo h,e,f⟩
 |n3 k s a b c=>
  have h:rB k s (a.tyR G) (b.tyR G) (c.tyR G)=.ok u:=h
  cases e:a.tyR G with
  |er n=>rw[e]at h;cases h
  |ok x=>cases f:b.tyR G with
   |er n=>rw[e,f]at h;cases h
   |ok y=>cases j:c.tyR G with
    |er n=>rw[e,f,j]at h;cases h
    |ok z=>
     rw[e,f,j]at h;cases k
     all_goals
      have⟨g,k⟩:=OO h;have⟨l,k⟩:=OO k;have⟨m,k⟩:=OO k;cases k;subst g l m;exact⟨rfl,e,f,j⟩
def HE:∀(t:Tm)(G:List Ty)(u:Ty),t.tyR G=.ok u->Ht G t u
 |.v _,_,_,h=>h|.lam s b,G,u,h=>by
  have⟨w,e,k⟩:=jF _ _ _ h;exact⟨w,e,HE b _ _ k⟩
 |.n0 k,G,u,h=>jF _ _ _ h|.n1 k a,G,u,h=>by
  have h:=jF _ _ _ h;cases k
  ·exact⟨h.1,HE a _ _ h.2⟩
  ·exact⟨_,HE a _ _ h.choose_spec⟩
  exact⟨_,HE a _ _ h.choose_spec⟩
 |.n2 k a b,G,u,h=>by
  have h:=jF _ _ _ h;cases k
  ·exact⟨_,HE a _ _ h.choose_spec.1,HE b _ _ h.choose_spec.2⟩
  ·exact⟨h.1,HE a _ _ h.2.1,HE b _ _ h.2.2⟩
  have⟨s,w,e,d,f⟩:=h;exact⟨s,w,e,HE a _ _ d,HE b _ _ f⟩
 |.n3 k s a b c,G,u,h=>by
  have h:=jF _ _ _ h;exact⟨h.1,HE a _ _ h.2.1,by cases k<;>exact⟨HE b _ _ h.2.2.1,HE c _ _ h.2.2.2⟩⟩
def QF:∀(t:Tm)(g f:List Ty)(l:Nat->Nat)(u:Ty),RNg g f l->Ht g t u->Ht f (t.ren l) u
 |.v i,_,_,_,_,h,k=>h i _ k|.lam s b,_,_,_,_,h,⟨w,e,k⟩=>⟨w,e,QF b _ _ _ _ (h.up s) k⟩|.n0 _,_,_,_,_,_,k=>k|.n1 q a,g,f,l,u,h,k=>by
  cases q
  ·exact⟨k.1,QF a _ _ _ _ h k.2⟩
  ·exact⟨_,QF a _ _ _ _ h k.choose_spec⟩
  exact⟨_,QF a _ _ _ _ h k.choose_spec⟩
 |.n2 q a b,g,f,l,u,h,k=>by
  cases q
  ·have⟨s,j,d⟩:=k;exact⟨s,QF a _ _ _ _ h j,QF b _ _ _ _ h d⟩
  ·exact⟨k.1,QF a _ _ _ _ h k.2.1,QF b _ _ _ _ h k.2.2⟩
  have⟨s,w,e,j,d⟩:=k;exact⟨s,w,e,QF a _ _ _ _ h j,QF b _ _ _ _ h d⟩
 |.n3 q s a b c,g,f,l,u,h,⟨e,j,d⟩=>⟨e,QF a _ _ _ _ h j,by cases q<;>exact⟨QF b _ _ _ _ h d.1,QF c _ _ _ _ h d.2⟩⟩
def IE{G:List Ty}{t:Tm}{u:Ty}(s:Ty)(h:Ht G t u):Ht (G++[s]) (t.sh 0 (.ofNat 1)) u:=by
 rw[OC];exact QF t _ _ _ _ (λi u e=>by rw[mH];exact e) h
def Hg(g a:List Ty)(σ:Nat->Tm):Prop:=∀i s,ZA g i=.ok s->Ht a (σ i) s
def Hg.up{g a:List Ty}{σ:Nat->Tm}(h:Hg g a σ)(u:Ty):Hg (g++[u]) (a++[u]) (aA σ):=λi s e=>by
 cases i with|zero=>rw[eG]at e;show ZA _ 0=_;rw[eG];exact e|succ i=>rw[mH]at e;exact IE u (h i s e)
def pF:∀(t:Tm)(g f:List Ty)(σ:Nat->Tm)(u:Ty),Hg g f σ->Ht g t u->Ht f (t.sub σ) u
 |.v i,_,_,_,_,h,k=>h i _ k|.lam s b,_,_,_,_,h,⟨w,e,k⟩=>⟨w,e,pF b _ _ _ _ (h.up s) k⟩|.n0 _,_,_,_,_,_,k=>k|.n1 q a,g,f,l,u,h,k=>by
  cases q
  ·exact⟨k.1,pF a _ _ _ _ h k.2⟩
  ·exact⟨_,pF a _ _ _ _ h k.choose_spec⟩
  exact⟨_,pF a _ _ _ _ h k.choose_spec⟩
 |.n2 q a b,g,f,l,u,h,k=>by
  cases q
  ·have⟨s,j,d⟩:=k;exact⟨s,pF a _ _ _ _ h j,pF b _ _ _ _ h d⟩
  ·exact⟨k.1,pF a _ _ _ _ h k.2.1,pF b _ _ _ _ h k.2.2⟩
  have⟨s,w,e,j,d⟩:=k;exact⟨s,w,e,pF a _ _ _ _ h j,pF b _ _ _ _ h d⟩
 |.n3 q s a b c,g,f,l,u,h,⟨e,j,d⟩=>⟨e,pF a _ _ _ _ h j,by cases q<;>exact⟨pF b _ _ _ _ h d.1,pF c _ _ _ _ h d.2⟩⟩
open Go.Lg
def SNg(g a:List Ty)(σ:Nat->Tm):Prop:=∀i s,ZA g i=.ok s->(σ i).tyR a=.ok s
def SNg.up{g a:List Ty}{σ:Nat->Tm}(h:SNg g a σ)(u:Ty):SNg (g++[u]) (a++[u]) (aA σ):=λi s e=>by
 cases i with
 |zero=>rw[eG]at e;show ZA _ 0=_;rw[eG];exact e|succ i=>
  rw[mH]at e;show((σ i).sh 0 (.ofNat 1)).tyR _=_;rw[OC];exact IJ _ _ _ _ _ (ao a u) (h i s e)
def Fo{k:K1}{a b:Tm}{g c:List Ty}{u:Ty}(d:∀w,a.tyR g=.ok w->b.tyR c=.ok w)(h:(Tm.n1 k a).tyR g=.ok u):(Tm.n1 k b).tyR c=.ok u:=by
 have h:mF k (a.tyR g)=.ok u:=h;show mF k (b.tyR c)=_
 cases e:a.tyR g with
 |er n=>rw[e]at h;cases h
 |ok w=>rw[d w e,<-e];exact h
def Oe{k:K2}{a b c d:Tm}{g f:List Ty}{u:Ty}(j:∀w,a.tyR g=.ok w->b.tyR f=.ok w)(l:∀w,c.tyR g=.ok w->d.tyR f=.ok w)(h:(Tm.n2 k a c).tyR g=.ok u):(Tm.n2 k b d).tyR f=.ok u:=by
 have h:ZC k (a.tyR g) (c.tyR g)=.ok u:=h;show ZC k (b.tyR f) (d.tyR f)=_
 cases e:a.tyR g with
 |er n=>rw[e]at h;cases h
 |ok w=>cases i:c.tyR g with
  |er n=>rw[e,i]at h;cases h
  |ok v=>rw[j w e,l v i,<-e,<-i];exact h
def TX{k:K3}{s:Ty}{a b c d e f:Tm}{g i:List Ty}{u:Ty}(o:∀w,a.tyR g=.ok w->b.tyR i=.ok w)(p:∀w,c.tyR g=.ok w->d.tyR i=.ok w)(r:∀w,e.tyR g=.ok w->f.tyR i=.ok w)(h:(Tm.n3 k s a c e).tyR g=.ok u):(Tm.n3 k s b d f).tyR i=.ok u:=by
 have h:rB k s (a.tyR g) (c.tyR g) (e.tyR g)=.ok u:=h;show rB k s (b.tyR i) (d.tyR i) (f.tyR i)=_
 cases j:a.tyR g with
 |er n=>rw[j]at h;cases h
 |ok w=>cases l:c.tyR g with
  |er n=>rw[j,l]at h;cases h
  |ok v=>cases m:e.tyR g with
   |er n=>rw[j,l,m]at h;cases h
   |ok x=>rw[o w j,p v l,r x m,<-j,<-l,<-m];exact h
def Io{s:Ty}{a b:Tm}{g c:List Ty}{u:Ty}(d:∀w,a.tyR (g++[s])=.ok w->b.tyR (c++[s])=.ok w)(h:(Tm.lam s a).tyR g=.ok u):(Tm.lam s b).tyR c=.ok u:=by
 have h:iI s (a.tyR (g++[s]))=.ok u:=h;show iI s (b.tyR (c++[s]))=_
 cases e:a.tyR (g++[s])with
 |er n=>rw[e]at h;cases h
 |ok w=>rw[d w e,<-e];exact h
theorem JJ:∀(t:Tm)(g d:List Ty)(σ:Nat->Tm)(s:Ty),SNg g d σ->t.tyR g=.ok s->(t.sub σ).tyR d=.ok s|.v i,g,d,σ,s,h,e=>h i s e|.lam u b,_,_,_,_,h,e=>Io (λw=>JJ b _ _ _ w (h.up u)) e|.n0 k,_,_,_,_,_,e=>e|.n1 k a,_,_,_,_,h,e=>Fo (λw=>JJ a _ _ _ w h) e|.n2 k a b,_,_,_,_,h,e=>Oe (λw=>JJ a _ _ _ w h) (λw=>JJ b _ _ _ w h) e|.n3 k u a b c,_,_,_,_,h,e=>TX (λw=>JJ a _ _ _ w h) (λw=>JJ b _ _ _ w h) (λw=>JJ c _ _ _ w h) e
theorem Jo{g:List Ty}{t:Tm}{s:Ty}(h:t.tyR g=.ok s):SNg (g++[s]) g λi=>(Tm.v i).put 0 t 0:=λi u e=>by
 cases i with|zero=>rw[eG]at e;grind[vE]|succ i=>rw[mH]at e;exact e
theorem Z7{g:List Ty}{b t:Tm}{s u:Ty}(a:b.tyR (g++[s])=.ok u)(h:t.tyR g=.ok s):(b.put 0 t 0).tyR g=.ok u:=by
 rw[tD];grind[JJ,Jo]
theorem Pe{g:List Ty}{f x:Tm}{s u:Ty}(a:f.tyR g=.ok (.two true s u))(b:x.tyR g=.ok s):(Tm.n2 .app f x).tyR g=.ok u:=by
 show ZC .app (f.tyR g) (x.tyR g)=_;rw[a,b];simp[ZC,RX,gb]
theorem Ko{k:K3}{g:List Ty}{s u:Ty}{a b c d:Tm}(h:(Tm.n3 k s a b c).tyR g=.ok u)(e:d.tyR g=c.tyR g):(Tm.n3 k s a b d).tyR g=.ok u:=by
 show rB k s (a.tyR g) (b.tyR g) (d.tyR g)=_;rw[e];exact h
theorem Qe(g:List Ty)(u:Ty):∀{t r:Tm},t.red=some r->t.tyR g=.ok u->r.tyR g=.ok u:=by
 refine pK (P:=λt r=>t.tyR g=.ok u->r.tyR g=.ok u) (λa b h=>?_) (λa b h=>?_) (λs b a h=>?_) (λs b f h=>?_) (λs b f n h=>?_) (λs b f h=>?_) (λs b f x l h=>?_)
 ·have⟨w,h⟩:=jF _ _ _ h;have⟨s,w,e,c,_⟩:=jF _ _ _ h;simp_all
 ·have⟨w,h⟩:=jF _ _ _ h;have⟨s,w,e,_,c⟩:=jF _ _ _ h;simp_all
 ·have⟨w,h,i⟩:=jF _ _ _ h;have⟨v,e,c⟩:=jF _ _ _ h
  grind[Z7]
 ·have⟨e,c,_⟩:=jF _ _ _ h;rw[e];exact c
 ·have⟨e,c,i,d⟩:=jF _ _ _ h;have j:=(jF _ _ _ d).2
  grind[Pe,Ko]
 ·have⟨e,c,_⟩:=jF _ _ _ h;rw[e];exact c
 have⟨e,c,i,d⟩:=jF _ _ _ h;have⟨_,j,k⟩:=jF _ _ _ d
 grind[Pe,Ko]
def Re{z:Int}{t r x:Tm}(h:rt z t r=.ok x):x=r:=by
 unfold rt at h;cases a:dA z ((r.cnt:Int)-t.cnt)<;>rw[a]at h<;>cases h;rfl
def UM(z:Int):∀(t:Tm){x:Tm}{g:List Ty}{u:Ty},t.st z=.ok x->t.tyR g=.ok u->x.tyR g=.ok u
 |.v _,_,_,_,h,_=>by cases h
 |.n0 _,_,_,_,h,_=>by cases h
 |.lam s b,_,_,_,h,k=>by
  rcases mC h with ⟨y,e,rfl⟩|⟨_,h⟩
  ·exact Io (λw=>UM z b e) k
  cases h
 |.n1 q a,_,g,u,h,k=>by
  cases d:(Tm.n1 q a).red with
  |some r=>rw[CD d]at h;rw[Re h];grind[Qe]|none=>
   simp only[Tm.st,d]at h;rcases mC h with ⟨y,e,rfl⟩|⟨_,h⟩
   ·exact Fo (λw=>UM z a e) k
   cases h
 |.n2 q a b,_,g,u,h,k=>by
  cases d:(Tm.n2 q a b).red with
  |some r=>rw[CD d]at h;rw[Re h];grind[Qe]|none=>
   simp only[Tm.st,d]at h;rcases mC h with ⟨y,e,rfl⟩|⟨_,h⟩
   ·exact Oe (λw=>UM z a e) (λw e=>e) k
   rcases mC h with ⟨y,e,rfl⟩|⟨_,h⟩
   ·exact Oe (λw e=>e) (λw=>UM z b e) k
   cases h
 |.n3 q s a b c,_,g,u,h,k=>by
  cases d:(Tm.n3 q s a b c).red with
  |some r=>rw[CD d]at h;rw[Re h];grind[Qe]|none=>
   simp only[Tm.st,d]at h;rcases mC h with ⟨y,e,rfl⟩|⟨_,h⟩
   ·exact TX (λw=>UM z a e) (λw e=>e) (λw e=>e) k
   rcases mC h with ⟨y,e,rfl⟩|⟨_,h⟩
   ·exact TX (λw e=>e) (λw=>UM z b e) (λw e=>e) k
   rcases mC h with ⟨y,e,rfl⟩|⟨_,h⟩
   ·exact TX (λw e=>e) (λw e=>e) (λw=>UM z c e) k
   cases h
def Se:∀(r n:Nat)(t:Tm){x:Tm}{k:Nat}{g:List Ty}{u:Ty},MC r n t=.ok x k->t.tyR g=.ok u->x.tyR g=.ok u
 |0,n,t,x,k,g,u,h,q=>by
  grind[MC]
 |r+1,n,t,x,k,g,u,h,q=>by
  unfold MC at h;split at h
  ·cases h;exact q
  ·cases h
  rename_i y e;exact Se r _ y h (UM _ t e q)
def z8{t:Tm}(a:t.shp=true)(b:t.cnt<=4096):t.chk=0:=by
 unfold Tm.chk;rw[a];rw[iA b]
theorem UX:∀(f:Fm)(g c:List Ty)(σ:Nat->Tm),SNg g c σ->f.tq g->(f.sub σ).tq c|.eq a b,g,c,σ,h,⟨d,e⟩=>⟨JJ a g c σ _ h d,JJ b g c σ _ h e⟩|.bin _ f k,g,c,σ,h,⟨e,d⟩=>⟨UX f g c σ h e,UX k g c σ h d⟩|.q _ s f,g,c,σ,h,e=>UX f _ _ _ (h.up s) e
theorem Lo{f:Fm}{g:List Ty}{t:Tm}{s:Ty}(h:f.tq (g++[s]))(a:t.tyR g=.ok s):(f.put 0 t 0).tq g:=by
 rw[OD];grind[UX,Jo]
def VX{f y:Fm}{g:List Ty}{t:Tm}{s:Ty}(e:f.pt t=.ok y)(h:f.tq (g++[s]))(a:t.tyR g=.ok s):y.tq g:=by
 grind[Fm.pt,Lo]
theorem ST:∀(f:Fm)(g c:List Ty)(i:Nat->Nat),RNg g c i->f.tq g->(f.ren i).tq c|.eq a b,g,c,σ,h,⟨d,e⟩=>⟨IJ a g c σ _ h d,IJ b g c σ _ h e⟩|.bin _ f k,g,c,σ,h,⟨e,d⟩=>⟨ST f g c σ h e,ST k g c σ h d⟩|.q _ s f,g,c,σ,h,e=>ST f _ _ _ (h.up s) e
theorem SQ{f:Fm}{g a:List Ty}{c k:Nat}(h:RNg g a (QC c k))(b:f.tq g):(f.sh c (.ofNat k)).tq a:=by
 rw[qF];grind[ST]
def TQ{g:List Ty}{i:Nat}{t:Ty}(h:ZA g i=.ok t):i<g.length:=by
 grind[ZA]
def QO(k:Nat):QC 0 k=(· +k):=by funext i;simp[QC]
def VM(g:List Ty)(s:Ty):RNg g (g++[s]) (QC 0 1):=by rw[QO];exact ao g s
def j8(g:List Ty)(s u:Ty):RNg g (g++[s]++[u]) (QC 0 2):=by
 rw[QO];exactλi w e=>by rw[mH (g++[s]) u (i+1),mH];exact e
def WX{g a:List Ty}{b:List Fm}{k:Nat}(h:RNg g a (QC 0 k))(c:∀f∈b,f.tq g):∀f∈fA k b,f.tq a:=λf a=>by
 grind[SQ]
def XX{g:List Ty}{a:List Fm}{x:Fm}(b:∀f∈a,f.tq g)(b:x.tq g):∀f∈a++[x],f.tq g:=λf a=>by
 grind
theorem YX:∀(f y:Fm)(g:List Ty),zB f=some y->f.tq g->y.tq g
 |.eq a b,y,g,e,⟨d,i⟩=>by
  unfold zB at e;split at e
  ·rename_i c;split at e
   ·rename_i j;cases e;exact⟨Se _ _ _ c d,Se _ _ _ j i⟩
   cases e
  cases e
 |.bin k f h,y,g,e,⟨d,i⟩=>by
  unfold zB at e;split at e
  ·rename_i c;split at e
   ·rename_i j;cases e;exact⟨YX f _ g c d,YX h _ g j i⟩
   cases e
  cases e
 |.q k s f,y,g,e,h=>by
  unfold zB at e;split at e
  ·rename_i x c;cases e;exact YX f x (g++[s]) c h
  cases e
theorem ZX:∀(t:Ty)(g:List Ty),t.size<=64->t.ini.tyR g=.ok t
 |.nat,_,_=>rfl|.list,_,_=>rfl|.unit,_,_=>rfl|.two false a b,g,h=>by
  have c:1+a.size+b.size<=64:=h;show ZC .pair (a.ini.tyR g) (b.ini.tyR g)=_;rw[ZX a g a6,ZX b g a6];exact gm h
 |.two true a b,g,h=>by
  have c:1+a.size+b.size<=64:=h;show iI a (b.ini.tyR (g++[a]))=_;rw[ZX b _ a6];exact gm h
theorem v8{f:Fm}{g:List Ty}{s:Ty}(a:s.size<=64)(b:f.occ 0=0)(h:f.tq (g++[s])):f.low.tq g:=by
 rw[show f.low=f.put 0 s.ini 0 by
  rw[Fm.low,OD,OD];exact RM f _ _ λi c=>by
   cases i with|zero=>omega|succ i=>rw[QT,QT]]
 grind[Lo,ZX]
def No{f y:Fm}{g:List Ty}{s:Ty}(a:s.size<=64)(e:NC f=some y)(h:f.tq (g++[s])):y.tq g:=by
 grind[NC,v8,YX]
def Oo{k:FQ}{s:Ty}{f:Fm}(h:(Fm.q k s f).chk=0):s.size<=64:=lD (JA (Fm.chk0 h).2).1
def w8(g:List Ty)(s u:Ty):vapp.tyR (g++[.two true s u,s])=.ok u:=by
 rw[show g++[Ty.two true s u,s]=g++[.two true s u]++[s] by simp];exact Pe (s:=s) (by show ZA _ (0+1)=_;rw[mH,eG]) (by show ZA _ 0=_;rw[eG])
def k8(g:List Ty)(s t u:Ty):RNg (g++[s]++[t]) (g++[u]++[s]++[t]) (QC 2 1):=by
 have:=((VM g u).up s).up t;rwa[RT,RT]at this
def iG{z:List Fm}(p:∀f∈z,f.tq []):∀(j:Jt)(g:List Ty)(m:List Fm),(∀f∈m,f.tq g)->j.D z g m->j.f.tq g
 |.leaf u i f,g,m,c,⟨_,h⟩=>by
  cases u
  ·exact c f (gg h.2)
  have:=ST f [] g (λi=>i) (λi s e=>absurd (TQ e) (lh _)) (p f (gg h));rwa[T7]at this
 |.refl t,_,_,_,⟨_,_,h⟩=>⟨h,h⟩|.p1 k a f,g,m,c,⟨_,n,h⟩=>by
  have d:=iG p a g m c n;cases k
  ·have⟨y,e⟩:=h;rw[e]at d;exact d.1
  ·have⟨y,e⟩:=h;rw[e]at d;exact d.2
  have⟨s,u,x,e,_,y,v,A⟩:=h;rw[e]at d;rw[A];show y.tq (g++[.two true s u]++[s]);exact VX v (SQ (k8 g s u (.two true s u)) d) (by have:=w8 g s u;simp_all)
 |.p2 k a b f,g,m,c,⟨_,n,h⟩=>by
  have d:=iG p a g m c n;cases k
  ·have⟨r,e⟩:=h;rw[e];exact⟨d,iG p b g m c r⟩
  ·have⟨_,x,e,_⟩:=h;rw[e]at d;exact d.2
  all_goals
   have⟨⟨u,e,r⟩,_,h⟩:=h;have hq:=AI n;rw[e]at hq;have o:a.f.bd.tq (g++[u]):=by rw[e]at d;exact d
  ·exact No (Oo hq) h (iG p b _ _ (XX (WX (VM g u) c) o) r)
  exact No (Oo hq) h.1 (iG p b _ _ (XX (WX (VM g u) c) o) r)
 |.impI x a,g,m,c,⟨_,⟨_,o⟩,_,n⟩=>⟨pC x g o,iG p a g _ (XX c (pC x g o)) n⟩|.all u s a,g,m,c,⟨_,_,n,_⟩=>iG p a _ _ (WX (VM g s) c) n|.ins u t a f,g,m,c,⟨_,_,n,s,x,B,e,v⟩=>by
  have d:=iG p a g m c n;rw[e]at d;exact VX v d B
 |.ex u x t a,g,m,c,⟨⟨_,o⟩,_⟩=>pC x g o|.ind l x t a b f,g,m,c,⟨_,⟨_,o⟩,⟨_,C⟩,_,_,_,e⟩=>VX e (pC x _ o) C|.subst x a b f,g,m,c,⟨_,⟨_,o⟩,n,_,t,u,w,e,_,_,v⟩=>by
  have d:=iG p a g m c n;rw[e]at d;exact VX v (pC x _ o) d.2
structure ScT(G g:List Ty)(es:List Fm)(s:Sc):Prop where
 v:Hg g G λi=>(Tm.v i).ps s.vs s.dep 0
 k:∀i f,i<es.length->es[es.length-1-i]? =some f->f.has=true->Ht G (s.hy i) f.cty
variable{G g:List Ty}{es:List Fm}{bs:List Bool}{s:Sc}
theorem ScT.bind(h:ScT G g es s)(S:ScOK g.length bs s)(u:Ty):ScT (G++[u]) g es s.bind:=
 ⟨λi w e=>by
  have a:=TQ e;show Ht _ ((Tm.v i).ps s.vs (s.dep+1) 0) w;rw[GX S.ve (show(Tm.v i).sc s.vs.length by rw[S.vl];exact a)];exact IE u (h.v i w e),λi f a e b=>by rw[JX S];exact IE u (h.k i f a e b)⟩
theorem ScT.var(h:ScT G g es s)(S:ScOK g.length bs s){t:Tm}{u:Ty}(a:Ht G t u):ScT G (g++[u]) es (s.var t):=
 ⟨λi w e=>by
  cases i with
  |zero=>
   rw[eG]at e;cases e;show Ht G ((Tm.v 0).ps (s.vs++[(t,s.dep)]) s.dep 0) u;rw[PT];exact a
  |succ i=>
   rw[mH]at e;have b:=TQ e;show Ht G ((Tm.v (i+1)).ps (s.vs++[(t,s.dep)]) s.dep 0) w;rw[show Tm.v (i+1)=(Tm.v i).sh 0 (.ofNat 1) by rfl,IX s.vs s.dep (t,s.dep) (show(Tm.v i).sc s.vs.length by rw[S.vl];exact b)];exact h.v i w e,h.k⟩
def ScT.psh(h:ScT G g es s)(c:s.ks.length=es.length){x:Fm}(y:Hy)(m:Nat)(hy:x.has=true->Ht G (match y with|.hy t d _=>t.sh 0 (.ofNat (s.dep-d))|_=>.n0 .unit) x.cty):ScT G g (es++[x]) ⟨s.dep,m,s.vs,s.ks++[y]⟩:=
 ⟨h.v,λi f a e b=>by
  cases i with
  |zero=>
   rw[MO]
   grind
  |succ i=>
   have a:i<es.length:=bS
   rw[QQ s y 0 m i];refine h.k i f a ?_ b
   grind⟩
theorem ScT.hyp(h:ScT G g es s)(a:s.ks.length=es.length){x:Fm}{t:Tm}(b:Ht G t x.cty):ScT G g (es++[x]) (s.hyp t):=
 h.psh a (.hy t s.dep s.hyps) _ λ_=>by simp only[aaY,VE];exact b
theorem ScT.bare(h:ScT G g es s)(a:s.ks.length=es.length){x:Fm}(b:x.has=false):ScT G g (es++[x]) s.bare:=
 h.psh a _ _ λe=>by rw[b]at e;cases e
def UQ:∀(t:Ty)(G:List Ty),Ht G t.ini t|.nat,_=>rfl|.list,_=>rfl|.unit,_=>rfl|.two false a b,G=>⟨a,b,rfl,UQ a G,UQ b G⟩|.two true a b,G=>⟨b,rfl,UQ b _⟩
def b8{t:Tm}{u:Ty}(h:Ht [] t u)(G:List Ty):Ht G t u:=by
 have:=QF t [] G (λi=>i) u (λi s e=>absurd (TQ e) (lh _)) h;rwa[cG,show(λi:Nat=>Tm.v i)=Tm.v from rfl,eC]at this
def kE(G:List Ty)(u:Ty):Ht (G++[u]) (.v 0) u:=eG G u
def RK(h:ScT G g es s){t:Tm}{u:Ty}(a:t.tyR g=.ok u):Ht G (t.ps s.vs s.dep 0) u:=by
 rw[ND];exact pF t g G _ u h.v (HE t g u a)
def d8(G:List Ty)(u w v:Ty):Ht (G++[.two true u (.two false w v)]) (VH u) (.two false (.two true u w) (.two true u v)):=by
 have a:Ht (G++[.two true u (.two false w v)]++[u]) (.v 1) (.two true u (.two false w v)):=by
  show ZA _ (0+1)=_;rw[mH,eG]
 exact⟨_,_,rfl,⟨w,rfl,v,u,a,kE _ u⟩,⟨v,rfl,w,u,a,kE _ u⟩⟩
def l8{u w:Ty}{x f y:Fm}{t:Tm}(b:f=.q .ex (.two true u w) (.q .all u y))(e:y.er=x.er)(a:Ht G t (Fm.q .all u (.q .ex w x)).cty):Ht G (GJ (.q .all u (.q .ex w x)) t) f.cty:=by
 subst b;show Ht G (bif x.has then .n2 .app (.lam (.two true u (.two false w x.cty)) (VH u)) t else t) (bif y.has then .two false (.two true u w) (.two true u y.cty)else .two true u w);rw[XA e,vD e];have a:Ht G t (.two true u (bif x.has then .two false w x.cty else w)):=a;cases c:x.has<;>rw[c]at a
 ·exact a
 exact⟨_,⟨_,rfl,d8 G u w x.cty⟩,a⟩
end Go.Proofs.YtbebdmlomjpamaaGreatDoor
