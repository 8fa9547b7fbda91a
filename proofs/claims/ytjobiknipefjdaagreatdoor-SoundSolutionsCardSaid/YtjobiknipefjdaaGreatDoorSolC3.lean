/- Contracts of functions; no conditions. -/
import Derived.Test.YtjobiknipefjdaaGreatDoorSolC2
set_option linter.all false
set_option maxHeartbeats 4000000
namespace Go.Proofs.YtjobiknipefjdaaGreatDoor
open Go.Lg
set_option maxRecDepth 100000
def FB.inj{k l:FB}(h:k.n=l.n):k=l:=by cases k<;>cases l<;>first|rfl|cases h
def FQ.inj{k l:FQ}(h:k.n=l.n):k=l:=by cases k<;>cases l<;>first|rfl|cases h
abbrev mB:Nat:=qA*qA-1001*4096
def Fm.mt:Fm->Fm->Prop|.eq a c,.eq b d=>a.mt b/\c.mt d|.bin k f g,.bin l e h=>k=l/\f.mt e/\g.mt h|.q k s f,.q l u g=>k=l/\s=u/\f.mt g|_,_=>False
def FCv.kd{a b:Fm}(h:FCv a b):a.kd=b.kd:=by cases h<;>rfl
def Fm.sm(f:Fm):Prop:=f.chk=0/\f.mx<=536870912
def dN{a b:Tm}(h:(Fm.eq a b).sm):a.sm/\b.sm:=by
 obtain⟨f,d⟩:=h;obtain⟨e,c⟩:=Fm.chk0 f;have e:1+a.cnt+b.cnt<=4096:=e;have d:max a.mx b.mx<=536870912:=d;have c:=WK c;exact⟨⟨Tm.chk_i c.1,by omega⟩,Tm.chk_i c.2,by omega⟩
def fN{k:FB}{a b:Fm}(h:(Fm.bin k a b).sm):a.sm/\b.sm:=by
 obtain⟨f,d⟩:=h;obtain⟨e,c⟩:=Fm.chk0 f;have e:1+a.cnt+b.cnt<=4096:=e;have d:max a.mx b.mx<=536870912:=d;have c:=WK c;exact⟨⟨Fm.chk_i c.1,by omega⟩,Fm.chk_i c.2,by omega⟩
def DU{k:FQ}{u:Ty}{a:Fm}(h:(Fm.q k u a).sm):a.sm:=by
 obtain⟨c,d⟩:=h;obtain⟨b,e⟩:=Fm.chk0 c;have b:1+a.cnt<=4096:=b;exact⟨Fm.chk_i (WK e).2,d⟩
def DZ{k:FQ}{u:Ty}{a:Fm}(h:(Fm.q k u a).chk=0)(b:a.mx<=536870912:=by omega):a.sm:=DU ⟨h,b⟩
def XK{a b:Fm}(h:a.kd≠b.kd):∃e,A 114 [a.p,b.p] (num e)/\(e=0->a.mt b)/\(FCv a b->a.sm->b.sm->e=0\/Lm e):=⟨11,f1 [13] (TC h),(λh=>nomatch h),λk=>absurd k.kd h⟩
def EU[PA]:∀a b:Fm,a.cnt<=yA->a.mx<=mB->a.tsz<=qA->b.cnt<=yA->b.mx<=mB->b.tsz<=qA->∃e,A 114 [a.p,b.p] (num e)/\(e=0->a.mt b)/\(FCv a b->a.sm->b.sm->e=0\/Lm e)
 |.eq a c,.eq b d,m,o,p,r,t,w=>by
  have B:=vA;simp only[Fm.cnt,Fm.mx,Fm.tsz]at m o p r t w;obtain⟨e,i,x,p1⟩:=Oh a b (by omega) (by simp only[mB,B]at *;omega) (by omega) (by omega) (by simp only[mB,B]at *;omega);obtain⟨j,y,D,p2⟩:=Oh c d (by omega) (by simp only[mB,B]at *;omega) (by omega) (by omega) (by simp only[mB,B]at *;omega);have z:FCv (.eq a c) (.eq b d)->(Fm.eq a c).sm->(Fm.eq b d).sm->(e=0\/Lm e)/\(j=0\/Lm j):=λh k l=>by
   cases h with|eq u v=>exact⟨p1 u (dN k).1 (dN l).1,p2 v (dN k).2 (dN l).2⟩
  cases e with
  |succ n=>exact⟨n+1,f2 [19,38] zG i,(λh=>nomatch h),λh k l=>(z h k l).1⟩|zero=>cases j with|succ n=>exact⟨n+1,f3 [19,38,38] zG i y,(λh=>nomatch h),λh k l=>(z h k l).2⟩|zero=>exact⟨0,f3 [19,38,38] zG i y,(λ_=>⟨x rfl,D rfl⟩),λ_ _ _=>.inl rfl⟩
 |.bin k f g,.bin l E F,m,o,p,r,t,w=>by
  by_cases h:k=l
  ·subst h;simp only[Fm.cnt,Fm.mx,Fm.tsz]at m o p r t w;obtain⟨e,i,x,p1⟩:=EU f E (by omega) (by omega) (by omega) (by omega) (by omega) (by omega);obtain⟨j,y,D,p2⟩:=EU g F (by omega) (by omega) (by omega) (by omega) (by omega) (by omega);have z:FCv (.bin k f g) (.bin k E F)->(Fm.bin k f g).sm->(Fm.bin k E F).sm->(e=0\/Lm e)/\(j=0\/Lm j):=λh k l=>by
    cases h with|bin _ u v=>exact⟨p1 u (fN k).1 (fN l).1,p2 v (fN k).2 (fN l).2⟩
   cases e with
   |succ n=>exact⟨n+1,f3 [13,19,59] (DB k.n) zG i,(λh=>nomatch h),λh k l=>(z h k l).1⟩|zero=>cases j with|succ n=>exact⟨n+1,f4 [13,19,59,59] (DB k.n) zG i y,(λh=>nomatch h),λh k l=>(z h k l).2⟩|zero=>exact⟨0,f4 [13,19,59,59] (DB k.n) zG i y,(λ_=>⟨rfl,x rfl,D rfl⟩),λ_ _ _=>.inl rfl⟩
  exact XK λe=>h (FB.inj e)
 |.q k s f,.q l u g,m,o,p,r,t,w=>by
  by_cases h:k=l
  ·subst h;simp only[Fm.cnt,Fm.mx,Fm.tsz]at m o p r t w;have C:=YD s u;cases es:s.same u<;>rw[es]at C
   ·exact⟨11,f2 [13,19] (DB k.n) C,(λh=>nomatch h),λh=>by cases h;rw[(nD s s).2 rfl]at es;cases es⟩
   obtain⟨e,i,x,p1⟩:=EU f g (by omega) (by omega) (by omega) (by omega) (by omega) (by omega)
   cases e with|succ n=>exact⟨n+1,f3 [13,19,59] (DB k.n) C i,(λh=>nomatch h),λh u v=>by cases h with|q _ _ h=>exact p1 h (DU u) (DU v)⟩|zero=>exact⟨0,f3 [13,19,59] (DB k.n) C i,(λ_=>⟨rfl,(nD s u).1 es,x rfl⟩),λ_ _ _=>.inl rfl⟩
  exact XK λe=>h (FQ.inj e)
 |.eq _ _,.bin l _ _,_,_,_,_,_,_=>XK (by cases l<;>exact nofun)|.eq _ _,.q l _ _,_,_,_,_,_,_=>XK (by cases l<;>exact nofun)|.bin l _ _,.eq _ _,_,_,_,_,_,_=>XK (by cases l<;>exact nofun)|.bin k _ _,.q l _ _,_,_,_,_,_,_=>XK (by cases k<;>cases l<;>exact nofun)|.q l _ _,.eq _ _,_,_,_,_,_,_=>XK (by cases l<;>exact nofun)|.q k _ _,.bin l _ _,_,_,_,_,_,_=>XK (by cases k<;>cases l<;>exact nofun)
def FU[PA](a b:Fm)(i:a.cnt<=yA:=by omega)(m:a.mx<=mB:=by omega)(j:a.tsz<=qA:=by omega)(k:b.cnt<=yA:=by omega)(o:b.mx<=mB:=by omega)(l:b.tsz<=qA:=by omega):∃e,A 37 [a.p,b.p] (num e)/\(e=0->a.mt b)/\(FCv a b->a.sm->b.sm->e=0\/Lm e):=by
 have c:=uN a j i;have d:=uN b l k
 cases f:a.chk with
 |succ n=>rw[f]at c;exact⟨n+1,f1 [8] c,(λh=>nomatch h),λ_ h=>nomatch h.1.symm.trans f⟩|zero=>
  rw[f]at c
  cases g:b.chk with
  |succ n=>rw[g]at d;exact⟨n+1,f2 [8,13] c d,(λh=>nomatch h),λ_ _ h=>nomatch h.1.symm.trans g⟩|zero=>
   rw[g]at d;obtain⟨e,p,r⟩:=EU a b i m j k o l;exact⟨e,f3 [8,13,19] c d p,r⟩
inductive FR where|er (n:Nat)|ok (f:Fm)
def FR.k:FR->Nat|.er _=>0|.ok f=>f.kd
def FR.tk:FR->Nat|.er _=>0|.ok f=>f.tk
def FR.te:FR->List (List PV)|.er _=>[]|.ok f=>f.te
def FR.ts:FR->List (List PV)|.er _=>[]|.ok f=>f.ts
def FR.es:FR->List (List PV)|.er _=>[]|.ok f=>f.es
def FR.n:FR->Nat|.er n=>n+1|.ok _=>0
def FR.p(r:FR):PV:=.tuple [.agg [num r.k,num r.tk,.slice r.te,.slice r.ts,.slice r.es],num r.n]
def ru(f:Fm)(s:Tm)(H:f.cnt<=qA)(w:f.mx<=qA*qA)(x:f.tsz<=qA)(y:s.cnt<=qA)(z:s.mx<=qA*qA)(I:s.tsz<=qA):∃r:FR,A 328 [f.p,num 0,s.p] r.p/\((∃n,r=.er n/\(f.sm->s.sm->n=3))\/r=.ok (f.put 0 s 0)/\(f.put 0 s 0).cnt<=4096):=by
 have B:=vA;have J:=uA;have a:=uN f x
 cases g:f.chk with
 |succ n=>rw[g]at a;exact⟨.er n,f1 [11] a,.inl ⟨n,rfl,λh=>nomatch h.1.symm.trans g⟩⟩|zero=>
  rw[g]at a;have b:=jP s
  cases i:s.chk with
  |succ n=>rw[i]at b;exact⟨.er n,f2 [11,24] a b,.inl ⟨n,rfl,λ_ h=>nomatch h.1.symm.trans i⟩⟩|zero=>
   rw[i]at b;obtain⟨p,d,C⟩:=eU f 536870912;obtain⟨q,j,D⟩:=oH s 536870912;cases p
   ·exact⟨.er 0,f3 [11,24,30] a b d,.inl ⟨0,rfl,λh=>nomatch C.2 h.2⟩⟩
   cases q
   ·exact⟨.er 0,f4 [11,24,30,34] a b d j,.inl ⟨0,rfl,λ_ h=>nomatch D.2 h.2⟩⟩
   have m:=WE f (by omega);have o:=oU f 0 (by omega);have t:=uB s (by omega);have E:=fE s;have u:=rD E;have K:=MG f 0;have F:f.occ 0*(s.cnt-1)<=qA*qA:=Nat.mul_le_mul (by omega) (by omega);have G:f.occ 0*s.cnt=f.occ 0*(s.cnt-1)+f.occ 0:=by
    have:s.cnt=(s.cnt-1)+1:=by omega
    rw[this,Nat.mul_succ];simp
   have k:=iJ 0 s f 0;simp only[Nat.zero_add]at k;have l:=F;rw[B]at l;have v:=Lh (a:=f.occ 0) (b:=s.cnt-1);have c:=eB (a:=f.cnt) (b:=f.occ 0*(s.cnt-1));cases e:fA (.ofNat 4096) (.ofNat (f.cnt+f.occ 0*(s.cnt-1)))
   ·refine⟨.ok (f.put 0 s 0),dU [11,24,30,34,39,42,44,45,(46,.ok),(47,.ok),48,53,54] a b d j m o t u v c e (iU f 0 0 s z y w (by omega)) (cJ (f.put 0 s 0)),.inr ⟨rfl,?_⟩⟩;rw[UB]at e;have:=of_decide_eq_false e;simp at this;omega
   exact⟨.er 3,uU [11,24,30,34,39,42,44,45,(46,.ok),(47,.ok),48] a b d j m o t u v c e,.inl ⟨3,rfl,λ_ _=>rfl⟩⟩
def Fm.has:Fm->Bool
 |.eq _ _=>false|.bin k f g=>match k with|.and=>f.has||g.has|.imp=>g.has
 |.q k _ f=>match k with|.ex=>true|_=>f.has
def gN:∀f:Fm,A 217 [f.p] (.bool f.has)
 |.eq a b=>f0 []|.bin .and f g=>by
  have c:=gN f;have d:=gN g;show A 217 [(Fm.bin .and f g).p] (.bool (f.has||g.has));cases e:f.has<;>rw[e]at c
  ·cases e:g.has<;>rw[e]at d
   ·exact f2 [13,19] c d
   exact f2 [13,19] c d
  exact f1 [13] c
 |.bin .imp f g=>f1 [31] (gN g)|.q .ex s f=>f0 []|.q .all s f=>f1 [31] (gN f)|.q .allU s f=>f1 [31] (gN f)|.q .exU s f=>f1 [31] (gN f)
def tu(f:Fm)(d:f.tsz<=qA)(g:f.cnt<=yA):∃b e,A 145 [f.p] (.tuple [.bool b,num e])/\(f.chk=0->b=f.has/\e=0):=by
 have a:=uN f d g
 cases c:f.chk with|succ n=>rw[c]at a;exact⟨false,n+1,f1 [6] a,nofun⟩|zero=>rw[c]at a;exact⟨f.has,0,f2 [6,11] a (gN f),λ_=>⟨rfl,rfl⟩⟩
def Pf.cnt:Pf->Nat|.leaf u i=>1|.refl t=>1+t.cnt|.p1 k a=>1+a.cnt|.p2 k a b=>1+a.cnt+b.cnt|.impI f a=>1+f.cnt+a.cnt|.all u s a=>1+a.cnt|.ins u t a=>1+t.cnt+a.cnt|.ex u f t a=>1+t.cnt+f.cnt+a.cnt|.ind l f t a b=>1+t.cnt+f.cnt+a.cnt+b.cnt|.subst f a b=>1+f.cnt+a.cnt+b.cnt
def Pf.mx:Pf->Nat|.leaf u i=>0|.refl t=>t.mx|.p1 k a=>a.mx|.p2 k a b=>max a.mx b.mx|.impI f a=>max f.mx a.mx|.all u s a=>a.mx|.ins u t a=>max t.mx a.mx|.ex u f t a=>max (max t.mx f.mx) a.mx|.ind l f t a b=>max (max (max t.mx f.mx) a.mx) b.mx|.subst f a b=>max (max f.mx a.mx) b.mx
def Pf.tsz:Pf->Nat|.leaf u i=>0|.refl t=>t.tsz|.p1 k a=>a.tsz|.p2 k a b=>max a.tsz b.tsz|.impI f a=>max f.tsz a.tsz|.all u s a=>max a.tsz s.size|.ins u t a=>max t.tsz a.tsz|.ex u f t a=>max (max t.tsz f.tsz) a.tsz|.ind l f t a b=>max (max (max t.tsz f.tsz) a.tsz) b.tsz|.subst f a b=>max (max f.tsz a.tsz) b.tsz
def mF:∀p:Pf,p.cnt<=yA->A 203 [p.p] (num p.cnt)
 |.leaf u i,h=>by
  exact f0 []
 |.refl t,h=>by
  have h:1+t.cnt<=yA:=h;have e:=uA;have g:=uB t (by omega);have rt:=eB (a:=1) (b:=t.cnt);exact f2 [19,(20,.ok)] g rt
 |.p1 k a,h=>by
  have h:1+a.cnt<=yA:=h;have e:=uA;have c:=mF a (by omega);have d:=eB (a:=1) (b:=a.cnt);exact f2 [43,(44,.ok)] c d
 |.p2 k a b,h=>by
  have h:1+a.cnt+b.cnt<=yA:=h;have e:=uA;have c:=mF a (by omega);have d:=eB (a:=1) (b:=a.cnt);have n:=mF b (by omega);have rb:=eB (a:=1+a.cnt) (b:=b.cnt);exact f4 [43,(44,.ok),43,(44,.ok)] c d n rb
 |.impI f a,h=>by
  have h:1+f.cnt+a.cnt<=yA:=h;have e:=uA;have j:=WE f (by omega);have m:=eB (a:=1) (b:=f.cnt);have c:=mF a (by omega);have d:=eB (a:=1+f.cnt) (b:=a.cnt);exact f4 [31,(32,.ok),43,(44,.ok)] j m c d
 |.all u s a,h=>by
  have h:1+a.cnt<=yA:=h;have e:=uA;have c:=mF a (by omega);have d:=eB (a:=1) (b:=a.cnt);exact f2 [43,(44,.ok)] c d
 |.ins u t a,h=>by
  have h:1+t.cnt+a.cnt<=yA:=h;have e:=uA;have g:=uB t (by omega);have rt:=eB (a:=1) (b:=t.cnt);have c:=mF a (by omega);have d:=eB (a:=1+t.cnt) (b:=a.cnt);exact f4 [19,(20,.ok),43,(44,.ok)] g rt c d
 |.ex u f t a,h=>by
  have h:1+t.cnt+f.cnt+a.cnt<=yA:=h;have e:=uA;have g:=uB t (by omega);have rt:=eB (a:=1) (b:=t.cnt);have j:=WE f (by omega);have m:=eB (a:=1+t.cnt) (b:=f.cnt);have c:=mF a (by omega);have d:=eB (a:=1+t.cnt+f.cnt) (b:=a.cnt);exact f6 [19,(20,.ok),31,(32,.ok),43,(44,.ok)] g rt j m c d
 |.ind l f t a b,h=>by
  have h:1+t.cnt+f.cnt+a.cnt+b.cnt<=yA:=h;have e:=uA;have g:=uB t (by omega);have rt:=eB (a:=1) (b:=t.cnt);have j:=WE f (by omega);have m:=eB (a:=1+t.cnt) (b:=f.cnt);have c:=mF a (by omega);have d:=eB (a:=1+t.cnt+f.cnt) (b:=a.cnt);have n:=mF b (by omega);have rb:=eB (a:=1+t.cnt+f.cnt+a.cnt) (b:=b.cnt);exact f8 [19,(20,.ok),31,(32,.ok),43,(44,.ok),43,(44,.ok)] g rt j m c d n rb
 |.subst f a b,h=>by
  have h:1+f.cnt+a.cnt+b.cnt<=yA:=h;have e:=uA;have j:=WE f (by omega);have m:=eB (a:=1) (b:=f.cnt);have c:=mF a (by omega);have d:=eB (a:=1+f.cnt) (b:=a.cnt);have n:=mF b (by omega);have rb:=eB (a:=1+f.cnt+a.cnt) (b:=b.cnt);exact f6 [31,(32,.ok),43,(44,.ok),43,(44,.ok)] j m c d n rb
def Pf.ck:Pf->Prop|.leaf _ _=>True|.refl t=>t.chk=0|.p1 _ a=>a.ck|.p2 _ a b=>a.ck/\b.ck|.impI f a=>f.chk=0/\a.ck|.all _ s a=>s.size<=64/\a.ck|.ins _ t a=>t.chk=0/\a.ck|.ex _ f t a=>t.chk=0/\f.chk=0/\a.ck|.ind _ f t a b=>t.chk=0/\f.chk=0/\a.ck/\b.ck|.subst f a b=>f.chk=0/\a.ck/\b.ck
def Pf.l4:Pf->Prop|.leaf _ _=>True|.refl t=>t.cnt<=4096|.p1 _ a=>a.l4|.p2 _ a b=>a.l4/\b.l4|.impI f a=>f.cnt<=4096/\a.l4|.all _ s a=>a.l4|.ins _ t a=>t.cnt<=4096/\a.l4|.ex _ f t a=>t.cnt<=4096/\f.cnt<=4096/\a.l4|.ind _ f t a b=>t.cnt<=4096/\f.cnt<=4096/\a.l4/\b.l4|.subst f a b=>f.cnt<=4096/\a.l4/\b.l4
def Pf.sh:Pf->Prop|.leaf _ _=>True|.refl t=>t.shp=true|.p1 _ a=>a.sh|.p2 _ a b=>a.sh/\b.sh|.impI f a=>f.shp=true/\a.sh|.all _ s a=>s.size<=64/\a.sh|.ins _ t a=>t.shp=true/\a.sh|.ex _ f t a=>t.shp=true/\f.shp=true/\a.sh|.ind _ f t a b=>t.shp=true/\f.shp=true/\a.sh/\b.sh|.subst f a b=>f.shp=true/\a.sh/\b.sh
def Pf.ck_i:∀p:Pf,p.sh->p.l4->p.ck|.leaf _ _,_,_=>trivial|.refl t,h,k=>Tm.chk_i h k|.p1 _ a,h,k=>ck_i a h k|.p2 _ a b,h,k=>⟨ck_i a h.1 k.1,ck_i b h.2 k.2⟩|.impI f a,h,k=>⟨Fm.chk_i h.1 k.1,ck_i a h.2 k.2⟩|.all _ s a,h,k=>⟨h.1,ck_i a h.2 k⟩|.ins _ t a,h,k=>⟨Tm.chk_i h.1 k.1,ck_i a h.2 k.2⟩|.ex _ f t a,h,k=>⟨Tm.chk_i h.1 k.1,Fm.chk_i h.2.1 k.2.1,ck_i a h.2.2 k.2.2⟩|.ind _ f t a b,h,k=>⟨Tm.chk_i h.1 k.1,Fm.chk_i h.2.1 k.2.1,ck_i a h.2.2.1 k.2.2.1,ck_i b h.2.2.2 k.2.2.2⟩|.subst f a b,h,k=>⟨Fm.chk_i h.1 k.1,ck_i a h.2.1 k.2.1,ck_i b h.2.2 k.2.2⟩
def NG:∀p:Pf,p.cnt<=yA->∃r,A 202 [p.p] (.bool r)/\(r=true->p.l4)
 |.leaf u i,h=>by
  exact⟨true,f0 [],λ_=>by simp[Pf.l4]⟩
 |.refl t,h=>by
  have h:1+t.cnt<=yA:=h;have n:=uA;have d:=uB t (by omega);cases e:fA (.ofNat 4096) (.ofNat t.cnt);rotate_left
  ·exact⟨false,f2 [17,18] d e,λh=>nomatch h⟩
  exact⟨true,f2 [17,18] d e,λ_=>by simp_all[Pf.l4,kP]⟩
 |.p1 k a,h=>by
  have h:1+a.cnt<=yA:=h;have n:=uA;obtain⟨m,c,v⟩:=NG a (by omega);cases m
  ·exact⟨false,f1 [39] c,λh=>nomatch h⟩
  exact⟨true,f1 [39] c,λ_=>by simp_all[Pf.l4]⟩
 |.p2 k a b,h=>by
  have h:1+a.cnt+b.cnt<=yA:=h;have n:=uA;obtain⟨m,c,v⟩:=NG a (by omega);cases m
  ·exact⟨false,f1 [39] c,λh=>nomatch h⟩
  obtain⟨rb,o,w⟩:=NG b (by omega);cases rb
  ·exact⟨false,f2 [39,39] c o,λh=>nomatch h⟩
  exact⟨true,f2 [39,39] c o,λ_=>by simp_all[Pf.l4]⟩
 |.impI f a,h=>by
  have h:1+f.cnt+a.cnt<=yA:=h;have n:=uA;have g:=WE f (by omega);cases j:fA (.ofNat 4096) (.ofNat f.cnt);rotate_left
  ·exact⟨false,f2 [28,29] g j,λh=>nomatch h⟩
  obtain⟨m,c,v⟩:=NG a (by omega);cases m
  ·exact⟨false,f3 [28,29,39] g j c,λh=>nomatch h⟩
  exact⟨true,f3 [28,29,39] g j c,λ_=>by simp_all[Pf.l4,kP]⟩
 |.all u s a,h=>by
  have h:1+a.cnt<=yA:=h;have n:=uA;obtain⟨m,c,v⟩:=NG a (by omega);cases m
  ·exact⟨false,f1 [39] c,λh=>nomatch h⟩
  exact⟨true,f1 [39] c,λ_=>by simp_all[Pf.l4]⟩
 |.ins u t a,h=>by
  have h:1+t.cnt+a.cnt<=yA:=h;have n:=uA;have d:=uB t (by omega);cases e:fA (.ofNat 4096) (.ofNat t.cnt);rotate_left
  ·exact⟨false,f2 [17,18] d e,λh=>nomatch h⟩
  obtain⟨m,c,v⟩:=NG a (by omega);cases m
  ·exact⟨false,f3 [17,18,39] d e c,λh=>nomatch h⟩
  exact⟨true,f3 [17,18,39] d e c,λ_=>by simp_all[Pf.l4,kP]⟩
 |.ex u f t a,h=>by
  have h:1+t.cnt+f.cnt+a.cnt<=yA:=h;have n:=uA;have d:=uB t (by omega);cases e:fA (.ofNat 4096) (.ofNat t.cnt);rotate_left
  ·exact⟨false,f2 [17,18] d e,λh=>nomatch h⟩
  have g:=WE f (by omega);cases j:fA (.ofNat 4096) (.ofNat f.cnt);rotate_left
  ·exact⟨false,f4 [17,18,28,29] d e g j,λh=>nomatch h⟩
  obtain⟨m,c,v⟩:=NG a (by omega);cases m
  ·exact⟨false,f5 [17,18,28,29,39] d e g j c,λh=>nomatch h⟩
  exact⟨true,f5 [17,18,28,29,39] d e g j c,λ_=>by simp_all[Pf.l4,kP]⟩
 |.ind l f t a b,h=>by
  have h:1+t.cnt+f.cnt+a.cnt+b.cnt<=yA:=h;have n:=uA;have d:=uB t (by omega);cases e:fA (.ofNat 4096) (.ofNat t.cnt);rotate_left
  ·exact⟨false,f2 [17,18] d e,λh=>nomatch h⟩
  have g:=WE f (by omega);cases j:fA (.ofNat 4096) (.ofNat f.cnt);rotate_left
  ·exact⟨false,f4 [17,18,28,29] d e g j,λh=>nomatch h⟩
  obtain⟨m,c,v⟩:=NG a (by omega);cases m
  ·exact⟨false,f5 [17,18,28,29,39] d e g j c,λh=>nomatch h⟩
  obtain⟨rb,o,w⟩:=NG b (by omega);cases rb
  ·exact⟨false,f6 [17,18,28,29,39,39] d e g j c o,λh=>nomatch h⟩
  exact⟨true,f6 [17,18,28,29,39,39] d e g j c o,λ_=>by simp_all[Pf.l4,kP]⟩
 |.subst f a b,h=>by
  have h:1+f.cnt+a.cnt+b.cnt<=yA:=h;have n:=uA;have g:=WE f (by omega);cases j:fA (.ofNat 4096) (.ofNat f.cnt);rotate_left
  ·exact⟨false,f2 [28,29] g j,λh=>nomatch h⟩
  obtain⟨m,c,v⟩:=NG a (by omega);cases m
  ·exact⟨false,f3 [28,29,39] g j c,λh=>nomatch h⟩
  obtain⟨rb,o,w⟩:=NG b (by omega);cases rb
  ·exact⟨false,f4 [28,29,39,39] g j c o,λh=>nomatch h⟩
  exact⟨true,f4 [28,29,39,39] g j c o,λ_=>by simp_all[Pf.l4,kP]⟩
def OG:∀p:Pf,p.tsz<=qA->∃r,A 142 [p.p] (.bool r)/\(r=true->p.sh)
 |.leaf u i,h=>by
  cases u<;>exact⟨true,f1 [73] XA,λ_=>by simp_all[Pf.sh]⟩
 |.refl t,h=>by
  have h:t.tsz<=qA:=h;have n:=vA;have w:=uA;have d:=UE t (by omega);cases o:t.shp<;>rw[o]at d
  ·exact⟨false,f2 [73,85] XA d,λh=>nomatch h⟩
  exact⟨true,f2 [73,85] XA d,λ_=>by simp_all[Pf.sh]⟩
 |.p1 k a,h=>by
  have h:a.tsz<=qA:=h;obtain⟨g,c,j⟩:=OG a (by omega);cases g
  ·cases k<;>exact⟨false,f2 [73,107] XA c,λh=>nomatch h⟩
  cases k<;>exact⟨true,f2 [73,107] XA c,λ_=>by simp_all[Pf.sh]⟩
 |.p2 k a b,h=>by
  have h:max a.tsz b.tsz<=qA:=h;have n:=vA;obtain⟨g,c,j⟩:=OG a (by omega);cases g
  ·cases k<;>exact⟨false,f2 [73,107] XA c,λh=>nomatch h⟩
  obtain⟨rb,m,y⟩:=OG b (by omega);cases rb
  ·cases k<;>exact⟨false,f3 [73,107,107] XA c m,λh=>nomatch h⟩
  cases k<;>exact⟨true,f3 [73,107,107] XA c m,λ_=>by simp_all[Pf.sh]⟩
 |.impI f a,h=>by
  have h:max f.tsz a.tsz<=qA:=h;have n:=vA;have e:=eJ f (by omega);cases v:f.shp<;>rw[v]at e
  ·exact⟨false,f2 [73,96] XA e,λh=>nomatch h⟩
  obtain⟨g,c,j⟩:=OG a (by omega);cases g
  ·exact⟨false,f3 [73,96,107] XA e c,λh=>nomatch h⟩
  exact⟨true,f3 [73,96,107] XA e c,λ_=>by simp_all[Pf.sh]⟩
 |.all u s a,h=>by
  have h:max a.tsz s.size<=qA:=h;have n:=vA;have w:=uA;have x:=QK s;rcases IG s with es|es<;>rw[es]at x;rotate_left
  ·cases u<;>exact⟨false,f1 [63] x,λh=>nomatch h⟩
  obtain⟨g,c,j⟩:=OG a (by omega);cases g
  ·cases u<;>exact⟨false,f2 [63,107] x c,λh=>nomatch h⟩
  cases u<;>exact⟨true,f2 [63,107] x c,λ_=>⟨chk0 es,j rfl⟩⟩
 |.ins u t a,h=>by
  have h:max t.tsz a.tsz<=qA:=h;have n:=vA;have w:=uA;have d:=UE t (by omega);cases o:t.shp<;>rw[o]at d
  ·cases u<;>exact⟨false,f2 [73,85] XA d,λh=>nomatch h⟩
  obtain⟨g,c,j⟩:=OG a (by omega);cases g
  ·cases u<;>exact⟨false,f3 [73,85,107] XA d c,λh=>nomatch h⟩
  cases u<;>exact⟨true,f3 [73,85,107] XA d c,λ_=>by simp_all[Pf.sh]⟩
 |.ex u f t a,h=>by
  have h:max (max t.tsz f.tsz) a.tsz<=qA:=h;have n:=vA;have w:=uA;have d:=UE t (by omega);cases o:t.shp<;>rw[o]at d
  ·cases u<;>exact⟨false,f2 [73,85] XA d,λh=>nomatch h⟩
  have e:=eJ f (by omega);cases v:f.shp<;>rw[v]at e
  ·cases u<;>exact⟨false,f3 [73,85,96] XA d e,λh=>nomatch h⟩
  obtain⟨g,c,j⟩:=OG a (by omega);cases g
  ·cases u<;>exact⟨false,f4 [73,85,96,107] XA d e c,λh=>nomatch h⟩
  cases u<;>exact⟨true,f4 [73,85,96,107] XA d e c,λ_=>by simp_all[Pf.sh]⟩
 |.ind l f t a b,h=>by
  have h:max (max (max t.tsz f.tsz) a.tsz) b.tsz<=qA:=h;have n:=vA;have w:=uA;have d:=UE t (by omega);cases o:t.shp<;>rw[o]at d
  ·cases l<;>exact⟨false,f2 [73,85] XA d,λh=>nomatch h⟩
  have e:=eJ f (by omega);cases v:f.shp<;>rw[v]at e
  ·cases l<;>exact⟨false,f3 [73,85,96] XA d e,λh=>nomatch h⟩
  obtain⟨g,c,j⟩:=OG a (by omega);cases g
  ·cases l<;>exact⟨false,f4 [73,85,96,107] XA d e c,λh=>nomatch h⟩
  obtain⟨rb,m,y⟩:=OG b (by omega);cases rb
  ·cases l<;>exact⟨false,f5 [73,85,96,107,107] XA d e c m,λh=>nomatch h⟩
  cases l<;>exact⟨true,f5 [73,85,96,107,107] XA d e c m,λ_=>by simp_all[Pf.sh]⟩
 |.subst f a b,h=>by
  have h:max (max f.tsz a.tsz) b.tsz<=qA:=h;have n:=vA;have e:=eJ f (by omega);cases v:f.shp<;>rw[v]at e
  ·exact⟨false,f2 [73,96] XA e,λh=>nomatch h⟩
  obtain⟨g,c,j⟩:=OG a (by omega);cases g
  ·exact⟨false,f3 [73,96,107] XA e c,λh=>nomatch h⟩
  obtain⟨rb,m,y⟩:=OG b (by omega);cases rb
  ·exact⟨false,f4 [73,96,107,107] XA e c m,λh=>nomatch h⟩
  exact⟨true,f4 [73,96,107,107] XA e c m,λ_=>by simp_all[Pf.sh]⟩
def au(p:Pf)(h:p.cnt<=yA):∃r,A 143 [p.p] (.bool r)/\(r=true->p.l4/\p.cnt<=16384):=by
 obtain⟨r,a,b⟩:=NG p h;cases r
 ·exact⟨false,f1 [4] a,λh=>nomatch h⟩
 cases e: !fA (.ofNat 16384) (.ofNat p.cnt)
 ·exact⟨false,f3 [4,7,8] a (mF p h) e,λh=>nomatch h⟩
 exact⟨true,f3 [4,7,8] a (mF p h) e,λ_=>⟨b rfl,lf_iff.1 (by simp_all)⟩⟩
def Qh(p:Pf)(h:p.cnt<=yA:=by omega)(d:p.tsz<=qA:=by omega):∃e,A 81 [p.p] (num e)/\(e=0->p.ck/\p.cnt<=16384):=by
 obtain⟨r,a,f⟩:=OG p d;cases r
 ·exact⟨2,f1 [4] a,λh=>nomatch h⟩
 obtain⟨q,b,c⟩:=au p h;cases q
 ·exact⟨4,f2 [4,7] a b,λh=>nomatch h⟩
 exact⟨0,f2 [4,7] a b,λ_=>⟨p.ck_i (f rfl) (c rfl).1,(c rfl).2⟩⟩
abbrev EZ(l:List Pf):PV:=.slice (l.map Pf.c)
open Go.Lg
abbrev dA(l:List Fm):PV:=.slice (l.map Fm.c)
def Fm.c_len(f:Fm):f.c.length=5:=rfl
abbrev dB(ls:List Fm)(g:List Ty)(hs:List Fm):PV:=.agg [dA ls,OA g,dA hs]
def MB(c:Fm->Fm):List (List V)->Nat->List Fm->List (List V)|E,_,[]=>E|E,n,f::r=>MB c (E.take n++[DA (c f).c]) (n+1) r
def pvE_len(A:List (List PV)):(kA A).length=A.length:=by
 induction A with|nil=>rfl|cons a r b=>show(DA a::kA r).length=_;simp[b]
def pvE_app(A B:List (List PV)):kA (A++B)=kA A++kA B:=by
 induction A with|nil=>rfl|cons a r b=>show DA a::kA (r++B)=DA a::kA r++kA B;rw[b];rfl
def FZ(c:Fm->Fm):∀(r:List Fm)(A:List (List PV)),MB c (kA A) A.length r=kA (A++r.map λf=>(c f).c)
 |[],A=>by simp[MB]|f::r,A=>by
  have a:(kA A).take A.length++[DA (c f).c]=kA (A++[(c f).c]):=by
   rw[List.take_of_length_le (by rw[pvE_len];exact Nat.le_refl _),pvE_app];rfl
  have b:A.length+1=(A++[(c f).c]).length:=by simp
  simp only[MB];rw[a,b,FZ c r];simp
def GZ:∀l:List PV,CA (DA l)=[]|[]=>rfl|c::r=>by show V.names (.pv c)++CA (DA r)=[];rw[GZ r];rfl
def zR(E:List (List V))(n:Nat)(c:List PV)(h:wB E=[]):wB (E.take n++[DA c])=[]:=by
 have b:∀(E:List (List V))(n:Nat),wB E=[]->wB (E.take n)=[]:=by
  intro E
  induction E with
  |nil=>intro n _;simp[wB]|cons e r a=>
   intro n h
   cases n with
   |zero=>rfl|succ n=>
    simp only[wB,List.append_eq_nil_iff]at h;simp only[List.take_succ_cons,wB,h.1,a n h.2,List.append_nil]
 have d:∀(E F:List (List V)),wB (E++F)=wB E++wB F:=by
  intro E F
  induction E with|nil=>rfl|cons e r a=>simp[wB,a]
 rw[d,b E n h];simp[wB,GZ]
def GU{v n m sz ty:Nat}{E a:List (List V)}(b:E.length=n)(c:0<sz)(d:KC sz a=true)(e:lC a=true)(f:n+a.length<=maxLen)(g:(n+a.length)*m<=140737488355328):
  (Nat.beq v v&&Nat.ble n E.length&&Nat.beq ty ty&&Nat.beq sz sz&&Nat.blt 0 sz&&KC sz a&&lC a&&Nat.ble (n+a.length) maxLen&&Nat.ble ((n+a.length)*m) 140737488355328)=true:=by
 have a:Nat.blt 0 sz=true:=by rw[qJ];simpa using c
 rw[d,e,a,b,Nat.ble_eq_true_of_le f,Nat.ble_eq_true_of_le g,Nat.ble_eq_true_of_le (Nat.le_refl n)];simp
abbrev HZ:Kp:=⟨[1,4,5,23,24,25],[1,2,4],5,[]⟩
abbrev nF:List PV:=[.nils,.nils,.nils]
abbrev jR(l:List Ty)(hs:List Fm)(k:Nat):List (Nat×V):=[(1,.pv (OA l)),(4,.loc 1 0),(5,.loc 2 0),(23,.pv (dA hs)),(24,.pv (num (hs.map Fm.c).length)),(25,.pv (num k))]
abbrev cu(ls:PV)(g:PV)(l:List Ty)(hs:List Fm)(k v n:Nat)(E:List (List V)):IS:=st (jR l hs k) [(1,bx nF),(2,.box [.pv ls,.pv g,.arr 4 v n]),(4,.arr v 5 31 E)] 5 []
abbrev iu(ls g:PV)(v n:Nat)(E:List (List V)):IS:=st [(4,.loc 1 0),(5,.loc 2 0)] [(1,bx nF),(2,.box [.pv ls,.pv g,.arr 4 v n]),(4,.arr v 5 31 E)] 5 []
def IZ(a g:PV)(l:List Ty)(p:l.length<=16){hs:List Fm}(s:hs.length<=qA):∀(r:List Fm)(k v n:Nat)(E:List (List V)),hs.drop k=r->E.length=n->n+r.length<=qA->wB E=[]->(∀f∈r,f.mx<=qA*qA/\f.cnt<=qA)->
  ∃b,Lp 260 0 0 (cu a g l hs k v n E) (.exit 0) (iu a g b (n+r.length) (MB (Fm.sh 0 (.ofNat (l.map Ty.c).length)) E n r))
 |[],k,v,n,E,h,c,d,i,j=>by
  have e:fA (.ofNat k) (.ofNat (hs.map Fm.c).length)=false:=HA (by simpa using Zt h);exact⟨v,y1 [26] ⟨[4,5],[1,2,4],5,[]⟩ e i⟩
 |f::r,k,v,n,E,h,c,d,i,j=>by
  have:=vA;obtain⟨t,u,w⟩:=tH h;have e:fA (.ofNat k) (.ofNat (hs.map Fm.c).length)=true:=NA (by simpa using u);have x:=j f (by simp);have d:n+(r.length+1)<=qA:=by simpa using d
  have y:=LG f 0 (.ofNat (l.map Ty.c).length) (by simp) (by simp;omega) x.1 (by omega);have z:(Nat.beq v v&&Nat.ble n E.length&&Nat.beq 40 40&&Nat.beq 5 5&&Nat.blt 0 5&&KC 5 [DA (f.sh 0 (.ofNat (l.map Ty.c).length)).c]&&lC [DA (f.sh 0 (.ofNat (l.map Ty.c).length)).c]&&Nat.ble (n+[DA (f.sh 0 (.ofNat (l.map Ty.c).length)).c].length) maxLen&&Nat.ble ((n+[DA (f.sh 0 (.ofNat (l.map Ty.c).length)).c].length)*88) 140737488355328)=true:=
   GU c (by decide) rfl rfl (by simp only[maxLen,List.length_singleton];omega) (by simp only[List.length_singleton];omega)
  have A:=AA (show k+1<=_ by omega);have m:=zR E n (f.sh 0 (.ofNat (l.map Ty.c).length)).c i;obtain⟨b,o⟩:=IZ a g l p s r (k+1) (v+1) (n+1) (E.take n++[DA (f.sh 0 (.ofNat (l.map Ty.c).length)).c]) w (by simp[c]) (by omega) m (λf B=>j f (by simp[B]));rw[show n+1+r.length=n+(f::r).length by simp;omega]at o;exact⟨b,n7 [26,(27,.i f.c),34,(36,.ok),(38,.ok)] HZ e (kB t Fm.c_len) y z A m o⟩
def vR(g:List Ty):(Nat.beq (g.map Ty.c).length (g.map Ty.c).length&&Nat.beq (g.map Ty.c).length (g.map Ty.c).length)=true:=jG _
def Rh{α:Type}{c:α->List PV}(n m:Nat)(b:∀t,(c t).length=n)(d:0<n)(g:List α)(s u:α)(h:(g.length+2)*m<=140737488355328)(e:g.length+2<=maxLen):
  (YB n (g.map c)&&YB n [c s,c u]&&Nat.blt 0 n&&Nat.ble ((g.map c).length+[c s,c u].length) maxLen&&Nat.ble (((g.map c).length+[c s,c u].length)*m) 140737488355328)=true:=by
 have f:YB n (g.map c)=true:=ZO λy a=>by obtain⟨t,_,rfl⟩:=List.mem_map.1 a;exact b t
 have i:YB n [c s,c u]=true:=ZO λy a=>by simp at a;rcases a with rfl|rfl<;>exact b _
 have j:Nat.blt 0 n=true:=by rw[qJ];simpa using d
 rw[f,i,j];simp only[List.length_map,List.length_cons,List.length_nil,Bool.true_and];rw[Nat.ble_eq_true_of_le e,Nat.ble_eq_true_of_le h];rfl
def JZ(a:List Fm)(g:List Ty)(s:Ty)(hs:List Fm)(p:g.length<=qA-2)(h:hs.length<=1024)(i:∀f∈hs,f.mx<=qA*qA/\f.cnt<=qA):A 260 [dB a g hs,OA [s]] (dB a (g++[s]) (hs.map (Fm.sh 0 1))):=by
 have:=vA;have j:=vR g;have k:=lF 2 32 Ty.c_len (by decide) g s (by omega) (by simp only[maxLen];omega);simp only[dB,OA,List.map_append,List.map_cons,List.map_nil];let b:PV:=.slice (g.map Ty.c++[s.c])
 cases hs with
 |nil=>
  have c:Lp 260 0 0 (st (jR [s] [] 0) [(1,bx nF),(2,bx [dA a,b,.nils])] 3 []) (.exit 0) (st [(4,.loc 1 0),(5,.loc 2 0)] [(1,bx nF),(2,bx [dA a,b,.nils])] 3 []):=
   x0 [] ⟨[4,5],[1,2],3,[]⟩
  exact f3 [(18,.ok),(20,.ok),(100003,.l ⟨[1,4,5,23,24,25],[1,2],3,[]⟩ (.exit 0) (st [(4,.loc 1 0),(5,.loc 2 0)] [(1,bx nF),(2,bx [dA a,b,.nils])] 3 []))] j k c
 |cons f hs=>
  have h:hs.length+1<=1024:=h;have d:=i f (by simp);let ps:=(f::hs).map λf=>(f.sh 0 1).c
  obtain⟨v,c⟩:=IZ (dA a) b [s] (by simp) (hs:=f::hs) (by simp;omega) hs 1 1 1 (kA [(f.sh 0 1).c]) rfl rfl (by omega) (zR [] 0 _ rfl) (λf d=>i f (by simp[d]));have m:MB (Fm.sh 0 (.ofNat (([s]:List Ty).map Ty.c).length)) (kA [(f.sh 0 1).c]) 1 hs=kA ps:=FZ (Fm.sh 0 1) hs [(f.sh 0 1).c];rw[m]at c;have l:=LoopIs.fz (by simp) c 4 (ver:=v) (sz:=5) (ty:=31) (ps:=ps) rfl (by kernel_rfl);simp (decide:=true) only[XF,OE,RC,UD,JE,List.map,yE,and_self,↓reduceIte,List.take_of_length_le (show ps.length<=1+hs.length by simp[ps];omega)]at l;have e:fA (.ofNat 0) (.ofNat ((f::hs).map Fm.c).length)=true:=NA (by simp);have n:Lp 260 0 0 (st (jR [s] (f::hs) 0) [(1,bx nF),(2,bx [dA a,b,.nils])] 3 []) (.exit 0) (st [(4,.loc 1 0),(5,.loc 2 0)] [(1,bx nF),(2,bx [dA a,b,.slice ps])] 5 []):=
   n6 [26,(27,.i f.c),34,(38,.ok)] HZ e (kB (g:=f::hs) (k:=0) rfl Fm.c_len) (LG f 0 1 (by omega) (by omega) d.1 (by omega)) (AA (show 0+1<=_ by omega)) (zR [] 0 (f.sh 0 1).c rfl) l
  have o:dA ((f::hs).map (Fm.sh 0 1))=.slice ps:=by simp[ps,dA,Function.comp_def]
  rw[o];exact f3 [(18,.ok),(20,.ok),(100003,.l ⟨[1,4,5,23,24,25],[1,2],3,[]⟩ (.exit 0) (st [(4,.loc 1 0),(5,.loc 2 0)] [(1,bx nF),(2,bx [dA a,b,.slice ps])] 5 []))] j k n
def xu(a:List Fm)(g:List Ty)(s u:Ty)(hs:List Fm)(p:g.length<=qA-2)(h:hs.length<=1024)(i:∀f∈hs,f.mx<=qA*qA/\f.cnt<=qA):A 260 [dB a g hs,OA [s,u]] (dB a (g++[s,u]) (hs.map (Fm.sh 0 2))):=by
 have:=vA;have j:=vR g;have k:=Rh 2 32 Ty.c_len (by decide) g s u (by omega) (by simp only[maxLen];omega);simp only[dB,OA,List.map_append,List.map_cons,List.map_nil];let b:PV:=.slice (g.map Ty.c++[s.c,u.c])
 cases hs with
 |nil=>
  have c:Lp 260 0 0 (st (jR [s,u] [] 0) [(1,bx nF),(2,bx [dA a,b,.nils])] 3 []) (.exit 0) (st [(4,.loc 1 0),(5,.loc 2 0)] [(1,bx nF),(2,bx [dA a,b,.nils])] 3 []):=
   x0 [] ⟨[4,5],[1,2],3,[]⟩
  exact f3 [(18,.ok),(20,.ok),(100003,.l ⟨[1,4,5,23,24,25],[1,2],3,[]⟩ (.exit 0) (st [(4,.loc 1 0),(5,.loc 2 0)] [(1,bx nF),(2,bx [dA a,b,.nils])] 3 []))] j k c
 |cons f hs=>
  have h:hs.length+1<=1024:=h;have d:=i f (by simp);let ps:=(f::hs).map λf=>(f.sh 0 2).c
  obtain⟨v,c⟩:=IZ (dA a) b [s,u] (by simp) (hs:=f::hs) (by simp;omega) hs 1 1 1 (kA [(f.sh 0 2).c]) rfl rfl (by omega) (zR [] 0 _ rfl) (λf d=>i f (by simp[d]));have m:MB (Fm.sh 0 (.ofNat (([s,u]:List Ty).map Ty.c).length)) (kA [(f.sh 0 2).c]) 1 hs=kA ps:=FZ (Fm.sh 0 2) hs [(f.sh 0 2).c];rw[m]at c;have l:=LoopIs.fz (by simp) c 4 (ver:=v) (sz:=5) (ty:=31) (ps:=ps) rfl (by kernel_rfl);simp (decide:=true) only[XF,OE,RC,UD,JE,List.map,yE,and_self,↓reduceIte,List.take_of_length_le (show ps.length<=1+hs.length by simp[ps];omega)]at l;have e:fA (.ofNat 0) (.ofNat ((f::hs).map Fm.c).length)=true:=NA (by simp);have n:Lp 260 0 0 (st (jR [s,u] (f::hs) 0) [(1,bx nF),(2,bx [dA a,b,.nils])] 3 []) (.exit 0) (st [(4,.loc 1 0),(5,.loc 2 0)] [(1,bx nF),(2,bx [dA a,b,.slice ps])] 5 []):=
   n6 [26,(27,.i f.c),34,(38,.ok)] HZ e (kB (g:=f::hs) (k:=0) rfl Fm.c_len) (LG f 0 2 (by omega) (by omega) d.1 (by omega)) (AA (show 0+1<=_ by omega)) (zR [] 0 (f.sh 0 2).c rfl) l
  have o:dA ((f::hs).map (Fm.sh 0 2))=.slice ps:=by simp[ps,dA,Function.comp_def]
  rw[o];exact f3 [(18,.ok),(20,.ok),(100003,.l ⟨[1,4,5,23,24,25],[1,2],3,[]⟩ (.exit 0) (st [(4,.loc 1 0),(5,.loc 2 0)] [(1,bx nF),(2,bx [dA a,b,.slice ps])] 5 []))] j k n
def wR(b:List Fm)(g:List Ty)(a:List Fm)(v h:Nat)(c:g.length+v<=qA:=by omega)(c:a.length+h<=qA:=by omega):∃e,A 206 [dB b g a,num v,num h] (num e)/\(e=0->g.length+v<=16/\a.length+h<=16)/\(e=0\/e=3):=by
 have:=vA;have c:xA (Int.ofNat (g.map Ty.c).length+.ofNat v)=true:=AA (n:=(g.map Ty.c).length+v) (by simp;omega);have j:xA (Int.ofNat (a.map Fm.c).length+.ofNat h)=true:=AA (n:=(a.map Fm.c).length+h) (by simp;omega);by_cases d:g.length+v<=16
 ·have b:fA (.ofNat 16) (.ofNat ((g.map Ty.c).length+v))=false:=HA (by simpa using d);by_cases f:a.length+h<=16
  ·have i:fA (.ofNat 16) (.ofNat ((a.map Fm.c).length+h))=false:=HA (by simpa using f);exact⟨0,f4 [(11,.ok),12,(18,.ok),19] c b j i,(λ_=>⟨d,f⟩),.inl rfl⟩
  have i:fA (.ofNat 16) (.ofNat ((a.map Fm.c).length+h))=true:=NA (by simpa using f);exact⟨3,f4 [(11,.ok),12,(18,.ok),19] c b j i,(nofun),.inr rfl⟩
 have b:fA (.ofNat 16) (.ofNat ((g.map Ty.c).length+v))=true:=NA (by simpa using d);exact⟨3,f2 [(11,.ok),12] c b,(nofun),.inr rfl⟩
def HU(b:List Fm)(g:List Ty)(a:List Fm)(f:Fm)(h:a.length+1<=qA:=by omega):A 207 [dB b g a,f.p] (dB b g (a++[f])):=by
 have:=vA;have b:=jG (a.map Fm.c).length;have c:=lF 5 88 Fm.c_len (by decide) a f (by omega) (by simp only[maxLen];omega);simp only[dB,dA,List.map_append,List.map_cons,List.map_nil];exact f2 [(13,.ok),(16,.ok)] b c
open Go.Lg
abbrev ic(n:Nat):List PV:=[num n]
abbrev JA(l:List Nat):PV:=.slice (l.map ic)
def YK(n:Nat):(ic n).length=1:=rfl
def ZK(A:List (List PV))(c:List PV):kA (A++[c])=(kA A).take A.length++[DA c]:=by
 rw[List.take_of_length_le (by rw[pvE_len];omega),pvE_app];rfl
def sD(A:List (List PV)):wB (kA A)=[]:=by
 induction A with|nil=>rfl|cons a r b=>show CA (DA a)++wB (kA r)=[];rw[GZ,b];rfl
def xH(A:List (List PV))(c:List PV):wB ((kA A).take A.length++[DA c])=[]:=by rw[<-ZK];exact sD _
def RA(n:Nat):List Nat->List Nat|[]=>[]|x::r=>if n<=x then(x-n)::RA n r else RA n r
def IU{n v:Nat}:∀{l:List Nat},v+n∈l->v∈RA n l
 :=by intro x;induction x<;>simp_all[RA,if_pos,List.mem_cons_of_mem]<;>grind
def kR{n M:Nat}:∀{l:List Nat},(∀x∈l,x<=M)->∀x∈RA n l,x<=M
 |[],_,x,h=>by cases h
 |y::r,a,x,h=>by
  simp only[RA]at h;have:=a y (by simp);split at h
  ·rcases List.mem_cons.1 h with rfl|h
   ·omega
   exact kR (λz b=>a z (by simp[b])) x h
  exact kR (λz b=>a z (by simp[b])) x h
def JU(n:Nat):∀(l:List Nat),(RA n l).length<=l.length
 :=by intro x;induction x<;>simp_all[Nat.le_refl,RA]<;>grind
abbrev KZ(n:Nat)(l:List Nat)(k:Nat)(x:V):List (Nat×V):=[(1,.pv (num n)),(5,x),(8,.pv (JA l)),(9,.pv (num (l.map ic).length)),(10,.pv (num k))]
abbrev LZ:Kp:=⟨[1,5,8,9,10],[0],1,[]⟩
def MZ(n:Nat){l:List Nat}(j:l.length<=qA)(d:∀x∈l,x<=yA):∀(r:List Nat)(k v:Nat)(A:List (List PV)),l.drop k=r->A.length+r.length<=qA->
  ∃a,Lp 262 0 0 (st (KZ n l k (.arr 0 v A.length)) [(0,.arr v 1 3 (kA A))] 1 []) (.exit 0) (st [(5,.arr 0 a (A.length+(RA n r).length))] [(0,.arr a 1 3 (kA (A++(RA n r).map ic)))] 1 [])
 |[],k,v,A,h,m=>by
  have e:fA (.ofNat k) (.ofNat (l.map ic).length)=false:=HA (by simp_all);simp only[RA,List.map_nil,List.append_nil,List.length_nil,Nat.add_zero];exact⟨v,y1 [11] ⟨[5],[0],1,[]⟩ e (sD A)⟩
 |x::r,k,v,A,h,m=>by
  have:=vA;have:=uA;obtain⟨f,y,o⟩:=tH h;have e:fA (.ofNat k) (.ofNat (l.map ic).length)=true:=NA (by simp_all);have:=d x (List.mem_of_getElem? f);have m:A.length+(r.length+1)<=qA:=by omega
  have p:=AA (show k+1<=_ by omega);by_cases c:n<=x
  ·have g:(!fA (.ofNat x) (.ofNat n))=true:=dI c;have t:xA (Int.ofNat x-.ofNat n)=true/\Int.ofNat x-.ofNat n=.ofNat (x-n):=by
    grind[lB]
   have u:(Nat.beq v v&&Nat.ble A.length (kA A).length&&Nat.beq 3 3&&Nat.beq 1 1&&Nat.blt 0 1&&KC 1 [DA (ic (x-n))]&&lC [DA (ic (x-n))]&&Nat.ble (A.length+[DA (ic (x-n))].length) maxLen&&Nat.ble ((A.length+[DA (ic (x-n))].length)*8) 140737488355328)=true:=
    GU (pvE_len A) (by decide) rfl rfl (by simp only[maxLen,List.length_singleton];omega) (by grind)
   obtain⟨a,b⟩:=MZ n j d r (k+1) (v+1) (A++[ic (x-n)]) o (by simp;omega);have i:RA n (x::r)=(x-n)::RA n r:=by simp only[RA,if_pos c]
   rw[i];rw[ZK,show(A++[ic (x-n)]).length=A.length+1 by simp,show A.length+1+(RA n r).length=A.length+((x-n)::RA n r).length by simp;omega,List.append_assoc]at b;exact⟨a,n8 [11,(12,.i (ic x)),16,20,(22,.ok),(23,.ok)] LZ e (kB f YK) g t u p (xH A (ic (x-n))) b⟩
  have g:(!fA (.ofNat x) (.ofNat n))=false:=vG (by omega);obtain⟨a,b⟩:=MZ n j d r (k+1) v A o (by omega);have i:RA n (x::r)=RA n r:=by simp only[RA,if_neg c]
  rw[i];exact⟨a,n6 [11,(12,.i (ic x)),16,(23,.ok)] LZ e (kB f YK) g p (sD A) b⟩
def Sh(n:Nat){l:List Nat}(j:l.length<=qA)(m:∀x∈l,x<=yA):∀(r:List Nat)(k:Nat),l.drop k=r->
  (RA n r=[]/\Lp 262 0 0 (st (KZ n l k (.pv .nils)) [] 0 []) (.exit 0) (st [(5,.pv .nils)] [] 0 []))\/∃a,Lp 262 0 0 (st (KZ n l k (.pv .nils)) [] 0 []) (.exit 0) (st [(5,.arr 0 a (RA n r).length)] [(0,.arr a 1 3 (kA ((RA n r).map ic)))] 1 [])
 |[],k,h=>by
  have e:fA (.ofNat k) (.ofNat (l.map ic).length)=false:=HA (by simp_all);exact .inl ⟨rfl,x1 [11] ⟨[5],[],0,[]⟩ e⟩
 |x::r,k,h=>by
  have:=vA;obtain⟨f,v,o⟩:=tH h;have e:fA (.ofNat k) (.ofNat (l.map ic).length)=true:=NA (by simp_all);have g:=AA (show k+1<=_ by omega);by_cases c:n<=x
  ·have d:(!fA (.ofNat x) (.ofNat n))=true:=dI c;have p:xA (Int.ofNat x-.ofNat n)=true/\Int.ofNat x-.ofNat n=.ofNat (x-n):=by
    grind[lB]
   have:r.length+1<=l.length:=by
    grind
   obtain⟨a,b⟩:=MZ n j m r (k+1) 1 [ic (x-n)] o (by simp;omega);have i:RA n (x::r)=(x-n)::RA n r:=by simp only[RA,if_pos c]
   rw[i];rw[show [ic (x-n)].length+(RA n r).length=((x-n)::RA n r).length by simp;omega]at b;exact .inr ⟨a,n7 [11,(12,.i (ic x)),16,20,(23,.ok)] LZ e (kB f YK) d p g (sD [ic (x-n)]) b⟩
  have d:(!fA (.ofNat x) (.ofNat n))=false:=vG (by omega);have i:RA n (x::r)=RA n r:=by simp only[RA,if_neg c]
  rw[i];rcases Sh n j m r (k+1) o with ⟨t,b⟩|⟨a,b⟩
  ·exact .inl ⟨t,n5 [11,(12,.i (ic x)),16,(23,.ok)] ⟨[1,5,8,9,10],[],0,[]⟩ e (kB f YK) d g b⟩
  exact .inr ⟨a,n5 [11,(12,.i (ic x)),16,(23,.ok)] ⟨[1,5,8,9,10],[],0,[]⟩ e (kB f YK) d g b⟩
def KU(n:Nat)(l:List Nat)(c:l.length<=qA)(d:∀x∈l,x<=yA):A 262 [JA l,num n] (JA (RA n l)):=by
 rcases Sh n c d l 0 rfl with ⟨e,a⟩|⟨v,a⟩
 ·rw[e];exact f1 [(100003,.l ⟨[1,5,8,9,10],[],0,[]⟩ (.exit 0) (st [(5,.pv .nils)] [] 0 []))] a
 have b:=LoopIs.fz (by simp) a 0 (ver:=v) (sz:=1) (ty:=3) (ps:=(RA n l).map ic) rfl (by kernel_rfl);simp (decide:=true) only[XF,OE,RC,yE,and_self,↓reduceIte,List.take_of_length_le (show((RA n l).map ic).length<=(RA n l).length by simp)]at b;exact f1 [(100003,.l ⟨[1,5,8,9,10],[],0,[]⟩ (.exit 0) (st [(5,.pv (JA (RA n l)))] [] 1 []))] b
def aq:Bool->FQ|false=>.all|true=>.allU
def Fm.pt(f:Fm)(t:Tm):FR:=if f.cnt+f.occ 0*(t.cnt-1)<=4096 then .ok (f.put 0 t 0)else .er 3
abbrev Fm.low(f:Fm):Fm:=f.put 0 (.v 0) 0
def VA:Fm->Option Fm
 |.eq a b=>match ID a with
  |.ok x _=>match ID b with|.ok y _=>some (.eq x y)|.er _=>none
  |.er _=>none
 |.bin k f g=>match VA f with
  |some x=>match VA g with|some y=>some (.bin k x y)|none=>none
  |none=>none
 |.q k s f=>match VA f with|some x=>some (.q k s x)|none=>none
def nC(f:Fm):Option Fm:=if f.occ 0=0 then some f.low else match VA f with|some g=>if g.occ 0=0 then some g.low else none|none=>none
inductive Jt where|leaf (u:Bool) (i:Nat) (f:Fm)|refl (t:Tm)|p1 (k:P1) (a:Jt) (f:Fm)|p2 (k:P2) (a b:Jt) (f:Fm)|impI (x:Fm) (a:Jt)|all (u:Bool) (s:Ty) (a:Jt)|ins (u:Bool) (t:Tm) (a:Jt) (f:Fm)|ex (u:Bool) (x:Fm) (t:Tm) (a:Jt)|ind (l:Bool) (x:Fm) (t:Tm) (a b:Jt) (f:Fm)|subst (x:Fm) (a b:Jt) (f:Fm)
def Jt.p:Jt->Pf|.leaf u i _=>.leaf u i|.refl t=>.refl t|.p1 k a _=>.p1 k a.p|.p2 k a b _=>.p2 k a.p b.p|.impI x a=>.impI x a.p|.all u s a=>.all u s a.p|.ins u t a _=>.ins u t a.p|.ex u x t a=>.ex u x t a.p|.ind l x t a b _=>.ind l x t a.p b.p|.subst x a b _=>.subst x a.p b.p
def Jt.f:Jt->Fm|.leaf _ _ f=>f|.refl t=>.eq t t|.p1 _ _ f=>f|.p2 _ _ _ f=>f|.impI x a=>.bin .imp x a.f|.all u s a=>.q (aq u) s a.f|.ins _ _ _ f=>f|.ex _ x _ _=>x|.ind _ _ _ _ _ f=>f|.subst _ _ _ f=>f
def Fm.bd:Fm->Fm|.q _ _ f=>f|f=>f
abbrev bA(k:Nat)(hs:List Fm):List Fm:=hs.map (Fm.sh 0 (.ofNat k))
def AH:Bool->FQ|false=>.ex|true=>.exU
def ek:Bool->P2|false=>.exE|true=>.exUE
abbrev vapp:Tm:=.n2 .app (.v 1) (.v 0)
def xJ(a:List Fm)(x:Fm):Bool->List Fm|false=>bA 1 a++[x]|true=>bA 2 a++[x.sh 1 (.ofNat 1)]
def lN:Bool->Nat|false=>1|true=>2
def Jt.us:Jt->Nat->Prop
 |.leaf _ _ _,_=>False|.refl _,_=>False|.p1 _ a f,v=>f.has=true/\a.us v|.p2 k a b f,v=>f.has=true/\(a.us v\/match k with
  |.andI=>b.us v|.impE=>b.us v|_=>b.us (v+1))
 |.impI x a,v=>(Fm.bin .imp x a.f).has=true/\a.us v|.all u s a,v=>(Fm.q (aq u) s a.f).has=true/\a.us (v+1)|.ins u t a f,v=>f.has=true/\(a.us v\/u=false/\t.occ v≠0)|.ex u x t a,v=>x.has=true/\(a.us v\/u=false/\t.occ v≠0)|.ind l x t a b f,v=>f.has=true/\(t.occ v≠0\/a.us v\/b.us (v+lN l))|.subst x a b f,v=>f.has=true/\b.us v
def Fm.er:Fm->Fm|.eq _ _=>.eq (.n0 .unit) (.n0 .unit)|.bin k f g=>.bin k f.er g.er|.q k s f=>.q k s f.er
def PG:∀f:Fm,f.er.has=f.has
 |.eq _ _=>rfl|.bin k f g=>by cases k<;>simp only[Fm.er,Fm.has,PG f,PG g]
 |.q k _ f=>by cases k<;>simp only[Fm.er,Fm.has,PG f]
theorem JD(z:Int):∀(f:Fm)(c:Nat),(f.sh c z).er=f.er|.eq _ _,c=>rfl|.bin k f g,c=>by simp[Fm.sh,Fm.er,JD]|.q k s f,c=>by simp[Fm.sh,Fm.er,JD]
theorem LU(c:Nat)(s:Tm):∀(f:Fm)(d:Nat),(f.put c s d).er=f.er|.eq _ _,d=>rfl|.bin k f g,d=>by simp[Fm.put,Fm.er,LU]|.q k u f,d=>by simp[Fm.put,Fm.er,LU]
theorem yR:∀f g:Fm,VA f=some g->g.er=f.er
 |.eq a b,g,e=>by
  unfold VA at e;split at e
  ·split at e
   ·cases e;rfl
   cases e
  cases e
 |.bin k a b,g,e=>by
  unfold VA at e;split at e
  ·rename_i x c;split at e
   ·rename_i y d;cases e;simp only[Fm.er,yR a x c,yR b y d]
   cases e
  cases e
 |.q k s a,g,e=>by
  unfold VA at e;split at e
  ·rename_i x c;cases e;simp only[Fm.er,yR a x c]
  cases e
def pF{f g:Fm}(e:nC f=some g):g.er=f.er:=by
 grind[nC,LU,yR]
theorem iC{f g:Fm}{t:Tm}(e:f.pt t=.ok g):g.er=f.er:=by
 grind[Fm.pt,LU]
def pI(k:Nat)(a:List Fm):(bA k a).map Fm.er=a.map Fm.er:=by
 simp[bA,List.map_map,List.map_congr_left,JD]
theorem SA{f g:Fm}(e:f.er=g.er):f.has=g.has:=(PG f).symm.trans ((congrArg Fm.has e).trans (PG g))
def lT:Bool->Ty|false=>.nat|true=>.list
def lG:Bool->List Ty|false=>[.nat]|true=>[.nat,.list]
def l0:Bool->Tm|false=>.n0 .zero|true=>.n0 .nil
def l1:Bool->Tm|false=>.n1 .succ (.v 0)|true=>.n2 .cons (.v 1) (.v 0)
def Jt.D(d:List Fm):List Ty->List Fm->Jt->Prop
 |_,c,.leaf u i f=>f.chk=0/\match u with
  |false=>i<c.length/\c[c.length-1-i]? =some f|true=>d[i]? =some f
 |g,_,.refl t=>(Fm.eq t t).chk=0/\t.chk=0/\t.tyR g=.ok .nat|g,c,.p1 k a f=>f.chk=0/\a.D d g c/\match k with
  |.andL=>∃y,a.f=.bin .and f y|.andR=>∃x,a.f=.bin .and x f|.choice=>∃s u x,a.f=.q .all s (.q .ex u x)/\(Ty.two true s u).size<=64/\∃y,(x.sh 2 (.ofNat 1)).pt vapp=.ok y/\f=.q .ex (.two true s u) (.q .all s y)
 |g,c,.p2 k a b f=>f.chk=0/\a.D d g c/\match k with
  |.andI=>b.D d g c/\f=.bin .and a.f b.f|.impE=>b.D d g c/\∃x,a.f=.bin .imp x f/\x.mt b.f|.exE=>(∃s,a.f=.q .ex s a.f.bd/\b.D d (g++[s]) (bA 1 c++[a.f.bd]))/\(g.length+1<=16/\c.length+1<=16)/\nC b.f=some f|.exUE=>(∃s,a.f=.q .exU s a.f.bd/\b.D d (g++[s]) (bA 1 c++[a.f.bd]))/\(g.length+1<=16/\c.length+1<=16)/\nC b.f=some f/\¬b.us 0
 |g,c,.impI x a=>(Fm.bin .imp x a.f).chk=0/\(x.chk=0/\x.ty g)/\c.length+1<=16/\a.D d g (c++[x])|g,c,.all u s a=>(Fm.q (aq u) s a.f).chk=0/\g.length+1<=16/\a.D d (g++[s]) (bA 1 c)/\(u=true->¬a.us 0)|g,c,.ins u t a f=>f.chk=0/\t.chk=0/\a.D d g c/\∃s x,t.tyR g=.ok s/\a.f=.q (aq u) s x/\x.pt t=.ok f|g,c,.ex u x t a=>(x.chk=0/\x.ty g)/\t.chk=0/\a.D d g c/\∃s y w,t.tyR g=.ok s/\x=.q (AH u) s y/\y.pt t=.ok w/\w.mt a.f|g,c,.ind l x t a b f=>f.chk=0/\(x.chk=0/\x.ty (g++[lT l]))/\(t.chk=0/\t.tyR g=.ok (lT l))/\(a.D d g c/\∃w,x.pt (l0 l)=.ok w/\w.mt a.f)/\(g.length+lN l<=16/\c.length+1<=16)/\(b.D d (g++lG l) (xJ c x l)/\∃w,(x.sh 1 (.ofNat (lN l))).pt (l1 l)=.ok w/\w.mt b.f)/\x.pt t=.ok f|g,c,.subst x a b f=>f.chk=0/\(x.chk=0/\x.ty (g++[.nat]))/\a.D d g c/\b.D d g c/\∃t u w,a.f=.eq t u/\x.pt t=.ok w/\w.mt b.f/\x.pt u=.ok f
def EA{a b:Bool}(h:(a&&b)=true):a=true/\b=true:=by simpa using h
def AJ(z:Int):∀(t:Tm)(c:Nat),(t.sh c z).shp=t.shp|.v i,c=>by simp only[Tm.sh];split<;>rfl|.lam s b,c=>by simp[Tm.sh,Tm.shp,AJ]|.n0 k,c=>rfl|.n1 k a,c=>by simp[Tm.sh,Tm.shp,AJ]|.n2 k a b,c=>by simp[Tm.sh,Tm.shp,AJ]|.n3 k s a b d,c=>by simp[Tm.sh,Tm.shp,AJ]
def rI(c:Nat)(S:Tm):∀(t:Tm)(d:Nat),(S.shp=true\/t.occ (c+d)=0)->t.shp=true->(t.put c S d).shp=true
 |.v i,d,f,h=>by
  simp only[Tm.put];split
  ·rename_i e;rcases f with f|f
   ·rw[AJ];exact f
   simp[Tm.occ,e]at f
  split<;>rfl
 |.lam s b,d,f,h=>by
  obtain⟨j,g⟩:=EA h;show(_&&_)=true;rw[j,rI c S b (d+1) f g];rfl
 |.n0 k,d,f,h=>rfl|.n1 k a,d,f,h=>rI c S a d f h|.n2 k a b,d,f,h=>by
  obtain⟨j,g⟩:=EA h;simp only[Tm.occ]at f;show(_&&_)=true;rw[rI c S a d (f.imp id (by omega)) j,rI c S b d (f.imp id (by omega)) g];rfl
 |.n3 k s a b e,d,f,h=>by
  obtain⟨j,g⟩:=EA h;obtain⟨g,l⟩:=EA g;obtain⟨l,m⟩:=EA l;simp only[Tm.occ]at f;show(_&&(_&&(_&&_)))=true;rw[j,rI c S a d (f.imp id (by omega)) g,rI c S b d (f.imp id (by omega)) l,rI c S e d (f.imp id (by omega)) m];rfl
def yP(z:Int):∀(f:Fm)(c:Nat),(f.sh c z).shp=f.shp
 :=by intro x;induction x<;>simp_all[Fm.sh,Fm.shp,AJ]
def qL(c:Nat)(S:Tm):∀(f:Fm)(d:Nat),(S.shp=true\/f.occ (c+d)=0)->f.shp=true->(f.put c S d).shp=true
 |.eq a b,d,e,h=>by
  obtain⟨g,i⟩:=EA h;simp only[Fm.occ]at e;show(_&&_)=true;rw[rI c S a d (e.imp id (by omega)) g,rI c S b d (e.imp id (by omega)) i];rfl
 |.bin k a b,d,e,h=>by
  obtain⟨g,i⟩:=EA h;simp only[Fm.occ]at e;show(_&&_)=true;rw[qL c S a d (e.imp id (by omega)) g,qL c S b d (e.imp id (by omega)) i];rfl
 |.q k s a,d,e,h=>by
  obtain⟨g,i⟩:=EA h;show(_&&_)=true;rw[g,qL c S a (d+1) e i];rfl
def Fm.tq:List Ty->Fm->Prop|g,.eq a b=>a.tyR g=.ok .nat/\b.tyR g=.ok .nat|g,.bin _ f h=>f.tq g/\h.tq g|g,.q _ s f=>f.tq (g++[s])
def tD:∀(f:Fm)(g:List Ty),f.ty g->f.tq g|.eq _ _,_,⟨⟨_,a⟩,_,b⟩=>⟨a,b⟩|.bin _ f k,g,⟨b,a⟩=>⟨tD f g b,tD k g a⟩|.q _ _ f,_,h=>tD f _ h
def Pf.W(d:List Fm):List Ty->List Fm->Pf->Fm->Prop
 |_,c,.leaf u i,f=>match u with|false=>i<c.length/\∃x,c[c.length-1-i]? =some x/\FCv x f|true=>∃x,d[i]? =some x/\FCv x f
 |g,_,.refl t,f=>t.chk=0/\Ht g t .nat/\FCv (.eq t t) f|g,c,.p1 k a,f=>match k with|.andL=>∃y,a.W d g c (.bin .and f y)|.andR=>∃x,a.W d g c (.bin .and x f)|.choice=>∃s u x,a.W d g c (.q .all s (.q .ex u x))/\FCv (.q .ex (.two true s u) (.q .all s ((x.sh 2 (.ofNat 1)).put 0 vapp 0))) f
 |g,c,.p2 k a b,f=>match k with|.andI=>∃x y,a.W d g c x/\b.W d g c y/\FCv (.bin .and x y) f|.impE=>∃x,a.W d g c (.bin .imp x f)/\b.W d g c x|.exE=>∃s x y,a.W d g c (.q .ex s x)/\b.W d (g++[s]) (bA 1 c++[x]) y/\y.occ 0=0/\FCv y.low f|.exUE=>∃s x y,a.W d g c (.q .exU s x)/\b.W d (g++[s]) (bA 1 c++[x]) y/\y.occ 0=0/\FCv y.low f/\y.has=false
 |g,c,.impI x a,f=>(x.chk=0/\x.hq g)/\∃y,a.W d g (c++[x]) y/\FCv (.bin .imp x y) f|g,c,.all u s a,f=>u=false/\∃y,a.W d (g++[s]) (bA 1 c) y/\FCv (.q .all s y) f|g,c,.ins u t a,f=>t.chk=0/\∃s x,Ht g t s/\a.W d g c (.q (aq u) s x)/\FCv (x.put 0 t 0) f|g,c,.ex u x t a,f=>(x.chk=0/\x.hq g)/\t.chk=0/\∃s y,Ht g t s/\x=.q (AH u) s y/\a.W d g c (y.put 0 t 0)/\FCv x f|g,c,.ind l x t a b,f=>(x.chk=0/\x.hq (g++[lT l]))/\(t.chk=0/\Ht g t (lT l))/\a.W d g c (x.put 0 (l0 l) 0)/\b.W d (g++lG l) (xJ c x l) ((x.sh 1 (.ofNat (lN l))).put 0 (l1 l) 0)/\FCv (x.put 0 t 0) f|g,c,.subst x a b,f=>(x.chk=0/\x.hq (g++[.nat]))/\∃t u,a.W d g c (.eq t u)/\b.W d g c (x.put 0 t 0)/\FCv (x.put 0 u 0) f
def Hq(a:List Fm)(g:List Ty)(b:List Fm):Prop:=(∀f∈a,f.tq [])/\∀f∈b,f.tq g
class PB:Prop extends PA where
 un:∀{ls:List Fm}{g:List Ty}{hs:List Fm}{j:Jt}{f:Fm},j.D ls g hs->j.p.W ls g hs f->FCv j.f f
 cv:∀{ls:List Fm}{g:List Ty}{hs:List Fm}{p:Pf}{f f':Fm},p.W ls g hs f->FCv f f'->p.W ls g hs f'
 ft:∀{f g x:Fm},FCv f g->FCv g x->FCv f x
 pc:∀{f:Fm}{t u:Tm},Cv t u->FCv (f.put 0 t 0) (f.put 0 u 0)
 hc:∀{ls:List Fm}{g:List Ty}{hs:List Fm}{p:Pf}{x y f:Fm},p.W ls g (hs++[x]) f->FCv y x->p.W ls g (hs++[y]) f
 tq:∀{ls:List Fm}{g:List Ty}{hs:List Fm}{j:Jt},Hq ls g hs->j.D ls g hs->j.f.tq g
 mx:∀{g:List Ty}{f:Fm},f.tq g->f.mx<=g.length+f.cnt
 mt:∀{g:List Ty}{t:Tm}{s:Ty},t.tyR g=.ok s->t.mx<=g.length+t.cnt
 up1:∀{g:List Ty}{s:Ty}{f:Fm},f.tq g->(f.sh 0 1).tq (g++[s])
 up2:∀{g:List Ty}{s u:Ty}{f:Fm},f.tq g->(f.sh 0 2).tq (g++[s,u])
 si:∀{g:List Ty}{f:Fm},f.tq (g++[.list])->(f.sh 1 1).tq (g++[.nat,.list])
 oc:∀{f g y:Fm},VA f=some g->FCv f y->y.occ 0=0->g.occ 0=0
def uR(e:Nat)(a:List Fm)(g:List Ty)(b:List Fm)(p:Pf):Prop:=Hq a g b->∀f,p.W a g b f->Lm e
def BH{a:List Fm}{g:List Ty}{b:List Fm}{j:Jt}(h:j.D a g b):j.f.chk=0:=by
 cases j<;>first|exact h.1|exact h.1.1
def Au{f:Fm}{t:Tm}(h:f.chk=0)(k:t.chk=0)(a:max f.mx (t.mx+f.cnt)<=536870912)(a:(f.put 0 t 0).cnt<=4096):(f.put 0 t 0).sm:=by
 have:=nI 0 t f 0;refine⟨Fm.chk_i (qL 0 t f 0 (.inl ?_) (Fm.chk0 h).2) a,by omega⟩
 grind[Tm.chk]
def uP{f:Fm}{s:Tm}(h:(f.put 0 s 0).cnt<=4096):f.pt s=.ok (f.put 0 s 0):=by
 have a:(f.put 0 s 0).cnt+f.occ 0=f.cnt+f.occ 0*s.cnt:=iJ 0 s f 0;have a:=fE s;have a:f.occ 0*s.cnt=f.occ 0*(s.cnt-1)+f.occ 0:=by
  have:s.cnt=(s.cnt-1)+1:=by omega
  rw[this,Nat.mul_succ];simp
 unfold Fm.pt;rw[if_pos (by omega)]
def zL:∀(t:Tm)(d:Nat),t.occ d=0->t.put 0 (.v 0) d=t.sh (d+1) (-1)
 |.v i,d,h=>by
  simp only[Tm.occ]at h;simp only[Tm.put,Tm.sh];by_cases e:i=d
  ·rw[if_pos e]at h;cases h
  rw[if_neg (by omega)];by_cases f:d<i
  ·rw[if_pos (by omega),if_pos (by omega)];simp;omega
  rw[if_neg (by omega),if_neg (by omega)]
 |.lam s b,d,h=>by simp only[Tm.put,Tm.sh];rw[zL b (d+1) h]|.n0 _,_,_=>rfl|.n1 _ a,d,h=>by simp only[Tm.put,Tm.sh];rw[zL a d h]|.n2 _ a b,d,h=>by simp only[Tm.occ]at h;simp only[Tm.put,Tm.sh];rw[zL a d (by omega),zL b d (by omega)]|.n3 _ _ a b c,d,h=>by simp only[Tm.occ]at h;simp only[Tm.put,Tm.sh];rw[zL a d (by omega),zL b d (by omega),zL c d (by omega)]
def Th:∀(f:Fm)(d:Nat),f.occ d=0->f.put 0 (.v 0) d=f.sh (d+1) (-1)
 :=by intro x;induction x<;>simp_all[Fm.occ,Fm.put,Fm.sh,zL]
abbrev VC(u:List Nat):Prop:=u.Pairwise (· < ·)
def NZ{n x:Nat}:∀{l:List Nat},x∈RA n l->x+n∈l
 |[],h=>by cases h
 |y::r,h=>by
  simp only[RA]at h;split at h
  ·rcases List.mem_cons.1 h with rfl|h
   ·rw[Nat.sub_add_cancel (by assumption)];simp
   exact List.mem_cons_of_mem _ (NZ h)
  exact List.mem_cons_of_mem _ (NZ h)
def OZ(n:Nat):∀{l:List Nat},VC l->VC (RA n l)
 |[],_=>List.Pairwise.nil|y::r,h=>by
  obtain⟨b,a⟩:=List.pairwise_cons.1 h;simp only[RA];split
  ·refine List.pairwise_cons.2 ⟨λz c=>?_,OZ n a⟩;have:=b _ (NZ c);omega
  exact OZ n a
def Uh{l:List Nat}(h:VC l):∃r,A 263 [JA l] (.bool r)/\(r=false->0∉l)/\(l=[]->r=false):=by
 cases l with
 |nil=>exact⟨false,f0 [],(λ_ h=>by cases h),λ_=>rfl⟩|cons x r=>
  have e:fA (.ofNat 0) (.ofNat ((x::r).map ic).length)=true:=NA (by simp);have g:=kB (c:=ic) (g:=x::r) (k:=0) rfl YK;by_cases c:x=0
  ·subst c;exact⟨true,f3 [5,(8,.i (ic 0)),10] e g (cH 0),(λh=>nomatch h),λh=>nomatch h⟩
  refine⟨false,f3 [5,(8,.i (ic x)),10] e g (VE c),λ_ a=>?_,λ_=>rfl⟩;rcases List.mem_cons.1 a with a|a
  ·omega
  have:=(List.pairwise_cons.1 h).1 0 a;omega
inductive PR where|er (n:Nat)|ok (f:Fm) (u:List Nat)
def PR.k:PR->Nat|.er _=>0|.ok f _=>f.kd
def PR.tk:PR->Nat|.er _=>0|.ok f _=>f.tk
def PR.te:PR->List (List PV)|.er _=>[]|.ok f _=>f.te
def PR.ts:PR->List (List PV)|.er _=>[]|.ok f _=>f.ts
def PR.es:PR->List (List PV)|.er _=>[]|.ok f _=>f.es
def PR.u:PR->List Nat|.er _=>[]|.ok _ u=>u
def PR.e:PR->Nat|.er n=>n+1|.ok _ _=>0
def PR.p(r:PR):PV:=.tuple [.agg [num r.k,num r.tk,.slice r.te,.slice r.ts,.slice r.es,JA r.u],num r.e]
def FO(M:Nat)(f:Fm):Prop:=f.cnt<=4096/\f.mx<=M/\f.tsz<=qA
abbrev rA:Nat:=8388608
structure Pre(ls:List Fm)(g:List Ty)(hs:List Fm)(M:Nat)(p:Pf):Prop where
 l1:∀f∈ls,FO M f
 h1:∀f∈hs,FO M f
 g1:∀s∈g,s.size<=qA
 gl:g.length<=1024
 hl:hs.length<=1000
 ll:ls.length<=1024
 cnt:p.cnt<=65536
 tsz:p.tsz<=qA
 mx:p.mx<=M
 mb:M+rA*p.cnt<=mB
def PR.Good(a:List Fm)(g:List Ty)(b:List Fm)(M:Nat)(p:Pf):PR->Prop|.er n=>uR (n+1) a g b p|.ok f u=>FO (M+rA*p.cnt) f/\(f.has=false->u=[])/\(∃j:Jt,j.p=p/\j.f=f/\j.D a g b/\∀v,j.us v->v∈u)/\VC u/\(∀x∈u,x<=M+rA*p.cnt)/\u.length<=p.cnt
def KD(p:Pf):Prop:=∀a g b M,Pre a g b M p->∃r:PR,A 82 [dB a g b,p.p] r.p/\r.Good a g b M p
structure MF:Prop where
 uses:∀t:Tm,t.cnt<=qA->t.tsz<=qA->t.mx<=qA*qA->∃(u:List Nat)(e:Nat),A 327 [t.p] (.tuple [JA u,num e])/\(t.chk=0->e=0/\∀v,t.occ v≠0->v∈u)/\(∀x∈u,x<=t.mx)/\u.length<=t.cnt/\VC u
 union:∀a b:List Nat,a.length+b.length<=qA->(∀x∈a,x<=yA)->(∀x∈b,x<=yA)->∃u:List Nat,A 205 [JA a,JA b] (JA u)/\(∀v,v∈a\/v∈b->v∈u)/\(∀v∈u,v∈a\/v∈b)/\u.length<=a.length+b.length/\VC u
def MU(H:MF)(t:Tm)(a:t.cnt<=qA)(b:t.tsz<=qA)(c:t.mx<=qA*qA):∃u:List Nat,A 264 [t.p] (JA u)/\(t.chk=0->∀v,t.occ v≠0->v∈u)/\(∀x∈u,x<=t.mx)/\u.length<=t.cnt/\VC u:=by
 obtain⟨u,e,d,f,g,i⟩:=H.uses t a b c;exact⟨u,f1 [7] d,λh=>(f h).2,g,i⟩
def bP(f:Fm)(s:Tm)(a:f.cnt<=qA)(b:f.mx<=qA*qA)(c:f.tsz<=qA)(d:s.cnt<=qA)(e:s.mx<=qA*qA)(g:s.tsz<=qA:=by omega):∃r:FR,A 265 [f.p,s.p] r.p/\((∃n,r=.er n/\(f.sm->s.sm->n=3))\/r=.ok (f.put 0 s 0)/\(f.put 0 s 0).cnt<=4096):=by
 obtain⟨r,h,i⟩:=ru f s a b c d e g;exact⟨r,f1 [8] h,i⟩
def FR.Nrm(f:Fm):FR->Prop|.er e=>f.sm->Lm (e+1)|.ok a=>VA f=some a/\a.mx<=f.mx+1001*4096/\a.tsz<=f.tsz/\a.cnt<=4096*f.cnt
def NU:∀f:Fm,f.cnt<=yA->f.mx<=mB->f.tsz<=qA->∃r:FR,A 268 [f.p] r.p/\r.Nrm f
 |.eq a b,i,j,l=>by
  have:=vA;have:=fE a;have:=fE b;simp only[Fm.cnt,Fm.mx,Fm.tsz]at i j l;obtain⟨r,c,d,n1,z⟩:=aU a (by omega) (by grind);obtain⟨s,o,p,n2,B⟩:=aU b (by omega) (by grind)
  cases r with
  |er e=>exact⟨.er e,f1 [28] c,λh=>z (dN h).1 e rfl⟩|ok x n=>cases s with
   |er e=>exact⟨.er e,f2 [28,28] c o,λh=>B (dN h).2 e rfl⟩|ok y m=>
    obtain⟨t,u,v⟩:=d;obtain⟨C,D,E⟩:=p;exact⟨.ok (.eq x y),f2 [28,28] c o,by simp only[VA,n1 _ _ rfl,n2 _ _ rfl],by grind[Fm.mx],by grind[Fm.tsz],by grind[Fm.cnt]⟩
 |.bin k f g,i,j,l=>by
  simp only[Fm.cnt,Fm.mx,Fm.tsz]at i j l;obtain⟨r,c,d⟩:=NU f (by omega) (by omega) (by omega);obtain⟨s,o,p⟩:=NU g (by omega) (by omega) (by omega)
  cases r with
  |er e=>exact⟨.er e,f1 [52] c,λh=>d (fN h).1⟩|ok x=>cases s with
   |er e=>exact⟨.er e,f2 [52,52] c o,λh=>p (fN h).2⟩|ok y=>
    obtain⟨w,t,u,v⟩:=d;obtain⟨I,C,D,E⟩:=p;exact⟨.ok (.bin k x y),f2 [52,52] c o,by grind[VA],by grind[Fm.mx],by grind[Fm.tsz],by grind[Fm.cnt]⟩
 |.q k s f,i,j,l=>by
  simp only[Fm.cnt,Fm.mx,Fm.tsz]at i j l;obtain⟨r,c,d⟩:=NU f (by omega) (by omega) (by omega)
  cases r with
  |er e=>exact⟨.er e,f1 [52] c,λh=>d (DU h)⟩|ok x=>
   obtain⟨w,t,u,v⟩:=d;exact⟨.ok (.q k s x),f1 [52] c,by simp only[VA,w],by simp only[Fm.mx];omega,by simp only[Fm.tsz];omega,by simp only[Fm.cnt];omega⟩
def PZ[PA](i:List Fm)(g:List Ty)(j:List Fm)(t:Tm)(n:Nat)(l:∀s∈g,s.size<=qA)(o:t.tsz<=qA:=by omega)(p:g.length+t.cnt<=qA:=by omega):∃e,A 214 [dB i g j,t.p,num n] (num e)/\(e=0->t.chk=0/\∃s,t.tyR g=.ok s/\s.kd=n)/\∀u,t.chk=0->Ht g t u->u.kd=n->e=0\/Lm e:=by
 obtain⟨r,a,v,b,f⟩:=xU g t l o p
 cases r with
 |er e=>exact⟨e+1,f1 [13] a,(nofun),λu h k _=>.inr (by rcases f u h k with e|⟨m,e,h⟩<;>cases e;exact h)⟩|ok s=>
  by_cases c:s.kd=n
  ·exact⟨0,f2 [13,22] a (wC c),(λ_=>⟨(b s rfl).1,s,(b s rfl).2,c⟩),λ_ _ _ _=>.inl rfl⟩
  exact⟨7,f2 [13,22] a (TC c),(nofun),λu h k d=>by rcases f u h k with e|⟨m,e,h⟩<;>cases e;omega⟩
open Go.Lg
structure RR where
 k:Nat
 tk:Nat
 te:List (List PV)
 ts:List (List PV)
 es:List (List PV)
 u:List Nat
 e:Nat
def RR.row(c:RR):List PV:=[num c.k,num c.tk,.slice c.te,.slice c.ts,.slice c.es]
def RR.p(c:RR):PV:=.tuple [.agg c.row,JA c.u,num c.e]
def RR.of(f:Fm)(u:List Nat)(e:Nat):RR:=⟨f.kd,f.tk,f.te,f.ts,f.es,u,e⟩
abbrev RR.er(n:Nat):RR:=⟨0,0,[],[],[],[],n+1⟩
structure RG(ls:List Fm)(g:List Ty)(hs:List Fm)(M:Nat)(p:Pf)(f:Fm)(u:List Nat):Prop where
 cnt:f.cnt<=qA
 mx:f.mx<=M+rA*p.cnt
 tsz:f.tsz<=qA
 j:∃j:Jt,j.p=p/\j.f=f/\(f.chk=0->j.D ls g hs)/\∀v,j.us v->v∈u
 asc:VC u
 le:∀x∈u,x<=M+rA*p.cnt
 len:u.length<=p.cnt
def RR.Good(a:List Fm)(g:List Ty)(b:List Fm)(M:Nat)(p:Pf)(c:RR):Prop:=(c.e=0->∃f:Fm,c=.of f c.u 0/\RG a g b M p f c.u)/\(c.e≠0->uR c.e a g b p)
def rF(F:Nat)(p:Pf):Prop:=∀a g b M,Pre a g b M p->∃c:RR,A F [dB a g b,p.p] c.p/\c.Good a g b M p
def RR.good_er{a:List Fm}{g:List Ty}{d:List Fm}{M:Nat}{p:Pf}{c:RR}(h:c.e≠0)(b:uR c.e a g d p):c.Good a g d M p:=⟨λe=>absurd e h,λ_=>b⟩
def RR.ok{a:List Fm}{g:List Ty}{b:List Fm}{M:Nat}{p:Pf}{c:RR}(h:c.e=0->∃f:Fm,c=.of f c.u 0/\RG a g b M p f c.u)(e:c.e=0:=by rfl):c.Good a g b M p:=⟨h,λk=>absurd e k⟩
def Bu{j:Jt}{v:Nat}(h:j.us v):j.f.has=true:=by
 cases j<;>simp only[Jt.us]at h<;>first|exact h.1|exact h.elim
def sI{p:Pf}(H:rF 144 p):KD p:=by
 intro z g A M B;have G:=vA;have I:=uA;obtain⟨c,i,t⟩:=H z g A M B;obtain⟨k,tk,te,ts,es,u,e⟩:=c
 cases e with
 |succ n=>exact⟨.er n,f1 [14] i,t.2 (Nat.succ_ne_zero n)⟩|zero=>
  obtain⟨f,C,R⟩:=t.1 rfl;cases C;have d:=uN f R.tsz (by have:=R.cnt;omega)
  cases a:f.chk with
  |succ n=>rw[a]at d;exact⟨.er 3,f2 [14,23] i d,λ_ _ _=>by decide⟩|zero=>
   rw[a]at d;obtain⟨b,J,l,D⟩:=tu f R.tsz (by have:=R.cnt;omega);obtain⟨rfl,rfl⟩:=D a;have w:FO (M+rA*p.cnt) f:=⟨(Fm.chk0 a).1,R.mx,R.tsz⟩;cases m:f.has
   ·rw[m]at l;obtain⟨j,r,o,s,y⟩:=R.j;exact⟨.ok f [],f3 [14,23,28] i d l,w,(λ_=>rfl),⟨j,r,o,s a,λv E=>by have:=Bu E;rw[o,m]at this;cases this⟩,List.Pairwise.nil,(λx F=>by cases F),Nat.zero_le _⟩
   rw[m]at l;obtain⟨j,r,o,s,y⟩:=R.j;exact⟨.ok f u,f3 [14,23,28] i d l,w,(λh=>nomatch h.symm.trans m),⟨j,r,o,s a,y⟩,R.asc,R.le,R.len⟩
def dP[PB]{p:Pf}(H:KD p)(a:List Fm)(g:List Ty)(b:List Fm)(M:Nat)(m:Pre a g b M p)(f:Fm)(t:Tm)(z:f.cnt<=qA)(B:f.mx<=qA*qA)(C:f.tsz<=qA)(F:t.cnt<=qA)(G:t.mx<=qA*qA)(I:t.tsz<=qA:=by omega)(P:max f.mx (t.mx+f.cnt)<=mB:=by omega):
  ∃(u:List Nat)(e:Nat),A 266 [dB a g b,p.p,f.p,t.p] (.tuple [JA u,num e])/\(e=0->∃d,PR.Good a g b M p (.ok d u)/\∃w,f.pt t=.ok w/\w.mt d)/\(∀x∈u,x<=M+rA*p.cnt)/\u.length<=p.cnt/\(f.chk=0->t.chk=0->max f.mx (t.mx+f.cnt)<=536870912->Hq a g b->p.W a g b (f.put 0 t 0)->e=0\/Lm e):=by
 have:=vA;have:=uA;obtain⟨r,o,c⟩:=H a g b M m
 cases r with
 |er n=>exact⟨[],n+1,f1 [16] o,(nofun),(λx s=>by cases s),Nat.zero_le _,λ_ _ _ h k=>.inr (c h _ k)⟩|ok d u=>
  obtain⟨r,D,v⟩:=bP f t z B C F G I;rcases v with ⟨n,rfl,v⟩|⟨rfl,E⟩
  ·exact⟨[],n+1,f2 [16,25] o D,(nofun),(λx s=>by cases s),Nat.zero_le _,λh k l _ _=>.inr (by rw[v ⟨h,by omega⟩ ⟨k,by omega⟩];decide)⟩
  have i:=c.1;have:=nI 0 t f 0;have:=oJ 0 t f 0;obtain⟨e,L,N,O⟩:=FU (f.put 0 t 0) d (by omega) (by omega) (by omega) (by have:=i.1;omega) (by have:=i.2.1;have:=m.mb;omega) i.2.2;refine⟨u,e,f3 [16,25,36] o D L,(λh=>⟨d,c,_,uP E,N h⟩),c.2.2.2.2.1,c.2.2.2.2.2,λh k l q w=>?_⟩;obtain⟨j,rfl,rfl,y,_⟩:=c.2.2.1;have z:=PB.mx (PB.tq q y);have B:=m.gl;have C:=i.1;exact O (FCv.symm (PB.un y w)) (Au h k l E) ⟨BH y,by omega⟩
def Pre.to{e:List Fm}{g d:List Ty}{i b:List Fm}{M c:Nat}{p a:Pf}(h:Pre e g i M p)(i:M<=c)(j:∀f∈b,FO c f)(k:∀s∈d,s.size<=qA)(gl:d.length<=1024)(l:b.length<=1000)(m:a.cnt<=p.cnt)(n:a.tsz<=p.tsz)(o:a.mx<=p.mx)(r:c+rA*a.cnt<=mB):Pre e d b c a:=
 ⟨λf b=>⟨(h.l1 f b).1,Nat.le_trans (h.l1 f b).2.1 i,(h.l1 f b).2.2⟩,j,k,gl,l,h.ll,Nat.le_trans m h.cnt,Nat.le_trans n h.tsz,Nat.le_trans o (Nat.le_trans h.mx i),r⟩
theorem Pre.sub{b:List Fm}{g:List Ty}{c:List Fm}{M:Nat}{p a:Pf}(h:Pre b g c M p)(d:a.cnt<=p.cnt)(e:a.tsz<=p.tsz)(f:a.mx<=p.mx):Pre b g c M a:=
 h.to (Nat.le_refl _) h.h1 h.g1 h.gl h.hl d e f (Nat.le_trans (Nat.add_le_add_left (Nat.mul_le_mul_left _ d) M) h.mb)
def FO.up{M a:Nat}{f:Fm}(h:FO M f)(b:M<=a):FO a f:=⟨h.1,Nat.le_trans h.2.1 b,h.2.2⟩
theorem FO.sh{M:Nat}{f:Fm}(h:FO M f)(n:Nat):FO (M+n) (f.sh 0 (.ofNat n)):=by
 have:(f.sh 0 (.ofNat n)).mx<=f.mx+n:=VK (.ofNat n) f 0;refine⟨by rw[XE];exact h.1,?_,by rw[bN];exact h.2.2⟩;have:=h.2.1;omega
theorem FO.hyp{M:Nat}{f:Fm}(h:FO M f)(a:M<=mB):f.mx<=qA*qA/\f.cnt<=qA:=by
 have:=vA;have:=h.1;have:=h.2.1;simp only[mB]at a;omega
def OU{a:List Fm}{M:Nat}(h:∀f∈a,FO M f)(n:Nat):∀f∈a.map (Fm.sh 0 (.ofNat n)),FO (M+n) f:=by
 intro f b;obtain⟨c,d,rfl⟩:=List.mem_map.1 b;exact(h c d).sh n
def bR{n:Nat}(h:n+1=0\/n+1=3):Lm (n+1):=by omega
def Hq.up1[PB]{a:List Fm}{g:List Ty}{b:List Fm}(h:Hq a g b)(s:Ty):Hq a (g++[s]) (b.map (Fm.sh 0 1)):=⟨h.1,λf c=>by
 obtain⟨x,d,rfl⟩:=List.mem_map.1 c;exact PB.up1 (h.2 x d)⟩
def Hq.up2[PB]{a:List Fm}{g:List Ty}{b:List Fm}(h:Hq a g b)(s u:Ty):Hq a (g++[s,u]) (b.map (Fm.sh 0 2)):=⟨h.1,λf c=>by
 obtain⟨x,d,rfl⟩:=List.mem_map.1 c;exact PB.up2 (h.2 x d)⟩
def Hq.snoc{b:List Fm}{g:List Ty}{c:List Fm}(h:Hq b g c){x:Fm}(k:x.tq g):Hq b g (c++[x]):=⟨h.1,λf d=>by
 rcases List.mem_append.1 d with a|a
 ·exact h.2 f a
 simp at a;subst a;exact k⟩
def Cu[PB](u:Bool)(s:Ty){a:Pf}(H:KD a):rF 208 (.all u s a):=by
 intro p g t M c;have T:=vA;have I:rA=8388608:=rfl;have:=c.gl;have:=c.hl;have C:=c.mb;have:max a.tsz s.size<=qA:=c.tsz;have:1+a.cnt<=65536:=c.cnt;have D:rA*(1+a.cnt)=rA+rA*a.cnt:=by rw[Nat.mul_add,Nat.mul_one]
 have d:M+rA*(1+a.cnt)<=mB:=C;rw[D]at d;obtain⟨e,j,J⟩:=wR p g t 1 0
 cases e with
 |succ n=>cases u<;>exact⟨.er n,f1 [11] j,RR.good_er (Nat.succ_ne_zero n) (λ_ _ _=>bR J.2)⟩
 |zero=>
  have A:=JZ p g s t (by omega) (by omega) (λf Y=>(c.h1 f Y).hyp (by omega));have E:Pre p (g++[s]) (t.map (Fm.sh 0 1)) (M+1) a:=c.to (by omega) (OU c.h1 1) (by intro x m;rcases List.mem_append.1 m with h|h;exact c.g1 x h;simp at h;subst h;omega) (by simp;omega) (by simpa using c.hl) (by show a.cnt<=1+a.cnt;omega) (by show a.tsz<=max a.tsz s.size;omega) (Nat.le_refl _) (by omega);obtain⟨r,B,K⟩:=H _ _ _ _ E
  cases r with
  |er n=>cases u<;>exact⟨.er n,f3 [11,21,26] j A B,RR.good_er (Nat.succ_ne_zero n) (λq f ⟨_,y,w,_⟩=>K (q.up1 s) y w)⟩
  |ok f w=>
   obtain⟨F,_,Z,L,N,q5⟩:=K;obtain⟨i,j1,rfl,j3,O⟩:=Z;have hw:∀x∈w,x<=yA:=λx m=>by have:=N x m;have:=uA;simp only[mB,T]at d;omega
   have P:=KU 1 w (by omega) hw;have Q:∀k:FQ,aq u=k->(u=true->¬i.us 0)->RG p g t M (.all u s a) (.q k s i.f) (RA 1 w):=by
    intro k I hu;refine⟨?_,?_,?_,?_,?_,?_,?_⟩
    ·have:=F.1;simp only[Fm.cnt];omega
    ·have:=F.2.1;show i.f.mx<=M+rA*(1+a.cnt);rw[D];omega
    ·have:=F.2.2;simp only[Fm.tsz];omega
    ·subst I;exact⟨.all u s i,by rw[<-j1];rfl,rfl,λhc=>⟨hc,(J.1 rfl).1,j3,hu⟩,λv hv=>IU (O _ hv.2)⟩
    ·exact OZ 1 L
    ·intro x m;have o:∀{l:List Nat},x∈RA 1 l->∃y∈l,x+1=y:=by
      intro l
      induction l with
      |nil=>intro h;cases h
      |cons y r R=>
       intro h;simp only[RA]at h;split at h
       ·rcases List.mem_cons.1 h with rfl|h
        ·exact⟨y,by simp,by omega⟩
        obtain⟨z,o,G⟩:=R h;exact⟨z,by simp[o],G⟩
       obtain⟨z,o,G⟩:=R h;exact⟨z,by simp[o],G⟩
     obtain⟨y,hy,hxy⟩:=o m;have:=N y hy;show x<=M+rA*(1+a.cnt);rw[D];omega
    have:=JU 1 w;show(RA 1 w).length<=1+a.cnt;omega
   cases u
   ·exact⟨.of (.q .all s i.f) (RA 1 w) 0,f5 [11,21,26,40,43] j A B (cU .all s i.f) P,RR.ok λ_=>⟨_,rfl,Q _ rfl λh=>nomatch h⟩⟩
   obtain⟨b,S,h0⟩:=Uh L;cases b
   ·exact⟨.of (.q .allU s i.f) (RA 1 w) 0,f6 [11,21,26,46,52,55] j A B S (cU .allU s i.f) P,RR.ok λ_=>⟨_,rfl,Q _ rfl λ_ h=>h0.1 rfl (O 0 h)⟩⟩
   exact⟨.er 11,f4 [11,21,26,46] j A B S,RR.good_er (Nat.succ_ne_zero 11) (λ_ f w=>nomatch w.1)⟩
open Go.Lg
def Du[PB](H:MF)(u:Bool)(t:Tm){a:Pf}(Ha:KD a):rF 209 (.ins u t a):=by
 intro p g B M C;have T:=vA;have:=uA;have hk:rA=8388608:=rfl;have U:mB=qA*qA-1001*4096:=rfl;have:=C.gl;have V:M+rA*(1+t.cnt+a.cnt)<=mB:=C.mb;have:max t.tsz a.tsz<=qA:=C.tsz;have:max t.mx a.mx<=M:=C.mx;have:1+t.cnt+a.cnt<=65536:=C.cnt;have Q:rA*(1+t.cnt+a.cnt)=rA+rA*t.cnt+rA*a.cnt:=by rw[Nat.mul_add,Nat.mul_add,Nat.mul_one]
 rw[Q]at V;rw[T]at U;have N:t.mx<=qA*qA:=by rw[T];omega
 obtain⟨r,j,_,q0,p0⟩:=xU g t C.g1
 cases r with
 |er n=>cases u<;>exact⟨.er n,f1 [22] j,RR.good_er (Nat.succ_ne_zero n) (λq f ⟨W,s,x,X,_⟩=>by rcases p0 s W X with e|⟨m,e,h⟩<;>cases e;exact h)⟩
 |ok s=>
  obtain⟨b,i⟩:=q0 s rfl;have Y:Pre p g B M a:=C.sub (by show a.cnt<=1+t.cnt+a.cnt;omega) (by show a.tsz<=max t.tsz a.tsz;omega) (by show a.mx<=max t.mx a.mx;omega);obtain⟨r,D,F⟩:=Ha _ _ _ _ Y
  cases r with
  |er n=>cases u<;>exact⟨.er n,f2 [22,35] j D,RR.good_er (Nat.succ_ne_zero n) (λq f ⟨_,_,_,_,w,_⟩=>F q _ w)⟩
  |ok f w=>
   obtain⟨F,_,⟨Z,j1,G,I,j4⟩,q3,q4,q5⟩:=F;have un:∀{f'},a.W p g B f'->FCv f f':=λw=>G▸PB.un I (by rw[j1];exact w)
   obtain⟨w',J,p1,p2,p3,pA⟩:=MU H t (by omega) (by omega) N;obtain⟨w2,K,p4,p5,p6,pB⟩:=H.union w w' (by omega) (λx hx=>by have:=q4 x hx;omega) (λx hx=>by have:=p2 x hx;omega);have E:∀n:Nat,f.kd≠bn u 4 6->∃c:RR,A 209 [dB p g B,(Pf.ins u t a).p] c.p/\c.Good p g B M (.ins u t a):=by
    intro _ O;cases u<;>exact⟨.er 9,f5 [22,35,45,46,56] j D J K (TC O),RR.good_er (Nat.succ_ne_zero 9) (λq f' ⟨_,_,_,_,w,_⟩=>absurd (un w).kd O)⟩
   have P:∀(k:FQ)(y:Ty)(x:Fm),f=.q k y x->k.n=bn u 4 6->∃c:RR,A 209 [dB p g B,(Pf.ins u t a).p] c.p/\c.Good p g B M (.ins u t a):=by
    intro k y x hf d;subst hf;have:1+x.cnt<=4096:=F.1;have:x.mx<=M+rA*a.cnt:=F.2.1;have:max y.size x.tsz<=qA:=F.2.2;have L:=YD y s;cases e1:y.same s<;>rw[e1]at L
    ·cases u<;>exact⟨.er 6,f6 [22,35,45,46,56,62] j D J K (wC d) L,RR.good_er (Nat.succ_ne_zero 6) (λq f' ⟨_,v,_,X,w,_⟩=>by
      cases un w;rcases PB.toPA.ht X with e|e<;>rw[i]at e<;>cases e;exact absurd e1 (by rw[(nD _ _).2 rfl];decide))⟩
    obtain⟨r,R,S⟩:=bP x t (by omega) (by rw[T];omega) (by omega) (by omega) N;rcases S with ⟨n,rfl,S⟩|⟨rfl,p8⟩
    ·cases u
     ·exact⟨⟨0,0,[],[],[],w2,n+1⟩,f7 [22,35,45,46,56,62,72] j D J K (wC d) L R,RR.good_er (Nat.succ_ne_zero n) (λq _ _=>by
       have l:=PB.mx (PB.tq q I);rw[G]at l;have l:x.mx<=g.length+(1+x.cnt):=l;have h2:=PB.mt i;have o:=BH I;rw[G]at o;rw[S (DZ o) ⟨b,by omega⟩];exact(by decide:Lm (3+1)))⟩
     exact⟨⟨0,0,[],[],[],w,n+1⟩,f7 [22,35,45,46,56,62,72] j D J K (wC d) L R,RR.good_er (Nat.succ_ne_zero n) (λq _ _=>by
      have l:=PB.mx (PB.tq q I);rw[G]at l;have l:x.mx<=g.length+(1+x.cnt):=l;have h2:=PB.mt i;have o:=BH I;rw[G]at o;rw[S (DZ o) ⟨b,by omega⟩];exact(by decide:Lm (3+1)))⟩
    have hk:k=aq u:=FQ.inj (d.trans (by cases u<;>rfl));have hD:(x.put 0 t 0).chk=0->(Jt.ins u t Z (x.put 0 t 0)).D p g B:=λW=>⟨W,b,I,s,x,i,by rw[G,hk,(nD y s).1 e1],uP p8⟩
    have l:=nI 0 t x 0;have h2:=oJ 0 t x 0;have o:(x.put 0 t 0).mx<=M+rA*(1+t.cnt+a.cnt):=by rw[Q];omega
    cases u
    ·refine⟨.of (x.put 0 t 0) w2 0,f7 [22,35,45,46,56,62,72] j D J K (wC d) L R,RR.ok λ_=>⟨_,rfl,⟨by show(x.put 0 t 0).cnt<=qA;omega,o,by show(x.put 0 t 0).tsz<=qA;omega,⟨.ins false t Z _,by rw[<-j1];rfl,rfl,hD,λv hv=>?_⟩,pB,λz hz=>?_,by show w2.length<=1+t.cnt+a.cnt;omega⟩⟩⟩
     ·rcases hv.2 with h|⟨_,h⟩
      ·exact p4 v (.inl (j4 v h))
      exact p4 v (.inr (p1 b v h))
     rcases p5 z hz with h|h
     ·have:=q4 z h;show z<=M+rA*(1+t.cnt+a.cnt);rw[Q];omega
     have:=p2 z h;omega
    refine⟨.of (x.put 0 t 0) w 0,f7 [22,35,45,46,56,62,72] j D J K (wC d) L R,RR.ok λ_=>⟨_,rfl,⟨by show(x.put 0 t 0).cnt<=qA;omega,o,by show(x.put 0 t 0).tsz<=qA;omega,⟨.ins true t Z _,by rw[<-j1];rfl,rfl,hD,λv hv=>?_⟩,q3,(λz hz=>by have:=q4 z hz;show z<=M+rA*(1+t.cnt+a.cnt);rw[Q];omega),by show w.length<=1+t.cnt+a.cnt;omega⟩⟩⟩;rcases hv.2 with h|⟨h,_⟩
    ·exact j4 v h
    cases h
   cases f with
   |eq x y=>exact E 0 (by cases u<;>exact nofun)|bin k x y=>exact E 0 (by cases u<;>cases k<;>exact nofun)|q k y x=>
    by_cases h:k.n=bn u 4 6
    ·exact P k y x rfl h
    exact E 0 h
def Eu[PB](H:MF)(u:Bool)(f:Fm)(t:Tm){a:Pf}(Ha:KD a):rF 210 (.ex u f t a):=by
 intro B g C M o;have S:=vA;have:=uA;have:rA=8388608:=rfl;have T:mB=qA*qA-1001*4096:=rfl;have:=o.gl;have U:M+rA*(1+t.cnt+f.cnt+a.cnt)<=mB:=o.mb;have:max (max t.tsz f.tsz) a.tsz<=qA:=o.tsz;have:max (max t.mx f.mx) a.mx<=M:=o.mx;have:1+t.cnt+f.cnt+a.cnt<=65536:=o.cnt;have V:rA*(1+t.cnt+f.cnt+a.cnt)=rA+rA*t.cnt+rA*f.cnt+rA*a.cnt:=by rw[Nat.mul_add,Nat.mul_add,Nat.mul_add,Nat.mul_one]
 rw[V]at U;rw[S]at T;have K:t.mx<=qA*qA:=by rw[S];omega
 obtain⟨e,p,L,p0⟩:=qR g f o.g1
 cases e with
 |succ n=>cases u<;>exact⟨.er n,f1 [25] p,RR.good_er (Nat.succ_ne_zero n) (λq F ⟨⟨h,k⟩,_⟩=>(p0 h k).resolve_left (Nat.succ_ne_zero n))⟩
 |zero=>
  have W:=Fm.chk0 (L rfl).1;have D:f.kd≠bn u 5 7->∃c:RR,A 210 [dB B g C,(Pf.ex u f t a).p] c.p/\c.Good B g C M (.ex u f t a):=by
   intro N;cases u<;>exact⟨.er 9,f2 [25,36] p (TC N),RR.good_er (Nat.succ_ne_zero 9) (λq F ⟨_,_,s,y,_,e,_⟩=>absurd (by rw[e];rfl) N)⟩
  have O:∀(k:FQ)(y:Ty)(x:Fm),f=.q k y x->k.n=bn u 5 7->∃c:RR,A 210 [dB B g C,(Pf.ex u f t a).p] c.p/\c.Good B g C M (.ex u f t a):=by
   intro k y x hf b;subst hf;have:1+x.cnt<=4096:=W.1;have:x.mx<=M:=by have:(Fm.q k y x).mx=x.mx:=rfl;omega
   have X:x.tsz<=qA:=by have:(Fm.q k y x).tsz=max y.size x.tsz:=rfl;omega
   obtain⟨r,G,_,q1,Y⟩:=xU g t o.g1
   cases r with
   |er n=>cases u<;>exact⟨.er n,f3 [25,36,42] p (wC b) G,RR.good_er (Nat.succ_ne_zero n) (λq F ⟨_,hc,s,y,Z,_⟩=>by rcases Y s hc Z with e|⟨m,e,h⟩<;>cases e;exact h)⟩
   |ok s=>
    obtain⟨d,j⟩:=q1 s rfl;have I:=YD y s;cases J:y.same s<;>rw[J]at I
    ·cases u<;>exact⟨.er 6,f4 [25,36,42,52] p (wC b) G I,RR.good_er (Nat.succ_ne_zero 6) (λq F ⟨_,_,v,_,Z,e,_⟩=>by
      cases e;rcases PB.toPA.ht Z with e|e<;>rw[j]at e<;>cases e;exact absurd J (by rw[(nD _ _).2 rfl];decide))⟩
    have hpa:Pre B g C M a:=o.sub (by show a.cnt<=1+t.cnt+(Fm.q k y x).cnt+a.cnt;omega) (by show a.tsz<=max (max t.tsz (Fm.q k y x).tsz) a.tsz;omega) (by show a.mx<=max (max t.mx (Fm.q k y x).mx) a.mx;omega);have:x.mx<=g.length+(1+x.cnt):=PB.mx (tD _ _ (L rfl).2);have:=PB.mt j;obtain⟨w,e,P,q2,b1,b2,b3⟩:=dP Ha B g C M hpa x t (by omega) (by rw[S];omega) X (by omega) K;have hB:e≠0->uR e B g C (.ex u (.q k y x) t a):=λl q F ⟨_,_,v,y',_,J,w,_⟩=>by
     cases J;exact(b3 (DZ (L rfl).1).1 d (by omega) q w).resolve_left l
    obtain⟨w',g5,p1,p2,p3,pA⟩:=MU H t (by omega) (by omega) K;cases u
    ·by_cases l:e=0
     ·subst l;obtain⟨F,⟨q3,_,⟨ja,j1,j2,j3,j4⟩,q5,Q,q7⟩,wf,hw,E⟩:=q2 rfl;obtain⟨R,g6,p4,p5,p6,pB⟩:=H.union w w' (by omega) (λz i=>by have:=Q z i;omega) (λz i=>by have:=p2 z i;omega);refine⟨.of (.q k y x) R 0,f7 [25,36,42,52,66,73,74] p (wC b) G I P g5 g6,RR.ok λ_=>⟨_,rfl,⟨by show 1+x.cnt<=qA;omega,by show(Fm.q k y x).mx<=M+_;omega,by show(Fm.q k y x).tsz<=qA;omega,⟨.ex false (.q k y x) t ja,by rw[<-j1];rfl,rfl,λ_=>⟨L rfl,d,j3,s,x,wf,j,by rw[FQ.inj (b.trans rfl:k.n=(AH false).n),(nD y s).1 J],hw,by rw[j2];exact E⟩,λv hv=>?_⟩,pB,λz i=>?_,by show R.length<=1+t.cnt+(Fm.q k y x).cnt+a.cnt;omega⟩⟩⟩
      ·rcases hv.2 with h|⟨_,h⟩
       ·exact p4 v (.inl (j4 v h))
       exact p4 v (.inr (p1 d v h))
      rcases p5 z i with h|h
      ·have:=Q z h;show z<=M+rA*(1+t.cnt+(Fm.q k y x).cnt+a.cnt);rw[V];omega
      have:=p2 z h;omega
     obtain⟨n,rfl⟩:=Nat.exists_eq_succ_of_ne_zero l;obtain⟨R,g6,_⟩:=H.union w w' (by omega) (λz i=>by have:=b1 z i;omega) (λz i=>by have:=p2 z i;omega);exact⟨.of (.q k y x) R (n+1),f7 [25,36,42,52,66,73,74] p (wC b) G I P g5 g6,RR.good_er (Nat.succ_ne_zero n) (hB l)⟩
    by_cases l:e=0
    ·subst l;obtain⟨F,⟨q3,_,⟨ja,j1,j2,j3,j4⟩,q5,Q,q7⟩,wf,hw,E⟩:=q2 rfl;refine⟨.of (.q k y x) w 0,f5 [25,36,42,52,66] p (wC b) G I P,RR.ok λ_=>⟨_,rfl,⟨by show 1+x.cnt<=qA;omega,by show(Fm.q k y x).mx<=M+_;omega,by show(Fm.q k y x).tsz<=qA;omega,⟨.ex true (.q k y x) t ja,by rw[<-j1];rfl,rfl,λ_=>⟨L rfl,d,j3,s,x,wf,j,by rw[FQ.inj (b.trans rfl:k.n=(AH true).n),(nD y s).1 J],hw,by rw[j2];exact E⟩,λv hv=>?_⟩,q5,(λz i=>by have:=Q z i;show z<=M+rA*(1+t.cnt+(Fm.q k y x).cnt+a.cnt);rw[V];omega),by show w.length<=1+t.cnt+(Fm.q k y x).cnt+a.cnt;omega⟩⟩⟩;rcases hv.2 with h|⟨h,_⟩
     ·exact j4 v h
     cases h
    obtain⟨n,rfl⟩:=Nat.exists_eq_succ_of_ne_zero l;exact⟨.of (.q k y x) w (n+1),f5 [25,36,42,52,66] p (wC b) G I P,RR.good_er (Nat.succ_ne_zero n) (hB l)⟩
  cases f with
  |eq x y=>exact D (by cases u<;>exact nofun)|bin k x y=>exact D (by cases u<;>cases k<;>exact nofun)|q k y x=>
   by_cases h:k.n=bn u 5 7
   ·exact O k y x rfl h
   exact D h
open Go.Lg
def QZ(g:List Ty)(s:Ty):OA (g++[s])=.slice (g.map Ty.c++[s.c]):=by simp[OA]
def PU{g:List Ty}{s:Ty}(a:∀s∈g,s.size<=qA)(a:s.size<=qA:=by omega):∀x∈g++[s],x.size<=qA:=by
 grind
def Fu[PB]{a:List Fm}{g:List Ty}{c:List Fm}{f:Fm}{x y:Tm}{d:Jt}(b:g.length<=1024)(b:f.chk=0/\f.ty (g++[.nat]))(i:d.f=.eq x y)(e:d.D a g c)(q:Hq a g c):(x.sm/\y.sm/\f.sm)/\max f.mx (x.mx+f.cnt)<=536870912:=by
 have a:=BH e;have h:=PB.mx (PB.tq q e);rw[i]at a h;have h:max x.mx y.mx<=g.length+(1+x.cnt+y.cnt):=h;have k:=PB.mx (tD _ _ b.2);rw[List.length_append]at k;have k:f.mx<=g.length+1+f.cnt:=k;have c:=(Fm.chk0 b.1).1;have c:1+x.cnt+y.cnt<=4096:=(Fm.chk0 a).1;have:=dN ⟨a,(by show max x.mx y.mx<=_;omega)⟩;exact⟨⟨this.1,this.2,b.1,by omega⟩,by omega⟩
def Gu[PB](f:Fm){a b:Pf}(V:KD a)(W:KD b):rF 215 (.subst f a b):=by
 intro u g A M i;have B:=vA;have:rA=8388608:=rfl;have D:mB=qA*qA-1001*4096:=rfl;have E:=i.gl;have F:M+rA*(1+f.cnt+a.cnt+b.cnt)<=mB:=i.mb;have:max (max f.tsz a.tsz) b.tsz<=qA:=i.tsz;have:max (max f.mx a.mx) b.mx<=M:=i.mx;have:1+f.cnt+a.cnt+b.cnt<=65536:=i.cnt;have G:rA*(1+f.cnt+a.cnt+b.cnt)=rA+rA*f.cnt+rA*a.cnt+rA*b.cnt:=by rw[Nat.mul_add,Nat.mul_add,Nat.mul_add,Nat.mul_one]
 rw[G]at F;rw[B]at D;have l:=vR g;have m:=lF 2 32 Ty.c_len (by decide) g .nat (by omega) (by simp only[maxLen];omega);obtain⟨e,j,C,p0⟩:=CU (g++[.nat]) f (PU i.g1 (by decide)) (by omega) (by simp;omega);rw[QZ]at j
 cases e with
 |succ n=>exact⟨.er n,f3 [(25,.ok),(28,.ok),30] l m j,RR.good_er (Nat.succ_ne_zero n) (λq f' ⟨⟨h,k⟩,_⟩=>(p0 h k).resolve_left (Nat.succ_ne_zero n))⟩|zero=>
  have:=Fm.chk0 (C rfl).1;have H:Pre u g A M a:=i.sub (by show a.cnt<=1+f.cnt+a.cnt+b.cnt;omega) (by show a.tsz<=max (max f.tsz a.tsz) b.tsz;omega) (by show a.mx<=max (max f.mx a.mx) b.mx;omega);have I:Pre u g A M b:=i.sub (by show b.cnt<=1+f.cnt+a.cnt+b.cnt;omega) (by show b.tsz<=max (max f.tsz a.tsz) b.tsz;omega) (by show b.mx<=max (max f.mx a.mx) b.mx;omega);obtain⟨r,o,p⟩:=V _ _ _ _ H
  cases r with
  |er n=>exact⟨.er n,f4 [(25,.ok),(28,.ok),30,41] l m j o,RR.good_er (Nat.succ_ne_zero n) (λq f' ⟨_,_,_,w,_⟩=>p q _ w)⟩|ok R w=>
   obtain⟨p,_,⟨ja,S,J,K,_⟩,_,_,_⟩:=p;have un:∀{f'},a.W u g A f'->FCv R f':=λw=>J▸PB.un K (by rw[S];exact w)
   cases R with
   |bin k x y=>exact⟨.er 9,f5 [(25,.ok),(28,.ok),30,41,51] l m j o (show(!fB (.ofNat (Fm.bin k x y).kd) (.ofNat 1))=true from TC (by cases k<;>exact nofun)),RR.good_er (Nat.succ_ne_zero 9) (λq f' ⟨_,_,_,w,_⟩=>by cases un w)⟩|q k s x=>exact⟨.er 9,f5 [(25,.ok),(28,.ok),30,41,51] l m j o (show(!fB (.ofNat (Fm.q k s x).kd) (.ofNat 1))=true from TC (by cases k<;>exact nofun)),RR.good_er (Nat.succ_ne_zero 9) (λq f' ⟨_,_,_,w,_⟩=>by cases un w)⟩|eq x y=>
    have:1+x.cnt+y.cnt<=4096:=p.1;have:max x.mx y.mx<=M+rA*a.cnt:=p.2.1;have:max x.tsz y.tsz<=qA:=p.2.2;have:f.mx<=M:=by omega
    have T:Hq u g A->(x.sm/\y.sm/\f.sm)/\max f.mx (x.mx+f.cnt)<=536870912:=Fu E (C rfl) J K;obtain⟨L,e,N,q2,b1,b2,b3⟩:=dP W u g A M I f x (by omega) (by rw[B];omega) (by omega) (by omega) (by rw[B];omega);by_cases O:e=0
    ·subst O;obtain⟨f',⟨q3,_,⟨jb,k1,k2,k3,k4⟩,q5,q6,q7⟩,wf,hw,P⟩:=q2 rfl;obtain⟨r,U,Q⟩:=bP f y (by omega) (by rw[B];omega) (by omega) (by omega) (by rw[B];omega);rcases Q with ⟨n,rfl,Q⟩|⟨rfl,q9⟩
     ·exact⟨⟨0,0,[],[],[],L,n+1⟩,f6 [(25,.ok),(28,.ok),30,41,65,79] l m j o N U,RR.good_er (Nat.succ_ne_zero n) (λq _ _=>by
       have h:=(T q).1;rw[Q h.2.2 h.2.1];exact(by decide:Lm (3+1)))⟩
     have:=nI 0 y f 0;have:=oJ 0 y f 0;exact⟨.of (f.put 0 y 0) L 0,f6 [(25,.ok),(28,.ok),30,41,65,79] l m j o N U,RR.ok λ_=>⟨_,rfl,⟨by show(f.put 0 y 0).cnt<=qA;omega,by show(f.put 0 y 0).mx<=M+rA*(1+f.cnt+a.cnt+b.cnt);rw[G];omega,by show(f.put 0 y 0).tsz<=qA;omega,⟨.subst f ja jb _,by rw[<-S,<-k1];rfl,rfl,λhc=>⟨hc,C rfl,K,k3,x,y,wf,J,hw,by rw[k2];exact P,uP q9⟩,λv hv=>k4 v hv.2⟩,q5,(λz hz=>by have:=q6 z hz;show z<=M+rA*(1+f.cnt+a.cnt+b.cnt);rw[G];omega),by show L.length<=1+f.cnt+a.cnt+b.cnt;omega⟩⟩⟩
    obtain⟨n,rfl⟩:=Nat.exists_eq_succ_of_ne_zero O;exact⟨.er n,f5 [(25,.ok),(28,.ok),30,41,65] l m j o N,RR.good_er (Nat.succ_ne_zero n) (λq f' ⟨_,t,v,w,w',_⟩=>by
     have h:=T q
     cases un w with|eq c d=>exact(b3 (C rfl).1 h.1.1.1 h.2 q (PB.cv w' (PB.pc c.symm))).resolve_left O)⟩
def FCv.has{f g:Fm}(h:FCv f g):f.has=g.has:=by
 induction h with
 |eq h k=>rfl|bin k _ _ a b=>cases k<;>simp only[Fm.has,a,b]
 |q k s _ c=>cases k<;>simp only[Fm.has,c]
def Vh[PB](H:MF)(u:Bool){a b:Pf}(Ha:KD a)(Hb:KD b):rF 211 (.p2 (ek u) a b):=by
 intro i g j M m;have hm:=vA;have:=uA;have:rA=8388608:=rfl;have hcx:mB=qA*qA-1001*4096:=rfl;have:=m.gl;have:=m.hl;have hmb:M+rA*(1+a.cnt+b.cnt)<=mB:=m.mb;have:max a.tsz b.tsz<=qA:=m.tsz;have:max a.mx b.mx<=M:=m.mx;have:1+a.cnt+b.cnt<=65536:=m.cnt;have hK:rA*(1+a.cnt+b.cnt)=rA+rA*a.cnt+rA*b.cnt:=by rw[Nat.mul_add,Nat.mul_add,Nat.mul_one]
 rw[hK]at hmb;rw[hm]at hcx;have hpa:Pre i g j M a:=m.sub (by show a.cnt<=1+a.cnt+b.cnt;omega) (by show a.tsz<=max a.tsz b.tsz;omega) (by show a.mx<=max a.mx b.mx;omega);obtain⟨r,l,W⟩:=Ha _ _ _ _ hpa
 cases r with
 |er n=>cases u<;>exact⟨.er n,f1 [19] l,RR.good_er (Nat.succ_ne_zero n) (λq f' ⟨_,_,_,w,_⟩=>W q _ w)⟩
 |ok fa w=>
 obtain⟨W,_,⟨ja,j1,j2,j3,j4⟩,p2,p3,p4⟩:=W;have un:∀{f'},a.W i g j f'->FCv fa f':=λw=>j2▸PB.un j3 (by rw[j1];exact w)
 have T:fa.kd≠bn u 5 7->∃c:RR,A 211 [dB i g j,(Pf.p2 (ek u) a b).p] c.p/\c.Good i g j M (.p2 (ek u) a b):=by
  intro Y;cases u<;>exact⟨.er 9,f2 [19,33] l (TC Y),RR.good_er (Nat.succ_ne_zero 9) (λq f' ⟨_,_,_,w,_⟩=>absurd (un w).kd Y)⟩
 have Z:∀(k:FQ)(y:Ty)(x:Fm),fa=.q k y x->k.n=bn u 5 7->∃c:RR,A 211 [dB i g j,(Pf.p2 (ek u) a b).p] c.p/\c.Good i g j M (.p2 (ek u) a b):=by
  intro k y x hf d;subst hf;have:1+x.cnt<=4096:=W.1;have:x.mx<=M+rA*a.cnt:=W.2.1;have:max y.size x.tsz<=qA:=W.2.2;obtain⟨e,D,q2⟩:=wR i g j 1 1
  cases e with
  |succ n=>cases u<;>exact⟨.er n,f3 [19,33,36] l (wC d) D,RR.good_er (Nat.succ_ne_zero n) (λ_ _ _=>bR q2.2)⟩
  |zero=>
  have G:=JZ i g y j (by omega) (by omega) (λf hf=>(m.h1 f hf).hyp (by omega));have I:=HU i (g++[y]) (j.map (Fm.sh 0 1)) x (by simp;omega);have p:=q2.1 rfl;have U:∀f',(Pf.p2 (ek u) a b).W i g j f'->∃E,b.W i (g++[y]) (j.map (Fm.sh 0 1)++[x]) E/\E.occ 0=0/\(u=true->E.has=false):=λf' h=>by
   cases u
   ·obtain⟨s,x',E,w,J,o,_⟩:=h
    cases un w with|q _ _ c=>exact⟨E,PB.hc J c,o,λh=>nomatch h⟩
   obtain⟨s,x',E,w,J,o,_,c'⟩:=h
   cases un w with|q _ _ c=>exact⟨E,PB.hc J c,o,λ_=>c'⟩
  have hHb:Hq i g j->Hq i (g++[y]) (j.map (Fm.sh 0 1)++[x]):=λq=>(q.up1 y).snoc (by have h:=PB.tq q j3;rw[j2]at h;exact h)
  have hpb:Pre i (g++[y]) (j.map (Fm.sh 0 1)++[x]) (M+1+rA*a.cnt) b:=m.to (by omega) (by
   intro f hf;rcases List.mem_append.1 hf with h|h
   ·exact(OU m.h1 1 f h).up (by omega)
   simp at h;subst h;exact⟨by omega,by omega,by omega⟩) (PU m.g1) (by simp;omega) (by simp;omega) (by show b.cnt<=1+a.cnt+b.cnt;omega) (by show b.tsz<=max a.tsz b.tsz;omega) (by show b.mx<=max a.mx b.mx;omega) (by omega)
  obtain⟨r,K,V⟩:=Hb _ _ _ _ hpb
  cases r with
  |er n=>cases u<;>exact⟨.er n,f6 [19,33,36,47,53,58] l (wC d) D G I K,RR.good_er (Nat.succ_ne_zero n) (λq f' w=>by obtain⟨E,J,_⟩:=U f' w;exact V (hHb q) _ J)⟩
  |ok fb v=>
  obtain⟨V,hu0,⟨jb,k1,k2,k3,k4⟩,r2,r3,r4⟩:=V;have unb:∀{f'},b.W i (g++[y]) (j.map (Fm.sh 0 1)++[x]) f'->FCv fb f':=λw=>k2▸PB.un k3 (by rw[k1];exact w)
  have hsb:Hq i g j->fb.sm:=λq=>by
   have h:=PB.mx (PB.tq (hHb q) k3);have X:=BH k3;rw[k2]at h X;have h2:=V.1;rw[List.length_append]at h;exact⟨X,(by have h:fb.mx<=g.length+1+fb.cnt:=h;omega)⟩
  have hkk:k=AH u:=FQ.inj (d.trans (by cases u<;>rfl));have:=V.1;have:=V.2.1;have:=V.2.2;have hvb:∀z∈v,z<=yA:=λz t=>by have:=r3 z t;omega
  have:=JU 1 v;have hob:∀z∈RA 1 v,z<=M+1+rA*a.cnt+rA*b.cnt:=kR (λz t=>r3 z t);have L:=KU 1 v (by omega) hvb;obtain⟨R,N,s1,s2,s3,sA⟩:=H.union w (RA 1 v) (by omega) (λz t=>by have:=p3 z t;omega) (λz t=>by have:=hob z t;omega);have O:∀F:Fm,nC fb=some (F.sh 1 (-1))->(u=true->0∉v)->F.mx<=fb.mx+1001*4096->F.tsz<=fb.tsz->F.cnt<=4096*fb.cnt->RG i g j M (.p2 (ek u) a b) (F.sh 1 (-1)) R:=by
   intro F X h0 h2 h3 h4;have:(F.sh 1 (-1)).mx<=F.mx+0:=VK (-1) F 1;refine⟨by rw[XE];omega,?_,by rw[bN];omega,⟨.p2 (ek u) ja jb (F.sh 1 (-1)),by rw[<-j1,<-k1];rfl,rfl,λhc=>?_,λz t=>?_⟩,sA,λz t=>?_,by show R.length<=1+a.cnt+b.cnt;omega⟩
   ·show _<=M+rA*(1+a.cnt+b.cnt);rw[hK];omega
   ·have hx:ja.f=.q k y ja.f.bd/\jb.D i (g++[y]) (bA 1 j++[ja.f.bd]):=by rw[j2];exact⟨rfl,k3⟩
    rw[hkk]at hx;rw[<-k2]at X;cases u
    ·exact⟨hc,j3,⟨y,hx.1,hx.2⟩,p,X⟩
    exact⟨hc,j3,⟨y,hx.1,hx.2⟩,p,X,λh=>h0 rfl (k4 0 h)⟩
   ·rcases t.2 with h6|h6
    ·exact s1 z (.inl (j4 z h6))
    exact s1 z (.inr (IU (k4 _ (by cases u<;>exact h6))))
   show z<=M+rA*(1+a.cnt+b.cnt);rw[hK];rcases s2 z t with h|h
   ·have:=p3 z h;omega
   have:=hob z h;omega
  obtain⟨t1,S,o7⟩:=ZQ fb 0 (by omega);obtain⟨t3,P,WQ,o12'⟩:=Uh r2;have hu:u=true->t3=true->∀{e:Nat},uR e i g j (.p2 (ek u) a b):=λhu ht e q f' w=>by
   obtain⟨E,J,_,h⟩:=U f' w;rw[o12' (hu0 ((unb J).has.trans (h hu)))]at ht;cases ht
  cases t1
  ·have B:fb.occ 0=0:=Classical.byContradiction λh=>nomatch o7.2 h
   have C:nC fb=some (fb.sh 1 (-1)):=by unfold nC;rw[if_pos B,<-Th fb 0 B]
   have g9:=LG fb 1 (-1) (by omega) (by omega) (by rw[hm];omega) (by omega);cases u
   ·exact⟨.of (fb.sh 1 (-1)) R 0,fk [(19,.r (PR.ok (.q k y x) w).p),(33,.H),(36,.N 0),(47,.r (dB i (g++[y]) (j.map (Fm.sh 0 1)))),(53,.r (dB i (g++[y]) (j.map (Fm.sh 0 1)++[x]))),(58,.r (PR.ok fb v).p),(68,.F),(90,.r (fb.sh 1 (-1)).p),(95,.r (JA (RA 1 v))),(96,.r (JA R))]
     (And.intro l (And.intro (wC d) (And.intro D (And.intro G (And.intro I (And.intro K (And.intro S (And.intro g9 (And.intro L (And.intro N (Eq.refl (RR.of (fb.sh 1 (-1)) R 0).p))))))))))),RR.ok λ_=>⟨_,rfl,O fb C (λh=>nomatch h) (by omega) (Nat.le_refl _) (by omega)⟩⟩
   cases t3
   ·exact⟨.of (fb.sh 1 (-1)) R 0,uU [19,33,36,47,53,58,68,86,90,95,96] l (wC d) D G I K S P g9 L N,RR.ok λ_=>⟨_,rfl,O fb C (λ_=>WQ rfl) (by omega) (Nat.le_refl _) (by omega)⟩⟩
   exact⟨.er 11,f8 [19,33,36,47,53,58,68,86] l (wC d) D G I K S P,RR.good_er (Nat.succ_ne_zero 11) (hu rfl rfl)⟩
  obtain⟨r,g8,n1⟩:=NU fb (by omega) (by omega) (by omega)
  cases r with
  |er n=>cases u<;>exact⟨.er n,f8 [19,33,36,47,53,58,68,71] l (wC d) D G I K S g8,RR.good_er (Nat.succ_ne_zero n) (λq _ _=>n1 (hsb q))⟩
  |ok F=>
   obtain⟨n1,n2,n3,n4⟩:=n1;obtain⟨t2,Q,o13⟩:=ZQ F 0 (by omega);have g9:=LG F 1 (-1) (by omega) (by omega) (by rw[hm];omega) (by omega);cases t2
   ·have B:F.occ 0=0:=Classical.byContradiction λh=>nomatch o13.2 h
    have C:nC fb=some (F.sh 1 (-1)):=by unfold nC;rw[if_neg (o7.1 rfl),n1];simp only;rw[if_pos B,<-Th F 0 B]
    cases u
    ·exact⟨.of (F.sh 1 (-1)) R 0,bU [19,33,36,47,53,58,68,71,79,90,95,96] l (wC d) D G I K S g8 Q g9 L N,RR.ok λ_=>⟨_,rfl,O F C (λh=>nomatch h) n2 n3 n4⟩⟩
    cases t3
    ·exact⟨.of (F.sh 1 (-1)) R 0,dU [19,33,36,47,53,58,68,71,79,86,90,95,96] l (wC d) D G I K S g8 Q P g9 L N,RR.ok λ_=>⟨_,rfl,O F C (λ_=>WQ rfl) n2 n3 n4⟩⟩
    exact⟨.er 11,mJ [19,33,36,47,53,58,68,71,79,86] l (wC d) D G I K S g8 Q P,RR.good_er (Nat.succ_ne_zero 11) (hu rfl rfl)⟩
   cases u<;>exact⟨.er 5,f9 [19,33,36,47,53,58,68,71,79] l (wC d) D G I K S g8 Q,RR.good_er (Nat.succ_ne_zero 5) (λq f' w=>by
    obtain⟨E,J,o,_⟩:=U f' w;exact absurd (PB.oc n1 (unb J) o) (o13.1 rfl))⟩
 cases fa with
 |eq x y=>exact T (by cases u<;>exact nofun)|bin k x y=>exact T (by cases u<;>cases k<;>exact nofun)|q k y x=>
  by_cases h:k.n=bn u 5 7
  ·exact Z k y x rfl h
  exact T h
def Hu{s:Ty}(h:s.kd=2):s=.list:=by
 cases s with
 |list=>rfl|two k a b=>cases k<;>cases h
 |_=>cases h
def QU[PB]{g:List Ty}{u:Ty}{f:Fm}(a:g.length<=1024)(a:f.chk=0/\f.ty (g++[u])):f.mx<=6000:=by
 have h:=PB.mx (tD _ _ a.2);rw[List.length_append]at h;have h:f.mx<=g.length+1+f.cnt:=h;have:=(Fm.chk0 a.1).1;omega
def Wh[PB]{g:List Ty}{u:Ty}{f:Fm}(a:g.length<=1024)(b:f.chk=0/\f.ty (g++[u])):max f.mx (0+f.cnt)<=536870912:=by
 have:=QU a b;have:=(Fm.chk0 b.1).1;omega
def Xh[PB]{g:List Ty}{u:Ty}{f:Fm}(a:g.length<=1024)(b:f.chk=0/\f.ty (g++[u])){z m:Nat}(c:z<=2)(c:m<=2):max (f.sh 1 (.ofNat z)).mx (m+(f.sh 1 (.ofNat z)).cnt)<=536870912:=by
 have:=QU a b;have:=(Fm.chk0 b.1).1;have h:(f.sh 1 (.ofNat z)).mx<=f.mx+z:=VK (.ofNat z) f 1;rw[XE];omega
def Yh[PB]{g:List Ty}{t:Tm}{s:Ty}(a:g.length<=1024)(a:t.chk=0)(b:t.tyR g=.ok s)(h:t.cnt<=65536:=by omega):t.sm:=⟨a,by have:=PB.mt b;omega⟩
def Iu[PB](H:MF)(f:Fm)(t:Tm){a b:Pf}(Ha:KD a)(Hb:KD b):rF 212 (.ind false f t a b):=by
 intro d g i M j;have E:=vA;have:=uA;have:rA=8388608:=rfl;have W:mB=qA*qA-1001*4096:=rfl;have o:=j.gl;have:=j.hl;have X:M+rA*(1+t.cnt+f.cnt+a.cnt+b.cnt)<=mB:=j.mb;have:max (max (max t.tsz f.tsz) a.tsz) b.tsz<=qA:=j.tsz;have:max (max (max t.mx f.mx) a.mx) b.mx<=M:=j.mx;have:1+t.cnt+f.cnt+a.cnt+b.cnt<=65536:=j.cnt;have Y:rA*(1+t.cnt+f.cnt+a.cnt+b.cnt)=rA+rA*t.cnt+rA*f.cnt+rA*a.cnt+rA*b.cnt:=by rw[Nat.mul_add,Nat.mul_add,Nat.mul_add,Nat.mul_add,Nat.mul_one]
 rw[Y]at X;rw[E]at W;have:=fE t;have v:=vR g;have y:=lF 2 32 Ty.c_len (by decide) g .nat (by omega) (by simp only[maxLen];omega);obtain⟨e,p,u,p0⟩:=CU (g++[.nat]) f (PU j.g1 (by decide)) (by omega) (by simp;omega);rw[QZ]at p
 cases e with|succ n=>exact⟨.er n,f3 [(32,.ok),(35,.ok),37] v y p,RR.good_er (Nat.succ_ne_zero n) (λ_ _ ⟨⟨h,k⟩,_⟩=>(p0 h k).resolve_left (Nat.succ_ne_zero n))⟩|zero=>
 clear p0;have A:=Fm.chk0 (u rfl).1;obtain⟨e,F,q1,p1⟩:=PZ d g i t 1 j.g1
 cases e with|succ n=>exact⟨.er n,f4 [(32,.ok),(35,.ok),37,44] v y p F,RR.good_er (Nat.succ_ne_zero n) (λ_ _ ⟨_,⟨h,k⟩,_⟩=>(p1 _ h k rfl).resolve_left (Nat.succ_ne_zero n))⟩|zero=>
 obtain⟨l,G⟩:t.chk=0/\t.tyR g=.ok (lT false):=by
  obtain⟨Z,s,k2,k3⟩:=q1 rfl;exact⟨Z,by rw[k2,AU k3];rfl⟩
 clear q1 p1;have hpa:Pre d g i M a:=j.sub (by show a.cnt<=1+t.cnt+f.cnt+a.cnt+b.cnt;omega) (by show a.tsz<=max (max (max t.tsz f.tsz) a.tsz) b.tsz;omega) (by show a.mx<=max (max (max t.mx f.mx) a.mx) b.mx;omega);have I:=XQ 4;obtain⟨w,e,J,q2,b1,b2,b5⟩:=dP Ha d g i M hpa f (.n0 .zero) (by omega) (by rw[E];omega) (by omega) (by decide) (by decide) (by decide) (by simp only[Tm.mx];omega);by_cases K:e=0;rotate_left
 ·obtain⟨n,rfl⟩:=Nat.exists_eq_succ_of_ne_zero K;exact⟨.er n,f6 [(32,.ok),(35,.ok),37,44,56,57] v y p F I J,RR.good_er (Nat.succ_ne_zero n) (λq _ ⟨_,_,w,_⟩=>(b5 (u rfl).1 rfl (Wh o (u rfl)) q w).resolve_left (Nat.succ_ne_zero n))⟩
 subst K;clear b5;obtain⟨fa,⟨_,_,⟨ja,j1,j2,j3,j4⟩,_,_,_⟩,wa,hwa,hma⟩:=q2 rfl;obtain⟨e,U,q4⟩:=wR d g i 1 1
 cases e with|succ n=>exact⟨.er n,f7 [(32,.ok),(35,.ok),37,44,56,57,65] v y p F I J U,RR.good_er (Nat.succ_ne_zero n) (λ_ _ _=>bR q4.2)⟩|zero=>
 have B:=q4.1 rfl;clear q4;have g6:=JZ d g .nat i (by omega) (by omega) (λf hf=>(j.h1 f hf).hyp (by omega));have hf1:FO (M+1) f:=⟨A.1,by omega,by omega⟩;have g7:=HU d (g++[.nat]) (i.map (Fm.sh 0 1)) f (by simp;omega);have g8:=LG f 1 1 (by omega) (by omega) (by rw[E];omega) (by omega);have g9:=nU 5 (.v 0);have hpb:Pre d (g++[.nat]) (i.map (Fm.sh 0 1)++[f]) (M+1) b:=j.to (by omega) (by
  intro x hx;rcases List.mem_append.1 hx with h|h
  ·exact OU j.h1 1 x h
  ·simp at h;subst h;exact hf1) (by
  intro x hx;rcases List.mem_append.1 hx with h|h
  ·exact j.g1 x h
  simp at h;subst h;decide) (by simp;omega) (by simp;omega) (by show b.cnt<=1+t.cnt+f.cnt+a.cnt+b.cnt;omega) (by show b.tsz<=max (max (max t.tsz f.tsz) a.tsz) b.tsz;omega) (by show b.mx<=max (max (max t.mx f.mx) a.mx) b.mx;omega) (by omega)
 have:(f.sh 1 1).mx<=f.mx+1:=VK 1 f 1;have:(f.sh 1 1).cnt=f.cnt:=XE 1 f 1;have:(f.sh 1 1).tsz=f.tsz:=bN 1 f 1;obtain⟨m,e,C,q5,b3,b4,b6⟩:=dP Hb d (g++[.nat]) (i.map (Fm.sh 0 1)++[f]) (M+1) hpb (f.sh 1 1) (Tm.n1 .succ (.v 0)) (by omega) (by rw[E];omega) (by omega) (by decide) (by decide) (by decide) (by simp only[Tm.mx];omega);by_cases K:e=0;rotate_left
 ·obtain⟨n,rfl⟩:=Nat.exists_eq_succ_of_ne_zero K;exact⟨.er n,fk [(32,.ok),(35,.ok),(37,.N 0),(44,.N 0),(56,.r (Tm.n0 .zero).p),(57,.U [JA w,num 0]),(65,.N 0),(74,.r (dB d (g++[.nat]) (i.map (Fm.sh 0 1)))),(76,.r (dB d (g++[.nat]) (i.map (Fm.sh 0 1)++[f]))),(82,.r (f.sh 1 1).p),(85,.r (Tm.n1 .succ (.v 0)).p),(86,.U [JA m,num (n+1)])] (And.intro v (And.intro y (And.intro p (And.intro F (And.intro I (And.intro J (And.intro U (And.intro g6 (And.intro g7 (And.intro g8 (And.intro g9 (And.intro C (Eq.refl ((RR.er n).p)))))))))))))),RR.good_er (Nat.succ_ne_zero n) (λq _ ⟨_,_,_,w,_⟩=>(b6 (Fm.chk_i (by rw[yP];exact A.2) (by rw[XE];exact A.1)) rfl (Xh o (u rfl) (by decide) (by decide)) ((q.up1 .nat).snoc (tD _ _ (u rfl).2)) w).resolve_left (Nat.succ_ne_zero n))⟩
 subst K;clear b6;obtain⟨fb,⟨_,_,⟨jb,Z,k2,k3,k4⟩,_,_,_⟩,wb,hw2,hm2⟩:=q5 rfl;have L:t.mx<=qA*qA:=by rw[E];omega
 obtain⟨u1,N,p1,p2,p3,_⟩:=MU H t (by omega) (by omega) L;obtain⟨V,O,p4,p5,p6,_⟩:=H.union u1 w (by omega) (λz c=>by have:=p2 z c;omega) (λz c=>by have:=b1 z c;omega);have hwb:∀z∈m,z<=yA:=λz c=>by have:=b3 z c;omega
 have P:=KU 1 m (by omega) hwb;have:=JU 1 m;have Q:∀z∈RA 1 m,z<=M+1+rA*b.cnt:=kR (λz c=>b3 z c);have R:∀z∈V,z<=M+rA*a.cnt:=λz c=>by
  rcases p5 z c with h|h
  ·have:=p2 z h;omega
  exact b1 z h
 obtain⟨D,S,s1,s2,s3,sA⟩:=H.union V (RA 1 m) (by omega) (λz c=>by have:=R z c;omega) (λz c=>by have:=Q z c;omega);obtain⟨r,T,q8⟩:=bP f t (by omega) (by rw[E];omega) (by omega) (by omega) L;rcases q8 with ⟨n,rfl,q8⟩|⟨rfl,q9⟩
 ·exact⟨⟨0,0,[],[],[],D,n+1⟩,fk [(32,.ok),(35,.ok),(37,.N 0),(44,.N 0),(56,.r (Tm.n0 .zero).p),(57,.U [JA w,num 0]),(65,.N 0),(74,.r (dB d (g++[.nat]) (i.map (Fm.sh 0 1)))),(76,.r (dB d (g++[.nat]) (i.map (Fm.sh 0 1)++[f]))),(82,.r (f.sh 1 1).p),(85,.r (Tm.n1 .succ (.v 0)).p),(86,.U [JA m,num 0]),(96,.r (FR.er n).p),(101,.r (JA u1)),(103,.r (JA V)),(105,.r (JA (RA 1 m))),(106,.r (JA D))] (And.intro v (And.intro y (And.intro p (And.intro F (And.intro I (And.intro J (And.intro U (And.intro g6 (And.intro g7 (And.intro g8 (And.intro g9 (And.intro C (And.intro T (And.intro N (And.intro O (And.intro P (And.intro S (Eq.refl (RR.p (⟨0,0,[],[],[],D,n+1⟩)))))))))))))))))))),RR.good_er (Nat.succ_ne_zero n) (λ_ _ _=>by rw[q8 ⟨(u rfl).1,Nat.le_trans (QU o (u rfl)) (by decide)⟩ (Yh o l G)];exact(by decide:Lm (3+1)))⟩
 have h1:=nI 0 t f 0;have:=oJ 0 t f 0;refine⟨.of (f.put 0 t 0) D 0,fk [(32,.ok),(35,.ok),(37,.N 0),(44,.N 0),(56,.r (Tm.n0 .zero).p),(57,.U [JA w,num 0]),(65,.N 0),(74,.r (dB d (g++[.nat]) (i.map (Fm.sh 0 1)))),(76,.r (dB d (g++[.nat]) (i.map (Fm.sh 0 1)++[f]))),(82,.r (f.sh 1 1).p),(85,.r (Tm.n1 .succ (.v 0)).p),(86,.U [JA m,num 0]),(96,.r (FR.ok (f.put 0 t 0)).p),(101,.r (JA u1)),(103,.r (JA V)),(105,.r (JA (RA 1 m))),(106,.r (JA D))] (And.intro v (And.intro y (And.intro p (And.intro F (And.intro I (And.intro J (And.intro U (And.intro g6 (And.intro g7 (And.intro g8 (And.intro g9 (And.intro C (And.intro T (And.intro N (And.intro O (And.intro P (And.intro S (Eq.refl ((RR.of (f.put 0 t 0) D 0).p))))))))))))))))))),RR.ok λ_=>⟨_,rfl,⟨by show(f.put 0 t 0).cnt<=qA;omega,by show(f.put 0 t 0).mx<=M+rA*(1+t.cnt+f.cnt+a.cnt+b.cnt);rw[Y];omega,by show(f.put 0 t 0).tsz<=qA;omega,⟨.ind false f t ja jb _,by rw[<-j1,<-Z];rfl,rfl,λhc=>⟨hc,u rfl,⟨l,G⟩,⟨j3,wa,hwa,by rw[j2];exact hma⟩,B,⟨k3,wb,hw2,by rw[k2];exact hm2⟩,uP q9⟩,λz c=>?_⟩,sA,λz c=>?_,by show D.length<=1+t.cnt+f.cnt+a.cnt+b.cnt;omega⟩⟩⟩
 ·rcases c.2 with h|h|h
  ·exact s1 z (.inl (p4 z (.inl (p1 l z h))))
  ·exact s1 z (.inl (p4 z (.inr (j4 z h))))
  exact s1 z (.inr (IU (k4 _ h)))
 show z<=M+rA*(1+t.cnt+f.cnt+a.cnt+b.cnt);rw[Y];rcases s2 z c with h|h
 ·have:=R z h;omega
 have:=Q z h;omega
def Ju[PB](H:MF)(f:Fm)(t:Tm){a b:Pf}(Ha:KD a)(Hb:KD b):rF 213 (.ind true f t a b):=by
 intro d g i M j;have v:=vA;have:=uA;have:rA=8388608:=rfl;have W:mB=qA*qA-1001*4096:=rfl;have o:=j.gl;have:=j.hl;have X:M+rA*(1+t.cnt+f.cnt+a.cnt+b.cnt)<=mB:=j.mb;have:max (max (max t.tsz f.tsz) a.tsz) b.tsz<=qA:=j.tsz;have:max (max (max t.mx f.mx) a.mx) b.mx<=M:=j.mx;have:1+t.cnt+f.cnt+a.cnt+b.cnt<=65536:=j.cnt;have Y:rA*(1+t.cnt+f.cnt+a.cnt+b.cnt)=rA+rA*t.cnt+rA*f.cnt+rA*a.cnt+rA*b.cnt:=by rw[Nat.mul_add,Nat.mul_add,Nat.mul_add,Nat.mul_add,Nat.mul_one]
 rw[Y]at X;rw[v]at W;have:=fE t;have y:=vR g;have A:=lF 2 32 Ty.c_len (by decide) g .list (by omega) (by simp only[maxLen];omega);obtain⟨e,p,u,p0⟩:=CU (g++[.list]) f (PU j.g1 (by decide)) (by omega) (by simp;omega);rw[QZ]at p
 cases e with|succ n=>exact⟨.er n,f3 [(32,.ok),(35,.ok),37] y A p,RR.good_er (Nat.succ_ne_zero n) (λ_ _ ⟨⟨h,k⟩,_⟩=>(p0 h k).resolve_left (Nat.succ_ne_zero n))⟩|zero=>
 clear p0;have B:=Fm.chk0 (u rfl).1;obtain⟨e,F,q1,p1⟩:=PZ d g i t 2 j.g1
 cases e with|succ n=>exact⟨.er n,f4 [(32,.ok),(35,.ok),37,44] y A p F,RR.good_er (Nat.succ_ne_zero n) (λ_ _ ⟨_,⟨h,k⟩,_⟩=>(p1 _ h k rfl).resolve_left (Nat.succ_ne_zero n))⟩|zero=>
 obtain⟨l,G⟩:t.chk=0/\t.tyR g=.ok (lT true):=by
  obtain⟨Z,s,k2,k3⟩:=q1 rfl;exact⟨Z,by rw[k2,Hu k3];rfl⟩
 clear q1 p1;have hpa:Pre d g i M a:=j.sub (by show a.cnt<=1+t.cnt+f.cnt+a.cnt+b.cnt;omega) (by show a.tsz<=max (max (max t.tsz f.tsz) a.tsz) b.tsz;omega) (by show a.mx<=max (max (max t.mx f.mx) a.mx) b.mx;omega);have I:=XQ 7;obtain⟨w,e,J,q2,b1,b2,b5⟩:=dP Ha d g i M hpa f (.n0 .nil) (by omega) (by rw[v];omega) (by omega) (by decide) (by decide) (by decide) (by simp only[Tm.mx];omega);by_cases K:e=0;rotate_left
 ·obtain⟨n,rfl⟩:=Nat.exists_eq_succ_of_ne_zero K;exact⟨.er n,f6 [(32,.ok),(35,.ok),37,44,56,57] y A p F I J,RR.good_er (Nat.succ_ne_zero n) (λq _ ⟨_,_,w,_⟩=>(b5 (u rfl).1 rfl (Wh o (u rfl)) q w).resolve_left (Nat.succ_ne_zero n))⟩
 subst K;clear b5;obtain⟨fa,⟨_,_,⟨ja,j1,j2,j3,j4⟩,_,_,_⟩,wa,hwa,hma⟩:=q2 rfl;obtain⟨e,U,q4⟩:=wR d g i 2 1
 cases e with|succ n=>exact⟨.er n,f7 [(32,.ok),(35,.ok),37,44,56,57,65] y A p F I J U,RR.good_er (Nat.succ_ne_zero n) (λ_ _ _=>bR q4.2)⟩|zero=>
 have C:=q4.1 rfl;clear q4;have g6:=xu d g .nat .list i (by omega) (by omega) (λf hf=>(j.h1 f hf).hyp (by omega));have hf1:FO (M+2) (f.sh 1 1):=by have h:=VK 1 f 1;simp at h;exact⟨by rw[XE];exact B.1,by omega,by rw[bN];omega⟩
 have gh:=LG f 1 1 (by omega) (by omega) (by rw[v];omega) (by omega);have g7:=HU d (g++[.nat,.list]) (i.map (Fm.sh 0 2)) (f.sh 1 1) (by simp;omega);have g8:=LG f 1 2 (by omega) (by omega) (by rw[v];omega) (by omega);have g9:=JG 8 (.v 1) (.v 0);have hpb:Pre d (g++[.nat,.list]) (i.map (Fm.sh 0 2)++[(f.sh 1 1)]) (M+2) b:=j.to (by omega) (by
  intro x hx;rcases List.mem_append.1 hx with h|h
  ·exact OU j.h1 2 x h
  ·simp at h;subst h;exact hf1) (by
  intro x hx;rcases List.mem_append.1 hx with h|h
  ·exact j.g1 x h
  simp at h;rcases h with rfl|rfl<;>decide) (by simp;omega) (by simp;omega) (by show b.cnt<=1+t.cnt+f.cnt+a.cnt+b.cnt;omega) (by show b.tsz<=max (max (max t.tsz f.tsz) a.tsz) b.tsz;omega) (by show b.mx<=max (max (max t.mx f.mx) a.mx) b.mx;omega) (by omega)
 have:(f.sh 1 2).mx<=f.mx+2:=VK 2 f 1;have:(f.sh 1 2).cnt=f.cnt:=XE 2 f 1;have:(f.sh 1 2).tsz=f.tsz:=bN 2 f 1;obtain⟨m,e,D,q5,b3,b4,b6⟩:=dP Hb d (g++[.nat,.list]) (i.map (Fm.sh 0 2)++[(f.sh 1 1)]) (M+2) hpb (f.sh 1 2) (Tm.n2 .cons (.v 1) (.v 0)) (by omega) (by rw[v];omega) (by omega) (by decide) (by decide) (by decide) (by simp only[Tm.mx];omega);by_cases K:e=0;rotate_left
 ·obtain⟨n,rfl⟩:=Nat.exists_eq_succ_of_ne_zero K;exact⟨.er n,fk [(32,.ok),(35,.ok),(37,.N 0),(44,.N 0),(56,.r (Tm.n0 .nil).p),(57,.U [JA w,num 0]),(65,.N 0),(75,.r (dB d (g++[.nat,.list]) (i.map (Fm.sh 0 2)))),(77,.r (f.sh 1 1).p),(78,.r (dB d (g++[.nat,.list]) (i.map (Fm.sh 0 2)++[(f.sh 1 1)]))),(84,.r (f.sh 1 2).p),(88,.r (Tm.n2 .cons (.v 1) (.v 0)).p),(89,.U [JA m,num (n+1)])] (And.intro y (And.intro A (And.intro p (And.intro F (And.intro I (And.intro J (And.intro U (And.intro g6 (And.intro gh (And.intro g7 (And.intro g8 (And.intro g9 (And.intro D (Eq.refl ((RR.er n).p))))))))))))))),RR.good_er (Nat.succ_ne_zero n) (λq _ ⟨_,_,_,w,_⟩=>(b6 (Fm.chk_i (by rw[yP];exact B.2) (by rw[XE];exact B.1)) rfl (Xh o (u rfl) (by decide) (by decide)) ((q.up2 .nat .list).snoc (PB.si (tD _ _ (u rfl).2))) w).resolve_left (Nat.succ_ne_zero n))⟩
 subst K;clear b6;obtain⟨fb,⟨_,_,⟨jb,Z,k2,k3,k4⟩,_,_,_⟩,wb,hw2,hm2⟩:=q5 rfl;have L:t.mx<=qA*qA:=by rw[v];omega
 obtain⟨u1,N,p1,p2,p3,_⟩:=MU H t (by omega) (by omega) L;obtain⟨V,O,p4,p5,p6,_⟩:=H.union u1 w (by omega) (λz c=>by have:=p2 z c;omega) (λz c=>by have:=b1 z c;omega);have hwb:∀z∈m,z<=yA:=λz c=>by have:=b3 z c;omega
 have P:=KU 2 m (by omega) hwb;have:=JU 2 m;have Q:∀z∈RA 2 m,z<=M+2+rA*b.cnt:=kR (λz c=>b3 z c);have R:∀z∈V,z<=M+rA*a.cnt:=λz c=>by
  rcases p5 z c with h|h
  ·have:=p2 z h;omega
  exact b1 z h
 obtain⟨E,S,s1,s2,s3,sA⟩:=H.union V (RA 2 m) (by omega) (λz c=>by have:=R z c;omega) (λz c=>by have:=Q z c;omega);obtain⟨r,T,q8⟩:=bP f t (by omega) (by rw[v];omega) (by omega) (by omega) L;rcases q8 with ⟨n,rfl,q8⟩|⟨rfl,q9⟩
 ·exact⟨⟨0,0,[],[],[],E,n+1⟩,fk [(32,.ok),(35,.ok),(37,.N 0),(44,.N 0),(56,.r (Tm.n0 .nil).p),(57,.U [JA w,num 0]),(65,.N 0),(75,.r (dB d (g++[.nat,.list]) (i.map (Fm.sh 0 2)))),(77,.r (f.sh 1 1).p),(78,.r (dB d (g++[.nat,.list]) (i.map (Fm.sh 0 2)++[(f.sh 1 1)]))),(84,.r (f.sh 1 2).p),(88,.r (Tm.n2 .cons (.v 1) (.v 0)).p),(89,.U [JA m,num 0]),(99,.r (FR.er n).p),(104,.r (JA u1)),(106,.r (JA V)),(108,.r (JA (RA 2 m))),(109,.r (JA E))] (And.intro y (And.intro A (And.intro p (And.intro F (And.intro I (And.intro J (And.intro U (And.intro g6 (And.intro gh (And.intro g7 (And.intro g8 (And.intro g9 (And.intro D (And.intro T (And.intro N (And.intro O (And.intro P (And.intro S (Eq.refl (RR.p (⟨0,0,[],[],[],E,n+1⟩))))))))))))))))))))),RR.good_er (Nat.succ_ne_zero n) (λ_ _ _=>by rw[q8 ⟨(u rfl).1,Nat.le_trans (QU o (u rfl)) (by decide)⟩ (Yh o l G)];exact(by decide:Lm (3+1)))⟩
 have h1:=nI 0 t f 0;have:=oJ 0 t f 0;refine⟨.of (f.put 0 t 0) E 0,fk [(32,.ok),(35,.ok),(37,.N 0),(44,.N 0),(56,.r (Tm.n0 .nil).p),(57,.U [JA w,num 0]),(65,.N 0),(75,.r (dB d (g++[.nat,.list]) (i.map (Fm.sh 0 2)))),(77,.r (f.sh 1 1).p),(78,.r (dB d (g++[.nat,.list]) (i.map (Fm.sh 0 2)++[(f.sh 1 1)]))),(84,.r (f.sh 1 2).p),(88,.r (Tm.n2 .cons (.v 1) (.v 0)).p),(89,.U [JA m,num 0]),(99,.r (FR.ok (f.put 0 t 0)).p),(104,.r (JA u1)),(106,.r (JA V)),(108,.r (JA (RA 2 m))),(109,.r (JA E))] (And.intro y (And.intro A (And.intro p (And.intro F (And.intro I (And.intro J (And.intro U (And.intro g6 (And.intro gh (And.intro g7 (And.intro g8 (And.intro g9 (And.intro D (And.intro T (And.intro N (And.intro O (And.intro P (And.intro S (Eq.refl ((RR.of (f.put 0 t 0) E 0).p)))))))))))))))))))),RR.ok λ_=>⟨_,rfl,⟨by show(f.put 0 t 0).cnt<=qA;omega,by show(f.put 0 t 0).mx<=M+rA*(1+t.cnt+f.cnt+a.cnt+b.cnt);rw[Y];omega,by show(f.put 0 t 0).tsz<=qA;omega,⟨.ind true f t ja jb _,by rw[<-j1,<-Z];rfl,rfl,λhc=>⟨hc,u rfl,⟨l,G⟩,⟨j3,wa,hwa,by rw[j2];exact hma⟩,C,⟨k3,wb,hw2,by rw[k2];exact hm2⟩,uP q9⟩,λz c=>?_⟩,sA,λz c=>?_,by show E.length<=1+t.cnt+f.cnt+a.cnt+b.cnt;omega⟩⟩⟩
 ·rcases c.2 with h|h|h
  ·exact s1 z (.inl (p4 z (.inl (p1 l z h))))
  ·exact s1 z (.inl (p4 z (.inr (j4 z h))))
  exact s1 z (.inr (IU (k4 _ h)))
 show z<=M+rA*(1+t.cnt+f.cnt+a.cnt+b.cnt);rw[Y];rcases s2 z c with h|h
 ·have:=R z h;omega
 have:=Q z h;omega
end Go.Proofs.YtjobiknipefjdaaGreatDoor
