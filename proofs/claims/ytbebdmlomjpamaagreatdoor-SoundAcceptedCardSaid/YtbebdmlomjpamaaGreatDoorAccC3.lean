/- Contracts of functions; no conditions. -/
import Derived.Test.YtbebdmlomjpamaaGreatDoorAccC2
set_option linter.all false
set_option maxHeartbeats 4000000
namespace Go.Proofs.YtbebdmlomjpamaaGreatDoor
open Go.Lg
set_option maxRecDepth 100000
def FB.inj{k l:FB}(h:k.n=l.n):k=l:=by cases k<;>cases l<;>first|rfl|cases h
def FQ.inj{k l:FQ}(h:k.n=l.n):k=l:=by cases k<;>cases l<;>first|rfl|cases h
abbrev eB:Nat:=qA*qA-1001*4096
def Fm.mt:Fm->Fm->Prop|.eq a c,.eq b d=>a.mt b/\c.mt d|.bin k f g,.bin l e h=>k=l/\f.mt e/\g.mt h|.q k s f,.q l u g=>k=l/\s=u/\f.mt g|_,_=>False
def FCv.kd{a b:Fm}(h:FCv a b):a.kd=b.kd:=by cases h<;>rfl
def Fm.sm(f:Fm):Prop:=f.chk=0/\f.mx<=536870912
def cO{a b:Tm}(h:(Fm.eq a b).sm):a.sm/\b.sm:=by
 have⟨f,d⟩:=h;have⟨e,c⟩:=Fm.chk0 f;have e:1+a.cnt+b.cnt<=4096:=e;have d:max a.mx b.mx<=536870912:=d;have c:=vM c;exact⟨⟨Tm.chk_i c.1,a6⟩,Tm.chk_i c.2,a6⟩
def eO{k:FB}{a b:Fm}(h:(Fm.bin k a b).sm):a.sm/\b.sm:=by
 have⟨f,d⟩:=h;have⟨e,c⟩:=Fm.chk0 f;have e:1+a.cnt+b.cnt<=4096:=e;have d:max a.mx b.mx<=536870912:=d;have c:=vM c;exact⟨⟨Fm.chk_i c.1,a6⟩,Fm.chk_i c.2,a6⟩
def HW{k:FQ}{u:Ty}{a:Fm}(h:(Fm.q k u a).sm):a.sm:=by
 have⟨c,d⟩:=h;have⟨b,e⟩:=Fm.chk0 c;have b:1+a.cnt<=4096:=b;exact⟨Fm.chk_i (vM e).2,d⟩
def Vc{k:FQ}{u:Ty}{a:Fm}(h:(Fm.q k u a).chk=0)(b:a.mx<=536870912:=by omega):a.sm:=HW ⟨h,b⟩
def wM{a b:Fm}(h:a.kd≠b.kd):∃e,A 127 [a.p,b.p] (num e)/\(e=0->a.mt b)/\(FCv a b->a.sm->b.sm->e=0\/Lm e):=⟨11,f1 [13] (AD h),(λh=>nomatch h),λk=>absurd k.kd h⟩
def IW[PA]:∀a b:Fm,a.cnt<=bA->a.mx<=eB->a.tsz<=qA->b.cnt<=bA->b.mx<=eB->b.tsz<=qA->∃e,A 127 [a.p,b.p] (num e)/\(e=0->a.mt b)/\(FCv a b->a.sm->b.sm->e=0\/Lm e)
 |.eq a c,.eq b d,m,o,p,r,t,w=>by
  have B:=zA;simp only[Fm.cnt,Fm.mx,Fm.tsz]at m o p r t w;have⟨e,i,x,p1⟩:=El a b a6 (by simp only[eB,B]at *;omega) a6 a6 (by simp only[eB,B]at *;omega);have⟨j,y,D,p2⟩:=El c d a6 (by simp only[eB,B]at *;omega) a6 a6 (by simp only[eB,B]at *;omega);have z:FCv (.eq a c) (.eq b d)->(Fm.eq a c).sm->(Fm.eq b d).sm->(e=0\/Lm e)/\(j=0\/Lm j):=λh k l=>by
   cases h with|eq u v=>exact⟨p1 u (cO k).1 (cO l).1,p2 v (cO k).2 (cO l).2⟩
  cases e with
  |succ n=>exact⟨n+1,f2 [19,38] ZG i,(λh=>nomatch h),λh k l=>(z h k l).1⟩|zero=>cases j with|succ n=>exact⟨n+1,f3 [19,38,38] ZG i y,(λh=>nomatch h),λh k l=>(z h k l).2⟩|zero=>exact⟨0,f3 [19,38,38] ZG i y,(λ_=>⟨x rfl,D rfl⟩),λ_ _ _=>.inl rfl⟩
 |.bin k f g,.bin l E F,m,o,p,r,t,w=>by
  by_cases h:k=l
  ·subst h;simp only[Fm.cnt,Fm.mx,Fm.tsz]at m o p r t w;have⟨e,i,x,p1⟩:=IW f E a6 a6 a6 a6 a6 a6;have⟨j,y,D,p2⟩:=IW g F a6 a6 a6 a6 a6 a6;have z:FCv (.bin k f g) (.bin k E F)->(Fm.bin k f g).sm->(Fm.bin k E F).sm->(e=0\/Lm e)/\(j=0\/Lm j):=λh k l=>by
    cases h with|bin _ u v=>exact⟨p1 u (eO k).1 (eO l).1,p2 v (eO k).2 (eO l).2⟩
   cases e with
   |succ n=>exact⟨n+1,f3 [13,19,59] (MB k.n) ZG i,(λh=>nomatch h),λh k l=>(z h k l).1⟩|zero=>cases j with|succ n=>exact⟨n+1,f4 [13,19,59,59] (MB k.n) ZG i y,(λh=>nomatch h),λh k l=>(z h k l).2⟩|zero=>exact⟨0,f4 [13,19,59,59] (MB k.n) ZG i y,(λ_=>⟨rfl,x rfl,D rfl⟩),λ_ _ _=>.inl rfl⟩
  exact wM λe=>h (FB.inj e)
 |.q k s f,.q l u g,m,o,p,r,t,w=>by
  by_cases h:k=l
  ·subst h;simp only[Fm.cnt,Fm.mx,Fm.tsz]at m o p r t w;have C:=TE s u;cases es:s.same u<;>rw[es]at C
   ·exact⟨11,f2 [13,19] (MB k.n) C,(λh=>nomatch h),λh=>by cases h;rw[(BD s s).2 rfl]at es;cases es⟩
   have⟨e,i,x,p1⟩:=IW f g a6 a6 a6 a6 a6 a6
   cases e with|succ n=>exact⟨n+1,f3 [13,19,59] (MB k.n) C i,(λh=>nomatch h),λh u v=>by cases h with|q _ _ h=>exact p1 h (HW u) (HW v)⟩|zero=>exact⟨0,f3 [13,19,59] (MB k.n) C i,(λ_=>⟨rfl,(BD s u).1 es,x rfl⟩),λ_ _ _=>.inl rfl⟩
  exact wM λe=>h (FQ.inj e)
 |.eq _ _,.bin l _ _,_,_,_,_,_,_=>wM (by cases l<;>exact nofun)|.eq _ _,.q l _ _,_,_,_,_,_,_=>wM (by cases l<;>exact nofun)|.bin l _ _,.eq _ _,_,_,_,_,_,_=>wM (by cases l<;>exact nofun)|.bin k _ _,.q l _ _,_,_,_,_,_,_=>wM (by cases k<;>cases l<;>exact nofun)|.q l _ _,.eq _ _,_,_,_,_,_,_=>wM (by cases l<;>exact nofun)|.q k _ _,.bin l _ _,_,_,_,_,_,_=>wM (by cases k<;>cases l<;>exact nofun)
def Wc[PA](a b:Fm)(i:a.cnt<=bA:=by omega)(m:a.mx<=eB:=by omega)(j:a.tsz<=qA:=by omega)(k:b.cnt<=bA:=by omega)(o:b.mx<=eB:=by omega)(l:b.tsz<=qA:=by omega):∃e,A 44 [a.p,b.p] (num e)/\(e=0->a.mt b)/\(FCv a b->a.sm->b.sm->e=0\/Lm e):=by
 have c:=mJ a j i;have d:=mJ b l k
 cases f:a.chk with
 |succ n=>rw[f]at c;exact⟨n+1,f1 [8] c,(λh=>nomatch h),λ_ h=>nomatch h.1.symm.trans f⟩|zero=>
  rw[f]at c
  cases g:b.chk with
  |succ n=>rw[g]at d;exact⟨n+1,f2 [8,13] c d,(λh=>nomatch h),λ_ _ h=>nomatch h.1.symm.trans g⟩|zero=>
   rw[g]at d;have⟨e,p,r⟩:=IW a b i m j k o l;exact⟨e,f3 [8,13,19] c d p,r⟩
inductive FR where|er (n:Nat)|ok (f:Fm)
def FR.k:FR->Nat|.er _=>0|.ok f=>f.kd
def FR.tk:FR->Nat|.er _=>0|.ok f=>f.tk
def FR.te:FR->List (List PV)|.er _=>[]|.ok f=>f.te
def FR.ts:FR->List (List PV)|.er _=>[]|.ok f=>f.ts
def FR.es:FR->List (List PV)|.er _=>[]|.ok f=>f.es
def FR.n:FR->Nat|.er n=>n+1|.ok _=>0
def FR.p(r:FR):PV:=.tuple [.agg [num r.k,num r.tk,.slice r.te,.slice r.ts,.slice r.es],num r.n]
def Fl(f:Fm)(s:Tm)(H:f.cnt<=qA)(w:f.mx<=qA*qA)(x:f.tsz<=qA)(y:s.cnt<=qA)(z:s.mx<=qA*qA)(I:s.tsz<=qA):∃r:FR,A 203 [f.p,num 0,s.p] r.p/\((∃n,r=.er n/\(f.sm->s.sm->n=3))\/r=.ok (f.put 0 s 0)/\(f.put 0 s 0).cnt<=4096):=by
 have B:=zA;have J:=yA;have a:=mJ f x
 cases g:f.chk with
 |succ n=>rw[g]at a;exact⟨.er n,f1 [11] a,.inl ⟨n,rfl,λh=>nomatch h.1.symm.trans g⟩⟩|zero=>
  rw[g]at a;have b:=XG s
  cases i:s.chk with
  |succ n=>rw[i]at b;exact⟨.er n,f2 [11,24] a b,.inl ⟨n,rfl,λ_ h=>nomatch h.1.symm.trans i⟩⟩|zero=>
   rw[i]at b;have⟨p,d,C⟩:=VS f 536870912;have⟨q,j,D⟩:=LH s 536870912;cases p
   ·exact⟨.er 0,f3 [11,24,30] a b d,.inl ⟨0,rfl,λh=>nomatch C.2 h.2⟩⟩
   cases q
   ·exact⟨.er 0,f4 [11,24,30,34] a b d j,.inl ⟨0,rfl,λ_ h=>nomatch D.2 h.2⟩⟩
   have m:=nF f a6;have o:=DW f 0 a6;have t:=lB s a6;have E:=UE s;have u:=lC E;have K:=MH f 0;have F:f.occ 0*(s.cnt-1)<=qA*qA:=aaV a6 a6;have G:f.occ 0*s.cnt=f.occ 0*(s.cnt-1)+f.occ 0:=by
    have:s.cnt=(s.cnt-1)+1:=a6
    rw[this,abk];simp
   have k:=aK 0 s f 0;simp only[ia]at k;have l:=F;rw[B]at l;have v:=Bl (a:=f.occ 0) (b:=s.cnt-1);have c:=EB (a:=f.cnt) (b:=f.occ 0*(s.cnt-1));cases e:dA (.ofNat 4096) (.ofNat (f.cnt+f.occ 0*(s.cnt-1)))
   ·refine⟨.ok (f.put 0 s 0),sW [11,24,30,34,39,42,44,45,(46,.ok),(47,.ok),48,53,54] a b d j m o t u v c e (CW f 0 0 s z y w a6) (mE (f.put 0 s 0)),.inr ⟨rfl,?_⟩⟩;rw[vC]at e;have:=of_decide_eq_false e;simp at this;omega
   exact⟨.er 3,qM [11,24,30,34,39,42,44,45,(46,.ok),(47,.ok),48] a b d j m o t u v c e,.inl ⟨3,rfl,λ_ _=>rfl⟩⟩
def Fm.has:Fm->Bool
 |.eq _ _=>false|.bin k f g=>match k with|.and=>f.has||g.has|.imp=>g.has
 |.q k _ f=>match k with|.ex=>true|_=>f.has
def iO:∀f:Fm,A 228 [f.p] (.bool f.has)
 |.eq a b=>f0 []|.bin .and f g=>by
  have c:=iO f;have d:=iO g;show A 228 [(Fm.bin .and f g).p] (.bool (f.has||g.has));cases e:f.has<;>rw[e]at c
  ·cases e:g.has<;>rw[e]at d
   ·exact f2 [13,19] c d
   exact f2 [13,19] c d
  exact f1 [13] c
 |.bin .imp f g=>f1 [31] (iO g)|.q .ex s f=>f0 []|.q .all s f=>f1 [31] (iO f)|.q .allU s f=>f1 [31] (iO f)|.q .exU s f=>f1 [31] (iO f)
def Gl(f:Fm)(d:f.tsz<=qA)(g:f.cnt<=bA:=by omega):∃b e,A 148 [f.p] (.tuple [.bool b,num e])/\(f.chk=0->b=f.has/\e=0):=by
 have a:=mJ f d g
 cases c:f.chk with|succ n=>rw[c]at a;exact⟨false,n+1,f1 [6] a,nofun⟩|zero=>rw[c]at a;exact⟨f.has,0,f2 [6,11] a (iO f),λ_=>⟨rfl,rfl⟩⟩
def Pf.cnt:Pf->Nat|.leaf u i=>1|.refl t=>1+t.cnt|.p1 k a=>1+a.cnt|.p2 k a b=>1+a.cnt+b.cnt|.impI f a=>1+f.cnt+a.cnt|.all u s a=>1+a.cnt|.ins u t a=>1+t.cnt+a.cnt|.ex u f t a=>1+t.cnt+f.cnt+a.cnt|.ind l f t a b=>1+t.cnt+f.cnt+a.cnt+b.cnt|.subst f a b=>1+f.cnt+a.cnt+b.cnt
def Pf.mx:Pf->Nat|.leaf u i=>0|.refl t=>t.mx|.p1 k a=>a.mx|.p2 k a b=>max a.mx b.mx|.impI f a=>max f.mx a.mx|.all u s a=>a.mx|.ins u t a=>max t.mx a.mx|.ex u f t a=>max (max t.mx f.mx) a.mx|.ind l f t a b=>max (max (max t.mx f.mx) a.mx) b.mx|.subst f a b=>max (max f.mx a.mx) b.mx
def Pf.tsz:Pf->Nat|.leaf u i=>0|.refl t=>t.tsz|.p1 k a=>a.tsz|.p2 k a b=>max a.tsz b.tsz|.impI f a=>max f.tsz a.tsz|.all u s a=>max a.tsz s.size|.ins u t a=>max t.tsz a.tsz|.ex u f t a=>max (max t.tsz f.tsz) a.tsz|.ind l f t a b=>max (max (max t.tsz f.tsz) a.tsz) b.tsz|.subst f a b=>max (max f.tsz a.tsz) b.tsz
def HF:∀p:Pf,A 141 [p.p] p.p
 |.leaf u i=>by
  exact f1 [16] VG
 |.refl t=>by
  exact f2 [16,28] VG (aC t)
 |.p1 k a=>by
  exact f2 [16,58] VG (HF a)
 |.p2 k a b=>by
  exact f3 [16,58,58] VG (HF a) (HF b)
 |.impI f a=>by
  exact f3 [16,43,58] VG (mE f) (HF a)
 |.all u s a=>by
  exact f2 [16,58] (xD s) (HF a)
 |.ins u t a=>by
  exact f3 [16,28,58] VG (aC t) (HF a)
 |.ex u f t a=>by
  exact f4 [16,28,43,58] VG (aC t) (mE f) (HF a)
 |.ind l f t a b=>by
  exact f5 [16,28,43,58,58] VG (aC t) (mE f) (HF a) (HF b)
 |.subst f a b=>by
  exact f4 [16,43,58,58] VG (mE f) (HF a) (HF b)
def IF:∀p:Pf,p.cnt<=bA->A 215 [p.p] (num p.cnt)
 |.leaf u i,h=>by
  exact f0 []
 |.refl t,h=>by
  have h:1+t.cnt<=bA:=h;have e:=yA;have g:=lB t a6;have rt:=EB (a:=1) (b:=t.cnt);exact f2 [19,(20,.ok)] g rt
 |.p1 k a,h=>by
  have h:1+a.cnt<=bA:=h;have e:=yA;have c:=IF a a6;have d:=EB (a:=1) (b:=a.cnt);exact f2 [43,(44,.ok)] c d
 |.p2 k a b,h=>by
  have h:1+a.cnt+b.cnt<=bA:=h;have e:=yA;have c:=IF a a6;have d:=EB (a:=1) (b:=a.cnt);have n:=IF b a6;have rb:=EB (a:=1+a.cnt) (b:=b.cnt);exact f4 [43,(44,.ok),43,(44,.ok)] c d n rb
 |.impI f a,h=>by
  have h:1+f.cnt+a.cnt<=bA:=h;have e:=yA;have j:=nF f a6;have m:=EB (a:=1) (b:=f.cnt);have c:=IF a a6;have d:=EB (a:=1+f.cnt) (b:=a.cnt);exact f4 [31,(32,.ok),43,(44,.ok)] j m c d
 |.all u s a,h=>by
  have h:1+a.cnt<=bA:=h;have e:=yA;have c:=IF a a6;have d:=EB (a:=1) (b:=a.cnt);exact f2 [43,(44,.ok)] c d
 |.ins u t a,h=>by
  have h:1+t.cnt+a.cnt<=bA:=h;have e:=yA;have g:=lB t a6;have rt:=EB (a:=1) (b:=t.cnt);have c:=IF a a6;have d:=EB (a:=1+t.cnt) (b:=a.cnt);exact f4 [19,(20,.ok),43,(44,.ok)] g rt c d
 |.ex u f t a,h=>by
  have h:1+t.cnt+f.cnt+a.cnt<=bA:=h;have e:=yA;have g:=lB t a6;have rt:=EB (a:=1) (b:=t.cnt);have j:=nF f a6;have m:=EB (a:=1+t.cnt) (b:=f.cnt);have c:=IF a a6;have d:=EB (a:=1+t.cnt+f.cnt) (b:=a.cnt);exact f6 [19,(20,.ok),31,(32,.ok),43,(44,.ok)] g rt j m c d
 |.ind l f t a b,h=>by
  have h:1+t.cnt+f.cnt+a.cnt+b.cnt<=bA:=h;have e:=yA;have g:=lB t a6;have rt:=EB (a:=1) (b:=t.cnt);have j:=nF f a6;have m:=EB (a:=1+t.cnt) (b:=f.cnt);have c:=IF a a6;have d:=EB (a:=1+t.cnt+f.cnt) (b:=a.cnt);have n:=IF b a6;have rb:=EB (a:=1+t.cnt+f.cnt+a.cnt) (b:=b.cnt);exact f8 [19,(20,.ok),31,(32,.ok),43,(44,.ok),43,(44,.ok)] g rt j m c d n rb
 |.subst f a b,h=>by
  have h:1+f.cnt+a.cnt+b.cnt<=bA:=h;have e:=yA;have j:=nF f a6;have m:=EB (a:=1) (b:=f.cnt);have c:=IF a a6;have d:=EB (a:=1+f.cnt) (b:=a.cnt);have n:=IF b a6;have rb:=EB (a:=1+f.cnt+a.cnt) (b:=b.cnt);exact f6 [31,(32,.ok),43,(44,.ok),43,(44,.ok)] j m c d n rb
def Pf.ck:Pf->Prop|.leaf _ _=>True|.refl t=>t.chk=0|.p1 _ a=>a.ck|.p2 _ a b=>a.ck/\b.ck|.impI f a=>f.chk=0/\a.ck|.all _ s a=>s.size<=64/\a.ck|.ins _ t a=>t.chk=0/\a.ck|.ex _ f t a=>t.chk=0/\f.chk=0/\a.ck|.ind _ f t a b=>t.chk=0/\f.chk=0/\a.ck/\b.ck|.subst f a b=>f.chk=0/\a.ck/\b.ck
def Pf.l4:Pf->Prop|.leaf _ _=>True|.refl t=>t.cnt<=4096|.p1 _ a=>a.l4|.p2 _ a b=>a.l4/\b.l4|.impI f a=>f.cnt<=4096/\a.l4|.all _ s a=>a.l4|.ins _ t a=>t.cnt<=4096/\a.l4|.ex _ f t a=>t.cnt<=4096/\f.cnt<=4096/\a.l4|.ind _ f t a b=>t.cnt<=4096/\f.cnt<=4096/\a.l4/\b.l4|.subst f a b=>f.cnt<=4096/\a.l4/\b.l4
def Pf.sh:Pf->Prop|.leaf _ _=>True|.refl t=>t.shp=true|.p1 _ a=>a.sh|.p2 _ a b=>a.sh/\b.sh|.impI f a=>f.shp=true/\a.sh|.all _ s a=>s.size<=64/\a.sh|.ins _ t a=>t.shp=true/\a.sh|.ex _ f t a=>t.shp=true/\f.shp=true/\a.sh|.ind _ f t a b=>t.shp=true/\f.shp=true/\a.sh/\b.sh|.subst f a b=>f.shp=true/\a.sh/\b.sh
def Pf.ck_i:∀p:Pf,p.sh->p.l4->p.ck|.leaf _ _,_,_=>trivial|.refl t,h,k=>Tm.chk_i h k|.p1 _ a,h,k=>ck_i a h k|.p2 _ a b,h,k=>⟨ck_i a h.1 k.1,ck_i b h.2 k.2⟩|.impI f a,h,k=>⟨Fm.chk_i h.1 k.1,ck_i a h.2 k.2⟩|.all _ s a,h,k=>⟨h.1,ck_i a h.2 k⟩|.ins _ t a,h,k=>⟨Tm.chk_i h.1 k.1,ck_i a h.2 k.2⟩|.ex _ f t a,h,k=>⟨Tm.chk_i h.1 k.1,Fm.chk_i h.2.1 k.2.1,ck_i a h.2.2 k.2.2⟩|.ind _ f t a b,h,k=>⟨Tm.chk_i h.1 k.1,Fm.chk_i h.2.1 k.2.1,ck_i a h.2.2.1 k.2.2.1,ck_i b h.2.2.2 k.2.2.2⟩|.subst f a b,h,k=>⟨Fm.chk_i h.1 k.1,ck_i a h.2.1 k.2.1,ck_i b h.2.2 k.2.2⟩
def NH:∀p:Pf,p.cnt<=bA->∃r,A 214 [p.p] (.bool r)/\(r=true->p.l4)
 |.leaf u i,h=>by
  exact⟨true,f0 [],λ_=>by simp[Pf.l4]⟩
 |.refl t,h=>by
  have h:1+t.cnt<=bA:=h;have n:=yA;have d:=lB t a6;cases e:dA (.ofNat 4096) (.ofNat t.cnt);rotate_left
  ·exact⟨false,f2 [17,18] d e,λh=>nomatch h⟩
  exact⟨true,f2 [17,18] d e,λ_=>by simp_all[Pf.l4,dQ]⟩
 |.p1 k a,h=>by
  have h:1+a.cnt<=bA:=h;have n:=yA;have⟨m,c,v⟩:=NH a a6;cases m
  ·exact⟨false,f1 [39] c,λh=>nomatch h⟩
  exact⟨true,f1 [39] c,λ_=>by simp_all[Pf.l4]⟩
 |.p2 k a b,h=>by
  have h:1+a.cnt+b.cnt<=bA:=h;have n:=yA;have⟨m,c,v⟩:=NH a a6;cases m
  ·exact⟨false,f1 [39] c,λh=>nomatch h⟩
  have⟨rb,o,w⟩:=NH b a6;cases rb
  ·exact⟨false,f2 [39,39] c o,λh=>nomatch h⟩
  exact⟨true,f2 [39,39] c o,λ_=>by simp_all[Pf.l4]⟩
 |.impI f a,h=>by
  have h:1+f.cnt+a.cnt<=bA:=h;have n:=yA;have g:=nF f a6;cases j:dA (.ofNat 4096) (.ofNat f.cnt);rotate_left
  ·exact⟨false,f2 [28,29] g j,λh=>nomatch h⟩
  have⟨m,c,v⟩:=NH a a6;cases m
  ·exact⟨false,f3 [28,29,39] g j c,λh=>nomatch h⟩
  exact⟨true,f3 [28,29,39] g j c,λ_=>by simp_all[Pf.l4,dQ]⟩
 |.all u s a,h=>by
  have h:1+a.cnt<=bA:=h;have n:=yA;have⟨m,c,v⟩:=NH a a6;cases m
  ·exact⟨false,f1 [39] c,λh=>nomatch h⟩
  exact⟨true,f1 [39] c,λ_=>by simp_all[Pf.l4]⟩
 |.ins u t a,h=>by
  have h:1+t.cnt+a.cnt<=bA:=h;have n:=yA;have d:=lB t a6;cases e:dA (.ofNat 4096) (.ofNat t.cnt);rotate_left
  ·exact⟨false,f2 [17,18] d e,λh=>nomatch h⟩
  have⟨m,c,v⟩:=NH a a6;cases m
  ·exact⟨false,f3 [17,18,39] d e c,λh=>nomatch h⟩
  exact⟨true,f3 [17,18,39] d e c,λ_=>by simp_all[Pf.l4,dQ]⟩
 |.ex u f t a,h=>by
  have h:1+t.cnt+f.cnt+a.cnt<=bA:=h;have n:=yA;have d:=lB t a6;cases e:dA (.ofNat 4096) (.ofNat t.cnt);rotate_left
  ·exact⟨false,f2 [17,18] d e,λh=>nomatch h⟩
  have g:=nF f a6;cases j:dA (.ofNat 4096) (.ofNat f.cnt);rotate_left
  ·exact⟨false,f4 [17,18,28,29] d e g j,λh=>nomatch h⟩
  have⟨m,c,v⟩:=NH a a6;cases m
  ·exact⟨false,f5 [17,18,28,29,39] d e g j c,λh=>nomatch h⟩
  exact⟨true,f5 [17,18,28,29,39] d e g j c,λ_=>by simp_all[Pf.l4,dQ]⟩
 |.ind l f t a b,h=>by
  have h:1+t.cnt+f.cnt+a.cnt+b.cnt<=bA:=h;have n:=yA;have d:=lB t a6;cases e:dA (.ofNat 4096) (.ofNat t.cnt);rotate_left
  ·exact⟨false,f2 [17,18] d e,λh=>nomatch h⟩
  have g:=nF f a6;cases j:dA (.ofNat 4096) (.ofNat f.cnt);rotate_left
  ·exact⟨false,f4 [17,18,28,29] d e g j,λh=>nomatch h⟩
  have⟨m,c,v⟩:=NH a a6;cases m
  ·exact⟨false,f5 [17,18,28,29,39] d e g j c,λh=>nomatch h⟩
  have⟨rb,o,w⟩:=NH b a6;cases rb
  ·exact⟨false,f6 [17,18,28,29,39,39] d e g j c o,λh=>nomatch h⟩
  exact⟨true,f6 [17,18,28,29,39,39] d e g j c o,λ_=>by simp_all[Pf.l4,dQ]⟩
 |.subst f a b,h=>by
  have h:1+f.cnt+a.cnt+b.cnt<=bA:=h;have n:=yA;have g:=nF f a6;cases j:dA (.ofNat 4096) (.ofNat f.cnt);rotate_left
  ·exact⟨false,f2 [28,29] g j,λh=>nomatch h⟩
  have⟨m,c,v⟩:=NH a a6;cases m
  ·exact⟨false,f3 [28,29,39] g j c,λh=>nomatch h⟩
  have⟨rb,o,w⟩:=NH b a6;cases rb
  ·exact⟨false,f4 [28,29,39,39] g j c o,λh=>nomatch h⟩
  exact⟨true,f4 [28,29,39,39] g j c o,λ_=>by simp_all[Pf.l4,dQ]⟩
def OH:∀p:Pf,p.tsz<=qA->∃r,A 145 [p.p] (.bool r)/\(r=true->p.sh)
 |.leaf u i,h=>by
  cases u<;>exact⟨true,f1 [73] kB,λ_=>by simp_all[Pf.sh]⟩
 |.refl t,h=>by
  have h:t.tsz<=qA:=h;have n:=zA;have w:=yA;have d:=FF t a6;cases o:t.shp<;>rw[o]at d
  ·exact⟨false,f2 [73,85] kB d,λh=>nomatch h⟩
  exact⟨true,f2 [73,85] kB d,λ_=>by simp_all[Pf.sh]⟩
 |.p1 k a,h=>by
  have h:a.tsz<=qA:=h;have⟨g,c,j⟩:=OH a a6;cases g
  ·cases k<;>exact⟨false,f2 [73,107] kB c,λh=>nomatch h⟩
  cases k<;>exact⟨true,f2 [73,107] kB c,λ_=>by simp_all[Pf.sh]⟩
 |.p2 k a b,h=>by
  have h:max a.tsz b.tsz<=qA:=h;have n:=zA;have⟨g,c,j⟩:=OH a a6;cases g
  ·cases k<;>exact⟨false,f2 [73,107] kB c,λh=>nomatch h⟩
  have⟨rb,m,y⟩:=OH b a6;cases rb
  ·cases k<;>exact⟨false,f3 [73,107,107] kB c m,λh=>nomatch h⟩
  cases k<;>exact⟨true,f3 [73,107,107] kB c m,λ_=>by simp_all[Pf.sh]⟩
 |.impI f a,h=>by
  have h:max f.tsz a.tsz<=qA:=h;have n:=zA;have e:=tK f a6;cases v:f.shp<;>rw[v]at e
  ·exact⟨false,f2 [73,96] kB e,λh=>nomatch h⟩
  have⟨g,c,j⟩:=OH a a6;cases g
  ·exact⟨false,f3 [73,96,107] kB e c,λh=>nomatch h⟩
  exact⟨true,f3 [73,96,107] kB e c,λ_=>by simp_all[Pf.sh]⟩
 |.all u s a,h=>by
  have h:max a.tsz s.size<=qA:=h;have n:=zA;have w:=yA;have x:=gK s;rcases KH s with es|es<;>rw[es]at x;rotate_left
  ·cases u<;>exact⟨false,f1 [63] x,λh=>nomatch h⟩
  have⟨g,c,j⟩:=OH a a6;cases g
  ·cases u<;>exact⟨false,f2 [63,107] x c,λh=>nomatch h⟩
  cases u<;>exact⟨true,f2 [63,107] x c,λ_=>⟨chk0 es,j rfl⟩⟩
 |.ins u t a,h=>by
  have h:max t.tsz a.tsz<=qA:=h;have n:=zA;have w:=yA;have d:=FF t a6;cases o:t.shp<;>rw[o]at d
  ·cases u<;>exact⟨false,f2 [73,85] kB d,λh=>nomatch h⟩
  have⟨g,c,j⟩:=OH a a6;cases g
  ·cases u<;>exact⟨false,f3 [73,85,107] kB d c,λh=>nomatch h⟩
  cases u<;>exact⟨true,f3 [73,85,107] kB d c,λ_=>by simp_all[Pf.sh]⟩
 |.ex u f t a,h=>by
  have h:max (max t.tsz f.tsz) a.tsz<=qA:=h;have n:=zA;have w:=yA;have d:=FF t a6;cases o:t.shp<;>rw[o]at d
  ·cases u<;>exact⟨false,f2 [73,85] kB d,λh=>nomatch h⟩
  have e:=tK f a6;cases v:f.shp<;>rw[v]at e
  ·cases u<;>exact⟨false,f3 [73,85,96] kB d e,λh=>nomatch h⟩
  have⟨g,c,j⟩:=OH a a6;cases g
  ·cases u<;>exact⟨false,f4 [73,85,96,107] kB d e c,λh=>nomatch h⟩
  cases u<;>exact⟨true,f4 [73,85,96,107] kB d e c,λ_=>by simp_all[Pf.sh]⟩
 |.ind l f t a b,h=>by
  have h:max (max (max t.tsz f.tsz) a.tsz) b.tsz<=qA:=h;have n:=zA;have w:=yA;have d:=FF t a6;cases o:t.shp<;>rw[o]at d
  ·cases l<;>exact⟨false,f2 [73,85] kB d,λh=>nomatch h⟩
  have e:=tK f a6;cases v:f.shp<;>rw[v]at e
  ·cases l<;>exact⟨false,f3 [73,85,96] kB d e,λh=>nomatch h⟩
  have⟨g,c,j⟩:=OH a a6;cases g
  ·cases l<;>exact⟨false,f4 [73,85,96,107] kB d e c,λh=>nomatch h⟩
  have⟨rb,m,y⟩:=OH b a6;cases rb
  ·cases l<;>exact⟨false,f5 [73,85,96,107,107] kB d e c m,λh=>nomatch h⟩
  cases l<;>exact⟨true,f5 [73,85,96,107,107] kB d e c m,λ_=>by simp_all[Pf.sh]⟩
 |.subst f a b,h=>by
  have h:max (max f.tsz a.tsz) b.tsz<=qA:=h;have n:=zA;have e:=tK f a6;cases v:f.shp<;>rw[v]at e
  ·exact⟨false,f2 [73,96] kB e,λh=>nomatch h⟩
  have⟨g,c,j⟩:=OH a a6;cases g
  ·exact⟨false,f3 [73,96,107] kB e c,λh=>nomatch h⟩
  have⟨rb,m,y⟩:=OH b a6;cases rb
  ·exact⟨false,f4 [73,96,107,107] kB e c m,λh=>nomatch h⟩
  exact⟨true,f4 [73,96,107,107] kB e c m,λ_=>by simp_all[Pf.sh]⟩
def Yz(p:Pf)(h:p.cnt<=bA):∃r,A 146 [p.p] (.bool r)/\(r=true->p.l4/\p.cnt<=16384):=by
 have⟨r,a,b⟩:=NH p h;cases r
 ·exact⟨false,f1 [4] a,λh=>nomatch h⟩
 cases e: !dA (.ofNat 16384) (.ofNat p.cnt)
 ·exact⟨false,f3 [4,7,8] a (IF p h) e,λh=>nomatch h⟩
 exact⟨true,f3 [4,7,8] a (IF p h) e,λ_=>⟨b rfl,lf_iff.1 bS⟩⟩
def Zz(p:Pf)(h:p.cnt<=bA)(d:p.tsz<=qA):∃e,A 80 [p.p] (num e)/\(e=0->p.ck/\p.cnt<=16384):=by
 have⟨r,a,f⟩:=OH p d;cases r
 ·exact⟨2,f1 [4] a,λh=>nomatch h⟩
 have⟨q,b,c⟩:=Yz p h;cases q
 ·exact⟨4,f2 [4,7] a b,λh=>nomatch h⟩
 exact⟨0,f2 [4,7] a b,λ_=>⟨p.ck_i (f rfl) (c rfl).1,(c rfl).2⟩⟩
abbrev Xc(l:List Pf):PV:=.slice (l.map Pf.c)
abbrev pn(n:Nat)(ts fs es:List (List PV)):PV:=.agg [num n,num 0,num 0,.slice [],.slice ts,.slice fs,.slice es]
def fQ(n:Nat)(a:Pf):A 64 [num n,Xc [a]] (pn n [] [] [a.c]):=f1 [19] (HF a)
def pJ(n:Nat)(a b:Pf):A 64 [num n,Xc [a,b]] (pn n [] [] [a.c,b.c]):=f2 [19,19] (HF a) (HF b)
def Hl(f:Fm)(a:Pf):A 65 [f.p,a.p] (Pf.impI f a).p:=f2 [8,10] (fQ 6 a) (mE f)
def XS(u:Bool)(s:Ty)(a:Pf):A 67 [num (bn u 8 12),s.p,a.p] (Pf.all u s a).p:=f2 [11,13] (fQ (bn u 8 12) a) (xD s)
def Yc(n:Nat)(t:Tm)(a:Pf):A 69 [num n,t.p,a.p] (pn n [t.c] [] [a.c]):=f2 [11,13] (fQ n a) (aC t)
def Il(u:Bool)(t:Tm)(a:Pf):A 69 [num (bn u 9 13),t.p,a.p] (Pf.ins u t a).p:=Yc (bn u 9 13) t a
def eK(u:Bool)(f:Fm)(t:Tm)(a:Pf):A 71 [num (bn u 10 14),f.p,t.p,a.p] (Pf.ex u f t a).p:=f2 [13,15] (Yc (bn u 10 14) t a) (mE f)
def Zc(l:Bool)(f:Fm)(t:Tm)(a b:Pf):A 74 [num (bn l 16 17),f.p,t.p,a.p,b.p] (Pf.ind l f t a b).p:=f3 [16,18,22] (pJ (bn l 16 17) a b) (aC t) (mE f)
def Jl(f:Fm)(a b:Pf):A 77 [f.p,a.p,b.p] (Pf.subst f a b).p:=f2 [11,13] (pJ 19 a b) (mE f)
def JB(t:Tm):A 27 [t.p] (Pf.refl t).p:=f1 [4] (aC t)
def bH(i:Nat):A 75 [num i] (Pf.leaf false i).p:=f0 []
open Go.Lg
def Kl(g s:Tm)(p:Pf):Pf:=.subst (.eq (.n2 .app (g.sh 0 1) (s.sh 0 1)) (.n2 .app (g.sh 0 1) (.v 0))) p (.refl (.n2 .app g s))
def j0(g s:Tm)(p:Pf)(b:g.mx<=qA*qA)(a:g.cnt<=qA)(c:s.mx<=qA*qA)(a:s.cnt<=qA):A 211 [g.p,s.p,p.p] (Kl g s p).p:=by
 have:=zA;have a:=vH g 0 1 a6 a6 b a6;have b:=vH s 0 1 a6 a6 c a6;exact f9 [(8,.n [(7,.r (g.sh 0 1).p)]),(10,.n [(7,.r (s.sh 0 1).p)]),12,(14,.n [(7,.r (g.sh 0 1).p)]),17,18,23,24,25]
  a b (WG 3 (g.sh 0 1) (s.sh 0 1)) a (WG 3 (g.sh 0 1) (.v 0)) (kG (.n2 .app (g.sh 0 1) (s.sh 0 1)) (.n2 .app (g.sh 0 1) (.v 0))) (WG 3 g s) (JB (.n2 .app g s)) (Jl (.eq (.n2 .app (g.sh 0 1) (s.sh 0 1)) (.n2 .app (g.sh 0 1) (.v 0))) p (.refl (.n2 .app g s)))
def sucT:Tm:=.lam .nat (.n1 .succ (.v 0))
def pl0:Tm:=.n2 .app (.n2 .app plusT (.n0 .zero)) (.v 0)
def stepP:Pf:=Kl sucT pl0 (.leaf false 0)
def y0:A 146 [stepP.p] (.bool true):=by
 have a:A 214 [(Pf.leaf false 0).p] (.bool true):=f0 [];have b:A 214 [(Pf.refl (.n2 .app sucT pl0)).p] (.bool true):=f1 [17] (lB (.n2 .app sucT pl0) bb);let F:Fm:=.eq (.n2 .app (sucT.sh 0 1) (pl0.sh 0 1)) (.n2 .app (sucT.sh 0 1) (.v 0));have c:A 214 [stepP.p] (.bool true):=f3 [28,39,39] (nF F bb) a b;exact f2 [4,7] c (IF stepP bb)
def B0:A 212 [row [sucT,pl0,.v 0],.slice [],Xc [.leaf false 0]] (num 0):=by
 have a:A 145 [(Pf.leaf false 0).p] (.bool true):=f0 [];have b:A 146 [(Pf.leaf false 0).p] (.bool true):=f0 [];have c:A 80 [(Pf.leaf false 0).p] (num 0):=f2 [4,7] a b;exact f4 [23,23,23,47] (XG sucT bb bb) (XG pl0 bb bb) (XG (.v 0) bb bb) c
def C0:A 144 [sucT.p,pl0.p,(Tm.v 0).p,(Pf.leaf false 0).p] (.tuple [stepP.p,num 0]):=by
 have a:A 210 [stepP.p,num 0] (.tuple [stepP.p,num 0]):=f2 [11,15] y0 (HF stepP);exact f3 [13,20,21] (j0 sucT pl0 (.leaf false 0) bb bb bb bb) B0 a
abbrev uA(l:List Fm):PV:=.slice (l.map Fm.c)
def Fm.c_len(f:Fm):f.c.length=5:=rfl
abbrev aB(ls:List Fm)(g:List Ty)(hs:List Fm):PV:=.agg [uA ls,rA g,uA hs]
def qC(c:Fm->Fm):List (List V)->Nat->List Fm->List (List V)|E,_,[]=>E|E,n,f::r=>qC c (E.take n++[CA (c f).c]) (n+1) r
def pvE_len(A:List (List PV)):(vA A).length=A.length:=by
 induction A with|nil=>rfl|cons a r b=>show(CA a::vA r).length=_;simp[b]
def pvE_app(A B:List (List PV)):vA (A++B)=vA A++vA B:=by
 induction A with|nil=>rfl|cons a r b=>show CA a::vA (r++B)=CA a::vA r++vA B;rw[b];rfl
def zd(c:Fm->Fm):∀(r:List Fm)(A:List (List PV)),qC c (vA A) A.length r=vA (A++r.map λf=>(c f).c)
 |[],A=>by simp[qC]|f::r,A=>by
  have a:(vA A).take A.length++[CA (c f).c]=vA (A++[(c f).c]):=by
   rw[gu (by rw[pvE_len];exact e6 _),pvE_app];rfl
  have b:A.length+1=(A++[(c f).c]).length:=a8
  simp only[qC];rw[a,b,zd c r];simp
def jd:∀l:List PV,GA (CA l)=[]|[]=>rfl|c::r=>by show V.names (.pv c)++GA (CA r)=[];rw[jd r];rfl
def YS(E:List (List V))(n:Nat)(c:List PV)(h:fB E=[]):fB (E.take n++[CA c])=[]:=by
 have b:∀(E:List (List V))(n:Nat),fB E=[]->fB (E.take n)=[]:=by
  intro E
  induction E with
  |nil=>intro n _;simp[fB]|cons e r a=>
   intro n h
   cases n with
   |zero=>rfl|succ n=>
    simp only[fB,List.append_eq_nil_iff]at h;simp only[List.take_succ_cons,fB,h.1,a n h.2,hI]
 have d:∀(E F:List (List V)),fB (E++F)=fB E++fB F:=by
  intro E F
  induction E with|nil=>rfl|cons e r a=>simp[fB,a]
 rw[d,b E n h];simp[fB,jd]
def ZS{v n m sz ty:Nat}{E a:List (List V)}(b:E.length=n)(c:0<sz)(d:VC sz a=true)(e:CC a=true)(f:n+a.length<=maxLen)(g:(n+a.length)*m<=140737488355328):
  (Nat.beq v v&&Nat.ble n E.length&&Nat.beq ty ty&&Nat.beq sz sz&&Nat.blt 0 sz&&VC sz a&&CC a&&Nat.ble (n+a.length) maxLen&&Nat.ble ((n+a.length)*m) 140737488355328)=true:=by
 have a:Nat.blt 0 sz=true:=by rw[ZJ];simpa using c
 rw[d,e,a,b,kx f,kx g,kx (e6 n)];simp
abbrev vd:Kp:=⟨[1,4,5,23,24,25],[1,2,4],5,[]⟩
abbrev yG:List PV:=[.nils,.nils,.nils]
abbrev zT(l:List Ty)(hs:List Fm)(k:Nat):List (Nat×V):=[(1,.pv (rA l)),(4,.loc 1 0),(5,.loc 2 0),(23,.pv (uA hs)),(24,.pv (num (hs.map Fm.c).length)),(25,.pv (num k))]
abbrev D0(ls:PV)(g:PV)(l:List Ty)(hs:List Fm)(k v n:Nat)(E:List (List V)):IS:=st (zT l hs k) [(1,bx yG),(2,.box [.pv ls,.pv g,.arr 4 v n]),(4,.arr v 5 41 E)] 5 []
abbrev F0(ls g:PV)(v n:Nat)(E:List (List V)):IS:=st [(4,.loc 1 0),(5,.loc 2 0)] [(1,bx yG),(2,.box [.pv ls,.pv g,.arr 4 v n]),(4,.arr v 5 41 E)] 5 []
def wd(a g:PV)(l:List Ty)(p:l.length<=16){hs:List Fm}(s:hs.length<=qA):∀(r:List Fm)(k v n:Nat)(E:List (List V)),hs.drop k=r->E.length=n->n+r.length<=qA->fB E=[]->(∀f∈r,f.mx<=qA*qA/\f.cnt<=qA)->
  ∃b,Lp 272 0 0 (D0 a g l hs k v n E) (.exit 0) (F0 a g b (n+r.length) (qC (Fm.sh 0 (.ofNat (l.map Ty.c).length)) E n r))
 |[],k,v,n,E,h,c,d,i,j=>by
  have e:dA (.ofNat k) (.ofNat (hs.map Fm.c).length)=false:=iA (by simpa using rW h);exact⟨v,y1 [26] ⟨[4,5],[1,2,4],5,[]⟩ e i⟩
 |f::r,k,v,n,E,h,c,d,i,j=>by
  have:=zA;have⟨t,u,w⟩:=uC h;have e:dA (.ofNat k) (.ofNat (hs.map Fm.c).length)=true:=KA (by simpa using u);have x:=j f a8;have d:n+(r.length+1)<=qA:=by simpa using d
  have y:=WD f 0 (.ofNat (l.map Ty.c).length) a8 a9 x.1 a6;have z:(Nat.beq v v&&Nat.ble n E.length&&Nat.beq 40 40&&Nat.beq 5 5&&Nat.blt 0 5&&VC 5 [CA (f.sh 0 (.ofNat (l.map Ty.c).length)).c]&&CC [CA (f.sh 0 (.ofNat (l.map Ty.c).length)).c]&&Nat.ble (n+[CA (f.sh 0 (.ofNat (l.map Ty.c).length)).c].length) maxLen&&Nat.ble ((n+[CA (f.sh 0 (.ofNat (l.map Ty.c).length)).c].length)*88) 140737488355328)=true:=
   ZS c bb rfl rfl (by simp only[maxLen,aar];omega) (by simp only[aar];omega)
  have A:=BA (show k+1<=_ by omega);have m:=YS E n (f.sh 0 (.ofNat (l.map Ty.c).length)).c i;have⟨b,o⟩:=wd a g l p s r (k+1) (v+1) (n+1) (E.take n++[CA (f.sh 0 (.ofNat (l.map Ty.c).length)).c]) w (by simp[c]) a6 m (λf B=>j f (by simp[B]));rw[show n+1+r.length=n+(f::r).length by simp;omega]at o;exact⟨b,n7 [26,(27,.i f.c),34,(36,.ok),(38,.ok)] vd e (EA t Fm.c_len) y z A m o⟩
def jT(g:List Ty):(Nat.beq (g.map Ty.c).length (g.map Ty.c).length&&Nat.beq (g.map Ty.c).length (g.map Ty.c).length)=true:=qH _
def Ll{α:Type}{c:α->List PV}(n m:Nat)(b:∀t,(c t).length=n)(d:0<n)(g:List α)(s u:α)(h:(g.length+2)*m<=140737488355328)(e:g.length+2<=maxLen):
  (tB n (g.map c)&&tB n [c s,c u]&&Nat.blt 0 n&&Nat.ble ((g.map c).length+[c s,c u].length) maxLen&&Nat.ble (((g.map c).length+[c s,c u].length)*m) 140737488355328)=true:=by
 have f:tB n (g.map c)=true:=wQ λy a=>by obtain⟨t,_,rfl⟩:=iy.1 a;exact b t
 have i:tB n [c s,c u]=true:=wQ λy a=>by simp at a;rcases a with rfl|rfl<;>exact b _
 have j:Nat.blt 0 n=true:=by rw[ZJ];simpa using d
 rw[f,i,j];simp only[gB,hW,iq,abz];rw[kx e,kx h];rfl
def abl:=@Function.comp_def
def yd(a:List Fm)(g:List Ty)(s:Ty)(hs:List Fm)(p:g.length<=qA-2)(h:hs.length<=1024)(i:∀f∈hs,f.mx<=qA*qA/\f.cnt<=qA):A 272 [aB a g hs,rA [s]] (aB a (g++[s]) (hs.map (Fm.sh 0 1))):=by
 have:=zA;have j:=jT g;have k:=jG 2 32 Ty.c_len bb g s a6 (by simp only[maxLen];omega);simp only[aB,rA,gn,gF,i2];let b:PV:=.slice (g.map Ty.c++[s.c])
 cases hs with
 |nil=>
  have c:Lp 272 0 0 (st (zT [s] [] 0) [(1,bx yG),(2,bx [uA a,b,.nils])] 3 []) (.exit 0) (st [(4,.loc 1 0),(5,.loc 2 0)] [(1,bx yG),(2,bx [uA a,b,.nils])] 3 []):=
   x0 [] ⟨[4,5],[1,2],3,[]⟩
  exact f3 [(18,.ok),(20,.ok),(100003,.l ⟨[1,4,5,23,24,25],[1,2],3,[]⟩ (.exit 0) (st [(4,.loc 1 0),(5,.loc 2 0)] [(1,bx yG),(2,bx [uA a,b,.nils])] 3 []))] j k c
 |cons f hs=>
  have h:hs.length+1<=1024:=h;have d:=i f a8;let ps:=(f::hs).map λf=>(f.sh 0 1).c
  have⟨v,c⟩:=wd (uA a) b [s] a8 (hs:=f::hs) a9 hs 1 1 1 (vA [(f.sh 0 1).c]) rfl rfl a6 (YS [] 0 _ rfl) (λf d=>i f (by simp[d]));have m:qC (Fm.sh 0 (.ofNat (([s]:List Ty).map Ty.c).length)) (vA [(f.sh 0 1).c]) 1 hs=vA ps:=zd (Fm.sh 0 1) hs [(f.sh 0 1).c];rw[m]at c;have l:=LoopIs.fz a8 c 4 (ver:=v) (sz:=5) (ty:=41) (ps:=ps) rfl bG;simp (decide:=true) only[eD,XC,VB,sC,UC,List.map,BC,and_self,↓reduceIte,gu (show ps.length<=1+hs.length by simp[ps];omega)]at l;have e:dA (.ofNat 0) (.ofNat ((f::hs).map Fm.c).length)=true:=KA a8;have n:Lp 272 0 0 (st (zT [s] (f::hs) 0) [(1,bx yG),(2,bx [uA a,b,.nils])] 3 []) (.exit 0) (st [(4,.loc 1 0),(5,.loc 2 0)] [(1,bx yG),(2,bx [uA a,b,.slice ps])] 5 []):=
   n6 [26,(27,.i f.c),34,(38,.ok)] vd e (EA (g:=f::hs) (k:=0) rfl Fm.c_len) (WD f 0 1 a6 a6 d.1 a6) (BA (show 0+1<=_ by omega)) (YS [] 0 (f.sh 0 1).c rfl) l
  have o:uA ((f::hs).map (Fm.sh 0 1))=.slice ps:=by simp[ps,uA,abl]
  rw[o];exact f3 [(18,.ok),(20,.ok),(100003,.l ⟨[1,4,5,23,24,25],[1,2],3,[]⟩ (.exit 0) (st [(4,.loc 1 0),(5,.loc 2 0)] [(1,bx yG),(2,bx [uA a,b,.slice ps])] 5 []))] j k n
def G0(a:List Fm)(g:List Ty)(s u:Ty)(hs:List Fm)(p:g.length<=qA-2)(h:hs.length<=1024)(i:∀f∈hs,f.mx<=qA*qA/\f.cnt<=qA):A 272 [aB a g hs,rA [s,u]] (aB a (g++[s,u]) (hs.map (Fm.sh 0 2))):=by
 have:=zA;have j:=jT g;have k:=Ll 2 32 Ty.c_len bb g s u a6 (by simp only[maxLen];omega);simp only[aB,rA,gn,gF,i2];let b:PV:=.slice (g.map Ty.c++[s.c,u.c])
 cases hs with
 |nil=>
  have c:Lp 272 0 0 (st (zT [s,u] [] 0) [(1,bx yG),(2,bx [uA a,b,.nils])] 3 []) (.exit 0) (st [(4,.loc 1 0),(5,.loc 2 0)] [(1,bx yG),(2,bx [uA a,b,.nils])] 3 []):=
   x0 [] ⟨[4,5],[1,2],3,[]⟩
  exact f3 [(18,.ok),(20,.ok),(100003,.l ⟨[1,4,5,23,24,25],[1,2],3,[]⟩ (.exit 0) (st [(4,.loc 1 0),(5,.loc 2 0)] [(1,bx yG),(2,bx [uA a,b,.nils])] 3 []))] j k c
 |cons f hs=>
  have h:hs.length+1<=1024:=h;have d:=i f a8;let ps:=(f::hs).map λf=>(f.sh 0 2).c
  have⟨v,c⟩:=wd (uA a) b [s,u] a8 (hs:=f::hs) a9 hs 1 1 1 (vA [(f.sh 0 2).c]) rfl rfl a6 (YS [] 0 _ rfl) (λf d=>i f (by simp[d]));have m:qC (Fm.sh 0 (.ofNat (([s,u]:List Ty).map Ty.c).length)) (vA [(f.sh 0 2).c]) 1 hs=vA ps:=zd (Fm.sh 0 2) hs [(f.sh 0 2).c];rw[m]at c;have l:=LoopIs.fz a8 c 4 (ver:=v) (sz:=5) (ty:=41) (ps:=ps) rfl bG;simp (decide:=true) only[eD,XC,VB,sC,UC,List.map,BC,and_self,↓reduceIte,gu (show ps.length<=1+hs.length by simp[ps];omega)]at l;have e:dA (.ofNat 0) (.ofNat ((f::hs).map Fm.c).length)=true:=KA a8;have n:Lp 272 0 0 (st (zT [s,u] (f::hs) 0) [(1,bx yG),(2,bx [uA a,b,.nils])] 3 []) (.exit 0) (st [(4,.loc 1 0),(5,.loc 2 0)] [(1,bx yG),(2,bx [uA a,b,.slice ps])] 5 []):=
   n6 [26,(27,.i f.c),34,(38,.ok)] vd e (EA (g:=f::hs) (k:=0) rfl Fm.c_len) (WD f 0 2 a6 a6 d.1 a6) (BA (show 0+1<=_ by omega)) (YS [] 0 (f.sh 0 2).c rfl) l
  have o:uA ((f::hs).map (Fm.sh 0 2))=.slice ps:=by simp[ps,uA,abl]
  rw[o];exact f3 [(18,.ok),(20,.ok),(100003,.l ⟨[1,4,5,23,24,25],[1,2],3,[]⟩ (.exit 0) (st [(4,.loc 1 0),(5,.loc 2 0)] [(1,bx yG),(2,bx [uA a,b,.slice ps])] 5 []))] j k n
def vT(b:List Fm)(g:List Ty)(a:List Fm)(v h:Nat)(c:g.length+v<=qA:=by omega)(c:a.length+h<=qA:=by omega):∃e,A 217 [aB b g a,num v,num h] (num e)/\(e=0->g.length+v<=16/\a.length+h<=16)/\(e=0\/e=3):=by
 have:=zA;have c:xA (Int.ofNat (g.map Ty.c).length+.ofNat v)=true:=BA (n:=(g.map Ty.c).length+v) a9;have j:xA (Int.ofNat (a.map Fm.c).length+.ofNat h)=true:=BA (n:=(a.map Fm.c).length+h) a9;by_cases d:g.length+v<=16
 ·have b:dA (.ofNat 16) (.ofNat ((g.map Ty.c).length+v))=false:=iA (by simpa using d);by_cases f:a.length+h<=16
  ·have i:dA (.ofNat 16) (.ofNat ((a.map Fm.c).length+h))=false:=iA (by simpa using f);exact⟨0,f4 [(11,.ok),12,(18,.ok),19] c b j i,(λ_=>⟨d,f⟩),.inl rfl⟩
  have i:dA (.ofNat 16) (.ofNat ((a.map Fm.c).length+h))=true:=KA (by simpa using f);exact⟨3,f4 [(11,.ok),12,(18,.ok),19] c b j i,(nofun),.inr rfl⟩
 have b:dA (.ofNat 16) (.ofNat ((g.map Ty.c).length+v))=true:=KA (by simpa using d);exact⟨3,f2 [(11,.ok),12] c b,(nofun),.inr rfl⟩
def JW(b:List Fm)(g:List Ty)(a:List Fm)(f:Fm)(h:a.length+1<=qA:=by omega):A 218 [aB b g a,f.p] (aB b g (a++[f])):=by
 have:=zA;have b:=qH (a.map Fm.c).length;have c:=jG 5 88 Fm.c_len bb a f a6 (by simp only[maxLen];omega);simp only[aB,uA,gn,gF,i2];exact f2 [(13,.ok),(16,.ok)] b c
open Go.Lg
abbrev ic(n:Nat):List PV:=[num n]
abbrev NA(l:List Nat):PV:=.slice (l.map ic)
def kM(n:Nat):(ic n).length=1:=rfl
def gD(A:List (List PV))(c:List PV):vA (A++[c])=(vA A).take A.length++[CA c]:=by
 rw[gu (by rw[pvE_len];omega),pvE_app];rfl
def BB(A:List (List PV)):fB (vA A)=[]:=by
 induction A with|nil=>rfl|cons a r b=>show GA (CA a)++fB (vA r)=[];rw[jd,b];rfl
def dB(A:List (List PV))(c:List PV):fB ((vA A).take A.length++[CA c])=[]:=by rw[<-gD];exact BB _
def WA(n:Nat):List Nat->List Nat|[]=>[]|x::r=>if n<=x then(x-n)::WA n r else WA n r
def KW{n v:Nat}:∀{l:List Nat},v+n∈l->v∈WA n l
 :=by intro x;induction x<;>simp_all[WA,gm,aai]<;>grind
def wT{n M:Nat}:∀{l:List Nat},(∀x∈l,x<=M)->∀x∈WA n l,x<=M
 |[],_,x,h=>by cases h
 |y::r,a,x,h=>by
  simp only[WA]at h;have:=a y a8;split at h
  ·rcases e8.1 h with rfl|h
   ·omega
   exact wT (λz b=>a z (by simp[b])) x h
  exact wT (λz b=>a z (by simp[b])) x h
def LW(n:Nat):∀(l:List Nat),(WA n l).length<=l.length
 :=by intro x;induction x<;>simp_all[e6,WA]<;>grind
abbrev ud(n:Nat)(l:List Nat)(k:Nat)(x:V):List (Nat×V):=[(1,.pv (num n)),(5,x),(8,.pv (NA l)),(9,.pv (num (l.map ic).length)),(10,.pv (num k))]
abbrev ld:Kp:=⟨[1,5,8,9,10],[0],1,[]⟩
def gy:=@List.append_assoc
def md(n:Nat){l:List Nat}(j:l.length<=qA)(d:∀x∈l,x<=bA):∀(r:List Nat)(k v:Nat)(A:List (List PV)),l.drop k=r->A.length+r.length<=qA->
  ∃a,Lp 273 0 0 (st (ud n l k (.arr 0 v A.length)) [(0,.arr v 1 3 (vA A))] 1 []) (.exit 0) (st [(5,.arr 0 a (A.length+(WA n r).length))] [(0,.arr a 1 3 (vA (A++(WA n r).map ic)))] 1 [])
 |[],k,v,A,h,m=>by
  have e:dA (.ofNat k) (.ofNat (l.map ic).length)=false:=iA bS;simp only[WA,i2,hI,iq,ir];exact⟨v,y1 [11] ⟨[5],[0],1,[]⟩ e (BB A)⟩
 |x::r,k,v,A,h,m=>by
  have:=zA;have:=yA;have⟨f,y,o⟩:=uC h;have e:dA (.ofNat k) (.ofNat (l.map ic).length)=true:=KA bS;have:=d x (gg f);have m:A.length+(r.length+1)<=qA:=a6
  have p:=BA (show k+1<=_ by omega);by_cases c:n<=x
  ·have g:(!dA (.ofNat x) (.ofNat n))=true:=dJ c;have t:xA (Int.ofNat x-.ofNat n)=true/\Int.ofNat x-.ofNat n=.ofNat (x-n):=by
    grind[cB]
   have u:(Nat.beq v v&&Nat.ble A.length (vA A).length&&Nat.beq 3 3&&Nat.beq 1 1&&Nat.blt 0 1&&VC 1 [CA (ic (x-n))]&&CC [CA (ic (x-n))]&&Nat.ble (A.length+[CA (ic (x-n))].length) maxLen&&Nat.ble ((A.length+[CA (ic (x-n))].length)*8) 140737488355328)=true:=
    ZS (pvE_len A) bb rfl rfl (by simp only[maxLen,aar];omega) c5
   have⟨a,b⟩:=md n j d r (k+1) (v+1) (A++[ic (x-n)]) o a9;have i:WA n (x::r)=(x-n)::WA n r:=by simp only[WA,gm c]
   rw[i];rw[gD,show(A++[ic (x-n)]).length=A.length+1 by simp,show A.length+1+(WA n r).length=A.length+((x-n)::WA n r).length by simp;omega,gy]at b;exact⟨a,n8 [11,(12,.i (ic x)),16,20,(22,.ok),(23,.ok)] ld e (EA f kM) g t u p (dB A (ic (x-n))) b⟩
  have g:(!dA (.ofNat x) (.ofNat n))=false:=jH a6;have⟨a,b⟩:=md n j d r (k+1) v A o a6;have i:WA n (x::r)=WA n r:=by simp only[WA,e9 c]
  rw[i];exact⟨a,n6 [11,(12,.i (ic x)),16,(23,.ok)] ld e (EA f kM) g p (BB A) b⟩
def Ml(n:Nat){l:List Nat}(j:l.length<=qA)(m:∀x∈l,x<=bA):∀(r:List Nat)(k:Nat),l.drop k=r->
  (WA n r=[]/\Lp 273 0 0 (st (ud n l k (.pv .nils)) [] 0 []) (.exit 0) (st [(5,.pv .nils)] [] 0 []))\/∃a,Lp 273 0 0 (st (ud n l k (.pv .nils)) [] 0 []) (.exit 0) (st [(5,.arr 0 a (WA n r).length)] [(0,.arr a 1 3 (vA ((WA n r).map ic)))] 1 [])
 |[],k,h=>by
  have e:dA (.ofNat k) (.ofNat (l.map ic).length)=false:=iA bS;exact .inl ⟨rfl,x1 [11] ⟨[5],[],0,[]⟩ e⟩
 |x::r,k,h=>by
  have:=zA;have⟨f,v,o⟩:=uC h;have e:dA (.ofNat k) (.ofNat (l.map ic).length)=true:=KA bS;have g:=BA (show k+1<=_ by omega);by_cases c:n<=x
  ·have d:(!dA (.ofNat x) (.ofNat n))=true:=dJ c;have p:xA (Int.ofNat x-.ofNat n)=true/\Int.ofNat x-.ofNat n=.ofNat (x-n):=by
    grind[cB]
   have:r.length+1<=l.length:=by
    grind
   have⟨a,b⟩:=md n j m r (k+1) 1 [ic (x-n)] o a9;have i:WA n (x::r)=(x-n)::WA n r:=by simp only[WA,gm c]
   rw[i];rw[show [ic (x-n)].length+(WA n r).length=((x-n)::WA n r).length by simp;omega]at b;exact .inr ⟨a,n7 [11,(12,.i (ic x)),16,20,(23,.ok)] ld e (EA f kM) d p g (BB [ic (x-n)]) b⟩
  have d:(!dA (.ofNat x) (.ofNat n))=false:=jH a6;have i:WA n (x::r)=WA n r:=by simp only[WA,e9 c]
  rw[i];rcases Ml n j m r (k+1) o with ⟨t,b⟩|⟨a,b⟩
  ·exact .inl ⟨t,n5 [11,(12,.i (ic x)),16,(23,.ok)] ⟨[1,5,8,9,10],[],0,[]⟩ e (EA f kM) d g b⟩
  exact .inr ⟨a,n5 [11,(12,.i (ic x)),16,(23,.ok)] ⟨[1,5,8,9,10],[],0,[]⟩ e (EA f kM) d g b⟩
def MW(n:Nat)(l:List Nat)(c:l.length<=qA)(d:∀x∈l,x<=bA):A 273 [NA l,num n] (NA (WA n l)):=by
 rcases Ml n c d l 0 rfl with ⟨e,a⟩|⟨v,a⟩
 ·rw[e];exact f1 [(100003,.l ⟨[1,5,8,9,10],[],0,[]⟩ (.exit 0) (st [(5,.pv .nils)] [] 0 []))] a
 have b:=LoopIs.fz a8 a 0 (ver:=v) (sz:=1) (ty:=3) (ps:=(WA n l).map ic) rfl bG;simp (decide:=true) only[eD,XC,VB,BC,and_self,↓reduceIte,gu (show((WA n l).map ic).length<=(WA n l).length by simp)]at b;exact f1 [(100003,.l ⟨[1,5,8,9,10],[],0,[]⟩ (.exit 0) (st [(5,.pv (NA (WA n l)))] [] 1 []))] b
def aq:Bool->FQ|false=>.all|true=>.allU
def Fm.pt(f:Fm)(t:Tm):FR:=if f.cnt+f.occ 0*(t.cnt-1)<=4096 then .ok (f.put 0 t 0)else .er 3
abbrev Fm.low(f:Fm):Fm:=f.put 0 (.v 0) 0
def zB:Fm->Option Fm
 |.eq a b=>match lE a with
  |.ok x _=>match lE b with|.ok y _=>some (.eq x y)|.er _=>none
  |.er _=>none
 |.bin k f g=>match zB f with
  |some x=>match zB g with|some y=>some (.bin k x y)|none=>none
  |none=>none
 |.q k s f=>match zB f with|some x=>some (.q k s x)|none=>none
def NC(f:Fm):Option Fm:=if f.occ 0=0 then some f.low else match zB f with|some g=>if g.occ 0=0 then some g.low else none|none=>none
inductive Jt where|leaf (u:Bool) (i:Nat) (f:Fm)|refl (t:Tm)|p1 (k:P1) (a:Jt) (f:Fm)|p2 (k:P2) (a b:Jt) (f:Fm)|impI (x:Fm) (a:Jt)|all (u:Bool) (s:Ty) (a:Jt)|ins (u:Bool) (t:Tm) (a:Jt) (f:Fm)|ex (u:Bool) (x:Fm) (t:Tm) (a:Jt)|ind (l:Bool) (x:Fm) (t:Tm) (a b:Jt) (f:Fm)|subst (x:Fm) (a b:Jt) (f:Fm)
def Jt.p:Jt->Pf|.leaf u i _=>.leaf u i|.refl t=>.refl t|.p1 k a _=>.p1 k a.p|.p2 k a b _=>.p2 k a.p b.p|.impI x a=>.impI x a.p|.all u s a=>.all u s a.p|.ins u t a _=>.ins u t a.p|.ex u x t a=>.ex u x t a.p|.ind l x t a b _=>.ind l x t a.p b.p|.subst x a b _=>.subst x a.p b.p
def Jt.f:Jt->Fm|.leaf _ _ f=>f|.refl t=>.eq t t|.p1 _ _ f=>f|.p2 _ _ _ f=>f|.impI x a=>.bin .imp x a.f|.all u s a=>.q (aq u) s a.f|.ins _ _ _ f=>f|.ex _ x _ _=>x|.ind _ _ _ _ _ f=>f|.subst _ _ _ f=>f
def Fm.bd:Fm->Fm|.q _ _ f=>f|f=>f
abbrev fA(k:Nat)(hs:List Fm):List Fm:=hs.map (Fm.sh 0 (.ofNat k))
def xI:Bool->FQ|false=>.ex|true=>.exU
def ek:Bool->P2|false=>.exE|true=>.exUE
abbrev vapp:Tm:=.n2 .app (.v 1) (.v 0)
def iK(a:List Fm)(x:Fm):Bool->List Fm|false=>fA 1 a++[x]|true=>fA 2 a++[x.sh 1 (.ofNat 1)]
def lN:Bool->Nat|false=>1|true=>2
def Jt.us:Jt->Nat->Prop
 |.leaf _ _ _,_=>False|.refl _,_=>False|.p1 _ a f,v=>f.has=true/\a.us v|.p2 k a b f,v=>f.has=true/\(a.us v\/match k with
  |.andI=>b.us v|.impE=>b.us v|_=>b.us (v+1))
 |.impI x a,v=>(Fm.bin .imp x a.f).has=true/\a.us v|.all u s a,v=>(Fm.q (aq u) s a.f).has=true/\a.us (v+1)|.ins u t a f,v=>f.has=true/\(a.us v\/u=false/\t.occ v≠0)|.ex u x t a,v=>x.has=true/\(a.us v\/u=false/\t.occ v≠0)|.ind l x t a b f,v=>f.has=true/\(t.occ v≠0\/a.us v\/b.us (v+lN l))|.subst x a b f,v=>f.has=true/\b.us v
def Fm.er:Fm->Fm|.eq _ _=>.eq (.n0 .unit) (.n0 .unit)|.bin k f g=>.bin k f.er g.er|.q k s f=>.q k s f.er
def PH:∀f:Fm,f.er.has=f.has
 |.eq _ _=>rfl|.bin k f g=>by cases k<;>simp only[Fm.er,Fm.has,PH f,PH g]
 |.q k _ f=>by cases k<;>simp only[Fm.er,Fm.has,PH f]
theorem nE(z:Int):∀(f:Fm)(c:Nat),(f.sh c z).er=f.er|.eq _ _,c=>rfl|.bin k f g,c=>by simp[Fm.sh,Fm.er,nE]|.q k s f,c=>by simp[Fm.sh,Fm.er,nE]
theorem NW(c:Nat)(s:Tm):∀(f:Fm)(d:Nat),(f.put c s d).er=f.er|.eq _ _,d=>rfl|.bin k f g,d=>by simp[Fm.put,Fm.er,NW]|.q k u f,d=>by simp[Fm.put,Fm.er,NW]
theorem kT:∀f g:Fm,zB f=some g->g.er=f.er
 |.eq a b,g,e=>by
  unfold zB at e;split at e
  ·split at e
   ·cases e;rfl
   cases e
  cases e
 |.bin k a b,g,e=>by
  unfold zB at e;split at e
  ·rename_i x c;split at e
   ·rename_i y d;cases e;simp only[Fm.er,kT a x c,kT b y d]
   cases e
  cases e
 |.q k s a,g,e=>by
  unfold zB at e;split at e
  ·rename_i x c;cases e;simp only[Fm.er,kT a x c]
  cases e
def uG{f g:Fm}(e:NC f=some g):g.er=f.er:=by
 grind[NC,NW,kT]
theorem qD{f g:Fm}{t:Tm}(e:f.pt t=.ok g):g.er=f.er:=by
 grind[Fm.pt,NW]
def rJ(k:Nat)(a:List Fm):(fA k a).map Fm.er=a.map Fm.er:=by
 simp[fA,abj,aak,nE]
theorem XA{f g:Fm}(e:f.er=g.er):f.has=g.has:=(PH f).symm.trans ((k0 Fm.has e).trans (PH g))
def lT:Bool->Ty|false=>.nat|true=>.list
def lG:Bool->List Ty|false=>[.nat]|true=>[.nat,.list]
def l0:Bool->Tm|false=>.n0 .zero|true=>.n0 .nil
def l1:Bool->Tm|false=>.n1 .succ (.v 0)|true=>.n2 .cons (.v 1) (.v 0)
def Jt.D(d:List Fm):List Ty->List Fm->Jt->Prop
 |_,c,.leaf u i f=>f.chk=0/\match u with
  |false=>i<c.length/\c[c.length-1-i]? =some f|true=>d[i]? =some f
 |g,_,.refl t=>(Fm.eq t t).chk=0/\t.chk=0/\t.tyR g=.ok .nat|g,c,.p1 k a f=>f.chk=0/\a.D d g c/\match k with
  |.andL=>∃y,a.f=.bin .and f y|.andR=>∃x,a.f=.bin .and x f|.choice=>∃s u x,a.f=.q .all s (.q .ex u x)/\(Ty.two true s u).size<=64/\∃y,(x.sh 2 (.ofNat 1)).pt vapp=.ok y/\f=.q .ex (.two true s u) (.q .all s y)
 |g,c,.p2 k a b f=>f.chk=0/\a.D d g c/\match k with
  |.andI=>b.D d g c/\f=.bin .and a.f b.f|.impE=>b.D d g c/\∃x,a.f=.bin .imp x f/\x.mt b.f|.exE=>(∃s,a.f=.q .ex s a.f.bd/\b.D d (g++[s]) (fA 1 c++[a.f.bd]))/\(g.length+1<=16/\c.length+1<=16)/\NC b.f=some f|.exUE=>(∃s,a.f=.q .exU s a.f.bd/\b.D d (g++[s]) (fA 1 c++[a.f.bd]))/\(g.length+1<=16/\c.length+1<=16)/\NC b.f=some f/\¬b.us 0
 |g,c,.impI x a=>(Fm.bin .imp x a.f).chk=0/\(x.chk=0/\x.ty g)/\c.length+1<=16/\a.D d g (c++[x])|g,c,.all u s a=>(Fm.q (aq u) s a.f).chk=0/\g.length+1<=16/\a.D d (g++[s]) (fA 1 c)/\(u=true->¬a.us 0)|g,c,.ins u t a f=>f.chk=0/\t.chk=0/\a.D d g c/\∃s x,t.tyR g=.ok s/\a.f=.q (aq u) s x/\x.pt t=.ok f|g,c,.ex u x t a=>(x.chk=0/\x.ty g)/\t.chk=0/\a.D d g c/\∃s y w,t.tyR g=.ok s/\x=.q (xI u) s y/\y.pt t=.ok w/\w.mt a.f|g,c,.ind l x t a b f=>f.chk=0/\(x.chk=0/\x.ty (g++[lT l]))/\(t.chk=0/\t.tyR g=.ok (lT l))/\(a.D d g c/\∃w,x.pt (l0 l)=.ok w/\w.mt a.f)/\(g.length+lN l<=16/\c.length+1<=16)/\(b.D d (g++lG l) (iK c x l)/\∃w,(x.sh 1 (.ofNat (lN l))).pt (l1 l)=.ok w/\w.mt b.f)/\x.pt t=.ok f|g,c,.subst x a b f=>f.chk=0/\(x.chk=0/\x.ty (g++[.nat]))/\a.D d g c/\b.D d g c/\∃t u w,a.f=.eq t u/\x.pt t=.ok w/\w.mt b.f/\x.pt u=.ok f
def JA{a b:Bool}(h:(a&&b)=true):a=true/\b=true:=by simpa using h
def oK(z:Int):∀(t:Tm)(c:Nat),(t.sh c z).shp=t.shp|.v i,c=>by simp only[Tm.sh];split<;>rfl|.lam s b,c=>by simp[Tm.sh,Tm.shp,oK]|.n0 k,c=>rfl|.n1 k a,c=>by simp[Tm.sh,Tm.shp,oK]|.n2 k a b,c=>by simp[Tm.sh,Tm.shp,oK]|.n3 k s a b d,c=>by simp[Tm.sh,Tm.shp,oK]
def sJ(c:Nat)(S:Tm):∀(t:Tm)(d:Nat),(S.shp=true\/t.occ (c+d)=0)->t.shp=true->(t.put c S d).shp=true
 |.v i,d,f,h=>by
  simp only[Tm.put];split
  ·rename_i e;rcases f with f|f
   ·rw[oK];exact f
   simp[Tm.occ,e]at f
  split<;>rfl
 |.lam s b,d,f,h=>by
  have⟨j,g⟩:=JA h;show(_&&_)=true;rw[j,sJ c S b (d+1) f g];rfl
 |.n0 k,d,f,h=>rfl|.n1 k a,d,f,h=>sJ c S a d f h|.n2 k a b,d,f,h=>by
  have⟨j,g⟩:=JA h;simp only[Tm.occ]at f;show(_&&_)=true;rw[sJ c S a d (f.imp id a6) j,sJ c S b d (f.imp id a6) g];rfl
 |.n3 k s a b e,d,f,h=>by
  have⟨j,g⟩:=JA h;have⟨g,l⟩:=JA g;have⟨l,m⟩:=JA l;simp only[Tm.occ]at f;show(_&&(_&&(_&&_)))=true;rw[j,sJ c S a d (f.imp id a6) g,sJ c S b d (f.imp id a6) l,sJ c S e d (f.imp id a6) m];rfl
def gQ(z:Int):∀(f:Fm)(c:Nat),(f.sh c z).shp=f.shp
 :=by intro x;induction x<;>simp_all[Fm.sh,Fm.shp,oK]
def xK(c:Nat)(S:Tm):∀(f:Fm)(d:Nat),(S.shp=true\/f.occ (c+d)=0)->f.shp=true->(f.put c S d).shp=true
 |.eq a b,d,e,h=>by
  have⟨g,i⟩:=JA h;simp only[Fm.occ]at e;show(_&&_)=true;rw[sJ c S a d (e.imp id a6) g,sJ c S b d (e.imp id a6) i];rfl
 |.bin k a b,d,e,h=>by
  have⟨g,i⟩:=JA h;simp only[Fm.occ]at e;show(_&&_)=true;rw[xK c S a d (e.imp id a6) g,xK c S b d (e.imp id a6) i];rfl
 |.q k s a,d,e,h=>by
  have⟨g,i⟩:=JA h;show(_&&_)=true;rw[g,xK c S a (d+1) e i];rfl
def Fm.tq:List Ty->Fm->Prop|g,.eq a b=>a.tyR g=.ok .nat/\b.tyR g=.ok .nat|g,.bin _ f h=>f.tq g/\h.tq g|g,.q _ s f=>f.tq (g++[s])
def pC:∀(f:Fm)(g:List Ty),f.ty g->f.tq g|.eq _ _,_,⟨⟨_,a⟩,_,b⟩=>⟨a,b⟩|.bin _ f k,g,⟨b,a⟩=>⟨pC f g b,pC k g a⟩|.q _ _ f,_,h=>pC f _ h
def Pf.W(d:List Fm):List Ty->List Fm->Pf->Fm->Prop
 |_,c,.leaf u i,f=>match u with|false=>i<c.length/\∃x,c[c.length-1-i]? =some x/\FCv x f|true=>∃x,d[i]? =some x/\FCv x f
 |g,_,.refl t,f=>t.chk=0/\Ht g t .nat/\FCv (.eq t t) f|g,c,.p1 k a,f=>match k with|.andL=>∃y,a.W d g c (.bin .and f y)|.andR=>∃x,a.W d g c (.bin .and x f)|.choice=>∃s u x,a.W d g c (.q .all s (.q .ex u x))/\FCv (.q .ex (.two true s u) (.q .all s ((x.sh 2 (.ofNat 1)).put 0 vapp 0))) f
 |g,c,.p2 k a b,f=>match k with|.andI=>∃x y,a.W d g c x/\b.W d g c y/\FCv (.bin .and x y) f|.impE=>∃x,a.W d g c (.bin .imp x f)/\b.W d g c x|.exE=>∃s x y,a.W d g c (.q .ex s x)/\b.W d (g++[s]) (fA 1 c++[x]) y/\y.occ 0=0/\FCv y.low f|.exUE=>∃s x y,a.W d g c (.q .exU s x)/\b.W d (g++[s]) (fA 1 c++[x]) y/\y.occ 0=0/\FCv y.low f/\y.has=false
 |g,c,.impI x a,f=>(x.chk=0/\x.hq g)/\∃y,a.W d g (c++[x]) y/\FCv (.bin .imp x y) f|g,c,.all u s a,f=>u=false/\∃y,a.W d (g++[s]) (fA 1 c) y/\FCv (.q .all s y) f|g,c,.ins u t a,f=>t.chk=0/\∃s x,Ht g t s/\a.W d g c (.q (aq u) s x)/\FCv (x.put 0 t 0) f|g,c,.ex u x t a,f=>(x.chk=0/\x.hq g)/\t.chk=0/\∃s y,Ht g t s/\x=.q (xI u) s y/\a.W d g c (y.put 0 t 0)/\FCv x f|g,c,.ind l x t a b,f=>(x.chk=0/\x.hq (g++[lT l]))/\(t.chk=0/\Ht g t (lT l))/\a.W d g c (x.put 0 (l0 l) 0)/\b.W d (g++lG l) (iK c x l) ((x.sh 1 (.ofNat (lN l))).put 0 (l1 l) 0)/\FCv (x.put 0 t 0) f|g,c,.subst x a b,f=>(x.chk=0/\x.hq (g++[.nat]))/\∃t u,a.W d g c (.eq t u)/\b.W d g c (x.put 0 t 0)/\FCv (x.put 0 u 0) f
def Hq(a:List Fm)(g:List Ty)(b:List Fm):Prop:=(∀f∈a,f.tq [])/\∀f∈b,f.tq g
class PB:Prop extends PA where
 un:∀{ls:List Fm}{g:List Ty}{hs:List Fm}{j:Jt}{f:Fm},j.D ls g hs->j.p.W ls g hs f->FCv j.f f
 cv:∀{ls:List Fm}{g:List Ty}{hs:List Fm}{p:Pf}{f f':Fm},p.W ls g hs f->FCv f f'->p.W ls g hs f'
 ft:∀{f g x:Fm},FCv f g->FCv g x->FCv f x
 pc:∀{f:Fm}{t u:Tm},Cv t u->FCv (f.put 0 t 0) (f.put 0 u 0)
 hc:∀{ls:List Fm}{g:List Ty}{hs:List Fm}{p:Pf}{x y f:Fm},p.W ls g (hs++[x]) f->FCv y x->p.W ls g (hs++[y]) f
 tq:∀{ls:List Fm}{g:List Ty}{hs:List Fm}{j:Jt},Hq ls g hs->j.D ls g hs->j.f.tq g
 mx:∀{g:List Ty}{f:Fm},f.tq g->f.mx<=g.length+f.cnt
 mt:∀{g:List Ty}{t:Tm}{s:Ty},t.tyR g=.ok s->t.mx<=g.length+t.cnt
 up1:∀{g:List Ty}{s:Ty}{f:Fm},f.tq g->(f.sh 0 1).tq (g++[s])
 up2:∀{g:List Ty}{s u:Ty}{f:Fm},f.tq g->(f.sh 0 2).tq (g++[s,u])
 si:∀{g:List Ty}{f:Fm},f.tq (g++[.list])->(f.sh 1 1).tq (g++[.nat,.list])
 oc:∀{f g y:Fm},zB f=some g->FCv f y->y.occ 0=0->g.occ 0=0
def yT(e:Nat)(a:List Fm)(g:List Ty)(b:List Fm)(p:Pf):Prop:=Hq a g b->∀f,p.W a g b f->Lm e
def AI{a:List Fm}{g:List Ty}{b:List Fm}{j:Jt}(h:j.D a g b):j.f.chk=0:=by
 cases j<;>first|exact h.1|exact h.1.1
def I0{f:Fm}{t:Tm}(h:f.chk=0)(k:t.chk=0)(a:max f.mx (t.mx+f.cnt)<=536870912)(a:(f.put 0 t 0).cnt<=4096):(f.put 0 t 0).sm:=by
 have:=nJ 0 t f 0;refine⟨Fm.chk_i (xK 0 t f 0 (.inl ?_) (Fm.chk0 h).2) a,a6⟩
 grind[Tm.chk]
def lQ{f:Fm}{s:Tm}(h:(f.put 0 s 0).cnt<=4096):f.pt s=.ok (f.put 0 s 0):=by
 have a:(f.put 0 s 0).cnt+f.occ 0=f.cnt+f.occ 0*s.cnt:=aK 0 s f 0;have a:=UE s;have a:f.occ 0*s.cnt=f.occ 0*(s.cnt-1)+f.occ 0:=by
  have:s.cnt=(s.cnt-1)+1:=a6
  rw[this,abk];simp
 unfold Fm.pt;rw[gm a6]
def yM:∀(t:Tm)(d:Nat),t.occ d=0->t.put 0 (.v 0) d=t.sh (d+1) (-1)
 |.v i,d,h=>by
  simp only[Tm.occ]at h;simp only[Tm.put,Tm.sh];by_cases e:i=d
  ·rw[gm e]at h;cases h
  rw[e9 a6];by_cases f:d<i
  ·rw[gm a6,gm a6];simp;omega
  rw[e9 a6,e9 a6]
 |.lam s b,d,h=>by simp only[Tm.put,Tm.sh];rw[yM b (d+1) h]|.n0 _,_,_=>rfl|.n1 _ a,d,h=>by simp only[Tm.put,Tm.sh];rw[yM a d h]|.n2 _ a b,d,h=>by simp only[Tm.occ]at h;simp only[Tm.put,Tm.sh];rw[yM a d a6,yM b d a6]|.n3 _ _ a b c,d,h=>by simp only[Tm.occ]at h;simp only[Tm.put,Tm.sh];rw[yM a d a6,yM b d a6,yM c d a6]
def Nl:∀(f:Fm)(d:Nat),f.occ d=0->f.put 0 (.v 0) d=f.sh (d+1) (-1)
 :=by intro x;induction x<;>simp_all[Fm.occ,Fm.put,Fm.sh,yM]
abbrev DD(u:List Nat):Prop:=u.Pairwise (· < ·)
def pd{n x:Nat}:∀{l:List Nat},x∈WA n l->x+n∈l
 |[],h=>by cases h
 |y::r,h=>by
  simp only[WA]at h;split at h
  ·rcases e8.1 h with rfl|h
   ·rw[Nat.sub_add_cancel (by assumption)];simp
   exact aai _ (pd h)
  exact aai _ (pd h)
def aao:=@List.pairwise_cons
def sd(n:Nat):∀{l:List Nat},DD l->DD (WA n l)
 |[],_=>List.Pairwise.nil|y::r,h=>by
  have⟨b,a⟩:=aao.1 h;simp only[WA];split
  ·refine aao.2 ⟨λz c=>?_,sd n a⟩;have:=b _ (pd c);omega
  exact sd n a
def Ol{l:List Nat}(h:DD l):∃r,A 274 [NA l] (.bool r)/\(r=false->0∉l)/\(l=[]->r=false):=by
 cases l with
 |nil=>exact⟨false,f0 [],(λ_ h=>by cases h),λ_=>rfl⟩|cons x r=>
  have e:dA (.ofNat 0) (.ofNat ((x::r).map ic).length)=true:=KA a8;have g:=EA (c:=ic) (g:=x::r) (k:=0) rfl kM;by_cases c:x=0
  ·subst c;exact⟨true,f3 [5,(8,.i (ic 0)),10] e g (eI 0),(λh=>nomatch h),λh=>nomatch h⟩
  refine⟨false,f3 [5,(8,.i (ic x)),10] e g (GF c),λ_ a=>?_,λ_=>rfl⟩;rcases e8.1 a with a|a
  ·omega
  have:=(aao.1 h).1 0 a;omega
inductive PR where|er (n:Nat)|ok (f:Fm) (u:List Nat)
def PR.k:PR->Nat|.er _=>0|.ok f _=>f.kd
def PR.tk:PR->Nat|.er _=>0|.ok f _=>f.tk
def PR.te:PR->List (List PV)|.er _=>[]|.ok f _=>f.te
def PR.ts:PR->List (List PV)|.er _=>[]|.ok f _=>f.ts
def PR.es:PR->List (List PV)|.er _=>[]|.ok f _=>f.es
def PR.u:PR->List Nat|.er _=>[]|.ok _ u=>u
def PR.e:PR->Nat|.er n=>n+1|.ok _ _=>0
def PR.p(r:PR):PV:=.tuple [.agg [num r.k,num r.tk,.slice r.te,.slice r.ts,.slice r.es,NA r.u],num r.e]
def FO(M:Nat)(f:Fm):Prop:=f.cnt<=4096/\f.mx<=M/\f.tsz<=qA
abbrev mA:Nat:=8388608
structure Pre(ls:List Fm)(g:List Ty)(hs:List Fm)(M:Nat)(p:Pf):Prop where
 l1:∀f∈ls,FO M f
 h1:∀f∈hs,FO M f
 g1:∀s∈g,s.size<=qA
 gl:g.length<=1024
 hl:hs.length<=1000
 ll:ls.length<=1024
 cnt:p.cnt<=65536
 tsz:p.tsz<=qA
 mx:p.mx<=M
 mb:M+mA*p.cnt<=eB
def PR.Good(a:List Fm)(g:List Ty)(b:List Fm)(M:Nat)(p:Pf):PR->Prop|.er n=>yT (n+1) a g b p|.ok f u=>FO (M+mA*p.cnt) f/\(f.has=false->u=[])/\(∃j:Jt,j.p=p/\j.f=f/\j.D a g b/\∀v,j.us v->v∈u)/\DD u/\(∀x∈u,x<=M+mA*p.cnt)/\u.length<=p.cnt
def rE(p:Pf):Prop:=∀a g b M,Pre a g b M p->∃r:PR,A 81 [aB a g b,p.p] r.p/\r.Good a g b M p
structure MF:Prop where
 uses:∀t:Tm,t.cnt<=qA->t.tsz<=qA->t.mx<=qA*qA->∃(u:List Nat)(e:Nat),A 339 [t.p] (.tuple [NA u,num e])/\(t.chk=0->e=0/\∀v,t.occ v≠0->v∈u)/\(∀x∈u,x<=t.mx)/\u.length<=t.cnt/\DD u
 union:∀a b:List Nat,a.length+b.length<=qA->(∀x∈a,x<=bA)->(∀x∈b,x<=bA)->∃u:List Nat,A 216 [NA a,NA b] (NA u)/\(∀v,v∈a\/v∈b->v∈u)/\(∀v∈u,v∈a\/v∈b)/\u.length<=a.length+b.length/\DD u
def OW(H:MF)(t:Tm)(a:t.cnt<=qA)(b:t.tsz<=qA)(c:t.mx<=qA*qA):∃u:List Nat,A 276 [t.p] (NA u)/\(t.chk=0->∀v,t.occ v≠0->v∈u)/\(∀x∈u,x<=t.mx)/\u.length<=t.cnt/\DD u:=by
 have⟨u,e,d,f,g,i⟩:=H.uses t a b c;exact⟨u,f1 [7] d,λh=>(f h).2,g,i⟩
def mQ(f:Fm)(s:Tm)(a:f.cnt<=qA)(b:f.mx<=qA*qA)(c:f.tsz<=qA)(d:s.cnt<=qA)(e:s.mx<=qA*qA)(g:s.tsz<=qA:=by omega):∃r:FR,A 277 [f.p,s.p] r.p/\((∃n,r=.er n/\(f.sm->s.sm->n=3))\/r=.ok (f.put 0 s 0)/\(f.put 0 s 0).cnt<=4096):=by
 have⟨r,h,i⟩:=Fl f s a b c d e g;exact⟨r,f1 [8] h,i⟩
def FR.Nrm(f:Fm):FR->Prop|.er e=>f.sm->Lm (e+1)|.ok a=>zB f=some a/\a.mx<=f.mx+1001*4096/\a.tsz<=f.tsz/\a.cnt<=4096*f.cnt
def PW:∀f:Fm,f.cnt<=bA->f.mx<=eB->f.tsz<=qA->∃r:FR,A 280 [f.p] r.p/\r.Nrm f
 |.eq a b,i,j,l=>by
  have:=zA;have:=UE a;have:=UE b;simp only[Fm.cnt,Fm.mx,Fm.tsz]at i j l;have⟨r,c,d,n1,z⟩:=AW a a6 c5;have⟨s,o,p,n2,B⟩:=AW b a6 c5
  cases r with
  |er e=>exact⟨.er e,f1 [28] c,λh=>z (cO h).1 e rfl⟩|ok x n=>cases s with
   |er e=>exact⟨.er e,f2 [28,28] c o,λh=>B (cO h).2 e rfl⟩|ok y m=>
    have⟨t,u,v⟩:=d;have⟨C,D,E⟩:=p;exact⟨.ok (.eq x y),f2 [28,28] c o,by simp only[zB,n1 _ _ rfl,n2 _ _ rfl],by grind[Fm.mx],by grind[Fm.tsz],by grind[Fm.cnt]⟩
 |.bin k f g,i,j,l=>by
  simp only[Fm.cnt,Fm.mx,Fm.tsz]at i j l;have⟨r,c,d⟩:=PW f a6 a6 a6;have⟨s,o,p⟩:=PW g a6 a6 a6
  cases r with
  |er e=>exact⟨.er e,f1 [52] c,λh=>d (eO h).1⟩|ok x=>cases s with
   |er e=>exact⟨.er e,f2 [52,52] c o,λh=>p (eO h).2⟩|ok y=>
    have⟨w,t,u,v⟩:=d;have⟨I,C,D,E⟩:=p;exact⟨.ok (.bin k x y),f2 [52,52] c o,by grind[zB],by grind[Fm.mx],by grind[Fm.tsz],by grind[Fm.cnt]⟩
 |.q k s f,i,j,l=>by
  simp only[Fm.cnt,Fm.mx,Fm.tsz]at i j l;have⟨r,c,d⟩:=PW f a6 a6 a6
  cases r with
  |er e=>exact⟨.er e,f1 [52] c,λh=>d (HW h)⟩|ok x=>
   have⟨w,t,u,v⟩:=d;exact⟨.ok (.q k s x),f1 [52] c,by simp only[zB,w],by simp only[Fm.mx];omega,by simp only[Fm.tsz];omega,by simp only[Fm.cnt];omega⟩
def td[PA](i:List Fm)(g:List Ty)(j:List Fm)(t:Tm)(n:Nat)(l:∀s∈g,s.size<=qA)(o:t.tsz<=qA:=by omega)(p:g.length+t.cnt<=qA:=by omega):∃e,A 225 [aB i g j,t.p,num n] (num e)/\(e=0->t.chk=0/\∃s,t.tyR g=.ok s/\s.kd=n)/\∀u,t.chk=0->Ht g t u->u.kd=n->e=0\/Lm e:=by
 have⟨r,a,v,b,f⟩:=Uc g t l o p
 cases r with
 |er e=>exact⟨e+1,f1 [13] a,(nofun),λu h k _=>.inr (by rcases f u h k with e|⟨m,e,h⟩<;>cases e;exact h)⟩|ok s=>
  by_cases c:s.kd=n
  ·exact⟨0,f2 [13,22] a (nC c),(λ_=>⟨(b s rfl).1,s,(b s rfl).2,c⟩),λ_ _ _ _=>.inl rfl⟩
  exact⟨7,f2 [13,22] a (AD c),(nofun),λu h k d=>by rcases f u h k with e|⟨m,e,h⟩<;>cases e;omega⟩
open Go.Lg
structure RR where
 k:Nat
 tk:Nat
 te:List (List PV)
 ts:List (List PV)
 es:List (List PV)
 u:List Nat
 e:Nat
def RR.row(c:RR):List PV:=[num c.k,num c.tk,.slice c.te,.slice c.ts,.slice c.es]
def RR.p(c:RR):PV:=.tuple [.agg c.row,NA c.u,num c.e]
def RR.of(f:Fm)(u:List Nat)(e:Nat):RR:=⟨f.kd,f.tk,f.te,f.ts,f.es,u,e⟩
abbrev RR.er(n:Nat):RR:=⟨0,0,[],[],[],[],n+1⟩
structure RG(ls:List Fm)(g:List Ty)(hs:List Fm)(M:Nat)(p:Pf)(f:Fm)(u:List Nat):Prop where
 cnt:f.cnt<=qA
 mx:f.mx<=M+mA*p.cnt
 tsz:f.tsz<=qA
 j:∃j:Jt,j.p=p/\j.f=f/\(f.chk=0->j.D ls g hs)/\∀v,j.us v->v∈u
 asc:DD u
 le:∀x∈u,x<=M+mA*p.cnt
 len:u.length<=p.cnt
def RR.Good(a:List Fm)(g:List Ty)(b:List Fm)(M:Nat)(p:Pf)(c:RR):Prop:=(c.e=0->∃f:Fm,c=.of f c.u 0/\RG a g b M p f c.u)/\(c.e≠0->yT c.e a g b p)
def dG(F:Nat)(p:Pf):Prop:=∀a g b M,Pre a g b M p->∃c:RR,A F [aB a g b,p.p] c.p/\c.Good a g b M p
def RR.good_er{a:List Fm}{g:List Ty}{d:List Fm}{M:Nat}{p:Pf}{c:RR}(h:c.e≠0)(b:yT c.e a g d p):c.Good a g d M p:=⟨λe=>absurd e h,λ_=>b⟩
def RR.ok{a:List Fm}{g:List Ty}{b:List Fm}{M:Nat}{p:Pf}{c:RR}(h:c.e=0->∃f:Fm,c=.of f c.u 0/\RG a g b M p f c.u)(e:c.e=0:=by rfl):c.Good a g b M p:=⟨h,λk=>absurd e k⟩
def J0{j:Jt}{v:Nat}(h:j.us v):j.f.has=true:=by
 cases j<;>simp only[Jt.us]at h<;>first|exact h.1|exact h.elim
def ej:=@Nat.succ_ne_zero
def tJ{p:Pf}(H:dG 147 p):rE p:=by
 intro z g A M B;have G:=zA;have I:=yA;have⟨c,i,t⟩:=H z g A M B;have⟨k,tk,te,ts,es,u,e⟩:=c
 cases e with
 |succ n=>exact⟨.er n,f1 [14] i,t.2 (ej n)⟩|zero=>
  have⟨f,C,R⟩:=t.1 rfl;cases C;have d:=mJ f R.tsz (by have:=R.cnt;omega)
  cases a:f.chk with
  |succ n=>rw[a]at d;exact⟨.er 3,f2 [14,23] i d,λ_ _ _=>by decide⟩|zero=>
   rw[a]at d;have⟨b,J,l,D⟩:=Gl f R.tsz (by have:=R.cnt;omega);obtain⟨rfl,rfl⟩:=D a;have w:FO (M+mA*p.cnt) f:=⟨(Fm.chk0 a).1,R.mx,R.tsz⟩;cases m:f.has
   ·rw[m]at l;have⟨j,r,o,s,y⟩:=R.j;exact⟨.ok f [],f3 [14,23,28] i d l,w,(λ_=>rfl),⟨j,r,o,s a,λv E=>by have:=J0 E;rw[o,m]at this;cases this⟩,List.Pairwise.nil,(λx F=>by cases F),c6 _⟩
   rw[m]at l;have⟨j,r,o,s,y⟩:=R.j;exact⟨.ok f u,f3 [14,23,28] i d l,w,(λh=>nomatch h.symm.trans m),⟨j,r,o,s a,y⟩,R.asc,R.le,R.len⟩
def nQ[PB]{p:Pf}(H:rE p)(a:List Fm)(g:List Ty)(b:List Fm)(M:Nat)(m:Pre a g b M p)(f:Fm)(t:Tm)(z:f.cnt<=qA)(B:f.mx<=qA*qA)(C:f.tsz<=qA)(F:t.cnt<=qA)(G:t.mx<=qA*qA)(I:t.tsz<=qA:=by omega)(P:max f.mx (t.mx+f.cnt)<=eB:=by omega):
  ∃(u:List Nat)(e:Nat),A 278 [aB a g b,p.p,f.p,t.p] (.tuple [NA u,num e])/\(e=0->∃d,PR.Good a g b M p (.ok d u)/\∃w,f.pt t=.ok w/\w.mt d)/\(∀x∈u,x<=M+mA*p.cnt)/\u.length<=p.cnt/\(f.chk=0->t.chk=0->max f.mx (t.mx+f.cnt)<=536870912->Hq a g b->p.W a g b (f.put 0 t 0)->e=0\/Lm e):=by
 have:=zA;have:=yA;have⟨r,o,c⟩:=H a g b M m
 cases r with
 |er n=>exact⟨[],n+1,f1 [16] o,(nofun),(λx s=>by cases s),c6 _,λ_ _ _ h k=>.inr (c h _ k)⟩|ok d u=>
  have⟨r,D,v⟩:=mQ f t z B C F G I;rcases v with ⟨n,rfl,v⟩|⟨rfl,E⟩
  ·exact⟨[],n+1,f2 [16,25] o D,(nofun),(λx s=>by cases s),c6 _,λh k l _ _=>.inr (by rw[v ⟨h,a6⟩ ⟨k,a6⟩];decide)⟩
  have i:=c.1;have:=nJ 0 t f 0;have:=cK 0 t f 0;have⟨e,L,N,O⟩:=Wc (f.put 0 t 0) d a6 a6 a6 (by have:=i.1;omega) (by have:=i.2.1;have:=m.mb;omega) i.2.2;refine⟨u,e,f3 [16,25,36] o D L,(λh=>⟨d,c,_,lQ E,N h⟩),c.2.2.2.2.1,c.2.2.2.2.2,λh k l q w=>?_⟩;obtain⟨j,rfl,rfl,y,_⟩:=c.2.2.1;have z:=PB.mx (PB.tq q y);have B:=m.gl;have C:=i.1;exact O (FCv.symm (PB.un y w)) (I0 h k l E) ⟨AI y,a6⟩
def Pre.to{e:List Fm}{g d:List Ty}{i b:List Fm}{M c:Nat}{p a:Pf}(h:Pre e g i M p)(i:M<=c)(j:∀f∈b,FO c f)(k:∀s∈d,s.size<=qA)(gl:d.length<=1024)(l:b.length<=1000)(m:a.cnt<=p.cnt)(n:a.tsz<=p.tsz)(o:a.mx<=p.mx)(r:c+mA*a.cnt<=eB):Pre e d b c a:=
 ⟨λf b=>⟨(h.l1 f b).1,hV (h.l1 f b).2.1 i,(h.l1 f b).2.2⟩,j,k,gl,l,h.ll,hV m h.cnt,hV n h.tsz,hV o (hV h.mx i),r⟩
theorem Pre.sub{b:List Fm}{g:List Ty}{c:List Fm}{M:Nat}{p a:Pf}(h:Pre b g c M p)(d:a.cnt<=p.cnt)(e:a.tsz<=p.tsz)(f:a.mx<=p.mx):Pre b g c M a:=
 h.to (e6 _) h.h1 h.g1 h.gl h.hl d e f (hV (Nat.add_le_add_left (Nat.mul_le_mul_left _ d) M) h.mb)
def FO.up{M a:Nat}{f:Fm}(h:FO M f)(b:M<=a):FO a f:=⟨h.1,hV h.2.1 b,h.2.2⟩
theorem FO.sh{M:Nat}{f:Fm}(h:FO M f)(n:Nat):FO (M+n) (f.sh 0 (.ofNat n)):=by
 have:(f.sh 0 (.ofNat n)).mx<=f.mx+n:=yH (.ofNat n) f 0;refine⟨by rw[MD];exact h.1,?_,by rw[kH];exact h.2.2⟩;have:=h.2.1;omega
theorem FO.hyp{M:Nat}{f:Fm}(h:FO M f)(a:M<=eB):f.mx<=qA*qA/\f.cnt<=qA:=by
 have:=zA;have:=h.1;have:=h.2.1;simp only[eB]at a;omega
def QW{a:List Fm}{M:Nat}(h:∀f∈a,FO M f)(n:Nat):∀f∈a.map (Fm.sh 0 (.ofNat n)),FO (M+n) f:=by
 intro f b;obtain⟨c,d,rfl⟩:=iy.1 b;exact(h c d).sh n
def uT{n:Nat}(h:n+1=0\/n+1=3):Lm (n+1):=a6
def Hq.up1[PB]{a:List Fm}{g:List Ty}{b:List Fm}(h:Hq a g b)(s:Ty):Hq a (g++[s]) (b.map (Fm.sh 0 1)):=⟨h.1,λf c=>by
 obtain⟨x,d,rfl⟩:=iy.1 c;exact PB.up1 (h.2 x d)⟩
def Hq.up2[PB]{a:List Fm}{g:List Ty}{b:List Fm}(h:Hq a g b)(s u:Ty):Hq a (g++[s,u]) (b.map (Fm.sh 0 2)):=⟨h.1,λf c=>by
 obtain⟨x,d,rfl⟩:=iy.1 c;exact PB.up2 (h.2 x d)⟩
def Hq.snoc{b:List Fm}{g:List Ty}{c:List Fm}(h:Hq b g c){x:Fm}(k:x.tq g):Hq b g (c++[x]):=⟨h.1,λf d=>by
 rcases eh.1 d with a|a
 ·exact h.2 f a
 simp at a;subst a;exact k⟩
def i4:=@Nat.mul_add
def m0:=@Nat.mul_one
def L0[PB](u:Bool)(s:Ty){a:Pf}(H:rE a):dG 219 (.all u s a):=by
 intro p g t M c;have T:=zA;have I:mA=8388608:=rfl;have:=c.gl;have:=c.hl;have C:=c.mb;have:max a.tsz s.size<=qA:=c.tsz;have:1+a.cnt<=65536:=c.cnt;have D:mA*(1+a.cnt)=mA+mA*a.cnt:=by rw[i4,m0]
 have d:M+mA*(1+a.cnt)<=eB:=C;rw[D]at d;have⟨e,j,J⟩:=vT p g t 1 0
 cases e with
 |succ n=>cases u<;>exact⟨.er n,f1 [11] j,RR.good_er (ej n) (λ_ _ _=>uT J.2)⟩
 |zero=>
  have A:=yd p g s t a6 a6 (λf Y=>(c.h1 f Y).hyp a6);have E:Pre p (g++[s]) (t.map (Fm.sh 0 1)) (M+1) a:=c.to a6 (QW c.h1 1) (by intro x m;rcases eh.1 m with h|h;exact c.g1 x h;simp at h;subst h;omega) a9 (by simpa using c.hl) (by show a.cnt<=1+a.cnt;omega) (by show a.tsz<=max a.tsz s.size;omega) (e6 _) a6;have⟨r,B,K⟩:=H _ _ _ _ E
  cases r with
  |er n=>cases u<;>exact⟨.er n,f3 [11,21,26] j A B,RR.good_er (ej n) (λq f ⟨_,y,w,_⟩=>K (q.up1 s) y w)⟩
  |ok f w=>
   have⟨F,_,Z,L,N,q5⟩:=K;obtain⟨i,j1,rfl,j3,O⟩:=Z;have hw:∀x∈w,x<=bA:=λx m=>by have:=N x m;have:=yA;simp only[eB,T]at d;omega
   have P:=MW 1 w a6 hw;have Q:∀k:FQ,aq u=k->(u=true->¬i.us 0)->RG p g t M (.all u s a) (.q k s i.f) (WA 1 w):=by
    intro k I hu;refine⟨?_,?_,?_,?_,?_,?_,?_⟩
    ·have:=F.1;simp only[Fm.cnt];omega
    ·have:=F.2.1;show i.f.mx<=M+mA*(1+a.cnt);rw[D];omega
    ·have:=F.2.2;simp only[Fm.tsz];omega
    ·subst I;exact⟨.all u s i,by rw[<-j1];rfl,rfl,λhc=>⟨hc,(J.1 rfl).1,j3,hu⟩,λv hv=>KW (O _ hv.2)⟩
    ·exact sd 1 L
    ·intro x m;have o:∀{l:List Nat},x∈WA 1 l->∃y∈l,x+1=y:=by
      intro l
      induction l with
      |nil=>intro h;cases h
      |cons y r R=>
       intro h;simp only[WA]at h;split at h
       ·rcases e8.1 h with rfl|h
        ·exact⟨y,a8,a6⟩
        have⟨z,o,G⟩:=R h;exact⟨z,by simp[o],G⟩
       have⟨z,o,G⟩:=R h;exact⟨z,by simp[o],G⟩
     have⟨y,hy,hxy⟩:=o m;have:=N y hy;show x<=M+mA*(1+a.cnt);rw[D];omega
    have:=LW 1 w;show(WA 1 w).length<=1+a.cnt;omega
   cases u
   ·exact⟨.of (.q .all s i.f) (WA 1 w) 0,f5 [11,21,26,40,43] j A B (EE .all s i.f) P,RR.ok λ_=>⟨_,rfl,Q _ rfl λh=>nomatch h⟩⟩
   have⟨b,S,h0⟩:=Ol L;cases b
   ·exact⟨.of (.q .allU s i.f) (WA 1 w) 0,f6 [11,21,26,46,52,55] j A B S (EE .allU s i.f) P,RR.ok λ_=>⟨_,rfl,Q _ rfl λ_ h=>h0.1 rfl (O 0 h)⟩⟩
   exact⟨.er 11,f4 [11,21,26,46] j A B S,RR.good_er (ej 11) (λ_ f w=>nomatch w.1)⟩
open Go.Lg
def M0[PB](H:MF)(u:Bool)(t:Tm){a:Pf}(Ha:rE a):dG 220 (.ins u t a):=by
 intro p g B M C;have T:=zA;have:=yA;have hk:mA=8388608:=rfl;have U:eB=qA*qA-1001*4096:=rfl;have:=C.gl;have V:M+mA*(1+t.cnt+a.cnt)<=eB:=C.mb;have:max t.tsz a.tsz<=qA:=C.tsz;have:max t.mx a.mx<=M:=C.mx;have:1+t.cnt+a.cnt<=65536:=C.cnt;have Q:mA*(1+t.cnt+a.cnt)=mA+mA*t.cnt+mA*a.cnt:=by rw[i4,i4,m0]
 rw[Q]at V;rw[T]at U;have N:t.mx<=qA*qA:=by rw[T];omega
 have⟨r,j,_,q0,p0⟩:=Uc g t C.g1
 cases r with
 |er n=>cases u<;>exact⟨.er n,f1 [22] j,RR.good_er (ej n) (λq f ⟨W,s,x,X,_⟩=>by rcases p0 s W X with e|⟨m,e,h⟩<;>cases e;exact h)⟩
 |ok s=>
  have⟨b,i⟩:=q0 s rfl;have Y:Pre p g B M a:=C.sub (by show a.cnt<=1+t.cnt+a.cnt;omega) (by show a.tsz<=max t.tsz a.tsz;omega) (by show a.mx<=max t.mx a.mx;omega);have⟨r,D,F⟩:=Ha _ _ _ _ Y
  cases r with
  |er n=>cases u<;>exact⟨.er n,f2 [22,35] j D,RR.good_er (ej n) (λq f ⟨_,_,_,_,w,_⟩=>F q _ w)⟩
  |ok f w=>
   have⟨F,_,⟨Z,j1,G,I,j4⟩,q3,q4,q5⟩:=F;have un:∀{f'},a.W p g B f'->FCv f f':=λw=>G▸PB.un I (by rw[j1];exact w)
   have⟨w',J,p1,p2,p3,pA⟩:=OW H t a6 a6 N;have⟨w2,K,p4,p5,p6,pB⟩:=H.union w w' a6 (λx hx=>by have:=q4 x hx;omega) (λx hx=>by have:=p2 x hx;omega);have E:∀n:Nat,f.kd≠bn u 4 6->∃c:RR,A 220 [aB p g B,(Pf.ins u t a).p] c.p/\c.Good p g B M (.ins u t a):=by
    intro _ O;cases u<;>exact⟨.er 9,f5 [22,35,45,46,56] j D J K (AD O),RR.good_er (ej 9) (λq f' ⟨_,_,_,_,w,_⟩=>absurd (un w).kd O)⟩
   have P:∀(k:FQ)(y:Ty)(x:Fm),f=.q k y x->k.n=bn u 4 6->∃c:RR,A 220 [aB p g B,(Pf.ins u t a).p] c.p/\c.Good p g B M (.ins u t a):=by
    intro k y x hf d;subst hf;have:1+x.cnt<=4096:=F.1;have:x.mx<=M+mA*a.cnt:=F.2.1;have:max y.size x.tsz<=qA:=F.2.2;have L:=TE y s;cases e1:y.same s<;>rw[e1]at L
    ·cases u<;>exact⟨.er 6,f6 [22,35,45,46,56,62] j D J K (nC d) L,RR.good_er (ej 6) (λq f' ⟨_,v,_,X,w,_⟩=>by
      cases un w;rcases PB.toPA.ht X with e|e<;>rw[i]at e<;>cases e;exact absurd e1 (by rw[(BD _ _).2 rfl];decide))⟩
    have⟨r,R,S⟩:=mQ x t a6 (by rw[T];omega) a6 a6 N;rcases S with ⟨n,rfl,S⟩|⟨rfl,p8⟩
    ·cases u
     ·exact⟨⟨0,0,[],[],[],w2,n+1⟩,f7 [22,35,45,46,56,62,72] j D J K (nC d) L R,RR.good_er (ej n) (λq _ _=>by
       have l:=PB.mx (PB.tq q I);rw[G]at l;have l:x.mx<=g.length+(1+x.cnt):=l;have h2:=PB.mt i;have o:=AI I;rw[G]at o;rw[S (Vc o) ⟨b,a6⟩];exact(by decide:Lm (3+1)))⟩
     exact⟨⟨0,0,[],[],[],w,n+1⟩,f7 [22,35,45,46,56,62,72] j D J K (nC d) L R,RR.good_er (ej n) (λq _ _=>by
      have l:=PB.mx (PB.tq q I);rw[G]at l;have l:x.mx<=g.length+(1+x.cnt):=l;have h2:=PB.mt i;have o:=AI I;rw[G]at o;rw[S (Vc o) ⟨b,a6⟩];exact(by decide:Lm (3+1)))⟩
    have hk:k=aq u:=FQ.inj (d.trans (by cases u<;>rfl));have hD:(x.put 0 t 0).chk=0->(Jt.ins u t Z (x.put 0 t 0)).D p g B:=λW=>⟨W,b,I,s,x,i,by rw[G,hk,(BD y s).1 e1],lQ p8⟩
    have l:=nJ 0 t x 0;have h2:=cK 0 t x 0;have o:(x.put 0 t 0).mx<=M+mA*(1+t.cnt+a.cnt):=by rw[Q];omega
    cases u
    ·refine⟨.of (x.put 0 t 0) w2 0,f7 [22,35,45,46,56,62,72] j D J K (nC d) L R,RR.ok λ_=>⟨_,rfl,⟨by show(x.put 0 t 0).cnt<=qA;omega,o,by show(x.put 0 t 0).tsz<=qA;omega,⟨.ins false t Z _,by rw[<-j1];rfl,rfl,hD,λv hv=>?_⟩,pB,λz hz=>?_,by show w2.length<=1+t.cnt+a.cnt;omega⟩⟩⟩
     ·rcases hv.2 with h|⟨_,h⟩
      ·exact p4 v (.inl (j4 v h))
      exact p4 v (.inr (p1 b v h))
     rcases p5 z hz with h|h
     ·have:=q4 z h;show z<=M+mA*(1+t.cnt+a.cnt);rw[Q];omega
     have:=p2 z h;omega
    refine⟨.of (x.put 0 t 0) w 0,f7 [22,35,45,46,56,62,72] j D J K (nC d) L R,RR.ok λ_=>⟨_,rfl,⟨by show(x.put 0 t 0).cnt<=qA;omega,o,by show(x.put 0 t 0).tsz<=qA;omega,⟨.ins true t Z _,by rw[<-j1];rfl,rfl,hD,λv hv=>?_⟩,q3,(λz hz=>by have:=q4 z hz;show z<=M+mA*(1+t.cnt+a.cnt);rw[Q];omega),by show w.length<=1+t.cnt+a.cnt;omega⟩⟩⟩;rcases hv.2 with h|⟨h,_⟩
    ·exact j4 v h
    cases h
   cases f with
   |eq x y=>exact E 0 (by cases u<;>exact nofun)|bin k x y=>exact E 0 (by cases u<;>cases k<;>exact nofun)|q k y x=>
    by_cases h:k.n=bn u 4 6
    ·exact P k y x rfl h
    exact E 0 h
def aan:=@Nat.exists_eq_succ_of_ne_zero
def N0[PB](H:MF)(u:Bool)(f:Fm)(t:Tm){a:Pf}(Ha:rE a):dG 221 (.ex u f t a):=by
 intro B g C M o;have S:=zA;have:=yA;have:mA=8388608:=rfl;have T:eB=qA*qA-1001*4096:=rfl;have:=o.gl;have U:M+mA*(1+t.cnt+f.cnt+a.cnt)<=eB:=o.mb;have:max (max t.tsz f.tsz) a.tsz<=qA:=o.tsz;have:max (max t.mx f.mx) a.mx<=M:=o.mx;have:1+t.cnt+f.cnt+a.cnt<=65536:=o.cnt;have V:mA*(1+t.cnt+f.cnt+a.cnt)=mA+mA*t.cnt+mA*f.cnt+mA*a.cnt:=by rw[i4,i4,i4,m0]
 rw[V]at U;rw[S]at T;have K:t.mx<=qA*qA:=by rw[S];omega
 have⟨e,p,L,p0⟩:=WS g f o.g1
 cases e with
 |succ n=>cases u<;>exact⟨.er n,f1 [25] p,RR.good_er (ej n) (λq F ⟨⟨h,k⟩,_⟩=>(p0 h k).resolve_left (ej n))⟩
 |zero=>
  have W:=Fm.chk0 (L rfl).1;have D:f.kd≠bn u 5 7->∃c:RR,A 221 [aB B g C,(Pf.ex u f t a).p] c.p/\c.Good B g C M (.ex u f t a):=by
   intro N;cases u<;>exact⟨.er 9,f2 [25,36] p (AD N),RR.good_er (ej 9) (λq F ⟨_,_,s,y,_,e,_⟩=>absurd (by rw[e];rfl) N)⟩
  have O:∀(k:FQ)(y:Ty)(x:Fm),f=.q k y x->k.n=bn u 5 7->∃c:RR,A 221 [aB B g C,(Pf.ex u f t a).p] c.p/\c.Good B g C M (.ex u f t a):=by
   intro k y x hf b;subst hf;have:1+x.cnt<=4096:=W.1;have:x.mx<=M:=by have:(Fm.q k y x).mx=x.mx:=rfl;omega
   have X:x.tsz<=qA:=by have:(Fm.q k y x).tsz=max y.size x.tsz:=rfl;omega
   have⟨r,G,_,q1,Y⟩:=Uc g t o.g1
   cases r with
   |er n=>cases u<;>exact⟨.er n,f3 [25,36,42] p (nC b) G,RR.good_er (ej n) (λq F ⟨_,hc,s,y,Z,_⟩=>by rcases Y s hc Z with e|⟨m,e,h⟩<;>cases e;exact h)⟩
   |ok s=>
    have⟨d,j⟩:=q1 s rfl;have I:=TE y s;cases J:y.same s<;>rw[J]at I
    ·cases u<;>exact⟨.er 6,f4 [25,36,42,52] p (nC b) G I,RR.good_er (ej 6) (λq F ⟨_,_,v,_,Z,e,_⟩=>by
      cases e;rcases PB.toPA.ht Z with e|e<;>rw[j]at e<;>cases e;exact absurd J (by rw[(BD _ _).2 rfl];decide))⟩
    have hpa:Pre B g C M a:=o.sub (by show a.cnt<=1+t.cnt+(Fm.q k y x).cnt+a.cnt;omega) (by show a.tsz<=max (max t.tsz (Fm.q k y x).tsz) a.tsz;omega) (by show a.mx<=max (max t.mx (Fm.q k y x).mx) a.mx;omega);have:x.mx<=g.length+(1+x.cnt):=PB.mx (pC _ _ (L rfl).2);have:=PB.mt j;have⟨w,e,P,q2,b1,b2,b3⟩:=nQ Ha B g C M hpa x t a6 (by rw[S];omega) X a6 K;have hB:e≠0->yT e B g C (.ex u (.q k y x) t a):=λl q F ⟨_,_,v,y',_,J,w,_⟩=>by
     cases J;exact(b3 (Vc (L rfl).1).1 d a6 q w).resolve_left l
    have⟨w',g5,p1,p2,p3,pA⟩:=OW H t a6 a6 K;cases u
    ·by_cases l:e=0
     ·subst l;have⟨F,⟨q3,_,⟨ja,j1,j2,j3,j4⟩,q5,Q,q7⟩,wf,hw,E⟩:=q2 rfl;have⟨R,g6,p4,p5,p6,pB⟩:=H.union w w' a6 (λz i=>by have:=Q z i;omega) (λz i=>by have:=p2 z i;omega);refine⟨.of (.q k y x) R 0,f7 [25,36,42,52,66,73,74] p (nC b) G I P g5 g6,RR.ok λ_=>⟨_,rfl,⟨by show 1+x.cnt<=qA;omega,by show(Fm.q k y x).mx<=M+_;omega,by show(Fm.q k y x).tsz<=qA;omega,⟨.ex false (.q k y x) t ja,by rw[<-j1];rfl,rfl,λ_=>⟨L rfl,d,j3,s,x,wf,j,by rw[FQ.inj (b.trans rfl:k.n=(xI false).n),(BD y s).1 J],hw,by rw[j2];exact E⟩,λv hv=>?_⟩,pB,λz i=>?_,by show R.length<=1+t.cnt+(Fm.q k y x).cnt+a.cnt;omega⟩⟩⟩
      ·rcases hv.2 with h|⟨_,h⟩
       ·exact p4 v (.inl (j4 v h))
       exact p4 v (.inr (p1 d v h))
      rcases p5 z i with h|h
      ·have:=Q z h;show z<=M+mA*(1+t.cnt+(Fm.q k y x).cnt+a.cnt);rw[V];omega
      have:=p2 z h;omega
     obtain⟨n,rfl⟩:=aan l;have⟨R,g6,_⟩:=H.union w w' a6 (λz i=>by have:=b1 z i;omega) (λz i=>by have:=p2 z i;omega);exact⟨.of (.q k y x) R (n+1),f7 [25,36,42,52,66,73,74] p (nC b) G I P g5 g6,RR.good_er (ej n) (hB l)⟩
    by_cases l:e=0
    ·subst l;have⟨F,⟨q3,_,⟨ja,j1,j2,j3,j4⟩,q5,Q,q7⟩,wf,hw,E⟩:=q2 rfl;refine⟨.of (.q k y x) w 0,f5 [25,36,42,52,66] p (nC b) G I P,RR.ok λ_=>⟨_,rfl,⟨by show 1+x.cnt<=qA;omega,by show(Fm.q k y x).mx<=M+_;omega,by show(Fm.q k y x).tsz<=qA;omega,⟨.ex true (.q k y x) t ja,by rw[<-j1];rfl,rfl,λ_=>⟨L rfl,d,j3,s,x,wf,j,by rw[FQ.inj (b.trans rfl:k.n=(xI true).n),(BD y s).1 J],hw,by rw[j2];exact E⟩,λv hv=>?_⟩,q5,(λz i=>by have:=Q z i;show z<=M+mA*(1+t.cnt+(Fm.q k y x).cnt+a.cnt);rw[V];omega),by show w.length<=1+t.cnt+(Fm.q k y x).cnt+a.cnt;omega⟩⟩⟩;rcases hv.2 with h|⟨h,_⟩
     ·exact j4 v h
     cases h
    obtain⟨n,rfl⟩:=aan l;exact⟨.of (.q k y x) w (n+1),f5 [25,36,42,52,66] p (nC b) G I P,RR.good_er (ej n) (hB l)⟩
  cases f with
  |eq x y=>exact D (by cases u<;>exact nofun)|bin k x y=>exact D (by cases u<;>cases k<;>exact nofun)|q k y x=>
   by_cases h:k.n=bn u 5 7
   ·exact O k y x rfl h
   exact D h
open Go.Lg
def od(g:List Ty)(s:Ty):rA (g++[s])=.slice (g.map Ty.c++[s.c]):=by simp[rA]
def RW{g:List Ty}{s:Ty}(a:∀s∈g,s.size<=qA)(a:s.size<=qA:=by omega):∀x∈g++[s],x.size<=qA:=by
 grind
def O0[PB]{a:List Fm}{g:List Ty}{c:List Fm}{f:Fm}{x y:Tm}{d:Jt}(b:g.length<=1024)(b:f.chk=0/\f.ty (g++[.nat]))(i:d.f=.eq x y)(e:d.D a g c)(q:Hq a g c):(x.sm/\y.sm/\f.sm)/\max f.mx (x.mx+f.cnt)<=536870912:=by
 have a:=AI e;have h:=PB.mx (PB.tq q e);rw[i]at a h;have h:max x.mx y.mx<=g.length+(1+x.cnt+y.cnt):=h;have k:=PB.mx (pC _ _ b.2);rw[gz]at k;have k:f.mx<=g.length+1+f.cnt:=k;have c:=(Fm.chk0 b.1).1;have c:1+x.cnt+y.cnt<=4096:=(Fm.chk0 a).1;have:=cO ⟨a,(by show max x.mx y.mx<=_;omega)⟩;exact⟨⟨this.1,this.2,b.1,a6⟩,a6⟩
def P0[PB](f:Fm){a b:Pf}(V:rE a)(W:rE b):dG 226 (.subst f a b):=by
 intro u g A M i;have B:=zA;have:mA=8388608:=rfl;have D:eB=qA*qA-1001*4096:=rfl;have E:=i.gl;have F:M+mA*(1+f.cnt+a.cnt+b.cnt)<=eB:=i.mb;have:max (max f.tsz a.tsz) b.tsz<=qA:=i.tsz;have:max (max f.mx a.mx) b.mx<=M:=i.mx;have:1+f.cnt+a.cnt+b.cnt<=65536:=i.cnt;have G:mA*(1+f.cnt+a.cnt+b.cnt)=mA+mA*f.cnt+mA*a.cnt+mA*b.cnt:=by rw[i4,i4,i4,m0]
 rw[G]at F;rw[B]at D;have l:=jT g;have m:=jG 2 32 Ty.c_len bb g .nat a6 (by simp only[maxLen];omega);have⟨e,j,C,p0⟩:=GW (g++[.nat]) f (RW i.g1 bb) a6 a9;rw[od]at j
 cases e with
 |succ n=>exact⟨.er n,f3 [(25,.ok),(28,.ok),30] l m j,RR.good_er (ej n) (λq f' ⟨⟨h,k⟩,_⟩=>(p0 h k).resolve_left (ej n))⟩|zero=>
  have:=Fm.chk0 (C rfl).1;have H:Pre u g A M a:=i.sub (by show a.cnt<=1+f.cnt+a.cnt+b.cnt;omega) (by show a.tsz<=max (max f.tsz a.tsz) b.tsz;omega) (by show a.mx<=max (max f.mx a.mx) b.mx;omega);have I:Pre u g A M b:=i.sub (by show b.cnt<=1+f.cnt+a.cnt+b.cnt;omega) (by show b.tsz<=max (max f.tsz a.tsz) b.tsz;omega) (by show b.mx<=max (max f.mx a.mx) b.mx;omega);have⟨r,o,p⟩:=V _ _ _ _ H
  cases r with
  |er n=>exact⟨.er n,f4 [(25,.ok),(28,.ok),30,41] l m j o,RR.good_er (ej n) (λq f' ⟨_,_,_,w,_⟩=>p q _ w)⟩|ok R w=>
   have⟨p,_,⟨ja,S,J,K,_⟩,_,_,_⟩:=p;have un:∀{f'},a.W u g A f'->FCv R f':=λw=>J▸PB.un K (by rw[S];exact w)
   cases R with
   |bin k x y=>exact⟨.er 9,f5 [(25,.ok),(28,.ok),30,41,51] l m j o (show(!sB (.ofNat (Fm.bin k x y).kd) (.ofNat 1))=true from AD (by cases k<;>exact nofun)),RR.good_er (ej 9) (λq f' ⟨_,_,_,w,_⟩=>by cases un w)⟩|q k s x=>exact⟨.er 9,f5 [(25,.ok),(28,.ok),30,41,51] l m j o (show(!sB (.ofNat (Fm.q k s x).kd) (.ofNat 1))=true from AD (by cases k<;>exact nofun)),RR.good_er (ej 9) (λq f' ⟨_,_,_,w,_⟩=>by cases un w)⟩|eq x y=>
    have:1+x.cnt+y.cnt<=4096:=p.1;have:max x.mx y.mx<=M+mA*a.cnt:=p.2.1;have:max x.tsz y.tsz<=qA:=p.2.2;have:f.mx<=M:=a6
    have T:Hq u g A->(x.sm/\y.sm/\f.sm)/\max f.mx (x.mx+f.cnt)<=536870912:=O0 E (C rfl) J K;have⟨L,e,N,q2,b1,b2,b3⟩:=nQ W u g A M I f x a6 (by rw[B];omega) a6 a6 (by rw[B];omega);by_cases O:e=0
    ·subst O;have⟨f',⟨q3,_,⟨jb,k1,k2,k3,k4⟩,q5,q6,q7⟩,wf,hw,P⟩:=q2 rfl;have⟨r,U,Q⟩:=mQ f y a6 (by rw[B];omega) a6 a6 (by rw[B];omega);rcases Q with ⟨n,rfl,Q⟩|⟨rfl,q9⟩
     ·exact⟨⟨0,0,[],[],[],L,n+1⟩,f6 [(25,.ok),(28,.ok),30,41,65,79] l m j o N U,RR.good_er (ej n) (λq _ _=>by
       have h:=(T q).1;rw[Q h.2.2 h.2.1];exact(by decide:Lm (3+1)))⟩
     have:=nJ 0 y f 0;have:=cK 0 y f 0;exact⟨.of (f.put 0 y 0) L 0,f6 [(25,.ok),(28,.ok),30,41,65,79] l m j o N U,RR.ok λ_=>⟨_,rfl,⟨by show(f.put 0 y 0).cnt<=qA;omega,by show(f.put 0 y 0).mx<=M+mA*(1+f.cnt+a.cnt+b.cnt);rw[G];omega,by show(f.put 0 y 0).tsz<=qA;omega,⟨.subst f ja jb _,by rw[<-S,<-k1];rfl,rfl,λhc=>⟨hc,C rfl,K,k3,x,y,wf,J,hw,by rw[k2];exact P,lQ q9⟩,λv hv=>k4 v hv.2⟩,q5,(λz hz=>by have:=q6 z hz;show z<=M+mA*(1+f.cnt+a.cnt+b.cnt);rw[G];omega),by show L.length<=1+f.cnt+a.cnt+b.cnt;omega⟩⟩⟩
    obtain⟨n,rfl⟩:=aan O;exact⟨.er n,f5 [(25,.ok),(28,.ok),30,41,65] l m j o N,RR.good_er (ej n) (λq f' ⟨_,t,v,w,w',_⟩=>by
     have h:=T q
     cases un w with|eq c d=>exact(b3 (C rfl).1 h.1.1.1 h.2 q (PB.cv w' (PB.pc c.symm))).resolve_left O)⟩
def FCv.has{f g:Fm}(h:FCv f g):f.has=g.has:=by
 induction h with
 |eq h k=>rfl|bin k _ _ a b=>cases k<;>simp only[Fm.has,a,b]
 |q k s _ c=>cases k<;>simp only[Fm.has,c]
def Pl[PB](H:MF)(u:Bool){a b:Pf}(Ha:rE a)(Hb:rE b):dG 222 (.p2 (ek u) a b):=by
 intro i g j M m;have hm:=zA;have:=yA;have:mA=8388608:=rfl;have hcx:eB=qA*qA-1001*4096:=rfl;have:=m.gl;have:=m.hl;have hmb:M+mA*(1+a.cnt+b.cnt)<=eB:=m.mb;have:max a.tsz b.tsz<=qA:=m.tsz;have:max a.mx b.mx<=M:=m.mx;have:1+a.cnt+b.cnt<=65536:=m.cnt;have hK:mA*(1+a.cnt+b.cnt)=mA+mA*a.cnt+mA*b.cnt:=by rw[i4,i4,m0]
 rw[hK]at hmb;rw[hm]at hcx;have hpa:Pre i g j M a:=m.sub (by show a.cnt<=1+a.cnt+b.cnt;omega) (by show a.tsz<=max a.tsz b.tsz;omega) (by show a.mx<=max a.mx b.mx;omega);have⟨r,l,W⟩:=Ha _ _ _ _ hpa
 cases r with
 |er n=>cases u<;>exact⟨.er n,f1 [19] l,RR.good_er (ej n) (λq f' ⟨_,_,_,w,_⟩=>W q _ w)⟩
 |ok fa w=>
 have⟨W,_,⟨ja,j1,j2,j3,j4⟩,p2,p3,p4⟩:=W;have un:∀{f'},a.W i g j f'->FCv fa f':=λw=>j2▸PB.un j3 (by rw[j1];exact w)
 have T:fa.kd≠bn u 5 7->∃c:RR,A 222 [aB i g j,(Pf.p2 (ek u) a b).p] c.p/\c.Good i g j M (.p2 (ek u) a b):=by
  intro Y;cases u<;>exact⟨.er 9,f2 [19,33] l (AD Y),RR.good_er (ej 9) (λq f' ⟨_,_,_,w,_⟩=>absurd (un w).kd Y)⟩
 have Z:∀(k:FQ)(y:Ty)(x:Fm),fa=.q k y x->k.n=bn u 5 7->∃c:RR,A 222 [aB i g j,(Pf.p2 (ek u) a b).p] c.p/\c.Good i g j M (.p2 (ek u) a b):=by
  intro k y x hf d;subst hf;have:1+x.cnt<=4096:=W.1;have:x.mx<=M+mA*a.cnt:=W.2.1;have:max y.size x.tsz<=qA:=W.2.2;have⟨e,D,q2⟩:=vT i g j 1 1
  cases e with
  |succ n=>cases u<;>exact⟨.er n,f3 [19,33,36] l (nC d) D,RR.good_er (ej n) (λ_ _ _=>uT q2.2)⟩
  |zero=>
  have G:=yd i g y j a6 a6 (λf hf=>(m.h1 f hf).hyp a6);have I:=JW i (g++[y]) (j.map (Fm.sh 0 1)) x a9;have p:=q2.1 rfl;have U:∀f',(Pf.p2 (ek u) a b).W i g j f'->∃E,b.W i (g++[y]) (j.map (Fm.sh 0 1)++[x]) E/\E.occ 0=0/\(u=true->E.has=false):=λf' h=>by
   cases u
   ·have⟨s,x',E,w,J,o,_⟩:=h
    cases un w with|q _ _ c=>exact⟨E,PB.hc J c,o,λh=>nomatch h⟩
   have⟨s,x',E,w,J,o,_,c'⟩:=h
   cases un w with|q _ _ c=>exact⟨E,PB.hc J c,o,λ_=>c'⟩
  have hHb:Hq i g j->Hq i (g++[y]) (j.map (Fm.sh 0 1)++[x]):=λq=>(q.up1 y).snoc (by have h:=PB.tq q j3;rw[j2]at h;exact h)
  have hpb:Pre i (g++[y]) (j.map (Fm.sh 0 1)++[x]) (M+1+mA*a.cnt) b:=m.to a6 (by
   intro f hf;rcases eh.1 hf with h|h
   ·exact(QW m.h1 1 f h).up a6
   simp at h;subst h;exact⟨a6,a6,a6⟩) (RW m.g1) a9 a9 (by show b.cnt<=1+a.cnt+b.cnt;omega) (by show b.tsz<=max a.tsz b.tsz;omega) (by show b.mx<=max a.mx b.mx;omega) a6
  have⟨r,K,V⟩:=Hb _ _ _ _ hpb
  cases r with
  |er n=>cases u<;>exact⟨.er n,f6 [19,33,36,47,53,58] l (nC d) D G I K,RR.good_er (ej n) (λq f' w=>by have⟨E,J,_⟩:=U f' w;exact V (hHb q) _ J)⟩
  |ok fb v=>
  have⟨V,hu0,⟨jb,k1,k2,k3,k4⟩,r2,r3,r4⟩:=V;have unb:∀{f'},b.W i (g++[y]) (j.map (Fm.sh 0 1)++[x]) f'->FCv fb f':=λw=>k2▸PB.un k3 (by rw[k1];exact w)
  have hsb:Hq i g j->fb.sm:=λq=>by
   have h:=PB.mx (PB.tq (hHb q) k3);have X:=AI k3;rw[k2]at h X;have h2:=V.1;rw[gz]at h;exact⟨X,(by have h:fb.mx<=g.length+1+fb.cnt:=h;omega)⟩
  have hkk:k=xI u:=FQ.inj (d.trans (by cases u<;>rfl));have:=V.1;have:=V.2.1;have:=V.2.2;have hvb:∀z∈v,z<=bA:=λz t=>by have:=r3 z t;omega
  have:=LW 1 v;have hob:∀z∈WA 1 v,z<=M+1+mA*a.cnt+mA*b.cnt:=wT (λz t=>r3 z t);have L:=MW 1 v a6 hvb;have⟨R,N,s1,s2,s3,sA⟩:=H.union w (WA 1 v) a6 (λz t=>by have:=p3 z t;omega) (λz t=>by have:=hob z t;omega);have O:∀F:Fm,NC fb=some (F.sh 1 (-1))->(u=true->0∉v)->F.mx<=fb.mx+1001*4096->F.tsz<=fb.tsz->F.cnt<=4096*fb.cnt->RG i g j M (.p2 (ek u) a b) (F.sh 1 (-1)) R:=by
   intro F X h0 h2 h3 h4;have:(F.sh 1 (-1)).mx<=F.mx+0:=yH (-1) F 1;refine⟨by rw[MD];omega,?_,by rw[kH];omega,⟨.p2 (ek u) ja jb (F.sh 1 (-1)),by rw[<-j1,<-k1];rfl,rfl,λhc=>?_,λz t=>?_⟩,sA,λz t=>?_,by show R.length<=1+a.cnt+b.cnt;omega⟩
   ·show _<=M+mA*(1+a.cnt+b.cnt);rw[hK];omega
   ·have hx:ja.f=.q k y ja.f.bd/\jb.D i (g++[y]) (fA 1 j++[ja.f.bd]):=by rw[j2];exact⟨rfl,k3⟩
    rw[hkk]at hx;rw[<-k2]at X;cases u
    ·exact⟨hc,j3,⟨y,hx.1,hx.2⟩,p,X⟩
    exact⟨hc,j3,⟨y,hx.1,hx.2⟩,p,X,λh=>h0 rfl (k4 0 h)⟩
   ·rcases t.2 with h6|h6
    ·exact s1 z (.inl (j4 z h6))
    exact s1 z (.inr (KW (k4 _ (by cases u<;>exact h6))))
   show z<=M+mA*(1+a.cnt+b.cnt);rw[hK];rcases s2 z t with h|h
   ·have:=p3 z h;omega
   have:=hob z h;omega
  have⟨t1,S,o7⟩:=US fb 0 a6;have⟨t3,P,fK,o12'⟩:=Ol r2;have hu:u=true->t3=true->∀{e:Nat},yT e i g j (.p2 (ek u) a b):=λhu ht e q f' w=>by
   have⟨E,J,_,h⟩:=U f' w;rw[o12' (hu0 ((unb J).has.trans (h hu)))]at ht;cases ht
  cases t1
  ·have B:fb.occ 0=0:=Classical.byContradiction λh=>nomatch o7.2 h
   have C:NC fb=some (fb.sh 1 (-1)):=by unfold NC;rw[gm B,<-Nl fb 0 B]
   have g9:=WD fb 1 (-1) a6 a6 (by rw[hm];omega) a6;cases u
   ·exact⟨.of (fb.sh 1 (-1)) R 0,fk [(19,.r (PR.ok (.q k y x) w).p),(33,.H),(36,.N 0),(47,.r (aB i (g++[y]) (j.map (Fm.sh 0 1)))),(53,.r (aB i (g++[y]) (j.map (Fm.sh 0 1)++[x]))),(58,.r (PR.ok fb v).p),(68,.F),(90,.r (fb.sh 1 (-1)).p),(95,.r (NA (WA 1 v))),(96,.r (NA R))]
     (And.intro l (And.intro (nC d) (And.intro D (And.intro G (And.intro I (And.intro K (And.intro S (And.intro g9 (And.intro L (And.intro N (Eq.refl (RR.of (fb.sh 1 (-1)) R 0).p))))))))))),RR.ok λ_=>⟨_,rfl,O fb C (λh=>nomatch h) a6 (e6 _) a6⟩⟩
   cases t3
   ·exact⟨.of (fb.sh 1 (-1)) R 0,qM [19,33,36,47,53,58,68,86,90,95,96] l (nC d) D G I K S P g9 L N,RR.ok λ_=>⟨_,rfl,O fb C (λ_=>fK rfl) a6 (e6 _) a6⟩⟩
   exact⟨.er 11,f8 [19,33,36,47,53,58,68,86] l (nC d) D G I K S P,RR.good_er (ej 11) (hu rfl rfl)⟩
  have⟨r,g8,n1⟩:=PW fb a6 a6 a6
  cases r with
  |er n=>cases u<;>exact⟨.er n,f8 [19,33,36,47,53,58,68,71] l (nC d) D G I K S g8,RR.good_er (ej n) (λq _ _=>n1 (hsb q))⟩
  |ok F=>
   have⟨n1,n2,n3,n4⟩:=n1;have⟨t2,Q,o13⟩:=US F 0 a6;have g9:=WD F 1 (-1) a6 a6 (by rw[hm];omega) a6;cases t2
   ·have B:F.occ 0=0:=Classical.byContradiction λh=>nomatch o13.2 h
    have C:NC fb=some (F.sh 1 (-1)):=by unfold NC;rw[e9 (o7.1 rfl),n1];simp only;rw[gm B,<-Nl F 0 B]
    cases u
    ·exact⟨.of (F.sh 1 (-1)) R 0,NS [19,33,36,47,53,58,68,71,79,90,95,96] l (nC d) D G I K S g8 Q g9 L N,RR.ok λ_=>⟨_,rfl,O F C (λh=>nomatch h) n2 n3 n4⟩⟩
    cases t3
    ·exact⟨.of (F.sh 1 (-1)) R 0,sW [19,33,36,47,53,58,68,71,79,86,90,95,96] l (nC d) D G I K S g8 Q P g9 L N,RR.ok λ_=>⟨_,rfl,O F C (λ_=>fK rfl) n2 n3 n4⟩⟩
    exact⟨.er 11,bJ [19,33,36,47,53,58,68,71,79,86] l (nC d) D G I K S g8 Q P,RR.good_er (ej 11) (hu rfl rfl)⟩
   cases u<;>exact⟨.er 5,f9 [19,33,36,47,53,58,68,71,79] l (nC d) D G I K S g8 Q,RR.good_er (ej 5) (λq f' w=>by
    have⟨E,J,o,_⟩:=U f' w;exact absurd (PB.oc n1 (unb J) o) (o13.1 rfl))⟩
 cases fa with
 |eq x y=>exact T (by cases u<;>exact nofun)|bin k x y=>exact T (by cases u<;>cases k<;>exact nofun)|q k y x=>
  by_cases h:k.n=bn u 5 7
  ·exact Z k y x rfl h
  exact T h
end Go.Proofs.YtbebdmlomjpamaaGreatDoor
