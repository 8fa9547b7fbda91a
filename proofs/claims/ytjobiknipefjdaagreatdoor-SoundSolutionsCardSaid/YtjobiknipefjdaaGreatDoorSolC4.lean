/- Contracts of functions; no conditions. -/
import Derived.Test.YtjobiknipefjdaaGreatDoorSolC3
set_option linter.all false
set_option maxHeartbeats 4000000
namespace Go.Proofs.YtjobiknipefjdaaGreatDoor
open Go.Lg
set_option maxRecDepth 100000
abbrev bG:List PV:=[num 0,num 0,.slice [],.slice [],.slice []]
def SZ:A 83 [.agg bG] (.agg bG):=f1 [12] lU
def Zh(k:FB)(f:Fm):A 204 [num k.n,f.p,.agg bG] (.agg [num k.n,num 0,.slice [],.slice [],.slice [f.c,bG]]):=f2 [9,11] (cJ f) SZ
abbrev qz(k:FQ)(s:Ty)(x:List PV):List PV:=[num k.n,num s.kd,.slice s.es,.slice [],.slice [x]]
def Ku(k:FQ)(s:Ty):A 261 [num k.n,s.p,.agg bG] (.agg (qz k s bG)):=f2 [9,11] (mD s) SZ
def Lu(k:FQ)(s:Ty):A 83 [.agg (qz k s bG)] (.agg (qz k s bG)):=f2 [12,39] (mD s) SZ
def Mu(k l:FQ)(s u:Ty):A 261 [num k.n,s.p,.agg (qz l u bG)] (.agg (qz k s (qz l u bG))):=f2 [9,11] (mD s) (Lu l u)
def Nu[PB]{a:List Fm}{g:List Ty}{b:List Fm}{c:Jt}{s u:Ty}{y:Fm}(d:g.length<=1024)(h:Hq a g b)(e:c.f=.q .all s (.q .ex u y))(d:c.D a g b):(y.sh 2 1).sm:=by
 have a:=PB.mx (PB.tq h d);have b:=BH d;rw[e]at a b;have c:=(Fm.chk0 b).1;have a:y.mx<=g.length+(1+(1+y.cnt)):=a;have c:1+(1+y.cnt)<=4096:=c;have:(y.sh 2 1).mx<=y.mx+1:=VK 1 y 2;have a:y.shp=true:=(WK (WK (Fm.chk0 b).2).2).2;exact⟨Fm.chk_i (by rw[yP];exact a) (by rw[XE];omega),by omega⟩
def Ou[PB]{a:Pf}(R:KD a):rF 216 (.p1 .choice a):=by
 intro i g j M m;have p:=vA;have:=uA;have:rA=8388608:=rfl;have t:mB=qA*qA-1001*4096:=rfl;have B:M+rA*(1+a.cnt)<=mB:=m.mb;have:1+a.cnt<=65536:=m.cnt;have C:rA*(1+a.cnt)=rA+rA*a.cnt:=by rw[Nat.mul_add,Nat.mul_one]
 rw[C]at B;rw[p]at t;have D:Pre i g j M a:=m.sub (by show a.cnt<=1+a.cnt;omega) (Nat.le_refl _) (Nat.le_refl _);obtain⟨r,l,q⟩:=R _ _ _ _ D
 cases r with|er n=>exact⟨.er n,f1 [19] l,RR.good_er (Nat.succ_ne_zero n) (λh _ ⟨_,_,_,w,_⟩=>q h _ w)⟩|ok E w=>
 obtain⟨F,_,⟨U,N,G,H,V⟩,p2,W,p4⟩:=q;have un:∀{f'},a.W i g j f'->FCv E f':=λw=>G▸PB.un H (by rw[N];exact w)
 have d:E.kd≠4->∃c:RR,A 216 [dB i g j,(Pf.p1 .choice a).p] c.p/\c.Good i g j M (.p1 .choice a):=λf=>⟨.er 9,f2 [19,29] l (TC f),RR.good_er (Nat.succ_ne_zero 9) (λ_ _ ⟨_,_,_,w,_⟩=>absurd (un w).kd f)⟩
 cases E with|eq x y=>exact d (nofun)|bin k x y=>exact d (by cases k<;>exact nofun)|q k s x=>
 cases k with|ex=>exact d (nofun)|allU=>exact d (nofun)|exU=>exact d (nofun)|all=>
 have b:x.kd≠5->∃c:RR,A 216 [dB i g j,(Pf.p1 .choice a).p] c.p/\c.Good i g j M (.p1 .choice a):=λf=>⟨.er 9,f2 [19,37] l (TC f),RR.good_er (Nat.succ_ne_zero 9) (λ_ _ ⟨_,_,_,w,_⟩=>by
  cases un w with|q _ _ c=>exact absurd c.kd f)⟩
 cases x with|eq x y=>exact b (nofun)|bin k x y=>exact b (by cases k<;>exact nofun)|q k u y=>
 cases k with|all=>exact b (nofun)|allU=>exact b (nofun)|exU=>exact b (nofun)|ex=>
 have:1+(1+y.cnt)<=4096:=F.1;have:y.mx<=M+rA*a.cnt:=F.2.1;have:max s.size (max u.size y.tsz)<=qA:=F.2.2;have I:=ZM s u;have o:=QK (.two true s u) (by show 1+s.size+u.size<=yA;omega);rcases IG (.two true s u)with e|e<;>rw[e]at o;rotate_left
 ·exact⟨.er 3,f3 [19,51,53] l I o,RR.good_er (Nat.succ_ne_zero 3) (λ_ _ _=>(by decide:Lm (3+1)))⟩
 have J:=chk0 e;have:(y.sh 2 1).mx<=y.mx+1:=VK 1 y 2;have O:=LG y 2 1 (by omega) (by omega) (by rw[p];omega) (by omega);have P:=JG 3 (.v 1) (.v 0);obtain⟨r,Q,K⟩:=bP (y.sh 2 1) (.n2 .app (.v 1) (.v 0)) (by rw[XE];omega) (by rw[p];omega) (by rw[bN];omega) (by decide) (by decide) (by decide);rcases K with ⟨n,rfl,K⟩|⟨rfl,Y⟩
 ·exact⟨⟨5,4,(Ty.two true s u).es,[],[qz .all s bG],w,n+1⟩,f8 [19,51,53,65,69,70,76,77] l I o O P Q (Ku .all s) (Mu .ex .all (.two true s u) s),RR.good_er (Nat.succ_ne_zero n) (λh _ _=>by
   rw[K (Nu m.gl h G H) ⟨rfl,by decide⟩];exact(by decide:Lm (3+1)))⟩
 have:=nI 0 (.n2 .app (.v 1) (.v 0)) (y.sh 2 1) 0;have:=oJ 0 (.n2 .app (.v 1) (.v 0)) (y.sh 2 1) 0;have:(y.sh 2 1).cnt=y.cnt:=XE 1 y 2;have:(y.sh 2 1).tsz=y.tsz:=bN 1 y 2;have:(Tm.n2 .app (.v 1) (.v 0)).mx=1:=rfl;have:(Tm.n2 .app (.v 1) (.v 0)).tsz=0:=rfl;have Z:=uP Y;generalize hz:(y.sh 2 1).put 0 (.n2 .app (.v 1) (.v 0)) 0=z at *
 refine⟨.of (.q .ex (.two true s u) (.q .all s z)) w 0,f8 [19,51,53,65,69,70,76,77] l I o O P Q (cU .all s z) (cU .ex (.two true s u) (.q .all s z)),RR.ok λ_=>⟨_,rfl,⟨?_,?_,?_,⟨.p1 .choice U _,by rw[<-N];rfl,rfl,λhc=>⟨hc,H,s,u,y,G,J,z,Z,rfl⟩,λv L=>V v L.2⟩,p2,λv L=>?_,by show w.length<=1+a.cnt;omega⟩⟩⟩
 ·show 1+(1+z.cnt)<=qA;omega
 ·show z.mx<=M+rA*(1+a.cnt);rw[C];omega
 ·show max (Ty.two true s u).size (max s.size z.tsz)<=qA;omega
 have:=W v L;show v<=M+rA*(1+a.cnt);rw[C];omega
def Pu[PB](u:Bool)(i:Nat):rF 144 (.leaf u i):=by
 intro j g a M k;have:=vA;have:=k.hl;cases u
 ·by_cases h:i<a.length
  ·obtain⟨f,b⟩:∃f,a[a.length-1-i]? =some f:=⟨_,List.getElem?_eq_getElem (by omega)⟩;have c:(!fA (.ofNat i) (.ofNat (a.map Fm.c).length))=false:=by rw[NA (by simp_all)];rfl
   have o:xA (Int.ofNat (a.map Fm.c).length-1)=true/\Int.ofNat (a.map Fm.c).length-1=.ofNat (a.length-1):=by
    have e:Int.ofNat (a.map Fm.c).length-1=.ofNat (a.length-1):=by simp;omega
    grind[AA]
   have p:xA (Int.ofNat (a.length-1)-.ofNat i)=true/\Int.ofNat (a.length-1)-.ofNat i=.ofNat (a.length-1-i):=by
    have e:Int.ofNat (a.length-1)-.ofNat i=.ofNat (a.length-1-i):=by simp;omega
    grind[AA]
   have d:=k.h1 f (List.mem_of_getElem? b);exact⟨.of f [] 0,f4 [30,37,40,(41,.i f.c)] c o p (kB b Fm.c_len),RR.ok λ_=>⟨f,rfl,⟨by have:=d.1;omega,by have:=d.2.1;omega,d.2.2,⟨.leaf false i f,rfl,rfl,λl=>⟨l,h,b⟩,λv m=>m.elim⟩,List.Pairwise.nil,(λx b=>by cases b),Nat.zero_le _⟩⟩⟩
  have c:(!fA (.ofNat i) (.ofNat (a.map Fm.c).length))=true:=by rw[HA (by simp;omega)];rfl
  exact⟨.er 7,f1 [30] c,RR.good_er (Nat.succ_ne_zero 7) (λ_ _ w=>absurd w.1 h)⟩
 by_cases h:i<j.length
 ·obtain⟨f,b⟩:∃f,j[i]? =some f:=⟨_,List.getElem?_eq_getElem h⟩;have c:(!fA (.ofNat i) (.ofNat (j.map Fm.c).length))=false:=by rw[NA (by simp_all)];rfl
  have d:=k.l1 f (List.mem_of_getElem? b);exact⟨.of f [] 0,f2 [50,(56,.i f.c)] c (kB b Fm.c_len),RR.ok λ_=>⟨f,rfl,⟨by have:=d.1;omega,by have:=d.2.1;omega,d.2.2,⟨.leaf true i f,rfl,rfl,λl=>⟨l,b⟩,λv m=>m.elim⟩,List.Pairwise.nil,(λx b=>by cases b),Nat.zero_le _⟩⟩⟩
 have c:(!fA (.ofNat i) (.ofNat (j.map Fm.c).length))=true:=by rw[HA (by simp;omega)];rfl
 exact⟨.er 8,f1 [50] c,RR.good_er (Nat.succ_ne_zero 8) (λ_ _ ⟨_,w,_⟩=>absurd (List.getElem?_eq_some_iff.1 w).1 h)⟩
def Qu[PB](t:Tm):rF 144 (.refl t):=by
 intro d g f M a;have:=vA;have:=a.gl;have:1+t.cnt<=65536:=a.cnt;have:t.mx<=M:=a.mx;have b:t.tsz<=qA:=a.tsz;obtain⟨e,k,q,p⟩:=PZ d g f t 1 a.g1 b;refine⟨.of (.eq t t) [] e,f2 [280,286] (pu t t) k,λc=>?_,λc _ _ w=>(p _ w.1 w.2.1 rfl).resolve_left c⟩;subst c;obtain⟨l,s,m,n⟩:=q rfl;exact⟨_,rfl,⟨by show 1+t.cnt+t.cnt<=qA;omega,by show max t.mx t.mx<=M+_;omega,by show max t.tsz t.tsz<=qA;omega,⟨.refl t,rfl,rfl,λo=>⟨o,l,by rw[m,AU n]⟩,λv r=>r.elim⟩,List.Pairwise.nil,(λx u=>by cases u),Nat.zero_le _⟩⟩
def Ru[PB](k:P1){a:Pf}(z:KD a):rF 144 (.p1 k a):=by
 intro f g i M G;have:=vA;have:rA=8388608:=rfl;have B:rA*(1+a.cnt)=rA+rA*a.cnt:=by rw[Nat.mul_add,Nat.mul_one]
 have o:Pre f g i M a:=G.sub (by show a.cnt<=1+a.cnt;omega) (Nat.le_refl _) (Nat.le_refl _)
 cases k with
 |choice=>
  obtain⟨c,e,H⟩:=Ou z f g i M G;exact⟨c,f1 [297] e,H⟩
 |andL=>
  obtain⟨r,e,q⟩:=z _ _ _ _ o
  cases r with|er n=>exact⟨.er n,f1 [102] e,RR.good_er (Nat.succ_ne_zero n) (λh _ ⟨_,w⟩=>q h _ w)⟩|ok j w=>
  obtain⟨l,_,⟨C,p,t,u,D⟩,p2,E,I⟩:=q;have un:∀{f'},a.W f g i f'->FCv j f':=λw=>t▸PB.un u (by rw[p];exact w)
  have b:j.kd≠2->∃c:RR,A 144 [dB f g i,(Pf.p1 .andL a).p] c.p/\c.Good f g i M (.p1 .andL a):=λd=>⟨.er 9,f2 [102,112] e (TC d),RR.good_er (Nat.succ_ne_zero 9) (λ_ _ ⟨_,w⟩=>absurd (un w).kd d)⟩
  cases j with
  |eq x y=>exact b (nofun)|q k s x=>exact b (by cases k<;>exact nofun)|bin k x y=>
   cases k with
   |imp=>exact b (nofun)|and=>
    have J:1+x.cnt+y.cnt<=4096:=l.1;have K:max x.mx y.mx<=M+rA*a.cnt:=l.2.1;have L:max x.tsz y.tsz<=qA:=l.2.2;exact⟨.of x w 0,f1 [102] e,RR.ok λ_=>⟨_,rfl,⟨by omega,by show x.mx<=M+rA*(1+a.cnt);rw[B];omega,by omega,⟨.p1 .andL C x,by rw[<-p];rfl,rfl,λF=>⟨F,u,y,t⟩,λv m=>D v m.2⟩,p2,λv m=>by have:=E v m;show v<=M+rA*(1+a.cnt);rw[B];omega,by show w.length<=1+a.cnt;omega⟩⟩⟩
 |andR=>
  obtain⟨r,e,q⟩:=z _ _ _ _ o
  cases r with|er n=>exact⟨.er n,f1 [102] e,RR.good_er (Nat.succ_ne_zero n) (λh _ ⟨_,w⟩=>q h _ w)⟩|ok j w=>
  obtain⟨l,_,⟨C,p,t,u,D⟩,p2,E,I⟩:=q;have un:∀{f'},a.W f g i f'->FCv j f':=λw=>t▸PB.un u (by rw[p];exact w)
  have b:j.kd≠2->∃c:RR,A 144 [dB f g i,(Pf.p1 .andR a).p] c.p/\c.Good f g i M (.p1 .andR a):=λd=>⟨.er 9,f2 [102,112] e (TC d),RR.good_er (Nat.succ_ne_zero 9) (λ_ _ ⟨_,w⟩=>absurd (un w).kd d)⟩
  cases j with
  |eq x y=>exact b (nofun)|q k s x=>exact b (by cases k<;>exact nofun)|bin k x y=>
   cases k with
   |imp=>exact b (nofun)|and=>
    have J:1+x.cnt+y.cnt<=4096:=l.1;have K:max x.mx y.mx<=M+rA*a.cnt:=l.2.1;have L:max x.tsz y.tsz<=qA:=l.2.2;exact⟨.of y w 0,f1 [102] e,RR.ok λ_=>⟨_,rfl,⟨by omega,by show y.mx<=M+rA*(1+a.cnt);rw[B];omega,by omega,⟨.p1 .andR C y,by rw[<-p];rfl,rfl,λF=>⟨F,u,x,t⟩,λv m=>D v m.2⟩,p2,λv m=>by have:=E v m;show v<=M+rA*(1+a.cnt);omega,by show w.length<=1+a.cnt;omega⟩⟩⟩
def Su[PB](f:Fm){a:Pf}(E:KD a):rF 144 (.impI f a):=by
 intro l g m M b;have:=vA;have:rA=8388608:=rfl;have:=b.gl;have:=b.hl;have o:M+rA*(1+f.cnt+a.cnt)<=mB:=b.mb;have:max f.tsz a.tsz<=qA:=b.tsz;have:max f.mx a.mx<=M:=b.mx;have:1+f.cnt+a.cnt<=65536:=b.cnt;have z:rA*(1+f.cnt+a.cnt)=rA+rA*f.cnt+rA*a.cnt:=by rw[Nat.mul_add,Nat.mul_add,Nat.mul_one]
 rw[z]at o;obtain⟨e,j,p,A⟩:=qR g f b.g1
 cases e with|succ n=>exact⟨.er n,f1 [132] j,RR.good_er (Nat.succ_ne_zero n) (λ_ _ ⟨⟨h,k⟩,_⟩=>(A h k).resolve_left (Nat.succ_ne_zero n))⟩|zero=>
 clear A;have s:=Fm.chk0 (p rfl).1;obtain⟨e,t,c⟩:=wR l g m 0 1
 cases e with|succ n=>exact⟨.er n,f2 [132,138] j t,RR.good_er (Nat.succ_ne_zero n) (λ_ _ _=>bR c.2)⟩|zero=>
 have d:=c.1 rfl;clear c;have B:=HU l g m f;have u:Pre l g (m++[f]) M a:=b.to (Nat.le_refl _) (by
  intro x K;rcases List.mem_append.1 K with h|h
  ·exact b.h1 x h
  simp at h;subst h;exact⟨s.1,by omega,by omega⟩) b.g1 b.gl (by simp;omega) (by show a.cnt<=1+f.cnt+a.cnt;omega) (by show a.tsz<=max f.tsz a.tsz;omega) (by show a.mx<=max f.mx a.mx;omega) (by omega)
 obtain⟨r,C,q⟩:=E _ _ _ _ u
 cases r with
 |er n=>exact⟨⟨3,0,[],[],[f.c,bG],[],n+1⟩,f5 [132,138,149,154,163] j t B C (Zh .imp f),RR.good_er (Nat.succ_ne_zero n) (λh _ ⟨_,_,w,_⟩=>q (h.snoc (tD _ _ (p rfl).2)) _ w)⟩|ok i w=>
  obtain⟨c,_,⟨L,N,D,O,P⟩,p2,Q,U⟩:=q;have:=c.1;have:=c.2.1;have:=c.2.2;exact⟨.of (.bin .imp f i) w 0,f5 [132,138,149,154,163] j t B C (Ph .imp f i),RR.ok λ_=>⟨_,rfl,⟨by show 1+f.cnt+i.cnt<=qA;omega,by show max f.mx i.mx<=M+rA*(1+f.cnt+a.cnt);rw[z];omega,by show max f.tsz i.tsz<=qA;omega,⟨.impI f L,by rw[<-N];rfl,by rw[<-D];rfl,λR=>⟨by rw[D];exact R,p rfl,d.2,O⟩,λv y=>P v y.2⟩,p2,λv y=>by have:=Q v y;show v<=M+rA*(1+f.cnt+a.cnt);omega,by show w.length<=1+f.cnt+a.cnt;omega⟩⟩⟩
def Tu[PB]{a:List Fm}{g:List Ty}{b:List Fm}{c:Jt}{k:FB}{x y:Fm}(d:g.length<=1024)(h:Hq a g b)(e:c.f=.bin k x y)(d:c.D a g b):x.sm:=by
 have b:=PB.mx (PB.tq h d);have a:=BH d;rw[e]at b a;have:=(Fm.chk0 a).1;exact(fN ⟨a,by omega⟩).1
def Uu[PB](H:MF)(k:P2){a b:Pf}(R:KD a)(S:KD b):rF 144 (.p2 k a b):=by
 intro l g m M o;have hm:=vA;have:=uA;have:rA=8388608:=rfl;have U:mB=qA*qA-1001*4096:=rfl;have V:M+rA*(1+a.cnt+b.cnt)<=mB:=o.mb;have:1+a.cnt+b.cnt<=65536:=o.cnt;have G:rA*(1+a.cnt+b.cnt)=rA+rA*a.cnt+rA*b.cnt:=by rw[Nat.mul_add,Nat.mul_add,Nat.mul_one]
 rw[G]at V;rw[hm]at U;have I:Pre l g m M a:=o.sub (by show a.cnt<=1+a.cnt+b.cnt;omega) (by show a.tsz<=max a.tsz b.tsz;omega) (by show a.mx<=max a.mx b.mx;omega);have J:Pre l g m M b:=o.sub (by show b.cnt<=1+a.cnt+b.cnt;omega) (by show b.tsz<=max a.tsz b.tsz;omega) (by show b.mx<=max a.mx b.mx;omega)
 cases k with
 |exE=>
  obtain⟨c,i,j⟩:=Vh H false R S l g m M o;exact⟨c,f1 [250] i,j⟩
 |exUE=>
  obtain⟨c,i,j⟩:=Vh H true R S l g m M o;exact⟨c,f1 [250] i,j⟩
 |andI=>
  obtain⟨r,i,q⟩:=R _ _ _ _ I
  cases r with|er n=>exact⟨.er n,f1 [66] i,RR.good_er (Nat.succ_ne_zero n) (λh _ ⟨_,_,w,_⟩=>q h _ w)⟩|ok f w=>
  obtain⟨p,_,⟨W,K,C,D,X⟩,p2,E,p4⟩:=q;have un:∀{f'},a.W l g m f'->FCv f f':=λw=>C▸PB.un D (by rw[K];exact w)
  obtain⟨r,j,q⟩:=S _ _ _ _ J
  cases r with
  |er n=>
   obtain⟨t,L,_⟩:=H.union w [] (by simp;omega) (λz d=>by have:=E z d;omega) (λz d=>by cases d);exact⟨⟨2,0,[],[],[f.c,bG],t,n+1⟩,f4 [66,79,86,91] i j (Zh .and f) L,RR.good_er (Nat.succ_ne_zero n) (λh _ ⟨_,_,_,w,_⟩=>q h _ w)⟩
  |ok fb v=>
   obtain⟨u,_,⟨Y,T,N,F,Z⟩,s2,O,s4⟩:=q;obtain⟨t,L,t1,t2,t3,tA⟩:=H.union w v (by omega) (λz d=>by have:=E z d;omega) (λz d=>by have:=O z d;omega);have e1:=p.1;have e2:=p.2.1;have e3:=p.2.2;have d1:=u.1;have d2:=u.2.1;have d3:=u.2.2;refine⟨.of (.bin .and f fb) t 0,f4 [66,79,86,91] i j (Ph .and f fb) L,RR.ok λ_=>⟨_,rfl,⟨by show 1+f.cnt+fb.cnt<=qA;omega,by show max f.mx fb.mx<=M+rA*(1+a.cnt+b.cnt);rw[G];omega,by show max f.tsz fb.tsz<=qA;omega,⟨.p2 .andI W Y (.bin .and f fb),by rw[<-K,<-T];rfl,rfl,λhc=>⟨hc,D,F,by rw[C,N]⟩,λz d=>?_⟩,tA,λz d=>?_,by show t.length<=1+a.cnt+b.cnt;omega⟩⟩⟩
   ·rcases d.2 with h|h
    ·exact t1 z (.inl (X z h))
    exact t1 z (.inr (Z z h))
   show z<=M+rA*(1+a.cnt+b.cnt);rw[G];rcases t2 z d with h|h
   ·have:=E z h;omega
   have:=O z h;omega
 |impE=>
  obtain⟨r,i,q⟩:=R _ _ _ _ I
  cases r with|er n=>exact⟨.er n,f1 [175] i,RR.good_er (Nat.succ_ne_zero n) (λh _ ⟨_,w,_⟩=>q h _ w)⟩|ok f w=>
  obtain⟨p,_,⟨W,K,C,D,X⟩,p2,E,p4⟩:=q;have un:∀{f'},a.W l g m f'->FCv f f':=λw=>C▸PB.un D (by rw[K];exact w)
  have B:f.kd≠3->∃c:RR,A 144 [dB l g m,(Pf.p2 .impE a b).p] c.p/\c.Good l g m M (.p2 .impE a b):=λP=>⟨.er 9,f2 [175,185] i (TC P),RR.good_er (Nat.succ_ne_zero 9) (λ_ _ ⟨_,w,_⟩=>absurd (un w).kd P)⟩
  cases f with|eq x y=>exact B (nofun)|q k s x=>exact B (by cases k<;>exact nofun)|bin k x y=>
  cases k with|and=>exact B (nofun)|imp=>
  have e1:1+x.cnt+y.cnt<=4096:=p.1;have e2:max x.mx y.mx<=M+rA*a.cnt:=p.2.1;have e3:max x.tsz y.tsz<=qA:=p.2.2;obtain⟨r,j,q⟩:=S _ _ _ _ J
  cases r with
  |er n=>exact⟨.er n,f2 [175,193] i j,RR.good_er (Nat.succ_ne_zero n) (λh _ ⟨_,_,w⟩=>q h _ w)⟩|ok fb v=>
   obtain⟨u,_,⟨Y,T,N,F,Z⟩,s2,O,s4⟩:=q;have d1:=u.1;have d2:=u.2.1;have d3:=u.2.2;obtain⟨t,L,t1,t2,t3,tA⟩:=H.union w v (by omega) (λz d=>by have:=E z d;omega) (λz d=>by have:=O z d;omega);have hgl:=o.gl;obtain⟨e,g4,g5,g6⟩:=FU x fb (by omega) (by omega) (by omega) (by omega) (by omega) d3;refine⟨.of y t e,f4 [175,193,209,217] i j L g4,λQ=>?_,λQ h f' ⟨_,w,w'⟩=>?_⟩;rotate_left
   ·refine(g6 ?_ (Tu hgl h C D) ?_).resolve_left Q
    ·cases un w with|bin _ c _=>exact PB.ft c (FCv.symm (N▸PB.un F (by rw[T];exact w')))
    have h1:=PB.mx (PB.tq h F);have h2:=BH F;rw[N]at h1 h2;exact⟨h2,by omega⟩
   have Q:e=0:=Q;subst Q;clear g6;refine⟨_,rfl,⟨by omega,by show y.mx<=M+rA*(1+a.cnt+b.cnt);rw[G];omega,by omega,⟨.p2 .impE W Y y,by rw[<-K,<-T];rfl,rfl,λhc=>⟨hc,D,F,x,C,by rw[N];exact g5 rfl⟩,λz d=>?_⟩,tA,λz d=>?_,by show t.length<=1+a.cnt+b.cnt;omega⟩⟩
   ·rcases d.2 with h|h
    ·exact t1 z (.inl (X z h))
    exact t1 z (.inr (Z z h))
   show z<=M+rA*(1+a.cnt+b.cnt);rw[G];rcases t2 z d with h|h
   ·have:=E z h;omega
   have:=O z h;omega
def tF[PB](H:MF):∀p:Pf,KD p
 |.leaf u i=>sI (Pu u i)|.refl t=>sI (Qu t)|.p1 k a=>sI (Ru k (tF H a))|.p2 k a b=>sI (Uu H k (tF H a) (tF H b))|.impI f a=>sI (Su f (tF H a))|.all u s a=>sI λh g j M m=>by
  obtain⟨c,d,e⟩:=Cu u s (tF H a) h g j M m;cases u<;>exact⟨c,f1 [223] d,e⟩
 |.ins u t a=>sI λh g j M m=>by
  obtain⟨c,d,e⟩:=Du H u t (tF H a) h g j M m;cases u<;>exact⟨c,f1 [232] d,e⟩
 |.ex u f t a=>sI λh g j M m=>by
  obtain⟨c,d,e⟩:=Eu H u f t (tF H a) h g j M m;cases u<;>exact⟨c,f1 [241] d,e⟩
 |.ind l f t a b=>sI λh g j M m=>by
  cases l
  ·obtain⟨c,d,e⟩:=Iu H f t (tF H a) (tF H b) h g j M m;exact⟨c,f1 [258] d,e⟩
  obtain⟨c,d,e⟩:=Ju H f t (tF H a) (tF H b) h g j M m;exact⟨c,f1 [266] d,e⟩
 |.subst f a b=>sI λh g j M m=>by
  obtain⟨c,d,e⟩:=Gu f (tF H a) (tF H b) h g j M m;exact⟨c,f1 [291] d,e⟩
open Go.Lg
def aF:∀t:Ty,A 183 [t.p] t.p|.nat=>f0 []|.list=>f0 []|.unit=>f0 []|.two k a b=>f2 [19,19] (aF a) (aF b)
def WC:A 183 [zt] zt:=f0 []
def dR(a b:Ty):A 184 [a.p,b.p] (.bool (a.same b)):=by
 induction a generalizing b with
 |two k a b f g=>cases b with
  |two l c d=>
   have f:=f c;have g:=g d;show A 184 [(Ty.two k a b).p,(Ty.two l c d).p] (.bool ((k==l)&&(a.same c&&b.same d)));generalize a.same c=p at *
   generalize b.same d=q at *
   by_cases e:k=l
   ·subst e;cases p
    ·cases k<;>exact f1 [35] f
    cases q
    ·cases k<;>exact f2 [35,35] f g
    cases k<;>exact f2 [35,35] f g
   cases k<;>cases l<;>first|exact absurd rfl e|exact f0 []
  |_=>cases k<;>exact f0 []
 |_=>cases b with
  |two l c d=>cases l<;>exact f0 []
  |_=>exact f0 []
def RU:∀t:Ty,t.size<=yA->A 310 [t.p] (.tuple [num t.size,.bool true])
 |.nat,_=>f0 []|.list,_=>f0 []|.unit,_=>f0 []|.two k a b,h=>by
  have h:1+a.size+b.size<=yA:=h;have c:=RU a (by omega);have d:=RU b (by omega);have e:xA (.ofNat (1+a.size))=true:=lB (by omega);cases k<;>exact f4 [33,(40,.ok),33,(40,.ok)] c e d (lB h)
def eF(n m:Nat):Nat:=match fA (.ofNat m) (.ofNat n)with|true=>0|false=>n
def QG(n m:Nat):Nat:=match fA (.ofNat m) (.ofNat n)with|true=>4|false=>0
theorem BJ{n m:Nat}(h:n<=m):eF n m=n/\QG n m=0:=by
 have e:fA (.ofNat m) (.ofNat n)=false:=HA h
 grind[eF,QG]
theorem Vu{n m:Nat}(h:m<n):eF n m=0/\QG n m=4:=by
 have e:fA (.ofNat m) (.ofNat n)=true:=NA h
 grind[eF,QG]
def qi(n m:Nat):(n<=m/\eF n m=n/\QG n m=0)\/(m<n/\eF n m=0/\QG n m=4):=by
 grind[BJ,Vu]
def ckE_0{n m:Nat}:QG n m=0↔n<=m:=by
 rcases qi n m with ⟨h,_,e⟩|⟨h,_,e⟩<;>rw[e]<;>simp<;>omega
def mN(t:Ty)(h:t.size<=yA:=by omega):A 237 [t.p] (.tuple [num (eF t.size 64),num (QG t.size 64)]):=by
 unfold eF QG;cases e:fA (.ofNat 64) (.ofNat t.size)
 ·exact f2 [8,16] (RU t h) e
 exact f2 [8,16] (RU t h) e
def TZ(t:Ty)(h:t.size<=yA:=by omega):A 247 [t.p] (num (QG t.size 64)):=f1 [7] (mN t h)
def aD:A 238 [zt] (.bool true):=f0 []
def Tm.nd(t:Tm):Nat:=match t.shp with|true=>t.cnt|false=>0
def tI(s:Ty):s.chk=QG s.size 64:=rfl
def aI:∀t:Tm,t.tsz<=yA->t.cnt<=yA->A 252 [t.p] (.tuple [num t.nd,.bool t.shp])
 |.v i,_,_=>by cases i<;>exact f0 []
 |.n0 k,_,_=>by cases k<;>exact f0 []
 |.lam s b,h,f=>by
  have h:max s.size b.tsz<=yA:=h;have f:1+b.cnt<=yA:=f;have g:=mN s;have d:=aI b (by omega) (by omega);unfold Tm.nd at *
  unfold Tm.shp;rcases IG s with e|e<;>rw[tI]at e<;>rw[e]at g<;>rw[tI,e]
  ·cases l:b.shp<;>rw[l]at d
   ·exact f2 [49,67] g d
   exact f3 [49,67,(74,.ok)] g d (lB f)
  exact f1 [49] g
 |.n1 k a,h,f=>by
  have f:1+a.cnt<=yA:=f;have d:=aI a h (by omega);unfold Tm.nd at *
  show A 252 [(Tm.n1 k a).p] (.tuple [num (match a.shp with|true=>1+a.cnt|false=>0),.bool a.shp]);cases l:a.shp<;>rw[l]at d
  ·cases k<;>exact f1 [67] d
  cases k<;>exact f2 [67,(74,.ok)] d (lB f)
 |.n2 k a b,h,f=>by
  have h:max a.tsz b.tsz<=yA:=h;have f:1+a.cnt+b.cnt<=yA:=f;have g:=aI a (by omega) (by omega);have d:=aI b (by omega) (by omega);have j:xA (.ofNat (1+a.cnt))=true:=lB (by omega);unfold Tm.nd at *
  show A 252 [(Tm.n2 k a b).p] (.tuple [num (match a.shp&&b.shp with|true=>1+a.cnt+b.cnt|false=>0),.bool (a.shp&&b.shp)]);cases o:a.shp<;>rw[o]at g
  ·cases k<;>exact f1 [67] g
  cases l:b.shp<;>rw[l]at d
  ·cases k<;>exact f3 [67,(74,.ok),67] g j d
  cases k<;>exact f4 [67,(74,.ok),67,(74,.ok)] g j d (lB f)
 |.n3 k s a b c,h,f=>by
  have h:max (max s.size a.tsz) (max b.tsz c.tsz)<=yA:=h;have f:1+a.cnt+b.cnt+c.cnt<=yA:=f;have m:=mN s;have g:=aI a (by omega) (by omega);have d:=aI b (by omega) (by omega);have p:=aI c (by omega) (by omega);have j:xA (.ofNat (1+a.cnt))=true:=lB (by omega);have n:xA (.ofNat (1+a.cnt+b.cnt))=true:=lB (by omega);unfold Tm.nd at *
  unfold Tm.shp;rcases IG s with e|e<;>rw[tI]at e<;>rw[e]at m<;>rw[tI,e]
  ·cases o:a.shp<;>rw[o]at g
   ·cases k<;>exact f2 [49,67] m g
   cases l:b.shp<;>rw[l]at d
   ·cases k<;>exact f4 [49,67,(74,.ok),67] m g j d
   cases r:c.shp<;>rw[r]at p
   ·cases k<;>exact f6 [49,67,(74,.ok),67,(74,.ok),67] m g j d n p
   cases k<;>exact f7 [49,67,(74,.ok),67,(74,.ok),67,(74,.ok)] m g j d n p (lB f)
  cases k<;>exact f1 [49] m
def Tm.ckn(t:Tm):Nat:=match t.chk with|0=>t.cnt|_=>0
theorem fR(t:Tm)(c:t.tsz<=yA)(d:t.cnt<=yA):A 186 [t.p] (.tuple [num t.ckn,num t.chk]):=by
 have a:=aI t c d;unfold Tm.nd at a;unfold Tm.ckn Tm.chk;cases e:t.shp<;>rw[e]at a
 ·exact f1 [8] a
 cases b:fA (.ofNat 4096) (.ofNat t.cnt)
 ·exact f2 [8,16] a b
 exact f2 [8,16] a b
def a297(t:Tm)(a:t.tsz<=yA)(b:t.cnt<=yA):A 383 [t.p] (.tuple [num t.ckn,num t.chk]):=f1 [5] (fR t a b)
def a92(t:Tm)(a:t.tsz<=yA:=by omega)(b:t.cnt<=yA:=by omega):A 119 [t.p] (num t.chk):=f1 [7] (fR t a b)
theorem Tm.chk0{t:Tm}(h:t.chk=0):t.cnt<=4096/\t.shp=true:=by
 grind[Tm.chk,fA,UB]
theorem Tm.ckn0{t:Tm}(h:t.chk=0):t.ckn=t.cnt:=by unfold Tm.ckn;split<;>simp_all
def SG:A 184 [.agg [num 0,.slice []],.agg [num 0,.slice []]] (.bool true):=f0 []
def fP{a:Tm}(H:∀b:Tm,a.kd=b.kd->∃r,A 404 [a.p,b.p] (.bool r)/\(r=true↔a=b))(b:Tm):∃r,A 404 [a.p,b.p] (.bool r)/\(r=true↔a=b):=by
 by_cases h:a.kd=b.kd
 ·exact H b h
 exact⟨false,f1 [11] (TC h),ff λe=>h (by rw[e])⟩
def cI:∀a b:Tm,∃r,A 404 [a.p,b.p] (.bool r)/\(r=true↔a=b)
 |.v i=>fP λb h=>by
  cases b with
  |v j=>
   by_cases e:i=j
   ·subst e;exact⟨true,f2 [17,24] (DB i) SG,by simp_all⟩
   exact⟨false,f1 [17] (TC e),by simp_all⟩
  |_=>have:=congrArg qG h;rw[cC,cC]at this;cases this
 |.n0 k=>fP λb h=>by
  cases b with
  |n0 l=>cases K0.inj h;exact⟨true,f2 [11,24] (DB k.n) SG,by simp_all⟩
  |_=>have:=congrArg qG h;rw[cC,cC]at this;cases this
 |.lam s a=>fP λb h=>by
  cases b with
  |lam u b=>
   have o:=dR s u;have t:=nD s u;cases e:s.same u<;>rw[e]at o t
   ·exact⟨false,f1 [24] o,by simp_all⟩
   obtain⟨r,g,w⟩:=cI a b;cases r
   ·exact⟨false,f2 [24,50] o g,by simp_all⟩
   exact⟨true,f2 [24,50] o g,by simp_all⟩
  |_=>have:=congrArg qG h;rw[cC,cC]at this;cases this
 |.n1 k a=>fP λb h=>by
  cases b with
  |n1 l b=>
   cases K1.inj h;obtain⟨r,g,w⟩:=cI a b;cases r
   ·exact⟨false,f3 [11,24,50] (DB k.n) SG g,by simp_all⟩
   exact⟨true,f3 [11,24,50] (DB k.n) SG g,by simp_all⟩
  |_=>have:=congrArg qG h;rw[cC,cC]at this;cases this
 |.n2 k a c=>fP λb h=>by
  cases b with
  |n2 l b d=>
   cases K2.inj h;obtain⟨r,g,w⟩:=cI a b;obtain⟨q,m,y⟩:=cI c d;cases r
   ·exact⟨false,f3 [11,24,50] (DB k.n) SG g,by simp_all⟩
   cases q
   ·exact⟨false,f4 [11,24,50,50] (DB k.n) SG g m,by simp_all⟩
   exact⟨true,f4 [11,24,50,50] (DB k.n) SG g m,by simp_all⟩
  |_=>have:=congrArg qG h;rw[cC,cC]at this;cases this
 |.n3 k s a c e=>fP λb h=>by
  cases b with
  |n3 l u b d f=>
   cases K3.inj h;have n:=dR s u;have t:=nD s u;obtain⟨r,g,w⟩:=cI a b;obtain⟨q,m,y⟩:=cI c d;obtain⟨p,x,B⟩:=cI e f;cases z:s.same u<;>rw[z]at n t
   ·exact⟨false,f2 [11,24] (DB k.n) n,by simp_all⟩
   cases r
   ·exact⟨false,f3 [11,24,50] (DB k.n) n g,by simp_all⟩
   cases q
   ·exact⟨false,f4 [11,24,50,50] (DB k.n) n g m,by simp_all⟩
   cases p
   ·exact⟨false,f5 [11,24,50,50,50] (DB k.n) n g m x,by simp_all⟩
   exact⟨true,f5 [11,24,50,50,50] (DB k.n) n g m x,by simp_all⟩
  |_=>have:=congrArg qG h;rw[cC,cC]at this;cases this
def ji(a b:Tm):∃r,A 407 [a.p,b.p] (.bool r)/\(r=true↔a=b):=by
 obtain⟨r,h,q⟩:=cI a b;exact⟨r,f1 [7] h,q⟩
open Go.Lg
abbrev WA(s:Ty):List PV:=[num s.kd,.slice s.es,num (eF s.size 64)]
abbrev IB(g:List Ty):PV:=.slice (g.map WA)
def SU(s:Ty):(WA s).length=3:=rfl
def TR.nn:TR->Nat|.er _=>0|.ok s=>eF s.size 64
def TR.q(r:TR):PV:=.tuple [.agg [num r.k,.slice r.l,num r.nn],num r.n]
def LD(s:Ty)(h:s.size<=yA:=by omega):A 248 [s.p] (.agg (WA s)):=f1 [7] (mN s h)
def UZ(s u:Ty):∃r,A 316 [.agg (WA s),.agg (WA u)] (.bool r)/\r=s.same u:=by
 cases e:fB (.ofNat (eF s.size 64)) (.ofNat (eF u.size 64))
 ·refine⟨false,f1 [9] e,?_⟩
  cases h:s.same u with|false=>rfl|true=>rw[(nD s u).1 h,cH]at e;cases e
 exact⟨s.same u,f2 [9,15] e (dR s u),rfl⟩
def vi(k:Bool)(s u:Ty)(c:s.size<=64)(d:u.size<=64):∃r:TR,A 249 [num (bn k 3 4),.agg (WA s),.agg (WA u)] r.q/\r.sz<=64/\r=.fit (.two k s u):=by
 have f:=(BJ c).1;have g:=(BJ d).1;unfold WA;rw[f,g];have:=uA;have a:xA (.ofNat (1+s.size))=true:=lB (by omega);have b:xA (.ofNat (1+s.size+u.size))=true:=lB (by omega);by_cases h:1+s.size+u.size<=64
 ·have e:fA (.ofNat 64) (.ofNat (1+s.size+u.size))=false:=HA h;have i:eF (1+s.size+u.size) 64=1+s.size+u.size:=(BJ h).1;have j:(TR.ok (.two k s u)).q=.tuple [.agg [num (bn k 3 4),.slice [s.c,u.c],num (1+s.size+u.size)],num 0]:=by
   show PV.tuple [.agg [num (Ty.two k s u).kd,.slice [s.c,u.c],num (eF (1+s.size+u.size) 64)],num 0]=_;rw[i];cases k<;>rfl
  refine⟨.ok (.two k s u),?_,h,by unfold TR.fit;rw[if_pos (show(Ty.two k s u).size<=64 from h)]⟩;rw[j];exact f3 [(11,.ok),(14,.ok),16] a b e
 have e:fA (.ofNat 64) (.ofNat (1+s.size+u.size))=true:=NA (by omega);exact⟨.er 3,f3 [(11,.ok),(14,.ok),16] a b e,Nat.zero_le _,by unfold TR.fit;rw[if_neg (show¬(Ty.two k s u).size<=64 from h)]⟩
abbrev gP:List PV:=[num 0,.slice [],num 0]
def Wu(k:K0):∃r:TR,A 250 [(Tm.n0 k).p,.agg (gP++gP++gP)] r.q/\r.sz<=64/\r=(Tm.n0 k).tyR []:=by
 cases k
 ·exact⟨.ok .nat,f1 [37] (LD .nat (by decide)),by decide,rfl⟩
 ·exact⟨.ok .list,f1 [37] (LD .list (by decide)),by decide,rfl⟩
 exact⟨.ok .unit,f1 [37] (LD .unit (by decide)),by decide,rfl⟩
def Xu(k:K1)(a:Tm)(s:Ty)(h:s.size<=64):∃r:TR,A 250 [(Tm.n1 k a).p,.agg (WA s++gP++gP)] r.q/\r.sz<=64/\r=KG k (.ok s):=by
 have:=uA;cases k
 ·cases s with
  |nat=>exact⟨.ok .nat,f1 [37] (LD .nat (by decide)),by decide,rfl⟩|two k s u=>cases k<;>exact⟨.er 6,f0 [],Nat.zero_le _,rfl⟩
  |_=>exact⟨.er 6,f0 [],Nat.zero_le _,rfl⟩
 ·cases s with
  |two k s u=>
   have h:1+s.size+u.size<=64:=h;cases k
   ·exact⟨.ok s,f1 [(110,.n [(11,.r (.agg (WA s)))])] (LD s),by show s.size<=64;omega,rfl⟩
   exact⟨.er 6,f0 [],Nat.zero_le _,rfl⟩
  |_=>exact⟨.er 6,f0 [],Nat.zero_le _,rfl⟩
 cases s with
 |two k s u=>
  have h:1+s.size+u.size<=64:=h;cases k
  ·exact⟨.ok u,f1 [(113,.n [(11,.r (.agg (WA u)))])] (LD u),by show u.size<=64;omega,rfl⟩
  exact⟨.er 6,f0 [],Nat.zero_le _,rfl⟩
 |_=>exact⟨.er 6,f0 [],Nat.zero_le _,rfl⟩
def Yu(k:K2)(a b:Tm)(s v:Ty)(h:s.size<=64)(f:v.size<=64):∃r:TR,A 250 [(Tm.n2 k a b).p,.agg (WA s++WA v++gP)] r.q/\r.sz<=64/\r=pD k (.ok s) (.ok v):=by
 have:=uA;cases k
 ·cases s with
  |two k s u=>
   have h:1+s.size+u.size<=64:=h;cases k
   ·exact⟨.er 6,f0 [],Nat.zero_le _,rfl⟩
   obtain⟨b,g,c⟩:=UZ s v;cases b
   ·exact⟨.er 6,f2 [(49,.n [(11,.r (.agg (WA s)))]),52] (LD s) g,Nat.zero_le _,by show _=bif s.same v then _ else _;rw[<-c];rfl⟩
   exact⟨.ok u,f3 [(49,.n [(11,.r (.agg (WA s)))]),52,(58,.n [(11,.r (.agg (WA u)))])] (LD s) g (LD u),by show u.size<=64;omega,by show _=bif s.same v then _ else _;rw[<-c];rfl⟩
  |_=>exact⟨.er 6,f0 [],Nat.zero_le _,rfl⟩
 ·cases s with
  |nat=>cases v with
   |list=>exact⟨.ok .list,f1 [37] (LD .list (by decide)),by decide,rfl⟩|two k s u=>cases k<;>exact⟨.er 6,f0 [],Nat.zero_le _,rfl⟩
   |_=>exact⟨.er 6,f0 [],Nat.zero_le _,rfl⟩
  |two k s u=>cases k<;>exact⟨.er 6,f0 [],Nat.zero_le _,rfl⟩
  |_=>exact⟨.er 6,f0 [],Nat.zero_le _,rfl⟩
 obtain⟨r,g,d,e⟩:=vi false s v h f
 cases r with|er n=>exact⟨.er n,f1 [97] g,d,e⟩|ok w=>exact⟨.ok w,f1 [97] g,d,e⟩
def YE:K3->Ty->Ty|.re,s=>.two true .nat (.two true s s)|.fo,s=>.two true .nat (.two true .list (.two true s s))
def Zu(k:K3)(s:Ty)(a b c:Tm):A 317 [(Tm.n3 k s a b c).p] (YE k s).p:=by
 cases k<;>exact f0 []
def qv(k:K3)(z:Ty)(a b c:Tm)(s v w:Ty)(h:z.size<=64):∃r:TR,A 250 [(Tm.n3 k z a b c).p,.agg (WA s++WA v++WA w)] r.q/\r.sz<=64/\r=cB k z (.ok s) (.ok v) (.ok w):=by
 have:=uA;have d:=LD z;obtain⟨m,f,g⟩:=UZ s z;have j:=Zu k z a b c;have i:=dR v (YE k z);cases m
 ·cases k<;>exact⟨.er 6,f2 [64,71] d f,Nat.zero_le _,by simp only[cB,<-g,cond_false]⟩
 cases e:v.same (YE k z)<;>rw[e]at i
 ·cases k
  ·exact⟨.er 6,f4 [64,71,78,79] d f j i,Nat.zero_le _,by simp only[YE]at e;simp only[cB,<-g,e,cond_false,cond_true]⟩
  exact⟨.er 6,f4 [64,71,78,79] d f j i,Nat.zero_le _,by simp only[YE]at e;simp only[cB,<-g,e,cond_false,cond_true]⟩
 have key:(∃r:TR,A 250 [(Tm.n3 k z a b c).p,.agg (WA s++WA v++WA w)] r.q/\r.sz<=64/\r=cB k z (.ok s) (.ok v) (.ok w)):=by
  cases w with
  |two l o p=>
   cases l<;>cases k
   ·exact⟨.er 6,f4 [64,71,78,79] d f j i,Nat.zero_le _,by simp only[YE]at e;simp only[cB,<-g,e,cond_true];rfl⟩
   ·exact⟨.er 6,f4 [64,71,78,79] d f j i,Nat.zero_le _,by simp only[YE]at e;simp only[cB,<-g,e,cond_true];rfl⟩
   ·exact⟨.er 6,f4 [64,71,78,79] d f j i,Nat.zero_le _,by simp only[YE]at e;simp only[cB,<-g,e,cond_true];rfl⟩
   exact⟨.er 6,f4 [64,71,78,79] d f j i,Nat.zero_le _,by simp only[YE]at e;simp only[cB,<-g,e,cond_true];rfl⟩
  |nat=>
    cases k
    ·exact⟨.ok z,f4 [64,71,78,79] d f j i,h,by simp only[YE]at e;simp only[cB,<-g,e,cond_true];rfl⟩
    exact⟨.er 6,f4 [64,71,78,79] d f j i,Nat.zero_le _,by simp only[YE]at e;simp only[cB,<-g,e,cond_true];rfl⟩
  |list=>
    cases k
    ·exact⟨.er 6,f4 [64,71,78,79] d f j i,Nat.zero_le _,by simp only[YE]at e;simp only[cB,<-g,e,cond_true];rfl⟩
    exact⟨.ok z,f4 [64,71,78,79] d f j i,h,by simp only[YE]at e;simp only[cB,<-g,e,cond_true];rfl⟩
  |unit=>
   cases k
   ·exact⟨.er 6,f4 [64,71,78,79] d f j i,Nat.zero_le _,by simp only[YE]at e;simp only[cB,<-g,e,cond_true];rfl⟩
   exact⟨.er 6,f4 [64,71,78,79] d f j i,Nat.zero_le _,by simp only[YE]at e;simp only[cB,<-g,e,cond_true];rfl⟩
 exact key
def Tm.sc:Nat->Tm->Prop|n,.v i=>i<n|n,.lam _ b=>b.sc (n+1)|_,.n0 _=>True|n,.n1 _ a=>a.sc n|n,.n2 _ a b=>a.sc n/\b.sc n|n,.n3 _ _ a b d=>a.sc n/\b.sc n/\d.sc n
def kD{s:Ty}(h:Nat.beq s.chk 0=true):s.size<=64:=ckE_0.1 (Nat.eq_of_beq_eq_true h)
abbrev VZ(g:List Ty)(t:Tm)(r:TR):Prop:=A 182 [IB g,t.p] r.q/\r.sz<=64/\(∀s,r=.ok s->t.sc g.length)/\r=t.tyR g
def jL{g:List Ty}{t:Tm}{n:Nat}(h:A 182 [IB g,t.p] (TR.er n).q)(e:TR.er n=t.tyR g):∃r:TR,VZ g t r:=⟨.er n,h,Nat.zero_le _,(λ_ h=>nomatch h),e⟩
def lP{g:List Ty}{t:Tm}{r:TR}(h:t.sc g.length)(a:A 182 [IB g,t.p] r.q)(b:r.sz<=64)(e:r=t.tyR g):∃r:TR,VZ g t r:=⟨r,a,b,λ_ _=>h,e⟩
def CJ:∀(t:Tm)(g:List Ty),(∀s∈g,s.size<=64)->t.shp=true->g.length+t.cnt<=qA->∃r:TR,VZ g t r
 |.v i,g,m,_,l=>by
  have L:=vA;by_cases h:i<g.length
  ·obtain⟨s,E⟩:∃s,g[g.length-1-i]? =some s:=⟨_,List.getElem?_eq_getElem (by omega)⟩;have F:(!fA (.ofNat i) (.ofNat (g.map WA).length))=false:=by rw[NA (by simp_all)];rfl
   have M:xA (Int.ofNat (g.map WA).length-1)=true/\Int.ofNat (g.map WA).length-1=.ofNat (g.length-1):=by
    have e:Int.ofNat (g.map WA).length-1=.ofNat (g.length-1):=by simp;omega
    grind[AA]
   have N:xA (Int.ofNat (g.length-1)-.ofNat i)=true/\Int.ofNat (g.length-1)-.ofNat i=.ofNat (g.length-1-i):=by
    have e:Int.ofNat (g.length-1)-.ofNat i=.ofNat (g.length-1-i):=by simp;omega
    grind[AA]
   exact lP (r:=.ok s) h (f4 [21,26,29,(30,.i (WA s))] F M N (kB E SU)) (m s (List.mem_of_getElem? E)) (by show _=sB g i;unfold sB;rw[if_pos h,E])
  have F:(!fA (.ofNat i) (.ofNat (g.map WA).length))=true:=by rw[HA (by simp_all)];rfl
  exact jL (n:=5) (f1 [21] F) (by show _=sB g i;unfold sB;rw[if_neg h])
 |.lam s b,g,m,o,l=>by
  have L:=vA;have:=uA;have l:g.length+(1+b.cnt)<=qA:=l;obtain⟨p,x⟩:=EA o;have O:=kD p;have J:=jG (g.map WA).length;have K:=lF 3 40 SU (by decide) g s (by omega) (by simp only[maxLen];omega);obtain⟨r,d,C,B,j⟩:=CJ b (g++[s]) (λu Q=>by grind) x (by simp;omega);rw[show IB (g++[s])=.slice (g.map WA++[WA s]) by simp[IB]]at d
  cases r with
  |er n=>exact jL (n:=n) (f4 [37,(44,.ok),(47,.ok),52] (LD s) J K d) (by show _=bI s (b.tyR (g++[s]));rw[<-j];rfl)|ok u=>
   have f:(Tm.lam s b).sc g.length:=by have:=B u rfl;grind[Tm.sc]
   obtain⟨r,y,z,A⟩:=vi true s u O C;exact lP f (f5 [37,(44,.ok),(47,.ok),52,61] (LD s) J K d y) z (by show _=bI s (b.tyR (g++[s]));rw[<-j];exact A)
 |.n0 k,g,m,o,l=>by
  obtain⟨r,y,z,A⟩:=Wu k;cases k<;>exact lP trivial (f1 [88] y) z A
 |.n1 k a,g,m,o,l=>by
  have l:g.length+(1+a.cnt)<=qA:=l;obtain⟨r,d,C,B,j⟩:=CJ a g m o (by omega)
  cases r with
  |er n=>cases k<;>exact jL (n:=n) (f1 [75] d) (by show _=KG _ (a.tyR g);rw[<-j];rfl)
  |ok u=>
   have f:(Tm.n1 k a).sc g.length:=B u rfl;obtain⟨r,y,z,A⟩:=Xu k a u C;cases k<;>exact lP f (f2 [75,88] d y) z (by show _=KG _ (a.tyR g);rw[<-j];exact A)
 |.n2 k a b,g,m,o,l=>by
  have l:g.length+(1+a.cnt+b.cnt)<=qA:=l;obtain⟨p,x⟩:=EA o;obtain⟨r,d,C,B,j⟩:=CJ a g m p (by omega)
  cases r with
  |er n=>cases k<;>exact jL (n:=n) (f1 [75] d) (by show _=pD _ (a.tyR g) (b.tyR g);rw[<-j];rfl)
  |ok u=>
   obtain⟨r,p1,p2,G,D⟩:=CJ b g m x (by omega)
   cases r with
   |er n=>cases k<;>exact jL (n:=n) (f2 [75,75] d p1) (by show _=pD _ (a.tyR g) (b.tyR g);rw[<-j,<-D];rfl)
   |ok v=>
    have f:(Tm.n2 k a b).sc g.length:=⟨B u rfl,G v rfl⟩;obtain⟨r,y,z,A⟩:=Yu k a b u v C p2;cases k<;>exact lP f (f3 [75,75,88] d p1 y) z (by show _=pD _ (a.tyR g) (b.tyR g);rw[<-j,<-D];exact A)
 |.n3 k s a b c,g,m,o,l=>by
  have l:g.length+(1+a.cnt+b.cnt+c.cnt)<=qA:=l;obtain⟨H,o⟩:=EA o;obtain⟨p,o⟩:=EA o;obtain⟨x,I⟩:=EA o;obtain⟨r,d,C,B,j⟩:=CJ a g m p (by omega)
  cases r with
  |er n=>cases k<;>exact jL (n:=n) (f1 [75] d) (by show _=cB _ s (a.tyR g) (b.tyR g) (c.tyR g);rw[<-j];rfl)
  |ok u=>
   obtain⟨r,p1,p2,G,D⟩:=CJ b g m x (by omega)
   cases r with
   |er n=>cases k<;>exact jL (n:=n) (f2 [75,75] d p1) (by show _=cB _ s (a.tyR g) (b.tyR g) (c.tyR g);rw[<-j,<-D];rfl)
   |ok v=>
    obtain⟨r,o1,o2,o3,o0⟩:=CJ c g m I (by omega)
    cases r with
    |er n=>cases k<;>exact jL (n:=n) (f3 [75,75,75] d p1 o1) (by show _=cB _ s (a.tyR g) (b.tyR g) (c.tyR g);rw[<-j,<-D,<-o0];rfl)
    |ok w=>
     have f:(Tm.n3 k s a b c).sc g.length:=⟨B u rfl,G v rfl,o3 w rfl⟩;obtain⟨r,y,z,A⟩:=qv k s a b c u v w (kD H);cases k<;>exact lP f (f4 [75,75,75,88] d p1 o1 y) z (by show _=cB _ s (a.tyR g) (b.tyR g) (c.tyR g);rw[<-j,<-D,<-o0];exact A)
def WZ(g:List Ty)(t:Tm)(n:Nat)(b:∀s∈g,s.size<=64)(d:t.shp=true)(f:g.length+t.cnt<=qA):∃e,A 348 [IB g,t.p,num n] (num e)/\(e=0->t.sc g.length)/\(∀s,t.tyR g=.ok s->s.kd=n->e=0):=by
 obtain⟨r,a,k,i,j⟩:=CJ t g b d f
 cases r with
 |er e=>exact⟨e+1,f1 [12] a,(λh=>nomatch h),λs h=>by rw[<-j]at h;cases h⟩|ok s=>
  by_cases c:s.kd=n
  ·exact⟨0,f2 [12,(20,.n [(9,.G)])] a (show fB (.ofNat s.kd) (.ofNat n)=true by rw[c];exact cH n),(λ_=>i s rfl),λ_ _ _=>rfl⟩
  exact⟨7,f2 [12,(20,.n [(9,.H)])] a (VE c),(λh=>nomatch h),λu h l=>by grind⟩
def XZ(g:List Ty)(t:Tm)(a:∀s∈g,s.size<=64)(b:t.shp=true)(c:g.length+t.cnt<=qA:=by omega):∃e,A 349 [IB g,t.p] (num e)/\(e=0->t.sc g.length)/\(t.tyR g=.ok .nat->e=0):=by
 obtain⟨e,d,f,i⟩:=WZ g t 1 a b c;exact⟨e,f1 [7] d,f,λh=>i _ h rfl⟩
open Go.Lg
def Fm.frm:Fm->Bool|.q _ s _=>Nat.beq s.chk 0|_=>true
def YZ(f:Fm)(h:f.tsz<=yA):A 318 [f.p] (.bool f.frm):=by
 cases f with
 |eq a b=>exact f1 [31] aD|bin k f g=>cases k<;>exact f1 [31] aD
 |q k s f=>
  have h:max s.size f.tsz<=yA:=h;have c:=mN s;show A 318 [(Fm.q k s f).p] (.bool (Nat.beq s.chk 0));rcases IG s with e|e<;>rw[tI]at e<;>rw[e]at c<;>rw[tI,e]
  ·cases k<;>exact f1 [24] c
  cases k<;>exact f1 [24] c
def Fm.nd(f:Fm):Nat:=match f.shp with|true=>f.cnt|false=>0
def TU:∀f:Fm,f.tsz<=yA->f.cnt<=yA->A 251 [f.p] (.tuple [num f.nd,.bool f.shp])
 |.eq a b,h,e=>by
  have h:max a.tsz b.tsz<=yA:=h;have e:1+a.cnt+b.cnt<=yA:=e;have c:=aI a (by omega) (by omega);have i:=aI b (by omega) (by omega);have g:xA (.ofNat (1+a.cnt))=true:=lB (by omega);have d:=YZ (.eq a b) h;unfold Fm.nd Tm.nd at *
  show A 251 [(Fm.eq a b).p] (.tuple [num (match a.shp&&b.shp with|true=>1+a.cnt+b.cnt|false=>0),.bool (a.shp&&b.shp)]);cases j:a.shp<;>rw[j]at c
  ·exact f2 [14,25] d c
  cases l:b.shp<;>rw[l]at i
  ·exact f4 [14,25,(32,.ok),25] d c g i
  exact f5 [14,25,(32,.ok),25,(32,.ok)] d c g i (lB e)
 |.bin k a b,h,e=>by
  have h:max a.tsz b.tsz<=yA:=h;have e:1+a.cnt+b.cnt<=yA:=e;have c:=TU a (by omega) (by omega);have i:=TU b (by omega) (by omega);have g:xA (.ofNat (1+a.cnt))=true:=lB (by omega);have d:=YZ (.bin k a b) h;unfold Fm.nd at *
  show A 251 [(Fm.bin k a b).p] (.tuple [num (match a.shp&&b.shp with|true=>1+a.cnt+b.cnt|false=>0),.bool (a.shp&&b.shp)]);cases j:a.shp<;>rw[j]at c
  ·cases k<;>exact f2 [14,43] d c
  cases l:b.shp<;>rw[l]at i
  ·cases k<;>exact f4 [14,43,(50,.ok),43] d c g i
  cases k<;>exact f5 [14,43,(50,.ok),43,(50,.ok)] d c g i (lB e)
 |.q k s a,h,e=>by
  have d:A 318 [(Fm.q k s a).p] (.bool (Nat.beq s.chk 0)):=YZ (.q k s a) h;have h:max s.size a.tsz<=yA:=h;have e:1+a.cnt<=yA:=e;have c:=TU a (by omega) (by omega);unfold Fm.nd at *
  show A 251 [(Fm.q k s a).p] (.tuple [num (match Nat.beq s.chk 0&&a.shp with|true=>1+a.cnt|false=>0),.bool (Nat.beq s.chk 0&&a.shp)]);cases m:Nat.beq s.chk 0<;>rw[m]at d
  ·cases k<;>exact f1 [14] d
  cases j:a.shp<;>rw[j]at c
  ·cases k<;>exact f2 [14,43] d c
  cases k<;>exact f3 [14,43,(50,.ok)] d c (lB e)
def Fm.ckn(f:Fm):Nat:=match f.chk with|0=>f.cnt|_=>0
theorem gR(f:Fm)(c:f.tsz<=yA)(d:f.cnt<=yA):A 185 [f.p] (.tuple [num f.ckn,num f.chk]):=by
 have a:=TU f c d;unfold Fm.nd at a;unfold Fm.ckn Fm.chk;cases e:f.shp<;>rw[e]at a
 ·exact f1 [8] a
 cases b:fA (.ofNat 4096) (.ofNat f.cnt)
 ·exact f2 [8,16] a b
 exact f2 [8,16] a b
theorem Fm.ckn0{f:Fm}(h:f.chk=0):f.ckn=f.cnt:=by unfold Fm.ckn;split<;>simp_all
def a89(f:Fm)(a:f.tsz<=yA)(b:f.cnt<=yA):A 118 [f.p] (num f.chk):=f1 [7] (gR f a b)
def a296(f:Fm)(a:f.tsz<=yA)(b:f.cnt<=yA):A 382 [f.p] (.tuple [num f.ckn,num f.chk]):=f1 [5] (gR f a b)
def Fm.sc:Nat->Fm->Prop|n,.eq a b=>a.sc n/\b.sc n|n,.bin _ f g=>f.sc n/\g.sc n|n,.q _ _ f=>f.sc (n+1)
def zv:A 181 [OA []] (IB []):=f0 []
def jv(s:Ty)(h:s.size<=yA):A 181 [OA [s]] (IB [s]):=f1 [14] (LD s h)
def wv(s u:Ty)(h:s.size<=yA)(a:u.size<=yA):A 181 [OA [s,u]] (IB [s,u]):=f2 [14,14] (LD s h) (LD u a)
def lR(g:List Ty)(s:Ty)(a:g.length<=qA:=by omega)(h:s.size<=yA:=by omega):A 347 [IB g,OA [s]] (IB (g++[s])):=by
 have:=vA;have a:=jG (g.map WA).length;have b:=lF 3 40 SU (by decide) g s (by omega) (by simp only[maxLen];omega);rw[show IB (g++[s])=.slice (g.map WA++[WA s]) by simp[IB]];exact f3 [(10,.ok),12,(13,.ok)] a (jv s h) b
def kv(g:List Ty)(s u:Ty)(a:g.length<=qA)(h:s.size<=yA)(a:u.size<=yA):A 347 [IB g,OA [s,u]] (IB (g++[s,u])):=by
 have:=vA;have b:=jG (g.map WA).length;have c:=Rh 3 40 SU (by decide) g s u (by omega) (by simp only[maxLen];omega);rw[show IB (g++[s,u])=.slice (g.map WA++[WA s,WA u]) by simp[IB]];exact f3 [(10,.ok),12,(13,.ok)] b (wv s u h a) c
def nN:∀(f:Fm)(g:List Ty),(∀s∈g,s.size<=64)->f.shp=true->g.length+f.cnt<=qA->∃e,A 331 [IB g,f.p] (num e)/\(e=0->f.sc g.length)/\(f.ty g->e=0)
 |.eq a b,g,l,m,j=>by
  have j:g.length+(1+a.cnt+b.cnt)<=qA:=j;obtain⟨c,d⟩:=EA m;obtain⟨e,i,o,p⟩:=XZ g a l c
  cases e with
  |succ n=>exact⟨n+1,f1 [50] i,(λh=>nomatch h),λh=>absurd (p h.1.2) (Nat.succ_ne_zero _)⟩|zero=>
   obtain⟨e,p1,p2,r⟩:=XZ g b l d
   cases e with|succ n=>exact⟨n+1,f2 [50,50] i p1,(λh=>nomatch h),λh=>absurd (r h.2.2) (Nat.succ_ne_zero _)⟩|zero=>exact⟨0,f2 [50,50] i p1,(λ_=>⟨o rfl,p2 rfl⟩),λ_=>rfl⟩
 |.bin k a b,g,l,m,j=>by
  have j:g.length+(1+a.cnt+b.cnt)<=qA:=j;obtain⟨c,d⟩:=EA m;obtain⟨e,i,o,p⟩:=nN a g l c (by omega)
  cases e with
  |succ n=>cases k<;>exact⟨n+1,f1 [36] i,(λh=>nomatch h),λh=>absurd (p h.1) (Nat.succ_ne_zero _)⟩
  |zero=>
   obtain⟨e,p1,p2,r⟩:=nN b g l d (by omega)
   cases e with
   |succ n=>cases k<;>exact⟨n+1,f2 [36,36] i p1,(λh=>nomatch h),λh=>absurd (r h.2) (Nat.succ_ne_zero _)⟩
   |zero=>cases k<;>exact⟨0,f2 [36,36] i p1,(λ_=>⟨o rfl,p2 rfl⟩),λ_=>rfl⟩
 |.q k s a,g,l,m,j=>by
  have v:=vA;have w:=uA;have j:g.length+(1+a.cnt)<=qA:=j;obtain⟨c,d⟩:=EA m;have x:=kD c;have t:=lR g s;obtain⟨e,i,o,p⟩:=nN a (g++[s]) (λu y=>by grind) d (by simp;omega)
  cases e with
  |succ n=>cases k<;>exact⟨n+1,f2 [26,36] t i,(λh=>nomatch h),λh=>absurd (p h) (Nat.succ_ne_zero _)⟩
  |zero=>cases k<;>exact⟨0,f2 [26,36] t i,(λ_=>by have:=o rfl;simpa[Fm.sc]using this),λ_=>rfl⟩
def wi{g:List Ty}(j:g.length<=16):∀(r:List Ty)(k:Nat),g.drop k=r->(∀t∈r,t.size<=yA)->
  (TE r=0/\Lp 180 0 0 (st [(9,.pv (OA g)),(10,.pv (num (g.map Ty.c).length)),(11,.pv (num k))] [] 0 []) (.exit 0) (st [] [] 0 []))\/TE r=4/\Lp 180 0 0 (st [(9,.pv (OA g)),(10,.pv (num (g.map Ty.c).length)),(11,.pv (num k))] [] 0 []) .ret (st [(2,.pv (num 4))] [] 0 [])
 |[],k,h,_=>.inl ⟨rfl,x1 [12] (kp []) (show fA (.ofNat k) (.ofNat (g.map Ty.c).length)=false from HA (by simp_all))⟩|t::r,k,h,i=>by
  obtain⟨c,n,l⟩:=tH h;have b:=TZ t (i t (by simp));have a:fA (.ofNat k) (.ofNat (g.map Ty.c).length)=true:=NA (by simp_all);unfold TE;rcases IG t with e|e<;>rw[tI]at e<;>rw[e]at b<;>rw[tI,e]
  ·rcases wi j r (k+1) l (λt m=>i t (by simp[m]))with ⟨d,f⟩|⟨d,f⟩
   ·exact .inl ⟨d,n5 [12,(13,.i t.c),16,(20,.ok)] (kp [9,10,11]) a (kB c Ty.c_len) b (AA (show k+1<=_ by omega)) f⟩
   exact .inr ⟨d,n5 [12,(13,.i t.c),16,(20,.ok)] (kp [9,10,11]) a (kB c Ty.c_len) b (AA (show k+1<=_ by omega)) f⟩
  exact .inr ⟨rfl,x3 [12,(13,.i t.c),16] (kp [2]) a (kB c Ty.c_len) b⟩
def yi(g:List Ty)(c:∀t∈g,t.size<=yA):A 180 [OA g] (num (ZF g)):=by
 unfold ZF;cases e:fA (.ofNat 16) (.ofNat (g.map Ty.c).length)
 ·have d:g.length<=16:=by
   rw[UB]at e
   grind
  rcases wi d g 0 rfl c with ⟨b,a⟩|⟨b,a⟩<;>rw[b]
  ·exact f2 [8,(100004,.l (kp [9,10,11]) (.exit 0) (st [] [] 0 []))] e a
  exact f2 [8,(100004,.l (kp [9,10,11]) .ret (st [(2,.pv (num 4))] [] 0 []))] e a
 exact f1 [8] e
theorem ui:∀{g:List Ty},TE g=0->∀s∈g,s.size<=64
 |[],_,s,h=>by cases h
 |t::r,e,s,h=>by
  unfold TE at e;split at e
  ·rename_i a;rcases List.mem_cons.1 h with rfl|h
   ·exact Go.Proofs.YtjobiknipefjdaaGreatDoor.chk0 a
   exact ui e s h
  cases e
def uv{g:List Ty}(e:ZF g=0):g.length<=16/\∀s∈g,s.size<=64:=by
 grind[ZF,UB,ui]
open Go.Lg
theorem mP{A:List (List PV)}{v sz ty m:Nat}{c:List PV}(a:0<sz)(b:KC sz [DA c]=true)(d:lC [DA c]=true)(e:A.length+1<=maxLen)(f:(A.length+1)*m<=140737488355328):
  (Nat.beq v v&&Nat.ble A.length (kA A).length&&Nat.beq ty ty&&Nat.beq sz sz&&Nat.blt 0 sz&&KC sz [DA c]&&lC [DA c]&&Nat.ble (A.length+[DA c].length) maxLen&&Nat.ble ((A.length+[DA c].length)*m) 140737488355328)=true:=
 GU (pvE_len A) a b d e f
abbrev bi(g:List Ty)(k:Nat)(x:V):List (Nat×V):=[(3,x),(6,.pv (OA g)),(7,.pv (num (g.map Ty.c).length)),(8,.pv (num k))]
abbrev di:Kp:=⟨[3,6,7,8],[1],2,[]⟩
def fi{g:List Ty}(f:g.length<=qA):∀(r:List Ty)(k v:Nat)(A:List (List PV)),g.drop k=r->(∀t∈r,t.size<=yA)->A.length=k->
  ∃a,Lp 181 0 0 (st (bi g k (.arr 1 v A.length)) [(1,.arr v 3 196 (kA A))] 2 []) (.exit 0) (st [(3,.arr 1 a (A.length+r.length))] [(1,.arr a 3 196 (kA (A++r.map WA)))] 2 [])
 |[],k,v,A,h,b,c=>by
  have e:fA (.ofNat k) (.ofNat (g.map Ty.c).length)=false:=HA (by simp_all);simp only[List.map_nil,List.append_nil,List.length_nil,Nat.add_zero];exact⟨v,y1 [9] ⟨[3],[1],2,[]⟩ e (sD A)⟩
 |t::r,k,v,A,h,b,c=>by
  have:=vA;obtain⟨i,p,j⟩:=tH h;have e:fA (.ofNat k) (.ofNat (g.map Ty.c).length)=true:=NA (by simp_all);have l:=AA (show k+1<=_ by omega);have m:=mP (A:=A) (v:=v) (ty:=196) (m:=40) (c:=WA t) (show 0<3 by decide) rfl rfl (by simp only[maxLen];omega) (by omega);obtain⟨a,d⟩:=fi f r (k+1) (v+1) (A++[WA t]) j (λu n=>b u (by simp[n])) (by simp[c]);rw[ZK,show(A++[WA t]).length=A.length+1 by simp,show A.length+1+r.length=A.length+(t::r).length by simp;omega,List.append_assoc]at d;exact⟨a,n7 [9,(10,.i t.c),14,(16,.ok),(17,.ok)] di e (kB i Ty.c_len) (LD t (b t (by simp))) m l (xH A (WA t)) d⟩
def dv(g:List Ty)(c:g.length<=qA)(a:∀t∈g,t.size<=yA):A 181 [OA g] (IB g):=by
 cases g with
 |nil=>exact zv|cons t r=>
  have e:fA (.ofNat 0) (.ofNat ((t::r).map Ty.c).length)=true:=NA (by simp);obtain⟨v,h⟩:=fi c r 1 1 [WA t] rfl (λu d=>a u (by simp[d])) rfl;have b:=LoopIs.fz (by simp) h 1 (ver:=v) (sz:=3) (ty:=196) (ps:=(t::r).map WA) rfl (by kernel_rfl);simp (decide:=true) only[XF,OE,RC,List.map,yE,and_self,↓reduceIte,List.take_of_length_le (show(WA t::r.map WA).length<=[WA t].length+r.length by simp;omega)]at b;have f:Lp 181 0 0 (st (bi (t::r) 0 (.pv .nils)) [] 0 []) (.exit 0) (st [(3,.pv (IB (t::r)))] [] 2 []):=
   n6 [9,(10,.i t.c),14,(17,.ok)] di e (kB (g:=t::r) (k:=0) rfl Ty.c_len) (LD t (a t (by simp))) (AA (show 0+1<=_ by omega)) (xH [] (WA t)) b
  exact f1 [(100003,.l ⟨[3,6,7,8],[],0,[]⟩ (.exit 0) (st [(3,.pv (IB (t::r)))] [] 2 []))] f
def fv{x:Int}{a:Nat}(h:(a:Int)<=x):(!fA x (.ofNat a))=true:=by rw[UB];simp;exact h
def rv{x:Int}{a:Nat}(h:x<(a:Int)):(!fA x (.ofNat a))=false:=by rw[UB];simp;exact h
def UU{x:Int}{a:Nat}(h:x=(a:Int)):fB x (.ofNat a)=true:=by rw[XH];simp;exact h
def gi{x:Int}{a:Nat}(h:x≠(a:Int)):fB x (.ofNat a)=false:=by rw[XH];simp;exact h
def av{x:Int}{a:Nat}(h:(a:Int)<x):fA (.ofNat a) x=true:=by rw[UB];simp;exact h
def ov{x:Int}{a:Nat}(h:x<=(a:Int)):fA (.ofNat a) x=false:=by rw[UB];simp;exact h
def nP{i d:Nat}(h:i<=yA:=by omega)(a:d<=yA:=by omega):xA (Int.ofNat i-.ofNat d)=true/\Int.ofNat i-.ofNat d=Int.ofNat i-.ofNat d:=⟨(wD h a rfl).1,rfl⟩
def nA{a b:Nat}(h:a+b<=yA:=by omega):xA (Int.ofNat a+.ofNat b)=true/\Int.ofNat a+.ofNat b=.ofNat (a+b):=⟨lB (n:=a+b) h,rfl⟩
abbrev li(c:V)(own:List (Nat×Ob)):List (Nat×Ob):=(5,.box [c])::(7,.box [.fn 359 [.loc 5 0,.loc 7 0]])::own
abbrev mi(a b:Nat):List (Nat×Ob):=li (.fn 300 [.loc 1 0,.loc 2 0]) [(1,bx [num a]),(2,bx [num b])]
def vL(a z:Nat)(l:a<=qA)(m:z<=2*qA):∀(t:Tm)(d:Nat),d+t.cnt<=qA->t.mx<=qA*qA->O 359 [.pv t.p,.pv (num d),.loc 5 0,.loc 7 0] (mi a z) (.pv (t.sh (a+d) (.ofNat z)).p) (mi a z)
 |.v i,d,f,j=>by
  have n:=vA;have v:i<=qA*qA:=j;have f:d+1<=qA:=f;rw[n]at v;have w:=uA;have u:=nP (i:=i) (d:=d);by_cases h:a+d<=i
  ·have e:(Tm.v i).sh (a+d) (.ofNat z)=.v (i+z):=by simp only[Tm.sh,if_pos h];rfl
   rw[e];have o:(!fA (Int.ofNat i-.ofNat d) (.ofNat a))=true:=fv (by simp;omega);have x:=nA (a:=i) (b:=z);exact o3 8 [(17,.n [(9,.y (Int.ofNat i-.ofNat d)),(11,.G),(14,.z (i+z))])] u o x
  have e:(Tm.v i).sh (a+d) (.ofNat z)=.v i:=by simp only[Tm.sh,if_neg h]
  rw[e];have o:(!fA (Int.ofNat i-.ofNat d) (.ofNat a))=false:=rv (by simp;omega);exact o2 8 [(17,.n [(9,.y (Int.ofNat i-.ofNat d)),(11,.H)])] u o
 |.lam s b,d,f,j=>by
  have f:d+(1+b.cnt)<=qA:=f;have n:=vA;have w:=uA;have g:=vL a z l m b (d+1) (by omega) j;exact o3 8 [24,30,(43,.o [5,7,1,2] [] (.pv (b.sh (a+(d+1)) (.ofNat z)).p))] (aF s) (nA (a:=d) (b:=1)) g
 |.n0 k,d,_,_=>by cases k<;>exact o1 8 [24] WC
 |.n1 k b,d,f,j=>by
  have f:d+(1+b.cnt)<=qA:=f;have g:=vL a z l m b d (by omega) j;cases k<;>exact o2 8 [24,(43,.o [5,7,1,2] [] (.pv (b.sh (a+d) (.ofNat z)).p))] WC g
 |.n2 k b c,d,f,j=>by
  have f:d+(1+b.cnt+c.cnt)<=qA:=f;have j:max b.mx c.mx<=qA*qA:=j;have g:=vL a z l m b d (by omega) (by omega);have p:=vL a z l m c d (by omega) (by omega);cases k<;>exact o3 8 [24,(43,.o [5,7,1,2] [] (.pv (b.sh (a+d) (.ofNat z)).p)),(43,.o [5,7,1,2] [] (.pv (c.sh (a+d) (.ofNat z)).p))] WC g p
 |.n3 k s b c e,d,f,j=>by
  have f:d+(1+b.cnt+c.cnt+e.cnt)<=qA:=f;have j:max b.mx (max c.mx e.mx)<=qA*qA:=j;have g:=vL a z l m b d (by omega) (by omega);have p:=vL a z l m c d (by omega) (by omega);have r:=vL a z l m e d (by omega) (by omega);cases k<;>exact o4 8 [24,(43,.o [5,7,1,2] [] (.pv (b.sh (a+d) (.ofNat z)).p)),(43,.o [5,7,1,2] [] (.pv (c.sh (a+d) (.ofNat z)).p)),(43,.o [5,7,1,2] [] (.pv (e.sh (a+d) (.ofNat z)).p))] (aF s) g p r
def ZZ(t:Tm)(a z:Nat)(b:a<=qA)(c:z<=2*qA)(d:t.cnt<=qA:=by omega)(d:t.mx<=qA*qA:=by omega):A 232 [t.p,num a,num z] (t.sh a (.ofNat z)).p:=
 f1 [(9,.n [(9,.o [5,7,1,2] [] (.pv (t.sh a (.ofNat z)).p))])] (vL a z b c t 0 (by omega) d)
open Go.Lg
structure Sx where
 k:Nat
 i:Nat
 tk:Nat
 te:List (List PV)
 es:List (List PV)
abbrev Sx.c(s:Sx):List PV:=[num s.k,num s.i,num s.tk,.slice s.te,.slice s.es]
abbrev Tm.x(t:Tm):Sx:=⟨t.kd,t.ix,t.tk,t.te,t.es⟩
abbrev Sx.z:Sx:=⟨0,0,0,[],[]⟩
abbrev ni(a:Nat)(s:Sx):List (Nat×Ob):=li (.fn 408 [.loc 1 0,.loc 2 0]) [(1,bx [num a]),(2,bx s.c)]
def Lf(s:Sx)(S:Tm):Prop:=∀n,n<=2*qA->A 232 [.agg s.c,num 0,num n] (S.sh 0 (.ofNat n)).p
def wL(a:Nat)(s:Sx)(S:Tm)(m:a<=qA):∀(t:Tm)(d:Nat),(Lf s S\/t.occ (a+d)=0)->d+t.cnt<=qA->t.mx<=qA*qA->O 359 [.pv t.p,.pv (num d),.loc 5 0,.loc 7 0] (ni a s) (.pv (t.put a S d).p) (ni a s)
 |.v i,d,f,j,l=>by
  have n:=vA;have y:i<=qA*qA:=l;have j:d+1<=qA:=j;rw[n]at y;have z:=uA;have r:=nP (i:=i) (d:=d);by_cases h:i=a+d
  ·have e:(Tm.v i).put a S d=S.sh 0 (.ofNat (a+d)):=by simp only[Tm.put,if_pos h]
   rw[e];have p:fB (Int.ofNat i-.ofNat d) (.ofNat a)=true:=UU (by simp;omega);have o:=nA (a:=a) (b:=d);rcases f with f|f
   ·exact o4 8 [(17,.n [(10,.y (Int.ofNat i-.ofNat d)),(14,.G),(18,.z (a+d)),(19,.r (S.sh 0 (.ofNat (a+d))).p)])] r p o (f (a+d) (by omega))
   grind[Tm.occ]
  have p:fB (Int.ofNat i-.ofNat d) (.ofNat a)=false:=gi (by simp;omega);by_cases x:a+d<i
  ·have e:(Tm.v i).put a S d=.v (i-1):=by simp only[Tm.put,if_neg h,if_pos x]
   rw[e];have o:fA (.ofNat a) (Int.ofNat i-.ofNat d)=true:=av (by simp;omega);have A:=rD (a:=i);exact o4 8 [(17,.n [(10,.y (Int.ofNat i-.ofNat d)),(14,.H),(23,.G),(25,.z (i-1))])] r p o A
  have e:(Tm.v i).put a S d=.v i:=by simp only[Tm.put,if_neg h,if_neg x]
  rw[e];have o:fA (.ofNat a) (Int.ofNat i-.ofNat d)=false:=ov (by simp;omega);exact o3 8 [(17,.n [(10,.y (Int.ofNat i-.ofNat d)),(14,.H),(23,.H)])] r p o
 |.lam s b,d,f,j,l=>by
  have j:d+(1+b.cnt)<=qA:=j;have n:=vA;have z:=uA;have g:=wL a _ S m b (d+1) f (by omega) l;exact o3 8 [24,30,(43,.o [5,7,1,2] [] (.pv (b.put a S (d+1)).p))] (aF s) (nA (a:=d) (b:=1)) g
 |.n0 k,d,_,_,_=>by cases k<;>exact o1 8 [24] WC
 |.n1 k b,d,f,j,l=>by
  have j:d+(1+b.cnt)<=qA:=j;have g:=wL a s S m b d f (by omega) l;cases k<;>exact o2 8 [24,(43,.o [5,7,1,2] [] (.pv (b.put a S d).p))] WC g
 |.n2 k b c,d,f,j,l=>by
  have j:d+(1+b.cnt+c.cnt)<=qA:=j;have l:max b.mx c.mx<=qA*qA:=l;have f:Lf s S\/b.occ (a+d)+c.occ (a+d)=0:=f;have g:=wL a s S m b d (f.imp id (by omega)) (by omega) (by omega);have v:=wL a s S m c d (f.imp id (by omega)) (by omega) (by omega);cases k<;>exact o3 8 [24,(43,.o [5,7,1,2] [] (.pv (b.put a S d).p)),(43,.o [5,7,1,2] [] (.pv (c.put a S d).p))] WC g v
 |.n3 k u b c e,d,f,j,l=>by
  have j:d+(1+b.cnt+c.cnt+e.cnt)<=qA:=j;have l:max b.mx (max c.mx e.mx)<=qA*qA:=l;have f:Lf s S\/b.occ (a+d)+c.occ (a+d)+e.occ (a+d)=0:=f;have g:=wL a s S m b d (f.imp id (by omega)) (by omega) (by omega);have v:=wL a s S m c d (f.imp id (by omega)) (by omega) (by omega);have w:=wL a s S m e d (f.imp id (by omega)) (by omega) (by omega);cases k<;>exact o4 8 [24,(43,.o [5,7,1,2] [] (.pv (b.put a S d).p)),(43,.o [5,7,1,2] [] (.pv (c.put a S d).p)),(43,.o [5,7,1,2] [] (.pv (e.put a S d).p))] (aF u) g v w
def pi(t:Tm)(a:Nat)(s:Sx)(S:Tm)(b:Lf s S\/t.occ a=0)(c:a<=qA:=by omega)(d:t.cnt<=qA:=by omega)(d:t.mx<=qA*qA:=by omega):A 398 [t.p,num a,.agg s.c] (t.put a S 0).p:=
 f1 [(9,.n [(9,.o [5,7,1,2] [] (.pv (t.put a S 0).p))])] (wL a s S c t 0 b (by omega) d)
theorem Lf.of(S:Tm)(a:S.cnt<=qA)(a:S.mx<=qA*qA)(B:∀n,n<=2*qA->A 232 [S.p,num 0,num n] (S.sh 0 (.ofNat n)).p):Lf S.x S:=B
def DJ:∀t:Tm,A 287 [t.p] t.p
 |.v i=>f1 [12] WC|.lam s b=>f2 [12,24] (aF s) (DJ b)|.n0 k=>by cases k<;>exact f1 [12] WC
 |.n1 k b=>by have g:=DJ b;cases k<;>exact f2 [12,24] WC g
 |.n2 k b c=>by have g:=DJ b;have a:=DJ c;cases k<;>exact f3 [12,24,24] WC g a
 |.n3 k s b c d=>by have g:=DJ b;have a:=DJ c;have e:=DJ d;cases k<;>exact f4 [12,24,24,24] (aF s) g a e
abbrev iF:Nat:=536870912
def WB:Bool->Tm->Bool
 |b,.v i=>match b with|true=> !fA (.ofNat iF) (.ofNat i)|false=>false
 |b,.lam _ t=>WB b t|b,.n0 _=>b|b,.n1 _ t=>WB b t|b,.n2 _ t u=>WB (WB b t) u|b,.n3 _ _ t u w=>WB (WB (WB b t) u) w
theorem eI:∀(t:Tm),t.mx<=iF->WB true t=true
 |.v i,h=>by
  have h:i<=iF:=h;show(!fA (.ofNat iF) (.ofNat i))=true;rw[HA h];rfl
 |.lam _ t,h=>eI t h|.n0 _,_=>rfl|.n1 _ t,h=>eI t h|.n2 _ t u,h=>by
  have h:max t.mx u.mx<=iF:=h;simp only[WB,eI t (by omega),eI u (by omega)]
 |.n3 _ _ t u w,h=>by
  have h:max t.mx (max u.mx w.mx)<=iF:=h;simp only[WB,eI t (by omega),eI u (by omega),eI w (by omega)]
abbrev ut:PV:=.tuple []
abbrev za(i j:Nat)(c:V)(own:List (Nat×Ob)):List (Nat×Ob):=(i,.box [c])::(j,.box [.fn 358 [.loc i 0,.loc j 0]])::own
abbrev va(b:Bool):List (Nat×Ob):=za 3 4 (.fn 298 [.loc 1 0]) [(1,bx [.bool b])]
abbrev qE(b:Bool):List (Nat×Ob):=[(1,bx [.bool b])]
def kL:∀(t:Tm)(b:Bool)(d:Nat),d+t.cnt<=qA->O 358 [.pv t.p,.pv (num d),.loc 3 0,.loc 4 0] (va b) (.pv ut) (va (WB b t))
 |.v i,b,d,f=>by
  cases b
  ·exact o0 5 []
  show O 358 _ _ _ (va (!fA (.ofNat iF) (.ofNat i)));cases e: !fA (.ofNat iF) (.ofNat i)
  ·exact o1 5 [(15,.n [(8,.H)])] e
  exact o1 5 [(15,.n [(8,.G)])] e
 |.lam s a,b,d,f=>by
  have f:d+(1+a.cnt)<=qA:=f;have:=vA;have:=uA;exact o2 5 [20,(31,.o [3,4] (qE (WB b a)) (.pv ut))] (nA (a:=d) (b:=1)) (kL a b (d+1) (by omega))
 |.n0 k,b,d,f=>by cases k<;>exact o0 5 []
 |.n1 k a,b,d,f=>by
  have f:d+(1+a.cnt)<=qA:=f;have g:=kL a b d (by omega);cases k<;>exact o1 5 [(31,.o [3,4] (qE (WB b a)) (.pv ut))] g
 |.n2 k a c,b,d,f=>by
  have f:d+(1+a.cnt+c.cnt)<=qA:=f;have g:=kL a b d (by omega);have h:=kL c (WB b a) d (by omega);cases k<;>exact o2 5 [(31,.o [3,4] (qE (WB b a)) (.pv ut)),(31,.o [3,4] (qE (WB (WB b a) c)) (.pv ut))] g h
 |.n3 k s a c e,b,d,f=>by
  have f:d+(1+a.cnt+c.cnt+e.cnt)<=qA:=f;have g:=kL a b d (by omega);have h:=kL c (WB b a) d (by omega);have j:=kL e (WB (WB b a) c) d (by omega);cases k<;>exact o3 5 [(31,.o [3,4] (qE (WB b a)) (.pv ut)),(31,.o [3,4] (qE (WB (WB b a) c)) (.pv ut)),(31,.o [3,4] (qE (WB (WB (WB b a) c) e)) (.pv ut))] g h j
def a298(t:Tm)(h:t.cnt<=qA:=by omega):A 229 [t.p] (.bool (WB true t)):=
 f1 [(6,.n [(8,.o [3,4] (qE (WB true t)) (.pv ut))])] (kL t true 0 (by omega))
abbrev ri(a n:Nat):List (Nat×Ob):=za 4 5 (.fn 403 [.loc 1 0,.loc 2 0]) [(1,bx [num a]),(2,bx [num n])]
abbrev oF(n:Nat):List (Nat×Ob):=[(2,bx [num n])]
def yL(a:Nat)(o:a<=qA):∀(t:Tm)(n d:Nat),d+t.cnt<=qA->t.mx<=qA*qA->n+t.cnt<=yA->O 358 [.pv t.p,.pv (num d),.loc 4 0,.loc 5 0] (ri a n) (.pv ut) (ri a (n+t.occ (a+d)))
 |.v i,n,d,j,m,l=>by
  have p:=vA;have x:i<=qA*qA:=m;have j:d+1<=qA:=j;have l:n+1<=yA:=l;rw[p]at x;have y:=uA;have w:=nP (i:=i) (d:=d);by_cases h:i=a+d
  ·have r:fB (Int.ofNat i-.ofNat d) (.ofNat a)=true:=UU (by simp;omega);have e:(Tm.v i).occ (a+d)=1:=by simp only[Tm.occ,if_pos h]
   rw[e];exact o3 6 [(15,.n [(8,.y (Int.ofNat i-.ofNat d)),(10,.G),(12,.z (n+1))])] w r (nA (a:=n) (b:=1))
  have r:fB (Int.ofNat i-.ofNat d) (.ofNat a)=false:=gi (by simp;omega);have e:(Tm.v i).occ (a+d)=0:=by simp only[Tm.occ,if_neg h]
  rw[e];exact o2 6 [(15,.n [(8,.y (Int.ofNat i-.ofNat d)),(10,.H)])] w r
 |.lam s b,n,d,j,m,l=>by
  have j:d+(1+b.cnt)<=qA:=j;have l:n+(1+b.cnt)<=yA:=l;have p:=vA;have y:=uA;exact o2 6 [20,(31,.o [4,5,1] (oF (n+b.occ (a+(d+1)))) (.pv ut))] (nA (a:=d) (b:=1)) (yL a o b n (d+1) (by omega) m (by omega))
 |.n0 k,n,d,_,_,_=>by cases k<;>exact o0 6 []
 |.n1 k b,n,d,j,m,l=>by
  have j:d+(1+b.cnt)<=qA:=j;have l:n+(1+b.cnt)<=yA:=l;have g:=yL a o b n d (by omega) m (by omega);cases k<;>exact o1 6 [(31,.o [4,5,1] (oF (n+b.occ (a+d))) (.pv ut))] g
 |.n2 k b c,n,d,j,m,l=>by
  have j:d+(1+b.cnt+c.cnt)<=qA:=j;have l:n+(1+b.cnt+c.cnt)<=yA:=l;have m:max b.mx c.mx<=qA*qA:=m;have:=xB b (a+d);have g:=yL a o b n d (by omega) (by omega) (by omega);have u:=yL a o c (n+b.occ (a+d)) d (by omega) (by omega) (by omega);have e:n+(Tm.n2 k b c).occ (a+d)=n+b.occ (a+d)+c.occ (a+d):=(Nat.add_assoc _ _ _).symm;rw[e];cases k<;>exact o2 6 [(31,.o [4,5,1] (oF (n+b.occ (a+d))) (.pv ut)),(31,.o [4,5,1] (oF (n+b.occ (a+d)+c.occ (a+d))) (.pv ut))] g u
 |.n3 k s b c f,n,d,j,m,l=>by
  have j:d+(1+b.cnt+c.cnt+f.cnt)<=qA:=j;have l:n+(1+b.cnt+c.cnt+f.cnt)<=yA:=l;have m:max b.mx (max c.mx f.mx)<=qA*qA:=m;have:=xB b (a+d);have:=xB c (a+d);have g:=yL a o b n d (by omega) (by omega) (by omega);have u:=yL a o c (n+b.occ (a+d)) d (by omega) (by omega) (by omega);have v:=yL a o f (n+b.occ (a+d)+c.occ (a+d)) d (by omega) (by omega) (by omega);have e:n+(Tm.n3 k s b c f).occ (a+d)=n+b.occ (a+d)+c.occ (a+d)+f.occ (a+d):=by grind[Tm.occ]
  rw[e];cases k<;>exact o3 6 [(31,.o [4,5,1] (oF (n+b.occ (a+d))) (.pv ut)),(31,.o [4,5,1] (oF (n+b.occ (a+d)+c.occ (a+d))) (.pv ut)),(31,.o [4,5,1] (oF (n+b.occ (a+d)+c.occ (a+d)+f.occ (a+d))) (.pv ut))] g u v
def ai(t:Tm)(a:Nat)(b:a<=qA:=by omega)(h:t.cnt<=qA:=by omega)(c:t.mx<=qA*qA:=by omega):A 385 [t.p,num a] (num (t.occ a)):=by
 have:=vA;have:=uA;have g:=yL a b t 0 0 (by omega) c (by omega);rw[Nat.zero_add]at g;exact f1 [(8,.n [(8,.o [4,5,1] (oF (t.occ a)) (.pv ut))])] g
open Go.Lg
abbrev ci(a z:Nat):List (Nat×Ob):=[(1,bx [num a]),(2,bx [num z])]
def VU(a z:Nat)(i:a<=qA)(e:z<=2*qA):∀(f:Fm)(d:Nat),a+d+f.cnt<=qA->f.mx<=qA*qA->O 230 [.pv f.p,.pv (num d),.fn 231 [.loc 1 0,.loc 2 0]] (ci a z) (.pv (f.sh (a+d) (.ofNat z)).p) (ci a z)
 |.eq t u,d,b,c=>by
  have j:=vA;have m:=uA;have b:a+d+(1+t.cnt+u.cnt)<=qA:=b;have c:max t.mx u.mx<=qA*qA:=c;have g:=nA (a:=a) (b:=d);have h:=ZZ t (a+d) z (by omega) e;have l:=ZZ u (a+d) z (by omega) e;exact o5 3 [16,(30,.n [(10,.z (a+d)),(12,.r (t.sh (a+d) (.ofNat z)).p)]),(30,.n [(10,.z (a+d)),(12,.r (u.sh (a+d) (.ofNat z)).p)])] WC g h g l
 |.bin k f g,d,b,c=>by
  have b:a+d+(1+f.cnt+g.cnt)<=qA:=b;have c:max f.mx g.mx<=qA*qA:=c;have h:=VU a z i e f d (by omega) (by omega);have l:=VU a z i e g d (by omega) (by omega);cases k<;>exact o3 3 [16,(52,.o [1,2] [] (.pv (f.sh (a+d) (.ofNat z)).p)),(52,.o [1,2] [] (.pv (g.sh (a+d) (.ofNat z)).p))] WC h l
 |.q k s f,d,b,c=>by
  have j:=vA;have m:=uA;have b:a+d+(1+f.cnt)<=qA:=b;have g:=nA (a:=d) (b:=1);have h:=VU a z i e f (d+1) (by omega) c;cases k<;>exact o3 3 [16,39,(52,.o [1,2] [] (.pv (f.sh (a+(d+1)) (.ofNat z)).p))] (aF s) g h
def iI(f:Fm)(a z:Nat)(b:z<=2*qA)(c:a+f.cnt<=qA)(c:f.mx<=qA*qA):A 159 [f.p,num a,num z] (f.sh a (.ofNat z)).p:=
 f1 [(9,.o [1,2] [] (.pv (f.sh a (.ofNat z)).p))] (VU a z (by omega) b f 0 (by omega) c)
def pP(S:Tm):∀(t:Tm)(c d:Nat),t.put (c+1) S d=t.put c S (d+1)|.v i,c,d=>by grind[Tm.put]|.lam s b,c,d=>by simp[Tm.put,pP]|.n0 k,c,d=>rfl|.n1 k a,c,d=>by simp[Tm.put,pP]|.n2 k a b,c,d=>by simp[Tm.put,pP]|.n3 k s a b e,c,d=>by simp[Tm.put,pP]
def xv(S:Tm):∀(f:Fm)(c d:Nat),f.put (c+1) S d=f.put c S (d+1)
 :=by intro x;induction x<;>simp_all[Fm.put,pP]
abbrev ii(a:Nat)(s:Sx):List (Nat×Ob):=[(1,bx [num a]),(2,bx s.c)]
def WU(a:Nat)(s:Sx)(S:Tm)(j:a<=qA):∀(f:Fm)(d:Nat),(Lf s S\/f.occ (a+d)=0)->a+d+f.cnt<=qA->f.mx<=qA*qA->O 230 [.pv f.p,.pv (num d),.fn 397 [.loc 1 0,.loc 2 0]] (ii a s) (.pv (f.put (a+d) S 0).p) (ii a s)
 |.eq t u,d,b,c,h=>by
  have l:=vA;have n:=uA;have c:a+d+(1+t.cnt+u.cnt)<=qA:=c;have h:max t.mx u.mx<=qA*qA:=h;have b:Lf s S\/t.occ (a+d)+u.occ (a+d)=0:=b;have g:=nA (a:=a) (b:=d);have i:=pi t (a+d) s S (b.imp id (by omega));have m:=pi u (a+d) s S (b.imp id (by omega));exact o5 3 [16,(30,.n [(10,.z (a+d)),(12,.r (t.put (a+d) S 0).p)]),(30,.n [(10,.z (a+d)),(12,.r (u.put (a+d) S 0).p)])] WC g i g m
 |.bin k f g,d,b,c,h=>by
  have c:a+d+(1+f.cnt+g.cnt)<=qA:=c;have h:max f.mx g.mx<=qA*qA:=h;have b:Lf s S\/f.occ (a+d)+g.occ (a+d)=0:=b;have i:=WU a s S j f d (b.imp id (by omega)) (by omega) (by omega);have m:=WU a s S j g d (b.imp id (by omega)) (by omega) (by omega);cases k<;>exact o3 3 [16,(52,.o [1,2] [] (.pv (f.put (a+d) S 0).p)),(52,.o [1,2] [] (.pv (g.put (a+d) S 0).p))] WC i m
 |.q k u f,d,b,c,h=>by
  have l:=vA;have n:=uA;have c:a+d+(1+f.cnt)<=qA:=c;have g:=nA (a:=d) (b:=1);have i:=WU a s S j f (d+1) b (by omega) h;have e:f.put (a+(d+1)) S 0=f.put (a+d) S (0+1):=xv S f (a+d) 0;rw[e]at i;cases k<;>exact o3 3 [16,39,(52,.o [1,2] [] (.pv (f.put (a+d) S (0+1)).p))] (aF u) g i
def mR(f:Fm)(a:Nat)(s:Sx)(S:Tm)(b:Lf s S\/f.occ a=0)(c:a+f.cnt<=qA)(c:f.mx<=qA*qA):A 378 [f.p,num a,.agg s.c] (f.put a S 0).p:=
 f1 [(9,.o [1,2] [] (.pv (f.put a S 0).p))] (WU a s S (by omega) f 0 b (by omega) c)
def XU:∀(f:Fm)(d:Nat),d+f.cnt<=qA->O 230 [.pv f.p,.pv (num d),.fn 286 []] [] (.pv f.p) []
 |.eq t u,d,a=>o3 0 [16,(30,.n [(6,.r t.p)]),(30,.n [(6,.r u.p)])] WC (DJ t) (DJ u)|.bin k f g,d,a=>by
  have a:d+(1+f.cnt+g.cnt)<=qA:=a;have b:=XU f d (by omega);have c:=XU g d (by omega);cases k<;>exact o3 0 [16,(52,.o [] [] (.pv f.p)),(52,.o [] [] (.pv g.p))] WC b c
 |.q k s f,d,a=>by
  have:=vA;have:=uA;have a:d+(1+f.cnt)<=qA:=a;have g:=nA (a:=d) (b:=1);have b:=XU f (d+1) (by omega);cases k<;>exact o3 0 [16,39,(52,.o [] [] (.pv f.p))] (aF s) g b
def Av(f:Fm)(h:f.cnt<=qA):A 222 [f.p] f.p:=f1 [(4,.o [] [] (.pv f.p))] (XU f 0 (by omega))
def uL(b:Bool)(t:Tm):Bool:=match b with|true=>WB true t|false=>false
def xF:Bool->Fm->Bool|b,.eq t u=>uL (uL b t) u|b,.bin _ f g=>xF (xF b f) g|b,.q _ _ f=>xF b f
def YU:∀(f:Fm),f.mx<=iF->xF true f=true
 |.eq t u,h=>by
  have h:max t.mx u.mx<=iF:=h
  grind[xF,uL,eI]
 |.bin _ f g,h=>by
  have h:max f.mx g.mx<=iF:=h;simp only[xF,YU f (by omega),YU g (by omega)]
 |.q _ _ f,h=>YU f h
def xi(t:Tm)(b:Bool)(d:Nat)(h:t.cnt<=qA:=by omega):O 228 [.pv t.p,.pv (num d),.loc 1 0] (qE b) (.pv ut) (qE (uL b t)):=by
 cases b
 ·exact o0 2 []
 exact o1 2 [8] (a298 t h)
def ZU:∀(f:Fm)(b:Bool)(d:Nat),d+f.cnt<=qA->O 227 [.pv f.p,.pv (num d),.fn 228 [.loc 1 0]] (qE b) (.pv ut) (qE (xF b f))
 |.eq t u,b,d,a=>by
  have a:d+(1+t.cnt+u.cnt)<=qA:=a;exact o2 2 [(20,.o [] (qE (uL b t)) (.pv ut)),(20,.o [] (qE (uL (uL b t) u)) (.pv ut))] (xi t b d) (xi u (uL b t) d)
 |.bin k f g,b,d,a=>by
  have a:d+(1+f.cnt+g.cnt)<=qA:=a;have c:=ZU f b d (by omega);have e:=ZU g (xF b f) d (by omega);cases k<;>exact o2 2 [(37,.o [] (qE (xF b f)) (.pv ut)),(37,.o [] (qE (xF (xF b f) g)) (.pv ut))] c e
 |.q k s f,b,d,a=>by
  have:=vA;have:=uA;have a:d+(1+f.cnt)<=qA:=a;have g:=nA (a:=d) (b:=1);have c:=ZU f b (d+1) (by omega);cases k<;>exact o2 2 [26,(37,.o [] (qE (xF b f)) (.pv ut))] g c
def a295(f:Fm)(h:f.cnt<=qA):A 158 [f.p] (.bool (xF true f)):=
 f1 [(6,.o [] (qE (xF true f)) (.pv ut))] (ZU f true 0 (by omega))
def Ai(t:Tm)(a n d:Nat)(b:a+d<=qA:=by omega)(h:t.cnt<=qA:=by omega)(c:t.mx<=qA*qA:=by omega)(e:n+t.cnt<=yA:=by omega):O 396 [.pv t.p,.pv (num d),.loc 2 0,.loc 1 0] [(1,bx [num a]),(2,bx [num n])] (.pv ut) [(1,bx [num a]),(2,bx [num (n+t.occ (a+d))])]:=by
 have:=vA;have:=uA;have:=xB t (a+d);have g:=nA (a:=a) (b:=d);have e:=nA (a:=n) (b:=t.occ (a+d));exact o3 3 [10,11,12] g (ai t (a+d) b h c) e
def qV(a:Nat):∀(f:Fm)(n d:Nat),a+d+f.cnt<=qA->f.mx<=qA*qA->n+f.cnt<=yA->O 227 [.pv f.p,.pv (num d),.fn 396 [.loc 2 0,.loc 1 0]] [(1,bx [num a]),(2,bx [num n])] (.pv ut) [(1,bx [num a]),(2,bx [num (n+f.occ (a+d))])]
 |.eq t u,n,d,b,h,c=>by
  have b:a+d+(1+t.cnt+u.cnt)<=qA:=b;have h:max t.mx u.mx<=qA*qA:=h;have c:n+(1+t.cnt+u.cnt)<=yA:=c;have:=xB t (a+d);have i:=Ai t a n d;have j:=Ai u a (n+t.occ (a+d)) d;have e:n+(Fm.eq t u).occ (a+d)=n+t.occ (a+d)+u.occ (a+d):=(Nat.add_assoc _ _ _).symm;rw[e];exact o2 3 [(20,.o [1] (oF (n+t.occ (a+d))) (.pv ut)),(20,.o [1] (oF (n+t.occ (a+d)+u.occ (a+d))) (.pv ut))] i j
 |.bin k f g,n,d,b,h,c=>by
  have b:a+d+(1+f.cnt+g.cnt)<=qA:=b;have h:max f.mx g.mx<=qA*qA:=h;have c:n+(1+f.cnt+g.cnt)<=yA:=c;have:=MG f (a+d);have i:=qV a f n d (by omega) (by omega) (by omega);have j:=qV a g (n+f.occ (a+d)) d (by omega) (by omega) (by omega);have e:n+(Fm.bin k f g).occ (a+d)=n+f.occ (a+d)+g.occ (a+d):=(Nat.add_assoc _ _ _).symm;rw[e];cases k<;>exact o2 3 [(37,.o [1] (oF (n+f.occ (a+d))) (.pv ut)),(37,.o [1] (oF (n+f.occ (a+d)+g.occ (a+d))) (.pv ut))] i j
 |.q k s f,n,d,b,h,c=>by
  have:=vA;have:=uA;have b:a+d+(1+f.cnt)<=qA:=b;have c:n+(1+f.cnt)<=yA:=c;have g:=nA (a:=d) (b:=1);have i:=qV a f n (d+1) (by omega) h (by omega);cases k<;>exact o2 3 [26,(37,.o [1] (oF (n+f.occ (a+(d+1)))) (.pv ut))] g i
def nR(f:Fm)(a:Nat)(h:a+f.cnt<=qA)(b:f.mx<=qA*qA):A 377 [f.p,num a] (num (f.occ a)):=by
 have:=vA;have:=uA;have g:=qV a f 0 0 (by omega) b (by omega);rw[Nat.zero_add]at g;exact f1 [(8,.o [1] (oF (f.occ a)) (.pv ut))] g
def Tm.fr:Tm->Nat|.v i=>i+1|.lam _ b=>b.fr-1|.n0 _=>0|.n1 _ a=>a.fr|.n2 _ a b=>max a.fr b.fr|.n3 _ _ a b c=>max (max a.fr b.fr) c.fr
def Tm.nf:Tm->Bool|.v _=>true|.lam _ b=>b.nf|.n0 _=>true|.n1 k a=>(Tm.n1 k a).red.isNone&&a.nf|.n2 k a b=>(Tm.n2 k a b).red.isNone&&(a.nf&&b.nf)|.n3 k s a b c=>(Tm.n3 k s a b c).red.isNone&&(a.nf&&(b.nf&&c.nf))
def Tm.nas:Tm->List (List PV)|.lam _ b=>[[.nptr [num b.kd,num b.ix,num b.tk,.slice b.te,.slice b.nas,num b.cnt,num b.fr,.flg b.nf]]]|.n1 _ a=>[[.nptr [num a.kd,num a.ix,num a.tk,.slice a.te,.slice a.nas,num a.cnt,num a.fr,.flg a.nf]]]|.n2 _ a b=>[[.nptr [num a.kd,num a.ix,num a.tk,.slice a.te,.slice a.nas,num a.cnt,num a.fr,.flg a.nf]],[.nptr [num b.kd,num b.ix,num b.tk,.slice b.te,.slice b.nas,num b.cnt,num b.fr,.flg b.nf]]]|.n3 _ _ a b c=>[[.nptr [num a.kd,num a.ix,num a.tk,.slice a.te,.slice a.nas,num a.cnt,num a.fr,.flg a.nf]],[.nptr [num b.kd,num b.ix,num b.tk,.slice b.te,.slice b.nas,num b.cnt,num b.fr,.flg b.nf]],[.nptr [num c.kd,num c.ix,num c.tk,.slice c.te,.slice c.nas,num c.cnt,num c.fr,.flg c.nf]]]|_=>[]
abbrev Tm.nd'(t:Tm):PV:=.nptr [num t.kd,num t.ix,num t.tk,.slice t.te,.slice t.nas,num t.cnt,num t.fr,.flg t.nf]
open Go.Lg
def ya:∀(t:Tm)(n:Nat),t.sc n↔t.fr<=n
 :=by intro x;induction x<;>grind[Tm.sc,Tm.fr]
def bL(z:Int):∀(t:Tm)(c:Nat),t.fr<=c->t.sh c z=t|.v i,c,h=>by simp only[Tm.fr]at h;simp only[Tm.sh,if_neg (show¬c<=i by omega)]|.lam s b,c,h=>by simp only[Tm.fr]at h;simp only[Tm.sh,bL z b (c+1) (by omega)]|.n0 k,c,h=>rfl|.n1 k a,c,h=>by simp only[Tm.sh,bL z a c h]|.n2 k a b,c,h=>by simp only[Tm.fr]at h;simp only[Tm.sh,bL z a c (by omega),bL z b c (by omega)]|.n3 k s a b d,c,h=>by simp only[Tm.fr]at h;simp only[Tm.sh,bL z a c (by omega),bL z b c (by omega),bL z d c (by omega)]
theorem gE:∀(t:Tm)(c:Nat),t.sh c (.ofNat 0)=t|.v i,c=>by simp[Tm.sh]|.lam s b,c=>by simp only[Tm.sh,gE b]|.n0 k,c=>rfl|.n1 k a,c=>by simp only[Tm.sh,gE a]|.n2 k a b,c=>by simp only[Tm.sh,gE a,gE b]|.n3 k s a b d,c=>by simp only[Tm.sh,gE a,gE b,gE d]
def dL(c:Nat)(S:Tm):∀(t:Tm)(d:Nat),t.fr<=c+d->t.put c S d=t|.v i,d,h=>by simp only[Tm.fr]at h;simp only[Tm.put,if_neg (show¬i=c+d by omega),if_neg (show¬c+d<i by omega)]|.lam s b,d,h=>by simp only[Tm.fr]at h;simp only[Tm.put,dL c S b (d+1) (by omega)]|.n0 k,d,h=>rfl|.n1 k a,d,h=>by simp only[Tm.put,dL c S a d h]|.n2 k a b,d,h=>by simp only[Tm.fr]at h;simp only[Tm.put,dL c S a d (by omega),dL c S b d (by omega)]|.n3 k s a b e,d,h=>by simp only[Tm.fr]at h;simp only[Tm.put,dL c S a d (by omega),dL c S b d (by omega),dL c S e d (by omega)]
theorem EJ:∀(t:Tm)(c:Nat),t.fr<=c->t.occ c=0|.v i,c,h=>by simp only[Tm.fr]at h;simp only[Tm.occ,if_neg (show¬i=c by omega)]|.lam s b,c,h=>by simp only[Tm.fr]at h;simp only[Tm.occ,EJ b (c+1) (by omega)]|.n0 k,c,h=>rfl|.n1 k a,c,h=>by simp only[Tm.occ,EJ a c h]|.n2 k a b,c,h=>by simp only[Tm.fr]at h;simp only[Tm.occ,EJ a c (by omega),EJ b c (by omega)]|.n3 k s a b d,c,h=>by simp only[Tm.fr]at h;simp only[Tm.occ,EJ a c (by omega),EJ b c (by omega),EJ d c (by omega)]
def jV:∀t:Tm,t.fr<=t.mx+1
 :=by intro x;induction x<;>grind[Tm.fr,Tm.mx]
def vV:∀(t:Tm)(n:Nat),t.sc n->t.mx<=n+t.cnt
 :=by intro x;induction x<;>grind[Tm.sc,Tm.mx,Tm.cnt]
def ua:∀(t:Tm){n m:Nat},n<=m->t.sc n->t.sc m:=λt n m h a=>(ya t m).2 (Nat.le_trans ((ya t n).1 a) h)
def AF(z:Nat):∀(t:Tm)(c n:Nat),t.sc n->(t.sh c (.ofNat z)).sc (n+z)
 |.v i,c,n,h=>by
  have h:i<n:=h;simp only[Tm.sh];split
  ·show((Int.ofNat i+.ofNat z).toNat)<n+z;have:(Int.ofNat i+.ofNat z).toNat=i+z:=rfl;omega
  show i<n+z;omega
 |.lam s b,c,n,h=>by
  have:=AF z b (c+1) (n+1) h;rw[show n+1+z=n+z+1 by omega]at this;exact this
 |.n0 k,c,n,h=>trivial|.n1 k a,c,n,h=>AF z a c n h|.n2 k a b,c,n,h=>⟨AF z a c n h.1,AF z b c n h.2⟩|.n3 k s a b d,c,n,h=>⟨AF z a c n h.1,AF z b c n h.2.1,AF z d c n h.2.2⟩
def oI(S:Tm)(n:Nat):∀(t:Tm)(d:Nat),t.sc (n+d+1)->(S.sc n\/t.occ d=0)->(t.put 0 S d).sc (n+d)
 |.v i,d,h,c=>by
  have h:i<n+d+1:=h;simp only[Tm.put,Nat.zero_add];split
  ·rcases c with c|c
   ·exact AF d S 0 n c
   grind[Tm.occ]
  split
  ·show i-1<n+d;omega
  show i<n+d;omega
 |.lam s b,d,h,c=>by
  have:=oI S n b (d+1) (by exact h) c;exact this
 |.n0 k,d,h,c=>trivial|.n1 k a,d,h,c=>oI S n a d h c|.n2 k a b,d,h,c=>by
  simp only[Tm.occ]at c;exact⟨oI S n a d h.1 (c.imp id (by omega)),oI S n b d h.2 (c.imp id (by omega))⟩
 |.n3 k s a b e,d,h,c=>by
  simp only[Tm.occ]at c;exact⟨oI S n a d h.1 (c.imp id (by omega)),oI S n b d h.2.1 (c.imp id (by omega)),oI S n e d h.2.2 (c.imp id (by omega))⟩
theorem CH(z w:Nat):∀(t:Tm)(c:Nat),(t.sh c (.ofNat z)).sh c (.ofNat w)=t.sh c (.ofNat (z+w))
 |.v i,c=>by
  simp only[Tm.sh];split
  ·have e:(Int.ofNat i+.ofNat z).toNat=i+z:=rfl;simp only[Tm.sh,e,if_pos (show c<=i+z by omega)];have f:(Int.ofNat (i+z)+.ofNat w).toNat=i+z+w:=rfl;have g:(Int.ofNat i+.ofNat (z+w)).toNat=i+(z+w):=rfl;rw[f,g,Nat.add_assoc]
  rename_i h;simp only[Tm.sh,if_neg h]
 |.lam s b,c=>by simp only[Tm.sh,CH z w b]|.n0 k,c=>rfl|.n1 k a,c=>by simp only[Tm.sh,CH z w a]|.n2 k a b,c=>by simp only[Tm.sh,CH z w a,CH z w b]|.n3 k s a b d,c=>by simp only[Tm.sh,CH z w a,CH z w b,CH z w d]
theorem Bv(n:Nat):∀{t r:Tm},t.red=some r->t.sc n->t.shp=true->r.sc n/\r.shp=true:=by
 refine@sJ (λt r=>t.sc n->t.shp=true->r.sc n/\r.shp=true) ?_ ?_ ?_ ?_ ?_ ?_ ?_
 ·intro a b h c;exact⟨h.1,(EA c).1⟩
 ·intro a b h c;exact⟨h.2,(EA c).2⟩
 ·intro s b a h c;obtain⟨i,d⟩:=EA c;obtain⟨_,e⟩:=EA i;exact⟨oI a n b 0 h.1 (.inl h.2),rI 0 a b 0 (.inl d) e⟩
 ·intro s b f h c;obtain⟨_,d⟩:=EA c;exact⟨h.1,(EA d).1⟩
 ·intro s b f m h c;obtain⟨i,d⟩:=EA c;obtain⟨d,e⟩:=EA d;obtain⟨e,g⟩:=EA e;have g:m.shp=true:=g;refine⟨⟨⟨h.2.1,h.2.2⟩,h.1,h.2.1,h.2.2⟩,?_⟩;show((_&&_)&&(_&&(_&&(_&&_))))=true;rw[i,d,e,g];rfl
 ·intro s b f h c;obtain⟨_,d⟩:=EA c;exact⟨h.1,(EA d).1⟩
 intro s b f x l h c;obtain⟨i,d⟩:=EA c;obtain⟨d,e⟩:=EA d;obtain⟨e,g⟩:=EA e;obtain⟨g,k⟩:=EA g;have j:=h.2.2;refine⟨⟨⟨⟨h.2.1,j.1⟩,j.2⟩,h.1,h.2.1,j.2⟩,?_⟩;show(((_&&_)&&_)&&(_&&(_&&(_&&_))))=true;rw[i,d,e,g,k];rfl
def pR:∀(f:Fm)(n:Nat),f.sc n->f.mx<=n+f.cnt|.eq a b,n,h=>by have:=vV a n h.1;have:=vV b n h.2;grind[Fm.mx,Fm.cnt]|.bin k a b,n,h=>by have:=pR a n h.1;have:=pR b n h.2;grind[Fm.mx,Fm.cnt]|.q k s a,n,h=>by have:=pR a (n+1) h;grind[Fm.mx,Fm.cnt]
def kV:∀(f:Fm){n m:Nat},n<=m->f.sc n->f.sc m|.eq a b,n,m,h,c=>⟨ua a h c.1,ua b h c.2⟩|.bin k a b,n,m,h,c=>⟨kV a h c.1,kV b h c.2⟩|.q k s a,n,m,h,c=>kV a (Nat.succ_le_succ h) c
def xI(z:Nat):∀(f:Fm)(c n:Nat),f.sc n->(f.sh c (.ofNat z)).sc (n+z)
 |.eq a b,c,n,h=>⟨AF z a c n h.1,AF z b c n h.2⟩|.bin k a b,c,n,h=>⟨xI z a c n h.1,xI z b c n h.2⟩|.q k s a,c,n,h=>by
  have:=xI z a (c+1) (n+1) h;rw[show n+1+z=n+z+1 by omega]at this;exact this
def pN(S:Tm)(n:Nat):∀(f:Fm)(d:Nat),f.sc (n+d+1)->(S.sc n\/f.occ d=0)->(f.put 0 S d).sc (n+d)
 |.eq a b,d,h,c=>by
  simp only[Fm.occ]at c;exact⟨oI S n a d h.1 (c.imp id (by omega)),oI S n b d h.2 (c.imp id (by omega))⟩
 |.bin k a b,d,h,c=>by
  simp only[Fm.occ]at c;exact⟨pN S n a d h.1 (c.imp id (by omega)),pN S n b d h.2 (c.imp id (by omega))⟩
 |.q k s a,d,h,c=>by
  exact pN S n a (d+1) (by exact h) c
def Bi(z w:Nat):∀(f:Fm)(c:Nat),(f.sh c (.ofNat z)).sh c (.ofNat w)=f.sh c (.ofNat (z+w))
 :=by intro x;induction x<;>grind[Fm.sh,CH]
def Ci:∀(f:Fm)(c:Nat),f.sh c (.ofNat 0)=f
 :=by intro x;induction x<;>grind[Fm.sh,gE]
structure FK(n:Nat)(f:Fm):Prop where
 cnt:f.cnt<=4096
 shp:f.shp=true
 sc:f.sc n
theorem MD:∀t:Tm,t.shp=true->t.tsz<=64
 |.v i,h=>Nat.zero_le _|.lam s b,h=>by
  obtain⟨e,c⟩:=EA h;have:=kD e;have:=MD b c
  grind[Tm.tsz]
 |.n0 k,h=>Nat.zero_le _|.n1 k a,h=>MD a h|.n2 k a b,h=>by
  obtain⟨e,c⟩:=EA h;have:=MD a e;have:=MD b c
  grind[Tm.tsz]
 |.n3 k s a b d,h=>by
  obtain⟨e,c⟩:=EA h;obtain⟨c,f⟩:=EA c;obtain⟨f,g⟩:=EA f;have:=kD e;have:=MD a c;have:=MD b f;have:=MD d g
  grind[Tm.tsz]
theorem ZE:∀f:Fm,f.shp=true->f.tsz<=64
 |.eq a b,h=>by
  obtain⟨c,d⟩:=EA h;have:=MD a c;have:=MD b d
  grind[Fm.tsz]
 |.bin k a b,h=>by
  obtain⟨c,d⟩:=EA h;have:=ZE a c;have:=ZE b d
  grind[Fm.tsz]
 |.q k s a,h=>by
  obtain⟨c,d⟩:=EA h;have:=kD c;have:=ZE a d
  grind[Fm.tsz]
open Go.Lg
def yV(a b:Nat):true=true/\(bif fA (.ofNat a) (.ofNat b)then Int.ofNat b else .ofNat a)=.ofNat (max a b):=by
 grind[NA,Nat.max_eq_right,HA,Nat.max_eq_left]
theorem rR(b:Nat):true=true/\(bif fA (.ofNat 0) (.ofNat b)then Int.ofNat b else .ofNat 0)=.ofNat b:=by
 have:=yV 0 b;rwa[Nat.zero_max]at this
def Dv(b:Nat):true=true/\(bif fA 0 (.ofNat b-1)then Int.ofNat b-1 else 0)=.ofNat (b-1):=by
 refine⟨rfl,?_⟩
 cases b with
 |zero=>rfl|succ n=>
  grind[rR]
def Ev(b:Nat)(h:b<=yA):xA (Int.ofNat b-1)=true/\Int.ofNat b-1=Int.ofNat b-1:=by
 have:=uA;exact⟨wP (by simp;omega) (by simp;omega),rfl⟩
def uV(n:Nat)(h:1+n<=yA:=by omega):xA (1+Int.ofNat n)=true/\1+Int.ofNat n=Int.ofNat (1+n):=nA (a:=1) (b:=n) h
def ba(i:Nat)(h:i+1<=yA:=by omega):A 409 [num 1,num i,zt,.slice []] (Tm.v i).nd':=
 f1 [53,(300013,.fb 1 (some true))] (nA (a:=i) (b:=1) h)
def Fv(k:K0):A 409 [num k.n,num 0,zt,.slice []] (Tm.n0 k).nd':=by
 cases k<;>exact f0 [(300013,.fb 1 (some true))]
def Ei(s:Ty)(b:Tm)(h:1+b.cnt<=yA)(a:b.fr<=yA):A 409 [num 2,num 0,s.p,.slice [[b.nd']]] (Tm.lam s b).nd':=
 f4 [(32,.z (1+b.cnt)),(44,.z b.fr),(63,.y (Int.ofNat b.fr-1)),(64,.z (b.fr-1)),(300013,.fb 1 (some b.nf))] (uV b.cnt h) (rR b.fr) (Ev b.fr a) (Dv b.fr)
def Fi(k:K1)(a:Tm)(h:1+a.cnt<=yA):A 409 [num k.n,num 0,zt,.slice [[a.nd']]] (Tm.n1 k a).nd':=by
 have b:=uV a.cnt h;have c:=rR a.fr
 cases k with|succ=>exact f2 [(32,.z (1+a.cnt)),(44,.z a.fr),(300013,.fb 1 (some (Tm.n1 .succ a).nf))] b c|fst=>exact f2 [(32,.z (1+a.cnt)),(44,.z a.fr),(300013,.fb 1 (some (Tm.n1 .fst a).nf))] b c|snd=>exact f2 [(32,.z (1+a.cnt)),(44,.z a.fr),(300013,.fb 1 (some (Tm.n1 .snd a).nf))] b c
def sR(k:K2)(a b:Tm)(h:1+a.cnt+b.cnt<=yA:=by omega):A 409 [num k.n,num 0,zt,.slice [[a.nd'],[b.nd']]] (Tm.n2 k a b).nd':=by
 have c:=uV a.cnt;have d:=rR a.fr;have e:=nA (a:=1+a.cnt) (b:=b.cnt) h;have f:=yV a.fr b.fr
 cases k with|app=>exact f4 [(32,.z (1+a.cnt)),(44,.z a.fr),(32,.z (1+a.cnt+b.cnt)),(44,.z (max a.fr b.fr)),(300013,.fb 1 (some (Tm.n2 .app a b).nf))] c d e f|cons=>exact f4 [(32,.z (1+a.cnt)),(44,.z a.fr),(32,.z (1+a.cnt+b.cnt)),(44,.z (max a.fr b.fr)),(300013,.fb 1 (some (Tm.n2 .cons a b).nf))] c d e f|pair=>exact f4 [(32,.z (1+a.cnt)),(44,.z a.fr),(32,.z (1+a.cnt+b.cnt)),(44,.z (max a.fr b.fr)),(300013,.fb 1 (some (Tm.n2 .pair a b).nf))] c d e f
def Gi(k:K3)(s:Ty)(a b c:Tm)(h:1+a.cnt+b.cnt+c.cnt<=yA):A 409 [num k.n,num 0,s.p,.slice [[a.nd'],[b.nd'],[c.nd']]] (Tm.n3 k s a b c).nd':=by
 have d:=uV a.cnt;have e:=rR a.fr;have f:=nA (a:=1+a.cnt) (b:=b.cnt);have g:=yV a.fr b.fr;have i:=nA (a:=1+a.cnt+b.cnt) (b:=c.cnt) h;have j:=yV (max a.fr b.fr) c.fr
 cases k with|re=>exact f6 [(32,.z (1+a.cnt)),(44,.z a.fr),(32,.z (1+a.cnt+b.cnt)),(44,.z (max a.fr b.fr)),(32,.z (1+a.cnt+b.cnt+c.cnt)),(44,.z (max (max a.fr b.fr) c.fr)),(300013,.fb 1 (some (Tm.n3 .re s a b c).nf))] d e f g i j|fo=>exact f6 [(32,.z (1+a.cnt)),(44,.z a.fr),(32,.z (1+a.cnt+b.cnt)),(44,.z (max a.fr b.fr)),(32,.z (1+a.cnt+b.cnt+c.cnt)),(44,.z (max (max a.fr b.fr) c.fr)),(300013,.fb 1 (some (Tm.n3 .fo s a b c).nf))] d e f g i j
def da(s:Ty)(b x:Tm)(h:1+x.cnt<=yA)(a:x.fr<=yA):A 419 [(Tm.lam s b).nd',.slice [[x.nd']]] (Tm.lam s x).nd':=f1 [18] (Ei s x h a)
def la(k:K1)(b x:Tm)(h:1+x.cnt<=yA:=by omega):A 419 [(Tm.n1 k b).nd',.slice [[x.nd']]] (Tm.n1 k x).nd':=f1 [18] (Fi k x h)
def bV(k:K2)(a b x y:Tm)(h:1+x.cnt+y.cnt<=yA:=by omega):A 419 [(Tm.n2 k a b).nd',.slice [[x.nd'],[y.nd']]] (Tm.n2 k x y).nd':=f1 [18] (sR k x y h)
def rN(k:K3)(s:Ty)(a b c x y z:Tm)(h:1+x.cnt+y.cnt+z.cnt<=yA:=by omega):A 419 [(Tm.n3 k s a b c).nd',.slice [[x.nd'],[y.nd'],[z.nd']]] (Tm.n3 k s x y z).nd':=f1 [18] (Gi k s x y z h)
def ma(f a:Tm)(h:1+f.cnt+a.cnt<=yA:=by omega):A 424 [f.nd',.slice [[a.nd']]] (Tm.n2 .app f a).nd':=f1 [17] (sR .app f a h)
def Gv(f a b:Tm)(h:1+(1+f.cnt+a.cnt)+b.cnt<=yA:=by omega):A 424 [f.nd',.slice [[a.nd'],[b.nd']]] (Tm.n2 .app (.n2 .app f a) b).nd':=
 f2 [17,17] (sR .app f a) (sR .app (.n2 .app f a) b h)
def Hv(t:Tm){n:Nat}(h:t.mx+1<=n):t.fr<=n:=Nat.le_trans (jV t) h
def fL:∀t:Tm,t.cnt<=yA->t.mx+1<=yA->A 399 [t.p] t.nd'
 |.v i,h,d=>f1 [26] (ba i d)|.lam s b,h,d=>by
  have h:1+b.cnt<=yA:=h;exact f3 [(15,.r b.nd'),(300003,.ok),(300003,.f 2 [[b.nd']]),(26,.r (Tm.lam s b).nd')] (fL b (by omega) d) (rfl:kA [[b.nd']]=kA [[b.nd']]) (Ei s b h (Hv b d))
 |.n0 k,h,d=>f1 [26] (Fv k)|.n1 k a,h,d=>by
  have h:1+a.cnt<=yA:=h;exact f3 [(15,.r a.nd'),(300003,.ok),(300003,.f 2 [[a.nd']]),(26,.r (Tm.n1 k a).nd')] (fL a (by omega) d) (rfl:kA [[a.nd']]=kA [[a.nd']]) (Fi k a h)
 |.n2 k a b,h,d=>by
  have h:1+a.cnt+b.cnt<=yA:=h;have d:max a.mx b.mx+1<=yA:=d;exact f4 [(15,.r a.nd'),(15,.r b.nd'),(300003,.ok),(300003,.ok),(300003,.f 2 [[a.nd'],[b.nd']]),(26,.r (Tm.n2 k a b).nd')] (fL a (by omega) (by omega)) (fL b (by omega) (by omega)) (rfl:kA [[a.nd'],[b.nd']]=kA [[a.nd'],[b.nd']]) (sR k a b h)
 |.n3 k s a b c,h,d=>by
  have h:1+a.cnt+b.cnt+c.cnt<=yA:=h;have d:max a.mx (max b.mx c.mx)+1<=yA:=d;exact f5 [(15,.r a.nd'),(15,.r b.nd'),(15,.r c.nd'),(300003,.ok),(300003,.ok),(300003,.ok),(300003,.f 2 [[a.nd'],[b.nd'],[c.nd']]),(26,.r (Tm.n3 k s a b c).nd')] (fL a (by omega) (by omega)) (fL b (by omega) (by omega)) (fL c (by omega) (by omega)) (rfl:kA [[a.nd'],[b.nd'],[c.nd']]=kA [[a.nd'],[b.nd'],[c.nd']]) (Gi k s a b c h)
def FJ:∀t:Tm,A 401 [t.nd'] t.p|.v i=>f1 [18] WC|.lam s b=>f2 [18,32] (aF s) (FJ b)|.n0 k=>f1 [18] WC|.n1 k b=>f2 [18,32] WC (FJ b)|.n2 k b c=>f3 [18,32,32] WC (FJ b) (FJ c)|.n3 k s b c d=>f4 [18,32,32,32] (aF s) (FJ b) (FJ c) (FJ d)
def BF(t:Tm):A 412 [t.nd'] (.bool t.red.isSome):=by
 cases t with
 |v i=>exact f0 []|lam s b=>exact f0 []|n0 k=>cases k<;>exact f0 []
 |n1 k a=>cases k with
  |succ=>exact f0 []|_=>cases a with
   |v i=>exact f0 []|lam s b=>exact f0 []|n0 l=>cases l<;>exact f0 []
   |n1 l a=>cases l<;>exact f0 []
   |n2 l a b=>cases l<;>exact f0 []
   |n3 l s a b c=>cases l<;>exact f0 []
 |n2 k f b=>cases k with
  |app=>cases f with
   |v i=>exact f0 []|lam s b=>exact f0 []|n0 l=>cases l<;>exact f0 []
   |n1 l a=>cases l<;>exact f0 []
   |n2 l a b=>cases l<;>exact f0 []
   |n3 l s a b c=>cases l<;>exact f0 []
  |_=>exact f0 []
 |n3 k s a b d=>cases k<;>cases d with
   |v i=>exact f0 []|lam s b=>exact f0 []|n0 l=>cases l<;>exact f0 []
   |n1 l a=>cases l<;>exact f0 []
   |n2 l a b=>cases l<;>exact f0 []
   |n3 l s a b c=>cases l<;>exact f0 []
def rP{t:Tm}{c z:Nat}(H:(!fA (.ofNat c) (.ofNat t.fr))=false->fB (.ofNat z) (.ofNat 0)=false->c<t.fr->A 426 [t.nd',num c,num z] (t.sh c (.ofNat z)).nd'):A 426 [t.nd',num c,num z] (t.sh c (.ofNat z)).nd':=by
 by_cases h:t.fr<=c
 ·rw[bL _ t c h];exact f1 [15] (dI (a:=c) (b:=t.fr) h)
 by_cases a:z=0
 ·subst a;rw[gE];exact f2 [15,18] (vG (a:=c) (b:=t.fr) (by omega)) (cH 0)
 grind[vG,VE]
def Iv{t:Tm}{c z:Nat}(a:z<=2*qA)(h:t.mx<=qA*qA):(t.sh c (.ofNat z)).fr<=yA:=by
 have:=jV (t.sh c (.ofNat z));have:=eH (.ofNat z) t c;have b:=vA;have:=uA;rw[b]at h a;have e:(Int.ofNat z).toNat=z:=rfl;omega
def gL(z:Nat)(o:z<=2*qA):∀(t:Tm)(c:Nat),c+t.cnt<=qA->t.mx<=qA*qA->A 426 [t.nd',num c,num z] (t.sh c (.ofNat z)).nd'
 |.v i,c,h,f=>rP λg j p=>by
  have u:=vA;have v:=uA;have f:i<=qA*qA:=f;rw[u]at f;have p:c<i+1:=p;have e:(Tm.v i).sh c (.ofNat z)=.v (i+z):=by simp only[Tm.sh,if_pos (show c<=i by omega)];rfl
  rw[e];exact f4 [15,18,35,40] g j (nA (a:=i) (b:=z)) (ba (i+z))
 |.lam s b,c,h,f=>rP λg j p=>by
  have u:=vA;have v:=uA;have h:c+(1+b.cnt)<=qA:=h;have a:=nA (a:=c) (b:=1);have m:=gL z o b (c+1) (by omega) f;have e:=ZD (.ofNat z) b (c+1);have n:=da s b (b.sh (c+1) (.ofNat z)) (by omega) (Iv o f);exact f6 [(15,.H),(18,.H),(55,.z (c+1)),(57,.r (b.sh (c+1) (.ofNat z)).nd'),(300007,.ok),(300007,.f 0 [[(b.sh (c+1) (.ofNat z)).nd']]),(63,.r (Tm.lam s (b.sh (c+1) (.ofNat z))).nd')] g j a m (rfl:kA [[(b.sh (c+1) (.ofNat z)).nd']]=kA [[(b.sh (c+1) (.ofNat z)).nd']]) n
 |.n0 k,c,h,f=>rP λg j p=>absurd p (Nat.not_lt_zero _)|.n1 k b,c,h,f=>rP λg j p=>by
  have u:=vA;have v:=uA;have h:c+(1+b.cnt)<=qA:=h;have a:=nA (a:=c) (b:=0);have m:=gL z o b c (by omega) f;have e:=ZD (.ofNat z) b c;have n:=la k b (b.sh c (.ofNat z))
  cases k with|succ=>exact f6 [(15,.H),(18,.H),(55,.z c),(57,.r (b.sh c (.ofNat z)).nd'),(300007,.ok),(300007,.f 0 [[(b.sh c (.ofNat z)).nd']]),(63,.r (Tm.n1 .succ (b.sh c (.ofNat z))).nd')] g j a m (rfl:kA [[(b.sh c (.ofNat z)).nd']]=kA [[(b.sh c (.ofNat z)).nd']]) n|fst=>exact f6 [(15,.H),(18,.H),(55,.z c),(57,.r (b.sh c (.ofNat z)).nd'),(300007,.ok),(300007,.f 0 [[(b.sh c (.ofNat z)).nd']]),(63,.r (Tm.n1 .fst (b.sh c (.ofNat z))).nd')] g j a m (rfl:kA [[(b.sh c (.ofNat z)).nd']]=kA [[(b.sh c (.ofNat z)).nd']]) n|snd=>exact f6 [(15,.H),(18,.H),(55,.z c),(57,.r (b.sh c (.ofNat z)).nd'),(300007,.ok),(300007,.f 0 [[(b.sh c (.ofNat z)).nd']]),(63,.r (Tm.n1 .snd (b.sh c (.ofNat z))).nd')] g j a m (rfl:kA [[(b.sh c (.ofNat z)).nd']]=kA [[(b.sh c (.ofNat z)).nd']]) n
 |.n2 k b d,c,h,f=>rP λg j p=>by
  have u:=vA;have v:=uA;have h:c+(1+b.cnt+d.cnt)<=qA:=h;have f:max b.mx d.mx<=qA*qA:=f;have a:=nA (a:=c) (b:=0);have m:=gL z o b c (by omega) (by omega);have l:=gL z o d c (by omega) (by omega);have e:=ZD (.ofNat z) b c;have x:=ZD (.ofNat z) d c;have n:=bV k b d (b.sh c (.ofNat z)) (d.sh c (.ofNat z))
  cases k with|app=>exact f8 [(15,.H),(18,.H),(55,.z c),(57,.r (b.sh c (.ofNat z)).nd'),(300007,.ok),(55,.z c),(57,.r (d.sh c (.ofNat z)).nd'),(300007,.ok),(300007,.f 0 [[(b.sh c (.ofNat z)).nd'],[(d.sh c (.ofNat z)).nd']]),(63,.r (Tm.n2 .app (b.sh c (.ofNat z)) (d.sh c (.ofNat z))).nd')] g j a m a l (rfl:kA [[(b.sh c (.ofNat z)).nd'],[(d.sh c (.ofNat z)).nd']]=kA [[(b.sh c (.ofNat z)).nd'],[(d.sh c (.ofNat z)).nd']]) n|cons=>exact f8 [(15,.H),(18,.H),(55,.z c),(57,.r (b.sh c (.ofNat z)).nd'),(300007,.ok),(55,.z c),(57,.r (d.sh c (.ofNat z)).nd'),(300007,.ok),(300007,.f 0 [[(b.sh c (.ofNat z)).nd'],[(d.sh c (.ofNat z)).nd']]),(63,.r (Tm.n2 .cons (b.sh c (.ofNat z)) (d.sh c (.ofNat z))).nd')] g j a m a l (rfl:kA [[(b.sh c (.ofNat z)).nd'],[(d.sh c (.ofNat z)).nd']]=kA [[(b.sh c (.ofNat z)).nd'],[(d.sh c (.ofNat z)).nd']]) n|pair=>exact f8 [(15,.H),(18,.H),(55,.z c),(57,.r (b.sh c (.ofNat z)).nd'),(300007,.ok),(55,.z c),(57,.r (d.sh c (.ofNat z)).nd'),(300007,.ok),(300007,.f 0 [[(b.sh c (.ofNat z)).nd'],[(d.sh c (.ofNat z)).nd']]),(63,.r (Tm.n2 .pair (b.sh c (.ofNat z)) (d.sh c (.ofNat z))).nd')] g j a m a l (rfl:kA [[(b.sh c (.ofNat z)).nd'],[(d.sh c (.ofNat z)).nd']]=kA [[(b.sh c (.ofNat z)).nd'],[(d.sh c (.ofNat z)).nd']]) n
 |.n3 k s b d w,c,h,f=>rP λg j p=>by
  have u:=vA;have v:=uA;have h:c+(1+b.cnt+d.cnt+w.cnt)<=qA:=h;have f:max b.mx (max d.mx w.mx)<=qA*qA:=f;have a:=nA (a:=c) (b:=0);have m:=gL z o b c (by omega) (by omega);have l:=gL z o d c (by omega) (by omega);have r:=gL z o w c (by omega) (by omega);have e:=ZD (.ofNat z) b c;have x:=ZD (.ofNat z) d c;have:=ZD (.ofNat z) w c;have n:=rN k s b d w (b.sh c (.ofNat z)) (d.sh c (.ofNat z)) (w.sh c (.ofNat z))
  cases k with|re=>exact mJ [(15,.H),(18,.H),(55,.z c),(57,.r (b.sh c (.ofNat z)).nd'),(300007,.ok),(55,.z c),(57,.r (d.sh c (.ofNat z)).nd'),(300007,.ok),(55,.z c),(57,.r (w.sh c (.ofNat z)).nd'),(300007,.ok),(300007,.f 0 [[(b.sh c (.ofNat z)).nd'],[(d.sh c (.ofNat z)).nd'],[(w.sh c (.ofNat z)).nd']]),(63,.r (Tm.n3 .re s (b.sh c (.ofNat z)) (d.sh c (.ofNat z)) (w.sh c (.ofNat z))).nd')] g j a m a l a r (rfl:kA [[(b.sh c (.ofNat z)).nd'],[(d.sh c (.ofNat z)).nd'],[(w.sh c (.ofNat z)).nd']]=kA [[(b.sh c (.ofNat z)).nd'],[(d.sh c (.ofNat z)).nd'],[(w.sh c (.ofNat z)).nd']]) n|fo=>exact mJ [(15,.H),(18,.H),(55,.z c),(57,.r (b.sh c (.ofNat z)).nd'),(300007,.ok),(55,.z c),(57,.r (d.sh c (.ofNat z)).nd'),(300007,.ok),(55,.z c),(57,.r (w.sh c (.ofNat z)).nd'),(300007,.ok),(300007,.f 0 [[(b.sh c (.ofNat z)).nd'],[(d.sh c (.ofNat z)).nd'],[(w.sh c (.ofNat z)).nd']]),(63,.r (Tm.n3 .fo s (b.sh c (.ofNat z)) (d.sh c (.ofNat z)) (w.sh c (.ofNat z))).nd')] g j a m a l a r (rfl:kA [[(b.sh c (.ofNat z)).nd'],[(d.sh c (.ofNat z)).nd'],[(w.sh c (.ofNat z)).nd']]=kA [[(b.sh c (.ofNat z)).nd'],[(d.sh c (.ofNat z)).nd'],[(w.sh c (.ofNat z)).nd']]) n
open Go.Lg
theorem lL(c:Nat){S t:Tm}(d:Nat)(h:t.cnt<=qA)(a:S.cnt<=qA):(t.put c S d).cnt<=qA+qA*qA:=by
 have:=YQ c S t d;have:=xB t (c+d);have:t.occ (c+d)*S.cnt<=qA*qA:=Nat.mul_le_mul (by omega) a;omega
def Jv{c:Nat}{S t:Tm}{d:Nat}(h:t.mx<=qA*qA)(a:S.mx<=qA*qA)(b:c+d+t.cnt<=qA:=by omega):(t.put c S d).fr<=yA:=by
 have:=jV (t.put c S d);have:=pU c S t d;have e:=vA;have:=uA;rw[e]at h a b;omega
def sP{t S:Tm}{c:Nat}(H:(!fA (.ofNat c) (.ofNat t.fr))=false->c<t.fr->A 423 [t.nd',num c,S.nd'] (t.put c S 0).nd'):A 423 [t.nd',num c,S.nd'] (t.put c S 0).nd':=by
 by_cases h:t.fr<=c
 ·rw[dL c S t 0 h];exact f1 [15] (dI (a:=c) (b:=t.fr) h)
 grind[vG]
def mL(S:Tm)(l:S.cnt<=qA)(o:S.mx<=qA*qA):∀(t:Tm)(c:Nat),c+t.cnt<=qA->t.mx<=qA*qA->A 423 [t.nd',num c,S.nd'] (t.put c S 0).nd'
 |.v i,c,h,g=>sP λj p=>by
  have r:=vA;have y:=uA;have h:c+1<=qA:=h;have g:i<=qA*qA:=g;rw[r]at g;have p:c<i+1:=p;by_cases e:i=c
  ·have u:(Tm.v i).put c S 0=S.sh 0 (.ofNat c):=by simp only[Tm.put,Nat.add_zero,if_pos e]
   rw[u];exact f3 [15,27,30] j (UU (x:=.ofNat i) (a:=c) (by simp[e])) (gL c (by omega) S 0 (by omega) o)
  have u:(Tm.v i).put c S 0=.v (i-1):=by simp only[Tm.put,Nat.add_zero,if_neg e,if_pos (show c<i by omega)]
  rw[u];exact f4 [15,27,39,44] j (VE e) (rD (a:=i)) (ba (i-1))
 |.lam s b,c,h,g=>sP λj p=>by
  have r:=vA;have y:=uA;have h:c+(1+b.cnt)<=qA:=h;have f:=nA (a:=c) (b:=1);have B:=mL S l o b (c+1) (by omega) g;have e:=lL (c+1) (S:=S) (t:=b) 0 (by omega) l;have n:=da s b (b.put (c+1) S 0) (by grind) (Jv g o);have u:(Tm.lam s b).put c S 0=.lam s (b.put (c+1) S 0):=by simp[Tm.put,pP]
  rw[u];exact f5 [(15,.H),(59,.z (c+1)),(61,.r (b.put (c+1) S 0).nd'),(300009,.ok),(300009,.f 0 [[(b.put (c+1) S 0).nd']]),(67,.r (Tm.lam s (b.put (c+1) S 0)).nd')] j f B (rfl:kA [[(b.put (c+1) S 0).nd']]=kA [[(b.put (c+1) S 0).nd']]) n
 |.n0 k,c,h,g=>sP λj p=>absurd p (Nat.not_lt_zero _)|.n1 k b,c,h,g=>sP λj p=>by
  have r:=vA;have y:=uA;have h:c+(1+b.cnt)<=qA:=h;have g:b.mx<=qA*qA:=g;have f:=nA (a:=c) (b:=0);have a:=mL S l o b c (by omega) (by omega);have v:=lL c (S:=S) (t:=b) 0 (by omega) l;simp only[r]at v;have n:=la k b (b.put c S 0)
  cases k with|succ=>exact f5 [(15,.H),(59,.z c),(61,.r (b.put c S 0).nd'),(300009,.ok),(300009,.f 0 [[(b.put c S 0).nd']]),(67,.r (Tm.n1 .succ (b.put c S 0)).nd')] j f a (rfl:kA [[(b.put c S 0).nd']]=kA [[(b.put c S 0).nd']]) n|fst=>exact f5 [(15,.H),(59,.z c),(61,.r (b.put c S 0).nd'),(300009,.ok),(300009,.f 0 [[(b.put c S 0).nd']]),(67,.r (Tm.n1 .fst (b.put c S 0)).nd')] j f a (rfl:kA [[(b.put c S 0).nd']]=kA [[(b.put c S 0).nd']]) n|snd=>exact f5 [(15,.H),(59,.z c),(61,.r (b.put c S 0).nd'),(300009,.ok),(300009,.f 0 [[(b.put c S 0).nd']]),(67,.r (Tm.n1 .snd (b.put c S 0)).nd')] j f a (rfl:kA [[(b.put c S 0).nd']]=kA [[(b.put c S 0).nd']]) n
 |.n2 k b d,c,h,g=>sP λj p=>by
  have r:=vA;have y:=uA;have h:c+(1+b.cnt+d.cnt)<=qA:=h;have g:max b.mx d.mx<=qA*qA:=g;have f:=nA (a:=c) (b:=0);have a:=mL S l o b c (by omega) (by omega);have v:=lL c (S:=S) (t:=b) 0 (by omega) l;have m:=mL S l o d c (by omega) (by omega);have z:=lL c (S:=S) (t:=d) 0 (by omega) l;simp only[r]at v z;have n:=bV k b d (b.put c S 0) (d.put c S 0)
  cases k with|app=>exact f7 [(15,.H),(59,.z c),(61,.r (b.put c S 0).nd'),(300009,.ok),(59,.z c),(61,.r (d.put c S 0).nd'),(300009,.ok),(300009,.f 0 [[(b.put c S 0).nd'],[(d.put c S 0).nd']]),(67,.r (Tm.n2 .app (b.put c S 0) (d.put c S 0)).nd')] j f a f m (rfl:kA [[(b.put c S 0).nd'],[(d.put c S 0).nd']]=kA [[(b.put c S 0).nd'],[(d.put c S 0).nd']]) n|cons=>exact f7 [(15,.H),(59,.z c),(61,.r (b.put c S 0).nd'),(300009,.ok),(59,.z c),(61,.r (d.put c S 0).nd'),(300009,.ok),(300009,.f 0 [[(b.put c S 0).nd'],[(d.put c S 0).nd']]),(67,.r (Tm.n2 .cons (b.put c S 0) (d.put c S 0)).nd')] j f a f m (rfl:kA [[(b.put c S 0).nd'],[(d.put c S 0).nd']]=kA [[(b.put c S 0).nd'],[(d.put c S 0).nd']]) n|pair=>exact f7 [(15,.H),(59,.z c),(61,.r (b.put c S 0).nd'),(300009,.ok),(59,.z c),(61,.r (d.put c S 0).nd'),(300009,.ok),(300009,.f 0 [[(b.put c S 0).nd'],[(d.put c S 0).nd']]),(67,.r (Tm.n2 .pair (b.put c S 0) (d.put c S 0)).nd')] j f a f m (rfl:kA [[(b.put c S 0).nd'],[(d.put c S 0).nd']]=kA [[(b.put c S 0).nd'],[(d.put c S 0).nd']]) n
 |.n3 k s b d w,c,h,g=>sP λj p=>by
  have r:=vA;have y:=uA;have h:c+(1+b.cnt+d.cnt+w.cnt)<=qA:=h;have g:max b.mx (max d.mx w.mx)<=qA*qA:=g;have f:=nA (a:=c) (b:=0);have a:=mL S l o b c (by omega) (by omega);have v:=lL c (S:=S) (t:=b) 0 (by omega) l;have m:=mL S l o d c (by omega) (by omega);have z:=lL c (S:=S) (t:=d) 0 (by omega) l;have x:=mL S l o w c (by omega) (by omega);have C:=lL c (S:=S) (t:=w) 0 (by omega) l;simp only[r]at v z C;have n:=rN k s b d w (b.put c S 0) (d.put c S 0) (w.put c S 0)
  cases k with|re=>exact f9 [(15,.H),(59,.z c),(61,.r (b.put c S 0).nd'),(300009,.ok),(59,.z c),(61,.r (d.put c S 0).nd'),(300009,.ok),(59,.z c),(61,.r (w.put c S 0).nd'),(300009,.ok),(300009,.f 0 [[(b.put c S 0).nd'],[(d.put c S 0).nd'],[(w.put c S 0).nd']]),(67,.r (Tm.n3 .re s (b.put c S 0) (d.put c S 0) (w.put c S 0)).nd')] j f a f m f x (rfl:kA [[(b.put c S 0).nd'],[(d.put c S 0).nd'],[(w.put c S 0).nd']]=kA [[(b.put c S 0).nd'],[(d.put c S 0).nd'],[(w.put c S 0).nd']]) n|fo=>exact f9 [(15,.H),(59,.z c),(61,.r (b.put c S 0).nd'),(300009,.ok),(59,.z c),(61,.r (d.put c S 0).nd'),(300009,.ok),(59,.z c),(61,.r (w.put c S 0).nd'),(300009,.ok),(300009,.f 0 [[(b.put c S 0).nd'],[(d.put c S 0).nd'],[(w.put c S 0).nd']]),(67,.r (Tm.n3 .fo s (b.put c S 0) (d.put c S 0) (w.put c S 0)).nd')] j f a f m f x (rfl:kA [[(b.put c S 0).nd'],[(d.put c S 0).nd'],[(w.put c S 0).nd']]=kA [[(b.put c S 0).nd'],[(d.put c S 0).nd'],[(w.put c S 0).nd']]) n
def tP{t:Tm}{c:Nat}(H:(!fA (.ofNat c) (.ofNat t.fr))=false->c<t.fr->A 422 [t.nd',num c] (num (t.occ c))):A 422 [t.nd',num c] (num (t.occ c)):=by
 by_cases h:t.fr<=c
 ·rw[EJ t c h];exact f1 [13] (dI (a:=c) (b:=t.fr) h)
 grind[vG]
def nL:∀(t:Tm)(c:Nat),c+t.cnt<=qA->A 422 [t.nd',num c] (num (t.occ c))
 |.v i,c,h=>tP λa n=>by
  by_cases e:i=c
  ·have p:(Tm.v i).occ c=1:=by simp only[Tm.occ,if_pos e]
   rw[p];exact f2 [13,24] a (UU (x:=.ofNat i) (a:=c) (by simp[e]))
  have p:(Tm.v i).occ c=0:=by simp only[Tm.occ,if_neg e]
  rw[p];exact f2 [13,24] a (VE e)
 |.lam s b,c,h=>tP λa n=>by
  have r:=vA;have o:=uA;have h:c+(1+b.cnt)<=qA:=h;have:=xB b (c+1);exact f4 [13,39,40,41] a (nA (a:=c) (b:=1)) (nL b (c+1) (by omega)) (uG (n:=b.occ (c+1)))
 |.n0 k,c,h=>tP λa n=>absurd n (Nat.not_lt_zero _)|.n1 k b,c,h=>tP λa n=>by
  have r:=vA;have o:=uA;have h:c+(1+b.cnt)<=qA:=h;have j:=nA (a:=c) (b:=0);have o:=xB b c;have f:=nL b c (by omega);have g:=uG (n:=b.occ c);cases k<;>exact f4 [13,39,40,41] a j f g
 |.n2 k b d,c,h=>tP λa n=>by
  have r:=vA;have o:=uA;have h:c+(1+b.cnt+d.cnt)<=qA:=h;have j:=nA (a:=c) (b:=0);have o:=xB b c;have f:=nL b c (by omega);have x:=xB d c;have l:=nL d c (by omega);have g:=uG (n:=b.occ c);have m:=nA (a:=b.occ c) (b:=d.occ c);cases k<;>exact f7 [13,39,40,41,39,40,41] a j f g j l m
 |.n3 k s b d w,c,h=>tP λa n=>by
  have r:=vA;have o:=uA;have h:c+(1+b.cnt+d.cnt+w.cnt)<=qA:=h;have j:=nA (a:=c) (b:=0);have o:=xB b c;have f:=nL b c (by omega);have x:=xB d c;have l:=nL d c (by omega);have:=xB w c;have u:=nL w c (by omega);have g:=uG (n:=b.occ c);have m:=nA (a:=b.occ c) (b:=d.occ c);have v:=nA (a:=b.occ c+d.occ c) (b:=w.occ c);cases k<;>exact mJ [13,39,40,41,39,40,41,39,40,41] a j f g j l m j u v
def na:∀{t r:Tm},t.red=some r->t.mx<=qA*qA->t.cnt<=qA->A 418 [t.nd'] r.nd':=by
 have:=vA;have:=uA;refine@sJ (λt r=>t.mx<=qA*qA->t.cnt<=qA->A 418 [t.nd'] r.nd') ?_ ?_ ?_ ?_ ?_ ?_ ?_
 ·intro a b _ _;exact f0 []
 ·intro a b _ _;exact f0 []
 ·intro s b a h c;have h:max b.mx a.mx<=qA*qA:=h;have c:1+(1+b.cnt)+a.cnt<=qA:=c;exact f1 [30] (mL a (by omega) (by omega) b 0 (by omega) (by omega))
 ·intro s b f _ _;exact f0 []
 ·intro s b f n h c;have c:1+b.cnt+f.cnt+(1+n.cnt)<=qA:=c;have d:=rN .re s b f (.n1 .succ n) b f n;have e:=ma f n;have g:=ma (.n2 .app f n) (.n3 .re s b f n) (by grind[Tm.cnt]);exact f3 [98,104,107] d e g
 ·intro s b f _ _;exact f0 []
 intro s b f x l h c;have c:1+b.cnt+f.cnt+(1+x.cnt+l.cnt)<=qA:=c;have d:=rN .fo s b f (.n2 .cons x l) b f l;have e:=Gv f x l;have g:=ma (.n2 .app (.n2 .app f x) l) (.n3 .fo s b f l) (by grind[Tm.cnt]);exact f3 [98,104,107] d e g
def sN{a b c:Nat}(h:a*b<=yA)(e:a*b=c):xA (Int.ofNat a*.ofNat b)=true/\Int.ofNat a*.ofNat b=.ofNat c:=⟨lB (n:=a*b) h,by rw[<-e];rfl⟩
def CF{a b c:Nat}(h:a+b<=yA:=by omega)(e:a+b=c:=by omega):xA (Int.ofNat a+.ofNat b)=true/\Int.ofNat a+.ofNat b=.ofNat c:=by rw[<-e];exact nA h
def Kv:∀{t r:Tm},t.red=some r->t.mx<=qA*qA->t.cnt<=qA->A 417 [t.nd'] (num r.cnt):=by
 have p:=vA;have:=uA;refine@sJ (λt r=>t.mx<=qA*qA->t.cnt<=qA->A 417 [t.nd'] (num r.cnt)) ?_ ?_ ?_ ?_ ?_ ?_ ?_
 ·intro a b h c;exact f1 [183] (na (t:=.n1 .fst (.n2 .pair a b)) rfl h c)
 ·intro a b h c;exact f1 [183] (na (t:=.n1 .snd (.n2 .pair a b)) rfl h c)
 ·intro s b a h c;have c:1+(1+b.cnt)+a.cnt<=qA:=c;have u:=YQ 0 a b 0;have:=xB b 0;have v:=fE a;simp only[Nat.add_zero]at u;have w:b.occ 0*(a.cnt-1)<=qA*qA:=Nat.mul_le_mul (by omega) (by omega);have:b.occ 0*(a.cnt-1)+b.occ 0=b.occ 0*a.cnt:=by
   obtain⟨k,y⟩:∃k,a.cnt=k+1:=⟨a.cnt-1,by omega⟩;rw[y,Nat.add_sub_cancel,Nat.mul_succ]
  rw[p]at w;exact f4 [27,37,38,39] (nL b 0 (by omega)) (rD (a:=a.cnt) v) (sN (a:=b.occ 0) (b:=a.cnt-1) (by omega) rfl) (CF (a:=b.cnt) (b:=b.occ 0*(a.cnt-1)) (c:=(b.put 0 a 0).cnt))
 ·intro s b f _ _;exact f0 []
 ·intro s b f n h c;have c:1+b.cnt+f.cnt+(1+n.cnt)<=qA:=c;have d:=CF (a:=2) (b:=f.cnt) (by omega) rfl;have e:=sN (a:=2) (b:=n.cnt) (by omega) rfl;have g:=CF (a:=2+f.cnt) (b:=2*n.cnt) (by omega) rfl;have i:=CF (a:=2+f.cnt+2*n.cnt) (b:=1) (by omega) rfl;have j:=CF (a:=2+f.cnt+2*n.cnt+1) (b:=b.cnt) (by omega) rfl;have m:=CF (a:=2+f.cnt+2*n.cnt+1+b.cnt) (b:=f.cnt) (c:=(Tm.n2 .app (.n2 .app f n) (.n3 .re s b f n)).cnt) (by omega) (by grind[Tm.cnt]);exact f6 [61,76,77,78,88,98] d e g i j m
 ·intro s b f _ _;exact f0 []
 intro s b f x l h c;have c:1+b.cnt+f.cnt+(1+x.cnt+l.cnt)<=qA:=c;have d:=CF (a:=3) (b:=f.cnt) (by omega) rfl;have e:=CF (a:=3+f.cnt) (b:=x.cnt) (by omega) rfl;have o:=sN (a:=2) (b:=l.cnt) (by omega) rfl;have g:=CF (a:=3+f.cnt+x.cnt) (b:=2*l.cnt) (by omega) rfl;have i:=CF (a:=3+f.cnt+x.cnt+2*l.cnt) (b:=1) (by omega) rfl;have j:=CF (a:=3+f.cnt+x.cnt+2*l.cnt+1) (b:=b.cnt) (by omega) rfl;have m:=CF (a:=3+f.cnt+x.cnt+2*l.cnt+1+b.cnt) (b:=f.cnt) (c:=(Tm.n2 .app (.n2 .app (.n2 .app f x) l) (.n3 .fo s b f l)).cnt) (by omega) (by grind[Tm.cnt]);exact f7 [130,140,150,151,152,162,172] d e o g i j m
end Go.Proofs.YtjobiknipefjdaaGreatDoor
