/- Contracts of functions; no conditions. -/
import Derived.Test.YtjobiknipefjdaaGreatDoorSolC4
import Derived.Test.YtjobiknipefjdaaGreatDoorSolC2
import Derived.WalkKit
import Derived.Laws.Bits64b
import Derived.Lib.TrailingZeros
set_option linter.all false
set_option maxHeartbeats 4000000
namespace Go.Proofs.YtjobiknipefjdaaGreatDoor
open Go.Lg
set_option maxRecDepth 100000
abbrev W2(y x:PV):Prop:=some ({x:=.pv y,ch:=[],nw:=[],nx:=0}:GB)=some {x:=.pv x,ch:=[],nw:=[],nx:=0}
theorem W2.of{y x:PV}(h:y=x):W2 y x:=by rw[h]
section
variable{f:Nat}{args:List PV}{x:PV}(tp:Di)(ko:Kp)
def tN{B:Prop}(h:B)(e:B=BY ev Tryz.prog 100 6 f args tp ko x:=by kernel_rfl):A f args x:=Zq evOK (Eq.mp e h)
variable(y z:PV){b:Bool}(hb:b=true->y=x){H1 H2 H3 H4 H5 H6 H7 H8:Prop}(h1:H1)(h2:H2)(h3:H3)(h4:H4)(h5:H5)(h6:H6)(h7:H7)(h8:H8)(hz:z=x)
def w0:=@tN f args x tp ko _ (⟨λh=>.of (hb h),.of hz⟩:(b=true->W2 y x)/\W2 z x)
def w1:=@tN f args x tp ko _ (⟨λh=>.of (hb h),h1,.of hz⟩:(b=true->W2 y x)/\H1/\W2 z x)
def w2:=@tN f args x tp ko _ (⟨λh=>.of (hb h),h1,h2,.of hz⟩:(b=true->W2 y x)/\H1/\H2/\W2 z x)
def w3:=@tN f args x tp ko _ (⟨λh=>.of (hb h),h1,h2,h3,.of hz⟩:(b=true->W2 y x)/\H1/\H2/\H3/\W2 z x)
def w4:=@tN f args x tp ko _ (⟨λh=>.of (hb h),h1,h2,h3,h4,.of hz⟩:(b=true->W2 y x)/\H1/\H2/\H3/\H4/\W2 z x)
def w5:=@tN f args x tp ko _ (⟨λh=>.of (hb h),h1,h2,h3,h4,h5,.of hz⟩:(b=true->W2 y x)/\H1/\H2/\H3/\H4/\H5/\W2 z x)
def w6:=@tN f args x tp ko _ (⟨λh=>.of (hb h),h1,h2,h3,h4,h5,h6,.of hz⟩:(b=true->W2 y x)/\H1/\H2/\H3/\H4/\H5/\H6/\W2 z x)
end
def Lv:∀{t r:Tm},t.red=some r->t.cnt<=qA->r.cnt<=4*qA+qA*qA:=by
 refine@sJ (λt r=>t.cnt<=qA->r.cnt<=4*qA+qA*qA) ?_ ?_ ?_ ?_ ?_ ?_ ?_
 ·grind[Tm.cnt]
 ·grind[Tm.cnt]
 ·grind[Tm.cnt,lL]
 ·grind[Tm.cnt]
 ·grind[Tm.cnt]
 ·grind[Tm.cnt]
 grind[Tm.cnt]
def SR.q:SR->PV|.er=>.tuple [.nil,num 4]|.no=>.tuple [.nil,num 0]|.ok x=>.tuple [x.nd',num 0]
def or_nn{f:Tm->Tm}{r q:SR}:SR.or f r q=.no↔q=.no/\r=.no:=by
 cases q<;>simp[SR.or]
def pa{z:Int}{t r:Tm}:rt z t r≠.no:=by
 unfold rt;cases fA z ((r.cnt:Int)-t.cnt)<;>simp
def DF(z:Int):∀t:Tm,t.nf=true↔t.st z=.no
 |.v _=>⟨λ_=>rfl,λ_=>rfl⟩|.n0 _=>⟨λ_=>rfl,λ_=>rfl⟩|.lam s b=>by
  show b.nf=true↔SR.or (.lam s) .no (b.st z)=.no;rw[or_nn,DF z b];simp
 |.n1 k a=>by
  cases d:(Tm.n1 k a).red with|some r=>simp[Tm.nf,Tm.st,d,pa]|none=>simp[Tm.nf,Tm.st,d,or_nn,DF z a]
 |.n2 k a b=>by
  cases d:(Tm.n2 k a b).red with|some r=>simp[Tm.nf,Tm.st,d,pa]|none=>simp[Tm.nf,Tm.st,d,or_nn,DF z a,DF z b]
 |.n3 k s a b c=>by
  cases d:(Tm.n3 k s a b c).red with|some r=>simp[Tm.nf,Tm.st,d,pa]|none=>simp[Tm.nf,Tm.st,d,or_nn,DF z a,DF z b,DF z c]
def ZA{z:Int}{t:Tm}{r:SR}(h:t.st z=r):t.nf=true->PV.tuple [.nil,num 0]=r.q:=λe=>by rw[<-h,(DF z t).1 e];rfl
def Mv(z:Int)(t:Tm):∀{x:Tm}{n:Nat},t.st z=.ok x->t.sc n->t.shp=true->x.sc n/\x.shp=true:=by
 have root:∀{t r x:Tm}{n:Nat},t.red=some r->rt z t r=.ok x->t.sc n->t.shp=true->x.sc n/\x.shp=true:=by
  grind[rt,fA,Bv]
 induction t with
 |v i=>intro x n h;cases h
 |n0 k=>intro x n h;cases h
 |lam s b A=>
  intro x n h d o;rcases qC h with ⟨y,e,rfl⟩|⟨_,h⟩
  ·obtain⟨g,j⟩:=EA o;obtain⟨l,f⟩:=A e d j;exact⟨l,by show(_&&_)=true;rw[g,f];rfl⟩
  cases h
 |n1 k a A=>
  intro x n h d o
  cases m:(Tm.n1 k a).red with
  |some r=>rw[UC m]at h;grind|none=>
   simp only[Tm.st,m]at h;rcases qC h with ⟨y,e,rfl⟩|⟨_,h⟩
   ·exact(A (x:=y) e d o:y.sc n/\y.shp=true)
   cases h
 |n2 k a b p u=>
  intro x n h d o
  cases m:(Tm.n2 k a b).red with
  |some r=>rw[UC m]at h;grind|none=>
   simp only[Tm.st,m]at h;obtain⟨g,j⟩:=EA o;rcases qC h with ⟨y,e,rfl⟩|⟨_,h⟩
   ·obtain⟨l,f⟩:=p e d.1 g;exact⟨⟨l,d.2⟩,by show(_&&_)=true;rw[f,j];rfl⟩
   rcases qC h with ⟨y,e,rfl⟩|⟨_,h⟩
   ·obtain⟨l,f⟩:=u e d.2 j;exact⟨⟨d.1,l⟩,by show(_&&_)=true;rw[g,f];rfl⟩
   cases h
 |n3 k s a b c p u B=>
  intro x n h d o
  cases m:(Tm.n3 k s a b c).red with
  |some r=>rw[UC m]at h;grind|none=>
   simp only[Tm.st,m]at h;obtain⟨C,g⟩:=EA o;obtain⟨g,j⟩:=EA g;obtain⟨j,l⟩:=EA j;rcases qC h with ⟨y,e,rfl⟩|⟨_,h⟩
   ·obtain⟨f,w⟩:=p e d.1 g;exact⟨⟨f,d.2⟩,by show(_&&(_&&(_&&_)))=true;rw[C,w,j,l];rfl⟩
   rcases qC h with ⟨y,e,rfl⟩|⟨_,h⟩
   ·obtain⟨f,w⟩:=u e d.2.1 j;exact⟨⟨d.1,f,d.2.2⟩,by show(_&&(_&&(_&&_)))=true;rw[C,g,w,l];rfl⟩
   rcases qC h with ⟨y,e,rfl⟩|⟨_,h⟩
   ·obtain⟨f,w⟩:=B e d.2.2 l;exact⟨⟨d.1,d.2.1,f⟩,by show(_&&(_&&(_&&_)))=true;rw[C,g,j,w];rfl⟩
   cases h
theorem sa{t r:Tm}(h:t.red=some r)(z:Int)(f:t.mx<=qA*qA)(b:t.cnt<=qA):A 410 [t.nd',.int z] (t.st z).q:=by
 have j:=vA;have:=uA;have d:=BF t;rw[h]at d;have g:=Kv h f b;have k:=na h f b;have c:=Lv h b;have i:=nP (i:=r.cnt) (d:=t.cnt) (by rw[j]at c;omega);cases e:fA z (Int.ofNat r.cnt-.ofNat t.cnt)
 ·have a:t.st z=.ok r:=by rw[UC h,rt];rw[show fA z ((r.cnt:Int)-t.cnt)=false from e];rfl
  rw[a];exact w5 [(16,.T),(18,.N r.cnt),(23,.y (Int.ofNat r.cnt-.ofNat t.cnt)),(25,.H),(27,.r r.nd')] (kp [4,5]) (.tuple [.nil,num 0]) (.tuple [r.nd',num 0]) (ZA a) d g i e k rfl
 have a:t.st z=.er:=by rw[UC h,rt];rw[show fA z ((r.cnt:Int)-t.cnt)=true from e];rfl
 rw[a];exact w4 [(16,.T),(18,.N r.cnt),(23,.y (Int.ofNat r.cnt-.ofNat t.cnt)),(25,.G)] (kp [4,5]) (.tuple [.nil,num 0]) (.tuple [.nil,num 4]) (ZA a) d g i e rfl
def pL(z:Int)(y:z<=qA):∀(t:Tm),t.mx<=qA*qA->t.cnt<=qA->A 410 [t.nd',.int z] (t.st z).q
 |.v i,h,n=>w2 [(16,.F),(99999,.s)] (kp [4,5]) (.tuple [.nil,num 0]) (.tuple [.nil,num 0]) (b:=true) (λ_=>rfl) (BF (.v i)) (rfl:true=true) rfl|.n0 k,h,n=>by have g:=BF (.n0 k);cases k<;>exact w2 [(16,.F),(99999,.s)] (kp [4,5]) (.tuple [.nil,num 0]) (.tuple [.nil,num 0]) (b:=true) (λ_=>rfl) g (rfl:true=true) rfl
 |.lam s b,h,n=>by
  have C:=vA;have D:=uA;have h:b.mx<=qA*qA:=h;have n:1+b.cnt<=qA:=n;have e:=BF (Tm.lam s b);have c:=pL z y b (by omega) (by omega)
  cases f:b.st z with
  |er=>
   rw[f]at c;have a:(Tm.lam s b).st z=.er:=by grind[Tm.st,SR.or]
   rw[a];exact w2 [(16,.F),(41,.r SR.er.q)] (kp [4,5]) (.tuple [.nil,num 0]) (.tuple [.nil,num 4]) (ZA a) e c rfl
  |ok x=>
   rw[f]at c;have a:(Tm.lam s b).st z=.ok (Tm.lam s x):=by grind[Tm.st,SR.or]
   rw[a];obtain⟨o,p,_⟩:=aJ z b f;have j:=da s b x (by omega) (by have:=jV x;rw[C]at h;omega);exact w4 [(16,.F),(41,.r (SR.ok x).q),(300015,.f 0 [[x.nd']]),(60,.r (Tm.lam s x).nd')] (kp [4,5]) (.tuple [.nil,num 0]) (.tuple [(Tm.lam s x).nd',num 0]) (ZA a) e c (rfl:kA [[x.nd']]=kA [[x.nd']]) j rfl
  |no=>
  rw[f]at c;have a:(Tm.lam s b).st z=.no:=by grind[Tm.st,SR.or]
  have u:(Tm.lam s b).nf=true:=(DF z _).2 a;rw[a];exact w3 [(16,.F),(41,.r SR.no.q),(99999,.s)] (kp [4,5]) (.tuple [.nil,num 0]) (.tuple [.nil,num 0]) (ZA a) e c u rfl
 |.n1 k b,h,n=>by
  have C:=vA;have D:=uA;have h:b.mx<=qA*qA:=h;have n:1+b.cnt<=qA:=n
  cases m:(Tm.n1 k b).red with|some r=>grind[sa]|none=>
  have e:=BF (Tm.n1 k b);rw[m]at e;have c:=pL z y b (by omega) (by omega)
  cases f:b.st z with
  |er=>
   rw[f]at c;have a:(Tm.n1 k b).st z=.er:=by grind[Tm.st,SR.or]
   rw[a]
   cases k with|succ=>exact w2 [(16,.F),(41,.r SR.er.q)] (kp [4,5]) (.tuple [.nil,num 0]) (.tuple [.nil,num 4]) (ZA a) e c rfl|fst=>exact w2 [(16,.F),(41,.r SR.er.q)] (kp [4,5]) (.tuple [.nil,num 0]) (.tuple [.nil,num 4]) (ZA a) e c rfl|snd=>exact w2 [(16,.F),(41,.r SR.er.q)] (kp [4,5]) (.tuple [.nil,num 0]) (.tuple [.nil,num 4]) (ZA a) e c rfl
  |ok x=>
   rw[f]at c;have a:(Tm.n1 k b).st z=.ok (Tm.n1 k x):=by grind[Tm.st,SR.or]
   rw[a];obtain⟨o,p,_⟩:=aJ z b f;have j:=la k b x
   cases k with|succ=>exact w4 [(16,.F),(41,.r (SR.ok x).q),(300015,.f 0 [[x.nd']]),(60,.r (Tm.n1 .succ x).nd')] (kp [4,5]) (.tuple [.nil,num 0]) (.tuple [(Tm.n1 .succ x).nd',num 0]) (ZA a) e c (rfl:kA [[x.nd']]=kA [[x.nd']]) j rfl|fst=>exact w4 [(16,.F),(41,.r (SR.ok x).q),(300015,.f 0 [[x.nd']]),(60,.r (Tm.n1 .fst x).nd')] (kp [4,5]) (.tuple [.nil,num 0]) (.tuple [(Tm.n1 .fst x).nd',num 0]) (ZA a) e c (rfl:kA [[x.nd']]=kA [[x.nd']]) j rfl|snd=>exact w4 [(16,.F),(41,.r (SR.ok x).q),(300015,.f 0 [[x.nd']]),(60,.r (Tm.n1 .snd x).nd')] (kp [4,5]) (.tuple [.nil,num 0]) (.tuple [(Tm.n1 .snd x).nd',num 0]) (ZA a) e c (rfl:kA [[x.nd']]=kA [[x.nd']]) j rfl
  |no=>
  rw[f]at c;have a:(Tm.n1 k b).st z=.no:=by grind[Tm.st,SR.or]
  have u:(Tm.n1 k b).nf=true:=(DF z _).2 a;rw[a]
  cases k with|succ=>exact w3 [(16,.F),(41,.r SR.no.q),(99999,.s)] (kp [4,5]) (.tuple [.nil,num 0]) (.tuple [.nil,num 0]) (ZA a) e c u rfl|fst=>exact w3 [(16,.F),(41,.r SR.no.q),(99999,.s)] (kp [4,5]) (.tuple [.nil,num 0]) (.tuple [.nil,num 0]) (ZA a) e c u rfl|snd=>exact w3 [(16,.F),(41,.r SR.no.q),(99999,.s)] (kp [4,5]) (.tuple [.nil,num 0]) (.tuple [.nil,num 0]) (ZA a) e c u rfl
 |.n2 k b d,h,n=>by
  have C:=vA;have D:=uA;have h:max b.mx d.mx<=qA*qA:=h;have n:1+b.cnt+d.cnt<=qA:=n
  cases m:(Tm.n2 k b d).red with|some r=>grind[sa]|none=>
  have e:=BF (Tm.n2 k b d);rw[m]at e;have c:=pL z y b (by omega) (by omega)
  cases f:b.st z with
  |er=>
   rw[f]at c;have a:(Tm.n2 k b d).st z=.er:=by grind[Tm.st,SR.or]
   rw[a]
   cases k with|app=>exact w2 [(16,.F),(41,.r SR.er.q)] (kp [4,5]) (.tuple [.nil,num 0]) (.tuple [.nil,num 4]) (ZA a) e c rfl|cons=>exact w2 [(16,.F),(41,.r SR.er.q)] (kp [4,5]) (.tuple [.nil,num 0]) (.tuple [.nil,num 4]) (ZA a) e c rfl|pair=>exact w2 [(16,.F),(41,.r SR.er.q)] (kp [4,5]) (.tuple [.nil,num 0]) (.tuple [.nil,num 4]) (ZA a) e c rfl
  |ok x=>
   rw[f]at c;have a:(Tm.n2 k b d).st z=.ok (Tm.n2 k x d):=by grind[Tm.st,SR.or]
   rw[a];obtain⟨o,p,_⟩:=aJ z b f;have j:=bV k b d x d
   cases k with|app=>exact w4 [(16,.F),(41,.r (SR.ok x).q),(300015,.f 0 [[x.nd'],[d.nd']]),(60,.r (Tm.n2 .app x d).nd')] (kp [4,5]) (.tuple [.nil,num 0]) (.tuple [(Tm.n2 .app x d).nd',num 0]) (ZA a) e c (rfl:kA [[x.nd'],[d.nd']]=kA [[x.nd'],[d.nd']]) j rfl|cons=>exact w4 [(16,.F),(41,.r (SR.ok x).q),(300015,.f 0 [[x.nd'],[d.nd']]),(60,.r (Tm.n2 .cons x d).nd')] (kp [4,5]) (.tuple [.nil,num 0]) (.tuple [(Tm.n2 .cons x d).nd',num 0]) (ZA a) e c (rfl:kA [[x.nd'],[d.nd']]=kA [[x.nd'],[d.nd']]) j rfl|pair=>exact w4 [(16,.F),(41,.r (SR.ok x).q),(300015,.f 0 [[x.nd'],[d.nd']]),(60,.r (Tm.n2 .pair x d).nd')] (kp [4,5]) (.tuple [.nil,num 0]) (.tuple [(Tm.n2 .pair x d).nd',num 0]) (ZA a) e c (rfl:kA [[x.nd'],[d.nd']]=kA [[x.nd'],[d.nd']]) j rfl
  |no=>
  rw[f]at c;have gd:=pL z y d (by omega) (by omega)
  cases l:d.st z with
  |er=>
   rw[l]at gd;have a:(Tm.n2 k b d).st z=.er:=by simp only[Tm.st,m,f,l,SR.or]
   rw[a]
   cases k with|app=>exact w3 [(16,.F),(41,.r SR.no.q),(41,.r SR.er.q)] (kp [4,5]) (.tuple [.nil,num 0]) (.tuple [.nil,num 4]) (ZA a) e c gd rfl|cons=>exact w3 [(16,.F),(41,.r SR.no.q),(41,.r SR.er.q)] (kp [4,5]) (.tuple [.nil,num 0]) (.tuple [.nil,num 4]) (ZA a) e c gd rfl|pair=>exact w3 [(16,.F),(41,.r SR.no.q),(41,.r SR.er.q)] (kp [4,5]) (.tuple [.nil,num 0]) (.tuple [.nil,num 4]) (ZA a) e c gd rfl
  |ok x=>
   rw[l]at gd;have a:(Tm.n2 k b d).st z=.ok (Tm.n2 k b x):=by simp only[Tm.st,m,f,l,SR.or]
   rw[a];obtain⟨o,p,_⟩:=aJ z d l;have j:=bV k b d b x
   cases k with|app=>exact w5 [(16,.F),(41,.r SR.no.q),(41,.r (SR.ok x).q),(300015,.f 0 [[b.nd'],[x.nd']]),(60,.r (Tm.n2 .app b x).nd')] (kp [4,5]) (.tuple [.nil,num 0]) (.tuple [(Tm.n2 .app b x).nd',num 0]) (ZA a) e c gd (rfl:kA [[b.nd'],[x.nd']]=kA [[b.nd'],[x.nd']]) j rfl|cons=>exact w5 [(16,.F),(41,.r SR.no.q),(41,.r (SR.ok x).q),(300015,.f 0 [[b.nd'],[x.nd']]),(60,.r (Tm.n2 .cons b x).nd')] (kp [4,5]) (.tuple [.nil,num 0]) (.tuple [(Tm.n2 .cons b x).nd',num 0]) (ZA a) e c gd (rfl:kA [[b.nd'],[x.nd']]=kA [[b.nd'],[x.nd']]) j rfl|pair=>exact w5 [(16,.F),(41,.r SR.no.q),(41,.r (SR.ok x).q),(300015,.f 0 [[b.nd'],[x.nd']]),(60,.r (Tm.n2 .pair b x).nd')] (kp [4,5]) (.tuple [.nil,num 0]) (.tuple [(Tm.n2 .pair b x).nd',num 0]) (ZA a) e c gd (rfl:kA [[b.nd'],[x.nd']]=kA [[b.nd'],[x.nd']]) j rfl
  |no=>
  rw[l]at gd;have a:(Tm.n2 k b d).st z=.no:=by simp only[Tm.st,m,f,l,SR.or]
  have u:(Tm.n2 k b d).nf=true:=(DF z _).2 a;rw[a]
  cases k with|app=>exact w4 [(16,.F),(41,.r SR.no.q),(41,.r SR.no.q),(99999,.s)] (kp [4,5]) (.tuple [.nil,num 0]) (.tuple [.nil,num 0]) (ZA a) e c gd u rfl|cons=>exact w4 [(16,.F),(41,.r SR.no.q),(41,.r SR.no.q),(99999,.s)] (kp [4,5]) (.tuple [.nil,num 0]) (.tuple [.nil,num 0]) (ZA a) e c gd u rfl|pair=>exact w4 [(16,.F),(41,.r SR.no.q),(41,.r SR.no.q),(99999,.s)] (kp [4,5]) (.tuple [.nil,num 0]) (.tuple [.nil,num 0]) (ZA a) e c gd u rfl
 |.n3 k s b d w,h,n=>by
  have C:=vA;have D:=uA;have h:max b.mx (max d.mx w.mx)<=qA*qA:=h;have n:1+b.cnt+d.cnt+w.cnt<=qA:=n
  cases m:(Tm.n3 k s b d w).red with|some r=>exact sa m z h n|none=>
  have e:=BF (Tm.n3 k s b d w);rw[m]at e;have c:=pL z y b (by omega) (by omega)
  cases f:b.st z with
  |er=>
   rw[f]at c;have a:(Tm.n3 k s b d w).st z=.er:=by simp only[Tm.st,m,f,SR.or]
   rw[a]
   cases k with|re=>exact w2 [(16,.F),(41,.r SR.er.q)] (kp [4,5]) (.tuple [.nil,num 0]) (.tuple [.nil,num 4]) (ZA a) e c rfl|fo=>exact w2 [(16,.F),(41,.r SR.er.q)] (kp [4,5]) (.tuple [.nil,num 0]) (.tuple [.nil,num 4]) (ZA a) e c rfl
  |ok x=>
   rw[f]at c;have a:(Tm.n3 k s b d w).st z=.ok (Tm.n3 k s x d w):=by simp only[Tm.st,m,f,SR.or]
   rw[a];obtain⟨o,p,_⟩:=aJ z b f;have j:=rN k s b d w x d w
   cases k with|re=>exact w4 [(16,.F),(41,.r (SR.ok x).q),(300015,.f 0 [[x.nd'],[d.nd'],[w.nd']]),(60,.r (Tm.n3 .re s x d w).nd')] (kp [4,5]) (.tuple [.nil,num 0]) (.tuple [(Tm.n3 .re s x d w).nd',num 0]) (ZA a) e c (rfl:kA [[x.nd'],[d.nd'],[w.nd']]=kA [[x.nd'],[d.nd'],[w.nd']]) j rfl|fo=>exact w4 [(16,.F),(41,.r (SR.ok x).q),(300015,.f 0 [[x.nd'],[d.nd'],[w.nd']]),(60,.r (Tm.n3 .fo s x d w).nd')] (kp [4,5]) (.tuple [.nil,num 0]) (.tuple [(Tm.n3 .fo s x d w).nd',num 0]) (ZA a) e c (rfl:kA [[x.nd'],[d.nd'],[w.nd']]=kA [[x.nd'],[d.nd'],[w.nd']]) j rfl
  |no=>
  rw[f]at c;have gd:=pL z y d (by omega) (by omega)
  cases l:d.st z with
  |er=>
   rw[l]at gd;have a:(Tm.n3 k s b d w).st z=.er:=by simp only[Tm.st,m,f,l,SR.or]
   rw[a]
   cases k with|re=>exact w3 [(16,.F),(41,.r SR.no.q),(41,.r SR.er.q)] (kp [4,5]) (.tuple [.nil,num 0]) (.tuple [.nil,num 4]) (ZA a) e c gd rfl|fo=>exact w3 [(16,.F),(41,.r SR.no.q),(41,.r SR.er.q)] (kp [4,5]) (.tuple [.nil,num 0]) (.tuple [.nil,num 4]) (ZA a) e c gd rfl
  |ok x=>
   rw[l]at gd;have a:(Tm.n3 k s b d w).st z=.ok (Tm.n3 k s b x w):=by simp only[Tm.st,m,f,l,SR.or]
   rw[a];obtain⟨o,p,_⟩:=aJ z d l;have j:=rN k s b d w b x w
   cases k with|re=>exact w5 [(16,.F),(41,.r SR.no.q),(41,.r (SR.ok x).q),(300015,.f 0 [[b.nd'],[x.nd'],[w.nd']]),(60,.r (Tm.n3 .re s b x w).nd')] (kp [4,5]) (.tuple [.nil,num 0]) (.tuple [(Tm.n3 .re s b x w).nd',num 0]) (ZA a) e c gd (rfl:kA [[b.nd'],[x.nd'],[w.nd']]=kA [[b.nd'],[x.nd'],[w.nd']]) j rfl|fo=>exact w5 [(16,.F),(41,.r SR.no.q),(41,.r (SR.ok x).q),(300015,.f 0 [[b.nd'],[x.nd'],[w.nd']]),(60,.r (Tm.n3 .fo s b x w).nd')] (kp [4,5]) (.tuple [.nil,num 0]) (.tuple [(Tm.n3 .fo s b x w).nd',num 0]) (ZA a) e c gd (rfl:kA [[b.nd'],[x.nd'],[w.nd']]=kA [[b.nd'],[x.nd'],[w.nd']]) j rfl
  |no=>
  rw[l]at gd;have v:=pL z y w (by omega) (by omega)
  cases B:w.st z with
  |er=>
   rw[B]at v;have a:(Tm.n3 k s b d w).st z=.er:=by simp only[Tm.st,m,f,l,B,SR.or]
   rw[a]
   cases k with|re=>exact w4 [(16,.F),(41,.r SR.no.q),(41,.r SR.no.q),(41,.r SR.er.q)] (kp [4,5]) (.tuple [.nil,num 0]) (.tuple [.nil,num 4]) (ZA a) e c gd v rfl|fo=>exact w4 [(16,.F),(41,.r SR.no.q),(41,.r SR.no.q),(41,.r SR.er.q)] (kp [4,5]) (.tuple [.nil,num 0]) (.tuple [.nil,num 4]) (ZA a) e c gd v rfl
  |ok x=>
   rw[B]at v;have a:(Tm.n3 k s b d w).st z=.ok (Tm.n3 k s b d x):=by simp only[Tm.st,m,f,l,B,SR.or]
   rw[a];obtain⟨o,p,_⟩:=aJ z w B;have j:=rN k s b d w b d x
   cases k with|re=>exact w6 [(16,.F),(41,.r SR.no.q),(41,.r SR.no.q),(41,.r (SR.ok x).q),(300015,.f 0 [[b.nd'],[d.nd'],[x.nd']]),(60,.r (Tm.n3 .re s b d x).nd')] (kp [4,5]) (.tuple [.nil,num 0]) (.tuple [(Tm.n3 .re s b d x).nd',num 0]) (ZA a) e c gd v (rfl:kA [[b.nd'],[d.nd'],[x.nd']]=kA [[b.nd'],[d.nd'],[x.nd']]) j rfl|fo=>exact w6 [(16,.F),(41,.r SR.no.q),(41,.r SR.no.q),(41,.r (SR.ok x).q),(300015,.f 0 [[b.nd'],[d.nd'],[x.nd']]),(60,.r (Tm.n3 .fo s b d x).nd')] (kp [4,5]) (.tuple [.nil,num 0]) (.tuple [(Tm.n3 .fo s b d x).nd',num 0]) (ZA a) e c gd v (rfl:kA [[b.nd'],[d.nd'],[x.nd']]=kA [[b.nd'],[d.nd'],[x.nd']]) j rfl
  |no=>
  rw[B]at v;have a:(Tm.n3 k s b d w).st z=.no:=by simp only[Tm.st,m,f,l,B,SR.or]
  have u:(Tm.n3 k s b d w).nf=true:=(DF z _).2 a;rw[a]
  cases k with|re=>exact w5 [(16,.F),(41,.r SR.no.q),(41,.r SR.no.q),(41,.r SR.no.q),(99999,.s)] (kp [4,5]) (.tuple [.nil,num 0]) (.tuple [.nil,num 0]) (ZA a) e c gd v u rfl|fo=>exact w5 [(16,.F),(41,.r SR.no.q),(41,.r SR.no.q),(41,.r SR.no.q),(99999,.s)] (kp [4,5]) (.tuple [.nil,num 0]) (.tuple [.nil,num 0]) (ZA a) e c gd v u rfl
def ta{t r:Tm}(h:t.red=some r)(a:t.nf=false):A 402 [t.nd'] (.bool t.nf):=by
 have g:=BF t;rw[h]at g;exact w1 [(10,.T)] (kp [2]) (.bool true) (.bool false) (b:=t.nf) (λh=>by rw[h]) g (by rw[a])
def rL:∀t:Tm,A 402 [t.nd'] (.bool t.nf)
 |.v i=>w2 [(10,.F),(99999,.s)] (kp [2]) (.bool true) (.bool true) (b:=true) (λ_=>rfl) (BF (.v i)) (rfl:true=true) rfl|.n0 k=>by
  have g:=BF (.n0 k);cases k<;>exact w2 [(10,.F),(99999,.s)] (kp [2]) (.bool true) (.bool true) (b:=true) (λ_=>rfl) g (rfl:true=true) rfl
 |.lam s b=>by
  have g:=BF (.lam s b);have j:=rL b;cases e:b.nf<;>rw[e]at j
  ·have a:(Tm.lam s b).nf=false:=e;exact w2 [(10,.F),(21,.F)] (kp [2]) (.bool true) (.bool false) (b:=(Tm.lam s b).nf) (λh=>by rw[h]) g j (by rw[a])
  have a:(Tm.lam s b).nf=true:=e;exact w3 [(10,.F),(21,.T),(99999,.s)] (kp [2]) (.bool true) (.bool true) (b:=(Tm.lam s b).nf) (λh=>by rw[h]) g j a (by rw[a])
 |.n1 k b=>by
  cases f:(Tm.n1 k b).red with
  |some r=>exact ta f (by simp only[Tm.nf,f];rfl)|none=>
   have g:=BF (.n1 k b);have c:(Tm.n1 k b).nf=true->PV.bool true=.bool (Tm.n1 k b).nf:=λh=>by rw[h]
   rw[f]at g;have j:=rL b;cases e:b.nf<;>rw[e]at j
   ·have a:(Tm.n1 k b).nf=false:=by simp only[Tm.nf,f,e];rfl
    cases k<;>exact w2 [(10,.F),(21,.F)] (kp [2]) (.bool true) (.bool false) c g j (by rw[a])
   have a:(Tm.n1 k b).nf=true:=by simp only[Tm.nf,f,e];rfl
   cases k<;>exact w3 [(10,.F),(21,.T),(99999,.s)] (kp [2]) (.bool true) (.bool true) c g j a (by rw[a])
 |.n2 k b d=>by
  cases f:(Tm.n2 k b d).red with
  |some r=>exact ta f (by simp only[Tm.nf,f];rfl)|none=>
   have g:=BF (.n2 k b d);have c:(Tm.n2 k b d).nf=true->PV.bool true=.bool (Tm.n2 k b d).nf:=λh=>by rw[h]
   rw[f]at g;have j:=rL b;have l:=rL d;cases e:b.nf<;>rw[e]at j
   ·have a:(Tm.n2 k b d).nf=false:=by simp only[Tm.nf,f,e];rfl
    cases k<;>exact w2 [(10,.F),(21,.F)] (kp [2]) (.bool true) (.bool false) c g j (by rw[a])
   cases m:d.nf<;>rw[m]at l
   ·have a:(Tm.n2 k b d).nf=false:=by simp only[Tm.nf,f,e,m];rfl
    cases k<;>exact w3 [(10,.F),(21,.T),(21,.F)] (kp [2]) (.bool true) (.bool false) c g j l (by rw[a])
   have a:(Tm.n2 k b d).nf=true:=by simp only[Tm.nf,f,e,m];rfl
   cases k<;>exact w4 [(10,.F),(21,.T),(21,.T),(99999,.s)] (kp [2]) (.bool true) (.bool true) c g j l a (by rw[a])
 |.n3 k s b d w=>by
  cases f:(Tm.n3 k s b d w).red with
  |some r=>exact ta f (by simp only[Tm.nf,f];rfl)|none=>
   have g:=BF (.n3 k s b d w);have c:(Tm.n3 k s b d w).nf=true->PV.bool true=.bool (Tm.n3 k s b d w).nf:=λh=>by rw[h]
   rw[f]at g;have j:=rL b;have l:=rL d;have o:=rL w;cases e:b.nf<;>rw[e]at j
   ·have a:(Tm.n3 k s b d w).nf=false:=by simp only[Tm.nf,f,e];rfl
    cases k<;>exact w2 [(10,.F),(21,.F)] (kp [2]) (.bool true) (.bool false) c g j (by rw[a])
   cases m:d.nf<;>rw[m]at l
   ·have a:(Tm.n3 k s b d w).nf=false:=by simp only[Tm.nf,f,e,m];rfl
    cases k<;>exact w3 [(10,.F),(21,.T),(21,.F)] (kp [2]) (.bool true) (.bool false) c g j l (by rw[a])
   cases n:w.nf<;>rw[n]at o
   ·have a:(Tm.n3 k s b d w).nf=false:=by simp only[Tm.nf,f,e,m,n];rfl
    cases k<;>exact w4 [(10,.F),(21,.T),(21,.T),(21,.F)] (kp [2]) (.bool true) (.bool false) c g j l o (by rw[a])
   have a:(Tm.n3 k s b d w).nf=true:=by simp only[Tm.nf,f,e,m,n];rfl
   cases k<;>exact w5 [(10,.F),(21,.T),(21,.T),(21,.T),(99999,.s)] (kp [2]) (.bool true) (.bool true) c g j l o a (by rw[a])
structure TK(n:Nat)(t:Tm):Prop where
 cnt:t.cnt<=4096
 shp:t.shp=true
 sc:t.sc n
def SR.t(r:SR):PV:=match r with|.er=>.tuple [.bool false,num 4]|.no=>.tuple [.bool false,num 0]|.ok _=>.tuple [.bool true,num 0]
def SR.o(r:SR)(t:Tm)(k:Nat):Ob:=match r with|.ok x=>bx [x.nd',num (k+1)]|_=>bx [t.nd',num k]
abbrev iA:Nat:=100000
theorem TK.mx{n:Nat}{t:Tm}(h:TK n t)(a:n<=iA):t.mx<=104096:=by
 have:=vV t n h.sc;have:=h.cnt;have:iA=100000:=rfl;omega
theorem TK.chk{n:Nat}{t:Tm}(h:TK n t):t.chk=0:=by
 unfold Tm.chk;rw[h.shp];rw[HA h.cnt]
def Nv{n:Nat}{t:Tm}(h:TK n t)(c:n<=iA)(k:Nat)(i:k<=1000:=by omega):O 400 [.loc 2 0] [(2,bx [t.nd',num k])] (.pv (t.st (4096-t.cnt)).t) [(2,(t.st (4096-t.cnt)).o t k)]/\∀x,t.st (4096-t.cnt)=.ok x->TK n x:=by
 have d:=vA;have:=uA;have:=h.cnt;have:=h.mx c;have b:=nP (i:=4096) (d:=t.cnt);have a:A 410 [t.nd',.int (4096-.ofNat t.cnt)] (t.st (4096-t.cnt)).q:=pL (4096-.ofNat t.cnt) (by simp;omega) t (by rw[d];omega) (by omega)
 cases e:t.st (4096-t.cnt)with
 |er=>rw[e]at a;exact⟨o2 3 [(16,.y (4096-Int.ofNat t.cnt)),17] b a,λx e=>nomatch e⟩|no=>rw[e]at a;exact⟨o2 3 [(16,.y (4096-Int.ofNat t.cnt)),17] b a,λx e=>nomatch e⟩|ok x=>
  rw[e]at a;obtain⟨o,p,_⟩:=aJ _ t e;obtain⟨f,g⟩:=Mv _ t e h.sc h.shp;refine⟨o3 3 [(16,.y (4096-Int.ofNat t.cnt)),17,35] b a (nA (a:=k) (b:=1)),?_⟩;intro y e;cases e;exact⟨by omega,g,f⟩
abbrev aN:Kp:=⟨[1,4,8],[1,2],3,[]⟩
abbrev Hi:Kp:=⟨[4,5,6],[1],3,[]⟩
abbrev Ov:Kp:=⟨[4,8],[1,2],3,[]⟩
abbrev aa(k:Nat)(t:Tm):IS:=st [(1,.pv (num 1000)),(4,.loc 1 0),(8,.loc 2 0)] [(1,bx kz),(2,bx [t.nd',num k])] 3 []
abbrev dV(n e:Nat)(l:List PV):IS:=st [(4,.loc 1 0),(5,.pv (num n)),(6,.pv (num e))] [(1,bx l)] 3 []
abbrev xa(t:Tm):IS:=st [(4,.loc 1 0),(8,.loc 2 0)] [(1,bx kz),(2,bx [t.nd',num 1000])] 3 []
def Pv{n:Nat}(h:n<=iA):∀(r k:Nat),k+r=1000->∀t:Tm,TK n t->
  (∃x j,Lp 380 0 0 (aa k t) .ret (dV j 0 (Tm.c x))/\TK n x/\mC r k t=.ok x j)\/(∃e,Lp 380 0 0 (aa k t) .ret (dV 0 (e+1) kz)/\mC r k t=.er e)\/∃x,Lp 380 0 0 (aa k t) (.exit 0) (xa x)/\TK n x/\mC r k t=mC 0 1000 x:=by
 intro r
 induction r with
 |zero=>
  intro k i t f;obtain rfl:k=1000:=by omega
  exact .inr (.inr ⟨t,x0 [] Ov,f,rfl⟩)
 |succ r l=>
  intro k i t f;have a:fA (.ofNat k) (.ofNat 1000)=true:=NA (by omega);obtain⟨b,m⟩:=Nv f h k;rw[mC]
  cases g:t.st (4096-t.cnt)with
  |er=>rw[g]at b;exact .inr (.inl ⟨3,x2 [38,41] Hi a b,rfl⟩)|no=>rw[g]at b;exact .inl ⟨t,k,x3 [38,41,54] Hi a b (FJ t),f,rfl⟩|ok x=>
   rw[g]at b;have o:=m x g;rcases l (k+1) (by omega) x o with ⟨y,j,c,d⟩|⟨e,c,d⟩|⟨y,c,d⟩
   ·exact .inl ⟨y,j,n3 [38,41] aN a b c,d⟩
   ·exact .inr (.inl ⟨e,n3 [38,41] aN a b c,d⟩)
   exact .inr (.inr ⟨y,n3 [38,41] aN a b c,d⟩)
def cN{n:Nat}{t:Tm}(h:TK n t)(l:n<=iA:=by omega):A 380 [t.p,num 1000] (ID t).p/\∀x k,ID t=.ok x k->TK n x:=by
 have:=vA;have:=uA;have:=h.cnt;have:=h.mx l;have:=MD t h.shp;have b:=a92 t;rw[h.chk]at b;have c:=a298 t;have:iF=536870912:=rfl;rw[eI t (by omega)]at c;have d:=fL t (by omega) (by omega);unfold ID;rcases Pv l 1000 0 rfl t h with ⟨x,k,a,m,f⟩|⟨e,a,f⟩|⟨x,a,m,f⟩<;>rw[f]
 ·exact⟨f4 [12,25,30,(100007,.l aN .ret (dV k 0 x.c))] b c d a,λy j e=>by simp_all⟩
 ·exact⟨f4 [12,25,30,(100007,.l aN .ret (dV 0 (e+1) kz))] b c d a,λy j e=>by cases e⟩
 have g:=rL x;cases e:x.nf<;>rw[e]at g
 ·have i:mC 0 1000 x=.er 4:=by
   rw[mC]
   cases o:x.st (4096-x.cnt)with
   |no=>rw[(DF _ x).2 o]at e;cases e
   |er=>rfl|ok y=>rfl
  rw[i];exact⟨f5 [12,25,30,(100007,.l aN (.exit 0) (xa x)),63] b c d a g,λy j e=>by cases e⟩
 have i:mC 0 1000 x=.ok x 1000:=by rw[mC,(DF _ x).1 e]
 rw[i];exact⟨f6 [12,25,30,(100007,.l aN (.exit 0) (xa x)),63,70] b c d a g (FJ x),λy j e=>by simp_all⟩
open Go.Lg
def FK.eq1{n:Nat}{a b:Tm}(h:FK n (.eq a b)):TK n a:=⟨by have:=h.cnt;grind[Fm.cnt],(EA h.shp).1,h.sc.1⟩
def FK.eq2{n:Nat}{a b:Tm}(h:FK n (.eq a b)):TK n b:=⟨by have:=h.cnt;grind[Fm.cnt],(EA h.shp).2,h.sc.2⟩
def FK.bin1{n:Nat}{k:FB}{a b:Fm}(h:FK n (.bin k a b)):FK n a:=⟨by have:=h.cnt;grind[Fm.cnt],(EA h.shp).1,h.sc.1⟩
def FK.bin2{n:Nat}{k:FB}{a b:Fm}(h:FK n (.bin k a b)):FK n b:=⟨by have:=h.cnt;grind[Fm.cnt],(EA h.shp).2,h.sc.2⟩
def FK.qf{n:Nat}{k:FQ}{s:Ty}{a:Fm}(h:FK n (.q k s a)):FK (n+1) a:=⟨by have:=h.cnt;grind[Fm.cnt],(EA h.shp).2,h.sc⟩
def FK.qs{n:Nat}{k:FQ}{s:Ty}{a:Fm}(h:FK n (.q k s a)):s.size<=64:=kD (EA h.shp).1
theorem FK.chk{n:Nat}{f:Fm}(h:FK n f):f.chk=0:=by
 unfold Fm.chk;rw[h.shp];rw[HA h.cnt]
theorem FK.mx{n:Nat}{f:Fm}(h:FK n f)(a:n<=iA):f.mx<=104096:=by
 have:=pR f n h.sc;have:=h.cnt;have:iA=100000:=rfl;omega
def FK.up{n m:Nat}{f:Fm}(h:FK n f)(a:n<=m):FK m f:=⟨h.cnt,h.shp,kV f a h.sc⟩
def FK.a89{n:Nat}{f:Fm}(h:FK n f):A 118 [f.p] (num 0):=by
 have:=uA;have g:=Go.Proofs.YtjobiknipefjdaaGreatDoor.a89 f (by have:=ZE f h.shp;omega) (by have:=h.cnt;omega);rwa[h.chk]at g
def FK.a296{n:Nat}{f:Fm}(h:FK n f):A 382 [f.p] (.tuple [num f.cnt,num 0]):=by
 have:=uA;have g:=Go.Proofs.YtjobiknipefjdaaGreatDoor.a296 f (by have:=ZE f h.shp;omega) (by have:=h.cnt;omega);rwa[Fm.ckn0 h.chk,h.chk]at g
def FK.a295{n:Nat}{f:Fm}(h:FK n f)(a:n<=iA):A 158 [f.p] (.bool true):=by
 have:=vA;have:iF=536870912:=rfl;have g:=Go.Proofs.YtjobiknipefjdaaGreatDoor.a295 f (by have:=h.cnt;omega);rwa[YU f (by have:=h.mx a;omega)]at g
def TK.a92{n:Nat}{t:Tm}(h:TK n t):A 119 [t.p] (num 0):=by
 have:=uA;have g:=Go.Proofs.YtjobiknipefjdaaGreatDoor.a92 t (by have:=MD t h.shp;omega) (by have:=h.cnt;omega);rwa[h.chk]at g
def TK.a297{n:Nat}{t:Tm}(h:TK n t):A 383 [t.p] (.tuple [num t.cnt,num 0]):=by
 have:=uA;have g:=Go.Proofs.YtjobiknipefjdaaGreatDoor.a297 t (by have:=MD t h.shp;omega) (by have:=h.cnt;omega);rwa[Tm.ckn0 h.chk,h.chk]at g
def TK.a298{n:Nat}{t:Tm}(h:TK n t)(a:n<=iA):A 229 [t.p] (.bool true):=by
 have:=vA;have:iF=536870912:=rfl;have g:=Go.Proofs.YtjobiknipefjdaaGreatDoor.a298 t (by have:=h.cnt;omega);rwa[eI t (by have:=h.mx a;omega)]at g
def Ii{n:Nat}{a b:Tm}(c:TK n a)(d:TK n b)(e:n<=iA)(h:a.mt b):A 395 [a.p,b.p,num 1000] (num 0):=by
 obtain⟨r,f,s⟩:=ji a b;cases r
 ·rcases h with h|⟨x,j,l,m,o⟩
  ·simp_all
  have g:=(cN c e).1;have i:=(cN d e).1;rw[m]at g;rw[o]at i;obtain⟨r,k,p⟩:=ji x x;rw[p.2 rfl]at k;exact f6 [15,20,26,30,40,49] c.a92 d.a92 f g i k
 exact f3 [15,20,26] c.a92 d.a92 f
def fV:∀(a b:Fm)(n:Nat),FK n a->FK n b->n+a.cnt<=iA->a.mt b->A 375 [a.p,b.p] (num 0)
 |.eq a c,.eq b d,n,e,i,j,h=>f3 [21,38,38] SG (Ii e.eq1 i.eq1 (by omega) h.1) (Ii e.eq2 i.eq2 (by omega) h.2)|.bin k f g,.bin l p r,n,e,i,j,h=>by
  obtain⟨rfl,m,t⟩:=h;simp only[Fm.cnt]at j;exact f4 [15,21,57,57] (DB k.n) SG (fV f p n e.bin1 i.bin1 (by omega) m) (fV g r n e.bin2 i.bin2 (by omega) t)
 |.q k s f,.q l u g,n,e,i,j,h=>by
  obtain⟨rfl,rfl,m⟩:=h;simp only[Fm.cnt]at j;have o:=dR s s;rw[(nD s s).2 rfl]at o;exact f3 [15,21,57] (DB k.n) o (fV f g (n+1) e.qf i.qf (by omega) m)
 |.eq _ _,.bin _ _ _,_,_,_,_,h=>h.elim|.eq _ _,.q _ _ _,_,_,_,_,h=>h.elim|.bin _ _ _,.eq _ _,_,_,_,_,h=>h.elim|.bin _ _ _,.q _ _ _,_,_,_,_,h=>h.elim|.q _ _ _,.eq _ _,_,_,_,_,h=>h.elim|.q _ _ _,.bin _ _ _,_,_,_,_,h=>h.elim
def Ji{n:Nat}{a b:Fm}(c:FK n a)(d:FK n b)(e:n<=90000)(h:a.mt b):A 336 [a.p,b.p] (num 0):=
 f3 [8,13,19] c.a89 d.a89 (fV a b n c d (by have:=c.cnt;have:iA=100000:=rfl;omega) h)
def TK.Lf{n:Nat}{t:Tm}(h:TK n t)(b:n<=iA):Lf t.x t:=by
 have a:=vA;have:=h.cnt;have:=h.mx b;exact .of t (by omega) (by rw[a];omega) λz b=>ZZ t 0 z (by omega) b (by omega) (by rw[a];omega)
def Qv{f:Fm}{t:Tm}(h:f.cnt+f.occ 0*(t.cnt-1)<=4096):(f.put 0 t 0).cnt=f.cnt+f.occ 0*(t.cnt-1):=by
 have a:=iJ 0 t f 0;have:=fE t;simp only[Nat.add_zero]at a;have:f.occ 0*(t.cnt-1)+f.occ 0=f.occ 0*t.cnt:=by
  obtain⟨k,b⟩:∃k,t.cnt=k+1:=⟨t.cnt-1,by omega⟩;rw[b,Nat.add_sub_cancel,Nat.mul_succ]
 omega
theorem FK.pt{n:Nat}{f:Fm}{t:Tm}(h:FK (n+1) f)(a:TK n t){g:Fm}(e:f.pt t=.ok g):g=f.put 0 t 0/\FK n g:=by
 unfold Fm.pt at e;split at e
 ·rename_i b;cases e;refine⟨rfl,?_,?_,?_⟩
  ·rw[Qv b];exact b
  ·exact qL 0 t f 0 (.inl a.shp) h.shp
  exact pN t n f 0 h.sc (.inl a.sc)
 cases e
def Ki{a b:Nat}(h:a<=4096:=by omega)(c:b<=4096:=by omega):a*b<=16777216:=Nat.mul_le_mul h c
def aP{n:Nat}{f:Fm}{t:Tm}(h:FK (n+1) f)(a:TK n t)(k:n+1<=iA:=by omega):A 342 [f.p,t.p] (f.pt t).p:=by
 have d:=vA;have r:=uA;have s:=h.cnt;have u:=a.cnt;have l:=fE t;have v:=h.mx k;have w:=MG f 0;have m:=Ki (a:=f.occ 0) (b:=t.cnt-1);have b:=gR f (by have:=ZE f h.shp;omega) (by omega);rw[Fm.ckn0 h.chk,h.chk]at b;have c:=fR t (by have:=MD t a.shp;omega) (by omega);rw[Tm.ckn0 a.chk,a.chk]at c;have e:=nR f 0 (by omega) (by rw[d];omega);have g:=rD (a:=t.cnt) l;have i:=sN (a:=f.occ 0) (b:=t.cnt-1) (by omega) rfl;have j:=CF (a:=f.cnt) (b:=f.occ 0*(t.cnt-1)) (by omega) rfl;unfold Fm.pt;split
 ·rename_i o;have p:=mR f 0 t.x t (.inl (a.Lf (by omega))) (by omega) (by rw[d];omega);exact f8 [12,17,22,24,25,26,27,31] b c e g i j (HA (a:=4096) o) p
 exact f7 [12,17,22,24,25,26,27] b c e g i j (NA (a:=4096) (b:=f.cnt+f.occ 0*(t.cnt-1)) (by omega))
def Rv{n:Nat}{f:Fm}{t:Tm}(h:FK (n+1) f)(a:TK n t)(b:n+1<=iA):A 354 [f.p,num 0,t.p] (f.pt t).p:=by
 have c:=vA;have r:=uA;have s:=h.cnt;have u:=a.cnt;have l:=fE t;have v:=h.mx b;have w:=MG f 0;have m:=Ki (a:=f.occ 0) (b:=t.cnt-1);have d:=h.a296;have e:=a.a297;have g:=nR f 0 (by omega) (by rw[c];omega);have i:=rD (a:=t.cnt) l;have j:=sN (a:=f.occ 0) (b:=t.cnt-1) (by omega) rfl;have k:=CF (a:=f.cnt) (b:=f.occ 0*(t.cnt-1)) (by omega) rfl;unfold Fm.pt;split
 ·rename_i o;have p:=mR f 0 t.x t (.inl (a.Lf (by omega))) (by omega) (by rw[c];omega);exact mJ [13,26,34,38,45,47,48,49,50,55] d e (h.a295 b) (a.a298 (by omega)) g i j k (HA (a:=4096) o) p
 exact f9 [13,26,34,38,45,47,48,49,50] d e (h.a295 b) (a.a298 (by omega)) g i j k (NA (a:=4096) (b:=f.cnt+f.occ 0*(t.cnt-1)) (by omega))
def Sv{n:Nat}{f:Fm}(h:FK n f)(a:n<=iA):A 92 [f.p,num 0,num 1] (FR.ok (f.sh 0 (.ofNat 1))).p:=by
 have b:=vA;exact f3 [10,25,32] h.a89 (h.a295 a) (iI f 0 1 (by omega) (by have:=h.cnt;omega) (by have:=h.mx a;rw[b];omega))
def Tv{n:Nat}{f:Fm}(h:FK n f)(a:n<=iA):A 92 [f.p,num 0,num 2] (FR.ok (f.sh 0 (.ofNat 2))).p:=by
 have b:=vA;exact f3 [10,25,32] h.a89 (h.a295 a) (iI f 0 2 (by omega) (by have:=h.cnt;omega) (by have:=h.mx a;rw[b];omega))
def Uv{n:Nat}{f:Fm}(h:FK n f)(a:n<=iA:=by omega):A 92 [f.p,num 1,num 1] (FR.ok (f.sh 1 (.ofNat 1))).p:=by
 have b:=vA;exact f3 [10,25,32] h.a89 (h.a295 a) (iI f 1 1 (by omega) (by have:=h.cnt;omega) (by have:=h.mx a;rw[b];omega))
def Vv{n:Nat}{f:Fm}(h:FK n f)(a:n<=iA:=by omega):A 92 [f.p,num 2,num 1] (FR.ok (f.sh 2 (.ofNat 1))).p:=by
 have b:=vA;exact f3 [10,25,32] h.a89 (h.a295 a) (iI f 2 1 (by omega) (by have:=h.cnt;omega) (by have:=h.mx a;rw[b];omega))
def Aa{f:Fm}(b:f.occ 0=0):f.low.cnt=f.cnt:=by
 have a:f.low.cnt+f.occ 0=f.cnt+f.occ 0*(Tm.v 0).cnt:=iJ 0 (.v 0) f 0;rw[b,Nat.zero_mul]at a;exact a
def FK.low{n:Nat}{f:Fm}(h:FK (n+1) f)(a:f.occ 0=0):FK n f.low:=by
 refine⟨?_,qL 0 _ f 0 (.inr a) h.shp,pN _ n f 0 h.sc (.inr a)⟩;rw[Aa a];exact h.cnt
def Li{n:Nat}{f:Fm}(h:FK n f)(d:n<=iA:=by omega):A 355 [f.p,num 0] (if f.occ 0=0 then FR.ok f.low else .er 5).p:=by
 have b:=vA;have e:=h.cnt;have g:=h.mx d;have a:=nR f 0 (by omega) (by rw[b];omega);split
 ·rename_i c;rw[c]at a;exact f3 [8,19,25] h.a89 a (mR f 0 .z (.v 0) (.inr c) (by omega) (by rw[b];omega))
 exact f3 [8,19,20] h.a89 a (NA (a:=0) (b:=f.occ 0) (by omega))
open Go.Lg
def cP:∀(f:Fm)(n:Nat),FK n f->n+f.cnt<=iA->∀g,VA f=some g->g.sc n/\g.shp=true/\g.cnt<=4096*f.cnt
 |.eq a b,n,h,m,g,e=>by
  have w:=fE a;have z:=fE b;have p:=(cN h.eq1).2;have r:=(cN h.eq2).2;unfold VA at e;split at e
  ·rename_i x j i;split at e
   ·rename_i y l o;cases e;have c:=p x j i;have d:=r y l o;have:=c.cnt;have:=d.cnt;exact⟨⟨c.sc,d.sc⟩,by show(_&&_)=true;rw[c.shp,d.shp];rfl,by grind[Fm.cnt]⟩
   cases e
  cases e
 |.bin k a b,n,h,m,g,e=>by
  simp only[Fm.cnt]at m;unfold VA at e;split at e
  ·rename_i x i;split at e
   ·rename_i y o;cases e;obtain⟨c,d,t⟩:=cP a n h.bin1 (by omega) x i;obtain⟨u,v,A⟩:=cP b n h.bin2 (by omega) y o;exact⟨⟨c,u⟩,by show(_&&_)=true;rw[d,v];rfl,by grind[Fm.cnt]⟩
   cases e
  cases e
 |.q k s a,n,h,m,g,e=>by
  simp only[Fm.cnt]at m;unfold VA at e;split at e
  ·rename_i x i;cases e;obtain⟨c,d,t⟩:=cP a (n+1) h.qf (by omega) x i;exact⟨c,by show(_&&_)=true;rw[(EA h.shp).1,d];rfl,by grind[Fm.cnt]⟩
  cases e
structure Sy where
 k:Nat
 tk:Nat
 te:List (List PV)
 ts:List (List PV)
 es:List (List PV)
abbrev Sy.c(s:Sy):List PV:=[num s.k,num s.tk,.slice s.te,.slice s.ts,.slice s.es]
abbrev Fm.y(f:Fm):Sy:=⟨f.kd,f.tk,f.te,f.ts,f.es⟩
abbrev AI(e:Nat):List (Nat×Ob):=[(2,bx [num e])]
def Mi{n:Nat}{t y:Tm}{k:Nat}(h:TK n t)(b:n<=iA)(d:Nat)(e:ID t=.ok y k):O 379 [.pv t.p,.pv (num d),.loc 2 0] (AI 0) (.pv (.agg y.x.c)) (AI 0):=by
 have a:=(cN h b).1;rw[e]at a;exact o1 3 [14] a
def gV:∀(f g:Fm)(n d:Nat),FK n f->n+f.cnt<=iA->d+f.cnt<=qA->VA f=some g->O 230 [.pv f.p,.pv (num d),.fn 379 [.loc 2 0]] (AI 0) (.pv (.agg g.y.c)) (AI 0)
 |.eq a b,g,n,d,h,c,m,e=>by
  simp only[Fm.cnt]at c;unfold VA at e;split at e
  ·rename_i x j i;split at e
   ·rename_i y l o;cases e;exact o3 3 [16,(30,.o [] (AI 0) (.pv (.agg x.x.c))),(30,.o [] (AI 0) (.pv (.agg y.x.c)))] WC (Mi h.eq1 (by omega) d i) (Mi h.eq2 (by omega) d o)
   cases e
  cases e
 |.bin k a b,g,n,d,h,c,m,e=>by
  simp only[Fm.cnt]at c m;unfold VA at e;split at e
  ·rename_i x i;split at e
   ·rename_i y o;cases e;have p:=gV a x n d h.bin1 (by omega) (by omega) i;have r:=gV b y n d h.bin2 (by omega) (by omega) o;cases k<;>exact o3 3 [16,(52,.o [] (AI 0) (.pv (.agg x.y.c))),(52,.o [] (AI 0) (.pv (.agg y.y.c)))] WC p r
   cases e
  cases e
 |.q k s a,g,n,d,h,c,m,e=>by
  have t:=vA;have u:=uA;simp only[Fm.cnt]at c m;unfold VA at e;split at e
  ·rename_i x i;cases e;have p:=gV a x (n+1) (d+1) h.qf (by omega) (by omega) i;have g:=nA (a:=d) (b:=1);cases k<;>exact o3 3 [16,39,(52,.o [] (AI 0) (.pv (.agg x.y.c)))] (aF s) g p
  cases e
def Wv{n:Nat}{f g:Fm}(h:FK (n+1) f)(o:n+1<=90000)(e:nC f=some g):A 345 [f.p] (FR.ok g).p:=by
 have a:=vA;have p:iA=100000:=rfl;have r:=h.cnt;have s:=h.mx (by omega);have c:=nR f 0 (by omega) (by rw[a];omega);unfold nC at e;split at e
 ·rename_i b;cases e;rw[b]at c;exact f2 [7,11] c (mR f 0 .z (.v 0) (.inr b) (by omega) (by rw[a];omega))
 rename_i b;split at e
 ·rename_i y d;split at e
  ·rename_i i;cases e;have k:=gV f y (n+1) 0 h (by omega) (by omega) d;have l:fB (.ofNat (f.occ 0)) (.ofNat 0)=false:=VE b;obtain⟨m,t,u⟩:=cP f (n+1) h (by omega) y d;have v:=pR y (n+1) m;have j:=nR y 0 (by omega) (by rw[a];omega);rw[i]at j;exact f5 [7,8,(14,.o [] (AI 0) (.pv (.agg y.y.c))),22,27] c l k j (mR y 0 .z (.v 0) (.inr i) (by omega) (by rw[a];omega))
  cases e
 cases e
def GJ:A 351 [] Ty.nat.p:=f0 []
def BI(i:Nat):A 301 [num i] (Tm.v i).p:=f0 []
def lV(k:K0):A 381 [num k.n,row []] (Tm.n0 k).p:=f0 []
def Ni(k:K1)(a:Tm):A 381 [num k.n,row [a]] (Tm.n1 k a).p:=f0 []
def mV(k:K2)(a b:Tm):A 381 [num k.n,row [a,b]] (Tm.n2 k a b).p:=f0 []
def Xv(t:Tm)(s:Ty):A 420 [t.p,OA [s]] (Tm.lam s t).p:=f0 []
def Oi(t:Tm)(s u:Ty):A 420 [t.p,OA [s,u]] (Tm.lam s (.lam u t)).p:=f0 []
def Yv(k:K3)(s:Ty)(a b c:Tm):A 421 [num k.n,s.p,a.p,b.p,c.p] (Tm.n3 k s a b c).p:=f0 []
def Pi(a b c:Tm):A 414 [a.p,b.p,c.p] (Tm.n3 .re .nat a (.lam .nat (.lam .nat b)) c).p:=
 f5 [7,10,11,13,15] GJ GJ GJ (Oi b .nat .nat) (Yv .re .nat a (.lam .nat (.lam .nat b)) c)
def Zv(t:Tm):A 413 [t.p] (Tm.lam .nat (.lam .nat t)).p:=f3 [4,5,7] GJ GJ (Oi t .nat .nat)
def qw:A 415 [] predT.p:=
 f6 [1,2,3,4,5,7] (lV .zero) (BI 1) (BI 0) (Pi (.n0 .zero) (.v 1) (.v 0)) GJ (Xv (.n3 .re .nat (.n0 .zero) (.lam .nat (.lam .nat (.v 1))) (.v 0)) .nat)
def Qi(f a:Tm):A 353 [f.p,row [a]] (Tm.n2 .app f a).p:=f1 [16] (mV .app f a)
def zw(f a b:Tm):A 353 [f.p,row [a,b]] (Tm.n2 .app (.n2 .app f a) b).p:=f2 [16,16] (mV .app f a) (mV .app (.n2 .app f a) b)
def jw:A 405 [] subT.p:=by
 let x1:=Tm.n2 .app predT (.v 0);let x4:=Tm.n3 .re .nat (.v 1) (.lam .nat (.lam .nat x1)) (.v 0);exact f7 [1,2,3,5,6,7,8] (BI 1) qw (BI 0) (Qi predT (.v 0)) (BI 0) (Pi (.v 1) x1 (.v 0)) (Zv x4)
def Ri(a b:Tm):A 350 [a.p,b.p] (Fm.eq a b).p:=f0 []
def ww(x y:Tm):Fm:=.eq (.n2 .app (.n2 .app subT (.n1 .succ x)) y) (.n0 .zero)
def kw(x y:Tm):A 387 [x.p,y.p] (ww x y).p:=
 f5 [5,8,11,12,13] jw (Ni .succ x) (zw subT (.n1 .succ x) y) (lV .zero) (Ri (.n2 .app (.n2 .app subT (.n1 .succ x)) y) (.n0 .zero))
def yw(a b c d:Tm):∃r,A 386 [(Fm.eq a b).p,(Fm.eq c d).p] (.bool r):=by
 obtain⟨r,e,_⟩:=cI a c;obtain⟨q,f,_⟩:=cI b d;cases r
 ·exact⟨false,f2 [19,54] SG e⟩
 cases q
 ·exact⟨false,f3 [19,54,54] SG e f⟩
 exact⟨true,f3 [19,54,54] SG e f⟩
abbrev zF:List PV:=[num 0,num 0,.slice [],.slice [],.slice []]
abbrev uw:PV:=.tuple [.bool false,(.agg Sx.z.c),.agg zF,.bool false]
abbrev Bd(k:FQ)(s:Ty)(f:Fm):Prop:=A 357 [(Fm.q k s f).p] uw\/∃b t l a body,f=.bin l a body/\A 357 [(Fm.q k s f).p] (.tuple [.bool b,Tm.p t,Fm.p body,.bool true])
def Si(k:FQ)(l:FB)(g:k=.all/\l=.imp\/k=.ex/\l=.and)(t u:Tm)(c:Fm)(h:t.cnt<=4096:=by omega)(n:t.mx<=qA*qA:=by omega):Bd k .nat (.bin l (.eq t u) c):=by
 have no:t.kd≠3->Bd k .nat (.bin l (.eq t u) c):=λh=>.inl (by
  rcases g with ⟨rfl,rfl⟩|⟨rfl,rfl⟩<;>exact f1 [64] (TC (m:=t.kd) (n:=3) h))
 cases t with
 |n2 j x y=>
  cases j with
  |app=>
   have:=vA;have h:1+x.cnt+y.cnt<=4096:=h;have n:max x.mx y.mx<=qA*qA:=n;have e:=ai y 0;by_cases o:y.occ 0=0
   ·rw[o]at e;have f:=kw (.v 0) y;obtain⟨r,m⟩:=yw (.n2 .app x y) u (.n2 .app (.n2 .app subT (.n1 .succ (.v 0))) y) (.n0 .zero);cases r
    ·refine .inl ?_;rcases g with ⟨rfl,rfl⟩|⟨rfl,rfl⟩<;>exact f3 [70,80,81] e f m
    rcases g with ⟨rfl,rfl⟩|⟨rfl,rfl⟩
    ·exact .inr ⟨true,y,_,_,c,rfl,f3 [70,80,81] e f m⟩
    exact .inr ⟨false,y,_,_,c,rfl,f3 [70,80,81] e f m⟩
   have f:fA (.ofNat 0) (.ofNat (y.occ 0))=true:=NA (by omega);refine .inl ?_;rcases g with ⟨rfl,rfl⟩|⟨rfl,rfl⟩<;>exact f2 [70,71] e f
  |_=>exact no (nofun)
 |v i=>exact no (nofun)|lam s b=>exact no (nofun)|n0 j=>exact no (by cases j<;>exact nofun)|n1 j a=>exact no (by cases j<;>exact nofun)|n3 j s a b d=>exact no (by cases j<;>exact nofun)
def bw(k:FQ)(s:Ty)(f:Fm)(h:f.cnt<=4096)(c:f.mx<=qA*qA):Bd k s f:=by
 cases k with
 |allU=>exact .inl (f0 [])|exU=>exact .inl (f0 [])|all=>cases s with
  |nat=>cases f with
   |eq a b=>exact .inl (f0 [])|q j s f=>exact .inl (by cases j<;>exact f0 [])|bin j a b=>cases j with
    |and=>exact .inl (f0 [])|imp=>cases a with
     |bin j a b=>exact .inl (by cases j<;>exact f0 [])|q j s f=>exact .inl (by cases j<;>exact f0 [])|eq t u=>
      simp only[Fm.cnt,Fm.mx]at h c;exact Si .all .imp (.inl ⟨rfl,rfl⟩) t u b
  |two j s u=>exact .inl (by cases j<;>exact f0 [])|_=>exact .inl (f0 [])
 |ex=>cases s with
  |nat=>cases f with
   |eq a b=>exact .inl (f0 [])|q j s f=>exact .inl (by cases j<;>exact f0 [])|bin j a b=>cases j with
    |imp=>exact .inl (f0 [])|and=>cases a with
     |bin j a b=>exact .inl (by cases j<;>exact f0 [])|q j s f=>exact .inl (by cases j<;>exact f0 [])|eq t u=>
      simp only[Fm.cnt,Fm.mx]at h c;exact Si .ex .and (.inr ⟨rfl,rfl⟩) t u b
  |two j s u=>exact .inl (by cases j<;>exact f0 [])|_=>exact .inl (f0 [])
def HJ:∀v,v<8->∀w,w<8->LA .and .u8 (.ofNat v) (.ofNat w)=.ofNat (v&&&w)/\v&&&w<8:=by decide+kernel
def CI:∀v,v<8->∀w,w<8->LA .or .u8 (.ofNat v) (.ofNat w)=.ofNat (v|||w)/\v|||w<8:=by decide+kernel
def IJ{v w:Nat}(h:v<8)(a:w<8):(bif DG .u8 .u8 then xA (LA .and .u8 (.ofNat v) (.ofNat w))else false)=true/\PV.num .u8 (LA .and .u8 (.ofNat v) (.ofNat w))=.num .u8 (.ofNat (v&&&w)):=by
 have:=uA;rw[(HJ v h w a).1];exact⟨lB (n:=v&&&w) (by have:=(HJ v h w a).2;omega),rfl⟩
def sL{v w:Nat}(h:v<8)(a:w<8):(bif DG .u8 .u8 then xA (LA .or .u8 (.ofNat v) (.ofNat w))else false)=true/\PV.num .u8 (LA .or .u8 (.ofNat v) (.ofNat w))=.num .u8 (.ofNat (v|||w)):=by
 have:=uA;rw[(CI v h w a).1];exact⟨lB (n:=v|||w) (by have:=(CI v h w a).2;omega),rfl⟩
def dw:∀v,v<8->∀w,w<8->(v&&&w&&&6|||(w|||v)&&&1)%2=max (v%2) (w%2):=by decide+kernel
def fw:∀v,v<8->∀w,w<8->(v&&&w&&&6|||w&&&1)%2=w%2:=by decide+kernel
def Ti:∀v,v<8->(v&&&1)%2=v%2/\((v|||1)&&&1)%2=1:=by decide+kernel
def nV:∀v,v<8->∀w,w<8->(v|||w&&&4)%2=v%2:=by decide+kernel
abbrev u8(n:Nat):PV:=.num .u8 (.ofNat n)
def pV:Bool->Nat|true=>1|false=>0
def lw(a b:Bool):max (pV a) (pV b)=pV (a||b):=by cases a<;>cases b<;>rfl
def tR:∀(n:Nat)(f:Fm),f.cnt<=n->f.cnt<=4096->f.mx<=qA*qA->∃v,v<8/\A 295 [f.p] (u8 v)/\v%2=pV f.has
 |0,f,r,h,m=>by
  have:1<=f.cnt:=by cases f<;>simp only[Fm.cnt]<;>omega
  omega
 |n+1,.eq a b,r,h,m=>⟨6,by decide,f0 [],rfl⟩|n+1,.bin k f g,r,h,m=>by
  simp only[Fm.cnt,Fm.mx]at r h m;obtain⟨v,l1,i,j⟩:=tR n f (by omega) (by omega) (by omega);obtain⟨w,c,e,B⟩:=tR n g (by omega) (by omega) (by omega);have d:=(HJ v l1 w c).2;have o:=(HJ _ d 6 (by decide)).2
  cases k with
  |and=>
   have p:=(CI w c v l1).2;have x:=(HJ _ p 1 (by decide)).2;refine⟨v&&&w&&&6|||(w|||v)&&&1,(CI _ o _ x).2,?_,?_⟩
   ·exact f7 [22,32,(35,.v (u8 (v&&&w))),(36,.v (u8 (v&&&w&&&6))),(42,.v (u8 (w|||v))),(45,.v (u8 ((w|||v)&&&1))),(46,.v (u8 (v&&&w&&&6|||(w|||v)&&&1)))] e i (IJ l1 c) (IJ d (w:=6) (by decide)) (sL c l1) (IJ p (w:=1) (by decide)) (sL o x)
   rw[dw v l1 w c,j,B,lw];rfl
  |imp=>
   have x:=(HJ w c 1 (by decide)).2;refine⟨v&&&w&&&6|||w&&&1,(CI _ o _ x).2,?_,?_⟩
   ·exact f6 [22,32,(35,.v (u8 (v&&&w))),(36,.v (u8 (v&&&w&&&6))),(45,.v (u8 (w&&&1))),(46,.v (u8 (v&&&w&&&6|||w&&&1)))] e i (IJ l1 c) (IJ d (w:=6) (by decide)) (IJ c (w:=1) (by decide)) (sL o x)
   rw[fw v l1 w c,B];rfl
 |n+1,.q k s f,r,h,m=>by
  simp only[Fm.cnt,Fm.mx]at r h m;obtain⟨v,l1,i,j⟩:=tR n f (by omega) (by omega) (by omega);have d:=(HJ v l1 1 (by decide)).2;have o:=(CI v l1 1 (by decide)).2;have p:=(HJ _ o 1 (by decide)).2;have u:=IJ l1 (w:=1) (by decide);have C:=sL l1 (w:=1) (by decide);have D:=IJ o (w:=1) (by decide);have p1:=(Ti v l1).1;have p2:=(Ti v l1).2;rcases bw k s f (by omega) m with e|⟨b,t,l,a,y,rfl,e⟩
  ·cases k with|ex=>exact⟨(v|||1)&&&1,p,f4 [22,(50,.v (u8 (v|||1))),(52,.v (u8 ((v|||1)&&&1))),55] i C D e,p2⟩|all=>exact⟨v&&&1,d,f3 [22,(52,.v (u8 (v&&&1))),55] i u e,p1.trans j⟩|allU=>exact⟨v&&&1,d,f3 [22,(52,.v (u8 (v&&&1))),55] i u e,p1.trans j⟩|exU=>exact⟨v&&&1,d,f3 [22,(52,.v (u8 (v&&&1))),55] i u e,p1.trans j⟩
  simp only[Fm.cnt,Fm.mx]at r h m;obtain⟨w,c,z,B⟩:=tR n y (by omega) (by omega) (by omega);have y1:=(HJ w c 4 (by decide)).2;have y2:=IJ c (w:=4) (by decide)
  cases k with|ex=>exact⟨(v|||1)&&&1|||w&&&4,(CI _ p _ y1).2,f7 [22,(50,.v (u8 (v|||1))),(52,.v (u8 ((v|||1)&&&1))),55,63,(64,.v (u8 (w&&&4))),(65,.v (u8 ((v|||1)&&&1|||w&&&4)))] i C D e z y2 (sL p y1),(nV _ p w c).trans p2⟩|all=>exact⟨v&&&1|||w&&&4,(CI _ d _ y1).2,f6 [22,(52,.v (u8 (v&&&1))),55,63,(64,.v (u8 (w&&&4))),(65,.v (u8 (v&&&1|||w&&&4)))] i u e z y2 (sL d y1),(nV _ d w c).trans (p1.trans j)⟩|allU=>exact⟨v&&&1|||w&&&4,(CI _ d _ y1).2,f6 [22,(52,.v (u8 (v&&&1))),55,63,(64,.v (u8 (w&&&4))),(65,.v (u8 (v&&&1|||w&&&4)))] i u e z y2 (sL d y1),(nV _ d w c).trans (p1.trans j)⟩|exU=>exact⟨v&&&1|||w&&&4,(CI _ d _ y1).2,f6 [22,(52,.v (u8 (v&&&1))),55,63,(64,.v (u8 (w&&&4))),(65,.v (u8 (v&&&1|||w&&&4)))] i u e z y2 (sL d y1),(nV _ d w c).trans (p1.trans j)⟩
def mw:∀v,v<8->∀{f:Fm},A 118 [f.p] (num 0)->A 295 [f.p] (u8 v)->A 225 [f.p,u8 1] (.tuple [.bool (Nat.beq (v%2) 1),num 0])|0,_,_,g,a=>f2 [8,13] g a|1,_,_,g,a=>f2 [8,13] g a|2,_,_,g,a=>f2 [8,13] g a|3,_,_,g,a=>f2 [8,13] g a|4,_,_,g,a=>f2 [8,13] g a|5,_,_,g,a=>f2 [8,13] g a|6,_,_,g,a=>f2 [8,13] g a|7,_,_,g,a=>f2 [8,13] g a|n+8,h,_,_,_=>absurd h (by omega)
def FK.a70{n:Nat}{f:Fm}(h:FK n f)(b:n<=iA):A 149 [f.p] (.tuple [.bool f.has,num 0]):=by
 have c:=vA;have:=h.mx b;obtain⟨v,l,g,q⟩:=tR 4096 f h.cnt h.cnt (by rw[c];omega);have a:=mw v l h.a89 g;rw[q]at a;cases e:f.has<;>rw[e]at a
 ·exact f1 [5] a
 exact f1 [5] a
open Go.Lg
inductive CR where|no|ok (s:Ty)|er (n:Nat)|ers (s:Ty) (n:Nat)
def CR.k:CR->Nat|.ok s=>s.kd|.ers s _=>s.kd|_=>0
def CR.l:CR->List (List PV)|.ok s=>s.es|.ers s _=>s.es|_=>[]
def CR.h:CR->Bool|.ok _=>true|.ers _ _=>true|_=>false
def CR.e:CR->Nat|.er n=>n+1|.ers _ n=>n+1|_=>0
def CR.q(r:CR):PV:=.tuple [.agg [num r.k,.slice r.l],.bool r.h,num r.e]
def CR.Good(b:Bool)(t:Ty):CR->Prop|.no=>b=false|.ok s=>b=true/\s.size<=64/\s=t|.er n=>n=3|.ers _ n=>n=3
def Fm.cty:Fm->Ty
 |.eq _ _=>.unit|.bin k f g=>match k with
  |.and=>match f.has,g.has with|true,true=>.two false f.cty g.cty|true,false=>f.cty|false,_=>g.cty
  |.imp=>bif f.has then .two true f.cty g.cty else g.cty
 |.q k s f=>match k with|.ex=>bif f.has then .two false s f.cty else s|.all=>.two true s f.cty|_=>f.cty
def rV(k:Bool)(s u:Ty)(a:s.size<=64)(b:u.size<=64):∃r:CR,A 246 [num (bn k 3 4),s.p,u.p] r.q/\r.Good true (.two k s u):=by
 have g:A 247 [(Ty.two k s u).p] (num (QG (1+s.size+u.size) 64)):=TZ (.two k s u) (by grind[Ty.size]);rcases qi (1+s.size+u.size) 64 with ⟨h,_,e⟩|⟨h,_,e⟩<;>rw[e]at g
 ·exact⟨.ok (.two k s u),by cases k<;>exact f1 [17] g,rfl,h,rfl⟩
 exact⟨.er 3,by cases k<;>exact f1 [17] g,rfl⟩
def sV:∀(f:Fm),f.shp=true->∃r:CR,A 179 [f.p] r.q/\r.Good f.has f.cty
 |.eq a b,h=>⟨.no,f0 [],rfl⟩|.bin k f g,h=>by
  obtain⟨o,p⟩:=EA h;obtain⟨y,i,d⟩:=sV g p;obtain⟨t,j,c⟩:=sV f o
  cases y with
  |er n=>exact⟨.er n,by cases k<;>exact f1 [27] i,d⟩|ers s n=>exact⟨.er n,by cases k<;>exact f1 [27] i,d⟩|no=>
   have d:g.has=false:=d
   cases k with
   |imp=>exact⟨.no,f1 [27] i,by show g.has=false;exact d⟩|and=>cases t with|er n=>exact⟨.er n,f2 [27,44] i j,c⟩|ers s n=>exact⟨.er n,f2 [27,44] i j,c⟩|no=>exact⟨.no,f2 [27,44] i j,by show(f.has||g.has)=false;rw[d,show f.has=false from c];rfl⟩|ok s=>exact⟨.ok s,f2 [27,44] i j,by show(f.has||g.has)=true;rw[show f.has=true from c.1];rfl,c.2.1,by have o:f.has=true:=c.1;show s=(match f.has,g.has with|true,true=>Ty.two false f.cty g.cty|true,false=>f.cty|false,_=>g.cty);rw[o,d];exact c.2.2⟩
  |ok u=>
   have l:g.has=true:=d.1
   cases k with
   |imp=>
    have e:(Fm.bin .imp f g).has=true:=l;rw[e];have v:(Fm.bin .imp f g).cty=bif f.has then .two true f.cty g.cty else g.cty:=rfl;rw[v]
    cases t with
    |er n=>exact⟨.ers u n,f2 [27,91] i j,c⟩|ers s n=>exact⟨.ers u n,f2 [27,91] i j,c⟩|no=>exact⟨.ok u,f2 [27,91] i j,rfl,d.2.1,by rw[show f.has=false from c];exact d.2.2⟩|ok s=>
     obtain⟨r,m,q⟩:=rV true s u c.2.1 d.2.1;rw[c.2.2,d.2.2]at q;rw[show f.has=true from c.1];exact⟨r,f3 [27,91,105] i j m,q⟩
   |and=>
    have e:(Fm.bin .and f g).has=true:=by show(f.has||g.has)=true;rw[l];cases f.has<;>rfl
    rw[e];have v:(Fm.bin .and f g).cty=(match f.has,g.has with|true,true=>Ty.two false f.cty g.cty|true,false=>f.cty|false,_=>g.cty):=rfl;rw[v,l]
    cases t with
    |er n=>exact⟨.ers u n,f2 [27,44] i j,c⟩|ers s n=>exact⟨.ers u n,f2 [27,44] i j,c⟩|no=>exact⟨.ok u,f2 [27,44] i j,rfl,d.2.1,by rw[show f.has=false from c];exact d.2.2⟩|ok s=>
     obtain⟨r,m,q⟩:=rV false s u c.2.1 d.2.1;rw[c.2.2,d.2.2]at q;rw[show f.has=true from c.1];exact⟨r,f3 [27,44,62] i j m,q⟩
 |.q k s f,h=>by
  obtain⟨o,p⟩:=EA h;have w:=kD o;obtain⟨r,g,q⟩:=sV f p
  cases r with
  |er n=>exact⟨.er n,by cases k<;>exact f1 [27] g,q⟩|ers u n=>exact⟨.er n,by cases k<;>exact f1 [27] g,q⟩|no=>
   have q:f.has=false:=q
   cases k with|ex=>exact⟨.ok s,f1 [27] g,rfl,w,by show s=bif f.has then _ else s;rw[q];rfl⟩|all=>exact⟨.no,f1 [27] g,q⟩|allU=>exact⟨.no,f1 [27] g,q⟩|exU=>exact⟨.no,f1 [27] g,q⟩
  |ok u=>
   have l:f.has=true:=q.1
   cases k with
   |ex=>
    obtain⟨r,m,x⟩:=rV false s u w q.2.1;exact⟨r,f2 [27,75] g m,by show r.Good true (bif f.has then .two false s f.cty else s);rw[l,<-q.2.2];exact x⟩
   |all=>
    obtain⟨r,m,x⟩:=rV true s u w q.2.1;exact⟨r,f2 [27,114] g m,by show r.Good f.has (.two true s f.cty);rw[l,<-q.2.2];exact x⟩
   |allU=>exact⟨.ok u,f1 [27] g,l,q.2⟩|exU=>exact⟨.ok u,f1 [27] g,l,q.2⟩
def FK.a34{n:Nat}{f:Fm}(h:FK n f):∃r:TR,A 115 [f.p] r.p/\r.sz<=64/\(∀t,r=.ok t->f.has=true->t=f.cty)/\∀n,r=.er n->n=3:=by
 obtain⟨r,g,q⟩:=sV f h.shp
 cases r with|er n=>exact⟨.er n,f2 [9,16] h.a89 g,Nat.zero_le _,(λ_ h=>nomatch h),λm e=>by cases e;exact q⟩|ers s n=>exact⟨.er n,f2 [9,16] h.a89 g,Nat.zero_le _,(λ_ h=>nomatch h),λm e=>by cases e;exact q⟩|no=>exact⟨.ok .unit,f2 [9,16] h.a89 g,by decide,(λ_ _ e=>by rw[show f.has=false from q]at e;cases e),λ_ h=>nomatch h⟩|ok s=>exact⟨.ok s,f2 [9,16] h.a89 g,q.2.1,(λ_ e _=>by cases e;exact q.2.2),λ_ h=>nomatch h⟩
abbrev oC(n:Nat):List (Nat×Ob):=[(1,bx [num n,.bool false])]
def tL(k n:Nat)(h:n+k<=yA:=by omega):O 239 [.loc 1 0,.pv (num k),.pv (num 0)] (oC n) (.pv (.bool true)) (oC (n+k)):=
 o1 2 [12] (nA (a:=n) (b:=k) h)
def Tm.chk_3(t:Tm):t.chk=0\/t.chk=2\/t.chk=4:=by
 grind[Tm.chk]
def Fm.chk_3(t:Fm):t.chk=0\/t.chk=2\/t.chk=4:=by
 grind[Fm.chk]
def tV{t:Tm}(h:t.chk=0):A 186 [t.p] (.tuple [num t.cnt,num 0]):=by
 grind[Tm.chk0,fR,MD,Tm.ckn0]
def aV{f:Fm}(h:f.chk=0):A 185 [f.p] (.tuple [num f.cnt,num 0]):=by
 grind[Fm.chk0,gR,ZE,Fm.ckn0]
def UG:∀(p:Pf)(n:Nat),n+p.cnt<=yA->p.ck->O 173 [.loc 1 0,.pv p.p] (oC n) (.pv (.bool true)) (oC (n+p.cnt))
 |.leaf u i,n,c,_=>by
  have c:n+1<=yA:=c;cases u<;>cases i<;>exact o2 2 [66,81] (nA (a:=n) (b:=1)) aD
 |.refl t,n,c,h=>by
  have c:n+(1+t.cnt)<=yA:=c;rw[show n+(Pf.refl t).cnt=n+1+t.cnt by grind[Pf.cnt]];exact o4 2 [66,81,92,(95,.o [] (oC (n+1+t.cnt)) (.pv (.bool true)))] (nA (a:=n) (b:=1)) aD (tV h) (tL t.cnt (n+1))
 |.p1 k a,n,c,h=>by
  have c:n+(1+a.cnt)<=yA:=c;rw[show n+(Pf.p1 k a).cnt=n+1+a.cnt by grind[Pf.cnt]];have ga:=UG a (n+1) (by omega) h;have d:=nA (a:=n) (b:=1);cases k<;>exact o3 2 [66,81,(122,.o [] (oC (n+1+a.cnt)) (.pv (.bool true)))] d aD ga
 |.p2 k a b,n,c,h=>by
  have c:n+(1+a.cnt+b.cnt)<=yA:=c;rw[show n+(Pf.p2 k a b).cnt=n+1+a.cnt+b.cnt by grind[Pf.cnt]];have ga:=UG a (n+1) (by omega) h.1;have e:=UG b (n+1+a.cnt) (by omega) h.2;have d:=nA (a:=n) (b:=1);cases k<;>exact o4 2 [66,81,(122,.o [] (oC (n+1+a.cnt)) (.pv (.bool true))),(122,.o [] (oC (n+1+a.cnt+b.cnt)) (.pv (.bool true)))] d aD ga e
 |.impI f a,n,c,h=>by
  have c:n+(1+f.cnt+a.cnt)<=yA:=c;rw[show n+(Pf.impI f a).cnt=n+1+f.cnt+a.cnt by grind[Pf.cnt]];exact o5 2 [66,81,107,(110,.o [] (oC (n+1+f.cnt)) (.pv (.bool true))),(122,.o [] (oC (n+1+f.cnt+a.cnt)) (.pv (.bool true)))] (nA (a:=n) (b:=1)) aD (aV h.1) (tL f.cnt (n+1)) (UG a (n+1+f.cnt) (by omega) h.2)
 |.all u s a,n,c,h=>by
  have:=uA;have c:n+(1+a.cnt)<=yA:=c;rw[show n+(Pf.all u s a).cnt=n+1+a.cnt by grind[Pf.cnt]];have m:=mN s (by have:=h.1;omega);rw[(BJ h.1).1,(BJ h.1).2]at m;have ga:=UG a (n+1) (by omega) h.2;have d:=nA (a:=n) (b:=1);cases u<;>exact o3 2 [66,74,(122,.o [] (oC (n+1+a.cnt)) (.pv (.bool true)))] d m ga
 |.ins u t a,n,c,h=>by
  have c:n+(1+t.cnt+a.cnt)<=yA:=c;rw[show n+(Pf.ins u t a).cnt=n+1+t.cnt+a.cnt by grind[Pf.cnt]];have ga:=UG a (n+1+t.cnt) (by omega) h.2;have d:=nA (a:=n) (b:=1);have gt:=tV h.1;have ut:=tL t.cnt (n+1);cases u<;>exact o5 2 [66,81,92,(95,.o [] (oC (n+1+t.cnt)) (.pv (.bool true))),(122,.o [] (oC (n+1+t.cnt+a.cnt)) (.pv (.bool true)))] d aD gt ut ga
 |.ex u f t a,n,c,h=>by
  have c:n+(1+t.cnt+f.cnt+a.cnt)<=yA:=c;rw[show n+(Pf.ex u f t a).cnt=n+1+t.cnt+f.cnt+a.cnt by grind[Pf.cnt]];have ga:=UG a (n+1+t.cnt+f.cnt) (by omega) h.2.2;have d:=nA (a:=n) (b:=1);have gt:=tV h.1;have ut:=tL t.cnt (n+1);have g:=aV h.2.1;have j:=tL f.cnt (n+1+t.cnt);cases u<;>exact o7 2 [66,81,92,(95,.o [] (oC (n+1+t.cnt)) (.pv (.bool true))),107,(110,.o [] (oC (n+1+t.cnt+f.cnt)) (.pv (.bool true))),(122,.o [] (oC (n+1+t.cnt+f.cnt+a.cnt)) (.pv (.bool true)))] d aD gt ut g j ga
 |.ind l f t a b,n,c,h=>by
  have c:n+(1+t.cnt+f.cnt+a.cnt+b.cnt)<=yA:=c;rw[show n+(Pf.ind l f t a b).cnt=n+1+t.cnt+f.cnt+a.cnt+b.cnt by grind[Pf.cnt]];have ga:=UG a (n+1+t.cnt+f.cnt) (by omega) h.2.2.1;have e:=UG b (n+1+t.cnt+f.cnt+a.cnt) (by omega) h.2.2.2;have d:=nA (a:=n) (b:=1);have gt:=tV h.1;have ut:=tL t.cnt (n+1);have g:=aV h.2.1;have j:=tL f.cnt (n+1+t.cnt);cases l<;>exact o8 2 [66,81,92,(95,.o [] (oC (n+1+t.cnt)) (.pv (.bool true))),107,(110,.o [] (oC (n+1+t.cnt+f.cnt)) (.pv (.bool true))),(122,.o [] (oC (n+1+t.cnt+f.cnt+a.cnt)) (.pv (.bool true))),(122,.o [] (oC (n+1+t.cnt+f.cnt+a.cnt+b.cnt)) (.pv (.bool true)))] d aD gt ut g j ga e
 |.subst f a b,n,c,h=>by
  have c:n+(1+f.cnt+a.cnt+b.cnt)<=yA:=c;rw[show n+(Pf.subst f a b).cnt=n+1+f.cnt+a.cnt+b.cnt by grind[Pf.cnt]];exact o6 2 [66,81,107,(110,.o [] (oC (n+1+f.cnt)) (.pv (.bool true))),(122,.o [] (oC (n+1+f.cnt+a.cnt)) (.pv (.bool true))),(122,.o [] (oC (n+1+f.cnt+a.cnt+b.cnt)) (.pv (.bool true)))] (nA (a:=n) (b:=1)) aD (aV h.1) (tL f.cnt (n+1)) (UG a (n+1+f.cnt) (by omega) h.2.1) (UG b (n+1+f.cnt+a.cnt) (by omega) h.2.2)
theorem Ba(p:Pf)(h:p.cnt<=16384)(a:p.ck):A 35 [p.p] (num 0):=by
 have:=uA;have g:=UG p 0 (by omega) a;rw[Nat.zero_add]at g;have a:A 110 [p.p] (.tuple [num p.cnt,num 0]):=f2 [(10,.o [] (oC p.cnt) (.pv (.bool true))),22] g (HA h);exact f1 [7] a
open Go.Lg
abbrev u32(z:Int):PV:=.num .u32 z
theorem Ca(z:Int):0<=IntKind.u32.wrap z/\IntKind.u32.wrap z<4294967296:=by
 have:IntKind.u32.wrap z=z%4294967296:=by rfl
 omega
theorem aR{z:Int}(h:0<=z/\z<4294967296):xA z=true:=wP (by omega) (by omega)
def Ui(op:BinOp)(a b:Int):0<=LA op .u32 a b/\LA op .u32 a b<4294967296:=by
 cases op<;>first|exact Ca _|(show(0:Int)<=0/\(0:Int)<4294967296;exact⟨by decide,by decide⟩)
def dG(a b:Int):(bif DG .u32 .u32 then xA (LA .or .u32 a b)else false)=true/\u32 (LA .or .u32 a b)=u32 (LA .or .u32 a b):=⟨(show xA (LA .or .u32 a b)=true from aR (Ui .or a b)),rfl⟩
def Da(a b:Int):(bif DG .u32 .u32 then xA (LA .and .u32 a b)else false)=true/\u32 (LA .and .u32 a b)=u32 (LA .and .u32 a b):=⟨(show xA (LA .and .u32 a b)=true from aR (Ui .and a b)),rfl⟩
def eP(a:Int)(n:Nat):Int:=IntKind.u32.wrap (a*2^(min (Int.ofNat n).toNat IntKind.u32.bits))
def pw(a:Int)(n:Nat):(bif fA (.ofNat n) 0 then false else xA (IntKind.u32.wrap (a*2^(min (Int.ofNat n).toNat IntKind.u32.bits))))=true/\u32 (IntKind.u32.wrap (a*2^(min (Int.ofNat n).toNat IntKind.u32.bits)))=u32 (eP a n):=by
 refine⟨?_,rfl⟩;have h:=z0 n
 grind[fA,aR,Ca]
abbrev Vi(z:Int):List (Nat×Ob):=za 3 4 (.fn 376 [.loc 1 0]) [(1,bx [u32 z])]
abbrev aL(z:Int):List (Nat×Ob):=[(1,bx [u32 z])]
abbrev Wi(z:Int):Prop:=0<=z/\z<4294967296
def BS(P:Nat->Prop)(z:Int):Prop:=∃m:Nat,z=.ofNat m/\m<4294967296/\∀v,m.testBit v=true->P v
def BS.u{P:Nat->Prop}{z:Int}(h:BS P z):Wi z:=by
 obtain⟨m,rfl,h,_⟩:=h
 grind
def BS.mono{P Q:Nat->Prop}{z:Int}(h:BS P z)(hq:∀v,P v->Q v):BS Q z:=by
 obtain⟨m,e,h,k⟩:=h;exact⟨m,e,h,λv a=>hq v (k v a)⟩
def cL(P:Nat->Prop):BS P 0:=⟨0,rfl,by decide,λv a=>by simp at a⟩
theorem Xi{n:Nat}(h:n<4294967296):IntKind.u32.wrap (n:Int)=(n:Int):=by
 have:IntKind.u32.wrap (n:Int)=(n:Int)%4294967296:=by rfl
 omega
def tw{m k:Nat}(a:m<4294967296)(a:k<4294967296):LA .or .u32 (.ofNat m) (.ofNat k)=.ofNat (m|||k):=by
 have h:m|||k<2^32:=Nat.or_lt_two_pow (by omega) (by omega);have e:(BitVec.ofInt IntKind.u32.bits (Int.ofNat m)|||BitVec.ofInt IntKind.u32.bits (Int.ofNat k)).toNat=m|||k:=by
  show(BitVec.ofInt 32 (m:Int)|||BitVec.ofInt 32 (k:Int)).toNat=m|||k;rw[BitVec.toNat_or,BitVec.ofInt_natCast,BitVec.ofInt_natCast,BitVec.toNat_ofNat,BitVec.toNat_ofNat,Nat.mod_eq_of_lt (by omega),Nat.mod_eq_of_lt (by omega)]
 grind[LA,Xi]
theorem BS.or{P Q:Nat->Prop}{a b:Int}(c:BS P a)(d:BS Q b):BS (λv=>P v\/Q v) (LA .or .u32 a b):=by
 obtain⟨m,rfl,e,g⟩:=c;obtain⟨k,rfl,f,h⟩:=d;refine⟨m|||k,tw e f,by have:m|||k<2^32:=Nat.or_lt_two_pow (by omega) (by omega);omega,λv i=>?_⟩
 grind
def aw(n:Nat):BS (· =n) (eP 1 n):=by
 show BS (· =n) (IntKind.u32.wrap (1*2^(min n 32)));by_cases h:n<32
 ·have:2^n<2^32:=Nat.pow_lt_pow_right (by decide) h;refine⟨2^n,?_,by omega,λv a=>?_⟩
  ·grind[Xi]
  grind
 rw[Nat.min_eq_right (by omega)];exact cL _
def BS.shr{P:Nat->Prop}{z:Int}(h:BS P z)(k:Nat):BS (λv=>P (v+min k 32)) (z.fdiv (2^(min (Int.ofNat k).toNat IntKind.u32.bits))):=by
 obtain⟨m,rfl,a,b⟩:=h;show BS _ (Int.fdiv (.ofNat m) (2^(min k 32)));refine⟨m / 2^(min k 32),?_,Nat.lt_of_le_of_lt (Nat.div_le_self _ _) a,λv c=>b _ ?_⟩
 ·rw[show(2:Int)^(min k 32)=((2^(min k 32):Nat):Int) by simp,Int.fdiv_eq_ediv_of_nonneg _ (Int.natCast_nonneg _)];rfl
 grind
def BS.and1{P:Nat->Prop}{z:Int}(h:BS P z)(a:¬P 0):LA .and .u32 z 1=0:=by
 obtain⟨m,rfl,b,c⟩:=h;have e:(BitVec.ofInt IntKind.u32.bits (Int.ofNat m)&&&BitVec.ofInt IntKind.u32.bits 1).toNat=m&&&1:=by
  show(BitVec.ofInt 32 (m:Int)&&&BitVec.ofInt 32 ((1:Nat):Int)).toNat=m&&&1;rw[BitVec.toNat_and,BitVec.ofInt_natCast,BitVec.ofInt_natCast,BitVec.toNat_ofNat,BitVec.toNat_ofNat,Nat.mod_eq_of_lt (by omega)]
 unfold LA;simp only[e];have:m.testBit 0=false:=by
  grind
 rw[Nat.and_one_is_mod,show m%2=0 by simp_all];rfl
def eL:∀(t:Tm)(d:Nat)(z:Int),d+t.cnt<=qA->t.mx<=qA*qA->∀{P:Nat->Prop},BS P z->∃w,BS (λv=>P v\/t.occ (v+d)≠0) w/\O 358 [.pv t.p,.pv (num d),.loc 3 0,.loc 4 0] (Vi z) (.pv ut) (Vi w)
 |.v i,d,z,b,x,P,f=>by
  have n:=vA;have A:i<=qA*qA:=x;have b:d+1<=qA:=b;rw[n]at A;have B:=uA;by_cases h:d<=i
  ·have o:=dI (a:=i) (b:=d) h;have C:xA (Int.ofNat i-.ofNat d)=true/\Int.ofNat i-.ofNat d=.ofNat (i-d):=by
    have e:Int.ofNat i-.ofNat d=.ofNat (i-d):=by simp;omega
    rw[e];exact⟨lB (n:=i-d) (by omega),rfl⟩
   exact⟨LA .or .u32 z (eP 1 (i-d)),(f.or (aw (i-d))).mono (λv D=>D.imp id λe=>by grind[Tm.occ]),o4 5 [(15,.n [(7,.G),(11,.z (i-d)),(12,.v (u32 (eP 1 (i-d)))),(13,.v (u32 (LA .or .u32 z (eP 1 (i-d)))))])] o C (pw 1 (i-d)) (dG z (eP 1 (i-d)))⟩
  have o:=vG (a:=i) (b:=d) (by omega);exact⟨z,f.mono λ_ h=>.inl h,o1 5 [(15,.n [(7,.H)])] o⟩
 |.lam s a,d,z,b,l,P,f=>by
  have b:d+(1+a.cnt)<=qA:=b;have x:=vA;have B:=uA;obtain⟨j,v1,g⟩:=eL a (d+1) z (by omega) l f;exact⟨j,v1,o2 5 [20,(31,.o [3,4] (aL j) (.pv ut))] (nA (a:=d) (b:=1)) g⟩
 |.n0 k,d,z,b,_,P,f=>⟨z,f.mono λ_ h=>.inl h,by cases k<;>exact o0 5 []⟩|.n1 k a,d,z,b,l,P,f=>by
  have b:d+(1+a.cnt)<=qA:=b;obtain⟨j,v1,g⟩:=eL a d z (by omega) l f;exact⟨j,v1,by cases k<;>exact o1 5 [(31,.o [3,4] (aL j) (.pv ut))] g⟩
 |.n2 k a c,d,z,b,l,P,f=>by
  have b:d+(1+a.cnt+c.cnt)<=qA:=b;have l:max a.mx c.mx<=qA*qA:=l;obtain⟨j,v1,g⟩:=eL a d z (by omega) (by omega) f;obtain⟨m,p,r⟩:=eL c d j (by omega) (by omega) v1;exact⟨m,p.mono (λv h=>by
   show P v\/a.occ (v+d)+c.occ (v+d)≠0
   grind),by cases k<;>exact o2 5 [(31,.o [3,4] (aL j) (.pv ut)),(31,.o [3,4] (aL m) (.pv ut))] g r⟩
 |.n3 k s a c e,d,z,b,l,P,f=>by
  have b:d+(1+a.cnt+c.cnt+e.cnt)<=qA:=b;have l:max a.mx (max c.mx e.mx)<=qA*qA:=l;obtain⟨j,v1,g⟩:=eL a d z (by omega) (by omega) f;obtain⟨m,p,r⟩:=eL c d j (by omega) (by omega) v1;obtain⟨y,E,u⟩:=eL e d m (by omega) (by omega) p;exact⟨y,E.mono (λv h=>by
   show P v\/a.occ (v+d)+c.occ (v+d)+e.occ (v+d)≠0
   grind),by cases k<;>exact o3 5 [(31,.o [3,4] (aL j) (.pv ut)),(31,.o [3,4] (aL m) (.pv ut)),(31,.o [3,4] (aL y) (.pv ut))] g r u⟩
def TK.a240{n:Nat}{t:Tm}(h:TK n t)(a:n<=iA):∃z,BS (λv=>t.occ v≠0) z/\A 340 [t.p] (u32 z):=by
 have b:=vA;obtain⟨z,v,g⟩:=eL t 0 0 (by have:=h.cnt;omega) (by have:=h.mx a;rw[b];omega) (cL λ_=>False);exact⟨z,v.mono λ_ h=>h.elim False.elim id,f1 [(6,.n [(8,.o [3,4] (aL z) (.pv ut))])] g⟩
def cV(z:Int)(k:Nat)(b:k<=32){P:Nat->Prop}(c:BS P z):∃a,BS (λv=>P (v+k)) a/\A 339 [u32 z,num k] (u32 a):=by
 have a:=c.shr k;have h:=a.u;rw[Nat.min_eq_left b]at a;have g:(bif fA (.ofNat k) 0 then false else xA (z.fdiv (2^(min (Int.ofNat k).toNat IntKind.u32.bits))))=true/\u32 (z.fdiv (2^(min (Int.ofNat k).toNat IntKind.u32.bits)))=u32 (z.fdiv (2^(min (Int.ofNat k).toNat IntKind.u32.bits))):=by
  have:=z0 k
  grind[fA,aR]
 exact⟨_,a,f1 [(7,.v (u32 (z.fdiv (2^(min (Int.ofNat k).toNat IntKind.u32.bits)))))] g⟩
abbrev kC(h:Fm×Nat):List PV:=[num h.1.kd,num h.1.tk,.slice h.1.te,.slice h.1.ts,.slice h.1.es,num h.2]
def Yi(h:Fm×Nat):(kC h).length=6:=rfl
abbrev yD(g:List Ty)(H:List (Fm×Nat)):PV:=.agg [num g.length,num (H.map kC).length,IB g,.slice (H.map kC)]
def cR(v h a b:Nat)(c:v+a<=16)(d:h+b<=16):A 335 [.agg [num v,num h],num a,num b] (num 0):=by
 have:=uA;exact f4 [10,11,16,17] (nA (a:=v) (b:=a)) (HA (a:=16) (b:=v+a) c) (nA (a:=h) (b:=b)) (HA (a:=16) (b:=h+b) d)
def Ea(g:List Ty)(H:List (Fm×Nat))(s:Ty)(a:g.length<=qA:=by omega)(h:s.size<=yA:=by omega):A 337 [yD g H,OA [s]] (yD (g++[s]) H):=by
 have:=vA;have:=uA;rw[show yD (g++[s]) H=.agg [num (g.length+1),num (H.map kC).length,IB (g++[s]),.slice (H.map kC)] by simp[yD]];exact f2 [8,15] (lR g s a h) (nA (a:=g.length) (b:=1))
def cw(g:List Ty)(H:List (Fm×Nat))(s u:Ty)(a:g.length<=qA)(h:s.size<=yA)(b:u.size<=yA):A 337 [yD g H,OA [s,u]] (yD (g++[s,u]) H):=by
 have:=vA;have:=uA;rw[show yD (g++[s,u]) H=.agg [num (g.length+2),num (H.map kC).length,IB (g++[s,u]),.slice (H.map kC)] by simp[yD]];exact f2 [8,15] (kv g s u a h b) (nA (a:=g.length) (b:=2))
def eV(g:List Ty)(H:List (Fm×Nat))(f:Fm)(a:H.length<=qA:=by omega):A 285 [yD g H,f.p] (yD g (H++[(f,g.length)])):=by
 have:=vA;have:=uA;have a:=jG (H.map kC).length;have b:=lF 6 96 Yi (by decide) H (f,g.length) (by omega) (by simp only[maxLen];omega);have c:=nA (a:=(H.map kC).length) (b:=1) (by simp;omega);rw[show yD g (H++[(f,g.length)])=.agg [num g.length,num ((H.map kC).length+1),IB g,.slice (H.map kC++[kC (f,g.length)])] by simp[yD]];exact f3 [(13,.ok),(20,.ok),25] a b c
abbrev vw(n:Nat)(H:List (Fm×Nat)):List Fm:=H.map λh=>h.1.sh 0 (.ofNat (n-h.2))
structure PlOK(g:List Ty)(H:List (Fm×Nat)):Prop where
 gl:g.length<=16
 gs:∀s∈g,s.size<=64
 hl:H.length<=16
 hs:∀h∈H,FK h.2 h.1/\h.2<=g.length
def eR(n:Nat)(H:List (Fm×Nat)):(vw n H).length=H.length:=by simp
theorem FK.sh{n:Nat}{f:Fm}(h:FK n f)(c z:Nat):FK (n+z) (f.sh c (.ofNat z)):=⟨by rw[XE];exact h.cnt,by rw[yP];exact h.shp,xI z f c n h.sc⟩
def iw(g:List Ty)(H:List (Fm×Nat))(b:PlOK g H)(i:Nat):(H.length<=i/\A 332 [yD g H,num i] (.tuple [.agg zF,.bool false]))\/∃f,i<H.length/\(vw g.length H)[H.length-1-i]? =some f/\FK g.length f/\A 332 [yD g H,num i] (.tuple [f.p,.bool true]):=by
 have d:=vA;have s:=uA;have t:=b.hl;have u:=b.gl;have j:iA=100000:=rfl;by_cases h:i<H.length
 ·right;obtain⟨⟨f,v⟩,c⟩:∃x,H[H.length-1-i]? =some x:=⟨_,List.getElem?_eq_getElem (by omega)⟩;obtain⟨a,k⟩:=b.hs _ (List.mem_of_getElem? c);simp only at a k;refine⟨f.sh 0 (.ofNat (g.length-v)),h,by simp_all,?_,?_⟩
  ·have:=a.sh 0 (g.length-v);rwa[show v+(g.length-v)=g.length by omega]at this
  have l:=vG (a:=i) (b:=(H.map kC).length) (by simp_all);have m:=rD (a:=(H.map kC).length) (by simp;omega) (by simp;omega);have n:xA (Int.ofNat ((H.map kC).length-1)-.ofNat i)=true/\Int.ofNat ((H.map kC).length-1)-.ofNat i=.ofNat (H.length-1-i):=by
   have e:Int.ofNat ((H.map kC).length-1)-.ofNat i=.ofNat (H.length-1-i):=by simp;omega
   rw[e];exact⟨lB (n:=H.length-1-i) (by omega),rfl⟩
  have o:TB (H.map kC) (H.length-1-i)=some (kC (f,v))/\YB 6 (H.map kC)=true:=kB c Yi;have p:xA (Int.ofNat g.length-.ofNat v)=true/\Int.ofNat g.length-.ofNat v=.ofNat (g.length-v):=by
   have e:Int.ofNat g.length-.ofNat v=.ofNat (g.length-v):=by simp;omega
   rw[e];exact⟨lB (n:=g.length-v) (by omega),rfl⟩
  have r:=iI f 0 (g.length-v) (by omega) (by have:=a.cnt;omega) (by have:=a.mx (by omega);rw[d];omega);exact f6 [11,18,20,(21,.i (kC (f,v))),30,31] l m n o p r
 left;refine⟨by omega,?_⟩;exact f1 [11] (dI (a:=i) (b:=(H.map kC).length) (by simp;omega))
def Jt.OK(d:List Fm):Nat->List Fm->Jt->Prop
 |n,c,.leaf u i f=>FK n f/\match u with
  |false=>i<c.length/\c[c.length-1-i]? =some f|true=>d[i]? =some f
 |n,_,.refl t=>TK n t/\FK n (.eq t t)|n,c,.p1 k a f=>FK n f/\a.OK d n c/\match k with
  |.andL=>∃y,a.f=.bin .and f y|.andR=>∃x,a.f=.bin .and x f|.choice=>∃s u x,a.f=.q .all s (.q .ex u x)/\∃y,(x.sh 2 (.ofNat 1)).pt vapp=.ok y/\f=.q .ex (.two true s u) (.q .all s y)
 |n,c,.p2 k a b f=>FK n f/\a.OK d n c/\match k with
  |.andI=>b.OK d n c/\f=.bin .and a.f b.f|.impE=>b.OK d n c/\∃x,a.f=.bin .imp x f|.exE=>b.OK d (n+1) (bA 1 c++[a.f.bd])/\(∃s,a.f=.q .ex s a.f.bd)/\nC b.f=some f|.exUE=>b.OK d (n+1) (bA 1 c++[a.f.bd])/\(∃s,a.f=.q .exU s a.f.bd)/\nC b.f=some f
 |n,c,.impI x a=>FK n x/\FK n (.bin .imp x a.f)/\a.OK d n (c++[x])|n,c,.all u s a=>s.size<=64/\FK n (.q (aq u) s a.f)/\a.OK d (n+1) (bA 1 c)|n,c,.ins u t a f=>FK n f/\TK n t/\a.OK d n c/\∃s x,a.f=.q (aq u) s x/\x.pt t=.ok f|n,c,.ex u x t a=>FK n x/\TK n t/\a.OK d n c/\(∃s,x=.q (AH u) s x.bd)/\a.f.er=x.bd.er|n,c,.ind l x t a b f=>FK n f/\FK (n+1) x/\TK n t/\a.OK d n c/\x.pt t=.ok f/\(a.f.er=x.er/\b.f.er=x.er)/\match l with
  |false=>b.OK d (n+1) (bA 1 c++[x])|true=>b.OK d (n+2) (bA 2 c++[x.sh 1 (.ofNat 1)])
 |n,c,.subst x a b f=>FK n f/\FK (n+1) x/\a.OK d n c/\b.OK d n c/\b.f.er=x.er/\∃t u,a.f=.eq t u/\x.pt u=.ok f
def ow:Ob:=.smap false [(.int 1,.fn 271 []),(.int 2,.fn 272 []),(.int 3,.fn 273 []),(.int 4,.fn 274 []),(.int 5,.fn 274 []),(.int 6,.fn 275 []),(.int 7,.fn 276 []),(.int 8,.fn 277 []),(.int 12,.fn 277 []),(.int 9,.fn 278 []),(.int 13,.fn 278 []),(.int 10,.fn 279 []),(.int 14,.fn 279 []),(.int 11,.fn 280 []),(.int 15,.fn 280 []),(.int 16,.fn 281 []),(.int 17,.fn 281 []),(.int 18,.fn 282 []),(.int 19,.fn 283 []),(.int 20,.fn 284 [])]
abbrev VG(ls:List Fm):List (Nat×Ob):=[(3,ow),(4,.box [.pv (dA ls),.map 3])]
abbrev AB(y:Sy)(z:Int)(e:Nat):PV:=.tuple [.agg [num y.k,num y.tk,.slice y.te,.slice y.ts,.slice y.es,u32 z],num e]
def Jt.u0:Jt->Nat->Prop
 |.leaf _ _ _,_=>False|.refl _,_=>False|.p1 _ a _,v=>a.us v|.p2 k a b _,v=>a.us v\/match k with
  |.andI=>b.us v|.impE=>b.us v|_=>b.us (v+1)
 |.impI _ a,v=>a.us v|.all _ _ a,v=>a.us (v+1)|.ins u t a _,v=>a.us v\/u=false/\t.occ v≠0|.ex u _ t a,v=>a.us v\/u=false/\t.occ v≠0|.ind l _ t a b _,v=>t.occ v≠0\/a.us v\/b.us (v+lN l)|.subst _ _ b _,v=>b.us v
def xw{j:Jt}{v:Nat}(h:j.f.has=true)(k:j.u0 v):j.us v:=by
 cases j<;>first|exact k.elim|exact⟨h,k⟩
def KI(a:List Fm)(j:Jt):Prop:=∀g H,PlOK g H->j.D a g (vw g.length H)->j.p.ck->FK g.length j.f/\∃z,BS j.us z/\O 220 [.loc 4 0,.pv j.p.p,.pv (yD g H)] (VG a) (.pv (AB j.f.y z 0)) (VG a)
def Pf.kf:Pf->Nat|.leaf false _=>271|.leaf true _=>272|.p2 .andI _ _=>273|.p1 .choice _=>284|.p1 _ _=>274|.impI _ _=>275|.p2 .impE _ _=>276|.p2 _ _ _=>280|.all _ _ _=>277|.ins _ _ _=>278|.ex _ _ _ _=>279|.ind _ _ _ _ _=>281|.refl _=>282|.subst _ _ _=>283
def KR(a:List Fm)(j:Jt):Prop:=∀g H,PlOK g H->j.D a g (vw g.length H)->j.p.ck->j.f.sc g.length/\∃z,BS j.u0 z/\O j.p.kf [.loc 4 0,.pv j.p.p,.pv (yD g H)] (VG a) (.pv (AB j.f.y z 0)) (VG a)
def ki{d:List Fm}(j:Jt)(h:KR d j):KI d j:=by
 intro g H e f m;obtain⟨n,z,o,a⟩:=h g H e f m;have i:=BH f;have b:FK g.length j.f:=⟨(Fm.chk0 i).1,(Fm.chk0 i).2,n⟩;have k:=b.a89;have c:=b.a70 (by have:=e.gl;have:iA=100000:=rfl;omega);refine⟨b,?_⟩;generalize j.p=p at a;cases l:j.f.has<;>rw[l]at c
 ·refine⟨0,cL _,?_⟩;cases p<;>(try cases ‹Bool›)<;>(try cases ‹P1›)<;>(try cases ‹P2›)<;>exact o3 5 [(23,.o [3,4] [] (.pv (AB j.f.y z 0))),32,38] a k c
 refine⟨z,o.mono λv r=>xw l r,?_⟩;cases p<;>(try cases ‹Bool›)<;>(try cases ‹P1›)<;>(try cases ‹P2›)<;>exact o3 5 [(23,.o [3,4] [] (.pv (AB j.f.y z 0))),32,38] a k c
open Go.Lg
def FK.cn{n:Nat}{f:Fm}(h:FK n f):f.cnt<=qA:=by
 have:=vA;have:=h.cnt;omega
def eN{a:List Fm}{j:Jt}(h:KI a j){g:List Ty}{H:List (Fm×Nat)}(b:PlOK g H)(c:j.D a g (vw g.length H))(d:j.p.ck){k:Nat}(e:j.f.kd=k):FK g.length j.f/\∃z,BS j.us z/\O 334 [.loc 4 0,.pv j.p.p,.pv (yD g H),.pv (num k)] (VG a) (.pv (AB j.f.y z 0)) (VG a):=by
 obtain⟨f,z,i,l⟩:=h g H b c d;exact⟨f,z,i,o2 5 [(16,.o [3,4] [] (.pv (AB j.f.y z 0))),26] l (wC e)⟩
def iP{a:List Fm}{j:Jt}(h:KI a j){g:List Ty}{H:List (Fm×Nat)}(b:PlOK g H)(k:j.D a g (vw g.length H))(l:j.p.ck){f w:Fm}{t:Tm}(c:FK (g.length+1) f)(d:TK g.length t)(e:f.pt t=.ok w)(m:w.mt j.f):∃z,BS j.us z/\O 344 [.loc 4 0,.pv j.p.p,.pv (yD g H),.pv f.p,.pv t.p] (VG a) (.pv (AB j.f.y z 0)) (VG a):=by
 have:iA=100000:=rfl;have:=b.gl;obtain⟨n,z,o,p⟩:=h g H b k l;have i:=aP c d;rw[e]at i;exact⟨z,o,o3 5 [(19,.o [3,4] [] (.pv (AB j.f.y z 0))),29,40] p i (Ji (c.pt d e).2 n (by omega) m)⟩
def Aw{c:List Fm}{i:Nat}{f:Fm}:KR c (.leaf false i f):=by
 intro g H d e m;obtain⟨_,j,a⟩:=e;rw[eR]at j a;rcases iw g H d i with ⟨h,_⟩|⟨n,_,b,k,l⟩
 ·omega
 rw[a]at b;cases b;exact⟨k.sc,0,cL _,o1 5 [14] l⟩
def Bw{a:List Fm}{i:Nat}{f:Fm}(c:∀f∈a,FK 0 f):KR a (.leaf true i f):=by
 intro g H e d j;obtain⟨_,b⟩:=d;have h:=(List.getElem?_eq_some_iff.1 b).1;exact⟨((c f (List.mem_of_getElem? b)).up (Nat.zero_le g.length)).sc,0,cL _,o2 5 [15,(23,.i f.c)] (vG (a:=i) (b:=(a.map Fm.c).length) (by simp_all)) (kB b Fm.c_len)⟩
def Cw{c:List Fm}{a b:Jt}{f:Fm}(j:KI c a)(k:KI c b):KR c (.p2 .andI a b f):=by
 intro g H h l i;obtain⟨_,m,n,rfl⟩:=l;obtain⟨o,z,p,r⟩:=j g H h m i.1;obtain⟨fb,d,e,s⟩:=k g H h n i.2;exact⟨⟨o.sc,fb.sc⟩,_,p.or e,o3 5 [(18,.o [3,4] [] (.pv (AB a.f.y z 0))),(32,.o [3,4] [] (.pv (AB b.f.y d 0))),(49,.v (u32 (LA .or .u32 z d)))] r s (dG z d)⟩
def Dw{b:List Fm}{a:Jt}{f:Fm}(h:KI b a):KR b (.p1 .andL a f):=by
 intro g H i j k;obtain⟨_,l,y,e⟩:=j;obtain⟨c,z,m,d⟩:=eN h i l k (k:=2) (by rw[e];rfl);rw[e]at d c;exact⟨c.bin1.sc,z,m,o1 5 [(18,.o [3,4] [] (.pv (AB (Fm.bin .and f y).y z 0)))] d⟩
def Ew{b:List Fm}{a:Jt}{f:Fm}(h:KI b a):KR b (.p1 .andR a f):=by
 intro g H i j k;obtain⟨_,l,y,e⟩:=j;obtain⟨c,z,m,d⟩:=eN h i l k (k:=2) (by rw[e];rfl);rw[e]at d c;exact⟨c.bin2.sc,z,m,o1 5 [(18,.o [3,4] [] (.pv (AB (Fm.bin .and y f).y z 0)))] d⟩
def PlOK.with{g:List Ty}{H:List (Fm×Nat)}(h:PlOK g H){f:Fm}(b:FK g.length f)(c:H.length+1<=16):PlOK g (H++[(f,g.length)]):=by
 refine⟨h.gl,h.gs,by simp_all,λx a=>?_⟩;rcases List.mem_append.1 a with a|a
 ·exact h.hs x a
 simp_all
def iV(n:Nat)(H:List (Fm×Nat))(f:Fm):vw n (H++[(f,n)])=vw n H++[f]:=by
 simp only[vw,List.map_append,List.map_cons,List.map_nil,Nat.sub_self,Ci]
def Fw{h:List Fm}{f:Fm}{a:Jt}(k:KI h a):KR h (.impI f a):=by
 intro g H c l m;obtain⟨_,⟨b,n⟩,i,o⟩:=l;have:=vA;have:=c.gl;rw[eR]at i;obtain⟨e,p,r,s⟩:=nN f g c.gs (Fm.chk0 b).2 (by have:=(Fm.chk0 b).1;omega);obtain rfl:=s n;have j:FK g.length f:=⟨(Fm.chk0 b).1,(Fm.chk0 b).2,r rfl⟩;have d:=c.with j i;obtain⟨t,z,u,v⟩:=k g _ d (by rw[iV];exact o) m.2;exact⟨⟨j.sc,t.sc⟩,z,u,o4 5 [20,27,40,(41,.o [3,4] [] (.pv (AB a.f.y z 0)))] p (cR g.length (H.map kC).length 0 1 (by omega) (by simp_all)) (eV g H f) v⟩
def Gw{c:List Fm}{a b:Jt}{f:Fm}(m:KI c a)(n:KI c b):KR c (.p2 .impE a b f):=by
 intro g H d o k;have:=d.gl;obtain⟨_,p,r,x,e,s⟩:=o;obtain⟨h,z,t,l⟩:=eN m d p k.1 (k:=3) (by rw[e];rfl);rw[e]at l h;obtain⟨fb,i,j,u⟩:=n g H d r k.2;exact⟨h.bin2.sc,_,t.or j,o4 5 [(19,.o [3,4] [] (.pv (AB (Fm.bin .imp x f).y z 0))),(33,.o [3,4] [] (.pv (AB b.f.y i 0))),47,(61,.v (u32 (LA .or .u32 z i)))] l u (Ji h.bin1 fb (by omega) s) (dG z i)⟩
def PlOK.below1{g:List Ty}{H:List (Fm×Nat)}(h:PlOK g H){s:Ty}(b:s.size<=64)(c:g.length+1<=16):PlOK (g++[s]) H:=by
 refine⟨by simp_all,λx a=>?_,h.hl,λx a=>?_⟩
 ·rcases List.mem_append.1 a with a|a
  ·exact h.gs x a
  simp_all
 have:=h.hs x a
 grind
def PlOK.below2{g:List Ty}{H:List (Fm×Nat)}(h:PlOK g H){s u:Ty}(b:s.size<=64)(c:u.size<=64)(d:g.length+2<=16):PlOK (g++[s,u]) H:=by
 refine⟨by simp_all,λx a=>?_,h.hl,λx a=>?_⟩
 ·rcases List.mem_append.1 a with a|a
  ·exact h.gs x a
  grind
 have:=h.hs x a
 grind
def iR(k n:Nat):∀(H:List (Fm×Nat)),(∀h∈H,h.2<=n)->vw (n+k) H=bA k (vw n H)
 |[],_=>rfl|(f,v)::H,h=>by
  have a:=iR k n H (λx b=>h x (by simp[b]));have:v<=n:=h (f,v) (by simp);simp only[vw,bA,List.map_cons]at a⊢;rw[a,Bi,show n-v+k=n+k-v by omega]
def Hw{b:List Fm}{u:Bool}{s:Ty}{a:Jt}(r:KI b a){g:List Ty}{H:List (Fm×Nat)}(c:PlOK g H)(h:(Pf.all u s a.p).ck)(i:g.length+1<=16)(t:a.D b (g++[s]) (bA 1 (vw g.length H)))(v:u=true->¬a.us 0):(Jt.all u s a).f.sc g.length/\∃z,BS (Jt.all u s a).u0 z/\O 277 [.loc 4 0,.pv (Pf.all u s a.p).p,.pv (yD g H)] (VG b) (.pv (AB (Jt.all u s a).f.y z 0)) (VG b):=by
 have w:s.size<=64:=h.1;have:=vA;have:=uA;have D:=c.hl;have j:=cR g.length (H.map kC).length 1 0 i (by simp_all);have d:=c.below1 w i;have k:=Ea g H s;have l:(g++[s]).length=g.length+1:=by simp
 obtain⟨m,z,n,o⟩:=r _ H d (by rw[l,iR 1 g.length H λx y=>(c.hs x y).2];exact t) h.2;rw[l]at m;obtain⟨A,f,p⟩:=cV z 1 (by decide) n;refine⟨m.sc,A,f,?_⟩;cases u
 ·exact o4 5 [14,29,(30,.o [3,4] [] (.pv (AB a.f.y z 0))),53] j k o p
 have e:(!fB (LA .and .u32 z 1) 0)=false:=by rw[n.and1 (v rfl)];rfl
 exact o6 5 [14,29,(30,.o [3,4] [] (.pv (AB a.f.y z 0))),(42,.v (u32 (LA .and .u32 z 1))),43,53] j k o (Da z 1) e p
def Iw{b:List Fm}{u:Bool}{s:Ty}{a:Jt}(c:KI b a):KR b (.all u s a):=λ_ _ d b e=>Hw c d e b.2.1 b.2.2.1 b.2.2.2
def Zi(s:Ty)(h:s.size<=64):A 341 [.agg (WA s),s.p] (.bool true):=by
 have:=uA;obtain⟨r,g,e⟩:=UZ s s;rw[(nD s s).2 rfl]at e;subst e;exact f2 [7,8] (LD s) g
def JJ{g:List Ty}{t:Tm}{s:Ty}(c:∀s∈g,s.size<=64)(i:g.length<=16)(h:t.chk=0)(e:t.tyR g=.ok s):A 182 [IB g,t.p] (TR.ok s).q/\TK g.length t:=by
 have:=vA;obtain⟨d,a⟩:=Tm.chk0 h;obtain⟨r,f,_,q,b⟩:=CJ t g c a (by omega);rw[e]at b;subst b;exact⟨f,d,a,q s rfl⟩
def Jw{n:List Fm}{u:Bool}{t:Tm}{a:Jt}{f:Fm}(A:KI n a):KR n (.ins u t a f):=by
 intro g H d B C;obtain⟨_,D,E,s,x,i,e,b⟩:=B;have F:=d.gl;have:iA=100000:=rfl;obtain⟨o,j⟩:=JJ d.gs F D i;obtain⟨p,k,r⟩:=j.a240 (by omega);obtain⟨c,z,w,l⟩:=eN A d E C.2 (k:=(aq u).n) (by rw[e];rfl);rw[e]at l c;have y:=Zi s c.qs;have m:=aP c.qf j;rw[b]at m;refine⟨(c.qf.pt j b).2.sc,?_⟩;cases u
 ·exact⟨_,(w.or k).mono λv h=>h.imp id λh=>⟨rfl,h⟩,o6 5 [23,31,(43,.o [3,4] [] (.pv (AB (Fm.q .all s x).y z 0))),54,64,(71,.v (u32 (LA .or .u32 z p)))] o r l y m (dG z p)⟩
 exact⟨_,(w.or (cL λ_=>False)).mono λv h=>h.imp id False.elim,o6 5 [23,31,(43,.o [3,4] [] (.pv (AB (Fm.q .allU s x).y z 0))),54,64,(71,.v (u32 (LA .or .u32 z 0)))] o r l y m (dG z 0)⟩
def Kw{n:List Fm}{u:Bool}{f:Fm}{t:Tm}{a:Jt}(D:KI n a):KR n (.ex u f t a):=by
 intro g H b E F;obtain⟨⟨c,d⟩,G,I,s,x,w,i,rfl,j,k⟩:=E;have:=vA;have J:=b.gl;have:iA=100000:=rfl;obtain⟨e,o,L,M⟩:=nN (.q (AH u) s x) g b.gs (Fm.chk0 c).2 (by have:=(Fm.chk0 c).1;omega);obtain rfl:=M d;have l:FK g.length (.q (AH u) s x):=⟨(Fm.chk0 c).1,(Fm.chk0 c).2,L rfl⟩;obtain⟨p,r⟩:=JJ b.gs J G i;have y:=Zi s l.qs;obtain⟨z,A,B⟩:=iP D b I F.2.2 l.qf r j k;refine⟨l.sc,?_⟩;cases u
 ·obtain⟨C,m,N⟩:=r.a240 (by omega);exact⟨_,(A.or m).mono λv h=>h.imp id λh=>⟨rfl,h⟩,o6 5 [30,44,54,(69,.o [3,4] [] (.pv (AB a.f.y z 0))),81,(82,.v (u32 (LA .or .u32 z C)))] o p y B N (dG z C)⟩
 exact⟨_,(A.or (cL λ_=>False)).mono λv h=>h.imp id False.elim,o5 5 [30,44,54,(69,.o [3,4] [] (.pv (AB a.f.y z 0))),(82,.v (u32 (LA .or .u32 z 0)))] o p y B (dG z 0)⟩
open Go.Lg
def Fa{n:Nat}{f g:Fm}(h:FK (n+1) f)(j:n+1<=90000)(e:nC f=some g):g.sc n/\g.shp=true/\g.cnt<=16777216:=by
 have k:iA=100000:=rfl;have c:=h.cnt;unfold nC at e;split at e
 ·rename_i a;cases e;have:=h.low a;exact⟨this.sc,this.shp,by have:=this.cnt;omega⟩
 split at e
 ·rename_i y b;split at e
  ·rename_i a;cases e;obtain⟨d,i,l⟩:=cP f (n+1) h (by omega) y b;refine⟨pN _ n y 0 d (.inr a),qL 0 _ y 0 (.inr a) i,?_⟩;rw[Aa a];omega
  cases e
 cases e
def Lw{d:List Fm}{t:Tm}:KR d (.refl t):=by
 intro g H c f l;obtain⟨_,h,a⟩:=f;have:=vA;have i:=c.gl;obtain⟨_,b⟩:=JJ c.gs i h a;obtain⟨e,j,_,k⟩:=XZ g t c.gs b.shp (by have:=b.cnt;omega);obtain rfl:=k a;exact⟨⟨b.sc,b.sc⟩,0,cL _,o2 5 [17,24] j (Ri t t)⟩
def Ia{g:List Ty}{f:Fm}{s:Ty}(j:∀s∈g,s.size<=64)(k:g.length<=16)(l:s.size<=64)(h:f.chk=0)(a:f.ty (g++[s])):A 331 [IB (g++[s]),f.p] (num 0)/\FK (g.length+1) f:=by
 have m:=vA;have b:(g++[s]).length=g.length+1:=by simp
 obtain⟨e,c,d,i⟩:=nN f (g++[s]) (λx n=>by
  grind) (Fm.chk0 h).2 (by have:=(Fm.chk0 h).1;omega)
 obtain rfl:=i a;exact⟨c,(Fm.chk0 h).1,(Fm.chk0 h).2,by have:=d rfl;rwa[b]at this⟩
def Mw{i:List Fm}{f r:Fm}{a b:Jt}(x:KI i a)(y:KI i b):KR i (.subst f a b r):=by
 intro g H d A o;obtain⟨_,⟨B,j⟩,C,D,t,u,w,e,k,l,c⟩:=A;have:=vA;have E:=d.gl;have:iA=100000:=rfl;have G:=lR g .nat (by omega) (by decide);obtain⟨I,m⟩:=Ia d.gs E (s:=.nat) (by decide) B j;obtain⟨h,z,_,p⟩:=eN x d C o.2.1 (k:=1) (by rw[e];rfl);rw[e]at p h;obtain⟨s,n,J⟩:=iP y d D o.2.2 m h.eq1 k l;have v:=aP m h.eq2;rw[c]at v;exact⟨(m.pt h.eq2 c).2.sc,s,n,o6 5 [20,22,24,(36,.o [3,4] [] (.pv (AB (Fm.eq t u).y z 0))),(56,.o [3,4] [] (.pv (AB b.f.y s 0))),70] GJ G I p J v⟩
def Nw(s u:Ty):A 352 [u.p,OA [s]] (Ty.two true s u).p:=f0 []
def Ja(n:Nat):TK (n+2) vapp:=⟨by decide,rfl,⟨by show 1<n+2;omega,by show 0<n+2;omega⟩⟩
def Ow{h:List Fm}{a:Jt}{f:Fm}(o:KI h a):KR h (.p1 .choice a f):=by
 intro g H i p r;obtain⟨_,t,s,u,x,e,c,y,b,rfl⟩:=p;have v:=vA;have:=uA;have:=i.gl;have:iA=100000:=rfl;obtain⟨j,z,A,k⟩:=eN o i t r (k:=4) (by rw[e];rfl);rw[e]at k j;have B:=j.qf;have d:=B.qf;have C:=iI x 2 1 (by omega) (by have:=d.cnt;omega) (by have:=d.mx (by omega);rw[v];omega);have l:=d.sh 2 1;have m:=aP (n:=g.length+2) (f:=x.sh 2 (.ofNat 1)) (t:=vapp) l (Ja g.length);rw[b]at m;have D:=(FK.pt (n:=g.length+2) l (Ja g.length) b).2;have n:=TZ (.two true s u);rw[(BJ c).2]at n;exact⟨D.sc,z,A,o8 5 [(21,.o [3,4] [] (.pv (AB (Fm.q .all s (.q .ex u x)).y z 0))),43,49,50,51,53,54,61] k (Nw s u) C (BI 1) (BI 0) (Qi (.v 1) (.v 0)) m n⟩
def qj{d:List Fm}(u:Bool){a b:Jt}{f:Fm}(G:KI d a)(I:KI d b)(g:List Ty)(H:List (Fm×Nat))(i:PlOK g H)(l:a.p.ck)(m:b.p.ck)(s:Ty)(J:a.D d g (vw g.length H))(e:a.f=.q (AH u) s a.f.bd)(K:b.D d (g++[s]) (bA 1 (vw g.length H)++[a.f.bd]))(n1:g.length+1<=16)(n2:(vw g.length H).length+1<=16)(w:nC b.f=some f)(L:u=true->¬b.us 0):
  f.sc g.length/\∃z,BS (λv=>a.us v\/b.us (v+1)) z/\O 280 [.loc 4 0,.pv (Pf.p2 (ek u) a.p b.p).p,.pv (yD g H)] (VG d) (.pv (AB f.y z 0)) (VG d):=by
 have:=vA;have:=uA;have:=i.gl;have T:=i.hl;have:iA=100000:=rfl;rw[eR]at n2;generalize y:a.f.bd=x at *
 obtain⟨n,z,N,o⟩:=eN G i J l (k:=(AH u).n) (by rw[e];cases u<;>rfl);rw[e]at o n;have P:=n.qs;have A:=cR g.length (H.map kC).length 1 1 n1 (by simp_all);have p:(g++[s]).length=g.length+1:=by simp
 have r:FK (g++[s]).length x:=by rw[p];exact n.qf
 have t:=(i.below1 P n1).with r n2;have B:=Ea g H s;have C:=eV (g++[s]) H x;obtain⟨fb,h,j,D⟩:=I _ _ t (by rw[iV,p,iR 1 g.length H λx y=>(i.hs x y).2];exact K) m;rw[p]at fb;have E:=Wv fb (by omega) w;obtain⟨w1,_⟩:=Fa fb (by omega) w;obtain⟨c,k,F⟩:=cV h 1 (by decide) j;refine⟨w1,_,N.or k,?_⟩;cases u
 ·exact o8 5 [(27,.o [3,4] [] (.pv (AB (Fm.q .ex s x).y z 0))),36,52,58,(59,.o [3,4] [] (.pv (AB b.f.y h 0))),69,89,(90,.v (u32 (LA .or .u32 z c)))] o A B C D E F (dG z c)
 have e:(!fB (LA .and .u32 h 1) 0)=false:=by rw[j.and1 (L rfl)];rfl
 exact aH 5 [(27,.o [3,4] [] (.pv (AB (Fm.q .exU s x).y z 0))),36,52,58,(59,.o [3,4] [] (.pv (AB b.f.y h 0))),69,(80,.v (u32 (LA .and .u32 h 1))),81,89,(90,.v (u32 (LA .or .u32 z c)))] o A B C D E (Da h 1) e F (dG z c)
def Pw{c:List Fm}{a b:Jt}{f:Fm}(i:KI c a)(j:KI c b):KR c (.p2 .exE a b f):=by
 intro g H k l d;obtain⟨_,m,⟨s,e,n⟩,⟨n1,n2⟩,o⟩:=l;exact qj false i j g H k d.1 d.2 s m e n n1 n2 o (λh=>nomatch h)
def Qw{c:List Fm}{a b:Jt}{f:Fm}(h:KI c a)(i:KI c b):KR c (.p2 .exUE a b f):=by
 intro g H j k d;obtain⟨_,l,⟨s,e,m⟩,⟨n1,n2⟩,n,o⟩:=k;exact qj true h i g H j d.1 d.2 s l e m n1 n2 n (λ_=>o)
abbrev sucT1:Tm:=.n1 .succ (.v 0)
abbrev conT:Tm:=.n2 .cons (.v 1) (.v 0)
abbrev Rw:PV:=.agg ([num 1]++(Tm.n0 .zero).c++[OA [.nat]]++sucT1.c)
abbrev Sw:PV:=.agg ([num 2]++(Tm.n0 .nil).c++[OA [.nat,.list]]++conT.c)
def Tw:A 370 [] Ty.list.p:=f0 []
def Uw:A 346 [num 16] Rw:=f4 [5,6,8,10] (lV .zero) GJ (BI 0) (Ni .succ (.v 0))
def Vw:A 346 [num 17] Sw:=f6 [12,13,14,16,17,19] (lV .nil) GJ Tw (BI 1) (BI 0) (mV .cons (.v 1) (.v 0))
def zj(k:K0)(n:Nat):TK n (.n0 k):=⟨by show 1<=4096;decide,rfl,trivial⟩
def Ww(n:Nat):TK (n+1) sucT1:=⟨by decide,rfl,by show 0<n+1;omega⟩
def Xw(n:Nat):TK (n+2) conT:=⟨by decide,rfl,⟨by show 1<n+2;omega,by show 0<n+2;omega⟩⟩
def Yw{o:List Fm}{f r:Fm}{t:Tm}{a b:Jt}(Q:KI o a)(R:KI o b):KR o (.ind false f t a b r):=by
 intro g H i S L;obtain⟨_,⟨T,p⟩,⟨U,j⟩,⟨V,wa,s,u⟩,⟨n1,n2⟩,⟨W,wb,w,y⟩,k⟩:=S;have M:=vA;have hb:=uA;have N:=i.gl;have hl:=i.hl;have X:iA=100000:=rfl;rw[eR]at n2;have Y:=lR g .nat (by omega) (by decide);obtain⟨Z,c⟩:=Ia i.gs N (s:=.nat) (by decide) T p;obtain⟨_,l⟩:=JJ i.gs N U j;obtain⟨e,g2,_,q2⟩:=WZ g t 1 i.gs l.shp (by have:=l.cnt;omega);obtain rfl:=q2 _ j rfl;obtain⟨z,hz,g3⟩:=iP Q i V L.2.2.1 c (zj .zero g.length) s u;have g4:=cR g.length (H.map kC).length 1 1 n1 (by simp_all);have d:(g++[Ty.nat]).length=g.length+1:=by simp
 have B:FK (g++[Ty.nat]).length f:=by rw[d];exact c
 have C:=(i.below1 (s:=.nat) (by decide) n1).with B n2;have g5:=Ea g H .nat (by omega) (by decide);have g6:A 159 [f.p,num 1,num 0] f.p:=by have:=iI f 1 0 (by omega) (by have:=c.cnt;omega) (by have:=c.mx (by omega);rw[M];omega);rwa[Ci]at this
 have g7:=eV (g++[Ty.nat]) H f;have g8:=iI f 1 1 (by omega) (by have:=c.cnt;omega) (by have:=c.mx (by omega);rw[M];omega);have hn:FK ((g++[Ty.nat]).length+1) (f.sh 1 (.ofNat 1)):=by rw[d];exact c.sh 1 1
 obtain⟨O,D,g9⟩:=iP R C (by rw[iV,d,iR 1 g.length H λx B=>(i.hs x B).2];exact W) L.2.2.2 hn (by rw[d];exact Ww g.length) w y;obtain⟨n,E,F⟩:=l.a240 (by omega);obtain⟨P,G,I⟩:=cV O 1 (by decide) D;have m:=aP c l;rw[k]at m;have J:=dG n z;have K:=dG (LA .or .u32 n z) P;refine⟨(c.pt l k).2.sc,_,((E.or hz).or G).mono λv h=>or_assoc.1 h,?_⟩;exact Hh 5 [29,36,38,48,(63,.o [3,4] [] (.pv (AB a.f.y z 0))),75,83,89,90,102,(105,.o [3,4] [] (.pv (AB b.f.y O 0))),115,120,(123,.v (u32 (LA .or .u32 n z))),129,(130,.v (u32 (LA .or .u32 (LA .or .u32 n z) P)))] Uw Y Z g2 g3 g4 g5 g6 g7 g8 g9 m F J I K
def Zw{o:List Fm}{f r:Fm}{t:Tm}{a b:Jt}(Q:KI o a)(R:KI o b):KR o (.ind true f t a b r):=by
 intro g H i S L;obtain⟨_,⟨T,p⟩,⟨U,j⟩,⟨V,wa,s,u⟩,⟨n1,n2⟩,⟨W,wb,w,y⟩,k⟩:=S;have M:=vA;have hb:=uA;have N:=i.gl;have hl:=i.hl;have X:iA=100000:=rfl;rw[eR]at n2;have Y:=lR g .list (by omega) (by decide);obtain⟨Z,c⟩:=Ia i.gs N (s:=.list) (by decide) T p;obtain⟨_,l⟩:=JJ i.gs N U j;obtain⟨e,g2,_,q2⟩:=WZ g t 2 i.gs l.shp (by have:=l.cnt;omega);obtain rfl:=q2 _ j rfl;obtain⟨z,hz,g3⟩:=iP Q i V L.2.2.1 c (zj .nil g.length) s u;have g4:=cR g.length (H.map kC).length 2 1 n1 (by simpa using n2);have d:(g++[Ty.nat,.list]).length=g.length+2:=by simp
 have B:FK (g++[Ty.nat,.list]).length (f.sh 1 (.ofNat 1)):=by rw[d];exact c.sh 1 1
 have C:=(i.below2 (s:=.nat) (u:=.list) (by decide) (by decide) n1).with B n2;have g5:=cw g H .nat .list (by omega) (by decide) (by decide);have g6:A 159 [f.p,num 1,num 1] (f.sh 1 (.ofNat 1)).p:=iI f 1 1 (by omega) (by have:=c.cnt;omega) (by have:=c.mx (by omega);rw[M];omega);have g7:=eV (g++[Ty.nat,.list]) H (f.sh 1 (.ofNat 1));have g8:=iI f 1 2 (by omega) (by have:=c.cnt;omega) (by have:=c.mx (by omega);rw[M];omega);have hn:FK ((g++[Ty.nat,.list]).length+1) (f.sh 1 (.ofNat 2)):=by rw[d];have:=c.sh 1 2;rwa[show g.length+1+2=g.length+2+1 by omega]at this
 obtain⟨O,D,g9⟩:=iP R C (by rw[iV,d,iR 2 g.length H λx B=>(i.hs x B).2];exact W) L.2.2.2 hn (by rw[d];exact Xw g.length) w y;obtain⟨n,E,F⟩:=l.a240 (by omega);obtain⟨P,G,I⟩:=cV O 2 (by decide) D;have m:=aP c l;rw[k]at m;have J:=dG n z;have K:=dG (LA .or .u32 n z) P;refine⟨(c.pt l k).2.sc,_,((E.or hz).or G).mono λv h=>or_assoc.1 h,?_⟩;exact Hh 5 [29,36,38,48,(63,.o [3,4] [] (.pv (AB a.f.y z 0))),75,83,89,90,102,(105,.o [3,4] [] (.pv (AB b.f.y O 0))),115,120,(123,.v (u32 (LA .or .u32 n z))),129,(130,.v (u32 (LA .or .u32 (LA .or .u32 n z) P)))] Vw Y Z g2 g3 g4 g5 g6 g7 g8 g9 m F J I K
def XC{ls:List Fm}(c:∀f∈ls,FK 0 f):∀j:Jt,KI ls j|.leaf false i f=>ki _ Aw|.leaf true i f=>ki _ (Bw c)|.refl t=>ki _ Lw|.p1 .andL a f=>ki _ (Dw (XC c a))|.p1 .andR a f=>ki _ (Ew (XC c a))|.p1 .choice a f=>ki _ (Ow (XC c a))|.p2 .andI a b f=>ki _ (Cw (XC c a) (XC c b))|.p2 .impE a b f=>ki _ (Gw (XC c a) (XC c b))|.p2 .exE a b f=>ki _ (Pw (XC c a) (XC c b))|.p2 .exUE a b f=>ki _ (Qw (XC c a) (XC c b))|.impI f a=>ki _ (Fw (XC c a))|.all u s a=>ki _ (Iw (XC c a))|.ins u t a f=>ki _ (Jw (XC c a))|.ex u f t a=>ki _ (Kw (XC c a))|.ind false f t a b r=>ki _ (Yw (XC c a) (XC c b))|.ind true f t a b r=>ki _ (Zw (XC c a) (XC c b))|.subst f a b r=>ki _ (Mw (XC c a) (XC c b))
open Go.Lg
abbrev qB(g:List Ty)(hs:List Fm):PV:=.agg [OA g,dA hs]
abbrev jj:List PV:=[.int 0,.int 0,.nils,.nils]
abbrev zx(hs:List Fm)(k:Nat)(c:List PV):IS:=st [(2,.loc 1 0),(3,.loc 2 0),(16,.pv (dA hs)),(17,.pv (num (hs.map Fm.c).length)),(18,.pv (num k))] [(1,bx jj),(2,bx c)] 3 []
abbrev vj(c:List PV):IS:=st [(2,.loc 1 0),(3,.loc 2 0)] [(1,bx jj),(2,bx c)] 3 []
abbrev jx:Kp:=⟨[2,3,16,17,18],[1,2],3,[]⟩
abbrev vx:Kp:=⟨[2,3],[1,2],3,[]⟩
def wx(g:List Ty)(a:g.length<=16)(a:∀s∈g,s.size<=64):A 221 [qB g []] (yD g []):=by
 have:=uA;have:=vA;have b:=dv g (by omega) (λs h=>by have:=a s h;omega);have a:num (g.map Ty.c).length=num g.length:=by rw[List.length_map]
 have c:Lp 221 0 0 (zx [] 0 [num (g.map Ty.c).length,.int 0,IB g,.nils]) (.exit 0) (vj [num (g.map Ty.c).length,.int 0,IB g,.nils]):=x0 [] vx;have d:A 221 [qB g []] (.agg [num (g.map Ty.c).length,num 0,IB g,.slice []]):=f2 [8,(100004,.l jx (.exit 0) (vj [num (g.map Ty.c).length,.int 0,IB g,.nils]))] b c;rwa[a]at d
abbrev wj(g:List Ty):IS:=st [(3,.loc 0 0)] [(0,bx [OA g,dA []])] 1 []
abbrev yx(g:List Ty):IS:=st [(3,.loc 0 0),(15,.pv (dA [])),(16,.pv (num 0)),(17,.pv (num 0))] [(0,bx [OA g,dA []])] 1 []
abbrev ux(g:List Ty):IS:=st [(3,.loc 0 0),(38,.pv (dA [])),(39,.pv (num 0)),(40,.pv (num 0))] [(0,bx [OA g,dA []])] 1 []
def kj{g:List Ty}(b:g.length<=16)(a:∀s∈g,s.size<=64):ZF g=0:=by
 have:∀{g:List Ty},(∀s∈g,s.size<=64)->TE g=0:=by
  intro g
  induction g with
  |nil=>intro _;rfl|cons t r c=>
   intro h;have e:t.chk=0:=by rw[tI,ckE_0.2 (h t (by simp))]
   grind[TE]
 unfold ZF;rw[show fA (.ofNat 16) (.ofNat (g.map Ty.c).length)=false from HA (by simp_all)];simp_all
def dx(g:List Ty)(c:g.length<=16)(a:∀s∈g,s.size<=64):A 218 [dA [],qB g []] (num 0):=by
 have:=uA;have d:Lp 218 0 0 (yx g) (.exit 0) (wj g):=x0 [] ⟨[3],[0],1,[]⟩;have b:=yi g (λs h=>by have:=a s h;omega);rw[kj c a]at b;have a:Lp 218 1 0 (ux g) (.exit 2) (st [] [] 1 []):=x0 [] ⟨[],[],1,[]⟩;exact f3 [(100004,.l ⟨[3,15,16,17],[0],1,[]⟩ (.exit 0) (wj g)),29,(100016,.l ⟨[3,38,39,40],[0],1,[]⟩ (.exit 2) (st [] [] 1 []))] d b a
def lx(w:World):Calls Tryz.prog 288 #[.int .u32 0] w λe a=>e=.returned (.int .i64 32)/\a=w:=by
 go_enter Tryz.func288,Tryz.ntmps288
 go_wp2
 go_ret
 exact⟨rfl,rfl⟩
def yj(n:Int):IntKind.u32.wrap n=n%4294967296:=by simp[IntKind.wrap,IntKind.signed,IntKind.bits]
def uj(a b:Nat)(c:a<4294967296)(c:b<4294967296:=by omega):bits .and .u32 (a:Int) (b:Int)=((a&&&b:Nat):Int):=by
 have:a&&&b<2^32:=Nat.and_lt_two_pow _ (by omega);have c:(BitVec.ofInt 32 (a:Int)).toNat=a:=by
  rw[BitVec.ofInt_natCast,BitVec.toNat_ofNat];exact Nat.mod_eq_of_lt (by omega)
 have d:(BitVec.ofInt 32 (b:Int)).toNat=b:=by
  rw[BitVec.ofInt_natCast,BitVec.toNat_ofNat];exact Nat.mod_eq_of_lt (by omega)
 show IntKind.u32.wrap ((BitVec.ofInt 32 (a:Int)&&&BitVec.ofInt 32 (b:Int)).toNat:Int)=_;rw[BitVec.toNat_and,c,d,yj];omega
def px(x a:Nat)(c:x<4294967296)(b:x≠0)(b:x&&&(4294967296-x)=a):
  bits BinOp.and IntKind.u32 (x:Int) (-(x:Int)%4294967296)*125613361%4294967296 / 134217728=((a*125613361%4294967296 / 134217728:Nat):Int):=by
 have d: -(x:Int)%4294967296=((4294967296-x:Nat):Int):=by omega
 rw[d,uj x _ c,b];omega
def ax(x k a:Nat)(w:World)(b:((x:Int)==0)=false)
  (key:bits BinOp.and IntKind.u32 (x:Int) (-(x:Int)%4294967296)*125613361%4294967296 / 134217728=(a:Int))
  (b:a<32) (b:k<32) (b:w.cell? ⟨1,a,none⟩=some (.int .u8 k)):
  Calls Tryz.prog 288 #[.int .u32 x] w λe a=>e=.returned (.int .i64 k)/\a=w:=by
 go_enter Tryz.func288,Tryz.ntmps288
 go_wp2_with (simp only[key])
 go_ret
 exact⟨rfl,rfl⟩
def bj{H:Hp}:∀{a:List PV}{b:List Value}{i:Nat}{k:IntKind}{n:Int},RepL H a b->a[i]? =some (.num k n)->b[i]? =some (.int k n)
 |[],_,_,_,_,_,h=>by simp at h|c::a,[],i,k,n,r,h=>by simp only[RepL]at r|c::a,v::b,0,k,n,r,h=>by
  simp only[RepL]at r;simp only[List.getElem?_cons_zero,Option.some.injEq]at h;subst h;have:=r.1;simp only[RepP]at this;rw[this.1];rfl
 |c::a,v::b,i+1,k,n,r,h=>by
  simp only[RepL]at r;exact bj (i:=i) r.2 (by simpa using h)
def ox:∀i,i<32->deB[i]? =some (.num .u8 (.ofNat (Go.Lib.deBruijn32tab.getD i 0)))|0,_=>rfl|1,_=>rfl|2,_=>rfl|3,_=>rfl|4,_=>rfl|5,_=>rfl|6,_=>rfl|7,_=>rfl|8,_=>rfl|9,_=>rfl|10,_=>rfl|11,_=>rfl|12,_=>rfl|13,_=>rfl|14,_=>rfl|15,_=>rfl|16,_=>rfl|17,_=>rfl|18,_=>rfl|19,_=>rfl|20,_=>rfl|21,_=>rfl|22,_=>rfl|23,_=>rfl|24,_=>rfl|25,_=>rfl|26,_=>rfl|27,_=>rfl|28,_=>rfl|29,_=>rfl|30,_=>rfl|31,_=>rfl|n+32,h=>absurd h (by omega)
def dj(z:Int)(J:0<=z/\z<4294967296:=by omega):∃n:Nat,n<=32/\AC Tryz.prog gl 288 [.pv (.num .u32 z)] [] (.ret (.pv (.int (.ofNat n)))) []:=by
 obtain⟨x,rfl⟩:∃x:Nat,z=x:=⟨z.toNat,by omega⟩;have i:x<4294967296:=by omega
 refine⟨Go.Lib.ctz 32 x,?_,?_,?_,?_,?_⟩
 ·by_cases a:x=0
  ·subst a;simp[Go.Lib.ctz]
  exact Nat.le_of_lt (Go.Lib.lowest_bit 32 x a i).2
 ·exact⟨Tryz.f288,rfl,rfl,rfl⟩
 ·intro n B;cases B
 ·intro m o C;cases C
 intro E w p j s t;have D:p=[.int .u32 (x:Int)]:=by
  cases p with
  |nil=>cases s
  |cons v r=>
   cases r with
   |cons _ _=>simp at s|nil=>
    simp only[RepVL,RepV,RepP]at t;rw[t.1.1]
 subst D;have MB:∀(e:Ending)(k:World),e=.returned (.int .i64 (Go.Lib.ctz 32 x:Nat))/\k=w->∃u,fH E w [] u k []/\bQ u (.ret (.pv (.int (.ofNat (Go.Lib.ctz 32 x))))) e:=by
  rintro e k ⟨rfl,rfl⟩
  refine⟨E,⟨j.heap,λn o h=>(by cases h),λn m o K h=>(by cases h),Hle.refl _,Nat.le_refl _,⟨rfl,rfl,rfl⟩,λb _ _=>⟨λ_=>rfl,rfl⟩,λn o b h=>(by cases h),λn o h=>(by cases h),λn _ _=>⟨rfl,rfl,rfl⟩⟩,_,rfl,?_⟩;simp only[RepV,RepP];rfl
 by_cases a:x=0
 ·subst a;exact(lx w).mono MB
 obtain⟨d,y⟩:=Go.Lib.lowest_bit 32 x a i;obtain⟨A,f⟩:=Go.Lib.deBruijn32_at _ y;have F:RepL E.H deB (E.H 1):=j.glob 1 deB rfl;have g:=bj F (ox _ A);rw[f]at g;have l:E.H 1≠[]:=by intro e;rw[e]at g;simp at g
 obtain⟨c,T,fr,G,H,_⟩:=j.heap 1 l;have I:=H.2.1 _ _ g (by simp[bC]) (by intro b;cases b<;>exact nofun);refine(ax x _ _ w (by simp;omega) (px x _ i a d) A y ?_).mono MB;simp only[World.cell?,G];simpa using I
open Go.Lg
def fj{x:Nat}(a:x≠0)(a:x<4294967296):∃y:Nat,y<x/\LA .and .u32 (x:Int) (IntKind.u32.wrap ((x:Int)-1))=(y:Int):=by
 refine⟨x&&&(x-1),?_,?_⟩
 ·have:x&&&(x-1)<=x-1:=Nat.and_le_right;omega
 have e:IntKind.u32.wrap ((x:Int)-1)=((x-1:Nat):Int):=by rw[yj];omega
 rw[e];exact uj x (x-1) a
def gj(z:Int):(bif DG .u32 .u32 then xA (IntKind.u32.wrap (z-1))else false)=true/\u32 (IntKind.u32.wrap (z-1))=u32 (IntKind.u32.wrap (z-1)):=⟨(show xA (IntKind.u32.wrap (z-1))=true from aR (Ca _)),rfl⟩
def lj{z w:Int}{y:Nat}(h:LA .and .u32 z w=(y:Int)):(bif DG .u32 .u32 then xA (LA .and .u32 z w)else false)=true/\u32 (LA .and .u32 z w)=u32 (.ofNat y):=⟨(Da z w).1,by rw[h];rfl⟩
abbrev mj:Kp:=⟨[0,3],[0],1,[]⟩
def nj:∀(N x:Nat)(L:List Nat)(v:Nat),x<=N->x<4294967296->L.length+N<=8589934592->
  ∃(a:Nat)(b:List Nat),Lp 223 0 0 (st [(0,.pv (u32 (.ofNat x))),(3,.arr 0 v (L.map ic).length)] [(0,.arr v 1 3 (kA (L.map ic)))] 1 []) (.exit 0) (st [(3,.arr 0 a (b.map ic).length)] [(0,.arr a 1 3 (kA (b.map ic)))] 1 [])
 |N,0,L,v,c,d,e=>⟨v,L,y1 [5] ⟨[3],[0],1,[]⟩ (DB 0) (sD (L.map ic))⟩|0,x+1,L,v,c,d,e=>absurd c (by omega)|N+1,x+1,L,v,c,d,e=>by
  obtain⟨y,k,g⟩:=fj (x:=x+1) (by omega) d;obtain⟨n,l,h⟩:=dj (x+1:Nat);obtain⟨a,b,f⟩:=nj N y (L++[n]) (v+1) (by omega) (by omega) (by simp;omega);have i:=mP (A:=L.map ic) (v:=v) (ty:=3) (m:=8) (c:=ic n) (show 0<1 by decide) rfl rfl (by simp only[List.length_map,maxLen];omega) (by simp;omega);have j:(L++[n]).map ic=L.map ic++[ic n]:=by simp
  rw[j,ZK,show(L.map ic++[ic n]).length=(L.map ic).length+1 by simp]at f;exact⟨a,b,n7 [5,12,(14,.ok),(8,.v (u32 (IntKind.u32.wrap (.ofNat (x+1)-1)))),(9,.v (u32 (.ofNat y)))] mj (TC (m:=x+1) (n:=0)) h i (gj (.ofNat (x+1))) (lj g) (xH (L.map ic) (ic n)) f⟩
def xx(z:Int)(f:Wi z):∃L:List Nat,A 223 [u32 z] (JA L):=by
 obtain⟨x,rfl⟩:∃x:Nat,z=.ofNat x:=⟨z.toNat,by simp;omega⟩;have b:x<4294967296:=by grind
 cases x with
 |zero=>exact⟨[],f0 []⟩|succ x=>
  obtain⟨y,g,c⟩:=fj (x:=x+1) (by omega) b;obtain⟨n,i,d⟩:=dj (x+1:Nat);obtain⟨v,L,h⟩:=nj 4294967296 y [n] 1 (by omega) (by omega) (by simp);have a:=LoopIs.fz (by simp) h 0 (ver:=v) (sz:=1) (ty:=3) (ps:=L.map ic) rfl (by kernel_rfl);simp (decide:=true) only[XF,OE,RC,yE,and_self,↓reduceIte,List.take_of_length_le (Nat.le_refl (L.map ic).length)]at a;have e:Lp 223 0 0 (st [(0,.pv (u32 (.ofNat (x+1)))),(3,.pv .nils)] [] 0 []) (.exit 0) (st [(3,.pv (JA L))] [] 1 []):=
   n6 [5,12,(8,.v (u32 (IntKind.u32.wrap (.ofNat (x+1)-1)))),(9,.v (u32 (.ofNat y)))] mj (TC (m:=x+1) (n:=0)) d (gj (.ofNat (x+1))) (lj c) (xH [] (ic n)) a
  exact⟨L,f1 [(100002,.l ⟨[0,3],[],0,[]⟩ (.exit 0) (st [(3,.pv (JA L))] [] 1 []))] e⟩
def Ax(g:List Ty)(b:g.length<=16)(a:∀s∈g,s.size<=64)(j:Jt)(i:j.D [] g [])(d:j.p.ck)(k:j.p.cnt<=16384):FK g.length j.f/\∃L,A 147 [dA [],qB g [],j.p.p] (.tuple [.agg [num j.f.kd,num j.f.tk,.slice j.f.te,.slice j.f.ts,.slice j.f.es,JA L],num 0]):=by
 have c:PlOK g []:=⟨b,a,by simp,λh l=>nomatch l⟩;obtain⟨e,z,m,n⟩:=XC (ls:=[]) (λf h=>nomatch h) j g [] c i d;obtain⟨L,o⟩:=xx z m.u;exact⟨e,L,f6 [15,21,34,(35,.o [3,4] [] (.pv (AB j.f.y z 0))),44,47] (dx g b a) (Ba j.p k d) (wx g b a) n (Av j.f e.cn) o⟩
end Go.Proofs.YtjobiknipefjdaaGreatDoor
