/- Contracts of functions; no conditions. -/
import Derived.Maps.RangeRun
import Derived.Test.YtbebdmlomjpamaaGreatDoorAccB2
import Derived.Test.YtbebdmlomjpamaaGreatDoorAccC10
import Derived.Test.YtbebdmlomjpamaaGreatDoorAccC7
import Derived.Test.YtbebdmlomjpamaaGreatDoorAccC9
import Derived.Test.YtbebdmlomjpamaaGreatDoorAccC8
set_option linter.all false
set_option maxHeartbeats 4000000
namespace Go.Lg
def Ga.swapO{C:Ctx}{E:Env}{σ:St}{a:Act}{w:World}(h:Ga C E σ a w){n:Nat}{o o':Ob}(u:jA σ.objs n=some o)(y:ObOK E w n o')(v:∀m∈o'.names,m∈σ.used):Ga C E ⟨σ.slots,HB σ.objs n o',σ.used⟩ a w:=by
 have s:∀m,jA (HB σ.objs n o') m=if m=n then some o' else jA σ.objs m:=λm=>QD _ _ _ _
 have d:∀m q,jA (HB σ.objs n o') m=some q->∃f,jA σ.objs m=some f:=λm q h=>by
  grind
 refine⟨h.slots,h.size,h.defers,h.heap,?_,?_,h.usedS,?_,h.usedG,h.grown,h.rest,h.same,h.hle,?_,h.ext,?_⟩
 ·intro m q c;simp only[s]at c;split at c
  ·simp_all
  exact h.objs m q c
 ·intro m t q f c g i b j;have⟨p,k⟩:=d m q c;have⟨x,l⟩:=d t f g;exact h.apart m t p x k l i b j
 ·intro m q c;simp only[s]at c;split at c
  ·rename_i e;cases c;subst e;exact⟨(h.usedO _ _ u).1,v⟩
  exact h.usedO m q c
 ·intro m q b c j r;have⟨p,k⟩:=d m q c;exact h.own m p b k j r
 intro m c;have⟨z,A,B⟩:=h.keep m c
 grind
def Ga.slotW{C:Ctx}{E:Env}{σ:St}{a:Act}{w:World}(h:Ga C E σ a w){d:Nat}{x:V}{v:Value}(b:RepV E x v)(c:∀n∈x.names,n∈σ.used)(f:d<C.nt):Ga C E ⟨(d,x)::σ.slots,σ.objs,σ.used⟩ (a.put (some d) v) w:=
 h.pure E.H (some d) x v (Hle.refl _) (e6 _) ⟨rfl,rfl,rfl⟩ (λ_ _=>⟨rfl,rfl⟩) h.heap b c (λ_ e=>by simp_all)
def AS{C:Ctx}{E:Env}{σ:St}{a:Act}{w:World}(h:Ga C E σ a w){d:Nat}(b:d<C.nt)(v:Value):(a.put (some d) v).eval (.tmp d)=v:=by
 have:d<a.tmps.size:=by rw[h.size];exact b
 simp[Act.put,Act.eval,this]
section
variable{X:Env1}{id:Nat}{σ:St}{Q:NB->St->Prop}{t1 t2 t3:Nat}{p1 p2 p3:String}{f1 f2 f3:Array Edge}
def AWP.range{n r b ck t A B:Nat}{ms:Array MapEntry}{s c g:Nat}(H:OA σ.slots s=.map n)(I:jA σ.objs n=some (.raw (.map (some b)) (.map ms ck)))(D:r∉σ.used)(J:X.P.underlying t=some (.map A B))(L:c<X.nt)(M:g<X.nt)
  (N:∀rb,Q .normal ⟨(g,.loc r 0)::(c,.map n)::σ.slots,HB σ.objs r (.raw (.pointer (some ⟨rb,0,none⟩)) (.mapIter (some b) ck #[] ck)),r::σ.used⟩):
  AWP X (.region id #[⟨some c,.move (.tmp s),t1,p1,f1,none⟩,⟨some g,.range t (.tmp c),t2,p2,f2,none⟩] false) σ Q:=by
 intro C E a w F h;have i:c<C.nt:=by rw[F.nt];exact L
 have:g<C.nt:=by rw[F.nt];exact M
 have j:=h.slots s;rw[H]at j;have⟨S,G,j⟩:=j;have⟨k,T,p,d,u⟩:=h.objs n _ I;rw[k]at G;cases G;cases p;have f:Ga C E ⟨(c,.map n)::σ.slots,σ.objs,σ.used⟩ (a.put (some c) (a.eval (.tmp s))) w:=h.slotW (x:=.map n) (v:=a.eval (.tmp s)) (by
  exact⟨b,k,j⟩) (λm v=>by
   have:=h.usedS s;simp_all) i
 have x:(a.put (some c) (a.eval (.tmp s))).eval (.tmp c)=.map (some b):=by rw[AS h i];exact j
 have l:=run_range_map (P:=X.P) w t A B b ms ck J d;refine wp_region_list ?_;refine wpList_plain rfl λK y=>?_
 refine OpRes.wp (v:=a.eval (.tmp s)) (w':=w) (.inl (by rfl)) (y _ _ ?_);refine wpList_plain rfl λK y=>?_
 refine OpRes.wp (v:=.pointer (some ⟨w.heap.size,0,none⟩)) (w':=w.alloc (.mapIter (some b) ck #[] ck)) (.inl (by
  simp only[execOp,x,hU,l,gW,abe])) (y _ _ ?_)
 let E':Env:={E with g:=λm=>if m=r then .pointer (some ⟨w.heap.size,0,none⟩)else E.g m};have o:E'.g r=.pointer (some ⟨w.heap.size,0,none⟩):=by simp[E']
 have P:∀m,m≠r->E'.g m=E.g m/\E'.ver m=E.ver m/\E'.sz m=E.sz m:=λm v=>⟨c5,rfl,rfl⟩
 refine⟨E',_,.normal,?_,rfl,N w.heap.size⟩;refine f.change (E':=E') r (some (.raw (.pointer (some ⟨w.heap.size,0,none⟩)) (.mapIter (some b) ck #[] ck))) _ (r::σ.used) (some g) (.loc r 0) _ (λm=>QD _ _ _ _) (Hle.refl _) P (λz=>absurd z D) (λz=>absurd z D)
  a8 ⟨rfl,rfl,rfl⟩ (λb R _=>⟨@heap_alloc_old w _ b R,rfl⟩) (aR f.heap _ E' rfl) ?_ ?_ (λm v=>by simp[v]) ?_ ?_ (λ_ e=>by simp_all)
 ·intro U e;cases e;exact⟨⟨o,w.heap.size,rfl,heap_alloc_new w _,f.heap.lt (e6 _)⟩,a8,by simp[Ob.names]⟩
 ·grind[HA]
 ·exact⟨_,o,rfl⟩
 simp[V.names]
def AWP.next{n r b rb ck d N:Nat}{B:Array MapEntry}{seen:Array Nat}{s f D:Nat}(O:n≠r)(hs:OA σ.slots s=.loc r 0)(ho:jA σ.objs n=some (.raw (.map (some b)) (.map B ck)))(l:jA σ.objs r=some (.raw (.pointer (some ⟨rb,0,none⟩)) (.mapIter (some b) d seen N)))
  (F:∀x∈B.toList,x.born<d) (P:d<=N) (h1:f<X.nt) (h2:D<X.nt)
  (R:(leftOf B seen).size=0->Q .normal ⟨(D,.pv (.bool false))::(f,.undef)::σ.slots,σ.objs,σ.used⟩)
  (S:∀e∈(leftOf B seen).toList,Q .normal ⟨(D,.pv (.bool true))::(f,.undef)::σ.slots,HB σ.objs r (.raw (.pointer (some ⟨rb,0,none⟩)) (.mapIter (some b) d (seen.push e.born) ck)),σ.used⟩):
  AWP X (.region id #[⟨some f,.next (.tmp s) false,t1,p1,f1,none⟩,⟨some D,.extract (.tmp f) 0,t2,p2,f2,none⟩] false) σ Q:=by
 intro C E a w hC o;have p:f<C.nt:=by rw[hC.nt];exact h1
 have G:D<C.nt:=by rw[hC.nt];exact h2
 have u:=o.slots s;rw[hs]at u;simp only[RepV]at u;have⟨b1,H,u⟩:=u;have⟨T,b2,U,v,V⟩:=o.objs n _ ho;have⟨t,b3,W,I,J⟩:=o.objs r _ l;rw[t]at H;cases H;cases U;cases W;have hbr:b≠rb:=λe=>o.apart n r _ _ ho l O b (by rw[T];rfl) (by rw[t,e];rfl)
 have Y:rb<w.heap.size:=(aal.1 I).1;have u:a.eval (.tmp s)=.pointer (some ⟨rb,0,none⟩):=u;refine wp_region_list ?_;refine wpList_plain rfl λK A=>?_
 rcases run_next_at (P:=X.P) w t1 rb b d N seen B ck I v F P with ⟨h0,g⟩|⟨e,he,w1,Z,g⟩
 ·refine OpRes.wp (v:=.tuple #[.bool false]) (w':=w) (.inl (by simp only[execOp,u,hU,g,gW,abe])) (A _ _ ?_);have y:Ga C E ⟨(f,.undef)::σ.slots,σ.objs,σ.used⟩ (a.put (some f) (.tuple #[.bool false])) w:=o.slotW (x:=.undef) trivial (λm z=>by cases z) p;refine wpList_plain rfl λK A=>?_
  refine OpRes.wp (v:=.bool false) (w':=w) (.inl (by simp only[execOp,AS o p];rfl)) (A _ _ ?_);exact⟨E,_,.normal,y.slotW (x:=.pv (.bool false)) (by rfl) (λm z=>by cases z) G,rfl,R h0⟩
 have j:w1.heap=w.heap/\w1.os=w.os/\w1.tape=w.tape/\w1.output=w.output:=by rcases Z with rfl|rfl<;>exact⟨rfl,rfl,rfl,rfl⟩
 refine OpRes.wp (v:=.tuple #[.bool true,e.key,e.val]) (w':=ChangeMaps.setBlock w1 rb (.mapIter (some b) d (seen.push e.born) ck)) (.inl (by simp only[execOp,u,hU,g,gW,abe])) (A _ _ ?_);have k:∀i,(ChangeMaps.setBlock w1 rb (.mapIter (some b) d (seen.push e.born) ck)).heap[i]? =if i=rb then some (.mapIter (some b) d (seen.push e.born) ck)else w.heap[i]?:=by
  intro i;simp only[ChangeMaps.setBlock,j.1];by_cases l:i=rb
  ·subst l;simp[Y]
  rw[e9 l,aaZ (λh=>l h.symm)]
 have y:Ga C E ⟨(f,.undef)::σ.slots,HB σ.objs r (.raw (.pointer (some ⟨rb,0,none⟩)) (.mapIter (some b) d (seen.push e.born) ck)),σ.used⟩ (a.put (some f) (.tuple #[.bool true,e.key,e.val])) (ChangeMaps.setBlock w1 rb (.mapIter (some b) d (seen.push e.born) ck)):=by
  refine o.change (E':=E) r (some (.raw (.pointer (some ⟨rb,0,none⟩)) (.mapIter (some b) d (seen.push e.born) ck))) _ σ.used (some f) .undef _ (λm=>QD _ _ _ _) (Hle.refl _) (λ_ _=>⟨rfl,rfl,rfl⟩) (λ_=>EExt.refl _ _) (λ_=>⟨_,l⟩)
   (by simp[ChangeMaps.setBlock,j.1]) ⟨j.2.1,j.2.2.1,j.2.2.2⟩ (λi hlt L=>⟨by rw[k,e9 (λh=>L _ l (by rw[t,h];rfl))],rfl⟩) ?_ ?_ ?_ (λ_ h=>h) trivial (λm z=>by cases z) (λ_ e=>by cases e;exact p)
  ·intro i M;have:i≠rb:=λh=>M (h▸J)
   have⟨c,T',fr,hc,hp⟩:=o.heap i M;exact⟨c,T',fr,by rw[k,e9 this];exact hc,hp⟩
  ·intro o' e';cases e';exact⟨⟨t,rb,rfl,by rw[k,gm rfl],J⟩,(o.usedO r _ l).1,by simp[Ob.names]⟩
  intro o' b' e' hb';exact .inr ⟨hb',_,l⟩
 refine wpList_plain rfl λK A=>?_
 refine OpRes.wp (v:=.bool true) (w':=_) (.inl (by simp only[execOp,AS o p];rfl)) (A _ _ ?_);exact⟨E,_,.normal,y.slotW (x:=.pv (.bool true)) (by simp[RepV,RepP]) (λm z=>by cases z) G,rfl,S e he⟩
def AWP.entry{n r b rb ck c:Nat}{ms:Array MapEntry}{seen:Array Nat}{e:MapEntry}{z:Int}{s d g v:Nat}(J:OA σ.slots s=.loc r 0)(L:jA σ.objs n=some (.raw (.map (some b)) (.map ms ck)))(M:jA σ.objs r=some (.raw (.pointer (some ⟨rb,0,none⟩)) (.mapIter (some b) c (seen.push e.born) ck)))
  (N:e∈ms.toList) (x:(ms.toList.map (·.born)).Nodup) (O:e.key=.int .i64 z) (P:d<X.nt) (R:g<X.nt) (S:v<X.nt)
  (T:Q .normal ⟨(v,.pv (.int z))::(g,.pv (.int z))::(d,.undef)::σ.slots,σ.objs,σ.used⟩):
  AWP X (.region id #[⟨some d,.entry (.tmp s),t1,p1,f1,none⟩,⟨some g,.extract (.tmp d) 0,t2,p2,f2,none⟩,⟨some v,.assign (.tmp g),t3,p3,f3,none⟩] false) σ Q:=by
 intro C E a w y i;have j:d<C.nt:=by rw[y.nt];exact P
 have k:g<C.nt:=by rw[y.nt];exact R
 have A:v<C.nt:=by rw[y.nt];exact S
 have h:=i.slots s;rw[J]at h;have⟨W,l,h⟩:=h;have⟨U,Y,B,f,D⟩:=i.objs n _ L;have⟨F,Z,G,H,V⟩:=i.objs r _ M;rw[F]at l;cases l;cases B;cases G;have h:a.eval (.tmp s)=.pointer (some ⟨rb,0,none⟩):=h;have o:=run_entry_at (P:=X.P) w rb b c seen ms ck e H f N x;refine wp_region_list ?_;refine wpList_plain rfl λK p=>?_
 refine OpRes.wp (v:=.tuple #[e.key,e.val]) (w':=w) (.inl (by simp only[execOp,h,hU,o,gW,abe])) (p _ _ ?_);have t:Ga C E ⟨(d,.undef)::σ.slots,σ.objs,σ.used⟩ (a.put (some d) (.tuple #[e.key,e.val])) w:=i.slotW (x:=.undef) trivial (λm u=>by cases u) j;refine wpList_plain rfl λK p=>?_
 refine OpRes.wp (v:=.int .i64 z) (w':=w) (.inl (by simp only[execOp,AS i j,O];rfl)) (p _ _ ?_);have I:=t.slotW (d:=g) (x:=.pv (.int z)) (v:=.int .i64 z) (by rfl) (λm u=>by cases u) k;refine wpList_plain rfl λK p=>?_
 refine OpRes.wp (v:=.int .i64 z) (w':=w) (.inl (by simp only[execOp,AS t k];rfl)) (p _ _ ?_);exact⟨E,_,.normal,I.slotW (x:=.pv (.int z)) (by rfl) (λm u=>by cases u) A,rfl,T⟩
end
end Go.Lg
namespace Go.Proofs.YtbebdmlomjpamaaGreatDoor
open Go.Lg
set_option maxRecDepth 100000
abbrev vN(L:List Nat):List (List V):=vA (L.map ic)
def Eb(A B:List Nat)(x:Nat):nB (vN (A++x::B)) A.length=some [.pv (num x)]:=by
 rw[mI,Lt];simp[ic,CA]
def Fj(A:List Nat):(vN A).length=A.length:=by simp[vN,vA]
def Gj(A B:List Nat)(x y:Nat):(vN (A++x::B)).set A.length [.pv (num y)]=vN (A++y::B):=by
 simp only[vN,vA,gn,gF];rw[show A.length=(List.map CA (List.map ic A)).length by simp,List.set_append_right _ _ (e6 _),aaY];rfl
def Fb{n v k len:Nat}{es:List (List V)}(a:k<len:=by omega)(b:len<=es.length:=by omega):ro (bif Nat.beq v v then(bif Nat.blt k len then(bif Nat.beq 1 1 then(bif Nat.ble len es.length then some (V.eloc n v k 0)else none)else none)else none)else none)=some ⟨.eloc n v k 0,none,false⟩:=by
 rw[ME rfl,show Nat.blt k len=true from kx a,show Nat.ble len es.length=true from kx b];rfl
def Lx{v k:Nat}{es:List (List V)}{x:V}(h:nB es k=some [x]):ro (match nB es k with
   |some e=>bif Nat.beq v v then QR false 1 (rL e 0)else none|none=>none)=some ⟨x,none,false⟩:=by
 rw[h,ME rfl];rfl
def Hj{n v k:Nat}{es es':List (List V)}{x y:V}(h:nB es k=some [x])(a:es.set k [y]=es'):(bif Nat.beq v v then(bif Nat.ble (0+1) 1 then(match nB es k with
    |some e=>some (⟨.undef,some (n,.arr v 1 3 (es.set k (oE e 0 [y]))),false⟩:RB)|none=>none)else none)else none)=some ⟨.undef,some (n,.arr v 1 3 es'),false⟩:=by
 rw[h,ME rfl];subst a;rfl
def Mx{a:Nat}(h:a<=bA:=by omega):xA (Int.ofNat (a+1)-1)=true/\Int.ofNat (a+1)-1=.ofNat a:=by
 grind[bQ]
abbrev yO(mv:Value)(mo:Obj)(iv:Value)(io:Obj)(v:Nat)(L:List Nat):List (Nat×Ob):=[(0,.raw mv mo),(1,.raw iv io),(2,.arr v 1 3 (vN L))]
abbrev PP(v len n i:Nat):List (Nat×V):=[(3,.arr 2 v len),(4,.pv (num n)),(5,.pv (num i)),(7,.loc 1 0)]
abbrev QP:Kp:=⟨[3,4,5,7],[0,1,2],3,[]⟩
section
variable{mv iv:Value}{mo io:Obj}{n v len:Nat}
def Ij:∀(k:Nat)(A:List Nat)(y:Nat)(B:List Nat),A.length=k->len=A.length+1+B.length->len<=bA->
  ∃(b:List Nat)(j:Nat)(c:List Nat),b++c=A++B/\(∀x∈c,x∈B\/n<x)/\(∀h:b≠[],b.getLast h<=n)/\
   Lp 271 1 1 (st (PP v len n A.length) (yO mv mo iv io v (A++y::B)) 3 []) (.exit 2) (st (PP v len n b.length) (yO mv mo iv io v (b++j::c)) 3 [])
 |0,A,y,B,f,l,r=>by
  have e:A=[]:=List.length_eq_zero_iff.1 f;subst e;exact⟨[],y,B,rfl,λx g=>.inl g,λh=>absurd rfl h,y1 [19] QP (iA (e6 0)) (BB ((y::B).map ic))⟩
 |k+1,A,y,B,f,l,r=>by
  have d:A≠[]:=λe=>by subst e;cases f
  obtain⟨a,x,rfl⟩:∃a x,A=a++[x]:=⟨A.dropLast,A.getLast d,(List.dropLast_concat_getLast d).symm⟩;have w:a.length=k:=by simpa using f
  have s:(a++[x]).length=a.length+1:=a8
  have t:a++[x]++y::B=a++x::y::B:=a8
  have gl:(vN (a++x::y::B)).length=len:=by rw[Fj];simp at l⊢;omega
  rw[s]at l⊢;rw[t];have u:=KA (show 0<a.length+1 by omega);have i:=Mx (a:=a.length);have m:=Fb (n:=2) (v:=v) (k:=a.length) (len:=len) (es:=vN (a++x::y::B));have o:=Lx (v:=v) (Eb a (y::B) x);by_cases g:n<x
  ·have⟨b,j,c,C,D,E,F⟩:=Ij k a x (x::B) w a9 r;have G:=Fb (n:=2) (v:=v) (k:=a.length+1) (len:=len) (es:=vN (a++x::y::B));have H:=Hj (n:=2) (v:=v) (k:=a.length+1) (es:=vN (a++x::y::B)) (es':=vN (a++x::x::B)) (y:=.pv (num x)) (by
    have:=Eb (a++[x]) B y;simpa using this) (by
    have:=Gj (a++[x]) B y x;simpa using this)
   refine⟨b,j,c,by simpa using C,λz p=>?_,E,?_⟩
   ·rcases D z p with h|h
    ·rcases e8.1 h with rfl|h
     ·exact .inr g
     exact .inl h
    exact .inr h
   exact rk [(19,.G),(23,.z a.length),(24,.w ⟨.eloc 2 v a.length 0,none,false⟩),(25,.w ⟨.pv (num x),none,false⟩),(27,.G),(33,.z a.length),(34,.w ⟨.eloc 2 v a.length 0,none,false⟩),(35,.w ⟨.pv (num x),none,false⟩),(36,.w ⟨.eloc 2 v (a.length+1) 0,none,false⟩),(99999,.w ⟨.undef,some (2,.arr v 1 3 (vN (a++x::x::B))),false⟩),(38,.z a.length)] QP QP (pO u i m o (KA g) i m o G H i (BB ((a++x::x::B).map ic)) F)
  refine⟨a++[x],y,B,a8,λz p=>.inl p,λ_=>by simp;omega,?_⟩;rw[s,t];exact y5 [19,23,(24,.w ⟨.eloc 2 v a.length 0,none,false⟩),(25,.w ⟨.pv (num x),none,false⟩),27] QP u i m o (iA (show x<=n by omega)) (BB ((a++x::y::B).map ic))
end
end Go.Proofs.YtbebdmlomjpamaaGreatDoor
namespace Go.Lg
section
variable{ev:SA}{P:Program}
def Gb(ev:SA)(P:Program)(n N c d:Nat)(b:Code)(s:IS)(f:Di)(a:Kp)(e:AE)(g:IS):Prop:=
 SD ev P (LG ev P N n) N c d b s f λf c _=>f=e/\gd (DL a d c) (JG c.ob a.on (AH a c=g))
def Reach.of_go(g:IG ev P){n N c d:Nat}{b:Code}{s f:IS}{i:Di}{j:Kp}{e:AE}(h:Gb ev P n N c d b s i j e f):Reach ev P c d b s e f:=by
 obtain⟨p,r,k,l,rfl,a⟩:=WC (rI g N n) _ _ _ _ h;have⟨m,a⟩:=LB a;have⟨a,o⟩:=zJ a;exact a▸l.keep (VN m o)
def Rel.slotT{s:IS}{σ:St}(h:Rel s σ)(d:Nat)(x:V):Rel ⟨s.sl.put d (some x),s.ob,s.nx,s.dt⟩ ⟨(d,x)::σ.slots,σ.objs,σ.used⟩:=by
 refine⟨λt=>?_,h.ob,h.us⟩;show(if d=t then x else OA σ.slots t)=_;rw[Tr.get_put];by_cases e:t=d
 ·simp_all
 rw[e9 e,e9 (λh=>e h.symm)];exact h.sl t
def Rel.objT{s:IS}{σ:St}(h:Rel s σ)(n:Nat)(o:Ob):Rel ⟨s.sl,s.ob.put n (some o),s.nx,s.dt⟩ ⟨σ.slots,HB σ.objs n o,σ.used⟩:=by
 refine⟨h.sl,λm=>?_,h.us⟩;rw[QD,Tr.get_put];by_cases e:m=n
 ·rw[gm e,gm e]
 rw[e9 e,e9 e];exact h.ob m
def Rel.newT{s:IS}{σ:St}(h:Rel s σ)(o:Ob):Rel ⟨s.sl,s.ob.put s.nx (some o),s.nx+1,s.dt⟩ ⟨σ.slots,HB σ.objs s.nx o,s.nx::σ.used⟩:=by
 have:=h.objT s.nx o;exact⟨this.sl,this.ob,λm a=>by
  rcases e8.1 a with rfl|a
  ·simp
  exact abc (h.us m a)⟩
def Rel.keep{b a:Nat}{X:Env1}(c:HX X ev P b a){s s':IS}{σ:St}(h:Rel s σ)(k:Kp)(b:DL k a s=true)(a:JG s.ob k.on True)(d:AH k s=s'):∃τ,RN X σ τ/\Rel s' τ:=d▸(VN b (zJ a).2).wk c h
end
end Go.Lg
namespace Go.Proofs.YtbebdmlomjpamaaGreatDoor
open Go.Lg
set_option maxRecDepth 100000
def cs1:Code->Code|.seq a _=>a|c=>c
def cs2:Code->Code|.seq _ b=>b|c=>c
def Jj:Code->Code|.block _ b=>b|.loop b=>b|c=>c
noncomputable def KL:Code:=Ic 271 0
noncomputable def Kj:Code:=cs1 KL
noncomputable def Ib:Code:=cs1 (cs2 KL)
noncomputable def Jb:Code:=cs1 (Jj (cs2 (cs2 KL)))
noncomputable def Kb:Code:=cs2 (Jj (cs2 (cs2 KL)))
def Nx:KL=.seq Kj (.seq Ib (.block 1 (.seq Jb Kb))):=bG
def Ox:∃i t1 t2 p1 p2 f1 f2,Kj=.region i #[⟨some 8,.next (.tmp 7) false,t1,p1,f1,none⟩,⟨some 9,.extract (.tmp 8) 0,t2,p2,f2,none⟩] false:=⟨_,_,_,_,_,_,_,rfl⟩
def Qx:∃i t1 t2 t3 p1 p2 a f1 f2 f3,Jb=.region i #[⟨some 10,.entry (.tmp 7),t1,p1,f1,none⟩,⟨some 11,.extract (.tmp 10) 0,t2,p2,f2,none⟩,⟨some 4,.assign (.tmp 11),t3,a,f3,none⟩] false:=⟨_,_,_,_,_,_,_,_,_,_,rfl⟩
noncomputable def RP:Code:=match (fnc 271).body with|some c=>c|none=>.skip
def Lj:(fnc 271).ntmps=44:=bG
abbrev Rc(bs f:Nat)(c:Code)(s:IS)(e:AE)(s':IS):Prop:=Go.Lg.Reach ev Tryz.prog (fnc f).ntmps bs c s e s'
section
variable{f bs:Nat}{c:Code}{s s':IS}{e:AE}
def SP(a:Di)(b:Kp){B:Prop}(h:B)(q:B=Gb ev Tryz.prog 6 100 (fnc f).ntmps bs c s a b e s':=by kernel_rfl):Rc bs f c s e s':=Reach.of_go evOK (q▸h)
variable(tp:Di)(ko:Kp){H1 H2 H3 H4 H5 H6 N:Prop}(h1:H1)(h2:H2)(h3:H3)(h4:H4)(h5:H5)(h6:H6)(w:N)
def uO:=@SP f bs c s s' e tp ko _ (⟨rfl,w,rfl⟩:e=e/\N/\s'=s')
def Rx:=@SP f bs c s s' e tp ko _ (XL h1 (SG (Eq.refl e) w (Eq.refl s')))
def Mj:=@SP f bs c s s' e tp ko _ (SG h1 h2 (SG (Eq.refl e) w (Eq.refl s')))
def Tx:=@SP f bs c s s' e tp ko _ (YL h1 h2 h3 (SG (Eq.refl e) w (Eq.refl s')))
def Nj:=@SP f bs c s s' e tp ko _ (bK h1 h2 h3 h4 (SG (Eq.refl e) w (Eq.refl s')))
def Oj:=@SP f bs c s s' e tp ko _ (kQ h1 h2 h3 h4 h5 h6 (SG (Eq.refl e) w (Eq.refl s')))
end
section
variable(mv iv:Value)(mo io:Obj)
def hs:Nat->List Nat->IS|0,_=>st [(3,.pv .nils),(7,.loc 1 0)] [(0,.raw mv mo),(1,.raw iv io)] 2 []|v+1,L=>st [(3,.arr 2 (v+1) (v+1)),(7,.loc 1 0)] (yO mv mo iv io (v+1) L) 3 []
def qs(n:Nat):Nat->List Nat->IS|0,_=>st [(3,.pv .nils),(4,.pv (num n)),(7,.loc 1 0)] [(0,.raw mv mo),(1,.raw iv io)] 2 []|v+1,L=>st [(3,.arr 2 (v+1) (v+1)),(4,.pv (num n)),(7,.loc 1 0)] (yO mv mo iv io (v+1) L) 3 []
def bO:Nat->List Nat->IS|0,_=>st [(3,.pv .nils)] [(0,.raw mv mo)] 3 []|v+1,L=>st [(3,.arr 2 (v+1) (v+1))] [(0,.raw mv mo),(2,.arr (v+1) 1 3 (vN L))] 3 []
end
def Ux{v len:Nat}:ro (bif Nat.beq v v then some (V.pv (.int (.ofNat len)))else none)=some ⟨.pv (num len),none,false⟩:=by rw[ME rfl];rfl
def Vx{A:List (List PV)}{k v sz ty m:Nat}{c:List PV}(a:A.length=k)(a:0<sz)(a:VC sz [CA c]=true)(a:CC [CA c]=true)(a:k+1<=maxLen)(a:(k+1)*m<=140737488355328):
  (Nat.beq v v&&Nat.ble k (vA A).length&&Nat.beq ty ty&&Nat.beq sz sz&&Nat.blt 0 sz&&VC sz [CA c]&&CC [CA c]&&Nat.ble (k+[CA c].length) maxLen&&Nat.ble ((k+[CA c].length)*m) 140737488355328)=true:=by
 grind[YD]
section
variable{mv iv:Value}{mo io:Obj}
def Wx(n v:Nat)(L:List Nat)(a:L.length=v)(j:v+1<=bA)(k:v+1<=maxLen)(b:(v+1)*8<=140737488355328:=by omega):
  ∃A B,A++B=L/\(∀x∈B,n<x)/\(∀h:A≠[],A.getLast h<=n)/\Rc 1 271 Kb (qs mv iv mo io n v L) .normal (hs mv iv mo io (v+1) (A++n::B)):=by
 have⟨A,y,B,c,d,l,h⟩:=Ij (mv:=mv) (mo:=mo) (iv:=iv) (io:=io) (n:=n) (v:=v+1) (len:=v+1) v L n [] a a9 j;rw[hI]at c;have d:∀x∈B,n<x:=λx m=>(d x m).resolve_left a8
 have r:A.length+B.length=v:=by rw[<-a,<-c];simp
 have gl:(vN (A++y::B)).length=v+1:=by rw[Fj];simp;omega
 have f:=Fb (n:=2) (v:=v+1) (k:=A.length) (len:=v+1) (es:=vN (A++y::B));have g:=Hj (n:=2) (v:=v+1) (k:=A.length) (es:=vN (A++y::B)) (es':=vN (A++n::B)) (y:=.pv (num n)) (Eb A B y) (Gj A B y n);refine⟨A,B,c,d,l,?_⟩;rw[a]at h
 cases v with
 |zero=>
  have e:=List.length_eq_zero_iff.1 a;subst e;exact Nj [(100007,.l QP (.exit 2) (st (PP 1 1 n A.length) (yO mv mo iv io 1 (A++y::B)) 3 [])),(42,.w ⟨.eloc 2 1 A.length 0,none,false⟩),(99999,.w ⟨.undef,some (2,.arr 1 1 3 (vN (A++n::B))),false⟩)] ⟨[3,7],[0,1,2],3,[]⟩ (BB [ic n]) h f g (BB ((A++n::B).map ic))
 |succ v=>
  have i:vN (L++[n])=(vN L).take (v+1)++[CA (ic n)]:=by
   have:=gD (L.map ic) (ic n);rw[gB,a]at this;rw[<-this];show vA ((L++[n]).map ic)=_;rw[gn];rfl
  have o:=Vx (A:=L.map ic) (v:=v+1) (ty:=3) (m:=8) (c:=ic n) (k:=v+1) (by simpa using a) (show 0<1 by decide) rfl rfl k b;have p:fB ((vN L).take (v+1)++[CA (ic n)])=[]:=by rw[<-i];exact BB ((L++[n]).map ic)
  have h:Lp 271 1 1 (st (PP (v+1+1) (v+1+1) n (v+1)) [(0,.raw mv mo),(1,.raw iv io),(2,.arr (v+1+1) 1 3 ((vN L).take (v+1)++[CA (ic n)]))] 3 []) (.exit 2) (st (PP (v+1+1) (v+1+1) n A.length) (yO mv mo iv io (v+1+1) (A++y::B)) 3 []):=by rw[<-i];exact h
  exact Oj [(13,.w ⟨.pv (num (v+1)),none,false⟩),(17,.ok),(100007,.l QP (.exit 2) (st (PP (v+1+1) (v+1+1) n A.length) (yO mv mo iv io (v+1+1) (A++y::B)) 3 [])),(42,.w ⟨.eloc 2 (v+1+1) A.length 0,none,false⟩),(99999,.w ⟨.undef,some (2,.arr (v+1+1) 1 3 (vN (A++n::B))),false⟩)] ⟨[3,7],[0,1,2],3,[]⟩ (Ux (v:=v+1) (len:=v+1)) o p h f g (BB ((A++n::B).map ic))
end
end Go.Proofs.YtbebdmlomjpamaaGreatDoor
namespace Go.Proofs.YtbebdmlomjpamaaGreatDoor
open Go.Lg
set_option maxRecDepth 100000
section
variable{f bs:Nat}{c:Code}{s s':IS}{e:AE}
def Pj(a:Di)(b:Kp)(q:(e=e/\s'=s')=Gb ev Tryz.prog 6 100 (fnc f).ntmps bs c s a b e s':=by kernel_rfl):Rc bs f c s e s':=Reach.of_go evOK (q▸(⟨rfl,rfl⟩:e=e/\s'=s'))
end
def aaH:=@List.mem_cons_self
def Qj:∀{L S:List Nat},DD L->DD S->(∀x,x∈L↔x∈S)->L=S
 |[],[],_,_,_=>rfl|[],y::S,_,_,h=>absurd ((h y).2 (aaH ..)) a8|x::L,[],_,_,h=>absurd ((h x).1 (aaH ..)) a8|x::L,y::S,d,f,h=>by
  have⟨b,g⟩:=aao.1 d;have⟨c,i⟩:=aao.1 f;have e:x=y:=by
   rcases e8.1 ((h x).1 (aaH ..))with e|j
   ·exact e
   rcases e8.1 ((h y).2 (aaH ..))with e|hy
   ·exact e.symm
   have:=b y hy;have:=c x j;omega
  subst e;rw[Qj g i λz=>⟨λa=>(e8.1 ((h z).1 (aai _ a))).resolve_left (λe=>by have:=b z a;omega),λa=>(e8.1 ((h z).2 (aai _ a))).resolve_left (λe=>by have:=c z a;omega)⟩]
def Lb:∀{S L:List Nat},DD L->DD S->(∀x∈L,x∈S)->L.length<=S.length
 |S,[],_,_,_=>c6 _|[],x::L,_,_,h=>absurd (h x (aaH ..)) a8|y::S,x::L,b,d,h=>by
  have⟨f,g⟩:=aao.1 b;have⟨i,c⟩:=aao.1 d;by_cases e:x=y
  ·exact Nat.succ_le_succ (Lb g c λz a=>(e8.1 (h z (aai _ a))).resolve_left (λe=>by have:=f z a;omega))
  have:x∈S:=(e8.1 (h x (aaH ..))).resolve_left e;have:=Lb (S:=S) b c λz a=>(e8.1 (h z a)).resolve_left (λe=>by
   grind)
  grind
def abt:=@List.mem_append_left
def Xx{A B:List Nat}{n:Nat}(h:DD (A++B))(g:n∉A++B)(i:∀x∈B,n<x)(j:∀h:A≠[],A.getLast h<=n):DD (A++n::B):=by
 have⟨a,b,c⟩:=List.pairwise_append.1 h;have:∀x∈A,x<n:=by
  intro x f;have d:A≠[]:=λe=>by simp_all
  have:=j d;have:x<=A.getLast d:=by
   have e:=List.dropLast_concat_getLast d
   grind
  have:x≠n:=λe=>g (abt _ (e▸f))
  omega
 refine List.pairwise_append.2 ⟨a,aao.2 ⟨i,b⟩,λx f y hy=>?_⟩
 grind
abbrev km(b:Nat):Value:=.map (some b)
abbrev yK(rb:Nat):Value:=.pointer (some ⟨rb,0,none⟩)
abbrev oi(b ck:Nat)(seen:Array Nat):Obj:=.mapIter (some b) ck seen ck
section
variable{X:Env1}{b rb ck:Nat}{ms:Array MapEntry}{S:List Nat}
def Yx{a d:Value}{c io:Obj}(v:Nat)(L:List Nat):
  Rc 1 271 (.seq Ib (.block 1 (.seq Jb Kb))) ⟨((hs a d c io v L).sl.put 8 (some .undef)).put 9 (some (.pv (.bool false))),(hs a d c io v L).ob,(hs a d c io v L).nx,(hs a d c io v L).dt⟩ (.exit 0) (bO a c v L):=by
 cases v with|zero=>exact Pj [] ⟨[3],[0],3,[]⟩|succ v=>exact uO [] ⟨[3],[0,2],3,[]⟩ (BB (L.map ic))
def Zx{c a:Value}{d io e:Obj}(v:Nat)(L:List Nat):
  Rc 1 271 Ib ⟨((hs c a d io v L).sl.put 8 (some .undef)).put 9 (some (.pv (.bool true))),(hs c a d io v L).ob.put 1 (some (.raw a e)),(hs c a d io v L).nx,(hs c a d io v L).dt⟩ .normal (hs c a d e v L):=by
 cases v with|zero=>exact Pj [] ⟨[3,7],[0,1],2,[]⟩|succ v=>exact uO [] ⟨[3,7],[0,1,2],3,[]⟩ (BB (L.map ic))
def zy(a:HX X ev Tryz.prog (fnc 271).ntmps 1){c d:Value}{e io:Obj}(v:Nat)(L:List Nat)(n:Nat){σ:St}(h:Rel (hs c d e io v L) σ):
  ∃τ,RN X ⟨(4,.pv (num n))::(11,.pv (num n))::(10,.undef)::σ.slots,σ.objs,σ.used⟩ τ/\Rel (qs c d e io n v L) τ:=by
 have f:=((h.slotT 10 .undef).slotT 11 (.pv (num n))).slotT 4 (.pv (num n))
 cases v with|zero=>exact f.keep a ⟨[3,4,7],[0,1],2,[]⟩ bG True.intro bG|succ v=>exact f.keep a ⟨[3,4,7],[0,1,2],3,[]⟩ bG ⟨BB (L.map ic),True.intro⟩ bG
def Rj{a c:Value}{d io:Obj}(v:Nat)(L:List Nat){σ:St}(h:Rel (hs a c d io v L) σ):OA σ.slots 7=.loc 1 0/\jA σ.objs 0=some (.raw a d)/\jA σ.objs 1=some (.raw c io):=by
 have e:=h.sl 7;have f:=h.ob 0;have g:=h.ob 1;cases v<;>exact⟨e,f,g⟩
structure Mb(ms:Array MapEntry)(seen:Array Nat)(L:List Nat):Prop where
 asc:DD L
 mem:∀x:Nat,x∈L↔∃e∈ms.toList,e.key=.int .i64 (.ofNat x)/\seen.contains e.born=true
structure TP(ms:Array MapEntry)(ck:Nat)(S:List Nat):Prop where
 hold:∀x∈ms.toList,x.born<ck
 nd:(ms.toList.map (·.born)).Nodup
 kn:∀e∈ms.toList,∃z:Nat,e.key=.int .i64 (.ofNat z)
 inj:∀e∈ms.toList,∀e'∈ms.toList,e.key=e'.key->e=e'
 asc:DD S
 mem:∀x:Nat,x∈S↔∃e∈ms.toList,e.key=.int .i64 (.ofNat x)
 len:S.length<=8589934592
def jy:∀{l:List MapEntry},(l.map (·.born)).Nodup->∀{e a:MapEntry},e∈l->a∈l->e.born=a.born->e=a
 :=by intro x;induction x<;>grind[absurd]
def Sj(t:HX X ev Tryz.prog (fnc 271).ntmps 1)(j:TP ms ck S)(seen:Array Nat)(v:Nat)(L:List Nat)(σ:St)(m:Mb ms seen L)(M:L.length=v)(D:Rel (hs (km b) (yK rb) (.map ms ck) (oi b ck seen) v L) σ)(Q:NB->St->Prop)
  (O:∀σ',SN (.exit 0) (bO (km b) (.map ms ck) S.length S) (.exit 0) σ'->Q (.exit 0) σ')
  (P:∀a E σ',(leftOf ms a).size<(leftOf ms seen).size->Mb ms a E->E.length=v+1->Rel (hs (km b) (yK rb) (.map ms ck) (oi b ck a) (v+1) E) σ'->Q .normal σ'):AWP X KL σ Q:=by
 have d:X.nt=44:=by rw[t.nt];exact Lj
 have l:∀x∈L,x∈S:=λx o=>by
  have⟨e,p,f,_⟩:=(m.mem x).1 o;exact(j.mem x).2 ⟨e,p,f⟩
 have⟨F,G,H⟩:=Rj v L D;rw[Nx];refine AWP.seq ?_;have⟨i,t1,t2,p1,p2,f1,f2,u⟩:=Ox;rw[u];refine AWP.next (n:=0) (r:=1) bb F G H j.hold (e6 _) (by rw[d];decide) (by rw[d];decide) ?_ ?_
 ·intro R;have e:L=S:=Qj m.asc j.asc λx=>⟨λo=>l x o,λo=>by
   have⟨e,p,f⟩:=(j.mem x).1 o;exact(m.mem x).2 ⟨e,p,f,all_seen ms seen R e p⟩⟩
  have r:=(D.slotT 8 .undef).slotT 9 (.pv (.bool false));refine AWP.mono ((Yx v L).awp X t _ r) ?_
  rintro N σ' ⟨rfl,h⟩
  rw[M.symm,e]at h;exact O σ' ⟨rfl,h⟩
 intro e p;have⟨g,w⟩:=mem_left p;have⟨n,z⟩:=j.kn e g;have r:=((D.slotT 8 .undef).slotT 9 (.pv (.bool true))).objT 1 (.raw (yK rb) (oi b ck (seen.push e.born)));refine AWP.seq (AWP.mono ((Zx v L).awp X t _ r) ?_)
 rintro N σ' ⟨rfl,y⟩
 refine AWP.block (AWP.seq ?_);have⟨F,G,H⟩:=Rj v L y;have⟨i,t1,t2,t3,p1,p2,p3,f1,f2,f3,u⟩:=Qx;rw[u];refine AWP.entry F G H g j.nd z (by rw[d];decide) (by rw[d];decide) (by rw[d];decide) ?_;have⟨τ,T,I⟩:=zy t v L n y;have J:n∉L:=λu=>by
  have⟨s,c,f,k⟩:=(m.mem n).1 u;rw[j.inj e g s c (z.trans f.symm),k]at w;cases w
 have U:=Lb m.asc j.asc l;have V:=j.len;have⟨A,B,C,k,W,Y⟩:=Wx (mv:=km b) (iv:=yK rb) (mo:=.map ms ck) (io:=oi b ck (seen.push e.born)) n v L M c5 (by simp only[maxLen];omega);refine AWP.wkX T (AWP.mono (Y.awp X t τ I) ?_)
 rintro N σ3 ⟨rfl,K⟩
 refine P (seen.push e.born) (A++n::B) σ3 (left_shrinks ms seen e p) ⟨Xx (C▸m.asc) (C▸J) k W,λx=>?_⟩ (by have:=k0 List.length C;simp at this⊢;omega) K;have o:x∈A++n::B↔x=n\/x∈L:=by rw[<-C];simp;constructor<;>(rintro(h|h|h)<;>simp[h])
 rw[o,m.mem];constructor
 ·rintro(rfl|⟨s,c,f,k⟩)
  ·exact⟨e,g,z,a8⟩
  exact⟨s,c,f,by simp at k⊢;exact .inl k⟩
 rintro⟨s,c,f,k⟩
 by_cases hq:seen.contains s.born=true
 ·exact .inr ⟨s,c,f,hq⟩
 have Z:s.born=e.born:=by simp at k hq;exact k.resolve_left hq
 have:=jy j.nd c g Z;subst this;rw[z]at f;simp at f;omega
def Tj(c:HX X ev Tryz.prog (fnc 271).ntmps 1)(d:TP ms ck S):∀(k:Nat)(seen:Array Nat)(v:Nat)(L:List Nat)(σ:St),(leftOf ms seen).size<=k->Mb ms seen L->L.length=v->
   Rel (hs (km b) (yK rb) (.map ms ck) (oi b ck seen) v L) σ->UI X KL (SN (.exit 0) (bO (km b) (.map ms ck) S.length S)) (k+1) σ
 |0,seen,v,L,σ,g,a,e,f=>IU (Sj c d seen v L σ a e f _ (λ_ h=>h) (λ_ _ _ h=>by omega))|k+1,seen,v,L,σ,g,a,e,f=>IU (Sj c d seen v L σ a e f _ (λ_ h=>h) (λa i σ' h e f g=>Tj c d k a (v+1) i σ' a6 e f g))
end
end Go.Proofs.YtbebdmlomjpamaaGreatDoor
namespace Go.Lg
def vy{ev:SA}{P:Program}{f m nx:Nat}{args:List V}{objs:List (Nat×Ob)}{n:List Nat}{y:V}{ro o1:List (Nat×Ob)}(d:KG (tC objs)=true)(c:CL (tC objs) n=true)
  (g:Called P ev.gl ⟨.nil,QB objs .nil,m,[]⟩ f args ⟨y,[],[],nx⟩ n ro o1):AC P ev.gl f args objs (.ret y) objs:=by
 have d:=EP d;rw[MG]at d;have c:=UN c;rw[MG]at c;have i:∀k,(QB objs .nil).get k=jA objs k:=λk=>by
  rw[GP objs _ d];cases jA objs k<;>rfl
 have h:o1=[]:=by
  cases o1 with|nil=>rfl|cons p r=>have:=g.inch p.1 (keysO_mem.2 ⟨p.2,List.mem_cons_self ..⟩);cases this
 subst h;have a:∀p∈ro,jA objs p.1=some p.2:=λp s=>by rw[<-i];exact g.subs p (by simp_all)
 have b:∀k,jA ro k=jA objs k:=by
  intro k
  cases e:jA ro k with
  |some o=>exact(a (k,o) (jK e)).symm|none=>
   cases t:jA objs k with
   |none=>rfl|some o=>
    have h:=g.all k (c k (getO_iff.2 (by rw[t];rfl)));rw[List.append_nil,getO_iff,e]at h;cases h
 have j:AC P ev.gl f args ro (.ret y) ro:=by simpa using g.ac
 refine AC.cong j b b λk c=>?_
 obtain⟨p,s,l⟩:=mem_mentO.1 c;exact mem_mentO.2 ⟨p,jK (a p s),l⟩
end Go.Lg
namespace Go.Proofs.YtbebdmlomjpamaaGreatDoor
open Go.Lg
set_option maxRecDepth 100000
def se(U:List Nat):List (SK×V):=U.map λn=>(.int (.ofNat n),.pv (.bool true))
def LD:∀U:List Nat,kD (se U)=[]|[]=>rfl|n::U=>by show([]:List Nat)++kD (se U)=[];rw[LD U];rfl
def Uj{E b:Env}:∀{U:List Nat}{a:List MapEntry},EntsS E false (se U) a->EntsS b false (se U) a|[],[],_=>True.intro|n::U,e::a,h=>⟨⟨h.1.1,h.1.2.1,h.1.2.2.1,h.1.2.2.2⟩,Uj h.2⟩|[],_::_,h=>h.elim|_::_,[],h=>h.elim
def Vj{E:Env}:∀{U:List Nat}{a:List MapEntry},EntsS E false (se U) a->a.map (·.key)=U.map λn=>.int .i64 (.ofNat n)
 |[],[],_=>rfl|n::U,e::a,h=>by
  show e.key::a.map (·.key)=_::U.map _;rw[Vj h.2,h.1.1];rfl
 |[],_::_,h=>h.elim|_::_,[],h=>h.elim
def wy:∀{l:List MapEntry},(l.map (·.key)).Nodup->∀{e a:MapEntry},e∈l->a∈l->e.key=a.key->e=a
 :=by intro x;induction x<;>grind[absurd]
def yy{U:List Nat}(h:U.Nodup):(U.map λn=>Value.int .i64 (.ofNat n)).Nodup:=by
 grind
structure UP(U S:List Nat):Prop where
 nd:U.Nodup
 asc:DD S
 mem:∀x:Nat,x∈S↔x∈U
 len:S.length<=8589934592
def uy{E:Env}{U S:List Nat}{b:Array MapEntry}{ck:Nat}(h:UP U S)(c:EntsS E false (se U) b.toList)(hs:StampOK b.toList ck):TP b ck S:=by
 have g:=Vj c;have a:∀v,(∃e∈b.toList,e.key=v)↔∃n∈U,Value.int .i64 (.ofNat n)=v:=λv=>by
  have:v∈b.toList.map (·.key)↔v∈U.map λn=>Value.int .i64 (.ofNat n):=by rw[g]
  grind
 refine⟨hs.1,hs.2,λe c=>?_,λe c i d f=>wy (g▸yy h.nd) c d f,h.asc,λx=>?_,h.len⟩
 ·have⟨n,_,j⟩:=(a e.key).1 ⟨e,c,rfl⟩
  grind
 rw[h.mem,a]
 grind
section
variable{b rb ck:Nat}{ms:Array MapEntry}{S:List Nat}
def dy(f:TP ms ck S):Lp 271 0 1 (hs (km b) (yK rb) (.map ms ck) (oi b ck #[]) 0 []) (.exit 0) (bO (km b) (.map ms ck) S.length S):=by
 refine⟨λsub c=>?_,(leftOf ms #[]).size+1,λX g σ i=>Tj g f _ #[] 0 [] σ (e6 _) ⟨List.Pairwise.nil,λx=>⟨λh=>(by cases h),λ⟨e,_,_,h⟩=>(by simp at h)⟩⟩ rfl i⟩;have d:∀n,n<1->n=0:=λn h=>by omega
 have j:∀v,(bO (km b) (.map ms ck) v S).ob.get 0=some (.raw (km b) (.map ms ck)):=λv=>by cases v<;>rfl
 have k:∀v,(bO (km b) (.map ms ck) v S).dt=[]/\(bO (km b) (.map ms ck) v S).nx=3:=λv=>by cases v<;>exact⟨rfl,rfl⟩
 refine⟨by rw[(k _).2];omega,λn a _=>?_,λn a _=>?_,c.names,λn a=>?_⟩
 ·rw[d n a,j];exact c.same 0 a6 (by simp[hs])
 ·rw[d n a];exact c.old 0 a6 rfl
 simp_all
def LL(o:Ob):List Nat->IS|[]=>st [(3,.pv .nils)] [(0,o)] 3 []|x::S=>st [(3,.pv (NA (x::S)))] [(0,o)] 3 []
def fy(c:TP ms ck S):Lp 271 0 1 (hs (km b) (yK rb) (.map ms ck) (oi b ck #[]) 0 []) (.exit 0) (LL (.raw (km b) (.map ms ck)) S):=by
 have h:=dy (b:=b) (rb:=rb) c
 cases S with
 |nil=>exact h|cons x S=>
  have a:=LoopIs.fz a8 (show Lp 271 0 1 _ (.exit 0) (st [(3,.arr 2 (S.length+1) (S.length+1))] [(0,.raw (km b) (.map ms ck)),(2,.arr (S.length+1) 1 3 (vA ((x::S).map ic)))] 3 [])from h) 2 (ver:=S.length+1) (sz:=1) (ty:=3) (ps:=(x::S).map ic) rfl bG;have e:((x::S).map ic).take (S.length+1)=(x::S).map ic:=gu a8;simp (decide:=true) only[eD,XC,VB,sC,BC,and_self,↓reduceIte,e]at a;exact a
abbrev QA(U:List Nat):Ob:=.smap false (se U)
abbrev Nb(U:List Nat):IS:=st [(0,.map 0),(3,.pv .nils)] [(0,QA U)] 1 []
def ly:Tryz.prog.underlying 276=some (.map 3 4):=bG
noncomputable abbrev Wj:Code:=.seq (cs1 (cs1 (cs2 (cs2 RP)))) (.block 0 (.loop KL))
def my{X:Env1}(d:HX X ev Tryz.prog (fnc 271).ntmps 1)(i:TP ms ck S){U:List Nat}{σ:St}(e:Rel (Nb U) σ):
  AWP X Wj ⟨σ.slots,HB σ.objs 0 (.raw (km b) (.map ms ck)),σ.used⟩ (SN .normal (LL (.raw (km b) (.map ms ck)) S)):=by
 have a:X.nt=44:=by rw[d.nt];exact Lj
 have c:=e.objT 0 (.raw (km b) (.map ms ck));refine AWP.seq ?_;refine AWP.range (n:=0) (r:=1) (b:=b) (ck:=ck) (ms:=ms) (e.sl 0) (c.ob 0) (λh=>(by have:1<1:=e.us 1 h;omega)) (by rw[d.P];exact ly) (by rw[a];decide) (by rw[a];decide) ?_;intro rb;have f:=((c.slotT 6 (.map 0)).slotT 7 (.loc 1 0)).newT (.raw (yK rb) (oi b ck #[]));have⟨τ,j,g⟩:=f.keep d (s':=hs (km b) (yK rb) (.map ms ck) (oi b ck #[]) 0 []) ⟨[3,7],[0,1],2,[]⟩ bG (cast (show True=JG _ _ True by kernel_rfl) True.intro) bG;refine AWP.wkX j (AWP.block (AWP.mono ((fy i).reach.awp X d τ g) ?_))
 rintro k σ' ⟨rfl,h⟩
 exact⟨rfl,h⟩
def py{U:List Nat}(D:UP U S):Rc 1 271 Wj (Nb U) .normal (LL (QA U) S):=by
 refine⟨λsub s=>?_,λX F σ y C E a w G z=>?_⟩
 ·have A:∀n,n<1->n=0:=λn h=>by omega
  have H:(LL (QA U) S).ob.get 0=some (QA U):=by cases S<;>rfl
  have:(LL (QA U) S).dt=[]/\(LL (QA U) S).nx=3:=by cases S<;>exact⟨rfl,rfl⟩
  refine⟨a6,λn r _=>?_,λn r _=>?_,s.names,λn r=>?_⟩
  ·rw[A n r,H];exact s.same 0 a6 a8
  ·rw[A n r];exact s.old 0 a6 rfl
  simp_all
 have B:jA σ.objs 0=some (QA U):=y.ob 0;have⟨b,ms,ck,I,g,i,c,k⟩:=z.objs 0 _ B;have t:=z.swapO (o':=.raw (km b) (.map ms ck)) B ⟨I,b,rfl,g,i⟩ (by simp[Ob.names]);refine wp_mono (my F (uy D c k) y C E a w G t) ?_
 rintro e L M ⟨J,σ',N,l,m,rfl,o⟩
 have p:jA σ'.objs 0=some (.raw (km b) (.map ms ck)):=by rw[o.ob 0];cases S<;>rfl
 have⟨u,O,v,d,f⟩:=l.objs 0 _ p;cases v;have x:=l.swapO (o':=QA U) p ⟨b,ms,ck,u,d,f,Uj c,k⟩ (by simp[Ob.names,LD]);refine⟨J,_,.normal,x,m,rfl,?_⟩;have j:=o.objT 0 (QA U);cases S<;>exact⟨j.sl,λn=>(j.ob n).trans (by simp only[LL,Tr.get_put];by_cases e:n=0<;>simp[e,QB,Tr.get_put];done),j.us⟩
end
end Go.Proofs.YtbebdmlomjpamaaGreatDoor
namespace Go.Lg
end Go.Lg
namespace Go.Proofs.YtbebdmlomjpamaaGreatDoor
open Go.Lg
set_option maxRecDepth 100000
def Xj(U:List Nat)(m:Nat)(a:Nat.blt 0 m=true):reach m (QB [(0,QA U)] .nil) 1000000 [0] .nil []=some (Tr.nil.put 0 (some (QA U)),[0]):=by
 have e:reach m (QB [(0,QA U)] .nil) 1000000 [0] .nil []=bif Nat.blt 0 m then reach m (QB [(0,QA U)] .nil) 999999 (kD (se U)++[]) (Tr.nil.put 0 (some (QA U))) [0]else none:=bG
 rw[e,a,LD];rfl
def VV:List Nat->PV|[]=>.nils|x::S=>NA (x::S)
def ry:∀S:List Nat,PV.w 4 (VV S)=NA S|[]=>rfl|_::_=>rfl
section
variable{U S:List Nat}
def p33_0:Rc 1 271 (cs1 RP) ⟨CE 0 [.map 0] .nil,Tr.nil.put 0 (some (QA U)),1,[]⟩ .normal (st [(0,.map 0)] [(0,QA U)] 1 []):=uO [] ⟨[0],[0],1,[]⟩ (LD U)
def p33_1:Rc 1 271 (cs1 (cs2 RP)) (st [(0,.map 0)] [(0,QA U)] 1 []) .normal (Nb U):=uO [] ⟨[0,3],[0],1,[]⟩ (LD U)
def sy:Rc 1 271 (cs2 (cs2 (cs2 RP))) (LL (QA U) S) .ret (st [(2,.pv (VV S))] [(0,QA U)] 3 []):=by
 cases S with|nil=>exact uO [] ⟨[2],[0],3,[]⟩ (LD U)|cons x S=>exact uO [] ⟨[2],[0],3,[]⟩ (LD U)
def ay(a:UP U S):Rc 1 271 RP ⟨CE 0 [.map 0] .nil,Tr.nil.put 0 (some (QA U)),1,[]⟩ .ret (st [(2,.pv (VV S))] [(0,QA U)] 3 []):=by
 exact p33_0.seq (p33_1.seq ((py a).seq sy))
def Yj(a:UP U S):O 271 [.map 0] [(0,QA U)] (.pv (NA S)) [(0,QA U)]:=by
 have⟨ro,o1,b⟩:=uV (s:=⟨.nil,QB [(0,QA U)] .nil,1,[]⟩) (Qa (ay a)) evOK (f:=271) (fn:=fnc 271) (c:=RP) bG bG (args:=[.map 0]) bb (Xj U 1 rfl) (r:=⟨.pv (VV S),[],[],3⟩) (by
  unfold cP FP;simp only[and_self,if_true];cases S<;>kernel_rfl)
 have h:=vy (objs:=[(0,QA U)]) bG bG b;rw[<-ry S];exact AC.wO 4 h
end
end Go.Proofs.YtbebdmlomjpamaaGreatDoor
namespace Go.Lg
def cy{ev:SA}{P:Program}{f m nx:Nat}{args:List V}{objs d:List (Nat×Ob)}{s:List Nat}{y:V}{ro o1:List (Nat×Ob)}(j:KG (tC objs)=true)(g:CL (tC objs) s=true)(v:KG (tC d)=true)
  (h:Called P ev.gl ⟨.nil,QB objs .nil,m,[]⟩ f args ⟨y,d,[],nx⟩ s ro o1):AC P ev.gl f args objs (.ret y) (DP d objs):=by
 have j:=EP j;rw[MG]at j;have g:=UN g;rw[MG]at g;have l:∀k,(QB objs .nil).get k=jA objs k:=λk=>by
  rw[GP objs _ j];cases jA objs k<;>rfl
 have b:∀p∈ro++o1,jA objs p.1=some p.2:=λp n=>by rw[<-l];exact h.subs p n
 have c:∀k,jA (ro++o1) k=jA objs k:=by
  intro k
  cases e:jA (ro++o1) k with
  |some o=>exact(b (k,o) (jK e)).symm|none=>
   cases i:jA objs k with
   |none=>rfl|some o=>
    have a:=h.all k (g k (getO_iff.2 (by rw[i];rfl)));rw[getO_iff,e]at a;cases a
 refine AC.cong h.ac c (λk=>?_) (λk g=>?_)
 ·rw[Ta,<-c,hI,eV,eV]
  cases e:jA ro k with
  |some o=>
   have a:=(h.apart k (getO_iff.2 (by rw[e];rfl))).2;have:jA d k=none:=by
    cases i:jA d k with|none=>rfl|some o=>exact absurd (by simpa using getO_iff.2 (by rw[i];rfl)) a
   grind[dS]
  |none=>
   cases i:jA o1 k with
   |some o=>
    have a:=h.inch k (getO_iff.2 (by rw[i];rfl));have⟨x,t⟩:=aaj.1 (getO_iff.1 a)
    grind[dS]
   |none=>
    cases u:jA d k with
    |none=>rfl|some o=>
     have a:=(h.chs k (getO_iff.2 (by rw[u];rfl))).2.2;rw[getO_iff,i]at a;cases a
 have⟨p,n,r⟩:=mem_mentO.1 g;exact mem_mentO.2 ⟨p,jK (b p n),r⟩
end Go.Lg
namespace Go.Proofs.YtbebdmlomjpamaaGreatDoor
open Go.Lg
set_option maxRecDepth 100000
def oD:List Nat->Nat->List Nat|[],n=>[n]|m::U,n=>if n=m then m::U else m::oD U n
theorem mem_ins1:∀{U:List Nat}{n x:Nat},x∈oD U n↔x=n\/x∈U
 :=by intro x;induction x<;>simp_all[oD,U,e8]<;>grind
theorem Pb:∀{U:List Nat}{n:Nat},U.Nodup->(oD U n).Nodup
 |[],n,_=>by simp[oD]|m::U,n,h=>by
  have⟨a,b⟩:=abs.1 h;unfold oD;split
  ·exact h
  rename_i e;exact abs.2 ⟨λc=>(mem_ins1.1 c).elim (λh=>e h.symm) a,Pb b⟩
def Zj:∀(U:List Nat)(n:Nat),(oD U n).length<=U.length+1
 :=by intro x;induction x<;>simp_all[oD,U]<;>grind
def qk:∀(U:List Nat)(n:Nat),xE (se U) (.int (.ofNat n)) (.pv (.bool true))=se (oD U n)
 |[],n=>rfl|m::U,n=>by
  show(bif SK.eqB (.int (.ofNat n)) (.int (.ofNat m))then _::se U else _::xE (se U) _ _)=_;unfold oD;by_cases e:n=m
  ·subst e;rw[(SK.eqB_iff _ _).2 rfl,gm rfl];rfl
  rw[e9 e];have:SK.eqB (.int (.ofNat n)) (.int (.ofNat m))=false:=by
   cases h:SK.eqB (.int (.ofNat n)) (.int (.ofNat m))with|false=>rfl|true=>have:=(SK.eqB_iff _ _).1 h;grind
  rw[this,gp,qk U n];rfl
def Qb(k:Nat)(U:List Nat)(n:Nat):some (⟨.undef,some (k,.smap false (xE (se U) (.int (.ofNat n)) (.pv (.bool true)))),false⟩:RB)=some ⟨.undef,some (k,QA (oD U n)),false⟩:=by rw[qk]
def YA:Tm->Nat->List Nat->List Nat|.v i,c,U=>if c<=i then oD U (i-c)else U|.lam _ b,c,U=>YA b (c+1) U|.n0 _,_,U=>U|.n1 _ a,c,U=>YA a c U|.n2 _ a b,c,U=>YA b c (YA a c U)|.n3 _ _ a b d,c,U=>YA d c (YA b c (YA a c U))
noncomputable def zk:Code:=match (fnc 382).body with|some c=>c|none=>.skip
abbrev oy(t:Tm)(c:Nat)(U:List Nat):IS:=⟨CE 0 [.pv t.p,.pv (num c),.map 0] .nil,Tr.nil.put 0 (some (QA U)),1,[]⟩
def dO{t:Tm}{c:Nat}{U a:List Nat}(h:Rc 1 382 zk (oy t c U) .normal (st [] [(0,QA a)] 2 [0])):O 382 [.pv t.p,.pv (num c),.map 0] [(0,QA U)] (.pv (.tuple [])) [(0,QA a)]:=by
 have⟨ro,o1,b⟩:=uV (s:=⟨.nil,QB [(0,QA U)] .nil,1,[]⟩) (Qa h) evOK (f:=382) (fn:=fnc 382) (c:=zk) bG bG (args:=[.pv t.p,.pv (num c),.map 0]) (gi (show Nat.ble 3 (fnc 382).ntmps=true by kernel_rfl)) (Xj U 1 rfl) (r:=⟨.pv (.tuple []),[(0,QA a)],[],2⟩) (by
  unfold cP FP;simp only[and_self,if_true]
  have e:aP ev.T 1 (Tr.nil.put 0 (some (QA U))) (fnc 382).results.toList .normal (st [] [(0,QA a)] 2 [0])=(match cL 1 2 (Tr.nil.put 0 (some (QA U))) (QB [(0,QA a)] .nil) 1000000 (kD (se a)++[]) .nil []with
   |some d=>some ⟨.pv (.tuple []),[(0,QA a)],d,2⟩|none=>none):=bG
  refine e.trans ?_;rw[LD];rfl)
 exact AC.wO 4 (cy (objs:=[(0,QA U)]) bG bG bG b)
def VP{c:Nat}(h:c<=qA:=by omega):xA (Int.ofNat c+0)=true/\Int.ofNat c+0=.ofNat c:=⟨by grind[BA,zA],Int.add_zero _⟩
def xy{c:Nat}(h:c+1<=qA:=by omega):xA (Int.ofNat c+1)=true/\Int.ofNat c+1=.ofNat (c+1):=⟨BA (n:=c+1) (by have:=zA;omega),rfl⟩
def Ay{i c:Nat}(h:c<=i)(a:i<=qA*qA):xA (Int.ofNat i-Int.ofNat c)=true/\Int.ofNat i-Int.ofNat c=.ofNat (i-c):=by
 have e:Int.ofNat i-Int.ofNat c=.ofNat (i-c):=a9
 exact⟨by rw[e];exact BA (by have:qA*qA=1125899906842624:=rfl;omega),e⟩
abbrev fO:Kp:=⟨[],[0],2,[0]⟩
def ML:∀(t:Tm)(c:Nat)(U:List Nat),c+t.cnt<=qA->t.mx<=qA*qA->O 382 [.pv t.p,.pv (num c),.map 0] [(0,QA U)] (.pv (.tuple [])) [(0,QA (YA t c U))]
 |.v i,c,U,f,e=>by
  unfold YA;by_cases h:c<=i
  ·rw[gm h];exact dO (Tx [(15,.G),(21,.z (i-c)),(99999,.w ⟨.undef,some (0,QA (oD U (i-c))),false⟩)] fO (show(!dA (.ofNat i) (.ofNat c))=true by rw[iA h];rfl) (Ay h e) (Qb 0 U (i-c)) (LD (oD U (i-c))))
  rw[e9 h];exact dO (Rx [(15,.H)] fO (show(!dA (.ofNat i) (.ofNat c))=false by rw[KA a6];rfl) (LD U))
 |.n0 k,c,U,f,e=>by cases k<;>exact dO (uO [] fO (LD U))
 |.lam s b,c,U,f,e=>by
  simp only[Tm.cnt]at f;have g:=ML b (c+1) U a6 e;exact dO (Mj [(33,.z (c+1)),(35,.d 0 (QA (YA b (c+1) U)) (.pv (.tuple [])))] fO (xy (c:=c)) g (LD (YA b (c+1) U)))
 |.n1 k a,c,U,f,e=>by
  simp only[Tm.cnt]at f;have g:=ML a c U a6 e;cases k<;>exact dO (Mj [(33,.z c),(35,.d 0 (QA (YA a c U)) (.pv (.tuple [])))] fO (VP (c:=c)) g (LD (YA a c U)))
 |.n2 k a b,c,U,f,e=>by
  simp only[Tm.cnt]at f;simp only[Tm.mx]at e;have g:=ML a c U a6 a6;have j:=ML b c (YA a c U) a6 a6;cases k<;>exact dO (Nj [(33,.z c),(35,.d 0 (QA (YA a c U)) (.pv (.tuple []))),(33,.z c),(35,.d 0 (QA (YA b c (YA a c U))) (.pv (.tuple [])))] fO (VP (c:=c)) g (VP (c:=c)) j (LD (YA b c (YA a c U))))
 |.n3 k s a b d,c,U,f,e=>by
  simp only[Tm.cnt]at f;simp only[Tm.mx]at e;have g:=ML a c U a6 a6;have j:=ML b c (YA a c U) a6 a6;have l:=ML d c (YA b c (YA a c U)) a6 a6;cases k<;>exact dO (Oj [(33,.z c),(35,.d 0 (QA (YA a c U)) (.pv (.tuple []))),(33,.z c),(35,.d 0 (QA (YA b c (YA a c U))) (.pv (.tuple []))),(33,.z c),(35,.d 0 (QA (YA d c (YA b c (YA a c U)))) (.pv (.tuple [])))] fO (VP (c:=c)) g (VP (c:=c)) j (VP (c:=c)) l (LD (YA d c (YA b c (YA a c U)))))
end Go.Proofs.YtbebdmlomjpamaaGreatDoor
namespace Go.Proofs.YtbebdmlomjpamaaGreatDoor
open Go.Lg
set_option maxRecDepth 100000
def jk(n:Nat):∀{S:List Nat},DD S->n∉S->∃d,DD d/\(∀x,x∈d↔x=n\/x∈S)/\d.length=S.length+1
 |[],_,_=>⟨[n],List.pairwise_singleton _ _,λx=>by simp,rfl⟩|y::S,h,e=>by
  have⟨a,b⟩:=aao.1 h;by_cases c:n<y
  ·refine⟨n::y::S,aao.2 ⟨λx f=>?_,h⟩,λx=>e8,rfl⟩
   grind
  have⟨d,g,j,i⟩:=jk n b (λh=>e (aai _ h));refine⟨y::d,aao.2 ⟨λx f=>?_,g⟩,λx=>?_,by simp[i]⟩
  ·grind
  grind
def vk:∀{U:List Nat},U.Nodup->∃S,DD S/\(∀x,x∈S↔x∈U)/\S.length=U.length
 |[],_=>⟨[],List.Pairwise.nil,λ_=>Iff.rfl,rfl⟩|n::U,h=>by
  have⟨d,e⟩:=abs.1 h;have⟨S,a,b,c⟩:=vk e;have⟨f,g,i,j⟩:=jk n a (λh=>d ((b n).1 h))
  grind
def yk{U:List Nat}(h:U.Nodup)(d:U.length<=8589934592):∃S,UP U S/\S.length=U.length:=by
 have⟨S,a,b,c⟩:=vk h;exact⟨S,⟨h,a,b,a6⟩,c⟩
def NL:∀(t:Tm)(c:Nat)(U:List Nat)(x:Nat),x∈YA t c U↔x∈U\/t.occ (c+x)≠0
 |.v i,c,U,x=>by
  grind[YA,Tm.occ,mem_ins1]
 |.n0 k,c,U,x=>by simp[YA,Tm.occ]|.lam s b,c,U,x=>by simp only[YA,Tm.occ];rw[NL b,show c+1+x=c+x+1 by omega]|.n1 k a,c,U,x=>by exact NL a c U x|.n2 k a b,c,U,x=>by simp only[YA,Tm.occ];rw[NL b,NL a];constructor<;>(by_cases e:x∈U<;>simp_all<;>omega)|.n3 k s a b d,c,U,x=>by simp only[YA,Tm.occ];rw[NL d,NL b,NL a];constructor<;>(by_cases e:x∈U<;>simp_all<;>omega)
def OL:∀(t:Tm)(c:Nat){U:List Nat},U.Nodup->(YA t c U).Nodup
 |.v i,c,U,h=>by
  grind[YA,Pb]
 |.n0 k,c,U,h=>h|.lam s b,c,U,h=>OL b (c+1) h|.n1 k a,c,U,h=>OL a c h|.n2 k a b,c,U,h=>OL b c (OL a c h)|.n3 k s a b d,c,U,h=>OL d c (OL b c (OL a c h))
def PL:∀(t:Tm)(c:Nat)(U:List Nat),(YA t c U).length<=U.length+t.cnt
 |.v i,c,U=>by
  simp only[YA,Tm.cnt];split
  ·exact Zj U _
  omega
 |.n0 k,c,U=>by simp[YA]|.lam s b,c,U=>by have:=PL b (c+1) U;grind[YA,Tm.cnt]|.n1 k a,c,U=>by have:=PL a c U;grind[YA,Tm.cnt]|.n2 k a b,c,U=>by have:=PL a c U;have:=PL b c (YA a c U);grind[YA,Tm.cnt]|.n3 k s a b d,c,U=>by have:=PL a c U;have:=PL b c (YA a c U);have:=PL d c (YA b c (YA a c U));grind[YA,Tm.cnt]
def QL:∀(t:Tm)(v:Nat),t.occ v≠0->v<=t.mx
 |.v i,v,h=>by grind[Tm.occ,Tm.mx]|.n0 k,v,h=>absurd rfl h|.lam s b,v,h=>by have:=QL b (v+1) h;grind[Tm.mx]|.n1 k a,v,h=>QL a v h|.n2 k a b,v,h=>by
  simp only[Tm.occ]at h;simp only[Tm.mx];by_cases c:a.occ v=0
  ·have:=QL b v a6;omega
  have:=QL a v c;omega
 |.n3 k s a b d,v,h=>by
  simp only[Tm.occ]at h;simp only[Tm.mx];by_cases c:a.occ v=0
  ·by_cases e:b.occ v=0
   ·have:=QL d v a6;omega
   have:=QL b v e;omega
  have:=QL a v c;omega
def RL:Nat->Nat|0=>1|1=>0|n=>n
def uk:∀n,RL (RL n)=n|0=>rfl|1=>rfl|_+2=>rfl
def bk(g:Nat->Nat):∀U:List Nat,YJ g (se U)=se U|[]=>rfl|n::U=>by show(_,_)::YJ g (se U)=_::se U;rw[bk g U];rfl
def gk(U:List Nat):(QA U).ren RL=QA U:=by show Ob.smap false (YJ RL (se U))=_;rw[bk]
def By(t:Tm)(a:t.cnt<=qA)(a:t.mx<=qA*qA):O 382 [.pv t.p,.pv (num 0),.map 1] [(1,.smap false [])] (.pv (.tuple [])) [(1,QA (YA t 0 []))]:=by
 have h:=AC.ren uk (ML t 0 [] a6 a);have e:oF RL [(0,QA (YA t 0 []))]=[(1,QA (YA t 0 []))]:=by show [(1,(QA _).ren RL)]=_;rw[gk]
 rw[e]at h;exact h
def Cy{U S:List Nat}(h:UP U S):O 271 [.map 1] [(1,QA U)] (.pv (NA S)) [(1,QA U)]:=by
 have h:=AC.ren uk (Yj h);have e:oF RL [(0,QA U)]=[(1,QA U)]:=by show [(1,(QA _).ren RL)]=_;rw[gk]
 rw[e]at h;exact h
def Dy(t:Tm)(b:t.cnt<=qA)(c:t.tsz<=bA)(d:t.mx<=qA*qA):∃u:List Nat,A 339 [t.p] (.tuple [NA u,num t.chk])/\(t.chk=0->∀v,v∈u↔t.occ v≠0)/\(t.chk≠0->u=[])/\u.length<=t.cnt/\DD u:=by
 have:=zA;have:=yA;have a:=XG t c
 cases e:t.chk with
 |succ k=>
  rw[e]at a;exact⟨[],f2 [7,9] a (AD (m:=k+1) (n:=0)),λh=>(by cases h),λ_=>rfl,c6 _,.nil⟩
 |zero=>
  rw[e]at a;have:=PL t 0 [];have⟨S,h,j⟩:=yk (OL t 0 (U:=[]) abw) c5;refine⟨S,f3 [7,14,(16,.o [1] [] (.pv (NA S)))] a (By t b d) (Cy h),λ_ v=>?_,λh=>absurd rfl h,bS,h.asc⟩;rw[h.mem,NL,ia];simp
def BF(U:List Nat):List Nat->List Nat|[]=>U|x::r=>BF (oD U x) r
def lk:∀(r U:List Nat)(x:Nat),x∈BF U r↔x∈U\/x∈r
 :=by intro x;induction x<;>simp_all[U,BF,mem_ins1,e8]<;>grind
def Sb:∀(r:List Nat){U:List Nat},U.Nodup->(BF U r).Nodup|[],_,h=>h|y::r,_,h=>Sb r (Pb h)
def Tb:∀(r U:List Nat),(BF U r).length<=U.length+r.length|[],U=>by simp[BF]|y::r,U=>by have:=Tb r (oD U y);have:=Zj U y;grind[BF,List.length_cons]
abbrev Ey(a b:List Nat)(k:Nat):List (Nat×V):=[(1,.pv (NA b)),(5,.map 0),(11,.pv (NA a)),(12,.pv (num (a.map ic).length)),(13,.pv (num k))]
abbrev Fy(b:List Nat)(k:Nat):List (Nat×V):=[(5,.map 0),(20,.pv (NA b)),(21,.pv (num (b.map ic).length)),(22,.pv (num k))]
def nk(a b:List Nat)(c:a.length<=qA):∀(r:List Nat)(k:Nat)(U:List Nat),a.drop k=r->
  Lp 216 0 0 (st (Ey a b k) [(0,QA U)] 1 []) (.exit 0) (st [(1,.pv (NA b)),(5,.map 0)] [(0,QA (BF U r))] 1 [])
 |[],k,U,h=>by
  have e:dA (.ofNat k) (.ofNat (a.map ic).length)=false:=iA bS;exact y1 [14] ⟨[1,5],[0],1,[]⟩ e (LD U)
 |x::r,k,U,h=>by
  have:=zA;have⟨d,l,f⟩:=uC h;have e:dA (.ofNat k) (.ofNat (a.map ic).length)=true:=KA bS;have g:=BA (show k+1<=_ by omega);have i:=nk a b c r (k+1) (oD U x) f;exact n6 [14,(15,.i (ic x)),(99999,.w ⟨.undef,some (0,QA (oD U x)),false⟩),(19,.ok)] ⟨[1,5,11,12,13],[0],1,[]⟩ e (EA d kM) (Qb 0 U x) g (LD (oD U x)) i
def ik(b:List Nat)(a:b.length<=qA):∀(r:List Nat)(k:Nat)(U:List Nat),b.drop k=r->
  Lp 216 1 0 (st (Fy b k) [(0,QA U)] 1 []) (.exit 2) (st [(5,.map 0)] [(0,QA (BF U r))] 1 [])
 |[],k,U,h=>by
  have e:dA (.ofNat k) (.ofNat (b.map ic).length)=false:=iA bS;exact y1 [23] ⟨[5],[0],1,[]⟩ e (LD U)
 |x::r,k,U,h=>by
  have:=zA;have⟨c,j,d⟩:=uC h;have e:dA (.ofNat k) (.ofNat (b.map ic).length)=true:=KA bS;have f:=BA (show k+1<=_ by omega);have g:=ik b a r (k+1) (oD U x) d;exact n6 [23,(24,.i (ic x)),(99999,.w ⟨.undef,some (0,QA (oD U x)),false⟩),(28,.ok)] ⟨[5,20,21,22],[0],1,[]⟩ e (EA c kM) (Qb 0 U x) f (LD (oD U x)) g
def Gy(a b:List Nat)(c:a.length<=qA:=by omega)(d:b.length<=qA:=by omega):∃u:List Nat,A 216 [NA a,NA b] (NA u)/\(∀v,v∈u↔v∈a\/v∈b)/\u.length<=a.length+b.length/\DD u:=by
 have:=Tb a [];have:=Tb b (BF [] a);have⟨S,h,i⟩:=yk (Sb b (Sb a (U:=[]) abw)) c5;have l1:=nk a b c a 0 [] rfl;have e:=ik b d b 0 (BF [] a) rfl;refine⟨S,fk [(100003,.l ⟨[1,5,11,12,13],[0],1,[]⟩ (.exit 0) (st [(1,.pv (NA b)),(5,.map 0)] [(0,QA (BF [] a))] 1 [])),(100008,.l ⟨[5,20,21,22],[0],1,[]⟩ (.exit 2) (st [(5,.map 0)] [(0,QA (BF (BF [] a) b))] 1 [])),(30,.o [0] [] (.pv (NA S)))] (ZL (LD []) l1 (LD (BF [] a)) e (Yj h) (rfl:NA S=NA S)),λv=>?_,c5,h.asc⟩;rw[h.mem,lk,lk];simp
def xk:MF where
 uses t h1 h2 h3:=by
  have hm:=zA;have⟨u,g1,g2,g3,g4,g5⟩:=Dy t h1 (by have:=yA;omega) h3;refine⟨u,t.chk,g1,λh=>⟨h,λv hv=>(g2 h v).2 hv⟩,λx hx=>?_,g4,g5⟩;by_cases e:t.chk=0
  ·exact QL t x ((g2 e x).1 hx)
  simp_all
 union a b h1 h2 h3:=by
  have⟨u,g1,g2,g3,g4⟩:=Gy a b;exact⟨u,g1,λv hv=>(g2 v).2 hv,λv hv=>(g2 v).1 hv,g3,g4⟩
end Go.Proofs.YtbebdmlomjpamaaGreatDoor
namespace Go.Proofs.YtbebdmlomjpamaaGreatDoor
open Go.Lg
set_option maxRecDepth 100000
def Iy(j:Jt)(tl:List Tm)(s:Sc)(σ:Nat->Tm):rz j.f σ (j.xt tl s)=rz j.f σ (j.tx tl s):=by
 unfold Jt.tx;cases e:j.f.has
 ·exact II _ _ _ _ e
 rfl
section
variable{g:List Ty}(hg:g.length<=16)(hgs:∀s∈g,s.size<=64){j:Jt}(hD:j.D [] g [])(hO:j.OK [] g.length [])
include hg hgs hD hO
end
def MA:List Fm->Nat|[]=>0|f::r=>IC f.has+MA r
abbrev DC(f:Fm):List PV:=[.bool f.has]
def Ak(f:Fm):(DC f).length=1:=rfl
abbrev WV:Kp:=⟨[1,2,3,4,13,14,15],[0,1,3],4,[]⟩
def Ub(g:List Ty){hs:List Fm}(p:hs.length<=qA){n:Nat}(i:n<=nA):∀(r:List Fm)(k l v:Nat)(A:List (List PV)),hs.drop k=r->A.length=k->l<=k->(∀f∈r,FK n f)->
  ∃a,Lp 86 0 0 (st [(1,.loc 0 0),(2,.loc 1 0),(3,.arr 3 v A.length),(4,.pv (num l)),(13,.pv (uA hs)),(14,.pv (num (hs.map Fm.c).length)),(15,.pv (num k))] [(0,bx [rA g,uA hs]),(1,bx ZE),(3,.arr v 1 4 (vA A))] 4 []) (.exit 0)
   (st [(1,.loc 0 0),(2,.loc 1 0),(3,.arr 3 a (A.length+r.length)),(4,.pv (num (l+MA r)))] [(0,bx [rA g,uA hs]),(1,bx ZE),(3,.arr a 1 4 (vA (A++r.map DC)))] 4 [])
 |[],k,l,v,A,h,j,m,c=>by
  have e:dA (.ofNat k) (.ofNat (hs.map Fm.c).length)=false:=iA (by simpa using rW h);simp only[i2,hI,iq,ir,MA];exact⟨v,y1 [(16,.H)] ⟨[1,2,3,4],[0,1,3],4,[]⟩ e (BB A)⟩
 |f::r,k,l,v,A,h,j,m,c=>by
  have:=zA;have:=yA;have⟨s,B,t⟩:=uC h;have e:dA (.ofNat k) (.ofNat (hs.map Fm.c).length)=true:=KA (by simpa using B);have u:=(c f a8).a70 i;have w:=YD (A:=A) (v:=v) (ty:=4) (m:=1) (c:=DC f) (show 0<1 by decide) rfl rfl (by simp only[maxLen];omega) a6;have C:=lA (a:=l) (b:=1);have y:=lA (a:=k) (b:=1);have z:(A++[DC f]).length=A.length+1:=a8
  cases d:f.has
  ·have⟨a,b⟩:=Ub g p i r (k+1) l (v+1) (A++[DC f]) t (by simp[j]) a6 (λx o=>c x (by simp[o]));rw[gD,z,show A.length+1+r.length=A.length+(f::r).length by simp;omega,gy]at b;have ec:MA (f::r)=MA r:=by simp only[MA,d,IC];omega
   rw[ec];exact⟨a,n8 [(16,.G),(17,.i f.c),(21,.U [.bool f.has,num 0]),(27,.ok),(28,.H),(31,.z (k+1))] WV e (EA s Fm.c_len) u w d y (dB A (DC f)) b⟩
  have⟨a,b⟩:=Ub g p i r (k+1) (l+1) (v+1) (A++[DC f]) t (by simp[j]) a6 (λx o=>c x (by simp[o]));rw[gD,z,show A.length+1+r.length=A.length+(f::r).length by simp;omega,gy]at b;have ec:l+MA (f::r)=l+1+MA r:=by simp only[MA,d,IC];omega
  rw[ec];exact⟨a,n9 [(16,.G),(17,.i f.c),(21,.U [.bool f.has,num 0]),(27,.ok),(28,.G),(30,.z (l+1)),(31,.z (k+1))] WV e (EA s Fm.c_len) u w d C y (dB A (DC f)) b⟩
def EC:List Fm->Nat->Sc->Sc
 |[],_,s=>s|f::r,l,s=>match f.has with|true=>EC r (l-1) (s.hyp (.v (l-1)))|false=>EC r l s.bare
abbrev Sc.cs(s:Sc):List PV:=[num s.dep,num s.hyps,.slice (s.vs.map ec),.slice (s.ks.map Hy.c)]
def Vb{hs:List Fm}(d:hs.length<=qA):∀(r:List Fm)(k l:Nat)(s:Sc),hs.drop k=r->l=MA r->s.ks.length<=k->s.hyps<=k->
  Lp 86 1 0 (st [(2,.loc 1 0),(4,.pv (num l)),(9,.loc 4 0),(37,.pv (.slice (hs.map DC))),(38,.pv (num (hs.map DC).length)),(39,.pv (num k))] [(1,bx ZE),(4,bx s.cs)] 5 []) (.exit 2) (st [(2,.loc 1 0),(9,.loc 4 0)] [(1,bx ZE),(4,bx (EC r l s).cs)] 5 [])
 |[],k,l,s,h,c,m,n=>by
  have e:dA (.ofNat k) (.ofNat (hs.map DC).length)=false:=iA (by simpa using rW h);exact x1 [(40,.H)] ⟨[2,9],[1,4],5,[]⟩ e
 |f::r,k,l,s,h,c,m,n=>by
  have u:=zA;have v:=yA;have⟨g,o,i⟩:=uC h;have e:dA (.ofNat k) (.ofNat (hs.map DC).length)=true:=KA (by simpa using o);have j:=lA (a:=k) (b:=1);have p:MA (f::r)<=qA:=by
   have:∀r:List Fm,MA r<=r.length:=by
    intro r
    induction r with|nil=>exact e6 _|cons x r b=>simp only[MA,hW];cases x.has<;>simp only[IC]<;>omega
   have w:=this (f::r);have y:(f::r).length<=hs.length:=by rw[<-h];simp
   omega
  cases a:f.has
  ·have ec:l=MA r:=by rw[c];simp only[MA,a,IC];omega
   have es:EC (f::r) l s=EC r l s.bare:=by simp only[EC,a]
   rw[es];have b:=Vb d r (k+1) l s.bare i ec (by simp[Sc.bare];omega) (by show s.hyps+1<=k+1;omega);exact n6 [(40,.G),(41,.i (DC f)),(44,.G),(46,.r s.bare.p),(53,.z (k+1))] ⟨[2,4,9,37,38,39],[1,4],5,[]⟩ e (EA g Ak) (show(!f.has)=true by rw[a];rfl) (IT s) j b
  have ec:l=MA r+1:=by rw[c];simp only[MA,a,IC];omega
  have es:EC (f::r) l s=EC r (l-1) (s.hyp (.v (l-1))):=by simp only[EC,a]
  rw[es];have b:=Vb d r (k+1) (l-1) (s.hyp (.v (l-1))) i a6 (by simp[Sc.hyp];omega) (by show s.hyps+1<=k+1;omega);have t:=lC (a:=l);exact n8 [(40,.G),(41,.i (DC f)),(44,.H),(48,.z (l-1)),(51,.r (Tm.v (l-1)).p),(52,.r (s.hyp (.v (l-1))).p),(53,.z (k+1))] ⟨[2,4,9,37,38,39],[1,4],5,[]⟩ e (EA g Ak) (show(!f.has)=false by rw[a];rfl) t (TA (l-1)) (HO s (.v (l-1))) j b
abbrev FC(g:List Ty)(hs:List Fm):Sc:=EC hs (MA hs) (PC g.length (MA hs))
def gO:∀r:List Fm,MA r<=r.length|[]=>e6 _|x::r=>by have:=gO r;simp only[MA,hW];cases x.has<;>simp only[IC]<;>omega
def Jy(g:List Ty)(hs:List Fm){n:Nat}(i:n<=nA)(j:∀f∈hs,FK n f)(z:g.length<=16)(k:hs.length<=16):A 86 [AA g hs] (FC g hs).p:=by
 have:=zA;have:=yA;have:=gO hs;have c:=qo (g.map Ty.c).length (MA hs) a9;rw[show PC (g.map Ty.c).length (MA hs)=PC g.length (MA hs) by simp]at c
 cases hs with
 |nil=>exact f1 [(36,.r (PC g.length (MA [])).p)] c|cons f r=>
  have k:r.length+1<=16:=by simpa using k
  generalize d:MA (f::r)=L at *
  have e:dA (.ofNat 0) (.ofNat ((f::r).map Fm.c).length)=true:=KA a8;have l:=(j f a8).a70 i;have:=lA (a:=0) (b:=1);have key:∃l0,l0<=1/\l0+MA r=L/\∀(a:IS),Lp 86 0 0 (st [(1,.loc 0 0),(2,.loc 1 0),(3,.arr 3 1 1),(4,.pv (num l0)),(13,.pv (uA (f::r))),(14,.pv (num ((f::r).map Fm.c).length)),(15,.pv (num 1))] [(0,bx [rA g,uA (f::r)]),(1,bx ZE),(3,.arr 1 1 4 (vA [DC f]))] 4 []) (.exit 0) a->
    Lp 86 0 0 (st [(1,.loc 0 0),(2,.loc 1 0),(3,.pv .nils),(4,.pv (num 0)),(13,.pv (uA (f::r))),(14,.pv (num ((f::r).map Fm.c).length)),(15,.pv (num 0))] [(0,bx [rA g,uA (f::r)]),(1,bx ZE)] 2 []) (.exit 0) a:=by
   cases b:f.has
   ·refine⟨0,a6,by rw[<-d];simp only[MA,b,IC],λa h=>?_⟩;exact n6 [(16,.G),(17,.i f.c),(21,.U [.bool f.has,num 0]),(28,.H)] WV e (EA (g:=f::r) (k:=0) rfl Fm.c_len) l b (dB [] (DC f)) h
   refine⟨1,a6,by rw[<-d];simp only[MA,b,IC],λa h=>?_⟩;exact n6 [(16,.G),(17,.i f.c),(21,.U [.bool f.has,num 0]),(28,.G)] WV e (EA (g:=f::r) (k:=0) rfl Fm.c_len) l b (dB [] (DC f)) h
  have⟨l0,p,s,t⟩:=key;have⟨v,m⟩:=Ub g (hs:=f::r) a9 i r 1 l0 1 [DC f] rfl rfl p (λx u=>j x (by simp[u]));rw[s,show [DC f]++r.map DC=(f::r).map DC from rfl]at m;have o:=LoopIs.fz a8 m 3 (ver:=v) (sz:=1) (ty:=4) (ps:=(f::r).map DC) rfl bG;simp (decide:=true) only[eD,XC,VB,sC,UC,bx,ZE,List.map,BC,and_self,↓reduceIte,gu (show(DC f::r.map DC).length<=[DC f].length+r.length by simp;omega)]at o;have w:=t _ o;have y:=Vb (hs:=f::r) a9 (f::r) 0 L (PC g.length L) rfl d.symm (e6 _) (e6 _);exact f3 [(100004,.l ⟨[1,2,3,4,13,14,15],[0,1],2,[]⟩ (.exit 0) (st [(1,.loc 0 0),(2,.loc 1 0),(3,.pv (.slice ((f::r).map DC))),(4,.pv (num L))] [(0,bx [rA g,uA (f::r)]),(1,bx ZE)] 4 [])),(36,.r (PC g.length L).p),(100013,.l ⟨[2,4,9,37,38,39],[1,4],5,[]⟩ (.exit 2) (st [(2,.loc 1 0),(9,.loc 4 0)] [(1,bx ZE),(4,bx (EC (f::r) L (PC g.length L)).cs)] 5 []))] w c y
def Wb:∀(r:List Fm)(l:Nat)(s:Sc),(EC r l s).dep=s.dep
 |[],_,_=>rfl|f::r,l,s=>by
  simp only[EC];cases f.has
  ·exact Wb r l s.bare
  exact Wb r (l-1) (s.hyp (.v (l-1)))
def Xb:∀(r:List Fm)(l:Nat)(s:Sc),(EC r l s).hyps=s.hyps+r.length
 |[],_,_=>rfl|f::r,l,s=>by
  simp only[EC,hW];cases f.has
  ·have:=Xb r l s.bare;simp only[Sc.bare]at this⊢;omega
  have:=Xb r (l-1) (s.hyp (.v (l-1)));simp only[Sc.hyp]at this⊢;omega
open Go.Lg
section
variable{ls:List Fm}{g:List Ty}{hs:List Fm}
def SQ2.FK(Q:SQ2 ls g hs):∀f∈hs,FK g.length f:=λf a=>FM Q.gs (by have:=Q.gl;omega) (Q.hs f a).1 (Q.hs f a).2
def SQ2.FL(Q:SQ2 ls g hs):∀f∈ls,Go.Proofs.YtbebdmlomjpamaaGreatDoor.FK 0 f:=λf a=>FM (g:=[]) nofun bb (Q.ls f a).1 (Q.ls f a).2
def Bk(i:g.length<=16)(a:∀s∈g,s.size<=64){f:Fm}(h:f.chk=0/\f.ty g):A 281 [rA g,f.p] (num 0):=by
 have:=zA;have:=yA;have k:=FM a a6 h.1 h.2;have c:=k.cnt;have⟨e,b,_,j⟩:=bM f g a k.shp a6;rw[j h.2]at b;have d:=aQ g (λs h=>by have:=a s h;omega);rw[LQ i a]at d;exact f4 [8,13,18,20] d k.a89 (Kd g a6 (λs h=>by have:=a s h;omega)) b
abbrev wA(ls hs:List Fm)(g:List Ty)(k:Nat):IS:=st [(3,.loc 0 0),(15,.pv (uA ls)),(16,.pv (num (ls.map Fm.c).length)),(17,.pv (num k))] [(0,bx [rA g,uA hs])] 1 []
abbrev wE(hs:List Fm)(g:List Ty):IS:=st [(3,.loc 0 0)] [(0,bx [rA g,uA hs])] 1 []
abbrev wB(hs:List Fm)(g:List Ty)(k:Nat):IS:=st [(3,.loc 0 0),(38,.pv (uA hs)),(39,.pv (num (hs.map Fm.c).length)),(40,.pv (num k))] [(0,bx [rA g,uA hs])] 1 []
def Ck(c:ls.length<=qA):∀(r:List Fm)(k:Nat),ls.drop k=r->(∀f∈r,f.chk=0/\f.ty [])->Lp 229 0 0 (wA ls hs g k) (.exit 0) (wE hs g)
 |[],k,h,_=>x1 [18] ⟨[3],[0],1,[]⟩ (show dA (.ofNat k) (.ofNat (ls.map Fm.c).length)=false from iA bS)|f::r,k,h,b=>by
  have⟨d,l,e⟩:=uC h;have:=zA;have a:dA (.ofNat k) (.ofNat (ls.map Fm.c).length)=true:=KA bS;have i:=Ck c r (k+1) e λt j=>b t (by simp[j])
  exact n5 [18,(19,.i f.c),22,(26,.ok)] ⟨[3,15,16,17],[0],1,[]⟩ a (EA d Fm.c_len) (Bk (g:=[]) a8 nofun (b f a8)) (BA (show k+1<=_ by omega)) i
def Ek(c:g.length<=16)(a:∀s∈g,s.size<=64)(e:hs.length<=qA):∀(r:List Fm)(k:Nat),hs.drop k=r->(∀f∈r,f.chk=0/\f.ty g)->Lp 229 1 0 (wB hs g k) (.exit 2) (st [] [] 1 [])
 |[],k,h,_=>x1 [41] ⟨[],[],1,[]⟩ (show dA (.ofNat k) (.ofNat (hs.map Fm.c).length)=false from iA bS)|f::r,k,h,d=>by
  have⟨i,n,j⟩:=uC h;have:=zA;have b:dA (.ofNat k) (.ofNat (hs.map Fm.c).length)=true:=KA bS;have l:=Ek c a e r (k+1) j λt m=>d t (by simp[m])
  exact n5 [41,(42,.i f.c),47,(51,.ok)] ⟨[3,38,39,40],[0],1,[]⟩ b (EA i Fm.c_len) (Bk c a (d f a8)) (BA (show k+1<=_ by omega)) l
def Ky(Q:SQ2 ls g hs)(a:ls.length<=32):A 229 [uA ls,AA g hs] (num 0):=by
 have:=zA;have:=yA;have:=Q.gl;have:=Q.hl;have b:dA (.ofNat 32) (.ofNat (ls.map Fm.c).length)=false:=iA bS;have c:dA (.ofNat 16) (.ofNat (hs.map Fm.c).length)=false:=iA bS;have a:=aQ g (λs h=>by have:=Q.gs s h;omega);rw[LQ Q.gl Q.gs]at a;exact f5 [14,(100004,.l ⟨[3,15,16,17],[0],1,[]⟩ (.exit 0) (wE hs g)),29,36,(100016,.l ⟨[3,38,39,40],[0],1,[]⟩ (.exit 2) (st [] [] 1 []))] b (Ck (ls:=ls) (g:=g) (hs:=hs) a6 ls 0 rfl Q.ls) a c (Ek (g:=g) Q.gl Q.gs a6 hs 0 rfl Q.hs)
def Fk(g:List Ty)(b:hs.length<=1000):∀(r:List Fm)(k:Nat)(K:List (Fm×Nat)),hs.drop k=r->K.length<=k->Lp 232 0 0 (xe hs k (JQ g K)) (.exit 0) (iT (JQ g (K++HH g.length r)))
 |[],k,K,h,c=>by
  rw[show JQ g (K++HH g.length [])=JQ g K by simp];exact x1 [19] jn (show dA (.ofNat k) (.ofNat (hs.map Fm.c).length)=false from iA bS)
 |f::r,k,K,h,c=>by
  have⟨d,l,e⟩:=uC h;have:=zA;have:=yA;have a:dA (.ofNat k) (.ofNat (hs.map Fm.c).length)=true:=KA bS;have i:=GQ g K f;have j:=Fk g b r (k+1) (K++[(f,g.length)]) e a9;rw[show K++HH g.length (f::r)=(K++[(f,g.length)])++HH g.length r by simp];exact n5 [19,(20,.i f.c),24,(25,.ok)] iX a (EA d Fm.c_len) i (BA (show k+1<=_ by omega)) j
def Ly(g:List Ty)(hs:List Fm)(c:g.length<=16)(a:∀s∈g,s.size<=64)(d:hs.length<=1000:=by omega):A 232 [AA g hs] (mD g (HH g.length hs)):=by
 have:=yA;have:=zA
 cases hs with
 |nil=>exact vn g c a|cons f r=>
  have e:=Kd g a6 (λs h=>by have:=a s h;omega);have i:num (g.map Ty.c).length=num g.length:=by rw[gB]
  have j:=Fk g d r 1 [(f,g.length)] rfl a8;have b:=GQ g [] f a8;have k:A 296 [.agg [num (g.map Ty.c).length,num 0,CB g,.slice []],f.p] (mD g [(f,g.length)]):=by rw[i];exact b
  have l:nB ((f::r).map Fm.c) 0=some f.c/\tB 5 ((f::r).map Fm.c)=true:=EA (g:=f::r) (k:=0) rfl Fm.c_len;have m:Lp 232 0 0 (xe (f::r) 0 [num (g.map Ty.c).length,.int 0,CB g,.nils]) (.exit 0) (iT (JQ g (HH g.length (f::r)))):=
   n3 [(20,.i f.c),24] iX l k j
  exact f2 [8,(100004,.l iX (.exit 0) (iT (JQ g (HH g.length (f::r)))))] e m
def My(n:Nat)(hs:List Fm):vw n (HH n hs)=hs:=by
 simp only[vw,HH,abj]
 conv=>rhs;rw[<-List.map_id hs]
 refine aak λf _=>?_
 show f.sh 0 (.ofNat (n-n))=f;rw[aaY,Qd]
def Ny(Q:SQ2 ls g hs)(e:ls.length<=32)(j:Jt)(c:j.D ls g hs)(a:j.p.ck)(i:j.p.cnt<=16384):A 85 [uA ls,AA g hs,j.p.p] (.tuple [j.ptr hs,num 0])/\j.OK ls g.length hs:=by
 have:=zA;have:=Q.gl;have:=Q.hl;have b:PlOK g (HH g.length hs):=⟨Q.gl,Q.gs,by simp[HH];exact Q.hl,λh k=>by
  obtain⟨f,l,rfl⟩:=iy.1 k;exact⟨Q.FK f l,e6 _⟩⟩
 have⟨m,z,n,o⟩:=nD Q.FL j g (HH g.length hs) b (by rw[My];exact c) a;have⟨L,p⟩:=Dn z n.u;have r:A 150 [uA ls,AA g hs,j.p.p] (.tuple [.agg [num j.f.kd,num j.f.tk,.slice j.f.te,.slice j.f.ts,.slice j.f.es,NA L],num 0]):=
  f6 [15,21,34,(35,.o [3,4] [] (.pv (GB j.f.y z 0))),44,47] (Ky Q e) (aX j.p i a) (Ly g hs Q.gl Q.gs) o (mm j.f m.cn) p
 have d:=(WE Q.FL j g hs c Q.gs Q.gl Q.FK a).1;have s:=XE (ls:=ls) j g.length hs Q.FK a6 a6 d;exact⟨f2 [14,24] r s,d⟩
end
def Yb{f:Fm}(h:f.chk=0/\f.ty []):FK 0 f:=FM (g:=[]) (λs h=>nomatch h) bb h.1 h.2
section
variable{ls:List Fm}
def Fm.ctu(f:Fm):Ty:=bif f.has then f.cty else .unit
def Oy{f:Fm}(h:FK 0 f):A 112 [f.p] (TR.ok f.ctu).p\/A 112 [f.p] (TR.er 3).p:=by
 have⟨r,g,q⟩:=DQ f h.shp
 cases r with
 |er n=>cases (show n=3 from q);exact .inr (f2 [(9,.N 0),(16,.r (CR.er 3).q)] h.a89 g)
 |ers s n=>cases (show n=3 from q);exact .inr (f2 [(9,.N 0),(16,.r (CR.ers s 3).q)] h.a89 g)
 |no=>
  have e:f.ctu=.unit:=by unfold Fm.ctu;rw[show f.has=false from q];rfl
  rw[e];exact .inl (f2 [(9,.N 0),(16,.r CR.no.q)] h.a89 g)
 |ok s=>
  have e:f.ctu=s:=by unfold Fm.ctu;rw[q.1,q.2.2];rfl
  rw[e];exact .inl (f2 [(9,.N 0),(16,.r (CR.ok s).q)] h.a89 g)
def Py{t:Tm}(h:TK 0 t){u:Ty}(d:Ht [] t u):A 113 [rA [],t.p] (TR.ok u).p\/A 113 [rA [],t.p] (TR.er 3).p:=by
 have:=zA;have c:=h.cnt;obtain⟨r,a,_,_,rfl⟩:=eJ t [] (λs h=>nomatch h) h.shp a9;have b:=aQ [] (λs h=>nomatch h);rcases PF t [] u d with e|e<;>rw[e]at a
 ·exact .inl (f5 [(11,.N 0),(17,.N 0),(24,.r (CB [])),(26,.r (TR.ok u).q),(35,.r u.p)] b h.a92 Jd a (JF u))
 exact .inr (f4 [(11,.N 0),(17,.N 0),(24,.r (CB [])),(26,.r (TR.er 3).q)] b h.a92 Jd a)
def Gk(s:Ty):A 114 [s.p,s.p] (.bool true):=by
 have g:=pQ s s;rw[RX]at g;exact f1 [(7,.T)] g
structure FitL(ls:List Fm)(tl:List Tm):Prop where
 ll:ls.length<=32
 len:ls.length=tl.length
 ty:∀f∈ls,f.chk=0/\f.ty []
 ht:∀(i:Nat)(f:Fm)(t:Tm),ls[i]? =some f->tl[i]? =some t->TK 0 t/\Ht [] t f.ctu
abbrev XV:Kp:=⟨[1,15,16,17],[],0,[]⟩
abbrev Hk(ls:List Fm)(tl:List Tm)(k:Nat):IS:=st [(1,.pv (row tl)),(15,.pv (uA ls)),(16,.pv (num (ls.map Fm.c).length)),(17,.pv (num k))] [] 0 []
def Ik{tl:List Tm}(H:FitL ls tl):∀(r:List Fm)(k:Nat),ls.drop k=r->Lp 34 0 0 (Hk ls tl k) (.exit 0) (st [] [] 0 [])\/Lp 34 0 0 (Hk ls tl k) .ret (st [(4,.pv (num 4))] [] 0 [])
 |[],k,h=>.inl (x1 [(18,.H)] (kp []) (show dA (.ofNat k) (.ofNat (ls.map Fm.c).length)=false from iA bS))|f::r,k,h=>by
  have:=yA;have:=H.ll;have:=H.len;have⟨a,s,m⟩:=uC h;have e:dA (.ofNat k) (.ofNat (ls.map Fm.c).length)=true:=KA bS;obtain⟨t,c⟩:∃t,tl[k]? =some t:=⟨_,e7 a6⟩;have⟨n,o⟩:=H.ht k f t a c;rcases Oy (Yb (H.ty f (gg a)))with b|b
  ·rcases Py n o with d|d
   ·have i:=lA (a:=k) (b:=1);rcases Ik H r (k+1) m with g|g
    ·exact .inl (n8 [(18,.G),(20,.i f.c),(24,.r (TR.ok f.ctu).p),(33,.i t.c),(35,.r (TR.ok f.ctu).p),(43,.T),(45,.z (k+1))] XV e (EA a Fm.c_len) b (EA c Tm.c_len) d (Gk f.ctu) i g)
    exact .inr (n8 [(18,.G),(20,.i f.c),(24,.r (TR.ok f.ctu).p),(33,.i t.c),(35,.r (TR.ok f.ctu).p),(43,.T),(45,.z (k+1))] XV e (EA a Fm.c_len) b (EA c Tm.c_len) d (Gk f.ctu) i g)
   exact .inr (x5 [(18,.G),(20,.i f.c),(24,.r (TR.ok f.ctu).p),(33,.i t.c),(35,.r (TR.er 3).p)] (kp [4]) e (EA a Fm.c_len) b (EA c Tm.c_len) d)
  exact .inr (x3 [(18,.G),(20,.i f.c),(24,.r (TR.er 3).p)] (kp [4]) e (EA a Fm.c_len) b)
def Qy{tl:List Tm}(H:FitL ls tl):A 34 [uA ls,row tl] (num 0)\/A 34 [uA ls,row tl] (num 4):=by
 have e:(!sB (.ofNat (ls.map Fm.c).length) (.ofNat (tl.map Tm.c).length))=false:=nC (by simpa using H.len);rcases Ik H ls 0 rfl with g|g
 ·exact .inl (f2 [(14,.H),(100004,.l XV (.exit 0) (st [] [] 0 []))] e g)
 exact .inr (f2 [(14,.H),(100004,.l XV .ret (st [(4,.pv (num 4))] [] 0 []))] e g)
end
open Go.Lg
def jB:List Fm->List Ty
 |[]=>[]|f::r=>match f.has with|true=>f.cty::jB r|false=>jB r
def aI:∀r,(jB r).length=MA r
 |[]=>rfl|f::r=>by
  have:=aI r;simp only[jB,MA];cases f.has<;>simp only[IC,hW]<;>omega
def VA(c:Nat):List Fm->Nat->List Fm
 |[],_=>[]|f::r,l=>match f.has with|true=>rz (f.sh 0 (.ofNat c)) Tm.v (.v (l-1))::VA c r (l-1)|false=>rz (f.sh 0 (.ofNat c)) Tm.v (.n0 .unit)::VA c r l
def YV(c:Nat):∀r l,(VA c r l).length=r.length
 |[],_=>rfl|f::r,l=>by
  simp only[VA];cases f.has<;>simp only[hW,YV c r]
abbrev qB(g:List Ty)(hs:List Fm):List Ty:=g++jB hs
abbrev yC(hs:List Fm):List Fm:=VA (MA hs) hs (MA hs)
def Jk{a b i:Nat}(h:i<a):sS (PC a b) i=.v (i+b):=by
 show(Tm.v i).ps (OF (a+b) 0 a) (a+b) 0=_;have e:ent (OF (a+b) 0 a) i=some (.v (i+b),a+b):=by
  unfold ent;rw[KX,gm h,zo _ _ _ _ a6,show a+b-1-(0+(a-1-i))=i+b by omega]
 rw[HI e,aaY,VE]
def Zb(g C:List Ty)(i:Nat):ZA (g++C) (i+C.length)=ZA g i:=by
 unfold ZA;by_cases h:i<g.length
 ·rw[gm a9,gm h,gz,show g.length+C.length-1-(i+C.length)=g.length-1-i by omega,aag a6]
 rw[e9 a9,e9 h]
def Kk(P:List Ty)(s:Ty)(Q:List Ty):ZA (P++s::Q) Q.length=.ok s:=by
 have:=Zb (P++[s]) Q 0;rw[eG]at this;simpa using this
def Ry(g C:List Ty):SoT (g++C) g [] [] (PC g.length C.length):=by
 refine⟨vo _ _,⟨λi s h=>?_,λi f a=>absurd a (lh i)⟩,a8,rfl,nofun,nofun,λi f a=>absurd a (lh i)⟩;show Ht (g++C) (sS (PC g.length C.length) i) s;rw[Jk (TQ h)];show ZA _ _=_;rw[Zb];exact h
def abn:=@List.append_cons
def jc{G g:List Ty}{c:Nat}:∀(r:List Fm)(l:Nat)(s:Sc)(hs b:List Fm),(∃P,G=P++jB r)->SoT G g hs b s->(∀i,i<g.length->sS s i=.v (i+c))->l=MA r->(∀f∈r,f.tq g/\f.sc g.length)->SoT G g (hs++r) (b++VA c r l) (EC r l s)
 |[],_,_,_,_,_,H,_,_,_=>by simpa[EC,VA]using H|f::r,l,s,hs,b,⟨P,e⟩,H,d,p,h=>by
  have⟨u,j⟩:=h f a8;have key:∀t,FCv (rz (f.sh 0 (.ofNat c)) Tm.v t) (rz f (sS s) t):=λt=>by
   rw[ZH,RF,cE f g.length _ (sS s) t j (λi v=>by rw[d i v];simp[Tm.sub,QC])];exact .refl _
  cases a:f.has
  ·have k:EC (f::r) l s=EC r l s.bare:=by simp only[EC,a]
   have m:VA c (f::r) l=rz (f.sh 0 (.ofNat c)) Tm.v (.n0 .unit)::VA c r l:=by simp only[VA,a]
   rw[k,m,abn hs,abn b];exact jc r l s.bare _ _ ⟨P,by simpa[jB,a]using e⟩ (H.bare j u a (key _)) d (by rw[p];simp[MA,a,IC]) λx n=>h x (by simp[n])
  have k:EC (f::r) l s=EC r (l-1) (s.hyp (.v (l-1))):=by simp only[EC,a]
  have m:VA c (f::r) l=rz (f.sh 0 (.ofNat c)) Tm.v (.v (l-1))::VA c r (l-1):=by simp only[VA,a]
  have ec:l-1=MA r:=by rw[p];simp[MA,a,IC]
  have o:G=P++f.cty::jB r:=by simpa[jB,a]using e
  have w:Ht G (.v (l-1)) f.cty:=by
   show ZA G (l-1)=_;rw[o,ec,<-aI,Kk]
  have y:TK s.dep (.v (l-1)):=TB (by rw[<-H.d,o,ec,<-aI];simp;omega);rw[k,m,abn hs,abn b];exact jc r (l-1) (s.hyp (.v (l-1))) _ _ ⟨P++[f.cty],by simpa using o⟩ (H.hyp j u w y (key _) a) d ec λx n=>h x (by simp[n])
def vc:∀(r:List Fm)(l:Nat)(s:Sc),(∀y∈s.ks,y.pl<s.hyps)->∀y∈(EC r l s).ks,y.pl<(EC r l s).hyps
 |[],_,_,h=>h|f::r,l,s,h=>by
  have k:∀(x:Hy),x.pl=s.hyps->∀y∈s.ks++[x],y.pl<s.hyps+1:=λx a y hy=>by
   rcases eh.1 hy with hy|hy
   ·have:=h y hy;omega
   simp at hy;subst hy;omega
  simp only[EC];cases f.has
  ·exact vc r l s.bare (k _ rfl)
  exact vc r (l-1) (s.hyp (.v (l-1))) (k _ rfl)
def Lk{g:List Ty}{hs:List Fm}:(FC g hs).dep=g.length+MA hs:=Wb _ _ _
section
variable{ls:List Fm}{g:List Ty}{hs:List Fm}(Q:SQ2 ls g hs)
include Q
theorem SQ2.so:SoT (qB g hs) g hs (yC hs) (FC g hs):=by
 have h:=Ry g (jB hs);rw[aI]at h;simpa using jc (c:=MA hs) hs (MA hs) _ [] [] ⟨g,rfl⟩ h (λi a=>Jk a) rfl λf a=>⟨pC _ _ (Q.hs f a).2,(Q.FK f a).sc⟩
theorem SQ2.W:SW 84968 g.length hs (FC g hs):=by
 have:=Q.gl;have:=Q.hl;have:=gO hs;have S:=Q.so.S;have:(FC g hs).hyps=0+hs.length:=Xb _ _ _;have a:=S.kl;rw[gB]at a;exact⟨S,vc _ _ _ nofun,a6,by rw[Lk];omega,a6,a6⟩
end
abbrev iC(z:Int):List PV:=[.int z]
def IA:Nat->List Fm->List Int
 |_,[]=>[]|n,f::r=>match f.has with|true=>Int.ofNat n::IA (n+1) r|false=> -1::IA n r
def kc:∀n r,(IA n r).length=r.length
 |_,[]=>rfl|n,f::r=>by
  simp only[IA];cases f.has<;>simp only[hW,kc _ r]
abbrev uK(l:List Int):PV:=.slice (l.map iC)
def Mk{n:Nat}{f:Fm}(h:FK n f):A 177 [f.p] (CR.er 3).q\/(∃s,A 177 [f.p] (CR.ers s 3).q)\/(f.has=false/\A 177 [f.p] CR.no.q)\/f.has=true/\f.cty.size<=64/\A 177 [f.p] (CR.ok f.cty).q:=by
 have⟨r,g,q⟩:=DQ f h.shp
 cases r with
 |er n=>cases (show n=3 from q);exact .inl g
 |ers s n=>cases (show n=3 from q);exact .inr (.inl ⟨s,g⟩)
 |no=>exact .inr (.inr (.inl ⟨q,g⟩))|ok s=>
  have e:f.cty=s:=q.2.2.symm;rw[e];exact .inr (.inr (.inr ⟨q.1,q.2.1,g⟩))
section
variable{f i bs:Nat}{s s':IS}{e:AE}
def Uy(c:Di)(a:Kp){b N M:Prop}[Ans b](d:b)(w:N)(w2:M)(q:(b/\e=e/\N/\M/\s'=s')=Rd f i bs s (fill c (AnsL.d (b/\e=e/\N/\M/\s'=s'))) a a e s'):Lp f i bs s e s':=rk c a a ⟨d,rfl,w,w2,rfl⟩ q
end
def yc{v len:Nat}:ro ((bif Nat.beq v v then some (V.pv (num len))else none))=some ⟨.pv (num len),none,false⟩:=by rw[ME rfl];rfl
abbrev kJ:Kp:=⟨[2,3,25,26,27],[1,4],5,[]⟩
abbrev WP(hs:List Fm)(k v w:Nat)(A P:List (List PV)):IS:=st [(2,.arr 1 v A.length),(3,.arr 4 w P.length),(25,.pv (uA hs)),(26,.pv (num (hs.map Fm.c).length)),(27,.pv (num k))] [(1,.arr v 2 36 (vA A)),(4,.arr w 1 3 (vA P))] 5 []
abbrev Vy(v w:Nat)(A P:List (List PV))(a b:Nat):IS:=st [(2,.arr 1 v a),(3,.arr 4 w b)] [(1,.arr v 2 36 (vA A)),(4,.arr w 1 3 (vA P))] 5 []
abbrev ZV:IS:=st [(2,.pv .nils),(3,.pv .nils),(4,.pv (num 4))] [] 5 []
def uc{n:Nat}{hs:List Fm}(z:hs.length<=16):∀(r:List Fm)(k v w:Nat)(A P:List (List PV)),hs.drop k=r->A.length<=100+k->P.length=k->(∀f∈r,FK n f)->
  (∃g i,Lp 157 0 0 (WP hs k v w A P) (.exit 0) (Vy g i (A++(jB r).map Ty.c) (P++(IA A.length r).map iC) (A.length+(jB r).length) (P.length+r.length)))\/Lp 157 0 0 (WP hs k v w A P) .ret ZV
 |[],k,v,w,A,P,h,F,p,m=>by
  have e:dA (.ofNat k) (.ofNat (hs.map Fm.c).length)=false:=iA bS;refine .inl ⟨v,w,?_⟩;simp only[jB,IA,i2,hI,iq,ir];exact Uy [28] ⟨[2,3],[1,4],5,[]⟩ e (BB A) (BB P) bG
 |f::r,k,v,w,A,P,h,F,p,m=>by
  have:=yA;have⟨G,I,B⟩:=uC h;have e:dA (.ofNat k) (.ofNat (hs.map Fm.c).length)=true:=KA bS;have C:=m f a8;have c:=EA G Fm.c_len;have d:=C.a89;have o:=lA (a:=k) (b:=1);rcases Mk C with b|⟨s,b⟩|⟨j,b⟩|⟨j,D,b⟩
  ·exact .inr (x4 [28,(29,.i f.c),32,38] ⟨[2,3,4],[],5,[]⟩ e c d b)
  ·exact .inr (x4 [28,(29,.i f.c),32,38] ⟨[2,3,4],[],5,[]⟩ e c d b)
  ·have l:=YD (A:=P) (v:=w) (ty:=3) (m:=8) (c:=iC (-1)) (show 0<1 by decide) rfl rfl (by simp only[maxLen];omega) a6;have a:=uc z r (k+1) v (w+1) A (P++[iC (-1)]) B a6 (by simp[p]) λx t=>m x (by simp[t])
   dsimp only[WP]at a;rw[gD,show(P++[iC (-1)]).length=P.length+1 by simp,show P.length+1+r.length=P.length+(f::r).length by simp;omega,gy]at a;have u:jB (f::r)=jB r:=by simp only[jB,j]
   have y:IA A.length (f::r)= -1::IA A.length r:=by simp only[IA,j]
   rw[u,y];rcases a with ⟨g,i,a⟩|a
   ·exact .inl ⟨g,i,n9 [28,(29,.i f.c),32,38,(44,.ok),60] kJ e c d b l o (BB A) (dB P (iC (-1))) a⟩
   exact .inr (n9 [28,(29,.i f.c),32,38,(44,.ok),60] kJ e c d b l o (BB A) (dB P (iC (-1))) a)
  have l:=YD (A:=P) (v:=w) (ty:=3) (m:=8) (c:=iC (.ofNat A.length)) (show 0<1 by decide) rfl rfl (by simp only[maxLen];omega) a6;have E:=YD (A:=A) (v:=v) (ty:=36) (m:=32) (c:=f.cty.c) (show 0<2 by decide) rfl rfl (by simp only[maxLen];omega) a6;have a:=uc z r (k+1) (v+1) (w+1) (A++[f.cty.c]) (P++[iC (.ofNat A.length)]) B a9 (by simp[p]) λx t=>m x (by simp[t])
  dsimp only[WP]at a;rw[gD,gD,show(P++[iC (.ofNat A.length)]).length=P.length+1 by simp,show(A++[f.cty.c]).length=A.length+1 by simp,show P.length+1+r.length=P.length+(f::r).length by simp;omega,show A.length+1+(jB r).length=A.length+(f.cty::jB r).length by simp;omega,gy,gy]at a;have u:jB (f::r)=f.cty::jB r:=by simp only[jB,j]
  have y:IA A.length (f::r)=.ofNat A.length::IA (A.length+1) r:=by simp only[IA,j]
  rw[u,y];rcases a with ⟨g,i,a⟩|a
  ·exact .inl ⟨g,i,rk [28,(29,.i f.c),32,38,(53,.w ⟨.pv (num A.length),none,false⟩),(55,.ok),(59,.ok),60] kJ kJ (nO e c d b (yc (v:=v) (len:=A.length)) l E o (dB A f.cty.c) (dB P (iC (.ofNat A.length))) a)⟩
  exact .inr (rk [28,(29,.i f.c),32,38,(53,.w ⟨.pv (num A.length),none,false⟩),(55,.ok),(59,.ok),60] kJ kJ (nO e c d b (yc (v:=v) (len:=A.length)) l E o (dB A f.cty.c) (dB P (iC (.ofNat A.length))) a))
abbrev bc(g:List Ty)(hs:List Fm):IS:=st [(2,.arr 1 1 (vA (g.map Ty.c)).length),(3,.pv .nils),(25,.pv (uA hs)),(26,.pv (num (hs.map Fm.c).length)),(27,.pv (num 0))] [(1,.arr 1 2 36 (vA (g.map Ty.c)))] 2 []
def Wy{n:Nat}{g:List Ty}{f:Fm}{r:List Fm}(p:g.length<=16)(j:FK n f):
  Lp 157 0 0 (bc g (f::r)) .ret ZV\/∃v A P,A.length<=17/\A++(jB r).map Ty.c=(qB g (f::r)).map Ty.c/\P.length=1/\P++(IA A.length r).map iC=(IA g.length (f::r)).map iC/\∀e d,Lp 157 0 0 (WP (f::r) 1 v 1 A P) e d->Lp 157 0 0 (bc g (f::r)) e d:=by
 have:=yA;have h:nB ((f::r).map Fm.c) 0=some f.c/\tB 5 ((f::r).map Fm.c)=true:=EA (g:=f::r) (k:=0) rfl Fm.c_len;have i:=j.a89;have l:(vA (g.map Ty.c)).length=(g.map Ty.c).length:=pvE_len _;have:(g.map Ty.c).length=g.length:=a8
 unfold bc;rw[l];rcases Mk j with a|⟨s,a⟩|⟨b,a⟩|⟨b,k,a⟩
 ·exact .inl (x3 [(29,.i f.c),32,38] ⟨[2,3,4],[],5,[]⟩ h i a)
 ·exact .inl (x3 [(29,.i f.c),32,38] ⟨[2,3,4],[],5,[]⟩ h i a)
 ·refine .inr ⟨1,g.map Ty.c,[iC (-1)],a9,by simp[jB,b],rfl,by simp[IA,b],λe d c=>?_⟩;exact rk [(29,.i f.c),32,38] kJ kJ (ZL h i a (BB (g.map Ty.c)) (dB [] (iC (-1))) c)
 have o:=YD (A:=g.map Ty.c) (v:=1) (ty:=36) (m:=32) (c:=f.cty.c) (show 0<2 by decide) rfl rfl (by simp only[maxLen];omega) a6;refine .inr ⟨2,g.map Ty.c++[f.cty.c],[iC (.ofNat (g.map Ty.c).length)],a9,by simp[jB,b],rfl,by simp[IA,b],λe d c=>?_⟩;dsimp only[WP]at c;rw[gD,show(g.map Ty.c++[f.cty.c]).length=(g.map Ty.c).length+1 by simp]at c;exact rk [(29,.i f.c),32,38,(53,.w ⟨.pv (num (g.map Ty.c).length),none,false⟩),(59,.ok)] kJ kJ (mO h i a (yc (v:=1) (len:=(g.map Ty.c).length)) o (dB (g.map Ty.c) f.cty.c) (dB [] (iC (.ofNat (g.map Ty.c).length))) c)
section
variable{ls:List Fm}{g:List Ty}{hs:List Fm}(Q:SQ2 ls g hs)
include Q
theorem Xy:A 157 [AA g hs] (.tuple [rA (qB g hs),uK (IA g.length hs),num 0])\/A 157 [AA g hs] (.tuple [.slice [],.slice [],num 4]):=by
 have w:=yA;have y:=Q.gl;have d:=Q.hl;have e:=Q.FK;have a:=aQ g λt n=>Jf (Q.gs t n)
 rw[LQ Q.gl Q.gs]at a;have b:=dU (c:=Ty.c) (n:=2) (m:=32) Ty.c_len (λ_=>rfl) bb g a6 (by simp only[maxLen];omega)
 cases hs with
 |nil=>
  left;have i:A 157 [AA g []] (.tuple [.slice (List.take (vA (g.map Ty.c)).length (g.map Ty.c)),.slice [],num 0]):=
   f3 [12,(23,.ok),(300006,.f 1 (g.map Ty.c))] a b (show vA (g.map Ty.c)=vA (g.map Ty.c)from rfl)
  rw[pvE_len,aaW]at i;show A 157 [AA g []] (.tuple [.slice ((g++[]).map Ty.c),.slice [],num 0]);rw[hI];exact i
 |cons f r=>
  have c:dA 16 (.ofNat ((f::r).map Fm.c).length)=false:=iA bS;have d:r.length+1<=16:=by simpa using d
  rcases Wy (g:=g) (r:=r) Q.gl (e f a8)with h|⟨v,j,P1,z,k,l,o,m⟩
  ·exact .inr (f5 [12,19,(23,.ok),(100008,.l ⟨[2,3,25,26,27],[1],2,[]⟩ .ret ZV)] a c b (BB (g.map Ty.c)) h)
  rcases uc (hs:=f::r) a9 r 1 v 1 j P1 rfl a6 l (λx p=>e x (by simp[p]))with ⟨s,u,h⟩|h
  ·left;have h:=m _ _ h;rw[k,o]at h;have l1:j.length+(jB r).length=(qB g (f::r)).length:=by have:=k0 List.length k;simpa using this
   rw[l1,l]at h;have h:=LoopIs.fz a8 h 1 (ver:=s) (sz:=2) (ty:=36) (ps:=(qB g (f::r)).map Ty.c) rfl bG;simp (decide:=true) only[eD,XC,VB,sC,UC,List.map,BC,and_self,false_and,↓reduceIte,gu (show((qB g (f::r)).map Ty.c).length<=(qB g (f::r)).length by simp)]at h;have h:=LoopIs.fz a8 h 4 (ver:=u) (sz:=1) (ty:=3) (ps:=(IA g.length (f::r)).map iC) rfl bG;simp (decide:=true) only[eD,XC,VB,sC,UC,List.map,BC,and_self,false_and,↓reduceIte,gu (show((IA g.length (f::r)).map iC).length<=1+r.length by simp[kc];omega)]at h;exact f5 [12,19,(23,.ok),(100008,.l ⟨[2,3,25,26,27],[1],2,[]⟩ (.exit 0) (st [(2,.pv (rA (qB g (f::r)))),(3,.pv (uK (IA g.length (f::r))))] [] 5 []))] a c b (BB (g.map Ty.c)) h
  exact .inr (f5 [12,19,(23,.ok),(100008,.l ⟨[2,3,25,26,27],[1],2,[]⟩ .ret ZV)] a c b (BB (g.map Ty.c)) (m _ _ h))
theorem Yy:(A 88 [AA g hs] (.tuple [rA (qB g hs),num 0])/\A 89 [AA g hs] (.tuple [uK (IA g.length hs),num 0]))\/A 88 [AA g hs] (.tuple [.slice [],num 4]):=by
 rcases Xy Q with h|h
 ·exact .inl ⟨f1 [9] h,f1 [9] h⟩
 exact .inr (f1 [9] h)
end
open Go.Lg
def Zy{z:Nat}(h:z<=4096):A 160 [num z] (.bool true):=by
 have e:(!dA (.ofNat 4096) (.ofNat z))=true:=by rw[iA h];rfl
 exact f1 [7] e
def Nk{n z:Nat}{f:Fm}(h:FK n f)(a:n<=nA:=by omega)(b:z<=4096:=by omega):A 93 [f.p,num 0,num z] (FR.ok (f.sh 0 (.ofNat z))).p:=by
 have c:=zA;exact f4 [10,20,25,32] h.a89 (Zy b) (h.a295 a) (BI f 0 z a6 (by have:=h.cnt;omega) (by have:=h.mx a;rw[c];omega))
abbrev GH:Kp:=⟨[2,4,6,8,9,39,40,41],[1,2,7],8,[]⟩
abbrev CS(hs:List Fm)(T:List Ty)(pl:List Int)(c k v:Nat)(A:List (List PV)):IS:=st [(2,.loc 1 0),(4,.pv (rA T)),(6,.pv (uK pl)),(8,.loc 2 0),(9,.pv (num c)),(39,.pv (uA hs)),(40,.pv (num (hs.map Fm.c).length)),(41,.pv (num k))] [(1,bx [.nils,.nils]),(2,.box [.pv (rA T),.arr 7 v A.length]),(7,.arr v 5 41 (vA A))] 8 []
abbrev jz(T:List Ty)(v:Nat)(A:List (List PV))(a:Nat):IS:=st [(2,.loc 1 0),(4,.pv (rA T)),(8,.loc 2 0)] [(1,bx [.nils,.nils]),(2,.box [.pv (rA T),.arr 7 v a]),(7,.arr v 5 41 (vA A))] 8 []
abbrev SL:IS:=st [(2,.loc 1 0),(3,.pv (num 4))] [(1,bx [.nils,.nils])] 8 []
abbrev XP:Kp:=⟨[2,3],[1],8,[]⟩
def dc{g T:List Ty}{hs:List Fm}{pl:List Int}{c:Nat}(N:hs.length<=16)(E:g.length+c=T.length)(O:T.length<=32):∀(r:List Fm)(k m l v:Nat)(A:List (List PV)),hs.drop k=r->pl.drop k=IA m r->m+l=T.length->l=MA r->A.length=k->(∀f∈r,FK g.length f/\f.gx)->
  (∃s,Lp 30 0 0 (CS hs T pl c k v A) (.exit 0) (jz T s (A++(VA c r l).map Fm.c) (A.length+r.length)))\/Lp 30 0 0 (CS hs T pl c k v A) .ret SL
 |[],k,m,l,v,A,h,_,_,_,F,z=>by
  have e:dA (.ofNat k) (.ofNat (hs.map Fm.c).length)=false:=iA bS;refine .inl ⟨v,?_⟩;simp only[VA,i2,hI,iq,ir];exact y1 [42] ⟨[2,4,8],[1,2,7],8,[]⟩ e (BB A)
 |f::r,k,m,l,v,A,h,B,G,t,F,z=>by
  have:=zA;have:=yA;have:nA=100000:=rfl;have⟨S,Y,P⟩:=uC h;have e:dA (.ofNat k) (.ofNat (hs.map Fm.c).length)=true:=KA bS;have⟨C,w⟩:=z f a8;have i:=EA S Fm.c_len;have:=C.cnt;have:=C.mx a6;have j:=df f;have o:=Nk C (z:=c);have Q:FK T.length (f.sh 0 (.ofNat c)):=by rw[<-E];exact C.sh 0 c
  have D:=lA (a:=k) (b:=1);cases p:f.has
  ·have H:IA m (f::r)= -1::IA m r:=by simp only[IA,p]
   have I:VA c (f::r) l=rz (f.sh 0 (.ofNat c)) Tm.v (.n0 .unit)::VA c r l:=by simp only[VA,p]
   rw[H]at B;have⟨p1,p2,J⟩:=uC B;have b:=EA (c:=iC) (n:=1) p1 λ_=>rfl
   have⟨u,d,q⟩:=kN Q (LI f 0 c w) (t:=.n0 .unit) ⟨bb,rfl,trivial⟩
   cases u with
   |er n=>
    obtain rfl:n=3:=q;exact .inr (x7 [42,(44,.i f.c),47,49,(52,.i (iC (-1))),67,77] XP e i j sD b o d)
   |ok u=>
    obtain⟨_,rfl⟩:=q;rw[I];generalize U:rz (f.sh 0 (.ofNat c)) Tm.v (.n0 .unit)=u at d⊢;have y:=YD (A:=A) (v:=v) (ty:=41) (m:=88) (c:=u.c) (show 0<5 by decide) rfl rfl (by simp only[maxLen];omega) a6;have a:=dc N E O r (k+1) m l (v+1) (A++[u.c]) P J G (by rw[t];simp[MA,p,IC]) (by simp[F]) λx K=>z x (by simp[K])
    dsimp only[CS]at a;rw[gD,show(A++[u.c]).length=A.length+1 by simp,show A.length+1+r.length=A.length+(f::r).length by simp;omega,gy]at a;rcases a with ⟨s,a⟩|a
    ·exact .inl ⟨s,rk [42,(44,.i f.c),47,49,(52,.i (iC (-1))),67,77,(88,.ok),90] GH GH (nO e i j sD b o d y D (dB A u.c) a)⟩
    exact .inr (rk [42,(44,.i f.c),47,49,(52,.i (iC (-1))),67,77,(88,.ok),90] GH GH (nO e i j sD b o d y D (dB A u.c) a))
  have H:IA m (f::r)=.ofNat m::IA (m+1) r:=by simp only[IA,p]
  have I:VA c (f::r) l=rz (f.sh 0 (.ofNat c)) Tm.v (.v (l-1))::VA c r (l-1):=by simp only[VA,p]
  have ec:l=MA r+1:=by rw[t];simp only[MA,p,IC];omega
  rw[H]at B;have⟨p1,p2,J⟩:=uC B;have b:=EA (c:=iC) (n:=1) p1 λ_=>rfl
  have V:(T.map Ty.c).length=T.length:=a8
  have L:=lC (a:=(T.map Ty.c).length);have M:=gC (a:=(T.map Ty.c).length-1) (b:=m) (z:=.ofNat (l-1)) a6 a6 (by rw[V];simp;omega);have⟨u,d,q⟩:=kN Q (LI f 0 c w) (TB (i:=l-1))
  cases u with
  |er n=>
   obtain rfl:n=3:=q;exact .inr (rk [42,(44,.i f.c),47,49,(52,.i (iC (.ofNat m))),57,(60,.i (iC (.ofNat m))),(62,.z (l-1)),63,67,77] XP XP (pO e i j sD b L b M (TA (l-1)) o d (rfl:AE.ret=AE.ret) (rfl:SL=SL)))
  |ok u=>
   obtain⟨_,rfl⟩:=q;rw[I];generalize U:rz (f.sh 0 (.ofNat c)) Tm.v (.v (l-1))=u at d⊢;have y:=YD (A:=A) (v:=v) (ty:=41) (m:=88) (c:=u.c) (show 0<5 by decide) rfl rfl (by simp only[maxLen];omega) a6;have a:=dc N E O r (k+1) (m+1) (l-1) (v+1) (A++[u.c]) P J a6 a6 (by simp[F]) λx K=>z x (by simp[K])
   dsimp only[CS]at a;rw[gD,show(A++[u.c]).length=A.length+1 by simp,show A.length+1+r.length=A.length+(f::r).length by simp;omega,gy]at a;rcases a with ⟨s,a⟩|a
   ·exact .inl ⟨s,rk [42,(44,.i f.c),47,49,(52,.i (iC (.ofNat m))),57,(60,.i (iC (.ofNat m))),(62,.z (l-1)),63,67,77,(88,.ok),90] GH GH (LS e i j sD b L b M (TA (l-1)) o d y D (dB A u.c) a)⟩
   exact .inr (rk [42,(44,.i f.c),47,49,(52,.i (iC (.ofNat m))),57,(60,.i (iC (.ofNat m))),(62,.z (l-1)),63,67,77,(88,.ok),90] GH GH (LS e i j sD b L b M (TA (l-1)) o d y D (dB A u.c) a))
abbrev Ok(hs:List Fm)(T:List Ty)(pl:List Int)(c:Nat):IS:=st [(2,.loc 1 0),(4,.pv (rA T)),(6,.pv (uK pl)),(8,.loc 2 0),(9,.pv (num c)),(39,.pv (uA hs)),(40,.pv (num (hs.map Fm.c).length)),(41,.pv (num 0))] [(1,bx [.nils,.nils]),(2,bx [rA T,.nils])] 3 []
def vz{g T:List Ty}{f:Fm}{r:List Fm}{pl:List Int}{c l:Nat}(D:g.length+c=T.length)(H:T.length<=32)(k:pl=IA g.length (f::r))(w:g.length+l=T.length)(h:l=MA (f::r))(o:FK g.length f)(i:f.gx):
  Lp 30 0 0 (Ok (f::r) T pl c) .ret SL\/∃m x u,pl.drop 1=IA m r/\m+x=T.length/\x=MA r/\VA c (f::r) l=u::VA c r x/\∀e p,Lp 30 0 0 (CS (f::r) T pl c 1 1 [u.c]) e p->Lp 30 0 0 (Ok (f::r) T pl c) e p:=by
 have:=zA;have:=yA;have:nA=100000:=rfl;have s:nB ((f::r).map Fm.c) 0=some f.c/\tB 5 ((f::r).map Fm.c)=true:=EA (g:=f::r) (k:=0) rfl Fm.c_len;have:=o.cnt;have:=o.mx a6;have t:=df f;have v:=Nk o (z:=c);have A:FK T.length (f.sh 0 (.ofNat c)):=by rw[<-D];exact o.sh 0 c
 cases d:f.has
 ·have y:IA g.length (f::r)= -1::IA g.length r:=by simp only[IA,d]
  have j:VA c (f::r) l=rz (f.sh 0 (.ofNat c)) Tm.v (.n0 .unit)::VA c r l:=by simp only[VA,d]
  rw[y]at k;subst k;have a:nB ((-1::IA g.length r).map iC) 0=some (iC (-1))/\tB 1 ((-1::IA g.length r).map iC)=true:=EA (c:=iC) (n:=1) (g:=-1::IA g.length r) (k:=0) rfl λ_=>rfl
  have⟨u,b,q⟩:=kN A (LI f 0 c i) (t:=.n0 .unit) ⟨bb,rfl,trivial⟩
  cases u with
  |er n=>
   obtain rfl:n=3:=q;exact .inl (x6 [(44,.i f.c),47,49,(52,.i (iC (-1))),67,77] XP s t sD a v b)
  |ok u=>
   obtain⟨_,rfl⟩:=q;generalize F:rz (f.sh 0 (.ofNat c)) Tm.v (.n0 .unit)=u at b j;exact .inr ⟨g.length,l,u,rfl,w,by rw[h];simp[MA,d,IC],j,λe p z=>rk [(44,.i f.c),47,49,(52,.i (iC (-1))),67,77] GH GH (mO s t sD a v b (dB [] u.c) z)⟩
 have y:IA g.length (f::r)=.ofNat g.length::IA (g.length+1) r:=by simp only[IA,d]
 have j:VA c (f::r) l=rz (f.sh 0 (.ofNat c)) Tm.v (.v (l-1))::VA c r (l-1):=by simp only[VA,d]
 have ec:l=MA r+1:=by rw[h];simp only[MA,d,IC];omega
 rw[y]at k;subst k;have a:nB ((.ofNat g.length::IA (g.length+1) r).map iC) 0=some (iC (.ofNat g.length))/\tB 1 ((.ofNat g.length::IA (g.length+1) r).map iC)=true:=EA (c:=iC) (n:=1) (g:=.ofNat g.length::IA (g.length+1) r) (k:=0) rfl λ_=>rfl
 have G:(T.map Ty.c).length=T.length:=a8
 have B:=lC (a:=(T.map Ty.c).length);have C:=gC (a:=(T.map Ty.c).length-1) (b:=g.length) (z:=.ofNat (l-1)) a6 a6 (by rw[G];simp;omega);have⟨u,b,q⟩:=kN A (LI f 0 c i) (TB (i:=l-1))
 cases u with
 |er n=>
  obtain rfl:n=3:=q;exact .inl (rk [(44,.i f.c),47,49,(52,.i (iC (.ofNat g.length))),57,(60,.i (iC (.ofNat g.length))),(62,.z (l-1)),63,67,77] XP XP (JS s t sD a B a C (TA (l-1)) v b (rfl:AE.ret=AE.ret) (rfl:SL=SL)))
 |ok u=>
  obtain⟨_,rfl⟩:=q;generalize F:rz (f.sh 0 (.ofNat c)) Tm.v (.v (l-1))=u at b j;exact .inr ⟨g.length+1,l-1,u,rfl,a6,a6,j,λe p z=>rk [(44,.i f.c),47,49,(52,.i (iC (.ofNat g.length))),57,(60,.i (iC (.ofNat g.length))),(62,.z (l-1)),63,67,77] GH GH (JS s t sD a B a C (TA (l-1)) v b (dB [] u.c) z)⟩
def wz{p:List Fm}{g:List Ty}{hs:List Fm}(Q:SQ2 p g hs)(i:∀f∈hs,f.gx)(C:g.length+hs.length<=16):A 30 [AA g hs] (.tuple [AA (qB g hs) (yC hs),num 0])\/A 30 [AA g hs] (.tuple [AA [] [],num 4]):=by
 have:=yA;have:=Q.gl;have j:=Q.hl;have s:=gO hs;have k:=Q.FK;have lt:(qB g hs).length=g.length+MA hs:=by simp[qB,aI]
 rcases Yy Q with ⟨a,d⟩|a;rotate_left
 ·exact .inr (f1 [18] a)
 have e:=gC (a:=((qB g hs).map Ty.c).length) (b:=(g.map Ty.c).length) (z:=.ofNat (MA hs)) (by simp[aI];omega) a9 (by rw[gB,gB,lt];simp;omega);have t:dA 16 (.ofNat ((qB g hs).map Ty.c).length)=false:=iA (a:=16) (by rw[gB,lt];omega)
 cases hs with
 |nil=>
  left;have h:=pq Q.gl Q.gs;show A 30 [AA g []] (.tuple [AA (g++[]) [],num 0]);rwa[hI]
 |cons f r=>
  generalize F:qB g (f::r)=T at *
  generalize l:MA (f::r)=c at *
  have j:r.length+1<=16:=by simpa using j
  have:c<=r.length+1:=by simpa using s
  rcases vz (g:=g) (T:=T) (f:=f) (r:=r) (c:=c) (l:=c) lt.symm a6 rfl lt.symm l.symm (k f a8) (i f a8)with h|⟨m,n,u,v,w,y,z,o⟩
  ·exact .inr (f4 [18,27,(37,.z c),(100008,.l ⟨[2,4,6,8,9,39,40,41],[1,2],3,[]⟩ .ret SL)] a d e h)
  rcases dc (g:=g) (T:=T) (hs:=f::r) (pl:=IA g.length (f::r)) (c:=c) a9 lt.symm a6 r 1 m n 1 [u.c] rfl v w y rfl (λx b=>⟨k x (by simp[b]),i x (by simp[b])⟩)with ⟨B,h⟩|h
  ·left;have h:=o _ _ h;rw[show [u.c]++(VA c r n).map Fm.c=(yC (f::r)).map Fm.c by rw[yC,l,z];rfl]at h;have h:=LoopIs.fz a8 h 7 (ver:=B) (sz:=5) (ty:=41) (ps:=(yC (f::r)).map Fm.c) rfl bG;simp (decide:=true) only[eD,XC,VB,sC,UC,bx,List.map,BC,and_self,false_and,↓reduceIte,gu (show((yC (f::r)).map Fm.c).length<=[u.c].length+r.length by simp[YV];omega)]at h;exact f5 [18,27,(37,.z c),(100008,.l ⟨[2,4,6,8,9,39,40,41],[1,2],3,[]⟩ (.exit 0) (st [(2,.loc 1 0),(4,.pv (rA T)),(8,.loc 2 0)] [(1,bx [.nils,.nils]),(2,bx [rA T,uA (yC (f::r))])] 8 [])),93] a d e h t
  exact .inr (f4 [18,27,(37,.z c),(100008,.l ⟨[2,4,6,8,9,39,40,41],[1,2],3,[]⟩ .ret SL)] a d e (o _ _ h))
def WB:List Fm->List Tm->List Fm|f::r,t::u=>rz f Tm.v t::WB r u|_,_=>[]
def gc:∀(r:List Fm)(u:List Tm),r.length=u.length->(WB r u).length=r.length|[],[],_=>rfl|f::r,t::u,h=>by simp[WB,gc r u (by simpa using h)]|[],_::_,h=>by simp at h|_::_,[],h=>by simp at h
def Pk:∀(r:List Fm)(u:List Tm)(i:Nat)(f:Fm)(t:Tm),r[i]? =some f->u[i]? =some t->(WB r u)[i]? =some (rz f Tm.v t)|[],_,i,_,_,h,_=>by simp at h|_::_,[],i,_,_,_,h=>by simp at h|f::r,t::u,0,_,_,h,k=>by simp at h k;subst h;subst k;rfl|f::r,t::u,i+1,_,_,h,k=>by simpa[WB]using Pk r u i _ _ (by simpa using h) (by simpa using k)
abbrev qW:Kp:=⟨[1,7,18,19,20],[2],3,[]⟩
abbrev zW(ls:List Fm)(tl:List Tm)(k v:Nat)(A:List (List PV)):IS:=st [(1,.pv (row tl)),(7,.arr 2 v A.length),(18,.pv (uA ls)),(19,.pv (num (ls.map Fm.c).length)),(20,.pv (num k))] [(2,.arr v 5 41 (vA A))] 3 []
abbrev jW:IS:=st [(4,.pv .nils),(5,.pv (num 4))] [] 3 []
abbrev Qk:Kp:=⟨[4,5],[],3,[]⟩
structure lc(ls:List Fm)(tl:List Tm):Prop where
 ll:ls.length<=32
 len:ls.length=tl.length
 fk:∀f∈ls,FK 0 f/\f.gx
 tk:∀t∈tl,TK 0 t
def Rk{b:List Fm}{tl:List Tm}(F:lc b tl):∀(r:List Fm)(u:List Tm)(k v:Nat)(A:List (List PV)),b.drop k=r->tl.drop k=u->A.length=k->
  (∃c,Lp 14 0 0 (zW b tl k v A) (.exit 0) (st [(7,.arr 2 c (A.length+r.length))] [(2,.arr c 5 41 (vA (A++(WB r u).map Fm.c)))] 3 [])/\∀x∈WB r u,FK 0 x)\/Lp 14 0 0 (zW b tl k v A) .ret jW
 |[],u,k,v,A,h,_,l=>by
  have e:dA (.ofNat k) (.ofNat (b.map Fm.c).length)=false:=iA bS;refine .inl ⟨v,?_⟩;have er:WB [] u=[]:=by cases u<;>rfl
  simp only[er,i2,hI,iq,ir];exact⟨y1 [21] ⟨[7],[2],3,[]⟩ e (BB A),nofun⟩
 |f::r,u,k,v,A,h,m,l=>by
  have:=yA;have:=F.ll;have:=F.len;have⟨o,I,B⟩:=uC h;have e:dA (.ofNat k) (.ofNat (b.map Fm.c).length)=true:=KA bS
  cases u with
  |nil=>have:=rW m;omega|cons t u=>
   have⟨t1,t2,t3⟩:=uC m;have⟨C,g⟩:=F.fk f (gg o);have D:=F.tk t (gg t1);have⟨w,d,q⟩:=kN C g D;have i:=EA o Fm.c_len;have gt:=EA t1 Tm.c_len
   cases w with
   |er n=>
    obtain rfl:n=3:=q;exact .inr (x4 [21,(23,.i f.c),(29,.i t.c),31] Qk e i gt d)
   |ok w=>
    obtain⟨p,rfl⟩:=q;rw[show WB (f::r) (t::u)=rz f Tm.v t::WB r u from rfl];generalize J:rz f Tm.v t=w at d p⊢;have s:=YD (A:=A) (v:=v) (ty:=41) (m:=88) (c:=w.c) (show 0<5 by decide) rfl rfl (by simp only[maxLen];omega) a6;have y:=lA (a:=k) (b:=1);have a:=Rk F r u (k+1) (v+1) (A++[w.c]) B t3 (by simp[l]);dsimp only[zW]at a;rw[gD,show(A++[w.c]).length=A.length+1 by simp,show A.length+1+r.length=A.length+(f::r).length by simp;omega,gy]at a;rcases a with ⟨c,a,E⟩|a
    ·exact .inl ⟨c,n8 [21,(23,.i f.c),(29,.i t.c),31,(40,.ok),41] qW e i gt d s y (dB A w.c) a,λx j=>by
      rcases e8.1 j with rfl|j
      ·exact p
      exact E x j⟩
    exact .inr (n8 [21,(23,.i f.c),(29,.i t.c),31,(40,.ok),41] qW e i gt d s y (dB A w.c) a)
def yz{a:List Fm}{tl:List Tm}(F:lc a tl)(c:A 34 [uA a,row tl] (num 0)):(A 14 [uA a,row tl] (.tuple [uA (WB a tl),num 0])/\∀f∈WB a tl,FK 0 f)\/A 14 [uA a,row tl] (.tuple [.slice [],num 4]):=by
 have:=yA;have k:=F.ll;have b:=F.len
 cases a with
 |nil=>
  cases tl with|nil=>exact .inl ⟨f1 [14] c,nofun⟩|cons t u=>simp at b
 |cons f r=>
  cases tl with
  |nil=>simp at b|cons t u=>
   have⟨o,d⟩:=F.fk f a8;have p:=F.tk t a8;have k:r.length+1<=32:=by simpa using k
   have⟨w,g,q⟩:=kN o d p;have l:nB ((f::r).map Fm.c) 0=some f.c/\tB 5 ((f::r).map Fm.c)=true:=EA (g:=f::r) (k:=0) rfl Fm.c_len;have gt:nB ((t::u).map Tm.c) 0=some t.c/\tB 5 ((t::u).map Tm.c)=true:=EA (g:=t::u) (k:=0) rfl Tm.c_len
   cases w with
   |er n=>
    obtain rfl:n=3:=q;have h:Lp 14 0 0 (st [(1,.pv (row (t::u))),(7,.pv .nils),(18,.pv (uA (f::r))),(19,.pv (num ((f::r).map Fm.c).length)),(20,.pv (num 0))] [] 0 []) .ret jW:=x3 [(23,.i f.c),(29,.i t.c),31] Qk l gt g;exact .inr (f2 [14,(100006,.l ⟨[1,7,18,19,20],[],0,[]⟩ .ret jW)] c h)
   |ok w=>
    obtain⟨m,rfl⟩:=q;rw[show WB (f::r) (t::u)=rz f Tm.v t::WB r u from rfl];generalize C:rz f Tm.v t=w at g m⊢;have key:∀e i,Lp 14 0 0 (zW (f::r) (t::u) 1 1 [w.c]) e i->Lp 14 0 0 (st [(1,.pv (row (t::u))),(7,.pv .nils),(18,.pv (uA (f::r))),(19,.pv (num ((f::r).map Fm.c).length)),(20,.pv (num 0))] [] 0 []) e i:=λe i s=>
     rk [(23,.i f.c),(29,.i t.c),31] qW qW (bK l gt g (dB [] w.c) s)
    rcases Rk F r u 1 1 [w.c] rfl rfl rfl with ⟨v,h,y⟩|h
    ·have h:=key _ _ h;rw[show [w.c]++(WB r u).map Fm.c=(w::WB r u).map Fm.c from rfl]at h;have h:=LoopIs.fz a8 h 2 (ver:=v) (sz:=5) (ty:=41) (ps:=(w::WB r u).map Fm.c) rfl bG;have z:=gc r u (by simpa using b);simp (decide:=true) only[eD,XC,VB,sC,UC,List.map,BC,and_self,↓reduceIte,gu (show(w.c::(WB r u).map Fm.c).length<=[w.c].length+r.length by simp[z];omega)]at h;exact .inl ⟨f2 [14,(100006,.l ⟨[1,7,18,19,20],[],0,[]⟩ (.exit 0) (st [(7,.pv (uA (w::WB r u)))] [] 3 []))] c h,λx j=>by
      rcases e8.1 j with rfl|j
      ·exact m
      exact y x j⟩
    exact .inr (f2 [14,(100006,.l ⟨[1,7,18,19,20],[],0,[]⟩ .ret jW)] c (key _ _ h))
open Go.Lg
section
variable{ls:List Fm}{tl:List Tm}{g:List Ty}{hs:List Fm}(Q:SQ2 ls g hs)(F:FitL ls tl){j:Jt}(hD:j.D ls g hs)(hc:j.p.ck)(hp:j.p.cnt<=16384)(hx:j.gx)
def FitL.HT(F:FitL ls tl):∀(i:Nat)(f:Fm),ls[i]? =some f->∃t,tl[i]? =some t/\TK 0 t:=λi f h=>by
 obtain⟨t,a⟩:∃t,tl[i]? =some t:=⟨_,e7 (by rw[<-F.len];exact(gf.1 h).1)⟩;exact⟨t,a,(F.ht i f t h a).1⟩
abbrev CF(tl:List Tm)(g:List Ty)(hs:List Fm)(j:Jt):Fm:=rz j.f (sS (FC g hs)) (j.tx tl (FC g hs))
include Q F hD hc hp hx
theorem Sk:j.OK ls g.length hs/\(A 29 [uA ls,row tl,AA g hs,j.p.p] (.tuple [.nil,zSc,.agg zF,num 4])\/(A 34 [uA ls,row tl] (num 0)/\A 29 [uA ls,row tl,AA g hs,j.p.p] (.tuple [j.ptr hs,(FC g hs).p,(CF tl g hs j).p,num 0])/\FK (g.length+MA hs) (CF tl g hs j))):=by
 have⟨a,b⟩:=Ny Q F.ll j hD hc hp;refine⟨b,?_⟩;rcases Qy F with k|k;rotate_left
 ·exact .inl (f2 [22,32] a k)
 have c:=Jy g hs (n:=g.length) (by have:=Q.gl;have:nA=100000:=rfl;omega) Q.FK Q.gl Q.hl;have⟨r,d,e⟩:=s65 (ls:=ls) (tl:=tl) F.HT Q.W b hx a6
 cases r with
 |er h=>
  obtain rfl:h=3:=e;exact .inl (f4 [22,32,39,45] a k c d)
 |ok G=>
  obtain⟨f,rfl⟩:=e;rw[Lk]at f;exact .inr ⟨k,f4 [22,32,39,45] a k c d,f⟩
theorem uz(i:∀f∈hs,f.gx)(l:g.length+hs.length<=16){X:Pf}(m:(j.pv tl (FC g hs)).p=X):A 12 [uA ls,row tl,AA g hs,j.p.p] (.tuple [mj,num 4])\/(X.ck/\X.cnt<=16384/\A 12 [uA ls,row tl,AA g hs,j.p.p] (.tuple [X.p,num 0])):=by
 have⟨n,h⟩:=Sk Q F hD hc hp hx;rcases h with h|⟨_,h,_⟩
 ·exact .inl (f1 [22] h)
 rcases wz Q i l with a|a;rotate_left
 ·exact .inl (f2 [22,33] h a)
 have H:=eE (ls:=ls) (tl:=tl) F.HT j 84968 g.length hs (FC g hs) n hx Q.W a6;rw[m]at H;rcases H with ⟨k,d⟩|d
 ·rcases s25 k with ⟨o,e⟩|e
  ·have b:(A 29 [uA ls,row tl,AA g hs,j.p.p] (.tuple [j.ptr hs,(FC g hs).p,(CF tl g hs j).p,num 0])/\A 30 [AA g hs] (.tuple [AA (qB g hs) (yC hs),num 0])/\ #[oA,oB]= #[oA,oB]/\dF=dF/\A 32 [eA tl,j.ptr hs,(FC g hs).p] X.p/\A 33 [X.p] (num 0)/\V.pv (.tuple [X.p,num 0])=V.pv (.tuple [X.p,num 0]))=EV ev Tryz.prog 100 6 12 7 [uA ls,row tl,AA g hs,j.p.p] oA oB nS dF 40 31 [(22,.U [j.ptr hs,(FC g hs).p,(CF tl g hs j).p,num 0]),(33,.U [AA (qB g hs) (yC hs),num 0]),(45,.r X.p),(47,.N 0)] (.tuple [X.p,num 0]):=bG
   exact .inr ⟨o,k.1,vb evOK (Eq.mp b ⟨h,a,rfl,rfl,d,e,rfl⟩) IV⟩
  have b:(A 29 [uA ls,row tl,AA g hs,j.p.p] (.tuple [j.ptr hs,(FC g hs).p,(CF tl g hs j).p,num 0])/\A 30 [AA g hs] (.tuple [AA (qB g hs) (yC hs),num 0])/\ #[oA,oB]= #[oA,oB]/\dF=dF/\A 32 [eA tl,j.ptr hs,(FC g hs).p] X.p/\A 33 [X.p] (num 4)/\V.pv (.tuple [.agg z9,num 4])=V.pv (.tuple [.agg z9,num 4]))=EV ev Tryz.prog 100 6 12 7 [uA ls,row tl,AA g hs,j.p.p] oA oB nS dF 40 31 [(22,.U [j.ptr hs,(FC g hs).p,(CF tl g hs j).p,num 0]),(33,.U [AA (qB g hs) (yC hs),num 0]),(45,.r X.p),(47,.N 4)] (.tuple [.agg z9,num 4]):=bG
  have c:=AC.wO (ev:=ev) 4 (vb evOK (Eq.mp b ⟨h,a,rfl,rfl,d,e,rfl⟩) IV);rw[w9]at c;exact .inl c
 have b:(A 29 [uA ls,row tl,AA g hs,j.p.p] (.tuple [j.ptr hs,(FC g hs).p,(CF tl g hs j).p,num 0])/\A 30 [AA g hs] (.tuple [AA (qB g hs) (yC hs),num 0])/\ #[oA,oB]= #[oA,oB]/\dF=dF/\Pn 32 [eA tl,j.ptr hs,(FC g hs).p]/\some (bx z9)=some (bx z9)/\some (bx [num 0])=some (bx [num 0])/\V.pv (.tuple [.agg z9,num 4])=V.pv (.tuple [.agg z9,num 4]))=Bi ev Tryz.prog 100 6 12 7 8 45 [uA ls,row tl,AA g hs,j.p.p] oA oB nS dF 40 31 JV KV [(22,.U [j.ptr hs,(FC g hs).p,(CF tl g hs j).p,num 0]),(33,.U [AA (qB g hs) (yC hs),num 0]),(45,.N 0)] pE (.tuple [.agg z9,num 4]):=bG
 have c:=AC.wO (ev:=ev) 4 (Tv evOK (Eq.mp b ⟨h,a,rfl,rfl,d,rfl,rfl,rfl⟩) IV Bw rfl (by simp[KC,bx,CA,Ob.names,GA,V.names,kA]) bb);rw[w9]at c;exact .inl c
end
end Go.Proofs.YtbebdmlomjpamaaGreatDoor
