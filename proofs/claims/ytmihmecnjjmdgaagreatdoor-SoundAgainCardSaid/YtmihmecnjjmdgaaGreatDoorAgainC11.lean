/- Contracts of functions; no conditions. -/
import Derived.Maps.RangeRun
import Derived.Test.YtmihmecnjjmdgaaGreatDoorAgainB2
import Derived.Test.YtmihmecnjjmdgaaGreatDoorAgainC10
set_option linter.all false
set_option maxHeartbeats 4000000
namespace Go.Lg
def Ga.swapO{C:Ctx}{E:Env}{σ:St}{a:Act}{w:World}(h:Ga C E σ a w){n:Nat}{o o':Ob}(u:zA σ.objs n=some o)(y:ObOK E w n o')(v:∀m∈o'.names,m∈σ.used):Ga C E ⟨σ.slots,aB σ.objs n o',σ.used⟩ a w:=by
 have s:∀m,zA (aB σ.objs n o') m=if m=n then some o' else zA σ.objs m:=λm=>lD _ _ _ _
 have d:∀m q,zA (aB σ.objs n o') m=some q->∃f,zA σ.objs m=some f:=λm q h=>by
  grind
 refine⟨h.slots,h.size,h.defers,h.heap,?_,?_,h.usedS,?_,h.usedG,h.grown,h.rest,h.same,h.hle,?_,h.ext,?_⟩
 ·intro m q c;simp only[s]at c;split at c
  ·simp_all
  exact h.objs m q c
 ·intro m t q f c g i b j;obtain⟨p,k⟩:=d m q c;obtain⟨x,l⟩:=d t f g;exact h.apart m t p x k l i b j
 ·intro m q c;simp only[s]at c;split at c
  ·rename_i e;cases c;subst e;exact⟨(h.usedO _ _ u).1,v⟩
  exact h.usedO m q c
 ·intro m q b c j r;obtain⟨p,k⟩:=d m q c;exact h.own m p b k j r
 intro m c;obtain⟨z,A,B⟩:=h.keep m c
 grind
def Ga.slotW{C:Ctx}{E:Env}{σ:St}{a:Act}{w:World}(h:Ga C E σ a w){d:Nat}{x:V}{v:Value}(b:RepV E x v)(c:∀n∈x.names,n∈σ.used)(f:d<C.nt):Ga C E ⟨(d,x)::σ.slots,σ.objs,σ.used⟩ (a.put (some d) v) w:=
 h.pure E.H (some d) x v (Hle.refl _) (Nat.le_refl _) ⟨rfl,rfl,rfl⟩ (λ_ _=>⟨rfl,rfl⟩) h.heap b c (λ_ e=>by simp_all)
def vR{C:Ctx}{E:Env}{σ:St}{a:Act}{w:World}(h:Ga C E σ a w){d:Nat}(b:d<C.nt)(v:Value):(a.put (some d) v).eval (.tmp d)=v:=by
 have:d<a.tmps.size:=by rw[h.size];exact b
 simp[Act.put,Act.eval,this]
section
variable{X:Env1}{id:Nat}{σ:St}{Q:uB->St->Prop}{t1 t2 t3:Nat}{p1 p2 p3:String}{f1 f2 f3:Array Edge}
def AWP.range{n r b ck t A B:Nat}{ms:Array MapEntry}{s c g:Nat}(H:HA σ.slots s=.map n)(I:zA σ.objs n=some (.raw (.map (some b)) (.map ms ck)))(D:r∉σ.used)(J:X.P.underlying t=some (.map A B))(L:c<X.nt)(M:g<X.nt)
  (N:∀rb,Q .normal ⟨(g,.loc r 0)::(c,.map n)::σ.slots,aB σ.objs r (.raw (.pointer (some ⟨rb,0,none⟩)) (.mapIter (some b) ck #[] ck)),r::σ.used⟩):
  AWP X (.region id #[⟨some c,.move (.tmp s),t1,p1,f1,none⟩,⟨some g,.range t (.tmp c),t2,p2,f2,none⟩] false) σ Q:=by
 intro C E a w F h;have i:c<C.nt:=by rw[F.nt];exact L
 have:g<C.nt:=by rw[F.nt];exact M
 have j:=h.slots s;rw[H]at j;obtain⟨S,G,j⟩:=j;obtain⟨k,T,p,d,u⟩:=h.objs n _ I;rw[k]at G;cases G;cases p;have f:Ga C E ⟨(c,.map n)::σ.slots,σ.objs,σ.used⟩ (a.put (some c) (a.eval (.tmp s))) w:=h.slotW (x:=.map n) (v:=a.eval (.tmp s)) (by
  exact⟨b,k,j⟩) (λm v=>by
   have:=h.usedS s;simp_all) i
 have x:(a.put (some c) (a.eval (.tmp s))).eval (.tmp c)=.map (some b):=by rw[vR h i];exact j
 have l:=run_range_map (P:=X.P) w t A B b ms ck J d;refine wp_region_list ?_;refine wpList_plain rfl λK y=>?_
 refine OpRes.wp (v:=a.eval (.tmp s)) (w':=w) (.inl (by rfl)) (y _ _ ?_);refine wpList_plain rfl λK y=>?_
 refine OpRes.wp (v:=.pointer (some ⟨w.heap.size,0,none⟩)) (w':=w.alloc (.mapIter (some b) ck #[] ck)) (.inl (by
  simp only[execOp,x,Sem.run_bind,l,Result.andThen_ok,Sem.run_pure])) (y _ _ ?_)
 let E':Env:={E with g:=λm=>if m=r then .pointer (some ⟨w.heap.size,0,none⟩)else E.g m};have o:E'.g r=.pointer (some ⟨w.heap.size,0,none⟩):=by simp[E']
 have P:∀m,m≠r->E'.g m=E.g m/\E'.ver m=E.ver m/\E'.sz m=E.sz m:=λm v=>⟨by grind,rfl,rfl⟩
 refine⟨E',_,.normal,?_,rfl,N w.heap.size⟩;refine f.change (E':=E') r (some (.raw (.pointer (some ⟨w.heap.size,0,none⟩)) (.mapIter (some b) ck #[] ck))) _ (r::σ.used) (some g) (.loc r 0) _ (λm=>lD _ _ _ _) (Hle.refl _) P (λz=>absurd z D) (λz=>absurd z D)
  (by simp) ⟨rfl,rfl,rfl⟩ (λb R _=>⟨@heap_alloc_old w _ b R,rfl⟩) (gQ f.heap _ E' rfl) ?_ ?_ (λm v=>by simp[v]) ?_ ?_ (λ_ e=>by simp_all)
 ·intro U e;cases e;exact⟨⟨o,w.heap.size,rfl,heap_alloc_new w _,f.heap.lt (Nat.le_refl _)⟩,by simp,by simp[Ob.names]⟩
 ·grind[CA]
 ·exact⟨_,o,rfl⟩
 simp[V.names]
def AWP.next{n r b rb ck d N:Nat}{B:Array MapEntry}{seen:Array Nat}{s f D:Nat}(O:n≠r)(hs:HA σ.slots s=.loc r 0)(ho:zA σ.objs n=some (.raw (.map (some b)) (.map B ck)))(l:zA σ.objs r=some (.raw (.pointer (some ⟨rb,0,none⟩)) (.mapIter (some b) d seen N)))
  (F:∀x∈B.toList,x.born<d) (P:d<=N) (h1:f<X.nt) (h2:D<X.nt)
  (R:(leftOf B seen).size=0->Q .normal ⟨(D,.pv (.bool false))::(f,.undef)::σ.slots,σ.objs,σ.used⟩)
  (S:∀e∈(leftOf B seen).toList,Q .normal ⟨(D,.pv (.bool true))::(f,.undef)::σ.slots,aB σ.objs r (.raw (.pointer (some ⟨rb,0,none⟩)) (.mapIter (some b) d (seen.push e.born) ck)),σ.used⟩):
  AWP X (.region id #[⟨some f,.next (.tmp s) false,t1,p1,f1,none⟩,⟨some D,.extract (.tmp f) 0,t2,p2,f2,none⟩] false) σ Q:=by
 intro C E a w hC o;have p:f<C.nt:=by rw[hC.nt];exact h1
 have G:D<C.nt:=by rw[hC.nt];exact h2
 have u:=o.slots s;rw[hs]at u;simp only[RepV]at u;obtain⟨b1,H,u⟩:=u;obtain⟨T,b2,U,v,V⟩:=o.objs n _ ho;obtain⟨t,b3,W,I,J⟩:=o.objs r _ l;rw[t]at H;cases H;cases U;cases W;have hbr:b≠rb:=λe=>o.apart n r _ _ ho l O b (by rw[T];rfl) (by rw[t,e];rfl)
 have Y:rb<w.heap.size:=(Array.getElem?_eq_some_iff.1 I).1;have u:a.eval (.tmp s)=.pointer (some ⟨rb,0,none⟩):=u;refine wp_region_list ?_;refine wpList_plain rfl λK A=>?_
 rcases run_next_at (P:=X.P) w t1 rb b d N seen B ck I v F P with ⟨h0,g⟩|⟨e,he,w1,Z,g⟩
 ·refine OpRes.wp (v:=.tuple #[.bool false]) (w':=w) (.inl (by simp only[execOp,u,Sem.run_bind,g,Result.andThen_ok,Sem.run_pure])) (A _ _ ?_);have y:Ga C E ⟨(f,.undef)::σ.slots,σ.objs,σ.used⟩ (a.put (some f) (.tuple #[.bool false])) w:=o.slotW (x:=.undef) trivial (λm z=>by cases z) p;refine wpList_plain rfl λK A=>?_
  refine OpRes.wp (v:=.bool false) (w':=w) (.inl (by simp only[execOp,vR o p];rfl)) (A _ _ ?_);exact⟨E,_,.normal,y.slotW (x:=.pv (.bool false)) (by rfl) (λm z=>by cases z) G,rfl,R h0⟩
 have j:w1.heap=w.heap/\w1.os=w.os/\w1.tape=w.tape/\w1.output=w.output:=by rcases Z with rfl|rfl<;>exact⟨rfl,rfl,rfl,rfl⟩
 refine OpRes.wp (v:=.tuple #[.bool true,e.key,e.val]) (w':=ChangeMaps.setBlock w1 rb (.mapIter (some b) d (seen.push e.born) ck)) (.inl (by simp only[execOp,u,Sem.run_bind,g,Result.andThen_ok,Sem.run_pure])) (A _ _ ?_);have k:∀i,(ChangeMaps.setBlock w1 rb (.mapIter (some b) d (seen.push e.born) ck)).heap[i]? =if i=rb then some (.mapIter (some b) d (seen.push e.born) ck)else w.heap[i]?:=by
  intro i;simp only[ChangeMaps.setBlock,j.1];by_cases l:i=rb
  ·subst l;simp[Y]
  rw[if_neg l,Array.getElem?_setIfInBounds_ne (λh=>l h.symm)]
 have y:Ga C E ⟨(f,.undef)::σ.slots,aB σ.objs r (.raw (.pointer (some ⟨rb,0,none⟩)) (.mapIter (some b) d (seen.push e.born) ck)),σ.used⟩ (a.put (some f) (.tuple #[.bool true,e.key,e.val])) (ChangeMaps.setBlock w1 rb (.mapIter (some b) d (seen.push e.born) ck)):=by
  refine o.change (E':=E) r (some (.raw (.pointer (some ⟨rb,0,none⟩)) (.mapIter (some b) d (seen.push e.born) ck))) _ σ.used (some f) .undef _ (λm=>lD _ _ _ _) (Hle.refl _) (λ_ _=>⟨rfl,rfl,rfl⟩) (λ_=>EExt.refl _ _) (λ_=>⟨_,l⟩)
   (by simp[ChangeMaps.setBlock,j.1]) ⟨j.2.1,j.2.2.1,j.2.2.2⟩ (λi hlt L=>⟨by rw[k,if_neg (λh=>L _ l (by rw[t,h];rfl))],rfl⟩) ?_ ?_ ?_ (λ_ h=>h) trivial (λm z=>by cases z) (λ_ e=>by cases e;exact p)
  ·intro i M;have:i≠rb:=λh=>M (h▸J)
   obtain⟨c,T',fr,hc,hp⟩:=o.heap i M;exact⟨c,T',fr,by rw[k,if_neg this];exact hc,hp⟩
  ·intro o' e';cases e';exact⟨⟨t,rb,rfl,by rw[k,if_pos rfl],J⟩,(o.usedO r _ l).1,by simp[Ob.names]⟩
  intro o' b' e' hb';exact .inr ⟨hb',_,l⟩
 refine wpList_plain rfl λK A=>?_
 refine OpRes.wp (v:=.bool true) (w':=_) (.inl (by simp only[execOp,vR o p];rfl)) (A _ _ ?_);exact⟨E,_,.normal,y.slotW (x:=.pv (.bool true)) (by simp[RepV,RepP]) (λm z=>by cases z) G,rfl,S e he⟩
def AWP.entry{n r b rb ck c:Nat}{ms:Array MapEntry}{seen:Array Nat}{e:MapEntry}{z:Int}{s d g v:Nat}(J:HA σ.slots s=.loc r 0)(L:zA σ.objs n=some (.raw (.map (some b)) (.map ms ck)))(M:zA σ.objs r=some (.raw (.pointer (some ⟨rb,0,none⟩)) (.mapIter (some b) c (seen.push e.born) ck)))
  (N:e∈ms.toList) (x:(ms.toList.map (·.born)).Nodup) (O:e.key=.int .i64 z) (P:d<X.nt) (R:g<X.nt) (S:v<X.nt)
  (T:Q .normal ⟨(v,.pv (.int z))::(g,.pv (.int z))::(d,.undef)::σ.slots,σ.objs,σ.used⟩):
  AWP X (.region id #[⟨some d,.entry (.tmp s),t1,p1,f1,none⟩,⟨some g,.extract (.tmp d) 0,t2,p2,f2,none⟩,⟨some v,.assign (.tmp g),t3,p3,f3,none⟩] false) σ Q:=by
 intro C E a w y i;have j:d<C.nt:=by rw[y.nt];exact P
 have k:g<C.nt:=by rw[y.nt];exact R
 have A:v<C.nt:=by rw[y.nt];exact S
 have h:=i.slots s;rw[J]at h;obtain⟨W,l,h⟩:=h;obtain⟨U,Y,B,f,D⟩:=i.objs n _ L;obtain⟨F,Z,G,H,V⟩:=i.objs r _ M;rw[F]at l;cases l;cases B;cases G;have h:a.eval (.tmp s)=.pointer (some ⟨rb,0,none⟩):=h;have o:=run_entry_at (P:=X.P) w rb b c seen ms ck e H f N x;refine wp_region_list ?_;refine wpList_plain rfl λK p=>?_
 refine OpRes.wp (v:=.tuple #[e.key,e.val]) (w':=w) (.inl (by simp only[execOp,h,Sem.run_bind,o,Result.andThen_ok,Sem.run_pure])) (p _ _ ?_);have t:Ga C E ⟨(d,.undef)::σ.slots,σ.objs,σ.used⟩ (a.put (some d) (.tuple #[e.key,e.val])) w:=i.slotW (x:=.undef) trivial (λm u=>by cases u) j;refine wpList_plain rfl λK p=>?_
 refine OpRes.wp (v:=.int .i64 z) (w':=w) (.inl (by simp only[execOp,vR i j,O];rfl)) (p _ _ ?_);have I:=t.slotW (d:=g) (x:=.pv (.int z)) (v:=.int .i64 z) (by rfl) (λm u=>by cases u) k;refine wpList_plain rfl λK p=>?_
 refine OpRes.wp (v:=.int .i64 z) (w':=w) (.inl (by simp only[execOp,vR t k];rfl)) (p _ _ ?_);exact⟨E,_,.normal,I.slotW (x:=.pv (.int z)) (by rfl) (λm u=>by cases u) A,rfl,T⟩
end
end Go.Lg
namespace Go.Proofs.YtmihmecnjjmdgaaGreatDoor
open Go.Lg
set_option maxRecDepth 100000
abbrev vN(L:List Nat):List (List V):=kA (L.map ic)
def bZ(A B:List Nat)(x:Nat):VB (vN (A++x::B)) A.length=some [.pv (num x)]:=by
 rw[NH,vp];simp[ic,iA]
def Tg(A:List Nat):(vN A).length=A.length:=by simp[vN,kA]
def Ug(A B:List Nat)(x y:Nat):(vN (A++x::B)).set A.length [.pv (num y)]=vN (A++y::B):=by
 simp only[vN,kA,List.map_append,List.map_cons];rw[show A.length=(List.map iA (List.map ic A)).length by simp,List.set_append_right _ _ (Nat.le_refl _),Nat.sub_self];rfl
def dZ{n v k len:Nat}{es:List (List V)}(a:k<len:=by omega)(b:len<=es.length:=by omega):ro (bif Nat.beq v v then(bif Nat.blt k len then(bif Nat.beq 1 1 then(bif Nat.ble len es.length then some (V.eloc n v k 0)else none)else none)else none)else none)=some ⟨.eloc n v k 0,none,false⟩:=by
 rw[NE rfl,show Nat.blt k len=true from Nat.ble_eq_true_of_le a,show Nat.ble len es.length=true from Nat.ble_eq_true_of_le b];rfl
def zu{v k:Nat}{es:List (List V)}{x:V}(h:VB es k=some [x]):ro (match VB es k with
   |some e=>bif Nat.beq v v then HQ false 1 (NK e 0)else none|none=>none)=some ⟨x,none,false⟩:=by
 rw[h,NE rfl];rfl
def Vg{n v k:Nat}{es es':List (List V)}{x y:V}(h:VB es k=some [x])(a:es.set k [y]=es'):(bif Nat.beq v v then(bif Nat.ble (0+1) 1 then(match VB es k with
    |some e=>some (⟨.undef,some (n,.arr v 1 3 (es.set k (zE e 0 [y]))),false⟩:RB)|none=>none)else none)else none)=some ⟨.undef,some (n,.arr v 1 3 es'),false⟩:=by
 rw[h,NE rfl];subst a;rfl
def ju{a:Nat}(h:a<=yA:=by omega):eA (Int.ofNat (a+1)-1)=true/\Int.ofNat (a+1)-1=.ofNat a:=by
 grind[bP]
abbrev nN(mv:Value)(mo:Obj)(iv:Value)(io:Obj)(v:Nat)(L:List Nat):List (Nat×Ob):=[(0,.raw mv mo),(1,.raw iv io),(2,.arr v 1 3 (vN L))]
abbrev YO(v len n i:Nat):List (Nat×V):=[(3,.arr 2 v len),(4,.pv (num n)),(5,.pv (num i)),(7,.loc 1 0)]
abbrev ZO:Kp:=⟨[3,4,5,7],[0,1,2],3,[]⟩
section
variable{mv iv:Value}{mo io:Obj}{n v len:Nat}
def Wg:∀(k:Nat)(A:List Nat)(y:Nat)(B:List Nat),A.length=k->len=A.length+1+B.length->len<=yA->
  ∃(b:List Nat)(j:Nat)(c:List Nat),b++c=A++B/\(∀x∈c,x∈B\/n<x)/\(∀h:b≠[],b.getLast h<=n)/\
   Lp 221 1 1 (st (YO v len n A.length) (nN mv mo iv io v (A++y::B)) 3 []) (.exit 2) (st (YO v len n b.length) (nN mv mo iv io v (b++j::c)) 3 [])
 |0,A,y,B,f,l,r=>by
  have e:A=[]:=List.length_eq_zero_iff.1 f;subst e;exact⟨[],y,B,rfl,λx g=>.inl g,λh=>absurd rfl h,y1 [19] ZO (GA (Nat.le_refl 0)) (tD ((y::B).map ic))⟩
 |k+1,A,y,B,f,l,r=>by
  have d:A≠[]:=λe=>by subst e;cases f
  obtain⟨a,x,rfl⟩:∃a x,A=a++[x]:=⟨A.dropLast,A.getLast d,(List.dropLast_concat_getLast d).symm⟩;have w:a.length=k:=by simpa using f
  have s:(a++[x]).length=a.length+1:=by simp
  have t:a++[x]++y::B=a++x::y::B:=by simp
  have gl:(vN (a++x::y::B)).length=len:=by rw[Tg];simp at l⊢;omega
  rw[s]at l⊢;rw[t];have u:=NA (show 0<a.length+1 by omega);have i:=ju (a:=a.length);have m:=dZ (n:=2) (v:=v) (k:=a.length) (len:=len) (es:=vN (a++x::y::B));have o:=zu (v:=v) (bZ a (y::B) x);by_cases g:n<x
  ·obtain⟨b,j,c,C,D,E,F⟩:=Wg k a x (x::B) w (by simp;omega) r;have G:=dZ (n:=2) (v:=v) (k:=a.length+1) (len:=len) (es:=vN (a++x::y::B));have H:=Vg (n:=2) (v:=v) (k:=a.length+1) (es:=vN (a++x::y::B)) (es':=vN (a++x::x::B)) (y:=.pv (num x)) (by
    have:=bZ (a++[x]) B y;simpa using this) (by
    have:=Ug (a++[x]) B y x;simpa using this)
   refine⟨b,j,c,by simpa using C,λz p=>?_,E,?_⟩
   ·rcases D z p with h|h
    ·rcases List.mem_cons.1 h with rfl|h
     ·exact .inr g
     exact .inl h
    exact .inr h
   exact rk [(19,.G),(23,.z a.length),(24,.w ⟨.eloc 2 v a.length 0,none,false⟩),(25,.w ⟨.pv (num x),none,false⟩),(27,.G),(33,.z a.length),(34,.w ⟨.eloc 2 v a.length 0,none,false⟩),(35,.w ⟨.pv (num x),none,false⟩),(36,.w ⟨.eloc 2 v (a.length+1) 0,none,false⟩),(99999,.w ⟨.undef,some (2,.arr v 1 3 (vN (a++x::x::B))),false⟩),(38,.z a.length)] ZO ZO (And.intro u (And.intro i (And.intro m (And.intro o (And.intro (NA g) (And.intro i (And.intro m (And.intro o (And.intro G (And.intro H (And.intro i (And.intro (tD ((a++x::x::B).map ic)) F))))))))))))
  refine⟨a++[x],y,B,by simp,λz p=>.inl p,λ_=>by simp;omega,?_⟩;rw[s,t];exact y5 [19,23,(24,.w ⟨.eloc 2 v a.length 0,none,false⟩),(25,.w ⟨.pv (num x),none,false⟩),27] ZO u i m o (GA (show x<=n by omega)) (tD ((a++x::y::B).map ic))
end
end Go.Proofs.YtmihmecnjjmdgaaGreatDoor
namespace Go.Lg
section
variable{ev:MA}{P:Program}
def fZ(ev:MA)(P:Program)(n N c d:Nat)(b:Code)(s:IS)(f:Di)(a:Kp)(e:AE)(g:IS):Prop:=
 AD ev P (nG ev P N n) N c d b s f λf c _=>f=e/\gd (AJ a d c) (xF c.ob a.on (gG a c=g))
def Reach.of_go(g:fG ev P){n N c d:Nat}{b:Code}{s f:IS}{i:Di}{j:Kp}{e:AE}(h:fZ ev P n N c d b s i j e f):Reach ev P c d b s e f:=by
 obtain⟨p,r,k,l,rfl,a⟩:=xC (RH g N n) _ _ _ _ h;obtain⟨m,a⟩:=HB a;obtain⟨a,o⟩:=kH a;exact a▸l.keep (BJ m o)
def Rel.slotT{s:IS}{σ:St}(h:Rel s σ)(d:Nat)(x:V):Rel ⟨s.sl.put d (some x),s.ob,s.nx,s.dt⟩ ⟨(d,x)::σ.slots,σ.objs,σ.used⟩:=by
 refine⟨λt=>?_,h.ob,h.us⟩;show(if d=t then x else HA σ.slots t)=_;rw[Tr.get_put];by_cases e:t=d
 ·simp_all
 rw[if_neg e,if_neg (λh=>e h.symm)];exact h.sl t
def Rel.objT{s:IS}{σ:St}(h:Rel s σ)(n:Nat)(o:Ob):Rel ⟨s.sl,s.ob.put n (some o),s.nx,s.dt⟩ ⟨σ.slots,aB σ.objs n o,σ.used⟩:=by
 refine⟨h.sl,λm=>?_,h.us⟩;rw[lD,Tr.get_put];by_cases e:m=n
 ·rw[if_pos e,if_pos e]
 rw[if_neg e,if_neg e];exact h.ob m
def Rel.newT{s:IS}{σ:St}(h:Rel s σ)(o:Ob):Rel ⟨s.sl,s.ob.put s.nx (some o),s.nx+1,s.dt⟩ ⟨σ.slots,aB σ.objs s.nx o,s.nx::σ.used⟩:=by
 have:=h.objT s.nx o;exact⟨this.sl,this.ob,λm a=>by
  rcases List.mem_cons.1 a with rfl|a
  ·simp
  exact Nat.lt_succ_of_lt (h.us m a)⟩
def Rel.keep{b a:Nat}{X:Env1}(c:HX X ev P b a){s s':IS}{σ:St}(h:Rel s σ)(k:Kp)(b:AJ k a s=true)(a:xF s.ob k.on True)(d:gG k s=s'):∃τ,ZM X σ τ/\Rel s' τ:=d▸(BJ b (kH a).2).wk c h
end
end Go.Lg
namespace Go.Proofs.YtmihmecnjjmdgaaGreatDoor
open Go.Lg
set_option maxRecDepth 100000
def cs1:Code->Code|.seq a _=>a|c=>c
def cs2:Code->Code|.seq _ b=>b|c=>c
def Xg:Code->Code|.block _ b=>b|.loop b=>b|c=>c
noncomputable def yL:Code:=iZ 221 0
noncomputable def Yg:Code:=cs1 yL
noncomputable def gZ:Code:=cs1 (cs2 yL)
noncomputable def lZ:Code:=cs1 (Xg (cs2 (cs2 yL)))
noncomputable def mZ:Code:=cs2 (Xg (cs2 (cs2 yL)))
def vu:yL=.seq Yg (.seq gZ (.block 1 (.seq lZ mZ))):=by kernel_rfl
def wu:∃i t1 t2 p1 p2 f1 f2,Yg=.region i #[⟨some 8,.next (.tmp 7) false,t1,p1,f1,none⟩,⟨some 9,.extract (.tmp 8) 0,t2,p2,f2,none⟩] false:=⟨_,_,_,_,_,_,_,rfl⟩
def ku:∃i t1 t2 t3 p1 p2 a f1 f2 f3,lZ=.region i #[⟨some 10,.entry (.tmp 7),t1,p1,f1,none⟩,⟨some 11,.extract (.tmp 10) 0,t2,p2,f2,none⟩,⟨some 4,.assign (.tmp 11),t3,a,f3,none⟩] false:=⟨_,_,_,_,_,_,_,_,_,_,rfl⟩
noncomputable def qP:Code:=match (fnc 221).body with|some c=>c|none=>.skip
def Zg:(fnc 221).ntmps=44:=by kernel_rfl
abbrev Rc(bs f:Nat)(c:Code)(s:IS)(e:AE)(s':IS):Prop:=Go.Lg.Reach ev Tryz.prog (fnc f).ntmps bs c s e s'
section
variable{f bs:Nat}{c:Code}{s s':IS}{e:AE}
def pN(a:Di)(b:Kp){B:Prop}(h:B)(q:B=fZ ev Tryz.prog 6 100 (fnc f).ntmps bs c s a b e s':=by kernel_rfl):Rc bs f c s e s':=Reach.of_go evOK (q▸h)
variable(tp:Di)(ko:Kp){H1 H2 H3 H4 H5 H6 N:Prop}(h1:H1)(h2:H2)(h3:H3)(h4:H4)(h5:H5)(h6:H6)(w:N)
def rN:=@pN f bs c s s' e tp ko _ (⟨rfl,w,rfl⟩:e=e/\N/\s'=s')
def yu:=@pN f bs c s s' e tp ko _ (⟨h1,rfl,w,rfl⟩:H1/\e=e/\N/\s'=s')
def qh:=@pN f bs c s s' e tp ko _ (⟨h1,h2,rfl,w,rfl⟩:H1/\H2/\e=e/\N/\s'=s')
def uu:=@pN f bs c s s' e tp ko _ (⟨h1,h2,h3,rfl,w,rfl⟩:H1/\H2/\H3/\e=e/\N/\s'=s')
def zh:=@pN f bs c s s' e tp ko _ (⟨h1,h2,h3,h4,rfl,w,rfl⟩:H1/\H2/\H3/\H4/\e=e/\N/\s'=s')
def c8:=@pN f bs c s s' e tp ko _ (⟨h1,h2,h3,h4,h5,rfl,w,rfl⟩:H1/\H2/\H3/\H4/\H5/\e=e/\N/\s'=s')
def jh:=@pN f bs c s s' e tp ko _ (⟨h1,h2,h3,h4,h5,h6,rfl,w,rfl⟩:H1/\H2/\H3/\H4/\H5/\H6/\e=e/\N/\s'=s')
end
section
variable(mv iv:Value)(mo io:Obj)
def hs:Nat->List Nat->IS|0,_=>st [(3,.pv .nils),(7,.loc 1 0)] [(0,.raw mv mo),(1,.raw iv io)] 2 []|v+1,L=>st [(3,.arr 2 (v+1) (v+1)),(7,.loc 1 0)] (nN mv mo iv io (v+1) L) 3 []
def qs(n:Nat):Nat->List Nat->IS|0,_=>st [(3,.pv .nils),(4,.pv (num n)),(7,.loc 1 0)] [(0,.raw mv mo),(1,.raw iv io)] 2 []|v+1,L=>st [(3,.arr 2 (v+1) (v+1)),(4,.pv (num n)),(7,.loc 1 0)] (nN mv mo iv io (v+1) L) 3 []
def sN:Nat->List Nat->IS|0,_=>st [(3,.pv .nils)] [(0,.raw mv mo)] 3 []|v+1,L=>st [(3,.arr 2 (v+1) (v+1))] [(0,.raw mv mo),(2,.arr (v+1) 1 3 (vN L))] 3 []
end
def bu{v len:Nat}:ro (bif Nat.beq v v then some (V.pv (.int (.ofNat len)))else none)=some ⟨.pv (num len),none,false⟩:=by rw[NE rfl];rfl
def du{A:List (List PV)}{k v sz ty m:Nat}{c:List PV}(a:A.length=k)(a:0<sz)(a:oC sz [iA c]=true)(a:mC [iA c]=true)(a:k+1<=maxLen)(a:(k+1)*m<=140737488355328):
  (Nat.beq v v&&Nat.ble k (kA A).length&&Nat.beq ty ty&&Nat.beq sz sz&&Nat.blt 0 sz&&oC sz [iA c]&&mC [iA c]&&Nat.ble (k+[iA c].length) maxLen&&Nat.ble ((k+[iA c].length)*m) 140737488355328)=true:=by
 grind[EN]
section
variable{mv iv:Value}{mo io:Obj}
def fu(n v:Nat)(L:List Nat)(a:L.length=v)(j:v+1<=yA)(k:v+1<=maxLen)(b:(v+1)*8<=140737488355328:=by omega):
  ∃A B,A++B=L/\(∀x∈B,n<x)/\(∀h:A≠[],A.getLast h<=n)/\Rc 1 221 mZ (qs mv iv mo io n v L) .normal (hs mv iv mo io (v+1) (A++n::B)):=by
 obtain⟨A,y,B,c,d,l,h⟩:=Wg (mv:=mv) (mo:=mo) (iv:=iv) (io:=io) (n:=n) (v:=v+1) (len:=v+1) v L n [] a (by simp;omega) j;rw[List.append_nil]at c;have d:∀x∈B,n<x:=λx m=>(d x m).resolve_left (by simp)
 have r:A.length+B.length=v:=by rw[<-a,<-c];simp
 have gl:(vN (A++y::B)).length=v+1:=by rw[Tg];simp;omega
 have f:=dZ (n:=2) (v:=v+1) (k:=A.length) (len:=v+1) (es:=vN (A++y::B));have g:=Vg (n:=2) (v:=v+1) (k:=A.length) (es:=vN (A++y::B)) (es':=vN (A++n::B)) (y:=.pv (num n)) (bZ A B y) (Ug A B y n);refine⟨A,B,c,d,l,?_⟩;rw[a]at h
 cases v with
 |zero=>
  have e:=List.length_eq_zero_iff.1 a;subst e;exact zh [(100007,.l ZO (.exit 2) (st (YO 1 1 n A.length) (nN mv mo iv io 1 (A++y::B)) 3 [])),(42,.w ⟨.eloc 2 1 A.length 0,none,false⟩),(99999,.w ⟨.undef,some (2,.arr 1 1 3 (vN (A++n::B))),false⟩)] ⟨[3,7],[0,1,2],3,[]⟩ (tD [ic n]) h f g (tD ((A++n::B).map ic))
 |succ v=>
  have i:vN (L++[n])=(vN L).take (v+1)++[iA (ic n)]:=by
   have:=SJ (L.map ic) (ic n);rw[List.length_map,a]at this;rw[<-this];show kA ((L++[n]).map ic)=_;rw[List.map_append];rfl
  have o:=du (A:=L.map ic) (v:=v+1) (ty:=3) (m:=8) (c:=ic n) (k:=v+1) (by simpa using a) (show 0<1 by decide) rfl rfl k b;have p:kB ((vN L).take (v+1)++[iA (ic n)])=[]:=by rw[<-i];exact tD ((L++[n]).map ic)
  have h:Lp 221 1 1 (st (YO (v+1+1) (v+1+1) n (v+1)) [(0,.raw mv mo),(1,.raw iv io),(2,.arr (v+1+1) 1 3 ((vN L).take (v+1)++[iA (ic n)]))] 3 []) (.exit 2) (st (YO (v+1+1) (v+1+1) n A.length) (nN mv mo iv io (v+1+1) (A++y::B)) 3 []):=by rw[<-i];exact h
  exact jh [(13,.w ⟨.pv (num (v+1)),none,false⟩),(17,.ok),(100007,.l ZO (.exit 2) (st (YO (v+1+1) (v+1+1) n A.length) (nN mv mo iv io (v+1+1) (A++y::B)) 3 [])),(42,.w ⟨.eloc 2 (v+1+1) A.length 0,none,false⟩),(99999,.w ⟨.undef,some (2,.arr (v+1+1) 1 3 (vN (A++n::B))),false⟩)] ⟨[3,7],[0,1,2],3,[]⟩ (bu (v:=v+1) (len:=v+1)) o p h f g (tD ((A++n::B).map ic))
end
end Go.Proofs.YtmihmecnjjmdgaaGreatDoor
namespace Go.Proofs.YtmihmecnjjmdgaaGreatDoor
open Go.Lg
set_option maxRecDepth 100000
section
variable{f bs:Nat}{c:Code}{s s':IS}{e:AE}
def vh(a:Di)(b:Kp)(q:(e=e/\s'=s')=fZ ev Tryz.prog 6 100 (fnc f).ntmps bs c s a b e s':=by kernel_rfl):Rc bs f c s e s':=Reach.of_go evOK (q▸(⟨rfl,rfl⟩:e=e/\s'=s'))
end
def wh:∀{L S:List Nat},yD L->yD S->(∀x,x∈L↔x∈S)->L=S
 |[],[],_,_,_=>rfl|[],y::S,_,_,h=>absurd ((h y).2 (List.mem_cons_self ..)) (by simp)|x::L,[],_,_,h=>absurd ((h x).1 (List.mem_cons_self ..)) (by simp)|x::L,y::S,d,f,h=>by
  obtain⟨b,g⟩:=List.pairwise_cons.1 d;obtain⟨c,i⟩:=List.pairwise_cons.1 f;have e:x=y:=by
   rcases List.mem_cons.1 ((h x).1 (List.mem_cons_self ..))with e|j
   ·exact e
   rcases List.mem_cons.1 ((h y).2 (List.mem_cons_self ..))with e|hy
   ·exact e.symm
   have:=b y hy;have:=c x j;omega
  subst e;rw[wh g i λz=>⟨λa=>(List.mem_cons.1 ((h z).1 (List.mem_cons_of_mem _ a))).resolve_left (λe=>by have:=b z a;omega),λa=>(List.mem_cons.1 ((h z).2 (List.mem_cons_of_mem _ a))).resolve_left (λe=>by have:=c z a;omega)⟩]
def nZ:∀{S L:List Nat},yD L->yD S->(∀x∈L,x∈S)->L.length<=S.length
 |S,[],_,_,_=>Nat.zero_le _|[],x::L,_,_,h=>absurd (h x (List.mem_cons_self ..)) (by simp)|y::S,x::L,b,d,h=>by
  obtain⟨f,g⟩:=List.pairwise_cons.1 b;obtain⟨i,c⟩:=List.pairwise_cons.1 d;by_cases e:x=y
  ·exact Nat.succ_le_succ (nZ g c λz a=>(List.mem_cons.1 (h z (List.mem_cons_of_mem _ a))).resolve_left (λe=>by have:=f z a;omega))
  have:x∈S:=(List.mem_cons.1 (h x (List.mem_cons_self ..))).resolve_left e;have:=nZ (S:=S) b c λz a=>(List.mem_cons.1 (h z a)).resolve_left (λe=>by
   grind)
  grind
def lu{A B:List Nat}{n:Nat}(h:yD (A++B))(g:n∉A++B)(i:∀x∈B,n<x)(j:∀h:A≠[],A.getLast h<=n):yD (A++n::B):=by
 obtain⟨a,b,c⟩:=List.pairwise_append.1 h;have:∀x∈A,x<n:=by
  intro x f;have d:A≠[]:=λe=>by simp_all
  have:=j d;have:x<=A.getLast d:=by
   have e:=List.dropLast_concat_getLast d
   grind
  have:x≠n:=λe=>g (List.mem_append_left _ (e▸f))
  omega
 refine List.pairwise_append.2 ⟨a,List.pairwise_cons.2 ⟨i,b⟩,λx f y hy=>?_⟩
 grind
abbrev km(b:Nat):Value:=.map (some b)
abbrev EJ(rb:Nat):Value:=.pointer (some ⟨rb,0,none⟩)
abbrev oi(b ck:Nat)(seen:Array Nat):Obj:=.mapIter (some b) ck seen ck
section
variable{X:Env1}{b rb ck:Nat}{ms:Array MapEntry}{S:List Nat}
def mu{a d:Value}{c io:Obj}(v:Nat)(L:List Nat):
  Rc 1 221 (.seq gZ (.block 1 (.seq lZ mZ))) ⟨((hs a d c io v L).sl.put 8 (some .undef)).put 9 (some (.pv (.bool false))),(hs a d c io v L).ob,(hs a d c io v L).nx,(hs a d c io v L).dt⟩ (.exit 0) (sN a c v L):=by
 cases v with|zero=>exact vh [] ⟨[3],[0],3,[]⟩|succ v=>exact rN [] ⟨[3],[0,2],3,[]⟩ (tD (L.map ic))
def nu{c a:Value}{d io e:Obj}(v:Nat)(L:List Nat):
  Rc 1 221 gZ ⟨((hs c a d io v L).sl.put 8 (some .undef)).put 9 (some (.pv (.bool true))),(hs c a d io v L).ob.put 1 (some (.raw a e)),(hs c a d io v L).nx,(hs c a d io v L).dt⟩ .normal (hs c a d e v L):=by
 cases v with|zero=>exact vh [] ⟨[3,7],[0,1],2,[]⟩|succ v=>exact rN [] ⟨[3,7],[0,1,2],3,[]⟩ (tD (L.map ic))
def pu(a:HX X ev Tryz.prog (fnc 221).ntmps 1){c d:Value}{e io:Obj}(v:Nat)(L:List Nat)(n:Nat){σ:St}(h:Rel (hs c d e io v L) σ):
  ∃τ,ZM X ⟨(4,.pv (num n))::(11,.pv (num n))::(10,.undef)::σ.slots,σ.objs,σ.used⟩ τ/\Rel (qs c d e io n v L) τ:=by
 have f:=((h.slotT 10 .undef).slotT 11 (.pv (num n))).slotT 4 (.pv (num n))
 cases v with|zero=>exact f.keep a ⟨[3,4,7],[0,1],2,[]⟩ (by kernel_rfl) True.intro (by kernel_rfl)|succ v=>exact f.keep a ⟨[3,4,7],[0,1,2],3,[]⟩ (by kernel_rfl) ⟨tD (L.map ic),True.intro⟩ (by kernel_rfl)
def yh{a c:Value}{d io:Obj}(v:Nat)(L:List Nat){σ:St}(h:Rel (hs a c d io v L) σ):HA σ.slots 7=.loc 1 0/\zA σ.objs 0=some (.raw a d)/\zA σ.objs 1=some (.raw c io):=by
 have e:=h.sl 7;have f:=h.ob 0;have g:=h.ob 1;cases v<;>exact⟨e,f,g⟩
structure pZ(ms:Array MapEntry)(seen:Array Nat)(L:List Nat):Prop where
 asc:yD L
 mem:∀x:Nat,x∈L↔∃e∈ms.toList,e.key=.int .i64 (.ofNat x)/\seen.contains e.born=true
structure zP(ms:Array MapEntry)(ck:Nat)(S:List Nat):Prop where
 hold:∀x∈ms.toList,x.born<ck
 nd:(ms.toList.map (·.born)).Nodup
 kn:∀e∈ms.toList,∃z:Nat,e.key=.int .i64 (.ofNat z)
 inj:∀e∈ms.toList,∀e'∈ms.toList,e.key=e'.key->e=e'
 asc:yD S
 mem:∀x:Nat,x∈S↔∃e∈ms.toList,e.key=.int .i64 (.ofNat x)
 len:S.length<=8589934592
def ru:∀{l:List MapEntry},(l.map (·.born)).Nodup->∀{e a:MapEntry},e∈l->a∈l->e.born=a.born->e=a
 :=by intro x;induction x<;>grind[absurd]
def uh(t:HX X ev Tryz.prog (fnc 221).ntmps 1)(j:zP ms ck S)(seen:Array Nat)(v:Nat)(L:List Nat)(σ:St)(m:pZ ms seen L)(M:L.length=v)(D:Rel (hs (km b) (EJ rb) (.map ms ck) (oi b ck seen) v L) σ)(Q:uB->St->Prop)
  (O:∀σ',qN (.exit 0) (sN (km b) (.map ms ck) S.length S) (.exit 0) σ'->Q (.exit 0) σ')
  (P:∀a E σ',(leftOf ms a).size<(leftOf ms seen).size->pZ ms a E->E.length=v+1->Rel (hs (km b) (EJ rb) (.map ms ck) (oi b ck a) (v+1) E) σ'->Q .normal σ'):AWP X yL σ Q:=by
 have d:X.nt=44:=by rw[t.nt];exact Zg
 have l:∀x∈L,x∈S:=λx o=>by
  obtain⟨e,p,f,_⟩:=(m.mem x).1 o;exact(j.mem x).2 ⟨e,p,f⟩
 obtain⟨F,G,H⟩:=yh v L D;rw[vu];refine AWP.seq ?_;obtain⟨i,t1,t2,p1,p2,f1,f2,u⟩:=wu;rw[u];refine AWP.next (n:=0) (r:=1) (by decide) F G H j.hold (Nat.le_refl _) (by rw[d];decide) (by rw[d];decide) ?_ ?_
 ·intro R;have e:L=S:=wh m.asc j.asc λx=>⟨λo=>l x o,λo=>by
   obtain⟨e,p,f⟩:=(j.mem x).1 o;exact(m.mem x).2 ⟨e,p,f,all_seen ms seen R e p⟩⟩
  have r:=(D.slotT 8 .undef).slotT 9 (.pv (.bool false));refine AWP.mono ((mu v L).awp X t _ r) ?_
  rintro N σ' ⟨rfl,h⟩
  rw[M.symm,e]at h;exact O σ' ⟨rfl,h⟩
 intro e p;obtain⟨g,w⟩:=mem_left p;obtain⟨n,z⟩:=j.kn e g;have r:=((D.slotT 8 .undef).slotT 9 (.pv (.bool true))).objT 1 (.raw (EJ rb) (oi b ck (seen.push e.born)));refine AWP.seq (AWP.mono ((nu v L).awp X t _ r) ?_)
 rintro N σ' ⟨rfl,y⟩
 refine AWP.block (AWP.seq ?_);obtain⟨F,G,H⟩:=yh v L y;obtain⟨i,t1,t2,t3,p1,p2,p3,f1,f2,f3,u⟩:=ku;rw[u];refine AWP.entry F G H g j.nd z (by rw[d];decide) (by rw[d];decide) (by rw[d];decide) ?_;obtain⟨τ,T,I⟩:=pu t v L n y;have J:n∉L:=λu=>by
  obtain⟨s,c,f,k⟩:=(m.mem n).1 u;rw[j.inj e g s c (z.trans f.symm),k]at w;cases w
 have U:=nZ m.asc j.asc l;have V:=j.len;obtain⟨A,B,C,k,W,Y⟩:=fu (mv:=km b) (iv:=EJ rb) (mo:=.map ms ck) (io:=oi b ck (seen.push e.born)) n v L M (by grind) (by simp only[maxLen];omega);refine AWP.wkX T (AWP.mono (Y.awp X t τ I) ?_)
 rintro N σ3 ⟨rfl,K⟩
 refine P (seen.push e.born) (A++n::B) σ3 (left_shrinks ms seen e p) ⟨lu (C▸m.asc) (C▸J) k W,λx=>?_⟩ (by have:=congrArg List.length C;simp at this⊢;omega) K;have o:x∈A++n::B↔x=n\/x∈L:=by rw[<-C];simp;constructor<;>(rintro(h|h|h)<;>simp[h])
 rw[o,m.mem];constructor
 ·rintro(rfl|⟨s,c,f,k⟩)
  ·exact⟨e,g,z,by simp⟩
  exact⟨s,c,f,by simp at k⊢;exact .inl k⟩
 rintro⟨s,c,f,k⟩
 by_cases hq:seen.contains s.born=true
 ·exact .inr ⟨s,c,f,hq⟩
 have Z:s.born=e.born:=by simp at k hq;exact k.resolve_left hq
 have:=ru j.nd c g Z;subst this;rw[z]at f;simp at f;omega
def bh(c:HX X ev Tryz.prog (fnc 221).ntmps 1)(d:zP ms ck S):∀(k:Nat)(seen:Array Nat)(v:Nat)(L:List Nat)(σ:St),(leftOf ms seen).size<=k->pZ ms seen L->L.length=v->
   Rel (hs (km b) (EJ rb) (.map ms ck) (oi b ck seen) v L) σ->rI X yL (qN (.exit 0) (sN (km b) (.map ms ck) S.length S)) (k+1) σ
 |0,seen,v,L,σ,g,a,e,f=>vT (uh c d seen v L σ a e f _ (λ_ h=>h) (λ_ _ _ h=>by omega))|k+1,seen,v,L,σ,g,a,e,f=>vT (uh c d seen v L σ a e f _ (λ_ h=>h) (λa i σ' h e f g=>bh c d k a (v+1) i σ' (by omega) e f g))
end
end Go.Proofs.YtmihmecnjjmdgaaGreatDoor
namespace Go.Lg
def tu{ev:MA}{P:Program}{f m nx:Nat}{args:List V}{objs:List (Nat×Ob)}{n:List Nat}{y:V}{ro o1:List (Nat×Ob)}(d:mG (kC objs)=true)(c:qL (kC objs) n=true)
  (g:Called P ev.gl ⟨.nil,KB objs .nil,m,[]⟩ f args ⟨y,[],[],nx⟩ n ro o1):AC P ev.gl f args objs (.ret y) objs:=by
 have d:=LO d;rw[pG]at d;have c:=wN c;rw[pG]at c;have i:∀k,(KB objs .nil).get k=zA objs k:=λk=>by
  rw[NO objs _ d];cases zA objs k<;>rfl
 have h:o1=[]:=by
  cases o1 with|nil=>rfl|cons p r=>have:=g.inch p.1 (keysO_mem.2 ⟨p.2,List.mem_cons_self ..⟩);cases this
 subst h;have a:∀p∈ro,zA objs p.1=some p.2:=λp s=>by rw[<-i];exact g.subs p (by simp_all)
 have b:∀k,zA ro k=zA objs k:=by
  intro k
  cases e:zA ro k with
  |some o=>exact(a (k,o) (oJ e)).symm|none=>
   cases t:zA objs k with
   |none=>rfl|some o=>
    have h:=g.all k (c k (getO_iff.2 (by rw[t];rfl)));rw[List.append_nil,getO_iff,e]at h;cases h
 have j:AC P ev.gl f args ro (.ret y) ro:=by simpa using g.ac
 refine AC.cong j b b λk c=>?_
 obtain⟨p,s,l⟩:=mem_mentO.1 c;exact mem_mentO.2 ⟨p,oJ (a p s),l⟩
end Go.Lg
namespace Go.Proofs.YtmihmecnjjmdgaaGreatDoor
open Go.Lg
set_option maxRecDepth 100000
def se(U:List Nat):List (SK×V):=U.map λn=>(.int (.ofNat n),.pv (.bool true))
def pD:∀U:List Nat,JC (se U)=[]|[]=>rfl|n::U=>by show([]:List Nat)++JC (se U)=[];rw[pD U];rfl
def dh{E b:Env}:∀{U:List Nat}{a:List MapEntry},EntsS E false (se U) a->EntsS b false (se U) a|[],[],_=>True.intro|n::U,e::a,h=>⟨⟨h.1.1,h.1.2.1,h.1.2.2.1,h.1.2.2.2⟩,dh h.2⟩|[],_::_,h=>h.elim|_::_,[],h=>h.elim
def fh{E:Env}:∀{U:List Nat}{a:List MapEntry},EntsS E false (se U) a->a.map (·.key)=U.map λn=>.int .i64 (.ofNat n)
 |[],[],_=>rfl|n::U,e::a,h=>by
  show e.key::a.map (·.key)=_::U.map _;rw[fh h.2,h.1.1];rfl
 |[],_::_,h=>h.elim|_::_,[],h=>h.elim
def au:∀{l:List MapEntry},(l.map (·.key)).Nodup->∀{e a:MapEntry},e∈l->a∈l->e.key=a.key->e=a
 :=by intro x;induction x<;>grind[absurd]
def cu{U:List Nat}(h:U.Nodup):(U.map λn=>Value.int .i64 (.ofNat n)).Nodup:=by
 grind
structure jP(U S:List Nat):Prop where
 nd:U.Nodup
 asc:yD S
 mem:∀x:Nat,x∈S↔x∈U
 len:S.length<=8589934592
def iu{E:Env}{U S:List Nat}{b:Array MapEntry}{ck:Nat}(h:jP U S)(c:EntsS E false (se U) b.toList)(hs:StampOK b.toList ck):zP b ck S:=by
 have g:=fh c;have a:∀v,(∃e∈b.toList,e.key=v)↔∃n∈U,Value.int .i64 (.ofNat n)=v:=λv=>by
  have:v∈b.toList.map (·.key)↔v∈U.map λn=>Value.int .i64 (.ofNat n):=by rw[g]
  grind
 refine⟨hs.1,hs.2,λe c=>?_,λe c i d f=>au (g▸cu h.nd) c d f,h.asc,λx=>?_,h.len⟩
 ·obtain⟨n,_,j⟩:=(a e.key).1 ⟨e,c,rfl⟩
  grind
 rw[h.mem,a]
 grind
section
variable{b rb ck:Nat}{ms:Array MapEntry}{S:List Nat}
def xu(f:zP ms ck S):Lp 221 0 1 (hs (km b) (EJ rb) (.map ms ck) (oi b ck #[]) 0 []) (.exit 0) (sN (km b) (.map ms ck) S.length S):=by
 refine⟨λsub c=>?_,(leftOf ms #[]).size+1,λX g σ i=>bh g f _ #[] 0 [] σ (Nat.le_refl _) ⟨List.Pairwise.nil,λx=>⟨λh=>(by cases h),λ⟨e,_,_,h⟩=>(by simp at h)⟩⟩ rfl i⟩;have d:∀n,n<1->n=0:=λn h=>by omega
 have j:∀v,(sN (km b) (.map ms ck) v S).ob.get 0=some (.raw (km b) (.map ms ck)):=λv=>by cases v<;>rfl
 have k:∀v,(sN (km b) (.map ms ck) v S).dt=[]/\(sN (km b) (.map ms ck) v S).nx=3:=λv=>by cases v<;>exact⟨rfl,rfl⟩
 refine⟨by rw[(k _).2];omega,λn a _=>?_,λn a _=>?_,c.names,λn a=>?_⟩
 ·rw[d n a,j];exact c.same 0 (by omega) (by simp[hs])
 ·rw[d n a];exact c.old 0 (by omega) rfl
 simp_all
def uL(o:Ob):List Nat->IS|[]=>st [(3,.pv .nils)] [(0,o)] 3 []|x::S=>st [(3,.pv (IA (x::S)))] [(0,o)] 3 []
def Au(c:zP ms ck S):Lp 221 0 1 (hs (km b) (EJ rb) (.map ms ck) (oi b ck #[]) 0 []) (.exit 0) (uL (.raw (km b) (.map ms ck)) S):=by
 have h:=xu (b:=b) (rb:=rb) c
 cases S with
 |nil=>exact h|cons x S=>
  have a:=LoopIs.fz (by simp) (show Lp 221 0 1 _ (.exit 0) (st [(3,.arr 2 (S.length+1) (S.length+1))] [(0,.raw (km b) (.map ms ck)),(2,.arr (S.length+1) 1 3 (kA ((x::S).map ic)))] 3 [])from h) 2 (ver:=S.length+1) (sz:=1) (ty:=3) (ps:=(x::S).map ic) rfl (by kernel_rfl);have e:((x::S).map ic).take (S.length+1)=(x::S).map ic:=List.take_of_length_le (by simp);simp (decide:=true) only[BF,QE,QC,ND,yE,and_self,↓reduceIte,e]at a;exact a
abbrev KA(U:List Nat):Ob:=.smap false (se U)
abbrev rZ(U:List Nat):IS:=st [(0,.map 0),(3,.pv .nils)] [(0,KA U)] 1 []
def Bu:Tryz.prog.underlying 249=some (.map 3 4):=by kernel_rfl
noncomputable abbrev lh:Code:=.seq (cs1 (cs1 (cs2 (cs2 qP)))) (.block 0 (.loop yL))
def Cu{X:Env1}(d:HX X ev Tryz.prog (fnc 221).ntmps 1)(i:zP ms ck S){U:List Nat}{σ:St}(e:Rel (rZ U) σ):
  AWP X lh ⟨σ.slots,aB σ.objs 0 (.raw (km b) (.map ms ck)),σ.used⟩ (qN .normal (uL (.raw (km b) (.map ms ck)) S)):=by
 have a:X.nt=44:=by rw[d.nt];exact Zg
 have c:=e.objT 0 (.raw (km b) (.map ms ck));refine AWP.seq ?_;refine AWP.range (n:=0) (r:=1) (b:=b) (ck:=ck) (ms:=ms) (e.sl 0) (c.ob 0) (λh=>(by have:1<1:=e.us 1 h;omega)) (by rw[d.P];exact Bu) (by rw[a];decide) (by rw[a];decide) ?_;intro rb;have f:=((c.slotT 6 (.map 0)).slotT 7 (.loc 1 0)).newT (.raw (EJ rb) (oi b ck #[]));obtain⟨τ,j,g⟩:=f.keep d (s':=hs (km b) (EJ rb) (.map ms ck) (oi b ck #[]) 0 []) ⟨[3,7],[0,1],2,[]⟩ (by kernel_rfl) (cast (show True=xF _ _ True by kernel_rfl) True.intro) (by kernel_rfl);refine AWP.wkX j (AWP.block (AWP.mono ((Au i).reach.awp X d τ g) ?_))
 rintro k σ' ⟨rfl,h⟩
 exact⟨rfl,h⟩
def Du{U:List Nat}(D:jP U S):Rc 1 221 lh (rZ U) .normal (uL (KA U) S):=by
 refine⟨λsub s=>?_,λX F σ y C E a w G z=>?_⟩
 ·have A:∀n,n<1->n=0:=λn h=>by omega
  have H:(uL (KA U) S).ob.get 0=some (KA U):=by cases S<;>rfl
  have:(uL (KA U) S).dt=[]/\(uL (KA U) S).nx=3:=by cases S<;>exact⟨rfl,rfl⟩
  refine⟨by omega,λn r _=>?_,λn r _=>?_,s.names,λn r=>?_⟩
  ·rw[A n r,H];exact s.same 0 (by omega) (by simp)
  ·rw[A n r];exact s.old 0 (by omega) rfl
  simp_all
 have B:zA σ.objs 0=some (KA U):=y.ob 0;obtain⟨b,ms,ck,I,g,i,c,k⟩:=z.objs 0 _ B;have t:=z.swapO (o':=.raw (km b) (.map ms ck)) B ⟨I,b,rfl,g,i⟩ (by simp[Ob.names]);refine wp_mono (Cu F (iu D c k) y C E a w G t) ?_
 rintro e L M ⟨J,σ',N,l,m,rfl,o⟩
 have p:zA σ'.objs 0=some (.raw (km b) (.map ms ck)):=by rw[o.ob 0];cases S<;>rfl
 obtain⟨u,O,v,d,f⟩:=l.objs 0 _ p;cases v;have x:=l.swapO (o':=KA U) p ⟨b,ms,ck,u,d,f,dh c,k⟩ (by simp[Ob.names,pD]);refine⟨J,_,.normal,x,m,rfl,?_⟩;have j:=o.objT 0 (KA U);cases S<;>exact⟨j.sl,λn=>(j.ob n).trans (by simp only[uL,Tr.get_put];by_cases e:n=0<;>simp[e,KB,Tr.get_put];done),j.us⟩
end
end Go.Proofs.YtmihmecnjjmdgaaGreatDoor
namespace Go.Lg
end Go.Lg
namespace Go.Proofs.YtmihmecnjjmdgaaGreatDoor
open Go.Lg
set_option maxRecDepth 100000
def mh(U:List Nat)(m:Nat)(a:Nat.blt 0 m=true):reach m (KB [(0,KA U)] .nil) 1000000 [0] .nil []=some (Tr.nil.put 0 (some (KA U)),[0]):=by
 have e:reach m (KB [(0,KA U)] .nil) 1000000 [0] .nil []=bif Nat.blt 0 m then reach m (KB [(0,KA U)] .nil) 999999 (JC (se U)++[]) (Tr.nil.put 0 (some (KA U))) [0]else none:=by kernel_rfl
 rw[e,a,pD];rfl
def sU:List Nat->PV|[]=>.nils|x::S=>IA (x::S)
def Eu:∀S:List Nat,PV.w 4 (sU S)=IA S|[]=>rfl|_::_=>rfl
section
variable{U S:List Nat}
def p33_0:Rc 1 221 (cs1 qP) ⟨uE 0 [.map 0] .nil,Tr.nil.put 0 (some (KA U)),1,[]⟩ .normal (st [(0,.map 0)] [(0,KA U)] 1 []):=rN [] ⟨[0],[0],1,[]⟩ (pD U)
def p33_1:Rc 1 221 (cs1 (cs2 qP)) (st [(0,.map 0)] [(0,KA U)] 1 []) .normal (rZ U):=rN [] ⟨[0,3],[0],1,[]⟩ (pD U)
def Fu:Rc 1 221 (cs2 (cs2 (cs2 qP))) (uL (KA U) S) .ret (st [(2,.pv (sU S))] [(0,KA U)] 3 []):=by
 cases S with|nil=>exact rN [] ⟨[2],[0],3,[]⟩ (pD U)|cons x S=>exact rN [] ⟨[2],[0],3,[]⟩ (pD U)
def Gu(a:jP U S):Rc 1 221 qP ⟨uE 0 [.map 0] .nil,Tr.nil.put 0 (some (KA U)),1,[]⟩ .ret (st [(2,.pv (sU S))] [(0,KA U)] 3 []):=by
 exact p33_0.seq (p33_1.seq ((Du a).seq Fu))
def nh(a:jP U S):O 221 [.map 0] [(0,KA U)] (.pv (IA S)) [(0,KA U)]:=by
 obtain⟨ro,o1,b⟩:=ET (s:=⟨.nil,KB [(0,KA U)] .nil,1,[]⟩) (QY (Gu a)) evOK (f:=221) (fn:=fnc 221) (c:=qP) (by kernel_rfl) (by kernel_rfl) (args:=[.map 0]) (by decide) (mh U 1 rfl) (r:=⟨.pv (sU S),[],[],3⟩) (by
  unfold UM MO;simp only[and_self,if_true];cases S<;>kernel_rfl)
 have h:=tu (objs:=[(0,KA U)]) (by kernel_rfl) (by kernel_rfl) b;rw[<-Eu S];exact AC.wO 4 h
end
end Go.Proofs.YtmihmecnjjmdgaaGreatDoor
namespace Go.Lg
def Hu{ev:MA}{P:Program}{f m nx:Nat}{args:List V}{objs d:List (Nat×Ob)}{s:List Nat}{y:V}{ro o1:List (Nat×Ob)}(j:mG (kC objs)=true)(g:qL (kC objs) s=true)(v:mG (kC d)=true)
  (h:Called P ev.gl ⟨.nil,KB objs .nil,m,[]⟩ f args ⟨y,d,[],nx⟩ s ro o1):AC P ev.gl f args objs (.ret y) (KO d objs):=by
 have j:=LO j;rw[pG]at j;have g:=wN g;rw[pG]at g;have l:∀k,(KB objs .nil).get k=zA objs k:=λk=>by
  rw[NO objs _ j];cases zA objs k<;>rfl
 have b:∀p∈ro++o1,zA objs p.1=some p.2:=λp n=>by rw[<-l];exact h.subs p n
 have c:∀k,zA (ro++o1) k=zA objs k:=by
  intro k
  cases e:zA (ro++o1) k with
  |some o=>exact(b (k,o) (oJ e)).symm|none=>
   cases i:zA objs k with
   |none=>rfl|some o=>
    have a:=h.all k (g k (getO_iff.2 (by rw[i];rfl)));rw[getO_iff,e]at a;cases a
 refine AC.cong h.ac c (λk=>?_) (λk g=>?_)
 ·rw[SY,<-c,List.append_nil,WT,WT]
  cases e:zA ro k with
  |some o=>
   have a:=(h.apart k (getO_iff.2 (by rw[e];rfl))).2;have:zA d k=none:=by
    cases i:zA d k with|none=>rfl|some o=>exact absurd (by simpa using getO_iff.2 (by rw[i];rfl)) a
   grind[VQ]
  |none=>
   cases i:zA o1 k with
   |some o=>
    have a:=h.inch k (getO_iff.2 (by rw[i];rfl));obtain⟨x,t⟩:=Option.isSome_iff_exists.1 (getO_iff.1 a)
    grind[VQ]
   |none=>
    cases u:zA d k with
    |none=>rfl|some o=>
     have a:=(h.chs k (getO_iff.2 (by rw[u];rfl))).2.2;rw[getO_iff,i]at a;cases a
 obtain⟨p,n,r⟩:=mem_mentO.1 g;exact mem_mentO.2 ⟨p,oJ (b p n),r⟩
end Go.Lg
namespace Go.Proofs.YtmihmecnjjmdgaaGreatDoor
open Go.Lg
set_option maxRecDepth 100000
def jD:List Nat->Nat->List Nat|[],n=>[n]|m::U,n=>if n=m then m::U else m::jD U n
theorem mem_ins1:∀{U:List Nat}{n x:Nat},x∈jD U n↔x=n\/x∈U
 :=by intro x;induction x<;>simp_all[jD,U,List.mem_cons]<;>grind
theorem sZ:∀{U:List Nat}{n:Nat},U.Nodup->(jD U n).Nodup
 |[],n,_=>by simp[jD]|m::U,n,h=>by
  obtain⟨a,b⟩:=List.nodup_cons.1 h;unfold jD;split
  ·exact h
  rename_i e;exact List.nodup_cons.2 ⟨λc=>(mem_ins1.1 c).elim (λh=>e h.symm) a,sZ b⟩
def ph:∀(U:List Nat)(n:Nat),(jD U n).length<=U.length+1
 :=by intro x;induction x<;>simp_all[jD,U]<;>grind
def rh:∀(U:List Nat)(n:Nat),jE (se U) (.int (.ofNat n)) (.pv (.bool true))=se (jD U n)
 |[],n=>rfl|m::U,n=>by
  show(bif SK.eqB (.int (.ofNat n)) (.int (.ofNat m))then _::se U else _::jE (se U) _ _)=_;unfold jD;by_cases e:n=m
  ·subst e;rw[(SK.eqB_iff _ _).2 rfl,if_pos rfl];rfl
  rw[if_neg e];have:SK.eqB (.int (.ofNat n)) (.int (.ofNat m))=false:=by
   cases h:SK.eqB (.int (.ofNat n)) (.int (.ofNat m))with|false=>rfl|true=>have:=(SK.eqB_iff _ _).1 h;grind
  rw[this,cond_false,rh U n];rfl
def tZ(k:Nat)(U:List Nat)(n:Nat):some (⟨.undef,some (k,.smap false (jE (se U) (.int (.ofNat n)) (.pv (.bool true)))),false⟩:RB)=some ⟨.undef,some (k,KA (jD U n)),false⟩:=by rw[rh]
def UA:Tm->Nat->List Nat->List Nat|.v i,c,U=>if c<=i then jD U (i-c)else U|.lam _ b,c,U=>UA b (c+1) U|.n0 _,_,U=>U|.n1 _ a,c,U=>UA a c U|.n2 _ a b,c,U=>UA b c (UA a c U)|.n3 _ _ a b d,c,U=>UA d c (UA b c (UA a c U))
noncomputable def th:Code:=match (fnc 342).body with|some c=>c|none=>.skip
abbrev Iu(t:Tm)(c:Nat)(U:List Nat):IS:=⟨uE 0 [.pv t.p,.pv (num c),.map 0] .nil,Tr.nil.put 0 (some (KA U)),1,[]⟩
def tN{t:Tm}{c:Nat}{U a:List Nat}(h:Rc 1 342 th (Iu t c U) .normal (st [] [(0,KA a)] 2 [0])):O 342 [.pv t.p,.pv (num c),.map 0] [(0,KA U)] (.pv (.tuple [])) [(0,KA a)]:=by
 obtain⟨ro,o1,b⟩:=ET (s:=⟨.nil,KB [(0,KA U)] .nil,1,[]⟩) (QY h) evOK (f:=342) (fn:=fnc 342) (c:=th) (by kernel_rfl) (by kernel_rfl) (args:=[.pv t.p,.pv (num c),.map 0]) (Nat.le_of_ble_eq_true (show Nat.ble 3 (fnc 342).ntmps=true by kernel_rfl)) (mh U 1 rfl) (r:=⟨.pv (.tuple []),[(0,KA a)],[],2⟩) (by
  unfold UM MO;simp only[and_self,if_true]
  have e:AO ev.T 1 (Tr.nil.put 0 (some (KA U))) (fnc 342).results.toList .normal (st [] [(0,KA a)] 2 [0])=(match UK 1 2 (Tr.nil.put 0 (some (KA U))) (KB [(0,KA a)] .nil) 1000000 (JC (se a)++[]) .nil []with
   |some d=>some ⟨.pv (.tuple []),[(0,KA a)],d,2⟩|none=>none):=by kernel_rfl
  refine e.trans ?_;rw[pD];rfl)
 exact AC.wO 4 (Hu (objs:=[(0,KA U)]) (by kernel_rfl) (by kernel_rfl) (by kernel_rfl) b)
def vP{c:Nat}(h:c<=qA:=by omega):eA (Int.ofNat c+0)=true/\Int.ofNat c+0=.ofNat c:=⟨by grind[xA,vA],Int.add_zero _⟩
def Ju{c:Nat}(h:c+1<=qA:=by omega):eA (Int.ofNat c+1)=true/\Int.ofNat c+1=.ofNat (c+1):=⟨xA (n:=c+1) (by have:=vA;omega),rfl⟩
def Ku{i c:Nat}(h:c<=i)(a:i<=qA*qA):eA (Int.ofNat i-Int.ofNat c)=true/\Int.ofNat i-Int.ofNat c=.ofNat (i-c):=by
 have e:Int.ofNat i-Int.ofNat c=.ofNat (i-c):=by simp;omega
 exact⟨by rw[e];exact xA (by have:qA*qA=1125899906842624:=rfl;omega),e⟩
abbrev aN:Kp:=⟨[],[0],2,[0]⟩
def bL:∀(t:Tm)(c:Nat)(U:List Nat),c+t.cnt<=qA->t.mx<=qA*qA->O 342 [.pv t.p,.pv (num c),.map 0] [(0,KA U)] (.pv (.tuple [])) [(0,KA (UA t c U))]
 |.v i,c,U,f,e=>by
  unfold UA;by_cases h:c<=i
  ·rw[if_pos h];exact tN (uu [(15,.G),(21,.z (i-c)),(99999,.w ⟨.undef,some (0,KA (jD U (i-c))),false⟩)] aN (show(!fA (.ofNat i) (.ofNat c))=true by rw[GA h];rfl) (Ku h e) (tZ 0 U (i-c)) (pD (jD U (i-c))))
  rw[if_neg h];exact tN (yu [(15,.H)] aN (show(!fA (.ofNat i) (.ofNat c))=false by rw[NA (by omega)];rfl) (pD U))
 |.n0 k,c,U,f,e=>by cases k<;>exact tN (rN [] aN (pD U))
 |.lam s b,c,U,f,e=>by
  simp only[Tm.cnt]at f;have g:=bL b (c+1) U (by omega) e;exact tN (qh [(33,.z (c+1)),(35,.d 0 (KA (UA b (c+1) U)) (.pv (.tuple [])))] aN (Ju (c:=c)) g (pD (UA b (c+1) U)))
 |.n1 k a,c,U,f,e=>by
  simp only[Tm.cnt]at f;have g:=bL a c U (by omega) e;cases k<;>exact tN (qh [(33,.z c),(35,.d 0 (KA (UA a c U)) (.pv (.tuple [])))] aN (vP (c:=c)) g (pD (UA a c U)))
 |.n2 k a b,c,U,f,e=>by
  simp only[Tm.cnt]at f;simp only[Tm.mx]at e;have g:=bL a c U (by omega) (by omega);have j:=bL b c (UA a c U) (by omega) (by omega);cases k<;>exact tN (zh [(33,.z c),(35,.d 0 (KA (UA a c U)) (.pv (.tuple []))),(33,.z c),(35,.d 0 (KA (UA b c (UA a c U))) (.pv (.tuple [])))] aN (vP (c:=c)) g (vP (c:=c)) j (pD (UA b c (UA a c U))))
 |.n3 k s a b d,c,U,f,e=>by
  simp only[Tm.cnt]at f;simp only[Tm.mx]at e;have g:=bL a c U (by omega) (by omega);have j:=bL b c (UA a c U) (by omega) (by omega);have l:=bL d c (UA b c (UA a c U)) (by omega) (by omega);cases k<;>exact tN (jh [(33,.z c),(35,.d 0 (KA (UA a c U)) (.pv (.tuple []))),(33,.z c),(35,.d 0 (KA (UA b c (UA a c U))) (.pv (.tuple []))),(33,.z c),(35,.d 0 (KA (UA d c (UA b c (UA a c U)))) (.pv (.tuple [])))] aN (vP (c:=c)) g (vP (c:=c)) j (vP (c:=c)) l (pD (UA d c (UA b c (UA a c U)))))
end Go.Proofs.YtmihmecnjjmdgaaGreatDoor
namespace Go.Proofs.YtmihmecnjjmdgaaGreatDoor
open Go.Lg
set_option maxRecDepth 100000
def ah(n:Nat):∀{S:List Nat},yD S->n∉S->∃d,yD d/\(∀x,x∈d↔x=n\/x∈S)/\d.length=S.length+1
 |[],_,_=>⟨[n],List.pairwise_singleton _ _,λx=>by simp,rfl⟩|y::S,h,e=>by
  obtain⟨a,b⟩:=List.pairwise_cons.1 h;by_cases c:n<y
  ·refine⟨n::y::S,List.pairwise_cons.2 ⟨λx f=>?_,h⟩,λx=>List.mem_cons,rfl⟩
   grind
  obtain⟨d,g,j,i⟩:=ah n b (λh=>e (List.mem_cons_of_mem _ h));refine⟨y::d,List.pairwise_cons.2 ⟨λx f=>?_,g⟩,λx=>?_,by simp[i]⟩
  ·grind
  grind
def oh:∀{U:List Nat},U.Nodup->∃S,yD S/\(∀x,x∈S↔x∈U)/\S.length=U.length
 |[],_=>⟨[],List.Pairwise.nil,λ_=>Iff.rfl,rfl⟩|n::U,h=>by
  obtain⟨d,e⟩:=List.nodup_cons.1 h;obtain⟨S,a,b,c⟩:=oh e;obtain⟨f,g,i,j⟩:=ah n a (λh=>d ((b n).1 h))
  grind
def xh{U:List Nat}(h:U.Nodup)(d:U.length<=8589934592):∃S,jP U S/\S.length=U.length:=by
 obtain⟨S,a,b,c⟩:=oh h;exact⟨S,⟨h,a,b,by omega⟩,c⟩
def dL:∀(t:Tm)(c:Nat)(U:List Nat)(x:Nat),x∈UA t c U↔x∈U\/t.occ (c+x)≠0
 |.v i,c,U,x=>by
  grind[UA,Tm.occ,mem_ins1]
 |.n0 k,c,U,x=>by simp[UA,Tm.occ]|.lam s b,c,U,x=>by simp only[UA,Tm.occ];rw[dL b,show c+1+x=c+x+1 by omega]|.n1 k a,c,U,x=>by exact dL a c U x|.n2 k a b,c,U,x=>by simp only[UA,Tm.occ];rw[dL b,dL a];constructor<;>(by_cases e:x∈U<;>simp_all<;>omega)|.n3 k s a b d,c,U,x=>by simp only[UA,Tm.occ];rw[dL d,dL b,dL a];constructor<;>(by_cases e:x∈U<;>simp_all<;>omega)
def fL:∀(t:Tm)(c:Nat){U:List Nat},U.Nodup->(UA t c U).Nodup
 |.v i,c,U,h=>by
  grind[UA,sZ]
 |.n0 k,c,U,h=>h|.lam s b,c,U,h=>fL b (c+1) h|.n1 k a,c,U,h=>fL a c h|.n2 k a b,c,U,h=>fL b c (fL a c h)|.n3 k s a b d,c,U,h=>fL d c (fL b c (fL a c h))
def gL:∀(t:Tm)(c:Nat)(U:List Nat),(UA t c U).length<=U.length+t.cnt
 |.v i,c,U=>by
  simp only[UA,Tm.cnt];split
  ·exact ph U _
  omega
 |.n0 k,c,U=>by simp[UA]|.lam s b,c,U=>by have:=gL b (c+1) U;grind[UA,Tm.cnt]|.n1 k a,c,U=>by have:=gL a c U;grind[UA,Tm.cnt]|.n2 k a b,c,U=>by have:=gL a c U;have:=gL b c (UA a c U);grind[UA,Tm.cnt]|.n3 k s a b d,c,U=>by have:=gL a c U;have:=gL b c (UA a c U);have:=gL d c (UA b c (UA a c U));grind[UA,Tm.cnt]
def lL:∀(t:Tm)(v:Nat),t.occ v≠0->v<=t.mx
 |.v i,v,h=>by grind[Tm.occ,Tm.mx]|.n0 k,v,h=>absurd rfl h|.lam s b,v,h=>by have:=lL b (v+1) h;grind[Tm.mx]|.n1 k a,v,h=>lL a v h|.n2 k a b,v,h=>by
  simp only[Tm.occ]at h;simp only[Tm.mx];by_cases c:a.occ v=0
  ·have:=lL b v (by omega);omega
  have:=lL a v c;omega
 |.n3 k s a b d,v,h=>by
  simp only[Tm.occ]at h;simp only[Tm.mx];by_cases c:a.occ v=0
  ·by_cases e:b.occ v=0
   ·have:=lL d v (by omega);omega
   have:=lL b v e;omega
  have:=lL a v c;omega
def mL:Nat->Nat|0=>1|1=>0|n=>n
def Ah:∀n,mL (mL n)=n|0=>rfl|1=>rfl|_+2=>rfl
def Bh(ρ:Nat->Nat):∀U:List Nat,rJ ρ (se U)=se U|[]=>rfl|n::U=>by show(_,_)::rJ ρ (se U)=_::se U;rw[Bh ρ U];rfl
def Ch(U:List Nat):(KA U).ren mL=KA U:=by show Ob.smap false (rJ mL (se U))=_;rw[Bh]
def Lu(t:Tm)(a:t.cnt<=qA)(a:t.mx<=qA*qA):O 342 [.pv t.p,.pv (num 0),.map 1] [(1,.smap false [])] (.pv (.tuple [])) [(1,KA (UA t 0 []))]:=by
 have h:=AC.ren Ah (bL t 0 [] (by omega) a);have e:jF mL [(0,KA (UA t 0 []))]=[(1,KA (UA t 0 []))]:=by show [(1,(KA _).ren mL)]=_;rw[Ch]
 rw[e]at h;exact h
def Mu{U S:List Nat}(h:jP U S):O 221 [.map 1] [(1,KA U)] (.pv (IA S)) [(1,KA U)]:=by
 have h:=AC.ren Ah (nh h);have e:jF mL [(0,KA U)]=[(1,KA U)]:=by show [(1,(KA _).ren mL)]=_;rw[Ch]
 rw[e]at h;exact h
def Nu(t:Tm)(b:t.cnt<=qA)(c:t.tsz<=yA)(d:t.mx<=qA*qA):∃u:List Nat,A 287 [t.p] (.tuple [IA u,num t.chk])/\(t.chk=0->∀v,v∈u↔t.occ v≠0)/\(t.chk≠0->u=[])/\u.length<=t.cnt/\yD u:=by
 have:=vA;have:=uA;have a:=HJ t c
 cases e:t.chk with
 |succ k=>
  rw[e]at a;exact⟨[],f2 [7,9] a (wD (m:=k+1) (n:=0)),λh=>(by cases h),λ_=>rfl,Nat.zero_le _,.nil⟩
 |zero=>
  rw[e]at a;have:=gL t 0 [];obtain⟨S,h,j⟩:=xh (fL t 0 (U:=[]) List.nodup_nil) (by grind);refine⟨S,f3 [7,14,(16,.o [1] [] (.pv (IA S)))] a (Lu t b d) (Mu h),λ_ v=>?_,λh=>absurd rfl h,by simp_all,h.asc⟩;rw[h.mem,dL,Nat.zero_add];simp
def kF(U:List Nat):List Nat->List Nat|[]=>U|x::r=>kF (jD U x) r
def Dh:∀(r U:List Nat)(x:Nat),x∈kF U r↔x∈U\/x∈r
 :=by intro x;induction x<;>simp_all[U,kF,mem_ins1,List.mem_cons]<;>grind
def aZ:∀(r:List Nat){U:List Nat},U.Nodup->(kF U r).Nodup|[],_,h=>h|y::r,_,h=>aZ r (sZ h)
def cZ:∀(r U:List Nat),(kF U r).length<=U.length+r.length|[],U=>by simp[kF]|y::r,U=>by have:=cZ r (jD U y);have:=ph U y;grind[kF,List.length_cons]
abbrev Ou(a b:List Nat)(k:Nat):List (Nat×V):=[(1,.pv (IA b)),(5,.map 0),(11,.pv (IA a)),(12,.pv (num (a.map ic).length)),(13,.pv (num k))]
abbrev Pu(b:List Nat)(k:Nat):List (Nat×V):=[(5,.map 0),(20,.pv (IA b)),(21,.pv (num (b.map ic).length)),(22,.pv (num k))]
def Eh(a b:List Nat)(c:a.length<=qA):∀(r:List Nat)(k:Nat)(U:List Nat),a.drop k=r->
  Lp 158 0 0 (st (Ou a b k) [(0,KA U)] 1 []) (.exit 0) (st [(1,.pv (IA b)),(5,.map 0)] [(0,KA (kF U r))] 1 [])
 |[],k,U,h=>by
  have e:fA (.ofNat k) (.ofNat (a.map ic).length)=false:=GA (by simp_all);exact y1 [14] ⟨[1,5],[0],1,[]⟩ e (pD U)
 |x::r,k,U,h=>by
  have:=vA;obtain⟨d,l,f⟩:=dH h;have e:fA (.ofNat k) (.ofNat (a.map ic).length)=true:=NA (by simp_all);have g:=xA (show k+1<=_ by omega);have i:=Eh a b c r (k+1) (jD U x) f;exact n6 [14,(15,.i (ic x)),(99999,.w ⟨.undef,some (0,KA (jD U x)),false⟩),(19,.ok)] ⟨[1,5,11,12,13],[0],1,[]⟩ e (vB d cL) (tZ 0 U x) g (pD (jD U x)) i
def Fh(b:List Nat)(a:b.length<=qA):∀(r:List Nat)(k:Nat)(U:List Nat),b.drop k=r->
  Lp 158 1 0 (st (Pu b k) [(0,KA U)] 1 []) (.exit 2) (st [(5,.map 0)] [(0,KA (kF U r))] 1 [])
 |[],k,U,h=>by
  have e:fA (.ofNat k) (.ofNat (b.map ic).length)=false:=GA (by simp_all);exact y1 [23] ⟨[5],[0],1,[]⟩ e (pD U)
 |x::r,k,U,h=>by
  have:=vA;obtain⟨c,j,d⟩:=dH h;have e:fA (.ofNat k) (.ofNat (b.map ic).length)=true:=NA (by simp_all);have f:=xA (show k+1<=_ by omega);have g:=Fh b a r (k+1) (jD U x) d;exact n6 [23,(24,.i (ic x)),(99999,.w ⟨.undef,some (0,KA (jD U x)),false⟩),(28,.ok)] ⟨[5,20,21,22],[0],1,[]⟩ e (vB c cL) (tZ 0 U x) f (pD (jD U x)) g
def Qu(a b:List Nat)(c:a.length<=qA:=by omega)(d:b.length<=qA:=by omega):∃u:List Nat,A 158 [IA a,IA b] (IA u)/\(∀v,v∈u↔v∈a\/v∈b)/\u.length<=a.length+b.length/\yD u:=by
 have:=cZ a [];have:=cZ b (kF [] a);obtain⟨S,h,i⟩:=xh (aZ b (aZ a (U:=[]) List.nodup_nil)) (by grind);have l1:=Eh a b c a 0 [] rfl;have e:=Fh b d b 0 (kF [] a) rfl;refine⟨S,fk [(100003,.l ⟨[1,5,11,12,13],[0],1,[]⟩ (.exit 0) (st [(1,.pv (IA b)),(5,.map 0)] [(0,KA (kF [] a))] 1 [])),(100008,.l ⟨[5,20,21,22],[0],1,[]⟩ (.exit 2) (st [(5,.map 0)] [(0,KA (kF (kF [] a) b))] 1 [])),(30,.o [0] [] (.pv (IA S)))] (And.intro (pD []) (And.intro l1 (And.intro (pD (kF [] a)) (And.intro e (And.intro (nh h) (rfl:IA S=IA S)))))),λv=>?_,by grind,h.asc⟩;rw[h.mem,Dh,Dh];simp
def eZ:MF where
 uses t h1 h2 h3:=by
  have hm:=vA;obtain⟨u,g1,g2,g3,g4,g5⟩:=Nu t h1 (by have:=uA;omega) h3;refine⟨u,t.chk,g1,λh=>⟨h,λv hv=>(g2 h v).2 hv⟩,λx hx=>?_,g4,g5⟩;by_cases e:t.chk=0
  ·exact lL t x ((g2 e x).1 hx)
  simp_all
 union a b h1 h2 h3:=by
  obtain⟨u,g1,g2,g3,g4⟩:=Qu a b;exact⟨u,g1,λv hv=>(g2 v).2 hv,λv hv=>(g2 v).1 hv,g3,g4⟩
def DF:∀(f:Fm)(σ:Nat->Tm)(t:Tm),(rz f σ t).gx
 |.eq _ _,_,_=>trivial|.bin .and x y,σ,t=>by
  simp only[rz];cases x.has&&y.has<;>exact⟨DF x _ _,DF y _ _⟩
 |.bin .imp x y,σ,t=>by
  simp only[rz];cases x.has
  ·exact⟨DF x _ _,DF y _ _⟩
  exact⟨⟨DF x _ _,DF y _ _⟩,nofun⟩
 |.q .all s x,σ,t=>⟨DF x _ _,nofun⟩|.q .allU s x,σ,t=>⟨DF x _ _,nofun⟩|.q .exU s x,σ,t=>⟨DF x _ _,nofun⟩|.q .ex s x,σ,t=>by
  simp only[rz];cases x.has<;>exact DF x _ _
def wR{x:Fm}{b:Sc->Jt}(h:∀s,(b s).p.gx)(s:Sc):(un x b s).p.gx:=by
 unfold un;cases x.has<;>exact⟨DF x _ _,h _⟩
def BC{tl:List Tm}:∀(j:Jt)(s:Sc),(j.pv tl s).p.gx
 |.leaf u i f,s=>by cases u<;>trivial
 |.refl t,s=>trivial|.p1 k a f,s=>by cases k<;>exact BC a s
 |.p2 .andI a b f,s=>⟨BC a s,BC b s⟩|.p2 .impE a b f,s=>by
  simp only[Jt.pv];cases b.f.has<;>exact⟨BC a s,BC b s⟩
 |.p2 .exE a b f,s=>by
  simp only[Jt.pv];have h:=wR (x:=a.f.bd) (b:=b.pv tl) (λs=>BC b s) (sv s);cases a.f.bd.has<;>exact⟨h,BC a s⟩
 |.p2 .exUE a b f,s=>by
  simp only[Jt.pv];cases a.f.bd.has
  ·exact⟨BC a s,BC b _⟩
  exact⟨BC a s,wR (λs=>BC b s) _,trivial⟩
 |.impI x a,s=>wR (λs=>BC a s) s|.all u w a,s=>BC a _|.ins u t a f,s=>BC a s|.ex u x t a,s=>by
  cases u
  ·exact BC a s
  exact⟨⟨DF _ _ _,nofun⟩,BC a s⟩
 |.ind l x t a b f,s=>by
  refine⟨DF _ _ _,BC a s,?_⟩;cases l<;>simp only[]<;>cases x.has
  ·exact BC b _
  ·exact⟨wR (λs=>BC b s) _,trivial⟩
  ·exact BC b _
  exact⟨wR (λs=>BC b s) _,trivial⟩
 |.subst x a b f,s=>⟨DF _ _ _,BC a s,BC b s⟩
open Go.Lg
def Ru(j:Jt)(tl:List Tm)(s:Sc)(σ:Nat->Tm):rz j.f σ (j.xt tl s)=rz j.f σ (j.tx tl s):=by
 unfold Jt.tx;cases e:j.f.has
 ·exact yI _ _ _ _ e
 rfl
section
variable{g:List Ty}(hg:g.length<=16)(hgs:∀s∈g,s.size<=64){j:Jt}(hD:j.D [] g [])(hO:j.OK [] g.length [])
include hg hgs hD hO
theorem Gh(H:MF){X:Pf}(k:(j.pv [] (wB g.length 0)).p=X)(b:X.ck)(l:X.cnt<=16384):
  ∃r:PR,A 10 [dA [],LA g [],X.p] r.p/\(∀n,r=.er n->Lm (n+1))/\∀f u,r=.ok f u->FCv f (j.gl g.length)/\∃a:Jt,a.p=X/\a.f=f/\a.D [] g []:=by
 subst k;have:=vA;have:=uA;obtain⟨w1,w2⟩:=KD Fs j g [] g [] (wB g.length 0) (wZ g) hD hO;have w:=tF w1 b;have:=bH _ _ _ _ w;have:=uH _ b;have:sB=1125899902742528:=rfl;have:mA=8388608:=rfl;obtain⟨r,o,p,t⟩:=Zb H (X:=1000000) (ls:=[]) (g:=g) (hs:=[]) (p:=(j.pv [] (wB g.length 0)).p) ⟨nofun,nofun,λs hs=>by have:=hgs s hs;omega,by omega,by simp,by simp,by omega,by omega,by omega,by omega⟩;refine⟨r,o,λn e=>t n e ⟨nofun,nofun⟩ b l _ w,λf u e=>?_⟩;obtain⟨_,_,_,_,_,⟨a,c,d,h,_⟩,_⟩:=p f u e;refine⟨?_,a,c,d,h⟩;have i:=w;rw[<-c]at i;rw[<-d];refine(PB.un h i).trans (w2.trans ?_);rw[Ru];exact .refl _
theorem Hh:(j.gl g.length).hq g:=by
 have a:=YF (ls:=[]) nofun j g [] nofun hD;refine WC _ g g _ _ (uI _ _ a) (wZ g).T.v λe=>?_
 rw[show j.tx [] (wB g.length 0)=j.xt [] (wB g.length 0) by unfold Jt.tx;rw[e];rfl];exact eC (ls:=[]) (tl:=[]) (λi f h=>by simp at h) j g g.length [] g (wB g.length 0) rfl hD hO (QV g.length 0) (wZ g).T e
theorem Su(a:FK g.length (j.gl g.length)):∃e,A 32 [JA g,(j.gl g.length).p] (num e)/\(e=0\/Lm e):=by
 have:=vA;have:=FE _ a.shp;have:=a.cnt;obtain⟨e,b,_,q⟩:=gR g (j.gl g.length) (λs hs=>by have:=hgs s hs;omega);exact⟨e,b,q a.chk (Hh hg hgs hD hO)⟩
theorem Tu{f:Fm}(c:FK g.length (j.gl g.length)){b:Jt}(e:b.f=f)(a:b.D [] g [])(h:FCv f (j.gl g.length)):∃e,A 33 [f.p,(j.gl g.length).p] (num e)/\(e=0\/Lm e):=by
 subst e;have:=vA;have:=uA;have:sB=1125899902742528:=rfl;have d:=rH a;obtain⟨o,k⟩:=Fm.chk0 d;have:=FE _ k;have:=uJ (uI _ _ (YF (ls:=[]) nofun b g [] nofun a));have:=FE _ c.shp;have:=c.cnt;have:=uJ (Hh hg hgs hD hO);obtain⟨e,l,_,q⟩:=IZ b.f (j.gl g.length);exact⟨e,l,q h ⟨d,by omega⟩ ⟨c.chk,by omega⟩⟩
end
def Uu{g:List Ty}(b:g.length<=16)(a:∀s∈g,s.size<=64){j:Jt}(c:j.D [] g [])(d:j.OK [] g.length [])(H:MF){X:Pf}(o:(j.pv [] (wB g.length 0)).p=X)(p:X.ck)(t:X.cnt<=16384)(l:FK g.length (j.gl g.length)):
  ∃e,A 13 [dA [],LA g [],X.p,(j.gl g.length).p] (num e)/\(e=0\/Lm e):=by
 obtain⟨r,h,v,w⟩:=Gh b a c d H o p t
 cases r with
 |er n=>exact⟨n+1,f1 [16] h,.inr (v n rfl)⟩|ok f u=>
  obtain⟨x,C,_,y,i⟩:=w f u rfl;obtain⟨e,m,z⟩:=Su b a c d l
  cases e with
  |succ e=>exact⟨e+1,f2 [16,25] h m,.inr (z.resolve_left (Nat.succ_ne_zero _))⟩|zero=>
   obtain⟨e,B,k⟩:=Tu b a c d l y i x;exact⟨e,f3 [16,25,32] h m B,k⟩
open Go.Lg
def a4:A 4 [] (.bool true):=
 f6 [14,20,24,28,60,61] Ss Us Fg Ns Fg Ms
def wP{e:Nat}(h:Lm e):A 9 [num e] (.bool true):=by
 have h:e=3\/e=4\/e=5:=by have h:=h;simp only[Lm]at h;omega
 rcases h with rfl|rfl|rfl<;>exact f0 []
def Vu:A 9 [num 0] (.bool false):=f0 []
def Wu{L:List Int}(J:∀z∈L,-9223372036854775808<=z/\z<=9223372036854775807):A 3 [.slice (L.map cK)] (.bool true):=by
 have:=vA;have:=uA;have g:=a5 L;by_cases b:L.length<=500;rotate_left
 ·rw[decide_eq_false b]at g;exact f3 [17,21,24] a4 g a4
 rw[decide_eq_true b]at g;have K:Dk L:=⟨b,J⟩;have M:S19 jC [] [] []:=⟨by simp,by simp,by simp,by simp,by simp,by simp,Nat.le_refl _,nofun,nofun⟩;have d:∀s∈([]:List Ty),s.size<=64:=nofun;obtain⟨p,r,c,⟨N,O,P,j,rfl,C⟩,_,k⟩:=qu eZ K (k:=2) (by omega) (by decide) M (Nat.zero_le _);obtain⟨Q,h|⟨v,w,h⟩⟩:=s9 (by simp) d C N O (rE (ls:=[]) nofun j [] [] nofun C P)
 ·exact f5 [17,21,30,36,42] a4 g k h (wP (e:=4) (by decide))
 generalize G:(j.pv [] (wB ([]:List Ty).length 0)).p=X at h v w;obtain⟨R,l,S,T⟩:=Gh (by simp) d C Q eZ G v w
 cases R with
 |er n=>exact f6 [17,21,30,36,46,52] a4 g k h l (wP (S n rfl))|ok f u=>
  obtain⟨U,i,D,H,m⟩:=T f u rfl;have x:i.p.gx:=by rw[D,<-G];exact BC j _
  rw[<-D]at v w;have y:=rH m;have E:i.f.has=false:=by rw[H,U.has];simp[jJ]
  obtain⟨s1,V⟩:=Fm.chk0 y;have:=FE _ V;obtain⟨b8,e8,o,W⟩:=Rh i.f;obtain⟨rfl,rfl⟩:=W y;rw[E,H]at o;obtain⟨F,hs⟩:=Jl (by simp) d m v w (rE (ls:=[]) nofun i [] [] nofun m x);obtain⟨_,a⟩:=s9 (by simp) d m v w (rE (ls:=[]) nofun i [] [] nofun m x);rw[D]at hs a;rcases hs with hs|⟨hs,Y⟩
  ·have t:A 12 [dA [],row [],LA [] [],X.p] (FR.er 3).p:=f1 [19] hs;rcases a with a|⟨_,_,a⟩
   ·exact f9 [17,21,30,36,46,56,62,68,78] a4 g k h l o t a (wP (e:=4) (by decide))
   exact f9 [17,21,30,36,46,56,62,68,78] a4 g k h l o t a (wP (e:=4) (by decide))
  have t:A 12 [dA [],row [],LA [] [],X.p] (FR.ok (i.gl 0)).p:=f1 [19] hs;rcases a with a|⟨Z,k2,a⟩
  ·exact UH [17,21,30,36,46,56,62,68,78,81] a4 g k h l o t a Vu (wP (e:=4) (by decide))
  obtain⟨e,I,B⟩:=Uu (by simp) d m F eZ rfl Z k2 Y;rcases B with rfl|B
  ·exact f9 [17,21,30,36,46,56,62,68,86] a4 g k h l o t a I
  have g7:=wP B;obtain rfl|rfl|rfl:e=3\/e=4\/e=5:=by simp only[Lm]at B;omega
  all_goals exact UH [17,21,30,36,46,56,62,68,86,98] a4 g k h l o t a I g7
end Go.Proofs.YtmihmecnjjmdgaaGreatDoor
