/- Contracts of functions; no conditions. -/
import Derived.Maps.RangeRun
import Derived.Test.YtjecbkgdndjejaaGreatDoorFreeB2
import Derived.Test.YtjecbkgdndjejaaGreatDoorFreeC10
set_option linter.all false
set_option maxHeartbeats 4000000
namespace Go.Lg
def Ga.swapO{C:Ctx}{E:Env}{σ:St}{a:Act}{w:World}(h:Ga C E σ a w){n:Nat}{o o':Ob}(u:zA σ.objs n=some o)(y:ObOK E w n o')(v:∀m∈o'.names,m∈σ.used):Ga C E ⟨σ.slots,tB σ.objs n o',σ.used⟩ a w:=by
 have s:∀m,zA (tB σ.objs n o') m=if m=n then some o' else zA σ.objs m:=λm=>gD _ _ _ _
 have d:∀m q,zA (tB σ.objs n o') m=some q->∃f,zA σ.objs m=some f:=λm q h=>by
  grind
 refine⟨h.slots,h.size,h.defers,h.heap,?_,?_,h.usedS,?_,h.usedG,h.grown,h.rest,h.same,h.hle,?_,h.ext,?_⟩
 ·intro m q c;simp only[s]at c;split at c
  ·simp_all
  exact h.objs m q c
 ·intro m t q f c g i b j;obtain⟨p,k⟩:=d m q c;obtain⟨x,l⟩:=d t f g;exact h.apart m t p x k l i b j
 ·intro m q c;simp only[s]at c;split at c
  ·rename_i e;cases c;subst e;exact⟨(h.usedO _ _ u).1,v⟩
  exact h.usedO m q c
 ·intro m q b c j r;obtain⟨p,k⟩:=d m q c;exact h.own m p b k j r
 intro m c;obtain⟨z,A,B⟩:=h.keep m c
 grind
def Ga.slotW{C:Ctx}{E:Env}{σ:St}{a:Act}{w:World}(h:Ga C E σ a w){d:Nat}{x:V}{v:Value}(b:RepV E x v)(c:∀n∈x.names,n∈σ.used)(f:d<C.nt):Ga C E ⟨(d,x)::σ.slots,σ.objs,σ.used⟩ (a.put (some d) v) w:=
 h.pure E.H (some d) x v (Hle.refl _) (Nat.le_refl _) ⟨rfl,rfl,rfl⟩ (λ_ _=>⟨rfl,rfl⟩) h.heap b c (λ_ e=>by simp_all)
def qR{C:Ctx}{E:Env}{σ:St}{a:Act}{w:World}(h:Ga C E σ a w){d:Nat}(b:d<C.nt)(v:Value):(a.put (some d) v).eval (.tmp d)=v:=by
 have:d<a.tmps.size:=by rw[h.size];exact b
 simp[Act.put,Act.eval,this]
section
variable{X:Env1}{id:Nat}{σ:St}{Q:yB->St->Prop}{t1 t2 t3:Nat}{p1 p2 p3:String}{f1 f2 f3:Array Edge}
def AWP.range{n r b ck t B D:Nat}{ms:Array MapEntry}{s c h:Nat}(I:IA σ.slots s=.map n)(J:zA σ.objs n=some (.raw (.map (some b)) (.map ms ck)))(F:r∉σ.used)(L:X.P.underlying t=some (.map B D))(M:c<X.nt)(N:h<X.nt)
  (O:∀rb,Q .normal ⟨(h,.loc r 0)::(c,.map n)::σ.slots,tB σ.objs r (.raw (.pointer (some ⟨rb,0,none⟩)) (.mapIter (some b) ck #[] ck)),r::σ.used⟩):
  AWP X (.region id #[⟨some c,.move (.tmp s),t1,p1,f1,none⟩,⟨some h,.range t (.tmp c),t2,p2,f2,none⟩] false) σ Q:=by
 intro C E a w G i;have j:c<C.nt:=by rw[G.nt];exact M
 have P:h<C.nt:=by rw[G.nt];exact N
 have k:=i.slots s;rw[I]at k;obtain⟨T,H,k⟩:=k;obtain⟨l,U,u,f,v⟩:=i.objs n _ J;rw[l]at H;cases H;cases u;have g:Ga C E ⟨(c,.map n)::σ.slots,σ.objs,σ.used⟩ (a.put (some c) (a.eval (.tmp s))) w:=i.slotW (x:=.map n) (v:=a.eval (.tmp s)) (by
  exact⟨b,l,k⟩) (λm x=>by
   have:=i.usedS s;simp_all) j
 have y:(a.put (some c) (a.eval (.tmp s))).eval (.tmp c)=.map (some b):=by rw[qR i j];exact k
 have o:=run_range_map (P:=X.P) w t B D b ms ck L f;refine wp_region_list ?_;refine wpList_plain rfl λK z=>?_
 refine OpRes.wp (v:=a.eval (.tmp s)) (w':=w) (.inl (by rfl)) (z _ _ ?_);refine wpList_plain rfl λK z=>?_
 refine OpRes.wp (v:=.pointer (some ⟨w.heap.size,0,none⟩)) (w':=w.alloc (.mapIter (some b) ck #[] ck)) (.inl (by
  simp only[execOp,y,Sem.run_bind,o,Result.andThen_ok,Sem.run_pure])) (z _ _ ?_)
 let d:Env:={E with g:=λm=>if m=r then .pointer (some ⟨w.heap.size,0,none⟩)else E.g m};have p:d.g r=.pointer (some ⟨w.heap.size,0,none⟩):=by simp[d]
 have R:∀m,m≠r->d.g m=E.g m/\d.ver m=E.ver m/\d.sz m=E.sz m:=λm x=>⟨by grind,rfl,rfl⟩
 refine⟨d,_,.normal,?_,rfl,O w.heap.size⟩;refine g.change (E':=d) r (some (.raw (.pointer (some ⟨w.heap.size,0,none⟩)) (.mapIter (some b) ck #[] ck))) _ (r::σ.used) (some h) (.loc r 0) _ (λm=>gD _ _ _ _) (Hle.refl _) R (λA=>absurd A F) (λA=>absurd A F)
  (by simp) ⟨rfl,rfl,rfl⟩ (λb S _=>⟨@heap_alloc_old w _ b S,rfl⟩) (bQ g.heap _ d rfl) ?_ ?_ (λm x=>by simp[x]) ?_ ?_ (λ_ e=>by simp_all)
 ·intro W e;cases e;exact⟨⟨p,w.heap.size,rfl,heap_alloc_new w _,g.heap.lt (Nat.le_refl _)⟩,by simp,by simp[Ob.names]⟩
 ·grind[CA]
 ·exact⟨_,p,rfl⟩
 simp[V.names]
def AWP.next{n r b rb ck d N:Nat}{B:Array MapEntry}{seen:Array Nat}{s f D:Nat}(O:n≠r)(hs:IA σ.slots s=.loc r 0)(ho:zA σ.objs n=some (.raw (.map (some b)) (.map B ck)))(l:zA σ.objs r=some (.raw (.pointer (some ⟨rb,0,none⟩)) (.mapIter (some b) d seen N)))
  (F:∀x∈B.toList,x.born<d) (P:d<=N) (h1:f<X.nt) (h2:D<X.nt)
  (R:(leftOf B seen).size=0->Q .normal ⟨(D,.pv (.bool false))::(f,.undef)::σ.slots,σ.objs,σ.used⟩)
  (S:∀e∈(leftOf B seen).toList,Q .normal ⟨(D,.pv (.bool true))::(f,.undef)::σ.slots,tB σ.objs r (.raw (.pointer (some ⟨rb,0,none⟩)) (.mapIter (some b) d (seen.push e.born) ck)),σ.used⟩):
  AWP X (.region id #[⟨some f,.next (.tmp s) false,t1,p1,f1,none⟩,⟨some D,.extract (.tmp f) 0,t2,p2,f2,none⟩] false) σ Q:=by
 intro C E a w hC o;have p:f<C.nt:=by rw[hC.nt];exact h1
 have G:D<C.nt:=by rw[hC.nt];exact h2
 have u:=o.slots s;rw[hs]at u;simp only[RepV]at u;obtain⟨b1,H,u⟩:=u;obtain⟨T,b2,U,v,V⟩:=o.objs n _ ho;obtain⟨t,b3,W,I,J⟩:=o.objs r _ l;rw[t]at H;cases H;cases U;cases W;have hbr:b≠rb:=λe=>o.apart n r _ _ ho l O b (by rw[T];rfl) (by rw[t,e];rfl)
 have Y:rb<w.heap.size:=(Array.getElem?_eq_some_iff.1 I).1;have u:a.eval (.tmp s)=.pointer (some ⟨rb,0,none⟩):=u;refine wp_region_list ?_;refine wpList_plain rfl λK A=>?_
 rcases run_next_at (P:=X.P) w t1 rb b d N seen B ck I v F P with ⟨h0,g⟩|⟨e,he,w1,Z,g⟩
 ·refine OpRes.wp (v:=.tuple #[.bool false]) (w':=w) (.inl (by simp only[execOp,u,Sem.run_bind,g,Result.andThen_ok,Sem.run_pure])) (A _ _ ?_);have y:Ga C E ⟨(f,.undef)::σ.slots,σ.objs,σ.used⟩ (a.put (some f) (.tuple #[.bool false])) w:=o.slotW (x:=.undef) trivial (λm z=>by cases z) p;refine wpList_plain rfl λK A=>?_
  refine OpRes.wp (v:=.bool false) (w':=w) (.inl (by simp only[execOp,qR o p];rfl)) (A _ _ ?_);exact⟨E,_,.normal,y.slotW (x:=.pv (.bool false)) (by rfl) (λm z=>by cases z) G,rfl,R h0⟩
 have j:w1.heap=w.heap/\w1.os=w.os/\w1.tape=w.tape/\w1.output=w.output:=by rcases Z with rfl|rfl<;>exact⟨rfl,rfl,rfl,rfl⟩
 refine OpRes.wp (v:=.tuple #[.bool true,e.key,e.val]) (w':=ChangeMaps.setBlock w1 rb (.mapIter (some b) d (seen.push e.born) ck)) (.inl (by simp only[execOp,u,Sem.run_bind,g,Result.andThen_ok,Sem.run_pure])) (A _ _ ?_);have k:∀i,(ChangeMaps.setBlock w1 rb (.mapIter (some b) d (seen.push e.born) ck)).heap[i]? =if i=rb then some (.mapIter (some b) d (seen.push e.born) ck)else w.heap[i]?:=by
  intro i;simp only[ChangeMaps.setBlock,j.1];by_cases l:i=rb
  ·subst l;simp[Y]
  rw[if_neg l,Array.getElem?_setIfInBounds_ne (λh=>l h.symm)]
 have y:Ga C E ⟨(f,.undef)::σ.slots,tB σ.objs r (.raw (.pointer (some ⟨rb,0,none⟩)) (.mapIter (some b) d (seen.push e.born) ck)),σ.used⟩ (a.put (some f) (.tuple #[.bool true,e.key,e.val])) (ChangeMaps.setBlock w1 rb (.mapIter (some b) d (seen.push e.born) ck)):=by
  refine o.change (E':=E) r (some (.raw (.pointer (some ⟨rb,0,none⟩)) (.mapIter (some b) d (seen.push e.born) ck))) _ σ.used (some f) .undef _ (λm=>gD _ _ _ _) (Hle.refl _) (λ_ _=>⟨rfl,rfl,rfl⟩) (λ_=>EExt.refl _ _) (λ_=>⟨_,l⟩)
   (by simp[ChangeMaps.setBlock,j.1]) ⟨j.2.1,j.2.2.1,j.2.2.2⟩ (λi hlt L=>⟨by rw[k,if_neg (λh=>L _ l (by rw[t,h];rfl))],rfl⟩) ?_ ?_ ?_ (λ_ h=>h) trivial (λm z=>by cases z) (λ_ e=>by cases e;exact p)
  ·intro i M;have:i≠rb:=λh=>M (h▸J)
   obtain⟨c,T',fr,hc,hp⟩:=o.heap i M;exact⟨c,T',fr,by rw[k,if_neg this];exact hc,hp⟩
  ·intro o' e';cases e';exact⟨⟨t,rb,rfl,by rw[k,if_pos rfl],J⟩,(o.usedO r _ l).1,by simp[Ob.names]⟩
  intro o' b' e' hb';exact .inr ⟨hb',_,l⟩
 refine wpList_plain rfl λK A=>?_
 refine OpRes.wp (v:=.bool true) (w':=_) (.inl (by simp only[execOp,qR o p];rfl)) (A _ _ ?_);exact⟨E,_,.normal,y.slotW (x:=.pv (.bool true)) (by simp[RepV,RepP]) (λm z=>by cases z) G,rfl,S e he⟩
def AWP.entry{n r b rb ck c:Nat}{ms:Array MapEntry}{seen:Array Nat}{e:MapEntry}{z:Int}{s d g v:Nat}(J:IA σ.slots s=.loc r 0)(L:zA σ.objs n=some (.raw (.map (some b)) (.map ms ck)))(M:zA σ.objs r=some (.raw (.pointer (some ⟨rb,0,none⟩)) (.mapIter (some b) c (seen.push e.born) ck)))
  (N:e∈ms.toList) (x:(ms.toList.map (·.born)).Nodup) (O:e.key=.int .i64 z) (P:d<X.nt) (R:g<X.nt) (S:v<X.nt)
  (T:Q .normal ⟨(v,.pv (.int z))::(g,.pv (.int z))::(d,.undef)::σ.slots,σ.objs,σ.used⟩):
  AWP X (.region id #[⟨some d,.entry (.tmp s),t1,p1,f1,none⟩,⟨some g,.extract (.tmp d) 0,t2,p2,f2,none⟩,⟨some v,.assign (.tmp g),t3,p3,f3,none⟩] false) σ Q:=by
 intro C E a w y i;have j:d<C.nt:=by rw[y.nt];exact P
 have k:g<C.nt:=by rw[y.nt];exact R
 have A:v<C.nt:=by rw[y.nt];exact S
 have h:=i.slots s;rw[J]at h;obtain⟨W,l,h⟩:=h;obtain⟨U,Y,B,f,D⟩:=i.objs n _ L;obtain⟨F,Z,G,H,V⟩:=i.objs r _ M;rw[F]at l;cases l;cases B;cases G;have h:a.eval (.tmp s)=.pointer (some ⟨rb,0,none⟩):=h;have o:=run_entry_at (P:=X.P) w rb b c seen ms ck e H f N x;refine wp_region_list ?_;refine wpList_plain rfl λK p=>?_
 refine OpRes.wp (v:=.tuple #[e.key,e.val]) (w':=w) (.inl (by simp only[execOp,h,Sem.run_bind,o,Result.andThen_ok,Sem.run_pure])) (p _ _ ?_);have t:Ga C E ⟨(d,.undef)::σ.slots,σ.objs,σ.used⟩ (a.put (some d) (.tuple #[e.key,e.val])) w:=i.slotW (x:=.undef) trivial (λm u=>by cases u) j;refine wpList_plain rfl λK p=>?_
 refine OpRes.wp (v:=.int .i64 z) (w':=w) (.inl (by simp only[execOp,qR i j,O];rfl)) (p _ _ ?_);have I:=t.slotW (d:=g) (x:=.pv (.int z)) (v:=.int .i64 z) (by rfl) (λm u=>by cases u) k;refine wpList_plain rfl λK p=>?_
 refine OpRes.wp (v:=.int .i64 z) (w':=w) (.inl (by simp only[execOp,qR t k];rfl)) (p _ _ ?_);exact⟨E,_,.normal,I.slotW (x:=.pv (.int z)) (by rfl) (λm u=>by cases u) A,rfl,T⟩
end
end Go.Lg
namespace Go.Proofs.YtjecbkgdndjejaaGreatDoor
open Go.Lg
set_option maxRecDepth 100000
abbrev vN(L:List Nat):List (List V):=kA (L.map ic)
def jZ(A B:List Nat)(x:Nat):VB (vN (A++x::B)) A.length=some [.pv (num x)]:=by
 rw[KH,So];simp[ic,iA]
def Jg(A:List Nat):(vN A).length=A.length:=by simp[vN,kA]
def Kg(A B:List Nat)(x y:Nat):(vN (A++x::B)).set A.length [.pv (num y)]=vN (A++y::B):=by
 simp only[vN,kA,List.map_append,List.map_cons];rw[show A.length=(List.map iA (List.map ic A)).length by simp,List.set_append_right _ _ (Nat.le_refl _),Nat.sub_self];rfl
def vZ{n v k len:Nat}{es:List (List V)}(a:k<len:=by omega)(b:len<=es.length:=by omega):ro (bif Nat.beq v v then(bif Nat.blt k len then(bif Nat.beq 1 1 then(bif Nat.ble len es.length then some (V.eloc n v k 0)else none)else none)else none)else none)=some ⟨.eloc n v k 0,none,false⟩:=by
 rw[JE rfl,show Nat.blt k len=true from Nat.ble_eq_true_of_le a,show Nat.ble len es.length=true from Nat.ble_eq_true_of_le b];rfl
def Ut{v k:Nat}{es:List (List V)}{x:V}(h:VB es k=some [x]):ro (match VB es k with
   |some e=>bif Nat.beq v v then DQ false 1 (KK e 0)else none|none=>none)=some ⟨x,none,false⟩:=by
 rw[h,JE rfl];rfl
def Mg{n v k:Nat}{es es':List (List V)}{x y:V}(h:VB es k=some [x])(a:es.set k [y]=es'):(bif Nat.beq v v then(bif Nat.ble (0+1) 1 then(match VB es k with
    |some e=>some (⟨.undef,some (n,.arr v 1 3 (es.set k (ZD e 0 [y]))),false⟩:RB)|none=>none)else none)else none)=some ⟨.undef,some (n,.arr v 1 3 es'),false⟩:=by
 rw[h,JE rfl];subst a;rfl
def Vt{a:Nat}(h:a<=yA:=by omega):eA (Int.ofNat (a+1)-1)=true/\Int.ofNat (a+1)-1=.ofNat a:=by
 grind[wP]
abbrev gN(mv:Value)(mo:Obj)(iv:Value)(io:Obj)(v:Nat)(L:List Nat):List (Nat×Ob):=[(0,.raw mv mo),(1,.raw iv io),(2,.arr v 1 3 (vN L))]
abbrev TO(v len n i:Nat):List (Nat×V):=[(3,.arr 2 v len),(4,.pv (num n)),(5,.pv (num i)),(7,.loc 1 0)]
abbrev VO:Kp:=⟨[3,4,5,7],[0,1,2],3,[]⟩
section
variable{mv iv:Value}{mo io:Obj}{n v len:Nat}
def Ng:∀(k:Nat)(A:List Nat)(y:Nat)(B:List Nat),A.length=k->len=A.length+1+B.length->len<=yA->
  ∃(b:List Nat)(j:Nat)(c:List Nat),b++c=A++B/\(∀x∈c,x∈B\/n<x)/\(∀h:b≠[],b.getLast h<=n)/\
   Lp 219 1 1 (st (TO v len n A.length) (gN mv mo iv io v (A++y::B)) 3 []) (.exit 2) (st (TO v len n b.length) (gN mv mo iv io v (b++j::c)) 3 [])
 |0,A,y,B,f,l,r=>by
  have e:A=[]:=List.length_eq_zero_iff.1 f;subst e;exact⟨[],y,B,rfl,λx g=>.inl g,λh=>absurd rfl h,y1 [19] VO (GA (Nat.le_refl 0)) (sD ((y::B).map ic))⟩
 |k+1,A,y,B,f,l,r=>by
  have d:A≠[]:=λe=>by subst e;cases f
  obtain⟨a,x,rfl⟩:∃a x,A=a++[x]:=⟨A.dropLast,A.getLast d,(List.dropLast_concat_getLast d).symm⟩;have w:a.length=k:=by simpa using f
  have s:(a++[x]).length=a.length+1:=by simp
  have t:a++[x]++y::B=a++x::y::B:=by simp
  have gl:(vN (a++x::y::B)).length=len:=by rw[Jg];simp at l⊢;omega
  rw[s]at l⊢;rw[t];have u:=MA (show 0<a.length+1 by omega);have i:=Vt (a:=a.length);have m:=vZ (n:=2) (v:=v) (k:=a.length) (len:=len) (es:=vN (a++x::y::B));have o:=Ut (v:=v) (jZ a (y::B) x);by_cases g:n<x
  ·obtain⟨b,j,c,C,D,E,F⟩:=Ng k a x (x::B) w (by simp;omega) r;have G:=vZ (n:=2) (v:=v) (k:=a.length+1) (len:=len) (es:=vN (a++x::y::B));have H:=Mg (n:=2) (v:=v) (k:=a.length+1) (es:=vN (a++x::y::B)) (es':=vN (a++x::x::B)) (y:=.pv (num x)) (by
    have:=jZ (a++[x]) B y;simpa using this) (by
    have:=Kg (a++[x]) B y x;simpa using this)
   refine⟨b,j,c,by simpa using C,λz p=>?_,E,?_⟩
   ·rcases D z p with h|h
    ·rcases List.mem_cons.1 h with rfl|h
     ·exact .inr g
     exact .inl h
    exact .inr h
   exact rk [(19,.G),(23,.z a.length),(24,.w ⟨.eloc 2 v a.length 0,none,false⟩),(25,.w ⟨.pv (num x),none,false⟩),(27,.G),(33,.z a.length),(34,.w ⟨.eloc 2 v a.length 0,none,false⟩),(35,.w ⟨.pv (num x),none,false⟩),(36,.w ⟨.eloc 2 v (a.length+1) 0,none,false⟩),(99999,.w ⟨.undef,some (2,.arr v 1 3 (vN (a++x::x::B))),false⟩),(38,.z a.length)] VO VO (And.intro u (And.intro i (And.intro m (And.intro o (And.intro (MA g) (And.intro i (And.intro m (And.intro o (And.intro G (And.intro H (And.intro i (And.intro (sD ((a++x::x::B).map ic)) F))))))))))))
  refine⟨a++[x],y,B,by simp,λz p=>.inl p,λ_=>by simp;omega,?_⟩;rw[s,t];exact y5 [19,23,(24,.w ⟨.eloc 2 v a.length 0,none,false⟩),(25,.w ⟨.pv (num x),none,false⟩),27] VO u i m o (GA (show x<=n by omega)) (sD ((a++x::y::B).map ic))
end
end Go.Proofs.YtjecbkgdndjejaaGreatDoor
namespace Go.Lg
section
variable{ev:LA}{P:Program}
def wZ(ev:LA)(P:Program)(n N c d:Nat)(b:Code)(s:IS)(f:Di)(a:Kp)(e:AE)(g:IS):Prop:=
 AD ev P (dG ev P N n) N c d b s f λf c _=>f=e/\gd (cJ a d c) (iF c.ob a.on (yG a c=g))
def Reach.of_go(g:kG ev P){n N c d:Nat}{b:Code}{s f:IS}{i:Di}{j:Kp}{e:AE}(h:wZ ev P n N c d b s i j e f):Reach ev P c d b s e f:=by
 obtain⟨p,r,k,l,rfl,a⟩:=oC (OH g N n) _ _ _ _ h;obtain⟨m,a⟩:=HB a;obtain⟨a,o⟩:=jH a;exact a▸l.keep (eJ m o)
def Rel.slotT{s:IS}{σ:St}(h:Rel s σ)(d:Nat)(x:V):Rel ⟨s.sl.put d (some x),s.ob,s.nx,s.dt⟩ ⟨(d,x)::σ.slots,σ.objs,σ.used⟩:=by
 refine⟨λt=>?_,h.ob,h.us⟩;show(if d=t then x else IA σ.slots t)=_;rw[Tr.get_put];by_cases e:t=d
 ·simp_all
 rw[if_neg e,if_neg (λh=>e h.symm)];exact h.sl t
def Rel.objT{s:IS}{σ:St}(h:Rel s σ)(n:Nat)(o:Ob):Rel ⟨s.sl,s.ob.put n (some o),s.nx,s.dt⟩ ⟨σ.slots,tB σ.objs n o,σ.used⟩:=by
 refine⟨h.sl,λm=>?_,h.us⟩;rw[gD,Tr.get_put];by_cases e:m=n
 ·rw[if_pos e,if_pos e]
 rw[if_neg e,if_neg e];exact h.ob m
def Rel.newT{s:IS}{σ:St}(h:Rel s σ)(o:Ob):Rel ⟨s.sl,s.ob.put s.nx (some o),s.nx+1,s.dt⟩ ⟨σ.slots,tB σ.objs s.nx o,s.nx::σ.used⟩:=by
 have:=h.objT s.nx o;exact⟨this.sl,this.ob,λm a=>by
  rcases List.mem_cons.1 a with rfl|a
  ·simp
  exact Nat.lt_succ_of_lt (h.us m a)⟩
def Rel.keep{b a:Nat}{X:Env1}(c:HX X ev P b a){s s':IS}{σ:St}(h:Rel s σ)(k:Kp)(b:cJ k a s=true)(a:iF s.ob k.on True)(d:yG k s=s'):∃τ,XM X σ τ/\Rel s' τ:=d▸(eJ b (jH a).2).wk c h
end
end Go.Lg
namespace Go.Proofs.YtjecbkgdndjejaaGreatDoor
open Go.Lg
set_option maxRecDepth 100000
def cs1:Code->Code|.seq a _=>a|c=>c
def cs2:Code->Code|.seq _ b=>b|c=>c
def Og:Code->Code|.block _ b=>b|.loop b=>b|c=>c
noncomputable def vL:Code:=pZ 219 0
noncomputable def Pg:Code:=cs1 vL
noncomputable def kZ:Code:=cs1 (cs2 vL)
noncomputable def yZ:Code:=cs1 (Og (cs2 (cs2 vL)))
noncomputable def uZ:Code:=cs2 (Og (cs2 (cs2 vL)))
def Wt:vL=.seq Pg (.seq kZ (.block 1 (.seq yZ uZ))):=by kernel_rfl
def Xt:∃i t1 t2 p1 p2 f1 f2,Pg=.region i #[⟨some 8,.next (.tmp 7) false,t1,p1,f1,none⟩,⟨some 9,.extract (.tmp 8) 0,t2,p2,f2,none⟩] false:=⟨_,_,_,_,_,_,_,rfl⟩
def Yt:∃i t1 t2 t3 p1 p2 a f1 f2 f3,yZ=.region i #[⟨some 10,.entry (.tmp 7),t1,p1,f1,none⟩,⟨some 11,.extract (.tmp 10) 0,t2,p2,f2,none⟩,⟨some 4,.assign (.tmp 11),t3,a,f3,none⟩] false:=⟨_,_,_,_,_,_,_,_,_,_,rfl⟩
noncomputable def WO:Code:=match (fnc 219).body with|some c=>c|none=>.skip
def Qg:(fnc 219).ntmps=44:=by kernel_rfl
abbrev Rc(bs f:Nat)(c:Code)(s:IS)(e:AE)(s':IS):Prop:=Go.Lg.Reach ev Tryz.prog (fnc f).ntmps bs c s e s'
section
variable{f bs:Nat}{c:Code}{s s':IS}{e:AE}
def mN(a:Di)(b:Kp){B:Prop}(h:B)(q:B=wZ ev Tryz.prog 6 100 (fnc f).ntmps bs c s a b e s':=by kernel_rfl):Rc bs f c s e s':=Reach.of_go evOK (q▸h)
variable(tp:Di)(ko:Kp){H1 H2 H3 H4 H5 H6 N:Prop}(h1:H1)(h2:H2)(h3:H3)(h4:H4)(h5:H5)(h6:H6)(w:N)
def nN:=@mN f bs c s s' e tp ko _ (⟨rfl,w,rfl⟩:e=e/\N/\s'=s')
def Zt:=@mN f bs c s s' e tp ko _ (⟨h1,rfl,w,rfl⟩:H1/\e=e/\N/\s'=s')
def Rg:=@mN f bs c s s' e tp ko _ (⟨h1,h2,rfl,w,rfl⟩:H1/\H2/\e=e/\N/\s'=s')
def qu:=@mN f bs c s s' e tp ko _ (⟨h1,h2,h3,rfl,w,rfl⟩:H1/\H2/\H3/\e=e/\N/\s'=s')
def Sg:=@mN f bs c s s' e tp ko _ (⟨h1,h2,h3,h4,rfl,w,rfl⟩:H1/\H2/\H3/\H4/\e=e/\N/\s'=s')
def j8:=@mN f bs c s s' e tp ko _ (⟨h1,h2,h3,h4,h5,rfl,w,rfl⟩:H1/\H2/\H3/\H4/\H5/\e=e/\N/\s'=s')
def Tg:=@mN f bs c s s' e tp ko _ (⟨h1,h2,h3,h4,h5,h6,rfl,w,rfl⟩:H1/\H2/\H3/\H4/\H5/\H6/\e=e/\N/\s'=s')
end
section
variable(mv iv:Value)(mo io:Obj)
def hs:Nat->List Nat->IS|0,_=>st [(3,.pv .nils),(7,.loc 1 0)] [(0,.raw mv mo),(1,.raw iv io)] 2 []|v+1,L=>st [(3,.arr 2 (v+1) (v+1)),(7,.loc 1 0)] (gN mv mo iv io (v+1) L) 3 []
def qs(n:Nat):Nat->List Nat->IS|0,_=>st [(3,.pv .nils),(4,.pv (num n)),(7,.loc 1 0)] [(0,.raw mv mo),(1,.raw iv io)] 2 []|v+1,L=>st [(3,.arr 2 (v+1) (v+1)),(4,.pv (num n)),(7,.loc 1 0)] (gN mv mo iv io (v+1) L) 3 []
def pN:Nat->List Nat->IS|0,_=>st [(3,.pv .nils)] [(0,.raw mv mo)] 3 []|v+1,L=>st [(3,.arr 2 (v+1) (v+1))] [(0,.raw mv mo),(2,.arr (v+1) 1 3 (vN L))] 3 []
end
def ju{v len:Nat}:ro (bif Nat.beq v v then some (V.pv (.int (.ofNat len)))else none)=some ⟨.pv (num len),none,false⟩:=by rw[JE rfl];rfl
def vu{A:List (List PV)}{k v sz ty m:Nat}{c:List PV}(a:A.length=k)(a:0<sz)(a:iC sz [iA c]=true)(a:mC [iA c]=true)(a:k+1<=maxLen)(a:(k+1)*m<=140737488355328):
  (Nat.beq v v&&Nat.ble k (kA A).length&&Nat.beq ty ty&&Nat.beq sz sz&&Nat.blt 0 sz&&iC sz [iA c]&&mC [iA c]&&Nat.ble (k+[iA c].length) maxLen&&Nat.ble ((k+[iA c].length)*m) 140737488355328)=true:=by
 grind[CN]
section
variable{mv iv:Value}{mo io:Obj}
def wu(n v:Nat)(L:List Nat)(a:L.length=v)(j:v+1<=yA)(k:v+1<=maxLen)(b:(v+1)*8<=140737488355328:=by omega):
  ∃A B,A++B=L/\(∀x∈B,n<x)/\(∀h:A≠[],A.getLast h<=n)/\Rc 1 219 uZ (qs mv iv mo io n v L) .normal (hs mv iv mo io (v+1) (A++n::B)):=by
 obtain⟨A,y,B,c,d,l,h⟩:=Ng (mv:=mv) (mo:=mo) (iv:=iv) (io:=io) (n:=n) (v:=v+1) (len:=v+1) v L n [] a (by simp;omega) j;rw[List.append_nil]at c;have d:∀x∈B,n<x:=λx m=>(d x m).resolve_left (by simp)
 have r:A.length+B.length=v:=by rw[<-a,<-c];simp
 have gl:(vN (A++y::B)).length=v+1:=by rw[Jg];simp;omega
 have f:=vZ (n:=2) (v:=v+1) (k:=A.length) (len:=v+1) (es:=vN (A++y::B));have g:=Mg (n:=2) (v:=v+1) (k:=A.length) (es:=vN (A++y::B)) (es':=vN (A++n::B)) (y:=.pv (num n)) (jZ A B y) (Kg A B y n);refine⟨A,B,c,d,l,?_⟩;rw[a]at h
 cases v with
 |zero=>
  have e:=List.length_eq_zero_iff.1 a;subst e;exact Sg [(100007,.l VO (.exit 2) (st (TO 1 1 n A.length) (gN mv mo iv io 1 (A++y::B)) 3 [])),(42,.w ⟨.eloc 2 1 A.length 0,none,false⟩),(99999,.w ⟨.undef,some (2,.arr 1 1 3 (vN (A++n::B))),false⟩)] ⟨[3,7],[0,1,2],3,[]⟩ (sD [ic n]) h f g (sD ((A++n::B).map ic))
 |succ v=>
  have i:vN (L++[n])=(vN L).take (v+1)++[iA (ic n)]:=by
   have:=OJ (L.map ic) (ic n);rw[List.length_map,a]at this;rw[<-this];show kA ((L++[n]).map ic)=_;rw[List.map_append];rfl
  have o:=vu (A:=L.map ic) (v:=v+1) (ty:=3) (m:=8) (c:=ic n) (k:=v+1) (by simpa using a) (show 0<1 by decide) rfl rfl k b;have p:wB ((vN L).take (v+1)++[iA (ic n)])=[]:=by rw[<-i];exact sD ((L++[n]).map ic)
  have h:Lp 219 1 1 (st (TO (v+1+1) (v+1+1) n (v+1)) [(0,.raw mv mo),(1,.raw iv io),(2,.arr (v+1+1) 1 3 ((vN L).take (v+1)++[iA (ic n)]))] 3 []) (.exit 2) (st (TO (v+1+1) (v+1+1) n A.length) (gN mv mo iv io (v+1+1) (A++y::B)) 3 []):=by rw[<-i];exact h
  exact Tg [(13,.w ⟨.pv (num (v+1)),none,false⟩),(17,.ok),(100007,.l VO (.exit 2) (st (TO (v+1+1) (v+1+1) n A.length) (gN mv mo iv io (v+1+1) (A++y::B)) 3 [])),(42,.w ⟨.eloc 2 (v+1+1) A.length 0,none,false⟩),(99999,.w ⟨.undef,some (2,.arr (v+1+1) 1 3 (vN (A++n::B))),false⟩)] ⟨[3,7],[0,1,2],3,[]⟩ (ju (v:=v+1) (len:=v+1)) o p h f g (sD ((A++n::B).map ic))
end
end Go.Proofs.YtjecbkgdndjejaaGreatDoor
namespace Go.Proofs.YtjecbkgdndjejaaGreatDoor
open Go.Lg
set_option maxRecDepth 100000
section
variable{f bs:Nat}{c:Code}{s s':IS}{e:AE}
def Ug(a:Di)(b:Kp)(q:(e=e/\s'=s')=wZ ev Tryz.prog 6 100 (fnc f).ntmps bs c s a b e s':=by kernel_rfl):Rc bs f c s e s':=Reach.of_go evOK (q▸(⟨rfl,rfl⟩:e=e/\s'=s'))
end
def Vg:∀{L S:List Nat},wD L->wD S->(∀x,x∈L↔x∈S)->L=S
 |[],[],_,_,_=>rfl|[],y::S,_,_,h=>absurd ((h y).2 (List.mem_cons_self ..)) (by simp)|x::L,[],_,_,h=>absurd ((h x).1 (List.mem_cons_self ..)) (by simp)|x::L,y::S,d,f,h=>by
  obtain⟨b,g⟩:=List.pairwise_cons.1 d;obtain⟨c,i⟩:=List.pairwise_cons.1 f;have e:x=y:=by
   rcases List.mem_cons.1 ((h x).1 (List.mem_cons_self ..))with e|j
   ·exact e
   rcases List.mem_cons.1 ((h y).2 (List.mem_cons_self ..))with e|hy
   ·exact e.symm
   have:=b y hy;have:=c x j;omega
  subst e;rw[Vg g i λz=>⟨λa=>(List.mem_cons.1 ((h z).1 (List.mem_cons_of_mem _ a))).resolve_left (λe=>by have:=b z a;omega),λa=>(List.mem_cons.1 ((h z).2 (List.mem_cons_of_mem _ a))).resolve_left (λe=>by have:=c z a;omega)⟩]
def bZ:∀{S L:List Nat},wD L->wD S->(∀x∈L,x∈S)->L.length<=S.length
 |S,[],_,_,_=>Nat.zero_le _|[],x::L,_,_,h=>absurd (h x (List.mem_cons_self ..)) (by simp)|y::S,x::L,b,d,h=>by
  obtain⟨f,g⟩:=List.pairwise_cons.1 b;obtain⟨i,c⟩:=List.pairwise_cons.1 d;by_cases e:x=y
  ·exact Nat.succ_le_succ (bZ g c λz a=>(List.mem_cons.1 (h z (List.mem_cons_of_mem _ a))).resolve_left (λe=>by have:=f z a;omega))
  have j:x∈S:=(List.mem_cons.1 (h x (List.mem_cons_self ..))).resolve_left e;have:=bZ (S:=S) b c λz a=>(List.mem_cons.1 (h z a)).resolve_left (λe=>by
   grind)
  grind
def ku{A B:List Nat}{n:Nat}(h:wD (A++B))(g:n∉A++B)(i:∀x∈B,n<x)(j:∀h:A≠[],A.getLast h<=n):wD (A++n::B):=by
 obtain⟨a,b,c⟩:=List.pairwise_append.1 h;have l:∀x∈A,x<n:=by
  intro x f;have d:A≠[]:=λe=>by simp_all
  have m:=j d;have k:x<=A.getLast d:=by
   have e:=List.dropLast_concat_getLast d
   grind
  have:x≠n:=λe=>g (List.mem_append_left _ (e▸f))
  omega
 refine List.pairwise_append.2 ⟨a,List.pairwise_cons.2 ⟨i,b⟩,λx f y hy=>?_⟩
 grind
abbrev km(b:Nat):Value:=.map (some b)
abbrev xJ(rb:Nat):Value:=.pointer (some ⟨rb,0,none⟩)
abbrev oi(b ck:Nat)(seen:Array Nat):Obj:=.mapIter (some b) ck seen ck
section
variable{X:Env1}{b rb ck:Nat}{ms:Array MapEntry}{S:List Nat}
def yu{a d:Value}{c io:Obj}(v:Nat)(L:List Nat):
  Rc 1 219 (.seq kZ (.block 1 (.seq yZ uZ))) ⟨((hs a d c io v L).sl.put 8 (some .undef)).put 9 (some (.pv (.bool false))),(hs a d c io v L).ob,(hs a d c io v L).nx,(hs a d c io v L).dt⟩ (.exit 0) (pN a c v L):=by
 cases v with|zero=>exact Ug [] ⟨[3],[0],3,[]⟩|succ v=>exact nN [] ⟨[3],[0,2],3,[]⟩ (sD (L.map ic))
def uu{c a:Value}{d io e:Obj}(v:Nat)(L:List Nat):
  Rc 1 219 kZ ⟨((hs c a d io v L).sl.put 8 (some .undef)).put 9 (some (.pv (.bool true))),(hs c a d io v L).ob.put 1 (some (.raw a e)),(hs c a d io v L).nx,(hs c a d io v L).dt⟩ .normal (hs c a d e v L):=by
 cases v with|zero=>exact Ug [] ⟨[3,7],[0,1],2,[]⟩|succ v=>exact nN [] ⟨[3,7],[0,1,2],3,[]⟩ (sD (L.map ic))
def bu(a:HX X ev Tryz.prog (fnc 219).ntmps 1){c d:Value}{e io:Obj}(v:Nat)(L:List Nat)(n:Nat){σ:St}(h:Rel (hs c d e io v L) σ):
  ∃τ,XM X ⟨(4,.pv (num n))::(11,.pv (num n))::(10,.undef)::σ.slots,σ.objs,σ.used⟩ τ/\Rel (qs c d e io n v L) τ:=by
 have f:=((h.slotT 10 .undef).slotT 11 (.pv (num n))).slotT 4 (.pv (num n))
 cases v with|zero=>exact f.keep a ⟨[3,4,7],[0,1],2,[]⟩ (by kernel_rfl) True.intro (by kernel_rfl)|succ v=>exact f.keep a ⟨[3,4,7],[0,1,2],3,[]⟩ (by kernel_rfl) ⟨sD (L.map ic),True.intro⟩ (by kernel_rfl)
def Wg{a c:Value}{d io:Obj}(v:Nat)(L:List Nat){σ:St}(h:Rel (hs a c d io v L) σ):IA σ.slots 7=.loc 1 0/\zA σ.objs 0=some (.raw a d)/\zA σ.objs 1=some (.raw c io):=by
 have e:=h.sl 7;have f:=h.ob 0;have g:=h.ob 1;cases v<;>exact⟨e,f,g⟩
structure dZ(ms:Array MapEntry)(seen:Array Nat)(L:List Nat):Prop where
 asc:wD L
 mem:∀x:Nat,x∈L↔∃e∈ms.toList,e.key=.int .i64 (.ofNat x)/\seen.contains e.born=true
structure YO(ms:Array MapEntry)(ck:Nat)(S:List Nat):Prop where
 hold:∀x∈ms.toList,x.born<ck
 nd:(ms.toList.map (·.born)).Nodup
 kn:∀e∈ms.toList,∃z:Nat,e.key=.int .i64 (.ofNat z)
 inj:∀e∈ms.toList,∀e'∈ms.toList,e.key=e'.key->e=e'
 asc:wD S
 mem:∀x:Nat,x∈S↔∃e∈ms.toList,e.key=.int .i64 (.ofNat x)
 len:S.length<=8589934592
def du:∀{l:List MapEntry},(l.map (·.born)).Nodup->∀{e a:MapEntry},e∈l->a∈l->e.born=a.born->e=a
 :=by intro x;induction x<;>grind[absurd]
def Xg(t:HX X ev Tryz.prog (fnc 219).ntmps 1)(j:YO ms ck S)(seen:Array Nat)(v:Nat)(L:List Nat)(σ:St)(m:dZ ms seen L)(M:L.length=v)(D:Rel (hs (km b) (xJ rb) (.map ms ck) (oi b ck seen) v L) σ)(Q:yB->St->Prop)
  (O:∀σ',YM (.exit 0) (pN (km b) (.map ms ck) S.length S) (.exit 0) σ'->Q (.exit 0) σ')
  (P:∀a E σ',(leftOf ms a).size<(leftOf ms seen).size->dZ ms a E->E.length=v+1->Rel (hs (km b) (xJ rb) (.map ms ck) (oi b ck a) (v+1) E) σ'->Q .normal σ'):AWP X vL σ Q:=by
 have d:X.nt=44:=by rw[t.nt];exact Qg
 have l:∀x∈L,x∈S:=λx o=>by
  obtain⟨e,p,f,_⟩:=(m.mem x).1 o;exact(j.mem x).2 ⟨e,p,f⟩
 obtain⟨F,G,H⟩:=Wg v L D;rw[Wt];refine AWP.seq ?_;obtain⟨i,t1,t2,p1,p2,f1,f2,u⟩:=Xt;rw[u];refine AWP.next (n:=0) (r:=1) (by decide) F G H j.hold (Nat.le_refl _) (by rw[d];decide) (by rw[d];decide) ?_ ?_
 ·intro R;have e:L=S:=Vg m.asc j.asc λx=>⟨λo=>l x o,λo=>by
   obtain⟨e,p,f⟩:=(j.mem x).1 o;exact(m.mem x).2 ⟨e,p,f,all_seen ms seen R e p⟩⟩
  have r:=(D.slotT 8 .undef).slotT 9 (.pv (.bool false));refine AWP.mono ((yu v L).awp X t _ r) ?_
  rintro N σ' ⟨rfl,h⟩
  rw[M.symm,e]at h;exact O σ' ⟨rfl,h⟩
 intro e p;obtain⟨g,w⟩:=mem_left p;obtain⟨n,z⟩:=j.kn e g;have r:=((D.slotT 8 .undef).slotT 9 (.pv (.bool true))).objT 1 (.raw (xJ rb) (oi b ck (seen.push e.born)));refine AWP.seq (AWP.mono ((uu v L).awp X t _ r) ?_)
 rintro N σ' ⟨rfl,y⟩
 refine AWP.block (AWP.seq ?_);obtain⟨F,G,H⟩:=Wg v L y;obtain⟨i,t1,t2,t3,p1,p2,p3,f1,f2,f3,u⟩:=Yt;rw[u];refine AWP.entry F G H g j.nd z (by rw[d];decide) (by rw[d];decide) (by rw[d];decide) ?_;obtain⟨τ,T,I⟩:=bu t v L n y;have J:n∉L:=λu=>by
  obtain⟨s,c,f,k⟩:=(m.mem n).1 u;rw[j.inj e g s c (z.trans f.symm),k]at w;cases w
 have U:=bZ m.asc j.asc l;have V:=j.len;obtain⟨A,B,C,k,W,Y⟩:=wu (mv:=km b) (iv:=xJ rb) (mo:=.map ms ck) (io:=oi b ck (seen.push e.born)) n v L M (by grind) (by simp only[maxLen];omega);refine AWP.wkX T (AWP.mono (Y.awp X t τ I) ?_)
 rintro N σ3 ⟨rfl,K⟩
 refine P (seen.push e.born) (A++n::B) σ3 (left_shrinks ms seen e p) ⟨ku (C▸m.asc) (C▸J) k W,λx=>?_⟩ (by have:=congrArg List.length C;simp at this⊢;omega) K;have o:x∈A++n::B↔x=n\/x∈L:=by rw[<-C];simp;constructor<;>(rintro(h|h|h)<;>simp[h])
 rw[o,m.mem];constructor
 ·rintro(rfl|⟨s,c,f,k⟩)
  ·exact⟨e,g,z,by simp⟩
  exact⟨s,c,f,by simp at k⊢;exact .inl k⟩
 rintro⟨s,c,f,k⟩
 by_cases hq:seen.contains s.born=true
 ·exact .inr ⟨s,c,f,hq⟩
 have Z:s.born=e.born:=by simp at k hq;exact k.resolve_left hq
 have:=du j.nd c g Z;subst this;rw[z]at f;simp at f;omega
def Yg(c:HX X ev Tryz.prog (fnc 219).ntmps 1)(d:YO ms ck S):∀(k:Nat)(seen:Array Nat)(v:Nat)(L:List Nat)(σ:St),(leftOf ms seen).size<=k->dZ ms seen L->L.length=v->
   Rel (hs (km b) (xJ rb) (.map ms ck) (oi b ck seen) v L) σ->fI X vL (YM (.exit 0) (pN (km b) (.map ms ck) S.length S)) (k+1) σ
 |0,seen,v,L,σ,g,a,e,f=>XS (Xg c d seen v L σ a e f _ (λ_ h=>h) (λ_ _ _ h=>by omega))|k+1,seen,v,L,σ,g,a,e,f=>XS (Xg c d seen v L σ a e f _ (λ_ h=>h) (λa i σ' h e f g=>Yg c d k a (v+1) i σ' (by omega) e f g))
end
end Go.Proofs.YtjecbkgdndjejaaGreatDoor
namespace Go.Lg
def fu{ev:LA}{P:Program}{f m nx:Nat}{args:List V}{objs:List (Nat×Ob)}{n:List Nat}{y:V}{ro o1:List (Nat×Ob)}(d:uG (kC objs)=true)(c:XK (kC objs) n=true)
  (g:Called P ev.gl ⟨.nil,KB objs .nil,m,[]⟩ f args ⟨y,[],[],nx⟩ n ro o1):AC P ev.gl f args objs (.ret y) objs:=by
 have d:=HO d;rw[fG]at d;have c:=qN c;rw[fG]at c;have i:∀k,(KB objs .nil).get k=zA objs k:=λk=>by
  rw[KO objs _ d];cases zA objs k<;>rfl
 have h:o1=[]:=by
  cases o1 with|nil=>rfl|cons p r=>have:=g.inch p.1 (keysO_mem.2 ⟨p.2,List.mem_cons_self ..⟩);cases this
 subst h;have a:∀p∈ro,zA objs p.1=some p.2:=λp s=>by rw[<-i];exact g.subs p (by simp_all)
 have b:∀k,zA ro k=zA objs k:=by
  intro k
  cases e:zA ro k with
  |some o=>exact(a (k,o) (tJ e)).symm|none=>
   cases t:zA objs k with
   |none=>rfl|some o=>
    have h:=g.all k (c k (getO_iff.2 (by rw[t];rfl)));rw[List.append_nil,getO_iff,e]at h;cases h
 have j:AC P ev.gl f args ro (.ret y) ro:=by simpa using g.ac
 refine AC.cong j b b λk c=>?_
 obtain⟨p,s,l⟩:=mem_mentO.1 c;exact mem_mentO.2 ⟨p,tJ (a p s),l⟩
end Go.Lg
namespace Go.Proofs.YtjecbkgdndjejaaGreatDoor
open Go.Lg
set_option maxRecDepth 100000
def se(U:List Nat):List (SK×V):=U.map λn=>(.int (.ofNat n),.pv (.bool true))
def nD:∀U:List Nat,IC (se U)=[]|[]=>rfl|n::U=>by show([]:List Nat)++IC (se U)=[];rw[nD U];rfl
def Zg{E b:Env}:∀{U:List Nat}{a:List MapEntry},EntsS E false (se U) a->EntsS b false (se U) a|[],[],_=>True.intro|n::U,e::a,h=>⟨⟨h.1.1,h.1.2.1,h.1.2.2.1,h.1.2.2.2⟩,Zg h.2⟩|[],_::_,h=>h.elim|_::_,[],h=>h.elim
def qh{E:Env}:∀{U:List Nat}{a:List MapEntry},EntsS E false (se U) a->a.map (·.key)=U.map λn=>.int .i64 (.ofNat n)
 |[],[],_=>rfl|n::U,e::a,h=>by
  show e.key::a.map (·.key)=_::U.map _;rw[qh h.2,h.1.1];rfl
 |[],_::_,h=>h.elim|_::_,[],h=>h.elim
def lu:∀{l:List MapEntry},(l.map (·.key)).Nodup->∀{e a:MapEntry},e∈l->a∈l->e.key=a.key->e=a
 :=by intro x;induction x<;>grind[absurd]
def mu{U:List Nat}(h:U.Nodup):(U.map λn=>Value.int .i64 (.ofNat n)).Nodup:=by
 grind
structure ZO(U S:List Nat):Prop where
 nd:U.Nodup
 asc:wD S
 mem:∀x:Nat,x∈S↔x∈U
 len:S.length<=8589934592
def nu{E:Env}{U S:List Nat}{b:Array MapEntry}{ck:Nat}(h:ZO U S)(c:EntsS E false (se U) b.toList)(hs:StampOK b.toList ck):YO b ck S:=by
 have g:=qh c;have a:∀v,(∃e∈b.toList,e.key=v)↔∃n∈U,Value.int .i64 (.ofNat n)=v:=λv=>by
  have:v∈b.toList.map (·.key)↔v∈U.map λn=>Value.int .i64 (.ofNat n):=by rw[g]
  grind
 refine⟨hs.1,hs.2,λe c=>?_,λe c i d f=>lu (g▸mu h.nd) c d f,h.asc,λx=>?_,h.len⟩
 ·obtain⟨n,_,j⟩:=(a e.key).1 ⟨e,c,rfl⟩
  grind
 rw[h.mem,a]
 grind
section
variable{b rb ck:Nat}{ms:Array MapEntry}{S:List Nat}
def pu(f:YO ms ck S):Lp 219 0 1 (hs (km b) (xJ rb) (.map ms ck) (oi b ck #[]) 0 []) (.exit 0) (pN (km b) (.map ms ck) S.length S):=by
 refine⟨λsub c=>?_,(leftOf ms #[]).size+1,λX g σ i=>Yg g f _ #[] 0 [] σ (Nat.le_refl _) ⟨List.Pairwise.nil,λx=>⟨λh=>(by cases h),λ⟨e,_,_,h⟩=>(by simp at h)⟩⟩ rfl i⟩;have d:∀n,n<1->n=0:=λn h=>by omega
 have j:∀v,(pN (km b) (.map ms ck) v S).ob.get 0=some (.raw (km b) (.map ms ck)):=λv=>by cases v<;>rfl
 have k:∀v,(pN (km b) (.map ms ck) v S).dt=[]/\(pN (km b) (.map ms ck) v S).nx=3:=λv=>by cases v<;>exact⟨rfl,rfl⟩
 refine⟨by rw[(k _).2];omega,λn a _=>?_,λn a _=>?_,c.names,λn a=>?_⟩
 ·rw[d n a,j];exact c.same 0 (by omega) (by simp[hs])
 ·rw[d n a];exact c.old 0 (by omega) rfl
 simp_all
def wL(o:Ob):List Nat->IS|[]=>st [(3,.pv .nils)] [(0,o)] 3 []|x::S=>st [(3,.pv (HA (x::S)))] [(0,o)] 3 []
def ru(c:YO ms ck S):Lp 219 0 1 (hs (km b) (xJ rb) (.map ms ck) (oi b ck #[]) 0 []) (.exit 0) (wL (.raw (km b) (.map ms ck)) S):=by
 have h:=pu (b:=b) (rb:=rb) c
 cases S with
 |nil=>exact h|cons x S=>
  have a:=LoopIs.fz (by simp) (show Lp 219 0 1 _ (.exit 0) (st [(3,.arr 2 (S.length+1) (S.length+1))] [(0,.raw (km b) (.map ms ck)),(2,.arr (S.length+1) 1 3 (kA ((x::S).map ic)))] 3 [])from h) 2 (ver:=S.length+1) (sz:=1) (ty:=3) (ps:=(x::S).map ic) rfl (by kernel_rfl);have e:((x::S).map ic).take (S.length+1)=(x::S).map ic:=List.take_of_length_le (by simp);simp (decide:=true) only[xF,NE,PC,MD,kE,and_self,↓reduceIte,e]at a;exact a
abbrev KA(U:List Nat):Ob:=.smap false (se U)
abbrev fZ(U:List Nat):IS:=st [(0,.map 0),(3,.pv .nils)] [(0,KA U)] 1 []
def tu:Tryz.prog.underlying 248=some (.map 3 4):=by kernel_rfl
noncomputable abbrev zh:Code:=.seq (cs1 (cs1 (cs2 (cs2 WO)))) (.block 0 (.loop vL))
def au{X:Env1}(d:HX X ev Tryz.prog (fnc 219).ntmps 1)(i:YO ms ck S){U:List Nat}{σ:St}(e:Rel (fZ U) σ):
  AWP X zh ⟨σ.slots,tB σ.objs 0 (.raw (km b) (.map ms ck)),σ.used⟩ (YM .normal (wL (.raw (km b) (.map ms ck)) S)):=by
 have a:X.nt=44:=by rw[d.nt];exact Qg
 have c:=e.objT 0 (.raw (km b) (.map ms ck));refine AWP.seq ?_;refine AWP.range (n:=0) (r:=1) (b:=b) (ck:=ck) (ms:=ms) (e.sl 0) (c.ob 0) (λh=>(by have:1<1:=e.us 1 h;omega)) (by rw[d.P];exact tu) (by rw[a];decide) (by rw[a];decide) ?_;intro rb;have f:=((c.slotT 6 (.map 0)).slotT 7 (.loc 1 0)).newT (.raw (xJ rb) (oi b ck #[]));obtain⟨τ,j,g⟩:=f.keep d (s':=hs (km b) (xJ rb) (.map ms ck) (oi b ck #[]) 0 []) ⟨[3,7],[0,1],2,[]⟩ (by kernel_rfl) (cast (show True=iF _ _ True by kernel_rfl) True.intro) (by kernel_rfl);refine AWP.wkX j (AWP.block (AWP.mono ((ru i).reach.awp X d τ g) ?_))
 rintro k σ' ⟨rfl,h⟩
 exact⟨rfl,h⟩
def cu{U:List Nat}(D:ZO U S):Rc 1 219 zh (fZ U) .normal (wL (KA U) S):=by
 refine⟨λsub s=>?_,λX F σ y C E a w G z=>?_⟩
 ·have A:∀n,n<1->n=0:=λn h=>by omega
  have H:(wL (KA U) S).ob.get 0=some (KA U):=by cases S<;>rfl
  have K:(wL (KA U) S).dt=[]/\(wL (KA U) S).nx=3:=by cases S<;>exact⟨rfl,rfl⟩
  refine⟨by omega,λn r _=>?_,λn r _=>?_,s.names,λn r=>?_⟩
  ·rw[A n r,H];exact s.same 0 (by omega) (by simp)
  ·rw[A n r];exact s.old 0 (by omega) rfl
  simp_all
 have B:zA σ.objs 0=some (KA U):=y.ob 0;obtain⟨b,ms,ck,I,g,i,c,k⟩:=z.objs 0 _ B;have t:=z.swapO (o':=.raw (km b) (.map ms ck)) B ⟨I,b,rfl,g,i⟩ (by simp[Ob.names]);refine wp_mono (au F (nu D c k) y C E a w G t) ?_
 rintro e L M ⟨J,σ',N,l,m,rfl,o⟩
 have p:zA σ'.objs 0=some (.raw (km b) (.map ms ck)):=by rw[o.ob 0];cases S<;>rfl
 obtain⟨u,O,v,d,f⟩:=l.objs 0 _ p;cases v;have x:=l.swapO (o':=KA U) p ⟨b,ms,ck,u,d,f,Zg c,k⟩ (by simp[Ob.names,nD]);refine⟨J,_,.normal,x,m,rfl,?_⟩;have j:=o.objT 0 (KA U);cases S<;>exact⟨j.sl,λn=>(j.ob n).trans (by simp only[wL,Tr.get_put];by_cases e:n=0<;>simp[e,KB,Tr.get_put];done),j.us⟩
end
end Go.Proofs.YtjecbkgdndjejaaGreatDoor
namespace Go.Lg
end Go.Lg
namespace Go.Proofs.YtjecbkgdndjejaaGreatDoor
open Go.Lg
set_option maxRecDepth 100000
def jh(U:List Nat)(m:Nat)(a:Nat.blt 0 m=true):reach m (KB [(0,KA U)] .nil) 1000000 [0] .nil []=some (Tr.nil.put 0 (some (KA U)),[0]):=by
 have e:reach m (KB [(0,KA U)] .nil) 1000000 [0] .nil []=bif Nat.blt 0 m then reach m (KB [(0,KA U)] .nil) 999999 (IC (se U)++[]) (Tr.nil.put 0 (some (KA U))) [0]else none:=by kernel_rfl
 rw[e,a,nD];rfl
def lU:List Nat->PV|[]=>.nils|x::S=>HA (x::S)
def iu:∀S:List Nat,PV.w 4 (lU S)=HA S|[]=>rfl|_::_=>rfl
section
variable{U S:List Nat}
def p33_0:Rc 1 219 (cs1 WO) ⟨yE 0 [.map 0] .nil,Tr.nil.put 0 (some (KA U)),1,[]⟩ .normal (st [(0,.map 0)] [(0,KA U)] 1 []):=nN [] ⟨[0],[0],1,[]⟩ (nD U)
def p33_1:Rc 1 219 (cs1 (cs2 WO)) (st [(0,.map 0)] [(0,KA U)] 1 []) .normal (fZ U):=nN [] ⟨[0,3],[0],1,[]⟩ (nD U)
def xu:Rc 1 219 (cs2 (cs2 (cs2 WO))) (wL (KA U) S) .ret (st [(2,.pv (lU S))] [(0,KA U)] 3 []):=by
 cases S with|nil=>exact nN [] ⟨[2],[0],3,[]⟩ (nD U)|cons x S=>exact nN [] ⟨[2],[0],3,[]⟩ (nD U)
def Au(a:ZO U S):Rc 1 219 WO ⟨yE 0 [.map 0] .nil,Tr.nil.put 0 (some (KA U)),1,[]⟩ .ret (st [(2,.pv (lU S))] [(0,KA U)] 3 []):=by
 exact p33_0.seq (p33_1.seq ((cu a).seq xu))
def vh(a:ZO U S):O 219 [.map 0] [(0,KA U)] (.pv (HA S)) [(0,KA U)]:=by
 obtain⟨ro,o1,b⟩:=oT (s:=⟨.nil,KB [(0,KA U)] .nil,1,[]⟩) (LY (Au a)) evOK (f:=219) (fn:=fnc 219) (c:=WO) (by kernel_rfl) (by kernel_rfl) (args:=[.map 0]) (by decide) (jh U 1 rfl) (r:=⟨.pv (lU S),[],[],3⟩) (by
  unfold SM JO;simp only[and_self,if_true];cases S<;>kernel_rfl)
 have h:=fu (objs:=[(0,KA U)]) (by kernel_rfl) (by kernel_rfl) b;rw[<-iu S];exact AC.wO 4 h
end
end Go.Proofs.YtjecbkgdndjejaaGreatDoor
namespace Go.Lg
def Bu{ev:LA}{P:Program}{f m nx:Nat}{args:List V}{objs d:List (Nat×Ob)}{s:List Nat}{y:V}{ro o1:List (Nat×Ob)}(j:uG (kC objs)=true)(g:XK (kC objs) s=true)(v:uG (kC d)=true)
  (h:Called P ev.gl ⟨.nil,KB objs .nil,m,[]⟩ f args ⟨y,d,[],nx⟩ s ro o1):AC P ev.gl f args objs (.ret y) (GO d objs):=by
 have j:=HO j;rw[fG]at j;have g:=qN g;rw[fG]at g;have l:∀k,(KB objs .nil).get k=zA objs k:=λk=>by
  rw[KO objs _ j];cases zA objs k<;>rfl
 have b:∀p∈ro++o1,zA objs p.1=some p.2:=λp n=>by rw[<-l];exact h.subs p n
 have c:∀k,zA (ro++o1) k=zA objs k:=by
  intro k
  cases e:zA (ro++o1) k with
  |some o=>exact(b (k,o) (tJ e)).symm|none=>
   cases i:zA objs k with
   |none=>rfl|some o=>
    have a:=h.all k (g k (getO_iff.2 (by rw[i];rfl)));rw[getO_iff,e]at a;cases a
 refine AC.cong h.ac c (λk=>?_) (λk g=>?_)
 ·rw[NY,<-c,List.append_nil,QT,QT]
  cases e:zA ro k with
  |some o=>
   have a:=(h.apart k (getO_iff.2 (by rw[e];rfl))).2;have w:zA d k=none:=by
    cases i:zA d k with|none=>rfl|some o=>exact absurd (by simpa using getO_iff.2 (by rw[i];rfl)) a
   grind[SQ]
  |none=>
   cases i:zA o1 k with
   |some o=>
    have a:=h.inch k (getO_iff.2 (by rw[i];rfl));obtain⟨x,t⟩:=Option.isSome_iff_exists.1 (getO_iff.1 a)
    grind[SQ]
   |none=>
    cases u:zA d k with
    |none=>rfl|some o=>
     have a:=(h.chs k (getO_iff.2 (by rw[u];rfl))).2.2;rw[getO_iff,i]at a;cases a
 obtain⟨p,n,r⟩:=mem_mentO.1 g;exact mem_mentO.2 ⟨p,tJ (b p n),r⟩
end Go.Lg
namespace Go.Proofs.YtjecbkgdndjejaaGreatDoor
open Go.Lg
set_option maxRecDepth 100000
def qD:List Nat->Nat->List Nat|[],n=>[n]|m::U,n=>if n=m then m::U else m::qD U n
theorem mem_ins1:∀{U:List Nat}{n x:Nat},x∈qD U n↔x=n\/x∈U
 :=by intro x;induction x<;>simp_all[qD,U,List.mem_cons]<;>grind
theorem gZ:∀{U:List Nat}{n:Nat},U.Nodup->(qD U n).Nodup
 |[],n,_=>by simp[qD]|m::U,n,h=>by
  obtain⟨a,b⟩:=List.nodup_cons.1 h;unfold qD;split
  ·exact h
  rename_i e;exact List.nodup_cons.2 ⟨λc=>(mem_ins1.1 c).elim (λh=>e h.symm) a,gZ b⟩
def wh:∀(U:List Nat)(n:Nat),(qD U n).length<=U.length+1
 :=by intro x;induction x<;>simp_all[qD,U]<;>grind
def yh:∀(U:List Nat)(n:Nat),zE (se U) (.int (.ofNat n)) (.pv (.bool true))=se (qD U n)
 |[],n=>rfl|m::U,n=>by
  show(bif SK.eqB (.int (.ofNat n)) (.int (.ofNat m))then _::se U else _::zE (se U) _ _)=_;unfold qD;by_cases e:n=m
  ·subst e;rw[(SK.eqB_iff _ _).2 rfl,if_pos rfl];rfl
  rw[if_neg e];have:SK.eqB (.int (.ofNat n)) (.int (.ofNat m))=false:=by
   cases h:SK.eqB (.int (.ofNat n)) (.int (.ofNat m))with|false=>rfl|true=>have:=(SK.eqB_iff _ _).1 h;grind
  rw[this,cond_false,yh U n];rfl
def lZ(k:Nat)(U:List Nat)(n:Nat):some (⟨.undef,some (k,.smap false (zE (se U) (.int (.ofNat n)) (.pv (.bool true)))),false⟩:RB)=some ⟨.undef,some (k,KA (qD U n)),false⟩:=by rw[yh]
def UA:Tm->Nat->List Nat->List Nat|.v i,c,U=>if c<=i then qD U (i-c)else U|.lam _ b,c,U=>UA b (c+1) U|.n0 _,_,U=>U|.n1 _ a,c,U=>UA a c U|.n2 _ a b,c,U=>UA b c (UA a c U)|.n3 _ _ a b d,c,U=>UA d c (UA b c (UA a c U))
noncomputable def uh:Code:=match (fnc 340).body with|some c=>c|none=>.skip
abbrev Cu(t:Tm)(c:Nat)(U:List Nat):IS:=⟨yE 0 [.pv t.p,.pv (num c),.map 0] .nil,Tr.nil.put 0 (some (KA U)),1,[]⟩
def rN{t:Tm}{c:Nat}{U a:List Nat}(h:Rc 1 340 uh (Cu t c U) .normal (st [] [(0,KA a)] 2 [0])):O 340 [.pv t.p,.pv (num c),.map 0] [(0,KA U)] (.pv (.tuple [])) [(0,KA a)]:=by
 obtain⟨ro,o1,b⟩:=oT (s:=⟨.nil,KB [(0,KA U)] .nil,1,[]⟩) (LY h) evOK (f:=340) (fn:=fnc 340) (c:=uh) (by kernel_rfl) (by kernel_rfl) (args:=[.pv t.p,.pv (num c),.map 0]) (Nat.le_of_ble_eq_true (show Nat.ble 3 (fnc 340).ntmps=true by kernel_rfl)) (jh U 1 rfl) (r:=⟨.pv (.tuple []),[(0,KA a)],[],2⟩) (by
  unfold SM JO;simp only[and_self,if_true]
  have e:iO ev.T 1 (Tr.nil.put 0 (some (KA U))) (fnc 340).results.toList .normal (st [] [(0,KA a)] 2 [0])=(match PK 1 2 (Tr.nil.put 0 (some (KA U))) (KB [(0,KA a)] .nil) 1000000 (IC (se a)++[]) .nil []with
   |some d=>some ⟨.pv (.tuple []),[(0,KA a)],d,2⟩|none=>none):=by kernel_rfl
  refine e.trans ?_;rw[nD];rfl)
 exact AC.wO 4 (Bu (objs:=[(0,KA U)]) (by kernel_rfl) (by kernel_rfl) (by kernel_rfl) b)
def qP{c:Nat}(h:c<=qA:=by omega):eA (Int.ofNat c+0)=true/\Int.ofNat c+0=.ofNat c:=⟨by grind[xA,vA],Int.add_zero _⟩
def Du{c:Nat}(h:c+1<=qA:=by omega):eA (Int.ofNat c+1)=true/\Int.ofNat c+1=.ofNat (c+1):=⟨xA (n:=c+1) (by have:=vA;omega),rfl⟩
def Eu{i c:Nat}(h:c<=i)(a:i<=qA*qA):eA (Int.ofNat i-Int.ofNat c)=true/\Int.ofNat i-Int.ofNat c=.ofNat (i-c):=by
 have e:Int.ofNat i-Int.ofNat c=.ofNat (i-c):=by simp;omega
 exact⟨by rw[e];exact xA (by have a:qA*qA=1125899906842624:=rfl;omega),e⟩
abbrev sN:Kp:=⟨[],[0],2,[0]⟩
def kL:∀(t:Tm)(c:Nat)(U:List Nat),c+t.cnt<=qA->t.mx<=qA*qA->O 340 [.pv t.p,.pv (num c),.map 0] [(0,KA U)] (.pv (.tuple [])) [(0,KA (UA t c U))]
 |.v i,c,U,f,e=>by
  unfold UA;by_cases h:c<=i
  ·rw[if_pos h];exact rN (qu [(15,.G),(21,.z (i-c)),(99999,.w ⟨.undef,some (0,KA (qD U (i-c))),false⟩)] sN (show(!fA (.ofNat i) (.ofNat c))=true by rw[GA h];rfl) (Eu h e) (lZ 0 U (i-c)) (nD (qD U (i-c))))
  rw[if_neg h];exact rN (Zt [(15,.H)] sN (show(!fA (.ofNat i) (.ofNat c))=false by rw[MA (by omega)];rfl) (nD U))
 |.n0 k,c,U,f,e=>by cases k<;>exact rN (nN [] sN (nD U))
 |.lam s b,c,U,f,e=>by
  simp only[Tm.cnt]at f;have g:=kL b (c+1) U (by omega) e;exact rN (Rg [(33,.z (c+1)),(35,.d 0 (KA (UA b (c+1) U)) (.pv (.tuple [])))] sN (Du (c:=c)) g (nD (UA b (c+1) U)))
 |.n1 k a,c,U,f,e=>by
  simp only[Tm.cnt]at f;have g:=kL a c U (by omega) e;cases k<;>exact rN (Rg [(33,.z c),(35,.d 0 (KA (UA a c U)) (.pv (.tuple [])))] sN (qP (c:=c)) g (nD (UA a c U)))
 |.n2 k a b,c,U,f,e=>by
  simp only[Tm.cnt]at f;simp only[Tm.mx]at e;have g:=kL a c U (by omega) (by omega);have j:=kL b c (UA a c U) (by omega) (by omega);cases k<;>exact rN (Sg [(33,.z c),(35,.d 0 (KA (UA a c U)) (.pv (.tuple []))),(33,.z c),(35,.d 0 (KA (UA b c (UA a c U))) (.pv (.tuple [])))] sN (qP (c:=c)) g (qP (c:=c)) j (nD (UA b c (UA a c U))))
 |.n3 k s a b d,c,U,f,e=>by
  simp only[Tm.cnt]at f;simp only[Tm.mx]at e;have g:=kL a c U (by omega) (by omega);have j:=kL b c (UA a c U) (by omega) (by omega);have l:=kL d c (UA b c (UA a c U)) (by omega) (by omega);cases k<;>exact rN (Tg [(33,.z c),(35,.d 0 (KA (UA a c U)) (.pv (.tuple []))),(33,.z c),(35,.d 0 (KA (UA b c (UA a c U))) (.pv (.tuple []))),(33,.z c),(35,.d 0 (KA (UA d c (UA b c (UA a c U)))) (.pv (.tuple [])))] sN (qP (c:=c)) g (qP (c:=c)) j (qP (c:=c)) l (nD (UA d c (UA b c (UA a c U)))))
end Go.Proofs.YtjecbkgdndjejaaGreatDoor
namespace Go.Proofs.YtjecbkgdndjejaaGreatDoor
open Go.Lg
set_option maxRecDepth 100000
def bh(n:Nat):∀{S:List Nat},wD S->n∉S->∃d,wD d/\(∀x,x∈d↔x=n\/x∈S)/\d.length=S.length+1
 |[],_,_=>⟨[n],List.pairwise_singleton _ _,λx=>by simp,rfl⟩|y::S,h,e=>by
  obtain⟨a,b⟩:=List.pairwise_cons.1 h;by_cases c:n<y
  ·refine⟨n::y::S,List.pairwise_cons.2 ⟨λx f=>?_,h⟩,λx=>List.mem_cons,rfl⟩
   grind
  obtain⟨d,g,j,i⟩:=bh n b (λh=>e (List.mem_cons_of_mem _ h));refine⟨y::d,List.pairwise_cons.2 ⟨λx f=>?_,g⟩,λx=>?_,by simp[i]⟩
  ·grind
  grind
def dh:∀{U:List Nat},U.Nodup->∃S,wD S/\(∀x,x∈S↔x∈U)/\S.length=U.length
 |[],_=>⟨[],List.Pairwise.nil,λ_=>Iff.rfl,rfl⟩|n::U,h=>by
  obtain⟨d,e⟩:=List.nodup_cons.1 h;obtain⟨S,a,b,c⟩:=dh e;obtain⟨f,g,i,j⟩:=bh n a (λh=>d ((b n).1 h))
  grind
def fh{U:List Nat}(h:U.Nodup)(d:U.length<=8589934592):∃S,ZO U S/\S.length=U.length:=by
 obtain⟨S,a,b,c⟩:=dh h;exact⟨S,⟨h,a,b,by omega⟩,c⟩
def yL:∀(t:Tm)(c:Nat)(U:List Nat)(x:Nat),x∈UA t c U↔x∈U\/t.occ (c+x)≠0
 |.v i,c,U,x=>by
  grind[UA,Tm.occ,mem_ins1]
 |.n0 k,c,U,x=>by simp[UA,Tm.occ]|.lam s b,c,U,x=>by simp only[UA,Tm.occ];rw[yL b,show c+1+x=c+x+1 by omega]|.n1 k a,c,U,x=>by exact yL a c U x|.n2 k a b,c,U,x=>by simp only[UA,Tm.occ];rw[yL b,yL a];constructor<;>(by_cases e:x∈U<;>simp_all<;>omega)|.n3 k s a b d,c,U,x=>by simp only[UA,Tm.occ];rw[yL d,yL b,yL a];constructor<;>(by_cases e:x∈U<;>simp_all<;>omega)
def uL:∀(t:Tm)(c:Nat){U:List Nat},U.Nodup->(UA t c U).Nodup
 |.v i,c,U,h=>by
  grind[UA,gZ]
 |.n0 k,c,U,h=>h|.lam s b,c,U,h=>uL b (c+1) h|.n1 k a,c,U,h=>uL a c h|.n2 k a b,c,U,h=>uL b c (uL a c h)|.n3 k s a b d,c,U,h=>uL d c (uL b c (uL a c h))
def bL:∀(t:Tm)(c:Nat)(U:List Nat),(UA t c U).length<=U.length+t.cnt
 |.v i,c,U=>by
  simp only[UA,Tm.cnt];split
  ·exact wh U _
  omega
 |.n0 k,c,U=>by simp[UA]|.lam s b,c,U=>by have:=bL b (c+1) U;grind[UA,Tm.cnt]|.n1 k a,c,U=>by have:=bL a c U;grind[UA,Tm.cnt]|.n2 k a b,c,U=>by have:=bL a c U;have:=bL b c (UA a c U);grind[UA,Tm.cnt]|.n3 k s a b d,c,U=>by have:=bL a c U;have:=bL b c (UA a c U);have:=bL d c (UA b c (UA a c U));grind[UA,Tm.cnt]
def dL:∀(t:Tm)(v:Nat),t.occ v≠0->v<=t.mx
 |.v i,v,h=>by grind[Tm.occ,Tm.mx]|.n0 k,v,h=>absurd rfl h|.lam s b,v,h=>by have:=dL b (v+1) h;grind[Tm.mx]|.n1 k a,v,h=>dL a v h|.n2 k a b,v,h=>by
  simp only[Tm.occ]at h;simp only[Tm.mx];by_cases c:a.occ v=0
  ·have:=dL b v (by omega);omega
  have:=dL a v c;omega
 |.n3 k s a b d,v,h=>by
  simp only[Tm.occ]at h;simp only[Tm.mx];by_cases c:a.occ v=0
  ·by_cases e:b.occ v=0
   ·have:=dL d v (by omega);omega
   have:=dL b v e;omega
  have:=dL a v c;omega
def fL:Nat->Nat|0=>1|1=>0|n=>n
def lh:∀n,fL (fL n)=n|0=>rfl|1=>rfl|_+2=>rfl
def mh(ρ:Nat->Nat):∀U:List Nat,hJ ρ (se U)=se U|[]=>rfl|n::U=>by show(_,_)::hJ ρ (se U)=_::se U;rw[mh ρ U];rfl
def nh(U:List Nat):(KA U).ren fL=KA U:=by show Ob.smap false (hJ fL (se U))=_;rw[mh]
def Fu(t:Tm)(a:t.cnt<=qA)(a:t.mx<=qA*qA):O 340 [.pv t.p,.pv (num 0),.map 1] [(1,.smap false [])] (.pv (.tuple [])) [(1,KA (UA t 0 []))]:=by
 have h:=AC.ren lh (kL t 0 [] (by omega) a);have e:YE fL [(0,KA (UA t 0 []))]=[(1,KA (UA t 0 []))]:=by show [(1,(KA _).ren fL)]=_;rw[nh]
 rw[e]at h;exact h
def Gu{U S:List Nat}(h:ZO U S):O 219 [.map 1] [(1,KA U)] (.pv (HA S)) [(1,KA U)]:=by
 have h:=AC.ren lh (vh h);have e:YE fL [(0,KA U)]=[(1,KA U)]:=by show [(1,(KA _).ren fL)]=_;rw[nh]
 rw[e]at h;exact h
def Hu(t:Tm)(b:t.cnt<=qA)(c:t.tsz<=yA)(d:t.mx<=qA*qA):∃u:List Nat,A 286 [t.p] (.tuple [HA u,num t.chk])/\(t.chk=0->∀v,v∈u↔t.occ v≠0)/\(t.chk≠0->u=[])/\u.length<=t.cnt/\wD u:=by
 have g:=vA;have f:=uA;have a:=DJ t c
 cases e:t.chk with
 |succ k=>
  rw[e]at a;exact⟨[],f2 [7,9] a (jD (m:=k+1) (n:=0)),λh=>(by cases h),λ_=>rfl,Nat.zero_le _,.nil⟩
 |zero=>
  rw[e]at a;have i:=bL t 0 [];obtain⟨S,h,j⟩:=fh (uL t 0 (U:=[]) List.nodup_nil) (by grind);refine⟨S,f3 [7,14,(16,.o [1] [] (.pv (HA S)))] a (Fu t b d) (Gu h),λ_ v=>?_,λh=>absurd rfl h,by simp_all,h.asc⟩;rw[h.mem,yL,Nat.zero_add];simp
def jF(U:List Nat):List Nat->List Nat|[]=>U|x::r=>jF (qD U x) r
def ph:∀(r U:List Nat)(x:Nat),x∈jF U r↔x∈U\/x∈r
 :=by intro x;induction x<;>simp_all[U,jF,mem_ins1,List.mem_cons]<;>grind
def mZ:∀(r:List Nat){U:List Nat},U.Nodup->(jF U r).Nodup|[],_,h=>h|y::r,_,h=>mZ r (gZ h)
def nZ:∀(r U:List Nat),(jF U r).length<=U.length+r.length|[],U=>by simp[jF]|y::r,U=>by have:=nZ r (qD U y);have:=wh U y;grind[jF,List.length_cons]
abbrev Iu(a b:List Nat)(k:Nat):List (Nat×V):=[(1,.pv (HA b)),(5,.map 0),(11,.pv (HA a)),(12,.pv (num (a.map ic).length)),(13,.pv (num k))]
abbrev Ju(b:List Nat)(k:Nat):List (Nat×V):=[(5,.map 0),(20,.pv (HA b)),(21,.pv (num (b.map ic).length)),(22,.pv (num k))]
def rh(a b:List Nat)(c:a.length<=qA):∀(r:List Nat)(k:Nat)(U:List Nat),a.drop k=r->
  Lp 154 0 0 (st (Iu a b k) [(0,KA U)] 1 []) (.exit 0) (st [(1,.pv (HA b)),(5,.map 0)] [(0,KA (jF U r))] 1 [])
 |[],k,U,h=>by
  have e:fA (.ofNat k) (.ofNat (a.map ic).length)=false:=GA (by simp_all);exact y1 [14] ⟨[1,5],[0],1,[]⟩ e (nD U)
 |x::r,k,U,h=>by
  have j:=vA;obtain⟨d,l,f⟩:=yH h;have e:fA (.ofNat k) (.ofNat (a.map ic).length)=true:=MA (by simp_all);have g:=xA (show k+1<=_ by omega);have i:=rh a b c r (k+1) (qD U x) f;exact n6 [14,(15,.i (ic x)),(99999,.w ⟨.undef,some (0,KA (qD U x)),false⟩),(19,.ok)] ⟨[1,5,11,12,13],[0],1,[]⟩ e (vB d sL) (lZ 0 U x) g (nD (qD U x)) i
def th(b:List Nat)(a:b.length<=qA):∀(r:List Nat)(k:Nat)(U:List Nat),b.drop k=r->
  Lp 154 1 0 (st (Ju b k) [(0,KA U)] 1 []) (.exit 2) (st [(5,.map 0)] [(0,KA (jF U r))] 1 [])
 |[],k,U,h=>by
  have e:fA (.ofNat k) (.ofNat (b.map ic).length)=false:=GA (by simp_all);exact y1 [23] ⟨[5],[0],1,[]⟩ e (nD U)
 |x::r,k,U,h=>by
  have i:=vA;obtain⟨c,j,d⟩:=yH h;have e:fA (.ofNat k) (.ofNat (b.map ic).length)=true:=MA (by simp_all);have f:=xA (show k+1<=_ by omega);have g:=th b a r (k+1) (qD U x) d;exact n6 [23,(24,.i (ic x)),(99999,.w ⟨.undef,some (0,KA (qD U x)),false⟩),(28,.ok)] ⟨[5,20,21,22],[0],1,[]⟩ e (vB c sL) (lZ 0 U x) f (nD (qD U x)) g
def Ku(a b:List Nat)(c:a.length<=qA:=by omega)(d:b.length<=qA:=by omega):∃u:List Nat,A 154 [HA a,HA b] (HA u)/\(∀v,v∈u↔v∈a\/v∈b)/\u.length<=a.length+b.length/\wD u:=by
 have f:=nZ a [];have g:=nZ b (jF [] a);obtain⟨S,h,i⟩:=fh (mZ b (mZ a (U:=[]) List.nodup_nil)) (by grind);have l1:=rh a b c a 0 [] rfl;have e:=th b d b 0 (jF [] a) rfl;refine⟨S,fk [(100003,.l ⟨[1,5,11,12,13],[0],1,[]⟩ (.exit 0) (st [(1,.pv (HA b)),(5,.map 0)] [(0,KA (jF [] a))] 1 [])),(100008,.l ⟨[5,20,21,22],[0],1,[]⟩ (.exit 2) (st [(5,.map 0)] [(0,KA (jF (jF [] a) b))] 1 [])),(30,.o [0] [] (.pv (HA S)))] (And.intro (nD []) (And.intro l1 (And.intro (nD (jF [] a)) (And.intro e (And.intro (vh h) (rfl:HA S=HA S)))))),λv=>?_,by grind,h.asc⟩;rw[h.mem,ph,ph];simp
def ah:MF where
 uses t h1 h2 h3:=by
  have hm:=vA;obtain⟨u,g1,g2,g3,g4,g5⟩:=Hu t h1 (by have:=uA;omega) h3;refine⟨u,t.chk,g1,λh=>⟨h,λv hv=>(g2 h v).2 hv⟩,λx hx=>?_,g4,g5⟩;by_cases e:t.chk=0
  ·exact dL t x ((g2 e x).1 hx)
  simp_all
 union a b h1 h2 h3:=by
  obtain⟨u,g1,g2,g3,g4⟩:=Ku a b;exact⟨u,g1,λv hv=>(g2 v).2 hv,λv hv=>(g2 v).1 hv,g3,g4⟩
def a4:A 4 [] (.bool true):=
 f6 [14,20,24,28,60,61] Js Ls eg Fs eg Es
def oh{e:Nat}(h:Lm e):A 10 [num e] (.bool true):=by
 have h:e=3\/e=4\/e=5:=by have h:=h;simp only[Lm]at h;omega
 rcases h with rfl|rfl|rfl<;>exact f0 []
def Lu:A 10 [num 0] (.bool false):=f0 []
def Mu{L:List Int}(x:∀z∈L,-9223372036854775808<=z/\z<=9223372036854775807):A 3 [.slice (L.map sK)] (.bool true):=by
 have e:=a5 L;by_cases a:L.length<=500;rotate_left
 ·rw[decide_eq_false a]at e;exact f3 [11,15,18] a4 e a4
 rw[decide_eq_true a]at e;have o:Dk L:=⟨a,x⟩;obtain⟨g,b,K,i,y,k⟩:=a7 o (a:=0) (Nat.zero_le _);have B:S19 jC [] g []:=⟨by simp,by simp,by omega,i,by simp,by simp,Nat.le_refl _,nofun,nofun⟩;obtain⟨p,r,c,⟨C,D,E,j,rfl,l⟩,_,m⟩:=Tt ah o (k:=3) (by omega) (by decide) B y;have d:∀s∈g,s.size<=64:=λs h=>Nat.le_trans (i s h) (by decide)
 obtain⟨F,h|⟨t,v,h⟩⟩:=s9 (by omega) d l C D (TE (ls:=[]) nofun j g [] nofun l E)
 ·exact f6 [11,15,22,27,33,39] a4 e k m h (oh (e:=4) (by decide))
 generalize G:(j.pv [] (bB g.length 0)).p=X at h t v;obtain⟨H,w,I,J⟩:=js ah (by omega) d l F G t v
 cases H with
 |er n=>exact f7 [11,15,22,27,33,43,47] a4 e k m h w (oh (I n rfl))|ok f u=>
  obtain rfl:=J f u rfl;exact f7 [11,15,22,27,33,43,47] a4 e k m h w Lu
end Go.Proofs.YtjecbkgdndjejaaGreatDoor
