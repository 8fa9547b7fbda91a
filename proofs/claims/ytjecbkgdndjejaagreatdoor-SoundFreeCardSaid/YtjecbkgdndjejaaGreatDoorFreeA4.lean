/- The logic of contracts; no conditions. -/
import Derived.Test.YtjecbkgdndjejaaGreatDoorFreeA3
import Derived.LoopN
import Derived.Defers
import Derived.Recover
set_option linter.all false
namespace Go.Lg
def TIOK.mk'{P:Program}{t:Nat}{a:TI}{d:TypeDesc}(b:(P.info? t).map (λi=>(i.size,i.bytes,i.zero))=some (a.size,a.bytes,some a.zero))(b:P.underlying t=some d)(c:JC P d a.k)
  (e:a.zero.cells.size=a.size) (f:RepL (λ_=>[]) a.zc a.zero.cells.toList) (g:a.zc.length=a.size) (h:a.k.isIface=true\/P.concrete t=true):TIOK P t a:=by
 refine⟨?_,⟨d,b,c⟩,e,f,g,h⟩;simp_all
def GH(X:Env1)(σ:St):ResultVar->Option V
 |.tmp t=>some (IA σ.slots t)|.cell a t=>match X.T t,IA σ.slots a with
  |some b,.loc n off=>match zA σ.objs n with|some (.box c)=>wI b.isAgg b.size (c.drop off)|_=>none
  |_,_=>none
def IH(X:Env1)(σ:St):List ResultVar->Option (List V)
 |[]=>some []|r::a=>match GH X σ r,IH X σ a with|some x,some a=>some (x::a)|_,_=>none
def gO(a:List V):V:=match a with
 |[x]=>x|a=>match rE a with|some b=>.pv (.tuple b)|none=>.tuple a
def qG(X:Env1)(σ:St)(a:List ResultVar):Option V:=(IH X σ a).map gO
def Fo{E:Env}{a:List V}{vs:Array Value}(c:vs.size=a.length:=by omega)(r:RepVL E a vs.toList:=by omega):RepV E (gO a) (if h:vs.size=1 then vs[0]else .tuple vs):=by
 unfold gO;split
 ·have b:vs.size=1:=by omega
  have:vs.toList=[vs[0]]:=by
   apply List.ext_getElem
   ·omega
   simp_all
  grind[RepVL]
 have b:¬vs.size=1:=by
  intro b;rw[b]at c
  cases a with
  |nil=>simp at c|cons x a=>
   cases a with|nil=>grind|cons y a=>simp at c
 rw[dif_neg b]
 grind[RepV,RepP,JS,RepVL.toPv]
section
variable{X:Env1}{C:Ctx}{E:Env}{σ:St}{a:Act}{w:World}
def Io(u:EB X.P X.T)(h:Ga C E σ a w){r:ResultVar}{x:V}(d:GH X σ r=some x):
  ∃v,((match r with
   |.tmp t=>pure (a.tmps.getD t undef)|.cell b t=>do loadVar t (<-asAddr (a.tmps.getD b undef))):Sem Value).run X.P w=.ok v w/\RepV E x v:=by
 cases r with
 |tmp t=>
  simp only[GH,Option.some.injEq]at d;subst d;exact⟨_,rfl,h.slots t⟩
 |cell b t=>
  simp only[GH]at d;split at d
  ·rename_i i n off y z;split at d
   ·rename_i K A;have g:=u t i y;have o:=h.slots b;rw[z]at o;obtain⟨p,B,D⟩:=o;obtain⟨L,c,M,s,j,F,k,_⟩:=h.objs n _ A;obtain⟨G,N,O⟩:=LW d (k.drop off);have f:∀v,(Instr.loadAt t (.pointer (some ⟨p,off,none⟩))).run X.P w=.ok v w->(do loadVar t (<-asAddr (a.tmps.getD b undef)):Sem Value).run X.P w=.ok v w:=by
     intro v H;rw[D];exact H
    cases e:i.isAgg with
    |true=>
     obtain⟨I,J⟩:=G e;by_cases P:off+i.size<=c.size
     ·grind[kQ]
     have l:i.size=0:=by grind
     have m:(loadCells ⟨p,off,none⟩ 0).run X.P w=.ok #[] w:=by rfl
     refine⟨_,f _ ?_,J⟩;simp[Instr.loadAt,Instr.sureAddr,loadVar,g.run_agg,e,g.run_size,l,m]
    |false=>
     grind[yQ]
   cases d
  cases d
def sd(g:EB X.P X.T)(h:Ga C E σ a w):∀{f:List ResultVar}{d:List V},IH X σ f=some d->
  ∃e:List Value,(f.mapM λr=>match r with|.tmp t=>pure (a.tmps.getD t undef)|.cell b t=>do loadVar t (<-asAddr (a.tmps.getD b undef)):Sem (List Value)).run X.P w=.ok e w/\e.length=d.length/\RepVL E d e
 |[],d,c=>by
  simp only[IH,Option.some.injEq]at c;subst c;exact⟨[],rfl,rfl,by simp[RepVL]⟩
 |r::f,d,c=>by
  simp only[IH]at c;split at c
  ·rename_i x i j k;cases c;obtain⟨v,p,l⟩:=Io g h j;obtain⟨e,m,n,o⟩:=sd g h k;refine⟨v::e,?_,by simp[n],by grind[RepVL]⟩;simp_all
  cases c
def gX(d:EB X.P X.T)(h:Ga C E σ a w){fn:Func}{x:V}(b:qG X σ fn.results.toList=some x):∃v,(results fn a.tmps).run X.P w=.ok v w/\RepV E x v:=by
 unfold qG at b
 cases c:IH X σ fn.results.toList with
 |none=>rw[c]at b;cases b
 |some e=>
  rw[c]at b;simp only[Option.map_some,Option.some.injEq]at b;subst b;obtain⟨e,b,f,f⟩:=sd d h c;refine⟨_,?_,Fo (vs:=e.toArray)⟩;unfold results;rw[Array.mapM_eq_mapM_toList];simp only[Sem.run_bind,map_eq_pure_bind]
  erw [b]
  rfl
end
def vE:Nat->List V->List (Nat×V)|_,[]=>[]|k,x::a=>(k,x)::vE (k+1) a
def aQ:∀(a:List V)(k t:Nat),IA (vE k a) t=if k<=t then a.getD (t-k) .undef else .undef
 |[],k,t=>by simp[vE,IA]|x::a,k,t=>by
  simp only[vE,IA];by_cases e:k=t
  ·simp_all
  rw[aQ a (k+1) t]
  grind
def IM(X:Env1)(σ:St)(a:List ResultVar):Out->Prop|.ret x=>qG X σ a=some x|.panic _=>False
def td(X:Env1)(b:List ResultVar)(out:Out)(a:List (Nat×Ob)):yB->St->Prop|.normal,σ=>IM X σ b out/\lB a σ.objs|.ret,σ=>IM X σ b out/\lB a σ.objs|.panic p,σ=>(match out with|.ret _=>False|.panic q=>p=q)/\lB a σ.objs|.exit _,_=>False
def AC.of_body{X:Env1}(O:EB X.P X.T){f:Nat}{fn:Func}{c:Code}(z:X.P.funcs[f]? =some fn)(r:fn.body=some c)(p:(fn.name== "runtime.NumGoroutine")=false)(a:fn.ntmps=X.nt)
  {args:List V} {d:List (Nat×Ob)} {out:Out} {a:List (Nat×Ob)} {ms:List Nat} (i:X.given=jA d++ms) (g:args.length<=X.nt)
  (g:tE ms (VE args d)) (y:∀n∈ms,n∉jA d) (j:∀n∈ms,n∉jA a)
  (s:tE (BA args++lC d) (jA d++ms)) (u:tE (out.names++lC a) ((jA d++ms)++jA a))
  (h:AWP X c ⟨vE 0 args,d,jA d++ms⟩ (td X fn.results.toList out a)):AC X.P X.gl f args d out a:=by
 have s:=GM s;have u:=GM u;have g:=GM g;have j:∀n,n∈(jA d++ms)++jA a->n∈jA d\/n∈jA a\/n∈VE args d:=by
  grind
 have t:∀{l:List (Nat×Ob)}{n:Nat},n∉jA l->zA l n=none:=by
  intro l n g
  cases e:zA l n with
  |none=>rfl
  |some o=>grind[absurd,rC]
 refine⟨⟨fn,z,p,by rw[r];rfl⟩,λn g=>j n (u n (by simp[g])),λm o p n g=>j n (u n (by grind[HM])),?_⟩;intro E w j l A A;refine calls_of_wp z r ?_;let C:Ctx:=⟨E,w,d,ms,X.nt,[]⟩;have z:dI X C:=⟨l.glob,rfl,λn o g=>by rw[i];grind,λn g=>by rw[i];grind,by simp[C,WF]⟩;have B:Ga C E ⟨vE 0 args,d,jA d++ms⟩ {tmps:=j.toArray++Array.replicate (fn.ntmps-j.toArray.size) undef,defers:=[]} w:=by
  refine⟨?_,?_,⟨rfl,by simp[C,WF]⟩,l.heap,l.obs,l.apart,?_,?_,λn o g=>List.mem_append.2 (.inl (rC g)),Nat.le_refl _,⟨rfl,rfl,rfl⟩,λ_ _ _=>⟨λ_=>rfl,rfl⟩,Hle.refl _,λn o b g r _=>⟨n,o,g,r⟩,λn o _=>EExt.refl _ _,
   λn g=>⟨List.mem_append.2 (.inr g),t (y n g),rfl,rfl,rfl⟩⟩
  ·intro t;rw[aQ];simp only[Nat.zero_le,if_true,Nat.sub_zero];by_cases l:t<args.length
   ·have i:=RepVL.iff.1 A t args[t] (List.getElem?_eq_getElem l);obtain⟨v,G,D⟩:=i;have I:args.getD t .undef=args[t]:=by simp_all
    rw[I];have J:(j.toArray++Array.replicate (fn.ntmps-j.toArray.size) undef).getD t undef=v:=by
     rw[Array.getD_eq_getD_getElem?,Array.getElem?_append_left (by simp;omega)];simp[G]
    rw[J];exact D
   grind[List.getD,RepV]
  ·grind
  ·intro t n g;refine s n ?_;rw[List.mem_append];left;have:n∈WE (vE 0 args):=dX g;have key:∀(i:List V)(k:Nat),n∈WE (vE k i)->n∈BA i:=by
    intro i
    induction i with
    |nil=>intro k h;simp[vE,WE]at h
    |cons x i j=>
     intro k h;simp only[vE,WE,List.mem_append]at h;simp only[BA,List.mem_append];rcases h with h|h
     ·exact .inl h
     ·exact .inr (j (k+1) h)
   exact key args 0 this
  grind[rC,HM]
 refine wp_mono (h C E _ w z B) ?_
 rintro e N K ⟨t,σ',P,l,y,F⟩
 --j hidden i i j call
 let s:Env:=⟨t.H,λn=>if n∈jA d++jA a then t.g n else E.g n,λn=>if n∈jA d++jA a then t.ver n else E.ver n,λn=>if n∈jA d++jA a then t.sz n else E.sz n⟩;have i:∀n∈jA d++jA a,s.g n=t.g n/\s.ver n=t.ver n/\s.sz n=t.sz n:=by
  intro n g;have j:n∈jA d\/n∈jA a:=List.mem_append.1 g;simp[s,j]
 have C:∀n∈jA d++jA a,EExt t s n:=λn g=>EExt.of_eq (i n g).1 (i n g).2.1 (i n g).2.2
 have H:∀n∈(jA d++ms)++jA a,EExt t s n:=by
  intro n g;by_cases p:n∈jA d++jA a
  ·exact C n p
  ·have j:n∈ms:=by
    rcases List.mem_append.1 g with g|g
    ·rcases List.mem_append.1 g with g|g
     ·exact absurd (List.mem_append.2 (.inl g)) p
     ·exact g
    ·exact absurd (List.mem_append.2 (.inr g)) p
   have z:¬(n∈jA d\/n∈jA a):=λh=>p (List.mem_append.2 h)
   obtain⟨_,_,A,B,L⟩:=l.keep n j;exact EExt.of_eq (by simp[s,z];exact A.symm) (by simp[s,z];exact B.symm) (by simp[s,z];exact L.symm)
 have A:lB a σ'.objs->EH E w d s K a:=by
  intro j;have j:=AK j;have B:∀n o,zA a n=some o->n∈jA d++jA a:=λn o g=>List.mem_append.2 (.inr (rC g))
  refine⟨λb r=>l.heap b r,?_,?_,l.hle,l.grown,l.rest,?_,?_,?_,?_⟩
  ·intro n o g;have p:=B n o g;exact(l.objs n o (j n o g)).mono (Hle.refl _) (i n p).1 (i n p).2.1 (i n p).2.2 (λm z=>H m (u m (by simp[(HM g).2 m z]))) (λb _=>⟨rfl,rfl⟩)
  ·intro n m o z g p L b r;rw[(i n (B n o g)).1]at r;rw[(i m (B m z p)).1];exact l.apart n m o z (j n o g) (j m z p) L b r
  ·intro b r L;exact l.same b r (by rintro⟨n,o,g,M⟩;exact L n o g M)
  ·intro n o b g r;rw[(i n (B n o g)).1]at r;by_cases i:b<w.heap.size
   ·obtain⟨m,z,p,B⟩:=l.own n o b (j n o g) r i;exact .inr ⟨m,z,p,B⟩
   ·exact .inl (by omega)
  ·intro n o g;have p:n∈jA d++jA a:=List.mem_append.2 (.inl (rC g));exact(l.ext n o g).trans (C n p)
  ·intro n I J;have g:¬(n∈jA d\/n∈jA a):=by
    rintro(g|g)
    ·obtain⟨o,r⟩:=DH g;rw[r]at I;cases I
    ·obtain⟨o,r⟩:=DH g;rw[r]at J;cases J
   simp[s,g]
 have i:IM X σ' fn.results.toList out->lB a σ'.objs->
   N.defers=[]/\∃v,(results fn N.tmps).run X.P K=.ok v K/\∃t,EH E w d t K a/\mQ t out (.returned v):=by
  intro r j
  cases out with
  |panic p=>exact r.elim
  |ret x=>
   obtain⟨v,G,D⟩:=gX O l r;exact⟨l.defers.1,v,G,s,A j,v,rfl,RepV.mono (E:=t) (E':=s) (Hle.refl _) x v (λn g=>H n (u n (by simp[Out.names,g]))) D⟩
 cases P with
 |normal=>cases y;exact i F.1 F.2
 |ret=>cases y;exact i F.1 F.2
 |exit i=>exact F.elim
 |panic p=>
  obtain⟨v,rfl,G⟩:=y;obtain⟨r,j⟩:=F
  cases out with
  |ret x=>exact r.elim
  |panic q=>
   subst r;exact⟨l.defers.1,s,A j,v,rfl,G⟩
def kE(n a:Nat)(b:List (List PV)):V->V|.arr m v len=>if m=n/\v=a then .pv (.slice (b.take len))else .arr m v len|x=>x
def IE(n a:Nat)(b:List (List PV)):List V->List V|[]=>[]|x::c=>kE n a b x::IE n a b c
def PC(n a:Nat)(b:List (List PV)):V->V|.agg c=>SG (IE n a b c)|x=>kE n a b x
def WS(n a:Nat)(b:List (List PV)):List (Nat×V)->List (Nat×V)|[]=>[]|(t,x)::r=>(t,PC n a b x)::WS n a b r
def MD(n a:Nat)(b:List (List PV)):Ob->Ob|.box c=>.box (IE n a b c)|o=>o
def lO(n a:Nat)(b:List (List PV)):List (Nat×Ob)->List (Nat×Ob)|[]=>[]|(k,o)::r=>if k=n then lO n a b r else(k,MD n a b o)::lO n a b r
def St.frz(σ:St)(n a:Nat)(b:List (List PV)):St:=⟨WS n a b σ.slots,lO n a b σ.objs,σ.used⟩
def od(n b:Nat)(d:List (List PV))(a:List V):(IE n b d a).length=a.length:=by
 induction a with|nil=>rfl|cons c a b=>simp[IE,b]
def lX(n a:Nat)(b:List (List PV))(l:List (Nat×V))(t:Nat):IA (WS n a b l) t=PC n a b (IA l t):=by
 induction l with
 |nil=>rfl|cons p r a=>
  simp only[WS,IA,a];split<;>rfl
def mO(n a:Nat)(b:List (List PV))(l:List (Nat×Ob))(m:Nat):zA (lO n a b l) m=if m=n then none else(zA l m).map (MD n a b):=by
 induction l with
 |nil=>simp[lO,zA]|cons p r a=>
  obtain⟨k,x⟩:=p;simp only[lO,zA];by_cases e:k=n
  ·grind
  simp only[e,if_false,zA,a]
  grind
section
variable{C:Ctx}{E:Env}{σ:St}{a:Act}{w:World}
theorem xd(n b:Nat)(c:List (List PV))(x:V):∀m∈(kE n b c x).names,m∈x.names:=by
 intro m b;unfold kE at b
 grind[V.names]
theorem Ad(n d:Nat)(e:List (List PV))(b:List V):∀m∈BA (IE n d e b),m∈BA b:=by
 induction b with
 |nil=>intro m d;exact d|cons c b d=>
  grind[IE,BA,xd]
def Jo(n b:Nat)(c:List (List PV))(x:V):∀m∈(PC n b c x).names,m∈x.names:=by
 intro m b;unfold PC at b
 grind[V.names,Ad,LS,xd]
def Ga.frz(h:Ga C E σ a w){n y sz ty:Nat}{g:List (List PV)}(ho:zA σ.objs n=some (.arr y sz ty (kA g))):∃E',Ga C E' (σ.frz n y g) a w:=by
 have S:=h.objs n _ ho;obtain⟨U,hsz,hlen,_⟩:=id S;obtain⟨ad,cap,M,hlc,hlm,hh⟩:=MS S;have hpl:(kA g).length=g.length:=by simp[kA]
 rw[hpl]at M hlc hlm
 --the cells that are known from now on
 have hH:∃f:Hp,Hle E.H f/\HeapOK {E with H:=f} w/\(∀b,(∀z,CA (E.g n)=some z->b≠z)->f b=E.H b)/\(g=[]\/∃b,ad=some ⟨b,0,none⟩/\RepE f g (f b)):=by
  rcases hh with ⟨h1,h2,h3⟩|⟨b,N,K,W,hcs,G,hfree⟩
  ·exact⟨E.H,Hle.refl _,h.heap,λ_ _=>rfl,.inl (by simp_all)⟩
  let f:Hp:=λz=>if z=b then N.toList.map sn else E.H z
  have j:Hle E.H f:=by
   intro z
   grind
  refine⟨f,j,?_,?_,.inr ⟨b,K,?_⟩⟩
  ·intro z X;by_cases e:z=b
   ·subst e;exact⟨N,ty,(0,0),W,by simp[f,Msk.sn],.inl rfl⟩
   have Y:E.H z≠[]:=by grind
   obtain⟨c,T,fr,r,hp⟩:=h.heap z Y
   grind
  ·intro z i;have:z≠b:=i b (by rw[M,K];rfl)
   grind
  have hre:=(RepVE.toPv (cK g) G).sn;have:f b=N.toList.map sn:=by simp[f]
  rw[this];exact RepE.mono j g _ _ List.prefix_rfl hre
 obtain⟨f,j,O,P,Q⟩:=hH;have hE:∀m,EExt E {E with H:=f} m:=λm=>EExt.of_eq rfl rfl rfl
 have r:=h.change (E':={E with H:=f}) n none (vI σ.objs n) σ.used none .undef undef (λm=>ZP _ _ _) j (λ_ _=>⟨rfl,rfl,rfl⟩) (λ_=>hE n) (λ_=>⟨_,ho⟩) (Nat.le_refl _) ⟨rfl,rfl,rfl⟩
  (λb _ i=>⟨rfl,P b (λz X e=>i _ ho (e▸X))⟩) O (λo e=>by cases e) (λo b e=>by cases e) (λ_ h=>h) (by simp[RepV]) (by simp[V.names]) (by simp)
 have Z:∀(x:V)(v:Value),RepV {E with H:=f} x v->RepV {E with H:=f} (kE n y g x) v:=by
  intro x v B;unfold kE;split
  ·rename_i m vv len;split
   ·rename_i e;obtain⟨rfl,rfl⟩:=e;simp only[RepV]at B;obtain⟨_,_,B⟩:=B;obtain⟨a',L,cap',hg',hv,hle⟩:=B U.symm;rw[M]at hg';cases hg';have htl:(g.take len).length=len:=by simp;omega
    simp only[RepV,RepP];refine⟨ad,cap,by rw[hv,htl],by omega,by omega,?_⟩;rcases Q with rfl|⟨b,K,G⟩
    ·simp
    exact .inr ⟨b,0,K,by simpa using G.takeE len⟩
   exact B
  exact B
 have hvL:∀(D:List V)(H:List Value),RepVL {E with H:=f} D H->RepVL {E with H:=f} (IE n y g D) H:=by
  intro D
  induction D with
  |nil=>intro H _;simp[IE,RepVL]|cons c D ih=>
   intro H G
   cases H with
   |nil=>simp[RepVL]at G|cons v H=>
    simp only[RepVL]at G;simp only[IE,RepVL];exact⟨Z c v G.1,ih H G.2⟩
 refine⟨{E with H:=f},?_,r.size,r.defers,r.heap,?_,?_,?_,?_,r.usedG,r.grown,r.rest,r.same,r.hle,?_,r.ext,λk I=>⟨(r.keep k I).1,?_,(r.keep k I).2.2⟩⟩
 ·intro t;simp only[St.frz,lX];have B:=r.slots t;simp only[WC]at B;unfold PC;split
  ·rename_i D e;rw[e]at B;simp only[RepV]at B;obtain⟨H,hv,hl,G⟩:=B;have hv:a.tmps.getD t undef=.agg H.toArray:=hv;rw[hv];exact KS (by rw[hl,od]) (hvL D H G)
  exact Z _ _ B
 ·intro m o d;simp only[St.frz,mO]at d;split at d
  ·cases d
  rename_i i
  cases u:zA σ.objs m with
  |none=>rw[u]at d;cases d
  |some q=>
   rw[u]at d;simp only[Option.map_some,Option.some.injEq]at d;subst d;have J:zA (vI σ.objs n) m=some q:=by rw[ZP,if_neg i,u]
   have A:=r.objs m q J
   cases q with
   |box D=>
    obtain⟨b,c,T,h1,h2,h3,h4,h5⟩:=A;exact⟨b,c,T,h1,h2,by rw[h3,od],hvL D _ h4,h5⟩
   |arr v s t R=>exact A|smap s g=>exact A|siter l p=>exact A|raw v x=>exact A|grow v s t R=>exact A
 ·intro m m' o o' d F i b K;simp only[St.frz,mO]at d F;split at d
  ·cases d
  split at F
  ·cases F
  cases u:zA σ.objs m with
  |none=>rw[u]at d;cases d
  |some q=>
   cases J:zA σ.objs m' with
   |none=>rw[J]at F;cases F
   |some q'=>exact h.apart m m' q q' u J i b K
 ·intro t m d;simp only[St.frz,lX]at d;exact h.usedS t m (Jo n y g _ m d)
 ·intro m o d;simp only[St.frz,mO]at d;split at d
  ·cases d
  cases u:zA σ.objs m with
  |none=>rw[u]at d;cases d
  |some q=>
   rw[u]at d;simp only[Option.map_some,Option.some.injEq]at d;subst d;refine⟨(h.usedO m q u).1,λk I=>(h.usedO m q u).2 k ?_⟩
   cases q with|box D=>exact Ad n y g D k I|arr v s t R=>exact I|smap s g=>exact I|siter l p=>exact I|raw v x=>exact I|grow v s t R=>exact I
 ·intro m o b d K hlt;simp only[St.frz,mO]at d;split at d
  ·cases d
  cases u:zA σ.objs m with
  |none=>rw[u]at d;cases d
  |some q=>exact h.own m q b u K hlt
 simp only[St.frz,mO];have:=(h.keep k I).2.1;split
 ·rfl
 rw[this];rfl
end
structure C1 where
 c:Prop
 f:Prop
def Ko:List C1->Prop->Prop|[],p=>p|x::a,p=>Ko a (x.c/\(x.f->p))
structure Q1 where
 cs:List C1
 σ:St
 rest:List Oper
 tr:List Eff
def Lo:Op->Bool|.call {callee:=.value _,..}=>true|.panic _=>true|.lookup _ _ _ _=>true|_=>false
abbrev mX:=St->List Eff->List C1->Option Q1
def nX(f:mX)(X:Env1)(a:Bool)(o:Oper)(σ:St)(b:List Eff)(c:List C1)(r:Option R):Option Q1:=match r with|some r=>f (σ.eff o.dst (r.eff (jE (σ.val X.gl) o.op))) (bif a then b++[r.eff (jE (σ.val X.gl) o.op)]else b) (⟨DK X o.dst/\r.cond/\BM (r.eff []).nw σ.used,bif a then True else r.fact⟩::c)|none=>none
def No(f:mX)(X:Env1)(a:Bool)(o:Oper)(σ:St)(b:List Eff)(d:List C1)(c:Bool)(v:V):Option Q1:=match v with|.pv (.bool true)=>bif c then nX f X a o σ b d (gA X.T (X.note o.dst) (σ.val X.gl) (zA σ.objs) o.dst o.op)else f (σ.eff o.dst OC) (bif a then b++[OC]else b) (⟨DK X o.dst,True⟩::d)|.pv (.bool false)=>bif c then f (σ.eff o.dst OC) (bif a then b++[OC]else b) (⟨DK X o.dst,True⟩::d)else nX f X a o σ b d (gA X.T (X.note o.dst) (σ.val X.gl) (zA σ.objs) o.dst o.op)|.pv (.tuple [])=>f (σ.eff o.dst OC) (bif a then b++[OC]else b) (⟨DK X o.dst,True⟩::d)|_=>none
def Oo(f:mX)(X:Env1)(a:Bool)(c:List Oper)(o:Oper)(b:List Oper)(σ:St)(d:List Eff)(e:List C1)(call:Bool)(g:Option (Nat×Bool)):Option Q1:=match call,g with|true,_=>some ⟨e,σ,o::b,d⟩|false,none=>nX f X a o σ d e (gA X.T (X.note o.dst) (σ.val X.gl) (zA σ.objs) o.dst o.op)|false,some (j,b)=>No f X a o σ d e b (gv c σ j)
def Qo(X:Env1)(a:Bool)(c:List Oper):List Oper->St->List Eff->List C1->Option Q1|[],σ,d,e=>some ⟨e,σ,[],d⟩|o::b,σ,d,e=>Oo (Qo X a c b) X a c o b σ d e (Lo o.op) o.guard
def U7(c:List Oper)(σ:St)(g:Option (Nat×Bool)):Option Bool:=match g with
 |none=>some true|some (j,a)=>match gv c σ j with|.pv (.bool b)=>some (b==a)|.pv (.tuple [])=>some false|_=>none
section
variable{X:Env1}{draw:Bool}{ops:List Oper}{K:St->List Eff->Prop}{Qp:PV->St->Prop}{o:Oper}{rest:List Oper}{σ:St}{tr:List Eff}
def Ro{c:Operand}{x y:Code}{Q:yB->St->Prop}{v:V}(b:σ.val X.gl c=v)(h:sQ v (AWP X x σ Q) (AWP X y σ Q)):AWP X (.cond c x y) σ Q:=by
 intro C E a w e f;have g:=QA f e.glob c;rw[b]at g;unfold sQ at h;split at h
 ·exact wp_cond_split (VG g) (λb=>h.1 b C E a w e f) (λb=>h.2 b C E a w e f)
 ·obtain⟨d,g,i⟩:=g;exact wp_cond_split g (λb=>h.1 (i b) C E a w e f) (λb=>h.2 C E a w e f)
 cases h
end
def PV.one:PV->Bool|.agg _=>false|.tuple _=>false|_=>true
def pvE_app(a b:List (List PV)):kA a++kA b=kA (a++b):=by simp[kA]
def pvE_len(a:List (List PV)):(kA a).length=a.length:=by simp[kA]
def So(a:List (List PV))(i:Nat):(kA a)[i]? =(a[i]?).map iA:=by simp[kA]
def fI(X:Env1)(b:Code)(Q:yB->St->Prop):Nat->St->Prop|0,_=>False|n+1,σ=>AWP X b σ (GK (fI X b Q n) Q)
def XS{X:Env1}{b:Code}{Q:yB->St->Prop}{n:Nat}{σ:St}(h:AWP X b σ (GK (fI X b Q n) Q)):fI X b Q (n+1) σ:=h
def Cd{X:Env1}{b:Code}{Q:yB->St->Prop}{C:Ctx}(i:dI X C):∀(n:Nat)(σ:St)(E:Env)(a:Act)(w:World),Ga C E σ a w->fI X b Q n σ->Code.rounds X.P b (fJ C Q) n a w
 |0,_,_,_,_,_,h=>h.elim|n+1,σ,E,a,w,c,h=>by
  refine wp_mono (h C E a w i c) ?_
  rintro e j k ⟨f,σ',l,d,c,g⟩
  cases l with
  |normal=>cases c;exact Cd i n σ' f j k d g
  |exit i=>cases c;exact⟨f,σ',.exit i,d,rfl,g⟩
  |ret=>cases c;exact⟨f,σ',.ret,d,rfl,g⟩
  |panic p=>obtain⟨v,rfl,i⟩:=c;exact⟨f,σ',.panic p,d,⟨v,rfl,i⟩,g⟩
def To(n:Nat){X:Env1}{b:Code}{Q:yB->St->Prop}{σ:St}(h:fI X b Q n σ):AWP X (.loop b) σ Q:=
 λ_ E a w c d=>wp_loop_rounds n (Cd c n σ E a w d h)
def cQ(a:List (Nat×Ob)):List Nat->List (Nat×Ob)
 |[]=>[]|n::r=>match zA a n with|some o=>(n,o)::cQ a r|none=>cQ a r
def pX(a:List (Nat×V)):List Nat->List (Nat×V)|[]=>[]|n::r=>(n,IA a n)::pX a r
def St.keep(σ:St)(b a:List Nat):St:=⟨pX σ.slots b,cQ σ.objs a,a⟩
def Dd(l:List (Nat×V)):∀a,tQ (pX l a) l|[]=>trivial|s::r=>⟨rfl,Dd l r⟩
def rX(l:List (Nat×Ob)):∀a,lB (cQ l a) l
 |[]=>trivial|n::r=>by
  unfold cQ
  cases h:zA l n with|none=>exact rX l r|some o=>exact⟨h,rX l r⟩
def Weak.keep{X:Env1}{σ:St}(b a:List Nat)(h:tE (WE (σ.keep b a).slots++lC (σ.keep b a).objs++X.given) a):Weak X σ (σ.keep b a):=
 ⟨Dd _ _,rX _ _,h⟩
def V7(a:List Oper)(b:List Eff)(jp:Nat):Bool:=
 ((List.range (jp+1)).all λj=>match a[j]?,b[j]? with
  |some c,some e=>(eF c).all (λi=>decide (i<j))&&(List.range j).all λi=>match a[i]?,b[i]? with|some b,some f=> !xD a.toArray b f c e||((sE a []).getD j 0).testBit i|_,_=>false
  |_,_=>false)&&
 ((a.drop (jp+1)).all λo=>(eF o).any λd=>decide (jp<=d))
section
variable{X:Env1}{C:Ctx}
end
def sX{S:Nat->Bool}:∀(l:List (Option Nat×Eff))(k:Nat)(σ:St),(∀i,k<=i->S i=false)->EA S k l σ=σ
 |[],k,σ,_=>rfl|p::l,k,σ,h=>by
  simp only[EA,h k (Nat.le_refl _)];exact sX l (k+1) σ (λi a=>h i (by omega))
section
variable{C:Ctx}{E:Env}{σ:St}{a:Act}{w:World}
def gI(K:List PV->PV)(n:Nat)(b:List PV):V->V|.loc m off=>if m=n then .pv (K (b.drop off))else .loc m off|x=>x
def JH(K:List PV->PV)(n:Nat)(b:List PV):List V->List V|[]=>[]|x::c=>gI K n b x::JH K n b c
def YS(K:List PV->PV)(n:Nat)(b:List PV):List (Nat×V)->List (Nat×V)|[]=>[]|(t,x)::r=>(t,gI K n b x)::YS K n b r
def gJ(K:List PV->PV)(n:Nat)(b:List PV):Ob->Ob|.box c=>.box (JH K n b c)|o=>o
def nO(K:List PV->PV)(n:Nat)(b:List PV):List (Nat×Ob)->List (Nat×Ob)|[]=>[]|(k,o)::r=>if k=n then nO K n b r else(k,gJ K n b o)::nO K n b r
def St.frb(K:List PV->PV)(σ:St)(n:Nat)(b:List PV):St:=⟨YS K n b σ.slots,nO K n b σ.objs,σ.used⟩
def Uo(K:List PV->PV)(n:Nat)(d:List PV)(b:List V):(JH K n d b).length=b.length:=by
 induction b with|nil=>rfl|cons c b d=>simp[JH,d]
def tX(K:List PV->PV)(n:Nat)(b:List PV)(l:List (Nat×V))(t:Nat):IA (YS K n b l) t=gI K n b (IA l t):=by
 induction l with
 |nil=>rfl|cons p r b=>
  simp only[YS,IA,b];split<;>rfl
def pO(K:List PV->PV)(n:Nat)(b:List PV)(l:List (Nat×Ob))(m:Nat):zA (nO K n b l) m=if m=n then none else(zA l m).map (gJ K n b):=by
 induction l with
 |nil=>simp[nO,zA]|cons p r b=>
  obtain⟨k,x⟩:=p;simp only[nO,zA];by_cases e:k=n
  ·grind
  simp only[e,if_false,zA,b]
  grind
theorem Ed(K:List PV->PV)(n:Nat)(b:List PV)(x:V):∀m∈(gI K n b x).names,m∈x.names:=by
 intro m b;unfold gI at b
 grind[V.names]
def Vo(K:List PV->PV)(n:Nat)(d:List PV)(b:List V):∀m∈BA (JH K n d b),m∈BA b:=by
 induction b with
 |nil=>intro m d;exact d|cons c b d=>
  grind[JH,BA,Ed]
def flgs:List PV->List PV->Prop|[],[]=>True|.bool c::d,.flg b::e=>(c=true->b=true)/\flgs d e|q::d,p::e=>(q=p/\∀b,p≠.flg b)/\flgs d e|_,_=>False
def kn:List PV->List Value->List Value|[],l=>l.map sn|_,[]=>[]|.flg b::c,_::l=>mark b::kn c l|_::c,v::l=>sn v::kn c l
def Msk.cons{u v:Value}{l m:List Value}(h:Msk l m)(d:(u=v/\(∀b,u≠mark b))\/u=fC\/∃b c,u=mark b/\v=.bool c/\(c=true->b=true)):Msk (u::l) (v::m):=by
 refine⟨by have:=h.1;simp;omega,λi x e f g=>?_,λi b e=>?_⟩
 ·cases i with
  |zero=>
   simp_all
  |succ i=>simpa using h.2.1 i x (by simp_all) f g
 cases i with
 |zero=>
  simp at e;subst e;rcases d with ⟨_,d⟩|d|⟨e,c,d,rfl,f⟩
  ·grind
  ·grind[absurd,jm]
  rw[vc d];simp_all
 |succ i=>simpa using h.2.2 i b (by simp_all)
theorem Wo(v:Value):(sn v=v/\∀b,sn v≠mark b)\/sn v=fC:=by
 grind[sn,fC,yc,CW]
def aX{H:Hp}:∀{f d:List PV}{l:List Value},flgs f d->RepL H f l->Msk (kn d l) l/\RepK H d (kn d l)
 |[],[],l,_,_=>⟨by simp[kn,Msk.sn],by simp[RepK]⟩|[],_::_,_,h,_=>by grind[flgs]|q::f,[],_,h,_=>by cases q<;>simp[flgs]at h
 |q::f,p::d,[],h,r=>by grind[RepL]|q::f,p::d,v::l,h,r=>by
  by_cases g:∃b,p=.flg b
  ·obtain⟨b,rfl⟩:=g;cases q<;>simp[flgs]at h;rename_i c;obtain⟨i,j⟩:=aX h.2 r.2;have m:=r.1;exact⟨i.cons (.inr (.inr ⟨b,c,rfl,m,h.1⟩)),RepK.cons (.inr ⟨b,rfl,rfl⟩) j⟩
  have g:∀b,p≠.flg b:=λb e=>g ⟨b,e⟩
  have k:q=p/\flgs f d:=by
   rw[flgs.eq_3 _ _ _ _ (λc b _ e=>g b e)]at h;simp_all
  obtain⟨rfl,k⟩:=k;obtain⟨i,j⟩:=aX k r.2;rw[kn.eq_4 _ _ _ _ (λb e=>g b e)];refine⟨i.cons ?_,RepK.cons (.inl ⟨?_,g⟩) j⟩
  ·grind[Wo]
  rw[r.1.sn];exact r.1
def eQ(K:List PV->PV)(d e:List PV):Prop:=
 ∀(H:Hp)(c:List Value),RepL H d c->∃l,Msk l c/\(∀v∈l,True)/\∀(b:Nat)(c:Hp),Hle H c->c b=l->∀off,RepP c (K (e.drop off)) (.pointer (some ⟨b,off,none⟩))
def Xo{d c:List PV}(h:flgs d c):eQ PV.nptr d c:=by
 intro H d r;obtain⟨f,g⟩:=aX h r;refine⟨kn c d,f,λ_ _=>trivial,λb d d e off=>?_⟩;exact⟨b,off,rfl,by rw[e];exact RepK.drop off (RepK.mono d c _ _ List.prefix_rfl g)⟩
def Ga.frb(h:Ga C E σ a w){K:List PV->PV}{n:Nat}{N H:List PV}(O:zA σ.objs n=some (.box (iA N)))(I:eQ K N H):∃E',Ga C E' (σ.frb K n H) a w:=by
 obtain⟨b,P,T,Q,Y,hcs,Z,R⟩:=h.objs n _ O;obtain⟨l,hl1,_,hl2⟩:=I E.H P.toList (RepVL.toPv (dc N) Z);let y:Hp:=λi=>if i=b then l else E.H i
 have J:Hle E.H y:=by
  intro i
  grind
 have D:HeapOK {E with H:=y} w:=by
  intro i hb';by_cases e:i=b
  ·grind
  have L:E.H i≠[]:=by grind
  obtain⟨c,T,fr,f,hp⟩:=h.heap i L
  grind
 have F:∀i,i≠b->y i=E.H i:=by grind
 have hE:∀m,EExt E {E with H:=y} m:=λm=>EExt.of_eq rfl rfl rfl
 have f:=h.change (E':={E with H:=y}) n none (vI σ.objs n) σ.used none .undef undef (λm=>ZP _ _ _) J (λ_ _=>⟨rfl,rfl,rfl⟩) (λ_=>hE n) (λ_=>⟨_,O⟩) (Nat.le_refl _) ⟨rfl,rfl,rfl⟩
  (λi _ r=>⟨rfl,F i (λe=>r _ O (by rw[e,Q];rfl))⟩) D (λo e=>by cases e) (λo b e=>by cases e) (λ_ h=>h) (by simp[RepV]) (by simp[V.names]) (by simp)
 have S:∀(x:V)(v:Value),RepV {E with H:=y} x v->RepV {E with H:=y} (gI K n H x) v:=by
  intro x v hx;unfold gI
  grind[RepV]
 have U:∀(A:List V)(M:List Value),RepVL {E with H:=y} A M->RepVL {E with H:=y} (JH K n H A) M:=by
  intro A
  induction A with
  |nil=>simp[JH,RepVL]|cons c A ih=>
   intro M Z
   cases M with
   |nil=>grind[RepVL]|cons v M=>
    grind[RepVL,JH]
 refine⟨{E with H:=y},?_,f.size,f.defers,f.heap,?_,?_,?_,?_,f.usedG,f.grown,f.rest,f.same,f.hle,?_,f.ext,λk z=>⟨(f.keep k z).1,?_,(f.keep k z).2.2⟩⟩
 ·intro t;simp only[St.frb,tX];exact S _ _ (f.slots t)
 ·intro m o d;simp only[St.frb,pO]at d;split at d
  ·cases d
  rename_i r
  cases g:zA σ.objs m with
  |none=>rw[g]at d;cases d
  |some q=>
   rw[g]at d;simp only[Option.map_some,Option.some.injEq]at d;subst d;have B:zA (vI σ.objs n) m=some q:=by rw[ZP,if_neg r,g]
   have j:=f.objs m q B
   cases q with
   |box A=>
    obtain⟨b,c,T,h1,h2,h3,h4,h5⟩:=j;exact⟨b,c,T,h1,h2,by rw[h3,Uo],U A _ h4,h5⟩
   |arr v s t G=>exact j|smap s es=>exact j|siter l p=>exact j|raw v x=>exact j|grow v s t G=>exact j
 ·intro m m' o o' d u r b W;simp only[St.frb,pO]at d u;split at d
  ·cases d
  split at u
  ·cases u
  cases g:zA σ.objs m with
  |none=>rw[g]at d;cases d
  |some q=>
   cases B:zA σ.objs m' with
   |none=>rw[B]at u;cases u
   |some q'=>exact h.apart m m' q q' g B r b W
 ·intro t m d;simp only[St.frb,tX]at d;exact h.usedS t m (Ed K n H _ m d)
 ·intro m o d;simp only[St.frb,pO]at d;split at d
  ·cases d
  cases g:zA σ.objs m with
  |none=>rw[g]at d;cases d
  |some q=>
   rw[g]at d;simp only[Option.map_some,Option.some.injEq]at d;subst d;refine⟨(h.usedO m q g).1,λk z=>(h.usedO m q g).2 k ?_⟩
   cases q with|box A=>exact Vo K n H A k z|arr v s t G=>exact z|smap s es=>exact z|siter l p=>exact z|raw v x=>exact z|grow v s t G=>exact z
 ·intro m o b d W X;simp only[St.frb,pO]at d;split at d
  ·cases d
  cases g:zA σ.objs m with
  |none=>rw[g]at d;cases d
  |some q=>exact h.own m q b g W X
 simp only[St.frb,pO];have:=(h.keep k z).2.1;split
 ·rfl
 rw[this];rfl
end
def Ga.entry{X:Env1}{fn:Func}(a:fn.ntmps=X.nt){args:List V}{objs:List (Nat×Ob)}{ms:List Nat}(a:args.length<=X.nt)(f:∀n∈ms,n∉jA objs)
  (a:tE (BA args++lC objs) (jA objs++ms)) {E:Env} {w:World} {d:List Value} (g:uI X.gl E w objs) (c:d.length=args.length) (h:RepVL E args d):
  Ga ⟨E,w,objs,ms,X.nt,[]⟩ E ⟨vE 0 args,objs,jA objs++ms⟩ {tmps:=d.toArray++Array.replicate (fn.ntmps-d.toArray.size) undef,defers:=[]} w:=by
 have a:=GM a;have c:∀{l:List (Nat×Ob)}{n:Nat},n∉jA l->zA l n=none:=by
  intro l n a
  cases e:zA l n with|none=>rfl|some o=>grind[absurd,rC]
 refine⟨?_,?_,⟨rfl,by simp[WF]⟩,g.heap,g.obs,g.apart,?_,?_,λn o a=>List.mem_append.2 (.inl (rC a)),Nat.le_refl _,⟨rfl,rfl,rfl⟩,λ_ _ _=>⟨λ_=>rfl,rfl⟩,Hle.refl _,λn o b a g _=>⟨n,o,a,g⟩,λn o _=>EExt.refl _ _,
  λn a=>⟨List.mem_append.2 (.inr a),c (f n a),rfl,rfl,rfl⟩⟩
 ·intro t;rw[aQ];simp only[Nat.zero_le,if_true,Nat.sub_zero];by_cases f:t<args.length
  ·have c:=RepVL.iff.1 h t args[t] (List.getElem?_eq_getElem f);obtain⟨v,g,f⟩:=c;have c:args.getD t .undef=args[t]:=by simp_all
   rw[c];have c:(d.toArray++Array.replicate (fn.ntmps-d.toArray.size) undef).getD t undef=v:=by
    rw[Array.getD_eq_getD_getElem?,Array.getElem?_append_left (by simp;omega)];simp[g]
   rw[c];exact f
  grind[List.getD,RepV]
 ·simp;omega
 ·intro t n a;have:n∈WE (vE 0 args):=dX a;have key:∀(a:List V)(k:Nat),n∈WE (vE k a)->n∈BA a:=by
   intro a
   induction a with
   |nil=>simp[vE,WE]|cons x a c=>
    grind[vE,WE,BA]
  grind
 grind[rC,HM]
def Ga.done{C:Ctx}{f:Env}{σ':St}{c:Act}{d:World}(a:Ga C f σ' c d){objs':List (Nat×Ob)}
  (p:∀m o,zA objs' m=some o->∀n∈o.names,n∈(jA C.given++C.ms)++jA objs') (c:lB objs' σ'.objs):
  ∃g:Env,EH C.E0 C.w0 C.given g d objs'/\g.H=f.H/\∀n∈(jA C.given++C.ms)++jA objs',EExt f g n:=by
 let g:Env:=⟨f.H,λn=>if n∈jA C.given++jA objs' then f.g n else C.E0.g n,λn=>if n∈jA C.given++jA objs' then f.ver n else C.E0.ver n,λn=>if n∈jA C.given++jA objs' then f.sz n else C.E0.sz n⟩;have e:∀n∈jA C.given++jA objs',g.g n=f.g n/\g.ver n=f.ver n/\g.sz n=f.sz n:=by
  grind
 have j:∀n∈jA C.given++jA objs',EExt f g n:=λn d=>EExt.of_eq (e n d).1 (e n d).2.1 (e n d).2.2
 have k:∀n∈(jA C.given++C.ms)++jA objs',EExt f g n:=by
  intro n d;by_cases f:n∈jA C.given++jA objs'
  ·simp_all
  have i:n∈C.ms:=by
   simp_all
  have l:¬(n∈jA C.given\/n∈jA objs'):=λh=>f (List.mem_append.2 h)
  obtain⟨_,_,r,r,r⟩:=a.keep n i
  grind[EExt.of_eq]
 have c:=AK c;have i:∀n o,zA objs' n=some o->n∈jA C.given++jA objs':=λn o d=>List.mem_append.2 (.inr (rC d))
 refine⟨g,⟨λb g=>a.heap b g,?_,?_,a.hle,a.grown,a.rest,?_,?_,?_,?_⟩,rfl,k⟩
 ·intro n o d;have f:=i n o d;exact(a.objs n o (c n o d)).mono (Hle.refl _) (e n f).1 (e n f).2.1 (e n f).2.2 (λm l=>k m (p n o d m l)) (λb _=>⟨rfl,rfl⟩)
 ·intro n m o k d f l b g;rw[(e n (i n o d)).1]at g;rw[(e m (i m k f)).1];exact a.apart n m o k (c n o d) (c m k f) l b g
 ·intro b g l;exact a.same b g (by rintro⟨n,o,d,l⟩;simp_all)
 ·intro n o b d g;rw[(e n (i n o d)).1]at g;by_cases e:b<C.w0.heap.size
  ·obtain⟨m,k,f,i⟩:=a.own n o b (c n o d) g e
   grind
  omega
 ·intro n o d;have f:n∈jA C.given++jA objs':=List.mem_append.2 (.inl (rC d));exact(a.ext n o d).trans (j n f)
 grind[jA,DH]
def iQ(P:Program)(f:Nat->Option (List PV))(g:Nat)(a:List V)(b:List (Nat×Ob))(p:PV)(c:List (Nat×Ob)):Prop:=
 ∀(E:Env)(w:World)(d:List Value)(v:Value),uI f E w b->d.length=a.length->RepVL E a d->RepP E.H p v->
  CallsD P g d.toArray (.panicking [{v,recovered:=false}]) w λe a d=>(∃r,e=.returned r)/\a=.panicking [{v,recovered:=true}]/\∃a,EH E w b a d c
def cX(P:Program)(b:Nat)(n:Nat):Prop:=
 ∀(w:World)(a:List Value),a.length=n->CallsD P b a.toArray .returning w λe a b=>(∃r,e=.returned r)/\a=.returning/\b=w
def Yo{X:Env1}{t:Nat}{fn:Func}{c:Code}{id k:Nat}{o:Oper}(u:X.P.funcs[t]? =some fn)(z:fn.body=some (.seq (.region id #[o] false) c))(l:fn.ntmps=X.nt)
  (i:∀ρ w,(execOp ρ o).run X.P w=.ok .recover w) (j:o.dst=some k) (r:o.guard=none) (a:k<X.nt) {d:List V} {b:List (Nat×Ob)} {p:PV} {x:V} {a:List (Nat×Ob)}
  (f:X.given=jA b) (s:d.length<=X.nt) (g:tE (BA d++lC b) (jA b)) (g:tE (lC a) (jA b++jA a))
  (h:AWP X c ⟨(k,.pv p)::vE 0 d,b,jA b⟩ (td X fn.results.toList (.ret x) a)):iQ X.P X.gl t d b p a:=by
 intro E w d v t A B d;have g:=GM g;refine callsD_of_wpS u z λc₀ u z=>?_
 apply wpS_seq;apply wpS_region;have d:=Ga.entry (X:=X) (fn:=fn) (ms:=[]) l s (by simp) (by simp_all) t A B;simp only[List.append_nil]at d;have l:=d.pure E.H (some k) (.pv p) v (Hle.refl _) (Nat.le_refl _) ⟨rfl,rfl,rfl⟩ (λ_ _=>⟨rfl,rfl⟩) d.heap (by grind[RepV]) (by simp[V.names]) (by simp_all);have p:dI X ⟨E,w,b,[],X.nt,[]⟩:=⟨t.glob,rfl,λn o k=>by rw[f];exact rC k,by simp,by simp[WF]⟩;have d:=h _ _ _ _ p l;have f:List.range (#[o]:Array Oper).size=[0]:=rfl;rw[f];simp only[wpOpsS,List.getElem?_toArray,List.getElem?_cons_zero,Region.wanted,r,if_true,i,recoverD,z,j,Exit.thenS];refine wpS_of_wp (wp_mono d ?_)
 rintro e l i ⟨p,σ',z,f,d,j⟩
 have s:(∃y,qG X σ' fn.results.toList=some y)->lB a σ'.objs->l.defers=[]/\∃t,({c₀ with mode:=.panicking [{v,recovered:=true}]}::u:List Frame)={c₀ with mode:=t}::u/\∃r,(results fn l.tmps).run X.P i=.ok r i/\
   ((∃l,Ending.returned r=.returned l)/\t=.panicking [{v,recovered:=true}]/\∃p,EH E w b p i a):=by
  rintro⟨y,l⟩ b
  obtain⟨r,i,_⟩:=gX X.ok f l;obtain⟨l,p,_⟩:=f.done (objs':=a) (by
   intro m o a n k;have:=g n ((HM a).2 n k);simp_all) b
  exact⟨f.defers.1,_,rfl,r,i,⟨_,rfl⟩,rfl,l,p⟩
 cases z with
 |normal=>cases d;exact s ⟨_,j.1⟩ j.2
 |ret=>cases d;exact s ⟨_,j.1⟩ j.2
 |exit i=>exact j.elim|panic q=>exact j.1.elim
def Ga.defer{C:Ctx}{E:Env}{σ:St}{a:Act}{w:World}(h:Ga C E σ a w){f:Nat}{b:List V}{c:List Value}(d:c.length=b.length)(e:RepVL E b c)(g:∀n∈BA b,n∈σ.used):
  Ga {C with defs:=(f,b)::C.defs} E σ {a with defers:={target:=.fn (.func f) c.toArray,args:=#[]}::a.defers} w:=
 ⟨h.slots,h.size,⟨⟨c,a.defers,rfl,d,e,h.defers.1⟩,λn b=>by
  simp only[WF,List.mem_append]at b;rcases b with b|b
  ·simp_all
  exact h.defers.2 n b⟩,h.heap,h.objs,h.apart,h.usedS,h.usedO,h.usedG,h.grown,h.rest,h.same,h.hle,h.own,h.ext,h.keep⟩
def Fd(X:Env1)(d:List ResultVar)(e:Nat)(c:List V)(x:V)(a:List (Nat×Ob)):yB->St->Prop
 |.normal,σ=>qG X σ d=some x/\lB a σ.objs|.ret,σ=>qG X σ d=some x/\lB a σ.objs|.panic p,σ=>∃co b:List (Nat×Ob),iQ X.P X.gl e c co p b/\lB co σ.objs/\jA b=jA co/\lC b=jA b/\
   qG X (σ.eff none (MC .undef co b)) d=some x/\lB a (σ.eff none (MC .undef co b)).objs
 |.exit _,_=>False
def Env1.more(X:Env1)(l:List Nat):Env1:={X with given:=X.given++l}
mutual
def V.ren(ρ:Nat->Nat):V->V|.undef=>.undef|.pv p=>.pv p|.loc n off=>.loc (ρ n) off|.eloc n a i off=>.eloc (ρ n) a i off|.arr n a len=>.arr (ρ n) a len|.map n=>.map (ρ n)|.vsl b=>.vsl (XE ρ b)|.fsl b=>.fsl b|.gsl n a b=>.gsl (ρ n) a b|.fn f a=>.fn f (ND ρ a)|.bfn f a=>.bfn f (ND ρ a)|.agg a=>.agg (ND ρ a)|.tuple a=>.tuple (ND ρ a)
def ND(ρ:Nat->Nat):List V->List V|[]=>[]|c::a=>c.ren ρ::ND ρ a
def XE(ρ:Nat->Nat):List (List V)->List (List V)|[]=>[]|e::a=>ND ρ e::XE ρ a
end
def Zo(ρ:Nat->Nat)(l:List V):ND ρ l=l.map (V.ren ρ):=by
 induction l with|nil=>rfl|cons c l a=>simp[ND,a]
def Hd(ρ:Nat->Nat)(l:List (List V)):XE ρ l=l.map (ND ρ):=by
 induction l with|nil=>rfl|cons c l a=>simp[XE,a]
def HK(ρ:Nat->Nat)(l:List V):(ND ρ l).length=l.length:=by simp[Zo]
def Jd(ρ:Nat->Nat)(l:List (List V)):(XE ρ l).length=l.length:=by simp[Hd]
def hJ(ρ:Nat->Nat):List (SK×V)->List (SK×V)|[]=>[]|(k,x)::r=>(k,x.ren ρ)::hJ ρ r
def Ob.ren(ρ:Nat->Nat):Ob->Ob|.box a=>.box (ND ρ a)|.arr b c d a=>.arr b c d (XE ρ a)|.smap s a=>.smap s (hJ ρ a)|.siter l p=>.siter l p|.raw v x=>.raw v x|.grow v s t a=>.grow v s t a
def YE(ρ:Nat->Nat):List (Nat×Ob)->List (Nat×Ob)|[]=>[]|(n,o)::r=>(ρ n,o.ren ρ)::YE ρ r
def Out.ren(ρ:Nat->Nat):Out->Out|.ret x=>.ret (x.ren ρ)|.panic p=>.panic p
def Env.comp(E:Env)(ρ:Nat->Nat):Env:=⟨E.H,λn=>E.g (ρ n),λn=>E.ver (ρ n),λn=>E.sz (ρ n)⟩
mutual
theorem RepV.ren{E:Env}{ρ:Nat->Nat}:∀(x:V)(v:Value),RepV E (x.ren ρ) v↔RepV (E.comp ρ) x v
 |.undef,_=>by simp[V.ren,RepV]|.pv p,v=>by simp[V.ren,RepV,Env.comp]|.loc n off,v=>by simp[V.ren,RepV,Env.comp]|.eloc n b i off,v=>by simp[V.ren,RepV,Env.comp]|.arr n b len,v=>by simp[V.ren,RepV,Env.comp]|.map n,v=>by simp[V.ren,RepV,Env.comp]|.vsl a,v=>by
  simp only[V.ren,RepV,Jd];have h:∀c,RepVE E (XE ρ a) c↔RepVE (E.comp ρ) a c:=RepVE.ren a;have c:XE ρ a=[]↔a=[]:=by cases a<;>simp[XE]
  simp only[h,c];rfl
 |.fsl a,v=>by simp[V.ren,RepV,Env.comp]|.gsl n b a,v=>by simp[V.ren,RepV,Env.comp]|.fn f a,v=>by simp only[V.ren,RepV,HK,RepVL.ren a]|.bfn f a,v=>by simp only[V.ren,RepV,HK,RepVL.ren a]|.agg a,v=>by simp only[V.ren,RepV,HK,RepVL.ren a]|.tuple a,v=>by simp only[V.ren,RepV,HK,RepVL.ren a]
theorem RepVL.ren{E:Env}{ρ:Nat->Nat}:∀(a:List V)(b:List Value),RepVL E (ND ρ a) b↔RepVL (E.comp ρ) a b|[],_=>by simp[ND,RepVL]|c::a,[]=>by simp[ND,RepVL]|c::a,v::b=>by simp only[ND,RepVL,RepV.ren c v,RepVL.ren a b]
theorem RepVE.ren{E:Env}{ρ:Nat->Nat}:∀(b:List (List V))(a:List Value),RepVE E (XE ρ b) a↔RepVE (E.comp ρ) b a|[],_=>by simp[XE,RepVE]|e::b,a=>by simp only[XE,RepVE,HK,RepVL.ren e a,RepVE.ren b (a.drop e.length)]
end
theorem EntsS.ren{E:Env}{ρ:Nat->Nat}{s:Bool}:∀(a:List (SK×V))(b:List MapEntry),EntsS E s (hJ ρ a) b↔EntsS (E.comp ρ) s a b|[],[]=>Iff.rfl|[],_::_=>Iff.rfl|(k,x)::a,[]=>Iff.rfl|(k,x)::a,m::b=>by simp[hJ,EntsS,RepV.ren,EntsS.ren]
theorem ObOK.ren{E:Env}{w:World}{ρ:Nat->Nat}{n:Nat}(o:Ob):ObOK E w (ρ n) (o.ren ρ)↔ObOK (E.comp ρ) w n o:=by
 cases o with
 |box a=>simp only[Ob.ren,ObOK,HK,RepVL.ren a];rfl|arr c b d a=>
  have h:(∀e∈XE ρ a,e.length=b)↔∀e∈a,e.length=b:=by
   rw[Hd];simp[HK]
  simp only[Ob.ren,ObOK,Jd,RepVE.ren a,h];rfl
 |smap s a=>simp only[Ob.ren,ObOK,EntsS.ren a];rfl|siter l p=>rfl|raw v x=>rfl|grow v s t a=>rfl
mutual
theorem V.ren_names(ρ:Nat->Nat):∀x:V,(x.ren ρ).names=x.names.map ρ|.undef=>rfl|.pv _=>rfl|.loc _ _=>rfl|.eloc _ _ _ _=>rfl|.arr _ _ _=>rfl|.map _=>rfl|.vsl a=>by simp only[V.ren,V.names,eX ρ a]|.fsl _=>rfl|.gsl _ _ _=>rfl|.fn _ a=>by simp only[V.ren,V.names,IK ρ a]|.bfn _ a=>by simp only[V.ren,V.names,IK ρ a]|.agg a=>by simp only[V.ren,V.names,IK ρ a]|.tuple a=>by simp only[V.ren,V.names,IK ρ a]
theorem IK(ρ:Nat->Nat):∀l:List V,BA (ND ρ l)=(BA l).map ρ|[]=>rfl|c::a=>by simp only[ND,BA,V.ren_names ρ c,IK ρ a,List.map_append]
theorem eX(ρ:Nat->Nat):∀l:List (List V),wB (XE ρ l)=(wB l).map ρ|[]=>rfl|e::a=>by simp only[XE,wB,IK ρ e,eX ρ a,List.map_append]
end
def Kd(ρ:Nat->Nat):∀l:List (SK×V),IC (hJ ρ l)=(IC l).map ρ|[]=>rfl|(k,x)::r=>by simp[hJ,IC,V.ren_names,Kd,List.map_append]
theorem Ob.ren_names(ρ:Nat->Nat)(o:Ob):(o.ren ρ).names=o.names.map ρ:=by
 cases o with|box a=>simp[Ob.ren,Ob.names,IK]|arr b c d a=>simp[Ob.ren,Ob.names,eX]|smap s a=>simp[Ob.ren,Ob.names,Kd]|siter l p=>rfl|raw v x=>rfl|grow v s t a=>rfl
section
variable{ρ:Nat->Nat}(hρ:∀n,ρ (ρ n)=n)
include hρ
theorem Ld{a b:Nat}(h:ρ a=ρ b):a=b:=by rw[<-hρ a,h,hρ]
theorem iX(l:List (Nat×Ob))(n:Nat):zA (YE ρ l) n=(zA l (ρ n)).map (Ob.ren ρ):=by
 induction l with
 |nil=>rfl|cons p r a=>
  grind[YE,zA]
theorem ZS(l:List (Nat×Ob)):jA (YE ρ l)=(jA l).map ρ:=by
 induction l with
 |nil=>rfl|cons p r a=>
  grind[YE,jA]
theorem Md(args:List V)(l:List (Nat×Ob)):VE (ND ρ args) (YE ρ l)=(VE args l).map ρ:=by
 have h:KC (YE ρ l)=(KC l).map ρ:=by
  induction l with
  |nil=>rfl|cons p r a=>
   grind[YE,KC,Ob.ren_names]
 grind[VE,IK]
theorem AC.ren{P:Program}{s:Nat->Option (List PV)}{f:Nat}{args:List V}{i:List (Nat×Ob)}{out:Out}{a:List (Nat×Ob)}(h:AC P s f args i out a):
  AC P s f (ND ρ args) (YE ρ i) (out.ren ρ) (YE ρ a):=by
 have a:∀{l:List Nat}{n:Nat},n∈l.map ρ↔ρ n∈l:=by
  grind
 have g:∀{l:List (Nat×Ob)}{n:Nat}{o:Ob},zA (YE ρ l) n=some o->∃k,zA l (ρ n)=some k/\k.ren ρ=o:=by
  intro l n o c;rw[iX hρ]at c;simp_all
 have d:∀{l:List (Nat×Ob)}{n:Nat}{o:Ob},zA l n=some o->zA (YE ρ l) (ρ n)=some (o.ren ρ):=by
  intro l n o c;rw[iX hρ,hρ,c];rfl
 have j:∀{l:List (Nat×Ob)}{n:Nat},zA (YE ρ l) n=none->zA l (ρ n)=none:=by
  intro l n c;rw[iX hρ]at c;simp_all
 refine⟨h.direct,?_,?_,?_⟩
 ·intro n c;rw[ZS hρ,ZS hρ,Md hρ,a,a,a]
  cases out with
  |ret x=>
   simp only[Out.ren,Out.names,V.ren_names,a]at c;exact h.names (ρ n) c
  |panic p=>simp[Out.ren,Out.names]at c
 ·intro m o l n c;obtain⟨k,r,rfl⟩:=g l;rw[Ob.ren_names,a]at c;rw[ZS hρ,ZS hρ,Md hρ,a,a,a];exact h.namesO _ k r _ c
 intro E w y a z A;have u:uI s (E.comp ρ) w i:=by
  refine⟨a.heap,a.glob,λn o c=>(ObOK.ren o).1 (a.obs _ _ (d c)),λn m o k c l s b t=>?_⟩;exact a.apart (ρ n) (ρ m) _ _ (d c) (d l) (λe=>s (Ld hρ e)) b t
 refine(h.calls (E.comp ρ) w y u (by rw[z,HK]) ((RepVL.ren args y).1 A)).mono ?_
 rintro e a ⟨u,i,z⟩
 have a:∀F:Env,(F.comp ρ).comp ρ=F:=by
  intro F;simp[Env.comp,hρ]
 refine⟨u.comp ρ,⟨i.heap,?_,?_,i.hle,i.size,i.rest,?_,?_,?_,?_⟩,?_⟩
 ·intro n o c;obtain⟨k,r,rfl⟩:=g c;have:=i.obs _ k r;rw[<-a u]at this;have:=(ObOK.ren (E:=u.comp ρ) (n:=ρ n) k).2 this;rwa[hρ]at this
 ·intro n m o k c l s b t;obtain⟨q,r,_⟩:=g c;obtain⟨A,y,_⟩:=g l;exact i.apart (ρ n) (ρ m) q A r y (λe=>s (Ld hρ e)) b t
 ·intro b t s;refine i.same b t (λn o c e=>?_);exact s (ρ n) _ (d c) e
 ·intro n o b c t;obtain⟨q,r,_⟩:=g c;rcases i.own (ρ n) q b r t with s|⟨m,k,l,k⟩
  ·exact .inl s
  exact .inr ⟨ρ m,_,d l,k⟩
 ·intro n o c;obtain⟨q,r,_⟩:=g c;have:=i.ext (ρ n) q r;simpa[EExt,Env.comp,hρ]using this
 ·intro n s c;have:=i.other (ρ n) (j s) (j c);simpa[Env.comp,hρ]using this
 cases out with
 |ret x=>
  obtain⟨v,rfl,c⟩:=z;refine⟨v,rfl,?_⟩;rw[<-a u]at c;exact(RepV.ren x v).2 c
 |panic p=>
  obtain⟨v,rfl,c⟩:=z;exact⟨v,rfl,c⟩
end
def W7(a b:Nat)(n:Nat):Nat:=if n=a then b else if n=b then a else n
end Go.Lg
namespace Go.Lg
def Fgt(σ σ2:St):Prop:=∀(C:Ctx)(E:Env)(a:Act)(w:World),Ga C E σ a w->Ga C E σ2 a w
theorem Fgt.refl(σ:St):Fgt σ σ:=λ_ _ _ _ h=>h
def Fgt.box{σ:St}{n:Nat}{d b:List V}(k:zA σ.objs n=some (.box d))(j:b.length=d.length)(h:∀(i:Nat)(x:V),b[i]? =some x->x=V.undef\/d[i]? =some x):Fgt σ ⟨σ.slots,tB σ.objs n (.box b),σ.used⟩:=by
 intro C E a w f;have:=f.change (E':=E) n (some (.box b)) (tB σ.objs n (.box b)) σ.used none .undef undef (λm=>gD _ _ _ _) (Hle.refl _)
  (λ_ _=>⟨rfl,rfl,rfl⟩) (λ_=>EExt.refl _ _) (λ_=>⟨_,k⟩) (Nat.le_refl _) ⟨rfl,rfl,rfl⟩ (λ_ _ _=>⟨rfl,rfl⟩) f.heap ?_ ?_ (λ_ h=>h) (by simp[RepV]) (by simp[V.names]) (by simp)
 ·exact this
 ·intro o e;cases e;obtain⟨l,c,T,o,p,g,d,r⟩:=f.objs n _ k;refine⟨⟨l,c,T,o,p,by rw[j,g],?_,r⟩,(f.usedO n _ k).1,?_⟩
  ·rw[RepVL.iff]at d⊢;intro j x l;rcases h j x l with rfl|g
   ·have o:j<b.length:=(List.getElem?_eq_some_iff.1 l).1;obtain⟨v,b,_⟩:=d j _ (List.getElem?_eq_getElem (by omega))
    grind[RepV]
   simp_all
  intro m b;obtain⟨x,l,b⟩:=mem_namesL.1 (by simpa only[Ob.names]using b);obtain⟨i,d⟩:=List.mem_iff_getElem?.1 l;rcases h i x d with rfl|g
  ·grind[V.names]
  exact(f.usedO n _ k).2 m (mem_namesL.2 ⟨x,List.mem_of_getElem? g,b⟩)
 simp_all
end Go.Lg
namespace Go.Lg
end Go.Lg
namespace Go.Lg
def AC.le{P:Program}{e:Nat->Option (List PV)}{f:Nat}{args a:List V}{b c:List (Nat×Ob)}{out:Out}(h:AC P e f a b out c)(i:args.length=a.length)(g:VE args b=VE a b)
  (j:∀E d,RepVL E args d->RepVL E a d):AC P e f args b out c:=
 ⟨h.direct,by rw[g];exact h.names,by rw[g];exact h.namesO,λE w d a b c=>h.calls E w d a (b.trans i) (j E d c)⟩
def AC.leO{P:Program}{c:Nat->Option (List PV)}{f:Nat}{args:List V}{b a:List (Nat×Ob)}{p q:PV}(h:AC P c f args b (.ret (.pv p)) a)(d:∀H v,RepP H p v->RepP H q v):AC P c f args b (.ret (.pv q)) a:=by
 refine⟨h.direct,h.names,h.namesO,λE w b c a g=>(h.calls E w b c a g).mono ?_⟩
 rintro e b ⟨b,c,v,g,a⟩
 exact⟨b,c,v,g,d _ _ a⟩
theorem zp{H:Hp}{v:Value}(h:RepP H .nils v):RepP H (.slice []) v:=by
 grind[RepP]
end Go.Lg
