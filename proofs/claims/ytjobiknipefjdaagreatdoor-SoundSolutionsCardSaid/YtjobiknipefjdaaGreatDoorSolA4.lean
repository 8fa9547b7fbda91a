/- The logic of contracts; no conditions. -/
import Derived.Test.YtjobiknipefjdaaGreatDoorSolA3
import Derived.LoopN
import Derived.Defers
import Derived.Recover
set_option linter.all false
namespace Go.Lg
def TIOK.mk'{P:Program}{t:Nat}{a:TI}{d:TypeDesc}(b:(P.info? t).map (λi=>(i.size,i.bytes,i.zero))=some (a.size,a.bytes,some a.zero))(b:P.underlying t=some d)(c:EC P d a.k)
  (e:a.zero.cells.size=a.size) (f:RepL (λ_=>[]) a.zc a.zero.cells.toList) (g:a.zc.length=a.size) (h:a.k.isIface=true\/P.concrete t=true):TIOK P t a:=by
 refine⟨?_,⟨d,b,c⟩,e,f,g,h⟩;simp_all
def gH(X:Env1)(σ:St):ResultVar->Option V
 |.tmp t=>some (IA σ.slots t)|.cell a t=>match X.T t,IA σ.slots a with
  |some b,.loc n off=>match zA σ.objs n with|some (.box c)=>OH b.isAgg b.size (c.drop off)|_=>none
  |_,_=>none
def lH(X:Env1)(σ:St):List ResultVar->Option (List V)
 |[]=>some []|r::a=>match gH X σ r,lH X σ a with|some x,some a=>some (x::a)|_,_=>none
def ZN(a:List V):V:=match a with
 |[x]=>x|a=>match kE a with|some b=>.pv (.tuple b)|none=>.tuple a
def OF(X:Env1)(σ:St)(a:List ResultVar):Option V:=(lH X σ a).map ZN
def No{E:Env}{a:List V}{vs:Array Value}(c:vs.size=a.length:=by omega)(r:RepVL E a vs.toList:=by omega):RepV E (ZN a) (if h:vs.size=1 then vs[0]else .tuple vs):=by
 unfold ZN;split
 ·have b:vs.size=1:=by omega
  have:vs.toList=[vs[0]]:=by
   apply List.ext_getElem
   ·omega
   simp_all
  grind[RepVL]
 have b:¬vs.size=1:=by
  intro b;rw[b]at c
  cases a with
  |nil=>simp at c|cons x a=>
   cases a with|nil=>grind|cons y d=>simp at c
 rw[dif_neg b]
 grind[RepV,RepP,CS,RepVL.toPv]
section
variable{X:Env1}{C:Ctx}{E:Env}{σ:St}{a:Act}{w:World}
def Oo(u:BB X.P X.T)(h:Ga C E σ a w){r:ResultVar}{x:V}(d:gH X σ r=some x):
  ∃v,((match r with
   |.tmp t=>pure (a.tmps.getD t undef)|.cell b t=>do loadVar t (<-asAddr (a.tmps.getD b undef))):Sem Value).run X.P w=.ok v w/\RepV E x v:=by
 cases r with
 |tmp t=>
  simp only[gH,Option.some.injEq]at d;subst d;exact⟨_,rfl,h.slots t⟩
 |cell b t=>
  simp only[gH]at d;split at d
  ·rename_i i n off y z;split at d
   ·rename_i K A;have g:=u t i y;have o:=h.slots b;rw[z]at o;obtain⟨p,B,D⟩:=o;obtain⟨L,c,M,s,j,F,k,_⟩:=h.objs n _ A;obtain⟨G,N,O⟩:=NW d (k.drop off);have f:∀v,(Instr.loadAt t (.pointer (some ⟨p,off,none⟩))).run X.P w=.ok v w->(do loadVar t (<-asAddr (a.tmps.getD b undef)):Sem Value).run X.P w=.ok v w:=by
     intro v H;rw[D];exact H
    cases e:i.isAgg with
    |true=>
     obtain⟨I,J⟩:=G e;by_cases P:off+i.size<=c.size
     ·grind[qQ]
     have l:i.size=0:=by grind
     have m:(loadCells ⟨p,off,none⟩ 0).run X.P w=.ok #[] w:=by rfl
     refine⟨_,f _ ?_,J⟩;simp[Instr.loadAt,Instr.sureAddr,loadVar,g.run_agg,e,g.run_size,l,m]
    |false=>
     grind[zQ]
   cases d
  cases d
def od(g:BB X.P X.T)(h:Ga C E σ a w):∀{f:List ResultVar}{d:List V},lH X σ f=some d->
  ∃e:List Value,(f.mapM λr=>match r with|.tmp t=>pure (a.tmps.getD t undef)|.cell b t=>do loadVar t (<-asAddr (a.tmps.getD b undef)):Sem (List Value)).run X.P w=.ok e w/\e.length=d.length/\RepVL E d e
 |[],d,c=>by
  simp only[lH,Option.some.injEq]at c;subst c;exact⟨[],rfl,rfl,by simp[RepVL]⟩
 |r::f,d,c=>by
  simp only[lH]at c;split at c
  ·rename_i x i j k;cases c;obtain⟨v,p,l⟩:=Oo g h j;obtain⟨e,m,n,o⟩:=od g h k;refine⟨v::e,?_,by simp[n],by grind[RepVL]⟩;simp_all
  cases c
def gX(e:BB X.P X.T)(h:Ga C E σ a w){fn:Func}{x:V}(b:OF X σ fn.results.toList=some x):∃v,(results fn a.tmps).run X.P w=.ok v w/\RepV E x v:=by
 unfold OF at b
 cases c:lH X σ fn.results.toList with
 |none=>rw[c]at b;cases b
 |some g=>
  rw[c]at b;simp only[Option.map_some,Option.some.injEq]at b;subst b;obtain⟨vs,d,i,f⟩:=od e h c;refine⟨_,?_,No (vs:=vs.toArray)⟩;unfold results;rw[Array.mapM_eq_mapM_toList];simp only[Sem.run_bind,map_eq_pure_bind]
  erw [d]
  rfl
end
def TD:Nat->List V->List (Nat×V)|_,[]=>[]|k,x::a=>(k,x)::TD (k+1) a
def lQ:∀(a:List V)(k t:Nat),IA (TD k a) t=if k<=t then a.getD (t-k) .undef else .undef
 |[],k,t=>by simp[TD,IA]|x::a,k,t=>by
  simp only[TD,IA];by_cases e:k=t
  ·simp_all
  rw[lQ a (k+1) t]
  grind
def mM(X:Env1)(σ:St)(a:List ResultVar):Out->Prop|.ret x=>OF X σ a=some x|.panic _=>False
def xd(X:Env1)(b:List ResultVar)(out:Out)(a:List (Nat×Ob)):EB->St->Prop|.normal,σ=>mM X σ b out/\rB a σ.objs|.ret,σ=>mM X σ b out/\rB a σ.objs|.panic p,σ=>(match out with|.ret _=>False|.panic q=>p=q)/\rB a σ.objs|.exit _,_=>False
def AC.of_body{X:Env1}(hT:BB X.P X.T){f:Nat}{fn:Func}{c:Code}(hf:X.P.funcs[f]? =some fn)(y:fn.body=some c)(N:(fn.name== "runtime.NumGoroutine")=false)(hnt:fn.ntmps=X.nt)
  {args:List V} {d:List (Nat×Ob)} {out:Out} {a:List (Nat×Ob)} {ms:List Nat} (z:X.given=jA d++ms) (hal:args.length<=X.nt)
  (J:eE ms (HE args d)) (T:∀n∈ms,n∉jA d) (hms3:∀n∈ms,n∉jA a)
  (O:eE (CA args++gC d) (jA d++ms)) (B:eE (out.names++gC a) ((jA d++ms)++jA a))
  (h:AWP X c ⟨TD 0 args,d,jA d++ms⟩ (xd X fn.results.toList out a)):AC X.P X.gl f args d out a:=by
 have O:=gM O;have B:=gM B;have J:=gM J;have K:∀n,n∈(jA d++ms)++jA a->n∈jA d\/n∈jA a\/n∈HE args d:=by
  grind
 have P:∀{l:List (Nat×Ob)}{n:Nat},n∉jA l->zA l n=none:=by
  intro l n g
  cases e:zA l n with
  |none=>rfl
  |some o=>grind[absurd,fC]
 refine⟨⟨fn,hf,N,by rw[y];rfl⟩,λn g=>K n (B n (by simp[g])),λm o u n g=>K n (B n (by grind[lM])),?_⟩;intro E w vs hB hl hr;refine calls_of_wp hf y ?_;let C:Ctx:=⟨E,w,d,ms,X.nt,[]⟩;have hC:TH X C:=⟨hB.glob,rfl,λn o g=>by rw[z];grind,λn g=>by rw[z];grind,by simp[C,IF]⟩;have hG:Ga C E ⟨TD 0 args,d,jA d++ms⟩ {tmps:=vs.toArray++Array.replicate (fn.ntmps-vs.toArray.size) undef,defers:=[]} w:=by
  refine⟨?_,?_,⟨rfl,by simp[C,IF]⟩,hB.heap,hB.obs,hB.apart,?_,?_,λn o g=>List.mem_append.2 (.inl (fC g)),Nat.le_refl _,⟨rfl,rfl,rfl⟩,λ_ _ _=>⟨λ_=>rfl,rfl⟩,Hle.refl _,λn o b g y _=>⟨n,o,g,y⟩,λn o _=>EExt.refl _ _,
   λn g=>⟨List.mem_append.2 (.inr g),P (T n g),rfl,rfl,rfl⟩⟩
  ·intro t;rw[lQ];simp only[Nat.zero_le,if_true,Nat.sub_zero];by_cases ht:t<args.length
   ·have hra:=RepVL.iff.1 hr t args[t] (List.getElem?_eq_getElem ht);obtain⟨v,U,Q⟩:=hra;have h1:args.getD t .undef=args[t]:=by simp_all
    rw[h1];have h2:(vs.toArray++Array.replicate (fn.ntmps-vs.toArray.size) undef).getD t undef=v:=by
     rw[Array.getD_eq_getD_getElem?,Array.getElem?_append_left (by simp;omega)];simp[U]
    rw[h2];exact Q
   grind[List.getD,RepV]
  ·grind
  ·intro t n g;refine O n ?_;rw[List.mem_append];left;have:n∈fF (TD 0 args):=fX g;have key:∀(W:List V)(k:Nat),n∈fF (TD k W)->n∈CA W:=by
    intro W
    induction W with
    |nil=>intro k h;simp[TD,fF]at h
    |cons x W ih=>
     intro k h;simp only[TD,fF,List.mem_append]at h;simp only[CA,List.mem_append];rcases h with h|h
     ·exact .inl h
     ·exact .inr (ih (k+1) h)
   exact key args 0 this
  grind[fC,lM]
 refine wp_mono (h C E _ w hC hG) ?_
 rintro e a' w' ⟨E',σ',ae,r,D,S⟩
 --the hidden side behind the call
 let A:Env:=⟨E'.H,λn=>if n∈jA d++jA a then E'.g n else E.g n,λn=>if n∈jA d++jA a then E'.ver n else E.ver n,λn=>if n∈jA d++jA a then E'.sz n else E.sz n⟩;have s:∀n∈jA d++jA a,A.g n=E'.g n/\A.ver n=E'.ver n/\A.sz n=E'.sz n:=by
  intro n g;have R:n∈jA d\/n∈jA a:=List.mem_append.1 g;simp[A,R]
 have L:∀n∈jA d++jA a,EExt E' A n:=λn g=>EExt.of_eq (s n g).1 (s n g).2.1 (s n g).2.2
 have Y:∀n∈(jA d++ms)++jA a,EExt E' A n:=by
  intro n g;by_cases u:n∈jA d++jA a
  ·exact L n u
  ·have R:n∈ms:=by
    rcases List.mem_append.1 g with g|g
    ·rcases List.mem_append.1 g with g|g
     ·exact absurd (List.mem_append.2 (.inl g)) u
     ·exact g
    ·exact absurd (List.mem_append.2 (.inr g)) u
   have F:¬(n∈jA d\/n∈jA a):=λh=>u (List.mem_append.2 h)
   obtain⟨_,_,k3,k4,k5⟩:=r.keep n R;exact EExt.of_eq (by simp[A,F];exact k3.symm) (by simp[A,F];exact k4.symm) (by simp[A,F];exact k5.symm)
 have G:rB a σ'.objs->fH E w d A w' a:=by
  intro j;have j:=yK j;have H:∀n o,zA a n=some o->n∈jA d++jA a:=λn o g=>List.mem_append.2 (.inr (fC g))
  refine⟨λb y=>r.heap b y,?_,?_,r.hle,r.grown,r.rest,?_,?_,?_,?_⟩
  ·intro n o g;have u:=H n o g;exact(r.objs n o (j n o g)).mono (Hle.refl _) (s n u).1 (s n u).2.1 (s n u).2.2 (λm F=>Y m (B m (by simp[(lM g).2 m F]))) (λb _=>⟨rfl,rfl⟩)
  ·intro n m o Z g u hne b y;rw[(s n (H n o g)).1]at y;rw[(s m (H m Z u)).1];exact r.apart n m o Z (j n o g) (j m Z u) hne b y
  ·intro b y hnb;exact r.same b y (by rintro⟨n,o,g,hbn⟩;exact hnb n o g hbn)
  ·intro n o b g y;rw[(s n (H n o g)).1]at y;by_cases hlt:b<w.heap.size
   ·obtain⟨m,Z,u,hbm⟩:=r.own n o b (j n o g) y hlt;exact .inr ⟨m,Z,u,hbm⟩
   ·exact .inl (by omega)
  ·intro n o g;have u:n∈jA d++jA a:=List.mem_append.2 (.inl (fC g));exact(r.ext n o g).trans (L n u)
  ·intro n h1 h2;have g:¬(n∈jA d\/n∈jA a):=by
    rintro(g|g)
    ·obtain⟨o,I⟩:=dH g;rw[I]at h1;cases h1
    ·obtain⟨o,I⟩:=dH g;rw[I]at h2;cases h2
   simp[A,g]
 have M:mM X σ' fn.results.toList out->rB a σ'.objs->
   a'.defers=[]/\∃v,(results fn a'.tmps).run X.P w'=.ok v w'/\∃E',fH E w d E' w' a/\bQ E' out (.returned v):=by
  intro I j
  cases out with
  |panic p=>exact I.elim
  |ret x=>
   obtain⟨v,U,Q⟩:=gX hT r I;exact⟨r.defers.1,v,U,A,G j,v,rfl,RepV.mono (E:=E') (E':=A) (Hle.refl _) x v (λn g=>Y n (B n (by simp[Out.names,g]))) Q⟩
 cases ae with
 |normal=>cases D;exact M S.1 S.2
 |ret=>cases D;exact M S.1 S.2
 |exit i=>exact S.elim
 |panic p=>
  obtain⟨v,rfl,U⟩:=D;obtain⟨I,j⟩:=S
  cases out with
  |ret x=>exact I.elim
  |panic q=>
   subst I;exact⟨r.defers.1,A,G j,v,rfl,U⟩
def yE(n a:Nat)(b:List (List PV)):V->V|.arr m v len=>if m=n/\v=a then .pv (.slice (b.take len))else .arr m v len|x=>x
def JE(n a:Nat)(b:List (List PV)):List V->List V|[]=>[]|x::c=>yE n a b x::JE n a b c
def RC(n a:Nat)(b:List (List PV)):V->V|.agg c=>iG (JE n a b c)|x=>yE n a b x
def SS(n a:Nat)(b:List (List PV)):List (Nat×V)->List (Nat×V)|[]=>[]|(t,x)::r=>(t,RC n a b x)::SS n a b r
def UD(n a:Nat)(b:List (List PV)):Ob->Ob|.box c=>.box (JE n a b c)|o=>o
def qO(n a:Nat)(b:List (List PV)):List (Nat×Ob)->List (Nat×Ob)|[]=>[]|(k,o)::r=>if k=n then qO n a b r else(k,UD n a b o)::qO n a b r
def St.frz(σ:St)(n a:Nat)(b:List (List PV)):St:=⟨SS n a b σ.slots,qO n a b σ.objs,σ.used⟩
def Ad(n b:Nat)(d:List (List PV))(a:List V):(JE n b d a).length=a.length:=by
 induction a with|nil=>rfl|cons c a e=>simp[JE,e]
def lX(n a:Nat)(b:List (List PV))(l:List (Nat×V))(t:Nat):IA (SS n a b l) t=RC n a b (IA l t):=by
 induction l with
 |nil=>rfl|cons p r c=>
  simp only[SS,IA,c];split<;>rfl
def zO(n a:Nat)(b:List (List PV))(l:List (Nat×Ob))(m:Nat):zA (qO n a b l) m=if m=n then none else(zA l m).map (UD n a b):=by
 induction l with
 |nil=>simp[qO,zA]|cons p r c=>
  obtain⟨k,x⟩:=p;simp only[qO,zA];by_cases e:k=n
  ·grind
  simp only[e,if_false,zA,c]
  grind
section
variable{C:Ctx}{E:Env}{σ:St}{a:Act}{w:World}
theorem Cd(n b:Nat)(c:List (List PV))(x:V):∀m∈(yE n b c x).names,m∈x.names:=by
 intro m b;unfold yE at b
 grind[V.names]
theorem Dd(n d:Nat)(e:List (List PV))(b:List V):∀m∈CA (JE n d e b),m∈CA b:=by
 induction b with
 |nil=>intro m f;exact f|cons c b g=>
  grind[JE,CA,Cd]
def Qo(n b:Nat)(c:List (List PV))(x:V):∀m∈(RC n b c x).names,m∈x.names:=by
 intro m b;unfold RC at b
 grind[V.names,Dd,ES,Cd]
def Ga.frz(h:Ga C E σ a w){n y sz ty:Nat}{g:List (List PV)}(ho:zA σ.objs n=some (.arr y sz ty (kA g))):∃E',Ga C E' (σ.frz n y g) a w:=by
 have S:=h.objs n _ ho;obtain⟨U,hsz,hlen,_⟩:=id S;obtain⟨ad,cap,M,hlc,hlm,hh⟩:=FS S;have hpl:(kA g).length=g.length:=by simp[kA]
 rw[hpl]at M hlc hlm
 --the cells that are known from now on
 have hH:∃f:Hp,Hle E.H f/\HeapOK {E with H:=f} w/\(∀b,(∀z,BA (E.g n)=some z->b≠z)->f b=E.H b)/\(g=[]\/∃b,ad=some ⟨b,0,none⟩/\RepE f g (f b)):=by
  rcases hh with ⟨h1,h2,h3⟩|⟨b,N,K,W,hcs,G,hfree⟩
  ·exact⟨E.H,Hle.refl _,h.heap,λ_ _=>rfl,.inl (by simp_all)⟩
  let f:Hp:=λz=>if z=b then N.toList.map sn else E.H z
  have j:Hle E.H f:=by
   intro z
   grind
  refine⟨f,j,?_,?_,.inr ⟨b,K,?_⟩⟩
  ·intro z X;by_cases e:z=b
   ·subst e;exact⟨N,ty,(0,0),W,by simp[f,Msk.sn],.inl rfl⟩
   have Y:E.H z≠[]:=by grind
   obtain⟨c,T,fr,r,hp⟩:=h.heap z Y
   grind
  ·intro z i;have:z≠b:=i b (by rw[M,K];rfl)
   grind
  have hre:=(RepVE.toPv (zK g) G).sn;have:f b=N.toList.map sn:=by simp[f]
  rw[this];exact RepE.mono j g _ _ List.prefix_rfl hre
 obtain⟨f,j,O,P,Q⟩:=hH;have hE:∀m,EExt E {E with H:=f} m:=λm=>EExt.of_eq rfl rfl rfl
 have r:=h.change (E':={E with H:=f}) n none (NH σ.objs n) σ.used none .undef undef (λm=>UP _ _ _) j (λ_ _=>⟨rfl,rfl,rfl⟩) (λ_=>hE n) (λ_=>⟨_,ho⟩) (Nat.le_refl _) ⟨rfl,rfl,rfl⟩
  (λb _ i=>⟨rfl,P b (λz X e=>i _ ho (e▸X))⟩) O (λo e=>by cases e) (λo b e=>by cases e) (λ_ h=>h) (by simp[RepV]) (by simp[V.names]) (by simp)
 have Z:∀(x:V)(v:Value),RepV {E with H:=f} x v->RepV {E with H:=f} (yE n y g x) v:=by
  intro x v B;unfold yE;split
  ·rename_i m vv len;split
   ·rename_i e;obtain⟨rfl,rfl⟩:=e;simp only[RepV]at B;obtain⟨_,_,B⟩:=B;obtain⟨a',L,cap',hg',hv,hle⟩:=B U.symm;rw[M]at hg';cases hg';have htl:(g.take len).length=len:=by simp;omega
    simp only[RepV,RepP];refine⟨ad,cap,by rw[hv,htl],by omega,by omega,?_⟩;rcases Q with rfl|⟨b,K,G⟩
    ·simp
    exact .inr ⟨b,0,K,by simpa using G.takeE len⟩
   exact B
  exact B
 have hvL:∀(D:List V)(H:List Value),RepVL {E with H:=f} D H->RepVL {E with H:=f} (JE n y g D) H:=by
  intro D
  induction D with
  |nil=>intro H _;simp[JE,RepVL]|cons c D ih=>
   intro H G
   cases H with
   |nil=>simp[RepVL]at G|cons v H=>
    simp only[RepVL]at G;simp only[JE,RepVL];exact⟨Z c v G.1,ih H G.2⟩
 refine⟨{E with H:=f},?_,r.size,r.defers,r.heap,?_,?_,?_,?_,r.usedG,r.grown,r.rest,r.same,r.hle,?_,r.ext,λk I=>⟨(r.keep k I).1,?_,(r.keep k I).2.2⟩⟩
 ·intro t;simp only[St.frz,lX];have B:=r.slots t;simp only[QC]at B;unfold RC;split
  ·rename_i D e;rw[e]at B;simp only[RepV]at B;obtain⟨H,hv,hl,G⟩:=B;have hv:a.tmps.getD t undef=.agg H.toArray:=hv;rw[hv];exact DS (by rw[hl,Ad]) (hvL D H G)
  exact Z _ _ B
 ·intro m o d;simp only[St.frz,zO]at d;split at d
  ·cases d
  rename_i i
  cases u:zA σ.objs m with
  |none=>rw[u]at d;cases d
  |some q=>
   rw[u]at d;simp only[Option.map_some,Option.some.injEq]at d;subst d;have J:zA (NH σ.objs n) m=some q:=by rw[UP,if_neg i,u]
   have A:=r.objs m q J
   cases q with
   |box D=>
    obtain⟨b,c,T,h1,h2,h3,h4,h5⟩:=A;exact⟨b,c,T,h1,h2,by rw[h3,Ad],hvL D _ h4,h5⟩
   |arr v s t R=>exact A|smap s g=>exact A|siter l p=>exact A|raw v x=>exact A|grow v s t R=>exact A
 ·intro m m' o o' d F i b K;simp only[St.frz,zO]at d F;split at d
  ·cases d
  split at F
  ·cases F
  cases u:zA σ.objs m with
  |none=>rw[u]at d;cases d
  |some q=>
   cases J:zA σ.objs m' with
   |none=>rw[J]at F;cases F
   |some q'=>exact h.apart m m' q q' u J i b K
 ·intro t m d;simp only[St.frz,lX]at d;exact h.usedS t m (Qo n y g _ m d)
 ·intro m o d;simp only[St.frz,zO]at d;split at d
  ·cases d
  cases u:zA σ.objs m with
  |none=>rw[u]at d;cases d
  |some q=>
   rw[u]at d;simp only[Option.map_some,Option.some.injEq]at d;subst d;refine⟨(h.usedO m q u).1,λk I=>(h.usedO m q u).2 k ?_⟩
   cases q with|box D=>exact Dd n y g D k I|arr v s t R=>exact I|smap s g=>exact I|siter l p=>exact I|raw v x=>exact I|grow v s t R=>exact I
 ·intro m o b d K hlt;simp only[St.frz,zO]at d;split at d
  ·cases d
  cases u:zA σ.objs m with
  |none=>rw[u]at d;cases d
  |some q=>exact h.own m q b u K hlt
 simp only[St.frz,zO];have:=(h.keep k I).2.1;split
 ·rfl
 rw[this];rfl
end
section
variable{X:Env1}{draw:Bool}{ops:List Oper}{K:St->List Eff->Prop}{Qp:PV->St->Prop}{o:Oper}{rest:List Oper}{σ:St}{tr:List Eff}
def Ro{c:Operand}{x y:Code}{Q:EB->St->Prop}{v:V}(i:σ.val X.gl c=v)(h:sd v (AWP X x σ Q) (AWP X y σ Q)):AWP X (.cond c x y) σ Q:=by
 intro C E a w e f;have g:=QA f e.glob c;rw[i]at g;unfold sd at h;split at h
 ·exact wp_cond_split (xG g) (λb=>h.1 b C E a w e f) (λb=>h.2 b C E a w e f)
 ·obtain⟨d,g,j⟩:=g;exact wp_cond_split g (λb=>h.1 (j b) C E a w e f) (λb=>h.2 C E a w e f)
 cases h
end
def pvE_app(a b:List (List PV)):kA a++kA b=kA (a++b):=by simp[kA]
def pvE_len(a:List (List PV)):(kA a).length=a.length:=by simp[kA]
def So(a:List (List PV))(i:Nat):(kA a)[i]? =(a[i]?).map DA:=by simp[kA]
def UH(X:Env1)(b:Code)(Q:EB->St->Prop):Nat->St->Prop|0,_=>False|n+1,σ=>AWP X b σ (QS (UH X b Q n) Q)
def TS{X:Env1}{b:Code}{Q:EB->St->Prop}{n:Nat}{σ:St}(h:AWP X b σ (QS (UH X b Q n) Q)):UH X b Q (n+1) σ:=h
def Ed{X:Env1}{b:Code}{Q:EB->St->Prop}{C:Ctx}(j:TH X C):∀(n:Nat)(σ:St)(E:Env)(a:Act)(w:World),Ga C E σ a w->UH X b Q n σ->Code.rounds X.P b (XI C Q) n a w
 |0,_,_,_,_,_,h=>h.elim|n+1,σ,E,a,w,k,h=>by
  refine wp_mono (h C E a w j k) ?_
  rintro e l m ⟨f,σ',o,d,c,g⟩
  cases o with
  |normal=>cases c;exact Ed j n σ' f l m d g
  |exit i=>cases c;exact⟨f,σ',.exit i,d,rfl,g⟩
  |ret=>cases c;exact⟨f,σ',.ret,d,rfl,g⟩
  |panic p=>obtain⟨v,rfl,r⟩:=c;exact⟨f,σ',.panic p,d,⟨v,rfl,r⟩,g⟩
def To(n:Nat){X:Env1}{b:Code}{Q:EB->St->Prop}{σ:St}(h:UH X b Q n σ):AWP X (.loop b) σ Q:=
 λ_ E a w c d=>wp_loop_rounds n (Ed c n σ E a w d h)
section
variable{X:Env1}{C:Ctx}
end
def mX{S:Nat->Bool}:∀(l:List (Option Nat×Eff))(k:Nat)(σ:St),(∀i,k<=i->S i=false)->GA S k l σ=σ
 |[],k,σ,_=>rfl|p::l,k,σ,h=>by
  simp only[GA,h k (Nat.le_refl _)];exact mX l (k+1) σ (λi a=>h i (by omega))
section
variable{C:Ctx}{E:Env}{σ:St}{a:Act}{w:World}
def VH(K:List PV->PV)(n:Nat)(b:List PV):V->V|.loc m off=>if m=n then .pv (K (b.drop off))else .loc m off|x=>x
def mH(K:List PV->PV)(n:Nat)(b:List PV):List V->List V|[]=>[]|x::c=>VH K n b x::mH K n b c
def US(K:List PV->PV)(n:Nat)(b:List PV):List (Nat×V)->List (Nat×V)|[]=>[]|(t,x)::r=>(t,VH K n b x)::US K n b r
def YI(K:List PV->PV)(n:Nat)(b:List PV):Ob->Ob|.box c=>.box (mH K n b c)|o=>o
def jO(K:List PV->PV)(n:Nat)(b:List PV):List (Nat×Ob)->List (Nat×Ob)|[]=>[]|(k,o)::r=>if k=n then jO K n b r else(k,YI K n b o)::jO K n b r
def St.frb(K:List PV->PV)(σ:St)(n:Nat)(b:List PV):St:=⟨US K n b σ.slots,jO K n b σ.objs,σ.used⟩
def Uo(K:List PV->PV)(n:Nat)(d:List PV)(b:List V):(mH K n d b).length=b.length:=by
 induction b with|nil=>rfl|cons c b e=>simp[mH,e]
def nX(K:List PV->PV)(n:Nat)(b:List PV)(l:List (Nat×V))(t:Nat):IA (US K n b l) t=VH K n b (IA l t):=by
 induction l with
 |nil=>rfl|cons p r c=>
  simp only[US,IA,c];split<;>rfl
def vO(K:List PV->PV)(n:Nat)(b:List PV)(l:List (Nat×Ob))(m:Nat):zA (jO K n b l) m=if m=n then none else(zA l m).map (YI K n b):=by
 induction l with
 |nil=>simp[jO,zA]|cons p r c=>
  obtain⟨k,x⟩:=p;simp only[jO,zA];by_cases e:k=n
  ·grind
  simp only[e,if_false,zA,c]
  grind
theorem Fd(K:List PV->PV)(n:Nat)(b:List PV)(x:V):∀m∈(VH K n b x).names,m∈x.names:=by
 intro m b;unfold VH at b
 grind[V.names]
def Vo(K:List PV->PV)(n:Nat)(d:List PV)(b:List V):∀m∈CA (mH K n d b),m∈CA b:=by
 induction b with
 |nil=>intro m e;exact e|cons c b f=>
  grind[mH,CA,Fd]
def flgs:List PV->List PV->Prop|[],[]=>True|.bool c::d,.flg b::e=>(c=true->b=true)/\flgs d e|q::d,p::e=>(q=p/\∀b,p≠.flg b)/\flgs d e|_,_=>False
def kn:List PV->List Value->List Value|[],l=>l.map sn|_,[]=>[]|.flg b::c,_::l=>mark b::kn c l|_::c,v::l=>sn v::kn c l
def Msk.cons{u v:Value}{l m:List Value}(h:Msk l m)(d:(u=v/\(∀b,u≠mark b))\/u=bC\/∃b c,u=mark b/\v=.bool c/\(c=true->b=true)):Msk (u::l) (v::m):=by
 refine⟨by have:=h.1;simp;omega,λi x e f g=>?_,λi b e=>?_⟩
 ·cases i with
  |zero=>
   simp_all
  |succ i=>simpa using h.2.1 i x (by simp_all) f g
 cases i with
 |zero=>
  simp at e;subst e;rcases d with ⟨_,d⟩|d|⟨j,c,d,rfl,f⟩
  ·grind
  ·grind[absurd,fm]
  rw[vc d];simp_all
 |succ i=>simpa using h.2.2 i b (by simp_all)
theorem Wo(v:Value):(sn v=v/\∀b,sn v≠mark b)\/sn v=bC:=by
 grind[sn,bC,yc,EW]
def pX{H:Hp}:∀{f d:List PV}{l:List Value},flgs f d->RepL H f l->Msk (kn d l) l/\RepK H d (kn d l)
 |[],[],l,_,_=>⟨by simp[kn,Msk.sn],by simp[RepK]⟩|[],_::_,_,h,_=>by grind[flgs]|q::f,[],_,h,_=>by cases q<;>simp[flgs]at h
 |q::f,p::d,[],h,r=>by grind[RepL]|q::f,p::d,v::l,h,r=>by
  by_cases g:∃b,p=.flg b
  ·obtain⟨b,rfl⟩:=g;cases q<;>simp[flgs]at h;rename_i c;obtain⟨i,j⟩:=pX h.2 r.2;have m:=r.1;exact⟨i.cons (.inr (.inr ⟨b,c,rfl,m,h.1⟩)),RepK.cons (.inr ⟨b,rfl,rfl⟩) j⟩
  have g:∀b,p≠.flg b:=λb e=>g ⟨b,e⟩
  have k:q=p/\flgs f d:=by
   rw[flgs.eq_3 _ _ _ _ (λc b _ e=>g b e)]at h;simp_all
  obtain⟨rfl,k⟩:=k;obtain⟨i,j⟩:=pX k r.2;rw[kn.eq_4 _ _ _ _ (λb e=>g b e)];refine⟨i.cons ?_,RepK.cons (.inl ⟨?_,g⟩) j⟩
  ·grind[Wo]
  rw[r.1.sn];exact r.1
def mQ(K:List PV->PV)(d e:List PV):Prop:=
 ∀(H:Hp)(c:List Value),RepL H d c->∃l,Msk l c/\(∀v∈l,True)/\∀(b:Nat)(c:Hp),Hle H c->c b=l->∀off,RepP c (K (e.drop off)) (.pointer (some ⟨b,off,none⟩))
def Xo{f c:List PV}(h:flgs f c):mQ PV.nptr f c:=by
 intro H d r;obtain⟨g,i⟩:=pX h r;refine⟨kn c d,g,λ_ _=>trivial,λb k j e off=>?_⟩;exact⟨b,off,rfl,by rw[e];exact RepK.drop off (RepK.mono j c _ _ List.prefix_rfl i)⟩
def Ga.frb(h:Ga C E σ a w){K:List PV->PV}{n:Nat}{N H:List PV}(O:zA σ.objs n=some (.box (DA N)))(I:mQ K N H):∃E',Ga C E' (σ.frb K n H) a w:=by
 obtain⟨b,P,T,Q,Y,hcs,Z,R⟩:=h.objs n _ O;obtain⟨l,hl1,_,hl2⟩:=I E.H P.toList (RepVL.toPv (dc N) Z);let y:Hp:=λi=>if i=b then l else E.H i
 have J:Hle E.H y:=by
  intro i
  grind
 have D:HeapOK {E with H:=y} w:=by
  intro i hb';by_cases e:i=b
  ·grind
  have L:E.H i≠[]:=by grind
  obtain⟨c,T,fr,f,hp⟩:=h.heap i L
  grind
 have F:∀i,i≠b->y i=E.H i:=by grind
 have hE:∀m,EExt E {E with H:=y} m:=λm=>EExt.of_eq rfl rfl rfl
 have f:=h.change (E':={E with H:=y}) n none (NH σ.objs n) σ.used none .undef undef (λm=>UP _ _ _) J (λ_ _=>⟨rfl,rfl,rfl⟩) (λ_=>hE n) (λ_=>⟨_,O⟩) (Nat.le_refl _) ⟨rfl,rfl,rfl⟩
  (λi _ r=>⟨rfl,F i (λe=>r _ O (by rw[e,Q];rfl))⟩) D (λo e=>by cases e) (λo b e=>by cases e) (λ_ h=>h) (by simp[RepV]) (by simp[V.names]) (by simp)
 have S:∀(x:V)(v:Value),RepV {E with H:=y} x v->RepV {E with H:=y} (VH K n H x) v:=by
  intro x v hx;unfold VH
  grind[RepV]
 have U:∀(A:List V)(M:List Value),RepVL {E with H:=y} A M->RepVL {E with H:=y} (mH K n H A) M:=by
  intro A
  induction A with
  |nil=>simp[mH,RepVL]|cons c A ih=>
   intro M Z
   cases M with
   |nil=>grind[RepVL]|cons v M=>
    grind[RepVL,mH]
 refine⟨{E with H:=y},?_,f.size,f.defers,f.heap,?_,?_,?_,?_,f.usedG,f.grown,f.rest,f.same,f.hle,?_,f.ext,λk z=>⟨(f.keep k z).1,?_,(f.keep k z).2.2⟩⟩
 ·intro t;simp only[St.frb,nX];exact S _ _ (f.slots t)
 ·intro m o d;simp only[St.frb,vO]at d;split at d
  ·cases d
  rename_i r
  cases g:zA σ.objs m with
  |none=>rw[g]at d;cases d
  |some q=>
   rw[g]at d;simp only[Option.map_some,Option.some.injEq]at d;subst d;have B:zA (NH σ.objs n) m=some q:=by rw[UP,if_neg r,g]
   have j:=f.objs m q B
   cases q with
   |box A=>
    obtain⟨b,c,T,h1,h2,h3,h4,h5⟩:=j;exact⟨b,c,T,h1,h2,by rw[h3,Uo],U A _ h4,h5⟩
   |arr v s t G=>exact j|smap s es=>exact j|siter l p=>exact j|raw v x=>exact j|grow v s t G=>exact j
 ·intro m m' o o' d u r b W;simp only[St.frb,vO]at d u;split at d
  ·cases d
  split at u
  ·cases u
  cases g:zA σ.objs m with
  |none=>rw[g]at d;cases d
  |some q=>
   cases B:zA σ.objs m' with
   |none=>rw[B]at u;cases u
   |some q'=>exact h.apart m m' q q' g B r b W
 ·intro t m d;simp only[St.frb,nX]at d;exact h.usedS t m (Fd K n H _ m d)
 ·intro m o d;simp only[St.frb,vO]at d;split at d
  ·cases d
  cases g:zA σ.objs m with
  |none=>rw[g]at d;cases d
  |some q=>
   rw[g]at d;simp only[Option.map_some,Option.some.injEq]at d;subst d;refine⟨(h.usedO m q g).1,λk z=>(h.usedO m q g).2 k ?_⟩
   cases q with|box A=>exact Vo K n H A k z|arr v s t G=>exact z|smap s es=>exact z|siter l p=>exact z|raw v x=>exact z|grow v s t G=>exact z
 ·intro m o b d W X;simp only[St.frb,vO]at d;split at d
  ·cases d
  cases g:zA σ.objs m with
  |none=>rw[g]at d;cases d
  |some q=>exact h.own m q b g W X
 simp only[St.frb,vO];have:=(h.keep k z).2.1;split
 ·rfl
 rw[this];rfl
end
def Ga.entry{X:Env1}{fn:Func}(p:fn.ntmps=X.nt){args:List V}{objs:List (Nat×Ob)}{ms:List Nat}(r:args.length<=X.nt)(f:∀n∈ms,n∉jA objs)
  (g:eE (CA args++gC objs) (jA objs++ms)) {E:Env} {w:World} {d:List Value} (i:RH X.gl E w objs) (C:d.length=args.length) (s:RepVL E args d):
  Ga ⟨E,w,objs,ms,X.nt,[]⟩ E ⟨TD 0 args,objs,jA objs++ms⟩ {tmps:=d.toArray++Array.replicate (fn.ntmps-d.toArray.size) undef,defers:=[]} w:=by
 have g:=gM g;have c:∀{l:List (Nat×Ob)}{n:Nat},n∉jA l->zA l n=none:=by
  intro l n a
  cases e:zA l n with|none=>rfl|some o=>grind[absurd,fC]
 refine⟨?_,?_,⟨rfl,by simp[IF]⟩,i.heap,i.obs,i.apart,?_,?_,λn o a=>List.mem_append.2 (.inl (fC a)),Nat.le_refl _,⟨rfl,rfl,rfl⟩,λ_ _ _=>⟨λ_=>rfl,rfl⟩,Hle.refl _,λn o b a u _=>⟨n,o,a,u⟩,λn o _=>EExt.refl _ _,
  λn a=>⟨List.mem_append.2 (.inr a),c (f n a),rfl,rfl,rfl⟩⟩
 ·intro t;rw[lQ];simp only[Nat.zero_le,if_true,Nat.sub_zero];by_cases y:t<args.length
  ·have j:=RepVL.iff.1 s t args[t] (List.getElem?_eq_getElem y);obtain⟨v,z,m⟩:=j;have A:args.getD t .undef=args[t]:=by simp_all
   rw[A];have B:(d.toArray++Array.replicate (fn.ntmps-d.toArray.size) undef).getD t undef=v:=by
    rw[Array.getD_eq_getD_getElem?,Array.getElem?_append_left (by simp;omega)];simp[z]
   rw[B];exact m
  grind[List.getD,RepV]
 ·simp;omega
 ·intro t n a;have:n∈fF (TD 0 args):=fX a;have key:∀(h:List V)(k:Nat),n∈fF (TD k h)->n∈CA h:=by
   intro h
   induction h with
   |nil=>simp[TD,fF]|cons x h D=>
    grind[TD,fF,CA]
  grind
 grind[fC,lM]
def Ga.done{C:Ctx}{f:Env}{σ':St}{y:Act}{x:World}(a:Ga C f σ' y x){objs':List (Nat×Ob)}
  (t:∀m o,zA objs' m=some o->∀n∈o.names,n∈(jA C.given++C.ms)++jA objs') (c:rB objs' σ'.objs):
  ∃i:Env,fH C.E0 C.w0 C.given i x objs'/\i.H=f.H/\∀n∈(jA C.given++C.ms)++jA objs',EExt f i n:=by
 let i:Env:=⟨f.H,λn=>if n∈jA C.given++jA objs' then f.g n else C.E0.g n,λn=>if n∈jA C.given++jA objs' then f.ver n else C.E0.ver n,λn=>if n∈jA C.given++jA objs' then f.sz n else C.E0.sz n⟩;have e:∀n∈jA C.given++jA objs',i.g n=f.g n/\i.ver n=f.ver n/\i.sz n=f.sz n:=by
  grind
 have l:∀n∈jA C.given++jA objs',EExt f i n:=λn d=>EExt.of_eq (e n d).1 (e n d).2.1 (e n d).2.2
 have p:∀n∈(jA C.given++C.ms)++jA objs',EExt f i n:=by
  intro n d;by_cases g:n∈jA C.given++jA objs'
  ·simp_all
  have u:n∈C.ms:=by
   simp_all
  have r:¬(n∈jA C.given\/n∈jA objs'):=λh=>g (List.mem_append.2 h)
  obtain⟨_,_,D,E,F⟩:=a.keep n u
  grind[EExt.of_eq]
 have c:=yK c;have j:∀n o,zA objs' n=some o->n∈jA C.given++jA objs':=λn o d=>List.mem_append.2 (.inr (fC d))
 refine⟨i,⟨λb k=>a.heap b k,?_,?_,a.hle,a.grown,a.rest,?_,?_,?_,?_⟩,rfl,p⟩
 ·intro n o d;have g:=j n o d;exact(a.objs n o (c n o d)).mono (Hle.refl _) (e n g).1 (e n g).2.1 (e n g).2.2 (λm r=>p m (t n o d m r)) (λb _=>⟨rfl,rfl⟩)
 ·intro n m o s d g v b k;rw[(e n (j n o d)).1]at k;rw[(e m (j m s g)).1];exact a.apart n m o s (c n o d) (c m s g) v b k
 ·intro b k z;exact a.same b k (by rintro⟨n,o,d,A⟩;simp_all)
 ·intro n o b d k;rw[(e n (j n o d)).1]at k;by_cases w:b<C.w0.heap.size
  ·obtain⟨m,s,g,B⟩:=a.own n o b (c n o d) k w
   grind
  omega
 ·intro n o d;have g:n∈jA C.given++jA objs':=List.mem_append.2 (.inl (fC d));exact(a.ext n o d).trans (l n g)
 grind[jA,dH]
def nQ(P:Program)(f:Nat->Option (List PV))(g:Nat)(a:List V)(b:List (Nat×Ob))(p:PV)(c:List (Nat×Ob)):Prop:=
 ∀(E:Env)(w:World)(d:List Value)(v:Value),RH f E w b->d.length=a.length->RepVL E a d->RepP E.H p v->
  CallsD P g d.toArray (.panicking [{v,recovered:=false}]) w λe a d=>(∃r,e=.returned r)/\a=.panicking [{v,recovered:=true}]/\∃a,fH E w b a d c
def rX(P:Program)(b:Nat)(n:Nat):Prop:=
 ∀(w:World)(a:List Value),a.length=n->CallsD P b a.toArray .returning w λe a b=>(∃r,e=.returned r)/\a=.returning/\b=w
def Yo{X:Env1}{K:Nat}{fn:Func}{c:Code}{id u:Nat}{o:Oper}(R:X.P.funcs[K]? =some fn)(S:fn.body=some (.seq (.region id #[o] false) c))(z:fn.ntmps=X.nt)
  (l:∀ρ w,(execOp ρ o).run X.P w=.ok .recover w) (s:o.dst=some u) (A:o.guard=none) (T:u<X.nt) {b:List V} {a:List (Nat×Ob)} {p:PV} {x:V} {objs':List (Nat×Ob)}
  (d:X.given=jA a) (B:b.length<=X.nt) (U:eE (CA b++gC a) (jA a)) (g:eE (gC objs') (jA a++jA objs'))
  (h:AWP X c ⟨(u,.pv p)::TD 0 b,a,jA a⟩ (xd X fn.results.toList (.ret x) objs')):nQ X.P X.gl K b a p objs':=by
 intro E w vs v L W Y hp;have g:=gM g;refine callsD_of_wpS R S λc₀ M Z=>?_
 apply wpS_seq;apply wpS_region;have C:=Ga.entry (X:=X) (fn:=fn) (ms:=[]) z B (by simp) (by simp_all) L W Y;simp only[List.append_nil]at C;have D:=C.pure E.H (some u) (.pv p) v (Hle.refl _) (Nat.le_refl _) ⟨rfl,rfl,rfl⟩ (λ_ _=>⟨rfl,rfl⟩) C.heap (by grind[RepV]) (by simp[V.names]) (by simp_all);have hC:TH X ⟨E,w,a,[],X.nt,[]⟩:=⟨L.glob,rfl,λn o F=>by rw[d];exact fC F,by simp,by simp[IF]⟩;have G:=h _ _ _ _ hC D;have H:List.range (#[o]:Array Oper).size=[0]:=rfl;rw[H];simp only[wpOpsS,List.getElem?_toArray,List.getElem?_cons_zero,Region.wanted,A,if_true,l,recoverD,Z,s,Exit.thenS];refine wpS_of_wp (wp_mono G ?_)
 rintro e N I ⟨O,σ',ae,j,f,k⟩
 have P:(∃y,OF X σ' fn.results.toList=some y)->rB objs' σ'.objs->N.defers=[]/\∃Q,({c₀ with mode:=.panicking [{v,recovered:=true}]}::M:List Frame)={c₀ with mode:=Q}::M/\∃r,(results fn N.tmps).run X.P I=.ok r I/\
   ((∃r',Ending.returned r=.returned r')/\Q=.panicking [{v,recovered:=true}]/\∃O,fH E w a O I objs'):=by
  rintro⟨y,hy⟩ t
  obtain⟨r,J,_⟩:=gX X.ok j hy;obtain⟨E2,hD,_⟩:=j.done (objs':=objs') (by
   intro m o hm n F;have:=g n ((lM hm).2 n F);simp_all) t
  exact⟨j.defers.1,_,rfl,r,J,⟨_,rfl⟩,rfl,E2,hD⟩
 cases ae with
 |normal=>cases f;exact P ⟨_,k.1⟩ k.2
 |ret=>cases f;exact P ⟨_,k.1⟩ k.2
 |exit i=>exact k.elim|panic q=>exact k.1.elim
def Ga.defer{C:Ctx}{E:Env}{σ:St}{a:Act}{w:World}(h:Ga C E σ a w){f:Nat}{b:List V}{d:List Value}(e:d.length=b.length)(g:RepVL E b d)(i:∀n∈CA b,n∈σ.used):
  Ga {C with defs:=(f,b)::C.defs} E σ {a with defers:={target:=.fn (.func f) d.toArray,args:=#[]}::a.defers} w:=
 ⟨h.slots,h.size,⟨⟨d,a.defers,rfl,e,g,h.defers.1⟩,λn c=>by
  simp only[IF,List.mem_append]at c;rcases c with c|c
  ·simp_all
  exact h.defers.2 n c⟩,h.heap,h.objs,h.apart,h.usedS,h.usedO,h.usedG,h.grown,h.rest,h.same,h.hle,h.own,h.ext,h.keep⟩
def Hd(X:Env1)(d:List ResultVar)(e:Nat)(c:List V)(x:V)(a:List (Nat×Ob)):EB->St->Prop
 |.normal,σ=>OF X σ d=some x/\rB a σ.objs|.ret,σ=>OF X σ d=some x/\rB a σ.objs|.panic p,σ=>∃co b:List (Nat×Ob),nQ X.P X.gl e c co p b/\rB co σ.objs/\jA b=jA co/\gC b=jA b/\
   OF X (σ.eff none (IC .undef co b)) d=some x/\rB a (σ.eff none (IC .undef co b)).objs
 |.exit _,_=>False
def Env1.more(X:Env1)(l:List Nat):Env1:={X with given:=X.given++l}
mutual
def V.ren(ρ:Nat->Nat):V->V|.undef=>.undef|.pv p=>.pv p|.loc n off=>.loc (ρ n) off|.eloc n a i off=>.eloc (ρ n) a i off|.arr n a len=>.arr (ρ n) a len|.map n=>.map (ρ n)|.vsl b=>.vsl (KE ρ b)|.fsl b=>.fsl b|.gsl n a b=>.gsl (ρ n) a b|.fn f a=>.fn f (DD ρ a)|.bfn f a=>.bfn f (DD ρ a)|.agg a=>.agg (DD ρ a)|.tuple a=>.tuple (DD ρ a)
def DD(ρ:Nat->Nat):List V->List V|[]=>[]|c::a=>c.ren ρ::DD ρ a
def KE(ρ:Nat->Nat):List (List V)->List (List V)|[]=>[]|e::a=>DD ρ e::KE ρ a
end
def Zo(ρ:Nat->Nat)(l:List V):DD ρ l=l.map (V.ren ρ):=by
 induction l with|nil=>rfl|cons c l a=>simp[DD,a]
def Jd(ρ:Nat->Nat)(l:List (List V)):KE ρ l=l.map (DD ρ):=by
 induction l with|nil=>rfl|cons c l a=>simp[KE,a]
def fK(ρ:Nat->Nat)(l:List V):(DD ρ l).length=l.length:=by simp[Zo]
def Kd(ρ:Nat->Nat)(l:List (List V)):(KE ρ l).length=l.length:=by simp[Jd]
def ZI(ρ:Nat->Nat):List (SK×V)->List (SK×V)|[]=>[]|(k,x)::r=>(k,x.ren ρ)::ZI ρ r
def Ob.ren(ρ:Nat->Nat):Ob->Ob|.box a=>.box (DD ρ a)|.arr b c d a=>.arr b c d (KE ρ a)|.smap s a=>.smap s (ZI ρ a)|.siter l p=>.siter l p|.raw v x=>.raw v x|.grow v s t a=>.grow v s t a
def ME(ρ:Nat->Nat):List (Nat×Ob)->List (Nat×Ob)|[]=>[]|(n,o)::r=>(ρ n,o.ren ρ)::ME ρ r
def Out.ren(ρ:Nat->Nat):Out->Out|.ret x=>.ret (x.ren ρ)|.panic p=>.panic p
def Env.comp(E:Env)(ρ:Nat->Nat):Env:=⟨E.H,λn=>E.g (ρ n),λn=>E.ver (ρ n),λn=>E.sz (ρ n)⟩
mutual
theorem RepV.ren{E:Env}{ρ:Nat->Nat}:∀(x:V)(v:Value),RepV E (x.ren ρ) v↔RepV (E.comp ρ) x v
 |.undef,_=>by simp[V.ren,RepV]|.pv p,v=>by simp[V.ren,RepV,Env.comp]|.loc n off,v=>by simp[V.ren,RepV,Env.comp]|.eloc n c i off,v=>by simp[V.ren,RepV,Env.comp]|.arr n c len,v=>by simp[V.ren,RepV,Env.comp]|.map n,v=>by simp[V.ren,RepV,Env.comp]|.vsl a,v=>by
  simp only[V.ren,RepV,Kd];have h:∀d,RepVE E (KE ρ a) d↔RepVE (E.comp ρ) a d:=RepVE.ren a;have e:KE ρ a=[]↔a=[]:=by cases a<;>simp[KE]
  simp only[h,e];rfl
 |.fsl a,v=>by simp[V.ren,RepV,Env.comp]|.gsl n c a,v=>by simp[V.ren,RepV,Env.comp]|.fn f b,v=>by simp only[V.ren,RepV,fK,RepVL.ren b]|.bfn f b,v=>by simp only[V.ren,RepV,fK,RepVL.ren b]|.agg b,v=>by simp only[V.ren,RepV,fK,RepVL.ren b]|.tuple b,v=>by simp only[V.ren,RepV,fK,RepVL.ren b]
theorem RepVL.ren{E:Env}{ρ:Nat->Nat}:∀(a:List V)(b:List Value),RepVL E (DD ρ a) b↔RepVL (E.comp ρ) a b|[],_=>by simp[DD,RepVL]|c::a,[]=>by simp[DD,RepVL]|c::a,v::b=>by simp only[DD,RepVL,RepV.ren c v,RepVL.ren a b]
theorem RepVE.ren{E:Env}{ρ:Nat->Nat}:∀(b:List (List V))(a:List Value),RepVE E (KE ρ b) a↔RepVE (E.comp ρ) b a|[],_=>by simp[KE,RepVE]|e::b,a=>by simp only[KE,RepVE,fK,RepVL.ren e a,RepVE.ren b (a.drop e.length)]
end
theorem EntsS.ren{E:Env}{ρ:Nat->Nat}{s:Bool}:∀(a:List (SK×V))(b:List MapEntry),EntsS E s (ZI ρ a) b↔EntsS (E.comp ρ) s a b|[],[]=>Iff.rfl|[],_::_=>Iff.rfl|(k,x)::a,[]=>Iff.rfl|(k,x)::a,m::b=>by simp[ZI,EntsS,RepV.ren,EntsS.ren]
theorem ObOK.ren{E:Env}{w:World}{ρ:Nat->Nat}{n:Nat}(o:Ob):ObOK E w (ρ n) (o.ren ρ)↔ObOK (E.comp ρ) w n o:=by
 cases o with
 |box c=>simp only[Ob.ren,ObOK,fK,RepVL.ren c];rfl|arr d b f a=>
  have h:(∀e∈KE ρ a,e.length=b)↔∀e∈a,e.length=b:=by
   rw[Jd];simp[fK]
  simp only[Ob.ren,ObOK,Kd,RepVE.ren a,h];rfl
 |smap s a=>simp only[Ob.ren,ObOK,EntsS.ren a];rfl|siter l p=>rfl|raw v x=>rfl|grow v s t a=>rfl
mutual
theorem V.ren_names(ρ:Nat->Nat):∀x:V,(x.ren ρ).names=x.names.map ρ|.undef=>rfl|.pv _=>rfl|.loc _ _=>rfl|.eloc _ _ _ _=>rfl|.arr _ _ _=>rfl|.map _=>rfl|.vsl a=>by simp only[V.ren,V.names,sX ρ a]|.fsl _=>rfl|.gsl _ _ _=>rfl|.fn _ a=>by simp only[V.ren,V.names,gK ρ a]|.bfn _ a=>by simp only[V.ren,V.names,gK ρ a]|.agg a=>by simp only[V.ren,V.names,gK ρ a]|.tuple a=>by simp only[V.ren,V.names,gK ρ a]
theorem gK(ρ:Nat->Nat):∀l:List V,CA (DD ρ l)=(CA l).map ρ|[]=>rfl|c::a=>by simp only[DD,CA,V.ren_names ρ c,gK ρ a,List.map_append]
theorem sX(ρ:Nat->Nat):∀l:List (List V),wB (KE ρ l)=(wB l).map ρ|[]=>rfl|e::a=>by simp only[KE,wB,gK ρ e,sX ρ a,List.map_append]
end
def Ld(ρ:Nat->Nat):∀l:List (SK×V),DC (ZI ρ l)=(DC l).map ρ|[]=>rfl|(k,x)::r=>by simp[ZI,DC,V.ren_names,Ld,List.map_append]
theorem Ob.ren_names(ρ:Nat->Nat)(o:Ob):(o.ren ρ).names=o.names.map ρ:=by
 cases o with|box c=>simp[Ob.ren,Ob.names,gK]|arr b d e a=>simp[Ob.ren,Ob.names,sX]|smap s a=>simp[Ob.ren,Ob.names,Ld]|siter l p=>rfl|raw v x=>rfl|grow v s t a=>rfl
section
variable{ρ:Nat->Nat}(hρ:∀n,ρ (ρ n)=n)
include hρ
theorem Md{a b:Nat}(h:ρ a=ρ b):a=b:=by rw[<-hρ a,h,hρ]
theorem tX(l:List (Nat×Ob))(n:Nat):zA (ME ρ l) n=(zA l (ρ n)).map (Ob.ren ρ):=by
 induction l with
 |nil=>rfl|cons p r a=>
  grind[ME,zA]
theorem VS(l:List (Nat×Ob)):jA (ME ρ l)=(jA l).map ρ:=by
 induction l with
 |nil=>rfl|cons p r a=>
  grind[ME,jA]
theorem Nd(args:List V)(l:List (Nat×Ob)):HE (DD ρ args) (ME ρ l)=(HE args l).map ρ:=by
 have h:FC (ME ρ l)=(FC l).map ρ:=by
  induction l with
  |nil=>rfl|cons p r a=>
   grind[ME,FC,Ob.ren_names]
 grind[HE,gK]
theorem AC.ren{P:Program}{H:Nat->Option (List PV)}{f:Nat}{args:List V}{i:List (Nat×Ob)}{out:Out}{j:List (Nat×Ob)}(h:AC P H f args i out j):
  AC P H f (DD ρ args) (ME ρ i) (out.ren ρ) (ME ρ j):=by
 have a:∀{l:List Nat}{n:Nat},n∈l.map ρ↔ρ n∈l:=by
  grind
 have g:∀{l:List (Nat×Ob)}{n:Nat}{o:Ob},zA (ME ρ l) n=some o->∃s,zA l (ρ n)=some s/\s.ren ρ=o:=by
  intro l n o c;rw[tX hρ]at c;simp_all
 have d:∀{l:List (Nat×Ob)}{n:Nat}{o:Ob},zA l n=some o->zA (ME ρ l) (ρ n)=some (o.ren ρ):=by
  intro l n o c;rw[tX hρ,hρ,c];rfl
 have k:∀{l:List (Nat×Ob)}{n:Nat},zA (ME ρ l) n=none->zA l (ρ n)=none:=by
  intro l n c;rw[tX hρ]at c;simp_all
 refine⟨h.direct,?_,?_,?_⟩
 ·intro n c;rw[VS hρ,VS hρ,Nd hρ,a,a,a]
  cases out with
  |ret x=>
   simp only[Out.ren,Out.names,V.ren_names,a]at c;exact h.names (ρ n) c
  |panic p=>simp[Out.ren,Out.names]at c
 ·intro m o u n c;obtain⟨s,y,rfl⟩:=g u;rw[Ob.ren_names,a]at c;rw[VS hρ,VS hρ,Nd hρ,a,a,a];exact h.namesO _ s y _ c
 intro E w N C Q R;have I:RH H (E.comp ρ) w i:=by
  refine⟨C.heap,C.glob,λn o c=>(ObOK.ren o).1 (C.obs _ _ (d c)),λn m o s c u z b A=>?_⟩;exact C.apart (ρ n) (ρ m) _ _ (d c) (d u) (λe=>z (Md hρ e)) b A
 refine(h.calls (E.comp ρ) w N I (by rw[Q,fK]) ((RepVL.ren args N).1 R)).mono ?_
 rintro e U ⟨D,t,O⟩
 have r:∀F:Env,(F.comp ρ).comp ρ=F:=by
  intro F;simp[Env.comp,hρ]
 refine⟨D.comp ρ,⟨t.heap,?_,?_,t.hle,t.size,t.rest,?_,?_,?_,?_⟩,?_⟩
 ·intro n o c;obtain⟨s,y,rfl⟩:=g c;have:=t.obs _ s y;rw[<-r D]at this;have:=(ObOK.ren (E:=D.comp ρ) (n:=ρ n) s).2 this;rwa[hρ]at this
 ·intro n m o s c u z b A;obtain⟨q,B,_⟩:=g c;obtain⟨S,J,_⟩:=g u;exact t.apart (ρ n) (ρ m) q S B J (λe=>z (Md hρ e)) b A
 ·intro b A K;refine t.same b A (λn o c e=>?_);exact K (ρ n) _ (d c) e
 ·intro n o b c A;obtain⟨q,B,_⟩:=g c;rcases t.own (ρ n) q b B A with L|⟨m,s,u,M⟩
  ·exact .inl L
  exact .inr ⟨ρ m,_,d u,M⟩
 ·intro n o c;obtain⟨q,B,_⟩:=g c;have:=t.ext (ρ n) q B;simpa[EExt,Env.comp,hρ]using this
 ·intro n L T;have:=t.other (ρ n) (k L) (k T);simpa[Env.comp,hρ]using this
 cases out with
 |ret x=>
  obtain⟨v,rfl,G⟩:=O;refine⟨v,rfl,?_⟩;rw[<-r D]at G;exact(RepV.ren x v).2 G
 |panic p=>
  obtain⟨v,rfl,G⟩:=O;exact⟨v,rfl,G⟩
end
end Go.Lg
namespace Go.Lg
end Go.Lg
namespace Go.Lg
end Go.Lg
namespace Go.Lg
def AC.le{P:Program}{e:Nat->Option (List PV)}{f:Nat}{args a:List V}{b c:List (Nat×Ob)}{out:Out}(h:AC P e f a b out c)(i:args.length=a.length)(g:HE args b=HE a b)
  (j:∀E d,RepVL E args d->RepVL E a d):AC P e f args b out c:=
 ⟨h.direct,by rw[g];exact h.names,by rw[g];exact h.namesO,λE w d a b c=>h.calls E w d a (b.trans i) (j E d c)⟩
def AC.leO{P:Program}{c:Nat->Option (List PV)}{f:Nat}{args:List V}{b a:List (Nat×Ob)}{p q:PV}(h:AC P c f args b (.ret (.pv p)) a)(d:∀H v,RepP H p v->RepP H q v):AC P c f args b (.ret (.pv q)) a:=by
 refine⟨h.direct,h.names,h.namesO,λE w b c a g=>(h.calls E w b c a g).mono ?_⟩
 rintro e b ⟨b,c,v,g,a⟩
 exact⟨b,c,v,g,d _ _ a⟩
theorem zp{H:Hp}{v:Value}(h:RepP H .nils v):RepP H (.slice []) v:=by
 grind[RepP]
end Go.Lg
