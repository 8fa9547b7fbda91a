/- The logic of contracts; no conditions. -/
import Derived.Test.YtbebdmlomjpamaaGreatDoorAccA3
import Derived.LoopN
import Derived.Defers
import Derived.Recover
set_option linter.all false
namespace Go.Lg
def TIOK.mk'{P:Program}{t:Nat}{a:TI}{d:TypeDesc}(b:(P.info? t).map (λi=>(i.size,i.bytes,i.zero))=some (a.size,a.bytes,some a.zero))(b:P.underlying t=some d)(c:yD P d a.k)
  (e:a.zero.cells.size=a.size) (f:RepL (λ_=>[]) a.zc a.zero.cells.toList) (g:a.zc.length=a.size) (h:a.k.isIface=true\/P.concrete t=true):TIOK P t a:=by
 refine⟨?_,⟨d,b,c⟩,e,f,g,h⟩;simp_all
def fI(X:Env1)(σ:St):ResultVar->Option V
 |.tmp t=>some (OA σ.slots t)|.cell a t=>match X.T t,OA σ.slots a with
  |some b,.loc n off=>match jA σ.objs n with|some (.box c)=>NI b.isAgg b.size (c.drop off)|_=>none
  |_,_=>none
def gI(X:Env1)(σ:St):List ResultVar->Option (List V)
 |[]=>some []|r::a=>match fI X σ r,gI X σ a with|some x,some a=>some (x::a)|_,_=>none
def dP(a:List V):V:=match a with
 |[x]=>x|a=>match KE a with|some b=>.pv (.tuple b)|none=>.tuple a
def DG(X:Env1)(σ:St)(a:List ResultVar):Option V:=(gI X σ a).map dP
def Ft{E:Env}{a:List V}{vs:Array Value}(c:vs.size=a.length:=by omega)(r:RepVL E a vs.toList:=by omega):RepV E (dP a) (if h:vs.size=1 then vs[0]else .tuple vs):=by
 unfold dP;split
 ·have b:vs.size=1:=a6
  have:vs.toList=[vs[0]]:=by
   apply List.ext_getElem
   ·omega
   simp_all
  grind[RepVL]
 have b:¬vs.size=1:=by
  intro b;rw[b]at c
  cases a with
  |nil=>simp at c|cons x a=>
   cases a with|nil=>grind|cons y d=>simp at c
 rw[dif_neg b]
 grind[RepV,RepP,tU,RepVL.toPv]
section
variable{X:Env1}{C:Ctx}{E:Env}{σ:St}{a:Act}{w:World}
def Gt(u:KB X.P X.T)(h:Ga C E σ a w){r:ResultVar}{x:V}(d:fI X σ r=some x):
  ∃v,((match r with
   |.tmp t=>pure (a.tmps.getD t undef)|.cell b t=>do loadVar t (<-asAddr (a.tmps.getD b undef))):Sem Value).run X.P w=.ok v w/\RepV E x v:=by
 cases r with
 |tmp t=>
  simp only[fI,e5]at d;subst d;exact⟨_,rfl,h.slots t⟩
 |cell b t=>
  simp only[fI]at d;split at d
  ·rename_i i n off y z;split at d
   ·rename_i K A;have g:=u t i y;have o:=h.slots b;rw[z]at o;have⟨p,B,D⟩:=o;have⟨L,c,M,s,j,F,k,_⟩:=h.objs n _ A;have⟨G,N,O⟩:=KY d (k.drop off);have f:∀v,(Instr.loadAt t (.pointer (some ⟨p,off,none⟩))).run X.P w=.ok v w->(do loadVar t (<-asAddr (a.tmps.getD b undef)):Sem Value).run X.P w=.ok v w:=by
     intro v H;rw[D];exact H
    cases e:i.isAgg with
    |true=>
     have⟨I,J⟩:=G e;by_cases P:off+i.size<=c.size
     ·grind[rR]
     have l:i.size=0:=c5
     have m:(loadCells ⟨p,off,none⟩ 0).run X.P w=.ok #[] w:=by rfl
     refine⟨_,f _ ?_,J⟩;simp[Instr.loadAt,Instr.sureAddr,loadVar,g.run_agg,e,g.run_size,l,m]
    |false=>
     grind[sR]
   cases d
  cases d
def Qg(g:KB X.P X.T)(h:Ga C E σ a w):∀{f:List ResultVar}{d:List V},gI X σ f=some d->
  ∃e:List Value,(f.mapM λr=>match r with|.tmp t=>pure (a.tmps.getD t undef)|.cell b t=>do loadVar t (<-asAddr (a.tmps.getD b undef)):Sem (List Value)).run X.P w=.ok e w/\e.length=d.length/\RepVL E d e
 |[],d,c=>by
  simp only[gI,e5]at c;subst c;exact⟨[],rfl,rfl,by simp[RepVL]⟩
 |r::f,d,c=>by
  simp only[gI]at c;split at c
  ·rename_i x i j k;cases c;have⟨v,p,l⟩:=Gt g h j;have⟨e,m,n,o⟩:=Qg g h k;refine⟨v::e,?_,by simp[n],by grind[RepVL]⟩;simp_all
  cases c
def uZ(e:KB X.P X.T)(h:Ga C E σ a w){fn:Func}{x:V}(b:DG X σ fn.results.toList=some x):∃v,(results fn a.tmps).run X.P w=.ok v w/\RepV E x v:=by
 unfold DG at b
 cases c:gI X σ fn.results.toList with
 |none=>rw[c]at b;cases b
 |some g=>
  rw[c]at b;simp only[gw,e5]at b;subst b;have⟨vs,d,i,f⟩:=Qg e h c;refine⟨_,?_,Ft (vs:=vs.toArray)⟩;unfold results;rw[Array.mapM_eq_mapM_toList];simp only[hU,map_eq_pure_bind]
  erw [d]
  rfl
end
def BE:Nat->List V->List (Nat×V)|_,[]=>[]|k,x::a=>(k,x)::BE (k+1) a
def ER:∀(a:List V)(k t:Nat),OA (BE k a) t=if k<=t then a.getD (t-k) .undef else .undef
 |[],k,t=>by simp[BE,OA]|x::a,k,t=>by
  simp only[BE,OA];by_cases e:k=t
  ·simp_all
  rw[ER a (k+1) t]
  grind
def CN(X:Env1)(σ:St)(a:List ResultVar):Out->Prop|.ret x=>DG X σ a=some x|.panic _=>False
def Rg(X:Env1)(b:List ResultVar)(out:Out)(a:List (Nat×Ob)):NB->St->Prop|.normal,σ=>CN X σ b out/\xB a σ.objs|.ret,σ=>CN X σ b out/\xB a σ.objs|.panic p,σ=>(match out with|.ret _=>False|.panic q=>p=q)/\xB a σ.objs|.exit _,_=>False
def abr:=@Nat.sub_zero
def AC.of_body{X:Env1}(hT:KB X.P X.T){f:Nat}{fn:Func}{c:Code}(hf:X.P.funcs[f]? =some fn)(y:fn.body=some c)(N:(fn.name== "runtime.NumGoroutine")=false)(hnt:fn.ntmps=X.nt)
  {args:List V} {d:List (Nat×Ob)} {out:Out} {a:List (Nat×Ob)} {ms:List Nat} (z:X.given=kA d++ms) (hal:args.length<=X.nt)
  (J:yF ms (aF args d)) (T:∀n∈ms,n∉kA d) (hms3:∀n∈ms,n∉kA a)
  (O:yF (GA args++KC d) (kA d++ms)) (B:yF (out.names++KC a) ((kA d++ms)++kA a))
  (h:AWP X c ⟨BE 0 args,d,kA d++ms⟩ (Rg X fn.results.toList out a)):AC X.P X.gl f args d out a:=by
 have O:=AN O;have B:=AN B;have J:=AN J;have K:∀n,n∈(kA d++ms)++kA a->n∈kA d\/n∈kA a\/n∈aF args d:=by
  grind
 have P:∀{l:List (Nat×Ob)}{n:Nat},n∉kA l->jA l n=none:=by
  intro l n g
  cases e:jA l n with
  |none=>rfl
  |some o=>grind[absurd,JC]
 refine⟨⟨fn,hf,N,by rw[y];rfl⟩,λn g=>K n (B n (by simp[g])),λm o u n g=>K n (B n (by grind[BN])),?_⟩;intro E w vs hB hl hr;refine calls_of_wp hf y ?_;let C:Ctx:=⟨E,w,d,ms,X.nt,[]⟩;have hC:SI X C:=⟨hB.glob,rfl,λn o g=>by rw[z];grind,λn g=>by rw[z];grind,by simp[C,xG]⟩;have hG:Ga C E ⟨BE 0 args,d,kA d++ms⟩ {tmps:=vs.toArray++Array.replicate (fn.ntmps-vs.toArray.size) undef,defers:=[]} w:=by
  refine⟨?_,?_,⟨rfl,by simp[C,xG]⟩,hB.heap,hB.obs,hB.apart,?_,?_,λn o g=>eh.2 (.inl (JC g)),e6 _,⟨rfl,rfl,rfl⟩,λ_ _ _=>⟨λ_=>rfl,rfl⟩,Hle.refl _,λn o b g y _=>⟨n,o,g,y⟩,λn o _=>EExt.refl _ _,
   λn g=>⟨eh.2 (.inr g),P (T n g),rfl,rfl,rfl⟩⟩
  ·intro t;rw[ER];simp only[c6,if_true,abr];by_cases ht:t<args.length
   ·have hra:=RepVL.iff.1 hr t args[t] (e7 ht);have⟨v,U,Q⟩:=hra;have h1:args.getD t .undef=args[t]:=bS
    rw[h1];have h2:(vs.toArray++Array.replicate (fn.ntmps-vs.toArray.size) undef).getD t undef=v:=by
     rw[ib,Array.getElem?_append_left a9];simp[U]
    rw[h2];exact Q
   grind[List.getD,RepV]
  ·grind
  ·intro t n g;refine O n ?_;rw[eh];left;have:n∈YF (BE 0 args):=yZ g;have key:∀(W:List V)(k:Nat),n∈YF (BE k W)->n∈GA W:=by
    intro W
    induction W with
    |nil=>intro k h;simp[BE,YF]at h
    |cons x W ih=>
     intro k h;simp only[BE,YF,eh]at h;simp only[GA,eh];rcases h with h|h
     ·exact .inl h
     ·exact .inr (ih (k+1) h)
   exact key args 0 this
  grind[JC,BN]
 refine wp_mono (h C E _ w hC hG) ?_
 rintro e a' w' ⟨E',σ',ae,r,D,S⟩
 --the hidden side behind the call
 let A:Env:=⟨E'.H,λn=>if n∈kA d++kA a then E'.g n else E.g n,λn=>if n∈kA d++kA a then E'.ver n else E.ver n,λn=>if n∈kA d++kA a then E'.sz n else E.sz n⟩;have s:∀n∈kA d++kA a,A.g n=E'.g n/\A.ver n=E'.ver n/\A.sz n=E'.sz n:=by
  intro n g;have R:n∈kA d\/n∈kA a:=eh.1 g;simp[A,R]
 have L:∀n∈kA d++kA a,EExt E' A n:=λn g=>EExt.of_eq (s n g).1 (s n g).2.1 (s n g).2.2
 have Y:∀n∈(kA d++ms)++kA a,EExt E' A n:=by
  intro n g;by_cases u:n∈kA d++kA a
  ·exact L n u
  ·have R:n∈ms:=by
    rcases eh.1 g with g|g
    ·rcases eh.1 g with g|g
     ·exact absurd (eh.2 (.inl g)) u
     ·exact g
    ·exact absurd (eh.2 (.inr g)) u
   have F:¬(n∈kA d\/n∈kA a):=λh=>u (eh.2 h)
   have⟨_,_,k3,k4,k5⟩:=r.keep n R;exact EExt.of_eq (by simp[A,F];exact k3.symm) (by simp[A,F];exact k4.symm) (by simp[A,F];exact k5.symm)
 have G:xB a σ'.objs->dI E w d A w' a:=by
  intro j;have j:=dL j;have H:∀n o,jA a n=some o->n∈kA d++kA a:=λn o g=>eh.2 (.inr (JC g))
  refine⟨λb y=>r.heap b y,?_,?_,r.hle,r.grown,r.rest,?_,?_,?_,?_⟩
  ·intro n o g;have u:=H n o g;exact(r.objs n o (j n o g)).mono (Hle.refl _) (s n u).1 (s n u).2.1 (s n u).2.2 (λm F=>Y m (B m (by simp[(BN g).2 m F]))) (λb _=>⟨rfl,rfl⟩)
  ·intro n m o Z g u hne b y;rw[(s n (H n o g)).1]at y;rw[(s m (H m Z u)).1];exact r.apart n m o Z (j n o g) (j m Z u) hne b y
  ·intro b y hnb;exact r.same b y (by rintro⟨n,o,g,hbn⟩;exact hnb n o g hbn)
  ·intro n o b g y;rw[(s n (H n o g)).1]at y;by_cases hlt:b<w.heap.size
   ·have⟨m,Z,u,hbm⟩:=r.own n o b (j n o g) y hlt;exact .inr ⟨m,Z,u,hbm⟩
   ·exact .inl a6
  ·intro n o g;have u:n∈kA d++kA a:=eh.2 (.inl (JC g));exact(r.ext n o g).trans (L n u)
  ·intro n h1 h2;have g:¬(n∈kA d\/n∈kA a):=by
    rintro(g|g)
    ·have⟨o,I⟩:=bI g;rw[I]at h1;cases h1
    ·have⟨o,I⟩:=bI g;rw[I]at h2;cases h2
   simp[A,g]
 have M:CN X σ' fn.results.toList out->xB a σ'.objs->
   a'.defers=[]/\∃v,(results fn a'.tmps).run X.P w'=.ok v w'/\∃E',dI E w d E' w' a/\xR E' out (.returned v):=by
  intro I j
  cases out with
  |panic p=>exact I.elim
  |ret x=>
   have⟨v,U,Q⟩:=uZ hT r I;exact⟨r.defers.1,v,U,A,G j,v,rfl,RepV.mono (E:=E') (E':=A) (Hle.refl _) x v (λn g=>Y n (B n (by simp[Out.names,g]))) Q⟩
 cases ae with
 |normal=>cases D;exact M S.1 S.2
 |ret=>cases D;exact M S.1 S.2
 |exit i=>exact S.elim
 |panic p=>
  obtain⟨v,rfl,U⟩:=D;have⟨I,j⟩:=S
  cases out with
  |ret x=>exact I.elim
  |panic q=>
   subst I;exact⟨r.defers.1,A,G j,v,rfl,U⟩
def BC(n a:Nat)(b:List (List PV)):V->V|.arr m v len=>if m=n/\v=a then .pv (.slice (b.take len))else .arr m v len|x=>x
def UC(n a:Nat)(b:List (List PV)):List V->List V|[]=>[]|x::c=>BC n a b x::UC n a b c
def VB(n a:Nat)(b:List (List PV)):V->V|.agg c=>tH (UC n a b c)|x=>BC n a b x
def HU(n a:Nat)(b:List (List PV)):List (Nat×V)->List (Nat×V)|[]=>[]|(t,x)::r=>(t,VB n a b x)::HU n a b r
def sC(n a:Nat)(b:List (List PV)):Ob->Ob|.box c=>.box (UC n a b c)|o=>o
def fP(n a:Nat)(b:List (List PV)):List (Nat×Ob)->List (Nat×Ob)|[]=>[]|(k,o)::r=>if k=n then fP n a b r else(k,sC n a b o)::fP n a b r
def St.frz(σ:St)(n a:Nat)(b:List (List PV)):St:=⟨HU n a b σ.slots,fP n a b σ.objs,σ.used⟩
def Sg(n b:Nat)(d:List (List PV))(a:List V):(UC n b d a).length=a.length:=by
 induction a with|nil=>rfl|cons c a e=>simp[UC,e]
def bZ(n a:Nat)(b:List (List PV))(l:List (Nat×V))(t:Nat):OA (HU n a b l) t=VB n a b (OA l t):=by
 induction l with
 |nil=>rfl|cons p r c=>
  simp only[HU,OA,c];split<;>rfl
def gP(n a:Nat)(b:List (List PV))(l:List (Nat×Ob))(m:Nat):jA (fP n a b l) m=if m=n then none else(jA l m).map (sC n a b):=by
 induction l with
 |nil=>simp[fP,jA]|cons p r c=>
  have⟨k,x⟩:=p;simp only[fP,jA];by_cases e:k=n
  ·grind
  simp only[e,if_false,jA,c]
  grind
section
variable{C:Ctx}{E:Env}{σ:St}{a:Act}{w:World}
theorem Tg(n b:Nat)(c:List (List PV))(x:V):∀m∈(BC n b c x).names,m∈x.names:=by
 intro m b;unfold BC at b
 grind[V.names]
theorem Ug(n d:Nat)(e:List (List PV))(b:List V):∀m∈GA (UC n d e b),m∈GA b:=by
 induction b with
 |nil=>intro m f;exact f|cons c b g=>
  grind[UC,GA,Tg]
def It(n b:Nat)(c:List (List PV))(x:V):∀m∈(VB n b c x).names,m∈x.names:=by
 intro m b;unfold VB at b
 grind[V.names,Ug,cU,Tg]
def Ga.frz(h:Ga C E σ a w){n y sz ty:Nat}{g:List (List PV)}(ho:jA σ.objs n=some (.arr y sz ty (vA g))):∃E',Ga C E' (σ.frz n y g) a w:=by
 have S:=h.objs n _ ho;have⟨U,hsz,hlen,_⟩:=id S;have⟨ad,cap,M,hlc,hlm,hh⟩:=eU S;have hpl:(vA g).length=g.length:=by simp[vA]
 rw[hpl]at M hlc hlm
 --the cells that are known from now on
 have hH:∃f:Hp,Hle E.H f/\HeapOK {E with H:=f} w/\(∀b,(∀z,HA (E.g n)=some z->b≠z)->f b=E.H b)/\(g=[]\/∃b,ad=some ⟨b,0,none⟩/\RepE f g (f b)):=by
  rcases hh with ⟨h1,h2,h3⟩|⟨b,N,K,W,hcs,G,hfree⟩
  ·exact⟨E.H,Hle.refl _,h.heap,λ_ _=>rfl,.inl bS⟩
  let f:Hp:=λz=>if z=b then N.toList.map sn else E.H z
  have j:Hle E.H f:=by
   intro z
   grind
  refine⟨f,j,?_,?_,.inr ⟨b,K,?_⟩⟩
  ·intro z X;by_cases e:z=b
   ·subst e;exact⟨N,ty,(0,0),W,by simp[f,Msk.sn],.inl rfl⟩
   have Y:E.H z≠[]:=c5
   have⟨c,T,fr,r,hp⟩:=h.heap z Y
   grind
  ·intro z i;have:z≠b:=i b (by rw[M,K];rfl)
   grind
  have hre:=(RepVE.toPv (wL g) G).sn;have:f b=N.toList.map sn:=by simp[f]
  rw[this];exact RepE.mono j g _ _ ie hre
 have⟨f,j,O,P,Q⟩:=hH;have hE:∀m,EExt E {E with H:=f} m:=λm=>EExt.of_eq rfl rfl rfl
 have r:=h.change (E':={E with H:=f}) n none (MI σ.objs n) σ.used none .undef undef (λm=>fR _ _ _) j (λ_ _=>⟨rfl,rfl,rfl⟩) (λ_=>hE n) (λ_=>⟨_,ho⟩) (e6 _) ⟨rfl,rfl,rfl⟩
  (λb _ i=>⟨rfl,P b (λz X e=>i _ ho (e▸X))⟩) O (λo e=>by cases e) (λo b e=>by cases e) (λ_ h=>h) aaa b0 a8
 have Z:∀(x:V)(v:Value),RepV {E with H:=f} x v->RepV {E with H:=f} (BC n y g x) v:=by
  intro x v B;unfold BC;split
  ·rename_i m vv len;split
   ·rename_i e;obtain⟨rfl,rfl⟩:=e;simp only[RepV]at B;have⟨_,_,B⟩:=B;have⟨a',L,cap',hg',hv,hle⟩:=B U.symm;rw[M]at hg';cases hg';have htl:(g.take len).length=len:=a9
    simp only[RepV,RepP];refine⟨ad,cap,by rw[hv,htl],a6,a6,?_⟩;rcases Q with rfl|⟨b,K,G⟩
    ·simp
    exact .inr ⟨b,0,K,by simpa using G.takeE len⟩
   exact B
  exact B
 have hvL:∀(D:List V)(H:List Value),RepVL {E with H:=f} D H->RepVL {E with H:=f} (UC n y g D) H:=by
  intro D
  induction D with
  |nil=>intro H _;simp[UC,RepVL]|cons c D ih=>
   intro H G
   cases H with
   |nil=>simp[RepVL]at G|cons v H=>
    simp only[RepVL]at G;simp only[UC,RepVL];exact⟨Z c v G.1,ih H G.2⟩
 refine⟨{E with H:=f},?_,r.size,r.defers,r.heap,?_,?_,?_,?_,r.usedG,r.grown,r.rest,r.same,r.hle,?_,r.ext,λk I=>⟨(r.keep k I).1,?_,(r.keep k I).2.2⟩⟩
 ·intro t;simp only[St.frz,bZ];have B:=r.slots t;simp only[cD]at B;unfold VB;split
  ·rename_i D e;rw[e]at B;simp only[RepV]at B;have⟨H,hv,hl,G⟩:=B;have hv:a.tmps.getD t undef=.agg H.toArray:=hv;rw[hv];exact aU (by rw[hl,Sg]) (hvL D H G)
  exact Z _ _ B
 ·intro m o d;simp only[St.frz,gP]at d;split at d
  ·cases d
  rename_i i
  cases u:jA σ.objs m with
  |none=>rw[u]at d;cases d
  |some q=>
   rw[u]at d;simp only[gw,e5]at d;subst d;have J:jA (MI σ.objs n) m=some q:=by rw[fR,e9 i,u]
   have A:=r.objs m q J
   cases q with
   |box D=>
    have⟨b,c,T,h1,h2,h3,h4,h5⟩:=A;exact⟨b,c,T,h1,h2,by rw[h3,Sg],hvL D _ h4,h5⟩
   |arr v s t R=>exact A|smap s g=>exact A|siter l p=>exact A|raw v x=>exact A|grow v s t R=>exact A
 ·intro m m' o o' d F i b K;simp only[St.frz,gP]at d F;split at d
  ·cases d
  split at F
  ·cases F
  cases u:jA σ.objs m with
  |none=>rw[u]at d;cases d
  |some q=>
   cases J:jA σ.objs m' with
   |none=>rw[J]at F;cases F
   |some q'=>exact h.apart m m' q q' u J i b K
 ·intro t m d;simp only[St.frz,bZ]at d;exact h.usedS t m (It n y g _ m d)
 ·intro m o d;simp only[St.frz,gP]at d;split at d
  ·cases d
  cases u:jA σ.objs m with
  |none=>rw[u]at d;cases d
  |some q=>
   rw[u]at d;simp only[gw,e5]at d;subst d;refine⟨(h.usedO m q u).1,λk I=>(h.usedO m q u).2 k ?_⟩
   cases q with|box D=>exact Ug n y g D k I|arr v s t R=>exact I|smap s g=>exact I|siter l p=>exact I|raw v x=>exact I|grow v s t R=>exact I
 ·intro m o b d K hlt;simp only[St.frz,gP]at d;split at d
  ·cases d
  cases u:jA σ.objs m with
  |none=>rw[u]at d;cases d
  |some q=>exact h.own m q b u K hlt
 simp only[St.frz,gP];have:=(h.keep k I).2.1;split
 ·rfl
 rw[this];rfl
end
section
variable{X:Env1}{draw:Bool}{ops:List Oper}{K:St->List Eff->Prop}{Qp:PV->St->Prop}{o:Oper}{rest:List Oper}{σ:St}{tr:List Eff}
def Kt{c:Operand}{x y:Code}{Q:NB->St->Prop}{v:V}(i:σ.val X.gl c=v)(h:Og v (AWP X x σ Q) (AWP X y σ Q)):AWP X (.cond c x y) σ Q:=by
 intro C E a w e f;have g:=UA f e.glob c;rw[i]at g;unfold Og at h;split at h
 ·exact wp_cond_split (cH g) (λb=>h.1 b C E a w e f) (λb=>h.2 b C E a w e f)
 ·have⟨d,g,j⟩:=g;exact wp_cond_split g (λb=>h.1 (j b) C E a w e f) (λb=>h.2 C E a w e f)
 cases h
end
def pvE_app(a b:List (List PV)):vA a++vA b=vA (a++b):=by simp[vA]
def pvE_len(a:List (List PV)):(vA a).length=a.length:=by simp[vA]
def Lt(a:List (List PV))(i:Nat):(vA a)[i]? =(a[i]?).map CA:=by simp[vA]
def UI(X:Env1)(b:Code)(Q:NB->St->Prop):Nat->St->Prop|0,_=>False|n+1,σ=>AWP X b σ (FU (UI X b Q n) Q)
def IU{X:Env1}{b:Code}{Q:NB->St->Prop}{n:Nat}{σ:St}(h:AWP X b σ (FU (UI X b Q n) Q)):UI X b Q (n+1) σ:=h
def Vg{X:Env1}{b:Code}{Q:NB->St->Prop}{C:Ctx}(j:SI X C):∀(n:Nat)(σ:St)(E:Env)(a:Act)(w:World),Ga C E σ a w->UI X b Q n σ->Code.rounds X.P b (WJ C Q) n a w
 |0,_,_,_,_,_,h=>h.elim|n+1,σ,E,a,w,k,h=>by
  refine wp_mono (h C E a w j k) ?_
  rintro e l m ⟨f,σ',o,d,c,g⟩
  cases o with
  |normal=>cases c;exact Vg j n σ' f l m d g
  |exit i=>cases c;exact⟨f,σ',.exit i,d,rfl,g⟩
  |ret=>cases c;exact⟨f,σ',.ret,d,rfl,g⟩
  |panic p=>obtain⟨v,rfl,r⟩:=c;exact⟨f,σ',.panic p,d,⟨v,rfl,r⟩,g⟩
def Mt(n:Nat){X:Env1}{b:Code}{Q:NB->St->Prop}{σ:St}(h:UI X b Q n σ):AWP X (.loop b) σ Q:=
 λ_ E a w c d=>wp_loop_rounds n (Vg c n σ E a w d h)
section
variable{X:Env1}{C:Ctx}
end
def dZ{S:Nat->Bool}:∀(l:List (Option Nat×Eff))(k:Nat)(σ:St),(∀i,k<=i->S i=false)->LA S k l σ=σ
 |[],k,σ,_=>rfl|p::l,k,σ,h=>by
  simp only[LA,h k (e6 _)];exact dZ l (k+1) σ (λi a=>h i a6)
section
variable{C:Ctx}{E:Env}{σ:St}{a:Act}{w:World}
def VI(K:List PV->PV)(n:Nat)(b:List PV):V->V|.loc m off=>if m=n then .pv (K (b.drop off))else .loc m off|x=>x
def lI(K:List PV->PV)(n:Nat)(b:List PV):List V->List V|[]=>[]|x::c=>VI K n b x::lI K n b c
def JU(K:List PV->PV)(n:Nat)(b:List PV):List (Nat×V)->List (Nat×V)|[]=>[]|(t,x)::r=>(t,VI K n b x)::JU K n b r
def XJ(K:List PV->PV)(n:Nat)(b:List PV):Ob->Ob|.box c=>.box (lI K n b c)|o=>o
def lP(K:List PV->PV)(n:Nat)(b:List PV):List (Nat×Ob)->List (Nat×Ob)|[]=>[]|(k,o)::r=>if k=n then lP K n b r else(k,XJ K n b o)::lP K n b r
def St.frb(K:List PV->PV)(σ:St)(n:Nat)(b:List PV):St:=⟨JU K n b σ.slots,lP K n b σ.objs,σ.used⟩
def Nt(K:List PV->PV)(n:Nat)(d:List PV)(b:List V):(lI K n d b).length=b.length:=by
 induction b with|nil=>rfl|cons c b e=>simp[lI,e]
def fZ(K:List PV->PV)(n:Nat)(b:List PV)(l:List (Nat×V))(t:Nat):OA (JU K n b l) t=VI K n b (OA l t):=by
 induction l with
 |nil=>rfl|cons p r c=>
  simp only[JU,OA,c];split<;>rfl
def mP(K:List PV->PV)(n:Nat)(b:List PV)(l:List (Nat×Ob))(m:Nat):jA (lP K n b l) m=if m=n then none else(jA l m).map (XJ K n b):=by
 induction l with
 |nil=>simp[lP,jA]|cons p r c=>
  have⟨k,x⟩:=p;simp only[lP,jA];by_cases e:k=n
  ·grind
  simp only[e,if_false,jA,c]
  grind
theorem Wg(K:List PV->PV)(n:Nat)(b:List PV)(x:V):∀m∈(VI K n b x).names,m∈x.names:=by
 intro m b;unfold VI at b
 grind[V.names]
def Ot(K:List PV->PV)(n:Nat)(d:List PV)(b:List V):∀m∈GA (lI K n d b),m∈GA b:=by
 induction b with
 |nil=>intro m e;exact e|cons c b f=>
  grind[lI,GA,Wg]
def flgs:List PV->List PV->Prop|[],[]=>True|.bool c::d,.flg b::e=>(c=true->b=true)/\flgs d e|q::d,p::e=>(q=p/\∀b,p≠.flg b)/\flgs d e|_,_=>False
def kn:List PV->List Value->List Value|[],l=>l.map sn|_,[]=>[]|.flg b::c,_::l=>mark b::kn c l|_::c,v::l=>sn v::kn c l
def Msk.cons{u v:Value}{l m:List Value}(h:Msk l m)(d:(u=v/\(∀b,u≠mark b))\/u=oC\/∃b c,u=mark b/\v=.bool c/\(c=true->b=true)):Msk (u::l) (v::m):=by
 refine⟨by have:=h.1;simp;omega,λi x e f g=>?_,λi b e=>?_⟩
 ·cases i with
  |zero=>
   simp_all
  |succ i=>simpa using h.2.1 i x bS f g
 cases i with
 |zero=>
  simp at e;subst e;rcases d with ⟨_,d⟩|d|⟨j,c,d,rfl,f⟩
  ·grind
  ·grind[absurd,Nq]
  rw[Qf d];simp_all
 |succ i=>simpa using h.2.2 i b bS
theorem Pt(v:Value):(sn v=v/\∀b,sn v≠mark b)\/sn v=oC:=by
 grind[sn,oC,Sf,BY]
def gZ{H:Hp}:∀{f d:List PV}{l:List Value},flgs f d->RepL H f l->Msk (kn d l) l/\RepK H d (kn d l)
 |[],[],l,_,_=>⟨by simp[kn,Msk.sn],by simp[RepK]⟩|[],_::_,_,h,_=>by grind[flgs]|q::f,[],_,h,_=>by cases q<;>simp[flgs]at h
 |q::f,p::d,[],h,r=>by grind[RepL]|q::f,p::d,v::l,h,r=>by
  by_cases g:∃b,p=.flg b
  ·obtain⟨b,rfl⟩:=g;cases q<;>simp[flgs]at h;rename_i c;have⟨i,j⟩:=gZ h.2 r.2;have m:=r.1;exact⟨i.cons (.inr (.inr ⟨b,c,rfl,m,h.1⟩)),RepK.cons (.inr ⟨b,rfl,rfl⟩) j⟩
  have g:∀b,p≠.flg b:=λb e=>g ⟨b,e⟩
  have k:q=p/\flgs f d:=by
   rw[flgs.eq_3 _ _ _ _ (λc b _ e=>g b e)]at h;simp_all
  obtain⟨rfl,k⟩:=k;have⟨i,j⟩:=gZ k r.2;rw[kn.eq_4 _ _ _ _ (λb e=>g b e)];refine⟨i.cons ?_,RepK.cons (.inl ⟨?_,g⟩) j⟩
  ·grind[Pt]
  rw[r.1.sn];exact r.1
def GR(K:List PV->PV)(d e:List PV):Prop:=
 ∀(H:Hp)(c:List Value),RepL H d c->∃l,Msk l c/\(∀v∈l,True)/\∀(b:Nat)(c:Hp),Hle H c->c b=l->∀off,RepP c (K (e.drop off)) (.pointer (some ⟨b,off,none⟩))
def Qt{f c:List PV}(h:flgs f c):GR PV.nptr f c:=by
 intro H d r;have⟨g,i⟩:=gZ h r;refine⟨kn c d,g,λ_ _=>trivial,λb k j e off=>?_⟩;exact⟨b,off,rfl,by rw[e];exact RepK.drop off (RepK.mono j c _ _ ie i)⟩
def Ga.frb(h:Ga C E σ a w){K:List PV->PV}{n:Nat}{N H:List PV}(O:jA σ.objs n=some (.box (CA N)))(I:GR K N H):∃E',Ga C E' (σ.frb K n H) a w:=by
 have⟨b,P,T,Q,Y,hcs,Z,R⟩:=h.objs n _ O;have⟨l,hl1,_,hl2⟩:=I E.H P.toList (RepVL.toPv (Vf N) Z);let y:Hp:=λi=>if i=b then l else E.H i
 have J:Hle E.H y:=by
  intro i
  grind
 have D:HeapOK {E with H:=y} w:=by
  intro i hb';by_cases e:i=b
  ·grind
  have L:E.H i≠[]:=c5
  have⟨c,T,fr,f,hp⟩:=h.heap i L
  grind
 have F:∀i,i≠b->y i=E.H i:=c5
 have hE:∀m,EExt E {E with H:=y} m:=λm=>EExt.of_eq rfl rfl rfl
 have f:=h.change (E':={E with H:=y}) n none (MI σ.objs n) σ.used none .undef undef (λm=>fR _ _ _) J (λ_ _=>⟨rfl,rfl,rfl⟩) (λ_=>hE n) (λ_=>⟨_,O⟩) (e6 _) ⟨rfl,rfl,rfl⟩
  (λi _ r=>⟨rfl,F i (λe=>r _ O (by rw[e,Q];rfl))⟩) D (λo e=>by cases e) (λo b e=>by cases e) (λ_ h=>h) aaa b0 a8
 have S:∀(x:V)(v:Value),RepV {E with H:=y} x v->RepV {E with H:=y} (VI K n H x) v:=by
  intro x v hx;unfold VI
  grind[RepV]
 have U:∀(A:List V)(M:List Value),RepVL {E with H:=y} A M->RepVL {E with H:=y} (lI K n H A) M:=by
  intro A
  induction A with
  |nil=>simp[lI,RepVL]|cons c A ih=>
   intro M Z
   cases M with
   |nil=>grind[RepVL]|cons v M=>
    grind[RepVL,lI]
 refine⟨{E with H:=y},?_,f.size,f.defers,f.heap,?_,?_,?_,?_,f.usedG,f.grown,f.rest,f.same,f.hle,?_,f.ext,λk z=>⟨(f.keep k z).1,?_,(f.keep k z).2.2⟩⟩
 ·intro t;simp only[St.frb,fZ];exact S _ _ (f.slots t)
 ·intro m o d;simp only[St.frb,mP]at d;split at d
  ·cases d
  rename_i r
  cases g:jA σ.objs m with
  |none=>rw[g]at d;cases d
  |some q=>
   rw[g]at d;simp only[gw,e5]at d;subst d;have B:jA (MI σ.objs n) m=some q:=by rw[fR,e9 r,g]
   have j:=f.objs m q B
   cases q with
   |box A=>
    have⟨b,c,T,h1,h2,h3,h4,h5⟩:=j;exact⟨b,c,T,h1,h2,by rw[h3,Nt],U A _ h4,h5⟩
   |arr v s t G=>exact j|smap s es=>exact j|siter l p=>exact j|raw v x=>exact j|grow v s t G=>exact j
 ·intro m m' o o' d u r b W;simp only[St.frb,mP]at d u;split at d
  ·cases d
  split at u
  ·cases u
  cases g:jA σ.objs m with
  |none=>rw[g]at d;cases d
  |some q=>
   cases B:jA σ.objs m' with
   |none=>rw[B]at u;cases u
   |some q'=>exact h.apart m m' q q' g B r b W
 ·intro t m d;simp only[St.frb,fZ]at d;exact h.usedS t m (Wg K n H _ m d)
 ·intro m o d;simp only[St.frb,mP]at d;split at d
  ·cases d
  cases g:jA σ.objs m with
  |none=>rw[g]at d;cases d
  |some q=>
   rw[g]at d;simp only[gw,e5]at d;subst d;refine⟨(h.usedO m q g).1,λk z=>(h.usedO m q g).2 k ?_⟩
   cases q with|box A=>exact Ot K n H A k z|arr v s t G=>exact z|smap s es=>exact z|siter l p=>exact z|raw v x=>exact z|grow v s t G=>exact z
 ·intro m o b d W X;simp only[St.frb,mP]at d;split at d
  ·cases d
  cases g:jA σ.objs m with
  |none=>rw[g]at d;cases d
  |some q=>exact h.own m q b g W X
 simp only[St.frb,mP];have:=(h.keep k z).2.1;split
 ·rfl
 rw[this];rfl
end
def Ga.entry{X:Env1}{fn:Func}(p:fn.ntmps=X.nt){args:List V}{objs:List (Nat×Ob)}{ms:List Nat}(r:args.length<=X.nt)(f:∀n∈ms,n∉kA objs)
  (g:yF (GA args++KC objs) (kA objs++ms)) {E:Env} {w:World} {d:List Value} (i:QI X.gl E w objs) (C:d.length=args.length) (s:RepVL E args d):
  Ga ⟨E,w,objs,ms,X.nt,[]⟩ E ⟨BE 0 args,objs,kA objs++ms⟩ {tmps:=d.toArray++Array.replicate (fn.ntmps-d.toArray.size) undef,defers:=[]} w:=by
 have g:=AN g;have c:∀{l:List (Nat×Ob)}{n:Nat},n∉kA l->jA l n=none:=by
  intro l n a
  cases e:jA l n with|none=>rfl|some o=>grind[absurd,JC]
 refine⟨?_,?_,⟨rfl,by simp[xG]⟩,i.heap,i.obs,i.apart,?_,?_,λn o a=>eh.2 (.inl (JC a)),e6 _,⟨rfl,rfl,rfl⟩,λ_ _ _=>⟨λ_=>rfl,rfl⟩,Hle.refl _,λn o b a u _=>⟨n,o,a,u⟩,λn o _=>EExt.refl _ _,
  λn a=>⟨eh.2 (.inr a),c (f n a),rfl,rfl,rfl⟩⟩
 ·intro t;rw[ER];simp only[c6,if_true,abr];by_cases y:t<args.length
  ·have j:=RepVL.iff.1 s t args[t] (e7 y);have⟨v,z,m⟩:=j;have A:args.getD t .undef=args[t]:=bS
   rw[A];have B:(d.toArray++Array.replicate (fn.ntmps-d.toArray.size) undef).getD t undef=v:=by
    rw[ib,Array.getElem?_append_left a9];simp[z]
   rw[B];exact m
  grind[List.getD,RepV]
 ·simp;omega
 ·intro t n a;have:n∈YF (BE 0 args):=yZ a;have key:∀(h:List V)(k:Nat),n∈YF (BE k h)->n∈GA h:=by
   intro h
   induction h with
   |nil=>simp[BE,YF]|cons x h D=>
    grind[BE,YF,GA]
  grind
 grind[JC,BN]
def Ga.done{C:Ctx}{f:Env}{σ':St}{y:Act}{x:World}(a:Ga C f σ' y x){objs':List (Nat×Ob)}
  (t:∀m o,jA objs' m=some o->∀n∈o.names,n∈(kA C.given++C.ms)++kA objs') (c:xB objs' σ'.objs):
  ∃i:Env,dI C.E0 C.w0 C.given i x objs'/\i.H=f.H/\∀n∈(kA C.given++C.ms)++kA objs',EExt f i n:=by
 let i:Env:=⟨f.H,λn=>if n∈kA C.given++kA objs' then f.g n else C.E0.g n,λn=>if n∈kA C.given++kA objs' then f.ver n else C.E0.ver n,λn=>if n∈kA C.given++kA objs' then f.sz n else C.E0.sz n⟩;have e:∀n∈kA C.given++kA objs',i.g n=f.g n/\i.ver n=f.ver n/\i.sz n=f.sz n:=by
  grind
 have l:∀n∈kA C.given++kA objs',EExt f i n:=λn d=>EExt.of_eq (e n d).1 (e n d).2.1 (e n d).2.2
 have p:∀n∈(kA C.given++C.ms)++kA objs',EExt f i n:=by
  intro n d;by_cases g:n∈kA C.given++kA objs'
  ·simp_all
  have u:n∈C.ms:=by
   simp_all
  have r:¬(n∈kA C.given\/n∈kA objs'):=λh=>g (eh.2 h)
  have⟨_,_,D,E,F⟩:=a.keep n u
  grind[EExt.of_eq]
 have c:=dL c;have j:∀n o,jA objs' n=some o->n∈kA C.given++kA objs':=λn o d=>eh.2 (.inr (JC d))
 refine⟨i,⟨λb k=>a.heap b k,?_,?_,a.hle,a.grown,a.rest,?_,?_,?_,?_⟩,rfl,p⟩
 ·intro n o d;have g:=j n o d;exact(a.objs n o (c n o d)).mono (Hle.refl _) (e n g).1 (e n g).2.1 (e n g).2.2 (λm r=>p m (t n o d m r)) (λb _=>⟨rfl,rfl⟩)
 ·intro n m o s d g v b k;rw[(e n (j n o d)).1]at k;rw[(e m (j m s g)).1];exact a.apart n m o s (c n o d) (c m s g) v b k
 ·intro b k z;exact a.same b k (by rintro⟨n,o,d,A⟩;simp_all)
 ·intro n o b d k;rw[(e n (j n o d)).1]at k;by_cases w:b<C.w0.heap.size
  ·have⟨m,s,g,B⟩:=a.own n o b (c n o d) k w
   grind
  omega
 ·intro n o d;have g:n∈kA C.given++kA objs':=eh.2 (.inl (JC d));exact(a.ext n o d).trans (l n g)
 grind[kA,bI]
def HR(P:Program)(f:Nat->Option (List PV))(g:Nat)(a:List V)(b:List (Nat×Ob))(p:PV)(c:List (Nat×Ob)):Prop:=
 ∀(E:Env)(w:World)(d:List Value)(v:Value),QI f E w b->d.length=a.length->RepVL E a d->RepP E.H p v->
  CallsD P g d.toArray (.panicking [{v,recovered:=false}]) w λe a d=>(∃r,e=.returned r)/\a=.panicking [{v,recovered:=true}]/\∃a,dI E w b a d c
def lZ(P:Program)(b:Nat)(n:Nat):Prop:=
 ∀(w:World)(a:List Value),a.length=n->CallsD P b a.toArray .returning w λe a b=>(∃r,e=.returned r)/\a=.returning/\b=w
def hI:=@List.append_nil
def Rt{X:Env1}{K:Nat}{fn:Func}{c:Code}{id u:Nat}{o:Oper}(R:X.P.funcs[K]? =some fn)(S:fn.body=some (.seq (.region id #[o] false) c))(z:fn.ntmps=X.nt)
  (l:∀ρ w,(execOp ρ o).run X.P w=.ok .recover w) (s:o.dst=some u) (A:o.guard=none) (T:u<X.nt) {b:List V} {a:List (Nat×Ob)} {p:PV} {x:V} {objs':List (Nat×Ob)}
  (d:X.given=kA a) (B:b.length<=X.nt) (U:yF (GA b++KC a) (kA a)) (g:yF (KC objs') (kA a++kA objs'))
  (h:AWP X c ⟨(u,.pv p)::BE 0 b,a,kA a⟩ (Rg X fn.results.toList (.ret x) objs')):HR X.P X.gl K b a p objs':=by
 intro E w vs v L W Y hp;have g:=AN g;refine callsD_of_wpS R S λc₀ M Z=>?_
 apply wpS_seq;apply wpS_region;have C:=Ga.entry (X:=X) (fn:=fn) (ms:=[]) z B a8 bS L W Y;simp only[hI]at C;have D:=C.pure E.H (some u) (.pv p) v (Hle.refl _) (e6 _) ⟨rfl,rfl,rfl⟩ (λ_ _=>⟨rfl,rfl⟩) C.heap (by grind[RepV]) b0 bS;have hC:SI X ⟨E,w,a,[],X.nt,[]⟩:=⟨L.glob,rfl,λn o F=>by rw[d];exact JC F,a8,by simp[xG]⟩;have G:=h _ _ _ _ hC D;have H:List.range (#[o]:Array Oper).size=[0]:=rfl;rw[H];simp only[wpOpsS,aaG,aat,Region.wanted,A,if_true,l,recoverD,Z,s,Exit.thenS];refine wpS_of_wp (wp_mono G ?_)
 rintro e N I ⟨O,σ',ae,j,f,k⟩
 have P:(∃y,DG X σ' fn.results.toList=some y)->xB objs' σ'.objs->N.defers=[]/\∃Q,({c₀ with mode:=.panicking [{v,recovered:=true}]}::M:List Frame)={c₀ with mode:=Q}::M/\∃r,(results fn N.tmps).run X.P I=.ok r I/\
   ((∃r',Ending.returned r=.returned r')/\Q=.panicking [{v,recovered:=true}]/\∃O,dI E w a O I objs'):=by
  rintro⟨y,hy⟩ t
  have⟨r,J,_⟩:=uZ X.ok j hy;have⟨E2,hD,_⟩:=j.done (objs':=objs') (by
   intro m o hm n F;have:=g n ((BN hm).2 n F);simp_all) t
  exact⟨j.defers.1,_,rfl,r,J,⟨_,rfl⟩,rfl,E2,hD⟩
 cases ae with
 |normal=>cases f;exact P ⟨_,k.1⟩ k.2
 |ret=>cases f;exact P ⟨_,k.1⟩ k.2
 |exit i=>exact k.elim|panic q=>exact k.1.elim
def Ga.defer{C:Ctx}{E:Env}{σ:St}{a:Act}{w:World}(h:Ga C E σ a w){f:Nat}{b:List V}{d:List Value}(e:d.length=b.length)(g:RepVL E b d)(i:∀n∈GA b,n∈σ.used):
  Ga {C with defs:=(f,b)::C.defs} E σ {a with defers:={target:=.fn (.func f) d.toArray,args:=#[]}::a.defers} w:=
 ⟨h.slots,h.size,⟨⟨d,a.defers,rfl,e,g,h.defers.1⟩,λn c=>by
  simp only[xG,eh]at c;rcases c with c|c
  ·simp_all
  exact h.defers.2 n c⟩,h.heap,h.objs,h.apart,h.usedS,h.usedO,h.usedG,h.grown,h.rest,h.same,h.hle,h.own,h.ext,h.keep⟩
def Xg(X:Env1)(d:List ResultVar)(e:Nat)(c:List V)(x:V)(a:List (Nat×Ob)):NB->St->Prop
 |.normal,σ=>DG X σ d=some x/\xB a σ.objs|.ret,σ=>DG X σ d=some x/\xB a σ.objs|.panic p,σ=>∃co b:List (Nat×Ob),HR X.P X.gl e c co p b/\xB co σ.objs/\kA b=kA co/\KC b=kA b/\
   DG X (σ.eff none (dD .undef co b)) d=some x/\xB a (σ.eff none (dD .undef co b)).objs
 |.exit _,_=>False
def Env1.more(X:Env1)(l:List Nat):Env1:={X with given:=X.given++l}
mutual
def V.ren(ρ:Nat->Nat):V->V|.undef=>.undef|.pv p=>.pv p|.loc n off=>.loc (ρ n) off|.eloc n a i off=>.eloc (ρ n) a i off|.arr n a len=>.arr (ρ n) a len|.map n=>.map (ρ n)|.vsl b=>.vsl (iF ρ b)|.fsl b=>.fsl b|.gsl n a b=>.gsl (ρ n) a b|.fn f a=>.fn f (dE ρ a)|.bfn f a=>.bfn f (dE ρ a)|.agg a=>.agg (dE ρ a)|.tuple a=>.tuple (dE ρ a)
def dE(ρ:Nat->Nat):List V->List V|[]=>[]|c::a=>c.ren ρ::dE ρ a
def iF(ρ:Nat->Nat):List (List V)->List (List V)|[]=>[]|e::a=>dE ρ e::iF ρ a
end
def Tt(g:Nat->Nat)(l:List V):dE g l=l.map (V.ren g):=by
 induction l with|nil=>rfl|cons c l a=>simp[dE,a]
def Yg(g:Nat->Nat)(l:List (List V)):iF g l=l.map (dE g):=by
 induction l with|nil=>rfl|cons c l a=>simp[iF,a]
def mL(g:Nat->Nat)(l:List V):(dE g l).length=l.length:=by simp[Tt]
def Zg(g:Nat->Nat)(l:List (List V)):(iF g l).length=l.length:=by simp[Yg]
def YJ(g:Nat->Nat):List (SK×V)->List (SK×V)|[]=>[]|(k,x)::r=>(k,x.ren g)::YJ g r
def Ob.ren(g:Nat->Nat):Ob->Ob|.box a=>.box (dE g a)|.arr b c d a=>.arr b c d (iF g a)|.smap s a=>.smap s (YJ g a)|.siter l p=>.siter l p|.raw v x=>.raw v x|.grow v s t a=>.grow v s t a
def oF(g:Nat->Nat):List (Nat×Ob)->List (Nat×Ob)|[]=>[]|(n,o)::r=>(g n,o.ren g)::oF g r
def Out.ren(g:Nat->Nat):Out->Out|.ret x=>.ret (x.ren g)|.panic p=>.panic p
def Env.comp(E:Env)(i:Nat->Nat):Env:=⟨E.H,λn=>E.g (i n),λn=>E.ver (i n),λn=>E.sz (i n)⟩
mutual
theorem RepV.ren{E:Env}{ρ:Nat->Nat}:∀(x:V)(v:Value),RepV E (x.ren ρ) v↔RepV (E.comp ρ) x v
 |.undef,_=>by simp[V.ren,RepV]|.pv p,v=>by simp[V.ren,RepV,Env.comp]|.loc n off,v=>by simp[V.ren,RepV,Env.comp]|.eloc n c i off,v=>by simp[V.ren,RepV,Env.comp]|.arr n c len,v=>by simp[V.ren,RepV,Env.comp]|.map n,v=>by simp[V.ren,RepV,Env.comp]|.vsl a,v=>by
  simp only[V.ren,RepV,Zg];have h:∀d,RepVE E (iF ρ a) d↔RepVE (E.comp ρ) a d:=RepVE.ren a;have e:iF ρ a=[]↔a=[]:=by cases a<;>simp[iF]
  simp only[h,e];rfl
 |.fsl a,v=>by simp[V.ren,RepV,Env.comp]|.gsl n c a,v=>by simp[V.ren,RepV,Env.comp]|.fn f b,v=>by simp only[V.ren,RepV,mL,RepVL.ren b]|.bfn f b,v=>by simp only[V.ren,RepV,mL,RepVL.ren b]|.agg b,v=>by simp only[V.ren,RepV,mL,RepVL.ren b]|.tuple b,v=>by simp only[V.ren,RepV,mL,RepVL.ren b]
theorem RepVL.ren{E:Env}{ρ:Nat->Nat}:∀(a:List V)(b:List Value),RepVL E (dE ρ a) b↔RepVL (E.comp ρ) a b|[],_=>by simp[dE,RepVL]|c::a,[]=>by simp[dE,RepVL]|c::a,v::b=>by simp only[dE,RepVL,RepV.ren c v,RepVL.ren a b]
theorem RepVE.ren{E:Env}{ρ:Nat->Nat}:∀(b:List (List V))(a:List Value),RepVE E (iF ρ b) a↔RepVE (E.comp ρ) b a|[],_=>by simp[iF,RepVE]|e::b,a=>by simp only[iF,RepVE,mL,RepVL.ren e a,RepVE.ren b (a.drop e.length)]
end
theorem EntsS.ren{E:Env}{g:Nat->Nat}{s:Bool}:∀(a:List (SK×V))(b:List MapEntry),EntsS E s (YJ g a) b↔EntsS (E.comp g) s a b|[],[]=>Iff.rfl|[],_::_=>Iff.rfl|(k,x)::a,[]=>Iff.rfl|(k,x)::a,m::b=>by simp[YJ,EntsS,RepV.ren,EntsS.ren]
theorem ObOK.ren{E:Env}{w:World}{g:Nat->Nat}{n:Nat}(o:Ob):ObOK E w (g n) (o.ren g)↔ObOK (E.comp g) w n o:=by
 cases o with
 |box c=>simp only[Ob.ren,ObOK,mL,RepVL.ren c];rfl|arr d b f a=>
  have h:(∀e∈iF g a,e.length=b)↔∀e∈a,e.length=b:=by
   rw[Yg];simp[mL]
  simp only[Ob.ren,ObOK,Zg,RepVE.ren a,h];rfl
 |smap s a=>simp only[Ob.ren,ObOK,EntsS.ren a];rfl|siter l p=>rfl|raw v x=>rfl|grow v s t a=>rfl
mutual
theorem V.ren_names(ρ:Nat->Nat):∀x:V,(x.ren ρ).names=x.names.map ρ|.undef=>rfl|.pv _=>rfl|.loc _ _=>rfl|.eloc _ _ _ _=>rfl|.arr _ _ _=>rfl|.map _=>rfl|.vsl a=>by simp only[V.ren,V.names,mZ ρ a]|.fsl _=>rfl|.gsl _ _ _=>rfl|.fn _ a=>by simp only[V.ren,V.names,nL ρ a]|.bfn _ a=>by simp only[V.ren,V.names,nL ρ a]|.agg a=>by simp only[V.ren,V.names,nL ρ a]|.tuple a=>by simp only[V.ren,V.names,nL ρ a]
theorem nL(ρ:Nat->Nat):∀l:List V,GA (dE ρ l)=(GA l).map ρ|[]=>rfl|c::a=>by simp only[dE,GA,V.ren_names ρ c,nL ρ a,gn]
theorem mZ(ρ:Nat->Nat):∀l:List (List V),fB (iF ρ l)=(fB l).map ρ|[]=>rfl|e::a=>by simp only[iF,fB,nL ρ e,mZ ρ a,gn]
end
def qh(g:Nat->Nat):∀l:List (SK×V),kD (YJ g l)=(kD l).map g|[]=>rfl|(k,x)::r=>by simp[YJ,kD,V.ren_names,qh,gn]
theorem Ob.ren_names(g:Nat->Nat)(o:Ob):(o.ren g).names=o.names.map g:=by
 cases o with|box c=>simp[Ob.ren,Ob.names,nL]|arr b d e a=>simp[Ob.ren,Ob.names,mZ]|smap s a=>simp[Ob.ren,Ob.names,qh]|siter l p=>rfl|raw v x=>rfl|grow v s t a=>rfl
section
variable{ρ:Nat->Nat}(hρ:∀n,ρ (ρ n)=n)
include hρ
theorem zh{a b:Nat}(h:ρ a=ρ b):a=b:=by rw[<-hρ a,h,hρ]
theorem nZ(l:List (Nat×Ob))(n:Nat):jA (oF ρ l) n=(jA l (ρ n)).map (Ob.ren ρ):=by
 induction l with
 |nil=>rfl|cons p r a=>
  grind[oF,jA]
theorem KU(l:List (Nat×Ob)):kA (oF ρ l)=(kA l).map ρ:=by
 induction l with
 |nil=>rfl|cons p r a=>
  grind[oF,kA]
theorem jh(args:List V)(l:List (Nat×Ob)):aF (dE ρ args) (oF ρ l)=(aF args l).map ρ:=by
 have h:uD (oF ρ l)=(uD l).map ρ:=by
  induction l with
  |nil=>rfl|cons p r a=>
   grind[oF,uD,Ob.ren_names]
 grind[aF,nL]
theorem AC.ren{P:Program}{H:Nat->Option (List PV)}{f:Nat}{args:List V}{i:List (Nat×Ob)}{out:Out}{j:List (Nat×Ob)}(h:AC P H f args i out j):
  AC P H f (dE ρ args) (oF ρ i) (out.ren ρ) (oF ρ j):=by
 have a:∀{l:List Nat}{n:Nat},n∈l.map ρ↔ρ n∈l:=by
  grind
 have g:∀{l:List (Nat×Ob)}{n:Nat}{o:Ob},jA (oF ρ l) n=some o->∃s,jA l (ρ n)=some s/\s.ren ρ=o:=by
  intro l n o c;rw[nZ hρ]at c;simp_all
 have d:∀{l:List (Nat×Ob)}{n:Nat}{o:Ob},jA l n=some o->jA (oF ρ l) (ρ n)=some (o.ren ρ):=by
  intro l n o c;rw[nZ hρ,hρ,c];rfl
 have k:∀{l:List (Nat×Ob)}{n:Nat},jA (oF ρ l) n=none->jA l (ρ n)=none:=by
  intro l n c;rw[nZ hρ]at c;simp_all
 refine⟨h.direct,?_,?_,?_⟩
 ·intro n c;rw[KU hρ,KU hρ,jh hρ,a,a,a]
  cases out with
  |ret x=>
   simp only[Out.ren,Out.names,V.ren_names,a]at c;exact h.names (ρ n) c
  |panic p=>simp[Out.ren,Out.names]at c
 ·intro m o u n c;obtain⟨s,y,rfl⟩:=g u;rw[Ob.ren_names,a]at c;rw[KU hρ,KU hρ,jh hρ,a,a,a];exact h.namesO _ s y _ c
 intro E w N C Q R;have I:QI H (E.comp ρ) w i:=by
  refine⟨C.heap,C.glob,λn o c=>(ObOK.ren o).1 (C.obs _ _ (d c)),λn m o s c u z b A=>?_⟩;exact C.apart (ρ n) (ρ m) _ _ (d c) (d u) (λe=>z (zh hρ e)) b A
 refine(h.calls (E.comp ρ) w N I (by rw[Q,mL]) ((RepVL.ren args N).1 R)).mono ?_
 rintro e U ⟨D,t,O⟩
 have r:∀F:Env,(F.comp ρ).comp ρ=F:=by
  intro F;simp[Env.comp,hρ]
 refine⟨D.comp ρ,⟨t.heap,?_,?_,t.hle,t.size,t.rest,?_,?_,?_,?_⟩,?_⟩
 ·intro n o c;obtain⟨s,y,rfl⟩:=g c;have:=t.obs _ s y;rw[<-r D]at this;have:=(ObOK.ren (E:=D.comp ρ) (n:=ρ n) s).2 this;rwa[hρ]at this
 ·intro n m o s c u z b A;have⟨q,B,_⟩:=g c;have⟨S,J,_⟩:=g u;exact t.apart (ρ n) (ρ m) q S B J (λe=>z (zh hρ e)) b A
 ·intro b A K;refine t.same b A (λn o c e=>?_);exact K (ρ n) _ (d c) e
 ·intro n o b c A;have⟨q,B,_⟩:=g c;rcases t.own (ρ n) q b B A with L|⟨m,s,u,M⟩
  ·exact .inl L
  exact .inr ⟨ρ m,_,d u,M⟩
 ·intro n o c;have⟨q,B,_⟩:=g c;have:=t.ext (ρ n) q B;simpa[EExt,Env.comp,hρ]using this
 ·intro n L T;have:=t.other (ρ n) (k L) (k T);simpa[Env.comp,hρ]using this
 cases out with
 |ret x=>
  obtain⟨v,rfl,G⟩:=O;refine⟨v,rfl,?_⟩;rw[<-r D]at G;exact(RepV.ren x v).2 G
 |panic p=>
  obtain⟨v,rfl,G⟩:=O;exact⟨v,rfl,G⟩
end
end Go.Lg
namespace Go.Lg
end Go.Lg
namespace Go.Lg
end Go.Lg
namespace Go.Lg
def AC.le{P:Program}{e:Nat->Option (List PV)}{f:Nat}{args a:List V}{b c:List (Nat×Ob)}{out:Out}(h:AC P e f a b out c)(i:args.length=a.length)(g:aF args b=aF a b)
  (j:∀E d,RepVL E args d->RepVL E a d):AC P e f args b out c:=
 ⟨h.direct,by rw[g];exact h.names,by rw[g];exact h.namesO,λE w d a b c=>h.calls E w d a (b.trans i) (j E d c)⟩
def AC.leO{P:Program}{c:Nat->Option (List PV)}{f:Nat}{args:List V}{b a:List (Nat×Ob)}{p q:PV}(h:AC P c f args b (.ret (.pv p)) a)(d:∀H v,RepP H p v->RepP H q v):AC P c f args b (.ret (.pv q)) a:=by
 refine⟨h.direct,h.names,h.namesO,λE w b c a g=>(h.calls E w b c a g).mono ?_⟩
 rintro e b ⟨b,c,v,g,a⟩
 exact⟨b,c,v,g,d _ _ a⟩
theorem Ut{H:Hp}{v:Value}(h:RepP H .nils v):RepP H (.slice []) v:=by
 grind[RepP]
end Go.Lg
