/- The logic of contracts; no conditions. -/
import Derived.Test.YtjobiknipefjdaaGreatDoorSolA2
import Derived.Laws.StructEq
import Derived.Laws.RangeString
import Derived.Laws.IdiomStrings
set_option linter.all false
namespace Go.Lg
section
variable{P:Program}{C:Ctx}{E:Env}{σ:St}{a:Act}{w:World}{gl:Nat->Option (List PV)}{o:Oper}{T:Nat->Option TI}{note:dC}
theorem Mn(h:Ga C E σ a w)(z:GOK gl C.E0.H)(m:∀d,o.dst=some d->d<C.nt){f:Nat}{first b:Array Operand}(p:o.op=.makeFunc (.func f) first b){r:R}{t:Nat->Option Ob}
  (g:mA T note (σ.val gl) t o.dst (.makeFunc (.func f) first b)=some r):Sound P C E σ a w o r:=by
 simp only[mA]at g;split at g
 ·rename_i s;cases g;have k:first= #[]:=Array.eq_empty_of_size_eq_zero s
  subst k;have i:∀l:List Operand,RepVL E (l.map (σ.val gl)) (l.map a.eval):=by
   intro l
   induction l with|nil=>simp[RepVL]|cons x l u=>grind[RepVL,QA]
  have e:∀(fn:Fn)(first cap:Array Value),(Instr.makeFunc fn first cap).run P w=.ok (.func fn first cap) w:=λ_ _ _=>rfl
  refine Sound.pure h (v:=.func (.func f) #[] (b.toList.map a.eval).toArray) (.inl ?_) ?_ ?_ m trivial
  ·have:Array.map a.eval b=(List.map a.eval b.toList).toArray:=by rw[<-Array.toList_map]
   simp[execOp,p,e,this]
  ·grind[RepV]
  intro n j;obtain⟨c,v,j⟩:=mem_namesL.1 j
  grind[sC]
 split at g
 ·rename_i s y;cases g;have k:b= #[]:=Array.eq_empty_of_size_eq_zero y;subst k;have i:∀l:List Operand,RepVL E (l.map (σ.val gl)) (l.map a.eval):=by
   intro l
   induction l with|nil=>simp[RepVL]|cons x l u=>grind[RepVL,QA]
  have e:∀(fn:Fn)(first cap:Array Value),(Instr.makeFunc fn first cap).run P w=.ok (.func fn first cap) w:=λ_ _ _=>rfl
  refine Sound.pure h (v:=.func (.func f) (first.toList.map a.eval).toArray #[]) (.inl ?_) ?_ ?_ m trivial
  ·have:Array.map a.eval first=(List.map a.eval first.toList).toArray:=by rw[<-Array.toList_map]
   simp[execOp,p,e,this]
  ·grind[RepV]
  intro n j;obtain⟨c,v,j⟩:=mem_namesL.1 j
  grind[sC]
 cases g
theorem Nn(h:Ga C E σ a w)(l:∀d,o.dst=some d->d<C.nt){t:Nat}(p:o.op=.makeMap t none){r:R}{s:Nat->Option Ob}{val:Operand->V}(y:r.cond)
  (f:mA T note val s o.dst (.makeMap t none)=some r) (g:∀n x,r.wr=some (n,x)->r.new=true->n∉σ.used):Sound P C E σ a w o r:=by
 simp only[mA]at f;split at f
 ·rename_i n j;cases f;have g:=g n _ rfl rfl;let E':Env:={E with g:=λm=>if m=n then .map (some w.heap.size)else E.g m};have c:E'.g n=.map (some w.heap.size):=by simp[E']
  have u:∀m,m≠n->E'.g m=E.g m/\E'.ver m=E.ver m/\E'.sz m=E.sz m:=λm k=>⟨by grind,rfl,rfl⟩
  refine⟨.map (some w.heap.size),w.alloc (.map #[] 0),E',.inl ?_,?_,trivial⟩
  ·have:(Instr.makeMap t none).run P w=.ok (.map (some w.heap.size)) (w.alloc (.map #[] 0)):=rfl;simp[execOp,p,this]
  refine h.change (E':=E') n (some (.smap j [])) (iB σ.objs n (.smap j [])) (n::σ.used) o.dst (.map n) _ (λm=>fD _ _ _ _) (Hle.refl _) u (λi=>absurd i g) (λi=>absurd i g)
   (by simp) ⟨rfl,rfl,rfl⟩ (λb v _=>⟨heap_alloc_old w _ b v,rfl⟩) (vQ h.heap _ E' rfl) ?_ ?_ (λm k=>by simp[k]) ?_ ?_ l
  ·intro z e;cases e;exact⟨⟨w.heap.size,#[],0,c,heap_alloc_new w _,h.heap.lt (Nat.le_refl _),by simp[EntsS],by simp[StampOK]⟩,by simp,by simp[Ob.names,DC]⟩
  ·grind[BA]
  ·exact⟨_,c,rfl⟩
  simp[V.names]
 cases f
def UW(w:World)(r b:Nat)(c:Obj)(h:b≠r):({w with heap:=w.heap.setIfInBounds r c}:World).heap[b]? =w.heap[b]?:=by
 grind
def QH(s:Bool):TypeDesc:=match s with|true=>.string|false=>.int .i64
def Kc{x y:List Nat}(c:∀b∈x,b<256)(d:∀b∈y,b<256):((⟨(x.map UInt8.ofNat).toArray⟩:ByteArray)==⟨(y.map UInt8.ofNat).toArray⟩)=GE x y:=by
 rw[beq_toListBytes,ByteArray.toList_mk,ByteArray.toList_mk,mc c d]
def On{a b:SK}{s:Bool}(d:a.kind=s)(c:b.kind=s)(e:a.ok)(f:b.ok):Instr.sameNow (QH s) a.v b.v=some (SK.eqB a b):=by
 subst d
 cases a with
 |int n=>
  cases b with
  |int m=>
   rfl
  |str y=>cases c
 |str x=>
  cases b with
  |int m=>cases c
  |str y=>
   simp only[SK.kind,QH,SK.v,Instr.sameNow,SK.eqB,Kc e f]
def VW{s:Bool}{a:SK}(f:a.kind=s)(g:a.ok){E:Env}:∀(c:List (SK×V))(d:List MapEntry)(i:Nat),EntsS E s c d->
  (uF c a=none->Instr.findNow (QH s) a.v d i=some none/\SD c a=λx=>c++[(a,x)])/\
  (∀x,uF c a=some x->∃j e,Instr.findNow (QH s) a.v d i=some (some (i+j,e.val))/\d[j]? =some e/\e.key=a.v/\RepV E x e.val/\∀y v,RepV E y v->EntsS E s (SD c a y) (d.modify j λe=>{e with key:=a.v,val:=v}))
 |[],[],i,_=>by
  refine⟨λ_=>⟨rfl,by funext p;rfl⟩,λp h=>by cases h⟩
 |(u,F)::c,m::d,i,r=>by
  have z:=VW f g c d (i+1) r.2;have b:=On f r.1.2.1 g r.1.2.2.1
  cases e:SK.eqB a u with
  |true=>
   have k:=(SK.eqB_iff a u).1 e;refine⟨λh=>by grind[uF],λx h=>?_⟩;simp only[uF,e,cond_true,Option.some.injEq]at h;subst h;refine⟨0,m,?_,rfl,by rw[k];exact r.1.1,r.1.2.2.2,λy v l=>?_⟩
   ·unfold Instr.findNow;rw[r.1.1,b,e];rfl
   simp only[SD,e,cond_true,List.modify_zero_cons];exact⟨⟨rfl,f,g,l⟩,r.2⟩
  |false=>
   refine⟨λh=>?_,λx h=>?_⟩
   ·simp only[uF,e,cond_false]at h;obtain⟨n,t⟩:=z.1 h;refine⟨?_,?_⟩
    ·unfold Instr.findNow;rw[r.1.1,b,e];exact n
    funext x;simp only[SD,e,cond_false,t];rfl
   simp only[uF,e,cond_false]at h;obtain⟨j,k,n,t,A,B,D⟩:=z.2 x h;refine⟨j+1,k,?_,by simpa using t,A,B,λy v l=>?_⟩
   ·unfold Instr.findNow;rw[r.1.1,b,e];simp only[n];congr 3;omega
   simp only[SD,e,cond_false,List.modify_succ_cons];exact⟨r.1,D y v l⟩
 |[],_::_,_,r=>r.elim|(_,_)::_,[],_,r=>r.elim
theorem EntsS.app{E:Env}{s:Bool}{k:SK}{x:V}{v:Value}{c:Nat}(b:k.kind=s)(d:k.ok)(e:RepV E x v):∀{f:List (SK×V)}{g:List MapEntry},EntsS E s f g->EntsS E s (f++[(k,x)]) (g++[⟨k.v,v,c⟩])|[],[],_=>⟨⟨rfl,b,d,e⟩,trivial⟩|(_,_)::_,_::_,r=>⟨r.1,EntsS.app b d e r.2⟩|[],_::_,r=>r.elim|(_,_)::_,[],r=>r.elim
def Lc{a:SK}{x:V}:∀{b:List (SK×V)}{n:Nat},n∈DC (SD b a x)->n∈x.names\/n∈DC b
 |[],n,h=>by grind[SD,DC]|(k,y)::r,n,h=>by
  unfold SD at h
  cases e:SK.eqB a k with
  |true=>
   rw[e]at h;simp only[cond_true,DC,List.mem_append]at h⊢
   grind
  |false=>
   rw[e]at h;simp only[cond_false,DC,List.mem_append]at h⊢;rcases h with h|h
   ·exact .inr (.inl h)
   rcases Lc h with h|h
   ·exact .inl h
   exact .inr (.inr h)
def Qn{a:SK}{x:V}:∀{b:List (SK×V)},uF b a=some x->∀n∈x.names,n∈DC b
 :=by intro x;induction x<;>grind[uF,SK.eqB,DC]
def Mc{E:Env}{k:V}{a:SK}{v:Value}(h:TN k=some a)(b:RepV E k v):v=a.v/\a.ok:=by
 unfold TN at h;split at h
 ·cases h;exact⟨by grind[RepV,RepP,SK.v],trivial⟩
 ·cases h;exact⟨b.1,b.2⟩
 cases h
def Rn(a:SK)(b:a.ok):Instr.sameBits 10000 a.v a.v=true:=by
 cases a with|int n=>simp[SK.v,Instr.sameBits]|str l=>simp only[SK.v,Instr.sameBits,Kc b b];exact(TP l l).2 rfl
def Nc{c:Nat}{s:Bool}(d:P.underlying c=some (QH s))(b:Bool)(v:Value):(Instr.checkKey b 10000 c v).run P w=.ok () w:=by
 unfold Instr.checkKey;cases s<;>simp only[QH]at d<;>simp[Sem.run_bind,run_underlying d]
def LS{b:Nat}{s:Bool}(d:P.underlying b=some (QH s)){v:Value}{c:List MapEntry}{q:Option (Nat×Value)}(h:Instr.findNow (QH s) v c 0=some q):(Instr.findKey b v c).run P w=.ok q w:=by
 unfold Instr.findKey;simp only[Sem.run_bind,run_underlying d,Result.andThen_ok,h];rfl
def StampOK.push{e:List MapEntry}{d:Nat}(h:StampOK e d)(k v:Value):StampOK (e++[⟨k,v,d⟩]) (d+1):=by
 refine⟨λx c=>?_,?_⟩
 ·rcases List.mem_append.1 c with c|c
  ·exact Nat.lt_succ_of_lt (h.1 x c)
  simp_all
 rw[List.map_append,List.nodup_append];refine⟨h.2,by simp,λa g b f=>?_⟩;obtain⟨x,c,rfl⟩:=List.mem_map.1 g;simp at f;subst f;exact Nat.ne_of_lt (h.1 x c)
def Oc{f:MapEntry->MapEntry}(b:∀e,(f e).born=e.born):∀(l:List MapEntry)(j:Nat),(l.modify j f).map (·.born)=l.map (·.born)
 :=by intro x;induction x<;>grind[]
def StampOK.modify{b:List MapEntry}{c:Nat}(h:StampOK b c)(j:Nat)(f:MapEntry->MapEntry)(d:∀e,(f e).born=e.born):StampOK (b.modify j f) c:=by
 refine⟨λx g=>?_,by rw[Oc d];exact h.2⟩;have:x.born∈(b.modify j f).map (·.born):=List.mem_map.2 ⟨x,g,rfl⟩;rw[Oc d]at this;obtain⟨y,i,e⟩:=List.mem_map.1 this;rw[<-e];exact h.1 y i
def Pc(h:Ga C E σ a w)(hg:GOK gl C.E0.H){t kt vt:Nat}{s:Bool}{m k v:Operand}(K:P.underlying t=some (.map kt vt))(hu:P.underlying kt=some (QH s))(Y:o.op=.mapUpdate t m k v\/o.op=.insert t m k v)(L:o.dst=none){r:R}(hc:r.cond)
  (H:RI s (zA σ.objs) (σ.val gl m) (σ.val gl k) (σ.val gl v)=some r):Sound P C E σ a w o r:=by
 have hm:=QA h hg m;have hk:=QA h hg k;have hv:=QA h hg v;have nv:=sC (gl:=gl) h v;unfold RI at H;split at H
 ·rename_i n u em ek;rw[em]at hm;obtain⟨M,B⟩:=Mc ek hk;split at H
  ·rename_i D I N;cases H;obtain⟨rfl,g⟩:=hc;simp only[RepV]at hm;obtain⟨b,F,O⟩:=hm;obtain⟨b',J,Z,y,d,i,l,Q⟩:=h.objs n _ N;rw[F]at y;cases y;obtain⟨hf1,hf2⟩:=VW g B I J.toList 0 l;have key:∀f p,EntsS E D (SD I u (σ.val gl v)) f.toList->StampOK f.toList p->(Instr.mapUpdate t (a.eval m) (a.eval k) (a.eval v)).run P w=.ok () {w with heap:=w.heap.setIfInBounds b (.map f p)}->
     Sound P C E σ a w o ⟨D=D/\u.kind=D,True,.undef,some (n,.smap D (SD I u (σ.val gl v))),false⟩:=by
    intro f p x S hr;refine⟨undef,{w with heap:=w.heap.setIfInBounds b (.map f p)},E,.inr ⟨?_,rfl⟩,?_,trivial⟩
    ·rcases Y with Y|Y<;>simp only[execOp,Y,Sem.run_bind,hr,Result.andThen_ok]<;>rfl
    have hbl:b<w.heap.size:=(Array.getElem?_eq_some_iff.1 d).1;refine h.change (E':=E) n (some (.smap D (SD I u (σ.val gl v)))) (iB σ.objs n (.smap D (SD I u (σ.val gl v)))) σ.used o.dst .undef undef (λm=>fD _ _ _ _) (Hle.refl _) (λ_ _=>⟨rfl,rfl,rfl⟩) (λ_=>EExt.refl _ _) (λ_=>⟨_,N⟩) (by simp) ⟨rfl,rfl,rfl⟩
     (λb1 hlt hne=>⟨UW w b b1 _ (λe=>hne _ N (by rw[e,F];rfl)),rfl⟩) ?_ ?_ ?_ (λ_ h=>h) (by simp[RepV]) (by simp[V.names]) (by rw[L];simp)
    ·intro b1 U;have:b1≠b:=λe=>U (e▸i)
     obtain⟨c,T',fr,hc,hp⟩:=h.heap b1 U
     grind
    ·intro o' e;cases e;refine⟨⟨b,f,p,F,by simp[hbl],i,x,S⟩,(h.usedO n _ N).1,λq hq=>?_⟩;rcases Lc hq with hq|hq
     ·simp_all
     exact(h.usedO n _ N).2 q hq
    simp_all
   have z:(getObj b).run P w=.ok (.map J Z) w:=by simp[getObj,Sem.run,d]
   have A:∀ob:Obj,(setObj b ob).run P w=.ok () {w with heap:=w.heap.setIfInBounds b ob}:=by intro ob;simp[setObj,Sem.run,d]
   have W:=λc v=>Nc (w:=w) hu c v
   cases X:uF I u with
   |none=>
    obtain⟨h1,h2⟩:=hf1 X;have G:=LS (w:=w) hu h1;refine key (J.push ⟨u.v,a.eval v,Z⟩) (Z+1) ?_ ?_ ?_
    ·rw[h2];simp only[Array.toList_push];exact l.app g B hv
    ·simp only[Array.toList_push];exact Q.push _ _
    unfold Instr.mapUpdate;simp only[Sem.run_bind,run_underlying K,Result.andThen_ok,O,z,M,W,G,A]
   |some q=>
    obtain⟨j,e0,h1,h2,h3,h4,h5⟩:=hf2 q X;rw[Nat.zero_add]at h1;have G:=LS (w:=w) hu h1;refine key (J.modify j λe=>{e with key:=u.v,val:=a.eval v}) Z ?_ ?_ ?_
    ·rw[Array.toList_modify];exact h5 _ _ hv
    ·rw[Array.toList_modify];exact Q.modify j _ λ_=>rfl
    have hkk:((J[j]?).map (·.key)).getD u.v=u.v:=by
     have:J[j]? =some e0:=by simpa using h2
     rw[this];simpa using h3
    unfold Instr.mapUpdate;simp only[Sem.run_bind,run_underlying K,Result.andThen_ok,O,z,M,W,G,hkk,Instr.keyThatStays,Rn _ B];simp[A]
  cases H
 cases H
def Sn(h:Ga C E σ a w)(Z:GOK gl C.E0.H)(J:∀d,o.dst=some d->d<C.nt){t kt vt:Nat}{s ok:Bool}{m k:Operand}(F:P.underlying t=some (.map kt vt))(K:P.underlying kt=some (QH s))(L:o.op=.lookup t m k ok){r:R}(hc:r.cond)
  {e:TI} (hv:TIOK P vt e) {z:PV} (ez:SI e=some z) (D:kK s ok z (zA σ.objs) (σ.val gl m) (σ.val gl k)=some r):Sound P C E σ a w o r:=by
 have M:=QA h Z m;have hk:=QA h Z k;unfold kK at D;split at D
 ·rename_i n ak em ek;rw[em]at M;obtain⟨G,N⟩:=Mc ek hk;split at D
  ·rename_i O es eo;cases D;obtain⟨rfl,i⟩:=hc;simp only[RepV]at M;obtain⟨b,Q,H⟩:=M;obtain⟨b',ms,ck,f,l,S,p,_⟩:=h.objs n _ eo;rw[Q]at f;cases f;obtain⟨U,W⟩:=VW i N es ms.toList 0 p;have g:(getObj b).run P w=.ok (.map ms ck) w:=by simp[getObj,Sem.run,l]
   have I:=λc v=>Nc (w:=w) K c v
   have hz:RepP E.H z e.zero:=LW hv ez E.H;have MB:∀(u:Value)(x:V)(c:Bool),RepV E x u->(∀n∈x.names,n∈σ.used)->(Instr.lookup t (a.eval m) (a.eval k) ok).run P w=.ok (if ok then .tuple #[u,.bool c]else u) w->
     Sound P C E σ a w o ⟨O=O/\ak.kind=O,True,(match ok with|true=>.tuple [x,.pv (.bool c)]|false=>x),.none,false⟩:=by
    intro u x c hx hn y
    cases ok with
    |true=>
     refine Sound.pure h (v:=.tuple #[u,.bool c]) (.inl ?_) ?_ (by grind[V.names,CA]) J trivial
     ·simp only[execOp,L,Sem.run_bind,y,Result.andThen_ok];rfl
     simp only[RepV];exact⟨[u,.bool c],rfl,by simp,by simp only[RepVL];exact⟨hx,by rfl,trivial⟩⟩
    |false=>
     refine Sound.pure h (v:=u) (.inl ?_) hx hn J trivial;simp only[execOp,L,Sem.run_bind,y,Result.andThen_ok];rfl
   cases A:uF es ak with
   |none=>
    obtain⟨X,_⟩:=U A;have B:=LS (w:=w) K X;have y:(Instr.lookup t (a.eval m) (a.eval k) ok).run P w=.ok (if ok then .tuple #[e.zero,.bool false]else e.zero) w:=by
     unfold Instr.lookup;simp only[Sem.run_bind,run_underlying F,Result.andThen_ok,H,g,G];cases ok<;>simp[I,B,hv.run_zero]
    have:=MB e.zero (.pv z) false (by simpa only[RepV]using hz) (by simp[V.names]) y
    cases ok with
    |true=>
     exact Sound.pure h (v:=.tuple #[e.zero,.bool false]) (.inl (by simp only[execOp,L,Sem.run_bind,y,Result.andThen_ok];rfl)) (by
      exact⟨[e.zero,.bool false],rfl,by simp,by simp only[RepL,RepP];exact⟨hz,by simp⟩⟩) (by simp[V.names]) J trivial
    |false=>exact this
   |some x=>
    obtain⟨j,Y,X,h2,h3,h4,_⟩:=W x A;have B:=LS (w:=w) K X;have y:(Instr.lookup t (a.eval m) (a.eval k) ok).run P w=.ok (if ok then .tuple #[Y.val,.bool true]else Y.val) w:=by
     unfold Instr.lookup;simp only[Sem.run_bind,run_underlying F,Result.andThen_ok,H,g,G];cases ok<;>simp[I,B]
    have:=MB Y.val x true h4 (λq hq=>(h.usedO n _ eo).2 q (Qn A q hq)) y
    cases ok with|true=>exact this|false=>exact this
  cases D
 cases D
theorem Tn(h:Ga C E σ a w)(g:GOK gl C.E0.H)(i:BB P T){t:Nat}{m k v:Operand}(j:o.op=.mapUpdate t m k v){r:R}(l:r.cond)
  (c:mA T note (σ.val gl) (zA σ.objs) o.dst (.mapUpdate t m k v)=some r):Sound P C E σ a w o r:=by
 simp only[mA]at c;split at c
 ·rename_i u x n y z A B b p;obtain⟨d,e,f⟩:=(i t _ p).desc;obtain⟨rfl,s⟩:=f;exact Pc h g e (by cases n<;>exact s) (.inl j) b l c
 cases c
theorem Un(h:Ga C E σ a w)(g:GOK gl C.E0.H)(i:BB P T){t:Nat}{m k v:Operand}(j:o.op=.insert t m k v){r:R}(l:r.cond)
  (c:mA T note (σ.val gl) (zA σ.objs) o.dst (.insert t m k v)=some r):Sound P C E σ a w o r:=by
 simp only[mA]at c;split at c
 ·rename_i u x n y z A B b p;obtain⟨d,e,f⟩:=(i t _ p).desc;obtain⟨rfl,s⟩:=f;exact Pc h g e (by cases n<;>exact s) (.inr j) b l c
 cases c
theorem Vn(h:Ga C E σ a w)(i:GOK gl C.E0.H)(j:∀d,o.dst=some d->d<C.nt)(g:BB P T){t:Nat}{m k:Operand}{ok:Bool}(l:o.op=.lookup t m k ok){r:R}(n:r.cond)
  (b:mA T note (σ.val gl) (zA σ.objs) o.dst (.lookup t m k ok)=some r):Sound P C E σ a w o r:=by
 simp only[mA]at b;split at b
 ·rename_i A p s B D F G u;obtain⟨d,c,e⟩:=(g t _ u).desc;obtain⟨rfl,v⟩:=e;split at b
  ·rename_i H f;have x:=g p _ f;split at b
   ·rename_i z y;exact Sn h i j c (by cases s<;>exact v) l n x y b
   cases b
  cases b
 cases b
theorem Wn(h:Ga C E σ a w)(s:GOK gl C.E0.H)(u:∀d,o.dst=some d->d<C.nt)(v:BB P T){t:Nat}{x:Operand}(y:o.op=.range t x){r:R}
  (c:mA T note (σ.val gl) (zA σ.objs) o.dst (.range t x)=some r) (i:∀n x,r.wr=some (n,x)->r.new=true->n∉σ.used):Sound P C E σ a w o r:=by
 have j:=QA h s x;simp only[mA]at c;split at c
 ·rename_i G H I J z;obtain⟨d,k,f⟩:=(v t _ z).desc;subst f;unfold HW at c;split at c
  ·rename_i n l A;rw[A]at j;cases c;have i:=i n _ rfl rfl;let E':Env:={E with g:=λm=>if m=n then .pointer (some ⟨w.heap.size,0,none⟩)else E.g m};have g:E'.g n=.pointer (some ⟨w.heap.size,0,none⟩):=by simp[E']
   have B:∀m,m≠n->E'.g m=E.g m/\E'.ver m=E.ver m/\E'.sz m=E.sz m:=λm p=>⟨by grind,rfl,rfl⟩
   refine⟨.pointer (some ⟨w.heap.size,0,none⟩),w.alloc (.stringIter ⟨(l.map UInt8.ofNat).toArray⟩ 0),E',.inl ?_,?_,trivial⟩
   ·have D:(Instr.range t (a.eval x)).run P w=.ok (.pointer (some ⟨w.heap.size,0,none⟩)) (w.alloc (.stringIter ⟨(l.map UInt8.ofNat).toArray⟩ 0)):=by
     rw[j.1];simp[Instr.range,Sem.run_bind,run_underlying k]
    simp only[execOp,y,Sem.run_bind,D,Result.andThen_ok];rfl
   refine h.change (E':=E') n (some (.siter l 0)) (iB σ.objs n (.siter l 0)) (n::σ.used) o.dst (.loc n 0) _ (λm=>fD _ _ _ _) (Hle.refl _) B (λf=>absurd f i) (λf=>absurd f i)
    (by simp) ⟨rfl,rfl,rfl⟩ (λb F _=>⟨heap_alloc_old w _ b F,rfl⟩) (vQ h.heap _ E' rfl) ?_ ?_ (λm p=>by simp[p]) ?_ ?_ u
   ·intro K e;cases e;exact⟨⟨w.heap.size,g,heap_alloc_new w _,h.heap.lt (Nat.le_refl _),j.2⟩,by simp,by simp[Ob.names]⟩
   ·grind[BA]
   ·exact⟨_,g,rfl⟩
   simp[V.names]
  cases c
 cases c
theorem Xn(h:Ga C E σ a w)(W:GOK gl C.E0.H)(O:∀d,o.dst=some d->d<C.nt){x:Operand}(Q:o.op=.next x true){r:R}(S:r.cond)
  (j:mA T note (σ.val gl) (zA σ.objs) o.dst (.next x true)=some r):Sound P C E σ a w o r:=by
 have H:=QA h W x;simp only[mA]at j;unfold UN at j;split at j
 ·rename_i n X;rw[X]at H;simp only[RepV]at H;obtain⟨b,z,U⟩:=H;split at j
  ·rename_i l p B;obtain⟨b',u,f,i,k⟩:=h.objs n _ B;rw[z]at u;cases u;have v:(getObj b).run P w=.ok (.stringIter ⟨(l.map UInt8.ofNat).toArray⟩ p) w:=by simp[getObj,Sem.run,f]
   have D:∀I:Obj,(setObj b I).run P w=.ok () {w with heap:=w.heap.setIfInBounds b I}:=by intro I;simp[setObj,Sem.run,f]
   have g:(⟨(l.map UInt8.ofNat).toArray⟩:ByteArray).size=l.length:=by simp[ByteArray.size]
   have J:b<w.heap.size:=(Array.getElem?_eq_some_iff.1 f).1;split at j
   ·rename_i c F;cases j;have s:p<l.length:=(List.getElem?_eq_some_iff.1 F).1;have G:l[p]=c:=(List.getElem?_eq_some_iff.1 F).2;have y:=decode_ascii (⟨(l.map UInt8.ofNat).toArray⟩:ByteArray) p (by rw[g];exact s) (by
     have K:((⟨(l.map UInt8.ofNat).toArray⟩:ByteArray)[p]'(by rw[g];exact s))=UInt8.ofNat l[p]:=by simp[ByteArray.getElem_eq_getElem_data]
     rw[K,G];have:(UInt8.ofNat c).toNat=c:=by simp;omega
     omega)
    have L:((⟨(l.map UInt8.ofNat).toArray⟩:ByteArray)[p]'(by rw[g];exact s)).toNat=c:=by
     have K:((⟨(l.map UInt8.ofNat).toArray⟩:ByteArray)[p]'(by rw[g];exact s))=UInt8.ofNat l[p]:=by simp[ByteArray.getElem_eq_getElem_data]
     rw[K,G];simp;omega
    rw[L]at y;have M:(Instr.next (a.eval x) true o.type).run P w=.ok (.tuple #[.bool true,.int .i64 p,.int .i32 c]) {w with heap:=w.heap.setIfInBounds b (.stringIter ⟨(l.map UInt8.ofNat).toArray⟩ (p+1))}:=by
     rw[U];unfold Instr.next;simp only[Sem.run_bind,v,Result.andThen_ok,g,s,if_true,y,D,goInt];simp
    refine⟨.tuple #[.bool true,.int .i64 p,.int .i32 c],{w with heap:=w.heap.setIfInBounds b (.stringIter ⟨(l.map UInt8.ofNat).toArray⟩ (p+1))},E,.inl ?_,?_,trivial⟩
    ·simp only[execOp,Q,Sem.run_bind,M,Result.andThen_ok];rfl
    refine h.change (E':=E) n (some (.siter l (p+1))) (iB σ.objs n (.siter l (p+1))) σ.used o.dst _ _ (λm=>fD _ _ _ _) (Hle.refl _) (λ_ _=>⟨rfl,rfl,rfl⟩) (λ_=>EExt.refl _ _) (λ_=>⟨_,B⟩) (by simp) ⟨rfl,rfl,rfl⟩
     (λA k N=>⟨UW w b A _ (λe=>N _ B (by rw[e,z];rfl)),rfl⟩) ?_ ?_ ?_ (λ_ h=>h) ?_ (by simp[V.names]) O
    ·intro A t;have:A≠b:=λe=>t (e▸i)
     obtain⟨c,Y,Z,S,s⟩:=h.heap A t;exact⟨c,Y,Z,by rw[UW w b A _ this];exact S,s⟩
    ·intro o' e;cases e;exact⟨⟨b,z,by simp[J],i,k⟩,(h.usedO n _ B).1,by simp[Ob.names]⟩
    ·intro o' A e t;exact .inr ⟨t,_,B⟩
    simp only[RepV,RepP];exact⟨[.bool true,.int .i64 p,.int .i32 c],rfl,by simp,by simp[RepL,RepP]⟩
   rename_i F;cases j;have s:¬p<l.length:=by
    intro k;rw[List.getElem?_eq_getElem k]at F;cases F
   have M:(Instr.next (a.eval x) true o.type).run P w=.ok (.tuple #[.bool false]) w:=by
    rw[U];unfold Instr.next;simp only[Sem.run_bind,v,Result.andThen_ok,g,s,if_false];simp
   refine Sound.pure h (v:=.tuple #[.bool false]) (.inl ?_) ?_ (by simp[V.names]) O trivial
   ·simp only[execOp,Q,Sem.run_bind,M,Result.andThen_ok];rfl
   exact⟨[.bool false],rfl,by simp,by simp[RepL,RepP]⟩
  cases j
 cases j
def Qc:∀{c:List (List PV)}{l:List Nat},UI c=some l->l.length=c.length/\(∀e∈c,e.length=1)/\∀b∈l,b<256
 |[],_,h=>by cases h;simp
 |e::r,l,h=>by
  unfold UI at h;split at h
  ·simp_all
  ·rename_i b g i
   cases d:Nat.blt b 256 with
   |false=>rw[d]at h;cases h
   |true=>
    rw[d]at h;split at h
    ·rename_i j f;cases h;obtain⟨k,m,n⟩:=Qc f;simp_all
    cases h
  cases h
def Uc{H:Hp}:∀{f:List (List PV)}{l:List Nat}{c:List Value},UI f=some l->RepE H f c->∀(j:Nat)(b:Nat),l[j]? =some b->c[j]? =some (.int .u8 (Int.ofNat b))
 |[],_,_,h,_,j,b,d=>by cases h;simp at d
 |e::r,l,c,h,g,j,b,d=>by
  unfold UI at h;split at h
  ·simp_all
  ·rename_i k p m;cases m
   cases i:Nat.blt k 256 with
   |false=>rw[i]at h;cases h
   |true=>
    rw[i]at h;split at h
    ·rename_i s n;cases h
     cases c with
     |nil=>grind[RepE,RepL]|cons u c=>
      cases j with|zero=>simp at d;subst d;simp[g.1.1.1]|succ j=>simpa using Uc n g.2 j b (by simpa using d)
    cases h
  cases h
theorem Yn(h:Ga C E σ a w)(hg:GOK gl C.E0.H)(O:∀d,o.dst=some d->d<C.nt)(B:BB P T){s t:Nat}{x:Operand}(Q:o.op=.convert s t x){r:R}(hc:r.cond)
  (l:mA T note (σ.val gl) (zA σ.objs) o.dst (.convert s t x)=some r):Sound P C E σ a w o r:=by
 have c:=QA h hg x;simp only[mA]at l;have key:∀(f:TI)(k m:IntKind)(n:Int)(p b:Nat)(z:Value)(u:List PV),T s=some f->T t=some ⟨.num k,p,b,z,u⟩->a.eval x=.int m n->Sound P C E σ a w o (R.of (.pv (.num k (k.wrap n)))):=by
  intro f k m n p b z u g i S;obtain⟨d,D,_⟩:=(B s _ g).desc;obtain⟨d',F,H⟩:=(B t _ i).desc;simp only[EC]at H;obtain⟨rfl,h1,h2⟩:=H;refine Sound.pure h (v:=.int k (k.wrap n)) (.inl ?_) (by simp only[RepV,RepP];simp_all) (by simp[V.names]) O trivial;simp[execOp,Q,S,convert,run_underlying D,run_underlying F,Conv.intToInt]
 have A:∀(f:TI)(m:IntKind)(n:Int)(p b:Nat)(z:Value)(u:List PV),T s=some f->T t=some ⟨.int,p,b,z,u⟩->a.eval x=.int m n->Sound P C E σ a w o (R.of (.pv (.int (IntKind.i64.wrap n)))):=by
  intro f m n p b z u g i S;obtain⟨d,D,_⟩:=(B s _ g).desc;obtain⟨d',F,H⟩:=(B t _ i).desc;simp only[EC]at H;subst H;refine Sound.pure h (v:=.int .i64 (IntKind.i64.wrap n)) (.inl ?_) (by simp only[RepV,RepP]) (by simp[V.names]) O trivial;simp[execOp,Q,S,convert,run_underlying D,run_underlying F,Conv.intToInt]
 split at l
 ·rename_i f k p b z u m n g i e;cases l;rw[e]at c;simp only[RepV,RepP]at c;exact key f k m n _ _ _ _ g i c.1
 ·rename_i f k p b z u n g i e;cases l;rw[e]at c;simp only[RepV,RepP]at c;exact key f k .i64 n _ _ _ _ g i c
 ·rename_i f p b z u m n g i e;cases l;rw[e]at c;simp only[RepV,RepP]at c;exact A f m n _ _ _ _ g i c.1
 ·rename_i f p b z u n g i e;cases l;rw[e]at c;simp only[RepV,RepP]at c;exact A f .i64 n _ _ _ _ g i c
 ·rename_i e s1 s2 s3 s4 u1 u2 u3 u4 G g i ex;split at l
  ·rename_i v1 v2 v3 v4 U W ee el;cases l;rw[ex]at c;obtain⟨d1,X,I⟩:=(B s _ g).desc;obtain⟨d2,Y,J⟩:=(B t _ i).desc;obtain⟨d3,Z,K⟩:=(B e _ ee).desc;simp only[EC]at I J K;subst I J;obtain⟨rfl,_⟩:=K;obtain⟨q1,q2,q3⟩:=Qc el;have L:kA G≠[]:=by
    intro h0;have:=congrArg List.length h0;simp[kA]at this;simp[this]at q1
   rcases yQ (y:=.pv (.slice G)) (ys:=kA G) rfl c with ⟨e0,_⟩|⟨b',M,c',hvv,hsr⟩
   ·exact absurd e0 L
   obtain⟨news,_,hnr,v⟩:=kQ h hsr (λe he=>by obtain⟨y,hy,rfl⟩:=List.mem_map.1 he;simpa[DA]using q2 y hy) L Nat.zero_lt_one;have hr:=run_convert_bytes_back (P:=P) w s t e ⟨b',M,none⟩ c' ((U::W).map UInt8.ofNat) X Z Y λj hj=>by
    have N:j<(U::W).length:=by simpa using hj
    rw[v j _ (Uc el (RepVE.toPv (zK G) hnr) j _ (List.getElem?_eq_getElem N))];rw[List.getElem_map];have:=q3 _ (List.getElem_mem N);simp[Nat.mod_eq_of_lt this]
   rw[List.length_map,q1,show G.length=(kA G).length by simp[kA]]at hr;refine Sound.pure h (v:=.string ⟨((U::W).map UInt8.ofNat).toArray⟩) (.inl ?_) (by simp only[RepV,RepP];exact⟨trivial,q3⟩) (by simp[V.names]) O trivial;simp only[execOp,Q,hvv,Sem.run_bind,hr,Result.andThen_ok];rfl
  cases l
 cases l
end
section
variable{P:Program}{C:Ctx}{E:Env}{σ:St}{a:Act}{w:World}{gl:Nat->Option (List PV)}{o:Oper}{T:Nat->Option TI}{note:dC}
def WW(H:BB P T)(D:GOK gl C.E0.H)(h:Ga C E σ a w)(A:∀d,o.dst=some d->d<C.nt){r:R}
  (e:mA T note (σ.val gl) (zA σ.objs) o.dst o.op=some r) (I:r.cond) (F:∀n x,r.wr=some (n,x)->r.new=true->n∉σ.used):Sound P C E σ a w o r:=by
 generalize l:o.op=op at e;have p:∀x,(op=.move x\/op=.assign x)->mA T note (σ.val gl) (zA σ.objs) o.dst op=some r->Sound P C E σ a w o r:=by
  intro x z e;have g:wK note (σ.val gl) x=some r:=by
   rcases z with rfl|rfl<;>simpa only[mA]using e
  unfold wK at g;split at g
  ·cases g;exact Cn h A (F _ _ rfl rfl) (by rcases z with rfl|rfl<;>simp[l])
  cases g;exact Dm h D A (by rcases z with rfl|rfl<;>simp[l])
 cases op with
 |move x=>simp_all|assign x=>simp_all|pick c x y=>grind[Em]|alloc t=>grind[ln]|box t x=>grind[mn]|build t parts=>grind[pn]|buildSlice t len parts=>grind[Bn]|load t x=>grind[Xm]|store t x y=>grind[xn]|nilCheck x=>grind[Jm]|convert s t x=>grind[Yn]|binOp b t x y J=>grind[Qm]|unOp u t x=>
  cases u
  case not=>grind[Gm]
  all_goals cases e
 |makeInterface t x=>grind[Hm]|fieldAddr t x f=>grind[Rm]|field t x f=>grind[Vm]|indexAddr t x i=>grind[Wm]|extract x i=>grind[Sm]|slice t x K L M=>grind[vn]|typeAssert x N t b=>grind[Im]|makeFunc fn first B=>
  cases fn with|func f=>grind[Mn]|_=>cases e
 |makeMap t G=>
  cases G with|none=>grind[Nn]|some _=>cases e
 |mapUpdate t m k v=>grind[Tn]|lookup t m k ok=>grind[Vn]|insert t m k v=>grind[Un]|index t x i=>grind[yn]|range t x=>grind[Wn]|next x b=>
  cases b with|true=>grind[Xn]|false=>cases e
 |call c=>
  obtain⟨callee,args,j⟩:=c
  cases callee with
  |builtin b=>
   cases b
   case len=>grind[Ym]
   case append=>grind[Kn]
   case max=>grind[Ln]
   all_goals cases e
  |value f=>cases e
  |invoke r m=>cases e
 |_=>cases e
end
def jA(l:List (Nat×Ob)):List Nat:=l.map (·.1)
theorem fC{l:List (Nat×Ob)}{n:Nat}{o:Ob}(h:zA l n=some o):n∈jA l:=by
 induction l with
 |nil=>grind[zA]|cons p r a=>
  grind[zA,jA]
theorem dH{l:List (Nat×Ob)}{n:Nat}(h:n∈jA l):∃o,zA l n=some o:=by
 induction l with
 |nil=>grind[jA]|cons p r a=>
  obtain⟨k,x⟩:=p;by_cases e:k=n
  ·exact⟨x,by simp[zA,e]⟩
  grind[jA,absurd,zA]
def rB:List (Nat×Ob)->List (Nat×Ob)->Prop|[],_=>True|(n,o)::r,l=>zA l n=some o/\rB r l
def XN:List Nat->List Nat->Prop|[],_=>True|n::r,u=>n∉u/\XN r u
theorem yK:∀{a l:List (Nat×Ob)},rB a l->∀n o,zA a n=some o->zA l n=some o
 :=by intro x;induction x<;>grind[zA,rB]
def XW:∀{l u:List Nat},XN l u->∀n∈l,n∉u
 |[],_,_,n,h=>by simp at h|k::r,u,a,n,h=>by
  rcases List.mem_cons.1 h with rfl|h
  ·exact a.1
  exact XW a.2 n h
def FC:List (Nat×Ob)->List Nat|[]=>[]|(_,o)::r=>o.names++FC r
def HE(args:List V)(a:List (Nat×Ob)):List Nat:=CA args++FC a
def Zn{a l:List (Nat×Ob)}{n:Nat}(b:rB a l)(h:n∈FC a):∃m o,zA l m=some o/\n∈o.names:=by
 induction a with
 |nil=>grind[FC]|cons p r c=>
  grind[rB,FC]
def YW{a l b:List (Nat×Ob)}(h:∀n∈jA a,zA l n=zA b n)(c:rB a l):rB a b:=by
 induction a with
 |nil=>trivial|cons p r d=>
  grind[rB,jA]
inductive Out where|ret (x:V)|panic (p:PV)
def Out.names:Out->List Nat|.ret x=>x.names|.panic _=>[]
def bQ(E:Env):Out->Ending->Prop|.ret x,e=>∃v,e=.returned v/\RepV E x v|.panic p,e=>∃v,e=.panicked [{v,recovered:=false}]/\RepP E.H p v
structure RH(gl:Nat->Option (List PV))(E:Env)(w:World)(objs:List (Nat×Ob)):Prop where
 heap:HeapOK E w
 glob:GOK gl E.H
 obs:∀n o,zA objs n=some o->ObOK E w n o
 apart:∀n m o o',zA objs n=some o->zA objs m=some o'->n≠m->∀b,BA (E.g n)=some b->BA (E.g m)≠some b
structure fH(E:Env)(w:World)(objs:List (Nat×Ob))(E':Env)(w':World)(objs':List (Nat×Ob)):Prop where
 heap:HeapOK E' w'
 obs:∀n o,zA objs' n=some o->ObOK E' w' n o
 apart:∀n m o o',zA objs' n=some o->zA objs' m=some o'->n≠m->∀b,BA (E'.g n)=some b->BA (E'.g m)≠some b
 hle:Hle E.H E'.H
 size:w.heap.size<=w'.heap.size
 rest:w'.os=w.os/\w'.tape=w.tape/\w'.output=w.output
 same:∀b,b<w.heap.size->(∀n o,zA objs n=some o->BA (E.g n)≠some b)->(nf (E.H b)->w'.heap[b]? =w.heap[b]?)/\E'.H b=E.H b
 own:∀n o b,zA objs' n=some o->BA (E'.g n)=some b->w.heap.size<=b\/∃m o',zA objs m=some o'/\BA (E.g m)=some b
 ext:∀n o,zA objs n=some o->EExt E E' n
 other:∀n,zA objs n=none->zA objs' n=none->E'.g n=E.g n/\E'.ver n=E.ver n/\E'.sz n=E.sz n
def MS(P:Program)(f:Nat):Prop:=∃fn,P.funcs[f]? =some fn/\(fn.name== "runtime.NumGoroutine")=false/\fn.body.isNone=false
structure AC(P:Program)(gl:Nat->Option (List PV))(f:Nat)(args:List V)(objs:List (Nat×Ob))(out:Out)(objs':List (Nat×Ob)):Prop where
 direct:MS P f
 names:∀n∈out.names,n∈jA objs\/n∈jA objs'\/n∈HE args objs
 namesO:∀m o,zA objs' m=some o->∀n∈o.names,n∈jA objs\/n∈jA objs'\/n∈HE args objs
 calls:∀(E:Env)(w:World)(vs:List Value),RH gl E w objs->vs.length=args.length->RepVL E args vs->
  Calls P f vs.toArray w λe w'=>∃E',fH E w objs E' w' objs'/\bQ E' out e
structure Eff where
 x:V
 wr:List (Nat×Option Ob)
 nw:List Nat
 rd:List Nat
def ZW(l:List (Nat×Ob))(n:Nat):Option Ob->List (Nat×Ob)|some o=>iB l n o|none=>NH l n
def dF(l:List (Nat×Ob)):List (Nat×Option Ob)->List (Nat×Ob)|[]=>l|(n,o)::r=>dF (ZW l n o) r
def St.eff(σ:St)(a:Option Nat)(e:Eff):St:=⟨QC a e.x σ.slots,dF σ.objs e.wr,e.nw++σ.used⟩
theorem qo(l:List (Nat×Ob))(k n:Nat)(o:Option Ob):zA (ZW l k o) n=if n=k then o else zA l n:=by
 cases o with|none=>exact UP l k n|some o=>exact fD l k n o
def GC:List (Nat×Option Ob)->Nat->Option (Option Ob)
 |[],_=>none|(k,o)::r,n=>match GC r n with|some x=>some x|none=>if k=n then some o else none
theorem uK:∀(a:List (Nat×Option Ob))(l:List (Nat×Ob))(n:Nat),zA (dF l a) n=match GC a n with|some o=>o|none=>zA l n
 |[],l,n=>rfl|(k,o)::r,l,n=>by
  simp only[dF,GC];rw[uK r]
  cases GC r n with
  |some x=>rfl|none=>
   grind[qo]
def AG(b a:List (Nat×Ob)):List (Nat×Option Ob):=
 ((jA b).filter (λn=>(zA a n).isNone)).map (λn=>(n,none))++a.reverse.map (λp=>(p.1,some p.2))
def IC(x:V)(a b:List (Nat×Ob)):Eff:=
 ⟨x,AG a b,(jA b).filter (λn=>(zA a n).isNone),jA a⟩
def bK(x:V)(c a b:List (Nat×Ob)):Eff:=
 ⟨x,AG a b,(jA b).filter (λn=>(zA a n).isNone),jA c++jA a⟩
theorem Vc(a b:List (Nat×Option Ob))(n:Nat):GC (a++b) n=match GC b n with|some x=>some x|none=>GC a n:=by
 induction a with
 |nil=>simp[GC];cases GC b n<;>rfl
 |cons p r c=>
  simp only[List.cons_append,GC,c];cases GC b n<;>rfl
def zo(l:List (Nat×Ob))(n:Nat):GC (l.reverse.map (λp=>(p.1,some p.2))) n=(zA l n).map some:=by
 induction l with
 |nil=>rfl|cons p r a=>
  grind[List.reverse_cons,Vc,GC,zA]
def jo(l:List Nat)(n:Nat):GC (l.map (λn=>(n,none))) n=if n∈l then some none else none:=by
 induction l with
 |nil=>rfl|cons k r a=>
  grind[GC]
def SH(l b a:List (Nat×Ob))(n:Nat):zA (dF l (AG b a)) n=
  match zA a n with|some o=>some o|none=>if n∈jA b then none else zA l n:=by
 rw[uK,AG,Vc,zo,jo]
 grind
section
variable{P:Program}{C:Ctx}{E:Env}{σ:St}{a:Act}{w:World}{gl:Nat->Option (List PV)}
def Ga.called(h:Ga C E σ a w){A:Env}{R:World}{g f:List (Nat×Ob)}(p:fH E w g A R f)(l:∀n o,zA g n=some o->zA σ.objs n=some o)
  (z:∀n,n∈jA f->n∈jA g\/n∉σ.used) {ment:List Nat} (S:∀n∈ment,n∈σ.used) (T:∀m o,zA f m=some o->∀n∈o.names,n∈jA g\/n∈jA f\/n∈ment)
  {dst:Option Nat} {x:V} {v:Value} (hx:RepV A x v) (U:∀n∈x.names,n∈jA g\/n∈jA f\/n∈ment) (hd:∀d,dst=some d->d<C.nt):
  Ga C A (σ.eff dst (IC x g f)) (a.put dst v) R:=by
 have hkey:∀n∈jA g,n∈σ.used:=λn c=>by
  obtain⟨o,M⟩:=dH c;exact(h.usedO n o (l n o M)).1
 have r:∀n,n∈jA g\/n∈jA f\/n∈ment->n∈(IC x g f).nw++σ.used:=by
  intro n c;rw[List.mem_append];by_cases u:n∈jA g
  ·simp_all
  rcases c with c|c|c
  ·simp_all
  rotate_left
  ·simp_all
  left;simp only[IC,List.mem_filter];refine⟨c,?_⟩
  cases e:zA g n with|none=>rfl|some o=>grind[absurd,fC]
 have D:∀n∈σ.used,EExt E A n:=by
  intro n c;by_cases u:n∈jA g
  ·obtain⟨o,M⟩:=dH u;exact p.ext n o M
  have I:zA g n=none:=by
   cases e:zA g n with|none=>rfl|some o=>grind[absurd,fC]
  have B:zA f n=none:=by
   cases e:zA f n with
   |none=>rfl|some o=>
    grind[fC,absurd]
  obtain⟨G,J,K⟩:=p.other n I B
  grind[EExt.of_eq]
 have H:∀t,RepV A (IA σ.slots t) (a.tmps.getD t undef):=λt=>
  RepV.mono p.hle _ _ (λn c=>D n (h.usedS t n c)) (h.slots t)
 have j:∀n o,zA σ.objs n=some o->n∉jA g->zA f n=none/\A.g n=E.g n/\A.ver n=E.ver n/\A.sz n=E.sz n/\(∀b,BA (E.g n)=some b->R.heap[b]? =w.heap[b]? /\A.H b=E.H b):=by
  intro n o c u;have I:zA g n=none:=by
   cases e:zA g n with|none=>rfl|some o=>grind[absurd,fC]
  have B:zA f n=none:=by
   cases e:zA f n with
   |none=>rfl|some y=>
    rcases z n (fC e)with L|L
    ·simp_all
    exact absurd (h.usedO n o c).1 L
  obtain⟨G,J,K⟩:=p.other n I B;refine⟨B,G,J,K,λb s=>?_⟩;have hh:=p.same b ((h.objs n o c).blk_lt s) (by
   intro m y i k;refine h.apart n m o y c (l m y i) ?_ b s k
   grind)
  exact⟨hh.1 ((h.objs n o c).nf s),hh.2⟩
 constructor
 ·intro t
  cases dst with
  |none=>exact H t|some d=>
   simp only[St.eff,QC,IA,Act.put];by_cases e:d=t
   ·subst e;have F:d<a.tmps.size:=by rw[h.size];exact hd d rfl
    simp[F,IC,hx]
   simp only[e,if_false];have:=H t;simpa[Array.getD_eq_getD_getElem?,Array.getElem?_setIfInBounds_ne e]using this
 ·cases dst<;>simp[Act.put,h.size]
 ·refine⟨?_,λn c=>List.mem_append.2 (.inr (h.defers.2 n c))⟩;have:=DefOK.mono p.hle _ _ (λn c=>D n (h.defers.2 n c)) h.defers.1;cases dst<;>simpa[Act.put]using this
 ·exact p.heap
 ·intro n o c;simp only[St.eff,IC,SH]at c;split at c
  ·rename_i y e;cases c;exact p.obs n _ e
  split at c
  ·cases c
  rename_i u;obtain⟨_,G,J,K,e4⟩:=j n o c u;exact(h.objs n o c).mono p.hle G J K (λm i=>D m ((h.usedO n o c).2 m i)) e4
 ·have key:∀n o m y,zA f n=some o->zA σ.objs m=some y->m∉jA g->∀b,BA (A.g n)=some b->BA (A.g m)≠some b:=by
   intro n o m y c i u b s k;obtain⟨_,G,_,_,_⟩:=j m y i u;rw[G]at k;rcases p.own n o b c s with W|⟨q,oq,hq,ZA⟩
   ·have:=(h.objs m y i).blk_lt k;omega
   refine h.apart m q y oq i (l q oq hq) ?_ b k ZA;intro e;subst e;exact u (fC hq)
  intro n m o y c i N b s k;simp only[St.eff,IC,SH]at c i;split at c
  ·rename_i on en;cases c;split at i
   ·rename_i Q X;cases i;exact p.apart n m _ _ en X N b s k
   split at i
   ·cases i
   rename_i u;exact key n _ m y en i u b s k
  split at c
  ·cases c
  rename_i O;split at i
  ·rename_i Q X;cases i;exact key m _ n o X c O b k s
  split at i
  ·cases i
  rename_i Y;rw[(j n o c O).2.1]at s;rw[(j m y i Y).2.1]at k;exact h.apart n m o y c i N b s k
 ·intro t n c
  cases dst with
  |none=>exact List.mem_append.2 (.inr (h.usedS t n c))|some d=>
   simp only[St.eff,QC,IA]at c;split at c
   ·exact r n (U n c)
   exact List.mem_append.2 (.inr (h.usedS t n c))
 ·intro n o c;simp only[St.eff,IC,SH]at c;split at c
  ·rename_i y e;cases c;exact⟨r n (.inr (.inl (fC e))),λm i=>r m (T n _ e m i)⟩
  split at c
  ·cases c
  exact⟨List.mem_append.2 (.inr (h.usedO n o c).1),λm i=>List.mem_append.2 (.inr ((h.usedO n o c).2 m i))⟩
 ·exactλn o c=>List.mem_append.2 (.inr (h.usedG n o c))
 ·exact Nat.le_trans h.grown p.size
 ·exact⟨p.rest.1.trans h.rest.1,p.rest.2.1.trans h.rest.2.1,p.rest.2.2.trans h.rest.2.2⟩
 ·intro b s hF;obtain⟨I,B⟩:=h.same b s hF;obtain⟨h3,h4⟩:=p.same b (Nat.lt_of_lt_of_le s h.grown) (λn o c e=>hF (h.own n o b (l n o c) e s));exact⟨λc=>(h3 (by rw[B];exact c)).trans (I c),h4.trans B⟩
 ·exact h.hle.trans p.hle
 ·intro n o b c s F;simp only[St.eff,IC,SH]at c;split at c
  ·rename_i y e;cases c;rcases p.own n _ b e s with W|⟨m,Q,i,Z⟩
   ·have:=h.grown;omega
   exact h.own m Q b (l m Q i) Z F
  split at c
  ·cases c
  rename_i u;rw[(j n o c u).2.1]at s;exact h.own n o b c s F
 ·intro n o c;exact(h.ext n o c).trans (D n (h.usedG n o c))
 intro n c;obtain⟨k1,k2,k3,k4,k5⟩:=h.keep n c;have u:n∉jA g:=by
  intro u;obtain⟨o,M⟩:=dH u;rw[l n o M]at k2;cases k2
 have I:zA g n=none:=by
  cases e:zA g n with|none=>rfl|some o=>exact absurd (fC e) u
 have B:zA f n=none:=by
  cases e:zA f n with
  |none=>rfl|some o=>
   rcases z n (fC e)with L|L
   ·exact absurd L u
   exact absurd k1 L
 obtain⟨G,J,K⟩:=p.other n I B;refine⟨List.mem_append.2 (.inr k1),?_,G.trans k3,J.trans k4,K.trans k5⟩;simp only[St.eff,IC,SH,B,u,if_false];exact k2
end
def qX:Op->Bool|.load _ _=>true|.store _ _ _=>true|.indexAddr _ _ _=>true|.slice _ _ _ _ _=>true|.call _=>true|.mapUpdate _ _ _ _=>true|.lookup _ _ _ _=>true|.insert _ _ _ _=>true|.next _ _=>true|_=>false
def aE(val:Operand->V)(op:Op):List Nat:=bif qX op then CA (op.operands.toList.map val)else []
def vo{val:Operand->V}{op:Op}{x:Operand}(a:qX op=true)(b:x∈op.operands){n:Nat}(b:n∈(val x).names):n∈aE val op:=by
 unfold aE;rw[a];exact mem_namesL.2 ⟨val x,List.mem_map_of_mem (by simp_all),b⟩
def Wc{s:Bool}{b a:Nat->Option Ob}{m k v:V}(h:∀n∈m.names,b n=a n):RI s b m k v=RI s a m k v:=by
 unfold RI;split
 ·rw[h _ (by simp[V.names])]
 rfl
def wo{s ok:Bool}{z:PV}{b a:Nat->Option Ob}{m k:V}(h:∀n∈m.names,b n=a n):kK s ok z b m k=kK s ok z a m k:=by
 unfold kK;split
 ·rw[h _ (by simp[V.names])]
 rfl
def uo{b a:Nat->Option Ob}{x:V}(h:∀n∈x.names,b n=a n):YP b x=YP a x:=by
 unfold YP;split
 ·rw[h _ (by simp[V.names])]
 rfl
def bo{b:TI}{c a:Nat->Option Ob}{x:V}(h:∀n∈x.names,c n=a n):zM b c x=zM b a x:=by
 unfold zM;split
 ·rfl
 ·rfl
 ·rw[h _ (by simp[V.names])]
 ·rw[h _ (by simp[V.names])]
 rfl
def po{b:TI}{c a:Nat->Option Ob}{x y:V}(h:∀n∈x.names,c n=a n):jM b c x y=jM b a x y:=by
 unfold jM;split
 ·rfl
 split
 ·rw[h _ (by simp[V.names])]
 ·rfl
 ·rw[h _ (by simp[V.names])]
 rfl
def so{T:Nat->Option TI}{b a:Nat->Option Ob}{t:Nat}{x i:V}(h:∀n∈x.names,b n=a n):vM T b t x i=vM T a t x i:=by
 unfold vM;split
 ·split
  ·split
   ·split
    ·rfl
    ·rw[h _ (by simp[V.names])]
    rfl
   rfl
  ·rfl
  rfl
 rfl
def ao{b a:Nat->Option Ob}{x:V}(h:∀n∈x.names,b n=a n):wM b x=wM a x:=by
 unfold wM;split
 ·rfl
 ·rfl
 ·rfl
 ·rw[h _ (by simp[V.names])]
 rfl
def oo{e:Nat}{c:TI}{d b:Nat->Option Ob}{a:dC}{f:Operand}{x y:V}(h:∀n∈x.names,d n=b n):PH e c d a f x y=PH e c b a f x y:=by
 unfold PH;split
 ·rw[h _ (by simp[V.names])]
 ·rw[h _ (by simp[V.names])]
 ·rfl
 ·rfl
 rfl
def Ao{b:TI}{c a:Nat->Option Ob}{x:V}{d e f:Option V}(h:∀n∈x.names,c n=a n):kM b c x d e f=kM b a x d e f:=by
 unfold kM;split
 ·rfl
 ·rfl
 ·rw[h _ (by simp[V.names])]
 ·rfl
 ·rfl
 rfl
def Bo{T:Nat->Option TI}{o:dC}{val d:Operand->V}{D z:Nat->Option Ob}{C:Option Nat}{op:Op}(a:∀x∈op.operands,val x=d x)(K:∀n∈aE val op,D n=z n):
  mA T o val D C op=mA T o d z C op:=by
 have h:qX op=true->∀x∈op.operands,∀n∈(val x).names,D n=z n:=λE x l n h=>K n (vo E l h)
 cases op with
 |move x=>simp only[mA,wK];rw[a x (by simp[Op.operands])]|assign x=>simp only[mA,wK];rw[a x (by simp[Op.operands])]|pick c x y=>simp only[mA];rw[a c (by simp[Op.operands]),a x (by simp[Op.operands]),a y (by simp[Op.operands])]|alloc t=>rfl|box t x=>simp only[mA];rw[a x (by simp[Op.operands])]|build t parts=>
  simp only[mA];have:(parts.toList.map λp=>(p.1,val p.2))=(parts.toList.map λp=>(p.1,d p.2)):=List.map_congr_left λp L=>by
   rw[a p.2 (by simp only[Op.operands,List.mem_toArray,List.mem_map];grind)]
  rw[this]
 |buildSlice t len parts=>
  simp only[mA];have:(parts.toList.map λp=>(p.1,val p.2))=(parts.toList.map λp=>(p.1,d p.2)):=List.map_congr_left λp L=>by
   rw[a p.2 (by simp only[Op.operands,List.mem_toArray,List.mem_map];grind)]
  rw[this]
 |typeAssert x Q t b=>
  have g:=a x (by simp[Op.operands]);simp only[mA,<-g]
 |makeFunc fn first w=>
  cases fn with
  |func f=>
   simp only[mA];have:w.toList.map val=w.toList.map d:=List.map_congr_left λx l=>a x (by simp only[Op.operands,Array.mem_append];simp_all)
   have A:first.toList.map val=first.toList.map d:=List.map_congr_left λx l=>a x (by simp only[Op.operands,Array.mem_append];simp_all)
   rw[this,A]
  |_=>simp only[mA]
 |lookup t m k ok=>
  have g:=a m (by simp[Op.operands]);have j:=a k (by simp[Op.operands]);simp only[mA,<-g,<-j];split
  ·split
   ·split
    ·exact wo (h rfl m (by simp[Op.operands]))
    rfl
   rfl
  rfl
 |range t x=>
  have g:=a x (by simp[Op.operands]);simp only[mA,<-g]
 |next x b=>
  cases b with
  |false=>rfl|true=>
   have g:=a x (by simp[Op.operands]);simp only[mA,<-g];unfold UN;split
   ·rename_i n e;rw[h rfl x (by simp[Op.operands]) n (by rw[e];simp[V.names])]
   rfl
 |index t x i=>
  have g:=a x (by simp[Op.operands]);have j:=a i (by simp[Op.operands]);simp only[mA,<-g,<-j]
 |insert t m k v=>
  have g:=a m (by simp[Op.operands]);have j:=a k (by simp[Op.operands]);have F:=a v (by simp[Op.operands]);simp only[mA,<-g,<-j,<-F];split
  ·exact Wc (h rfl m (by simp[Op.operands]))
  rfl
 |makeMap t r=>
  cases r with|none=>simp only[mA]|some _=>simp only[mA]
 |mapUpdate t m k v=>
  have g:=a m (by simp[Op.operands]);have j:=a k (by simp[Op.operands]);have F:=a v (by simp[Op.operands]);simp only[mA,<-g,<-j,<-F];split
  ·exact Wc (h rfl m (by simp[Op.operands]))
  rfl
 |load t x=>
  have g:=a x (by simp[Op.operands]);simp only[mA,<-g];split
  ·exact bo (h rfl x (by simp[Op.operands]))
  rfl
 |store t x y=>
  have g:=a x (by simp[Op.operands]);have j:=a y (by simp[Op.operands]);simp only[mA,<-g,<-j];split
  ·exact po (h rfl x (by simp[Op.operands]))
  rfl
 |nilCheck x=>simp only[mA];rw[a x (by simp[Op.operands])]|convert s t x=>simp only[mA];rw[a x (by simp[Op.operands])]|binOp b t x y M=>simp only[mA];rw[a x (by simp[Op.operands]),a y (by simp[Op.operands])]|unOp u t x=>
  cases u
  case not=>simp only[mA];rw[a x (by simp[Op.operands])]
  all_goals simp only[mA]
 |makeInterface t x=>simp only[mA];rw[a x (by simp[Op.operands])]|fieldAddr t x f=>simp only[mA];rw[a x (by simp[Op.operands])]|field t x f=>simp only[mA];rw[a x (by simp[Op.operands])]|indexAddr t x i=>
  have g:=a x (by simp[Op.operands]);have j:=a i (by simp[Op.operands]);simp only[mA,<-g,<-j];exact so (h rfl x (by simp[Op.operands]))
 |extract x i=>simp only[mA];rw[a x (by simp[Op.operands])]|slice t x G H I=>
  have g:=a x (by simp[Op.operands]);have E:G.map val=G.map d:=by
   cases G with|none=>rfl|some y=>simp[a y (by simp[Op.operands])]
  have N:H.map val=H.map d:=by
   cases H with|none=>rfl|some y=>simp[a y (by simp[Op.operands])]
  have O:I.map val=I.map d:=by
   cases I with|none=>rfl|some y=>simp[a y (by simp[Op.operands])]
  simp only[mA,<-g,<-E,<-N,<-O];split
  ·split
   ·exact Ao (h rfl x (by simp[Op.operands]))
   rfl
  ·rfl
  rfl
 |call c=>
  obtain⟨callee,args,argTypes⟩:=c
  cases callee with
  |builtin b=>
   cases b
   case len=>
    simp only[mA];split
    ·rename_i t x P B;have l:x∈(Op.call {callee:=.builtin .len,args,argTypes}).operands:=by
      simp only[Op.operands,Call.operands,Array.mem_append];right;rw[<-Array.mem_toList_iff,B];simp
     have g:=a x l;simp only[<-g];split
     ·exact ao (h rfl x l)
     ·exact uo (h rfl x l)
     ·rfl
     rfl
    rfl
   case append=>
    simp only[mA];split
    ·rename_i t M x y P B;have l:x∈(Op.call {callee:=.builtin .append,args,argTypes}).operands:=by
      simp only[Op.operands,Call.operands,Array.mem_append];right;rw[<-Array.mem_toList_iff,B];simp
     have J:y∈(Op.call {callee:=.builtin .append,args,argTypes}).operands:=by
      simp only[Op.operands,Call.operands,Array.mem_append];right;rw[<-Array.mem_toList_iff,B];simp
     have g:=a x l;have j:=a y J;simp only[<-g,<-j];split
     ·split
      ·split
       ·exact oo (h rfl x l)
       rfl
      rfl
     rfl
    rfl
   case max=>
    simp only[mA];split
    ·rename_i x y B;have l:x∈(Op.call {callee:=.builtin .max,args,argTypes}).operands:=by
      simp only[Op.operands,Call.operands,Array.mem_append];right;rw[<-Array.mem_toList_iff,B];simp
     have J:y∈(Op.call {callee:=.builtin .max,args,argTypes}).operands:=by
      simp only[Op.operands,Call.operands,Array.mem_append];right;rw[<-Array.mem_toList_iff,B];simp
     rw[a x l,a y J]
    rfl
   all_goals simp only[mA]
  |value f=>simp only[mA]|invoke r m=>simp only[mA]
 |_=>simp only[mA]
def JC(val:Operand->V):Op->Option (Nat×List V)
 |.call {callee:=.value f,args,..}=>match val f with|.fn g a=>some (g,args.toList.map val++a)|.bfn g a=>some (g,a++args.toList.map val)|.pv (.fnc g)=>some (g,args.toList.map val)|_=>none
 |_=>none
def zX{val a:Operand->V}{op:Op}(b:∀x∈op.operands,val x=a x):JC val op=JC a op:=by
 unfold JC;split
 ·rename_i f args c;rw[b f (by simp[Op.operands,Call.operands])];have:args.toList.map val=args.toList.map a:=List.map_congr_left λx d=>b x (by simp only[Op.operands,Call.operands,Array.mem_append];simp_all)
  rw[this]
 rfl
structure Env1 where
 P:Program
 T:Nat->Option TI
 gl:Nat->Option (List PV)
 nm:List (Nat×dC)
 nt:Nat
 given:List Nat
 ok:BB P T
 mix:P.follows .mixedOrders=true
def Xc:List (Nat×dC)->Nat->dC|[],_=>.none|(k,x)::r,t=>if k=t then x else Xc r t
def Co(l:List (Nat×dC))(a:Option Nat):dC:=match a with|some d=>Xc l d|none=>.none
def Env1.note(X:Env1)(a:Option Nat):dC:=Co X.nm a
def R.eff(r:R)(rd:List Nat):Eff:=
 ⟨r.out,match r.wr with|some (n,o)=>[(n,some o)]|none=>[],match r.wr,r.new with|some (n,_),true=>[n]|_,_=>[],rd⟩
def Yc(σ:St)(a:Option Nat)(r:R)(rd:List Nat):σ.app a r=σ.eff a (r.eff rd):=by
 obtain⟨c,f,x,b,d⟩:=r
 cases b with
 |none=>rfl|some p=>
  cases d<;>rfl
def YN(x y:V):Prop:=(∀E v,RepV E x v->RepV E y v)/\∀n∈y.names,n∈x.names
inductive OpW(X:Env1)(o:Oper)(σ:St):Eff->Prop where
 |step (note:dC) (r:R) (hs:mA X.T note (σ.val X.gl) (zA σ.objs) o.dst o.op=some r) (hc:r.cond) (hn:∀n∈(r.eff []).nw,n∉σ.used):OpW X o σ (r.eff (aE (σ.val X.gl) o.op))|call (f:Nat) (args:List V) (objs:List (Nat×Ob)) (x:V) (objs':List (Nat×Ob)) (hf:JC (σ.val X.gl) o.op=some (f,args)) (hac:AC X.P X.gl f args objs (.ret x) objs')
   (hsub:rB objs σ.objs) (hn:∀n∈(IC x objs objs').nw,n∉σ.used):OpW X o σ (IC x objs objs')
 |callR (f:Nat) (args:List V) (ro objs:List (Nat×Ob)) (x:V) (objs':List (Nat×Ob)) (hf:JC (σ.val X.gl) o.op=some (f,args)) (hac:AC X.P X.gl f args (ro++objs) (.ret x) (ro++objs'))
   (hro:∀n∈jA ro,n∉jA objs/\n∉jA objs') (hsub:rB (ro++objs) σ.objs) (hn:∀n∈(bK x ro objs objs').nw,n∉σ.used):OpW X o σ (bK x ro objs objs')
 |weak {x:V} {wr:List (Nat×Option Ob)} {nw rd:List Nat} (y:V) (h:OpW X o σ ⟨x,wr,nw,rd⟩) (hx:YN x y):OpW X o σ ⟨y,wr,nw,rd⟩
theorem NS(a b:List (Nat×Ob))(k:Nat):zA (a++b) k=match zA a k with|some o=>some o|none=>zA b k:=by
 induction a with
 |nil=>rfl|cons p r c=>
  simp only[List.cons_append,zA,c];split<;>rfl
def Ga.congrO{C:Ctx}{E:Env}{s:List (Nat×V)}{O O':List (Nat×Ob)}{u:List Nat}{a:Act}{w:World}(h:Ga C E ⟨s,O,u⟩ a w)(d:∀n,zA O' n=zA O n):Ga C E ⟨s,O',u⟩ a w:=
 ⟨h.slots,h.size,h.defers,h.heap,λn o c=>h.objs n o (by rw[<-d];exact c),λn m o e c f=>h.apart n m o e (by rw[<-d];exact c) (by rw[<-d];exact f),h.usedS,λn o c=>h.usedO n o (by rw[<-d];exact c),h.usedG,h.grown,h.rest,h.same,h.hle,
  λn o b c=>h.own n o b (by rw[<-d];exact c),h.ext,λn c=>⟨(h.keep n c).1,(d n).trans (h.keep n c).2.1,(h.keep n c).2.2⟩⟩
def Zc{x:V}{c b a:List (Nat×Ob)}(f:∀n∈jA c,n∉jA b/\n∉jA a):(bK x c b a).nw=(IC x (c++b) (c++a)).nw:=by
 have:∀{l:List (Nat×Ob)}{n:Nat},n∉jA l->zA l n=none:=by
  intro l n g
  cases e:zA l n with|none=>rfl|some o=>grind[absurd,fC]
 simp only[bK,IC];have:(jA c).filter (λn=>(zA (c++b) n).isNone)=[]:=by
  rw[List.filter_eq_nil_iff]
  grind[dH,NS]
 grind[List.filter_congr,jA,NS]
def Do{l:List (Nat×Ob)}{c a b:List (Nat×Ob)}(g:∀n∈jA c,n∉jA a/\n∉jA b)(f:rB (c++a) l)(n:Nat):zA (dF l (AG a b)) n=zA (dF l (AG (c++a) (c++b))) n:=by
 have:∀{l:List (Nat×Ob)}{n:Nat},n∉jA l->zA l n=none:=by
  intro l n i
  cases e:zA l n with|none=>rfl|some o=>grind[absurd,fC]
 rw[SH,SH,NS];have:jA (c++a)=jA c++jA a:=by simp[jA]
 by_cases h:n∈jA c
 ·obtain⟨o,k⟩:=dH h
  grind[yK,NS]
 simp_all
structure Eo(X:Env1)(o:Oper)(e:Eff)(σ σ':St):Prop where
 val:∀x∈o.op.operands,σ.val X.gl x=σ'.val X.gl x
 ob:∀n∈e.rd,zA σ.objs n=zA σ'.objs n
 new:∀n∈e.nw,n∉σ'.used
def OpW.congr{X:Env1}{o:Oper}{σ σ':St}{e:Eff}(h:OpW X o σ e)(b:Eo X o e σ σ'):OpW X o σ' e:=by
 induction h with
 |step note r t u p=>
  have k:aE (σ.val X.gl) o.op=aE (σ'.val X.gl) o.op:=by
   unfold aE;have:o.op.operands.toList.map (σ.val X.gl)=o.op.operands.toList.map (σ'.val X.gl):=List.map_congr_left λx s=>b.val x (by simp_all)
   rw[this]
  have j:=t;rw[Bo b.val b.ob]at j;rw[k];refine .step note r j u ?_;intro n g;exact b.new n g
 |call f args c x a l i d p=>
  refine .call f args c x a (by rw[<-zX b.val];exact l) i ?_ b.new;exact YW (λn g=>b.ob n g) d
 |callR f args v c x a l i m d p=>
  refine .callR f args v c x a (by rw[<-zX b.val];exact l) i m ?_ b.new;refine YW (λn g=>b.ob n ?_) d
  grind[bK,jA]
 |weak y h s w=>exact .weak y (w ⟨b.val,b.ob,b.new⟩) s
def jX{P:Program}{E:Env}{a:Act}{w:World}{o:Oper}{gl:Nat->Option (List PV)}{σ:St}{C:Ctx}(h:Ga C E σ a w)(F:GOK gl C.E0.H){f:Nat}{args:List V}(u:JC (σ.val gl) o.op=some (f,args))(p:MS P f):
  ∃G:List Value,G.length=args.length/\RepVL E args G/\(execOp a.eval o).run P w=.ok (.enter f G.toArray) w/\∀n∈CA args,n∈σ.used:=by
 unfold JC at u;split at u
 ·rename_i A as K H;split at u
  ·rename_i g B v;cases u;have j:=QA h F A;rw[v]at j;simp only[RepV]at j;obtain⟨I,j,y,z⟩:=j;obtain⟨fn,r,k,i⟩:=p;have d:RepVL E (as.toList.map (σ.val gl)) (as.toList.map a.eval):=by
    have:∀l:List Operand,RepVL E (l.map (σ.val gl)) (l.map a.eval):=by
     intro l
     induction l with
     |nil=>simp[RepVL]
     |cons x l J=>grind[RepVL,QA]
    simp_all
   have s:∀n∈CA (as.toList.map (σ.val gl)++B),n∈σ.used:=by
    intro n t;obtain⟨c,m,t⟩:=mem_namesL.1 t;rcases List.mem_append.1 m with m|m
    ·obtain⟨x,_,rfl⟩:=List.mem_map.1 m
     grind[sC]
    ·refine sC (gl:=gl) h A n ?_;rw[v];simp only[V.names];exact mem_namesL.2 ⟨c,m,t⟩
   refine⟨as.toList.map a.eval++I,by simp[y],RepVL.append (by simp) d z,?_,s⟩;have D:¬fn.body=none:=by grind
   have b:¬fn.name= "runtime.NumGoroutine" :=by simp_all
   simp[execOp,H,resolve,j,Deferred.ofValue,invoke,callFunc,r,b,D]
  ·rename_i g L v;cases u;have j:=QA h F A;rw[v]at j;simp only[RepV]at j;obtain⟨I,j,y,z⟩:=j;obtain⟨fn,r,k,i⟩:=p;have d:RepVL E (as.toList.map (σ.val gl)) (as.toList.map a.eval):=by
    have:∀l:List Operand,RepVL E (l.map (σ.val gl)) (l.map a.eval):=by
     intro l
     induction l with
     |nil=>simp[RepVL]
     |cons x l J=>grind[RepVL,QA]
    simp_all
   have s:∀n∈CA (L++as.toList.map (σ.val gl)),n∈σ.used:=by
    intro n t;obtain⟨c,m,t⟩:=mem_namesL.1 t;rcases List.mem_append.1 m with m|m
    ·refine sC (gl:=gl) h A n ?_;rw[v];simp only[V.names];exact mem_namesL.2 ⟨c,m,t⟩
    ·obtain⟨x,_,rfl⟩:=List.mem_map.1 m
     grind[sC]
   refine⟨I++as.toList.map a.eval,by simp[y],RepVL.append (by omega) z d,?_,s⟩;have D:¬fn.body=none:=by grind
   have b:¬fn.name= "runtime.NumGoroutine" :=by simp_all
   simp[execOp,H,resolve,j,Deferred.ofValue,invoke,callFunc,r,b,D]
  ·rename_i g v;cases u;have j:=QA h F A;rw[v]at j;simp only[RepV,RepP]at j;obtain⟨fn,r,k,i⟩:=p;have d:RepVL E (as.toList.map (σ.val gl)) (as.toList.map a.eval):=by
    have:∀l:List Operand,RepVL E (l.map (σ.val gl)) (l.map a.eval):=by
     intro l
     induction l with
     |nil=>simp[RepVL]
     |cons x l J=>simp only[List.map_cons,RepVL];exact⟨QA h F x,J⟩
    exact this _
   have s:∀n∈CA (as.toList.map (σ.val gl)),n∈σ.used:=by
    intro n t;obtain⟨c,m,t⟩:=mem_namesL.1 t;obtain⟨x,_,rfl⟩:=List.mem_map.1 m;exact sC h x n t
   refine⟨as.toList.map a.eval,by simp,d,?_,s⟩;have D:¬fn.body=none:=by intro e;rw[e]at i;cases i
   have b:¬fn.name= "runtime.NumGoroutine" :=by simpa using k
   simp[execOp,H,resolve,j,Deferred.ofValue,invoke,callFunc,r,b,D];apply Array.ext';simp
  ·cases u
 ·cases u
def vX{C:Ctx}{E:Env}{σ:St}{a:Act}{w:World}(h:Ga C E σ a w){args:List V}{b:List (Nat×Ob)}(f:∀n∈CA args,n∈σ.used)(d:rB b σ.objs):∀n∈HE args b,n∈σ.used:=by
 intro n c;rcases List.mem_append.1 c with c|c
 ·simp_all
 obtain⟨m,o,e,c⟩:=Zn d c;exact(h.usedO m o e).2 n c
theorem OpW.sound_call{X:Env1}{o:Oper}{σ:St}{f:Nat}{args:List V}{b:List (Nat×Ob)}{x:V}{g:List (Nat×Ob)}(B:JC (σ.val X.gl) o.op=some (f,args))(h:AC X.P X.gl f args b (.ret x) g)(c:rB b σ.objs)(l:∀n∈(IC x b g).nw,n∉σ.used)
  {C:Ctx} {E:Env} {a:Act} {w:World} (y:GOK X.gl C.E0.H) (i:Ga C E σ a w) (D:∀d,o.dst=some d->d<C.nt)
  {K:Act->World->Prop} {Q:Exit->Act->World->Prop} (F:∀r z s,Ga C r (σ.eff o.dst (IC x b g)) z s->K z s):o.wp X.P a w K Q:=by
 obtain⟨G,H,I,p,t⟩:=jX i y B h.direct;have j:=c;have c:=yK c;unfold Oper.wp;rw[p];have k:RH X.gl E w b:=⟨i.heap,y.mono i.hle,λn o l=>i.objs n o (c n o l),λn m o A l J=>i.apart n m o A (c n o l) (c m A J)⟩;refine(h.calls E w G k H I).mono ?_
 rintro N s ⟨r,L,v,rfl,M⟩
 refine F r _ _ (i.called L c ?_ (vX i t j) h.namesO M h.names D);intro n u;by_cases O:n∈jA b
 ·simp_all
 right;refine l n ?_;simp only[IC,List.mem_filter];refine⟨u,?_⟩
 cases e:zA b n with|none=>rfl|some o=>grind[absurd,fC]
theorem OS(d:Option Nat)(x:V)(l:List (Nat×V))(t:Nat):IA (QC d x l) t=if d=some t then x else IA l t:=by
 cases d with
 |none=>rfl|some d=>
  simp only[QC,IA];by_cases e:d=t
  ·simp
  rw[if_neg e,if_neg (λh=>e (by cases h;rfl))]
def Ga.weakS{C:Ctx}{E:Env}{σ:St}{d:Option Nat}{x y:V}{f:List (Nat×Option Ob)}{g rd:List Nat}{a:Act}{w:World}(h:Ga C E (σ.eff d ⟨x,f,g,rd⟩) a w)(i:YN x y):Ga C E (σ.eff d ⟨y,f,g,rd⟩) a w:=by
 refine⟨λt=>?_,h.size,h.defers,h.heap,h.objs,h.apart,λt n c=>?_,h.usedO,h.usedG,h.grown,h.rest,h.same,h.hle,h.own,h.ext,h.keep⟩
 ·have b:=h.slots t;simp only[St.eff,OS]at b⊢;split
  ·rename_i e;rw[if_pos e]at b;exact i.1 _ _ b
  simp_all
 have b:=h.usedS t;simp only[St.eff,OS]at b c;split at c
 ·rename_i e;rw[if_pos e]at b;exact b n (i.2 n c)
 rename_i e;rw[if_neg e]at b;exact b n c
def OpW.sound{X:Env1}{o:Oper}{σ:St}{e:Eff}(h:OpW X o σ e)(F:BB X.P X.T){C:Ctx}{E:Env}{a:Act}{w:World}(z:GOK X.gl C.E0.H)(A:Ga C E σ a w)(B:∀d,o.dst=some d->d<C.nt)
  {K:Act->World->Prop} {Q:Exit->Act->World->Prop} (t:∀j l k,Ga C j (σ.eff o.dst e) l k->K l k):o.wp X.P a w K Q:=by
 induction h with
 |step note r G H u=>
  obtain⟨v,k,j,m,b,_⟩:=WW F z A B G H (by
   grind[R.eff])
  rw[Yc σ o.dst r (aE (σ.val X.gl) o.op)]at b;exact m.wp (t j _ _ b)
 |call f args i x c D n g u=>grind[OpW.sound_call]|callR f args L i x c D n p g u=>
  have s:=Zc (x:=x) p;refine OpW.sound_call D n g (by rw[<-s];exact u) z A B ?_;intro j l k b;refine t j l k ?_;have:=b.congrO (O':=dF σ.objs (AG i c)) (Do p g);rw[<-s]at this;exact this
 |weak y h I J=>exact J λj l k b=>t j l k (b.weakS I)
def IE:Eff:=⟨.pv (.tuple []),[],[],[]⟩
def Eff.wn(e:Eff):List Nat:=e.wr.map (·.1)
def GA(S:Nat->Bool):Nat->List (Option Nat×Eff)->St->St|_,[],σ=>σ|k,(d,e)::r,σ=>GA S (k+1) r (if S k then σ.eff d e else σ)
theorem uM(a:Option Nat)(x:V)(l:List (Nat×V))(t:Nat):IA (QC a x l) t=if a=some t then x else IA l t:=by
 cases a with|none=>simp[QC]|some d=>simp[QC,IA]
theorem dQ{S S':Nat->Bool}(t:Nat):∀(l:List (Option Nat×Eff))(k:Nat)(σ σ':St),(∀i d e,l[i]? =some (d,e)->d=some t->S (k+i)=S' (k+i))->IA σ.slots t=IA σ'.slots t->
  IA (GA S k l σ).slots t=IA (GA S' k l σ').slots t
 |[],_,_,_,_,h=>h|(d,e)::r,k,σ,σ',b,h=>by
  simp only[GA];refine dQ t r (k+1) _ _ (λi c f g a=>by have:=b (i+1) c f (by simpa using g) a;rwa[show k+(i+1)=k+1+i by omega]at this) ?_;have c:=b 0 d e rfl;simp only[Nat.add_zero]at c;by_cases a:d=some t
  ·have b:=c a;rw[b];split
   ·simp[St.eff,uM,a]
   exact h
  have b:∀s:St,IA (if S k then s.eff d e else s).slots t=IA s.slots t:=by
   intro s;split<;>simp[St.eff,uM,a]
  have c:∀s:St,IA (if S' k then s.eff d e else s).slots t=IA s.slots t:=by
   intro s;split<;>simp[St.eff,uM,a]
  rw[b,c,h]
def zd{wr:List (Nat×Option Ob)}{n:Nat}(h:n∉wr.map (·.1)):GC wr n=none:=by
 induction wr with
 |nil=>rfl|cons p r a=>
  grind[GC]
theorem fQ{S S':Nat->Bool}(n:Nat):∀(l:List (Option Nat×Eff))(k:Nat)(σ σ':St),(∀i d e,l[i]? =some (d,e)->n∈e.wn->S (k+i)=S' (k+i))->zA σ.objs n=zA σ'.objs n->
  zA (GA S k l σ).objs n=zA (GA S' k l σ').objs n
 |[],_,_,_,_,h=>h|(d,e)::r,k,σ,σ',a,h=>by
  simp only[GA];refine fQ n r (k+1) _ _ (λi c f g b=>by have:=a (i+1) c f (by simpa using g) b;rwa[show k+(i+1)=k+1+i by omega]at this) ?_;have c:=a 0 d e rfl;simp only[Nat.add_zero]at c;by_cases b:n∈e.wn
  ·have a:=c b;rw[a];split
   ·simp only[St.eff,uK,h]
   exact h
  have a:=zd (wr:=e.wr) b;have b:∀s:St,zA (if S k then s.eff d e else s).objs n=zA s.objs n:=by
   intro s;split<;>simp[St.eff,uK,a]
  have c:∀s:St,zA (if S' k then s.eff d e else s).objs n=zA s.objs n:=by
   intro s;split<;>simp[St.eff,uK,a]
  rw[b,c,h]
def bM{S:Nat->Bool}(n:Nat):∀(l:List (Option Nat×Eff))(k:Nat)(σ:St),n∈(GA S k l σ).used↔n∈σ.used\/∃i d e,l[i]? =some (d,e)/\S (k+i)=true/\n∈e.nw
 |[],_,σ=>by simp[GA]|(d,e)::r,k,σ=>by
  simp only[GA];rw[bM n r (k+1)];constructor
  ·rintro(h|⟨i,b,c,g,a,f⟩)
   ·by_cases a:S k=true
    ·simp only[a,if_true,St.eff,List.mem_append]at h;rcases h with h|h
     ·exact .inr ⟨0,d,e,rfl,by omega,h⟩
     simp_all
    simp_all
   exact .inr ⟨i+1,b,c,by simp_all,by rwa[show k+(i+1)=k+1+i by omega],f⟩
  rintro(h|⟨i,b,c,g,a,f⟩)
  ·grind[St.eff]
  cases i with
  |zero=>
   grind[St.eff]
  |succ i=>grind
def jd{S:Nat->Bool}(t:Nat):∀(l:List (Option Nat×Eff))(k i:Nat)(d:Option Nat)(e:Eff)(σ:St),l[i]? =some (d,e)->S (k+i)=false->
  (d=some t->∀j a b,i<j->l[j]? =some (a,b)->S (k+j)=true->a≠some t)->
  IA (GA (λm=>m==k+i||S m) k l σ).slots t=if d=some t then e.x else IA (GA S k l σ).slots t
 |[],_,_,_,_,_,c,_,_=>by simp at c|(g,h)::r,k,0,d,e,σ,c,o,n=>by
  obtain⟨rfl,rfl⟩:=c;simp only[GA,Nat.add_zero,beq_self_eq_true,Bool.true_or,if_true,o];by_cases f:g=some t
  ·rw[dQ (S':=λ_=>false) t r (k+1) _ (σ.eff g h) ?_ (by rw[f])]
   ·have u:∀(r:List (Option Nat×Eff))(k:Nat)(s:St),GA (λ_=>false) k r s=s:=by
     intro r;induction r with|nil=>intro k s;rfl|cons p r z=>grind[GA]
    rw[u];simp[St.eff,uM,f]
   intro i a b c v;have:=n f (i+1) a b (by omega) (by simp_all)
   grind
  grind[dQ,St.eff,uM]
 |(g,h)::r,k,i+1,d,e,σ,c,o,n=>by
  simp only[GA];have w:(k==k+(i+1))=false:=by simp
  simp only[w,Bool.false_or];have:=jd (S:=S) t r (k+1) i d e (if S k then σ.eff g h else σ) (by simp_all) (by rwa[show k+1+i=k+(i+1) by omega]) (λf j a b A x y=>n f (j+1) a b (by omega) (by simp_all) (by rwa[show k+(j+1)=k+1+j by omega]));rw[show k+(i+1)=k+1+i by omega];exact this
def vd{S:Nat->Bool}(n:Nat):∀(l:List (Option Nat×Eff))(k i:Nat)(d:Option Nat)(e:Eff)(σ:St),l[i]? =some (d,e)->S (k+i)=false->
  (n∈e.wn->∀j f a,i<j->l[j]? =some (f,a)->S (k+j)=true->n∉a.wn)->
  zA (GA (λm=>m==k+i||S m) k l σ).objs n=match GC e.wr n with|some o=>o|none=>zA (GA S k l σ).objs n
 |[],_,_,_,_,_,b,_,_=>by simp at b|(h,c)::r,k,0,d,e,σ,b,t,u=>by
  simp only[List.getElem?_cons_zero,Option.some.injEq,Prod.mk.injEq]at b;obtain⟨rfl,rfl⟩:=b;simp only[Nat.add_zero]at t;simp only[GA,Nat.add_zero,beq_self_eq_true,Bool.true_or,if_true,t];by_cases g:n∈c.wn
  ·rw[fQ (S':=λ_=>false) n r (k+1) _ (σ.eff h c) ?_ rfl]
   ·have v:∀(r:List (Option Nat×Eff))(k:Nat)(s:St),GA (λ_=>false) k r s=s:=by
     intro r;induction r with|nil=>intro k s;rfl|cons p r w=>grind[GA]
    rw[v];simp only[St.eff,uK];have:∃o,GC c.wr n=some o:=by
     have key:∀wr:List (Nat×Option Ob),n∈wr.map (·.1)->∃o,GC wr n=some o:=by
      intro wr
      induction wr with
      |nil=>simp|cons p r w=>
       simp only[GC]
       cases D:GC r n with
       |some x=>simp|none=>
        simp_all
     exact key _ g
    grind
   intro i f a b y;have:=u g (i+1) f a (by omega) (by simp_all)
   grind
  have z:=zd (wr:=c.wr) g
  grind[fQ,St.eff,uK]
 |(h,c)::r,k,i+1,d,e,σ,b,t,u=>by
  simp only[GA];have A:(k==k+(i+1))=false:=by simp
  simp only[A,Bool.false_or];have:=vd (S:=S) n r (k+1) i d e (if S k then σ.eff h c else σ) (by simp_all) (by rwa[show k+1+i=k+(i+1) by omega]) (λg j f a E B C=>u g (j+1) f a (by omega) (by simp_all) (by rwa[show k+(j+1)=k+1+j by omega]));rw[show k+(i+1)=k+1+i by omega];exact this
def Ga.of_ext{C:Ctx}{E:Env}{σ σ':St}{a:Act}{w:World}(h:Ga C E σ a w)(g:∀t,IA σ'.slots t=IA σ.slots t)(d:∀n,zA σ'.objs n=zA σ.objs n)(e:∀n,n∈σ.used->n∈σ'.used):Ga C E σ' a w:=
 ⟨λt=>by rw[g];exact h.slots t,h.size,⟨h.defers.1,λn c=>e n (h.defers.2 n c)⟩,h.heap,λn o c=>h.objs n o (by rwa[d]at c),λn m o i c f=>h.apart n m o i (by rwa[d]at c) (by rwa[d]at f),
  λt n c=>e n (h.usedS t n (by rwa[g]at c)),λn o c=>⟨e n (h.usedO n o (by rwa[d]at c)).1,λm f=>e m ((h.usedO n o (by rwa[d]at c)).2 m f)⟩,λn o c=>e n (h.usedG n o c),
  h.grown,h.rest,h.same,h.hle,λn o b c=>h.own n o b (by rwa[d]at c),h.ext,
  λn c=>⟨e n (h.keep n c).1,by rw[d];exact(h.keep n c).2.1,(h.keep n c).2.2⟩⟩
def gv(a:List Oper)(σ:St)(j:Nat):V:=match a[j]? with
 |some o=>match o.dst with|some d=>IA σ.slots d|none=>.undef
 |none=>.undef
def wX(X:Env1)(a:Option Nat):Prop:=match a with|some d=>d<X.nt|none=>True
def wd(o:Option R)(K:R->Prop):Prop:=match o with|some r=>K r|none=>False
def Fo(X:Env1)(d:Bool)(h:PV->St->Prop)(f:Nat)(args:List V)(σ:St)(next:Eff->Prop):Prop:=
 ∃b out a,AC X.P X.gl f args b out a/\rB b σ.objs/\XN ((jA a).filter (λn=>(zA b n).isNone)) σ.used/\
   match out with|.ret x=>next (IC x b a)\/∃e g c,b=e++g/\a=e++c/\(∀n∈jA e,n∉jA g/\n∉jA c)/\next (bK x e g c)|.panic p=>d=false/\h p (σ.eff none (IC .undef b a))
def kX(c:Option (Nat×List V))(yes:Nat->List V->Prop)(no:Prop):Prop:=match c with|some (f,args)=>yes f args|none=>no
def yX(x:V)(Q:PV->Prop):Prop:=match x with|.pv (.iface t p)=>Q (.iface t p)|_=>False
def gQ(X:Env1)(a:Bool)(b:PV->St->Prop)(o:Oper)(σ:St)(next:Eff->Prop):Prop:=
 kX (JC (σ.val X.gl) o.op) (λf args=>Fo X a b f args σ next)
  (match o.op with
  |.panic x=>yX (σ.val X.gl x) (λp=>a=false/\b p σ)|op=>wd (mA X.T (X.note o.dst) (σ.val X.gl) (zA σ.objs) o.dst op) λr=>
    r.cond/\XN (r.eff []).nw σ.used/\((a=false->r.fact)->next (r.eff (aE (σ.val X.gl) op))))
def PS{C:Ctx}{E:Env}{σ:St}{a:Act}{w:World}(h:Ga C E σ a w){b:Option Nat}(c:∀d,b=some d->d<C.nt):Ga C E (σ.eff b IE) (a.put b undef) w:=by
 have:=h.pure E.H b (.pv (.tuple [])) undef (Hle.refl _) (Nat.le_refl _) ⟨rfl,rfl,rfl⟩ (λ_ _=>⟨rfl,rfl⟩) h.heap (by exact⟨[],rfl,rfl,by simp[RepL]⟩) (by simp[V.names]) c;exact this
def yd{C:Ctx}{E:Env}{σ:St}{a:Act}{w:World}{c:List Oper}(h:Ga C E σ a w){j:Nat}(b:gv c σ j=.pv (.tuple [])):yielded c.toArray a.tmps j=none:=by
 unfold gv at b;split at b
 ·rename_i o g;split at b
  ·rename_i d i;have k:=h.slots d;rw[b]at k;obtain⟨l,f,m,_⟩:=k;rw[Array.getD_eq_getD_getElem?]at f
   cases e:a.tmps[d]? with
   |none=>simp[yielded,g,i,e]|some v=>
    rw[e]at f;subst f;simp[yielded,g,i,e]
  cases b
 cases b
def uX{C:Ctx}{E:Env}{σ:St}{a:Act}{w:World}{g:List Oper}(h:Ga C E σ a w){j:Nat}{b:Bool}(c:gv g σ j=.pv (.bool b)):yielded g.toArray a.tmps j=some b:=by
 unfold gv at c;split at c
 ·rename_i o i;split at c
  ·rename_i d k;have f:=h.slots d;rw[c]at f;have f:=xG f;have l:a.tmps[d]? =some (.bool b):=by
    rw[Array.getD_eq_getD_getElem?]at f
    cases e:a.tmps[d]? with|none=>rw[e]at f;simp[undef]at f|some v=>simp_all
   simp[yielded,i,k,l]
  cases c
 cases c
def Ho{P:Program}{w:World}{t:Nat}{v:Value}:(Instr.panic (.iface t v)).run P w=.halt (.panic (.iface t v)) w:=by
 rfl
section
variable{X:Env1}{C:Ctx}
def Io(N:BB X.P X.T)(G:GOK X.gl C.E0.H){Qp:PV->St->Prop}{Q:Exit->Act->World->Prop}{K:Act->World->Prop}{o:Oper}{σ:St}{next:Eff->Prop}{E:Env}{a:Act}{w:World}(l:Ga C E σ a w)(O:∀d,o.dst=some d->d<C.nt)
  (P:∀e y H z,next e->Ga C y (σ.eff o.dst e) H z->K H z)
  (hQ:∀E σ p v a w,Ga C E σ a w->Qp p σ->RepP E.H p v->Q (.panic [{v,recovered:=false}]) a w) (h:gQ X false Qp o σ next):o.wp X.P a w K Q:=by
 unfold gQ kX at h;split at h
 ·rename_i f args S;obtain⟨j,out,A,s,c,i,b⟩:=h;have k:=yK c;have i:=XW i
  cases out with
  |ret x=>
   simp only at b;rcases b with b|⟨ro,o1,T,rfl,rfl,I,b⟩
   ·exact(OpW.call (X:=X) f args j x A S s c i).sound N G l O (λy H z g=>P _ y H z b g)
   exact(OpW.callR (X:=X) f args ro o1 x T S s I c (by rw[Zc I];exact i)).sound N G l O (λy H z g=>P _ y H z b g)
  |panic p=>
   simp only at b;obtain⟨vs,hl,U,J,W⟩:=jX l G S s.direct;unfold Oper.wp;rw[J];simp only[Oper.upon];have B:RH X.gl E w j:=⟨l.heap,G.mono l.hle,λn o Y=>l.objs n o (k n o Y),λn m o o' Y hm=>l.apart n m o o' (k n o Y) (k m o' hm)⟩;refine(s.calls E w vs B hl U).mono ?_
   rintro e' z ⟨y,hD,v,rfl,Z⟩
   have g:=l.called (dst:=none) (x:=.undef) (v:=undef) hD k (by
    intro n hn';by_cases hk:n∈jA j
    ·simp_all
    right;refine i n ?_;simp only[List.mem_filter];refine⟨hn',?_⟩
    cases e:zA j n with|none=>rfl|some o=>grind[absurd,fC]) (vX l W c) s.namesO (by simp[RepV]) (by simp[V.names]) (by simp)
   exact hQ y _ p v a z g b.2 Z
 split at h
 ·rename_i x hx;unfold yX at h;split at h
  ·rename_i t p Z;have hr:=QA l G x;rw[Z]at hr;have hr':=hr;obtain⟨u,hu,hru⟩:=hr;unfold Oper.wp;have:(execOp a.eval o).run X.P w=.halt (.panic (.iface t u)) w:=by
    simp[execOp,hx,hu,Ho]
   simp only[Oper.upon]
   grind[RepV]
  cases h
 unfold wd at h;split at h
 ·rename_i r hs;obtain⟨hc,i,D⟩:=h;obtain⟨v,z,y,L,g,F⟩:=WW N G l O hs hc (by
   intro n x hw M;refine XW i n ?_;simp[R.eff,hw,M])
  rw[Yc σ o.dst r (aE (σ.val X.gl) o.op)]at g;exact L.wp (P _ y _ _ (D (λ_=>F)) g)
 cases h
end
def BG(o:Oper):List Nat:=(o.after.toList.filter (Region.binds .any)).map (·.on)
def bX(a:List Nat)(l:List Nat):Nat:=l.foldl (λm i=>m|||(1<<<i)|||a.getD i 0) 0
def cE:List Oper->List Nat->List Nat|[],a=>a|o::r,a=>cE r (a++[bX a (BG o)])
def CD(a:Array Oper)(e:Oper)(f:Eff)(b:Oper)(c:Eff):Bool:=
 (match e.dst with|some d=>(b.looksAt a).contains d||b.dst==some d|none=>false)||
 (match b.dst with|some d=>(e.looksAt a).contains d|none=>false)||
 f.wn.any (λn=>c.rd.contains n||c.wn.contains n)||c.wn.any (λn=>f.rd.contains n)
def dM(a:List Oper)(b:List Eff):Bool:=
 (List.range a.length).all λj=>match a[j]?,b[j]? with
  |some c,some d=>(BG c).all (λi=>decide (i<j))&&(List.range j).all λi=>match a[i]?,b[i]? with|some b,some e=> !CD a.toArray b e c d||((cE a []).getD j 0).testBit i|_,_=>false
  |_,_=>false
def ud(a:List Nat)(i:Nat):∀(l:List Nat)(m:Nat),(l.foldl (λm i=>m|||(1<<<i)|||a.getD i 0) m).testBit i=true->m.testBit i=true\/∃d∈l,d=i\/(a.getD d 0).testBit i=true
 |[],m,h=>.inl h|d::l,m,h=>by
  rcases ud a i l _ h with h|⟨e,b,h⟩
  ·simp only[Nat.testBit_or,Bool.or_eq_true]at h;rcases h with (h|h)|h
   ·exact .inl h
   ·right;refine⟨d,by simp,.inl ?_⟩;simp only[Nat.testBit_shiftLeft,Bool.and_eq_true,decide_eq_true_eq]at h;obtain⟨g,c⟩:=h;have:i-d=0:=by
     cases f:i-d with|zero=>rfl|succ k=>rw[f]at c;simp[Nat.testBit_succ]at c
    omega
   exact .inr ⟨d,by simp,.inr h⟩
  exact .inr ⟨e,by simp[b],h⟩
theorem dX:∀(l:List Oper)(a:List Nat)(j:Nat),j<a.length->(cE l a)[j]? =a[j]?
 |[],_,_,_=>rfl|o::r,a,j,h=>by
  simp only[cE];rw[dX r _ j (by simp;omega),List.getElem?_append_left h]
def ld:∀(l:List Oper)(a:List Nat)(i:Nat)(o:Oper),l[i]? =some o->∃b,(cE l a)[a.length+i]? =some (bX b (BG o))/\∀d,(b.getD d 0=0\/b.getD d 0=(cE l a).getD d 0)
 |[],_,_,_,h=>by simp at h|c::r,a,0,o,h=>by
  simp only[List.getElem?_cons_zero,Option.some.injEq]at h;subst h;simp only[cE];refine⟨a,?_,λd=>?_⟩
  ·rw[dX r _ _ (by simp)];simp
  grind[dX]
 |c::r,a,i+1,o,h=>by
  simp only[cE];have:=ld r (a++[bX a (BG c)]) i o (by simp_all)
  grind
def WI(X:Env1)(c:List Oper)(o:Oper)(σ:St)(e:Eff):Prop:=
 wX X o.dst/\((o.guard=none/\OpW X o σ e)\/(∃j a b,o.guard=some (j,a)/\gv c σ j=.pv (.bool b)/\((b=a/\OpW X o σ e)\/(b≠a/\e=IE)))\/∃j a,o.guard=some (j,a)/\gv c σ j=.pv (.tuple [])/\e=IE)
def fM(X:Env1)(a:List Oper):List Oper->List Eff->St->Prop|[],[],_=>True|o::l,e::b,σ=>WI X a o σ e/\fM X a l b (σ.eff o.dst e)|_,_,_=>False
def zB(l:List Oper)(a:List Eff):List (Option Nat×Eff):=(l.map (·.dst)).zip a
def md{X:Env1}{b:List Oper}:∀(l:List Oper)(a:List Eff)(k:Nat)(σ:St),fM X b l a σ->∀i o e,l[i]? =some o->a[i]? =some e->
  WI X b o (GA (λm=>decide (m<k+i)) k (zB l a) σ) e
 |[],_,_,_,_,i,o,e,h,_=>by simp at h|f::l,[],_,_,h,_,_,_,_,_=>by simp_all|f::l,g::a,k,σ,h,0,o,e,c,d=>by
  simp only[List.getElem?_cons_zero,Option.some.injEq]at c d;subst c d;have n:∀(l:List (Option Nat×Eff))(j:Nat)(s:St),k<=j->GA (λm=>decide (m<k+0)) j l s=s:=by
   intro l
   induction l with
   |nil=>intro j s _;rfl|cons p r t=>
    grind[GA,decide_false]
  rw[n _ k σ (Nat.le_refl _)];exact h.1
 |f::l,g::a,k,σ,h,i+1,o,e,c,d=>by
  have:=md l a (k+1) _ h.2 i o e (by simp_all) (by simp_all)
  grind[zB,List.zip_cons_cons,GA]
def Jo:∀(l:List Bool)(i:Nat),l[i]? =some false->(l.set i true).count false+1=l.count false
 :=by grind
section
variable{X:Env1}{C:Ctx}
def pd(hT:BB X.P X.T)(hg:GOK X.gl C.E0.H)(hnt:C.nt=X.nt){c:List Oper}{B:List Eff}{σ:St}{Q:Exit->Act->World->Prop}(hlen:B.length=c.length){L:Nat->Bool}{jp:Nat}
  (hL:∀i o,c[i]? =some o->(L i=true↔i≠jp/\∀d∈BG o,L d=true))
  (htext:∀i o e,L i=true->c[i]? =some o->B[i]? =some e->WI X c o (GA (λm=>L m&&decide (m<i)) 0 (zB c B) σ) e) (Z:dM c B=true)
  (hQ:c.length<=jp->∀E a w,Ga C E (GA (λ_=>true) 0 (zB c B) σ) a w->Q .normal a w)
  (hp:∀op,c[jp]? =some op->op.guard=none/\∃f args U p,JC ((GA (λm=>L m&&decide (m<jp)) 0 (zB c B) σ).val X.gl) op.op=some (f,args)/\AC X.P X.gl f args U (.panic p) []/\
   rB U (GA (λm=>L m&&decide (m<jp)) 0 (zB c B) σ).objs/\B[jp]? =some ⟨.undef,[],[],jA U⟩/\∀E τ a w v,Ga C E τ a w->RepP E.H p v->Q (.panic [{v,recovered:=false}]) a w):
  ∀(fuel:Nat)(listed:Array Bool)(E:Env)(a:Act)(w:World),listed.size=c.length->listed.toList.count false<=fuel->(∀j,listed.getD j false=true->L j=true)->
   (∀j,listed.getD j false=true->∀i,((cE c []).getD j 0).testBit i=true->listed.getD i false=true)->
   Ga C E (GA (λm=>listed.getD m false) 0 (zB c B) σ) a w->wpAny X.P .any c.toArray Q fuel listed a w:=by
 --what the check says
 have hck:∀(j:Nat)(u:Oper)(N:Eff),c[j]? =some u->B[j]? =some N->(∀d∈BG u,d<j)/\∀(i:Nat)(oi:Oper)(ei:Eff),i<j->c[i]? =some oi->B[i]? =some ei->CD c.toArray oi ei u N=true->((cE c []).getD j 0).testBit i=true:=by
  intro j u N l z;have hjl:j<c.length:=(List.getElem?_eq_some_iff.1 l).1;unfold dM at Z;rw[List.all_eq_true]at Z;have H:=Z j (by simp_all)
  grind
 have hget:∀(i:Nat)(o:Oper)(e:Eff),c[i]? =some o->B[i]? =some e->(zB c B)[i]? =some (o.dst,e):=by
  intro i o e ho he;simp[zB,List.getElem?_zip_eq_some,ho,he]
 have G:∀(i:Nat)(d:Option Nat)(e:Eff),(zB c B)[i]? =some (d,e)->∃o,c[i]? =some o/\o.dst=d/\B[i]? =some e:=by
  intro i d e h;simp only[zB,List.getElem?_zip_eq_some,List.getElem?_map,Option.map_eq_some_iff]at h;obtain⟨⟨o,ho,hd⟩,he⟩:=h;exact⟨o,ho,hd,he⟩
 --the bits of an operation that is ready
 have hready:∀(S:Nat->Bool)(j:Nat)(u:Oper),c[j]? =some u->(∀d∈BG u,S d=true)->(∀k,S k=true->∀i,((cE c []).getD k 0).testBit i=true->S i=true)->∀i,((cE c []).getD j 0).testBit i=true->S i=true:=by
  intro S j u l P hcl i hbit;obtain⟨ms',h1,h2⟩:=ld c [] j u l;simp only[List.length_nil,Nat.zero_add]at h1;rw[List.getD_eq_getElem?_getD,h1]at hbit;simp only[Option.getD_some]at hbit;rcases ud ms' i _ 0 hbit with h0|⟨d,hd,h0⟩
  ·simp at h0
  rcases h0 with rfl|h0
  ·exact P d hd
  rcases h2 d with h3|h3
  ·rw[h3]at h0;simp at h0
  rw[h3]at h0;exact hcl d (P d hd) i h0
 have hallQ:∀(listed:Array Bool)(E:Env)(a:Act)(w:World),listed.size=c.length->(∀i,i<c.length->listed.getD i false=true)->(∀j,listed.getD j false=true->L j=true)->Ga C E (GA (λm=>listed.getD m false) 0 (zB c B) σ) a w->Q .normal a w:=by
  intro listed E a w hs W D hG;refine hQ (Nat.le_of_not_lt λh=>((hL jp _ (List.getElem?_eq_getElem h)).1 (D jp (W jp h))).1 rfl) E a w (hG.of_ext ?_ ?_ ?_)
  ·intro t;refine dQ t _ 0 σ σ (λi d e hi _=>?_) rfl;obtain⟨o,ho,_⟩:=G i d e hi;rw[Nat.zero_add,W i (List.getElem?_eq_some_iff.1 ho).1]
  ·intro n;refine fQ n _ 0 σ σ (λi d e hi _=>?_) rfl;obtain⟨o,ho,_⟩:=G i d e hi;rw[Nat.zero_add,W i (List.getElem?_eq_some_iff.1 ho).1]
  intro n F;rw[bM]at F⊢;rcases F with F|⟨i,d,e,hi,_,hne⟩
  ·exact .inl F
  exact .inr ⟨i,d,e,hi,rfl,hne⟩
 have hnil:∀(listed:Array Bool),listed.size=c.length->Region.ready .any c.toArray listed=[]->∀i,i<c.length->listed.getD i false=true:=by
  intro listed hs hnil i
  induction i using Nat.strongRecOn with
  |_ i ih=>
   intro hi
   cases hb:listed.getD i false with
   |true=>rfl|false=>
    exfalso;have A:c[i]? =some c[i]:=List.getElem?_eq_getElem hi;have J:B[i]? =some B[i]:=List.getElem?_eq_getElem (by omega);have hmem:i∈Region.ready .any c.toArray listed:=by
     unfold Region.ready;rw[List.mem_filter];refine⟨by simpa using hi,?_⟩;have h1:listed.getD i true=false:=by
      rw[Array.getD_eq_getD_getElem?]at hb⊢;rw[Array.getElem?_eq_getElem (by omega)]at hb⊢;simpa using hb
     simp only[h1,Bool.not_false,Bool.true_and,List.getElem?_toArray,A,Option.map_some,Option.getD_some];rw[Array.all_eq_true'];intro ed P;by_cases hbd:Region.binds .any ed=true
     ·have R:=(hck i _ _ A J).1 ed.on (List.mem_map_of_mem (List.mem_filter.2 ⟨by simpa using P,hbd⟩));rw[ih ed.on R (by omega)];simp
     simp[hbd]
    rw[hnil]at hmem;simp at hmem
 intro fuel
 induction fuel with
 |zero=>
  intro listed E a w hs hcnt D hcl hG;have W:∀i,i<c.length->listed.getD i false=true:=by
   intro i hi;have h0:listed.toList.count false=0:=by omega
   rw[List.count_eq_zero]at h0;rw[Array.getD_eq_getD_getElem?,Array.getElem?_eq_getElem (by omega)];simp only[Option.getD_some]
   cases hb:listed[i]with|true=>rfl|false=>exact absurd (by rw[<-hb];simp) h0
  refine⟨?_,hallQ listed E a w hs W D hG⟩;unfold Region.ready;rw[List.filter_eq_nil_iff];intro i hi;have hi':i<c.length:=by simpa using hi
  have:=W i hi';have h1:listed.getD i true=true:=by
   rw[Array.getD_eq_getD_getElem?]at this⊢;rw[Array.getElem?_eq_getElem (by omega)]at this⊢;simpa using this
  simp[h1]
 |succ fuel ih=>
  intro listed E a w hs hcnt D hcl hG;refine⟨λF=>hallQ listed E a w hs (hnil listed hs F) D hG,?_⟩;intro i hi;unfold Region.ready at hi;rw[List.mem_filter]at hi;obtain⟨hi,hrd⟩:=hi;have hi:i<c.length:=by simpa using hi
  have A:c[i]? =some c[i]:=List.getElem?_eq_getElem hi;have J:B[i]? =some B[i]:=List.getElem?_eq_getElem (by omega);generalize c[i]=o at A hrd;generalize B[i]=e at J;simp only[List.getElem?_toArray,A,Option.map_some,Option.getD_some,Bool.and_eq_true,Bool.not_eq_true']at hrd;obtain⟨hun,hpre⟩:=hrd;have hSi:listed.getD i false=false:=by
   rw[Array.getD_eq_getD_getElem?]at hun⊢;rw[Array.getElem?_eq_getElem (by omega)]at hun⊢;simpa using hun
  have P:∀d∈BG o,listed.getD d false=true:=by
   intro d hd;obtain⟨ed,P,rfl⟩:=List.mem_map.1 hd;obtain⟨P,hbd⟩:=List.mem_filter.1 P;rw[Array.all_eq_true']at hpre;have:=hpre ed (by simpa using P);simpa[hbd]using this
  have hbits:=hready (λm=>listed.getD m false) i o A P hcl
  --conflicts
  have I:∀(j:Nat)(u:Oper)(N:Eff),j<i->c[j]? =some u->B[j]? =some N->CD c.toArray u N o e=true->listed.getD j false=true:=
   λj u N H l z hc=>hbits j ((hck i o e A J).2 j u N H l z hc)
  have O:∀(j:Nat)(u:Oper)(N:Eff),i<j->c[j]? =some u->B[j]? =some N->CD c.toArray o e u N=true->listed.getD j false=false:=by
   intro j u N H l z hc
   cases hb:listed.getD j false with
   |false=>rfl|true=>
    have:=hcl j hb i ((hck j u N l z).2 i o e H A J hc);rw[hSi]at this;cases this
  --slots that are read
  have hslot:∀t,t∈o.looksAt c.toArray->IA (GA (λm=>L m&&decide (m<i)) 0 (zB c B) σ).slots t=IA (GA (λm=>listed.getD m false) 0 (zB c B) σ).slots t:=by
   intro t ht;refine dQ t _ 0 σ σ (λj d T H hd=>?_) rfl;rw[Nat.zero_add];obtain⟨u,l,K,z⟩:=G j d T H;rw[hd]at K;rcases Nat.lt_trichotomy j i with R|heq|hgt
   ·have hc:CD c.toArray u T o e=true:=by
     simp only[CD,K,List.contains_eq_mem,ht,decide_true,Bool.true_or]
    rw[I j u T R l z hc,D j (I j u T R l z hc)];simp[R]
   ·subst heq;rw[hSi];simp
   have hc:CD c.toArray o e u T=true:=by
    simp only[CD,K,List.contains_eq_mem,ht,decide_true,Bool.or_true,Bool.true_or]
   rw[O j u T hgt l z hc,decide_eq_false (show¬j<i by omega),Bool.and_false]
  have hobj:∀n,n∈e.rd->zA (GA (λm=>L m&&decide (m<i)) 0 (zB c B) σ).objs n=zA (GA (λm=>listed.getD m false) 0 (zB c B) σ).objs n:=by
   intro n F;refine fQ n _ 0 σ σ (λj d T H hd=>?_) rfl;rw[Nat.zero_add];obtain⟨u,l,K,z⟩:=G j d T H;rcases Nat.lt_trichotomy j i with R|heq|hgt
   ·have hc:CD c.toArray u T o e=true:=by
     simp only[CD,Bool.or_eq_true,List.any_eq_true];exact .inl (.inr ⟨n,hd,.inl (by simpa using F)⟩)
    rw[I j u T R l z hc,D j (I j u T R l z hc)];simp[R]
   ·subst heq;rw[hSi];simp
   have hc:CD c.toArray o e u T=true:=by
    simp only[CD,Bool.or_eq_true,List.any_eq_true];exact .inr ⟨n,hd,by simpa using F⟩
   rw[O j u T hgt l z hc,decide_eq_false (show¬j<i by omega),Bool.and_false]
  have hval:∀x∈o.op.operands,(GA (λm=>L m&&decide (m<i)) 0 (zB c B) σ).val X.gl x=(GA (λm=>listed.getD m false) 0 (zB c B) σ).val X.gl x:=by
   intro x hx
   cases x with
   |tmp t=>
    refine hslot t ?_;simp only[Oper.looksAt,List.mem_append,List.mem_filterMap];exact .inl ⟨.tmp t,by simpa using hx,rfl⟩
   |const v=>rfl|func f=>rfl|global g=>rfl
  by_cases hij:i=jp
  ·subst hij;obtain⟨hgd,f,args,U,p,hf,hac,Y,hep,hQp⟩:=hp o A;rw[hep]at J;cases J;unfold wpOp;simp only[List.getElem?_toArray,A];rw[if_pos (by simp[Region.wanted,hgd])];left;rw[zX hval]at hf;have Y:=YW (λn F=>hobj n F) Y;obtain⟨vs,hl,hrv,hrun,hnm⟩:=jX hG hg hf hac.direct;unfold Oper.wp;rw[hrun];simp only[Oper.upon];have hsub2:=yK Y;refine(hac.calls E w vs ⟨hG.heap,hg.mono hG.hle,λn o F=>hG.objs n o (hsub2 n o F),λn m o o' F hm=>hG.apart n m o o' (hsub2 n o F) (hsub2 m o' hm)⟩ hl hrv).mono ?_
   rintro T w' ⟨E',hD,v,rfl,hv⟩
   exact hQp E' _ a w' v (hG.called (dst:=none) (x:=.undef) (v:=undef) hD hsub2 (by simp[jA]) (vX hG hnm Y) hac.namesO (by simp[RepV]) (by simp[V.names]) (by simp)) hv
  have hLi:L i=true:=(hL i o A).2 ⟨hij,λd hd=>D d (P d hd)⟩;have htx:=htext i o e hLi A J;have hnw:∀(j:Nat)(u:Oper)(N:Eff),L j=true->c[j]? =some u->B[j]? =some N->∀n∈N.nw,n∉(GA (λm=>L m&&decide (m<j)) 0 (zB c B) σ).used:=by
   intro j u N hLj l z n F;have:=htext j u N hLj l z;have key:∀s,OpW X u s N->∀n∈N.nw,n∉s.used:=by
    intro s hw;clear this;clear F z
    induction hw with|weak y h hx ih=>exact ih|step note r hs hc hnn=>exact hnn|call f args U x objs' hf hac Y hnn=>exact hnn|callR f args ro U x objs' hf hac hro Y hnn=>exact hnn
   rcases this.2 with ⟨_,hw⟩|⟨_,_,_,_,_,⟨_,hw⟩|⟨_,rfl⟩⟩|⟨_,_,_,_,rfl⟩
   ·exact key _ hw n F
   ·exact key _ hw n F
   ·simp[IE]at F
   simp[IE]at F
  have hnew:∀n∈e.nw,n∉(GA (λm=>listed.getD m false) 0 (zB c B) σ).used:=by
   intro n F hu;rw[bM]at hu;have h0:=hnw i o e hLi A J n F;rw[bM]at h0;simp only[not_or,not_exists,not_and]at h0;rcases hu with hu|⟨j,d,N,H,M,hnj⟩
   ·exact h0.1 hu
   rw[Nat.zero_add]at M;obtain⟨u,l,K,z⟩:=G j d N H;rcases Nat.lt_trichotomy j i with R|heq|hgt
   ·exact h0.2 j d N H (by simp[R,D j M]) hnj
   ·subst heq;rw[hSi]at M;cases M
   have h1:=hnw j u N (D j M) l z n hnj;rw[bM]at h1;simp only[not_or,not_exists,not_and]at h1;exact h1.2 i o.dst e (hget i o e A J) (by simp[hgt,hLi]) F
  have hd:∀d,o.dst=some d->d<C.nt:=by
   intro d hd';have:=htx.1;rw[hd']at this;rw[hnt];exact this
  --the state behind it
  have hnext:∀E' a' w',Ga C E' ((GA (λm=>listed.getD m false) 0 (zB c B) σ).eff o.dst e) a' w'->wpAny X.P .any c.toArray Q fuel (listed.setIfInBounds i true) a' w':=by
   intro E' a' w' hG';have hS':(λm=>(listed.setIfInBounds i true).getD m false)=λm=>m==0+i||listed.getD m false:=by
    funext m;rw[Nat.zero_add,Array.getD_eq_getD_getElem?,Array.getD_eq_getD_getElem?];by_cases e1:m=i
    ·subst e1;rw[Array.getElem?_setIfInBounds_self_of_lt (by omega)];simp
    rw[Array.getElem?_setIfInBounds_ne (λh=>e1 h.symm)];simp[e1]
   have e1:∀m,(listed.setIfInBounds i true).getD m false=(m==0+i||listed.getD m false):=λm=>congrFun hS' m
   refine ih (listed.setIfInBounds i true) E' a' w' (by simpa using hs) ?_ ?_ ?_ ?_
   ·have:=Jo listed.toList i (by
     rw[Array.getElem?_toList,Array.getElem?_eq_getElem (by omega)];rw[Array.getD_eq_getD_getElem?,Array.getElem?_eq_getElem (by omega)]at hSi;simpa using hSi)
    rw[Array.toList_setIfInBounds];omega
   ·intro j H;rw[e1]at H;simp only[Nat.zero_add,Bool.or_eq_true,beq_iff_eq]at H;rcases H with rfl|H
    ·exact hLi
    exact D j H
   ·intro j H k hk;rw[e1]at H⊢;simp only[Nat.zero_add,Bool.or_eq_true,beq_iff_eq]at H⊢;right;rcases H with rfl|H
    ·exact hbits k hk
    exact hcl j H k hk
   rw[hS'];refine hG'.of_ext ?_ ?_ ?_
   ·intro t;rw[jd t _ 0 i o.dst e σ (hget i o e A J) (by simpa using hSi)]
    ·simp[St.eff,uM]
    intro hdt j d' T hij H M hd';rw[Nat.zero_add]at M;obtain⟨u,l,K,z⟩:=G j d' T H;rw[hd']at K;have hc:CD c.toArray o e u T=true:=by simp[CD,hdt,K]
    have:=O j u T hij l z hc;rw[M]at this;cases this
   ·intro n;rw[vd n _ 0 i o.dst e σ (hget i o e A J) (by simpa using hSi)]
    ·simp only[St.eff,uK]
     all_goals (cases GC e.wr n<;>rfl)
    intro hdt j d' T hij H M hd';rw[Nat.zero_add]at M;obtain⟨u,l,K,z⟩:=G j d' T H;have hc:CD c.toArray o e u T=true:=by
     simp only[CD,Bool.or_eq_true,List.any_eq_true];exact .inl (.inr ⟨n,hdt,.inr (by simpa using hd')⟩)
    have:=O j u T hij l z hc;rw[M]at this;cases this
   intro n F;simp only[St.eff,List.mem_append]at F;rw[bM];rw[bM]at F;rcases F with F|F|⟨j,d,N,H,M,hnj⟩
   ·exact .inr ⟨i,o.dst,e,hget i o e A J,by simp,F⟩
   ·exact .inl F
   exact .inr ⟨j,d,N,H,by rw[M];simp,hnj⟩
  unfold wpOp;simp only[List.getElem?_toArray,A];have hrun:OpW X o (GA (λm=>L m&&decide (m<i)) 0 (zB c B) σ) e->o.wp X.P a w (wpAny X.P .any c.toArray Q fuel (listed.setIfInBounds i true)) Q:=λhw=>
   (hw.congr ⟨hval,hobj,hnew⟩).sound hT hg hG hd hnext
  rcases htx.2 with ⟨hgn,hw⟩|⟨j,want,b,hgs,hgv,hor⟩|⟨j,want,hgs,hgv,rfl⟩
  ·rw[if_pos (by simp[Region.wanted,hgn])];exact .inl (hrun hw)
  ·have hgv':gv c (GA (λm=>listed.getD m false) 0 (zB c B) σ) j=.pv (.bool b):=by
    rw[<-hgv];unfold gv;split
    ·rename_i u l;split
     ·rename_i d K;refine(hslot d ?_).symm;simp only[Oper.looksAt,List.mem_append];right;simp[hgs,l,K]
     rfl
    rfl
   have hy:=uX hG hgv';rcases hor with ⟨hbw,hw⟩|⟨hbw,rfl⟩
   ·rw[if_pos (by simp[Region.wanted,hgs,hy,hbw])];exact .inl (hrun hw)
   rw[if_neg (by simp[Region.wanted,hgs,hy,hbw])];exact hnext E _ w (PS hG hd)
  have hgv':gv c (GA (λm=>listed.getD m false) 0 (zB c B) σ) j=.pv (.tuple []):=by
   rw[<-hgv];unfold gv;split
   ·rename_i u l;split
    ·rename_i d K;refine(hslot d ?_).symm;simp only[Oper.looksAt,List.mem_append];simp[hgs,l,K]
    rfl
   rfl
  have hy:=yd hG hgv';rw[if_neg (by simp[Region.wanted,hgs,hy])];exact hnext E _ w (PS hG hd)
def Ko(l:BB X.P X.T)(n:GOK X.gl C.E0.H)(k:C.nt=X.nt){b:List Oper}{f:List Eff}{σ:St}{Q:Exit->Act->World->Prop}(g:f.length=b.length)
  (d:fM X b b f σ) (c:dM b f=true)
  (p:∀E a w,Ga C E (GA (λ_=>true) 0 (zB b f) σ) a w->Q .normal a w) (fuel:Nat) (listed:Array Bool) (E:Env) (a:Act) (w:World) (r:listed.size=b.length) (s:listed.toList.count false<=fuel)
  (t:∀j,listed.getD j false=true->∀i,((cE b []).getD j 0).testBit i=true->listed.getD i false=true)
  (j:Ga C E (GA (λm=>listed.getD m false) 0 (zB b f) σ) a w):wpAny X.P .any b.toArray Q fuel listed a w:=by
 refine pd l n k g (L:=λ_=>true) (jp:=b.length) (λi o h=>?_) (λi o e _ g k=>?_) c (λ_=>p) (λop h=>?_) fuel listed E a w r s (λ_ _=>rfl) t j
 ·grind
 ·have:=md b f 0 σ d i o e g k;simp_all
 simp_all
end
inductive EB where|normal|exit (id:Nat)|ret|panic (p:PV)
def Lo(E:Env):EB->Exit->Prop|.normal,e=>e=.normal|.exit i,e=>e=.exit i|.ret,e=>e=.ret|.panic p,e=>∃v,e=.panic [{v,recovered:=false}]/\RepP E.H p v
structure TH(X:Env1)(C:Ctx):Prop where
 glob:GOK X.gl C.E0.H
 nt:C.nt=X.nt
 given:∀n o,zA C.given n=some o->n∈X.given
 ms:∀n∈C.ms,n∈X.given
 defs:∀n∈IF C.defs,n∈X.given
def XI(C:Ctx)(Q:EB->St->Prop)(e:Exit)(a:Act)(w:World):Prop:=∃E σ b,Ga C E σ a w/\Lo E b e/\Q b σ
def AWP(X:Env1)(c:Code)(σ:St)(Q:EB->St->Prop):Prop:=
 ∀C E a w,TH X C->Ga C E σ a w->c.wp X.P (XI C Q) a w
def QS(next:St->Prop)(Q:EB->St->Prop):EB->St->Prop|.normal,σ=>next σ|e,σ=>Q e σ
def dK(id:Nat)(Q:EB->St->Prop):EB->St->Prop|.exit i,σ=>if i=id then Q .normal σ else Q (.exit i) σ|e,σ=>Q e σ
def sd(v:V)(yes no:Prop):Prop:=match v with|.pv (.bool b)=>(b=true->yes)/\(b=false->no)|.pv (.flg b)=>(b=true->yes)/\no|_=>False
def AWP.mono{X:Env1}{c:Code}{σ:St}{Q b:EB->St->Prop}(h:AWP X c σ Q)(d:∀e σ,Q e σ->b e σ):AWP X c σ b:=
 λC E a w b f=>wp_mono (h C E a w b f) λ_ _ _ ⟨b,σ',f,g,i,j⟩=>⟨b,σ',f,g,i,d _ _ j⟩
def AWP.seq{X:Env1}{x y:Code}{σ:St}{Q:EB->St->Prop}(h:AWP X x σ (QS (λσ'=>AWP X y σ' Q) Q)):AWP X (.seq x y) σ Q:=by
 intro C E a w g j;refine wp_seq (wp_mono (h C E a w g j) ?_)
 rintro e k l ⟨c,σ',m,b,d,f⟩
 cases m with
 |normal=>cases d;exact f C c k l g b
 |exit i=>cases d;exact⟨c,σ',.exit i,b,rfl,f⟩
 |ret=>cases d;exact⟨c,σ',.ret,b,rfl,f⟩
 |panic p=>obtain⟨v,rfl,n⟩:=d;exact⟨c,σ',.panic p,b,⟨v,rfl,n⟩,f⟩
def AWP.block{X:Env1}{id:Nat}{x:Code}{σ:St}{Q:EB->St->Prop}(h:AWP X x σ (dK id Q)):AWP X (.block id x) σ Q:=by
 intro C E a w g j;refine wp_block (wp_mono (h C E a w g j) ?_)
 rintro e m n ⟨d,σ',k,b,f,c⟩
 cases k with
 |normal=>cases f;exact⟨d,σ',.normal,b,rfl,c⟩
 |exit i=>
  cases f;simp only[dK]at c;simp only[Exit.inBlock];split
  ·rename_i e;rw[if_pos e]at c;exact⟨d,σ',.normal,b,rfl,c⟩
  rename_i e;rw[if_neg e]at c;exact⟨d,σ',.exit i,b,rfl,c⟩
 |ret=>cases f;exact⟨d,σ',.ret,b,rfl,c⟩
 |panic p=>obtain⟨v,rfl,l⟩:=f;exact⟨d,σ',.panic p,b,⟨v,rfl,l⟩,c⟩
def eE:List Nat->List Nat->Prop|[],_=>True|n::r,u=>n∈u/\eE r u
def RS:List (Nat×V)->List (Nat×V)->Prop|[],_=>True|(t,x)::r,l=>IA l t=x/\RS r l
def fF:List (Nat×V)->List Nat|[]=>[]|(_,x)::r=>x.names++fF r
def gC:List (Nat×Ob)->List Nat|[]=>[]|(n,o)::r=>n::o.names++gC r
structure Weak(X:Env1)(σ τ:St):Prop where
 slots:RS τ.slots σ.slots
 objs:rB τ.objs σ.objs
 names:eE (fF τ.slots++gC τ.objs++X.given) τ.used
def gM:∀{l u:List Nat},eE l u->∀n∈l,n∈u
 |[],_,_,n,h=>by simp at h|k::r,u,a,n,h=>by
  rcases List.mem_cons.1 h with rfl|h
  ·exact a.1
  exact gM a.2 n h
def td:∀{l m:List (Nat×V)},RS l m->∀t,IA l t=.undef\/IA l t=IA m t
 |[],_,_,t=>.inl rfl|(k,x)::r,m,h,t=>by
  simp only[IA];split
  ·rename_i e;subst e;exact .inr h.1.symm
  exact td h.2 t
theorem fX{l:List (Nat×V)}{t n:Nat}(h:n∈(IA l t).names):n∈fF l:=by
 induction l with
 |nil=>grind[IA,V.names]|cons p r a=>
  grind[IA,fF]
theorem lM{l:List (Nat×Ob)}{m:Nat}{o:Ob}(h:zA l m=some o):m∈gC l/\∀n∈o.names,n∈gC l:=by
 induction l with
 |nil=>grind[zA]|cons p r a=>
  grind[zA,gC]
def Weak.ga{X:Env1}{σ τ:St}(h:Weak X σ τ){C:Ctx}(i:TH X C){E:Env}{a:Act}{w:World}(d:Ga C E σ a w):Ga C E τ a w:=by
 have p:=td h.slots;have f:=yK h.objs;have j:=gM h.names;refine⟨?_,d.size,⟨d.defers.1,λn g=>j n (by simp[i.defs n g])⟩,d.heap,λn o c=>d.objs n o (f n o c),λn m o l c k=>d.apart n m o l (f n o c) (f m l k),?_,?_,?_,d.grown,d.rest,d.same,d.hle,λn o b c=>d.own n o b (f n o c),d.ext,λn g=>⟨j n (by simp[i.ms n g]),?_,(d.keep n g).2.2⟩⟩;rotate_left 4
 ·cases e:zA τ.objs n with
  |none=>rfl|some o=>
   have:=f n o e;rw[(d.keep n g).2.1]at this;cases this
 ·intro t;rcases p t with e|e
  ·rw[e];simp[RepV]
  rw[e];exact d.slots t
 ·grind[fX]
 ·intro n o c;obtain⟨r,s⟩:=lM c;simp_all
 intro n o c;exact j n (by simp[i.given n o c])
end Go.Lg
