/- The logic of contracts; no conditions. -/
import Derived.Test.YtbebdmlomjpamaaGreatDoorAccA2
import Derived.Laws.StructEq
import Derived.Laws.RangeString
import Derived.Laws.IdiomStrings
set_option linter.all false
namespace Go.Lg
section
variable{P:Program}{C:Ctx}{E:Env}{σ:St}{a:Act}{w:World}{gl:Nat->Option (List PV)}{o:Oper}{T:Nat->Option TI}{note:xC}
def abq:=@Array.eq_empty_of_size_eq_zero
theorem js(h:Ga C E σ a w)(z:GOK gl C.E0.H)(m:∀d,o.dst=some d->d<C.nt){f:Nat}{first b:Array Operand}(p:o.op=.makeFunc (.func f) first b){r:R}{t:Nat->Option Ob}
  (g:gA T note (σ.val gl) t o.dst (.makeFunc (.func f) first b)=some r):Sound P C E σ a w o r:=by
 simp only[gA]at g;split at g
 ·rename_i s;cases g;have k:first= #[]:=abq s
  subst k;have i:∀l:List Operand,RepVL E (l.map (σ.val gl)) (l.map a.eval):=by
   intro l
   induction l with|nil=>simp[RepVL]|cons x l u=>grind[RepVL,UA]
  have e:∀(fn:Fn)(first cap:Array Value),(Instr.makeFunc fn first cap).run P w=.ok (.func fn first cap) w:=λ_ _ _=>rfl
  refine Sound.pure h (v:=.func (.func f) #[] (b.toList.map a.eval).toArray) (.inl ?_) ?_ ?_ m trivial
  ·have:Array.map a.eval b=(List.map a.eval b.toList).toArray:=by rw[<-Array.toList_map]
   simp[execOp,p,e,this]
  ·grind[RepV]
  intro n j;have⟨c,v,j⟩:=mem_namesL.1 j
  grind[TC]
 split at g
 ·rename_i s y;cases g;have k:b= #[]:=abq y;subst k;have i:∀l:List Operand,RepVL E (l.map (σ.val gl)) (l.map a.eval):=by
   intro l
   induction l with|nil=>simp[RepVL]|cons x l u=>grind[RepVL,UA]
  have e:∀(fn:Fn)(first cap:Array Value),(Instr.makeFunc fn first cap).run P w=.ok (.func fn first cap) w:=λ_ _ _=>rfl
  refine Sound.pure h (v:=.func (.func f) (first.toList.map a.eval).toArray #[]) (.inl ?_) ?_ ?_ m trivial
  ·have:Array.map a.eval first=(List.map a.eval first.toList).toArray:=by rw[<-Array.toList_map]
   simp[execOp,p,e,this]
  ·grind[RepV]
  intro n j;have⟨c,v,j⟩:=mem_namesL.1 j
  grind[TC]
 cases g
theorem ws(h:Ga C E σ a w)(l:∀d,o.dst=some d->d<C.nt){t:Nat}(p:o.op=.makeMap t none){r:R}{s:Nat->Option Ob}{val:Operand->V}(y:r.cond)
  (f:gA T note val s o.dst (.makeMap t none)=some r) (g:∀n x,r.wr=some (n,x)->r.new=true->n∉σ.used):Sound P C E σ a w o r:=by
 simp only[gA]at f;split at f
 ·rename_i n j;cases f;have g:=g n _ rfl rfl;let E':Env:={E with g:=λm=>if m=n then .map (some w.heap.size)else E.g m};have c:E'.g n=.map (some w.heap.size):=by simp[E']
  have u:∀m,m≠n->E'.g m=E.g m/\E'.ver m=E.ver m/\E'.sz m=E.sz m:=λm k=>⟨c5,rfl,rfl⟩
  refine⟨.map (some w.heap.size),w.alloc (.map #[] 0),E',.inl ?_,?_,trivial⟩
  ·have:(Instr.makeMap t none).run P w=.ok (.map (some w.heap.size)) (w.alloc (.map #[] 0)):=rfl;simp[execOp,p,this]
  refine h.change (E':=E') n (some (.smap j [])) (HB σ.objs n (.smap j [])) (n::σ.used) o.dst (.map n) _ (λm=>QD _ _ _ _) (Hle.refl _) u (λi=>absurd i g) (λi=>absurd i g)
   a8 ⟨rfl,rfl,rfl⟩ (λb v _=>⟨heap_alloc_old w _ b v,rfl⟩) (aR h.heap _ E' rfl) ?_ ?_ (λm k=>by simp[k]) ?_ ?_ l
  ·intro z e;cases e;exact⟨⟨w.heap.size,#[],0,c,heap_alloc_new w _,h.heap.lt (e6 _),by simp[EntsS],by simp[StampOK]⟩,a8,by simp[Ob.names,kD]⟩
  ·grind[HA]
  ·exact⟨_,c,rfl⟩
  simp[V.names]
 cases f
def QY(w:World)(r b:Nat)(c:Obj)(h:b≠r):({w with heap:=w.heap.setIfInBounds r c}:World).heap[b]? =w.heap[b]?:=by
 grind
def PI(s:Bool):TypeDesc:=match s with|true=>.string|false=>.int .i64
def mg{x y:List Nat}(c:∀b∈x,b<256)(d:∀b∈y,b<256):((⟨(x.map UInt8.ofNat).toArray⟩:ByteArray)==⟨(y.map UInt8.ofNat).toArray⟩)=tF x y:=by
 rw[beq_toListBytes,ByteArray.toList_mk,ByteArray.toList_mk,Yf c d]
def ss{a b:SK}{s:Bool}(d:a.kind=s)(c:b.kind=s)(e:a.ok)(f:b.ok):Instr.sameNow (PI s) a.v b.v=some (SK.eqB a b):=by
 subst d
 cases a with
 |int n=>
  cases b with
  |int m=>
   rfl
  |str y=>cases c
 |str x=>
  cases b with
  |int m=>cases c
  |str y=>
   simp only[SK.kind,PI,SK.v,Instr.sameNow,SK.eqB,mg e f]
def RY{s:Bool}{a:SK}(f:a.kind=s)(g:a.ok){E:Env}:∀(c:List (SK×V))(d:List MapEntry)(i:Nat),EntsS E s c d->
  (VF c a=none->Instr.findNow (PI s) a.v d i=some none/\xE c a=λx=>c++[(a,x)])/\
  (∀x,VF c a=some x->∃j e,Instr.findNow (PI s) a.v d i=some (some (i+j,e.val))/\d[j]? =some e/\e.key=a.v/\RepV E x e.val/\∀y v,RepV E y v->EntsS E s (xE c a y) (d.modify j λe=>{e with key:=a.v,val:=v}))
 |[],[],i,_=>by
  refine⟨λ_=>⟨rfl,by funext p;rfl⟩,λp h=>by cases h⟩
 |(u,F)::c,m::d,i,r=>by
  have z:=RY f g c d (i+1) r.2;have b:=ss f r.1.2.1 g r.1.2.2.1
  cases e:SK.eqB a u with
  |true=>
   have k:=(SK.eqB_iff a u).1 e;refine⟨λh=>by grind[VF],λx h=>?_⟩;simp only[VF,e,gb,e5]at h;subst h;refine⟨0,m,?_,rfl,by rw[k];exact r.1.1,r.1.2.2.2,λy v l=>?_⟩
   ·unfold Instr.findNow;rw[r.1.1,b,e];rfl
   simp only[xE,e,gb,List.modify_zero_cons];exact⟨⟨rfl,f,g,l⟩,r.2⟩
  |false=>
   refine⟨λh=>?_,λx h=>?_⟩
   ·simp only[VF,e,gp]at h;have⟨n,t⟩:=z.1 h;refine⟨?_,?_⟩
    ·unfold Instr.findNow;rw[r.1.1,b,e];exact n
    funext x;simp only[xE,e,gp,t];rfl
   simp only[VF,e,gp]at h;have⟨j,k,n,t,A,B,D⟩:=z.2 x h;refine⟨j+1,k,?_,by simpa using t,A,B,λy v l=>?_⟩
   ·unfold Instr.findNow;rw[r.1.1,b,e];simp only[n];congr 3;omega
   simp only[xE,e,gp,List.modify_succ_cons];exact⟨r.1,D y v l⟩
 |[],_::_,_,r=>r.elim|(_,_)::_,[],_,r=>r.elim
theorem EntsS.app{E:Env}{s:Bool}{k:SK}{x:V}{v:Value}{c:Nat}(b:k.kind=s)(d:k.ok)(e:RepV E x v):∀{f:List (SK×V)}{g:List MapEntry},EntsS E s f g->EntsS E s (f++[(k,x)]) (g++[⟨k.v,v,c⟩])|[],[],_=>⟨⟨rfl,b,d,e⟩,trivial⟩|(_,_)::_,_::_,r=>⟨r.1,EntsS.app b d e r.2⟩|[],_::_,r=>r.elim|(_,_)::_,[],r=>r.elim
def ng{a:SK}{x:V}:∀{b:List (SK×V)}{n:Nat},n∈kD (xE b a x)->n∈x.names\/n∈kD b
 |[],n,h=>by grind[xE,kD]|(k,y)::r,n,h=>by
  unfold xE at h
  cases e:SK.eqB a k with
  |true=>
   rw[e]at h;simp only[gb,kD,eh]at h⊢
   grind
  |false=>
   rw[e]at h;simp only[gp,kD,eh]at h⊢;rcases h with h|h
   ·exact .inr (.inl h)
   rcases ng h with h|h
   ·exact .inl h
   exact .inr (.inr h)
def As{a:SK}{x:V}:∀{b:List (SK×V)},VF b a=some x->∀n∈x.names,n∈kD b
 :=by intro x;induction x<;>grind[VF,SK.eqB,kD]
def pg{E:Env}{k:V}{a:SK}{v:Value}(h:vP k=some a)(b:RepV E k v):v=a.v/\a.ok:=by
 unfold vP at h;split at h
 ·cases h;exact⟨by grind[RepV,RepP,SK.v],trivial⟩
 ·cases h;exact⟨b.1,b.2⟩
 cases h
def Bs(a:SK)(b:a.ok):Instr.sameBits 10000 a.v a.v=true:=by
 cases a with|int n=>simp[SK.v,Instr.sameBits]|str l=>simp only[SK.v,Instr.sameBits,mg b b];exact(dR l l).2 rfl
def sg{c:Nat}{s:Bool}(d:P.underlying c=some (PI s))(b:Bool)(v:Value):(Instr.checkKey b 10000 c v).run P w=.ok () w:=by
 unfold Instr.checkKey;cases s<;>simp only[PI]at d<;>simp[hU,fx d]
def AU{b:Nat}{s:Bool}(d:P.underlying b=some (PI s)){v:Value}{c:List MapEntry}{q:Option (Nat×Value)}(h:Instr.findNow (PI s) v c 0=some q):(Instr.findKey b v c).run P w=.ok q w:=by
 unfold Instr.findKey;simp only[hU,fx d,gW,h];rfl
def abc:=@Nat.lt_succ_of_lt
def StampOK.push{e:List MapEntry}{d:Nat}(h:StampOK e d)(k v:Value):StampOK (e++[⟨k,v,d⟩]) (d+1):=by
 refine⟨λx c=>?_,?_⟩
 ·rcases eh.1 c with c|c
  ·exact abc (h.1 x c)
  simp_all
 rw[gn,List.nodup_append];refine⟨h.2,a8,λa g b f=>?_⟩;obtain⟨x,c,rfl⟩:=iy.1 g;simp at f;subst f;exact Nat.ne_of_lt (h.1 x c)
def tg{f:MapEntry->MapEntry}(b:∀e,(f e).born=e.born):∀(l:List MapEntry)(j:Nat),(l.modify j f).map (·.born)=l.map (·.born)
 :=by intro x;induction x<;>grind[]
def StampOK.modify{b:List MapEntry}{c:Nat}(h:StampOK b c)(j:Nat)(f:MapEntry->MapEntry)(d:∀e,(f e).born=e.born):StampOK (b.modify j f) c:=by
 refine⟨λx g=>?_,by rw[tg d];exact h.2⟩;have:x.born∈(b.modify j f).map (·.born):=iy.2 ⟨x,g,rfl⟩;rw[tg d]at this;have⟨y,i,e⟩:=iy.1 this;rw[<-e];exact h.1 y i
def cg(h:Ga C E σ a w)(hg:GOK gl C.E0.H){t kt vt:Nat}{s:Bool}{m k v:Operand}(K:P.underlying t=some (.map kt vt))(hu:P.underlying kt=some (PI s))(Y:o.op=.mapUpdate t m k v\/o.op=.insert t m k v)(L:o.dst=none){r:R}(hc:r.cond)
  (H:RJ s (jA σ.objs) (σ.val gl m) (σ.val gl k) (σ.val gl v)=some r):Sound P C E σ a w o r:=by
 have hm:=UA h hg m;have hk:=UA h hg k;have hv:=UA h hg v;have nv:=TC (gl:=gl) h v;unfold RJ at H;split at H
 ·rename_i n u em ek;rw[em]at hm;have⟨M,B⟩:=pg ek hk;split at H
  ·rename_i D I N;cases H;obtain⟨rfl,g⟩:=hc;simp only[RepV]at hm;have⟨b,F,O⟩:=hm;have⟨b',J,Z,y,d,i,l,Q⟩:=h.objs n _ N;rw[F]at y;cases y;have⟨hf1,hf2⟩:=RY g B I J.toList 0 l;have key:∀f p,EntsS E D (xE I u (σ.val gl v)) f.toList->StampOK f.toList p->(Instr.mapUpdate t (a.eval m) (a.eval k) (a.eval v)).run P w=.ok () {w with heap:=w.heap.setIfInBounds b (.map f p)}->
     Sound P C E σ a w o ⟨D=D/\u.kind=D,True,.undef,some (n,.smap D (xE I u (σ.val gl v))),false⟩:=by
    intro f p x S hr;refine⟨undef,{w with heap:=w.heap.setIfInBounds b (.map f p)},E,.inr ⟨?_,rfl⟩,?_,trivial⟩
    ·rcases Y with Y|Y<;>simp only[execOp,Y,hU,hr,gW]<;>rfl
    have hbl:b<w.heap.size:=(aal.1 d).1;refine h.change (E':=E) n (some (.smap D (xE I u (σ.val gl v)))) (HB σ.objs n (.smap D (xE I u (σ.val gl v)))) σ.used o.dst .undef undef (λm=>QD _ _ _ _) (Hle.refl _) (λ_ _=>⟨rfl,rfl,rfl⟩) (λ_=>EExt.refl _ _) (λ_=>⟨_,N⟩) a8 ⟨rfl,rfl,rfl⟩
     (λb1 hlt hne=>⟨QY w b b1 _ (λe=>hne _ N (by rw[e,F];rfl)),rfl⟩) ?_ ?_ ?_ (λ_ h=>h) aaa b0 (by rw[L];simp)
    ·intro b1 U;have:b1≠b:=λe=>U (e▸i)
     have⟨c,T',fr,hc,hp⟩:=h.heap b1 U
     grind
    ·intro o' e;cases e;refine⟨⟨b,f,p,F,by simp[hbl],i,x,S⟩,(h.usedO n _ N).1,λq hq=>?_⟩;rcases ng hq with hq|hq
     ·simp_all
     exact(h.usedO n _ N).2 q hq
    simp_all
   have z:(getObj b).run P w=.ok (.map J Z) w:=by simp[getObj,Sem.run,d]
   have A:∀ob:Obj,(setObj b ob).run P w=.ok () {w with heap:=w.heap.setIfInBounds b ob}:=by intro ob;simp[setObj,Sem.run,d]
   have W:=λc v=>sg (w:=w) hu c v
   cases X:VF I u with
   |none=>
    have⟨h1,h2⟩:=hf1 X;have G:=AU (w:=w) hu h1;refine key (J.push ⟨u.v,a.eval v,Z⟩) (Z+1) ?_ ?_ ?_
    ·rw[h2];simp only[Array.toList_push];exact l.app g B hv
    ·simp only[Array.toList_push];exact Q.push _ _
    unfold Instr.mapUpdate;simp only[hU,fx K,gW,O,z,M,W,G,A]
   |some q=>
    have⟨j,e0,h1,h2,h3,h4,h5⟩:=hf2 q X;rw[ia]at h1;have G:=AU (w:=w) hu h1;refine key (J.modify j λe=>{e with key:=u.v,val:=a.eval v}) Z ?_ ?_ ?_
    ·rw[Array.toList_modify];exact h5 _ _ hv
    ·rw[Array.toList_modify];exact Q.modify j _ λ_=>rfl
    have hkk:((J[j]?).map (·.key)).getD u.v=u.v:=by
     have:J[j]? =some e0:=by simpa using h2
     rw[this];simpa using h3
    unfold Instr.mapUpdate;simp only[hU,fx K,gW,O,z,M,W,G,hkk,Instr.keyThatStays,Bs _ B];simp[A]
  cases H
 cases H
def Cs(h:Ga C E σ a w)(Z:GOK gl C.E0.H)(J:∀d,o.dst=some d->d<C.nt){t kt vt:Nat}{s ok:Bool}{m k:Operand}(F:P.underlying t=some (.map kt vt))(K:P.underlying kt=some (PI s))(L:o.op=.lookup t m k ok){r:R}(hc:r.cond)
  {e:TI} (hv:TIOK P vt e) {z:PV} (ez:SJ e=some z) (D:bL s ok z (jA σ.objs) (σ.val gl m) (σ.val gl k)=some r):Sound P C E σ a w o r:=by
 have M:=UA h Z m;have hk:=UA h Z k;unfold bL at D;split at D
 ·rename_i n ak em ek;rw[em]at M;have⟨G,N⟩:=pg ek hk;split at D
  ·rename_i O es eo;cases D;obtain⟨rfl,i⟩:=hc;simp only[RepV]at M;have⟨b,Q,H⟩:=M;have⟨b',ms,ck,f,l,S,p,_⟩:=h.objs n _ eo;rw[Q]at f;cases f;have⟨U,W⟩:=RY i N es ms.toList 0 p;have g:(getObj b).run P w=.ok (.map ms ck) w:=by simp[getObj,Sem.run,l]
   have I:=λc v=>sg (w:=w) K c v
   have hz:RepP E.H z e.zero:=IY hv ez E.H;have qC:∀(u:Value)(x:V)(c:Bool),RepV E x u->(∀n∈x.names,n∈σ.used)->(Instr.lookup t (a.eval m) (a.eval k) ok).run P w=.ok (if ok then .tuple #[u,.bool c]else u) w->
     Sound P C E σ a w o ⟨O=O/\ak.kind=O,True,(match ok with|true=>.tuple [x,.pv (.bool c)]|false=>x),.none,false⟩:=by
    intro u x c hx hn y
    cases ok with
    |true=>
     refine Sound.pure h (v:=.tuple #[u,.bool c]) (.inl ?_) ?_ (by grind[V.names,GA]) J trivial
     ·simp only[execOp,L,hU,y,gW];rfl
     simp only[RepV];exact⟨[u,.bool c],rfl,a8,by simp only[RepVL];exact⟨hx,by rfl,trivial⟩⟩
    |false=>
     refine Sound.pure h (v:=u) (.inl ?_) hx hn J trivial;simp only[execOp,L,hU,y,gW];rfl
   cases A:VF es ak with
   |none=>
    have⟨X,_⟩:=U A;have B:=AU (w:=w) K X;have y:(Instr.lookup t (a.eval m) (a.eval k) ok).run P w=.ok (if ok then .tuple #[e.zero,.bool false]else e.zero) w:=by
     unfold Instr.lookup;simp only[hU,fx F,gW,H,g,G];cases ok<;>simp[I,B,hv.run_zero]
    have:=qC e.zero (.pv z) false (by simpa only[RepV]using hz) b0 y
    cases ok with
    |true=>
     exact Sound.pure h (v:=.tuple #[e.zero,.bool false]) (.inl (by simp only[execOp,L,hU,y,gW];rfl)) (by
      exact⟨[e.zero,.bool false],rfl,a8,by simp only[RepL,RepP];exact⟨hz,a8⟩⟩) b0 J trivial
    |false=>exact this
   |some x=>
    have⟨j,Y,X,h2,h3,h4,_⟩:=W x A;have B:=AU (w:=w) K X;have y:(Instr.lookup t (a.eval m) (a.eval k) ok).run P w=.ok (if ok then .tuple #[Y.val,.bool true]else Y.val) w:=by
     unfold Instr.lookup;simp only[hU,fx F,gW,H,g,G];cases ok<;>simp[I,B]
    have:=qC Y.val x true h4 (λq hq=>(h.usedO n _ eo).2 q (As A q hq)) y
    cases ok with|true=>exact this|false=>exact this
  cases D
 cases D
theorem Ds(h:Ga C E σ a w)(g:GOK gl C.E0.H)(i:KB P T){t:Nat}{m k v:Operand}(j:o.op=.mapUpdate t m k v){r:R}(l:r.cond)
  (c:gA T note (σ.val gl) (jA σ.objs) o.dst (.mapUpdate t m k v)=some r):Sound P C E σ a w o r:=by
 simp only[gA]at c;split at c
 ·rename_i u x n y z A B b p;have⟨d,e,f⟩:=(i t _ p).desc;obtain⟨rfl,s⟩:=f;exact cg h g e (by cases n<;>exact s) (.inl j) b l c
 cases c
theorem Es(h:Ga C E σ a w)(g:GOK gl C.E0.H)(i:KB P T){t:Nat}{m k v:Operand}(j:o.op=.insert t m k v){r:R}(l:r.cond)
  (c:gA T note (σ.val gl) (jA σ.objs) o.dst (.insert t m k v)=some r):Sound P C E σ a w o r:=by
 simp only[gA]at c;split at c
 ·rename_i u x n y z A B b p;have⟨d,e,f⟩:=(i t _ p).desc;obtain⟨rfl,s⟩:=f;exact cg h g e (by cases n<;>exact s) (.inr j) b l c
 cases c
theorem Fs(h:Ga C E σ a w)(i:GOK gl C.E0.H)(j:∀d,o.dst=some d->d<C.nt)(g:KB P T){t:Nat}{m k:Operand}{ok:Bool}(l:o.op=.lookup t m k ok){r:R}(n:r.cond)
  (b:gA T note (σ.val gl) (jA σ.objs) o.dst (.lookup t m k ok)=some r):Sound P C E σ a w o r:=by
 simp only[gA]at b;split at b
 ·rename_i A p s B D F G u;have⟨d,c,e⟩:=(g t _ u).desc;obtain⟨rfl,v⟩:=e;split at b
  ·rename_i H f;have x:=g p _ f;split at b
   ·rename_i z y;exact Cs h i j c (by cases s<;>exact v) l n x y b
   cases b
  cases b
 cases b
theorem Gs(h:Ga C E σ a w)(s:GOK gl C.E0.H)(u:∀d,o.dst=some d->d<C.nt)(v:KB P T){t:Nat}{x:Operand}(y:o.op=.range t x){r:R}
  (c:gA T note (σ.val gl) (jA σ.objs) o.dst (.range t x)=some r) (i:∀n x,r.wr=some (n,x)->r.new=true->n∉σ.used):Sound P C E σ a w o r:=by
 have j:=UA h s x;simp only[gA]at c;split at c
 ·rename_i G H I J z;have⟨d,k,f⟩:=(v t _ z).desc;subst f;unfold EY at c;split at c
  ·rename_i n l A;rw[A]at j;cases c;have i:=i n _ rfl rfl;let E':Env:={E with g:=λm=>if m=n then .pointer (some ⟨w.heap.size,0,none⟩)else E.g m};have g:E'.g n=.pointer (some ⟨w.heap.size,0,none⟩):=by simp[E']
   have B:∀m,m≠n->E'.g m=E.g m/\E'.ver m=E.ver m/\E'.sz m=E.sz m:=λm p=>⟨c5,rfl,rfl⟩
   refine⟨.pointer (some ⟨w.heap.size,0,none⟩),w.alloc (.stringIter ⟨(l.map UInt8.ofNat).toArray⟩ 0),E',.inl ?_,?_,trivial⟩
   ·have D:(Instr.range t (a.eval x)).run P w=.ok (.pointer (some ⟨w.heap.size,0,none⟩)) (w.alloc (.stringIter ⟨(l.map UInt8.ofNat).toArray⟩ 0)):=by
     rw[j.1];simp[Instr.range,hU,fx k]
    simp only[execOp,y,hU,D,gW];rfl
   refine h.change (E':=E') n (some (.siter l 0)) (HB σ.objs n (.siter l 0)) (n::σ.used) o.dst (.loc n 0) _ (λm=>QD _ _ _ _) (Hle.refl _) B (λf=>absurd f i) (λf=>absurd f i)
    a8 ⟨rfl,rfl,rfl⟩ (λb F _=>⟨heap_alloc_old w _ b F,rfl⟩) (aR h.heap _ E' rfl) ?_ ?_ (λm p=>by simp[p]) ?_ ?_ u
   ·intro K e;cases e;exact⟨⟨w.heap.size,g,heap_alloc_new w _,h.heap.lt (e6 _),j.2⟩,a8,by simp[Ob.names]⟩
   ·grind[HA]
   ·exact⟨_,g,rfl⟩
   simp[V.names]
  cases c
 cases c
theorem Hs(h:Ga C E σ a w)(W:GOK gl C.E0.H)(O:∀d,o.dst=some d->d<C.nt){x:Operand}(Q:o.op=.next x true){r:R}(S:r.cond)
  (j:gA T note (σ.val gl) (jA σ.objs) o.dst (.next x true)=some r):Sound P C E σ a w o r:=by
 have H:=UA h W x;simp only[gA]at j;unfold wP at j;split at j
 ·rename_i n X;rw[X]at H;simp only[RepV]at H;have⟨b,z,U⟩:=H;split at j
  ·rename_i l p B;have⟨b',u,f,i,k⟩:=h.objs n _ B;rw[z]at u;cases u;have v:(getObj b).run P w=.ok (.stringIter ⟨(l.map UInt8.ofNat).toArray⟩ p) w:=by simp[getObj,Sem.run,f]
   have D:∀I:Obj,(setObj b I).run P w=.ok () {w with heap:=w.heap.setIfInBounds b I}:=by intro I;simp[setObj,Sem.run,f]
   have g:(⟨(l.map UInt8.ofNat).toArray⟩:ByteArray).size=l.length:=by simp[ByteArray.size]
   have J:b<w.heap.size:=(aal.1 f).1;split at j
   ·rename_i c F;cases j;have s:p<l.length:=(gf.1 F).1;have G:l[p]=c:=(gf.1 F).2;have y:=decode_ascii (⟨(l.map UInt8.ofNat).toArray⟩:ByteArray) p (by rw[g];exact s) (by
     have K:((⟨(l.map UInt8.ofNat).toArray⟩:ByteArray)[p]'(by rw[g];exact s))=UInt8.ofNat l[p]:=by simp[ByteArray.getElem_eq_getElem_data]
     rw[K,G];have:(UInt8.ofNat c).toNat=c:=a9
     omega)
    have L:((⟨(l.map UInt8.ofNat).toArray⟩:ByteArray)[p]'(by rw[g];exact s)).toNat=c:=by
     have K:((⟨(l.map UInt8.ofNat).toArray⟩:ByteArray)[p]'(by rw[g];exact s))=UInt8.ofNat l[p]:=by simp[ByteArray.getElem_eq_getElem_data]
     rw[K,G];simp;omega
    rw[L]at y;have M:(Instr.next (a.eval x) true o.type).run P w=.ok (.tuple #[.bool true,.int .i64 p,.int .i32 c]) {w with heap:=w.heap.setIfInBounds b (.stringIter ⟨(l.map UInt8.ofNat).toArray⟩ (p+1))}:=by
     rw[U];unfold Instr.next;simp only[hU,v,gW,g,s,if_true,y,D,goInt];simp
    refine⟨.tuple #[.bool true,.int .i64 p,.int .i32 c],{w with heap:=w.heap.setIfInBounds b (.stringIter ⟨(l.map UInt8.ofNat).toArray⟩ (p+1))},E,.inl ?_,?_,trivial⟩
    ·simp only[execOp,Q,hU,M,gW];rfl
    refine h.change (E':=E) n (some (.siter l (p+1))) (HB σ.objs n (.siter l (p+1))) σ.used o.dst _ _ (λm=>QD _ _ _ _) (Hle.refl _) (λ_ _=>⟨rfl,rfl,rfl⟩) (λ_=>EExt.refl _ _) (λ_=>⟨_,B⟩) a8 ⟨rfl,rfl,rfl⟩
     (λA k N=>⟨QY w b A _ (λe=>N _ B (by rw[e,z];rfl)),rfl⟩) ?_ ?_ ?_ (λ_ h=>h) ?_ b0 O
    ·intro A t;have:A≠b:=λe=>t (e▸i)
     have⟨c,Y,Z,S,s⟩:=h.heap A t;exact⟨c,Y,Z,by rw[QY w b A _ this];exact S,s⟩
    ·intro o' e;cases e;exact⟨⟨b,z,by simp[J],i,k⟩,(h.usedO n _ B).1,by simp[Ob.names]⟩
    ·intro o' A e t;exact .inr ⟨t,_,B⟩
    simp only[RepV,RepP];exact⟨[.bool true,.int .i64 p,.int .i32 c],rfl,a8,by simp[RepL,RepP]⟩
   rename_i F;cases j;have s:¬p<l.length:=by
    intro k;rw[e7 k]at F;cases F
   have M:(Instr.next (a.eval x) true o.type).run P w=.ok (.tuple #[.bool false]) w:=by
    rw[U];unfold Instr.next;simp only[hU,v,gW,g,s,if_false];simp
   refine Sound.pure h (v:=.tuple #[.bool false]) (.inl ?_) ?_ b0 O trivial
   ·simp only[execOp,Q,hU,M,gW];rfl
   exact⟨[.bool false],rfl,a8,by simp[RepL,RepP]⟩
  cases j
 cases j
def eg:∀{c:List (List PV)}{l:List Nat},TJ c=some l->l.length=c.length/\(∀e∈c,e.length=1)/\∀b∈l,b<256
 |[],_,h=>by cases h;simp
 |e::r,l,h=>by
  unfold TJ at h;split at h
  ·simp_all
  ·rename_i b g i
   cases d:Nat.blt b 256 with
   |false=>rw[d]at h;cases h
   |true=>
    rw[d]at h;split at h
    ·rename_i j f;cases h;have⟨k,m,n⟩:=eg f;simp_all
    cases h
  cases h
def ig{H:Hp}:∀{f:List (List PV)}{l:List Nat}{c:List Value},TJ f=some l->RepE H f c->∀(j:Nat)(b:Nat),l[j]? =some b->c[j]? =some (.int .u8 (Int.ofNat b))
 |[],_,_,h,_,j,b,d=>by cases h;simp at d
 |e::r,l,c,h,g,j,b,d=>by
  unfold TJ at h;split at h
  ·simp_all
  ·rename_i k p m;cases m
   cases i:Nat.blt k 256 with
   |false=>rw[i]at h;cases h
   |true=>
    rw[i]at h;split at h
    ·rename_i s n;cases h
     cases c with
     |nil=>grind[RepE,RepL]|cons u c=>
      cases j with|zero=>simp at d;subst d;simp[g.1.1.1]|succ j=>simpa using ig n g.2 j b (by simpa using d)
    cases h
  cases h
def aaX:=@Nat.mod_eq_of_lt
theorem Js(h:Ga C E σ a w)(hg:GOK gl C.E0.H)(O:∀d,o.dst=some d->d<C.nt)(B:KB P T){s t:Nat}{x:Operand}(Q:o.op=.convert s t x){r:R}(hc:r.cond)
  (l:gA T note (σ.val gl) (jA σ.objs) o.dst (.convert s t x)=some r):Sound P C E σ a w o r:=by
 have c:=UA h hg x;simp only[gA]at l;have key:∀(f:TI)(k m:IntKind)(n:Int)(p b:Nat)(z:Value)(u:List PV),T s=some f->T t=some ⟨.num k,p,b,z,u⟩->a.eval x=.int m n->Sound P C E σ a w o (R.of (.pv (.num k (k.wrap n)))):=by
  intro f k m n p b z u g i S;have⟨d,D,_⟩:=(B s _ g).desc;have⟨d',F,H⟩:=(B t _ i).desc;simp only[yD]at H;obtain⟨rfl,h1,h2⟩:=H;refine Sound.pure h (v:=.int k (k.wrap n)) (.inl ?_) (by simp only[RepV,RepP];simp_all) b0 O trivial;simp[execOp,Q,S,convert,fx D,fx F,Conv.intToInt]
 have A:∀(f:TI)(m:IntKind)(n:Int)(p b:Nat)(z:Value)(u:List PV),T s=some f->T t=some ⟨.int,p,b,z,u⟩->a.eval x=.int m n->Sound P C E σ a w o (R.of (.pv (.int (IntKind.i64.wrap n)))):=by
  intro f m n p b z u g i S;have⟨d,D,_⟩:=(B s _ g).desc;have⟨d',F,H⟩:=(B t _ i).desc;simp only[yD]at H;subst H;refine Sound.pure h (v:=.int .i64 (IntKind.i64.wrap n)) (.inl ?_) (by simp only[RepV,RepP]) b0 O trivial;simp[execOp,Q,S,convert,fx D,fx F,Conv.intToInt]
 split at l
 ·rename_i f k p b z u m n g i e;cases l;rw[e]at c;simp only[RepV,RepP]at c;exact key f k m n _ _ _ _ g i c.1
 ·rename_i f k p b z u n g i e;cases l;rw[e]at c;simp only[RepV,RepP]at c;exact key f k .i64 n _ _ _ _ g i c
 ·rename_i f p b z u m n g i e;cases l;rw[e]at c;simp only[RepV,RepP]at c;exact A f m n _ _ _ _ g i c.1
 ·rename_i f p b z u n g i e;cases l;rw[e]at c;simp only[RepV,RepP]at c;exact A f .i64 n _ _ _ _ g i c
 ·rename_i e s1 s2 s3 s4 u1 u2 u3 u4 G g i ex;split at l
  ·rename_i v1 v2 v3 v4 U W ee el;cases l;rw[ex]at c;have⟨d1,X,I⟩:=(B s _ g).desc;have⟨d2,Y,J⟩:=(B t _ i).desc;have⟨d3,Z,K⟩:=(B e _ ee).desc;simp only[yD]at I J K;subst I J;obtain⟨rfl,_⟩:=K;have⟨q1,q2,q3⟩:=eg el;have L:vA G≠[]:=by
    intro h0;have:=k0 List.length h0;simp[vA]at this;simp[this]at q1
   rcases iR (y:=.pv (.slice G)) (ys:=vA G) rfl c with ⟨e0,_⟩|⟨b',M,c',hvv,hsr⟩
   ·exact absurd e0 L
   have⟨news,_,hnr,v⟩:=eR h hsr (λe he=>by obtain⟨y,hy,rfl⟩:=iy.1 he;simpa[CA]using q2 y hy) L Nat.zero_lt_one;have hr:=run_convert_bytes_back (P:=P) w s t e ⟨b',M,none⟩ c' ((U::W).map UInt8.ofNat) X Z Y λj hj=>by
    have N:j<(U::W).length:=by simpa using hj
    rw[v j _ (ig el (RepVE.toPv (wL G) hnr) j _ (e7 N))];rw[List.getElem_map];have:=q3 _ (List.getElem_mem N);simp[aaX this]
   rw[gB,q1,show G.length=(vA G).length by simp[vA]]at hr;refine Sound.pure h (v:=.string ⟨((U::W).map UInt8.ofNat).toArray⟩) (.inl ?_) (by simp only[RepV,RepP];exact⟨trivial,q3⟩) b0 O trivial;simp only[execOp,Q,hvv,hU,hr,gW];rfl
  cases l
 cases l
end
section
variable{P:Program}{C:Ctx}{E:Env}{σ:St}{a:Act}{w:World}{gl:Nat->Option (List PV)}{o:Oper}{T:Nat->Option TI}{note:xC}
def SY(H:KB P T)(D:GOK gl C.E0.H)(h:Ga C E σ a w)(A:∀d,o.dst=some d->d<C.nt){r:R}
  (e:gA T note (σ.val gl) (jA σ.objs) o.dst o.op=some r) (I:r.cond) (F:∀n x,r.wr=some (n,x)->r.new=true->n∉σ.used):Sound P C E σ a w o r:=by
 generalize l:o.op=op at e;have p:∀x,(op=.move x\/op=.assign x)->gA T note (σ.val gl) (jA σ.objs) o.dst op=some r->Sound P C E σ a w o r:=by
  intro x z e;have g:uL note (σ.val gl) x=some r:=by
   rcases z with rfl|rfl<;>simpa only[gA]using e
  unfold uL at g;split at g
  ·cases g;exact Qr h A (F _ _ rfl rfl) (by rcases z with rfl|rfl<;>simp[l])
  cases g;exact Yq h D A (by rcases z with rfl|rfl<;>simp[l])
 cases op with
 |move x=>simp_all|assign x=>simp_all|pick c x y=>grind[Zq]|alloc t=>grind[Hr]|box t x=>grind[Ir]|build t parts=>grind[Jr]|buildSlice t len parts=>grind[Pr]|load t x=>grind[xr]|store t x y=>grind[Mr]|nilCheck x=>grind[kr]|convert s t x=>grind[Js]|binOp b t x y J=>grind[nr]|unOp u t x=>
  cases u
  case not=>grind[zr]
  all_goals cases e
 |makeInterface t x=>grind[jr]|fieldAddr t x f=>grind[pr]|field t x f=>grind[ar]|indexAddr t x i=>grind[cr]|extract x i=>grind[rr]|slice t x K L M=>grind[Er]|typeAssert x N t b=>grind[vr]|makeFunc fn first B=>
  cases fn with|func f=>grind[js]|_=>cases e
 |makeMap t G=>
  cases G with|none=>grind[ws]|some _=>cases e
 |mapUpdate t m k v=>grind[Ds]|lookup t m k ok=>grind[Fs]|insert t m k v=>grind[Es]|index t x i=>grind[Fr]|range t x=>grind[Gs]|next x b=>
  cases b with|true=>grind[Hs]|false=>cases e
 |call c=>
  have⟨callee,args,j⟩:=c
  cases callee with
  |builtin b=>
   cases b
   case len=>grind[Ar]
   case append=>grind[Yr]
   case max=>grind[Zr]
   all_goals cases e
  |value f=>cases e
  |invoke r m=>cases e
 |_=>cases e
end
def kA(l:List (Nat×Ob)):List Nat:=l.map (·.1)
theorem JC{l:List (Nat×Ob)}{n:Nat}{o:Ob}(h:jA l n=some o):n∈kA l:=by
 induction l with
 |nil=>grind[jA]|cons p r a=>
  grind[jA,kA]
theorem bI{l:List (Nat×Ob)}{n:Nat}(h:n∈kA l):∃o,jA l n=some o:=by
 induction l with
 |nil=>grind[kA]|cons p r a=>
  have⟨k,x⟩:=p;by_cases e:k=n
  ·exact⟨x,by simp[jA,e]⟩
  grind[kA,absurd,jA]
def xB:List (Nat×Ob)->List (Nat×Ob)->Prop|[],_=>True|(n,o)::r,l=>jA l n=some o/\xB r l
def uP:List Nat->List Nat->Prop|[],_=>True|n::r,u=>n∉u/\uP r u
theorem dL:∀{a l:List (Nat×Ob)},xB a l->∀n o,jA a n=some o->jA l n=some o
 :=by intro x;induction x<;>grind[jA,xB]
def TY:∀{l u:List Nat},uP l u->∀n∈l,n∉u
 |[],_,_,n,h=>by simp at h|k::r,u,a,n,h=>by
  rcases e8.1 h with rfl|h
  ·exact a.1
  exact TY a.2 n h
def uD:List (Nat×Ob)->List Nat|[]=>[]|(_,o)::r=>o.names++uD r
def aF(args:List V)(a:List (Nat×Ob)):List Nat:=GA args++uD a
def Ks{a l:List (Nat×Ob)}{n:Nat}(b:xB a l)(h:n∈uD a):∃m o,jA l m=some o/\n∈o.names:=by
 induction a with
 |nil=>grind[uD]|cons p r c=>
  grind[xB,uD]
def UY{a l b:List (Nat×Ob)}(h:∀n∈kA a,jA l n=jA b n)(c:xB a l):xB a b:=by
 induction a with
 |nil=>trivial|cons p r d=>
  grind[xB,kA]
inductive Out where|ret (x:V)|panic (p:PV)
def Out.names:Out->List Nat|.ret x=>x.names|.panic _=>[]
def xR(E:Env):Out->Ending->Prop|.ret x,e=>∃v,e=.returned v/\RepV E x v|.panic p,e=>∃v,e=.panicked [{v,recovered:=false}]/\RepP E.H p v
structure QI(gl:Nat->Option (List PV))(E:Env)(w:World)(objs:List (Nat×Ob)):Prop where
 heap:HeapOK E w
 glob:GOK gl E.H
 obs:∀n o,jA objs n=some o->ObOK E w n o
 apart:∀n m o o',jA objs n=some o->jA objs m=some o'->n≠m->∀b,HA (E.g n)=some b->HA (E.g m)≠some b
structure dI(E:Env)(w:World)(objs:List (Nat×Ob))(E':Env)(w':World)(objs':List (Nat×Ob)):Prop where
 heap:HeapOK E' w'
 obs:∀n o,jA objs' n=some o->ObOK E' w' n o
 apart:∀n m o o',jA objs' n=some o->jA objs' m=some o'->n≠m->∀b,HA (E'.g n)=some b->HA (E'.g m)≠some b
 hle:Hle E.H E'.H
 size:w.heap.size<=w'.heap.size
 rest:w'.os=w.os/\w'.tape=w.tape/\w'.output=w.output
 same:∀b,b<w.heap.size->(∀n o,jA objs n=some o->HA (E.g n)≠some b)->(nf (E.H b)->w'.heap[b]? =w.heap[b]?)/\E'.H b=E.H b
 own:∀n o b,jA objs' n=some o->HA (E'.g n)=some b->w.heap.size<=b\/∃m o',jA objs m=some o'/\HA (E.g m)=some b
 ext:∀n o,jA objs n=some o->EExt E E' n
 other:∀n,jA objs n=none->jA objs' n=none->E'.g n=E.g n/\E'.ver n=E.ver n/\E'.sz n=E.sz n
def BU(P:Program)(f:Nat):Prop:=∃fn,P.funcs[f]? =some fn/\(fn.name== "runtime.NumGoroutine")=false/\fn.body.isNone=false
structure AC(P:Program)(gl:Nat->Option (List PV))(f:Nat)(args:List V)(objs:List (Nat×Ob))(out:Out)(objs':List (Nat×Ob)):Prop where
 direct:BU P f
 names:∀n∈out.names,n∈kA objs\/n∈kA objs'\/n∈aF args objs
 namesO:∀m o,jA objs' m=some o->∀n∈o.names,n∈kA objs\/n∈kA objs'\/n∈aF args objs
 calls:∀(E:Env)(w:World)(vs:List Value),QI gl E w objs->vs.length=args.length->RepVL E args vs->
  Calls P f vs.toArray w λe w'=>∃E',dI E w objs E' w' objs'/\xR E' out e
structure Eff where
 x:V
 wr:List (Nat×Option Ob)
 nw:List Nat
 rd:List Nat
def VY(l:List (Nat×Ob))(n:Nat):Option Ob->List (Nat×Ob)|some o=>HB l n o|none=>MI l n
def XF(l:List (Nat×Ob)):List (Nat×Option Ob)->List (Nat×Ob)|[]=>l|(n,o)::r=>XF (VY l n o) r
def St.eff(σ:St)(a:Option Nat)(e:Eff):St:=⟨cD a e.x σ.slots,XF σ.objs e.wr,e.nw++σ.used⟩
theorem Ls(l:List (Nat×Ob))(k n:Nat)(o:Option Ob):jA (VY l k o) n=if n=k then o else jA l n:=by
 cases o with|none=>exact fR l k n|some o=>exact QD l k n o
def bD:List (Nat×Option Ob)->Nat->Option (Option Ob)
 |[],_=>none|(k,o)::r,n=>match bD r n with|some x=>some x|none=>if k=n then some o else none
theorem fL:∀(a:List (Nat×Option Ob))(l:List (Nat×Ob))(n:Nat),jA (XF l a) n=match bD a n with|some o=>o|none=>jA l n
 |[],l,n=>rfl|(k,o)::r,l,n=>by
  simp only[XF,bD];rw[fL r]
  cases bD r n with
  |some x=>rfl|none=>
   grind[Ls]
def eH(b a:List (Nat×Ob)):List (Nat×Option Ob):=
 ((kA b).filter (λn=>(jA a n).isNone)).map (λn=>(n,none))++a.reverse.map (λp=>(p.1,some p.2))
def dD(x:V)(a b:List (Nat×Ob)):Eff:=
 ⟨x,eH a b,(kA b).filter (λn=>(jA a n).isNone),kA a⟩
def gL(x:V)(c a b:List (Nat×Ob)):Eff:=
 ⟨x,eH a b,(kA b).filter (λn=>(jA a n).isNone),kA c++kA a⟩
theorem og(a b:List (Nat×Option Ob))(n:Nat):bD (a++b) n=match bD b n with|some x=>some x|none=>bD a n:=by
 induction a with
 |nil=>simp[bD];cases bD b n<;>rfl
 |cons p r c=>
  simp only[aau,bD,c];cases bD b n<;>rfl
def Ms(l:List (Nat×Ob))(n:Nat):bD (l.reverse.map (λp=>(p.1,some p.2))) n=(jA l n).map some:=by
 induction l with
 |nil=>rfl|cons p r a=>
  grind[List.reverse_cons,og,bD,jA]
def Ns(l:List Nat)(n:Nat):bD (l.map (λn=>(n,none))) n=if n∈l then some none else none:=by
 induction l with
 |nil=>rfl|cons k r a=>
  grind[bD]
def RI(l b a:List (Nat×Ob))(n:Nat):jA (XF l (eH b a)) n=
  match jA a n with|some o=>some o|none=>if n∈kA b then none else jA l n:=by
 rw[fL,eH,og,Ms,Ns]
 grind
section
variable{P:Program}{C:Ctx}{E:Env}{σ:St}{a:Act}{w:World}{gl:Nat->Option (List PV)}
def aaZ:=@Array.getElem?_setIfInBounds_ne
def ib:=@Array.getD_eq_getD_getElem?
def k6:=@List.mem_filter
def Ga.called(h:Ga C E σ a w){A:Env}{R:World}{g f:List (Nat×Ob)}(p:dI E w g A R f)(l:∀n o,jA g n=some o->jA σ.objs n=some o)
  (z:∀n,n∈kA f->n∈kA g\/n∉σ.used) {ment:List Nat} (S:∀n∈ment,n∈σ.used) (T:∀m o,jA f m=some o->∀n∈o.names,n∈kA g\/n∈kA f\/n∈ment)
  {dst:Option Nat} {x:V} {v:Value} (hx:RepV A x v) (U:∀n∈x.names,n∈kA g\/n∈kA f\/n∈ment) (hd:∀d,dst=some d->d<C.nt):
  Ga C A (σ.eff dst (dD x g f)) (a.put dst v) R:=by
 have hkey:∀n∈kA g,n∈σ.used:=λn c=>by
  have⟨o,M⟩:=bI c;exact(h.usedO n o (l n o M)).1
 have r:∀n,n∈kA g\/n∈kA f\/n∈ment->n∈(dD x g f).nw++σ.used:=by
  intro n c;rw[eh];by_cases u:n∈kA g
  ·simp_all
  rcases c with c|c|c
  ·simp_all
  rotate_left
  ·simp_all
  left;simp only[dD,k6];refine⟨c,?_⟩
  cases e:jA g n with|none=>rfl|some o=>grind[absurd,JC]
 have D:∀n∈σ.used,EExt E A n:=by
  intro n c;by_cases u:n∈kA g
  ·have⟨o,M⟩:=bI u;exact p.ext n o M
  have I:jA g n=none:=by
   cases e:jA g n with|none=>rfl|some o=>grind[absurd,JC]
  have B:jA f n=none:=by
   cases e:jA f n with
   |none=>rfl|some o=>
    grind[JC,absurd]
  have⟨G,J,K⟩:=p.other n I B
  grind[EExt.of_eq]
 have H:∀t,RepV A (OA σ.slots t) (a.tmps.getD t undef):=λt=>
  RepV.mono p.hle _ _ (λn c=>D n (h.usedS t n c)) (h.slots t)
 have j:∀n o,jA σ.objs n=some o->n∉kA g->jA f n=none/\A.g n=E.g n/\A.ver n=E.ver n/\A.sz n=E.sz n/\(∀b,HA (E.g n)=some b->R.heap[b]? =w.heap[b]? /\A.H b=E.H b):=by
  intro n o c u;have I:jA g n=none:=by
   cases e:jA g n with|none=>rfl|some o=>grind[absurd,JC]
  have B:jA f n=none:=by
   cases e:jA f n with
   |none=>rfl|some y=>
    rcases z n (JC e)with L|L
    ·simp_all
    exact absurd (h.usedO n o c).1 L
  have⟨G,J,K⟩:=p.other n I B;refine⟨B,G,J,K,λb s=>?_⟩;have hh:=p.same b ((h.objs n o c).blk_lt s) (by
   intro m y i k;refine h.apart n m o y c (l m y i) ?_ b s k
   grind)
  exact⟨hh.1 ((h.objs n o c).nf s),hh.2⟩
 constructor
 ·intro t
  cases dst with
  |none=>exact H t|some d=>
   simp only[St.eff,cD,OA,Act.put];by_cases e:d=t
   ·subst e;have F:d<a.tmps.size:=by rw[h.size];exact hd d rfl
    simp[F,dD,hx]
   simp only[e,if_false];have:=H t;simpa[ib,aaZ e]using this
 ·cases dst<;>simp[Act.put,h.size]
 ·refine⟨?_,λn c=>eh.2 (.inr (h.defers.2 n c))⟩;have:=DefOK.mono p.hle _ _ (λn c=>D n (h.defers.2 n c)) h.defers.1;cases dst<;>simpa[Act.put]using this
 ·exact p.heap
 ·intro n o c;simp only[St.eff,dD,RI]at c;split at c
  ·rename_i y e;cases c;exact p.obs n _ e
  split at c
  ·cases c
  rename_i u;have⟨_,G,J,K,e4⟩:=j n o c u;exact(h.objs n o c).mono p.hle G J K (λm i=>D m ((h.usedO n o c).2 m i)) e4
 ·have key:∀n o m y,jA f n=some o->jA σ.objs m=some y->m∉kA g->∀b,HA (A.g n)=some b->HA (A.g m)≠some b:=by
   intro n o m y c i u b s k;have⟨_,G,_,_,_⟩:=j m y i u;rw[G]at k;rcases p.own n o b c s with W|⟨q,oq,hq,yB⟩
   ·have:=(h.objs m y i).blk_lt k;omega
   refine h.apart m q y oq i (l q oq hq) ?_ b k yB;intro e;subst e;exact u (JC hq)
  intro n m o y c i N b s k;simp only[St.eff,dD,RI]at c i;split at c
  ·rename_i on en;cases c;split at i
   ·rename_i Q X;cases i;exact p.apart n m _ _ en X N b s k
   split at i
   ·cases i
   rename_i u;exact key n _ m y en i u b s k
  split at c
  ·cases c
  rename_i O;split at i
  ·rename_i Q X;cases i;exact key m _ n o X c O b k s
  split at i
  ·cases i
  rename_i Y;rw[(j n o c O).2.1]at s;rw[(j m y i Y).2.1]at k;exact h.apart n m o y c i N b s k
 ·intro t n c
  cases dst with
  |none=>exact eh.2 (.inr (h.usedS t n c))|some d=>
   simp only[St.eff,cD,OA]at c;split at c
   ·exact r n (U n c)
   exact eh.2 (.inr (h.usedS t n c))
 ·intro n o c;simp only[St.eff,dD,RI]at c;split at c
  ·rename_i y e;cases c;exact⟨r n (.inr (.inl (JC e))),λm i=>r m (T n _ e m i)⟩
  split at c
  ·cases c
  exact⟨eh.2 (.inr (h.usedO n o c).1),λm i=>eh.2 (.inr ((h.usedO n o c).2 m i))⟩
 ·exactλn o c=>eh.2 (.inr (h.usedG n o c))
 ·exact hV h.grown p.size
 ·exact⟨p.rest.1.trans h.rest.1,p.rest.2.1.trans h.rest.2.1,p.rest.2.2.trans h.rest.2.2⟩
 ·intro b s hF;have⟨I,B⟩:=h.same b s hF;have⟨h3,h4⟩:=p.same b (Nat.lt_of_lt_of_le s h.grown) (λn o c e=>hF (h.own n o b (l n o c) e s));exact⟨λc=>(h3 (by rw[B];exact c)).trans (I c),h4.trans B⟩
 ·exact h.hle.trans p.hle
 ·intro n o b c s F;simp only[St.eff,dD,RI]at c;split at c
  ·rename_i y e;cases c;rcases p.own n _ b e s with W|⟨m,Q,i,Z⟩
   ·have:=h.grown;omega
   exact h.own m Q b (l m Q i) Z F
  split at c
  ·cases c
  rename_i u;rw[(j n o c u).2.1]at s;exact h.own n o b c s F
 ·intro n o c;exact(h.ext n o c).trans (D n (h.usedG n o c))
 intro n c;have⟨k1,k2,k3,k4,k5⟩:=h.keep n c;have u:n∉kA g:=by
  intro u;have⟨o,M⟩:=bI u;rw[l n o M]at k2;cases k2
 have I:jA g n=none:=by
  cases e:jA g n with|none=>rfl|some o=>exact absurd (JC e) u
 have B:jA f n=none:=by
  cases e:jA f n with
  |none=>rfl|some o=>
   rcases z n (JC e)with L|L
   ·exact absurd L u
   exact absurd k1 L
 have⟨G,J,K⟩:=p.other n I B;refine⟨eh.2 (.inr k1),?_,G.trans k3,J.trans k4,K.trans k5⟩;simp only[St.eff,dD,RI,B,u,if_false];exact k2
end
def WY:Op->Bool|.load _ _=>true|.store _ _ _=>true|.indexAddr _ _ _=>true|.slice _ _ _ _ _=>true|.call _=>true|.mapUpdate _ _ _ _=>true|.lookup _ _ _ _=>true|.insert _ _ _ _=>true|.next _ _=>true|_=>false
def wF(val:Operand->V)(op:Op):List Nat:=bif WY op then GA (op.operands.toList.map val)else []
def Qs{val:Operand->V}{op:Op}{x:Operand}(a:WY op=true)(b:x∈op.operands){n:Nat}(b:n∈(val x).names):n∈wF val op:=by
 unfold wF;rw[a];exact mem_namesL.2 ⟨val x,List.mem_map_of_mem bS,b⟩
def xg{s:Bool}{b a:Nat->Option Ob}{m k v:V}(h:∀n∈m.names,b n=a n):RJ s b m k v=RJ s a m k v:=by
 unfold RJ;split
 ·rw[h _ b0]
 rfl
def Rs{s ok:Bool}{z:PV}{b a:Nat->Option Ob}{m k:V}(h:∀n∈m.names,b n=a n):bL s ok z b m k=bL s ok z a m k:=by
 unfold bL;split
 ·rw[h _ b0]
 rfl
def Ss{b a:Nat->Option Ob}{x:V}(h:∀n∈x.names,b n=a n):nR b x=nR a x:=by
 unfold nR;split
 ·rw[h _ b0]
 rfl
def Ts{b:TI}{c a:Nat->Option Ob}{x:V}(h:∀n∈x.names,c n=a n):nN b c x=nN b a x:=by
 unfold nN;split
 ·rfl
 ·rfl
 ·rw[h _ b0]
 ·rw[h _ b0]
 rfl
def Us{b:TI}{c a:Nat->Option Ob}{x y:V}(h:∀n∈x.names,c n=a n):pN b c x y=pN b a x y:=by
 unfold pN;split
 ·rfl
 split
 ·rw[h _ b0]
 ·rfl
 ·rw[h _ b0]
 rfl
def Vs{T:Nat->Option TI}{b a:Nat->Option Ob}{t:Nat}{x i:V}(h:∀n∈x.names,b n=a n):rN T b t x i=rN T a t x i:=by
 unfold rN;split
 ·split
  ·split
   ·split
    ·rfl
    ·rw[h _ b0]
    rfl
   rfl
  ·rfl
  rfl
 rfl
def Ws{b a:Nat->Option Ob}{x:V}(h:∀n∈x.names,b n=a n):sN b x=sN a x:=by
 unfold sN;split
 ·rfl
 ·rfl
 ·rfl
 ·rw[h _ b0]
 rfl
def Xs{e:Nat}{c:TI}{d b:Nat->Option Ob}{a:xC}{f:Operand}{x y:V}(h:∀n∈x.names,d n=b n):OI e c d a f x y=OI e c b a f x y:=by
 unfold OI;split
 ·rw[h _ b0]
 ·rw[h _ b0]
 ·rfl
 ·rfl
 rfl
def Ys{b:TI}{c a:Nat->Option Ob}{x:V}{d e f:Option V}(h:∀n∈x.names,c n=a n):tN b c x d e f=tN b a x d e f:=by
 unfold tN;split
 ·rfl
 ·rfl
 ·rw[h _ b0]
 ·rfl
 ·rfl
 rfl
def aaE:=@Array.mem_append
def aaT:=@Array.mem_toList_iff
def cl{p:Prop}(h:p:=by simp[Op.operands]):=h
def Zs{T:Nat->Option TI}{o:xC}{val d:Operand->V}{D z:Nat->Option Ob}{C:Option Nat}{op:Op}(a:∀x∈op.operands,val x=d x)(K:∀n∈wF val op,D n=z n):
  gA T o val D C op=gA T o d z C op:=by
 have h:WY op=true->∀x∈op.operands,∀n∈(val x).names,D n=z n:=λE x l n h=>K n (Qs E l h)
 cases op with
 |move x=>simp only[gA,uL];rw[a x cl]|assign x=>simp only[gA,uL];rw[a x cl]|pick c x y=>simp only[gA];rw[a c cl,a x cl,a y cl]|alloc t=>rfl|box t x=>simp only[gA];rw[a x cl]|build t parts=>
  simp only[gA];have:(parts.toList.map λp=>(p.1,val p.2))=(parts.toList.map λp=>(p.1,d p.2)):=aak λp L=>by
   rw[a p.2 (by simp only[Op.operands,List.mem_toArray,iy];grind)]
  rw[this]
 |buildSlice t len parts=>
  simp only[gA];have:(parts.toList.map λp=>(p.1,val p.2))=(parts.toList.map λp=>(p.1,d p.2)):=aak λp L=>by
   rw[a p.2 (by simp only[Op.operands,List.mem_toArray,iy];grind)]
  rw[this]
 |typeAssert x Q t b=>
  have g:=a x cl;simp only[gA,<-g]
 |makeFunc fn first w=>
  cases fn with
  |func f=>
   simp only[gA];have:w.toList.map val=w.toList.map d:=aak λx l=>a x (by simp only[Op.operands,aaE];simp_all)
   have A:first.toList.map val=first.toList.map d:=aak λx l=>a x (by simp only[Op.operands,aaE];simp_all)
   rw[this,A]
  |_=>simp only[gA]
 |lookup t m k ok=>
  have g:=a m cl;have j:=a k cl;simp only[gA,<-g,<-j];split
  ·split
   ·split
    ·exact Rs (h rfl m cl)
    rfl
   rfl
  rfl
 |range t x=>
  have g:=a x cl;simp only[gA,<-g]
 |next x b=>
  cases b with
  |false=>rfl|true=>
   have g:=a x cl;simp only[gA,<-g];unfold wP;split
   ·rename_i n e;rw[h rfl x cl n (by rw[e];simp[V.names])]
   rfl
 |index t x i=>
  have g:=a x cl;have j:=a i cl;simp only[gA,<-g,<-j]
 |insert t m k v=>
  have g:=a m cl;have j:=a k cl;have F:=a v cl;simp only[gA,<-g,<-j,<-F];split
  ·exact xg (h rfl m cl)
  rfl
 |makeMap t r=>
  cases r with|none=>simp only[gA]|some _=>simp only[gA]
 |mapUpdate t m k v=>
  have g:=a m cl;have j:=a k cl;have F:=a v cl;simp only[gA,<-g,<-j,<-F];split
  ·exact xg (h rfl m cl)
  rfl
 |load t x=>
  have g:=a x cl;simp only[gA,<-g];split
  ·exact Ts (h rfl x cl)
  rfl
 |store t x y=>
  have g:=a x cl;have j:=a y cl;simp only[gA,<-g,<-j];split
  ·exact Us (h rfl x cl)
  rfl
 |nilCheck x=>simp only[gA];rw[a x cl]|convert s t x=>simp only[gA];rw[a x cl]|binOp b t x y M=>simp only[gA];rw[a x cl,a y cl]|unOp u t x=>
  cases u
  case not=>simp only[gA];rw[a x cl]
  all_goals simp only[gA]
 |makeInterface t x=>simp only[gA];rw[a x cl]|fieldAddr t x f=>simp only[gA];rw[a x cl]|field t x f=>simp only[gA];rw[a x cl]|indexAddr t x i=>
  have g:=a x cl;have j:=a i cl;simp only[gA,<-g,<-j];exact Vs (h rfl x cl)
 |extract x i=>simp only[gA];rw[a x cl]|slice t x G H I=>
  have g:=a x cl;have E:G.map val=G.map d:=by
   cases G with|none=>rfl|some y=>simp[a y cl]
  have N:H.map val=H.map d:=by
   cases H with|none=>rfl|some y=>simp[a y cl]
  have O:I.map val=I.map d:=by
   cases I with|none=>rfl|some y=>simp[a y cl]
  simp only[gA,<-g,<-E,<-N,<-O];split
  ·split
   ·exact Ys (h rfl x cl)
   rfl
  ·rfl
  rfl
 |call c=>
  have⟨callee,args,argTypes⟩:=c
  cases callee with
  |builtin b=>
   cases b
   case len=>
    simp only[gA];split
    ·rename_i t x P B;have l:x∈(Op.call {callee:=.builtin .len,args,argTypes}).operands:=by
      simp only[Op.operands,Call.operands,aaE];right;rw[<-aaT,B];simp
     have g:=a x l;simp only[<-g];split
     ·exact Ws (h rfl x l)
     ·exact Ss (h rfl x l)
     ·rfl
     rfl
    rfl
   case append=>
    simp only[gA];split
    ·rename_i t M x y P B;have l:x∈(Op.call {callee:=.builtin .append,args,argTypes}).operands:=by
      simp only[Op.operands,Call.operands,aaE];right;rw[<-aaT,B];simp
     have J:y∈(Op.call {callee:=.builtin .append,args,argTypes}).operands:=by
      simp only[Op.operands,Call.operands,aaE];right;rw[<-aaT,B];simp
     have g:=a x l;have j:=a y J;simp only[<-g,<-j];split
     ·split
      ·split
       ·exact Xs (h rfl x l)
       rfl
      rfl
     rfl
    rfl
   case max=>
    simp only[gA];split
    ·rename_i x y B;have l:x∈(Op.call {callee:=.builtin .max,args,argTypes}).operands:=by
      simp only[Op.operands,Call.operands,aaE];right;rw[<-aaT,B];simp
     have J:y∈(Op.call {callee:=.builtin .max,args,argTypes}).operands:=by
      simp only[Op.operands,Call.operands,aaE];right;rw[<-aaT,B];simp
     rw[a x l,a y J]
    rfl
   all_goals simp only[gA]
  |value f=>simp only[gA]|invoke r m=>simp only[gA]
 |_=>simp only[gA]
def fD(val:Operand->V):Op->Option (Nat×List V)
 |.call {callee:=.value f,args,..}=>match val f with|.fn g a=>some (g,args.toList.map val++a)|.bfn g a=>some (g,a++args.toList.map val)|.pv (.fnc g)=>some (g,args.toList.map val)|_=>none
 |_=>none
def XY{val a:Operand->V}{op:Op}(b:∀x∈op.operands,val x=a x):fD val op=fD a op:=by
 unfold fD;split
 ·rename_i f args c;rw[b f (by simp[Op.operands,Call.operands])];have:args.toList.map val=args.toList.map a:=aak λx d=>b x (by simp only[Op.operands,Call.operands,aaE];simp_all)
  rw[this]
 rfl
structure Env1 where
 P:Program
 T:Nat->Option TI
 gl:Nat->Option (List PV)
 nm:List (Nat×xC)
 nt:Nat
 given:List Nat
 ok:KB P T
 mix:P.follows .mixedOrders=true
def Ag:List (Nat×xC)->Nat->xC|[],_=>.none|(k,x)::r,t=>if k=t then x else Ag r t
def jt(l:List (Nat×xC))(a:Option Nat):xC:=match a with|some d=>Ag l d|none=>.none
def Env1.note(X:Env1)(a:Option Nat):xC:=jt X.nm a
def R.eff(r:R)(rd:List Nat):Eff:=
 ⟨r.out,match r.wr with|some (n,o)=>[(n,some o)]|none=>[],match r.wr,r.new with|some (n,_),true=>[n]|_,_=>[],rd⟩
def Bg(σ:St)(a:Option Nat)(r:R)(rd:List Nat):σ.app a r=σ.eff a (r.eff rd):=by
 have⟨c,f,x,b,d⟩:=r
 cases b with
 |none=>rfl|some p=>
  cases d<;>rfl
def bP(x y:V):Prop:=(∀E v,RepV E x v->RepV E y v)/\∀n∈y.names,n∈x.names
inductive OpW(X:Env1)(o:Oper)(σ:St):Eff->Prop where
 |step (note:xC) (r:R) (hs:gA X.T note (σ.val X.gl) (jA σ.objs) o.dst o.op=some r) (hc:r.cond) (hn:∀n∈(r.eff []).nw,n∉σ.used):OpW X o σ (r.eff (wF (σ.val X.gl) o.op))|call (f:Nat) (args:List V) (objs:List (Nat×Ob)) (x:V) (objs':List (Nat×Ob)) (hf:fD (σ.val X.gl) o.op=some (f,args)) (hac:AC X.P X.gl f args objs (.ret x) objs')
   (hsub:xB objs σ.objs) (hn:∀n∈(dD x objs objs').nw,n∉σ.used):OpW X o σ (dD x objs objs')
 |callR (f:Nat) (args:List V) (ro objs:List (Nat×Ob)) (x:V) (objs':List (Nat×Ob)) (hf:fD (σ.val X.gl) o.op=some (f,args)) (hac:AC X.P X.gl f args (ro++objs) (.ret x) (ro++objs'))
   (hro:∀n∈kA ro,n∉kA objs/\n∉kA objs') (hsub:xB (ro++objs) σ.objs) (hn:∀n∈(gL x ro objs objs').nw,n∉σ.used):OpW X o σ (gL x ro objs objs')
 |weak {x:V} {wr:List (Nat×Option Ob)} {nw rd:List Nat} (y:V) (h:OpW X o σ ⟨x,wr,nw,rd⟩) (hx:bP x y):OpW X o σ ⟨y,wr,nw,rd⟩
theorem CU(a b:List (Nat×Ob))(k:Nat):jA (a++b) k=match jA a k with|some o=>some o|none=>jA b k:=by
 induction a with
 |nil=>rfl|cons p r c=>
  simp only[aau,jA,c];split<;>rfl
def Ga.congrO{C:Ctx}{E:Env}{s:List (Nat×V)}{O O':List (Nat×Ob)}{u:List Nat}{a:Act}{w:World}(h:Ga C E ⟨s,O,u⟩ a w)(d:∀n,jA O' n=jA O n):Ga C E ⟨s,O',u⟩ a w:=
 ⟨h.slots,h.size,h.defers,h.heap,λn o c=>h.objs n o (by rw[<-d];exact c),λn m o e c f=>h.apart n m o e (by rw[<-d];exact c) (by rw[<-d];exact f),h.usedS,λn o c=>h.usedO n o (by rw[<-d];exact c),h.usedG,h.grown,h.rest,h.same,h.hle,
  λn o b c=>h.own n o b (by rw[<-d];exact c),h.ext,λn c=>⟨(h.keep n c).1,(d n).trans (h.keep n c).2.1,(h.keep n c).2.2⟩⟩
def Cg{x:V}{c b a:List (Nat×Ob)}(f:∀n∈kA c,n∉kA b/\n∉kA a):(gL x c b a).nw=(dD x (c++b) (c++a)).nw:=by
 have:∀{l:List (Nat×Ob)}{n:Nat},n∉kA l->jA l n=none:=by
  intro l n g
  cases e:jA l n with|none=>rfl|some o=>grind[absurd,JC]
 simp only[gL,dD];have:(kA c).filter (λn=>(jA (c++b) n).isNone)=[]:=by
  rw[List.filter_eq_nil_iff]
  grind[bI,CU]
 grind[List.filter_congr,kA,CU]
def wt{l:List (Nat×Ob)}{c a b:List (Nat×Ob)}(g:∀n∈kA c,n∉kA a/\n∉kA b)(f:xB (c++a) l)(n:Nat):jA (XF l (eH a b)) n=jA (XF l (eH (c++a) (c++b))) n:=by
 have:∀{l:List (Nat×Ob)}{n:Nat},n∉kA l->jA l n=none:=by
  intro l n i
  cases e:jA l n with|none=>rfl|some o=>grind[absurd,JC]
 rw[RI,RI,CU];have:kA (c++a)=kA c++kA a:=by simp[kA]
 by_cases h:n∈kA c
 ·have⟨o,k⟩:=bI h
  grind[dL,CU]
 simp_all
structure yt(X:Env1)(o:Oper)(e:Eff)(σ σ':St):Prop where
 val:∀x∈o.op.operands,σ.val X.gl x=σ'.val X.gl x
 ob:∀n∈e.rd,jA σ.objs n=jA σ'.objs n
 new:∀n∈e.nw,n∉σ'.used
def OpW.congr{X:Env1}{o:Oper}{σ σ':St}{e:Eff}(h:OpW X o σ e)(b:yt X o e σ σ'):OpW X o σ' e:=by
 induction h with
 |step note r t u p=>
  have k:wF (σ.val X.gl) o.op=wF (σ'.val X.gl) o.op:=by
   unfold wF;have:o.op.operands.toList.map (σ.val X.gl)=o.op.operands.toList.map (σ'.val X.gl):=aak λx s=>b.val x bS
   rw[this]
  have j:=t;rw[Zs b.val b.ob]at j;rw[k];refine .step note r j u ?_;intro n g;exact b.new n g
 |call f args c x a l i d p=>
  refine .call f args c x a (by rw[<-XY b.val];exact l) i ?_ b.new;exact UY (λn g=>b.ob n g) d
 |callR f args v c x a l i m d p=>
  refine .callR f args v c x a (by rw[<-XY b.val];exact l) i m ?_ b.new;refine UY (λn g=>b.ob n ?_) d
  grind[gL,kA]
 |weak y h s w=>exact .weak y (w ⟨b.val,b.ob,b.new⟩) s
def YY{P:Program}{E:Env}{a:Act}{w:World}{o:Oper}{gl:Nat->Option (List PV)}{σ:St}{C:Ctx}(h:Ga C E σ a w)(F:GOK gl C.E0.H){f:Nat}{args:List V}(u:fD (σ.val gl) o.op=some (f,args))(p:BU P f):
  ∃G:List Value,G.length=args.length/\RepVL E args G/\(execOp a.eval o).run P w=.ok (.enter f G.toArray) w/\∀n∈GA args,n∈σ.used:=by
 unfold fD at u;split at u
 ·rename_i A as K H;split at u
  ·rename_i g B v;cases u;have j:=UA h F A;rw[v]at j;simp only[RepV]at j;have⟨I,j,y,z⟩:=j;have⟨fn,r,k,i⟩:=p;have d:RepVL E (as.toList.map (σ.val gl)) (as.toList.map a.eval):=by
    have:∀l:List Operand,RepVL E (l.map (σ.val gl)) (l.map a.eval):=by
     intro l
     induction l with
     |nil=>simp[RepVL]
     |cons x l J=>grind[RepVL,UA]
    simp_all
   have s:∀n∈GA (as.toList.map (σ.val gl)++B),n∈σ.used:=by
    intro n t;have⟨c,m,t⟩:=mem_namesL.1 t;rcases eh.1 m with m|m
    ·obtain⟨x,_,rfl⟩:=iy.1 m
     grind[TC]
    ·refine TC (gl:=gl) h A n ?_;rw[v];simp only[V.names];exact mem_namesL.2 ⟨c,m,t⟩
   refine⟨as.toList.map a.eval++I,by simp[y],RepVL.append a8 d z,?_,s⟩;have D:¬fn.body=none:=c5
   have b:¬fn.name= "runtime.NumGoroutine" :=bS
   simp[execOp,H,resolve,j,Deferred.ofValue,invoke,callFunc,r,b,D]
  ·rename_i g L v;cases u;have j:=UA h F A;rw[v]at j;simp only[RepV]at j;have⟨I,j,y,z⟩:=j;have⟨fn,r,k,i⟩:=p;have d:RepVL E (as.toList.map (σ.val gl)) (as.toList.map a.eval):=by
    have:∀l:List Operand,RepVL E (l.map (σ.val gl)) (l.map a.eval):=by
     intro l
     induction l with
     |nil=>simp[RepVL]
     |cons x l J=>grind[RepVL,UA]
    simp_all
   have s:∀n∈GA (L++as.toList.map (σ.val gl)),n∈σ.used:=by
    intro n t;have⟨c,m,t⟩:=mem_namesL.1 t;rcases eh.1 m with m|m
    ·refine TC (gl:=gl) h A n ?_;rw[v];simp only[V.names];exact mem_namesL.2 ⟨c,m,t⟩
    ·obtain⟨x,_,rfl⟩:=iy.1 m
     grind[TC]
   refine⟨I++as.toList.map a.eval,by simp[y],RepVL.append a6 z d,?_,s⟩;have D:¬fn.body=none:=c5
   have b:¬fn.name= "runtime.NumGoroutine" :=bS
   simp[execOp,H,resolve,j,Deferred.ofValue,invoke,callFunc,r,b,D]
  ·rename_i g v;cases u;have j:=UA h F A;rw[v]at j;simp only[RepV,RepP]at j;have⟨fn,r,k,i⟩:=p;have d:RepVL E (as.toList.map (σ.val gl)) (as.toList.map a.eval):=by
    have:∀l:List Operand,RepVL E (l.map (σ.val gl)) (l.map a.eval):=by
     intro l
     induction l with
     |nil=>simp[RepVL]
     |cons x l J=>simp only[gF,RepVL];exact⟨UA h F x,J⟩
    exact this _
   have s:∀n∈GA (as.toList.map (σ.val gl)),n∈σ.used:=by
    intro n t;have⟨c,m,t⟩:=mem_namesL.1 t;obtain⟨x,_,rfl⟩:=iy.1 m;exact TC h x n t
   refine⟨as.toList.map a.eval,a8,d,?_,s⟩;have D:¬fn.body=none:=by intro e;rw[e]at i;cases i
   have b:¬fn.name= "runtime.NumGoroutine" :=by simpa using k
   simp[execOp,H,resolve,j,Deferred.ofValue,invoke,callFunc,r,b,D];apply Array.ext';simp
  ·cases u
 ·cases u
def ZY{C:Ctx}{E:Env}{σ:St}{a:Act}{w:World}(h:Ga C E σ a w){args:List V}{b:List (Nat×Ob)}(f:∀n∈GA args,n∈σ.used)(d:xB b σ.objs):∀n∈aF args b,n∈σ.used:=by
 intro n c;rcases eh.1 c with c|c
 ·simp_all
 have⟨m,o,e,c⟩:=Ks d c;exact(h.usedO m o e).2 n c
theorem OpW.sound_call{X:Env1}{o:Oper}{σ:St}{f:Nat}{args:List V}{b:List (Nat×Ob)}{x:V}{g:List (Nat×Ob)}(B:fD (σ.val X.gl) o.op=some (f,args))(h:AC X.P X.gl f args b (.ret x) g)(c:xB b σ.objs)(l:∀n∈(dD x b g).nw,n∉σ.used)
  {C:Ctx} {E:Env} {a:Act} {w:World} (y:GOK X.gl C.E0.H) (i:Ga C E σ a w) (D:∀d,o.dst=some d->d<C.nt)
  {K:Act->World->Prop} {Q:Exit->Act->World->Prop} (F:∀r z s,Ga C r (σ.eff o.dst (dD x b g)) z s->K z s):o.wp X.P a w K Q:=by
 have⟨G,H,I,p,t⟩:=YY i y B h.direct;have j:=c;have c:=dL c;unfold Oper.wp;rw[p];have k:QI X.gl E w b:=⟨i.heap,y.mono i.hle,λn o l=>i.objs n o (c n o l),λn m o A l J=>i.apart n m o A (c n o l) (c m A J)⟩;refine(h.calls E w G k H I).mono ?_
 rintro N s ⟨r,L,v,rfl,M⟩
 refine F r _ _ (i.called L c ?_ (ZY i t j) h.namesO M h.names D);intro n u;by_cases O:n∈kA b
 ·simp_all
 right;refine l n ?_;simp only[dD,k6];refine⟨u,?_⟩
 cases e:jA b n with|none=>rfl|some o=>grind[absurd,JC]
theorem DU(d:Option Nat)(x:V)(l:List (Nat×V))(t:Nat):OA (cD d x l) t=if d=some t then x else OA l t:=by
 cases d with
 |none=>rfl|some d=>
  simp only[cD,OA];by_cases e:d=t
  ·simp
  rw[e9 e,e9 (λh=>e (by cases h;rfl))]
def Ga.weakS{C:Ctx}{E:Env}{σ:St}{d:Option Nat}{x y:V}{f:List (Nat×Option Ob)}{g rd:List Nat}{a:Act}{w:World}(h:Ga C E (σ.eff d ⟨x,f,g,rd⟩) a w)(i:bP x y):Ga C E (σ.eff d ⟨y,f,g,rd⟩) a w:=by
 refine⟨λt=>?_,h.size,h.defers,h.heap,h.objs,h.apart,λt n c=>?_,h.usedO,h.usedG,h.grown,h.rest,h.same,h.hle,h.own,h.ext,h.keep⟩
 ·have b:=h.slots t;simp only[St.eff,DU]at b⊢;split
  ·rename_i e;rw[gm e]at b;exact i.1 _ _ b
  simp_all
 have b:=h.usedS t;simp only[St.eff,DU]at b c;split at c
 ·rename_i e;rw[gm e]at b;exact b n (i.2 n c)
 rename_i e;rw[e9 e]at b;exact b n c
def OpW.sound{X:Env1}{o:Oper}{σ:St}{e:Eff}(h:OpW X o σ e)(F:KB X.P X.T){C:Ctx}{E:Env}{a:Act}{w:World}(z:GOK X.gl C.E0.H)(A:Ga C E σ a w)(B:∀d,o.dst=some d->d<C.nt)
  {K:Act->World->Prop} {Q:Exit->Act->World->Prop} (t:∀j l k,Ga C j (σ.eff o.dst e) l k->K l k):o.wp X.P a w K Q:=by
 induction h with
 |step note r G H u=>
  have⟨v,k,j,m,b,_⟩:=SY F z A B G H (by
   grind[R.eff])
  rw[Bg σ o.dst r (wF (σ.val X.gl) o.op)]at b;exact m.wp (t j _ _ b)
 |call f args i x c D n g u=>grind[OpW.sound_call]|callR f args L i x c D n p g u=>
  have s:=Cg (x:=x) p;refine OpW.sound_call D n g (by rw[<-s];exact u) z A B ?_;intro j l k b;refine t j l k ?_;have:=b.congrO (O':=XF σ.objs (eH i c)) (wt p g);rw[<-s]at this;exact this
 |weak y h I J=>exact J λj l k b=>t j l k (b.weakS I)
def eF:Eff:=⟨.pv (.tuple []),[],[],[]⟩
def Eff.wn(e:Eff):List Nat:=e.wr.map (·.1)
def LA(S:Nat->Bool):Nat->List (Option Nat×Eff)->St->St|_,[],σ=>σ|k,(d,e)::r,σ=>LA S (k+1) r (if S k then σ.eff d e else σ)
theorem cN(a:Option Nat)(x:V)(l:List (Nat×V))(t:Nat):OA (cD a x l) t=if a=some t then x else OA l t:=by
 cases a with|none=>simp[cD]|some d=>simp[cD,OA]
theorem AR{S S':Nat->Bool}(t:Nat):∀(l:List (Option Nat×Eff))(k:Nat)(σ σ':St),(∀i d e,l[i]? =some (d,e)->d=some t->S (k+i)=S' (k+i))->OA σ.slots t=OA σ'.slots t->
  OA (LA S k l σ).slots t=OA (LA S' k l σ').slots t
 |[],_,_,_,_,h=>h|(d,e)::r,k,σ,σ',b,h=>by
  simp only[LA];refine AR t r (k+1) _ _ (λi c f g a=>by have:=b (i+1) c f (by simpa using g) a;rwa[show k+(i+1)=k+1+i by omega]at this) ?_;have c:=b 0 d e rfl;simp only[ir]at c;by_cases a:d=some t
  ·have b:=c a;rw[b];split
   ·simp[St.eff,cN,a]
   exact h
  have b:∀s:St,OA (if S k then s.eff d e else s).slots t=OA s.slots t:=by
   intro s;split<;>simp[St.eff,cN,a]
  have c:∀s:St,OA (if S' k then s.eff d e else s).slots t=OA s.slots t:=by
   intro s;split<;>simp[St.eff,cN,a]
  rw[b,c,h]
def Dg{wr:List (Nat×Option Ob)}{n:Nat}(h:n∉wr.map (·.1)):bD wr n=none:=by
 induction wr with
 |nil=>rfl|cons p r a=>
  grind[bD]
theorem BR{S S':Nat->Bool}(n:Nat):∀(l:List (Option Nat×Eff))(k:Nat)(σ σ':St),(∀i d e,l[i]? =some (d,e)->n∈e.wn->S (k+i)=S' (k+i))->jA σ.objs n=jA σ'.objs n->
  jA (LA S k l σ).objs n=jA (LA S' k l σ').objs n
 |[],_,_,_,_,h=>h|(d,e)::r,k,σ,σ',a,h=>by
  simp only[LA];refine BR n r (k+1) _ _ (λi c f g b=>by have:=a (i+1) c f (by simpa using g) b;rwa[show k+(i+1)=k+1+i by omega]at this) ?_;have c:=a 0 d e rfl;simp only[ir]at c;by_cases b:n∈e.wn
  ·have a:=c b;rw[a];split
   ·simp only[St.eff,fL,h]
   exact h
  have a:=Dg (wr:=e.wr) b;have b:∀s:St,jA (if S k then s.eff d e else s).objs n=jA s.objs n:=by
   intro s;split<;>simp[St.eff,fL,a]
  have c:∀s:St,jA (if S' k then s.eff d e else s).objs n=jA s.objs n:=by
   intro s;split<;>simp[St.eff,fL,a]
  rw[b,c,h]
def eN{S:Nat->Bool}(n:Nat):∀(l:List (Option Nat×Eff))(k:Nat)(σ:St),n∈(LA S k l σ).used↔n∈σ.used\/∃i d e,l[i]? =some (d,e)/\S (k+i)=true/\n∈e.nw
 |[],_,σ=>by simp[LA]|(d,e)::r,k,σ=>by
  simp only[LA];rw[eN n r (k+1)];constructor
  ·rintro(h|⟨i,b,c,g,a,f⟩)
   ·by_cases a:S k=true
    ·simp only[a,if_true,St.eff,eh]at h;rcases h with h|h
     ·exact .inr ⟨0,d,e,rfl,a6,h⟩
     simp_all
    simp_all
   exact .inr ⟨i+1,b,c,bS,by rwa[show k+(i+1)=k+1+i by omega],f⟩
  rintro(h|⟨i,b,c,g,a,f⟩)
  ·grind[St.eff]
  cases i with
  |zero=>
   grind[St.eff]
  |succ i=>grind
def abE:=@Bool.true_or
def Eg{S:Nat->Bool}(t:Nat):∀(l:List (Option Nat×Eff))(k i:Nat)(d:Option Nat)(e:Eff)(σ:St),l[i]? =some (d,e)->S (k+i)=false->
  (d=some t->∀j a b,i<j->l[j]? =some (a,b)->S (k+j)=true->a≠some t)->
  OA (LA (λm=>m==k+i||S m) k l σ).slots t=if d=some t then e.x else OA (LA S k l σ).slots t
 |[],_,_,_,_,_,c,_,_=>by simp at c|(g,h)::r,k,0,d,e,σ,c,o,n=>by
  obtain⟨rfl,rfl⟩:=c;simp only[LA,ir,beq_self_eq_true,abE,if_true,o];by_cases f:g=some t
  ·rw[AR (S':=λ_=>false) t r (k+1) _ (σ.eff g h) ?_ (by rw[f])]
   ·have u:∀(r:List (Option Nat×Eff))(k:Nat)(s:St),LA (λ_=>false) k r s=s:=by
     intro r;induction r with|nil=>intro k s;rfl|cons p r z=>grind[LA]
    rw[u];simp[St.eff,cN,f]
   intro i a b c v;have:=n f (i+1) a b a6 bS
   grind
  grind[AR,St.eff,cN]
 |(g,h)::r,k,i+1,d,e,σ,c,o,n=>by
  simp only[LA];have w:(k==k+(i+1))=false:=a8
  simp only[w,Bool.false_or];have:=Eg (S:=S) t r (k+1) i d e (if S k then σ.eff g h else σ) bS (by rwa[show k+1+i=k+(i+1) by omega]) (λf j a b A x y=>n f (j+1) a b a6 bS (by rwa[show k+(j+1)=k+1+j by omega]));rw[show k+(i+1)=k+1+i by omega];exact this
def aat:=@List.getElem?_cons_zero
def Fg{S:Nat->Bool}(n:Nat):∀(l:List (Option Nat×Eff))(k i:Nat)(d:Option Nat)(e:Eff)(σ:St),l[i]? =some (d,e)->S (k+i)=false->
  (n∈e.wn->∀j f a,i<j->l[j]? =some (f,a)->S (k+j)=true->n∉a.wn)->
  jA (LA (λm=>m==k+i||S m) k l σ).objs n=match bD e.wr n with|some o=>o|none=>jA (LA S k l σ).objs n
 |[],_,_,_,_,_,b,_,_=>by simp at b|(h,c)::r,k,0,d,e,σ,b,t,u=>by
  simp only[aat,e5,aaQ]at b;obtain⟨rfl,rfl⟩:=b;simp only[ir]at t;simp only[LA,ir,beq_self_eq_true,abE,if_true,t];by_cases g:n∈c.wn
  ·rw[BR (S':=λ_=>false) n r (k+1) _ (σ.eff h c) ?_ rfl]
   ·have v:∀(r:List (Option Nat×Eff))(k:Nat)(s:St),LA (λ_=>false) k r s=s:=by
     intro r;induction r with|nil=>intro k s;rfl|cons p r w=>grind[LA]
    rw[v];simp only[St.eff,fL];have:∃o,bD c.wr n=some o:=by
     have key:∀wr:List (Nat×Option Ob),n∈wr.map (·.1)->∃o,bD wr n=some o:=by
      intro wr
      induction wr with
      |nil=>simp|cons p r w=>
       simp only[bD]
       cases D:bD r n with
       |some x=>simp|none=>
        simp_all
     exact key _ g
    grind
   intro i f a b y;have:=u g (i+1) f a a6 bS
   grind
  have z:=Dg (wr:=c.wr) g
  grind[BR,St.eff,fL]
 |(h,c)::r,k,i+1,d,e,σ,b,t,u=>by
  simp only[LA];have A:(k==k+(i+1))=false:=a8
  simp only[A,Bool.false_or];have:=Fg (S:=S) n r (k+1) i d e (if S k then σ.eff h c else σ) bS (by rwa[show k+1+i=k+(i+1) by omega]) (λg j f a E B C=>u g (j+1) f a a6 bS (by rwa[show k+(j+1)=k+1+j by omega]));rw[show k+(i+1)=k+1+i by omega];exact this
def Ga.of_ext{C:Ctx}{E:Env}{σ σ':St}{a:Act}{w:World}(h:Ga C E σ a w)(g:∀t,OA σ'.slots t=OA σ.slots t)(d:∀n,jA σ'.objs n=jA σ.objs n)(e:∀n,n∈σ.used->n∈σ'.used):Ga C E σ' a w:=
 ⟨λt=>by rw[g];exact h.slots t,h.size,⟨h.defers.1,λn c=>e n (h.defers.2 n c)⟩,h.heap,λn o c=>h.objs n o (by rwa[d]at c),λn m o i c f=>h.apart n m o i (by rwa[d]at c) (by rwa[d]at f),
  λt n c=>e n (h.usedS t n (by rwa[g]at c)),λn o c=>⟨e n (h.usedO n o (by rwa[d]at c)).1,λm f=>e m ((h.usedO n o (by rwa[d]at c)).2 m f)⟩,λn o c=>e n (h.usedG n o c),
  h.grown,h.rest,h.same,h.hle,λn o b c=>h.own n o b (by rwa[d]at c),h.ext,
  λn c=>⟨e n (h.keep n c).1,by rw[d];exact(h.keep n c).2.1,(h.keep n c).2.2⟩⟩
def gv(a:List Oper)(σ:St)(j:Nat):V:=match a[j]? with
 |some o=>match o.dst with|some d=>OA σ.slots d|none=>.undef
 |none=>.undef
def qZ(X:Env1)(a:Option Nat):Prop:=match a with|some d=>d<X.nt|none=>True
def Gg(o:Option R)(K:R->Prop):Prop:=match o with|some r=>K r|none=>False
def ot(X:Env1)(d:Bool)(h:PV->St->Prop)(f:Nat)(args:List V)(σ:St)(next:Eff->Prop):Prop:=
 ∃b out a,AC X.P X.gl f args b out a/\xB b σ.objs/\uP ((kA a).filter (λn=>(jA b n).isNone)) σ.used/\
   match out with|.ret x=>next (dD x b a)\/∃e g c,b=e++g/\a=e++c/\(∀n∈kA e,n∉kA g/\n∉kA c)/\next (gL x e g c)|.panic p=>d=false/\h p (σ.eff none (dD .undef b a))
def zZ(c:Option (Nat×List V))(yes:Nat->List V->Prop)(no:Prop):Prop:=match c with|some (f,args)=>yes f args|none=>no
def jZ(x:V)(Q:PV->Prop):Prop:=match x with|.pv (.iface t p)=>Q (.iface t p)|_=>False
def DR(X:Env1)(a:Bool)(b:PV->St->Prop)(o:Oper)(σ:St)(next:Eff->Prop):Prop:=
 zZ (fD (σ.val X.gl) o.op) (λf args=>ot X a b f args σ next)
  (match o.op with
  |.panic x=>jZ (σ.val X.gl x) (λp=>a=false/\b p σ)|op=>Gg (gA X.T (X.note o.dst) (σ.val X.gl) (jA σ.objs) o.dst op) λr=>
    r.cond/\uP (r.eff []).nw σ.used/\((a=false->r.fact)->next (r.eff (wF (σ.val X.gl) op))))
def EU{C:Ctx}{E:Env}{σ:St}{a:Act}{w:World}(h:Ga C E σ a w){b:Option Nat}(c:∀d,b=some d->d<C.nt):Ga C E (σ.eff b eF) (a.put b undef) w:=by
 have:=h.pure E.H b (.pv (.tuple [])) undef (Hle.refl _) (e6 _) ⟨rfl,rfl,rfl⟩ (λ_ _=>⟨rfl,rfl⟩) h.heap (by exact⟨[],rfl,rfl,by simp[RepL]⟩) b0 c;exact this
def Ig{C:Ctx}{E:Env}{σ:St}{a:Act}{w:World}{c:List Oper}(h:Ga C E σ a w){j:Nat}(b:gv c σ j=.pv (.tuple [])):yielded c.toArray a.tmps j=none:=by
 unfold gv at b;split at b
 ·rename_i o g;split at b
  ·rename_i d i;have k:=h.slots d;rw[b]at k;have⟨l,f,m,_⟩:=k;rw[ib]at f
   cases e:a.tmps[d]? with
   |none=>simp[yielded,g,i,e]|some v=>
    rw[e]at f;subst f;simp[yielded,g,i,e]
  cases b
 cases b
def vZ{C:Ctx}{E:Env}{σ:St}{a:Act}{w:World}{g:List Oper}(h:Ga C E σ a w){j:Nat}{b:Bool}(c:gv g σ j=.pv (.bool b)):yielded g.toArray a.tmps j=some b:=by
 unfold gv at c;split at c
 ·rename_i o i;split at c
  ·rename_i d k;have f:=h.slots d;rw[c]at f;have f:=cH f;have l:a.tmps[d]? =some (.bool b):=by
    rw[ib]at f
    cases e:a.tmps[d]? with|none=>rw[e]at f;simp[undef]at f|some v=>simp_all
   simp[yielded,i,k,l]
  cases c
 cases c
def At{P:Program}{w:World}{t:Nat}{v:Value}:(Instr.panic (.iface t v)).run P w=.halt (.panic (.iface t v)) w:=by
 rfl
section
variable{X:Env1}{C:Ctx}
def Bt(N:KB X.P X.T)(G:GOK X.gl C.E0.H){Qp:PV->St->Prop}{Q:Exit->Act->World->Prop}{K:Act->World->Prop}{o:Oper}{σ:St}{next:Eff->Prop}{E:Env}{a:Act}{w:World}(l:Ga C E σ a w)(O:∀d,o.dst=some d->d<C.nt)
  (P:∀e y H z,next e->Ga C y (σ.eff o.dst e) H z->K H z)
  (hQ:∀E σ p v a w,Ga C E σ a w->Qp p σ->RepP E.H p v->Q (.panic [{v,recovered:=false}]) a w) (h:DR X false Qp o σ next):o.wp X.P a w K Q:=by
 unfold DR zZ at h;split at h
 ·rename_i f args S;have⟨j,out,A,s,c,i,b⟩:=h;have k:=dL c;have i:=TY i
  cases out with
  |ret x=>
   simp only at b;rcases b with b|⟨ro,o1,T,rfl,rfl,I,b⟩
   ·exact(OpW.call (X:=X) f args j x A S s c i).sound N G l O (λy H z g=>P _ y H z b g)
   exact(OpW.callR (X:=X) f args ro o1 x T S s I c (by rw[Cg I];exact i)).sound N G l O (λy H z g=>P _ y H z b g)
  |panic p=>
   simp only at b;have⟨vs,hl,U,J,W⟩:=YY l G S s.direct;unfold Oper.wp;rw[J];simp only[Oper.upon];have B:QI X.gl E w j:=⟨l.heap,G.mono l.hle,λn o Y=>l.objs n o (k n o Y),λn m o o' Y hm=>l.apart n m o o' (k n o Y) (k m o' hm)⟩;refine(s.calls E w vs B hl U).mono ?_
   rintro e' z ⟨y,hD,v,rfl,Z⟩
   have g:=l.called (dst:=none) (x:=.undef) (v:=undef) hD k (by
    intro n hn';by_cases hk:n∈kA j
    ·simp_all
    right;refine i n ?_;simp only[k6];refine⟨hn',?_⟩
    cases e:jA j n with|none=>rfl|some o=>grind[absurd,JC]) (ZY l W c) s.namesO aaa b0 a8
   exact hQ y _ p v a z g b.2 Z
 split at h
 ·rename_i x hx;unfold jZ at h;split at h
  ·rename_i t p Z;have hr:=UA l G x;rw[Z]at hr;have hr':=hr;have⟨u,hu,hru⟩:=hr;unfold Oper.wp;have:(execOp a.eval o).run X.P w=.halt (.panic (.iface t u)) w:=by
    simp[execOp,hx,hu,At]
   simp only[Oper.upon]
   grind[RepV]
  cases h
 unfold Gg at h;split at h
 ·rename_i r hs;have⟨hc,i,D⟩:=h;have⟨v,z,y,L,g,F⟩:=SY N G l O hs hc (by
   intro n x hw M;refine TY i n ?_;simp[R.eff,hw,M])
  rw[Bg σ o.dst r (wF (σ.val X.gl) o.op)]at g;exact L.wp (P _ y _ _ (D (λ_=>F)) g)
 cases h
end
def iH(o:Oper):List Nat:=(o.after.toList.filter (Region.binds .any)).map (·.on)
def wZ(a:List Nat)(l:List Nat):Nat:=l.foldl (λm i=>m|||(1<<<i)|||a.getD i 0) 0
def kF:List Oper->List Nat->List Nat|[],a=>a|o::r,a=>kF r (a++[wZ a (iH o)])
def bE(a:Array Oper)(e:Oper)(f:Eff)(b:Oper)(c:Eff):Bool:=
 (match e.dst with|some d=>(b.looksAt a).contains d||b.dst==some d|none=>false)||
 (match b.dst with|some d=>(e.looksAt a).contains d|none=>false)||
 f.wn.any (λn=>c.rd.contains n||c.wn.contains n)||c.wn.any (λn=>f.rd.contains n)
def iN(a:List Oper)(b:List Eff):Bool:=
 (List.range a.length).all λj=>match a[j]?,b[j]? with
  |some c,some d=>(iH c).all (λi=>decide (i<j))&&(List.range j).all λi=>match a[i]?,b[i]? with|some b,some e=> !bE a.toArray b e c d||((kF a []).getD j 0).testBit i|_,_=>false
  |_,_=>false
def aax:=@Bool.or_eq_true
def Jg(a:List Nat)(i:Nat):∀(l:List Nat)(m:Nat),(l.foldl (λm i=>m|||(1<<<i)|||a.getD i 0) m).testBit i=true->m.testBit i=true\/∃d∈l,d=i\/(a.getD d 0).testBit i=true
 |[],m,h=>.inl h|d::l,m,h=>by
  rcases Jg a i l _ h with h|⟨e,b,h⟩
  ·simp only[Nat.testBit_or,aax]at h;rcases h with (h|h)|h
   ·exact .inl h
   ·right;refine⟨d,a8,.inl ?_⟩;simp only[Nat.testBit_shiftLeft,hP,decide_eq_true_eq]at h;have⟨g,c⟩:=h;have:i-d=0:=by
     cases f:i-d with|zero=>rfl|succ k=>rw[f]at c;simp[Nat.testBit_succ]at c
    omega
   exact .inr ⟨d,a8,.inr h⟩
  exact .inr ⟨e,by simp[b],h⟩
theorem kZ:∀(l:List Oper)(a:List Nat)(j:Nat),j<a.length->(kF l a)[j]? =a[j]?
 |[],_,_,_=>rfl|o::r,a,j,h=>by
  simp only[kF];rw[kZ r _ j a9,aag h]
def Kg:∀(l:List Oper)(a:List Nat)(i:Nat)(o:Oper),l[i]? =some o->∃b,(kF l a)[a.length+i]? =some (wZ b (iH o))/\∀d,(b.getD d 0=0\/b.getD d 0=(kF l a).getD d 0)
 |[],_,_,_,h=>by simp at h|c::r,a,0,o,h=>by
  simp only[aat,e5]at h;subst h;simp only[kF];refine⟨a,?_,λd=>?_⟩
  ·rw[kZ r _ _ a8];simp
  grind[kZ]
 |c::r,a,i+1,o,h=>by
  simp only[kF];have:=Kg r (a++[wZ a (iH c)]) i o bS
  grind
def VJ(X:Env1)(c:List Oper)(o:Oper)(σ:St)(e:Eff):Prop:=
 qZ X o.dst/\((o.guard=none/\OpW X o σ e)\/(∃j a b,o.guard=some (j,a)/\gv c σ j=.pv (.bool b)/\((b=a/\OpW X o σ e)\/(b≠a/\e=eF)))\/∃j a,o.guard=some (j,a)/\gv c σ j=.pv (.tuple [])/\e=eF)
def xN(X:Env1)(a:List Oper):List Oper->List Eff->St->Prop|[],[],_=>True|o::l,e::b,σ=>VJ X a o σ e/\xN X a l b (σ.eff o.dst e)|_,_,_=>False
def uB(l:List Oper)(a:List Eff):List (Option Nat×Eff):=(l.map (·.dst)).zip a
def Mg{X:Env1}{b:List Oper}:∀(l:List Oper)(a:List Eff)(k:Nat)(σ:St),xN X b l a σ->∀i o e,l[i]? =some o->a[i]? =some e->
  VJ X b o (LA (λm=>decide (m<k+i)) k (uB l a) σ) e
 |[],_,_,_,_,i,o,e,h,_=>by simp at h|f::l,[],_,_,h,_,_,_,_,_=>by simp_all|f::l,g::a,k,σ,h,0,o,e,c,d=>by
  simp only[aat,e5]at c d;subst c d;have n:∀(l:List (Option Nat×Eff))(j:Nat)(s:St),k<=j->LA (λm=>decide (m<k+0)) j l s=s:=by
   intro l
   induction l with
   |nil=>intro j s _;rfl|cons p r t=>
    grind[LA,decide_false]
  rw[n _ k σ (e6 _)];exact h.1
 |f::l,g::a,k,σ,h,i+1,o,e,c,d=>by
  have:=Mg l a (k+1) _ h.2 i o e bS bS
  grind[uB,List.zip_cons_cons,LA]
def Ct:∀(l:List Bool)(i:Nat),l[i]? =some false->(l.set i true).count false+1=l.count false
 :=c5
section
variable{X:Env1}{C:Ctx}
def aaC:=@Option.map_eq_some_iff
def aaG:=@List.getElem?_toArray
def aaP:=@decide_eq_false
def aaq:=@Array.getElem?_eq_getElem
def aav:=@List.all_eq_true
def abC:=@Nat.lt_trichotomy
def abF:=@Nat.le_of_not_lt
def abG:=@List.any_eq_true
def abm:=@Option.getD_some
def abv:=@Bool.and_false
def abz:=@Bool.true_and
def Ng(hT:KB X.P X.T)(hg:GOK X.gl C.E0.H)(hnt:C.nt=X.nt){c:List Oper}{B:List Eff}{σ:St}{Q:Exit->Act->World->Prop}(hlen:B.length=c.length){L:Nat->Bool}{jp:Nat}
  (hL:∀i o,c[i]? =some o->(L i=true↔i≠jp/\∀d∈iH o,L d=true))
  (htext:∀i o e,L i=true->c[i]? =some o->B[i]? =some e->VJ X c o (LA (λm=>L m&&decide (m<i)) 0 (uB c B) σ) e) (Z:iN c B=true)
  (hQ:c.length<=jp->∀E a w,Ga C E (LA (λ_=>true) 0 (uB c B) σ) a w->Q .normal a w)
  (hp:∀op,c[jp]? =some op->op.guard=none/\∃f args U p,fD ((LA (λm=>L m&&decide (m<jp)) 0 (uB c B) σ).val X.gl) op.op=some (f,args)/\AC X.P X.gl f args U (.panic p) []/\
   xB U (LA (λm=>L m&&decide (m<jp)) 0 (uB c B) σ).objs/\B[jp]? =some ⟨.undef,[],[],kA U⟩/\∀E τ a w v,Ga C E τ a w->RepP E.H p v->Q (.panic [{v,recovered:=false}]) a w):
  ∀(fuel:Nat)(listed:Array Bool)(E:Env)(a:Act)(w:World),listed.size=c.length->listed.toList.count false<=fuel->(∀j,listed.getD j false=true->L j=true)->
   (∀j,listed.getD j false=true->∀i,((kF c []).getD j 0).testBit i=true->listed.getD i false=true)->
   Ga C E (LA (λm=>listed.getD m false) 0 (uB c B) σ) a w->wpAny X.P .any c.toArray Q fuel listed a w:=by
 --what the check says
 have hck:∀(j:Nat)(u:Oper)(N:Eff),c[j]? =some u->B[j]? =some N->(∀d∈iH u,d<j)/\∀(i:Nat)(oi:Oper)(ei:Eff),i<j->c[i]? =some oi->B[i]? =some ei->bE c.toArray oi ei u N=true->((kF c []).getD j 0).testBit i=true:=by
  intro j u N l z;have hjl:j<c.length:=(gf.1 l).1;unfold iN at Z;rw[aav]at Z;have H:=Z j bS
  grind
 have hget:∀(i:Nat)(o:Oper)(e:Eff),c[i]? =some o->B[i]? =some e->(uB c B)[i]? =some (o.dst,e):=by
  intro i o e ho he;simp[uB,List.getElem?_zip_eq_some,ho,he]
 have G:∀(i:Nat)(d:Option Nat)(e:Eff),(uB c B)[i]? =some (d,e)->∃o,c[i]? =some o/\o.dst=d/\B[i]? =some e:=by
  intro i d e h;simp only[uB,List.getElem?_zip_eq_some,i1,aaC]at h;have⟨⟨o,ho,hd⟩,he⟩:=h;exact⟨o,ho,hd,he⟩
 --the bits of an operation that is ready
 have hready:∀(S:Nat->Bool)(j:Nat)(u:Oper),c[j]? =some u->(∀d∈iH u,S d=true)->(∀k,S k=true->∀i,((kF c []).getD k 0).testBit i=true->S i=true)->∀i,((kF c []).getD j 0).testBit i=true->S i=true:=by
  intro S j u l P hcl i hbit;have⟨ms',h1,h2⟩:=Kg c [] j u l;simp only[iq,ia]at h1;rw[aaw,h1]at hbit;simp only[abm]at hbit;rcases Jg ms' i _ 0 hbit with h0|⟨d,hd,h0⟩
  ·simp at h0
  rcases h0 with rfl|h0
  ·exact P d hd
  rcases h2 d with h3|h3
  ·rw[h3]at h0;simp at h0
  rw[h3]at h0;exact hcl d (P d hd) i h0
 have hallQ:∀(listed:Array Bool)(E:Env)(a:Act)(w:World),listed.size=c.length->(∀i,i<c.length->listed.getD i false=true)->(∀j,listed.getD j false=true->L j=true)->Ga C E (LA (λm=>listed.getD m false) 0 (uB c B) σ) a w->Q .normal a w:=by
  intro listed E a w hs W D hG;refine hQ (abF λh=>((hL jp _ (e7 h)).1 (D jp (W jp h))).1 rfl) E a w (hG.of_ext ?_ ?_ ?_)
  ·intro t;refine AR t _ 0 σ σ (λi d e hi _=>?_) rfl;have⟨o,ho,_⟩:=G i d e hi;rw[ia,W i (gf.1 ho).1]
  ·intro n;refine BR n _ 0 σ σ (λi d e hi _=>?_) rfl;have⟨o,ho,_⟩:=G i d e hi;rw[ia,W i (gf.1 ho).1]
  intro n F;rw[eN]at F⊢;rcases F with F|⟨i,d,e,hi,_,hne⟩
  ·exact .inl F
  exact .inr ⟨i,d,e,hi,rfl,hne⟩
 have hnil:∀(listed:Array Bool),listed.size=c.length->Region.ready .any c.toArray listed=[]->∀i,i<c.length->listed.getD i false=true:=by
  intro listed hs hnil i
  induction i using Nat.strongRecOn with
  |_ i ih=>
   intro hi
   cases hb:listed.getD i false with
   |true=>rfl|false=>
    exfalso;have A:c[i]? =some c[i]:=e7 hi;have J:B[i]? =some B[i]:=e7 a6;have hmem:i∈Region.ready .any c.toArray listed:=by
     unfold Region.ready;rw[k6];refine⟨by simpa using hi,?_⟩;have h1:listed.getD i true=false:=by
      rw[ib]at hb⊢;rw[aaq a6]at hb⊢;simpa using hb
     simp only[h1,Bool.not_false,abz,aaG,A,gw,abm];rw[Array.all_eq_true'];intro ed P;by_cases hbd:Region.binds .any ed=true
     ·have R:=(hck i _ _ A J).1 ed.on (List.mem_map_of_mem (k6.2 ⟨by simpa using P,hbd⟩));rw[ih ed.on R a6];simp
     simp[hbd]
    rw[hnil]at hmem;simp at hmem
 intro fuel
 induction fuel with
 |zero=>
  intro listed E a w hs hcnt D hcl hG;have W:∀i,i<c.length->listed.getD i false=true:=by
   intro i hi;have h0:listed.toList.count false=0:=a6
   rw[List.count_eq_zero]at h0;rw[ib,aaq a6];simp only[abm]
   cases hb:listed[i]with|true=>rfl|false=>exact absurd (by rw[<-hb];simp) h0
  refine⟨?_,hallQ listed E a w hs W D hG⟩;unfold Region.ready;rw[List.filter_eq_nil_iff];intro i hi;have hi':i<c.length:=by simpa using hi
  have:=W i hi';have h1:listed.getD i true=true:=by
   rw[ib]at this⊢;rw[aaq a6]at this⊢;simpa using this
  simp[h1]
 |succ fuel ih=>
  intro listed E a w hs hcnt D hcl hG;refine⟨λF=>hallQ listed E a w hs (hnil listed hs F) D hG,?_⟩;intro i hi;unfold Region.ready at hi;rw[k6]at hi;have⟨hi,hrd⟩:=hi;have hi:i<c.length:=by simpa using hi
  have A:c[i]? =some c[i]:=e7 hi;have J:B[i]? =some B[i]:=e7 a6;generalize c[i]=o at A hrd;generalize B[i]=e at J;simp only[aaG,A,gw,abm,hP,Bool.not_eq_true']at hrd;have⟨hun,hpre⟩:=hrd;have hSi:listed.getD i false=false:=by
   rw[ib]at hun⊢;rw[aaq a6]at hun⊢;simpa using hun
  have P:∀d∈iH o,listed.getD d false=true:=by
   intro d hd;obtain⟨ed,P,rfl⟩:=iy.1 hd;have⟨P,hbd⟩:=k6.1 P;rw[Array.all_eq_true']at hpre;have:=hpre ed (by simpa using P);simpa[hbd]using this
  have hbits:=hready (λm=>listed.getD m false) i o A P hcl
  --conflicts
  have I:∀(j:Nat)(u:Oper)(N:Eff),j<i->c[j]? =some u->B[j]? =some N->bE c.toArray u N o e=true->listed.getD j false=true:=
   λj u N H l z hc=>hbits j ((hck i o e A J).2 j u N H l z hc)
  have O:∀(j:Nat)(u:Oper)(N:Eff),i<j->c[j]? =some u->B[j]? =some N->bE c.toArray o e u N=true->listed.getD j false=false:=by
   intro j u N H l z hc
   cases hb:listed.getD j false with
   |false=>rfl|true=>
    have:=hcl j hb i ((hck j u N l z).2 i o e H A J hc);rw[hSi]at this;cases this
  --slots that are read
  have hslot:∀t,t∈o.looksAt c.toArray->OA (LA (λm=>L m&&decide (m<i)) 0 (uB c B) σ).slots t=OA (LA (λm=>listed.getD m false) 0 (uB c B) σ).slots t:=by
   intro t ht;refine AR t _ 0 σ σ (λj d T H hd=>?_) rfl;rw[ia];have⟨u,l,K,z⟩:=G j d T H;rw[hd]at K;rcases abC j i with R|heq|hgt
   ·have hc:bE c.toArray u T o e=true:=by
     simp only[bE,K,List.contains_eq_mem,ht,decide_true,abE]
    rw[I j u T R l z hc,D j (I j u T R l z hc)];simp[R]
   ·subst heq;rw[hSi];simp
   have hc:bE c.toArray o e u T=true:=by
    simp only[bE,K,List.contains_eq_mem,ht,decide_true,Bool.or_true,abE]
   rw[O j u T hgt l z hc,aaP (show¬j<i by omega),abv]
  have hobj:∀n,n∈e.rd->jA (LA (λm=>L m&&decide (m<i)) 0 (uB c B) σ).objs n=jA (LA (λm=>listed.getD m false) 0 (uB c B) σ).objs n:=by
   intro n F;refine BR n _ 0 σ σ (λj d T H hd=>?_) rfl;rw[ia];have⟨u,l,K,z⟩:=G j d T H;rcases abC j i with R|heq|hgt
   ·have hc:bE c.toArray u T o e=true:=by
     simp only[bE,aax,abG];exact .inl (.inr ⟨n,hd,.inl (by simpa using F)⟩)
    rw[I j u T R l z hc,D j (I j u T R l z hc)];simp[R]
   ·subst heq;rw[hSi];simp
   have hc:bE c.toArray o e u T=true:=by
    simp only[bE,aax,abG];exact .inr ⟨n,hd,by simpa using F⟩
   rw[O j u T hgt l z hc,aaP (show¬j<i by omega),abv]
  have hval:∀x∈o.op.operands,(LA (λm=>L m&&decide (m<i)) 0 (uB c B) σ).val X.gl x=(LA (λm=>listed.getD m false) 0 (uB c B) σ).val X.gl x:=by
   intro x hx
   cases x with
   |tmp t=>
    refine hslot t ?_;simp only[Oper.looksAt,eh,List.mem_filterMap];exact .inl ⟨.tmp t,by simpa using hx,rfl⟩
   |const v=>rfl|func f=>rfl|global g=>rfl
  by_cases hij:i=jp
  ·subst hij;have⟨hgd,f,args,U,p,hf,hac,Y,hep,hQp⟩:=hp o A;rw[hep]at J;cases J;unfold wpOp;simp only[aaG,A];rw[gm (by simp[Region.wanted,hgd])];left;rw[XY hval]at hf;have Y:=UY (λn F=>hobj n F) Y;have⟨vs,hl,hrv,hrun,hnm⟩:=YY hG hg hf hac.direct;unfold Oper.wp;rw[hrun];simp only[Oper.upon];have hsub2:=dL Y;refine(hac.calls E w vs ⟨hG.heap,hg.mono hG.hle,λn o F=>hG.objs n o (hsub2 n o F),λn m o o' F hm=>hG.apart n m o o' (hsub2 n o F) (hsub2 m o' hm)⟩ hl hrv).mono ?_
   rintro T w' ⟨E',hD,v,rfl,hv⟩
   exact hQp E' _ a w' v (hG.called (dst:=none) (x:=.undef) (v:=undef) hD hsub2 (by simp[kA]) (ZY hG hnm Y) hac.namesO aaa b0 a8) hv
  have hLi:L i=true:=(hL i o A).2 ⟨hij,λd hd=>D d (P d hd)⟩;have htx:=htext i o e hLi A J;have hnw:∀(j:Nat)(u:Oper)(N:Eff),L j=true->c[j]? =some u->B[j]? =some N->∀n∈N.nw,n∉(LA (λm=>L m&&decide (m<j)) 0 (uB c B) σ).used:=by
   intro j u N hLj l z n F;have:=htext j u N hLj l z;have key:∀s,OpW X u s N->∀n∈N.nw,n∉s.used:=by
    intro s hw;clear this;clear F z
    induction hw with|weak y h hx ih=>exact ih|step note r hs hc hnn=>exact hnn|call f args U x objs' hf hac Y hnn=>exact hnn|callR f args ro U x objs' hf hac hro Y hnn=>exact hnn
   rcases this.2 with ⟨_,hw⟩|⟨_,_,_,_,_,⟨_,hw⟩|⟨_,rfl⟩⟩|⟨_,_,_,_,rfl⟩
   ·exact key _ hw n F
   ·exact key _ hw n F
   ·simp[eF]at F
   simp[eF]at F
  have hnew:∀n∈e.nw,n∉(LA (λm=>listed.getD m false) 0 (uB c B) σ).used:=by
   intro n F hu;rw[eN]at hu;have h0:=hnw i o e hLi A J n F;rw[eN]at h0;simp only[not_or,not_exists,not_and]at h0;rcases hu with hu|⟨j,d,N,H,M,hnj⟩
   ·exact h0.1 hu
   rw[ia]at M;have⟨u,l,K,z⟩:=G j d N H;rcases abC j i with R|heq|hgt
   ·exact h0.2 j d N H (by simp[R,D j M]) hnj
   ·subst heq;rw[hSi]at M;cases M
   have h1:=hnw j u N (D j M) l z n hnj;rw[eN]at h1;simp only[not_or,not_exists,not_and]at h1;exact h1.2 i o.dst e (hget i o e A J) (by simp[hgt,hLi]) F
  have hd:∀d,o.dst=some d->d<C.nt:=by
   intro d hd';have:=htx.1;rw[hd']at this;rw[hnt];exact this
  --the state behind it
  have hnext:∀E' a' w',Ga C E' ((LA (λm=>listed.getD m false) 0 (uB c B) σ).eff o.dst e) a' w'->wpAny X.P .any c.toArray Q fuel (listed.setIfInBounds i true) a' w':=by
   intro E' a' w' hG';have hS':(λm=>(listed.setIfInBounds i true).getD m false)=λm=>m==0+i||listed.getD m false:=by
    funext m;rw[ia,ib,ib];by_cases e1:m=i
    ·subst e1;rw[Array.getElem?_setIfInBounds_self_of_lt a6];simp
    rw[aaZ (λh=>e1 h.symm)];simp[e1]
   have e1:∀m,(listed.setIfInBounds i true).getD m false=(m==0+i||listed.getD m false):=λm=>congrFun hS' m
   refine ih (listed.setIfInBounds i true) E' a' w' (by simpa using hs) ?_ ?_ ?_ ?_
   ·have:=Ct listed.toList i (by
     rw[aaN,aaq a6];rw[ib,aaq a6]at hSi;simpa using hSi)
    rw[Array.toList_setIfInBounds];omega
   ·intro j H;rw[e1]at H;simp only[ia,aax,beq_iff_eq]at H;rcases H with rfl|H
    ·exact hLi
    exact D j H
   ·intro j H k hk;rw[e1]at H⊢;simp only[ia,aax,beq_iff_eq]at H⊢;right;rcases H with rfl|H
    ·exact hbits k hk
    exact hcl j H k hk
   rw[hS'];refine hG'.of_ext ?_ ?_ ?_
   ·intro t;rw[Eg t _ 0 i o.dst e σ (hget i o e A J) (by simpa using hSi)]
    ·simp[St.eff,cN]
    intro hdt j d' T hij H M hd';rw[ia]at M;have⟨u,l,K,z⟩:=G j d' T H;rw[hd']at K;have hc:bE c.toArray o e u T=true:=by simp[bE,hdt,K]
    have:=O j u T hij l z hc;rw[M]at this;cases this
   ·intro n;rw[Fg n _ 0 i o.dst e σ (hget i o e A J) (by simpa using hSi)]
    ·simp only[St.eff,fL]
     all_goals (cases bD e.wr n<;>rfl)
    intro hdt j d' T hij H M hd';rw[ia]at M;have⟨u,l,K,z⟩:=G j d' T H;have hc:bE c.toArray o e u T=true:=by
     simp only[bE,aax,abG];exact .inl (.inr ⟨n,hdt,.inr (by simpa using hd')⟩)
    have:=O j u T hij l z hc;rw[M]at this;cases this
   intro n F;simp only[St.eff,eh]at F;rw[eN];rw[eN]at F;rcases F with F|F|⟨j,d,N,H,M,hnj⟩
   ·exact .inr ⟨i,o.dst,e,hget i o e A J,a8,F⟩
   ·exact .inl F
   exact .inr ⟨j,d,N,H,by rw[M];simp,hnj⟩
  unfold wpOp;simp only[aaG,A];have hrun:OpW X o (LA (λm=>L m&&decide (m<i)) 0 (uB c B) σ) e->o.wp X.P a w (wpAny X.P .any c.toArray Q fuel (listed.setIfInBounds i true)) Q:=λhw=>
   (hw.congr ⟨hval,hobj,hnew⟩).sound hT hg hG hd hnext
  rcases htx.2 with ⟨hgn,hw⟩|⟨j,want,b,hgs,hgv,hor⟩|⟨j,want,hgs,hgv,rfl⟩
  ·rw[gm (by simp[Region.wanted,hgn])];exact .inl (hrun hw)
  ·have hgv':gv c (LA (λm=>listed.getD m false) 0 (uB c B) σ) j=.pv (.bool b):=by
    rw[<-hgv];unfold gv;split
    ·rename_i u l;split
     ·rename_i d K;refine(hslot d ?_).symm;simp only[Oper.looksAt,eh];right;simp[hgs,l,K]
     rfl
    rfl
   have hy:=vZ hG hgv';rcases hor with ⟨hbw,hw⟩|⟨hbw,rfl⟩
   ·rw[gm (by simp[Region.wanted,hgs,hy,hbw])];exact .inl (hrun hw)
   rw[e9 (by simp[Region.wanted,hgs,hy,hbw])];exact hnext E _ w (EU hG hd)
  have hgv':gv c (LA (λm=>listed.getD m false) 0 (uB c B) σ) j=.pv (.tuple []):=by
   rw[<-hgv];unfold gv;split
   ·rename_i u l;split
    ·rename_i d K;refine(hslot d ?_).symm;simp only[Oper.looksAt,eh];simp[hgs,l,K]
    rfl
   rfl
  have hy:=Ig hG hgv';rw[e9 (by simp[Region.wanted,hgs,hy])];exact hnext E _ w (EU hG hd)
def Dt(l:KB X.P X.T)(n:GOK X.gl C.E0.H)(k:C.nt=X.nt){b:List Oper}{f:List Eff}{σ:St}{Q:Exit->Act->World->Prop}(g:f.length=b.length)
  (d:xN X b b f σ) (c:iN b f=true)
  (p:∀E a w,Ga C E (LA (λ_=>true) 0 (uB b f) σ) a w->Q .normal a w) (fuel:Nat) (listed:Array Bool) (E:Env) (a:Act) (w:World) (r:listed.size=b.length) (s:listed.toList.count false<=fuel)
  (t:∀j,listed.getD j false=true->∀i,((kF b []).getD j 0).testBit i=true->listed.getD i false=true)
  (j:Ga C E (LA (λm=>listed.getD m false) 0 (uB b f) σ) a w):wpAny X.P .any b.toArray Q fuel listed a w:=by
 refine Ng l n k g (L:=λ_=>true) (jp:=b.length) (λi o h=>?_) (λi o e _ g k=>?_) c (λ_=>p) (λop h=>?_) fuel listed E a w r s (λ_ _=>rfl) t j
 ·grind
 ·have:=Mg b f 0 σ d i o e g k;simp_all
 simp_all
end
inductive NB where|normal|exit (id:Nat)|ret|panic (p:PV)
def Et(E:Env):NB->Exit->Prop|.normal,e=>e=.normal|.exit i,e=>e=.exit i|.ret,e=>e=.ret|.panic p,e=>∃v,e=.panic [{v,recovered:=false}]/\RepP E.H p v
structure SI(X:Env1)(C:Ctx):Prop where
 glob:GOK X.gl C.E0.H
 nt:C.nt=X.nt
 given:∀n o,jA C.given n=some o->n∈X.given
 ms:∀n∈C.ms,n∈X.given
 defs:∀n∈xG C.defs,n∈X.given
def WJ(C:Ctx)(Q:NB->St->Prop)(e:Exit)(a:Act)(w:World):Prop:=∃E σ b,Ga C E σ a w/\Et E b e/\Q b σ
def AWP(X:Env1)(c:Code)(σ:St)(Q:NB->St->Prop):Prop:=
 ∀C E a w,SI X C->Ga C E σ a w->c.wp X.P (WJ C Q) a w
def FU(next:St->Prop)(Q:NB->St->Prop):NB->St->Prop|.normal,σ=>next σ|e,σ=>Q e σ
def lL(id:Nat)(Q:NB->St->Prop):NB->St->Prop|.exit i,σ=>if i=id then Q .normal σ else Q (.exit i) σ|e,σ=>Q e σ
def Og(v:V)(yes no:Prop):Prop:=match v with|.pv (.bool b)=>(b=true->yes)/\(b=false->no)|.pv (.flg b)=>(b=true->yes)/\no|_=>False
def AWP.mono{X:Env1}{c:Code}{σ:St}{Q b:NB->St->Prop}(h:AWP X c σ Q)(d:∀e σ,Q e σ->b e σ):AWP X c σ b:=
 λC E a w b f=>wp_mono (h C E a w b f) λ_ _ _ ⟨b,σ',f,g,i,j⟩=>⟨b,σ',f,g,i,d _ _ j⟩
def AWP.seq{X:Env1}{x y:Code}{σ:St}{Q:NB->St->Prop}(h:AWP X x σ (FU (λσ'=>AWP X y σ' Q) Q)):AWP X (.seq x y) σ Q:=by
 intro C E a w g j;refine wp_seq (wp_mono (h C E a w g j) ?_)
 rintro e k l ⟨c,σ',m,b,d,f⟩
 cases m with
 |normal=>cases d;exact f C c k l g b
 |exit i=>cases d;exact⟨c,σ',.exit i,b,rfl,f⟩
 |ret=>cases d;exact⟨c,σ',.ret,b,rfl,f⟩
 |panic p=>obtain⟨v,rfl,n⟩:=d;exact⟨c,σ',.panic p,b,⟨v,rfl,n⟩,f⟩
def AWP.block{X:Env1}{id:Nat}{x:Code}{σ:St}{Q:NB->St->Prop}(h:AWP X x σ (lL id Q)):AWP X (.block id x) σ Q:=by
 intro C E a w g j;refine wp_block (wp_mono (h C E a w g j) ?_)
 rintro e m n ⟨d,σ',k,b,f,c⟩
 cases k with
 |normal=>cases f;exact⟨d,σ',.normal,b,rfl,c⟩
 |exit i=>
  cases f;simp only[lL]at c;simp only[Exit.inBlock];split
  ·rename_i e;rw[gm e]at c;exact⟨d,σ',.normal,b,rfl,c⟩
  rename_i e;rw[e9 e]at c;exact⟨d,σ',.exit i,b,rfl,c⟩
 |ret=>cases f;exact⟨d,σ',.ret,b,rfl,c⟩
 |panic p=>obtain⟨v,rfl,l⟩:=f;exact⟨d,σ',.panic p,b,⟨v,rfl,l⟩,c⟩
def yF:List Nat->List Nat->Prop|[],_=>True|n::r,u=>n∈u/\yF r u
def GU:List (Nat×V)->List (Nat×V)->Prop|[],_=>True|(t,x)::r,l=>OA l t=x/\GU r l
def YF:List (Nat×V)->List Nat|[]=>[]|(_,x)::r=>x.names++YF r
def KC:List (Nat×Ob)->List Nat|[]=>[]|(n,o)::r=>n::o.names++KC r
structure Weak(X:Env1)(σ τ:St):Prop where
 slots:GU τ.slots σ.slots
 objs:xB τ.objs σ.objs
 names:yF (YF τ.slots++KC τ.objs++X.given) τ.used
def AN:∀{l u:List Nat},yF l u->∀n∈l,n∈u
 |[],_,_,n,h=>by simp at h|k::r,u,a,n,h=>by
  rcases e8.1 h with rfl|h
  ·exact a.1
  exact AN a.2 n h
def Pg:∀{l m:List (Nat×V)},GU l m->∀t,OA l t=.undef\/OA l t=OA m t
 |[],_,_,t=>.inl rfl|(k,x)::r,m,h,t=>by
  simp only[OA];split
  ·rename_i e;subst e;exact .inr h.1.symm
  exact Pg h.2 t
theorem yZ{l:List (Nat×V)}{t n:Nat}(h:n∈(OA l t).names):n∈YF l:=by
 induction l with
 |nil=>grind[OA,V.names]|cons p r a=>
  grind[OA,YF]
theorem BN{l:List (Nat×Ob)}{m:Nat}{o:Ob}(h:jA l m=some o):m∈KC l/\∀n∈o.names,n∈KC l:=by
 induction l with
 |nil=>grind[jA]|cons p r a=>
  grind[jA,KC]
def Weak.ga{X:Env1}{σ τ:St}(h:Weak X σ τ){C:Ctx}(i:SI X C){E:Env}{a:Act}{w:World}(d:Ga C E σ a w):Ga C E τ a w:=by
 have p:=Pg h.slots;have f:=dL h.objs;have j:=AN h.names;refine⟨?_,d.size,⟨d.defers.1,λn g=>j n (by simp[i.defs n g])⟩,d.heap,λn o c=>d.objs n o (f n o c),λn m o l c k=>d.apart n m o l (f n o c) (f m l k),?_,?_,?_,d.grown,d.rest,d.same,d.hle,λn o b c=>d.own n o b (f n o c),d.ext,λn g=>⟨j n (by simp[i.ms n g]),?_,(d.keep n g).2.2⟩⟩;rotate_left 4
 ·cases e:jA τ.objs n with
  |none=>rfl|some o=>
   have:=f n o e;rw[(d.keep n g).2.1]at this;cases this
 ·intro t;rcases p t with e|e
  ·rw[e];simp[RepV]
  rw[e];exact d.slots t
 ·grind[yZ]
 ·intro n o c;have⟨r,s⟩:=BN c;simp_all
 intro n o c;exact j n (by simp[i.given n o c])
end Go.Lg
