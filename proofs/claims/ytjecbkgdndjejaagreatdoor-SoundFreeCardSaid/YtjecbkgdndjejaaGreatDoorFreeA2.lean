/- The logic of contracts; no conditions. -/
import Derived.Test.YtjecbkgdndjejaaGreatDoorFreeA1
import Derived.Laws.Tables
set_option linter.all false
namespace Go.Lg
section
variable{P:Program}{C:Ctx}{E:Env}{σ:St}{a:Act}{w:World}{gl:Nat->Option (List PV)}{o:Oper}{T:Nat->Option TI}{note:gC}
def NS{n b len e f:Nat}{c:List (List V)}(d:ObOK E w n (.arr b e f c)){v:Value}(e:RepV E (.arr n b len) v):
  ∃b cap,E.g n=.slice b c.length cap/\v=.slice b len cap/\len<=c.length/\c.length<=cap/\c.length<=maxLen:=by
 obtain⟨b,_⟩:=id d
 grind[MS,RepV]
theorem Rm(h:Ga C E σ a w)(W:GOK gl C.E0.H)(G:∀d,o.dst=some d->d<C.nt)(H:EB P T){args:Array Operand}{argTypes:Array Nat}(I:o.op=.call {callee:=.builtin .len,args,argTypes}){r:R}(J:r.cond)
  (f:gA T note (σ.val gl) (zA σ.objs) o.dst (.call {callee:=.builtin .len,args,argTypes})=some r):Sound P C E σ a w o r:=by
 simp only[gA]at f;split at f
 ·rename_i t x s j;have K:argTypes= #[t]:=by rw[<-Array.toArray_toList (xs:=argTypes),s]
  have L:args= #[x]:=by rw[<-Array.toArray_toList (xs:=args),j]
  subst K L;have i:=QA h W x;split at f
  ·rename_i e Q S U V s;obtain⟨d,g,m⟩:=(H t _ s).desc;simp only[JC]at m;subst m;have z:∀M n c,a.eval x=.slice M n c->OpRes P o a w (.int .i64 n) w:=by
    intro M n c F;refine .inl ?_;simp[execOp,I,resolve,invoke,builtin,Builtin.len_,F,run_underlying g,goInt]
   unfold iM at f;split at f
   ·grind[RepV,RepP,yO]
   ·rename_i j;rw[j]at i;simp only[RepV,RepP]at i;cases f;exact yO h G (z _ _ _ i) trivial
   ·grind[RepV,RepP,yO]
   ·rename_i n N len j;rw[j]at i;split at f
    ·rename_i A sz ty X O;cases f;have J:N=A:=J;subst J;obtain⟨M,cap,B,F,Y,_,hm⟩:=NS (h.objs n _ O) i
     grind[yO]
    cases f
   cases f
  ·rename_i k v sk Q S U V s;obtain⟨d,g,m⟩:=(H t _ s).desc;simp only[JC]at m;obtain⟨rfl,_⟩:=m;unfold vQ at f;split at f
   ·rename_i n j;rw[j]at i;simp only[RepV]at i;obtain⟨b,B,F⟩:=i;split at f
    ·rename_i s' X O;cases f;obtain⟨b',Z,ck,p,u,_,y,_⟩:=h.objs n _ O;rw[B]at p;cases p;refine yO h G (.inl ?_) trivial;have hl:=y.length;have D:(getObj b).run P w=.ok (.map Z ck) w:=by simp[getObj,Sem.run,u]
     simp[execOp,I,resolve,invoke,builtin,Builtin.len_,F,run_underlying g,goInt,D,hl]
    cases f
   cases f
  ·rename_i Q S U V s;obtain⟨d,g,m⟩:=(H t _ s).desc;simp only[JC]at m;subst m;unfold GW at f;split at f
   ·rename_i l j;rw[j]at i;cases f;refine yO h G (.inl ?_) trivial;simp[execOp,I,resolve,invoke,builtin,i.1,run_len_string,g,ByteArray.size,goInt]
   cases f
  cases f
 cases f
def Sm{t e:Nat}{f:TI}(b:TIOK P e f)(c:P.underlying t=some (.slice e)){d:Option Addr}{len cap l:Nat}(g:l<=len):
  (Instr.sliceAt t (.slice d len cap) (some (.int .i64 l)) none none).run P w=.ok (.slice (if cap=l then d else d.map (·.add (l*f.size))) (len-l) (cap-l)) w:=by
 simp[Instr.sliceAt,run_underlying c,Instr.slice,Instr.sliceBounds,Instr.sliceBound,asIntOf,g,b.run_size]
def Bc{t e:Nat}{b:TI}(c:TIOK P e b)(d:P.underlying t=some (.slice e)){b:Option Addr}{len cap k:Nat}(f:k<=cap):
  (Instr.sliceAt t (.slice b len cap) none (some (.int .i64 k)) none).run P w=.ok (.slice b k cap) w:=by
 have g:b.map (λx=>x.add 0)=b:=by cases b<;>simp[Addr.add]
 simp[Instr.sliceAt,run_underlying d,Instr.slice,Instr.sliceBounds,Instr.sliceBound,asIntOf,f,c.run_size,g]
def Um{t e:Nat}{b:TI}(c:TIOK P e b)(d:P.underlying t=some (.slice e)){b:Option Addr}{len cap:Nat}(f:len<=cap):
  (Instr.sliceAt t (.slice b len cap) none (some (.int .i64 len)) (some (.int .i64 len))).run P w=.ok (.slice b len len) w:=by
 have g:b.map (λx=>x.add 0)=b:=by cases b<;>simp[Addr.add]
 simp[Instr.sliceAt,run_underlying d,Instr.slice,Instr.sliceBounds,Instr.sliceBound,asIntOf,f,c.run_size,g]
def Vm{t:Nat}(k:P.underlying t=some .string){l:List Nat}{e f:Option Value}{a b:Int}(m:e=none/\a=0\/e=some (.int .i64 a))(n:f=none/\b=l.length\/f=some (.int .i64 b))(p:0<=a)(s:a<=b)(u:b<=l.length):
  (Instr.sliceAt t (.string ⟨(l.map UInt8.ofNat).toArray⟩) e f none).run P w=.ok (.string ⟨(((l.drop a.toNat).take (b-a).toNat).map UInt8.ofNat).toArray⟩) w:=by
 obtain⟨i,rfl⟩:=Int.eq_ofNat_of_zero_le p;obtain⟨j,rfl⟩:=Int.eq_ofNat_of_zero_le (show 0<=b by omega);have r:(⟨(l.map UInt8.ofNat).toArray⟩:ByteArray).size=l.length:=by simp[ByteArray.size]
 have c:i<=j:=by omega
 have d:j<=l.length:=by omega
 have v:(Instr.sliceBounds false l.length l.length e f none).run P w=.ok (i,j,l.length) w:=by
  rcases m with ⟨rfl,g⟩|rfl<;>rcases n with ⟨rfl,h⟩|rfl
  ·have g:i=0:=by omega
   have h:j=l.length:=by omega
   subst g h;rfl
  ·have g:i=0:=by omega
   subst g;simp[Instr.sliceBounds,Instr.sliceBound,asIntOf,d]
  ·have h:j=l.length:=by omega
   subst h;simp[Instr.sliceBounds,Instr.sliceBound,asIntOf,c]
  simp[Instr.sliceBounds,Instr.sliceBound,asIntOf,d,c]
 have x:=ByteArray.extract_mk (l.map UInt8.ofNat) i j;simp only[Instr.sliceAt,Sem.run_bind,run_underlying k,Result.andThen_ok,Instr.slice,r];simp_all
theorem Wm(h:Ga C E σ a w)(O:GOK gl C.E0.H)(U:∀d,o.dst=some d->d<C.nt)(hT:EB P T){t:Nat}{x:Operand}{B u y:Option Operand}(W:o.op=.slice t x B u y){r:R}(Y:r.cond)
  (g:gA T note (σ.val gl) (zA σ.objs) o.dst (.slice t x B u y)=some r):Sound P C E σ a w o r:=by
 have j:=QA h O x;have nx:=eC (gl:=gl) h x;simp only[gA]at g;split at g
 ·rename_i e s1 s2 s3 s4 et;obtain⟨d,v,Z⟩:=(hT t _ et).desc;simp only[JC]at Z;subst Z;split at g
  ·rename_i te ee;have D:=hT e te ee;unfold xM at g;split at g
   ·rename_i H l F K z G;rw[F]at j;simp only[RepV,RepP]at j;obtain⟨I,cap,Q,L,J,i⟩:=j;cases g;obtain⟨M,X,h2⟩:=Y
    cases B with
    |none=>cases K
    |some B=>
     simp only[Option.map_some,Option.some.injEq]at K;have N:=QA h O B;rw[K]at N;have N:=ZF N
     cases u with
     |some _=>cases z
     |none=>
      cases y with
      |some _=>cases G
      |none=>
       obtain⟨l,rfl⟩:=Int.eq_ofNat_of_zero_le M;have hll:l<=H.length:=by omega
       refine Sound.pure h (v:=.slice (if cap=l then I else I.map (·.add (l*te.size))) (H.length-l) (cap-l)) (.inl ?_) ?_ (by simp[V.names]) U trivial
       ·simp only[execOp,W,Option.map_some,Option.map_none,Q,N];simp[Sm D v hll]
       simp only[RepV,RepP,Int.toNat_natCast,List.length_drop];refine⟨_,_,rfl,by omega,by omega,?_⟩;rcases i with rfl|⟨b,off,rfl,i⟩
       ·simp
       by_cases he:l=H.length
       ·simp_all
       right;have hne:¬cap=l:=by omega
       refine⟨b,off+l*te.size,?_,?_⟩
       ·grind[AM]
       rw[<-List.drop_drop];exact i.dropE h2 l
   ·rename_i H k F K z G;rw[F]at j;simp only[RepV,RepP]at j;obtain⟨I,cap,Q,L,J,i⟩:=j;cases g;obtain⟨M,X⟩:=Y
    cases u with
    |none=>cases z
    |some u=>
     simp only[Option.map_some,Option.some.injEq]at z;have f:=QA h O u;rw[z]at f;have f:=ZF f
     cases B with
     |some _=>cases K
     |none=>
      cases y with
      |some _=>cases G
      |none=>
       obtain⟨k,rfl⟩:=Int.eq_ofNat_of_zero_le M;have hkk:k<=H.length:=by omega
       refine Sound.pure h (v:=.slice I k cap) (.inl ?_) ?_ (by simp[V.names]) U trivial
       ·simp only[execOp,W,Option.map_some,Option.map_none,Q,f];simp[Bc D v (show k<=cap by omega)]
       simp only[RepV,RepP,Int.toNat_natCast];have hkl:(H.take k).length=k:=by simp;omega
       refine⟨_,_,by rw[hkl],by omega,by omega,?_⟩;rcases i with rfl|⟨b,off,rfl,i⟩
       ·simp
       exact .inr ⟨b,off,rfl,i.takeE k⟩
   ·rename_i n ver len k F K z G;rw[F]at j nx;split at g
    ·rename_i ver' sz ty H eo;cases g;obtain⟨rfl,M,X⟩:=Y;have hob:=h.objs n _ eo;obtain⟨hver,_⟩:=id hob;obtain⟨I,cap,hgn,Q,hle,L,J⟩:=NS hob j
     cases u with
     |none=>cases z
     |some u=>
      simp only[Option.map_some,Option.some.injEq]at z;have f:=QA h O u;rw[z]at f;have f:=ZF f
      cases B with
      |some _=>cases K
      |none=>
       cases y with
       |some _=>cases G
       |none=>
        obtain⟨k,rfl⟩:=Int.eq_ofNat_of_zero_le M;refine Sound.pure h (v:=.slice I k cap) (.inl ?_) ?_ ?_ U trivial
        ·simp only[execOp,W,Option.map_some,Option.map_none,Q,f];simp[Bc D v (show k<=cap by omega)]
        ·simp only[RepV,Int.toNat_natCast];exact⟨by omega,⟨_,_,_,rfl⟩,λ_=>⟨I,_,cap,hgn,rfl,by omega⟩⟩
        intro m J;simp only[V.names]at J nx;exact nx m J
    cases g
   ·rename_i H k k2 F K z G;rw[F]at j;simp only[RepV,RepP]at j;obtain⟨I,cap,Q,L,J,i⟩:=j;cases g;obtain⟨M,X⟩:=Y;subst M X
    cases u with
    |none=>cases z
    |some u=>
     simp only[Option.map_some,Option.some.injEq]at z;have f:=QA h O u;rw[z]at f;have f:=ZF f
     cases B with
     |some _=>cases K
     |none=>
      cases y with
      |none=>cases G
      |some y=>
       simp only[Option.map_some,Option.some.injEq]at G;have A:=QA h O y;rw[G]at A;have A:=ZF A;refine Sound.pure h (v:=.slice I H.length H.length) (.inl ?_) ?_ (by simp[V.names]) U trivial
       ·simp only[execOp,W,Option.map_some,Option.map_none,Q,f,A];simp[Um D v L]
       simp only[RepV];exact⟨I,rfl,J,i⟩
   ·rename_i F;rw[F]at j;simp only[RepV,RepP]at j;obtain⟨S,g⟩:=bm g;cases g;simp only[Bool.and_eq_true]at S;have hz:∀q:Option Operand,wJ (q.map (σ.val gl))=true->q=none\/∃q',q=some q'/\a.eval q'=.int .i64 0:=by
     intro q s
     cases q with
     |none=>exact .inl rfl|some q=>
      right;refine⟨q,rfl,?_⟩;have i:=QA h O q;simp only[Option.map_some]at s;unfold wJ at s;split at s
      ·rename_i e;cases e
      ·rename_i e;simp only[Option.some.injEq]at e;rw[e]at i;exact ZF i
      cases s
    have run0:∀l h m:Option Value,(l=none\/l=some (.int .i64 0))->(h=none\/h=some (.int .i64 0))->(m=none\/m=some (.int .i64 0))->(m.isSome=true->h.isSome=true)->
      (Instr.sliceAt t (.slice none 0 0) l h m).run P w=.ok (.slice none 0 0) w:=by
     intro l h m hl hh J hmh;rcases hl with rfl|rfl<;>rcases hh with rfl|rfl<;>rcases J with rfl|rfl<;>
      first|(simp at hmh;done)|simp[Instr.sliceAt,run_underlying v,Instr.slice,Instr.sliceBounds,Instr.sliceBound,asIntOf,D.run_size]
    have s:∀q:Option Operand,wJ (q.map (σ.val gl))=true->q.map a.eval=none\/q.map a.eval=some (.int .i64 0):=by
     intro q h;rcases hz q h with rfl|⟨q',rfl,e⟩
     ·exact .inl rfl
     exact .inr (by rw[Option.map_some,e])
    refine Sound.pure h (v:=.slice none 0 0) (.inl ?_) (by simp[RepV,RepP]) (by simp[V.names]) U trivial;have i:=run0 (B.map a.eval) (u.map a.eval) (y.map a.eval) (s B S.1.1.1) (s u S.1.1.2) (s y S.1.2) (by
     intro J;have:=S.2;cases y<;>cases u<;>simp_all)
    simp only[execOp,W,j];simp[i]
   cases g
  cases g
 ·rename_i s1 s2 s3 s4 et;obtain⟨d,v,Z⟩:=(hT t _ et).desc;simp only[JC]at Z;subst Z;unfold GS at g;split at g
  ·rename_i l F G;rw[F]at j;simp only[RepV,RepP]at j;split at g
   ·rename_i a' b' ea eb;cases g;obtain⟨M,X,h2⟩:=Y;have hbd:∀(q:Option Operand)(d0 c:Int),bJ d0 (q.map (σ.val gl))=some c->(q.map a.eval=none/\c=d0)\/q.map a.eval=some (.int .i64 c):=by
     intro q d0 c s
     cases q with
     |none=>simp only[Option.map_none,bJ,Option.some.injEq]at s;exact .inl ⟨rfl,s.symm⟩|some q=>
      right;have i:=QA h O q;simp only[Option.map_some]at s⊢
      cases e:σ.val gl q with
      |pv p=>
       rw[e]at s i;cases p<;>simp only[bJ,Option.some.injEq,reduceCtorEq]at s;subst s;rw[ZF i]
      |_=>rw[e]at s;simp[bJ]at s
    have A:y=none:=by cases y<;>simp at G;rfl
    subst A;have i:=Vm (P:=P) (w:=w) v (l:=l) (hbd B 0 a' ea) (hbd u l.length b' eb) M X h2;refine Sound.pure h (v:=.string ⟨(((l.drop a'.toNat).take (b'-a').toNat).map UInt8.ofNat).toArray⟩) (.inl ?_) ?_ (by simp[V.names]) U trivial
    ·simp only[execOp,W,Option.map_none,j.1];simp[i]
    exact⟨by first|rfl|trivial,λb S=>j.2 b (List.mem_of_mem_drop (List.mem_of_mem_take S))⟩
   cases g
  cases g
 cases g
theorem Xm(h:Ga C E σ a w)(n:GOK gl C.E0.H)(p:∀d,o.dst=some d->d<C.nt)(s:EB P T){t:Nat}{x i:Operand}(u:o.op=.index t x i){r:R}(v:r.cond)
  (b:gA T note (σ.val gl) (zA σ.objs) o.dst (.index t x i)=some r):Sound P C E σ a w o r:=by
 have e:=QA h n x;have c:=QA h n i;simp only[gA]at b;split at b
 ·rename_i F G H I y;obtain⟨d,f,g⟩:=(s t _ y).desc;subst g;unfold HW at b;split at b
  ·rename_i l k z A;rw[z]at e;rw[A]at c;simp only[RepV,RepP]at e;have c:=ZF c;cases b;obtain⟨B,J⟩:=v;obtain⟨k,rfl⟩:=Int.eq_ofNat_of_zero_le B;have g:k<l.length:=by omega
   have j:(⟨(l.map UInt8.ofNat).toArray⟩:ByteArray).size=l.length:=by simp[ByteArray.size]
   have m:(⟨(l.map UInt8.ofNat).toArray⟩:ByteArray)[k]? =some (UInt8.ofNat l[k]):=by
    rw[ByteArray.getElem?_lt' _ _ (by rw[j];exact g)];simp[ByteArray.getElem_eq_getElem_data]
   have D:(UInt8.ofNat l[k]).toNat=l[k]:=by simp_all
   refine Sound.pure h (v:=.int .u8 l[k]) (.inl ?_) ?_ (by simp[V.names]) p trivial
   ·simp[execOp,u,e.1,c,Instr.index,asIntOf,Sem.run_bind,run_underlying f,m,D]
   grind[RepV,RepP,Int.toNat_natCast]
  cases b
 cases b
end
section
variable{P:Program}{C:Ctx}{E:Env}{σ:St}{a:Act}{w:World}{gl:Nat->Option (List PV)}{o:Oper}{T:Nat->Option TI}{note:gC}
def Hle.zero(H:Hp):Hle (λ_=>[]) H:=λ_=>List.nil_prefix
def bQ(g:HeapOK E w)(d:Obj)(e:Env)(f:e.H=E.H):HeapOK e (w.alloc d):=by
 intro b e;rw[f]at e⊢;obtain⟨c,T,h,f,i⟩:=g b e;exact⟨c,T,h,by rw[heap_alloc_old w d b (Array.getElem?_eq_some_iff.1 f).1];exact f,i⟩
def Sound.newBox(h:Ga C E σ a w)(p:∀d,o.dst=some d->d<C.nt){n t:Nat}{g:List V}{c:Array Value}{f:Prop}(l:n∉σ.used)
  (r:c.size=g.length) (s:RepVL E g c.toList) (i:∀m∈BA g,m∈σ.used)
  (i:OpRes P o a w (.pointer (some ⟨w.heap.size,0,none⟩)) (w.alloc (.cells c t))):
  Sound P C E σ a w o ⟨f,True,.loc n 0,some (n,.box g),true⟩:=by
 let f:Env:={E with g:=λm=>if m=n then .pointer (some ⟨w.heap.size,0,none⟩)else E.g m};have j:f.g n=.pointer (some ⟨w.heap.size,0,none⟩):=by simp[f]
 have u:∀m,m≠n->f.g m=E.g m/\f.ver m=E.ver m/\f.sz m=E.sz m:=λm k=>⟨by grind,rfl,rfl⟩
 refine⟨_,_,f,i,?_,trivial⟩;refine h.change (E':=f) n (some (.box g)) (tB σ.objs n (.box g)) (n::σ.used) o.dst (.loc n 0) _ (λm=>gD _ _ _ _) (Hle.refl _) u (λi=>absurd i l) (λi=>absurd i l)
  (by simp) ⟨rfl,rfl,rfl⟩ (λb i _=>⟨heap_alloc_old w _ b i,rfl⟩) (bQ h.heap _ f rfl) ?_ ?_ (λm k=>by simp[k]) ?_ ?_ p
 ·intro i e;cases e;refine⟨⟨w.heap.size,c,t,j,heap_alloc_new w _,r,?_,h.heap.lt (Nat.le_refl _)⟩,by simp,λm k=>by grind[Ob.names]⟩;refine RepVL.mono (E:=E) (E':=f) (Hle.refl E.H) g _ _ List.prefix_rfl (λm k=>?_) s
  grind[EExt.of_eq]
 ·grind[CA]
 ·exact⟨_,j,rfl⟩
 simp[V.names]
def Ga.newRow(h:Ga C E σ a w){dst:Option Nat}(l:∀d,dst=some d->d<C.nt)(t:Nat)(c:Array Value){x:V}{v:Value}(m:∀f,Hle E.H f->f w.heap.size=c.toList.map sn->RepV {E with H:=f} x v)
  (i:∀n∈x.names,n∈σ.used):∃g,Ga C g ⟨WC dst x σ.slots,σ.objs,σ.used⟩ (a.put dst v) (w.alloc (.cells c t)):=by
 let f:Hp:=λb=>if b=w.heap.size then c.toList.map sn else E.H b
 have g:E.H w.heap.size=[]:=h.heap.lt (Nat.le_refl _);have j:Hle E.H f:=by
  intro b
  grind
 have g:f w.heap.size=c.toList.map sn:=by simp[f]
 refine⟨{E with H:=f},?_⟩;refine h.pure f dst x v j (by simp) ⟨rfl,rfl,rfl⟩ (λb k=>⟨heap_alloc_old w _ b k,?_⟩) ?_ (m f j g) i l
 ·grind
 intro b k;by_cases e:b=w.heap.size
 ·subst e;refine⟨c,t,(0,0),heap_alloc_new w _,?_,.inl rfl⟩
  grind[Msk,Msk.sn]
 have f:E.H b≠[]:=by grind
 obtain⟨i,j,k,g,l⟩:=h.heap b f;refine⟨i,j,k,?_,by grind,by grind⟩;rw[heap_alloc_old w _ b (Array.getElem?_eq_some_iff.1 g).1];exact g
def Ga.drew(h:Ga C E σ a w):Ga C E σ a w.drew:=
 ⟨h.slots,h.size,h.defers,h.heap,h.objs,h.apart,h.usedS,h.usedO,h.usedG,h.grown,h.rest,h.same,h.hle,h.own,h.ext,h.keep⟩
def Sound.newRow(h:Ga C E σ a w)(f:∀d,o.dst=some d->d<C.nt){t:Nat}{c:Array Value}{g:Prop}{x:V}{v:Value}(i:∀b,Hle E.H b->b w.heap.size=c.toList.map sn->RepV {E with H:=b} x v)
  (e:∀n∈x.names,n∈σ.used) (b:OpRes P o a w v (w.alloc (.cells c t))):Sound P C E σ a w o ⟨g,True,x,none,false⟩:=by
 obtain⟨g,j⟩:=h.newRow f t c i e;exact⟨v,_,g,b,j,trivial⟩
def OS{x:V}{d:List V}{v:Value}(h:XF x=some d)(i:RepV E x v):v.cells.size=d.length/\RepVL E d v.cells.toList/\∀m∈BA d,m∈x.names:=by
 have one:∀g:Value,(∀c,g≠.agg c)->g.cells= #[g]:=by intro g j;cases g<;>first|rfl|simp_all
 unfold XF at h;split at h
 ·cases h;obtain⟨p,rfl,g,l⟩:=i;refine⟨by simpa[Value.cells]using g,by have:=RepVL.ofPv l;simp only[iA]at this;simpa[Value.cells]using this,?_⟩;intro m j;have:=wQ;simp only[iA]at this;rw[this]at j;simp at j
 ·cases h
 ·cases h;obtain⟨p,rfl,g,l⟩:=i;exact⟨by simpa[Value.cells]using g,by simpa[Value.cells]using l,λm j=>by grind[V.names]⟩
 ·cases h
 ·cases h
 cases h;have l:∀c,v≠.agg c:=by
  intro c e;subst e
  cases x with
  |undef=>simp_all|pv p=>
   cases p with|agg d=>simp_all|tuple d=>simp_all|slice g=>grind[RepV,RepP]|ptr g=>grind[RepV,RepP]|iface t p=>grind[RepV,RepP]|nptr g=>grind[RepV,RepP]|num k n=>grind[RepV,RepP]|flg b=>grind[RepV,RepP]|_=>simp[RepV,RepP]at i
  |agg d=>simp_all|tuple d=>simp_all|fn f d=>grind[RepV]|bfn f d=>grind[RepV]|loc n off=>grind[RepV]|eloc n d i off=>grind[RepV]|arr n d len=>grind[RepV]|vsl g=>grind[RepV]|fsl g=>grind[RepV]|gsl n d g=>grind[RepV,RepP]|map n=>grind[RepV]
 rw[one v l];exact⟨rfl,by grind[RepVL],λm j=>by grind[BA]⟩
def Ym{H:Hp}{p:PV}{d:List PV}{v:Value}(h:DW p=some d)(c:RepP H p v):v.cells.size=d.length/\RepL H d v.cells.toList:=by
 unfold DW at h;split at h
 ·cases h;obtain⟨e,rfl,e,f⟩:=c;exact⟨by simpa[Value.cells]using e,by simpa[Value.cells]using f⟩
 ·cases h
 cases h;have:v.cells= #[v]:=by
  cases p with|agg d=>simp_all|tuple d=>simp_all|slice d=>obtain⟨_,_,rfl,_⟩:=c;rfl|ptr d=>obtain⟨_,_,rfl,_⟩:=c;rfl|iface t p=>obtain⟨_,rfl,_⟩:=c;rfl|nptr d=>obtain⟨_,_,rfl,_⟩:=c;rfl|num k n=>rw[c.1];rfl|str l=>rw[c.1];rfl|flg b=>obtain⟨_,rfl,_⟩:=c;rfl|_=>subst c;rfl
 rw[this];exact⟨rfl,by grind[RepL]⟩
theorem Zm(h:Ga C E σ a w)(f:∀d,o.dst=some d->d<C.nt)(g:EB P T){t:Nat}(i:o.op=.alloc t){r:R}{val:Operand->V}{b:Nat->Option Ob}
  (j:gA T note val b o.dst (.alloc t)=some r) (e:∀n x,r.wr=some (n,x)->r.new=true->n∉σ.used):Sound P C E σ a w o r:=by
 have key:∀(c:TI)(n:Nat),T t=some c->n∉σ.used->Sound P C E σ a w o ⟨True,True,.loc n 0,some (n,.box (iA c.zc)),true⟩:=by
  intro c n k e;have b:=g t c k;refine Sound.newBox h f (t:=t) (c:=c.zero.cells) e (by rw[b.zlen,iA,List.length_map,b.zc]) ?_ (by simp[wQ]) (.inl ?_)
  ·exact RepVL.ofPv (RepL.mono (Hle.zero _) _ _ _ List.prefix_rfl b.zcells)
  simp[execOp,i,Instr.alloc,b.run_zero,newVar,newRow]
 simp only[gA]at j
 grind
theorem zn(h:Ga C E σ a w)(s:GOK gl C.E0.H)(j:∀d,o.dst=some d->d<C.nt){t:Nat}{x:Operand}(u:o.op=.box t x){r:R}{v:Nat->Option Ob}
  (b:gA T note (σ.val gl) v o.dst (.box t x)=some r) (y:∀n x,r.wr=some (n,x)->r.new=true->n∉σ.used):Sound P C E σ a w o r:=by
 have f:=QA h s x;have z:=eC (gl:=gl) h x;have c:OpRes P o a w (.pointer (some ⟨w.heap.size,0,none⟩)) (w.alloc (.cells (a.eval x).cells t)):=.inl (by simp[execOp,u,Instr.box,newVar,newRow]);simp only[gA]at b;split at b
 ·split at b
  ·rename_i k g;split at b
   ·cases b;obtain⟨l,i,A⟩:=OS g f;exact Sound.newBox h j (y _ _ rfl rfl) l i (λm B=>z m (A m B)) c
   cases b
  cases b
 split at b
 ·rename_i p D;split at b
  ·rename_i k g;cases b;rw[D]at f;obtain⟨l,i⟩:=Ym g f;refine Sound.newRow h j (λG F e=>?_) (by simp[V.names]) c;simp only[RepV,RepP];refine⟨_,0,rfl,?_⟩;rw[e];exact RepL.mono F k _ _ List.prefix_rfl i.sn
  cases b
 cases b
def MW(off:Nat):∀(b:List Value)(k:Nat)(cells:Array Value),off+k+b.length<=cells.size->
  ((b.zipIdx k).foldl (λc(p:Value×Nat)=>c.setIfInBounds (off+p.2) p.1) cells).toList=cells.toList.take (off+k)++b++cells.toList.drop (off+k+b.length)
 |[],k,cells,_=>by simp|y::b,k,cells,h=>by
  simp only[List.zipIdx_cons,List.foldl_cons];rw[MW off b (k+1) _ (by simp at h⊢;omega)];simp only[List.length_cons]at h⊢;have e:=list_seg_step cells.toList (off+k) y b (by simp;omega);simpa[Array.toList_setIfInBounds,Nat.add_assoc,Nat.add_comm 1]using e
theorem Cc{b c:List V}{off:Nat}{vs us:List Value}(d:vs.length=b.length)(e:us.length=c.length)(d:off+c.length<=b.length)(d:RepVL E b vs)(f:RepVL E c us):
  RepVL E (ZD b off c) (vs.take off++us++vs.drop (off+us.length)):=by
 refine RepVL.append ?_ (RepVL.append ?_ (d.take off) f) ?_
 ·simp;omega
 ·simp;omega
 rw[e];exact d.drop _
def PS(b c:List V)(off:Nat)(d:off+c.length<=b.length:=by omega):(ZD b off c).length=b.length:=by
 grind[ZD]
theorem NW(b d:List V)(off:Nat):∀m∈BA (ZD b off d),m∈BA b\/m∈BA d:=by
 intro m d;obtain⟨c,b,d⟩:=mem_namesL.1 d;simp only[ZD,List.mem_append]at b;rcases b with (b|b)|b
 ·exact .inl (mem_namesL.2 ⟨c,List.mem_of_mem_take b,d⟩)
 ·exact .inr (mem_namesL.2 ⟨c,b,d⟩)
 exact .inl (mem_namesL.2 ⟨c,List.mem_of_mem_drop b,d⟩)
def OW{fs:List (Nat×Nat)}{place:Nat->Option (Nat×Nat)}(l:∀i p,fs[i]? =some p->place i=some p):
  ∀(parts:List (Nat×Operand))(d c:List V)(cells:Array Value),cells.size=d.length->RepVL E d cells.toList->(∀m∈BA d,m∈σ.used)->
   Ga C E σ a w->GOK gl C.E0.H->UG fs d (parts.map λp=>(p.1,σ.val gl p.2))=some c->
   ∃b,Instr.fill place cells (parts.map λp=>(p.1,a.eval p.2))=some b/\b.size=c.length/\RepVL E c b.toList/\∀m∈BA c,m∈σ.used
 |[],d,c,cells,n,r,s,_,_,f=>by
  simp only[List.map_nil,UG,Option.some.injEq]at f;subst f;exact⟨cells,rfl,n,r,s⟩
 |(i,x)::parts,d,c,cells,n,r,s,h,t,f=>by
  simp only[List.map_cons,UG]at f;split at f
  ·rename_i off size u v y;split at f
   ·obtain⟨B,D,F⟩:=OS y (QA h t x);have z:off+(a.eval x).cells.size<=cells.size:=by omega
    have e:=MW off (a.eval x).cells.toList 0 cells (by omega);have A:=OW l parts (ZD d off u) c ((a.eval x).cells.zipIdx.foldl (λd(p:Value×Nat)=>d.setIfInBounds (off+p.2) p.1) cells)
     (by
      rw[<-Array.length_toList,<-Array.foldl_toList,Array.toList_zipIdx,e,PS d u off];simp;omega)
     (by
      rw[<-Array.foldl_toList,Array.toList_zipIdx,e]
      grind[Cc])
     (by
      grind[NW,eC]) h t f
    obtain⟨b,j,g⟩:=A;refine⟨b,?_,g⟩;have k:¬((a.eval x).cells.size≠size\/off+(a.eval x).cells.size>cells.size):=by omega
    simp only[List.map_cons,Instr.fill,l i _ v];rw[if_neg (by simp_all)];exact j
   cases f
  cases f
def Dc{P:Program}:∀{c:List Field}{b:List (Nat×Nat)},c.map (λx=>(x.offset,(P.info? x.type).map (·.size)))=b.map (λp=>(p.1,some p.2))->
  c.mapM (λf=>(P.info? f.type).map λi=>(f.offset,i.size))=some b
 |[],b,h=>by
  simp_all
 |f::c,b,h=>by
  cases b with
  |nil=>simp at h|cons p b=>
   simp only[List.map_cons,List.cons.injEq,Prod.mk.injEq]at h;obtain⟨⟨b,b⟩,c⟩:=h;have d:=Dc (P:=P) c
   cases c:P.info? f.type with
   |none=>rw[c]at b;cases b
   |some i=>
    simp_all
theorem jn(h:Ga C E σ a w)(L:GOK gl C.E0.H)(M:∀d,o.dst=some d->d<C.nt)(y:EB P T){t:Nat}{parts:Array (Nat×Operand)}(N:o.op=.build t parts){r:R}{O:Nat->Option Ob}
  (f:gA T note (σ.val gl) O o.dst (.build t parts)=some r):Sound P C E σ a w o r:=by
 simp only[gA]at f;split at f
 ·rename_i z pl Q S A u B;have c:=y t _ B;obtain⟨d,j,x⟩:=c.desc;simp only[JC]at x;obtain⟨Z,rfl,v,_⟩:=x
  cases k:UG z (iA u) (parts.toList.map λp=>(p.1,σ.val gl p.2))with
  |none=>rw[k]at f;cases f
  |some D=>
   rw[k]at f;simp only[Option.map_some,Option.some.injEq]at f;subst f;obtain⟨b,g,U,l,F⟩:=OW (gl:=gl) (fs:=z) (place:=λi=>z.toArray[i]?) (by simp) parts.toList (iA u) D A.cells
    (by rw[c.zlen];simp[iA];exact c.zc.symm) (RepVL.ofPv (RepL.mono (Hle.zero _) _ _ _ List.prefix_rfl c.zcells)) (by simp[wQ]) h L k
   refine Sound.pure h (v:=.agg b) (.inl ?_) ?_ (λm G=>F m (LS _ m G)) M trivial
   ·obtain⟨V,n,_,_,H⟩:=c.info;have W:P.built t (parts.toList.map λp=>(p.1,a.eval p.2))=some b:=by
     simp only[Program.built,n,j,H,Dc v];exact g
    have l:=run_build (P:=P) w t (parts.map λp=>(p.1,a.eval p.2)) b (by simp_all);simp only[execOp,N,Sem.run_bind];rw[l];rfl
   have:=KS (vs:=b.toList) (by omega) l;omega
 ·rename_i m e Q S A u B;have c:=y t _ B;obtain⟨d,j,x⟩:=c.desc;subst x;split at f
  ·rename_i s X;have I:=y e s X
   cases k:UG (eK s.size m 0) (iA u) (parts.toList.map λp=>(p.1,σ.val gl p.2))with
   |none=>rw[k]at f;cases f
   |some D=>
    rw[k]at f;simp only[Option.map_some,Option.some.injEq]at f;subst f;obtain⟨b,g,U,l,F⟩:=OW (gl:=gl) (fs:=eK s.size m 0) (place:=λi=>some (i*s.size,s.size)) (by
      intro i p Y;have:=um s.size m 0 i p Y;rw[this];simp) parts.toList (iA u) D A.cells
     (by rw[c.zlen];simp[iA];exact c.zc.symm) (RepVL.ofPv (RepL.mono (Hle.zero _) _ _ _ List.prefix_rfl c.zcells)) (by simp[wQ]) h L k
    refine Sound.pure h (v:=.agg b) (.inl ?_) ?_ (λm G=>F m (LS _ m G)) M trivial
    ·obtain⟨V,n,_,_,H⟩:=c.info;obtain⟨ie,J,K,_⟩:=I.info;have W:P.built t (parts.toList.map λp=>(p.1,a.eval p.2))=some b:=by
      simp only[Program.built,n,j,H,J,K];exact g
     have l:=run_build (P:=P) w t (parts.map λp=>(p.1,a.eval p.2)) b (by simp_all);simp only[execOp,N,Sem.run_bind];rw[l];rfl
    have:=KS (vs:=b.toList) (by omega) l;omega
  cases f
 cases f
end
theorem vn{E:Env}{x:V}{v:Value}(h:x.one=true)(a:RepV E x v):v.oneCell'=true:=by
 cases x with
 |undef=>grind[V.one]|pv p=>
  cases p with|agg c=>grind[V.one]|tuple c=>grind[V.one]|slice d=>obtain⟨_,_,rfl,_⟩:=a;rfl|ptr d=>obtain⟨_,_,rfl,_⟩:=a;rfl|iface t p=>obtain⟨_,rfl,_⟩:=a;rfl|nptr d=>obtain⟨_,_,rfl,_⟩:=a;rfl|num k n=>rw[a.1];rfl|str l=>rw[a.1];rfl|flg b=>obtain⟨_,rfl,_⟩:=a;rfl|_=>subst a;rfl
 |agg c=>grind[V.one]|tuple c=>grind[V.one]|fn f c=>obtain⟨_,rfl,_⟩:=a;rfl|bfn f c=>obtain⟨_,rfl,_⟩:=a;rfl|loc n off=>obtain⟨_,_,rfl⟩:=a;rfl|eloc n c i off=>obtain⟨_,⟨_,rfl⟩,_⟩:=a;rfl|arr n c len=>obtain⟨_,⟨_,_,_,rfl⟩,_⟩:=a;rfl|vsl d=>obtain⟨_,_,rfl,_⟩:=a;rfl|fsl d=>obtain⟨_,rfl,_⟩:=a;rfl|gsl n c d=>obtain⟨⟨_,_,rfl,_⟩,_⟩:=a;rfl|map n=>obtain⟨_,_,rfl⟩:=a;rfl
def PW{E:Env}:∀{b:List V}{d:List Value},b.all V.one=true->d.length=b.length->RepVL E b d->∀v∈d,v.oneCell'=true
 |[],[],_,_,_,v,a=>by simp at a|[],_::_,_,e,_,_,_=>by simp at e|c::b,[],_,_,_,v,a=>by simp at a|c::b,u::d,h,e,r,v,a=>by
  simp only[List.all_cons,Bool.and_eq_true]at h;simp only[RepVL]at r;rcases List.mem_cons.1 a with rfl|a
  ·grind[vn]
  exact PW h.2 (by simpa using e) r.2 v a
section
variable{P:Program}{C:Ctx}{E:Env}{σ:St}{a:Act}{w:World}{gl:Nat->Option (List PV)}{o:Oper}{T:Nat->Option TI}{note:gC}
def yn(f:HeapOK E w){g:Nat}(h:E.H g=[])(c:Array Value):HeapOK E (w.setRow g c):=by
 intro b d;have:b≠g:=λe=>d (e▸h)
 obtain⟨h,T,i,j,k⟩:=f b d;exact⟨h,T,i,by rw[setRow_other w g b c this];exact j,k⟩
def dQ{α:Type}(l b:List α)(off j:Nat)(h:off+b.length<=l.length:=by omega):
  (l.take off++b++l.drop (off+b.length))[j]? =if j<off then l[j]? else if j<off+b.length then b[j-off]? else l[j]?:=by
 grind
def Ga.setMark(h:Ga C E σ a w){g off k:Nat}{p c:Bool}{f:Array Value}(s:(E.H g)[off]? =some (mark p))(i:w.heap[g]? =some (.cells f k (0,0)))(z:c=true->p=true)
  {dst:Option Nat} {x:V} {v:Value} (t:RepV E x v) (j:∀m∈x.names,m∈σ.used) (y:∀d,dst=some d->d<C.nt):
  Ga C E ⟨WC dst x σ.slots,σ.objs,σ.used⟩ (a.put dst v) (w.setRow g (f.toList.take off++[Value.bool c]++f.toList.drop (off+1)).toArray):=by
 have r:E.H g≠[]:=by grind
 refine h.pureF E.H dst x v (Hle.refl _) (by simp) ⟨rfl,rfl,rfl⟩ (λb l=>⟨λn=>?_,rfl⟩) ?_ t j y
 ·by_cases e:b=g
  ·subst e;exact absurd rfl (n _ (List.mem_of_getElem? s) p)
  exact setRow_other w g b _ e
 intro b A;by_cases e:b=g
 ·subst e;obtain⟨t,j,y,j,n,B⟩:=h.heap b r;rw[i]at j;cases j;refine⟨_,k,(0,0),setRow_heap w b f _ k _ i,?_,.inl rfl⟩;obtain⟨i,i,_⟩:=n.2.2 off p s;have l:off<f.toList.length:=(List.getElem?_eq_some_iff.1 i).1;have k:∀i,(f.toList.take off++[Value.bool c]++f.toList.drop (off+1))[i]? =if i=off then some (.bool c)else f.toList[i]?:=by
   intro i;rw[show off+1=off+[Value.bool c].length from rfl,dQ _ _ _ _ (by simp at l⊢;omega)];by_cases f:i<off
   ·rw[if_pos f,if_neg (by omega)]
   rw[if_neg f];by_cases f:i=off
   ·subst f;simp
   rw[if_neg (by simp;omega),if_neg f]
  refine⟨?_,λi u f B r=>?_,λi q f=>?_⟩
  ·have:=n.1;simp at this l⊢;omega
  ·rw[k];have:i≠off:=by
    intro e;subst e;rw[s]at f;cases f;exact r p rfl
   rw[if_neg this];exact n.2.1 i u f B r
  rw[k];by_cases e:i=off
  ·subst e;rw[s]at f;have:=vc (Option.some.inj f);subst this;exact⟨c,by simp,z⟩
  rw[if_neg e];exact n.2.2 i q f
 obtain⟨t,T,y,j,n⟩:=h.heap b A;exact⟨t,T,y,by rw[setRow_other w g b _ e];exact j,n⟩
def Ga.setRow(h:Ga C E σ a w){n g p:Nat}{j ob':Ob}{f c:Array Value}(k:zA σ.objs n=some j)(l:j.gr=false)(t:CA (E.g n)=some g)(i:w.heap[g]? =some (.cells f p (0,0)))
  (p:ObOK E (w.setRow g c) n ob') (r:∀m∈ob'.names,m∈σ.used) {f:Option Nat} {x:V} {v:Value} (u:RepV E x v) (s:∀m∈x.names,m∈σ.used) (y:∀d,f=some d->d<C.nt):
  Ga C E ⟨WC f x σ.slots,tB σ.objs n ob',σ.used⟩ (a.put f v) (w.setRow g c):=by
 have i:=(h.objs n j k).free l t;refine h.change (E':=E) n (some ob') (tB σ.objs n ob') σ.used f x v (λm=>gD _ _ _ _) (Hle.refl _) (λ_ _=>⟨rfl,rfl,rfl⟩) (λ_=>EExt.refl _ _) (λ_=>⟨j,k⟩) (by simp) ⟨rfl,rfl,rfl⟩
  (λb f f=>⟨setRow_other w g b c (λe=>f j k (e▸t)),rfl⟩) (yn h.heap i c) ?_ ?_ (λ_ h=>h) u s y
 ·intro f e;cases e;exact⟨p,(h.usedO n j k).1,r⟩
 simp_all
def RepVL.iff:∀{cs:List V}{vs:List Value},RepVL E cs vs↔∀(j:Nat)(c:V),cs[j]? =some c->∃v,vs[j]? =some v/\RepV E c v
 |[],vs=>by simp[RepVL]|c::cs,[]=>by
  simp only[RepVL,false_iff];intro h;obtain⟨v,b,_⟩:=h 0 c rfl;simp at b
 |c::cs,v::vs=>by
  simp only[RepVL,RepVL.iff (cs:=cs) (vs:=vs)];constructor
  ·grind
  intro h;refine⟨?_,λj b d=>by simpa using h (j+1) b (by simp_all)⟩;obtain⟨b,b,b⟩:=h 0 c rfl;simp_all
def RepVE.iff{s:Nat}:∀{es:List (List V)}{vs:List Value},(∀e∈es,e.length=s)->(RepVE E es vs↔∀(i:Nat)(e:List V),es[i]? =some e->RepVL E e (vs.drop (i*s)))
 |[],vs,_=>by simp[RepVE]|e::es,vs,b=>by
  have c:e.length=s:=b e (by simp);simp only[RepVE,c,RepVE.iff (es:=es) (vs:=vs.drop s) (λx c=>b x (by simp[c])),List.drop_drop];constructor
  ·rintro⟨b,b⟩ i b c
   cases i with|zero=>simp_all|succ i=>grind
  intro h;refine⟨by simpa using h 0 e rfl,λi b c=>by simpa[Nat.succ_mul,Nat.add_comm]using h (i+1) b (by simp_all)⟩
theorem RepVE.put{s:Nat}{f:List (List V)}{h ys':List Value}{i off:Nat}{ys:List V}(r:RepVE E f h)(p:∀e∈f,e.length=s)(t:i<f.length)(b:off+ys.length<=s)(b:ys'.length=ys.length)
  (u:RepVL E ys ys') (b:(i+1)*s<=h.length):RepVE E (f.set i (ZD (f.getD i []) off ys)) (h.take (i*s+off)++ys'++h.drop (i*s+off+ys'.length)):=by
 have m:f[i]? =some (f.getD i []):=by rw[List.getD_eq_getElem?_getD,List.getElem?_eq_getElem t];simp
 have b:(f.getD i []).length=s:=p _ (List.mem_of_getElem? m);have n:(ZD (f.getD i []) off ys).length=s:=by rw[PS _ _ _,b]
 have b:(i+1)*s=i*s+s:=Nat.succ_mul i s;rw[RepVE.iff p]at r;rw[RepVE.iff (s:=s)]
 ·intro k e l;rw[RepVL.iff];intro j c d;rw[List.getElem?_drop,dQ h ys' (i*s+off) _];rw[List.getElem?_set]at l;by_cases g:i=k
  ·subst g;simp only[if_true,t]at l;cases l;have t:j<s:=by rw[<-n];exact(List.getElem?_eq_some_iff.1 d).1
   unfold ZD at d;rw[dQ _ _ _ _]at d;have b:∀c,(f.getD i [])[j]? =some c->∃v,h[i*s+j]? =some v/\RepV E c v:=by
    intro c f;have:=RepVL.iff.1 (r i _ m) j c f;simpa using this
   by_cases f:j<off
   ·rw[if_pos f]at d;rw[if_pos (by omega)];exact b c d
   rw[if_neg f]at d;rw[if_neg (by omega)];by_cases f:j<off+ys.length
   ·rw[if_pos f]at d;rw[if_pos (by omega)];have:=RepVL.iff.1 u (j-off) c d;rwa[show i*s+j-(i*s+off)=j-off by omega]
   rw[if_neg f]at d;rw[if_neg (by omega)];exact b c d
  simp only[g,if_false]at l;have t:j<s:=by rw[<-p e (List.mem_of_getElem? l)];exact(List.getElem?_eq_some_iff.1 d).1
  have b:=RepVL.iff.1 (r k e l) j c d;rw[List.getElem?_drop]at b;rcases Nat.lt_or_gt_of_ne g with d|f
  ·have g:(i+1)*s<=k*s:=Nat.mul_le_mul_right _ d;rw[if_neg (by omega),if_neg (by omega)];exact b
  have g:(k+1)*s<=i*s:=Nat.mul_le_mul_right _ f;have d:(k+1)*s=k*s+s:=Nat.succ_mul k s;rw[if_pos (by omega)];exact b
 intro e b;rcases List.mem_or_eq_of_mem_set b with b|b
 ·exact p e b
 rw[b];exact n
theorem dn(h:Ga C E σ a w)(hg:GOK gl C.E0.H)(hT:EB P T){t:Nat}{x y:Operand}(ho:o.op=.store t x y){r:R}(hc:r.cond)
  (A:gA T note (σ.val gl) (zA σ.objs) o.dst (.store t x y)=some r):Sound P C E σ a w o r:=by
 have K:=QA h hg x;have hy:=QA h hg y;have ny:=eC (gl:=gl) h y;simp only[gA]at A;split at A
 ·rename_i ti hdn et;have hd:∀d,o.dst=some d->d<C.nt:=by simp_all
  have hti:=hT t ti et;unfold cM at A;split at A
  ·cases A
  rename_i G ey;obtain⟨z,Z,hy3⟩:=OS ey hy;have M:∀(g off ty:Nat)(s:Array Value),a.eval x=.pointer (some ⟨g,off,none⟩)->w.heap[g]? =some (.cells s ty (0,0))->off+G.length<=s.size->G.length=ti.size->G.all V.one=true->
    OpRes P o a w undef (w.setRow g (s.toList.take off++(a.eval y).cells.toList++s.toList.drop (off+G.length)).toArray):=by
   intro g off ty s U hcur hle H hone;refine .inr ⟨?_,rfl⟩;have hst:=run_storeCells_at P g off ty (a.eval y).cells.toList 0 s w hcur (by simp_all) (PW hone (by omega) Z);simp only[Nat.add_zero,Array.length_toList,z]at hst;simp[execOp,ho,Instr.storeAt,Instr.sureAddr,U,storeVar,hti.run_size,z,H,hst]
  split at A
  ·rename_i n off ex;rw[ex]at K;split at A
   ·rename_i cs W;cases A;obtain⟨Q,I,hc3⟩:=hc;obtain⟨b,c,T',B,f,H,hr,F⟩:=id (h.objs n _ W);simp only[RepV]at K;obtain⟨b',D,U⟩:=K;rw[B]at D;cases D;refine⟨undef,_,E,M b off T' c U f (by omega) Q hc3,?_,trivial⟩;refine h.setRow (ob':=.box (ZD cs off G)) W rfl (by rw[B];rfl) f ⟨b,_,T',B,setRow_heap w b c _ T' _ f,?_,?_,F⟩ ?_ (by simp[RepV]) (by simp[V.names]) hd
    ·rw[PS cs G off I];simp[z];omega
    ·have:=Cc (E:=E) (vs:=c.toList) (us:=(a.eval y).cells.toList) (by simpa using H) (by simpa using z) I hr Z;simpa[z]using this
    intro m u;rcases NW cs G off m u with u|u
    ·exact(h.usedO n _ W).2 m u
    exact ny m (hy3 m u)
   cases A
  ·rename_i p cs ex;rw[ex]at K;simp only[RepV,RepP]at K;obtain⟨b,off,U,hr⟩:=K;split at A
   ·rename_i c ec;cases A;obtain⟨Q,I⟩:=hc;rw[ec]at hy ey;have hyv:=VG hy
    cases hdr:(E.H b).drop off with
    |nil=>rw[hdr]at hr;simp[RepK]at hr|cons m ms=>
     rw[hdr]at hr;simp only[RepK]at hr;have u:(E.H b)[off]? =some (mark p):=by
      have:=congrArg (λl=>l[0]?) hdr;simpa[hr.1]using this
     have hne:E.H b≠[]:=by intro e;rw[e]at u;cases u
     obtain⟨cc,T',fr,f,hpre,hfr⟩:=h.heap b hne;have hfr0:fr=(0,0):=by
      rcases hfr with e|e
      ·exact e
      obtain⟨k,n,e1,e2⟩:=e _ (List.mem_of_getElem? u);simp only[mark,Value.int.injEq]at e1;exact absurd e1.1.symm e2
     subst hfr0;obtain⟨c0,hc0,_⟩:=hpre.2.2 off p u;have hlt:off<cc.size:=by
      have:=(List.getElem?_eq_some_iff.1 hc0).1;simpa using this
     have hys:G.length=1:=by
      simp[XF]at ey;subst ey;rfl
     refine⟨undef,_,E,M b off T' cc U f (by omega) (by omega) (by simp[XF]at ey;subst ey;rfl),?_,trivial⟩;have:=h.setMark (c:=c) (dst:=o.dst) (x:=.undef) (v:=undef) u f I (by simp[RepV]) (by simp[V.names]) hd;have S:(a.eval y).cells.toList=[.bool c]:=by rw[hyv];rfl
     rw[S,hys];exact this
   cases A
  ·rename_i n ver i off ex;rw[ex]at K;split at A
   ·rename_i ver' v ty J W;cases A;obtain⟨rfl,hi,Q,I,hc3⟩:=hc;have hob:=h.objs n _ W;obtain⟨X,H,N,xs,Y,hrx,F⟩:=id hob;simp only[RepV]at K;obtain⟨_,_,K⟩:=K;obtain⟨b,L,cap,B,U,hlt⟩:=K X.symm;rcases Y.2 with ⟨e0,_⟩|⟨g,cap',s,D,hb0,f,hle,u,hcs,htake⟩
    ·rw[B]at e0;cases e0
    rw[B]at D;cases D;rw[H]at U;have hxl:xs.length=J.length*v:=Y.1;have hmul:(i+1)*v<=J.length*v:=Nat.mul_le_mul_right _ hi;have hmul2:J.length*v<=cap*v:=Nat.mul_le_mul_right _ hle;have hsucc:(i+1)*v=i*v+v:=Nat.succ_mul i v;have hfit:i*v+off+G.length<=s.size:=by rw[hcs];omega
    refine⟨undef,_,E,M b (i*v+off) ty s U f hfit Q hc3,?_,trivial⟩;have hput:=RepVE.put (ys:=G) (ys':=(a.eval y).cells.toList) hrx N hi I (by simpa using z) Z (by rw[hxl];exact hmul);have hge:J[i]? =some (J.getD i []):=by rw[List.getD_eq_getElem?_getD,List.getElem?_eq_getElem hi];simp
    have hel:(J.getD i []).length=v:=N _ (List.mem_of_getElem? hge);have hpl:(ZD (J.getD i []) off G).length=v:=by rw[PS _ _ _,hel]
    refine h.setRow (ob':=.arr ver v ty (J.set i (ZD (J.getD i []) off G))) W rfl (by rw[B];rfl) f ⟨X,H,?_,_,⟨?_,.inr ⟨b,cap,_,?_,hb0,setRow_heap w b s _ ty _ f,?_,u,?_,rfl⟩⟩,?_,F⟩ ?_ (by simp[RepV]) (by simp[V.names]) hd
    ·intro e O;rcases List.mem_or_eq_of_mem_set O with O|O
     ·exact N e O
     rw[O];exact hpl
    ·simp only[List.length_set,List.length_take,List.length_append,List.length_drop,Array.length_toList,z];omega
    ·simp[B]
    ·simpa using hle
    ·simp[z];omega
    ·have hcx:s.toList.take (J.length*v)=xs:=htake;simp only[List.length_set];have:(s.toList.take (i*v+off)++(a.eval y).cells.toList++s.toList.drop (i*v+off+G.length)).take (J.length*v)=
       xs.take (i*v+off)++(a.eval y).cells.toList++xs.drop (i*v+off+(a.eval y).cells.toList.length):=by
      have hyl:(a.eval y).cells.toList.length=G.length:=by simpa using z
      apply List.ext_getElem?;intro j;rw[List.getElem?_take,<-hyl,dQ _ _ _ _ (by simp;omega),dQ _ _ _ _];rw[<-hcx];simp only[List.getElem?_take];by_cases hj:j<J.length*v
      ·simp[hj]
      rw[if_neg hj,if_neg (by omega),if_neg (by omega),if_neg hj]
     rw[this];exact hput
    intro m u;obtain⟨e,O,u⟩:=mem_namesE.1 u;rcases List.mem_or_eq_of_mem_set O with O|O
    ·exact(h.usedO n _ W).2 m (mem_namesE.2 ⟨e,O,u⟩)
    subst O;rcases NW _ _ _ m u with u|u
    ·exact(h.usedO n _ W).2 m (mem_namesE.2 ⟨_,List.mem_of_getElem? hge,u⟩)
    exact ny m (hy3 m u)
   cases A
  cases A
 cases A
end
section
variable{P:Program}{C:Ctx}{E:Env}{σ:St}{a:Act}{w:World}{gl:Nat->Option (List PV)}{o:Oper}{T:Nat->Option TI}{note:gC}
def RepVE.cons{b:List V}{d:List (List V)}{c f:List Value}(g:c.length=b.length)(h:RepVL E b c)(j:RepVE E d f):RepVE E (b::d) (c++f):=by
 refine⟨RepVL.mono (Hle.refl _) b c _ (List.prefix_append _ _) (λn _=>EExt.refl E n) h,?_⟩;rw[<-g,List.drop_left];exact j
def Ec{size:Nat}(h:Ga C E σ a w)(I:GOK gl C.E0.H):∀(parts:List (Nat×Operand))(k:Nat)(g:List (List V))(cells:Array Value),
  tM k (parts.map λp=>(p.1,σ.val gl p.2))=some g->(∀e∈g,e.length=size)->(k+g.length)*size<=cells.size->
  ∃b A,Instr.fill (λi=>some (i*size,size)) cells (parts.map λp=>(p.1,a.eval p.2))=some b/\A.length=g.length*size/\RepVE E g A/\
   b.toList=cells.toList.take (k*size)++A++cells.toList.drop ((k+g.length)*size)/\∀n∈wB g,n∈σ.used
 |[],k,g,cells,j,_,s=>by
  simp only[List.map_nil,tM,Option.some.injEq]at j;subst j;exact⟨cells,[],rfl,by simp,by simp[RepVE],by simp,by simp[wB]⟩
 |(i,x)::parts,k,g,cells,j,l,s=>by
  simp only[List.map_cons,tM]at j;split at j
  ·rename_i F;subst F;split at j
   ·rename_i m c J K;cases j;have L:=QA h I x;obtain⟨y,M,N⟩:=OS J L;have d:m.length=size:=l m (by simp);have r:(i+(m::c).length)*size=i*size+size+c.length*size:=by
     simp only[List.length_cons,Nat.add_mul,Nat.one_mul];omega
    have f:(i+1+c.length)*size=i*size+size+c.length*size:=by
     simp only[Nat.add_mul,Nat.one_mul]
    have t:(i+1)*size=i*size+size:=Nat.succ_mul i size;rw[r]at s;have G:i*size+(a.eval x).cells.size<=cells.size:=by rw[y,d];omega
    have e:=MW (i*size) (a.eval x).cells.toList 0 cells (by simpa using G);simp only[Nat.add_zero]at e;have B:((a.eval x).cells.zipIdx.foldl (λm(p:Value×Nat)=>m.setIfInBounds (i*size+p.2) p.1) cells).toList=
      cells.toList.take (i*size)++(a.eval x).cells.toList++cells.toList.drop (i*size+(a.eval x).cells.toList.length):=by
     rw[<-Array.foldl_toList,Array.toList_zipIdx,e]
    have u:((a.eval x).cells.zipIdx.foldl (λm(p:Value×Nat)=>m.setIfInBounds (i*size+p.2) p.1) cells).size=cells.size:=by
     rw[<-Array.length_toList,B];simp;omega
    obtain⟨b,A,O,Q,R,S,H⟩:=Ec (size:=size) h I parts (i+1) c _ K (λe U=>l e (by simp[U])) (by rw[u,f];exact s);refine⟨b,(a.eval x).cells.toList++A,?_,?_,RepVE.cons (by simpa using y) M R,?_,?_⟩
    ·have v:¬((a.eval x).cells.size≠size\/i*size+(a.eval x).cells.size>cells.size):=by rw[y,d];omega
     simp only[List.map_cons,Instr.fill];rw[if_neg (by simpa using v)];exact O
    ·simp only[List.length_append,Array.length_toList,y,d,Q,List.length_cons,Nat.add_mul,Nat.one_mul];omega
    ·rw[S,B];have D:(cells.toList.take (i*size)++(a.eval x).cells.toList).length=(i+1)*size:=by simp[y,d];omega
     have W:(cells.toList.take (i*size)++(a.eval x).cells.toList++cells.toList.drop (i*size+(a.eval x).cells.toList.length)).take ((i+1)*size)=cells.toList.take (i*size)++(a.eval x).cells.toList:=by
      rw[<-D];exact List.take_left
     have X:(cells.toList.take (i*size)++(a.eval x).cells.toList++cells.toList.drop (i*size+(a.eval x).cells.toList.length)).drop ((i+1+c.length)*size)=cells.toList.drop ((i+(m::c).length)*size):=by
      rw[r,f,<-t,<-D,List.drop_append,List.drop_of_length_le (by omega),List.nil_append,List.drop_drop];congr 1;simp only[Array.length_toList,y,d];omega
     rw[W,X];simp
    intro n z;simp only[wB,List.mem_append]at z;rcases z with z|z
    ·exact eC h x n (N n z)
    exact H n z
   cases j
  cases j
def ln{t e len:Nat}{b:TI}(c:TIOK P e b)(f:P.underlying t=some (.slice e)){parts:Array (Nat×Value)}{cells:Array Value}(d:len*b.size<=16777216)
  (d:Instr.fill (λi=>some (i*b.size,b.size)) ((Array.range (len*b.size)).map (λj=>(if len*b.size=0 then #[]else b.zero.cells)[j%(if len*b.size=0 then #[]else b.zero.cells).size]!)) parts.toList=some cells):
  (Instr.buildSlice t len parts).run P w=.ok (.slice (some ⟨w.heap.size,0,none⟩) len len) (w.alloc (.cells cells e)):=by
 have g:¬(len*b.size>2^24):=by omega
 unfold Instr.buildSlice;simp only[Sem.run_bind,run_underlying f,Result.andThen_ok,c.run_size,if_neg g];by_cases f:len*b.size=0
 ·simp only[f,if_true]at d⊢;simp only[Sem.run_bind,Sem.run_pure,Result.andThen_ok,d];rfl
 simp only[f,if_false]at d⊢;simp only[Sem.run_bind,Sem.run_pure,Result.andThen_ok,c.run_zero,d];rfl
theorem mn(h:Ga C E σ a w)(hg:GOK gl C.E0.H)(hd:∀d,o.dst=some d->d<C.nt)(hT:EB P T){t len:Nat}{parts:Array (Nat×Operand)}(ho:o.op=.buildSlice t len parts){r:R}(X:r.cond){ob:Nat->Option Ob}
  (u:gA T note (σ.val gl) ob o.dst (.buildSlice t len parts)=some r) (S:∀n x,r.wr=some (n,x)->r.new=true->n∉σ.used):Sound P C E σ a w o r:=by
 simp only[gA]at u;split at u
 ·rename_i e s1 s2 s3 s4 et;obtain⟨d,Y,I⟩:=(hT t _ et).desc;simp only[JC]at I;subst I;split at u
  ·rename_i g ee;have Z:=hT e g ee;split at u
   ·rename_i c ep;have key:(c.length=len/\len<=16777216/\len*g.size<=16777216/\∀e∈c,e.length=g.size)->∃cells,cells.size=c.length*g.size/\RepVE E c cells.toList/\(∀n∈wB c,n∈σ.used)/\OpRes P o a w (.slice (some ⟨w.heap.size,0,none⟩) c.length c.length) (w.alloc (.cells cells e)):=by
     rintro⟨L,v,A,l⟩
     subst L;have B:∀zero:Array Value,∃cells M,Instr.fill (λi=>some (i*g.size,g.size)) ((Array.range (c.length*g.size)).map (λj=>zero[j%zero.size]!)) (parts.toList.map λp=>(p.1,a.eval p.2))=some cells/\M.length=c.length*g.size/\RepVE E c M/\cells.toList=M/\∀n∈wB c,n∈σ.used:=by
      intro zero;obtain⟨U,M,hf,hu,J,D,k⟩:=Ec (size:=g.size) h hg parts.toList 0 c ((Array.range (c.length*g.size)).map (λj=>zero[j%zero.size]!)) ep l (by simp)
      grind
     obtain⟨cells,M,hf,hu,J,D,k⟩:=B (if c.length*g.size=0 then #[]else g.zero.cells);refine⟨cells,by rw[<-Array.length_toList,D,hu],by rw[D];exact J,k,.inl ?_⟩;have f:=ln (P:=P) (w:=w) Z Y (parts:=parts.map λp=>(p.1,a.eval p.2)) A (by simp;omega);simp only[execOp,ho,Sem.run_bind];rw[f];rfl
    unfold EW at u;split at u
    ·rename_i n sz ty;cases u;have F:=S n _ rfl rfl;clear S;obtain⟨N,rfl,rfl⟩:=X;obtain⟨cells,y,J,k,f⟩:=key N;obtain⟨L,v,A,l⟩:=N;subst L;have G:c.length<=maxLen:=Nat.le_trans v (by simp[maxLen]);let s:Env:={H:=E.H,g:=λm=>if m=n then .slice (some ⟨w.heap.size,0,none⟩) c.length c.length else E.g m,ver:=λm=>if m=n then 0 else E.ver m,sz:=λm=>if m=n then g.size else E.sz m};have z:s.g n=.slice (some ⟨w.heap.size,0,none⟩) c.length c.length:=by simp[s]
     have O:s.ver n=0:=by simp[s]
     have hs':s.sz n=g.size:=by simp[s]
     have W:∀m,m≠n->s.g m=E.g m/\s.ver m=E.ver m/\s.sz m=E.sz m:=λm K=>⟨by grind,by grind,by grind⟩
     refine⟨_,_,s,f,?_,trivial⟩;refine h.change (E':=s) n (some (.arr 0 g.size ty c)) (tB σ.objs n (.arr 0 g.size ty c)) (n::σ.used) o.dst (.arr n 0 c.length) _ (λm=>gD _ _ _ _) (Hle.refl _) W (λI=>absurd I F) (λI=>absurd I F)
      (by simp) ⟨rfl,rfl,rfl⟩ (λb H _=>⟨heap_alloc_old w _ b H,rfl⟩) (bQ h.heap _ s rfl) ?_ ?_ (λm K=>by simp[K]) ?_ ?_ hd
     ·intro o' e;cases e;refine⟨⟨O,hs',l,cells.toList,?_,?_,?_⟩,by simp,λm K=>by simp[k m (by simpa[Ob.names]using K)]⟩
      ·rw[z];refine⟨by simpa using y,.inr ⟨w.heap.size,c.length,cells,rfl,Nat.zero_le _,heap_alloc_new w _,Nat.le_refl _,G,y,?_⟩⟩;rw[<-y,<-Array.length_toList,List.take_length]
      ·refine RepVE.mono (E:=E) (E':=s) (Hle.refl E.H) c _ _ List.prefix_rfl (λm K=>?_) J;have:m≠n:=λe=>F (e▸k m K)
       exact EExt.of_eq (W m this).1 (W m this).2.1 (W m this).2.2
      rw[z];intro b H;simp[Value.ownBlock]at H;subst H;exact h.heap.lt (Nat.le_refl _)
     ·intro o' b e H;rw[z]at H;simp[CA]at H;omega
     ·simp only[RepV,O,z];exact⟨Nat.le_refl _,⟨_,_,_,rfl⟩,λ_=>⟨_,_,_,rfl,rfl,Nat.le_refl _⟩⟩
     simp[V.names]
    cases u;obtain⟨cells,y,J,k,f⟩:=key X;obtain⟨L,v,A,l⟩:=X;subst L;have G:c.length<=maxLen:=Nat.le_trans v (by simp[maxLen]);refine Sound.newRow h hd (λH' hH Q=>?_) (λn S=>k n (pm c n S)) f;refine mm (E:={E with H:=H'}) (Nat.le_refl _) G ?_;show RepVE _ c (H' w.heap.size);rw[Q];exact RepVE.mono (E:=E) (E':={E with H:=H'}) hH c _ _ List.prefix_rfl (λn _=>EExt.of_eq rfl rfl rfl) J.sn
   cases u
  cases u
 cases u
end
section
variable{P:Program}{C:Ctx}{E:Env}{σ:St}{a:Act}{w:World}{gl:Nat->Option (List PV)}{o:Oper}{T:Nat->Option TI}{note:gC}
def rn(h:Ga C E σ a w)(s:∀d,o.dst=some d->d<C.nt){n f j:Nat}{c:Prop}(r:n∉σ.used)(i:o.op=.move (.const (.slice none 0 0))\/o.op=.assign (.const (.slice none 0 0))):
  Sound P C E σ a w o ⟨c,True,.arr n 0 0,some (n,.arr 0 f j []),true⟩:=by
 let c:Env:={H:=E.H,g:=λm=>if m=n then .slice none 0 0 else E.g m,ver:=λm=>if m=n then 0 else E.ver m,sz:=λm=>if m=n then f else E.sz m};have g:c.g n=.slice none 0 0:=by simp[c]
 have k:c.ver n=0:=by simp[c]
 have l:c.sz n=f:=by simp[c]
 have t:∀m,m≠n->c.g m=E.g m/\c.ver m=E.ver m/\c.sz m=E.sz m:=λm p=>⟨by grind,by grind,by grind⟩
 refine⟨.slice none 0 0,w,c,.inl ?_,?_,trivial⟩
 ·rcases i with i|i<;>simp[execOp,i,Act.eval]
 refine h.change (E':=c) n (some (.arr 0 f j [])) (tB σ.objs n (.arr 0 f j [])) (n::σ.used) o.dst (.arr n 0 0) _ (λm=>gD _ _ _ _) (Hle.refl _) t (λc=>absurd c r) (λc=>absurd c r)
  (Nat.le_refl _) ⟨rfl,rfl,rfl⟩ (λb c _=>⟨rfl,rfl⟩) h.heap ?_ ?_ (λm p=>by simp[p]) ?_ ?_ s
 ·intro f e;cases e;refine⟨⟨k,l,by simp,[],?_,by simp[RepVE],?_⟩,by simp,λm p=>by grind[Ob.names,wB]⟩
  ·rw[g];exact World.ownsRow_nil _ _ _ _
  rw[g];intro b c;simp[Value.ownBlock]at c
 ·grind[CA]
 ·grind[RepV]
 simp[V.names]
theorem RepVE.of{E:Env}:∀{b:List (List PV)}{c:List Value},RepE E.H b c->RepVE E (kA b) c
 :=by intro x;induction x<;>grind[kA,RepVE,RepE,RepVL.ofPv,iA]
def RepVE.append{E:Env}{s:Nat}:∀{c d:List (List V)}{b f:List Value},(∀e∈c,e.length=s)->b.length=c.length*s->RepVE E c b->RepVE E d f->RepVE E (c++d) (b++f)
 |[],d,b,f,_,g,_,r=>by
  have:b=[]:=List.eq_nil_of_length_eq_zero (by simpa using g);subst this;simpa using r
 |e::c,d,b,f,h,g,r,i=>by
  simp only[RepVE]at r;have d:e.length=s:=h e (by simp);have c:s<=b.length:=by rw[g];simp only[List.length_cons,Nat.succ_mul];omega
  simp only[List.cons_append,RepVE];refine⟨RepVL.mono (Hle.refl _) e b _ (List.prefix_append _ _) (λn _=>EExt.refl E n) r.1,?_⟩;rw[d,List.drop_append_of_le_length c];rw[d]at r;refine RepVE.append (λx b=>h x (by simp[b])) ?_ r.2 i;simp only[List.length_drop,g,List.length_cons,Nat.succ_mul];omega
def RepVE.takeE{E:Env}{s:Nat}:∀{b:List (List V)}{c:List Value},(∀e∈b,e.length=s)->RepVE E b c->∀i,RepVE E (b.take i) (c.take (i*s))
 |b,c,_,r,0=>by simp[RepVE]|[],c,_,r,i+1=>by simp[RepVE]|e::b,c,d,r,i+1=>by
  simp only[RepVE]at r;have c:e.length=s:=d e (by simp);have b:(i+1)*s=s+i*s:=by rw[Nat.succ_mul,Nat.add_comm]
  refine⟨?_,?_⟩
  ·have:=r.1.take s;rw[List.take_of_length_le (by omega)]at this;refine RepVL.mono (Hle.refl _) e _ _ ?_ (λn _=>EExt.refl E n) this;rw[b,List.take_add];exact List.prefix_append _ _
  rw[c]at r⊢;have:=RepVE.takeE (λx c=>d x (by simp[c])) r.2 i;rwa[b,List.drop_take,Nat.add_sub_cancel_left]
def fQ(h:Ga C E σ a w){es:List (List V)}{s:Nat}{b off:Nat}(k:RepVE E es ((E.H b).drop off))(i:∀e∈es,e.length=s)(f:es≠[])(g:0<s):
  ∃d,d.length=es.length*s/\RepVE E es d/\∀j u,d[j]? =some u->w.cell? ((⟨b,off,none⟩:Addr).add j)=some u:=by
 have d:∀(es:List (List V))(d:List Value),(∀e∈es,e.length=s)->RepVE E es d->es.length*s<=d.length:=by
  intro es
  induction es with
  |nil=>simp|cons e es j=>
   intro d i r;simp only[RepVE]at r;have d:=r.1.len
   grind[List.length_drop,List.length_cons,Nat.succ_mul]
 have d:0<es.length*s:=Nat.mul_pos (List.length_pos_iff.2 f) g;have f:E.H b≠[]:=by
  grind
 obtain⟨c,d,d,d,d,_⟩:=h.heap b f;have f:=d.1;refine⟨(c.toList.drop off).take (es.length*s),by grind,?_,?_⟩
 ·have:=RepVE.takeE i k es.length;rw[List.take_length]at this;exact this.msk ((d.drop off).take _)
 grind[IW]
def QW(E:Env)(d:List (List V))(v:Value):Prop:=
 (d=[]/\∃e c,v=.slice e 0 c)\/∃b off c,v=.slice (some ⟨b,off,none⟩) d.length c/\RepVE E d ((E.H b).drop off)
def gQ{y:V}{ys:List (List V)}{v:Value}(h:CH y=some ys)(e:RepV E y v):QW E ys v:=by
 unfold CH at h;split at h
 ·cases h;obtain⟨f,c,rfl,_,_,d⟩:=e;rcases d with rfl|⟨b,off,rfl,d⟩
  ·exact .inl ⟨rfl,_,_,rfl⟩
  exact .inr ⟨b,off,c,by simp[kA],RepVE.of d⟩
 ·cases h;exact .inl ⟨rfl,_,_,e⟩
 ·cases h;obtain⟨f,c,rfl,_,_,d⟩:=e;rcases d with rfl|⟨b,off,rfl,d⟩
  ·exact .inl ⟨rfl,_,_,rfl⟩
  exact .inr ⟨b,off,c,rfl,d⟩
 cases h
def tn{y:V}{b:List (List V)}(h:CH y=some b):∀n∈wB b,n∈y.names:=by
 unfold CH at h
 grind[lm,wB,V.names]
def Fc{t e:Nat}{d:TI}(b:TIOK P e d)(d:P.underlying t=some (.slice e)){ad ad':Option Addr}{len cap c ty:Nat}(f:len<=cap:=by omega):
  (Builtin.append_ #[t,t] ty #[.slice ad len cap,.slice ad' 0 c]).run P w=.ok (.slice ad len cap) w:=by
 cases ad<;>cases ad'<;>simp[Builtin.append_,run_underlying d,b.run_size,Builtin.lenOf,Builtin.firstCells,loadCells,loadCellsFrom,storeCells,f]
def Gc(h:Ga C E σ a w){t e:Nat}{m:TI}(Y:TIOK P e m)(M:P.underlying t=some (.slice e)){len i Z ty' cap:Nat}{A:List (List V)}{ad:Option Addr}{F:List Value}(I:w.ownsRow 0 Z i (.slice ad A.length cap) A.length F)
  (hrx:RepVE E A F) (R:∀e∈A,e.length=i) (hle:len<=A.length) (hlc:A.length<=cap) (hm:A.length<=maxLen) {v:Value}
  {f:List (List V)} (hv:QW E f v) (hty:Z=e) (hsz:i=m.size) (hs0:0<i) (hys:∀y∈f,y.length=i) (hone:∀y∈f,y.all V.one=true)
  (S:len+f.length<=maxLen) (hby:(len+f.length)*m.bytes<=140737488355328):
  ∃u' w' xs',(Builtin.append_ #[t,t] ty' #[.slice ad len cap,v]).run P w=.ok u' w'/\w'.ownsRow 0 Z i u' (len+f.length) xs'/\RepVE E (A.take len++f) xs'/\(∃d,xs'=F.take (len*i)++d)/\
   w.heap.size<=w'.heap.size/\(w'.os=w.os/\w'.tape=w.tape/\w'.output=w.output)/\(∀b,b<w.heap.size->CA u'≠some b->w'.heap[b]? =w.heap[b]?)/\(∀b,CA u'=some b->w.heap.size<=b\/CA (.slice ad len cap)=some b):=by
 have hlen':∀e∈A.take len,e.length=i:=λe he=>R e (List.mem_of_mem_take he)
 have hxs:RepVE E (A.take len) (F.take (len*i)):=hrx.takeE R len;have J:(F.take (len*i)).length=len*i:=by
  have:=I.1;have hm2:len*i<=A.length*i:=Nat.mul_le_mul_right _ hle;simp;omega
 have htl:(A.take len).length=len:=by simp;omega
 obtain⟨N,n,k,U,hiz⟩:=Y.info;by_cases O:f=[]
 ·subst O;have hvv:∃ad' c,v=.slice ad' 0 c:=by
   rcases hv with ⟨_,h⟩|⟨b,off,c,rfl,_⟩
   ·exact h
   exact⟨_,c,rfl⟩
  obtain⟨ad',c,rfl⟩:=hvv;refine⟨_,w,F.take (len*i),Fc Y M,?_,by simpa using hxs,⟨[],by simp⟩,Nat.le_refl _,⟨rfl,rfl,rfl⟩,λ_ _ _=>rfl,λb H=>.inr H⟩;simp only[List.length_nil,Nat.add_zero];refine⟨J,?_⟩;rcases I.2 with ⟨K,h0⟩|⟨g,cap',G,K,hb0,hc,h1,h2,h3,h4⟩
  ·simp only[Value.slice.injEq]at K;obtain⟨rfl,e1,rfl⟩:=K;left;have:len=0:=by omega
   exact⟨by rw[this],this⟩
  cases K;right;refine⟨g,cap,G,rfl,hb0,hc,by omega,h2,h3,?_⟩;rw[<-h4,List.take_take,Nat.min_eq_left];exact Nat.mul_le_mul_right _ hle
 have hv:∃b off c,v=.slice (some ⟨b,off,none⟩) f.length c/\RepVE E f ((E.H b).drop off):=by
  rcases hv with ⟨K,_⟩|hv
  ·exact absurd K O
  exact hv
 obtain⟨b',L,c',rfl,hsrc⟩:=hv;obtain⟨d,p,hnr,l⟩:=fQ h hsrc hys O hs0;have hnone:∀u∈d,u.oneCell'=true:=by
  have key:∀(f:List (List V))(d:List Value),(∀y∈f,y.length=i)->(∀y∈f,y.all V.one=true)->d.length=f.length*i->RepVE E f d->∀u∈d,u.oneCell'=true:=by
   intro f
   induction f with
   |nil=>
    intro d _ _ hl _ u W;have:d=[]:=List.eq_nil_of_length_eq_zero (by simpa using hl);subst this;simp at W
   |cons y f ih=>
    intro d h1 h2 hl r u W;simp only[RepVE]at r;have hy:y.length=i:=h1 y (by simp);have hl':d.length=i+f.length*i:=by rw[hl];simp only[List.length_cons,Nat.succ_mul];omega
    rw[<-List.take_append_drop i d]at W;rcases List.mem_append.1 W with W|W
    ·have X:=r.1.take i;rw[List.take_of_length_le (by omega)]at X;exact PW (E:=E) (h2 y (by simp)) (by simp;omega) X u W
    rw[hy]at r;exact ih (d.drop i) (λx hx=>h1 x (by simp[hx])) (λx hx=>h2 x (by simp[hx])) (by simp;omega) r.2 u W
  exact key f d hys hone p hnr
 have B:RepVE E (A.take len++f) (F.take (len*i)++d):=RepVE.append (s:=i) hlen' (by rw[J,htl]) hxs hnr;have Q:(F.take (len*i)++d).length=(len+f.length)*i:=by rw[List.length_append,J,p,Nat.add_mul]
 have hpos:0<f.length:=List.length_pos_iff.2 O;have hsmall:len+f.length<=9223372036854775807:=by simp only[maxLen]at S;omega
 have hzc:m.zero.cells.size=i:=by rw[Y.zlen,hsz]
 have D:∀s,s<len+f.length->
   (w.drew.alloc (.cells ((F.take (len*i)).toArray++d.toArray++Builtin.zeroCells m.zero.cells (grownCap w (len+f.length) s e-(len+f.length))) e)).ownsRow 0 e i
    (.slice (some ⟨w.heap.size,0,none⟩) (len+f.length) (grownCap w (len+f.length) s e)) (len+f.length) (F.take (len*i)++d):=by
  intro s ho;have hge:=grownCap_ge w (len+f.length) s e;have hcm:grownCap w (len+f.length) s e<=maxLen:=grownCap_le_maxLen w (len+f.length) s e S;refine⟨Q,.inr ⟨w.heap.size,_,_,rfl,Nat.zero_le _,heap_alloc_new w.drew _,hge,hcm,?_,?_⟩⟩
  ·simp only[Array.size_append,List.size_toArray,size_zeroCells,hzc,J,p,<-Nat.add_mul];congr 1;omega
  simp only[Array.toList_append];rw[<-Q];exact List.take_left
 subst hty hsz;rcases I.2 with ⟨K,h0⟩|⟨g,cap',G,K,hb0,hc,h1,h2,h3,h4⟩
 ·simp only[Value.slice.injEq]at K;obtain⟨rfl,e1,rfl⟩:=K;have hl0:len=0:=by omega
  subst hl0;have X:=run_append_nil (P:=P) w t ty' Z N m.zero M n hiz ⟨b',L,none⟩ f.length c' d (by rw[k];exact p) l hpos (by omega) (by rw[U];simp at hby;omega);have hgr:=D 0 (by omega);simp only[Nat.zero_add,Nat.zero_mul,List.take_zero,List.nil_append,Array.empty_append]at hgr B⊢;refine⟨_,_,_,by rw[X],hgr,B,⟨_,rfl⟩,by simp,⟨rfl,rfl,rfl⟩,λb H _=>heap_alloc_old w.drew _ b H,λb H=>?_⟩;simp[CA]at H;omega
 cases K;by_cases z:len+f.length<=cap
 ·have hml:len*m.size<=A.length*m.size:=Nat.mul_le_mul_right _ hle;have hmr:(len+f.length)*m.size<=cap*m.size:=Nat.mul_le_mul_right _ z;rw[Nat.add_mul]at hmr;have hfit:len*N.size+d.length<=G.size:=by rw[p,h3,k];exact hmr
  have X:=run_append_room (P:=P) w t ty' Z N M n g len cap G hc ⟨b',L,none⟩ f.length c' d (by rw[k];exact p) l hnone z hfit;refine⟨_,_,_,X,⟨Q,.inr ⟨g,cap,_,rfl,hb0,setRow_heap w g G _ Z _ hc,z,h2,?_,?_⟩⟩,B,⟨_,rfl⟩,by simp,⟨rfl,rfl,rfl⟩,λb H hne=>setRow_other w g b _ (λe=>hne (by simp[CA,e])),λb H=>.inr H⟩
  ·simp only[List.size_toArray,List.length_append,List.length_take,List.length_drop,Array.length_toList];omega
  have:F.take (len*m.size)=G.toList.take (len*m.size):=by
   rw[<-h4,List.take_take,Nat.min_eq_left hml]
  rw[k,<-this,<-Q];exact List.take_left
 have holds:∀j u,(F.take (len*m.size))[j]? =some u->w.cell? ((⟨g,0,none⟩:Addr).add j)=some u:=by
  intro j u hj;rw[IW hc,Nat.zero_add];rw[List.getElem?_take]at hj;split at hj
  ·rw[<-h4,List.getElem?_take]at hj;split at hj
   ·simpa using hj
   cases hj
  cases hj
 have X:=run_append_grow (P:=P) w t ty' Z N m.zero M n hiz ⟨g,0,none⟩ len cap (F.take (len*m.size)) (by rw[k];exact J) holds ⟨b',L,none⟩ f.length c' d (by rw[k];exact p) l (by omega) (by omega) (growslice_fits (by omega) (by rw[U];exact hby));refine⟨_,_,_,X,D cap (by omega),B,⟨_,rfl⟩,by simp,⟨rfl,rfl,rfl⟩,λb H _=>heap_alloc_old w.drew _ b H,λb H=>?_⟩;simp[CA]at H;omega
def xn(h:Ga C E σ a w){t e:Nat}{k:TI}(l:TIOK P e k)(m:P.underlying t=some (.slice e)){n c len f p ty':Nat}{D:List (List V)}(g:ObOK E w n (.arr c f p D)){u v:Value}
  (F:RepV E (.arr n c len) u) {d:List (List V)} (G:QW E d v) (r:p=e) (s:f=k.size) (x:0<f) (z:∀y∈d,y.length=f) (i:∀y∈d,y.all V.one=true)
  (j:len+d.length<=maxLen) (A:(len+d.length)*k.bytes<=140737488355328):
  ∃k c B,(Builtin.append_ #[t,t] ty' #[u,v]).run P w=.ok k c/\c.ownsRow 0 p f k (len+d.length) B/\RepVE E (D.take len++d) B/\
   w.heap.size<=c.heap.size/\(c.os=w.os/\c.tape=w.tape/\c.output=w.output)/\(∀b,b<w.heap.size->CA u≠some b->c.heap[b]? =w.heap[b]?)/\(∀b,CA k=some b->w.heap.size<=b\/CA u=some b):=by
 obtain⟨d,d,f,B,d,p,t⟩:=id g;obtain⟨t,cap,t,B,B,D,H⟩:=NS g F;rw[t]at d;obtain⟨k,c,c,c,c,c,_,c⟩:=Gc (ty':=ty') h l m d p f B D H G r s x z i j A
 grind
def lQ{t:Nat}{x y:Operand}(c:o.op=.call {callee:=.builtin .append,args:=#[x,y],argTypes:=#[t,t]}){v:Value}{b:World}
  (h:(Builtin.append_ #[t,t] o.type #[a.eval x,a.eval y]).run P w=.ok v b):OpRes P o a w v b:=by
 refine .inl ?_;simp only[execOp,c,resolve,invoke,builtin,Sem.run_bind,Sem.run_pure,Result.andThen_ok,List.map_toArray,List.map_cons,List.map_nil,h]
def Hc(l:List (Nat×Ob))(n:Nat)(x y:Ob):tB (tB l n x) n y=tB l n y:=by
 induction l with
 |nil=>simp[tB]|cons p r b=>
  grind[tB]
def An(h:Ga C E σ a w){n sz ty:Nat}(k:n∉σ.used):∃c,Ga C c ⟨σ.slots,tB σ.objs n (.arr 0 sz ty []),n::σ.used⟩ a w/\RepV c (.arr n 0 0) (.slice none 0 0):=by
 let c:Env:={H:=E.H,g:=λm=>if m=n then .slice none 0 0 else E.g m,ver:=λm=>if m=n then 0 else E.ver m,sz:=λm=>if m=n then sz else E.sz m};have f:c.g n=.slice none 0 0:=by simp[c]
 have g:c.ver n=0:=by simp[c]
 have i:c.sz n=sz:=by simp[c]
 have l:∀m,m≠n->c.g m=E.g m/\c.ver m=E.ver m/\c.sz m=E.sz m:=λm j=>⟨by grind,by grind,by grind⟩
 refine⟨c,?_,?_⟩
 ·refine h.change (E':=c) n (some (.arr 0 sz ty [])) (tB σ.objs n (.arr 0 sz ty [])) (n::σ.used) none .undef (.slice none 0 0) (λm=>gD _ _ _ _) (Hle.refl _) l (λc=>absurd c k) (λc=>absurd c k)
   (Nat.le_refl _) ⟨rfl,rfl,rfl⟩ (λb c _=>⟨rfl,rfl⟩) h.heap ?_ ?_ (λm j=>by simp[j]) ?_ ?_ (λd k=>by cases k)
  ·intro k e;cases e;refine⟨⟨g,i,by simp,[],?_,by simp[RepVE],?_⟩,by simp,λm j=>by grind[Ob.names,wB]⟩
   ·rw[f];exact World.ownsRow_nil _ _ _ _
   rw[f];intro b c;simp[Value.ownBlock]at c
  ·grind[CA]
  ·simp[RepV]
  simp[V.names]
 grind[RepV]
def Ic(h:Ga C E σ a w)(hd:∀d,o.dst=some d->d<C.nt){t e:Nat}{te:TI}(hte:TIOK P e te)(hde:P.underlying t=some (.slice e)){x y:Operand}
  (ho:o.op=.call {callee:=.builtin .append,args:=#[x,y],argTypes:=#[t,t]}) {n ver len sz ty:Nat} {es ys:List (List V)} {yv:V} (K:zA σ.objs n=some (.arr ver sz ty es)) (hx:RepV E (.arr n ver len) (a.eval x))
  (nx:∀m∈(V.arr n ver len).names,m∈σ.used) (L:CH yv=some ys) (hy:RepV E yv (a.eval y)) (ny:∀m∈yv.names,m∈σ.used) (hle:len<=es.length) (hty:ty=e) (hsz:sz=te.size) (hs0:0<sz) (M:∀y∈ys,y.length=sz)
  (N:∀y∈ys,y.all V.one=true) (O:len+ys.length<=maxLen) (hby:(len+ys.length)*te.bytes<=140737488355328) {cd:Prop}:
  Sound P C E σ a w o ⟨cd,True,.arr n (ver+1) (len+ys.length),some (n,.arr (ver+1) sz ty (es.take len++ys)),false⟩:=by
 have p:=h.objs n _ K;have hyv:=gQ L hy;have hyn:=tn L;obtain⟨z,w',xs,Q,D,hrx,F,G,r,s⟩:=xn (ty':=o.type) h hte hde p hx hyv hty hsz hs0 M N O hby;obtain⟨hver,R,S,_,_,_,_⟩:=id p;obtain⟨ad,cap,U,hu,hle',hlc,u⟩:=NS p hx;have hbu:CA (a.eval x)=CA (E.g n):=by rw[hu,U];cases ad<;>rfl
 rw[hbu]at r s;let j:Env:={H:=E.H,g:=λm=>if m=n then z else E.g m,ver:=λm=>if m=n then ver+1 else E.ver m,sz:=E.sz};have A:j.g n=z:=by simp[j]
 have H:j.ver n=ver+1:=by simp[j]
 have Y:∀m,m≠n->j.g m=E.g m/\j.ver m=E.ver m/\j.sz m=E.sz m:=λm u=>⟨by simp[j,u],by simp[j,u],rfl⟩
 have W:∀m,EExt E j m:=by
  intro m;by_cases Z:m=n
  ·subst Z;exact⟨rfl,.inr ⟨by rw[H];omega,_,_,_,U⟩⟩
  exact EExt.of_eq (Y m Z).1 (Y m Z).2.1 (Y m Z).2.2
 have B:∀b,CA z=some b->E.H b=[]:=by
  intro b i;rcases s b i with I|J
  ·exact h.heap.lt I
  exact p.free rfl J
 have X:∀b,z.ownBlock=some b->CA z=some b:=by
  intro b i;revert i;cases z<;>simp[Value.ownBlock,CA];rename_i a' _ _;cases a'<;>simp
 have htl:(es.take len).length=len:=by simp;omega
 refine⟨z,w',j,lQ ho Q,?_,trivial⟩;refine h.change (E':=j) n (some (.arr (ver+1) sz ty (es.take len++ys))) _ σ.used o.dst _ z (λm=>gD _ _ _ _) (Hle.refl _) Y (λ_=>W n) (λ_=>⟨_,K⟩) F G
  (λb i hne=>⟨r b i (hne _ K),rfl⟩) ?_ ?_ ?_ (λ_ h=>h) ?_ ?_ hd
 ·intro b i;obtain⟨c,T',fr,v,hp⟩:=h.heap b i;refine⟨c,T',fr,?_,hp⟩;rw[r b (Array.getElem?_eq_some_iff.1 v).1 (λe=>i (p.free rfl e))];exact v
 ·intro o' e0;cases e0;refine⟨⟨H,R,?_,xs,?_,?_,?_⟩,(h.usedO n _ K).1,?_⟩
  ·intro k f;rcases List.mem_append.1 f with f|f
   ·exact S k (List.mem_of_mem_take f)
   exact M k f
  ·rw[A];have:(es.take len++ys).length=len+ys.length:=by rw[List.length_append,htl]
   rw[this];exact D
  ·exact RepVE.mono (E:=E) (E':=j) (Hle.refl E.H) _ _ _ List.prefix_rfl (λm _=>W m) hrx
  ·intro b i;rw[A]at i;exact B b (X b i)
  intro m u;simp only[Ob.names]at u;obtain⟨k,f,u⟩:=mem_namesE.1 u;rcases List.mem_append.1 f with f|f
  ·exact(h.usedO n _ K).2 m (mem_namesE.2 ⟨k,List.mem_of_mem_take f,u⟩)
  exact ny m (hyn m (mem_namesE.2 ⟨k,f,u⟩))
 ·intro o' b e0 i;rw[A]at i;rcases s b i with I|J
  ·exact .inl I
  exact .inr ⟨J,_,K⟩
 ·simp only[RepV,H,A];have hsl:∃a l c,z=.slice a l c/\l=len+ys.length:=by
   rcases D.2 with ⟨k,e2⟩|⟨g,cap',cur,k,_⟩
   ·exact⟨none,0,0,k,e2.symm⟩
   exact⟨_,_,_,k,rfl⟩
  obtain⟨a',l',c',k,e2⟩:=hsl;refine⟨Nat.le_refl _,⟨a',l',c',k⟩,λ_=>⟨a',l',c',k,?_,?_⟩⟩
  ·rw[k,e2]
  omega
 intro m u;exact nx m u
def Bn(h:Ga C E σ a w){n sz ty:Nat}(k:n∉σ.used):∃c,Ga C c ⟨σ.slots,tB σ.objs n (.grow 0 sz ty []),n::σ.used⟩ a w/\RepV c (.gsl n 0 []) (.slice none 0 0):=by
 let c:Env:={H:=E.H,g:=λm=>if m=n then .slice none 0 0 else E.g m,ver:=λm=>if m=n then 0 else E.ver m,sz:=λm=>if m=n then sz else E.sz m};have f:c.g n=.slice none 0 0:=by simp[c]
 have g:c.ver n=0:=by simp[c]
 have i:c.sz n=sz:=by simp[c]
 have l:∀m,m≠n->c.g m=E.g m/\c.ver m=E.ver m/\c.sz m=E.sz m:=λm j=>⟨by grind,by grind,by grind⟩
 refine⟨c,?_,?_⟩
 ·refine h.change (E':=c) n (some (.grow 0 sz ty [])) (tB σ.objs n (.grow 0 sz ty [])) (n::σ.used) none .undef (.slice none 0 0) (λm=>gD _ _ _ _) (Hle.refl _) l (λc=>absurd c k) (λc=>absurd c k)
   (Nat.le_refl _) ⟨rfl,rfl,rfl⟩ (λb c _=>⟨rfl,rfl⟩) h.heap ?_ ?_ (λm j=>by simp[j]) ?_ ?_ (λd k=>by cases k)
  ·intro k e;cases e;refine⟨⟨g,i,by simp,[],?_,by simp[RepE],?_⟩,by simp,λm j=>by grind[Ob.names]⟩
   ·rw[f];exact World.ownsRow_nil _ _ _ _
   rw[f];intro b c;simp[Value.ownBlock]at c
  ·intro k b e c;rw[f]at c;simp[CA]at c
  ·simp[RepV]
  simp[V.names]
 simp only[RepV,RepP,g,f];exact⟨⟨none,0,rfl,Nat.le_refl _,Nat.zero_le _,.inl trivial⟩,Nat.le_refl _,λ_=>trivial⟩
def Msk.pre{l m r:List Value}(h:Msk l m):Msk l (m++r):=by
 obtain⟨c,d,c⟩:=h;refine⟨by simp;omega,λi v c e f=>?_,λi b c=>?_⟩
 ·have:=d i v c e f;rw[List.getElem?_append_left (List.getElem?_eq_some_iff.1 this).1];exact this
 grind
def Cn{u:Value}{b:Nat}(h:u.ownBlock=some b):CA u=some b:=by
 revert h;cases u<;>simp[Value.ownBlock,CA]
 grind
def Jc(h:Ga C E σ a w)(hd:∀d,o.dst=some d->d<C.nt){t e:Nat}{f:TI}(F:TIOK P e f)(M:P.underlying t=some (.slice e)){x y:Operand}
  (ho:o.op=.call {callee:=.builtin .append,args:=#[x,y],argTypes:=#[t,t]}) {n ver sz ty:Nat} {es0 es ys:List (List PV)} (Q:zA σ.objs n=some (.grow ver sz ty es)) (g:RepV E (.gsl n ver es0) (a.eval x))
  (g:RepV E (.pv (.slice ys)) (a.eval y)) (N:ty=e) (O:sz=f.size) (Y:0<sz) (R:∀y∈ys,y.length=sz)
  (D:∀y∈kA ys,y.all V.one=true) (p:es.length+ys.length<=maxLen) (Z:(es.length+ys.length)*f.bytes<=140737488355328) {cd:Prop}:
  Sound P C E σ a w o ⟨cd,True,.gsl n (ver+1) (es++ys),some (n,.grow (ver+1) sz ty (es++ys)),false⟩:=by
 have f:=h.objs n _ Q;have hyv:=gQ (y:=.pv (.slice ys)) (ys:=kA ys) rfl g;obtain⟨i,S,G,k,r,hrx,hf⟩:=id f;have hx':E.g n=a.eval x:=by grind[RepV]
 have pl:∀l:List (List PV),(∀e∈l,e.length=sz)->∀e∈kA l,e.length=sz:=λl f e f=>by
  obtain⟨y,g,rfl⟩:=List.mem_map.1 f
  grind[iA]
 have u:∀l:List (List PV),(kA l).length=l.length:=λl=>by simp[kA]
 have j:∃U cap,E.g n=.slice U es.length cap/\es.length<=cap/\es.length<=maxLen:=by
  rcases r.2 with ⟨i,I⟩|⟨g,cap,B,i,_,_,W,h2,_⟩
  ·grind
  grind
 obtain⟨U,cap,j,hlc,J⟩:=j;have A:w.ownsRow 0 ty sz (.slice U (kA es).length cap) (kA es).length k:=by rw[u,<-j];exact r
 obtain⟨z,w',s,X,f,l,⟨k,t⟩,K,L,H,k⟩:=Gc (ty':=o.type) (len:=es.length) h F M A (RepVE.of hrx) (pl es G) (by rw[u];omega) (by rw[u];exact hlc) (by rw[u];exact J) hyv N O Y (pl ys R) D (by rw[u];exact p) (by rw[u];exact Z);rw[u]at f;rw[List.take_of_length_le (by rw[u];omega),show kA es++kA ys=kA (es++ys) by simp[kA]]at l;have Y:RepE E.H (es++ys) s:=RepVE.toPv (cK _) l;rw[List.take_of_length_le (by rw[r.1];omega)]at t;have l:CA (.slice U es.length cap)=CA (E.g n):=by rw[j]
 rw[l]at k;let A:Hp:=λb=>if CA z=some b then s.map sn else E.H b
 let r:Env:={H:=A,g:=λm=>if m=n then z else E.g m,ver:=λm=>if m=n then ver+1 else E.ver m,sz:=E.sz};have D:r.g n=z:=by simp[r]
 have M:r.ver n=ver+1:=by simp[r]
 have F:∀b,CA z=some b->A b=s.map sn:=λb l=>by grind
 have N:∀b,CA z≠some b->A b=E.H b:=λb l=>by grind
 have hE:∀m,m≠n->r.g m=E.g m/\r.ver m=E.ver m/\r.sz m=E.sz m:=λm J=>⟨by grind,by grind,rfl⟩
 have Z:EExt E r n:=⟨rfl,.inr ⟨by rw[M];omega,_,_,_,j⟩⟩;have hH:Hle E.H r.H:=by
  intro b;show E.H b<+:A b;by_cases l:CA z=some b
  ·rw[F b l];rcases k b l with O|u
   ·rw[h.heap.lt O];exact List.nil_prefix
   rw[hf b (by rw[j]at u⊢;cases U<;>simp[CA,Value.ownBlock]at u⊢<;>exact u),t,List.map_append];exact List.prefix_append _ _
  simp_all
 refine⟨z,w',r,lQ ho (by rw[<-hx',j];exact X),?_,trivial⟩;refine h.change (E':=r) n (some (.grow (ver+1) sz ty (es++ys))) _ σ.used o.dst _ z (λm=>gD _ _ _ _) hH hE (λ_=>Z) (λ_=>⟨_,Q⟩) K L ?_ ?_ ?_ ?_ (λ_ h=>h) ?_ ?_ hd
 ·intro b l j;have j:CA z≠some b:=λe=>by
   rcases k b e with W|W
   ·omega
   exact j _ Q W
  exact⟨H b l j,N b j⟩
 ·intro b l;by_cases i:CA z=some b
  ·show∃c T z,_/\Msk (A b) _/\_;rw[F b i];rcases f.2 with ⟨I,_⟩|⟨g,r,B,I,_,j,_,_,_,t⟩
   ·rw[I]at i;simp[CA]at i
   have:g=b:=by rw[I]at i;simpa[CA]using i
   subst this;refine⟨B,ty,(0,0),j,?_,.inl rfl⟩;rw[<-List.take_append_drop ((es.length+ys.length)*sz) B.toList,t];exact(Msk.sn s).pre
  have t:E.H b≠[]:=by
   have:A b≠[]:=l;rwa[N b i]at this
  obtain⟨c,K,z,j,L⟩:=h.heap b t;refine⟨c,K,z,?_,by show Msk (A b) _/\(_\/∀v∈A b,_);rw[N b i];exact L⟩;rw[H b (Array.getElem?_eq_some_iff.1 j).1 i];exact j
 ·intro z t;cases t;refine⟨⟨M,S,?_,s,?_,?_,?_⟩,(h.usedO n _ Q).1,λm J=>by simp[Ob.names]at J⟩
  ·intro i j;rcases List.mem_append.1 j with j|j
   ·exact G i j
   exact R i j
  ·rw[D,List.length_append];exact f
  ·exact RepE.mono hH _ _ _ List.prefix_rfl Y
  intro b l;rw[D]at l;exact F b (Cn l)
 ·intro z b t l;rw[D]at l;rcases k b l with O|u
  ·exact .inl O
  exact .inr ⟨u,_,Q⟩
 ·simp only[RepV,RepP,M,D];refine⟨?_,Nat.le_refl _,λ_=>trivial⟩;rw[List.length_append];rcases f.2 with ⟨i,I⟩|⟨g,r,B,i,_,_,W,h2,_⟩
  ·exact⟨none,0,by rw[i,I],by omega,p,.inl (List.eq_nil_of_length_eq_zero (by rw[List.length_append];exact I))⟩
  refine⟨_,r,i,W,p,.inr ⟨g,0,rfl,?_⟩⟩;show RepE A _ ((A g).drop 0);rw[List.drop_zero,F g (by rw[i];rfl)];exact RepE.mono hH _ _ _ List.prefix_rfl Y.sn
 intro m J;simp only[V.names,List.mem_singleton]at J;subst J;exact(h.usedO m _ Q).1
def Dn(h:Ga C E σ a w)(hd:∀d,o.dst=some d->d<C.nt){t e:Nat}{k:TI}(g:TIOK P e k)(L:P.underlying t=some (.slice e)){x y:Operand}(ho:o.op=.call {callee:=.builtin .append,args:=#[x,y],argTypes:=#[t,t]})
  {c f:List (List PV)} (U:RepV E (.fsl c) (a.eval x)) (i:RepV E (.pv (.slice f)) (a.eval y)) (H:∀e∈c,e.length=k.size) (j:∀y∈f,y.length=k.size) (G:0<k.size) (A:f≠[]) (I:c.length+f.length<=maxLen)
  (M:(c.length+f.length)*k.bytes<=140737488355328) {cd:Prop}:Sound P C E σ a w o ⟨cd,True,.pv (.slice (c++f)),none,false⟩:=by
 obtain⟨N,m,n,s,O⟩:=g.info;have pl:∀(l:List (List PV)),(∀e∈l,e.length=k.size)->∀e∈kA l,e.length=k.size:=by
  intro l W e J;obtain⟨g,g,rfl⟩:=List.mem_map.1 J
  grind[iA]
 have Q:∀l:List (List PV),(kA l).length=l.length:=by simp[kA]
 --p K g
 rcases gQ (y:=.pv (.slice f)) (ys:=kA f) rfl i with ⟨g,_⟩|⟨X,v,Y,B,z⟩
 ·grind
 obtain⟨g,D,r,i⟩:=fQ h z (pl f j) (by grind) G;rw[Q]at D B;have r:=RepVE.toPv (cK f) r;have z:0<f.length:=List.length_pos_iff.2 A;have F:c.length+f.length<=9223372036854775807:=by simp only[maxLen]at I;omega
 --p K j
 have R:∃K p,a.eval x=.slice K c.length c.length/\p.length=c.length*k.size/\RepE E.H c p/\(c=[]\/∃b off,K=some ⟨b,off,none⟩/\∀j u,p[j]? =some u->w.cell? ((⟨b,off,none⟩:Addr).add j)=some u):=by
  simp only[RepV]at U;obtain⟨K,S,_,A⟩:=U;rcases A with rfl|⟨b,off,rfl,A⟩
  ·exact⟨K,[],S,by simp,by simp[RepE],.inl rfl⟩
  by_cases J:c=[]
  ·subst J;exact⟨_,[],S,by simp,by simp only[RepE],.inl rfl⟩
  obtain⟨p,Z,h2,h3⟩:=fQ h (es:=kA c) (RepVE.of A) (pl c H) (by simpa[kA]using J) G;rw[Q]at Z;exact⟨_,p,S,Z,RepVE.toPv (cK c) h2,.inr ⟨b,off,rfl,h3⟩⟩
 obtain⟨K,p,G,Q,Z,hxc⟩:=R;have S:RepE E.H (c++f) (p++g):=by
  have:∀(l:List (List PV))(R:List Value),(∀e∈l,e.length=k.size)->R.length=l.length*k.size->RepE E.H l R->RepE E.H (l++f) (R++g):=by
   intro l
   induction l with
   |nil=>
    intro R _ hu _;have:R=[]:=List.eq_nil_of_length_eq_zero (by simpa using hu);subst this;simpa using r
   |cons e l ih=>
    intro R W hu r;simp only[RepE,List.cons_append]at r⊢;have J:=W e (by simp);have hu':R.length=k.size+l.length*k.size:=by rw[hu];simp only[List.length_cons,Nat.succ_mul];omega
    refine⟨RepL.mono (Hle.refl _) e _ _ (List.prefix_append _ _) r.1,?_⟩;rw[List.drop_append_of_le_length (by omega)];exact ih _ (λx U=>W x (by simp[U])) (by rw[List.length_drop];omega) r.2
  exact this c p H Q Z
 --l new row
 have R:∀(l:Nat),l<c.length+f.length->(Builtin.append_ #[t,t] o.type #[a.eval x,a.eval y]).run P w=.ok (.slice (some ⟨w.heap.size,0,none⟩) (c.length+f.length) (grownCap w (c.length+f.length) l e)) (w.drew.alloc (.cells (p.toArray++g.toArray++Builtin.zeroCells k.zero.cells (grownCap w (c.length+f.length) l e-(c.length+f.length))) e))->Sound P C E σ a w o ⟨cd,True,.pv (.slice (c++f)),none,false⟩:=by
  intro l r A;obtain⟨W,U⟩:=h.drew.newRow (dst:=o.dst) hd e (p.toArray++g.toArray++Builtin.zeroCells k.zero.cells (grownCap w (c.length+f.length) l e-(c.length+f.length))) (x:=.pv (.slice (c++f))) (v:=.slice (some ⟨w.heap.size,0,none⟩) (c.length+f.length) (grownCap w (c.length+f.length) l e)) (by
   intro Z hH H;simp only[RepV,RepP];refine⟨_,_,by rw[List.length_append],by rw[List.length_append];exact grownCap_ge w (c.length+f.length) l e,by rw[List.length_append];exact I,.inr ⟨w.heap.size,0,rfl,?_⟩⟩;have r:Z w.heap.size=(p.toArray++g.toArray++Builtin.zeroCells k.zero.cells (grownCap w (c.length+f.length) l e-(c.length+f.length))).toList.map sn:=H;rw[r];refine RepE.mono hH (c++f) ((p++g).map sn) _ ?_ S.sn;simp) (by simp[V.names])
  exact⟨_,_,W,lQ ho A,U,trivial⟩
 by_cases J:c=[]
 ·subst J;have l:p=[]:=List.eq_nil_of_length_eq_zero (by simpa using Q);subst l;simp only[List.length_nil,Nat.zero_add]at G R F M
  cases K with
  |none=>
   have A:=run_append_nil (P:=P) w t o.type e N k.zero L m O ⟨X,v,none⟩ f.length Y g (by rw[n];exact D) i z (by omega) (by rw[s];omega);refine R 0 z ?_;rw[G,B,A];simp
  |some K=>
   have A:=run_append_grow (P:=P) w t o.type e N k.zero L m O K 0 0 [] (by simp) (by intro j u j;simp at j) ⟨X,v,none⟩ f.length Y g (by rw[n];exact D) i (by omega) (by omega) (growslice_fits (by omega) (by rw[s];simpa using M));refine R 0 z ?_;rw[G,B,A];simp
 rcases hxc with l|⟨b,off,rfl,j⟩
 ·exact absurd l J
 have A:=run_append_grow (P:=P) w t o.type e N k.zero L m O ⟨b,off,none⟩ c.length c.length p (by rw[n];exact Q) j ⟨X,v,none⟩ f.length Y g (by rw[n];exact D) i (by omega) (by omega) (growslice_fits (by omega) (by rw[s];exact M));refine R c.length (by omega) ?_;rw[G,B,A]
theorem En(h:Ga C E σ a w)(hg:GOK gl C.E0.H)(O:∀d,o.dst=some d->d<C.nt)(hT:EB P T){args:Array Operand}{argTypes:Array Nat}(Q:o.op=.call {callee:=.builtin .append,args,argTypes}){r:R}(hc:r.cond)
  (b:gA T note (σ.val gl) (zA σ.objs) o.dst (.call {callee:=.builtin .append,args,argTypes})=some r) (hn:∀n x,r.wr=some (n,x)->r.new=true->n∉σ.used):Sound P C E σ a w o r:=by
 simp only[gA]at b;split at b
 ·rename_i t t' x y et ex;have hat:argTypes= #[t,t']:=by rw[<-Array.toArray_toList (xs:=argTypes),et]
  have hax:args= #[x,y]:=by rw[<-Array.toArray_toList (xs:=args),ex]
  subst hat hax;split at b
  ·rename_i htt;subst htt;have N:=QA h hg x;have D:=QA h hg y;have nx:=eC (gl:=gl) h x;split at b
   ·rename_i e s1 s2 s3 s4 et;obtain⟨d,l,hk⟩:=(hT t _ et).desc;simp only[JC]at hk;subst hk;split at b
    ·rename_i te ee;have p:=hT e te ee;unfold kI at b;split at b
     ·rename_i n ver len s;rw[s]at N nx;split at b
      ·rename_i ver' H I g ys eo S;cases b;obtain⟨rfl,hle,u,z,i,A,j,f,k⟩:=hc;exact Ic h O p l Q eo N nx S D (eC (gl:=gl) h y) hle u z i A j f k
      cases b
     ·rename_i n ver es0 s;rw[s]at N;split at b
      ·rename_i ver' H I g eo;split at b
       ·rename_i ys U;rw[U]at D;cases b;obtain⟨⟨rfl,u,z,i⟩,A,j,f,k⟩:=hc;exact Jc h O p l Q eo N D u z i A j f k
       cases b
      cases b
     ·rename_i g s;rw[s]at N;split at b
      ·rename_i ys U;rw[U]at D;cases b;obtain⟨F,W,i,hne,f,k⟩:=hc;exact Dn h O p l Q N D F W i hne f k
      cases b
     ·rename_i s;rw[s]at N;have J:a.eval x=.slice none 0 0:=by simpa[RepV,RepP]using N
      split at b
      ·rename_i g U;cases b;obtain⟨F,i,k⟩:=hc;rw[U]at D;obtain⟨hii,X,hisz,hiby,hiz⟩:=p.info;by_cases Y:g=[]
       ·subst Y;have K:∃G c,a.eval y=.slice G 0 c:=by
         simp only[RepV,RepP]at D;obtain⟨G,c,hv,_⟩:=D;exact⟨G,c,hv⟩
        obtain⟨G,c,hv⟩:=K;have hr:=Fc (P:=P) (w:=w) (ty:=o.type) (ad:=none) (ad':=G) (c:=c) (len:=0) (cap:=0) p l (Nat.le_refl _);refine Sound.pure h (v:=.slice none 0 0) (lQ Q ?_) ?_ (by simp[V.names]) O trivial
        ·rw[J,hv];exact hr
        simp[RepV,RepP,maxLen]
       have hsrc:=gQ (y:=.pv (.slice g)) (ys:=kA g) rfl D;have hpe:kA g≠[]:=by simpa[kA]using Y
       have Z:∀e∈kA g,e.length=te.size:=by
        intro e he;obtain⟨e',he',rfl⟩:=List.mem_map.1 he;simpa[iA]using F e' he'
       rcases hsrc with ⟨e0,_⟩|⟨b',off',c',K,hsr⟩
       ·exact absurd e0 hpe
       obtain⟨B,hnl,hnr,L⟩:=fQ h hsr Z hpe i;have hpl:(kA g).length=g.length:=by simp[kA]
       rw[hpl]at hnl K;have hnr:=RepVE.toPv (cK g) hnr;have hpos:0<g.length:=List.length_pos_iff.2 Y;have hlm:g.length<=maxLen:=by
        simp only[RepV,RepP]at D;obtain⟨_,_,_,_,hm,_⟩:=D;exact hm
       have hr:=run_append_nil (P:=P) w t o.type e hii te.zero l X hiz ⟨b',off',none⟩ g.length c' B (by rw[hisz];exact hnl) L hpos (by simp only[maxLen]at hlm;omega) (by rw[hiby];omega);obtain⟨E',hE'⟩:=h.drew.newRow (dst:=o.dst) O e (B.toArray++Builtin.zeroCells te.zero.cells (grownCap w g.length 0 e-g.length)) (x:=.pv (.slice g)) (v:=.slice (some ⟨w.heap.size,0,none⟩) g.length (grownCap w g.length 0 e)) (by
        intro H' hH hnew;simp only[RepV,RepP];refine⟨_,_,rfl,grownCap_ge w g.length 0 e,hlm,.inr ⟨w.heap.size,0,rfl,?_⟩⟩;have hnew':H' w.heap.size=(B.toArray++Builtin.zeroCells te.zero.cells (grownCap w g.length 0 e-g.length)).toList.map sn:=hnew;rw[hnew'];refine RepE.mono hH g (B.map sn) _ ?_ hnr.sn;simp) (by simp[V.names])
       exact⟨_,_,E',lQ Q (by rw[J,K];exact hr),hE',trivial⟩
      ·rename_i n H I;split at b
       ·rename_i ys S;cases b;obtain⟨u,z,i,A,j,f,k⟩:=hc;obtain⟨E₁,h₁,hx₁⟩:=An h (n:=n) (sz:=H) (ty:=I) (hn _ _ rfl rfl);have M:RepV E₁ ((σ.val gl) y) (a.eval y):=by
         have:=QA (σ:=⟨σ.slots,tB σ.objs n (.arr 0 H I []),n::σ.used⟩) h₁ hg y;exact this
        obtain⟨v,w',E',h1,h2,h3⟩:=Ic (cd:=True) h₁ O p l Q (n:=n) (ver:=0) (len:=0) (sz:=H) (ty:=I) (es:=[]) (ys:=ys) (by simp[gD]) (J▸hx₁) (by simp[V.names]) S M
         (λm hm=>by simp[eC (gl:=gl) h y m hm]) (Nat.le_refl _) u z i A j (by omega) (by simpa using k)
        refine⟨v,w',E',h1,?_,trivial⟩;simp only[St.app,Hc,List.take_nil,List.nil_append,Nat.zero_add]at h2;exact h2
       cases b
      ·rename_i ys n H I U;cases b;obtain⟨⟨u,z,i,_⟩,A,j,f,k⟩:=hc;obtain⟨E₁,h₁,hx₁⟩:=Bn h (n:=n) (sz:=H) (ty:=I) (hn _ _ rfl rfl);have M:RepV E₁ ((σ.val gl) y) (a.eval y):=by
        have:=QA (σ:=⟨σ.slots,tB σ.objs n (.grow 0 H I []),n::σ.used⟩) h₁ hg y;exact this
       rw[U]at M;obtain⟨v,w',E',h1,h2,h3⟩:=Jc (cd:=True) h₁ O p l Q (n:=n) (ver:=0) (sz:=H) (ty:=I) (es0:=[]) (es:=[]) (ys:=ys) (by simp[gD]) (J▸hx₁) M u z i A j (by simpa using f) (by simpa using k);refine⟨v,w',E',h1,?_,trivial⟩;simp only[St.app,Hc,List.nil_append,Nat.zero_add]at h2;exact h2
      cases b
     cases b
    cases b
   cases b
  cases b
 cases b
theorem Gn(h:Ga C E σ a w)(g:GOK gl C.E0.H)(i:∀d,o.dst=some d->d<C.nt){args:Array Operand}{argTypes:Array Nat}(j:o.op=.call {callee:=.builtin .max,args,argTypes}){r:R}
  (b:gA T note (σ.val gl) (zA σ.objs) o.dst (.call {callee:=.builtin .max,args,argTypes})=some r):Sound P C E σ a w o r:=by
 simp only[gA]at b;split at b
 ·rename_i x y k;have f:args= #[x,y]:=by rw[<-Array.toArray_toList (xs:=args),k]
  subst f;have c:=QA h g x;have e:=QA h g y;split at b
  ·rename_i m n l p;cases b;rw[l]at c;rw[p]at e;have c:=ZF c;have e:=ZF e;refine Sound.pure h (v:=.int .i64 (if n>m then n else m)) (.inl ?_) ?_ (by simp[V.names]) i trivial
   ·simp[execOp,j,resolve,invoke,builtin,Builtin.max_,Builtin.max2,c,e]
   rfl
  cases b
 cases b
end
end Go.Lg
